/- As the keys: the plain law of KeyOrder: whatever two draws are, what its code computes is true: one comes ahead just if its key is less; what a key is unpacked to has that key. No condition. -/
import Derived.Test.YtbkcaedlijhnlaaGKeyx5
import Derived.Test.YtbkcaedlijhnlaaWfKeyOrder
namespace Go.Proofs.Ytbkcaedlijhnlaa.GKey
open Go.RowKit Go.Proofs.YtbkcaedlijhnlaaW.PrintWords Go.Proofs.YtbkcaedlijhnlaaW.PrintLast Go.Proofs.YtbkcaedlijhnlaaW.PrintMore

def okD (p v pi ma me : Int) : Prop := (0 ≤ p ∧ p < 16) ∧ (0 ≤ v ∧ v < 4) ∧ (0 ≤ pi ∧ pi < 64) ∧ (0 ≤ ma ∧ ma < 256) ∧ (0 ≤ me ∧ me < 256)
instance (p v pi ma me : Int) : Decidable (okD p v pi ma me) := by unfold okD; infer_instance
theorem s4 : shl .i64 1 4 = 16 := by decide
theorem s2 : shl .i64 1 2 = 4 := by decide
theorem s6 : shl .i64 1 6 = 64 := by decide
theorem s8 : shl .i64 1 8 = 256 := by decide
theorem w1 : wrap64 1 = 1 := by unfold wrap64; decide
theorem w2 : wrap64 2 = 2 := by unfold wrap64; decide
theorem w3 : wrap64 3 = 3 := by unfold wrap64; decide
theorem w4 : wrap64 4 = 4 := by unfold wrap64; decide
theorem w5 : wrap64 5 = 5 := by unfold wrap64; decide
theorem w6 : wrap64 6 = 6 := by unfold wrap64; decide
theorem w7 : wrap64 7 = 7 := by unfold wrap64; decide
theorem w8 : wrap64 8 = 8 := by unfold wrap64; decide
theorem right_eq (k : Nat) (p v : Int) (c : Bool) (pi ma me d : Int) : key_Right.f (k + 9) p v c pi ma me d = some (decide (okD p v pi ma me)) := by
  unfold key_Right.f key_fits.f
  simp [key_fits.l0, rd_T164, w1, w2, w3, w4, w5, s4, s2, s6, s8]
  unfold okD
  by_cases h : (0 ≤ p ∧ p < 16) ∧ (0 ≤ v ∧ v < 4) ∧ (0 ≤ pi ∧ pi < 64) ∧ (0 ≤ ma ∧ ma < 256) ∧ (0 ≤ me ∧ me < 256)
  · simp only [h, and_self, decide_true]
    repeat rw [if_neg (by omega)]
  · simp only [h, decide_false]
    repeat' split
    all_goals first | rfl | omega
def lvl (d : Int) : Int := (mn (mx (d / 256) (-8388608)) 8388607) + 8388608
theorem lvl_bd (d : Int) : 0 ≤ lvl d ∧ lvl d < 16777216 := by unfold lvl mn mx; constructor <;> (repeat' split) <;> omega
theorem or_lem (x f : Int) (n : Nat) (hn : n ≤ 24) (h0 : 0 ≤ x) (h1 : x * 2 ^ n < 18446744073709551616) (h2 : 0 ≤ f) (h3 : f < 2 ^ n) : Go.bits .or .u64 (shl .u64 x n) (IntKind.u64.wrap f) = x * 2 ^ n + f := by
  obtain ⟨a, rfl⟩ := Int.eq_ofNat_of_zero_le h0
  obtain ⟨b, rfl⟩ := Int.eq_ofNat_of_zero_le h2
  have hp : (2 : Nat) ^ n ≤ 2 ^ 24 := Nat.pow_le_pow_right (by omega) hn
  have hb : b < 2 ^ n := by exact_mod_cast h3
  have ha0 : ((a * 2 ^ n : Nat) : Int) < 18446744073709551616 := by rw [Int.natCast_mul, Int.natCast_pow]; exact h1
  have ha : a * 2 ^ n < 18446744073709551616 := by omega
  have e1 : shl .u64 (a : Int) (n : Int) = ((a * 2 ^ n : Nat) : Int) := by
    unfold shl
    rw [Int.toNat_natCast, Nat.min_eq_left (show n ≤ IntKind.u64.bits from Nat.le_trans hn (by decide))]
    rw [show (a : Int) * 2 ^ n = ((a * 2 ^ n : Nat) : Int) from by push_cast; rfl]
    generalize a * 2 ^ n = m at *
    rw [IntKind.wrap_u64]
    omega
  have e2 : IntKind.u64.wrap (b : Int) = (b : Int) := by
    rw [IntKind.wrap_u64]
    omega
  rw [e1, e2, u64_or_nat _ _ ha (by omega), nat_join n _ _ (Nat.mul_mod_left _ _) hb]
  push_cast
  rfl
theorem or1 (x f : Int) (h0 : 0 ≤ x) (h1 : x * 2 < 18446744073709551616) (h2 : 0 ≤ f) (h3 : f < 2) : Go.bits .or .u64 (shl .u64 x 1) (IntKind.u64.wrap f) = x * 2 + f := or_lem x f 1 (by omega) h0 h1 h2 h3
theorem or2 (x f : Int) (h0 : 0 ≤ x) (h1 : x * 4 < 18446744073709551616) (h2 : 0 ≤ f) (h3 : f < 4) : Go.bits .or .u64 (shl .u64 x 2) (IntKind.u64.wrap f) = x * 4 + f := or_lem x f 2 (by omega) h0 h1 h2 h3
theorem or4 (x f : Int) (h0 : 0 ≤ x) (h1 : x * 16 < 18446744073709551616) (h2 : 0 ≤ f) (h3 : f < 16) : Go.bits .or .u64 (shl .u64 x 4) (IntKind.u64.wrap f) = x * 16 + f := or_lem x f 4 (by omega) h0 h1 h2 h3
theorem or6 (x f : Int) (h0 : 0 ≤ x) (h1 : x * 64 < 18446744073709551616) (h2 : 0 ≤ f) (h3 : f < 64) : Go.bits .or .u64 (shl .u64 x 6) (IntKind.u64.wrap f) = x * 64 + f := or_lem x f 6 (by omega) h0 h1 h2 h3
theorem or8 (x f : Int) (h0 : 0 ≤ x) (h1 : x * 256 < 18446744073709551616) (h2 : 0 ≤ f) (h3 : f < 256) : Go.bits .or .u64 (shl .u64 x 8) (IntKind.u64.wrap f) = x * 256 + f := or_lem x f 8 (by omega) h0 h1 h2 h3
theorem or24 (x f : Int) (h0 : 0 ≤ x) (h1 : x * 16777216 < 18446744073709551616) (h2 : 0 ≤ f) (h3 : f < 16777216) : Go.bits .or .u64 (shl .u64 x 24) (IntKind.u64.wrap f) = x * 16777216 + f := or_lem x f 24 (by omega) h0 h1 h2 h3
def keyOf (p v : Int) (c : Bool) (pi ma me d : Int) : Int :=
  if c = true then ((((((p * 4 + v) * 2 + 1) * 16777216 + (16777215 - lvl d)) * 64 + pi) * 256 + ma) * 256 + me) else ((((((p * 4 + v) * 2 + 0) * 64 + pi) * 256 + ma) * 256 + me) * 16777216 + lvl d)
theorem wrap_small (x : Int) (h0 : -9223372036854775808 ≤ x) (h1 : x ≤ 9223372036854775807) : wrap64 x = x := by unfold wrap64; omega
theorem Level_eq (d : Int) : key_Level.f d = some (lvl d) := rfl
def flds (p v : Int) (c : Bool) (pi ma me d : Int) : List S164 :=
  if c = true then [⟨p, 4⟩, ⟨v, 2⟩, ⟨1, 1⟩, ⟨16777215 - lvl d, 24⟩, ⟨pi, 6⟩, ⟨ma, 8⟩, ⟨me, 8⟩] else [⟨p, 4⟩, ⟨v, 2⟩, ⟨0, 1⟩, ⟨pi, 6⟩, ⟨ma, 8⟩, ⟨me, 8⟩, ⟨lvl d, 24⟩]
theorem fields_eq (p v : Int) (c : Bool) (pi ma me d : Int) : key_fields.f p v c pi ma me d = some (flds p v c pi ma me d) := by
  have hb := lvl_bd d
  unfold key_fields.f flds
  rw [Level_eq]
  cases c
  · simp
  · simp only [if_true, Option.bind_some]
    rw [wrap_small _ (by omega) (by omega)]
    simp
theorem Pack_no (k : Nat) (p v : Int) (c : Bool) (pi ma me d : Int) (h : ¬ okD p v pi ma me) : key_Pack.f (k + 9) p v c pi ma me d = some (0, 1) := by
  unfold key_Pack.f
  rw [right_eq]
  simp [h]
theorem Pack_yes (k : Nat) (p v : Int) (c : Bool) (pi ma me d : Int) (h : okD p v pi ma me) : key_Pack.f (k + 9) p v c pi ma me d = some (keyOf p v c pi ma me d, 0) := by
  have hb := lvl_bd d
  unfold key_Pack.f
  rw [right_eq, fields_eq]
  simp only [h, decide_true, Option.bind_some, if_true]
  unfold key_pack.f flds keyOf
  unfold okD at h
  cases c
  · simp only [Bool.false_eq_true, if_false]
    simp only [key_pack.l0, rd_T164]
    simp [w1, w2, w3, w4, w5, w6, w7]
    rw [or4 0 p (by omega) (by omega) (by omega) (by omega), or2 _ v (by omega) (by omega) (by omega) (by omega), or1 _ 0 (by omega) (by omega) (by omega) (by omega), or6 _ pi (by omega) (by omega) (by omega) (by omega), or8 _ ma (by omega) (by omega) (by omega) (by omega), or8 _ me (by omega) (by omega) (by omega) (by omega), or24 _ (lvl d) (by omega) (by omega) (by omega) (by omega)]
    omega
  · simp only [if_true]
    simp only [key_pack.l0, rd_T164]
    simp [w1, w2, w3, w4, w5, w6, w7]
    rw [or4 0 p (by omega) (by omega) (by omega) (by omega), or2 _ v (by omega) (by omega) (by omega) (by omega), or1 _ 1 (by omega) (by omega) (by omega) (by omega), or24 _ (16777215 - lvl d) (by omega) (by omega) (by omega) (by omega), or6 _ pi (by omega) (by omega) (by omega) (by omega), or8 _ ma (by omega) (by omega) (by omega) (by omega), or8 _ me (by omega) (by omega) (by omega) (by omega)]
    omega
theorem some_dec {P Q : Prop} [Decidable P] [Decidable Q] (h : P ↔ Q) : some (decide P) = some (decide Q) := by rw [decide_eq_decide.2 h]
theorem some_yes {Q : Prop} [Decidable Q] (h : Q) : some true = some (decide Q) := by rw [decide_eq_true h]
theorem some_no {Q : Prop} [Decidable Q] (h : ¬ Q) : some false = some (decide Q) := by rw [decide_eq_false h]
theorem Less_eq (k : Nat) (p v : Int) (c : Bool) (pi ma me d : Int) (p' v' : Int) (c' : Bool) (pi' ma' me' d' : Int) (h : okD p v pi ma me) (h' : okD p' v' pi' ma' me') :
    key_Less.f (k + 9) p v c pi ma me d p' v' c' pi' ma' me' d' = some (decide (keyOf p v c pi ma me d < keyOf p' v' c' pi' ma' me' d')) := by
  have hb := lvl_bd d
  have hb' := lvl_bd d'
  unfold key_Less.f
  rw [fields_eq, fields_eq]
  unfold okD at h h'
  unfold flds keyOf
  generalize lvl d = x at *
  generalize lvl d' = y at *
  cases c <;> cases c' <;> simp only [Bool.false_eq_true, if_false, if_true, Option.bind_some] <;> simp only [key_Less.l0, rd_T164] <;> simp [w1, w2, w3, w4, w5, w6, w7]
  all_goals (repeat' split)
  all_goals first
    | exact some_dec (by omega)
    | exact some_yes (by omega)
    | exact some_no (by omega)
theorem Unpack_eq (p v : Int) (c : Bool) (pi ma me d : Int) (h : okD p v pi ma me) :
    key_Unpack.f (keyOf p v c pi ma me d) = some (p, v, c, pi, ma, me, (lvl d - 8388608) * 256, 0) := by
  have hb := lvl_bd d
  unfold key_Unpack.f keyOf
  unfold okD at h
  generalize lvl d = x at *
  cases c
  · simp only [Bool.false_eq_true, if_false]
    rw [if_pos (by omega), if_pos (by omega), if_pos (by omega), if_neg (by rw [beq_iff_eq]; omega)]
    simp only [Option.some.injEq, Prod.mk.injEq, true_and, and_true]
    omega
  · simp only [if_true]
    rw [if_pos (by omega), if_pos (by omega), if_pos (by omega), if_pos (by rw [beq_iff_eq]; omega)]
    simp only [Option.some.injEq, Prod.mk.injEq, true_and, and_true]
    omega
theorem lvl_back (d : Int) : lvl ((lvl d - 8388608) * 256) = lvl d := by
  have hb := lvl_bd d
  generalize lvl d = x at *
  unfold lvl mn mx
  repeat' split
  all_goals omega
theorem lvl_le (d : Int) (h : lvl d ≠ 0) : (lvl d - 8388608) * 256 ≤ d := by
  unfold lvl mn mx at *
  repeat' split at h
  all_goals (repeat' split)
  all_goals omega
theorem keyOf_back (p v : Int) (c : Bool) (pi ma me d : Int) : keyOf p v c pi ma me ((lvl d - 8388608) * 256) = keyOf p v c pi ma me d := by
  unfold keyOf
  rw [lvl_back]
theorem key_a : keyOf 1 2 false 3 4 5 (-257) = 847740737159166 := by decide
theorem lvl_a : lvl (-257) = 8388606 := by decide
theorem alive_yes (k : Nat) : gessolaw16_alive.f (k + 9) = some true := by
  unfold gessolaw16_alive.f
  rw [Pack_yes _ _ _ _ _ _ _ _ (by decide)]
  simp only [Option.bind_some]
  rw [Unpack_eq _ _ _ _ _ _ _ (by decide), key_a, lvl_a]
  simp only [Option.bind_some]
  rw [right_eq, Level_eq, Less_eq _ _ _ _ _ _ _ _ _ _ _ _ _ _ _ (by decide) (by decide)]
  decide
theorem KeyOrder_all (p v : Int) (c : Bool) (pi ma me d : Int) (p' v' : Int) (c' : Bool) (pi' ma' me' d' : Int) :
    gessolaw16_KeyOrder.f 40 p v c pi ma me d p' v' c' pi' ma' me' d' = some true := by
  have hj : ∀ x y, gessolaw16_KeyOrder.j0 40 x y true p v c pi ma me d p' v' c' pi' ma' me' d' = some true := by
    intro x y
    simp only [gessolaw16_KeyOrder.j0]
    rw [alive_yes]
    rfl
  unfold gessolaw16_KeyOrder.f
  by_cases h : okD p v pi ma me
  · rw [Pack_yes _ _ _ _ _ _ _ _ h]
    simp only [Option.bind_some]
    by_cases h' : okD p' v' pi' ma' me'
    · rw [Pack_yes _ _ _ _ _ _ _ _ h']
      simp only [Option.bind_some, if_true]
      simp only [gessolaw16_KeyOrder.j0]
      rw [Less_eq _ _ _ _ _ _ _ _ _ _ _ _ _ _ _ h h', Unpack_eq _ _ _ _ _ _ _ h]
      simp only [Option.bind_some]
      rw [Pack_yes _ _ _ _ _ _ _ _ h, keyOf_back, Level_eq, Level_eq, lvl_back]
      simp only [Option.bind_some]
      simp only [gessolaw16_KeyOrder.j1]
      rw [Level_eq, alive_yes]
      have hl := lvl_le d
      simp
      by_cases hz : lvl d = 0
      · simp [hz, show gessolaw16_alive.f 38 = some true from alive_yes 29]
      · simp [hz, hl hz, show gessolaw16_alive.f 38 = some true from alive_yes 29]
    · rw [Pack_no _ _ _ _ _ _ _ _ h']
      simp only [Option.bind_some, if_true]
      exact hj 0 0
  · rw [Pack_no _ _ _ _ _ _ _ _ h]
    simp only [Option.bind_some]
    by_cases h' : okD p' v' pi' ma' me'
    · rw [Pack_yes _ _ _ _ _ _ _ _ h']
      simp only [Option.bind_some]
      exact hj 0 0
    · rw [Pack_no _ _ _ _ _ _ _ _ h']
      simp only [Option.bind_some]
      exact hj 0 0
theorem KeyOrder_yes (x0 x1 : S24) (_ : wf24 x0) (_ : wf24 x1) : ∃ k, gessolaw16_KeyOrder.f k x0.f0 x0.f1 x0.f2 x0.f3 x0.f4 x0.f5 x0.f6 x1.f0 x1.f1 x1.f2 x1.f3 x1.f4 x1.f5 x1.f6 = some true :=
  ⟨40, KeyOrder_all _ _ _ _ _ _ _ _ _ _ _ _ _ _⟩
end Go.Proofs.Ytbkcaedlijhnlaa.GKey
