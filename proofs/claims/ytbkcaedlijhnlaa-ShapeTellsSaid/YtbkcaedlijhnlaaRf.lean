/- The document's numbers: they answer as the program's do. -/
import Derived.Test.YtbkcaedlijhnlaaShP
namespace Go.Proofs.Ytbkcaedlijhnlaa.LB
open Go Go.RowKit
theorem ne_of_true {e : Int} (h : (e != 0) = true) : e ≠ 0 := by simpa using h
theorem mx_l {e f : Int} (he : 0 ≤ e) (hf : 0 ≤ f) (h : (e != 0) = true) : (mx e f != 0) = true := by
  have h := ne_of_true h
  have := mx_ge (a := e) (b := f)
  have : mx e f ≠ 0 := by omega
  simpa using this
theorem mx_r {e f : Int} (he : 0 ≤ e) (hf : 0 ≤ f) (h : (f != 0) = true) : (mx e f != 0) = true := by
  have h := ne_of_true h
  have := mx_ge (a := e) (b := f)
  have : mx e f ≠ 0 := by omega
  simpa using this
theorem mx_n {e f : Int} (h : (e != 0) = false) (h' : (f != 0) = false) : (mx e f != 0) = false := by
  rw [eq_of_ne h, eq_of_ne h']; rfl
theorem ref01_out (x : Int) : LPure Try.prog 180 [i64 x] (two (outV x) (outE x)) := by
  refine LCall.of hT Try.func180 rfl (by kernel_rfl) (by show 1 ≤ 10; decide) (fun η w => ?_)
  refine exec_ok hT true 200 ?_
  conv => arg 4; whnf
  refine holds_call rfl rfl rfl ((ref01_one x).any (free1 (free_i64 _)) (free_bo _) _) rfl (by show 6 < 10; decide) ?_
  rintro _ _ ⟨rfl, rfl⟩
  refine exec_ok hT true 200 ?_
  conv => arg 4; whnf
  cases h : inR x
  · refine holds_bool 8 rfl (r := true) (rfl) ?_
    refine exec_ok hT true 200 ?_
    conv => arg 4; whnf
    exact holds_ret (ret_pure (.inl rfl) rfl (fun _ => by simp only [outV, outE, h] <;> rfl) (free_two _ _) rfl (nosc))
  · refine holds_bool 8 rfl (r := false) (rfl) ?_
    refine exec_ok hT true 200 ?_
    conv => arg 4; whnf
    exact holds_ret (ret_pure (.inl rfl) rfl (fun _ => by simp only [outV, outE, h] <;> rfl) (free_two _ _) rfl (nosc))
theorem ref01_Add (xs : List Int) (hn : xs.length ≤ 140737488351232) : LCall Try.prog 129 [sl xs.length 1] [some (Eblk ints 22 xs)] (fun v H' => v = two (addV xs) (addE xs) ∧ H' = [some (Eblk ints 22 xs)]) := by
  refine LCall.of hT Try.func129 rfl (by kernel_rfl) (by show 1 ≤ 32; decide) (fun η w => ?_)
  refine exec_ok hT false 200 ?_
  conv => arg 4; whnf
  refine holds_call rfl rfl rfl (ref01_Right xs hn) rfl (by show 8 < 32; decide) ?_
  rintro _ _ ⟨rfl, rfl⟩
  refine exec_ok hT false 200 ?_
  conv => arg 4; whnf
  cases hb : xs.all inR
  · have hok : addOk xs = false := by simp [addOk, hb]
    refine holds_bool 11 rfl (r := true) (rfl) ?_
    refine exec_ok hT false 200 ?_
    conv => arg 4; whnf
    exact holds_ret (ret_pure (.inl rfl) rfl (fun _ => by simp only [addV, addE, hok] <;> rfl) (free_two _ _) rfl (sc1 _ _ _))
  · refine holds_bool 11 rfl (r := false) (rfl) ?_
    refine exec_ok hT false 200 ?_
    conv => arg 4; whnf
    by_cases hl : xs.length ≤ 1024
    · have hok : addOk xs = true := by simp [addOk, hb, hl]
      refine holds_bool 15 rfl (r := false) (decide_eq_false (by show ¬ (xs.length : Int) > 1024; omega)) ?_
      refine exec_ok hT false 200 ?_
      conv => arg 4; whnf
      refine holds_count xs.length (fun i => [(6, i64 (i : Int)), (5, i64 (sumW (xs.take i))), (0, sl xs.length 1)]) (fun _ => [some (Eblk ints 22 xs)]) (fun _ => True)
        trivial ⟨⟨_, rfl, same_cell (fun _ => rfl) rfl⟩, ⟨_, rfl, same_cell (fun _ => rfl) rfl⟩, ⟨_, rfl, LV.same_refl _⟩, trivial⟩ rfl ?_ ?_
      · intro i hi _ next
        refine exec_ok hT false 50 ?_
        conv => arg 4; whnf
        refine holds_bool 19 rfl (r := true) (decide_eq_true (by show (i : Int) < (xs.length : Int); omega)) ?_
        refine exec_ok hT false 50 ?_
        conv => arg 4; whnf
        refine holds_index hT rfl rfl rfl rfl rfl rfl rfl rfl (q := i) rfl hi rfl (by show 25 < 32; decide) ?_
        refine holds_load hT rfl rfl rfl rfl rfl rfl (v := .c (ci xs[i])) ?_ ?_ rfl (by show 26 < 32; decide) ?_
        · show 0 + i * 1 + 1 ≤ (ints.all xs).length
          rw [ints.all_len]; omega
        · show asVar _ (((ints.all xs).drop (0 + i * 1)).take 1) = _
          rw [Nat.zero_add, ints.get (List.getElem?_eq_getElem hi)]; rfl
        refine exec_ok hT false 50 ?_
        conv => arg 4; whnf
        refine holds_le ?_ (next trivial)
        refine ⟨⟨_, rfl, same_cell (fun _ => ?_) rfl⟩, ⟨_, rfl, same_cell (fun _ => ?_) rfl⟩, ⟨_, rfl, LV.same_refl _⟩, trivial⟩
        · show Value.int .i64 _ = Value.int .i64 (IntKind.i64.wrap ((i : Int) + 1))
          rw [wrap_succ hi hn]; rfl
        · show Value.int .i64 (sumW (xs.take (i + 1))) = Value.int .i64 _
          rw [sumW_take hi]; rfl
      · intro _
        refine exec_ok hT false 50 ?_
        conv => arg 4; whnf
        refine holds_bool 19 rfl (r := false) (decide_eq_false (by show ¬ (xs.length : Int) < (xs.length : Int); omega)) ?_
        refine exec_ok hT false 50 ?_
        conv => arg 4; whnf
        refine holds_call rfl rfl rfl ((ref01_out _).any (free1 (free_i64 _)) (free_two _ _) _) rfl (by show 29 < 32; decide) ?_
        rintro _ _ ⟨rfl, rfl⟩
        refine exec_ok hT false 50 ?_
        conv => arg 4; whnf
        exact holds_ret (ret_pure (.inl rfl) rfl (fun _ => by simp only [addV, addE, hok, List.take_length] <;> rfl) (free_two _ _) rfl (sc1 _ _ _))
    · have hok : addOk xs = false := by simp [addOk]; intro _; omega
      refine holds_bool 15 rfl (r := true) (decide_eq_true (by show (xs.length : Int) > 1024; omega)) ?_
      refine exec_ok hT false 50 ?_
      conv => arg 4; whnf
      exact holds_ret (ret_pure (.inl rfl) rfl (fun _ => by simp only [addV, addE, hok] <;> rfl) (free_two _ _) rfl (sc1 _ _ _))
theorem ro_refAdd {H : LH} {i : Nat} {off len : NE} {cap : Option Nat} {b : LBlk} (xs : List Int) (hn : xs.length ≤ 140737488351232) (hb : H[i]? = some (some b)) (hl : len.v = xs.length) (hr : off.v + xs.length * 1 ≤ b.cells.length)
    (hc : ∀ η, ((b.cells.drop off.v).take (xs.length * 1)).map (LC.den η) = (ints.all xs).map (LC.den η)) (hcap : (cap.all fun c => decide (xs.length ≤ c)) = true) : LRo Try.prog 129 [.a (.c (.slice i off len 1 cap))] (two (addV xs) (addE xs)) [i] H :=
  ro_of (by decide) ints 22 true xs rfl (ref01_Add xs hn) (free_two _ _) hb hl hr hc hcap
def magV (a : Int) : Int := if a < 0 then IntKind.i64.wrap (0 - a) else a
abbrev magR (a : Int) : LV := .tup [.c (ci (magV a)), .c (.bool (.var (decide (a < 0))))]
theorem free_mag (a : Int) : (magR a).free := fun x hx => by simp at hx; rcases hx with rfl | rfl <;> exact in_none rfl
theorem ref01_magnitude (a : Int) : LPure Try.prog 220 [i64 a] (magR a) := by
  refine LCall.of hT Try.func220 rfl (by kernel_rfl) (by show 1 ≤ 9; decide) (fun η w => ?_)
  refine exec_ok hT true 200 ?_
  conv => arg 4; whnf
  by_cases h : a < 0
  · refine holds_bool 5 rfl (r := true) (decide_eq_true h) ?_
    refine exec_ok hT true 200 ?_
    conv => arg 4; whnf
    exact holds_ret (ret_pure (.inl rfl) rfl (fun _ => by show Value.tuple #[.int .i64 (magV a), .bool (decide (a < 0))] = _; rw [magV, if_pos h, decide_eq_true h]; rfl) (free_mag _) rfl (nosc))
  · refine holds_bool 5 rfl (r := false) (decide_eq_false h) ?_
    refine exec_ok hT true 200 ?_
    conv => arg 4; whnf
    exact holds_ret (ret_pure (.inl rfl) rfl (fun _ => by show Value.tuple #[.int .i64 (magV a), .bool (decide (a < 0))] = _; rw [magV, if_neg h, decide_eq_false h]; rfl) (free_mag _) rfl (nosc))
def flQ (q : Int) (rest below : Bool) : Int := if below then (if rest then IntKind.i64.wrap (IntKind.i64.wrap (0 - q) - 1) else IntKind.i64.wrap (0 - q)) else q
theorem free_qrb (q : Int) (r b : Bool) : ∀ x ∈ [i64 q, bo r, bo b], x.free := fun x hx => by
  simp at hx; rcases hx with rfl | rfl | rfl
  · exact free_i64 q
  · exact free_bo r
  · exact free_bo b
theorem ref01_floored (q : Int) (rest below : Bool) : LPure Try.prog 221 [i64 q, bo rest, bo below] (two (outV (flQ q rest below)) (outE (flQ q rest below))) := by
  refine LCall.of hT Try.func221 rfl (by kernel_rfl) (by show 3 ≤ 18; decide) (fun η w => ?_)
  refine exec_ok hT true 200 ?_
  conv => arg 4; whnf
  cases below
  · refine holds_bool 8 rfl (r := false) rfl ?_
    refine exec_ok hT true 200 ?_
    conv => arg 4; whnf
    refine holds_call rfl rfl rfl ((ref01_out _).any (free1 (free_i64 _)) (free_two _ _) _) rfl (by show 15 < 18; decide) ?_
    rintro _ _ ⟨rfl, rfl⟩
    refine exec_ok hT true 200 ?_
    conv => arg 4; whnf
    exact holds_ret (ret_pure (.inl rfl) rfl (fun _ => rfl) (free_two _ _) rfl (nosc))
  · refine holds_bool 8 rfl (r := true) rfl ?_
    refine exec_ok hT true 200 ?_
    conv => arg 4; whnf
    cases rest
    · refine holds_bool 11 rfl (r := false) rfl ?_
      refine exec_ok hT true 200 ?_
      conv => arg 4; whnf
      refine holds_call rfl rfl rfl ((ref01_out _).any (free1 (free_i64 _)) (free_two _ _) _) rfl (by show 15 < 18; decide) ?_
      rintro _ _ ⟨rfl, rfl⟩
      refine exec_ok hT true 200 ?_
      conv => arg 4; whnf
      exact holds_ret (ret_pure (.inl rfl) rfl (fun _ => rfl) (free_two _ _) rfl (nosc))
    · refine holds_bool 11 rfl (r := true) rfl ?_
      refine exec_ok hT true 200 ?_
      conv => arg 4; whnf
      refine holds_call rfl rfl rfl ((ref01_out _).any (free1 (free_i64 _)) (free_two _ _) _) rfl (by show 15 < 18; decide) ?_
      rintro _ _ ⟨rfl, rfl⟩
      refine exec_ok hT true 200 ?_
      conv => arg 4; whnf
      exact holds_ret (ret_pure (.inl rfl) rfl (fun _ => rfl) (free_two _ _) rfl (nosc))
def refP (a b : Int) : Int := IntKind.i64.wrap ((magV a).tmod 65536 * magV b)
def refH (a b : Int) : Int := IntKind.i64.wrap (IntKind.i64.wrap (IntKind.i64.wrap ((magV a).tdiv 65536) * magV b) + IntKind.i64.wrap ((refP a b).tdiv 65536))
def refQ (a b : Int) : Int := flQ (refH a b) ((refP a b).tmod 65536 != 0) (!(decide (a < 0) == decide (b < 0)))
theorem mag_nat {a : Int} (h : Rg a) : magV a = (a.natAbs : Int) := by
  unfold Rg at h
  unfold magV
  split
  · rw [w64 (by omega) (by omega)]; omega
  · omega
theorem refQ_eq {a b : Int} (ha : Rg a) (hb : Rg b) : refQ a b = mulQ a b := by
  rw [mulQ_eq ha hb]
  have hx := mag_nat ha
  have hy := mag_nat hb
  have hxl : a.natAbs ≤ 2147483648 := by unfold Rg at ha; omega
  have hyl : b.natAbs ≤ 2147483648 := by unfold Rg at hb; omega
  generalize hX : a.natAbs = x at hx hxl
  generalize hY : b.natAbs = y at hy hyl
  have hp : refP a b = ((x % 65536 * y : Nat) : Int) := by
    unfold refP
    rw [hx, hy, show ((x : Int).tmod 65536) = ((x % 65536 : Nat) : Int) from rfl, ← Int.natCast_mul]
    have : x % 65536 * y ≤ 65536 * 2147483648 := Nat.mul_le_mul (by omega) hyl
    exact w64 (by omega) (by omega)
  have hq : x / 65536 * y ≤ 32768 * 2147483648 := Nat.mul_le_mul (by omega) hyl
  have hp2 : x % 65536 * y ≤ 65536 * 2147483648 := Nat.mul_le_mul (by omega) hyl
  have hh : refH a b = ((x / 65536 * y + x % 65536 * y / 65536 : Nat) : Int) := by
    unfold refH
    rw [hp, hx, hy, show ((x : Int).tdiv 65536) = ((x / 65536 : Nat) : Int) from rfl, w64 (x := ((x / 65536 : Nat) : Int)) (by omega) (by omega), ← Int.natCast_mul, w64 (x := ((x / 65536 * y : Nat) : Int)) (by omega) (by omega),
      show (((x % 65536 * y : Nat) : Int).tdiv 65536) = ((x % 65536 * y / 65536 : Nat) : Int) from rfl, w64 (x := ((x % 65536 * y / 65536 : Nat) : Int)) (by omega) (by omega), ← Int.natCast_add]
    exact w64 (by omega) (by omega)
  have hxy : x * y = 65536 * (x / 65536 * y) + x % 65536 * y := by
    rw [← Nat.mul_assoc, ← Nat.add_mul, Nat.div_add_mod]
  have hm : ((refP a b).tmod 65536 != 0) = decide (x % 65536 * y % 65536 ≠ 0) := by
    rw [hp, show (((x % 65536 * y : Nat) : Int).tmod 65536) = ((x % 65536 * y % 65536 : Nat) : Int) from rfl]
    by_cases h0 : x % 65536 * y % 65536 = 0
    · rw [h0]; rfl
    · rw [decide_eq_true h0]; simp; omega
  have hab : (a < 0 ∧ b < 0 ∨ ¬ a < 0 ∧ ¬ b < 0) → a * b = ((x * y : Nat) : Int) := by
    rintro (⟨h1, h2⟩ | ⟨h1, h2⟩)
    · rw [show a = -(x : Int) by omega, show b = -(y : Int) by omega, Int.neg_mul_neg, ← Int.natCast_mul]
    · rw [show a = (x : Int) by omega, show b = (y : Int) by omega, ← Int.natCast_mul]
  have hab' : ¬ (a < 0 ∧ b < 0 ∨ ¬ a < 0 ∧ ¬ b < 0) → a * b = -((x * y : Nat) : Int) := by
    intro h
    rcases Classical.em (a < 0) with h1 | h1
    · rw [show a = -(x : Int) by omega, show b = (y : Int) by omega, Int.neg_mul, ← Int.natCast_mul]
    · rw [show a = (x : Int) by omega, show b = -(y : Int) by omega, Int.mul_neg, ← Int.natCast_mul]
  unfold refQ flQ
  rw [hm, hh]
  generalize x / 65536 * y = HQ at hxy hq
  generalize x % 65536 * y = PP at hxy hp2
  by_cases hs : a < 0 ∧ b < 0 ∨ ¬ a < 0 ∧ ¬ b < 0
  · rw [hab hs, hxy]
    have e : (!(decide (a < 0) == decide (b < 0))) = false := by rcases hs with ⟨h1, h2⟩ | ⟨h1, h2⟩ <;> simp [h1, h2]
    rw [e]
    simp only [Bool.false_eq_true, if_false]
    omega
  · rw [hab' hs, hxy]
    have e : (!(decide (a < 0) == decide (b < 0))) = true := by
      rcases Classical.em (a < 0) with h1 | h1 <;> rcases Classical.em (b < 0) with h2 | h2 <;> simp [h1, h2] <;> exact absurd (by simp [h1, h2]) hs
    rw [e]
    simp only [if_true]
    by_cases h0 : PP % 65536 = 0
    · rw [decide_eq_false (by simp [h0])]
      simp only [Bool.false_eq_true, if_false]
      rw [w64 (by omega) (by omega)]
      omega
    · rw [decide_eq_true h0]
      simp only [if_true]
      rw [w64 (x := 0 - ((HQ + PP / 65536 : Nat) : Int)) (by omega) (by omega), w64 (by omega) (by omega)]
      omega
theorem ref01_Mul (a b : Int) : LPure Try.prog 179 [i64 a, i64 b] (two (mulV a b) (mulE a b)) := by
  refine LCall.of hT Try.func179 rfl (by kernel_rfl) (by show 2 ≤ 54; decide) (fun η w => ?_)
  refine exec_ok hT true 200 ?_
  conv => arg 4; whnf
  refine holds_call rfl rfl rfl ((ro_ref (len := .lit 2) [a, b] (by simp) rfl rfl (by exact Nat.le_refl 2) (fun _ => rfl) rfl).call) rfl (by show 18 < 54; decide) ?_
  rintro _ _ ⟨rfl, rfl⟩
  refine exec_ok hT true 200 ?_
  conv => arg 4; whnf
  cases hb : [a, b].all inR
  · refine holds_bool 20 rfl (r := true) (rfl) ?_
    refine exec_ok hT true 200 ?_
    conv => arg 4; whnf
    have h2 : (inR a && inR b) = false := by simpa using hb
    exact holds_ret (ret_pure (.inl rfl) rfl (fun _ => by simp only [mulV, mulE, h2] <;> rfl) (free_two _ _) rfl (nosc))
  · refine holds_bool 20 rfl (r := false) (rfl) ?_
    refine exec_ok hT true 200 ?_
    conv => arg 4; whnf
    have h2 : (inR a && inR b) = true := by simpa using hb
    refine holds_call rfl rfl rfl ((ref01_magnitude a).any (free1 (free_i64 _)) (free_mag _) _) rfl (by show 23 < 54; decide) ?_
    rintro _ _ ⟨rfl, rfl⟩
    refine exec_ok hT true 200 ?_
    conv => arg 4; whnf
    refine holds_call rfl rfl rfl ((ref01_magnitude b).any (free1 (free_i64 _)) (free_mag _) _) rfl (by show 28 < 54; decide) ?_
    rintro _ _ ⟨rfl, rfl⟩
    refine exec_ok hT true 200 ?_
    conv => arg 4; whnf
    refine holds_call rfl rfl rfl ((ref01_floored (refH a b) ((refP a b).tmod 65536 != 0) (!(decide (a < 0) == decide (b < 0)))).any (free_qrb _ _ _) (free_two _ _) _) rfl (by show 51 < 54; decide) ?_
    rintro _ _ ⟨rfl, rfl⟩
    refine exec_ok hT true 200 ?_
    conv => arg 4; whnf
    have hq : flQ (refH a b) ((refP a b).tmod 65536 != 0) (!(decide (a < 0) == decide (b < 0))) = mulQ a b := refQ_eq (inR_iff.1 (Bool.and_eq_true_iff.1 h2).1) (inR_iff.1 (Bool.and_eq_true_iff.1 h2).2)
    exact holds_ret (ret_pure (.inl rfl) rfl (fun _ => by simp only [mulV, mulE, h2, ← hq] <;> rfl) (free_two _ _) rfl (nosc))
end Go.Proofs.Ytbkcaedlijhnlaa.LB
