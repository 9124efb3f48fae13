/- The shapes' functions: boxes and planes. -/
import Derived.Test.YtbkcaedlijhnlaaVc
namespace Go.Proofs.Ytbkcaedlijhnlaa.LB
open Go Go.RowKit
structure B6 where
  lo : V3
  hi : V3
structure Pl where
  n : V3
  d : Int
abbrev B6.cells (b : B6) : List LC := [ci b.lo.x, ci b.lo.y, ci b.lo.z, ci b.hi.x, ci b.hi.y, ci b.hi.z]
abbrev B6.val (b : B6) : LV := .a (.agg b.cells)
abbrev Pl.cells (p : Pl) : List LC := [ci p.n.x, ci p.n.y, ci p.n.z, ci p.d]
abbrev Pl.val (p : Pl) : LV := .a (.agg p.cells)
theorem free_B (b : B6) : b.val.free := free_ints (by simp [LC.refs])
theorem free_P (p : Pl) : p.val.free := free_ints (by simp [LC.refs])
def boxes : Enc B6 6 := ⟨B6.cells, fun _ => rfl, fun x c h => by simp at h; rcases h with rfl | rfl | rfl | rfl | rfl | rfl <;> rfl⟩
def planes : Enc Pl 4 := ⟨Pl.cells, fun _ => rfl, fun x c h => by simp at h; rcases h with rfl | rfl | rfl | rfl <;> rfl⟩
def eqV3 (x y : V3) : Bool := ((x.x == y.x) && ((x.y == y.y) && ((x.z == y.z) && true)))
def boxOk (b : B6) : Bool := [b.lo, b.hi].all inV && eqV3 (leastV b.lo b.hi) b.lo
def planeOk (p : Pl) : Bool := [p.n].all inV && [p.d].all inR
def inB (b : B6) (v : V3) : Bool := eqV3 (leastV b.lo v) b.lo && eqV3 (greatV b.hi v) b.hi
theorem free_bv (b : B6) (v : V3) : ∀ x ∈ [b.val, v.val], x.free := free3 (free_B b) (free_V v)
theorem right1_B (b : B6) : LPure Try.prog 139 [b.val] (bo (!boxOk b)) := by
  refine LCall.of hT Try.func139 rfl (by kernel_rfl) (by show 1 ≤ 21; decide) (fun η w => ?_)
  refine exec_ok hT true 200 ?_
  conv => arg 4; whnf
  cases h : [b.lo, b.hi].all inV
  · refine holds_drawStart 1 ?_
    refine dexec_ok hT 100 ?_
    conv => arg 10; whnf
    refine dholds_call rfl rfl (ro_V (len := .lit 2) [b.lo, b.hi] (by simp) rfl rfl (by exact Nat.le_refl 6) (fun _ => rfl) rfl) rfl ?_
    refine dexec_ok hT 100 ?_
    conv => arg 10; whnf
    refine dholds_move hT true rfl rfl rfl rfl (by rw [h]; rfl) ?_
    refine dexec_ok hT 100 ?_
    conv => arg 10; whnf
    refine dholds_end mixed (by kernel_rfl) ?_
    refine exec_ok hT true 200 ?_
    conv => arg 4; whnf
    exact holds_ret (ret_pure (.inl rfl) rfl (fun _ => by simp [boxOk, h] <;> rfl) (free_bo _) rfl (nosc))
  · refine holds_drawStart 2 ?_
    refine dexec_ok hT 100 ?_
    conv => arg 10; whnf
    refine dholds_call rfl rfl (ro_V (len := .lit 2) [b.lo, b.hi] (by simp) rfl rfl (by exact Nat.le_refl 6) (fun _ => rfl) rfl) rfl ?_
    refine dexec_ok hT 100 ?_
    conv => arg 10; whnf
    refine dholds_move hT false rfl rfl rfl rfl (by rw [h]; rfl) ?_
    refine dexec_ok hT 100 ?_
    conv => arg 10; whnf
    refine dholds_call rfl rfl (ro_Min (len := .lit 2) b.lo b.hi rfl rfl (by exact Nat.le_refl 6) (fun _ => rfl) rfl) rfl ?_
    refine dexec_ok hT 100 ?_
    conv => arg 10; whnf
    refine dholds_end mixed (by kernel_rfl) ?_
    refine exec_ok hT true 200 ?_
    conv => arg 4; whnf
    exact holds_ret (ret_pure (.inl rfl) rfl (fun _ => by simp only [boxOk, h, Bool.true_and] <;> rfl) (free_bo _) rfl (nosc))
theorem right1_P (p : Pl) : LPure Try.prog 141 [p.val] (bo (!planeOk p)) := by
  refine LCall.of hT Try.func141 rfl (by kernel_rfl) (by show 1 ≤ 15; decide) (fun η w => ?_)
  refine exec_ok hT true 200 ?_
  conv => arg 4; whnf
  refine holds_call rfl rfl rfl ((ro_V (len := .lit 1) [p.n] (by simp) rfl rfl (by exact Nat.le_refl 3) (fun _ => rfl) rfl).call) rfl (by show 6 < 15; decide) ?_
  rintro _ _ ⟨rfl, rfl⟩
  refine exec_ok hT true 200 ?_
  conv => arg 4; whnf
  cases h : [p.n].all inV
  · refine holds_bool 8 rfl (r := true) (rfl) ?_
    refine exec_ok hT true 200 ?_
    conv => arg 4; whnf
    exact holds_ret (ret_pure (.inl rfl) rfl (fun _ => by simp only [planeOk, h, Bool.false_and] <;> rfl) (free_bo _) rfl (nosc))
  · refine holds_bool 8 rfl (r := false) (rfl) ?_
    refine exec_ok hT true 200 ?_
    conv => arg 4; whnf
    refine holds_call rfl rfl rfl ((ro_F (len := .lit 1) [p.d] (by simp) rfl rfl (by exact Nat.le_refl 1) (fun _ => rfl) rfl).call) rfl (by show 12 < 15; decide) ?_
    rintro _ _ ⟨rfl, rfl⟩
    refine exec_ok hT true 200 ?_
    conv => arg 4; whnf
    exact holds_ret (ret_pure (.inl rfl) rfl (fun _ => by simp only [planeOk, h, Bool.true_and] <;> rfl) (free_bo _) rfl (nosc))

theorem idx_B {f : FuncId} {q : B6 → Bool} (hq : ∀ x : B6, LPure Try.prog f [(.a (.agg (B6.cells x)))] (bo (q x))) (xs : List B6) (hn : xs.length ≤ 140737488351232) :
    LCall Try.prog 188 [sl xs.length 6, fnv f] [some (Eblk boxes 58 xs)] (fun v H' => v = i64 (idx q 0 xs) ∧ H' = [some (Eblk boxes 58 xs)]) := by
  refine LCall.of hT Try.func188 rfl (by kernel_rfl) (by show 2 ≤ 19; decide) (fun η w => ?_)
  refine exec_ok hT false 50 ?_
  conv => arg 4; whnf
  refine holds_count xs.length (fun i => [(8, i64 (i : Int)), (7, i64 (xs.length : Int)), (1, fnv f), (0, sl xs.length 6)]) (fun _ => [some (Eblk boxes 58 xs)]) (fun i => idx q i (xs.drop i) = idx q 0 xs)
    rfl ⟨⟨_, rfl, same_cell (fun _ => rfl) rfl⟩, ⟨_, rfl, same_cell (fun _ => rfl) rfl⟩, ⟨_, rfl, LV.same_refl _⟩, ⟨_, rfl, LV.same_refl _⟩, trivial⟩ rfl ?_ ?_
  · intro i hi hI next
    have hx : xs[i]? = some xs[i] := List.getElem?_eq_getElem hi
    rw [List.drop_eq_getElem_cons hi, idx] at hI
    refine exec_ok hT false 50 ?_
    conv => arg 4; whnf
    refine holds_bool 9 rfl (r := true) (decide_eq_true (by show (i : Int) < (xs.length : Int); omega)) ?_
    refine exec_ok hT false 50 ?_
    conv => arg 4; whnf
    refine holds_index hT rfl rfl rfl rfl rfl rfl rfl rfl (q := i) rfl hi rfl (by show 14 < 19; decide) ?_
    refine holds_load hT rfl rfl rfl rfl rfl rfl (v := (.agg (B6.cells xs[i]))) ?_ ?_ rfl (by show 15 < 19; decide) ?_
    · show 0 + i * 6 + 6 ≤ (boxes.all xs).length
      rw [boxes.all_len]
      have := Nat.mul_le_mul_right 6 (show i + 1 ≤ xs.length from hi)
      omega
    · show asVar _ (((boxes.all xs).drop (0 + i * 6)).take 6) = _
      rw [Nat.zero_add, boxes.get hx]; rfl
    refine holds_call rfl rfl rfl ((hq xs[i]).any (fun y hy => by simp at hy; subst hy; exact free_B _) (free_bo _) _) rfl (by show 16 < 19; decide) ?_
    rintro _ _ ⟨rfl, rfl⟩
    refine exec_ok hT false 50 ?_
    conv => arg 4; whnf
    cases hqx : q xs[i]
    · refine holds_bool 16 rfl (r := false) rfl ?_
      refine exec_ok hT false 50 ?_
      conv => arg 4; whnf
      rw [hqx] at hI
      refine holds_le ?_ (next hI)
      refine ⟨⟨_, rfl, same_cell (fun _ => ?_) rfl⟩, ⟨_, rfl, LV.same_refl _⟩, ⟨_, rfl, LV.same_refl _⟩, ⟨_, rfl, LV.same_refl _⟩, trivial⟩
      show Value.int .i64 _ = Value.int .i64 (IntKind.i64.wrap ((i : Int) + 1))
      rw [wrap_succ hi hn]; rfl
    · refine holds_bool 16 rfl (r := true) rfl ?_
      refine exec_ok hT false 50 ?_
      conv => arg 4; whnf
      rw [hqx] at hI
      refine holds_ret (ret_pure (.inl rfl) rfl (fun _ => ?_) (free_i64 _) rfl (sc1 _ _ _))
      rw [← hI]; rfl
  · intro hI
    refine exec_ok hT false 50 ?_
    conv => arg 4; whnf
    refine holds_bool 9 rfl (r := false) (decide_eq_false (by show ¬ (xs.length : Int) < (xs.length : Int); omega)) ?_
    refine exec_ok hT false 50 ?_
    conv => arg 4; whnf
    refine holds_ret (ret_pure (.inl rfl) rfl (fun _ => ?_) (free_i64 _) rfl (sc1 _ _ _))
    rw [← hI, List.drop_length]; rfl
theorem idx0_B (f : FuncId) (A : Option Addr) (c : Nat) : LPure Try.prog 188 [emp A c, fnv f] (i64 (-1)) := by
  refine LCall.of hT Try.func188 rfl (by kernel_rfl) (by show 2 ≤ 19; decide) (fun η w => ?_)
  refine exec_ok hT true 50 ?_
  conv => arg 4; whnf
  exact holds_ret (ret_pure (.inl rfl) rfl (fun _ => rfl) (free_i64 _) rfl nosc)
theorem con_B {f : FuncId} {q : B6 → Bool} (hq : ∀ x : B6, LPure Try.prog f [(.a (.agg (B6.cells x)))] (bo (q x))) (xs : List B6) (hn : xs.length ≤ 140737488351232) :
    LCall Try.prog 138 [sl xs.length 6, fnv f] [some (Eblk boxes 58 xs)] (fun v H' => v = bo (xs.any q) ∧ H' = [some (Eblk boxes 58 xs)]) := by
  refine LCall.of hT Try.func138 rfl (by kernel_rfl) (by show 2 ≤ 9; decide) (fun η w => ?_)
  refine exec_ok hT false 50 ?_
  conv => arg 4; whnf
  refine holds_call rfl rfl rfl (idx_B hq xs hn) rfl (by show 7 < 9; decide) ?_
  rintro _ _ ⟨rfl, rfl⟩
  refine exec_ok hT false 50 ?_
  conv => arg 4; whnf
  refine holds_ret (ret_pure (.inl rfl) rfl (fun _ => ?_) (free_bo _) rfl (sc1 _ _ _))
  show Value.bool _ = Value.bool (decide (idx q 0 xs ≥ 0))
  rw [idx_ge]; rfl
theorem con0_B (f : FuncId) (A : Option Addr) (c : Nat) : LPure Try.prog 138 [emp A c, fnv f] (bo false) := by
  refine LCall.of hT Try.func138 rfl (by kernel_rfl) (by show 2 ≤ 9; decide) (fun η w => ?_)
  refine exec_ok hT false 50 ?_
  conv => arg 4; whnf
  refine holds_call rfl rfl rfl ((idx0_B f A c).any (fun y hy => by simp at hy; rcases hy with rfl | rfl; exact free_emp _ _; exact free_fnv _) (free_i64 _) _) rfl (by show 7 < 9; decide) ?_
  rintro _ _ ⟨rfl, rfl⟩
  refine exec_ok hT false 50 ?_
  conv => arg 4; whnf
  exact holds_ret (ret_pure (.inl rfl) rfl (fun _ => rfl) (free_bo _) rfl nosc)

/-- B: all of a row. -/
theorem all_B (xs : List B6) (hn : xs.length ≤ 140737488351232) : LCall Try.prog 76 [sl xs.length 6] [some (Eblk boxes 58 xs)] (fun v H' => v = bo (xs.all boxOk) ∧ H' = [some (Eblk boxes 58 xs)]) := by
  refine LCall.of hT Try.func76 rfl (by kernel_rfl) (by show 1 ≤ 6; decide) (fun η w => ?_)
  refine exec_ok hT false 50 ?_
  conv => arg 4; whnf
  refine holds_call rfl rfl rfl (con_B right1_B xs hn) rfl (by show 4 < 6; decide) ?_
  rintro _ _ ⟨rfl, rfl⟩
  refine exec_ok hT false 50 ?_
  conv => arg 4; whnf
  refine holds_ret (ret_pure (.inl rfl) rfl (fun _ => ?_) (free_bo _) rfl (sc1 _ _ _))
  show Value.bool (xs.all boxOk) = Value.bool (!(xs.any fun x => !boxOk x))
  rw [List.not_any_eq_all_not]; simp
theorem all0_B (A : Option Addr) (c : Nat) : LPure Try.prog 76 [emp A c] (bo true) := by
  refine LCall.of hT Try.func76 rfl (by kernel_rfl) (by show 1 ≤ 6; decide) (fun η w => ?_)
  refine exec_ok hT false 50 ?_
  conv => arg 4; whnf
  refine holds_call rfl rfl rfl ((con0_B 139 A c).any (fun y hy => by simp at hy; rcases hy with rfl | rfl; exact free_emp _ _; exact free_fnv _) (free_bo _) _) rfl (by show 4 < 6; decide) ?_
  rintro _ _ ⟨rfl, rfl⟩
  refine exec_ok hT false 50 ?_
  conv => arg 4; whnf
  exact holds_ret (ret_pure (.inl rfl) rfl (fun _ => rfl) (free_bo _) rfl nosc)
/-- B, wherever the row lies. -/
theorem ro_B {H : LH} {i : Nat} {off len : NE} {cap : Option Nat} {b : LBlk} (xs : List B6) (hn : xs.length ≤ 140737488351232) (hb : H[i]? = some (some b)) (hl : len.v = xs.length) (hr : off.v + xs.length * 6 ≤ b.cells.length)
    (hc : ∀ η, ((b.cells.drop off.v).take (xs.length * 6)).map (LC.den η) = (boxes.all xs).map (LC.den η)) (hcap : (cap.all fun c => decide (xs.length ≤ c)) = true) : LRo Try.prog 76 [.a (.c (.slice i off len 6 cap))] (bo (xs.all boxOk)) [i] H :=
  ro_of (by decide) boxes 58 true xs rfl (all_B xs hn) (free_bo _) hb hl hr hc hcap

theorem idx_P {f : FuncId} {q : Pl → Bool} (hq : ∀ x : Pl, LPure Try.prog f [(.a (.agg (Pl.cells x)))] (bo (q x))) (xs : List Pl) (hn : xs.length ≤ 140737488351232) :
    LCall Try.prog 189 [sl xs.length 4, fnv f] [some (Eblk planes 93 xs)] (fun v H' => v = i64 (idx q 0 xs) ∧ H' = [some (Eblk planes 93 xs)]) := by
  refine LCall.of hT Try.func189 rfl (by kernel_rfl) (by show 2 ≤ 19; decide) (fun η w => ?_)
  refine exec_ok hT false 50 ?_
  conv => arg 4; whnf
  refine holds_count xs.length (fun i => [(8, i64 (i : Int)), (7, i64 (xs.length : Int)), (1, fnv f), (0, sl xs.length 4)]) (fun _ => [some (Eblk planes 93 xs)]) (fun i => idx q i (xs.drop i) = idx q 0 xs)
    rfl ⟨⟨_, rfl, same_cell (fun _ => rfl) rfl⟩, ⟨_, rfl, same_cell (fun _ => rfl) rfl⟩, ⟨_, rfl, LV.same_refl _⟩, ⟨_, rfl, LV.same_refl _⟩, trivial⟩ rfl ?_ ?_
  · intro i hi hI next
    have hx : xs[i]? = some xs[i] := List.getElem?_eq_getElem hi
    rw [List.drop_eq_getElem_cons hi, idx] at hI
    refine exec_ok hT false 50 ?_
    conv => arg 4; whnf
    refine holds_bool 9 rfl (r := true) (decide_eq_true (by show (i : Int) < (xs.length : Int); omega)) ?_
    refine exec_ok hT false 50 ?_
    conv => arg 4; whnf
    refine holds_index hT rfl rfl rfl rfl rfl rfl rfl rfl (q := i) rfl hi rfl (by show 14 < 19; decide) ?_
    refine holds_load hT rfl rfl rfl rfl rfl rfl (v := (.agg (Pl.cells xs[i]))) ?_ ?_ rfl (by show 15 < 19; decide) ?_
    · show 0 + i * 4 + 4 ≤ (planes.all xs).length
      rw [planes.all_len]
      have := Nat.mul_le_mul_right 4 (show i + 1 ≤ xs.length from hi)
      omega
    · show asVar _ (((planes.all xs).drop (0 + i * 4)).take 4) = _
      rw [Nat.zero_add, planes.get hx]; rfl
    refine holds_call rfl rfl rfl ((hq xs[i]).any (fun y hy => by simp at hy; subst hy; exact free_P _) (free_bo _) _) rfl (by show 16 < 19; decide) ?_
    rintro _ _ ⟨rfl, rfl⟩
    refine exec_ok hT false 50 ?_
    conv => arg 4; whnf
    cases hqx : q xs[i]
    · refine holds_bool 16 rfl (r := false) rfl ?_
      refine exec_ok hT false 50 ?_
      conv => arg 4; whnf
      rw [hqx] at hI
      refine holds_le ?_ (next hI)
      refine ⟨⟨_, rfl, same_cell (fun _ => ?_) rfl⟩, ⟨_, rfl, LV.same_refl _⟩, ⟨_, rfl, LV.same_refl _⟩, ⟨_, rfl, LV.same_refl _⟩, trivial⟩
      show Value.int .i64 _ = Value.int .i64 (IntKind.i64.wrap ((i : Int) + 1))
      rw [wrap_succ hi hn]; rfl
    · refine holds_bool 16 rfl (r := true) rfl ?_
      refine exec_ok hT false 50 ?_
      conv => arg 4; whnf
      rw [hqx] at hI
      refine holds_ret (ret_pure (.inl rfl) rfl (fun _ => ?_) (free_i64 _) rfl (sc1 _ _ _))
      rw [← hI]; rfl
  · intro hI
    refine exec_ok hT false 50 ?_
    conv => arg 4; whnf
    refine holds_bool 9 rfl (r := false) (decide_eq_false (by show ¬ (xs.length : Int) < (xs.length : Int); omega)) ?_
    refine exec_ok hT false 50 ?_
    conv => arg 4; whnf
    refine holds_ret (ret_pure (.inl rfl) rfl (fun _ => ?_) (free_i64 _) rfl (sc1 _ _ _))
    rw [← hI, List.drop_length]; rfl
theorem idx0_P (f : FuncId) (A : Option Addr) (c : Nat) : LPure Try.prog 189 [emp A c, fnv f] (i64 (-1)) := by
  refine LCall.of hT Try.func189 rfl (by kernel_rfl) (by show 2 ≤ 19; decide) (fun η w => ?_)
  refine exec_ok hT true 50 ?_
  conv => arg 4; whnf
  exact holds_ret (ret_pure (.inl rfl) rfl (fun _ => rfl) (free_i64 _) rfl nosc)
theorem con_P {f : FuncId} {q : Pl → Bool} (hq : ∀ x : Pl, LPure Try.prog f [(.a (.agg (Pl.cells x)))] (bo (q x))) (xs : List Pl) (hn : xs.length ≤ 140737488351232) :
    LCall Try.prog 140 [sl xs.length 4, fnv f] [some (Eblk planes 93 xs)] (fun v H' => v = bo (xs.any q) ∧ H' = [some (Eblk planes 93 xs)]) := by
  refine LCall.of hT Try.func140 rfl (by kernel_rfl) (by show 2 ≤ 9; decide) (fun η w => ?_)
  refine exec_ok hT false 50 ?_
  conv => arg 4; whnf
  refine holds_call rfl rfl rfl (idx_P hq xs hn) rfl (by show 7 < 9; decide) ?_
  rintro _ _ ⟨rfl, rfl⟩
  refine exec_ok hT false 50 ?_
  conv => arg 4; whnf
  refine holds_ret (ret_pure (.inl rfl) rfl (fun _ => ?_) (free_bo _) rfl (sc1 _ _ _))
  show Value.bool _ = Value.bool (decide (idx q 0 xs ≥ 0))
  rw [idx_ge]; rfl
theorem con0_P (f : FuncId) (A : Option Addr) (c : Nat) : LPure Try.prog 140 [emp A c, fnv f] (bo false) := by
  refine LCall.of hT Try.func140 rfl (by kernel_rfl) (by show 2 ≤ 9; decide) (fun η w => ?_)
  refine exec_ok hT false 50 ?_
  conv => arg 4; whnf
  refine holds_call rfl rfl rfl ((idx0_P f A c).any (fun y hy => by simp at hy; rcases hy with rfl | rfl; exact free_emp _ _; exact free_fnv _) (free_i64 _) _) rfl (by show 7 < 9; decide) ?_
  rintro _ _ ⟨rfl, rfl⟩
  refine exec_ok hT false 50 ?_
  conv => arg 4; whnf
  exact holds_ret (ret_pure (.inl rfl) rfl (fun _ => rfl) (free_bo _) rfl nosc)

/-- P: all of a row. -/
theorem all_P (xs : List Pl) (hn : xs.length ≤ 140737488351232) : LCall Try.prog 77 [sl xs.length 4] [some (Eblk planes 93 xs)] (fun v H' => v = bo (xs.all planeOk) ∧ H' = [some (Eblk planes 93 xs)]) := by
  refine LCall.of hT Try.func77 rfl (by kernel_rfl) (by show 1 ≤ 6; decide) (fun η w => ?_)
  refine exec_ok hT false 50 ?_
  conv => arg 4; whnf
  refine holds_call rfl rfl rfl (con_P right1_P xs hn) rfl (by show 4 < 6; decide) ?_
  rintro _ _ ⟨rfl, rfl⟩
  refine exec_ok hT false 50 ?_
  conv => arg 4; whnf
  refine holds_ret (ret_pure (.inl rfl) rfl (fun _ => ?_) (free_bo _) rfl (sc1 _ _ _))
  show Value.bool (xs.all planeOk) = Value.bool (!(xs.any fun x => !planeOk x))
  rw [List.not_any_eq_all_not]; simp
theorem all0_P (A : Option Addr) (c : Nat) : LPure Try.prog 77 [emp A c] (bo true) := by
  refine LCall.of hT Try.func77 rfl (by kernel_rfl) (by show 1 ≤ 6; decide) (fun η w => ?_)
  refine exec_ok hT false 50 ?_
  conv => arg 4; whnf
  refine holds_call rfl rfl rfl ((con0_P 141 A c).any (fun y hy => by simp at hy; rcases hy with rfl | rfl; exact free_emp _ _; exact free_fnv _) (free_bo _) _) rfl (by show 4 < 6; decide) ?_
  rintro _ _ ⟨rfl, rfl⟩
  refine exec_ok hT false 50 ?_
  conv => arg 4; whnf
  exact holds_ret (ret_pure (.inl rfl) rfl (fun _ => rfl) (free_bo _) rfl nosc)
/-- P, wherever the row lies. -/
theorem ro_P {H : LH} {i : Nat} {off len : NE} {cap : Option Nat} {b : LBlk} (xs : List Pl) (hn : xs.length ≤ 140737488351232) (hb : H[i]? = some (some b)) (hl : len.v = xs.length) (hr : off.v + xs.length * 4 ≤ b.cells.length)
    (hc : ∀ η, ((b.cells.drop off.v).take (xs.length * 4)).map (LC.den η) = (planes.all xs).map (LC.den η)) (hcap : (cap.all fun c => decide (xs.length ≤ c)) = true) : LRo Try.prog 77 [.a (.c (.slice i off len 4 cap))] (bo (xs.all planeOk)) [i] H :=
  ro_of (by decide) planes 93 true xs rfl (all_P xs hn) (free_bo _) hb hl hr hc hcap
theorem shape_In (b : B6) (v : V3) : LPure Try.prog 83 [b.val, v.val] (bo (inB b v)) := by
  refine LCall.of hT Try.func83 rfl (by kernel_rfl) (by show 2 ≤ 23; decide) (fun η w => ?_)
  refine exec_ok hT true 200 ?_
  conv => arg 4; whnf
  cases h : eqV3 (leastV b.lo v) b.lo
  · refine holds_drawStart 1 ?_
    refine dexec_ok hT 100 ?_
    conv => arg 10; whnf
    refine dholds_call rfl rfl (ro_Min (len := .lit 2) b.lo v rfl rfl (by exact Nat.le_refl 6) (fun _ => rfl) rfl) rfl ?_
    refine dexec_ok hT 100 ?_
    conv => arg 10; whnf
    refine dholds_move hT false rfl rfl rfl rfl (h) ?_
    refine dexec_ok hT 100 ?_
    conv => arg 10; whnf
    refine dholds_end mixed (by kernel_rfl) ?_
    refine exec_ok hT true 200 ?_
    conv => arg 4; whnf
    exact holds_ret (ret_pure (.inl rfl) rfl (fun _ => by simp only [inB, h, Bool.false_and] <;> rfl) (free_bo _) rfl (nosc))
  · refine holds_drawStart 2 ?_
    refine dexec_ok hT 100 ?_
    conv => arg 10; whnf
    refine dholds_call rfl rfl (ro_Min (len := .lit 2) b.lo v rfl rfl (by exact Nat.le_refl 6) (fun _ => rfl) rfl) rfl ?_
    refine dexec_ok hT 100 ?_
    conv => arg 10; whnf
    refine dholds_move hT true rfl rfl rfl rfl (h) ?_
    refine dexec_ok hT 100 ?_
    conv => arg 10; whnf
    refine dholds_call rfl rfl (ro_Max (len := .lit 2) b.hi v rfl rfl (by exact Nat.le_refl 6) (fun _ => rfl) rfl) rfl ?_
    refine dexec_ok hT 100 ?_
    conv => arg 10; whnf
    refine dholds_end mixed (by kernel_rfl) ?_
    refine exec_ok hT true 200 ?_
    conv => arg 4; whnf
    exact holds_ret (ret_pure (.inl rfl) rfl (fun _ => by simp only [inB, h, Bool.true_and] <;> rfl) (free_bo _) rfl (nosc))
def endL (n : V3) (m : Int) (b : B6) : List Int := [m, mn (mulV n.x b.lo.x) (mulV n.x b.hi.x), mn (mulV n.y b.lo.y) (mulV n.y b.hi.y), mn (mulV n.z b.lo.z) (mulV n.z b.hi.z)]
def endG (n : V3) (m : Int) (b : B6) : List Int := [m, mx (mulV n.x b.lo.x) (mulV n.x b.hi.x), mx (mulV n.y b.lo.y) (mulV n.y b.hi.y), mx (mulV n.z b.lo.z) (mulV n.z b.hi.z)]
def endsE (n : V3) (m : Int) (b : B6) : Int := cond (mx (mulE n.x b.lo.x) (mulE n.x b.hi.x) != 0) 6 (cond (mx (mulE n.y b.lo.y) (mulE n.y b.hi.y) != 0) 6 (cond (mx (mulE n.z b.lo.z) (mulE n.z b.hi.z) != 0) 6 (cond (mx (addE (endL n m b)) (addE (endG n m b)) != 0) 6 0)))
def endsLo (n : V3) (m : Int) (b : B6) : Int := cond (endsE n m b != 0) 0 (addV (endL n m b))
def endsHi (n : V3) (m : Int) (b : B6) : Int := cond (endsE n m b != 0) 0 (addV (endG n m b))
abbrev tri (x y e : Int) : LV := .tup [.c (ci x), .c (ci y), .c (ci e)]
theorem free_tri (x y e : Int) : (tri x y e).free := fun a ha => by simp at ha; rcases ha with rfl | rfl | rfl <;> exact in_none rfl
theorem free_nmb (n : V3) (m : Int) (b : B6) : ∀ x ∈ [n.val, i64 m, b.val], x.free := fun x hx => by
  simp at hx; rcases hx with rfl | rfl | rfl
  · exact free_V n
  · exact free_i64 m
  · exact free_B b
set_option maxHeartbeats 2000000 in
theorem shape_ends (n : V3) (m : Int) (b : B6) : LPure Try.prog 143 [n.val, i64 m, b.val] (tri (endsLo n m b) (endsHi n m b) (endsE n m b)) := by
  refine LCall.of hT Try.func143 rfl (by kernel_rfl) (by show 3 ≤ 82; decide) (fun η w => ?_)
  refine exec_ok hT true 200 ?_
  conv => arg 4; whnf
  refine holds_drawStart 0 ?_
  refine dexec_ok hT 100 ?_
  conv => arg 10; whnf
  refine dholds_call rfl rfl ((fix_Mul n.x b.lo.x).ro (free3 (free_i64 _) (free_i64 _)) (free_two _ _) _) rfl ?_
  refine dexec_ok hT 100 ?_
  conv => arg 10; whnf
  refine dholds_end mixed (by kernel_rfl) ?_
  refine exec_ok hT true 200 ?_
  conv => arg 4; whnf
  refine holds_drawStart 0 ?_
  refine dexec_ok hT 100 ?_
  conv => arg 10; whnf
  refine dholds_call rfl rfl ((fix_Mul n.x b.hi.x).ro (free3 (free_i64 _) (free_i64 _)) (free_two _ _) _) rfl ?_
  refine dexec_ok hT 100 ?_
  conv => arg 10; whnf
  refine dholds_end mixed (by kernel_rfl) ?_
  refine exec_ok hT true 200 ?_
  conv => arg 4; whnf
  cases hx : (mx (mulE n.x b.lo.x) (mulE n.x b.hi.x) != 0)
  · refine holds_bool 52 rfl (r := false) (hx) ?_
    refine exec_ok hT true 200 ?_
    conv => arg 4; whnf
    refine holds_drawStart 0 ?_
    refine dexec_ok hT 100 ?_
    conv => arg 10; whnf
    refine dholds_call rfl rfl ((fix_Mul n.y b.lo.y).ro (free3 (free_i64 _) (free_i64 _)) (free_two _ _) _) rfl ?_
    refine dexec_ok hT 100 ?_
    conv => arg 10; whnf
    refine dholds_end mixed (by kernel_rfl) ?_
    refine exec_ok hT true 200 ?_
    conv => arg 4; whnf
    refine holds_drawStart 0 ?_
    refine dexec_ok hT 100 ?_
    conv => arg 10; whnf
    refine dholds_call rfl rfl ((fix_Mul n.y b.hi.y).ro (free3 (free_i64 _) (free_i64 _)) (free_two _ _) _) rfl ?_
    refine dexec_ok hT 100 ?_
    conv => arg 10; whnf
    refine dholds_end mixed (by kernel_rfl) ?_
    refine exec_ok hT true 200 ?_
    conv => arg 4; whnf
    cases hy : (mx (mulE n.y b.lo.y) (mulE n.y b.hi.y) != 0)
    · refine holds_bool 52 rfl (r := false) (hy) ?_
      refine exec_ok hT true 200 ?_
      conv => arg 4; whnf
      refine holds_drawStart 0 ?_
      refine dexec_ok hT 100 ?_
      conv => arg 10; whnf
      refine dholds_call rfl rfl ((fix_Mul n.z b.lo.z).ro (free3 (free_i64 _) (free_i64 _)) (free_two _ _) _) rfl ?_
      refine dexec_ok hT 100 ?_
      conv => arg 10; whnf
      refine dholds_end mixed (by kernel_rfl) ?_
      refine exec_ok hT true 200 ?_
      conv => arg 4; whnf
      refine holds_drawStart 0 ?_
      refine dexec_ok hT 100 ?_
      conv => arg 10; whnf
      refine dholds_call rfl rfl ((fix_Mul n.z b.hi.z).ro (free3 (free_i64 _) (free_i64 _)) (free_two _ _) _) rfl ?_
      refine dexec_ok hT 100 ?_
      conv => arg 10; whnf
      refine dholds_end mixed (by kernel_rfl) ?_
      refine exec_ok hT true 200 ?_
      conv => arg 4; whnf
      cases hz : (mx (mulE n.z b.lo.z) (mulE n.z b.hi.z) != 0)
      · refine holds_bool 52 rfl (r := false) (hz) ?_
        refine exec_ok hT true 200 ?_
        conv => arg 4; whnf
        refine holds_call rfl rfl rfl ((ro_Add (len := .lit 4) (endL n m b) (by simp [endL]) rfl rfl (by exact Nat.le_refl 4) (fun _ => rfl) rfl).call) rfl (by show 68 < 82; decide) ?_
        rintro _ _ ⟨rfl, rfl⟩
        refine exec_ok hT true 200 ?_
        conv => arg 4; whnf
        refine holds_call rfl rfl rfl ((ro_Add (len := .lit 4) (endG n m b) (by simp [endG]) rfl rfl (by exact Nat.le_refl 4) (fun _ => rfl) rfl).call) rfl (by show 73 < 82; decide) ?_
        rintro _ _ ⟨rfl, rfl⟩
        refine exec_ok hT true 200 ?_
        conv => arg 4; whnf
        cases ha : (mx (addE (endL n m b)) (addE (endG n m b)) != 0)
        · refine holds_bool 79 rfl (r := false) (ha) ?_
          refine exec_ok hT true 200 ?_
          conv => arg 4; whnf
          exact holds_ret (ret_pure (.inl rfl) rfl (fun _ => by simp only [endsE, endsLo, endsHi, hx, hy, hz, ha, cond_false] <;> rfl) (free_tri _ _ _) rfl (nosc))
        · refine holds_bool 79 rfl (r := true) (ha) ?_
          refine exec_ok hT true 200 ?_
          conv => arg 4; whnf
          exact holds_ret (ret_pure (.inl rfl) rfl (fun _ => by simp only [endsE, endsLo, endsHi, hx, hy, hz, ha, cond_false, cond_true] <;> rfl) (free_tri _ _ _) rfl (nosc))
      · refine holds_bool 52 rfl (r := true) (hz) ?_
        refine exec_ok hT true 200 ?_
        conv => arg 4; whnf
        exact holds_ret (ret_pure (.inl rfl) rfl (fun _ => by simp only [endsE, endsLo, endsHi, hx, hy, hz, cond_false, cond_true] <;> rfl) (free_tri _ _ _) rfl (nosc))
    · refine holds_bool 52 rfl (r := true) (hy) ?_
      refine exec_ok hT true 200 ?_
      conv => arg 4; whnf
      exact holds_ret (ret_pure (.inl rfl) rfl (fun _ => by simp only [endsE, endsLo, endsHi, hx, hy, cond_false, cond_true] <;> rfl) (free_tri _ _ _) rfl (nosc))
  · refine holds_bool 52 rfl (r := true) (hx) ?_
    refine exec_ok hT true 200 ?_
    conv => arg 4; whnf
    exact holds_ret (ret_pure (.inl rfl) rfl (fun _ => by simp only [endsE, endsLo, endsHi, hx, cond_false, cond_true] <;> rfl) (free_tri _ _ _) rfl (nosc))
def spanOk (p : Pl) (b : B6) : Bool := [p].all planeOk && [b].all boxOk
def spanE (p : Pl) (b : B6) : Int := cond (spanOk p b) (endsE p.n p.d b) 1
def spanLo (p : Pl) (b : B6) : Int := cond (spanOk p b) (endsLo p.n p.d b) 0
def spanHi (p : Pl) (b : B6) : Int := cond (spanOk p b) (endsHi p.n p.d b) 0
theorem free_pb (p : Pl) (b : B6) : ∀ x ∈ [p.val, b.val], x.free := free3 (free_P p) (free_B b)
theorem free_pv (p : Pl) (b : V3) : ∀ x ∈ [p.val, b.val], x.free := free3 (free_P p) (free_V b)
theorem free_mb (p : M12) (b : B6) : ∀ x ∈ [p.val, b.val], x.free := free3 (free_M p) (free_B b)
theorem shape_Span (p : Pl) (b : B6) : LPure Try.prog 81 [p.val, b.val] (tri (spanLo p b) (spanHi p b) (spanE p b)) := by
  refine LCall.of hT Try.func81 rfl (by kernel_rfl) (by show 2 ≤ 26; decide) (fun η w => ?_)
  refine exec_ok hT true 200 ?_
  conv => arg 4; whnf
  refine holds_call rfl rfl rfl ((ro_P (len := .lit 1) [p] (by simp) rfl rfl (by exact Nat.le_refl 4) (fun _ => rfl) rfl).call) rfl (by show 9 < 26; decide) ?_
  rintro _ _ ⟨rfl, rfl⟩
  refine exec_ok hT true 200 ?_
  conv => arg 4; whnf
  cases h : [p].all planeOk
  · refine holds_bool 11 rfl (r := true) (rfl) ?_
    refine exec_ok hT true 200 ?_
    conv => arg 4; whnf
    exact holds_ret (ret_pure (.inl rfl) rfl (fun _ => by simp only [spanE, spanLo, spanHi, spanOk, h, Bool.false_and, cond_false] <;> rfl) (free_tri _ _ _) rfl (nosc))
  · refine holds_bool 11 rfl (r := false) (rfl) ?_
    refine exec_ok hT true 200 ?_
    conv => arg 4; whnf
    refine holds_call rfl rfl rfl ((ro_B (len := .lit 1) [b] (by simp) rfl rfl (by exact Nat.le_refl 6) (fun _ => rfl) rfl).call) rfl (by show 14 < 26; decide) ?_
    rintro _ _ ⟨rfl, rfl⟩
    refine exec_ok hT true 200 ?_
    conv => arg 4; whnf
    cases h1 : [b].all boxOk
    · refine holds_bool 16 rfl (r := true) (rfl) ?_
      refine exec_ok hT true 200 ?_
      conv => arg 4; whnf
      exact holds_ret (ret_pure (.inl rfl) rfl (fun _ => by simp only [spanE, spanLo, spanHi, spanOk, h, h1, Bool.true_and, cond_false] <;> rfl) (free_tri _ _ _) rfl (nosc))
    · refine holds_bool 16 rfl (r := false) (rfl) ?_
      refine exec_ok hT true 200 ?_
      conv => arg 4; whnf
      refine holds_call rfl rfl rfl ((shape_ends p.n p.d b).any (free_nmb _ _ _) (free_tri _ _ _) _) rfl (by show 22 < 26; decide) ?_
      rintro _ _ ⟨rfl, rfl⟩
      refine exec_ok hT true 200 ?_
      conv => arg 4; whnf
      exact holds_ret (ret_pure (.inl rfl) rfl (fun _ => by simp only [spanE, spanLo, spanHi, spanOk, h, h1, Bool.and_self, cond_true] <;> rfl) (free_tri _ _ _) rfl (nosc))
def distOk (p : Pl) (v : V3) : Bool := [p].all planeOk && [v].all inV
def distE (p : Pl) (v : V3) : Int := cond (distOk p v) (cond (dotE p.n v != 0) (dotE p.n v) (addE [dotV p.n v, p.d])) 1
def distV (p : Pl) (v : V3) : Int := cond (distOk p v) (cond (dotE p.n v != 0) 0 (addV [dotV p.n v, p.d])) 0
theorem shape_Distance (p : Pl) (v : V3) : LPure Try.prog 84 [p.val, v.val] (two (distV p v) (distE p v)) := by
  refine LCall.of hT Try.func84 rfl (by kernel_rfl) (by show 2 ≤ 35; decide) (fun η w => ?_)
  refine exec_ok hT true 200 ?_
  conv => arg 4; whnf
  refine holds_call rfl rfl rfl ((ro_P (len := .lit 1) [p] (by simp) rfl rfl (by exact Nat.le_refl 4) (fun _ => rfl) rfl).call) rfl (by show 10 < 35; decide) ?_
  rintro _ _ ⟨rfl, rfl⟩
  refine exec_ok hT true 200 ?_
  conv => arg 4; whnf
  cases h : [p].all planeOk
  · refine holds_bool 12 rfl (r := true) (rfl) ?_
    refine exec_ok hT true 200 ?_
    conv => arg 4; whnf
    exact holds_ret (ret_pure (.inl rfl) rfl (fun _ => by simp only [distE, distV, distOk, h, Bool.false_and, cond_false] <;> rfl) (free_two _ _) rfl (nosc))
  · refine holds_bool 12 rfl (r := false) (rfl) ?_
    refine exec_ok hT true 200 ?_
    conv => arg 4; whnf
    refine holds_call rfl rfl rfl ((ro_V (len := .lit 1) [v] (by simp) rfl rfl (by exact Nat.le_refl 3) (fun _ => rfl) rfl).call) rfl (by show 15 < 35; decide) ?_
    rintro _ _ ⟨rfl, rfl⟩
    refine exec_ok hT true 200 ?_
    conv => arg 4; whnf
    cases h1 : [v].all inV
    · refine holds_bool 17 rfl (r := true) (rfl) ?_
      refine exec_ok hT true 200 ?_
      conv => arg 4; whnf
      exact holds_ret (ret_pure (.inl rfl) rfl (fun _ => by simp only [distE, distV, distOk, h, h1, Bool.true_and, cond_false] <;> rfl) (free_two _ _) rfl (nosc))
    · refine holds_bool 17 rfl (r := false) (rfl) ?_
      refine exec_ok hT true 200 ?_
      conv => arg 4; whnf
      refine holds_call rfl rfl rfl ((vec_Dot p.n v).any (free3 (free_V _) (free_V _)) (free_two _ _) _) rfl (by show 22 < 35; decide) ?_
      rintro _ _ ⟨rfl, rfl⟩
      refine exec_ok hT true 200 ?_
      conv => arg 4; whnf
      cases h2 : (dotE p.n v != 0)
      · refine holds_bool 26 rfl (r := false) (h2) ?_
        refine exec_ok hT true 200 ?_
        conv => arg 4; whnf
        refine holds_call rfl rfl rfl ((ro_Add (len := .lit 2) [dotV p.n v, p.d] (by simp) rfl rfl (by exact Nat.le_refl 2) (fun _ => rfl) rfl).call) rfl (by show 32 < 35; decide) ?_
        rintro _ _ ⟨rfl, rfl⟩
        refine exec_ok hT true 200 ?_
        conv => arg 4; whnf
        exact holds_ret (ret_pure (.inl rfl) rfl (fun _ => by simp only [distE, distV, distOk, h, h1, h2, Bool.and_self, cond_true, cond_false] <;> rfl) (free_two _ _) rfl (nosc))
      · refine holds_bool 26 rfl (r := true) (h2) ?_
        refine exec_ok hT true 200 ?_
        conv => arg 4; whnf
        exact holds_ret (ret_pure (.inl rfl) rfl (fun _ => by simp only [distE, distV, distOk, h, h1, h2, Bool.and_self, cond_true] <;> rfl) (free_two _ _) rfl (nosc))
def zeroB : B6 := ⟨zeroV, zeroV⟩
def carryOk (m : M12) (b : B6) : Bool := [m].all inM && [b].all boxOk
def carryE (m : M12) (b : B6) : Int := cond (carryOk m b) (firstE [endsE (m.row 0) (m.mv 0) b, endsE (m.row 1) (m.mv 1) b, endsE (m.row 2) (m.mv 2) b]) 1
def carryV (m : M12) (b : B6) : B6 := cond (carryE m b != 0) zeroB ⟨⟨endsLo (m.row 0) (m.mv 0) b, endsLo (m.row 1) (m.mv 1) b, endsLo (m.row 2) (m.mv 2) b⟩, ⟨endsHi (m.row 0) (m.mv 0) b, endsHi (m.row 1) (m.mv 1) b, endsHi (m.row 2) (m.mv 2) b⟩⟩
abbrev twoB (b : B6) (e : Int) : LV := .tup [.agg b.cells, .c (ci e)]
theorem free_twoB (b : B6) (e : Int) : (twoB b e).free := fun a ha => by
  simp at ha; rcases ha with rfl | rfl
  · exact free_B b
  · exact free_i64 e
set_option maxHeartbeats 2000000 in
theorem shape_Carry (m : M12) (b : B6) : LPure Try.prog 79 [m.val, b.val] (twoB (carryV m b) (carryE m b)) := by
  refine LCall.of hT Try.func79 rfl (by kernel_rfl) (by show 2 ≤ 58; decide) (fun η w => ?_)
  refine exec_ok hT true 200 ?_
  conv => arg 4; whnf
  refine holds_call rfl rfl rfl ((ro_M (len := .lit 1) [m] (by simp) rfl rfl (by exact Nat.le_refl 12) (fun _ => rfl) rfl).call) rfl (by show 13 < 58; decide) ?_
  rintro _ _ ⟨rfl, rfl⟩
  refine exec_ok hT true 200 ?_
  conv => arg 4; whnf
  cases h : [m].all inM
  · refine holds_bool 15 rfl (r := true) (rfl) ?_
    refine exec_ok hT true 200 ?_
    conv => arg 4; whnf
    exact holds_ret (ret_pure (.inl rfl) rfl (fun _ => by simp only [carryE, carryV, carryOk, h, Bool.false_and, cond_false] <;> rfl) (free_twoB _ _) rfl (nosc))
  · refine holds_bool 15 rfl (r := false) (rfl) ?_
    refine exec_ok hT true 200 ?_
    conv => arg 4; whnf
    refine holds_call rfl rfl rfl ((ro_B (len := .lit 1) [b] (by simp) rfl rfl (by exact Nat.le_refl 6) (fun _ => rfl) rfl).call) rfl (by show 18 < 58; decide) ?_
    rintro _ _ ⟨rfl, rfl⟩
    refine exec_ok hT true 200 ?_
    conv => arg 4; whnf
    cases h1 : [b].all boxOk
    · refine holds_bool 20 rfl (r := true) (rfl) ?_
      refine exec_ok hT true 200 ?_
      conv => arg 4; whnf
      exact holds_ret (ret_pure (.inl rfl) rfl (fun _ => by simp only [carryE, carryV, carryOk, h, h1, Bool.true_and, cond_false] <;> rfl) (free_twoB _ _) rfl (nosc))
    · refine holds_bool 20 rfl (r := false) (rfl) ?_
      refine exec_ok hT true 200 ?_
      conv => arg 4; whnf
      refine holds_drawStart 0 ?_
      refine dexec_ok hT 100 ?_
      conv => arg 10; whnf
      refine dholds_call rfl rfl ((shape_ends (m.row 0) (m.mv 0) b).ro (free_nmb _ _ _) (free_tri _ _ _) _) rfl ?_
      refine dexec_ok hT 100 ?_
      conv => arg 10; whnf
      refine dholds_end mixed (by kernel_rfl) ?_
      refine exec_ok hT true 200 ?_
      conv => arg 4; whnf
      cases g0 : (endsE (m.row 0) (m.mv 0) b != 0)
      · refine holds_bool 45 rfl (r := false) (g0) ?_
        refine exec_ok hT true 200 ?_
        conv => arg 4; whnf
        refine holds_drawStart 0 ?_
        refine dexec_ok hT 100 ?_
        conv => arg 10; whnf
        refine dholds_call rfl rfl ((shape_ends (m.row 1) (m.mv 1) b).ro (free_nmb _ _ _) (free_tri _ _ _) _) rfl ?_
        refine dexec_ok hT 100 ?_
        conv => arg 10; whnf
        refine dholds_end mixed (by kernel_rfl) ?_
        refine exec_ok hT true 200 ?_
        conv => arg 4; whnf
        cases g1 : (endsE (m.row 1) (m.mv 1) b != 0)
        · refine holds_bool 45 rfl (r := false) (g1) ?_
          refine exec_ok hT true 200 ?_
          conv => arg 4; whnf
          refine holds_drawStart 0 ?_
          refine dexec_ok hT 100 ?_
          conv => arg 10; whnf
          refine dholds_call rfl rfl ((shape_ends (m.row 2) (m.mv 2) b).ro (free_nmb _ _ _) (free_tri _ _ _) _) rfl ?_
          refine dexec_ok hT 100 ?_
          conv => arg 10; whnf
          refine dholds_end mixed (by kernel_rfl) ?_
          refine exec_ok hT true 200 ?_
          conv => arg 4; whnf
          cases g2 : (endsE (m.row 2) (m.mv 2) b != 0)
          · refine holds_bool 45 rfl (r := false) (g2) ?_
            refine exec_ok hT true 200 ?_
            conv => arg 4; whnf
            exact holds_ret (ret_pure (.inl rfl) rfl (fun _ => by simp only [carryE, carryV, carryOk, firstE, h, h1, Bool.and_self, g0, g1, g2, cond_true, cond_false] <;> rfl) (free_twoB _ _) rfl (nosc))
          · refine holds_bool 45 rfl (r := true) (g2) ?_
            refine exec_ok hT true 200 ?_
            conv => arg 4; whnf
            exact holds_ret (ret_pure (.inl rfl) rfl (fun _ => by simp only [carryE, carryV, carryOk, firstE, h, h1, Bool.and_self, g0, g1, g2, cond_true, cond_false] <;> rfl) (free_twoB _ _) rfl (nosc))
        · refine holds_bool 45 rfl (r := true) (g1) ?_
          refine exec_ok hT true 200 ?_
          conv => arg 4; whnf
          exact holds_ret (ret_pure (.inl rfl) rfl (fun _ => by simp only [carryE, carryV, carryOk, firstE, h, h1, Bool.and_self, g0, g1, cond_true, cond_false] <;> rfl) (free_twoB _ _) rfl (nosc))
      · refine holds_bool 45 rfl (r := true) (g0) ?_
        refine exec_ok hT true 200 ?_
        conv => arg 4; whnf
        exact holds_ret (ret_pure (.inl rfl) rfl (fun _ => by simp only [carryE, carryV, carryOk, firstE, h, h1, Bool.and_self, g0, cond_true, cond_false] <;> rfl) (free_twoB _ _) rfl (nosc))
def join1 (a b : B6) : B6 := ⟨leastV a.lo b.lo, greatV a.hi b.hi⟩
def joinE (a b : B6) : Int := cond ([a, b].all boxOk) 0 1
def joinV (a b : B6) : B6 := cond ([a, b].all boxOk) (join1 (join1 a a) b) zeroB
theorem shape_Join2 (a b : B6) : LCall Try.prog 74 [.a (.c (.slice 0 (.lit 0) (.lit 2) 6 none))] [some ⟨boxes.all [a, b], false, 58, false⟩] (fun v H' => v = twoB (joinV a b) (joinE a b) ∧ H' = [some ⟨boxes.all [a, b], false, 58, false⟩]) := by
  refine LCall.of hT Try.func74 rfl (by kernel_rfl) (by show 1 ≤ 40; decide) (fun η w => ?_)
  refine exec_ok hT true 200 ?_
  conv => arg 4; whnf
  refine holds_call rfl rfl rfl ((ro_B (len := .lit 2) [a, b] (by simp) rfl rfl (by exact Nat.le_refl 12) (fun _ => rfl) rfl).call) rfl (by show 12 < 40; decide) ?_
  rintro _ _ ⟨rfl, rfl⟩
  refine exec_ok hT true 200 ?_
  conv => arg 4; whnf
  cases h : [a, b].all boxOk
  · refine holds_bool 14 rfl (r := true) (rfl) ?_
    refine exec_ok hT true 200 ?_
    conv => arg 4; whnf
    exact holds_ret (ret_pure (.inl rfl) rfl (fun _ => by simp only [joinE, joinV, h, cond_false] <;> rfl) (free_twoB _ _) rfl (sc_of rfl))
  · refine holds_bool 14 rfl (r := false) (rfl) ?_
    refine exec_ok hT true 200 ?_
    conv => arg 4; whnf
    refine holds_drawStart 2 ?_
    refine dexec_ok hT 100 ?_
    conv => arg 10; whnf
    refine dholds_call rfl rfl (ro_Min (len := .lit 2) a.lo a.lo rfl rfl (by exact Nat.le_refl 6) (fun _ => rfl) rfl) rfl ?_
    refine dexec_ok hT 100 ?_
    conv => arg 10; whnf
    refine dholds_call rfl rfl (ro_Max (len := .lit 2) a.hi a.hi rfl rfl (by exact Nat.le_refl 6) (fun _ => rfl) rfl) rfl ?_
    refine dexec_ok hT 100 ?_
    conv => arg 10; whnf
    refine dholds_end mixed (by kernel_rfl) ?_
    refine exec_ok hT true 200 ?_
    conv => arg 4; whnf
    refine holds_drawStart 2 ?_
    refine dexec_ok hT 100 ?_
    conv => arg 10; whnf
    refine dholds_call rfl rfl (ro_Min (len := .lit 2) (join1 a a).lo b.lo rfl rfl (by exact Nat.le_refl 6) (fun _ => rfl) rfl) rfl ?_
    refine dexec_ok hT 100 ?_
    conv => arg 10; whnf
    refine dholds_call rfl rfl (ro_Max (len := .lit 2) (join1 a a).hi b.hi rfl rfl (by exact Nat.le_refl 6) (fun _ => rfl) rfl) rfl ?_
    refine dexec_ok hT 100 ?_
    conv => arg 10; whnf
    refine dholds_end mixed (by kernel_rfl) ?_
    refine exec_ok hT true 200 ?_
    conv => arg 4; whnf
    exact holds_ret (ret_pure (.inl rfl) rfl (fun _ => by simp only [joinE, joinV, h, cond_true] <;> rfl) (free_twoB _ _) rfl (sc_of rfl))
theorem ro_Join2 {H : LH} {i : Nat} {off len : NE} {cap : Option Nat} {b : LBlk} (x y : B6) (hb : H[i]? = some (some b)) (hl : len.v = 2) (hr : off.v + 12 ≤ b.cells.length)
    (hc : ∀ η, ((b.cells.drop off.v).take 12).map (LC.den η) = (boxes.all [x, y]).map (LC.den η)) (hcap : (cap.all fun c => decide (2 ≤ c)) = true) : LRo Try.prog 74 [.a (.c (.slice i off len 6 cap))] (twoB (joinV x y) (joinE x y)) [i] H :=
  ro_of (by decide) boxes 58 false [x, y] rfl (shape_Join2 x y) (free_twoB _ _) hb hl hr hc hcap
theorem ref03_Turn : LPure Try.prog 133 [(.a (.c (.int .i64 (.lit 2))))] turnM.val := by
  refine LCall.of hT Try.func133 rfl (by kernel_rfl) (by show 1 ≤ 34; decide) (fun η w => ?_)
  refine exec_ok hT true 200 ?_
  conv => arg 4; whnf
  exact holds_ret (ret_pure (.inl rfl) rfl (fun _ => rfl) (free_M _) rfl (nosc))
end Go.Proofs.Ytbkcaedlijhnlaa.LB
