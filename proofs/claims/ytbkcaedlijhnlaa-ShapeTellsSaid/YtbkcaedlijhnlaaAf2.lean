/- The matrices' functions: what is right. -/
import Derived.Test.YtbkcaedlijhnlaaAf1
namespace Go.Proofs.Ytbkcaedlijhnlaa.LB
open Go Go.RowKit
structure M12 where
  a0 : Int
  a1 : Int
  a2 : Int
  a3 : Int
  a4 : Int
  a5 : Int
  a6 : Int
  a7 : Int
  a8 : Int
  a9 : Int
  a10 : Int
  a11 : Int
abbrev M12.list (m : M12) : List Int := [m.a0, m.a1, m.a2, m.a3, m.a4, m.a5, m.a6, m.a7, m.a8, m.a9, m.a10, m.a11]
abbrev M12.cells (m : M12) : List LC := [ci m.a0, ci m.a1, ci m.a2, ci m.a3, ci m.a4, ci m.a5, ci m.a6, ci m.a7, ci m.a8, ci m.a9, ci m.a10, ci m.a11]
abbrev M12.val (m : M12) : LV := .a (.agg m.cells)
abbrev V3.list (v : V3) : List Int := [v.x, v.y, v.z]
theorem free_M (m : M12) : m.val.free := free_ints (by simp [LC.refs])
def mats : Enc M12 12 := ⟨M12.cells, fun _ => rfl, fun x c h => by simp at h; rcases h with rfl | rfl | rfl | rfl | rfl | rfl | rfl | rfl | rfl | rfl | rfl | rfl <;> rfl⟩
def vecs : Enc V3 3 := ⟨V3.cells, fun _ => rfl, fun x c h => by simp at h; rcases h with rfl | rfl | rfl <;> rfl⟩
def inM (m : M12) : Bool := m.list.all inR
def inV (v : V3) : Bool := v.list.all inR
theorem free1 {a : LV} (ha : a.free) : ∀ x ∈ [a], x.free := fun x hx => by simp at hx; rcases hx with rfl; assumption
theorem free0 : ∀ x ∈ ([] : List LV), x.free := fun x hx => by simp at hx
theorem right1_M (m : M12) : LPure Try.prog 174 [m.val] (bo (!inM m)) := by
  refine LCall.of hT Try.func174 rfl (by kernel_rfl) (by show 1 ≤ 6; decide) (fun η w => ?_)
  refine exec_ok hT true 200 ?_
  conv => arg 4; whnf
  refine holds_call rfl rfl rfl ((ro_F (len := .lit 12) m.list (by simp) rfl rfl (by exact Nat.le_refl 12) (fun _ => rfl) rfl).call) rfl (by show 4 < 6; decide) ?_
  rintro _ _ ⟨rfl, rfl⟩
  refine exec_ok hT true 200 ?_
  conv => arg 4; whnf
  exact holds_ret (ret_pure (.inl rfl) rfl (fun _ => rfl) (free_bo _) rfl (nosc))
theorem right1_V (m : V3) : LPure Try.prog 177 [m.val] (bo (!inV m)) := by
  refine LCall.of hT Try.func177 rfl (by kernel_rfl) (by show 1 ≤ 6; decide) (fun η w => ?_)
  refine exec_ok hT true 200 ?_
  conv => arg 4; whnf
  refine holds_call rfl rfl rfl ((ro_F (len := .lit 3) m.list (by simp) rfl rfl (by exact Nat.le_refl 3) (fun _ => rfl) rfl).call) rfl (by show 4 < 6; decide) ?_
  rintro _ _ ⟨rfl, rfl⟩
  refine exec_ok hT true 200 ?_
  conv => arg 4; whnf
  exact holds_ret (ret_pure (.inl rfl) rfl (fun _ => rfl) (free_bo _) rfl (nosc))

theorem idx_M {f : FuncId} {q : M12 → Bool} (hq : ∀ x : M12, LPure Try.prog f [(.a (.agg (M12.cells x)))] (bo (q x))) (xs : List M12) (hn : xs.length ≤ 140737488351232) :
    LCall Try.prog 218 [sl xs.length 12, fnv f] [some (Eblk mats 54 xs)] (fun v H' => v = i64 (idx q 0 xs) ∧ H' = [some (Eblk mats 54 xs)]) := by
  refine LCall.of hT Try.func218 rfl (by kernel_rfl) (by show 2 ≤ 19; decide) (fun η w => ?_)
  refine exec_ok hT false 50 ?_
  conv => arg 4; whnf
  refine holds_count xs.length (fun i => [(8, i64 (i : Int)), (7, i64 (xs.length : Int)), (1, fnv f), (0, sl xs.length 12)]) (fun _ => [some (Eblk mats 54 xs)]) (fun i => idx q i (xs.drop i) = idx q 0 xs)
    rfl ⟨⟨_, rfl, same_cell (fun _ => rfl) rfl⟩, ⟨_, rfl, same_cell (fun _ => rfl) rfl⟩, ⟨_, rfl, LV.same_refl _⟩, ⟨_, rfl, LV.same_refl _⟩, trivial⟩ rfl ?_ ?_
  · intro i hi hI next
    have hx : xs[i]? = some xs[i] := List.getElem?_eq_getElem hi
    rw [List.drop_eq_getElem_cons hi, idx] at hI
    refine exec_ok hT false 50 ?_
    conv => arg 4; whnf
    refine holds_bool 9 rfl (r := true) (decide_eq_true (by show (i : Int) < (xs.length : Int); omega)) ?_
    refine exec_ok hT false 50 ?_
    conv => arg 4; whnf
    refine holds_index hT rfl rfl rfl rfl rfl rfl rfl rfl (q := i) rfl hi rfl (by show 14 < 19; decide) ?_
    refine holds_load hT rfl rfl rfl rfl rfl rfl (v := (.agg (M12.cells xs[i]))) ?_ ?_ rfl (by show 15 < 19; decide) ?_
    · show 0 + i * 12 + 12 ≤ (mats.all xs).length
      rw [mats.all_len]
      have := Nat.mul_le_mul_right 12 (show i + 1 ≤ xs.length from hi)
      omega
    · show asVar _ (((mats.all xs).drop (0 + i * 12)).take 12) = _
      rw [Nat.zero_add, mats.get hx]; rfl
    refine holds_call rfl rfl rfl ((hq xs[i]).any (fun y hy => by simp at hy; subst hy; exact free_M _) (free_bo _) _) rfl (by show 16 < 19; decide) ?_
    rintro _ _ ⟨rfl, rfl⟩
    refine exec_ok hT false 50 ?_
    conv => arg 4; whnf
    cases hqx : q xs[i]
    · refine holds_bool 16 rfl (r := false) rfl ?_
      refine exec_ok hT false 50 ?_
      conv => arg 4; whnf
      rw [hqx] at hI
      refine holds_le ?_ (next hI)
      refine ⟨⟨_, rfl, same_cell (fun _ => ?_) rfl⟩, ⟨_, rfl, LV.same_refl _⟩, ⟨_, rfl, LV.same_refl _⟩, ⟨_, rfl, LV.same_refl _⟩, trivial⟩
      show Value.int .i64 _ = Value.int .i64 (IntKind.i64.wrap ((i : Int) + 1))
      rw [wrap_succ hi hn]; rfl
    · refine holds_bool 16 rfl (r := true) rfl ?_
      refine exec_ok hT false 50 ?_
      conv => arg 4; whnf
      rw [hqx] at hI
      refine holds_ret (ret_pure (.inl rfl) rfl (fun _ => ?_) (free_i64 _) rfl (sc1 _ _ _))
      rw [← hI]; rfl
  · intro hI
    refine exec_ok hT false 50 ?_
    conv => arg 4; whnf
    refine holds_bool 9 rfl (r := false) (decide_eq_false (by show ¬ (xs.length : Int) < (xs.length : Int); omega)) ?_
    refine exec_ok hT false 50 ?_
    conv => arg 4; whnf
    refine holds_ret (ret_pure (.inl rfl) rfl (fun _ => ?_) (free_i64 _) rfl (sc1 _ _ _))
    rw [← hI, List.drop_length]; rfl
theorem idx0_M (f : FuncId) (A : Option Addr) (c : Nat) : LPure Try.prog 218 [emp A c, fnv f] (i64 (-1)) := by
  refine LCall.of hT Try.func218 rfl (by kernel_rfl) (by show 2 ≤ 19; decide) (fun η w => ?_)
  refine exec_ok hT true 50 ?_
  conv => arg 4; whnf
  exact holds_ret (ret_pure (.inl rfl) rfl (fun _ => rfl) (free_i64 _) rfl nosc)
theorem con_M {f : FuncId} {q : M12 → Bool} (hq : ∀ x : M12, LPure Try.prog f [(.a (.agg (M12.cells x)))] (bo (q x))) (xs : List M12) (hn : xs.length ≤ 140737488351232) :
    LCall Try.prog 173 [sl xs.length 12, fnv f] [some (Eblk mats 54 xs)] (fun v H' => v = bo (xs.any q) ∧ H' = [some (Eblk mats 54 xs)]) := by
  refine LCall.of hT Try.func173 rfl (by kernel_rfl) (by show 2 ≤ 9; decide) (fun η w => ?_)
  refine exec_ok hT false 50 ?_
  conv => arg 4; whnf
  refine holds_call rfl rfl rfl (idx_M hq xs hn) rfl (by show 7 < 9; decide) ?_
  rintro _ _ ⟨rfl, rfl⟩
  refine exec_ok hT false 50 ?_
  conv => arg 4; whnf
  refine holds_ret (ret_pure (.inl rfl) rfl (fun _ => ?_) (free_bo _) rfl (sc1 _ _ _))
  show Value.bool _ = Value.bool (decide (idx q 0 xs ≥ 0))
  rw [idx_ge]; rfl
theorem con0_M (f : FuncId) (A : Option Addr) (c : Nat) : LPure Try.prog 173 [emp A c, fnv f] (bo false) := by
  refine LCall.of hT Try.func173 rfl (by kernel_rfl) (by show 2 ≤ 9; decide) (fun η w => ?_)
  refine exec_ok hT false 50 ?_
  conv => arg 4; whnf
  refine holds_call rfl rfl rfl ((idx0_M f A c).any (fun y hy => by simp at hy; rcases hy with rfl | rfl; exact free_emp _ _; exact free_fnv _) (free_i64 _) _) rfl (by show 7 < 9; decide) ?_
  rintro _ _ ⟨rfl, rfl⟩
  refine exec_ok hT false 50 ?_
  conv => arg 4; whnf
  exact holds_ret (ret_pure (.inl rfl) rfl (fun _ => rfl) (free_bo _) rfl nosc)

/-- M: all of a row. -/
theorem all_M (xs : List M12) (hn : xs.length ≤ 140737488351232) : LCall Try.prog 117 [sl xs.length 12] [some (Eblk mats 54 xs)] (fun v H' => v = bo (xs.all inM) ∧ H' = [some (Eblk mats 54 xs)]) := by
  refine LCall.of hT Try.func117 rfl (by kernel_rfl) (by show 1 ≤ 6; decide) (fun η w => ?_)
  refine exec_ok hT false 50 ?_
  conv => arg 4; whnf
  refine holds_call rfl rfl rfl (con_M right1_M xs hn) rfl (by show 4 < 6; decide) ?_
  rintro _ _ ⟨rfl, rfl⟩
  refine exec_ok hT false 50 ?_
  conv => arg 4; whnf
  refine holds_ret (ret_pure (.inl rfl) rfl (fun _ => ?_) (free_bo _) rfl (sc1 _ _ _))
  show Value.bool (xs.all inM) = Value.bool (!(xs.any fun x => !inM x))
  rw [List.not_any_eq_all_not]; simp
theorem all0_M (A : Option Addr) (c : Nat) : LPure Try.prog 117 [emp A c] (bo true) := by
  refine LCall.of hT Try.func117 rfl (by kernel_rfl) (by show 1 ≤ 6; decide) (fun η w => ?_)
  refine exec_ok hT false 50 ?_
  conv => arg 4; whnf
  refine holds_call rfl rfl rfl ((con0_M 174 A c).any (fun y hy => by simp at hy; rcases hy with rfl | rfl; exact free_emp _ _; exact free_fnv _) (free_bo _) _) rfl (by show 4 < 6; decide) ?_
  rintro _ _ ⟨rfl, rfl⟩
  refine exec_ok hT false 50 ?_
  conv => arg 4; whnf
  exact holds_ret (ret_pure (.inl rfl) rfl (fun _ => rfl) (free_bo _) rfl nosc)
/-- M, wherever the row lies. -/
theorem ro_M {H : LH} {i : Nat} {off len : NE} {cap : Option Nat} {b : LBlk} (xs : List M12) (hn : xs.length ≤ 140737488351232) (hb : H[i]? = some (some b)) (hl : len.v = xs.length) (hr : off.v + xs.length * 12 ≤ b.cells.length)
    (hc : ∀ η, ((b.cells.drop off.v).take (xs.length * 12)).map (LC.den η) = (mats.all xs).map (LC.den η)) (hcap : (cap.all fun c => decide (xs.length ≤ c)) = true) : LRo Try.prog 117 [.a (.c (.slice i off len 12 cap))] (bo (xs.all inM)) [i] H :=
  ro_of (by decide) mats 54 true xs rfl (all_M xs hn) (free_bo _) hb hl hr hc hcap

theorem idx_V {f : FuncId} {q : V3 → Bool} (hq : ∀ x : V3, LPure Try.prog f [(.a (.agg (V3.cells x)))] (bo (q x))) (xs : List V3) (hn : xs.length ≤ 140737488351232) :
    LCall Try.prog 219 [sl xs.length 3, fnv f] [some (Eblk vecs 56 xs)] (fun v H' => v = i64 (idx q 0 xs) ∧ H' = [some (Eblk vecs 56 xs)]) := by
  refine LCall.of hT Try.func219 rfl (by kernel_rfl) (by show 2 ≤ 19; decide) (fun η w => ?_)
  refine exec_ok hT false 50 ?_
  conv => arg 4; whnf
  refine holds_count xs.length (fun i => [(8, i64 (i : Int)), (7, i64 (xs.length : Int)), (1, fnv f), (0, sl xs.length 3)]) (fun _ => [some (Eblk vecs 56 xs)]) (fun i => idx q i (xs.drop i) = idx q 0 xs)
    rfl ⟨⟨_, rfl, same_cell (fun _ => rfl) rfl⟩, ⟨_, rfl, same_cell (fun _ => rfl) rfl⟩, ⟨_, rfl, LV.same_refl _⟩, ⟨_, rfl, LV.same_refl _⟩, trivial⟩ rfl ?_ ?_
  · intro i hi hI next
    have hx : xs[i]? = some xs[i] := List.getElem?_eq_getElem hi
    rw [List.drop_eq_getElem_cons hi, idx] at hI
    refine exec_ok hT false 50 ?_
    conv => arg 4; whnf
    refine holds_bool 9 rfl (r := true) (decide_eq_true (by show (i : Int) < (xs.length : Int); omega)) ?_
    refine exec_ok hT false 50 ?_
    conv => arg 4; whnf
    refine holds_index hT rfl rfl rfl rfl rfl rfl rfl rfl (q := i) rfl hi rfl (by show 14 < 19; decide) ?_
    refine holds_load hT rfl rfl rfl rfl rfl rfl (v := (.agg (V3.cells xs[i]))) ?_ ?_ rfl (by show 15 < 19; decide) ?_
    · show 0 + i * 3 + 3 ≤ (vecs.all xs).length
      rw [vecs.all_len]
      have := Nat.mul_le_mul_right 3 (show i + 1 ≤ xs.length from hi)
      omega
    · show asVar _ (((vecs.all xs).drop (0 + i * 3)).take 3) = _
      rw [Nat.zero_add, vecs.get hx]; rfl
    refine holds_call rfl rfl rfl ((hq xs[i]).any (fun y hy => by simp at hy; subst hy; exact free_V _) (free_bo _) _) rfl (by show 16 < 19; decide) ?_
    rintro _ _ ⟨rfl, rfl⟩
    refine exec_ok hT false 50 ?_
    conv => arg 4; whnf
    cases hqx : q xs[i]
    · refine holds_bool 16 rfl (r := false) rfl ?_
      refine exec_ok hT false 50 ?_
      conv => arg 4; whnf
      rw [hqx] at hI
      refine holds_le ?_ (next hI)
      refine ⟨⟨_, rfl, same_cell (fun _ => ?_) rfl⟩, ⟨_, rfl, LV.same_refl _⟩, ⟨_, rfl, LV.same_refl _⟩, ⟨_, rfl, LV.same_refl _⟩, trivial⟩
      show Value.int .i64 _ = Value.int .i64 (IntKind.i64.wrap ((i : Int) + 1))
      rw [wrap_succ hi hn]; rfl
    · refine holds_bool 16 rfl (r := true) rfl ?_
      refine exec_ok hT false 50 ?_
      conv => arg 4; whnf
      rw [hqx] at hI
      refine holds_ret (ret_pure (.inl rfl) rfl (fun _ => ?_) (free_i64 _) rfl (sc1 _ _ _))
      rw [← hI]; rfl
  · intro hI
    refine exec_ok hT false 50 ?_
    conv => arg 4; whnf
    refine holds_bool 9 rfl (r := false) (decide_eq_false (by show ¬ (xs.length : Int) < (xs.length : Int); omega)) ?_
    refine exec_ok hT false 50 ?_
    conv => arg 4; whnf
    refine holds_ret (ret_pure (.inl rfl) rfl (fun _ => ?_) (free_i64 _) rfl (sc1 _ _ _))
    rw [← hI, List.drop_length]; rfl
theorem idx0_V (f : FuncId) (A : Option Addr) (c : Nat) : LPure Try.prog 219 [emp A c, fnv f] (i64 (-1)) := by
  refine LCall.of hT Try.func219 rfl (by kernel_rfl) (by show 2 ≤ 19; decide) (fun η w => ?_)
  refine exec_ok hT true 50 ?_
  conv => arg 4; whnf
  exact holds_ret (ret_pure (.inl rfl) rfl (fun _ => rfl) (free_i64 _) rfl nosc)
theorem con_V {f : FuncId} {q : V3 → Bool} (hq : ∀ x : V3, LPure Try.prog f [(.a (.agg (V3.cells x)))] (bo (q x))) (xs : List V3) (hn : xs.length ≤ 140737488351232) :
    LCall Try.prog 176 [sl xs.length 3, fnv f] [some (Eblk vecs 56 xs)] (fun v H' => v = bo (xs.any q) ∧ H' = [some (Eblk vecs 56 xs)]) := by
  refine LCall.of hT Try.func176 rfl (by kernel_rfl) (by show 2 ≤ 9; decide) (fun η w => ?_)
  refine exec_ok hT false 50 ?_
  conv => arg 4; whnf
  refine holds_call rfl rfl rfl (idx_V hq xs hn) rfl (by show 7 < 9; decide) ?_
  rintro _ _ ⟨rfl, rfl⟩
  refine exec_ok hT false 50 ?_
  conv => arg 4; whnf
  refine holds_ret (ret_pure (.inl rfl) rfl (fun _ => ?_) (free_bo _) rfl (sc1 _ _ _))
  show Value.bool _ = Value.bool (decide (idx q 0 xs ≥ 0))
  rw [idx_ge]; rfl
theorem con0_V (f : FuncId) (A : Option Addr) (c : Nat) : LPure Try.prog 176 [emp A c, fnv f] (bo false) := by
  refine LCall.of hT Try.func176 rfl (by kernel_rfl) (by show 2 ≤ 9; decide) (fun η w => ?_)
  refine exec_ok hT false 50 ?_
  conv => arg 4; whnf
  refine holds_call rfl rfl rfl ((idx0_V f A c).any (fun y hy => by simp at hy; rcases hy with rfl | rfl; exact free_emp _ _; exact free_fnv _) (free_i64 _) _) rfl (by show 7 < 9; decide) ?_
  rintro _ _ ⟨rfl, rfl⟩
  refine exec_ok hT false 50 ?_
  conv => arg 4; whnf
  exact holds_ret (ret_pure (.inl rfl) rfl (fun _ => rfl) (free_bo _) rfl nosc)

/-- V: all of a row. -/
theorem all_V (xs : List V3) (hn : xs.length ≤ 140737488351232) : LCall Try.prog 121 [sl xs.length 3] [some (Eblk vecs 56 xs)] (fun v H' => v = bo (xs.all inV) ∧ H' = [some (Eblk vecs 56 xs)]) := by
  refine LCall.of hT Try.func121 rfl (by kernel_rfl) (by show 1 ≤ 6; decide) (fun η w => ?_)
  refine exec_ok hT false 50 ?_
  conv => arg 4; whnf
  refine holds_call rfl rfl rfl (con_V right1_V xs hn) rfl (by show 4 < 6; decide) ?_
  rintro _ _ ⟨rfl, rfl⟩
  refine exec_ok hT false 50 ?_
  conv => arg 4; whnf
  refine holds_ret (ret_pure (.inl rfl) rfl (fun _ => ?_) (free_bo _) rfl (sc1 _ _ _))
  show Value.bool (xs.all inV) = Value.bool (!(xs.any fun x => !inV x))
  rw [List.not_any_eq_all_not]; simp
theorem all0_V (A : Option Addr) (c : Nat) : LPure Try.prog 121 [emp A c] (bo true) := by
  refine LCall.of hT Try.func121 rfl (by kernel_rfl) (by show 1 ≤ 6; decide) (fun η w => ?_)
  refine exec_ok hT false 50 ?_
  conv => arg 4; whnf
  refine holds_call rfl rfl rfl ((con0_V 177 A c).any (fun y hy => by simp at hy; rcases hy with rfl | rfl; exact free_emp _ _; exact free_fnv _) (free_bo _) _) rfl (by show 4 < 6; decide) ?_
  rintro _ _ ⟨rfl, rfl⟩
  refine exec_ok hT false 50 ?_
  conv => arg 4; whnf
  exact holds_ret (ret_pure (.inl rfl) rfl (fun _ => rfl) (free_bo _) rfl nosc)
/-- V, wherever the row lies. -/
theorem ro_V {H : LH} {i : Nat} {off len : NE} {cap : Option Nat} {b : LBlk} (xs : List V3) (hn : xs.length ≤ 140737488351232) (hb : H[i]? = some (some b)) (hl : len.v = xs.length) (hr : off.v + xs.length * 3 ≤ b.cells.length)
    (hc : ∀ η, ((b.cells.drop off.v).take (xs.length * 3)).map (LC.den η) = (vecs.all xs).map (LC.den η)) (hcap : (cap.all fun c => decide (xs.length ≤ c)) = true) : LRo Try.prog 121 [.a (.c (.slice i off len 3 cap))] (bo (xs.all inV)) [i] H :=
  ro_of (by decide) vecs 56 true xs rfl (all_V xs hn) (free_bo _) hb hl hr hc hcap
end Go.Proofs.Ytbkcaedlijhnlaa.LB
