/- The law's small functions. -/
import Derived.Test.YtbkcaedlijhnlaaAf4
namespace Go.Proofs.Ytbkcaedlijhnlaa.LB
open Go Go.RowKit
abbrev c8 (x : Int) : LC := .int .i8 (.var x)
abbrev M12.cells8 (m : M12) : List LC := [c8 m.a0, c8 m.a1, c8 m.a2, c8 m.a3, c8 m.a4, c8 m.a5, c8 m.a6, c8 m.a7, c8 m.a8, c8 m.a9, c8 m.a10, c8 m.a11]
abbrev M12.val8 (m : M12) : LV := .a (.agg m.cells8)
theorem free_M8 (m : M12) : m.val8.free := free_ints (by simp [LC.refs])
def up8 (x : Int) : Int := IntKind.i64.wrap (65536 * IntKind.i64.wrap x)
def wholeM (m : M12) : M12 := ⟨up8 m.a0, up8 m.a1, up8 m.a2, up8 m.a3, up8 m.a4, up8 m.a5, up8 m.a6, up8 m.a7, up8 m.a8, up8 m.a9, up8 m.a10, up8 m.a11⟩
set_option maxRecDepth 8000 in
theorem whole_mat (m : M12) : LPure Try.prog 51 [m.val8] (wholeM m).val := by
  refine LCall.of hT Try.func51 rfl (by kernel_rfl) (by show 1 ≤ 18; decide) (fun η w => ?_)
  refine exec_ok hT true 200 ?_
  conv => arg 4; whnf
  refine exec_ok hT true 200 ?_
  conv => arg 4; whnf
  refine exec_ok hT true 200 ?_
  conv => arg 4; whnf
  exact holds_ret (ret_pure (.inl rfl) rfl (fun _ => rfl) (free_M _) rfl (nosc))
theorem ref01_one (x : Int) : LPure Try.prog 124 [i64 x] (bo (inR x)) := by
  refine LCall.of hT Try.func124 rfl (by kernel_rfl) (by show 1 ≤ 9; decide) (fun η w => ?_)
  refine exec_ok hT true 200 ?_
  conv => arg 4; whnf
  cases hb : decide (x ≥ -2147483648)
  all_goals
    refine holds_bool 5 rfl hb ?_
    refine exec_ok hT true 200 ?_
    conv => arg 4; whnf
    exact holds_ret (ret_pure (.inl rfl) rfl (fun _ => by simp only [inR, hb]; rfl) (free_bo _) rfl (nosc))
theorem ref01_Right (xs : List Int) (hn : xs.length ≤ 140737488351232) : LCall Try.prog 54 [sl xs.length 1] [some (Eblk ints 22 xs)] (fun v H' => v = bo (xs.all inR) ∧ H' = [some (Eblk ints 22 xs)]) := by
  refine LCall.of hT Try.func54 rfl (by kernel_rfl) (by show 1 ≤ 18; decide) (fun η w => ?_)
  refine exec_ok hT false 50 ?_
  conv => arg 4; whnf
  refine holds_count xs.length (fun i => [(3, i64 (i : Int)), (0, sl xs.length 1)]) (fun _ => [some (Eblk ints 22 xs)]) (fun i => (xs.drop i).all inR = xs.all inR)
    rfl ⟨⟨_, rfl, same_cell (fun _ => rfl) rfl⟩, ⟨_, rfl, LV.same_refl _⟩, trivial⟩ rfl ?_ ?_
  · intro i hi hI next
    rw [List.drop_eq_getElem_cons hi, List.all_cons] at hI
    refine exec_ok hT false 50 ?_
    conv => arg 4; whnf
    refine holds_bool 8 rfl (r := true) (decide_eq_true (by show (i : Int) < (xs.length : Int); omega)) ?_
    refine exec_ok hT false 50 ?_
    conv => arg 4; whnf
    refine holds_index hT rfl rfl rfl rfl rfl rfl rfl rfl (q := i) rfl hi rfl (by show 13 < 18; decide) ?_
    refine holds_load hT rfl rfl rfl rfl rfl rfl (v := .c (ci xs[i])) ?_ ?_ rfl (by show 14 < 18; decide) ?_
    · show 0 + i * 1 + 1 ≤ (ints.all xs).length
      rw [ints.all_len]; omega
    · show asVar _ (((ints.all xs).drop (0 + i * 1)).take 1) = _
      rw [Nat.zero_add, ints.get (List.getElem?_eq_getElem hi)]; rfl
    refine holds_call rfl rfl rfl ((ref01_one xs[i]).any (free1 (free_i64 _)) (free_bo _) _) rfl (by show 15 < 18; decide) ?_
    rintro _ _ ⟨rfl, rfl⟩
    refine exec_ok hT false 50 ?_
    conv => arg 4; whnf
    cases hqx : inR xs[i]
    · refine holds_bool 17 rfl (r := true) rfl ?_
      refine exec_ok hT false 50 ?_
      conv => arg 4; whnf
      rw [hqx] at hI
      refine holds_ret (ret_pure (.inl rfl) rfl (fun _ => ?_) (free_bo _) rfl (sc1 _ _ _))
      rw [← hI]; rfl
    · refine holds_bool 17 rfl (r := false) rfl ?_
      refine exec_ok hT false 50 ?_
      conv => arg 4; whnf
      rw [hqx, Bool.true_and] at hI
      refine holds_le ?_ (next hI)
      refine ⟨⟨_, rfl, same_cell (fun _ => ?_) rfl⟩, ⟨_, rfl, LV.same_refl _⟩, trivial⟩
      show Value.int .i64 _ = Value.int .i64 (IntKind.i64.wrap ((i : Int) + 1))
      rw [wrap_succ hi hn]; rfl
  · intro hI
    refine exec_ok hT false 50 ?_
    conv => arg 4; whnf
    refine holds_bool 8 rfl (r := false) (decide_eq_false (by show ¬ (xs.length : Int) < (xs.length : Int); omega)) ?_
    refine exec_ok hT false 50 ?_
    conv => arg 4; whnf
    refine holds_ret (ret_pure (.inl rfl) rfl (fun _ => ?_) (free_bo _) rfl (sc1 _ _ _))
    rw [← hI, List.drop_length]; rfl
theorem ro_ref {H : LH} {i : Nat} {off len : NE} {cap : Option Nat} {b : LBlk} (xs : List Int) (hn : xs.length ≤ 140737488351232) (hb : H[i]? = some (some b)) (hl : len.v = xs.length) (hr : off.v + xs.length * 1 ≤ b.cells.length)
    (hc : ∀ η, ((b.cells.drop off.v).take (xs.length * 1)).map (LC.den η) = (ints.all xs).map (LC.den η)) (hcap : (cap.all fun c => decide (xs.length ≤ c)) = true) : LRo Try.prog 54 [.a (.c (.slice i off len 1 cap))] (bo (xs.all inR)) [i] H :=
  ro_of (by decide) ints 22 true xs rfl (ref01_Right xs hn) (free_bo _) hb hl hr hc hcap
theorem ref02_One (v : V3) : LPure Try.prog 55 [v.val] (bo (inV v)) := by
  refine LCall.of hT Try.func55 rfl (by kernel_rfl) (by show 1 ≤ 5; decide) (fun η w => ?_)
  refine exec_ok hT true 200 ?_
  conv => arg 4; whnf
  refine holds_call rfl rfl rfl ((ro_ref (len := .lit 3) v.list (by simp) rfl rfl (by exact Nat.le_refl 3) (fun _ => rfl) rfl).call) rfl (by show 4 < 5; decide) ?_
  rintro _ _ ⟨rfl, rfl⟩
  refine exec_ok hT true 200 ?_
  conv => arg 4; whnf
  exact holds_ret (ret_pure (.inl rfl) rfl (fun _ => rfl) (free_bo _) rfl (nosc))
def aliveM : M12 := mulMV (moveM ⟨65536, 0, 5⟩) turnM
def aliveE : Int := mulME (moveM ⟨65536, 0, 5⟩) turnM
theorem alive_M : aliveM = ⟨0, -65536, 0, 65536, 65536, 0, 0, 0, 0, 0, 65536, 5⟩ := by kernel_rfl
end Go.Proofs.Ytbkcaedlijhnlaa.LB
