/- The matrices' functions: the small ones. -/
import Derived.Test.YtbkcaedlijhnlaaAf2
namespace Go.Proofs.Ytbkcaedlijhnlaa.LB
open Go Go.RowKit
def zeroM : M12 := ⟨0, 0, 0, 0, 0, 0, 0, 0, 0, 0, 0, 0⟩
def zeroV : V3 := ⟨0, 0, 0⟩
def scaleM (v : V3) : M12 := ⟨v.x, 0, 0, 0, 0, v.y, 0, 0, 0, 0, v.z, 0⟩
def sameM : M12 := ⟨65536, 0, 0, 0, 0, 65536, 0, 0, 0, 0, 65536, 0⟩
def moveM (v : V3) : M12 := ⟨65536, 0, 0, v.x, 0, 65536, 0, v.y, 0, 0, 65536, v.z⟩
def turnM : M12 := ⟨0, -65536, 0, 0, 65536, 0, 0, 0, 0, 0, 65536, 0⟩
def M12.row (m : M12) : Nat → V3
  | 0 => ⟨m.a0, m.a1, m.a2⟩
  | 1 => ⟨m.a4, m.a5, m.a6⟩
  | _ => ⟨m.a8, m.a9, m.a10⟩
def M12.mv (m : M12) : Nat → Int
  | 0 => m.a3
  | 1 => m.a7
  | _ => m.a11
def M12.col (m : M12) : Nat → V3
  | 0 => ⟨m.a0, m.a4, m.a8⟩
  | 1 => ⟨m.a1, m.a5, m.a9⟩
  | 2 => ⟨m.a2, m.a6, m.a10⟩
  | _ => ⟨m.a3, m.a7, m.a11⟩
theorem free_lit (k : Int) : (LV.a (.c (.int .i64 (.lit k)))).free := in_none rfl
theorem free_ml (m : M12) (k : Int) : ∀ x ∈ [m.val, (LV.a (.c (.int .i64 (.lit k))))], x.free := free3 (free_M m) (free_lit k)
theorem free_vvm (a b : V3) (m : Int) : ∀ x ∈ [a.val, b.val, i64 m], x.free := fun x hx => by
  simp at hx; rcases hx with rfl | rfl | rfl
  · exact free_V a
  · exact free_V b
  · exact free_i64 m
def firstE : List Int → Int
  | [] => 0
  | e :: r => cond (e != 0) e (firstE r)
abbrev twoM (m : M12) (e : Int) : LV := .tup [.agg m.cells, .c (ci e)]
abbrev twoV (v : V3) (e : Int) : LV := .tup [.agg v.cells, .c (ci e)]
theorem free_twoM (m : M12) (e : Int) : (twoM m e).free := fun a ha => by
  simp at ha; rcases ha with rfl | rfl
  · exact free_M m
  · exact free_i64 e
theorem free_twoV (m : V3) (e : Int) : (twoV m e).free := fun a ha => by
  simp at ha; rcases ha with rfl | rfl
  · exact free_V m
  · exact free_i64 e
theorem affine_Scale (v : V3) : LPure Try.prog 127 [v.val] (scaleM v).val := by
  refine LCall.of hT Try.func127 rfl (by kernel_rfl) (by show 1 ≤ 18; decide) (fun η w => ?_)
  refine exec_ok hT true 200 ?_
  conv => arg 4; whnf
  exact holds_ret (ret_pure (.inl rfl) rfl (fun _ => rfl) (free_M _) rfl (nosc))
theorem affine_Same : LPure Try.prog 57 [] sameM.val := by
  refine LCall.of hT Try.func57 rfl (by kernel_rfl) (by show 0 ≤ 3; decide) (fun η w => ?_)
  refine exec_ok hT true 200 ?_
  conv => arg 4; whnf
  refine holds_call rfl rfl rfl ((affine_Scale ⟨65536, 65536, 65536⟩).inn (free1 (free_V _)) (free1 (free_ints (by simp [LC.refs]))) (free_M _) (fun _ => rfl)) rfl (by show 2 < 3; decide) ?_
  rintro _ _ ⟨rfl, rfl⟩
  refine exec_ok hT true 200 ?_
  conv => arg 4; whnf
  exact holds_ret (ret_pure (.inl rfl) rfl (fun _ => rfl) (free_M _) rfl (nosc))
theorem affine_Move (v : V3) : LPure Try.prog 125 [v.val] (moveM v).val := by
  refine LCall.of hT Try.func125 rfl (by kernel_rfl) (by show 1 ≤ 18; decide) (fun η w => ?_)
  refine exec_ok hT true 200 ?_
  conv => arg 4; whnf
  refine holds_call rfl rfl rfl (affine_Same.any free0 (free_M _) _) rfl (by show 5 < 18; decide) ?_
  rintro _ _ ⟨rfl, rfl⟩
  refine exec_ok hT true 200 ?_
  conv => arg 4; whnf
  exact holds_ret (ret_pure (.inl rfl) rfl (fun _ => rfl) (free_M _) rfl (nosc))
theorem affine_Turn : LPure Try.prog 126 [(.a (.c (.int .i64 (.lit 2))))] turnM.val := by
  refine LCall.of hT Try.func126 rfl (by kernel_rfl) (by show 1 ≤ 33; decide) (fun η w => ?_)
  refine exec_ok hT true 200 ?_
  conv => arg 4; whnf
  exact holds_ret (ret_pure (.inl rfl) rfl (fun _ => rfl) (free_M _) rfl (nosc))
theorem affine_row0 (m : M12) : LPure Try.prog 123 [m.val, (.a (.c (.int .i64 (.lit 0))))] (m.row 0).val := by
  refine LCall.of hT Try.func123 rfl (by kernel_rfl) (by show 2 ≤ 13; decide) (fun η w => ?_)
  refine exec_ok hT true 200 ?_
  conv => arg 4; whnf
  exact holds_ret (ret_pure (.inl rfl) rfl (fun _ => rfl) (free_V _) rfl (nosc))
theorem affine_row1 (m : M12) : LPure Try.prog 123 [m.val, (.a (.c (.int .i64 (.lit 1))))] (m.row 1).val := by
  refine LCall.of hT Try.func123 rfl (by kernel_rfl) (by show 2 ≤ 13; decide) (fun η w => ?_)
  refine exec_ok hT true 200 ?_
  conv => arg 4; whnf
  exact holds_ret (ret_pure (.inl rfl) rfl (fun _ => rfl) (free_V _) rfl (nosc))
theorem affine_row2 (m : M12) : LPure Try.prog 123 [m.val, (.a (.c (.int .i64 (.lit 2))))] (m.row 2).val := by
  refine LCall.of hT Try.func123 rfl (by kernel_rfl) (by show 2 ≤ 13; decide) (fun η w => ?_)
  refine exec_ok hT true 200 ?_
  conv => arg 4; whnf
  exact holds_ret (ret_pure (.inl rfl) rfl (fun _ => rfl) (free_V _) rfl (nosc))
theorem affine_column0 (m : M12) : LPure Try.prog 175 [m.val, (.a (.c (.int .i64 (.lit 0))))] (m.col 0).val := by
  refine LCall.of hT Try.func175 rfl (by kernel_rfl) (by show 2 ≤ 17; decide) (fun η w => ?_)
  refine exec_ok hT true 200 ?_
  conv => arg 4; whnf
  refine holds_drawStart 0 ?_
  refine dexec_ok hT 100 ?_
  conv => arg 10; whnf
  refine dholds_end mixed (by kernel_rfl) ?_
  refine exec_ok hT true 200 ?_
  conv => arg 4; whnf
  exact holds_ret (ret_pure (.inl rfl) rfl (fun _ => rfl) (free_V _) rfl (nosc))
theorem affine_column1 (m : M12) : LPure Try.prog 175 [m.val, (.a (.c (.int .i64 (.lit 1))))] (m.col 1).val := by
  refine LCall.of hT Try.func175 rfl (by kernel_rfl) (by show 2 ≤ 17; decide) (fun η w => ?_)
  refine exec_ok hT true 200 ?_
  conv => arg 4; whnf
  refine holds_drawStart 0 ?_
  refine dexec_ok hT 100 ?_
  conv => arg 10; whnf
  refine dholds_end mixed (by kernel_rfl) ?_
  refine exec_ok hT true 200 ?_
  conv => arg 4; whnf
  exact holds_ret (ret_pure (.inl rfl) rfl (fun _ => rfl) (free_V _) rfl (nosc))
theorem affine_column2 (m : M12) : LPure Try.prog 175 [m.val, (.a (.c (.int .i64 (.lit 2))))] (m.col 2).val := by
  refine LCall.of hT Try.func175 rfl (by kernel_rfl) (by show 2 ≤ 17; decide) (fun η w => ?_)
  refine exec_ok hT true 200 ?_
  conv => arg 4; whnf
  refine holds_drawStart 0 ?_
  refine dexec_ok hT 100 ?_
  conv => arg 10; whnf
  refine dholds_end mixed (by kernel_rfl) ?_
  refine exec_ok hT true 200 ?_
  conv => arg 4; whnf
  exact holds_ret (ret_pure (.inl rfl) rfl (fun _ => rfl) (free_V _) rfl (nosc))
theorem affine_column3 (m : M12) : LPure Try.prog 175 [m.val, (.a (.c (.int .i64 (.lit 3))))] (m.col 3).val := by
  refine LCall.of hT Try.func175 rfl (by kernel_rfl) (by show 2 ≤ 17; decide) (fun η w => ?_)
  refine exec_ok hT true 200 ?_
  conv => arg 4; whnf
  refine holds_drawStart 0 ?_
  refine dexec_ok hT 100 ?_
  conv => arg 10; whnf
  refine dholds_end mixed (by kernel_rfl) ?_
  refine exec_ok hT true 200 ?_
  conv => arg 4; whnf
  exact holds_ret (ret_pure (.inl rfl) rfl (fun _ => rfl) (free_V _) rfl (nosc))
end Go.Proofs.Ytbkcaedlijhnlaa.LB
