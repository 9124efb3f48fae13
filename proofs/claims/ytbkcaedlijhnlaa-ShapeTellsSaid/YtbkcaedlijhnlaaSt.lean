/- The law of the shapes' answers. -/
import Derived.Test.YtbkcaedlijhnlaaEj
import Derived.Test.YtbkcaedlijhnlaaShI
namespace Go.Proofs.Ytbkcaedlijhnlaa.LB
open Go Go.RowKit
def eqB6 (a b : B6) : Bool := ((a.lo.x == b.lo.x) && ((a.lo.y == b.lo.y) && ((a.lo.z == b.lo.z) && ((a.hi.x == b.hi.x) && ((a.hi.y == b.hi.y) && ((a.hi.z == b.hi.z) && true))))))
theorem neB (a : B6) : (!(eqB6 a a)) = false := by simp [eqB6]
theorem neI (a : Int) : (a != a) = false := by simp
theorem neO (a : Bool) : (!(a == a)) = false := by simp
theorem free_mb' (m : M12) (b : B6) : ∀ x ∈ [m.val, b.val], x.free := free3 (free_M m) (free_B b)
set_option maxHeartbeats 8000000 in
set_option maxRecDepth 8000 in
theorem law_ShapeTells (xs : List B6) (m : M12) (p : Pl) : LCall Try.prog 12 [sl xs.length 6, m.val, p.val] [some (Eblk boxes 58 xs)] (fun v H' => v = bo true ∧ H' = [some (Eblk boxes 58 xs)]) := by
  refine LCall.of hT Try.func12 rfl (by kernel_rfl) (by show 3 ≤ 193; decide) (fun η w => ?_)
  refine exec_ok hT false 200 ?_
  conv => arg 4; whnf
  by_cases hle : xs.length ≤ 60
  · have hn : xs.length ≤ 140737488351232 := by omega
    refine holds_bool 31 rfl (r := false) (decide_eq_false (by show ¬ ((xs.length : Int) > 60); omega)) ?_
    refine exec_ok hT false 200 ?_
    conv => arg 4; whnf
    refine holds_count xs.length (fun i => [(8, i64 (i : Int)), (7, bo ((xs.take i).all boxOk)), (0, sl xs.length 6), (4, .a (.c (.ptr 1 (.lit 0)))), (5, .a (.c (.ptr 2 (.lit 0))))]) (fun _ => [some (Eblk boxes 58 xs), some ⟨m.cells, true, 54, false⟩, some ⟨p.cells, true, 93, false⟩]) (fun _ => True)
      trivial ⟨⟨_, rfl, same_cell (fun _ => rfl) rfl⟩, ⟨_, rfl, same_cell (fun _ => rfl) rfl⟩, ⟨_, rfl, LV.same_refl _⟩, ⟨_, rfl, LV.same_refl _⟩, ⟨_, rfl, LV.same_refl _⟩, trivial⟩ rfl ?_ ?_
    · intro i hi _ next
      have hg := List.getElem?_eq_getElem hi
      refine exec_ok hT false 200 ?_
      conv => arg 4; whnf
      refine holds_bool 36 rfl (r := true) (decide_eq_true (by show (i : Int) < (xs.length : Int); omega)) ?_
      refine exec_ok hT false 200 ?_
      conv => arg 4; whnf
      refine holds_index hT rfl rfl rfl rfl rfl rfl rfl rfl (q := i) rfl hi rfl (by show 41 < 193; decide) ?_
      refine holds_load hT rfl rfl rfl rfl rfl rfl (v := .agg (B6.cells xs[i])) ?_ ?_ rfl (by show 42 < 193; decide) ?_
      · show 0 + i * 6 + 6 ≤ (boxes.all xs).length
        rw [boxes.all_len]
        have := Nat.mul_le_mul_right 6 (show i + 1 ≤ xs.length from hi)
        omega
      · show asVar _ (((boxes.all xs).drop (0 + i * 6)).take 6) = _
        rw [Nat.zero_add, boxes.get hg]; rfl
      refine holds_call rfl rfl rfl ((ref04_Right xs[i]).any (free1 (free_B _)) (free_bo _) _) rfl (by show 43 < 193; decide) ?_
      rintro _ _ ⟨rfl, rfl⟩
      refine exec_ok hT false 200 ?_
      conv => arg 4; whnf
      have hs : (xs.take (i + 1)).all boxOk = ((xs.take i).all boxOk && boxOk xs[i]) := by rw [List.take_succ_eq_append_getElem hi, List.all_append]; simp
      cases ha : (xs.take i).all boxOk
      · refine holds_bool 45 rfl (r := false) (by first | exact ha | rfl) ?_
        refine exec_ok hT false 200 ?_
        conv => arg 4; whnf
        refine holds_le ?_ (next trivial)
        refine ⟨⟨_, rfl, same_cell (fun _ => congrArg (Value.int .i64) (wrap_succ hi hn).symm) rfl⟩, ⟨_, rfl, same_cell (fun _ => congrArg Value.bool (by rw [hs, ha]; rfl)) rfl⟩, ⟨_, rfl, LV.same_refl _⟩, ⟨_, rfl, LV.same_refl _⟩, ⟨_, rfl, LV.same_refl _⟩, trivial⟩
      · refine holds_bool 45 rfl (r := true) (by first | exact ha | rfl) ?_
        refine exec_ok hT false 200 ?_
        conv => arg 4; whnf
        refine holds_le ?_ (next trivial)
        refine ⟨⟨_, rfl, same_cell (fun _ => congrArg (Value.int .i64) (wrap_succ hi hn).symm) rfl⟩, ⟨_, rfl, same_cell (fun _ => congrArg Value.bool (by rw [hs, ha]; rfl)) rfl⟩, ⟨_, rfl, LV.same_refl _⟩, ⟨_, rfl, LV.same_refl _⟩, ⟨_, rfl, LV.same_refl _⟩, trivial⟩
    · intro _
      refine exec_ok hT false 200 ?_
      conv => arg 4; whnf
      refine holds_bool 36 rfl (r := false) (decide_eq_false (by show ¬ (xs.length : Int) < (xs.length : Int); omega)) ?_
      refine exec_ok hT false 200 ?_
      conv => arg 4; whnf
      refine holds_call rfl rfl rfl (LRo.call (ro_full (by decide) boxes 58 true xs rfl (shape_Join xs hn) (free_twoB _ _) rfl rfl rfl)) rfl (by show 50 < 193; decide) ?_
      rintro _ _ ⟨rfl, rfl⟩
      refine exec_ok hT false 200 ?_
      conv => arg 4; whnf
      refine holds_call rfl rfl rfl (LRo.call (ro_full (by decide) boxes 58 true xs rfl (ref04_Join xs (by omega)) (free_twoB _ _) rfl rfl rfl)) rfl (by show 55 < 193; decide) ?_
      rintro _ _ ⟨rfl, rfl⟩
      refine exec_ok hT false 200 ?_
      conv => arg 4; whnf
      refine holds_drawStart 1 ?_
      refine dexec_ok hT 100 ?_
      conv => arg 10; whnf
      refine dholds_move hT false rfl rfl rfl rfl (by exact neB _) ?_
      refine dexec_ok hT 100 ?_
      conv => arg 10; whnf
      refine dholds_move hT false rfl rfl rfl rfl (by exact neI _) ?_
      refine dexec_ok hT 100 ?_
      conv => arg 10; whnf
      refine dholds_call rfl rfl (ro_full (by decide) boxes 58 true xs rfl (all_B xs hn) (free_bo _) rfl rfl rfl) rfl ?_
      refine dexec_ok hT 100 ?_
      conv => arg 10; whnf
      refine dstep_ok hT rfl ?_
      refine dexec_ok hT 100 ?_
      conv => arg 10; whnf
      refine dholds_move hT false rfl rfl rfl rfl (by rw [List.take_length]; exact neO _) ?_
      refine dexec_ok hT 100 ?_
      conv => arg 10; whnf
      refine dholds_call rfl rfl (ro_P (len := .lit 1) [p] (by simp) rfl rfl (by exact Nat.le_refl 4) (fun _ => rfl) rfl) rfl ?_
      refine dexec_ok hT 100 ?_
      conv => arg 10; whnf
      refine dholds_call rfl rfl ((ref04_Plane p).ro (free1 (free_P _)) (free_bo _) _) rfl ?_
      refine dexec_ok hT 100 ?_
      conv => arg 10; whnf
      refine dholds_end mixed (by kernel_rfl) ?_
      refine exec_ok hT false 200 ?_
      conv => arg 4; whnf
      refine holds_bool 79 rfl (r := false) (by show (!(([p].all planeOk) == planeOk p)) = false; simp) ?_
      refine exec_ok hT false 200 ?_
      conv => arg 4; whnf
      refine holds_ren id [(14, i64 ((0 : Nat) : Int)), (0, sl xs.length 6), (4, .a (.c (.ptr 1 (.lit 0)))), (5, .a (.c (.ptr 2 (.lit 0))))] [some (Eblk boxes 58 xs), some ⟨m.cells, true, 54, false⟩, some ⟨p.cells, true, 93, false⟩] rfl rfl rfl ⟨⟨(by simp [LV.In, LA.In, LA.cells, LC.In, LC.refs]), _, rfl, fun _ => rfl⟩, ⟨(by simp [LV.In, LA.In, LA.cells, LC.In, LC.refs]), _, rfl, fun _ => rfl⟩, ⟨(by simp [LV.In, LA.In, LA.cells, LC.In, LC.refs]), _, rfl, fun _ => rfl⟩, ⟨(by simp [LV.In, LA.In, LA.cells, LC.In, LC.refs]), _, rfl, fun _ => rfl⟩, trivial⟩ ⟨⟨_, rfl, rfl, rfl, ⟨rfl, fun _ => boxes.den_all _ _ _⟩, boxes.all_in _ _⟩, ⟨_, rfl, rfl, rfl, ⟨rfl, fun _ => rfl⟩, lit_in rfl _⟩, ⟨_, rfl, rfl, rfl, ⟨rfl, fun _ => rfl⟩, lit_in rfl _⟩, trivial⟩ ?_
      refine holds_count xs.length (fun i => [(14, i64 ((i : Nat) : Int)), (0, sl xs.length 6), (4, .a (.c (.ptr 1 (.lit 0)))), (5, .a (.c (.ptr 2 (.lit 0))))]) (fun _ => [some (Eblk boxes 58 xs), some ⟨m.cells, true, 54, false⟩, some ⟨p.cells, true, 93, false⟩]) (fun _ => True) trivial ⟨⟨_, rfl, LV.same_refl _⟩, ⟨_, rfl, LV.same_refl _⟩, ⟨_, rfl, LV.same_refl _⟩, ⟨_, rfl, LV.same_refl _⟩, trivial⟩ rfl ?_ ?_
      · intro i hi _ next
        have hg := List.getElem?_eq_getElem hi
        refine exec_ok hT false 200 ?_
        conv => arg 4; whnf
        refine holds_bool 83 rfl (r := true) (decide_eq_true (by show (i : Int) < (xs.length : Int); omega)) ?_
        refine exec_ok hT false 200 ?_
        conv => arg 4; whnf
        refine holds_drawStart 1 ?_
        refine dexec_ok hT 100 ?_
        conv => arg 10; whnf
        refine dholds_index hT rfl rfl rfl rfl rfl rfl rfl (q := i) rfl hi rfl ?_
        refine dexec_ok hT 100 ?_
        conv => arg 10; whnf
        refine dholds_load hT rfl rfl rfl rfl rfl rfl (v := .agg (B6.cells xs[i])) ?_ ?_ ?_
        · show 0 + i * 6 + 6 ≤ (boxes.all xs).length
          rw [boxes.all_len]
          have := Nat.mul_le_mul_right 6 (show i + 1 ≤ xs.length from hi)
          omega
        · show asVar _ (((boxes.all xs).drop (0 + i * 6)).take 6) = _
          rw [Nat.zero_add, boxes.get hg]; rfl
        refine dexec_ok hT 100 ?_
        conv => arg 10; whnf
        refine dholds_call rfl rfl ((shape_Carry m xs[i]).ro (free_mb _ _) (free_twoB _ _) _) rfl ?_
        refine dexec_ok hT 100 ?_
        conv => arg 10; whnf
        refine dholds_end mixed (by kernel_rfl) ?_
        refine exec_ok hT false 200 ?_
        conv => arg 4; whnf
        refine holds_drawStart 1 ?_
        refine dexec_ok hT 100 ?_
        conv => arg 10; whnf
        refine dholds_index hT rfl rfl rfl rfl rfl rfl rfl (q := i) rfl hi rfl ?_
        refine dexec_ok hT 100 ?_
        conv => arg 10; whnf
        refine dholds_load hT rfl rfl rfl rfl rfl rfl (v := .agg (B6.cells xs[i])) ?_ ?_ ?_
        · show 0 + i * 6 + 6 ≤ (boxes.all xs).length
          rw [boxes.all_len]
          have := Nat.mul_le_mul_right 6 (show i + 1 ≤ xs.length from hi)
          omega
        · show asVar _ (((boxes.all xs).drop (0 + i * 6)).take 6) = _
          rw [Nat.zero_add, boxes.get hg]; rfl
        refine dexec_ok hT 100 ?_
        conv => arg 10; whnf
        refine dholds_call rfl rfl ((ref04_Carry m xs[i]).ro (free_mb _ _) (free_twoB _ _) _) rfl ?_
        refine dexec_ok hT 100 ?_
        conv => arg 10; whnf
        refine dholds_end mixed (by kernel_rfl) ?_
        refine exec_ok hT false 200 ?_
        conv => arg 4; whnf
        refine holds_drawStart 0 ?_
        refine dexec_ok hT 100 ?_
        conv => arg 10; whnf
        refine dholds_index hT rfl rfl rfl rfl rfl rfl rfl (q := i) rfl hi rfl ?_
        refine dexec_ok hT 100 ?_
        conv => arg 10; whnf
        refine dholds_load hT rfl rfl rfl rfl rfl rfl (v := .agg (B6.cells xs[i])) ?_ ?_ ?_
        · show 0 + i * 6 + 6 ≤ (boxes.all xs).length
          rw [boxes.all_len]
          have := Nat.mul_le_mul_right 6 (show i + 1 ≤ xs.length from hi)
          omega
        · show asVar _ (((boxes.all xs).drop (0 + i * 6)).take 6) = _
          rw [Nat.zero_add, boxes.get hg]; rfl
        refine dexec_ok hT 100 ?_
        conv => arg 10; whnf
        refine dholds_call rfl rfl ((shape_Span p xs[i]).ro (free_pb _ _) (free_tri _ _ _) _) rfl ?_
        refine dexec_ok hT 100 ?_
        conv => arg 10; whnf
        refine dholds_end mixed (by kernel_rfl) ?_
        refine exec_ok hT false 200 ?_
        conv => arg 4; whnf
        refine holds_drawStart 0 ?_
        refine dexec_ok hT 100 ?_
        conv => arg 10; whnf
        refine dholds_index hT rfl rfl rfl rfl rfl rfl rfl (q := i) rfl hi rfl ?_
        refine dexec_ok hT 100 ?_
        conv => arg 10; whnf
        refine dholds_load hT rfl rfl rfl rfl rfl rfl (v := .agg (B6.cells xs[i])) ?_ ?_ ?_
        · show 0 + i * 6 + 6 ≤ (boxes.all xs).length
          rw [boxes.all_len]
          have := Nat.mul_le_mul_right 6 (show i + 1 ≤ xs.length from hi)
          omega
        · show asVar _ (((boxes.all xs).drop (0 + i * 6)).take 6) = _
          rw [Nat.zero_add, boxes.get hg]; rfl
        refine dexec_ok hT 100 ?_
        conv => arg 10; whnf
        refine dholds_call rfl rfl ((ref04_Span p xs[i]).ro (free_pb _ _) (free_tri _ _ _) _) rfl ?_
        refine dexec_ok hT 100 ?_
        conv => arg 10; whnf
        refine dholds_end mixed (by kernel_rfl) ?_
        refine exec_ok hT false 200 ?_
        conv => arg 4; whnf
        refine holds_drawStart 0 ?_
        refine dexec_ok hT 100 ?_
        conv => arg 10; whnf
        refine dholds_move hT false rfl rfl rfl rfl (by exact neB _) ?_
        refine dexec_ok hT 100 ?_
        conv => arg 10; whnf
        refine dholds_move hT false rfl rfl rfl rfl (by exact neI _) ?_
        refine dexec_ok hT 100 ?_
        conv => arg 10; whnf
        refine dholds_move hT false rfl rfl rfl rfl (by exact neI _) ?_
        refine dexec_ok hT 100 ?_
        conv => arg 10; whnf
        refine dholds_move hT false rfl rfl rfl rfl (by exact neI _) ?_
        refine dexec_ok hT 100 ?_
        conv => arg 10; whnf
        refine dholds_move hT false rfl rfl rfl rfl (by exact neI _) ?_
        refine dexec_ok hT 100 ?_
        conv => arg 10; whnf
        refine dholds_index hT rfl rfl rfl rfl rfl rfl rfl (q := i) rfl hi rfl ?_
        refine dexec_ok hT 100 ?_
        conv => arg 10; whnf
        refine dholds_load hT rfl rfl rfl rfl rfl rfl (v := .agg (B6.cells xs[i])) ?_ ?_ ?_
        · show 0 + i * 6 + 6 ≤ (boxes.all xs).length
          rw [boxes.all_len]
          have := Nat.mul_le_mul_right 6 (show i + 1 ≤ xs.length from hi)
          omega
        · show asVar _ (((boxes.all xs).drop (0 + i * 6)).take 6) = _
          rw [Nat.zero_add, boxes.get hg]; rfl
        refine dexec_ok hT 100 ?_
        conv => arg 10; whnf
        refine dholds_call rfl rfl ((shape_In xs[i] p.n).ro (free_bv _ _) (free_bo _) _) rfl ?_
        refine dexec_ok hT 100 ?_
        conv => arg 10; whnf
        refine dholds_index hT rfl rfl rfl rfl rfl rfl rfl (q := i) rfl hi rfl ?_
        refine dexec_ok hT 100 ?_
        conv => arg 10; whnf
        refine dholds_load hT rfl rfl rfl rfl rfl rfl (v := .agg (B6.cells xs[i])) ?_ ?_ ?_
        · show 0 + i * 6 + 6 ≤ (boxes.all xs).length
          rw [boxes.all_len]
          have := Nat.mul_le_mul_right 6 (show i + 1 ≤ xs.length from hi)
          omega
        · show asVar _ (((boxes.all xs).drop (0 + i * 6)).take 6) = _
          rw [Nat.zero_add, boxes.get hg]; rfl
        refine dexec_ok hT 100 ?_
        conv => arg 10; whnf
        refine dholds_call rfl rfl ((ref04_In xs[i] p.n).ro (free_bv _ _) (free_bo _) _) rfl ?_
        refine dexec_ok hT 100 ?_
        conv => arg 10; whnf
        refine dholds_end mixed (by kernel_rfl) ?_
        refine exec_ok hT false 200 ?_
        conv => arg 4; whnf
        refine holds_bool 163 rfl (r := false) (by exact neO _) ?_
        refine exec_ok hT false 200 ?_
        conv => arg 4; whnf
        refine holds_drawStart 0 ?_
        refine dexec_ok hT 100 ?_
        conv => arg 10; whnf
        refine dholds_index hT rfl rfl rfl rfl rfl rfl rfl (q := i) rfl hi rfl ?_
        refine dexec_ok hT 100 ?_
        conv => arg 10; whnf
        refine dholds_load hT rfl rfl rfl rfl rfl rfl (v := .agg (V3.cells xs[i].hi)) ?_ ?_ ?_
        · show 0 + i * 6 + 3 + 3 ≤ (boxes.all xs).length
          rw [boxes.all_len]
          have := Nat.mul_le_mul_right 6 (show i + 1 ≤ xs.length from hi)
          omega
        · show asVar _ (((boxes.all xs).drop (0 + i * 6 + 3)).take 3) = _
          rw [Nat.zero_add, boxes.getR (k := 3) (m := 3) hg (by decide)]; rfl
        refine dexec_ok hT 100 ?_
        conv => arg 10; whnf
        refine dholds_call rfl rfl ((shape_Distance p xs[i].hi).ro (free_pv _ _) (free_two _ _) _) rfl ?_
        refine dexec_ok hT 100 ?_
        conv => arg 10; whnf
        refine dholds_end mixed (by kernel_rfl) ?_
        refine exec_ok hT false 200 ?_
        conv => arg 4; whnf
        refine holds_drawStart 0 ?_
        refine dexec_ok hT 100 ?_
        conv => arg 10; whnf
        refine dholds_index hT rfl rfl rfl rfl rfl rfl rfl (q := i) rfl hi rfl ?_
        refine dexec_ok hT 100 ?_
        conv => arg 10; whnf
        refine dholds_load hT rfl rfl rfl rfl rfl rfl (v := .agg (V3.cells xs[i].hi)) ?_ ?_ ?_
        · show 0 + i * 6 + 3 + 3 ≤ (boxes.all xs).length
          rw [boxes.all_len]
          have := Nat.mul_le_mul_right 6 (show i + 1 ≤ xs.length from hi)
          omega
        · show asVar _ (((boxes.all xs).drop (0 + i * 6 + 3)).take 3) = _
          rw [Nat.zero_add, boxes.getR (k := 3) (m := 3) hg (by decide)]; rfl
        refine dexec_ok hT 100 ?_
        conv => arg 10; whnf
        refine dholds_call rfl rfl ((ref04_Distance p xs[i].hi).ro (free_pv _ _) (free_two _ _) _) rfl ?_
        refine dexec_ok hT 100 ?_
        conv => arg 10; whnf
        refine dholds_end mixed (by kernel_rfl) ?_
        refine exec_ok hT false 200 ?_
        conv => arg 4; whnf
        refine holds_bool 187 rfl (r := false) (by exact neI _) ?_
        refine exec_ok hT false 200 ?_
        conv => arg 4; whnf
        refine holds_bool 191 rfl (r := false) (by exact neI _) ?_
        refine exec_ok hT false 200 ?_
        conv => arg 4; whnf
        refine holds_ren id _ _ rfl rfl rfl ?_ ?_ (next trivial)
        · exact ⟨⟨(by simp [LV.In, LA.In, LA.cells, LC.In, LC.refs]), _, rfl, fun _ => congrArg (Value.int .i64) (wrap_succ hi hn).symm⟩, ⟨(by simp [LV.In, LA.In, LA.cells, LC.In, LC.refs]), _, rfl, fun _ => rfl⟩, ⟨(by simp [LV.In, LA.In, LA.cells, LC.In, LC.refs]), _, rfl, fun _ => rfl⟩, ⟨(by simp [LV.In, LA.In, LA.cells, LC.In, LC.refs]), _, rfl, fun _ => rfl⟩, trivial⟩
        · exact ⟨⟨_, rfl, rfl, rfl, ⟨rfl, fun _ => boxes.den_all _ _ _⟩, boxes.all_in _ _⟩, ⟨_, rfl, rfl, rfl, ⟨rfl, fun _ => rfl⟩, lit_in rfl _⟩, ⟨_, rfl, rfl, rfl, ⟨rfl, fun _ => rfl⟩, lit_in rfl _⟩, trivial⟩
      · intro _
        refine exec_ok hT false 200 ?_
        conv => arg 4; whnf
        refine holds_bool 83 rfl (r := false) (decide_eq_false (by show ¬ (xs.length : Int) < (xs.length : Int); omega)) ?_
        refine exec_ok hT false 200 ?_
        conv => arg 4; whnf
        refine holds_call rfl rfl rfl (law04_alive.any free0 (free_bo _) _) rfl (by show 192 < 193; decide) ?_
        rintro _ _ ⟨rfl, rfl⟩
        refine exec_ok hT false 200 ?_
        conv => arg 4; whnf
        exact holds_ret (ret_pure (.inl rfl) rfl (fun _ => rfl) (free_bo _) rfl (sc1 _ _ _))
  · refine holds_bool 31 rfl (r := true) (decide_eq_true (by show ((xs.length : Int) > 60); omega)) ?_
    refine exec_ok hT false 200 ?_
    conv => arg 4; whnf
    refine holds_call rfl rfl rfl (law04_alive.any free0 (free_bo _) _) rfl (by show 32 < 193; decide) ?_
    rintro _ _ ⟨rfl, rfl⟩
    refine exec_ok hT false 200 ?_
    conv => arg 4; whnf
    exact holds_ret (ret_pure (.inl rfl) rfl (fun _ => rfl) (free_bo _) rfl (sc1 _ _ _))
theorem shape_Join0 (A : Option Addr) (c : Nat) : LPure Try.prog 74 [emp A c] (twoB zeroB 1) := by
  refine LCall.of hT Try.func74 rfl (by kernel_rfl) (by show 1 ≤ 40; decide) (fun η w => ?_)
  refine exec_ok hT true 200 ?_
  conv => arg 4; whnf
  exact holds_ret (ret_pure (.inl rfl) rfl (fun _ => rfl) (free_twoB _ _) rfl (nosc))
theorem ref04_Join0 (A : Option Addr) (c : Nat) : LPure Try.prog 75 [emp A c] (twoB zeroB 1) := by
  refine LCall.of hT Try.func75 rfl (by kernel_rfl) (by show 1 ≤ 47; decide) (fun η w => ?_)
  refine exec_ok hT true 200 ?_
  conv => arg 4; whnf
  exact holds_ret (ret_pure (.inl rfl) rfl (fun _ => rfl) (free_twoB _ _) rfl (nosc))
set_option maxHeartbeats 2000000 in
theorem law_ShapeTells0 (A : Option Addr) (c : Nat) (m : M12) (p : Pl) : LPure Try.prog 12 [emp A c, m.val, p.val] (bo true) := by
  refine LCall.of hT Try.func12 rfl (by kernel_rfl) (by show 3 ≤ 193; decide) (fun η w => ?_)
  refine exec_ok hT true 200 ?_
  conv => arg 4; whnf
  refine holds_call rfl rfl rfl ((shape_Join0 A c).any (free1 (free_emp _ _)) (free_twoB _ _) _) rfl (by show 50 < 193; decide) ?_
  rintro _ _ ⟨rfl, rfl⟩
  refine exec_ok hT true 200 ?_
  conv => arg 4; whnf
  refine holds_call rfl rfl rfl ((ref04_Join0 A c).any (free1 (free_emp _ _)) (free_twoB _ _) _) rfl (by show 55 < 193; decide) ?_
  rintro _ _ ⟨rfl, rfl⟩
  refine exec_ok hT true 200 ?_
  conv => arg 4; whnf
  refine holds_drawStart 1 ?_
  refine dexec_ok hT 100 ?_
  conv => arg 10; whnf
  refine dholds_move hT false rfl rfl rfl rfl (by exact neB _) ?_
  refine dexec_ok hT 100 ?_
  conv => arg 10; whnf
  refine dholds_move hT false rfl rfl rfl rfl (by exact neI _) ?_
  refine dexec_ok hT 100 ?_
  conv => arg 10; whnf
  refine dholds_call rfl rfl ((all0_B A c).ro (free1 (free_emp _ _)) (free_bo _) _) rfl ?_
  refine dexec_ok hT 100 ?_
  conv => arg 10; whnf
  refine dholds_move hT false rfl rfl rfl rfl (rfl) ?_
  refine dexec_ok hT 100 ?_
  conv => arg 10; whnf
  refine dholds_call rfl rfl (ro_P (len := .lit 1) [p] (by simp) rfl rfl (by exact Nat.le_refl 4) (fun _ => rfl) rfl) rfl ?_
  refine dexec_ok hT 100 ?_
  conv => arg 10; whnf
  refine dholds_call rfl rfl ((ref04_Plane p).ro (free1 (free_P _)) (free_bo _) _) rfl ?_
  refine dexec_ok hT 100 ?_
  conv => arg 10; whnf
  refine dholds_end mixed (by kernel_rfl) ?_
  refine exec_ok hT true 200 ?_
  conv => arg 4; whnf
  refine holds_bool 79 rfl (r := false) (by show (!(([p].all planeOk) == planeOk p)) = false; simp) ?_
  refine exec_ok hT true 200 ?_
  conv => arg 4; whnf
  refine holds_call rfl rfl rfl (law04_alive.any free0 (free_bo _) _) rfl (by show 192 < 193; decide) ?_
  rintro _ _ ⟨rfl, rfl⟩
  refine exec_ok hT true 200 ?_
  conv => arg 4; whnf
  exact holds_ret (ret_pure (.inl rfl) rfl (fun _ => rfl) (free_bo _) rfl (nosc))
end Go.Proofs.Ytbkcaedlijhnlaa.LB
