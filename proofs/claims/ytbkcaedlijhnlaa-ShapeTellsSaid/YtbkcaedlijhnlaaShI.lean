/- The law of what is inside. -/
import Derived.Test.YtbkcaedlijhnlaaShP
import Derived.Test.YtbkcaedlijhnlaaAf4
namespace Go.Proofs.Ytbkcaedlijhnlaa.LB
open Go Go.RowKit
abbrev litv (xs : List Int) : LV := .a (.agg (xs.map fun x => .int .i64 (.lit x)))
theorem free_litv (xs : List Int) : (litv xs).free := free_ints (by simp [LC.refs])
def sB : B6 := ⟨⟨0, 0, 0⟩, ⟨65536, 131072, 0⟩⟩
def sP : Pl := ⟨⟨65536, -65536, 0⟩, 5⟩
set_option maxHeartbeats 2000000 in
set_option maxRecDepth 8000 in
theorem law04_alive : LPure Try.prog 72 [] (bo true) := by
  refine LCall.of hT Try.func72 rfl (by kernel_rfl) (by show 0 ≤ 55; decide) (fun η w => ?_)
  refine exec_ok hT true 200 ?_
  conv => arg 4; whnf
  refine holds_drawStart 1 ?_
  refine dexec_ok hT 100 ?_
  conv => arg 10; whnf
  refine dholds_call rfl rfl (ref03_Turn.ro (free1 (free_lit _)) (free_M _) _) rfl ?_
  refine dexec_ok hT 100 ?_
  conv => arg 10; whnf
  refine dholds_call rfl rfl ((shape_Carry turnM sB).roin (free_mb _ _) (free3 (free_M turnM) (free_litv [0, 0, 0, 65536, 131072, 0])) (free_twoB _ _) (fun _ => rfl)) rfl ?_
  refine dexec_ok hT 100 ?_
  conv => arg 10; whnf
  refine dholds_end mixed (by kernel_rfl) ?_
  refine exec_ok hT true 200 ?_
  conv => arg 4; whnf
  refine holds_call rfl rfl rfl ((shape_Span sP sB).inn (free_pb _ _) (free3 (free_litv [65536, -65536, 0, 5]) (free_litv [0, 0, 0, 65536, 131072, 0])) (free_tri _ _ _) (fun _ => rfl)) rfl (by show 19 < 55; decide) ?_
  rintro _ _ ⟨rfl, rfl⟩
  refine exec_ok hT true 200 ?_
  conv => arg 4; whnf
  refine holds_bool 25 rfl (r := true) (by kernel_rfl) ?_
  refine exec_ok hT true 200 ?_
  conv => arg 4; whnf
  refine holds_bool 32 rfl (r := true) (by kernel_rfl) ?_
  refine exec_ok hT true 200 ?_
  conv => arg 4; whnf
  refine holds_bool 36 rfl (r := true) (by kernel_rfl) ?_
  refine exec_ok hT true 200 ?_
  conv => arg 4; whnf
  refine holds_bool 40 rfl (r := true) (by kernel_rfl) ?_
  refine exec_ok hT true 200 ?_
  conv => arg 4; whnf
  refine holds_bool 44 rfl (r := true) (by kernel_rfl) ?_
  refine exec_ok hT true 200 ?_
  conv => arg 4; whnf
  refine holds_call rfl rfl rfl ((shape_In sB ⟨3, 4, 0⟩).inn (free_bv _ _) (free3 (free_litv [0, 0, 0, 65536, 131072, 0]) (free_litv [3, 4, 0])) (free_bo _) (fun _ => rfl)) rfl (by show 47 < 55; decide) ?_
  rintro _ _ ⟨rfl, rfl⟩
  refine exec_ok hT true 200 ?_
  conv => arg 4; whnf
  refine holds_bool 49 rfl (r := true) (by kernel_rfl) ?_
  refine exec_ok hT true 200 ?_
  conv => arg 4; whnf
  refine holds_call rfl rfl rfl ((shape_In sB ⟨3, 4, 1⟩).inn (free_bv _ _) (free3 (free_litv [0, 0, 0, 65536, 131072, 0]) (free_litv [3, 4, 1])) (free_bo _) (fun _ => rfl)) rfl (by show 52 < 55; decide) ?_
  rintro _ _ ⟨rfl, rfl⟩
  refine exec_ok hT true 200 ?_
  conv => arg 4; whnf
  exact holds_ret (ret_pure (.inl rfl) rfl (fun _ => by kernel_rfl) (free_bo _) rfl (nosc))
theorem ofZ {e : Int} (h : (e == 0) = true) : e = 0 := by simpa using h
set_option maxHeartbeats 4000000 in
set_option maxRecDepth 20000 in
theorem law_ShapeInside (b0 b1 : B6) (m : M12) (p0 p1 : Pl) : LPure Try.prog 14 [.a (.agg (b0.cells ++ b1.cells)), m.val, .a (.agg (p0.cells ++ p1.cells))] (bo true) := by
  refine LCall.of hT Try.func14 rfl (by kernel_rfl) (by show 3 ≤ 104; decide) (fun η w => ?_)
  refine exec_ok hT true 200 ?_
  conv => arg 4; whnf
  refine holds_call rfl rfl rfl ((shape_In b0 p0.n).any (free_bv _ _) (free_bo _) _) rfl (by show 30 < 104; decide) ?_
  rintro _ _ ⟨rfl, rfl⟩
  refine exec_ok hT true 200 ?_
  conv => arg 4; whnf
  cases hin : inB b0 p0.n
  · refine holds_bool 31 rfl (r := true) (rfl) ?_
    refine exec_ok hT true 200 ?_
    conv => arg 4; whnf
    refine holds_call rfl rfl rfl (law04_alive.any free0 (free_bo _) _) rfl (by show 32 < 104; decide) ?_
    rintro _ _ ⟨rfl, rfl⟩
    refine exec_ok hT true 200 ?_
    conv => arg 4; whnf
    exact holds_ret (ret_pure (.inl rfl) rfl (fun _ => rfl) (free_bo _) rfl (nosc))
  · refine holds_bool 31 rfl (r := false) (rfl) ?_
    refine exec_ok hT true 200 ?_
    conv => arg 4; whnf
    have hv := inB_iff.1 hin
    refine holds_call rfl rfl rfl ((shape_Carry m b0).any (free_mb _ _) (free_twoB _ _) _) rfl (by show 36 < 104; decide) ?_
    rintro _ _ ⟨rfl, rfl⟩
    refine exec_ok hT true 200 ?_
    conv => arg 4; whnf
    refine holds_call rfl rfl rfl ((affine_Apply m p0.n).any (free3 (free_M _) (free_V _)) (free_twoV _ _) _) rfl (by show 42 < 104; decide) ?_
    rintro _ _ ⟨rfl, rfl⟩
    refine exec_ok hT true 200 ?_
    conv => arg 4; whnf
    apply holds_cut
    · intro rest
      cases hc : (carryE m b0 == 0)
      · refine holds_bool 47 rfl (r := false) (hc) ?_
        refine exec_ok hT true 200 ?_
        conv => arg 4; whnf
        refine holds_keep [3, 7, 8, 9, 58, 59] ?_
        conv => arg 4; whnf
        exact rest
      · refine holds_bool 47 rfl (r := true) (hc) ?_
        refine exec_ok hT true 200 ?_
        conv => arg 4; whnf
        obtain ⟨a1, a2⟩ := carry_in (ofZ hc) hv
        refine holds_bool 50 rfl (r := false) (by show (appE m p0.n != 0) = false; rw [a1]; rfl) ?_
        refine exec_ok hT true 200 ?_
        conv => arg 4; whnf
        refine holds_call rfl rfl rfl ((shape_In (carryV m b0) (appV m p0.n)).any (free_bv _ _) (free_bo _) _) rfl (by show 53 < 104; decide) ?_
        rintro _ _ ⟨rfl, rfl⟩
        refine exec_ok hT true 200 ?_
        conv => arg 4; whnf
        refine holds_bool 56 rfl (r := false) (congrArg (fun b => !b) a2) ?_
        refine exec_ok hT true 200 ?_
        conv => arg 4; whnf
        refine holds_keep [3, 7, 8, 9, 58, 59] ?_
        conv => arg 4; whnf
        exact rest
    · refine holds_call rfl rfl rfl ((shape_Span p1 b0).any (free_pb _ _) (free_tri _ _ _) _) rfl (by show 60 < 104; decide) ?_
      rintro _ _ ⟨rfl, rfl⟩
      refine exec_ok hT true 200 ?_
      conv => arg 4; whnf
      refine holds_call rfl rfl rfl ((shape_Distance p1 p0.n).any (free_pv _ _) (free_two _ _) _) rfl (by show 67 < 104; decide) ?_
      rintro _ _ ⟨rfl, rfl⟩
      refine exec_ok hT true 200 ?_
      conv => arg 4; whnf
      apply holds_cut
      · intro rest
        cases hs : (spanE p1 b0 == 0)
        · refine holds_bool 72 rfl (r := false) (hs) ?_
          refine exec_ok hT true 200 ?_
          conv => arg 4; whnf
          refine holds_keep [8, 90] ?_
          conv => arg 4; whnf
          exact rest
        · refine holds_bool 72 rfl (r := true) (hs) ?_
          refine exec_ok hT true 200 ?_
          conv => arg 4; whnf
          cases hd : (distE p1 p0.n == 0)
          · refine holds_bool 76 rfl (r := false) (hd) ?_
            refine exec_ok hT true 200 ?_
            conv => arg 4; whnf
            refine holds_keep [8, 90] ?_
            conv => arg 4; whnf
            exact rest
          · refine holds_bool 76 rfl (r := true) (hd) ?_
            refine exec_ok hT true 200 ?_
            conv => arg 4; whnf
            obtain ⟨a1, a2⟩ := span_in (ofZ hs) (ofZ hd) hv
            refine holds_bool 80 rfl (r := false) (decide_eq_false (by show ¬ distV p1 p0.n < spanLo p1 b0; omega)) ?_
            refine exec_ok hT true 200 ?_
            conv => arg 4; whnf
            refine holds_bool 85 rfl (r := false) (decide_eq_false (by show ¬ distV p1 p0.n > spanHi p1 b0; omega)) ?_
            refine exec_ok hT true 200 ?_
            conv => arg 4; whnf
            refine holds_keep [8, 90] ?_
            conv => arg 4; whnf
            exact rest
      · refine holds_call rfl rfl rfl ((ro_Join2 (len := .lit 2) b0 b1 rfl rfl (by exact Nat.le_refl 12) (fun _ => rfl) rfl).call) rfl (by show 91 < 104; decide) ?_
        rintro _ _ ⟨rfl, rfl⟩
        refine exec_ok hT true 200 ?_
        conv => arg 4; whnf
        refine holds_call rfl rfl rfl (law04_alive.any free0 (free_bo _) _) rfl (by show 94 < 104; decide) ?_
        rintro _ _ ⟨rfl, rfl⟩
        refine exec_ok hT true 200 ?_
        conv => arg 4; whnf
        refine holds_bool 95 rfl (r := true) (rfl) ?_
        refine exec_ok hT true 200 ?_
        conv => arg 4; whnf
        cases hj : (joinE b0 b1 != 0)
        · refine holds_bool 98 rfl (r := false) (hj) ?_
          refine exec_ok hT true 200 ?_
          conv => arg 4; whnf
          refine holds_call rfl rfl rfl ((shape_In (joinV b0 b1) p0.n).any (free_bv _ _) (free_bo _) _) rfl (by show 101 < 104; decide) ?_
          rintro _ _ ⟨rfl, rfl⟩
          refine exec_ok hT true 200 ?_
          conv => arg 4; whnf
          exact holds_ret (ret_pure (.inl rfl) rfl (fun _ => (congrArg Value.bool (join_in (eq_of_ne hj) hv)).symm) (free_bo _) rfl (nosc))
        · refine holds_bool 98 rfl (r := true) (hj) ?_
          refine exec_ok hT true 200 ?_
          conv => arg 4; whnf
          exact holds_ret (ret_pure (.inl rfl) rfl (fun _ => rfl) (free_bo _) rfl (nosc))
end Go.Proofs.Ytbkcaedlijhnlaa.LB
