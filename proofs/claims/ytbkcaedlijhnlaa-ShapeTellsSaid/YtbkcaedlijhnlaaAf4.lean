/- The matrices' functions: products. -/
import Derived.Test.YtbkcaedlijhnlaaAf3
namespace Go.Proofs.Ytbkcaedlijhnlaa.LB
open Go Go.RowKit
def mvOf (a : M12) (i j : Nat) : Int := if j = 3 then a.mv i else 0
def cellV (a b : M12) (i j : Nat) : Int := prodV (a.row i) (b.col j) (mvOf a i j)
def cellE (a b : M12) (i j : Nat) : Int := prodE (a.row i) (b.col j) (mvOf a i j)
def twoE (a b : M12) : Int := firstE [cellE a b 0 0, cellE a b 0 1, cellE a b 0 2, cellE a b 0 3, cellE a b 1 0, cellE a b 1 1, cellE a b 1 2, cellE a b 1 3, cellE a b 2 0, cellE a b 2 1, cellE a b 2 2, cellE a b 2 3]
def twoP (a b : M12) : M12 := cond (twoE a b != 0) zeroM ⟨cellV a b 0 0, cellV a b 0 1, cellV a b 0 2, cellV a b 0 3, cellV a b 1 0, cellV a b 1 1, cellV a b 1 2, cellV a b 1 3, cellV a b 2 0, cellV a b 2 1, cellV a b 2 2, cellV a b 2 3⟩
theorem free_vvl (a b : V3) (m : Int) : ∀ x ∈ [a.val, b.val, (LV.a (.c (.int .i64 (.lit m))))], x.free := fun x hx => by
  simp at hx; rcases hx with rfl | rfl | rfl
  · exact free_V a
  · exact free_V b
  · exact free_lit m
theorem free_mm (a b : M12) : ∀ x ∈ [a.val, b.val], x.free := free3 (free_M a) (free_M b)
set_option maxHeartbeats 4000000 in
set_option maxRecDepth 8000 in
theorem affine_two (a b : M12) : LPure Try.prog 120 [a.val, b.val] (twoM (twoP a b) (twoE a b)) := by
  refine LCall.of hT Try.func120 rfl (by kernel_rfl) (by show 2 ≤ 49; decide) (fun η w => ?_)
  refine exec_ok hT true 200 ?_
  conv => arg 4; whnf
  refine holds_drawStart 0 ?_
  refine dexec_ok hT 100 ?_
  conv => arg 10; whnf
  refine dholds_call rfl rfl ((affine_row0 a).ro (free_ml _ _) (free_V _) _) rfl ?_
  refine dexec_ok hT 100 ?_
  conv => arg 10; whnf
  refine dholds_call rfl rfl ((affine_column0 b).ro (free_ml _ _) (free_V _) _) rfl ?_
  refine dexec_ok hT 100 ?_
  conv => arg 10; whnf
  refine dholds_call rfl rfl ((affine_product (a.row 0) (b.col 0) (mvOf a 0 0)).roin (free_vvm _ _ _) (free_vvl _ _ _) (free_two _ _) (fun _ => rfl)) rfl ?_
  refine dexec_ok hT 100 ?_
  conv => arg 10; whnf
  refine dholds_end mixed (by kernel_rfl) ?_
  refine exec_ok hT true 200 ?_
  conv => arg 4; whnf
  cases h00 : (cellE a b 0 0 != 0)
  · refine holds_bool 37 rfl (r := false) (h00) ?_
    refine exec_ok hT true 200 ?_
    conv => arg 4; whnf
    refine holds_drawStart 0 ?_
    refine dexec_ok hT 100 ?_
    conv => arg 10; whnf
    refine dholds_call rfl rfl ((affine_row0 a).ro (free_ml _ _) (free_V _) _) rfl ?_
    refine dexec_ok hT 100 ?_
    conv => arg 10; whnf
    refine dholds_call rfl rfl ((affine_column1 b).ro (free_ml _ _) (free_V _) _) rfl ?_
    refine dexec_ok hT 100 ?_
    conv => arg 10; whnf
    refine dholds_call rfl rfl ((affine_product (a.row 0) (b.col 1) (mvOf a 0 1)).roin (free_vvm _ _ _) (free_vvl _ _ _) (free_two _ _) (fun _ => rfl)) rfl ?_
    refine dexec_ok hT 100 ?_
    conv => arg 10; whnf
    refine dholds_end mixed (by kernel_rfl) ?_
    refine exec_ok hT true 200 ?_
    conv => arg 4; whnf
    cases h01 : (cellE a b 0 1 != 0)
    · refine holds_bool 37 rfl (r := false) (h01) ?_
      refine exec_ok hT true 200 ?_
      conv => arg 4; whnf
      refine holds_drawStart 0 ?_
      refine dexec_ok hT 100 ?_
      conv => arg 10; whnf
      refine dholds_call rfl rfl ((affine_row0 a).ro (free_ml _ _) (free_V _) _) rfl ?_
      refine dexec_ok hT 100 ?_
      conv => arg 10; whnf
      refine dholds_call rfl rfl ((affine_column2 b).ro (free_ml _ _) (free_V _) _) rfl ?_
      refine dexec_ok hT 100 ?_
      conv => arg 10; whnf
      refine dholds_call rfl rfl ((affine_product (a.row 0) (b.col 2) (mvOf a 0 2)).roin (free_vvm _ _ _) (free_vvl _ _ _) (free_two _ _) (fun _ => rfl)) rfl ?_
      refine dexec_ok hT 100 ?_
      conv => arg 10; whnf
      refine dholds_end mixed (by kernel_rfl) ?_
      refine exec_ok hT true 200 ?_
      conv => arg 4; whnf
      cases h02 : (cellE a b 0 2 != 0)
      · refine holds_bool 37 rfl (r := false) (h02) ?_
        refine exec_ok hT true 200 ?_
        conv => arg 4; whnf
        refine holds_drawStart 0 ?_
        refine dexec_ok hT 100 ?_
        conv => arg 10; whnf
        refine dholds_call rfl rfl ((affine_row0 a).ro (free_ml _ _) (free_V _) _) rfl ?_
        refine dexec_ok hT 100 ?_
        conv => arg 10; whnf
        refine dholds_call rfl rfl ((affine_column3 b).ro (free_ml _ _) (free_V _) _) rfl ?_
        refine dexec_ok hT 100 ?_
        conv => arg 10; whnf
        refine dholds_call rfl rfl ((affine_product (a.row 0) (b.col 3) (mvOf a 0 3)).roin (free_vvm _ _ _) (free_vvm _ _ _) (free_two _ _) (fun _ => rfl)) rfl ?_
        refine dexec_ok hT 100 ?_
        conv => arg 10; whnf
        refine dholds_end mixed (by kernel_rfl) ?_
        refine exec_ok hT true 200 ?_
        conv => arg 4; whnf
        cases h03 : (cellE a b 0 3 != 0)
        · refine holds_bool 37 rfl (r := false) (h03) ?_
          refine exec_ok hT true 200 ?_
          conv => arg 4; whnf
          refine holds_drawStart 0 ?_
          refine dexec_ok hT 100 ?_
          conv => arg 10; whnf
          refine dholds_call rfl rfl ((affine_row1 a).ro (free_ml _ _) (free_V _) _) rfl ?_
          refine dexec_ok hT 100 ?_
          conv => arg 10; whnf
          refine dholds_call rfl rfl ((affine_column0 b).ro (free_ml _ _) (free_V _) _) rfl ?_
          refine dexec_ok hT 100 ?_
          conv => arg 10; whnf
          refine dholds_call rfl rfl ((affine_product (a.row 1) (b.col 0) (mvOf a 1 0)).roin (free_vvm _ _ _) (free_vvl _ _ _) (free_two _ _) (fun _ => rfl)) rfl ?_
          refine dexec_ok hT 100 ?_
          conv => arg 10; whnf
          refine dholds_end mixed (by kernel_rfl) ?_
          refine exec_ok hT true 200 ?_
          conv => arg 4; whnf
          cases h10 : (cellE a b 1 0 != 0)
          · refine holds_bool 37 rfl (r := false) (h10) ?_
            refine exec_ok hT true 200 ?_
            conv => arg 4; whnf
            refine holds_drawStart 0 ?_
            refine dexec_ok hT 100 ?_
            conv => arg 10; whnf
            refine dholds_call rfl rfl ((affine_row1 a).ro (free_ml _ _) (free_V _) _) rfl ?_
            refine dexec_ok hT 100 ?_
            conv => arg 10; whnf
            refine dholds_call rfl rfl ((affine_column1 b).ro (free_ml _ _) (free_V _) _) rfl ?_
            refine dexec_ok hT 100 ?_
            conv => arg 10; whnf
            refine dholds_call rfl rfl ((affine_product (a.row 1) (b.col 1) (mvOf a 1 1)).roin (free_vvm _ _ _) (free_vvl _ _ _) (free_two _ _) (fun _ => rfl)) rfl ?_
            refine dexec_ok hT 100 ?_
            conv => arg 10; whnf
            refine dholds_end mixed (by kernel_rfl) ?_
            refine exec_ok hT true 200 ?_
            conv => arg 4; whnf
            cases h11 : (cellE a b 1 1 != 0)
            · refine holds_bool 37 rfl (r := false) (h11) ?_
              refine exec_ok hT true 200 ?_
              conv => arg 4; whnf
              refine holds_drawStart 0 ?_
              refine dexec_ok hT 100 ?_
              conv => arg 10; whnf
              refine dholds_call rfl rfl ((affine_row1 a).ro (free_ml _ _) (free_V _) _) rfl ?_
              refine dexec_ok hT 100 ?_
              conv => arg 10; whnf
              refine dholds_call rfl rfl ((affine_column2 b).ro (free_ml _ _) (free_V _) _) rfl ?_
              refine dexec_ok hT 100 ?_
              conv => arg 10; whnf
              refine dholds_call rfl rfl ((affine_product (a.row 1) (b.col 2) (mvOf a 1 2)).roin (free_vvm _ _ _) (free_vvl _ _ _) (free_two _ _) (fun _ => rfl)) rfl ?_
              refine dexec_ok hT 100 ?_
              conv => arg 10; whnf
              refine dholds_end mixed (by kernel_rfl) ?_
              refine exec_ok hT true 200 ?_
              conv => arg 4; whnf
              cases h12 : (cellE a b 1 2 != 0)
              · refine holds_bool 37 rfl (r := false) (h12) ?_
                refine exec_ok hT true 200 ?_
                conv => arg 4; whnf
                refine holds_drawStart 0 ?_
                refine dexec_ok hT 100 ?_
                conv => arg 10; whnf
                refine dholds_call rfl rfl ((affine_row1 a).ro (free_ml _ _) (free_V _) _) rfl ?_
                refine dexec_ok hT 100 ?_
                conv => arg 10; whnf
                refine dholds_call rfl rfl ((affine_column3 b).ro (free_ml _ _) (free_V _) _) rfl ?_
                refine dexec_ok hT 100 ?_
                conv => arg 10; whnf
                refine dholds_call rfl rfl ((affine_product (a.row 1) (b.col 3) (mvOf a 1 3)).roin (free_vvm _ _ _) (free_vvm _ _ _) (free_two _ _) (fun _ => rfl)) rfl ?_
                refine dexec_ok hT 100 ?_
                conv => arg 10; whnf
                refine dholds_end mixed (by kernel_rfl) ?_
                refine exec_ok hT true 200 ?_
                conv => arg 4; whnf
                cases h13 : (cellE a b 1 3 != 0)
                · refine holds_bool 37 rfl (r := false) (h13) ?_
                  refine exec_ok hT true 200 ?_
                  conv => arg 4; whnf
                  refine holds_drawStart 0 ?_
                  refine dexec_ok hT 100 ?_
                  conv => arg 10; whnf
                  refine dholds_call rfl rfl ((affine_row2 a).ro (free_ml _ _) (free_V _) _) rfl ?_
                  refine dexec_ok hT 100 ?_
                  conv => arg 10; whnf
                  refine dholds_call rfl rfl ((affine_column0 b).ro (free_ml _ _) (free_V _) _) rfl ?_
                  refine dexec_ok hT 100 ?_
                  conv => arg 10; whnf
                  refine dholds_call rfl rfl ((affine_product (a.row 2) (b.col 0) (mvOf a 2 0)).roin (free_vvm _ _ _) (free_vvl _ _ _) (free_two _ _) (fun _ => rfl)) rfl ?_
                  refine dexec_ok hT 100 ?_
                  conv => arg 10; whnf
                  refine dholds_end mixed (by kernel_rfl) ?_
                  refine exec_ok hT true 200 ?_
                  conv => arg 4; whnf
                  cases h20 : (cellE a b 2 0 != 0)
                  · refine holds_bool 37 rfl (r := false) (h20) ?_
                    refine exec_ok hT true 200 ?_
                    conv => arg 4; whnf
                    refine holds_drawStart 0 ?_
                    refine dexec_ok hT 100 ?_
                    conv => arg 10; whnf
                    refine dholds_call rfl rfl ((affine_row2 a).ro (free_ml _ _) (free_V _) _) rfl ?_
                    refine dexec_ok hT 100 ?_
                    conv => arg 10; whnf
                    refine dholds_call rfl rfl ((affine_column1 b).ro (free_ml _ _) (free_V _) _) rfl ?_
                    refine dexec_ok hT 100 ?_
                    conv => arg 10; whnf
                    refine dholds_call rfl rfl ((affine_product (a.row 2) (b.col 1) (mvOf a 2 1)).roin (free_vvm _ _ _) (free_vvl _ _ _) (free_two _ _) (fun _ => rfl)) rfl ?_
                    refine dexec_ok hT 100 ?_
                    conv => arg 10; whnf
                    refine dholds_end mixed (by kernel_rfl) ?_
                    refine exec_ok hT true 200 ?_
                    conv => arg 4; whnf
                    cases h21 : (cellE a b 2 1 != 0)
                    · refine holds_bool 37 rfl (r := false) (h21) ?_
                      refine exec_ok hT true 200 ?_
                      conv => arg 4; whnf
                      refine holds_drawStart 0 ?_
                      refine dexec_ok hT 100 ?_
                      conv => arg 10; whnf
                      refine dholds_call rfl rfl ((affine_row2 a).ro (free_ml _ _) (free_V _) _) rfl ?_
                      refine dexec_ok hT 100 ?_
                      conv => arg 10; whnf
                      refine dholds_call rfl rfl ((affine_column2 b).ro (free_ml _ _) (free_V _) _) rfl ?_
                      refine dexec_ok hT 100 ?_
                      conv => arg 10; whnf
                      refine dholds_call rfl rfl ((affine_product (a.row 2) (b.col 2) (mvOf a 2 2)).roin (free_vvm _ _ _) (free_vvl _ _ _) (free_two _ _) (fun _ => rfl)) rfl ?_
                      refine dexec_ok hT 100 ?_
                      conv => arg 10; whnf
                      refine dholds_end mixed (by kernel_rfl) ?_
                      refine exec_ok hT true 200 ?_
                      conv => arg 4; whnf
                      cases h22 : (cellE a b 2 2 != 0)
                      · refine holds_bool 37 rfl (r := false) (h22) ?_
                        refine exec_ok hT true 200 ?_
                        conv => arg 4; whnf
                        refine holds_drawStart 0 ?_
                        refine dexec_ok hT 100 ?_
                        conv => arg 10; whnf
                        refine dholds_call rfl rfl ((affine_row2 a).ro (free_ml _ _) (free_V _) _) rfl ?_
                        refine dexec_ok hT 100 ?_
                        conv => arg 10; whnf
                        refine dholds_call rfl rfl ((affine_column3 b).ro (free_ml _ _) (free_V _) _) rfl ?_
                        refine dexec_ok hT 100 ?_
                        conv => arg 10; whnf
                        refine dholds_call rfl rfl ((affine_product (a.row 2) (b.col 3) (mvOf a 2 3)).roin (free_vvm _ _ _) (free_vvm _ _ _) (free_two _ _) (fun _ => rfl)) rfl ?_
                        refine dexec_ok hT 100 ?_
                        conv => arg 10; whnf
                        refine dholds_end mixed (by kernel_rfl) ?_
                        refine exec_ok hT true 200 ?_
                        conv => arg 4; whnf
                        cases h23 : (cellE a b 2 3 != 0)
                        · refine holds_bool 37 rfl (r := false) (h23) ?_
                          refine exec_ok hT true 200 ?_
                          conv => arg 4; whnf
                          exact holds_ret (ret_pure (.inl rfl) rfl (fun _ => by simp only [twoE, twoP, firstE, h00, h01, h02, h03, h10, h11, h12, h13, h20, h21, h22, h23, cond_false]; rfl) (free_twoM _ _) rfl (nosc))
                        · refine holds_bool 37 rfl (r := true) (h23) ?_
                          refine exec_ok hT true 200 ?_
                          conv => arg 4; whnf
                          exact holds_ret (ret_pure (.inl rfl) rfl (fun _ => by simp only [twoE, twoP, firstE, h00, h01, h02, h03, h10, h11, h12, h13, h20, h21, h22, h23, cond_false, cond_true]; rfl) (free_twoM _ _) rfl (nosc))
                      · refine holds_bool 37 rfl (r := true) (h22) ?_
                        refine exec_ok hT true 200 ?_
                        conv => arg 4; whnf
                        exact holds_ret (ret_pure (.inl rfl) rfl (fun _ => by simp only [twoE, twoP, firstE, h00, h01, h02, h03, h10, h11, h12, h13, h20, h21, h22, cond_false, cond_true]; rfl) (free_twoM _ _) rfl (nosc))
                    · refine holds_bool 37 rfl (r := true) (h21) ?_
                      refine exec_ok hT true 200 ?_
                      conv => arg 4; whnf
                      exact holds_ret (ret_pure (.inl rfl) rfl (fun _ => by simp only [twoE, twoP, firstE, h00, h01, h02, h03, h10, h11, h12, h13, h20, h21, cond_false, cond_true]; rfl) (free_twoM _ _) rfl (nosc))
                  · refine holds_bool 37 rfl (r := true) (h20) ?_
                    refine exec_ok hT true 200 ?_
                    conv => arg 4; whnf
                    exact holds_ret (ret_pure (.inl rfl) rfl (fun _ => by simp only [twoE, twoP, firstE, h00, h01, h02, h03, h10, h11, h12, h13, h20, cond_false, cond_true]; rfl) (free_twoM _ _) rfl (nosc))
                · refine holds_bool 37 rfl (r := true) (h13) ?_
                  refine exec_ok hT true 200 ?_
                  conv => arg 4; whnf
                  exact holds_ret (ret_pure (.inl rfl) rfl (fun _ => by simp only [twoE, twoP, firstE, h00, h01, h02, h03, h10, h11, h12, h13, cond_false, cond_true]; rfl) (free_twoM _ _) rfl (nosc))
              · refine holds_bool 37 rfl (r := true) (h12) ?_
                refine exec_ok hT true 200 ?_
                conv => arg 4; whnf
                exact holds_ret (ret_pure (.inl rfl) rfl (fun _ => by simp only [twoE, twoP, firstE, h00, h01, h02, h03, h10, h11, h12, cond_false, cond_true]; rfl) (free_twoM _ _) rfl (nosc))
            · refine holds_bool 37 rfl (r := true) (h11) ?_
              refine exec_ok hT true 200 ?_
              conv => arg 4; whnf
              exact holds_ret (ret_pure (.inl rfl) rfl (fun _ => by simp only [twoE, twoP, firstE, h00, h01, h02, h03, h10, h11, cond_false, cond_true]; rfl) (free_twoM _ _) rfl (nosc))
          · refine holds_bool 37 rfl (r := true) (h10) ?_
            refine exec_ok hT true 200 ?_
            conv => arg 4; whnf
            exact holds_ret (ret_pure (.inl rfl) rfl (fun _ => by simp only [twoE, twoP, firstE, h00, h01, h02, h03, h10, cond_false, cond_true]; rfl) (free_twoM _ _) rfl (nosc))
        · refine holds_bool 37 rfl (r := true) (h03) ?_
          refine exec_ok hT true 200 ?_
          conv => arg 4; whnf
          exact holds_ret (ret_pure (.inl rfl) rfl (fun _ => by simp only [twoE, twoP, firstE, h00, h01, h02, h03, cond_false, cond_true]; rfl) (free_twoM _ _) rfl (nosc))
      · refine holds_bool 37 rfl (r := true) (h02) ?_
        refine exec_ok hT true 200 ?_
        conv => arg 4; whnf
        exact holds_ret (ret_pure (.inl rfl) rfl (fun _ => by simp only [twoE, twoP, firstE, h00, h01, h02, cond_false, cond_true]; rfl) (free_twoM _ _) rfl (nosc))
    · refine holds_bool 37 rfl (r := true) (h01) ?_
      refine exec_ok hT true 200 ?_
      conv => arg 4; whnf
      exact holds_ret (ret_pure (.inl rfl) rfl (fun _ => by simp only [twoE, twoP, firstE, h00, h01, cond_false, cond_true]; rfl) (free_twoM _ _) rfl (nosc))
  · refine holds_bool 37 rfl (r := true) (h00) ?_
    refine exec_ok hT true 200 ?_
    conv => arg 4; whnf
    exact holds_ret (ret_pure (.inl rfl) rfl (fun _ => by simp only [twoE, twoP, firstE, h00, cond_false, cond_true]; rfl) (free_twoM _ _) rfl (nosc))
theorem eq_of_ne {e : Int} (h : (e != 0) = false) : e = 0 := by simpa using h
def mulME (a b : M12) : Int := cond ([a, b].all inM) (twoE a b) 1
def mulMV (a b : M12) : M12 := cond ([a, b].all inM) (twoP a b) zeroM
theorem affine_Mul2 (a b : M12) : LCall Try.prog 52 [.a (.c (.slice 0 (.lit 0) (.lit 2) 12 none))] [some ⟨mats.all [a, b], false, 54, false⟩] (fun v' H' => v' = twoM (mulMV a b) (mulME a b) ∧ H' = [some ⟨mats.all [a, b], false, 54, false⟩]) := by
  refine LCall.of hT Try.func52 rfl (by kernel_rfl) (by show 1 ≤ 40; decide) (fun η w => ?_)
  refine exec_ok hT true 200 ?_
  conv => arg 4; whnf
  refine holds_call rfl rfl rfl ((ro_M (len := .lit 2) [a, b] (by simp) rfl rfl (by exact Nat.le_refl 24) (fun _ => rfl) rfl).call) rfl (by show 10 < 40; decide) ?_
  rintro _ _ ⟨rfl, rfl⟩
  refine exec_ok hT true 200 ?_
  conv => arg 4; whnf
  cases h : [a, b].all inM
  · refine holds_bool 11 rfl (r := true) (rfl) ?_
    refine exec_ok hT true 200 ?_
    conv => arg 4; whnf
    exact holds_ret (ret_pure (.inl rfl) rfl (fun _ => by simp only [mulME, mulMV, h, cond_false]; rfl) (free_twoM _ _) rfl (sc1b mats 54 false [a, b]))
  · refine holds_bool 11 rfl (r := false) (rfl) ?_
    refine exec_ok hT true 200 ?_
    conv => arg 4; whnf
    refine holds_call rfl rfl rfl ((affine_two a b).any (free_mm _ _) (free_twoM _ _) _) rfl (by show 30 < 40; decide) ?_
    rintro _ _ ⟨rfl, rfl⟩
    refine exec_ok hT true 200 ?_
    conv => arg 4; whnf
    cases h2 : (twoE a b != 0)
    · refine holds_bool 34 rfl (r := false) (h2) ?_
      refine exec_ok hT true 200 ?_
      conv => arg 4; whnf
      exact holds_ret (ret_pure (.inl rfl) rfl (fun _ => by simp only [mulME, mulMV, h, cond_true, eq_of_ne h2]; rfl) (free_twoM _ _) rfl (sc1b mats 54 false [a, b]))
    · refine holds_bool 34 rfl (r := true) (h2) ?_
      refine exec_ok hT true 200 ?_
      conv => arg 4; whnf
      exact holds_ret (ret_pure (.inl rfl) rfl (fun _ => by simp only [mulME, mulMV, twoP, h, h2, cond_true]; rfl) (free_twoM _ _) rfl (sc1b mats 54 false [a, b]))
theorem ro_Mul2 {H : LH} {i : Nat} {off len : NE} {cap : Option Nat} {b : LBlk} (x y : M12) (hb : H[i]? = some (some b)) (hl : len.v = 2) (hr : off.v + 24 ≤ b.cells.length)
    (hc : ∀ η, ((b.cells.drop off.v).take 24).map (LC.den η) = (mats.all [x, y]).map (LC.den η)) (hcap : (cap.all fun c => decide (2 ≤ c)) = true) : LRo Try.prog 52 [.a (.c (.slice i off len 12 cap))] (twoM (mulMV x y) (mulME x y)) [i] H :=
  ro_of (by decide) mats 54 false [x, y] rfl (affine_Mul2 x y) (free_twoM _ _) hb hl hr hc hcap
def appE (m : M12) (v : V3) : Int := cond ([m].all inM && [v].all inV) (firstE [prodE (m.row 0) v (m.mv 0), prodE (m.row 1) v (m.mv 1), prodE (m.row 2) v (m.mv 2)]) 1
def appV (m : M12) (v : V3) : V3 := cond (appE m v != 0) zeroV ⟨prodV (m.row 0) v (m.mv 0), prodV (m.row 1) v (m.mv 1), prodV (m.row 2) v (m.mv 2)⟩
set_option maxHeartbeats 1000000 in
theorem affine_Apply (m : M12) (v : V3) : LPure Try.prog 53 [m.val, v.val] (twoV (appV m v) (appE m v)) := by
  refine LCall.of hT Try.func53 rfl (by kernel_rfl) (by show 2 ≤ 46; decide) (fun η w => ?_)
  refine exec_ok hT true 200 ?_
  conv => arg 4; whnf
  refine holds_call rfl rfl rfl ((ro_M (len := .lit 1) [m] (by simp) rfl rfl (by exact Nat.le_refl 12) (fun _ => rfl) rfl).call) rfl (by show 12 < 46; decide) ?_
  rintro _ _ ⟨rfl, rfl⟩
  refine exec_ok hT true 200 ?_
  conv => arg 4; whnf
  cases h : [m].all inM
  · refine holds_bool 14 rfl (r := true) (rfl) ?_
    refine exec_ok hT true 200 ?_
    conv => arg 4; whnf
    exact holds_ret (ret_pure (.inl rfl) rfl (fun _ => by simp only [appE, appV, h, Bool.false_and, cond_false]; rfl) (free_twoV _ _) rfl (nosc))
  · refine holds_bool 14 rfl (r := false) (rfl) ?_
    refine exec_ok hT true 200 ?_
    conv => arg 4; whnf
    refine holds_call rfl rfl rfl ((ro_V (len := .lit 1) [v] (by simp) rfl rfl (by exact Nat.le_refl 3) (fun _ => rfl) rfl).call) rfl (by show 17 < 46; decide) ?_
    rintro _ _ ⟨rfl, rfl⟩
    refine exec_ok hT true 200 ?_
    conv => arg 4; whnf
    cases h1 : [v].all inV
    · refine holds_bool 19 rfl (r := true) (rfl) ?_
      refine exec_ok hT true 200 ?_
      conv => arg 4; whnf
      exact holds_ret (ret_pure (.inl rfl) rfl (fun _ => by simp only [appE, appV, h, h1, Bool.true_and, cond_false]; rfl) (free_twoV _ _) rfl (nosc))
    · refine holds_bool 19 rfl (r := false) (rfl) ?_
      refine exec_ok hT true 200 ?_
      conv => arg 4; whnf
      refine holds_drawStart 0 ?_
      refine dexec_ok hT 100 ?_
      conv => arg 10; whnf
      refine dholds_call rfl rfl ((affine_row0 m).ro (free_ml _ _) (free_V _) _) rfl ?_
      refine dexec_ok hT 100 ?_
      conv => arg 10; whnf
      refine dholds_call rfl rfl ((affine_product (m.row 0) v (m.mv 0)).roin (free_vvm _ _ _) (free_vvm _ _ _) (free_two _ _) (fun _ => rfl)) rfl ?_
      refine dexec_ok hT 100 ?_
      conv => arg 10; whnf
      refine dholds_end mixed (by kernel_rfl) ?_
      refine exec_ok hT true 200 ?_
      conv => arg 4; whnf
      cases g0 : (prodE (m.row 0) v (m.mv 0) != 0)
      · refine holds_bool 38 rfl (r := false) (g0) ?_
        refine exec_ok hT true 200 ?_
        conv => arg 4; whnf
        refine holds_drawStart 0 ?_
        refine dexec_ok hT 100 ?_
        conv => arg 10; whnf
        refine dholds_call rfl rfl ((affine_row1 m).ro (free_ml _ _) (free_V _) _) rfl ?_
        refine dexec_ok hT 100 ?_
        conv => arg 10; whnf
        refine dholds_call rfl rfl ((affine_product (m.row 1) v (m.mv 1)).roin (free_vvm _ _ _) (free_vvm _ _ _) (free_two _ _) (fun _ => rfl)) rfl ?_
        refine dexec_ok hT 100 ?_
        conv => arg 10; whnf
        refine dholds_end mixed (by kernel_rfl) ?_
        refine exec_ok hT true 200 ?_
        conv => arg 4; whnf
        cases g1 : (prodE (m.row 1) v (m.mv 1) != 0)
        · refine holds_bool 38 rfl (r := false) (g1) ?_
          refine exec_ok hT true 200 ?_
          conv => arg 4; whnf
          refine holds_drawStart 0 ?_
          refine dexec_ok hT 100 ?_
          conv => arg 10; whnf
          refine dholds_call rfl rfl ((affine_row2 m).ro (free_ml _ _) (free_V _) _) rfl ?_
          refine dexec_ok hT 100 ?_
          conv => arg 10; whnf
          refine dholds_call rfl rfl ((affine_product (m.row 2) v (m.mv 2)).roin (free_vvm _ _ _) (free_vvm _ _ _) (free_two _ _) (fun _ => rfl)) rfl ?_
          refine dexec_ok hT 100 ?_
          conv => arg 10; whnf
          refine dholds_end mixed (by kernel_rfl) ?_
          refine exec_ok hT true 200 ?_
          conv => arg 4; whnf
          cases g2 : (prodE (m.row 2) v (m.mv 2) != 0)
          · refine holds_bool 38 rfl (r := false) (g2) ?_
            refine exec_ok hT true 200 ?_
            conv => arg 4; whnf
            exact holds_ret (ret_pure (.inl rfl) rfl (fun _ => by simp only [appE, appV, firstE, h, h1, Bool.and_self, g0, g1, g2, cond_false, cond_true]; rfl) (free_twoV _ _) rfl (nosc))
          · refine holds_bool 38 rfl (r := true) (g2) ?_
            refine exec_ok hT true 200 ?_
            conv => arg 4; whnf
            exact holds_ret (ret_pure (.inl rfl) rfl (fun _ => by simp only [appE, appV, firstE, h, h1, Bool.and_self, g0, g1, g2, cond_false, cond_true]; rfl) (free_twoV _ _) rfl (nosc))
        · refine holds_bool 38 rfl (r := true) (g1) ?_
          refine exec_ok hT true 200 ?_
          conv => arg 4; whnf
          exact holds_ret (ret_pure (.inl rfl) rfl (fun _ => by simp only [appE, appV, firstE, h, h1, Bool.and_self, g0, g1, cond_false, cond_true]; rfl) (free_twoV _ _) rfl (nosc))
      · refine holds_bool 38 rfl (r := true) (g0) ?_
        refine exec_ok hT true 200 ?_
        conv => arg 4; whnf
        exact holds_ret (ret_pure (.inl rfl) rfl (fun _ => by simp only [appE, appV, firstE, h, h1, Bool.and_self, g0, cond_false, cond_true]; rfl) (free_twoV _ _) rfl (nosc))
end Go.Proofs.Ytbkcaedlijhnlaa.LB
