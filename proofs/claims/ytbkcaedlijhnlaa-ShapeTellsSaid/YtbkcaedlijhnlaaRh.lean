/- The document's vectors and shapes: they answer as the program's do. -/
import Derived.Test.YtbkcaedlijhnlaaRf
namespace Go.Proofs.Ytbkcaedlijhnlaa.LB
open Go Go.RowKit
theorem ref02_Right (xs : List V3) (hn : xs.length ≤ 140737488351232) : LCall Try.prog 134 [sl xs.length 3] [some (Eblk vecs 56 xs)] (fun v H' => v = bo (xs.all inV) ∧ H' = [some (Eblk vecs 56 xs)]) := by
  refine LCall.of hT Try.func134 rfl (by kernel_rfl) (by show 1 ≤ 18; decide) (fun η w => ?_)
  refine exec_ok hT false 50 ?_
  conv => arg 4; whnf
  refine holds_count xs.length (fun i => [(3, i64 (i : Int)), (0, sl xs.length 3)]) (fun _ => [some (Eblk vecs 56 xs)]) (fun i => (xs.drop i).all inV = xs.all inV)
    rfl ⟨⟨_, rfl, same_cell (fun _ => rfl) rfl⟩, ⟨_, rfl, LV.same_refl _⟩, trivial⟩ rfl ?_ ?_
  · intro i hi hI next
    rw [List.drop_eq_getElem_cons hi, List.all_cons] at hI
    refine exec_ok hT false 50 ?_
    conv => arg 4; whnf
    refine holds_bool 8 rfl (r := true) (decide_eq_true (by show (i : Int) < (xs.length : Int); omega)) ?_
    refine exec_ok hT false 50 ?_
    conv => arg 4; whnf
    refine holds_index hT rfl rfl rfl rfl rfl rfl rfl rfl (q := i) rfl hi rfl (by show 13 < 18; decide) ?_
    refine holds_load hT rfl rfl rfl rfl rfl rfl (v := .agg (V3.cells xs[i])) ?_ ?_ rfl (by show 14 < 18; decide) ?_
    · show 0 + i * 3 + 3 ≤ (vecs.all xs).length
      rw [vecs.all_len]
      have := Nat.mul_le_mul_right 3 (show i + 1 ≤ xs.length from hi)
      omega
    · show asVar _ (((vecs.all xs).drop (0 + i * 3)).take 3) = _
      rw [Nat.zero_add, vecs.get (List.getElem?_eq_getElem hi)]; rfl
    refine holds_call rfl rfl rfl ((ref02_One xs[i]).any (free1 (free_V _)) (free_bo _) _) rfl (by show 15 < 18; decide) ?_
    rintro _ _ ⟨rfl, rfl⟩
    refine exec_ok hT false 50 ?_
    conv => arg 4; whnf
    cases hqx : inV xs[i]
    · refine holds_bool 17 rfl (r := true) rfl ?_
      refine exec_ok hT false 50 ?_
      conv => arg 4; whnf
      rw [hqx] at hI
      refine holds_ret (ret_pure (.inl rfl) rfl (fun _ => ?_) (free_bo _) rfl (sc1 _ _ _))
      rw [← hI]; rfl
    · refine holds_bool 17 rfl (r := false) rfl ?_
      refine exec_ok hT false 50 ?_
      conv => arg 4; whnf
      rw [hqx, Bool.true_and] at hI
      refine holds_le ?_ (next hI)
      refine ⟨⟨_, rfl, same_cell (fun _ => ?_) rfl⟩, ⟨_, rfl, LV.same_refl _⟩, trivial⟩
      show Value.int .i64 _ = Value.int .i64 (IntKind.i64.wrap ((i : Int) + 1))
      rw [wrap_succ hi hn]; rfl
  · intro hI
    refine exec_ok hT false 50 ?_
    conv => arg 4; whnf
    refine holds_bool 8 rfl (r := false) (decide_eq_false (by show ¬ (xs.length : Int) < (xs.length : Int); omega)) ?_
    refine exec_ok hT false 50 ?_
    conv => arg 4; whnf
    refine holds_ret (ret_pure (.inl rfl) rfl (fun _ => ?_) (free_bo _) rfl (sc1 _ _ _))
    rw [← hI, List.drop_length]; rfl
theorem ro_refV {H : LH} {i : Nat} {off len : NE} {cap : Option Nat} {b : LBlk} (xs : List V3) (hn : xs.length ≤ 140737488351232) (hb : H[i]? = some (some b)) (hl : len.v = xs.length) (hr : off.v + xs.length * 3 ≤ b.cells.length)
    (hc : ∀ η, ((b.cells.drop off.v).take (xs.length * 3)).map (LC.den η) = (vecs.all xs).map (LC.den η)) (hcap : (cap.all fun c => decide (xs.length ≤ c)) = true) : LRo Try.prog 134 [.a (.c (.slice i off len 3 cap))] (bo (xs.all inV)) [i] H :=
  ro_of (by decide) vecs 56 true xs rfl (ref02_Right xs hn) (free_bo _) hb hl hr hc hcap
theorem ref03_Right (m : M12) : LPure Try.prog 118 [m.val] (bo (inM m)) := by
  refine LCall.of hT Try.func118 rfl (by kernel_rfl) (by show 1 ≤ 5; decide) (fun η w => ?_)
  refine exec_ok hT true 200 ?_
  conv => arg 4; whnf
  refine holds_call rfl rfl rfl ((ro_ref (len := .lit 12) m.list (by simp) rfl rfl (by exact Nat.le_refl 12) (fun _ => rfl) rfl).call) rfl (by show 4 < 5; decide) ?_
  rintro _ _ ⟨rfl, rfl⟩
  refine exec_ok hT true 200 ?_
  conv => arg 4; whnf
  exact holds_ret (ret_pure (.inl rfl) rfl (fun _ => rfl) (free_bo _) rfl (nosc))
theorem planeOk_eq (p : Pl) : planeOk p = [p.n.x, p.n.y, p.n.z, p.d].all inR := by
  simp [planeOk, inV, Bool.and_assoc]
theorem boxOk_eq (b : B6) : boxOk b = ((([b.lo, b.hi].all inV && decide (b.lo.x ≤ b.hi.x)) && decide (b.lo.y ≤ b.hi.y)) && decide (b.lo.z ≤ b.hi.z)) := by
  have e : ∀ x y : Int, (mn x y == x) = decide (x ≤ y) := fun x y => by
    by_cases h : x ≤ y
    · rw [decide_eq_true h, mn_eq.2 h]; simp
    · rw [decide_eq_false h]; simpa using fun g => h (mn_eq.1 g)
  simp only [boxOk, eqV3, leastV, e, Bool.and_true, Bool.and_assoc]
theorem ref04_Plane (p : Pl) : LPure Try.prog 78 [p.val] (bo (planeOk p)) := by
  refine LCall.of hT Try.func78 rfl (by kernel_rfl) (by show 1 ≤ 16; decide) (fun η w => ?_)
  refine exec_ok hT true 200 ?_
  conv => arg 4; whnf
  refine holds_call rfl rfl rfl ((ro_ref (len := .lit 4) [p.n.x, p.n.y, p.n.z, p.d] (by simp) rfl rfl (by exact Nat.le_refl 4) (fun _ => rfl) rfl).call) rfl (by show 15 < 16; decide) ?_
  rintro _ _ ⟨rfl, rfl⟩
  refine exec_ok hT true 200 ?_
  conv => arg 4; whnf
  exact holds_ret (ret_pure (.inl rfl) rfl (fun _ => by rw [planeOk_eq] <;> rfl) (free_bo _) rfl (nosc))
theorem ref04_Right (b : B6) : LPure Try.prog 73 [b.val] (bo (boxOk b)) := by
  refine LCall.of hT Try.func73 rfl (by kernel_rfl) (by show 1 ≤ 28; decide) (fun η w => ?_)
  refine exec_ok hT true 200 ?_
  conv => arg 4; whnf
  refine holds_call rfl rfl rfl ((ro_refV (len := .lit 2) [b.lo, b.hi] (by simp) rfl rfl (by exact Nat.le_refl 6) (fun _ => rfl) rfl).call) rfl (by show 10 < 28; decide) ?_
  rintro _ _ ⟨rfl, rfl⟩
  refine exec_ok hT true 200 ?_
  conv => arg 4; whnf
  cases h : [b.lo, b.hi].all inV
  · refine holds_drawStart 0 ?_
    refine dexec_ok hT 100 ?_
    conv => arg 10; whnf
    refine dholds_move hT false rfl rfl rfl rfl (by first | exact h | rfl) ?_
    refine dexec_ok hT 100 ?_
    conv => arg 10; whnf
    refine dholds_end mixed (by kernel_rfl) ?_
    refine exec_ok hT true 200 ?_
    conv => arg 4; whnf
    refine holds_drawStart 0 ?_
    refine dexec_ok hT 100 ?_
    conv => arg 10; whnf
    refine dholds_end mixed (by kernel_rfl) ?_
    refine exec_ok hT true 200 ?_
    conv => arg 4; whnf
    refine holds_drawStart 0 ?_
    refine dexec_ok hT 100 ?_
    conv => arg 10; whnf
    refine dholds_end mixed (by kernel_rfl) ?_
    refine exec_ok hT true 200 ?_
    conv => arg 4; whnf
    exact holds_ret (ret_pure (.inl rfl) rfl (fun _ => by rw [boxOk_eq] <;> simp only [h, Bool.false_and, Bool.true_and] <;> rfl) (free_bo _) rfl (nosc))
  · refine holds_drawStart 0 ?_
    refine dexec_ok hT 100 ?_
    conv => arg 10; whnf
    refine dholds_move hT true rfl rfl rfl rfl (by first | exact h | rfl) ?_
    refine dexec_ok hT 100 ?_
    conv => arg 10; whnf
    refine dholds_end mixed (by kernel_rfl) ?_
    refine exec_ok hT true 200 ?_
    conv => arg 4; whnf
    cases h0 : decide (b.lo.x ≤ b.hi.x)
    · refine holds_drawStart 0 ?_
      refine dexec_ok hT 100 ?_
      conv => arg 10; whnf
      refine dholds_move hT false rfl rfl rfl rfl (by first | exact h0 | rfl) ?_
      refine dexec_ok hT 100 ?_
      conv => arg 10; whnf
      refine dholds_end mixed (by kernel_rfl) ?_
      refine exec_ok hT true 200 ?_
      conv => arg 4; whnf
      refine holds_drawStart 0 ?_
      refine dexec_ok hT 100 ?_
      conv => arg 10; whnf
      refine dholds_end mixed (by kernel_rfl) ?_
      refine exec_ok hT true 200 ?_
      conv => arg 4; whnf
      refine holds_ret (ret_pure (.inl rfl) rfl (fun _ => ?_) (free_bo _) rfl nosc)
      rw [boxOk_eq]
      simp only [h, h0, Bool.true_and, Bool.false_and, Bool.and_false]
      first | done | rfl
    · refine holds_drawStart 0 ?_
      refine dexec_ok hT 100 ?_
      conv => arg 10; whnf
      refine dholds_move hT true rfl rfl rfl rfl (by first | exact h0 | rfl) ?_
      refine dexec_ok hT 100 ?_
      conv => arg 10; whnf
      refine dholds_end mixed (by kernel_rfl) ?_
      refine exec_ok hT true 200 ?_
      conv => arg 4; whnf
      cases h1 : decide (b.lo.y ≤ b.hi.y)
      · refine holds_drawStart 0 ?_
        refine dexec_ok hT 100 ?_
        conv => arg 10; whnf
        refine dholds_move hT false rfl rfl rfl rfl (by first | exact h1 | rfl) ?_
        refine dexec_ok hT 100 ?_
        conv => arg 10; whnf
        refine dholds_end mixed (by kernel_rfl) ?_
        refine exec_ok hT true 200 ?_
        conv => arg 4; whnf
        refine holds_ret (ret_pure (.inl rfl) rfl (fun _ => ?_) (free_bo _) rfl nosc)
        rw [boxOk_eq]
        simp only [h, h0, h1, Bool.true_and, Bool.false_and, Bool.and_false]
        first | done | rfl
      · refine holds_drawStart 0 ?_
        refine dexec_ok hT 100 ?_
        conv => arg 10; whnf
        refine dholds_move hT true rfl rfl rfl rfl (by first | exact h1 | rfl) ?_
        refine dexec_ok hT 100 ?_
        conv => arg 10; whnf
        refine dholds_end mixed (by kernel_rfl) ?_
        refine exec_ok hT true 200 ?_
        conv => arg 4; whnf
        refine holds_ret (ret_pure (.inl rfl) rfl (fun _ => ?_) (free_bo _) rfl nosc)
        rw [boxOk_eq]
        simp only [h, h0, h1, Bool.true_and]
        rfl
theorem inB_eq (b : B6) (v : V3) : inB b v = ((!(decide (v.x < b.lo.x) || decide (v.x > b.hi.x))) && ((!(decide (v.y < b.lo.y) || decide (v.y > b.hi.y))) && (!(decide (v.z < b.lo.z) || decide (v.z > b.hi.z))))) := by
  rw [Bool.eq_iff_iff, inB_iff]
  unfold inside
  simp
  omega
theorem ref04_In (b : B6) (v : V3) : LPure Try.prog 58 [b.val, v.val] (bo (inB b v)) := by
  refine LCall.of hT Try.func58 rfl (by kernel_rfl) (by show 2 ≤ 28; decide) (fun η w => ?_)
  refine exec_ok hT true 200 ?_
  conv => arg 4; whnf
  cases l0 : decide (v.x < b.lo.x)
  · refine holds_drawStart 0 ?_
    refine dexec_ok hT 100 ?_
    conv => arg 10; whnf
    refine dholds_move hT false rfl rfl rfl rfl (by first | exact l0 | rfl) ?_
    refine dexec_ok hT 100 ?_
    conv => arg 10; whnf
    refine dholds_end mixed (by kernel_rfl) ?_
    refine exec_ok hT true 200 ?_
    conv => arg 4; whnf
    cases g0 : decide (v.x > b.hi.x)
    · refine holds_bool 27 rfl (r := false) (g0) ?_
      refine exec_ok hT true 200 ?_
      conv => arg 4; whnf
      cases l1 : decide (v.y < b.lo.y)
      · refine holds_drawStart 0 ?_
        refine dexec_ok hT 100 ?_
        conv => arg 10; whnf
        refine dholds_move hT false rfl rfl rfl rfl (by first | exact l1 | rfl) ?_
        refine dexec_ok hT 100 ?_
        conv => arg 10; whnf
        refine dholds_end mixed (by kernel_rfl) ?_
        refine exec_ok hT true 200 ?_
        conv => arg 4; whnf
        cases g1 : decide (v.y > b.hi.y)
        · refine holds_bool 27 rfl (r := false) (g1) ?_
          refine exec_ok hT true 200 ?_
          conv => arg 4; whnf
          cases l2 : decide (v.z < b.lo.z)
          · refine holds_drawStart 0 ?_
            refine dexec_ok hT 100 ?_
            conv => arg 10; whnf
            refine dholds_move hT false rfl rfl rfl rfl (by first | exact l2 | rfl) ?_
            refine dexec_ok hT 100 ?_
            conv => arg 10; whnf
            refine dholds_end mixed (by kernel_rfl) ?_
            refine exec_ok hT true 200 ?_
            conv => arg 4; whnf
            cases g2 : decide (v.z > b.hi.z)
            · refine holds_bool 27 rfl (r := false) (g2) ?_
              refine exec_ok hT true 200 ?_
              conv => arg 4; whnf
              refine holds_ret (ret_pure (.inl rfl) rfl (fun _ => ?_) (free_bo _) rfl nosc)
              rw [inB_eq]
              simp only [l0, g0, l1, g1, l2, g2]
              rfl
            · refine holds_bool 27 rfl (r := true) (g2) ?_
              refine exec_ok hT true 200 ?_
              conv => arg 4; whnf
              refine holds_ret (ret_pure (.inl rfl) rfl (fun _ => ?_) (free_bo _) rfl nosc)
              rw [inB_eq]
              simp [l0, g0, l1, g1, l2, g2]
              try rfl
          · refine holds_drawStart 0 ?_
            refine dexec_ok hT 100 ?_
            conv => arg 10; whnf
            refine dholds_move hT true rfl rfl rfl rfl (by first | exact l2 | rfl) ?_
            refine dexec_ok hT 100 ?_
            conv => arg 10; whnf
            refine dholds_end mixed (by kernel_rfl) ?_
            refine exec_ok hT true 200 ?_
            conv => arg 4; whnf
            refine holds_ret (ret_pure (.inl rfl) rfl (fun _ => ?_) (free_bo _) rfl nosc)
            rw [inB_eq]
            simp [l0, g0, l1, g1, l2]
            try rfl
        · refine holds_bool 27 rfl (r := true) (g1) ?_
          refine exec_ok hT true 200 ?_
          conv => arg 4; whnf
          refine holds_ret (ret_pure (.inl rfl) rfl (fun _ => ?_) (free_bo _) rfl nosc)
          rw [inB_eq]
          simp [l0, g0, l1, g1]
          try rfl
      · refine holds_drawStart 0 ?_
        refine dexec_ok hT 100 ?_
        conv => arg 10; whnf
        refine dholds_move hT true rfl rfl rfl rfl (by first | exact l1 | rfl) ?_
        refine dexec_ok hT 100 ?_
        conv => arg 10; whnf
        refine dholds_end mixed (by kernel_rfl) ?_
        refine exec_ok hT true 200 ?_
        conv => arg 4; whnf
        refine holds_ret (ret_pure (.inl rfl) rfl (fun _ => ?_) (free_bo _) rfl nosc)
        rw [inB_eq]
        simp [l0, g0, l1]
        try rfl
    · refine holds_bool 27 rfl (r := true) (g0) ?_
      refine exec_ok hT true 200 ?_
      conv => arg 4; whnf
      refine holds_ret (ret_pure (.inl rfl) rfl (fun _ => ?_) (free_bo _) rfl nosc)
      rw [inB_eq]
      simp [l0, g0]
      try rfl
  · refine holds_drawStart 0 ?_
    refine dexec_ok hT 100 ?_
    conv => arg 10; whnf
    refine dholds_move hT true rfl rfl rfl rfl (by first | exact l0 | rfl) ?_
    refine dexec_ok hT 100 ?_
    conv => arg 10; whnf
    refine dholds_end mixed (by kernel_rfl) ?_
    refine exec_ok hT true 200 ?_
    conv => arg 4; whnf
    refine holds_ret (ret_pure (.inl rfl) rfl (fun _ => ?_) (free_bo _) rfl nosc)
    rw [inB_eq]
    simp [l0]
    try rfl
set_option maxHeartbeats 2000000 in
theorem ref04_ends (n : V3) (m : Int) (b : B6) : LPure Try.prog 144 [n.val, i64 m, b.val] (tri (endsLo n m b) (endsHi n m b) (endsE n m b)) := by
  refine LCall.of hT Try.func144 rfl (by kernel_rfl) (by show 3 ≤ 86; decide) (fun η w => ?_)
  refine exec_ok hT true 200 ?_
  conv => arg 4; whnf
  refine holds_drawStart 0 ?_
  refine dexec_ok hT 100 ?_
  conv => arg 10; whnf
  refine dholds_call rfl rfl ((ref01_Mul n.x b.lo.x).ro (free3 (free_i64 _) (free_i64 _)) (free_two _ _) _) rfl ?_
  refine dexec_ok hT 100 ?_
  conv => arg 10; whnf
  refine dholds_end mixed (by kernel_rfl) ?_
  refine exec_ok hT true 200 ?_
  conv => arg 4; whnf
  refine holds_drawStart 0 ?_
  refine dexec_ok hT 100 ?_
  conv => arg 10; whnf
  refine dholds_call rfl rfl ((ref01_Mul n.x b.hi.x).ro (free3 (free_i64 _) (free_i64 _)) (free_two _ _) _) rfl ?_
  refine dexec_ok hT 100 ?_
  conv => arg 10; whnf
  refine dholds_end mixed (by kernel_rfl) ?_
  refine exec_ok hT true 200 ?_
  conv => arg 4; whnf
  cases ax : (mulE n.x b.lo.x != 0)
  · refine holds_bool 52 rfl (r := false) (ax) ?_
    refine exec_ok hT true 200 ?_
    conv => arg 4; whnf
    cases qx_ : (mulE n.x b.hi.x != 0)
    · refine holds_bool 55 rfl (r := false) (qx_) ?_
      refine exec_ok hT true 200 ?_
      conv => arg 4; whnf
      have mx_ := mx_n ax qx_
      refine holds_drawStart 0 ?_
      refine dexec_ok hT 100 ?_
      conv => arg 10; whnf
      refine dholds_call rfl rfl ((ref01_Mul n.y b.lo.y).ro (free3 (free_i64 _) (free_i64 _)) (free_two _ _) _) rfl ?_
      refine dexec_ok hT 100 ?_
      conv => arg 10; whnf
      refine dholds_end mixed (by kernel_rfl) ?_
      refine exec_ok hT true 200 ?_
      conv => arg 4; whnf
      refine holds_drawStart 0 ?_
      refine dexec_ok hT 100 ?_
      conv => arg 10; whnf
      refine dholds_call rfl rfl ((ref01_Mul n.y b.hi.y).ro (free3 (free_i64 _) (free_i64 _)) (free_two _ _) _) rfl ?_
      refine dexec_ok hT 100 ?_
      conv => arg 10; whnf
      refine dholds_end mixed (by kernel_rfl) ?_
      refine exec_ok hT true 200 ?_
      conv => arg 4; whnf
      cases ay : (mulE n.y b.lo.y != 0)
      · refine holds_bool 52 rfl (r := false) (ay) ?_
        refine exec_ok hT true 200 ?_
        conv => arg 4; whnf
        cases qy_ : (mulE n.y b.hi.y != 0)
        · refine holds_bool 55 rfl (r := false) (qy_) ?_
          refine exec_ok hT true 200 ?_
          conv => arg 4; whnf
          have my_ := mx_n ay qy_
          refine holds_drawStart 0 ?_
          refine dexec_ok hT 100 ?_
          conv => arg 10; whnf
          refine dholds_call rfl rfl ((ref01_Mul n.z b.lo.z).ro (free3 (free_i64 _) (free_i64 _)) (free_two _ _) _) rfl ?_
          refine dexec_ok hT 100 ?_
          conv => arg 10; whnf
          refine dholds_end mixed (by kernel_rfl) ?_
          refine exec_ok hT true 200 ?_
          conv => arg 4; whnf
          refine holds_drawStart 0 ?_
          refine dexec_ok hT 100 ?_
          conv => arg 10; whnf
          refine dholds_call rfl rfl ((ref01_Mul n.z b.hi.z).ro (free3 (free_i64 _) (free_i64 _)) (free_two _ _) _) rfl ?_
          refine dexec_ok hT 100 ?_
          conv => arg 10; whnf
          refine dholds_end mixed (by kernel_rfl) ?_
          refine exec_ok hT true 200 ?_
          conv => arg 4; whnf
          cases az : (mulE n.z b.lo.z != 0)
          · refine holds_bool 52 rfl (r := false) (az) ?_
            refine exec_ok hT true 200 ?_
            conv => arg 4; whnf
            cases qz_ : (mulE n.z b.hi.z != 0)
            · refine holds_bool 55 rfl (r := false) (qz_) ?_
              refine exec_ok hT true 200 ?_
              conv => arg 4; whnf
              have mz_ := mx_n az qz_
              refine holds_call rfl rfl rfl ((ro_refAdd (len := .lit 4) (endL n m b) (by simp [endL]) rfl rfl (by exact Nat.le_refl 4) (fun _ => rfl) rfl).call) rfl (by show 70 < 86; decide) ?_
              rintro _ _ ⟨rfl, rfl⟩
              refine exec_ok hT true 200 ?_
              conv => arg 4; whnf
              refine holds_call rfl rfl rfl ((ro_refAdd (len := .lit 4) (endG n m b) (by simp [endG]) rfl rfl (by exact Nat.le_refl 4) (fun _ => rfl) rfl).call) rfl (by show 75 < 86; decide) ?_
              rintro _ _ ⟨rfl, rfl⟩
              refine exec_ok hT true 200 ?_
              conv => arg 4; whnf
              cases ea : (addE (endL n m b) != 0)
              · refine holds_bool 80 rfl (r := false) (ea) ?_
                refine exec_ok hT true 200 ?_
                conv => arg 4; whnf
                cases eb : (addE (endG n m b) != 0)
                · refine holds_bool 83 rfl (r := false) (eb) ?_
                  refine exec_ok hT true 200 ?_
                  conv => arg 4; whnf
                  have ma := mx_n ea eb
                  exact holds_ret (ret_pure (.inl rfl) rfl (fun _ => by simp only [endsE, endsLo, endsHi, mx_, my_, mz_, ma, cond_false] <;> rfl) (free_tri _ _ _) rfl (nosc))
                · refine holds_bool 83 rfl (r := true) (eb) ?_
                  refine exec_ok hT true 200 ?_
                  conv => arg 4; whnf
                  have ma := mx_r (addE_nonneg _) (addE_nonneg _) (e := addE (endL n m b)) eb
                  exact holds_ret (ret_pure (.inl rfl) rfl (fun _ => by simp only [endsE, endsLo, endsHi, mx_, my_, mz_, ma, cond_false, cond_true] <;> rfl) (free_tri _ _ _) rfl (nosc))
              · refine holds_bool 80 rfl (r := true) (ea) ?_
                refine exec_ok hT true 200 ?_
                conv => arg 4; whnf
                have ma := mx_l (addE_nonneg _) (addE_nonneg _) (f := addE (endG n m b)) ea
                exact holds_ret (ret_pure (.inl rfl) rfl (fun _ => by simp only [endsE, endsLo, endsHi, mx_, my_, mz_, ma, cond_false, cond_true] <;> rfl) (free_tri _ _ _) rfl (nosc))
            · refine holds_bool 55 rfl (r := true) (qz_) ?_
              refine exec_ok hT true 200 ?_
              conv => arg 4; whnf
              have mz_ := mx_r (mulE_nonneg _ _) (mulE_nonneg _ _) (e := mulE n.z b.lo.z) qz_
              exact holds_ret (ret_pure (.inl rfl) rfl (fun _ => by simp only [endsE, endsLo, endsHi, mx_, my_, mz_, cond_false, cond_true] <;> rfl) (free_tri _ _ _) rfl (nosc))
          · refine holds_bool 52 rfl (r := true) (az) ?_
            refine exec_ok hT true 200 ?_
            conv => arg 4; whnf
            have mz_ := mx_l (mulE_nonneg _ _) (mulE_nonneg _ _) (f := mulE n.z b.hi.z) az
            exact holds_ret (ret_pure (.inl rfl) rfl (fun _ => by simp only [endsE, endsLo, endsHi, mx_, my_, mz_, cond_false, cond_true] <;> rfl) (free_tri _ _ _) rfl (nosc))
        · refine holds_bool 55 rfl (r := true) (qy_) ?_
          refine exec_ok hT true 200 ?_
          conv => arg 4; whnf
          have my_ := mx_r (mulE_nonneg _ _) (mulE_nonneg _ _) (e := mulE n.y b.lo.y) qy_
          exact holds_ret (ret_pure (.inl rfl) rfl (fun _ => by simp only [endsE, endsLo, endsHi, mx_, my_, cond_false, cond_true] <;> rfl) (free_tri _ _ _) rfl (nosc))
      · refine holds_bool 52 rfl (r := true) (ay) ?_
        refine exec_ok hT true 200 ?_
        conv => arg 4; whnf
        have my_ := mx_l (mulE_nonneg _ _) (mulE_nonneg _ _) (f := mulE n.y b.hi.y) ay
        exact holds_ret (ret_pure (.inl rfl) rfl (fun _ => by simp only [endsE, endsLo, endsHi, mx_, my_, cond_false, cond_true] <;> rfl) (free_tri _ _ _) rfl (nosc))
    · refine holds_bool 55 rfl (r := true) (qx_) ?_
      refine exec_ok hT true 200 ?_
      conv => arg 4; whnf
      have mx_ := mx_r (mulE_nonneg _ _) (mulE_nonneg _ _) (e := mulE n.x b.lo.x) qx_
      exact holds_ret (ret_pure (.inl rfl) rfl (fun _ => by simp only [endsE, endsLo, endsHi, mx_, cond_false, cond_true] <;> rfl) (free_tri _ _ _) rfl (nosc))
  · refine holds_bool 52 rfl (r := true) (ax) ?_
    refine exec_ok hT true 200 ?_
    conv => arg 4; whnf
    have mx_ := mx_l (mulE_nonneg _ _) (mulE_nonneg _ _) (f := mulE n.x b.hi.x) ax
    exact holds_ret (ret_pure (.inl rfl) rfl (fun _ => by simp only [endsE, endsLo, endsHi, mx_, cond_false, cond_true] <;> rfl) (free_tri _ _ _) rfl (nosc))
theorem ref04_Span (p : Pl) (b : B6) : LPure Try.prog 82 [p.val, b.val] (tri (spanLo p b) (spanHi p b) (spanE p b)) := by
  refine LCall.of hT Try.func82 rfl (by kernel_rfl) (by show 2 ≤ 28; decide) (fun η w => ?_)
  refine exec_ok hT true 200 ?_
  conv => arg 4; whnf
  refine holds_call rfl rfl rfl ((ref04_Plane p).any (free1 (free_P _)) (free_bo _) _) rfl (by show 10 < 28; decide) ?_
  rintro _ _ ⟨rfl, rfl⟩
  refine exec_ok hT true 200 ?_
  conv => arg 4; whnf
  refine holds_call rfl rfl rfl ((ref04_Right b).any (free1 (free_B _)) (free_bo _) _) rfl (by show 12 < 28; decide) ?_
  rintro _ _ ⟨rfl, rfl⟩
  refine exec_ok hT true 200 ?_
  conv => arg 4; whnf
  cases h : planeOk p
  · refine holds_bool 15 rfl (r := true) (rfl) ?_
    refine exec_ok hT true 200 ?_
    conv => arg 4; whnf
    exact holds_ret (ret_pure (.inl rfl) rfl (fun _ => by simp only [spanE, spanLo, spanHi, spanOk, List.all_cons, List.all_nil, Bool.and_true, h, Bool.false_and, cond_false] <;> rfl) (free_tri _ _ _) rfl (nosc))
  · refine holds_bool 15 rfl (r := false) (rfl) ?_
    refine exec_ok hT true 200 ?_
    conv => arg 4; whnf
    cases h1 : boxOk b
    · refine holds_bool 18 rfl (r := true) (rfl) ?_
      refine exec_ok hT true 200 ?_
      conv => arg 4; whnf
      exact holds_ret (ret_pure (.inl rfl) rfl (fun _ => by simp only [spanE, spanLo, spanHi, spanOk, List.all_cons, List.all_nil, Bool.and_true, h, h1, Bool.true_and, cond_false] <;> rfl) (free_tri _ _ _) rfl (nosc))
    · refine holds_bool 18 rfl (r := false) (rfl) ?_
      refine exec_ok hT true 200 ?_
      conv => arg 4; whnf
      refine holds_call rfl rfl rfl ((ref04_ends p.n p.d b).any (free_nmb _ _ _) (free_tri _ _ _) _) rfl (by show 24 < 28; decide) ?_
      rintro _ _ ⟨rfl, rfl⟩
      refine exec_ok hT true 200 ?_
      conv => arg 4; whnf
      exact holds_ret (ret_pure (.inl rfl) rfl (fun _ => by simp only [spanE, spanLo, spanHi, spanOk, List.all_cons, List.all_nil, Bool.and_true, h, h1, Bool.and_self, cond_true] <;> rfl) (free_tri _ _ _) rfl (nosc))
set_option maxHeartbeats 2000000 in
theorem ref04_Carry (m : M12) (b : B6) : LPure Try.prog 80 [m.val, b.val] (twoB (carryV m b) (carryE m b)) := by
  refine LCall.of hT Try.func80 rfl (by kernel_rfl) (by show 2 ≤ 68; decide) (fun η w => ?_)
  refine exec_ok hT true 200 ?_
  conv => arg 4; whnf
  refine holds_call rfl rfl rfl ((ref03_Right m).any (free1 (free_M _)) (free_bo _) _) rfl (by show 14 < 68; decide) ?_
  rintro _ _ ⟨rfl, rfl⟩
  refine exec_ok hT true 200 ?_
  conv => arg 4; whnf
  refine holds_call rfl rfl rfl ((ref04_Right b).any (free1 (free_B _)) (free_bo _) _) rfl (by show 16 < 68; decide) ?_
  rintro _ _ ⟨rfl, rfl⟩
  refine exec_ok hT true 200 ?_
  conv => arg 4; whnf
  cases h : inM m
  · refine holds_bool 19 rfl (r := true) (rfl) ?_
    refine exec_ok hT true 200 ?_
    conv => arg 4; whnf
    exact holds_ret (ret_pure (.inl rfl) rfl (fun _ => by simp only [carryE, carryV, carryOk, List.all_cons, List.all_nil, Bool.and_true, h, Bool.false_and, cond_false] <;> rfl) (free_twoB _ _) rfl (nosc))
  · refine holds_bool 19 rfl (r := false) (rfl) ?_
    refine exec_ok hT true 200 ?_
    conv => arg 4; whnf
    cases h1 : boxOk b
    · refine holds_bool 22 rfl (r := true) (rfl) ?_
      refine exec_ok hT true 200 ?_
      conv => arg 4; whnf
      exact holds_ret (ret_pure (.inl rfl) rfl (fun _ => by simp only [carryE, carryV, carryOk, List.all_cons, List.all_nil, Bool.and_true, h, h1, Bool.true_and, cond_false] <;> rfl) (free_twoB _ _) rfl (nosc))
    · refine holds_bool 22 rfl (r := false) (rfl) ?_
      refine exec_ok hT true 200 ?_
      conv => arg 4; whnf
      refine holds_drawStart 0 ?_
      refine dexec_ok hT 100 ?_
      conv => arg 10; whnf
      refine dholds_call rfl rfl ((ref04_ends (m.row 0) (m.mv 0) b).ro (free_nmb _ _ _) (free_tri _ _ _) _) rfl ?_
      refine dexec_ok hT 100 ?_
      conv => arg 10; whnf
      refine dholds_end mixed (by kernel_rfl) ?_
      refine exec_ok hT true 200 ?_
      conv => arg 4; whnf
      cases g0 : (endsE (m.row 0) (m.mv 0) b != 0)
      · refine holds_bool 56 rfl (r := false) (g0) ?_
        refine exec_ok hT true 200 ?_
        conv => arg 4; whnf
        refine holds_drawStart 0 ?_
        refine dexec_ok hT 100 ?_
        conv => arg 10; whnf
        refine dholds_call rfl rfl ((ref04_ends (m.row 1) (m.mv 1) b).ro (free_nmb _ _ _) (free_tri _ _ _) _) rfl ?_
        refine dexec_ok hT 100 ?_
        conv => arg 10; whnf
        refine dholds_end mixed (by kernel_rfl) ?_
        refine exec_ok hT true 200 ?_
        conv => arg 4; whnf
        cases g1 : (endsE (m.row 1) (m.mv 1) b != 0)
        · refine holds_bool 56 rfl (r := false) (g1) ?_
          refine exec_ok hT true 200 ?_
          conv => arg 4; whnf
          refine holds_drawStart 0 ?_
          refine dexec_ok hT 100 ?_
          conv => arg 10; whnf
          refine dholds_call rfl rfl ((ref04_ends (m.row 2) (m.mv 2) b).ro (free_nmb _ _ _) (free_tri _ _ _) _) rfl ?_
          refine dexec_ok hT 100 ?_
          conv => arg 10; whnf
          refine dholds_end mixed (by kernel_rfl) ?_
          refine exec_ok hT true 200 ?_
          conv => arg 4; whnf
          cases g2 : (endsE (m.row 2) (m.mv 2) b != 0)
          · refine holds_bool 56 rfl (r := false) (g2) ?_
            refine exec_ok hT true 200 ?_
            conv => arg 4; whnf
            exact holds_ret (ret_pure (.inl rfl) rfl (fun _ => by simp only [carryE, carryV, carryOk, firstE, List.all_cons, List.all_nil, Bool.and_true, h, h1, Bool.and_self, g0, g1, g2, cond_true, cond_false] <;> rfl) (free_twoB _ _) rfl (nosc))
          · refine holds_bool 56 rfl (r := true) (g2) ?_
            refine exec_ok hT true 200 ?_
            conv => arg 4; whnf
            exact holds_ret (ret_pure (.inl rfl) rfl (fun _ => by simp only [carryE, carryV, carryOk, firstE, List.all_cons, List.all_nil, Bool.and_true, h, h1, Bool.and_self, g0, g1, g2, cond_true, cond_false] <;> rfl) (free_twoB _ _) rfl (nosc))
        · refine holds_bool 56 rfl (r := true) (g1) ?_
          refine exec_ok hT true 200 ?_
          conv => arg 4; whnf
          exact holds_ret (ret_pure (.inl rfl) rfl (fun _ => by simp only [carryE, carryV, carryOk, firstE, List.all_cons, List.all_nil, Bool.and_true, h, h1, Bool.and_self, g0, g1, cond_true, cond_false] <;> rfl) (free_twoB _ _) rfl (nosc))
      · refine holds_bool 56 rfl (r := true) (g0) ?_
        refine exec_ok hT true 200 ?_
        conv => arg 4; whnf
        exact holds_ret (ret_pure (.inl rfl) rfl (fun _ => by simp only [carryE, carryV, carryOk, firstE, List.all_cons, List.all_nil, Bool.and_true, h, h1, Bool.and_self, g0, cond_true, cond_false] <;> rfl) (free_twoB _ _) rfl (nosc))
theorem ref02_Dot (a b : V3) : LPure Try.prog 128 [a.val, b.val] (two (dotV a b) (dotE a b)) := by
  refine LCall.of hT Try.func128 rfl (by kernel_rfl) (by show 2 ≤ 42; decide) (fun η w => ?_)
  refine exec_ok hT true 200 ?_
  conv => arg 4; whnf
  refine holds_call rfl rfl rfl ((ro_refV (len := .lit 2) [a, b] (by simp) rfl rfl (by exact Nat.le_refl 6) (fun _ => rfl) rfl).call) rfl (by show 14 < 42; decide) ?_
  rintro _ _ ⟨rfl, rfl⟩
  refine exec_ok hT true 200 ?_
  conv => arg 4; whnf
  cases h : [a, b].all inV
  · refine holds_bool 16 rfl (r := true) (rfl) ?_
    refine exec_ok hT true 200 ?_
    conv => arg 4; whnf
    exact holds_ret (ret_pure (.inl rfl) rfl (fun _ => by simp only [dotE, dotV, h, cond_false] <;> rfl) (free_two _ _) rfl (nosc))
  · refine holds_bool 16 rfl (r := false) (rfl) ?_
    refine exec_ok hT true 200 ?_
    conv => arg 4; whnf
    refine holds_drawStart 0 ?_
    refine dexec_ok hT 100 ?_
    conv => arg 10; whnf
    refine dholds_call rfl rfl ((ref01_Mul a.x b.x).ro (free3 (free_i64 _) (free_i64 _)) (free_two _ _) _) rfl ?_
    refine dexec_ok hT 100 ?_
    conv => arg 10; whnf
    refine dholds_end mixed (by kernel_rfl) ?_
    refine exec_ok hT true 200 ?_
    conv => arg 4; whnf
    cases g0 : (mulE a.x b.x != 0)
    · refine holds_bool 32 rfl (r := false) (g0) ?_
      refine exec_ok hT true 200 ?_
      conv => arg 4; whnf
      refine holds_drawStart 0 ?_
      refine dexec_ok hT 100 ?_
      conv => arg 10; whnf
      refine dholds_call rfl rfl ((ref01_Mul a.y b.y).ro (free3 (free_i64 _) (free_i64 _)) (free_two _ _) _) rfl ?_
      refine dexec_ok hT 100 ?_
      conv => arg 10; whnf
      refine dholds_end mixed (by kernel_rfl) ?_
      refine exec_ok hT true 200 ?_
      conv => arg 4; whnf
      cases g1 : (mulE a.y b.y != 0)
      · refine holds_bool 32 rfl (r := false) (g1) ?_
        refine exec_ok hT true 200 ?_
        conv => arg 4; whnf
        refine holds_drawStart 0 ?_
        refine dexec_ok hT 100 ?_
        conv => arg 10; whnf
        refine dholds_call rfl rfl ((ref01_Mul a.z b.z).ro (free3 (free_i64 _) (free_i64 _)) (free_two _ _) _) rfl ?_
        refine dexec_ok hT 100 ?_
        conv => arg 10; whnf
        refine dholds_end mixed (by kernel_rfl) ?_
        refine exec_ok hT true 200 ?_
        conv => arg 4; whnf
        cases g2 : (mulE a.z b.z != 0)
        · refine holds_bool 32 rfl (r := false) (g2) ?_
          refine exec_ok hT true 200 ?_
          conv => arg 4; whnf
          refine holds_call rfl rfl rfl ((ro_refAdd (len := .lit 3) (dotP a b).list (by simp) rfl rfl (by exact Nat.le_refl 3) (fun _ => rfl) rfl).call) rfl (by show 39 < 42; decide) ?_
          rintro _ _ ⟨rfl, rfl⟩
          refine exec_ok hT true 200 ?_
          conv => arg 4; whnf
          exact holds_ret (ret_pure (.inl rfl) rfl (fun _ => by simp only [dotE, dotV, dotPE, firstE, h, g0, g1, g2, bne_self_eq_false, cond_false, cond_true] <;> rfl) (free_two _ _) rfl (nosc))
        · refine holds_bool 32 rfl (r := true) (g2) ?_
          refine exec_ok hT true 200 ?_
          conv => arg 4; whnf
          exact holds_ret (ret_pure (.inl rfl) rfl (fun _ => by simp only [dotE, dotV, dotPE, firstE, h, g0, g1, g2, cond_false, cond_true] <;> rfl) (free_two _ _) rfl (nosc))
      · refine holds_bool 32 rfl (r := true) (g1) ?_
        refine exec_ok hT true 200 ?_
        conv => arg 4; whnf
        exact holds_ret (ret_pure (.inl rfl) rfl (fun _ => by simp only [dotE, dotV, dotPE, firstE, h, g0, g1, cond_false, cond_true] <;> rfl) (free_two _ _) rfl (nosc))
    · refine holds_bool 32 rfl (r := true) (g0) ?_
      refine exec_ok hT true 200 ?_
      conv => arg 4; whnf
      exact holds_ret (ret_pure (.inl rfl) rfl (fun _ => by simp only [dotE, dotV, dotPE, firstE, h, g0, cond_false, cond_true] <;> rfl) (free_two _ _) rfl (nosc))
theorem ref04_Distance (p : Pl) (v : V3) : LPure Try.prog 60 [p.val, v.val] (two (distV p v) (distE p v)) := by
  refine LCall.of hT Try.func60 rfl (by kernel_rfl) (by show 2 ≤ 37; decide) (fun η w => ?_)
  refine exec_ok hT true 200 ?_
  conv => arg 4; whnf
  refine holds_call rfl rfl rfl ((ref04_Plane p).any (free1 (free_P _)) (free_bo _) _) rfl (by show 11 < 37; decide) ?_
  rintro _ _ ⟨rfl, rfl⟩
  refine exec_ok hT true 200 ?_
  conv => arg 4; whnf
  refine holds_call rfl rfl rfl ((ref02_One v).any (free1 (free_V _)) (free_bo _) _) rfl (by show 13 < 37; decide) ?_
  rintro _ _ ⟨rfl, rfl⟩
  refine exec_ok hT true 200 ?_
  conv => arg 4; whnf
  cases h : planeOk p
  · refine holds_bool 16 rfl (r := true) (rfl) ?_
    refine exec_ok hT true 200 ?_
    conv => arg 4; whnf
    exact holds_ret (ret_pure (.inl rfl) rfl (fun _ => by simp only [distE, distV, distOk, List.all_cons, List.all_nil, Bool.and_true, h, Bool.false_and, cond_false] <;> rfl) (free_two _ _) rfl (nosc))
  · refine holds_bool 16 rfl (r := false) (rfl) ?_
    refine exec_ok hT true 200 ?_
    conv => arg 4; whnf
    cases h1 : inV v
    · refine holds_bool 19 rfl (r := true) (rfl) ?_
      refine exec_ok hT true 200 ?_
      conv => arg 4; whnf
      exact holds_ret (ret_pure (.inl rfl) rfl (fun _ => by simp only [distE, distV, distOk, List.all_cons, List.all_nil, Bool.and_true, h, h1, Bool.true_and, cond_false] <;> rfl) (free_two _ _) rfl (nosc))
    · refine holds_bool 19 rfl (r := false) (rfl) ?_
      refine exec_ok hT true 200 ?_
      conv => arg 4; whnf
      refine holds_call rfl rfl rfl ((ref02_Dot p.n v).any (free3 (free_V _) (free_V _)) (free_two _ _) _) rfl (by show 24 < 37; decide) ?_
      rintro _ _ ⟨rfl, rfl⟩
      refine exec_ok hT true 200 ?_
      conv => arg 4; whnf
      cases h2 : (dotE p.n v != 0)
      · refine holds_bool 28 rfl (r := false) (h2) ?_
        refine exec_ok hT true 200 ?_
        conv => arg 4; whnf
        refine holds_call rfl rfl rfl ((ro_refAdd (len := .lit 2) [dotV p.n v, p.d] (by simp) rfl rfl (by exact Nat.le_refl 2) (fun _ => rfl) rfl).call) rfl (by show 34 < 37; decide) ?_
        rintro _ _ ⟨rfl, rfl⟩
        refine exec_ok hT true 200 ?_
        conv => arg 4; whnf
        exact holds_ret (ret_pure (.inl rfl) rfl (fun _ => by simp only [distE, distV, distOk, List.all_cons, List.all_nil, Bool.and_true, h, h1, h2, Bool.and_self, cond_true, cond_false] <;> rfl) (free_two _ _) rfl (nosc))
      · refine holds_bool 28 rfl (r := true) (h2) ?_
        refine exec_ok hT true 200 ?_
        conv => arg 4; whnf
        exact holds_ret (ret_pure (.inl rfl) rfl (fun _ => by simp only [distE, distV, distOk, List.all_cons, List.all_nil, Bool.and_true, h, h1, h2, Bool.and_self, cond_true] <;> rfl) (free_two _ _) rfl (nosc))
end Go.Proofs.Ytbkcaedlijhnlaa.LB
