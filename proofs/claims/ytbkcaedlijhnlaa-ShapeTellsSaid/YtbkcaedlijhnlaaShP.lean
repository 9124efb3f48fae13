/- The plain law of the shapes. -/
import Derived.Test.YtbkcaedlijhnlaaSh
import Derived.Test.YtbkcaedlijhnlaaAfP
namespace Go.Proofs.Ytbkcaedlijhnlaa.LB
open Go Go.RowKit
theorem mn_le {a b : Int} : mn a b ≤ a ∧ mn a b ≤ b := by unfold mn; split <;> omega
theorem mx_ge {a b : Int} : a ≤ mx a b ∧ b ≤ mx a b := by unfold mx; split <;> omega
theorem mn_eq {a b : Int} : mn a b = a ↔ a ≤ b := by unfold mn; split <;> omega
theorem mx_eq {a b : Int} : mx a b = a ↔ b ≤ a := by unfold mx; split <;> omega
theorem mulE_nonneg (a b : Int) : 0 ≤ mulE a b := by
  unfold mulE outE
  split
  · split <;> decide
  · decide
theorem addE_nonneg (xs : List Int) : 0 ≤ addE xs := by
  unfold addE outE
  split
  · split <;> decide
  · decide
theorem mx_zero {a b : Int} (ha : 0 ≤ a) (hb : 0 ≤ b) (h : (mx a b != 0) = false) : a = 0 ∧ b = 0 := by
  have h := eq_of_ne h
  have := mx_ge (a := a) (b := b)
  omega
theorem add_s {xs : List Int} (h : addE xs = 0) : (∀ x ∈ xs, Rg x) ∧ Rg (sumW xs) ∧ addV xs = sumW xs := by
  unfold addE at h
  unfold addV
  by_cases hok : addOk xs = true
  · rw [if_pos hok] at h ⊢
    have hr := outE_zero.1 h
    unfold addOk at hok
    simp only [Bool.and_eq_true, List.all_eq_true] at hok
    exact ⟨fun x hx => inR_iff.1 (hok.1 x hx), hr, outV_of hr⟩
  · rw [if_neg hok] at h; exact absurd h (by decide)
theorem sum4 {a b c d : Int} (ha : Rg a) (hb : Rg b) (hc : Rg c) (hd : Rg d) : sumW [a, b, c, d] = a + b + c + d := by
  unfold Rg at *
  simp only [sumW, List.foldl_cons, List.foldl_nil]
  rw [w64 (x := 0 + a) (by omega) (by omega), w64 (x := 0 + a + b) (by omega) (by omega), w64 (x := 0 + a + b + c) (by omega) (by omega), w64 (by omega) (by omega)]
  omega
theorem sum3 {a b c : Int} (ha : Rg a) (hb : Rg b) (hc : Rg c) : sumW [a, b, c] = a + b + c := by
  unfold Rg at *
  simp only [sumW, List.foldl_cons, List.foldl_nil]
  rw [w64 (x := 0 + a) (by omega) (by omega), w64 (x := 0 + a + b) (by omega) (by omega), w64 (by omega) (by omega)]
  omega
theorem sum2 {a b : Int} (ha : Rg a) (hb : Rg b) : sumW [a, b] = a + b := by
  unfold Rg at *
  simp only [sumW, List.foldl_cons, List.foldl_nil]
  rw [w64 (x := 0 + a) (by omega) (by omega), w64 (by omega) (by omega)]
  omega
def inside (b : B6) (v : V3) : Prop := (b.lo.x ≤ v.x ∧ b.lo.y ≤ v.y ∧ b.lo.z ≤ v.z) ∧ (v.x ≤ b.hi.x ∧ v.y ≤ b.hi.y ∧ v.z ≤ b.hi.z)
theorem inB_iff {b : B6} {v : V3} : inB b v = true ↔ inside b v := by
  simp [inB, eqV3, leastV, greatV, mn_eq, mx_eq, inside]
/-- A number between two: its product is between theirs. -/
theorem mid {n lo v hi : Int} (h1 : lo ≤ v) (h2 : v ≤ hi) : mn (n * lo / 65536) (n * hi / 65536) ≤ n * v / 65536 ∧ n * v / 65536 ≤ mx (n * lo / 65536) (n * hi / 65536) := by
  have m1 := mn_le (a := n * lo / 65536) (b := n * hi / 65536)
  have m2 := mx_ge (a := n * lo / 65536) (b := n * hi / 65536)
  rcases Int.le_total 0 n with hn | hn
  · have a1 := Int.ediv_le_ediv (c := 65536) (by decide) (Int.mul_le_mul_of_nonneg_left h1 hn)
    have a2 := Int.ediv_le_ediv (c := 65536) (by decide) (Int.mul_le_mul_of_nonneg_left h2 hn)
    omega
  · have a1 := Int.ediv_le_ediv (c := 65536) (by decide) (Int.mul_le_mul_of_nonpos_left hn h1)
    have a2 := Int.ediv_le_ediv (c := 65536) (by decide) (Int.mul_le_mul_of_nonpos_left hn h2)
    omega
theorem mul_mid {n lo v hi : Int} (h : (mx (mulE n lo) (mulE n hi) != 0) = false) (h1 : lo ≤ v) (h2 : v ≤ hi) : mulE n v = 0 ∧ Rg (mulV n v) ∧ mn (mulV n lo) (mulV n hi) ≤ mulV n v ∧ mulV n v ≤ mx (mulV n lo) (mulV n hi) ∧ mulV n v = n * v / 65536 := by
  obtain ⟨e1, e2⟩ := mx_zero (mulE_nonneg _ _) (mulE_nonneg _ _) h
  obtain ⟨g1, g2, g3, g4⟩ := mul_s e1
  obtain ⟨g5, g6, g7, g8⟩ := mul_s e2
  have hm := mid (n := n) h1 h2
  rw [← g3, ← g7] at hm
  have hr : Rg (n * v / 65536) := by
    unfold Rg mn mx at *
    split at hm <;> split at hm <;> omega
  obtain ⟨g9, g10⟩ := mul_val g1 (by unfold Rg at *; omega) rfl hr
  rw [g9]
  exact ⟨g10, hr, hm.1, hm.2, rfl⟩
theorem mn_rg {a b : Int} (ha : Rg a) (hb : Rg b) : Rg (mn a b) := by unfold mn; split <;> assumption
theorem mx_rg {a b : Int} (ha : Rg a) (hb : Rg b) : Rg (mx a b) := by unfold mx; split <;> assumption
theorem ends_in {n : V3} {m : Int} {b : B6} {v : V3} (h : endsE n m b = 0) (hv : inside b v) : Rg m ∧ (mulE n.x v.x = 0 ∧ mulE n.y v.y = 0 ∧ mulE n.z v.z = 0) ∧ (Rg (mulV n.x v.x) ∧ Rg (mulV n.y v.y) ∧ Rg (mulV n.z v.z)) ∧
    endsLo n m b ≤ m + mulV n.x v.x + mulV n.y v.y + mulV n.z v.z ∧ m + mulV n.x v.x + mulV n.y v.y + mulV n.z v.z ≤ endsHi n m b ∧ Rg (m + mulV n.x v.x + mulV n.y v.y + mulV n.z v.z) := by
  unfold endsLo endsHi
  rw [h]
  unfold endsE at h
  cases hx : (mx (mulE n.x b.lo.x) (mulE n.x b.hi.x) != 0) with
  | true => rw [hx, cond_true] at h; exact absurd h (by decide)
  | false =>
    rw [hx, cond_false] at h
    cases hy : (mx (mulE n.y b.lo.y) (mulE n.y b.hi.y) != 0) with
    | true => rw [hy, cond_true] at h; exact absurd h (by decide)
    | false =>
      rw [hy, cond_false] at h
      cases hz : (mx (mulE n.z b.lo.z) (mulE n.z b.hi.z) != 0) with
      | true => rw [hz, cond_true] at h; exact absurd h (by decide)
      | false =>
        rw [hz, cond_false] at h
        cases ha : (mx (addE (endL n m b)) (addE (endG n m b)) != 0) with
        | true => rw [ha, cond_true] at h; exact absurd h (by decide)
        | false =>
          obtain ⟨e1, e2⟩ := mx_zero (addE_nonneg _) (addE_nonneg _) ha
          obtain ⟨r1, s1, t1⟩ := add_s e1
          obtain ⟨r2, s2, t2⟩ := add_s e2
          obtain ⟨x1, x2, x3, x4, _⟩ := mul_mid hx hv.1.1 hv.2.1
          obtain ⟨y1, y2, y3, y4, _⟩ := mul_mid hy hv.1.2.1 hv.2.2.1
          obtain ⟨z1, z2, z3, z4, _⟩ := mul_mid hz hv.1.2.2 hv.2.2.2
          unfold endL at r1 s1 t1
          unfold endG at r2 s2 t2
          rw [sum4 (r1 _ (by simp)) (r1 _ (by simp)) (r1 _ (by simp)) (r1 _ (by simp))] at s1 t1
          rw [sum4 (r2 _ (by simp)) (r2 _ (by simp)) (r2 _ (by simp)) (r2 _ (by simp))] at s2 t2
          simp only [bne_self_eq_false, cond_false, endL, endG]
          rw [t1, t2]
          have hm : Rg m := r1 _ (by simp)
          refine ⟨hm, ⟨x1, y1, z1⟩, ⟨x2, y2, z2⟩, by omega, by omega, ?_⟩
          unfold Rg at *
          omega
theorem ends_prod {n : V3} {m : Int} {b : B6} {v : V3} (h : endsE n m b = 0) (hv : inside b v) : prodE n v m = 0 ∧ endsLo n m b ≤ prodV n v m ∧ prodV n v m ≤ endsHi n m b := by
  obtain ⟨hm, ⟨x1, y1, z1⟩, ⟨x2, y2, z2⟩, lo, hi, hs⟩ := ends_in h hv
  obtain ⟨p1, p2⟩ := prod_val (a := n) (b := v) (m := m) ⟨rfl, x1⟩ ⟨rfl, y1⟩ ⟨rfl, z1⟩ hm x2 y2 z2 rfl hs
  rw [p1]
  exact ⟨p2, lo, hi⟩
theorem inside_V {b : B6} {v : V3} (h : boxOk b = true) (hv : inside b v) : inV v = true := by
  unfold boxOk at h
  simp only [List.all_cons, List.all_nil, Bool.and_true, Bool.and_eq_true] at h
  obtain ⟨a1, a2, a3⟩ := inV_iff h.1.1
  obtain ⟨b1, b2, b3⟩ := inV_iff h.1.2
  obtain ⟨⟨c1, c2, c3⟩, d1, d2, d3⟩ := hv
  unfold inV
  simp only [List.all_cons, List.all_nil, Bool.and_true, Bool.and_eq_true, inR_iff]
  unfold Rg at *
  omega
/-- What a matrix makes of a vector in a box is in what it makes of the box. -/
theorem carry_in {m : M12} {b : B6} {v : V3} (h : carryE m b = 0) (hv : inside b v) : appE m v = 0 ∧ inB (carryV m b) (appV m v) = true := by
  unfold carryV
  rw [h]
  unfold carryE at h
  cases hc : carryOk m b with
  | false => rw [hc, cond_false] at h; exact absurd h (by decide)
  | true =>
    rw [hc, cond_true] at h
    have hall := firstE_zero h
    unfold carryOk at hc
    simp only [List.all_cons, List.all_nil, Bool.and_true, Bool.and_eq_true] at hc
    have hV := inside_V hc.2 hv
    have ok : ([m].all inM && [v].all inV) = true := by simp [hc.1, hV]
    obtain ⟨p0, l0, g0⟩ := ends_prod (hall (endsE (m.row 0) (m.mv 0) b) (by simp)) hv
    obtain ⟨p1, l1, g1⟩ := ends_prod (hall (endsE (m.row 1) (m.mv 1) b) (by simp)) hv
    obtain ⟨p2, l2, g2⟩ := ends_prod (hall (endsE (m.row 2) (m.mv 2) b) (by simp)) hv
    have he : appE m v = 0 := by
      unfold appE
      rw [ok, cond_true]
      exact firstE_all (by simp [p0, p1, p2])
    refine ⟨he, inB_iff.2 ?_⟩
    unfold appV
    rw [he]
    exact ⟨⟨l0, l1, l2⟩, g0, g1, g2⟩
/-- A vector's distance is in the span of a box that has it. -/
theorem span_in {p : Pl} {b : B6} {v : V3} (h : spanE p b = 0) (hd : distE p v = 0) (hv : inside b v) : spanLo p b ≤ distV p v ∧ distV p v ≤ spanHi p b := by
  unfold spanLo spanHi
  unfold spanE at h
  cases hc : spanOk p b with
  | false => rw [hc, cond_false] at h; exact absurd h (by decide)
  | true =>
    rw [hc, cond_true] at h
    obtain ⟨hm, ⟨x1, y1, z1⟩, ⟨x2, y2, z2⟩, lo, hi, hs⟩ := ends_in h hv
    unfold distV
    unfold distE at hd
    cases hk : distOk p v with
    | false => rw [hk, cond_false] at hd; exact absurd hd (by decide)
    | true =>
      rw [hk, cond_true] at hd
      cases hz : (dotE p.n v != 0) with
      | true => rw [hz, cond_true] at hd; rw [hd] at hz; exact absurd hz (by decide)
      | false =>
        rw [hz, cond_false] at hd
        have hz0 := eq_of_ne hz
        obtain ⟨r1, s1, t1⟩ := add_s hd
        rw [sum2 (r1 _ (by simp)) (r1 _ (by simp))] at t1
        have hdot : dotV p.n v = mulV p.n.x v.x + mulV p.n.y v.y + mulV p.n.z v.z := by
          unfold dotE at hz0
          unfold dotV
          cases hq : [p.n, v].all inV with
          | false => rw [hq, cond_false] at hz0; exact absurd hz0 (by decide)
          | true =>
            rw [hq, cond_true] at hz0
            have hpe : dotPE p.n v = 0 := firstE_all (by simp [x1, y1, z1])
            rw [hpe] at hz0 ⊢
            simp only [bne_self_eq_false, cond_false, cond_true] at hz0 ⊢
            obtain ⟨_, _, t3⟩ := add_s hz0
            rw [t3]
            exact sum3 x2 y2 z2
        simp only [cond_true, cond_false]
        rw [t1, hdot]
        omega
theorem join_in {a b : B6} {v : V3} (h : joinE a b = 0) (hv : inside a v) : inB (joinV a b) v = true := by
  unfold joinE at h
  unfold joinV
  cases hc : [a, b].all boxOk with
  | false => rw [hc, cond_false] at h; exact absurd h (by decide)
  | true =>
    rw [cond_true]
    refine inB_iff.2 ?_
    obtain ⟨⟨c1, c2, c3⟩, d1, d2, d3⟩ := hv
    have q : ∀ x y z : Int, x ≤ z → mn (mn x x) y ≤ z := fun x y z h => by
      have := mn_le (a := mn x x) (b := y); have := mn_le (a := x) (b := x); omega
    have q' : ∀ x y z : Int, z ≤ x → z ≤ mx (mx x x) y := fun x y z h => by
      have := mx_ge (a := mx x x) (b := y); have := mx_ge (a := x) (b := x); omega
    exact ⟨⟨q _ _ _ c1, q _ _ _ c2, q _ _ _ c3⟩, q' _ _ _ d1, q' _ _ _ d2, q' _ _ _ d3⟩
end Go.Proofs.Ytbkcaedlijhnlaa.LB
