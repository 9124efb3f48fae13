/- The plain law of the matrices. -/
import Derived.Test.YtbkcaedlijhnlaaAf5
namespace Go.Proofs.Ytbkcaedlijhnlaa.LB
open Go Go.RowKit
def Rg (x : Int) : Prop := -2147483648 ≤ x ∧ x ≤ 2147483647
theorem inR_iff {x : Int} : inR x = true ↔ Rg x := by simp [inR, Rg]
theorem w64 {x : Int} (h : -9223372036854775808 ≤ x) (h' : x ≤ 9223372036854775807) : IntKind.i64.wrap x = x := IntWalk.i64_in _ (by omega)
theorem mul_bound {a b : Int} (ha : Rg a) (hb : Rg b) : -4611686018427387904 ≤ a * b ∧ a * b ≤ 4611686018427387904 := by
  have h : (a * b).natAbs ≤ 2147483648 * 2147483648 := by
    rw [Int.natAbs_mul]
    exact Nat.mul_le_mul (by unfold Rg at ha; omega) (by unfold Rg at hb; omega)
  omega
theorem mulQ_eq {a b : Int} (ha : Rg a) (hb : Rg b) : mulQ a b = a * b / 65536 := by
  have h := mul_bound ha hb
  unfold mulQ
  rw [w64 (by omega) (by omega), show (2 : Int) ^ min (16 : Int).toNat IntKind.i64.bits = 65536 from rfl]
  exact Int.fdiv_eq_ediv_of_nonneg _ (by decide)
theorem outE_zero {x : Int} : outE x = 0 ↔ Rg x := by
  unfold outE
  by_cases h : inR x = true
  · rw [if_pos h]; simp [inR_iff.1 h]
  · rw [if_neg h]; exact ⟨fun h => absurd h (by decide), fun g => absurd (inR_iff.2 g) h⟩
theorem outV_of {x : Int} (h : Rg x) : outV x = x := by unfold outV; rw [if_pos (inR_iff.2 h)]
theorem mul_s {a b : Int} (h : mulE a b = 0) : Rg a ∧ Rg b ∧ mulV a b = a * b / 65536 ∧ Rg (mulV a b) := by
  unfold mulE at h
  by_cases hc : (inR a && inR b) = true
  · rw [if_pos hc] at h
    obtain ⟨ha, hb⟩ := Bool.and_eq_true_iff.1 hc
    have ha := inR_iff.1 ha
    have hb := inR_iff.1 hb
    have h := outE_zero.1 h
    unfold mulV
    rw [if_pos hc, outV_of h]
    exact ⟨ha, hb, mulQ_eq ha hb, h⟩
  · rw [if_neg hc] at h; exact absurd h (by decide)
theorem mul_val {a b p : Int} (ha : Rg a) (hb : Rg b) (e : a * b / 65536 = p) (hp : Rg p) : mulV a b = p ∧ mulE a b = 0 := by
  have hc : (inR a && inR b) = true := by rw [inR_iff.2 ha, inR_iff.2 hb]; rfl
  have hq : mulQ a b = p := (mulQ_eq ha hb).trans e
  unfold mulV mulE
  rw [if_pos hc, if_pos hc, hq]
  exact ⟨outV_of hp, outE_zero.2 hp⟩
theorem add_val {m a b c s : Int} (hm : Rg m) (ha : Rg a) (hb : Rg b) (hc : Rg c) (e : m + a + b + c = s) : addV [m, a, b, c] = outV s ∧ addE [m, a, b, c] = outE s := by
  have hok : addOk [m, a, b, c] = true := by simp [addOk, inR_iff.2 hm, inR_iff.2 ha, inR_iff.2 hb, inR_iff.2 hc]
  have hs : sumW [m, a, b, c] = s := by
    unfold Rg at hm ha hb hc
    simp only [sumW, List.foldl_cons, List.foldl_nil]
    rw [w64 (x := 0 + m) (by omega) (by omega), w64 (x := 0 + m + a) (by omega) (by omega), w64 (x := 0 + m + a + b) (by omega) (by omega), w64 (by omega) (by omega)]
    omega
  unfold addV addE
  rw [if_pos hok, if_pos hok, hs]; exact ⟨rfl, rfl⟩
theorem ne_zero {e : Int} (h : ¬ e = 0) : (e != 0) = true := by simpa using h
theorem prod_s {a b : V3} {m : Int} (h : prodE a b m = 0) : prodV a b m = m + a.x * b.x / 65536 + a.y * b.y / 65536 + a.z * b.z / 65536 := by
  unfold prodE at h
  unfold prodV
  by_cases hx : mulE a.x b.x = 0
  · by_cases hy : mulE a.y b.y = 0
    · by_cases hz : mulE a.z b.z = 0
      · rw [if_neg (by simp [hx]), if_neg (by simp [hy]), if_neg (by simp [hz])] at h ⊢
        obtain ⟨_, _, e0, r0⟩ := mul_s hx
        obtain ⟨_, _, e1, r1⟩ := mul_s hy
        obtain ⟨_, _, e2, r2⟩ := mul_s hz
        unfold prodL at h ⊢
        have hm : Rg m := by
          unfold addE at h
          by_cases hok : addOk [m, mulV a.x b.x, mulV a.y b.y, mulV a.z b.z] = true
          · unfold addOk at hok
            simp only [List.all_cons, Bool.and_eq_true] at hok
            exact inR_iff.1 hok.1.1
          · rw [if_neg hok] at h; exact absurd h (by decide)
        obtain ⟨f1, f2⟩ := add_val hm r0 r1 r2 rfl
        rw [f2] at h
        rw [f1, outV_of (outE_zero.1 h), e0, e1, e2]
      · rw [if_neg (by simp [hx]), if_neg (by simp [hy]), if_pos (ne_zero hz)] at h; exact absurd h hz
    · rw [if_neg (by simp [hx]), if_pos (ne_zero hy)] at h; exact absurd h hy
  · rw [if_pos (ne_zero hx)] at h; exact absurd h hx
theorem prod_val {a b : V3} {m p0 p1 p2 s : Int} (h0 : mulV a.x b.x = p0 ∧ mulE a.x b.x = 0) (h1 : mulV a.y b.y = p1 ∧ mulE a.y b.y = 0) (h2 : mulV a.z b.z = p2 ∧ mulE a.z b.z = 0) (hm : Rg m) (r0 : Rg p0) (r1 : Rg p1) (r2 : Rg p2) (e : m + p0 + p1 + p2 = s) (hs : Rg s) : prodV a b m = s ∧ prodE a b m = 0 := by
  unfold prodV prodE prodL
  rw [h0.2, h1.2, h2.2, h0.1, h1.1, h2.1]
  simp only [bne_self_eq_false, Bool.false_eq_true, if_false]
  obtain ⟨f1, f2⟩ := add_val hm r0 r1 r2 e
  rw [f1, f2]
  exact ⟨outV_of hs, outE_zero.2 hs⟩
theorem firstE_zero : ∀ {l : List Int}, firstE l = 0 → ∀ e ∈ l, e = 0
  | [], _ => fun e he => by simp at he
  | x :: r, h => by
    unfold firstE at h
    cases hx : (x != 0) with
    | true => rw [hx, cond_true] at h; rw [h] at hx; simp at hx
    | false =>
      rw [hx, cond_false] at h
      intro e he
      rcases List.mem_cons.1 he with rfl | he
      · exact eq_of_ne hx
      · exact firstE_zero h e he
theorem firstE_all : ∀ {l : List Int}, (∀ e ∈ l, e = 0) → firstE l = 0
  | [], _ => rfl
  | x :: r, h => by
    unfold firstE
    rw [h x (by simp)]
    exact firstE_all fun e he => h e (by simp [he])
/-- Whole numbers, as the numbers stand. -/
def scM (m : M12) : M12 := ⟨65536 * m.a0, 65536 * m.a1, 65536 * m.a2, 65536 * m.a3, 65536 * m.a4, 65536 * m.a5, 65536 * m.a6, 65536 * m.a7, 65536 * m.a8, 65536 * m.a9, 65536 * m.a10, 65536 * m.a11⟩
def scV (v : V3) : V3 := ⟨65536 * v.x, 65536 * v.y, 65536 * v.z⟩
def PI (a b : M12) : M12 := ⟨0 + a.a0 * b.a0 + a.a1 * b.a4 + a.a2 * b.a8, 0 + a.a0 * b.a1 + a.a1 * b.a5 + a.a2 * b.a9, 0 + a.a0 * b.a2 + a.a1 * b.a6 + a.a2 * b.a10, a.a3 + a.a0 * b.a3 + a.a1 * b.a7 + a.a2 * b.a11, 0 + a.a4 * b.a0 + a.a5 * b.a4 + a.a6 * b.a8, 0 + a.a4 * b.a1 + a.a5 * b.a5 + a.a6 * b.a9, 0 + a.a4 * b.a2 + a.a5 * b.a6 + a.a6 * b.a10, a.a7 + a.a4 * b.a3 + a.a5 * b.a7 + a.a6 * b.a11, 0 + a.a8 * b.a0 + a.a9 * b.a4 + a.a10 * b.a8, 0 + a.a8 * b.a1 + a.a9 * b.a5 + a.a10 * b.a9, 0 + a.a8 * b.a2 + a.a9 * b.a6 + a.a10 * b.a10, a.a11 + a.a8 * b.a3 + a.a9 * b.a7 + a.a10 * b.a11⟩
def AI (a : M12) (v : V3) : V3 := ⟨a.a3 + a.a0 * v.x + a.a1 * v.y + a.a2 * v.z, a.a7 + a.a4 * v.x + a.a5 * v.y + a.a6 * v.z, a.a11 + a.a8 * v.x + a.a9 * v.y + a.a10 * v.z⟩
theorem assoc (a b c : M12) : PI (PI a b) c = PI a (PI b c) := by
  simp only [PI, M12.mk.injEq]
  refine ⟨?_, ?_, ?_, ?_, ?_, ?_, ?_, ?_, ?_, ?_, ?_, ?_⟩ <;> grind
theorem assocV (a b : M12) (v : V3) : AI (PI a b) v = AI a (AI b v) := by
  simp only [PI, AI, V3.mk.injEq]
  refine ⟨?_, ?_, ?_⟩ <;> grind
theorem div_sc (a b : Int) : 65536 * a * (65536 * b) / 65536 = 65536 * (a * b) := by
  rw [show 65536 * a * (65536 * b) = 65536 * (65536 * (a * b)) from by grind]
  exact Int.mul_ediv_cancel_left _ (by decide)
theorem two_sc {a b : M12} (h : twoE (scM a) (scM b) = 0) : twoP (scM a) (scM b) = scM (PI a b) := by
  have hall := firstE_zero h
  unfold twoP
  rw [h]
  have h00 := prod_s (hall (cellE (scM a) (scM b) 0 0) (by simp))
  have h01 := prod_s (hall (cellE (scM a) (scM b) 0 1) (by simp))
  have h02 := prod_s (hall (cellE (scM a) (scM b) 0 2) (by simp))
  have h03 := prod_s (hall (cellE (scM a) (scM b) 0 3) (by simp))
  have h10 := prod_s (hall (cellE (scM a) (scM b) 1 0) (by simp))
  have h11 := prod_s (hall (cellE (scM a) (scM b) 1 1) (by simp))
  have h12 := prod_s (hall (cellE (scM a) (scM b) 1 2) (by simp))
  have h13 := prod_s (hall (cellE (scM a) (scM b) 1 3) (by simp))
  have h20 := prod_s (hall (cellE (scM a) (scM b) 2 0) (by simp))
  have h21 := prod_s (hall (cellE (scM a) (scM b) 2 1) (by simp))
  have h22 := prod_s (hall (cellE (scM a) (scM b) 2 2) (by simp))
  have h23 := prod_s (hall (cellE (scM a) (scM b) 2 3) (by simp))
  simp only [bne_self_eq_false, cond_false, cellV]
  rw [h00, h01, h02, h03, h10, h11, h12, h13, h20, h21, h22, h23]
  simp only [M12.row, M12.col, mvOf, M12.mv, scM, div_sc, PI, M12.mk.injEq, if_true]
  refine ⟨?_, ?_, ?_, ?_, ?_, ?_, ?_, ?_, ?_, ?_, ?_, ?_⟩ <;> (try simp) <;> grind
theorem mul_sc {a b : M12} (h : mulME (scM a) (scM b) = 0) : mulMV (scM a) (scM b) = scM (PI a b) := by
  unfold mulME at h
  unfold mulMV
  cases hc : [scM a, scM b].all inM with
  | false => rw [hc, cond_false] at h; exact absurd h (by decide)
  | true => rw [hc] at h; exact two_sc h
theorem app_sc {a : M12} {v : V3} (h : appE (scM a) (scV v) = 0) : appV (scM a) (scV v) = scV (AI a v) := by
  unfold appV
  rw [h]
  unfold appE at h
  cases hc : [scM a].all inM && [scV v].all inV with
  | false => rw [hc, cond_false] at h; exact absurd h (by decide)
  | true =>
    rw [hc] at h
    have hall := firstE_zero h
    have h0 := prod_s (hall (prodE ((scM a).row 0) (scV v) ((scM a).mv 0)) (by simp))
    have h1 := prod_s (hall (prodE ((scM a).row 1) (scV v) ((scM a).mv 1)) (by simp))
    have h2 := prod_s (hall (prodE ((scM a).row 2) (scV v) ((scM a).mv 2)) (by simp))
    simp only [bne_self_eq_false, cond_false]
    rw [h0, h1, h2]
    simp only [M12.row, M12.mv, scM, scV, div_sc, AI, V3.mk.injEq]
    refine ⟨?_, ?_, ?_⟩ <;> grind
def R8 (x : Int) : Prop := -128 ≤ x ∧ x ≤ 127
def R8M (m : M12) : Prop := R8 m.a0 ∧ R8 m.a1 ∧ R8 m.a2 ∧ R8 m.a3 ∧ R8 m.a4 ∧ R8 m.a5 ∧ R8 m.a6 ∧ R8 m.a7 ∧ R8 m.a8 ∧ R8 m.a9 ∧ R8 m.a10 ∧ R8 m.a11
theorem up8_eq {x : Int} (h : R8 x) : up8 x = 65536 * x := by
  unfold R8 at h
  unfold up8
  rw [w64 (x := x) (by omega) (by omega), w64 (by omega) (by omega)]
theorem whole_sc {m : M12} (h : R8M m) : wholeM m = scM m := by
  obtain ⟨g0, g1, g2, g3, g4, g5, g6, g7, g8, g9, g10, g11⟩ := h
  simp only [wholeM, scM, up8_eq, g0, g1, g2, g3, g4, g5, g6, g7, g8, g9, g10, g11]
theorem one_mul' {x : Int} (h : Rg x) : mulV 65536 x = x ∧ mulE 65536 x = 0 := mul_val (by unfold Rg; omega) h (by omega) h
theorem mul_one' {x : Int} (h : Rg x) : mulV x 65536 = x ∧ mulE x 65536 = 0 := mul_val h (by unfold Rg; omega) (by omega) h
theorem zero_mul' {x : Int} (h : Rg x) : mulV 0 x = 0 ∧ mulE 0 x = 0 := mul_val (by unfold Rg; omega) h (by omega) (by unfold Rg; omega)
theorem mul_zero' {x : Int} (h : Rg x) : mulV x 0 = 0 ∧ mulE x 0 = 0 := mul_val h (by unfold Rg; omega) (by omega) (by unfold Rg; omega)
theorem rg0 : Rg 0 := by unfold Rg; omega
theorem inM_iff {m : M12} (h : inM m = true) : Rg m.a0 ∧ Rg m.a1 ∧ Rg m.a2 ∧ Rg m.a3 ∧ Rg m.a4 ∧ Rg m.a5 ∧ Rg m.a6 ∧ Rg m.a7 ∧ Rg m.a8 ∧ Rg m.a9 ∧ Rg m.a10 ∧ Rg m.a11 := by
  unfold inM at h
  simp only [List.all_cons, List.all_nil, Bool.and_true, Bool.and_eq_true, inR_iff] at h
  exact h
theorem inV_iff {v : V3} (h : inV v = true) : Rg v.x ∧ Rg v.y ∧ Rg v.z := by
  unfold inV at h
  simp only [List.all_cons, List.all_nil, Bool.and_true, Bool.and_eq_true, inR_iff] at h
  exact h
theorem id_left {m : M12} (h : inM m = true) : mulMV sameM m = m ∧ mulME sameM m = 0 := by
  obtain ⟨g0, g1, g2, g3, g4, g5, g6, g7, g8, g9, g10, g11⟩ := inM_iff h
  have h00 : cellV sameM m 0 0 = m.a0 ∧ cellE sameM m 0 0 = 0 := prod_val (one_mul' g0) (zero_mul' g4) (zero_mul' g8) rg0 g0 rg0 rg0  (by simp [mvOf, M12.mv, M12.row, M12.col, sameM]) g0
  have h01 : cellV sameM m 0 1 = m.a1 ∧ cellE sameM m 0 1 = 0 := prod_val (one_mul' g1) (zero_mul' g5) (zero_mul' g9) rg0 g1 rg0 rg0  (by simp [mvOf, M12.mv, M12.row, M12.col, sameM]) g1
  have h02 : cellV sameM m 0 2 = m.a2 ∧ cellE sameM m 0 2 = 0 := prod_val (one_mul' g2) (zero_mul' g6) (zero_mul' g10) rg0 g2 rg0 rg0  (by simp [mvOf, M12.mv, M12.row, M12.col, sameM]) g2
  have h03 : cellV sameM m 0 3 = m.a3 ∧ cellE sameM m 0 3 = 0 := prod_val (one_mul' g3) (zero_mul' g7) (zero_mul' g11) rg0 g3 rg0 rg0  (by simp [mvOf, M12.mv, M12.row, M12.col, sameM]) g3
  have h10 : cellV sameM m 1 0 = m.a4 ∧ cellE sameM m 1 0 = 0 := prod_val (zero_mul' g0) (one_mul' g4) (zero_mul' g8) rg0 rg0 g4 rg0  (by simp [mvOf, M12.mv, M12.row, M12.col, sameM]) g4
  have h11 : cellV sameM m 1 1 = m.a5 ∧ cellE sameM m 1 1 = 0 := prod_val (zero_mul' g1) (one_mul' g5) (zero_mul' g9) rg0 rg0 g5 rg0  (by simp [mvOf, M12.mv, M12.row, M12.col, sameM]) g5
  have h12 : cellV sameM m 1 2 = m.a6 ∧ cellE sameM m 1 2 = 0 := prod_val (zero_mul' g2) (one_mul' g6) (zero_mul' g10) rg0 rg0 g6 rg0  (by simp [mvOf, M12.mv, M12.row, M12.col, sameM]) g6
  have h13 : cellV sameM m 1 3 = m.a7 ∧ cellE sameM m 1 3 = 0 := prod_val (zero_mul' g3) (one_mul' g7) (zero_mul' g11) rg0 rg0 g7 rg0  (by simp [mvOf, M12.mv, M12.row, M12.col, sameM]) g7
  have h20 : cellV sameM m 2 0 = m.a8 ∧ cellE sameM m 2 0 = 0 := prod_val (zero_mul' g0) (zero_mul' g4) (one_mul' g8) rg0 rg0 rg0 g8  (by simp [mvOf, M12.mv, M12.row, M12.col, sameM]) g8
  have h21 : cellV sameM m 2 1 = m.a9 ∧ cellE sameM m 2 1 = 0 := prod_val (zero_mul' g1) (zero_mul' g5) (one_mul' g9) rg0 rg0 rg0 g9  (by simp [mvOf, M12.mv, M12.row, M12.col, sameM]) g9
  have h22 : cellV sameM m 2 2 = m.a10 ∧ cellE sameM m 2 2 = 0 := prod_val (zero_mul' g2) (zero_mul' g6) (one_mul' g10) rg0 rg0 rg0 g10  (by simp [mvOf, M12.mv, M12.row, M12.col, sameM]) g10
  have h23 : cellV sameM m 2 3 = m.a11 ∧ cellE sameM m 2 3 = 0 := prod_val (zero_mul' g3) (zero_mul' g7) (one_mul' g11) rg0 rg0 rg0 g11  (by simp [mvOf, M12.mv, M12.row, M12.col, sameM]) g11
  have hc : [sameM, m].all inM = true := by simp [h, show inM sameM = true from rfl]
  have he : twoE sameM m = 0 := firstE_all (by simp [h00.2, h01.2, h02.2, h03.2, h10.2, h11.2, h12.2, h13.2, h20.2, h21.2, h22.2, h23.2])
  unfold mulMV mulME
  rw [hc, cond_true, cond_true, he]
  unfold twoP
  rw [he, h00.1, h01.1, h02.1, h03.1, h10.1, h11.1, h12.1, h13.1, h20.1, h21.1, h22.1, h23.1]
  exact ⟨rfl, rfl⟩
theorem id_right {m : M12} (h : inM m = true) : mulMV m sameM = m ∧ mulME m sameM = 0 := by
  obtain ⟨g0, g1, g2, g3, g4, g5, g6, g7, g8, g9, g10, g11⟩ := inM_iff h
  have h00 : cellV m sameM 0 0 = m.a0 ∧ cellE m sameM 0 0 = 0 := prod_val (mul_one' g0) (mul_zero' g1) (mul_zero' g2) rg0 g0 rg0 rg0  (by simp [mvOf, M12.mv, M12.row, M12.col, sameM]) g0
  have h01 : cellV m sameM 0 1 = m.a1 ∧ cellE m sameM 0 1 = 0 := prod_val (mul_zero' g0) (mul_one' g1) (mul_zero' g2) rg0 rg0 g1 rg0  (by simp [mvOf, M12.mv, M12.row, M12.col, sameM]) g1
  have h02 : cellV m sameM 0 2 = m.a2 ∧ cellE m sameM 0 2 = 0 := prod_val (mul_zero' g0) (mul_zero' g1) (mul_one' g2) rg0 rg0 rg0 g2  (by simp [mvOf, M12.mv, M12.row, M12.col, sameM]) g2
  have h03 : cellV m sameM 0 3 = m.a3 ∧ cellE m sameM 0 3 = 0 := prod_val (mul_zero' g0) (mul_zero' g1) (mul_zero' g2) g3 rg0 rg0 rg0  (by simp [mvOf, M12.mv, M12.row, M12.col, sameM]) g3
  have h10 : cellV m sameM 1 0 = m.a4 ∧ cellE m sameM 1 0 = 0 := prod_val (mul_one' g4) (mul_zero' g5) (mul_zero' g6) rg0 g4 rg0 rg0  (by simp [mvOf, M12.mv, M12.row, M12.col, sameM]) g4
  have h11 : cellV m sameM 1 1 = m.a5 ∧ cellE m sameM 1 1 = 0 := prod_val (mul_zero' g4) (mul_one' g5) (mul_zero' g6) rg0 rg0 g5 rg0  (by simp [mvOf, M12.mv, M12.row, M12.col, sameM]) g5
  have h12 : cellV m sameM 1 2 = m.a6 ∧ cellE m sameM 1 2 = 0 := prod_val (mul_zero' g4) (mul_zero' g5) (mul_one' g6) rg0 rg0 rg0 g6  (by simp [mvOf, M12.mv, M12.row, M12.col, sameM]) g6
  have h13 : cellV m sameM 1 3 = m.a7 ∧ cellE m sameM 1 3 = 0 := prod_val (mul_zero' g4) (mul_zero' g5) (mul_zero' g6) g7 rg0 rg0 rg0  (by simp [mvOf, M12.mv, M12.row, M12.col, sameM]) g7
  have h20 : cellV m sameM 2 0 = m.a8 ∧ cellE m sameM 2 0 = 0 := prod_val (mul_one' g8) (mul_zero' g9) (mul_zero' g10) rg0 g8 rg0 rg0  (by simp [mvOf, M12.mv, M12.row, M12.col, sameM]) g8
  have h21 : cellV m sameM 2 1 = m.a9 ∧ cellE m sameM 2 1 = 0 := prod_val (mul_zero' g8) (mul_one' g9) (mul_zero' g10) rg0 rg0 g9 rg0  (by simp [mvOf, M12.mv, M12.row, M12.col, sameM]) g9
  have h22 : cellV m sameM 2 2 = m.a10 ∧ cellE m sameM 2 2 = 0 := prod_val (mul_zero' g8) (mul_zero' g9) (mul_one' g10) rg0 rg0 rg0 g10  (by simp [mvOf, M12.mv, M12.row, M12.col, sameM]) g10
  have h23 : cellV m sameM 2 3 = m.a11 ∧ cellE m sameM 2 3 = 0 := prod_val (mul_zero' g8) (mul_zero' g9) (mul_zero' g10) g11 rg0 rg0 rg0  (by simp [mvOf, M12.mv, M12.row, M12.col, sameM]) g11
  have hc : [m, sameM].all inM = true := by simp [h, show inM sameM = true from rfl]
  have he : twoE m sameM = 0 := firstE_all (by simp [h00.2, h01.2, h02.2, h03.2, h10.2, h11.2, h12.2, h13.2, h20.2, h21.2, h22.2, h23.2])
  unfold mulMV mulME
  rw [hc, cond_true, cond_true, he]
  unfold twoP
  rw [he, h00.1, h01.1, h02.1, h03.1, h10.1, h11.1, h12.1, h13.1, h20.1, h21.1, h22.1, h23.1]
  exact ⟨rfl, rfl⟩
theorem id_app {v : V3} (h : inV v = true) : appV sameM v = v ∧ appE sameM v = 0 := by
  obtain ⟨gx, gy, gz⟩ := inV_iff h
  have h0 : prodV (sameM.row 0) v (sameM.mv 0) = v.x ∧ prodE (sameM.row 0) v (sameM.mv 0) = 0 := prod_val (one_mul' gx) (zero_mul' gy) (zero_mul' gz) rg0 gx rg0 rg0 (by simp [M12.mv, M12.row, sameM]) gx
  have h1 : prodV (sameM.row 1) v (sameM.mv 1) = v.y ∧ prodE (sameM.row 1) v (sameM.mv 1) = 0 := prod_val (zero_mul' gx) (one_mul' gy) (zero_mul' gz) rg0 rg0 gy rg0 (by simp [M12.mv, M12.row, sameM]) gy
  have h2 : prodV (sameM.row 2) v (sameM.mv 2) = v.z ∧ prodE (sameM.row 2) v (sameM.mv 2) = 0 := prod_val (zero_mul' gx) (zero_mul' gy) (one_mul' gz) rg0 rg0 rg0 gz (by simp [M12.mv, M12.row, sameM]) gz
  have hc : ([sameM].all inM && [v].all inV) = true := by simp [h, show inM sameM = true from rfl]
  have he : appE sameM v = 0 := by
    unfold appE
    rw [hc, cond_true]
    exact firstE_all (by simp [h0.2, h1.2, h2.2])
  unfold appV
  rw [he, h0.1, h1.1, h2.1]
  exact ⟨rfl, rfl⟩
end Go.Proofs.Ytbkcaedlijhnlaa.LB
