-- Out of the translation, by a program of this session over the printer of the kit, hand-proved functions beside. Not trusted: Lean checks it.
import Derived.Test.YtbkcaedlijhnlaaGKeyx0
import Derived.Test.YtbkcaedlijhnlaaGKeyx2
namespace Go.Proofs.Ytbkcaedlijhnlaa.GKey
open Go.RowKit Go.Proofs.YtbkcaedlijhnlaaW.PrintWords Go.Proofs.YtbkcaedlijhnlaaW.PrintLast Go.Proofs.YtbkcaedlijhnlaaW.PrintMore
attribute [local go_sem] max2_int min2_int max_two min_two max_three min_three max_four min_four   -- for this text's walks alone
set_option linter.unusedVariables false
set_option linter.unusedSimpArgs false

/-! ### key_Less: function 19 -/
def key_Less.l0 : Nat → List (S164) → List (S164) → Int → Int → Option (Bool)
  | 0, _, _, _, _ => none
  | k + 1, x5, x6, x13, x14 => if x14 < x13 then (if 0 ≤ x14 then (if x14 < (x5.length : Int) then (if x14 < (x6.length : Int) then (if ((rd_T164 x5 x14).f0) = ((rd_T164 x6 x14).f0) then (key_Less.l0 k x5 x6 x13 (wrap64 (x14 + 1))) else (some (decide (((rd_T164 x5 x14).f0) < ((rd_T164 x6 x14).f0))))) else (none)) else (none)) else (none)) else (some false)
def key_Less.f (k : Nat) (a0_0 : Int) (a0_1 : Int) (a0_2 : Bool) (a0_3 : Int) (a0_4 : Int) (a0_5 : Int) (a0_6 : Int) (a1_0 : Int) (a1_1 : Int) (a1_2 : Bool) (a1_3 : Int) (a1_4 : Int) (a1_5 : Int) (a1_6 : Int) : Option (Bool) := (key_fields.f a0_0 a0_1 a0_2 a0_3 a0_4 a0_5 a0_6).bind fun t145 => ((key_fields.f a1_0 a1_1 a1_2 a1_3 a1_4 a1_5 a1_6).bind fun t148 => (key_Less.l0 k t145 t148 (t145.length : Int) 0))
theorem key_Less.mono_l : ∀ k, (∀ y0 y1 y2 y3, LeO (key_Less.l0 k y0 y1 y2 y3) (key_Less.l0 (k + 1) y0 y1 y2 y3))
  | 0 => fun _ _ _ _ r h => by simp [key_Less.l0] at h
  | k + 1 => by
    have ih0 := key_Less.mono_l k
    · intro y0 y1 y2 y3
      unfold key_Less.l0
      repeat' first
      | (with_reducible exact ih0 _ _ _ _)
      | (with_reducible exact LeO.refl _)
      | (with_reducible exact LeO.none _)
      | (with_reducible refine LeO.ite ?_ ?_)
      | (with_reducible refine LeO.bind ?_ (fun _ => ?_))
      | exact ih0 _ _ _ _
      | exact LeO.none _
      | refine LeO.ite ?_ ?_
      | refine LeO.bind ?_ (fun _ => ?_)
theorem key_Less.mono : ∀ a0 a1 a2 a3 a4 a5 a6 a7 a8 a9 a10 a11 a12 a13 k, LeO (key_Less.f k a0 a1 a2 a3 a4 a5 a6 a7 a8 a9 a10 a11 a12 a13) (key_Less.f (k + 1) a0 a1 a2 a3 a4 a5 a6 a7 a8 a9 a10 a11 a12 a13) := by
  intro a0 a1 a2 a3 a4 a5 a6 a7 a8 a9 a10 a11 a12 a13 k
  have ih0 := key_Less.mono_l k
  unfold key_Less.f
  repeat' first
      | (with_reducible exact ih0 _ _ _ _)
      | (with_reducible exact LeO.refl _)
      | (with_reducible exact LeO.none _)
      | (with_reducible refine LeO.ite ?_ ?_)
      | (with_reducible refine LeO.bind ?_ (fun _ => ?_))
      | exact ih0 _ _ _ _
      | exact LeO.none _
      | refine LeO.ite ?_ ?_
      | refine LeO.bind ?_ (fun _ => ?_)
def key_Less.T5 : Bool × List (List Nat × List Nat) := (true, [([], []), ([], []), ([0, 1], [0, 1]), ([2], [2]), ([3], [3]), ([], []), ([], []), ([5, 6], [5, 6]), ([7], [7]), ([8], [8]), ([4, 9], [4, 9])])
def key_Less.B5 : List Nat := [0, 0, 3, 7, 15, 0, 0, 96, 224, 480, 1023]
theorem key_Less.tab5 : rtab .any (opsOf Try.f19 5) = key_Less.T5 := by kernel_rfl
theorem key_Less.bits5 : waitsOk key_Less.T5.2 key_Less.B5 = true := by kernel_rfl
def key_Less.T6 : Bool × List (List Nat × List Nat) := (true, [([], []), ([], []), ([0, 1], [0, 1]), ([2], [2]), ([3], [3]), ([], []), ([], []), ([5, 6], [5, 6]), ([7], [7]), ([8], [8]), ([4, 9], [4, 9]), ([10, 0, 1, 2, 3, 4, 5, 6, 7, 8, 9, 10], [10])])
def key_Less.B6 : List Nat := [0, 0, 3, 7, 15, 0, 0, 96, 224, 480, 1023, 2047]
theorem key_Less.tab6 : rtab .any (opsOf Try.f19 6) = key_Less.T6 := by kernel_rfl
theorem key_Less.bits6 : waitsOk key_Less.T6.2 key_Less.B6 = true := by kernel_rfl
set_option maxHeartbeats 8000000 in
set_option maxRecDepth 100000 in
theorem key_Less.calls (k : Nat) (a0_0 : Int) (a0_1 : Int) (a0_2 : Bool) (a0_3 : Int) (a0_4 : Int) (a0_5 : Int) (a0_6 : Int) (a1_0 : Int) (a1_1 : Int) (a1_2 : Bool) (a1_3 : Int) (a1_4 : Int) (a1_5 : Int) (a1_6 : Int) (r : Bool) (w : World) (h : key_Less.f k a0_0 a0_1 a0_2 a0_3 a0_4 a0_5 a0_6 a1_0 a1_1 a1_2 a1_3 a1_4 a1_5 a1_6 = some r) :
    Calls Try.prog 19 #[.agg #[.int .i64 a0_0, .int .i64 a0_1, .bool a0_2, .int .i64 a0_3, .int .i64 a0_4, .int .i64 a0_5, .int .i64 a0_6], .agg #[.int .i64 a1_0, .int .i64 a1_1, .bool a1_2, .int .i64 a1_3, .int .i64 a1_4, .int .i64 a1_5, .int .i64 a1_6]] w fun e w' => e = .returned (.bool r) ∧ Below w.heap.size w w' := by
  have hu24 := Try.underlying24
  have HB := Aside0.mk (Below.refl w.heap.size w)
  have H : ((key_fields.f a0_0 a0_1 a0_2 a0_3 a0_4 a0_5 a0_6).bind fun t145 => ((key_fields.f a1_0 a1_1 a1_2 a1_3 a1_4 a1_5 a1_6).bind fun t148 => (key_Less.l0 k t145 t148 (t145.length : Int) 0))) = some r := h
  clear h
  replace H := Option.bind_eq_some_iff.mp H
  obtain ⟨t145, A30, H⟩ := H
  replace H : ((key_fields.f a1_0 a1_1 a1_2 a1_3 a1_4 a1_5 a1_6).bind fun t148 => (key_Less.l0 k t145 t148 (t145.length : Int) 0)) = some r := H
  have A3 := Aside0.mk A30
  clear A30
  replace H := Option.bind_eq_some_iff.mp H
  obtain ⟨t148, A40, H⟩ := H
  replace H : (key_Less.l0 k t145 t148 (t145.length : Int) 0) = some r := H
  have A4 := Aside0.mk A40
  clear A40
  have H' := Aside0.mk H
  clear H
  go_enter Try.func19, Try.ntmps19
  try go_wp2_with (first | ((with_reducible refine gate_dst (N := 2) rfl ?_); refine box_event ?hg (N := 2) ?hd (cs := #[.int .i64 a0_0, .int .i64 a0_1, .bool a0_2, .int .i64 a0_3, .int .i64 a0_4, .int .i64 a0_5, .int .i64 a0_6]) (t := 24) ?hr ?_; (case hd => rfl); (case hg => rfl); (case hr => first | (go_simp; done) | (go_simp; rfl)); intro gb143 hg w5 hbox hb; have n0_ := Aside0.mk (below_step (by repeat (first | (with_reducible first | exact HB.out | apply below_alloc | apply pw_below_drewN | apply below_drew1) | exact HB.out)) hb); have n1_ := Aside0.mk (hbox); have n2_ := Aside0.mk ((by rw [hg]; exact (below_size (by repeat (first | (with_reducible first | exact HB.out | apply below_alloc | apply pw_below_drewN | apply below_drew1) | exact HB.out))) : w.heap.size ≤ gb143)); have n3_ := Aside0.mk ((by rw [hg]; exact (below_size (by repeat (first | (with_reducible first | exact HB.out | apply below_alloc | apply pw_below_drewN | apply below_drew1) | exact HB.out))) : w.heap.size ≤ gb143)); clear HB; have HB := n0_; have BK143 := n1_; have GW143 := n2_; have GE143 := n3_; clear n0_ n1_ n2_ n3_; clear hb hbox hg) | ((with_reducible refine gate_dst (N := 3) rfl ?_); refine box_event ?hg (N := 3) ?hd (cs := #[.int .i64 a1_0, .int .i64 a1_1, .bool a1_2, .int .i64 a1_3, .int .i64 a1_4, .int .i64 a1_5, .int .i64 a1_6]) (t := 24) ?hr ?_; (case hd => rfl); (case hg => rfl); (case hr => first | (go_simp; done) | (go_simp; rfl)); intro gb144 hg w6 hbox hb; have n0_ := Aside0.mk (blk_below (g := gb143) (o := .cells #[.int .i64 a0_0, .int .i64 a0_1, .bool a0_2, .int .i64 a0_3, .int .i64 a0_4, .int .i64 a0_5, .int .i64 a0_6] 24 (0, 0)) (by (with_reducible repeat (first | refine blk_drewN ?_ _ | refine blk_drew ?_ | refine blk_alloc ?_ _)); exact BK143.out) hb); have n1_ := Aside0.mk (below_step (by repeat (first | (with_reducible first | exact HB.out | apply below_alloc | apply pw_below_drewN | apply below_drew1 | refine below_set ?_ GE143.out) | exact HB.out)) hb); have n2_ := Aside0.mk (hbox); have n3_ := Aside0.mk ((by rw [hg]; exact (below_size (by repeat (first | (with_reducible first | exact HB.out | apply below_alloc | apply pw_below_drewN | apply below_drew1 | refine below_set ?_ GE143.out) | exact HB.out))) : w.heap.size ≤ gb144)); have n4_ := Aside0.mk ((by rw [hg]; exact (below_size (by repeat (first | (with_reducible first | exact HB.out | apply below_alloc | apply pw_below_drewN | apply below_drew1 | refine below_set ?_ GE143.out) | exact HB.out))) : w.heap.size ≤ gb144)); have n5_ := Aside0.mk ((by rw [hg]; exact Nat.ne_of_lt (blk_lt (g := gb143) (o := .cells #[.int .i64 a0_0, .int .i64 a0_1, .bool a0_2, .int .i64 a0_3, .int .i64 a0_4, .int .i64 a0_5, .int .i64 a0_6] 24 (0, 0)) (by (with_reducible repeat (first | refine blk_drewN ?_ _ | refine blk_drew ?_ | refine blk_alloc ?_ _)); exact BK143.out)) : gb143 ≠ gb144)); have n6_ := Aside0.mk ((by rw [hg]; exact Nat.ne_of_gt (blk_lt (g := gb143) (o := .cells #[.int .i64 a0_0, .int .i64 a0_1, .bool a0_2, .int .i64 a0_3, .int .i64 a0_4, .int .i64 a0_5, .int .i64 a0_6] 24 (0, 0)) (by (with_reducible repeat (first | refine blk_drewN ?_ _ | refine blk_drew ?_ | refine blk_alloc ?_ _)); exact BK143.out)) : gb144 ≠ gb143)); clear BK143; clear HB; have BK143 := n0_; have HB := n1_; have BK144 := n2_; have GW144 := n3_; have GE144 := n4_; have NB143_144 := n5_; have NB144_143 := n6_; clear n0_ n1_ n2_ n3_ n4_ n5_ n6_; clear hb hbox hg))
  have n0_ := Aside0.mk (blk_drew BK143.out)
  have n1_ := Aside0.mk (blk_drew BK144.out)
  have n2_ := Aside0.mk (below_drew1 HB.out)
  clear BK143
  clear BK144
  clear HB
  have BK143 := n0_
  have BK144 := n1_
  have HB := n2_
  clear n0_ n1_ n2_
  refine start_ (n := 6) (S := fun w' => w'.cell? ⟨gb143, 0, none⟩ = some (.int .i64 a0_0) ∧ w'.cell? ⟨gb143, 1, none⟩ = some (.int .i64 a0_1) ∧ w'.cell? ⟨gb143, 2, none⟩ = some (.bool a0_2) ∧ w'.cell? ⟨gb143, 3, none⟩ = some (.int .i64 a0_3) ∧ w'.cell? ⟨gb143, 4, none⟩ = some (.int .i64 a0_4) ∧ w'.cell? ⟨gb143, 5, none⟩ = some (.int .i64 a0_5) ∧ w'.cell? ⟨gb143, 6, none⟩ = some (.int .i64 a0_6) ∧ w'.cell? ⟨gb144, 0, none⟩ = some (.int .i64 a1_0) ∧ w'.cell? ⟨gb144, 1, none⟩ = some (.int .i64 a1_1) ∧ w'.cell? ⟨gb144, 2, none⟩ = some (.bool a1_2) ∧ w'.cell? ⟨gb144, 3, none⟩ = some (.int .i64 a1_3) ∧ w'.cell? ⟨gb144, 4, none⟩ = some (.int .i64 a1_4) ∧ w'.cell? ⟨gb144, 5, none⟩ = some (.int .i64 a1_5) ∧ w'.cell? ⟨gb144, 6, none⟩ = some (.int .i64 a1_6)) (ds := []) #[false, false, false, false, false, false] (by kernel_rfl) rfl rfl ⟨(blk_cell BK143.out 0).trans rfl, (blk_cell BK143.out 1).trans rfl, (blk_cell BK143.out 2).trans rfl, (blk_cell BK143.out 3).trans rfl, (blk_cell BK143.out 4).trans rfl, (blk_cell BK143.out 5).trans rfl, (blk_cell BK143.out 6).trans rfl, (blk_cell BK144.out 0).trans rfl, (blk_cell BK144.out 1).trans rfl, (blk_cell BK144.out 2).trans rfl, (blk_cell BK144.out 3).trans rfl, (blk_cell BK144.out 4).trans rfl, (blk_cell BK144.out 5).trans rfl, (blk_cell BK144.out 6).trans rfl⟩ (fun hHeld => ?_)
  generalize w6.drew = w7 at BK143 BK144 HB hHeld ⊢
  refine take_ (i := 0) (N := some 8) (v := ?_) (a' := ?_) #[true, false, false, false, false, false] rfl rfl (by kernel_rfl) (fun _ _ _ h => h) (Or.inl ⟨by rfl, ?_⟩) hHeld ?_ ?_
  rotate_left
  · rintro w' ⟨s0, s1, s2, s3, s4, s5, s6, s7, s8, s9, s10, s11, s12, s13⟩
    go_simp
    with_reducible rfl
  rotate_left
  · simp only [Act.put, List.setIfInBounds_toArray, List.set_cons_zero, List.set_cons_succ, i64_w, i32_w]
    rfl
  refine take_ (i := 2) (N := some 10) (v := ?_) (a' := ?_) #[true, false, true, false, false, false] rfl rfl (by kernel_rfl) (fun _ _ _ h => h) (Or.inl ⟨by rfl, ?_⟩) hHeld ?_ ?_
  rotate_left
  · rintro w' ⟨s0, s1, s2, s3, s4, s5, s6, s7, s8, s9, s10, s11, s12, s13⟩
    go_simp
    with_reducible rfl
  rotate_left
  · simp only [Act.put, List.setIfInBounds_toArray, List.set_cons_zero, List.set_cons_succ, i64_w, i32_w]
    rfl
  refine one_ (i := 1) (N := some 9) #[true, true, true, false, false, false] rfl rfl (by kernel_rfl) (by decide) (fun K hK => ?_)
  refine goes_ Try.func101 (by kernel_rfl) rfl #[.agg #[.int .i64 a0_0, .int .i64 a0_1, .bool a0_2, .int .i64 a0_3, .int .i64 a0_4, .int .i64 a0_5, .int .i64 a0_6]] (by rfl) rfl rfl (by (try simp only [List.map_toArray, List.map_cons, List.map_nil]); first | done | rfl | (simp only [List.length_drop, List.length_take]; rfl)) ?_
  with_reducible refine (key_fields.calls a0_0 a0_1 a0_2 a0_3 a0_4 a0_5 a0_6 t145 _ A3.out).mono ?_
  rintro e w8 ⟨v146, rfl, ho0, hb⟩
  refine ⟨_, rfl, ?_⟩
  have n0_ := Aside0.mk (Kd.R_lower ho0 (below_size (by repeat (first | (with_reducible first | exact HB.out | apply below_alloc | apply pw_below_drewN | apply below_drew1 | refine below_set ?_ GE143.out | refine below_set ?_ GE144.out) | exact HB.out))))
  have n1_ := Aside0.mk (blk_below (g := gb143) (o := .cells #[.int .i64 a0_0, .int .i64 a0_1, .bool a0_2, .int .i64 a0_3, .int .i64 a0_4, .int .i64 a0_5, .int .i64 a0_6] 24 (0, 0)) (by (with_reducible repeat (first | refine blk_drewN ?_ _ | refine blk_drew ?_ | refine blk_alloc ?_ _)); exact BK143.out) hb)
  have n2_ := Aside0.mk (blk_below (g := gb144) (o := .cells #[.int .i64 a1_0, .int .i64 a1_1, .bool a1_2, .int .i64 a1_3, .int .i64 a1_4, .int .i64 a1_5, .int .i64 a1_6] 24 (0, 0)) (by (with_reducible repeat (first | refine blk_drewN ?_ _ | refine blk_drew ?_ | refine blk_alloc ?_ _)); exact BK144.out) hb)
  have n3_ := Aside0.mk (below_step (by repeat (first | (with_reducible first | exact HB.out | apply below_alloc | apply pw_below_drewN | apply below_drew1 | refine below_set ?_ GE143.out | refine below_set ?_ GE144.out) | exact HB.out)) hb)
  clear BK143
  clear BK144
  clear HB
  have HO147 := n0_
  have BK143 := n1_
  have BK144 := n2_
  have HB := n3_
  clear n0_ n1_ n2_ n3_
  (try clear hb)
  (try clear hb2)
  (try clear hk)
  (try clear hi)
  (try clear ho0)
  refine hK.out _ _ ⟨(blk_cell BK143.out 0).trans rfl, (blk_cell BK143.out 1).trans rfl, (blk_cell BK143.out 2).trans rfl, (blk_cell BK143.out 3).trans rfl, (blk_cell BK143.out 4).trans rfl, (blk_cell BK143.out 5).trans rfl, (blk_cell BK143.out 6).trans rfl, (blk_cell BK144.out 0).trans rfl, (blk_cell BK144.out 1).trans rfl, (blk_cell BK144.out 2).trans rfl, (blk_cell BK144.out 3).trans rfl, (blk_cell BK144.out 4).trans rfl, (blk_cell BK144.out 5).trans rfl, (blk_cell BK144.out 6).trans rfl⟩ (fun hHeld => ?_)
  clear hK K
  refine norm_ (a' := ?_) ?_ ?_
  rotate_left
  · show Act.put _ (some 9) _ = _
    simp only [Act.put, List.setIfInBounds_toArray, List.set_cons_zero, List.set_cons_succ, i64_w, i32_w]
    rfl
  refine one_ (i := 3) (N := some 11) #[true, true, true, true, false, false] rfl rfl (by kernel_rfl) (by decide) (fun K hK => ?_)
  refine goes_ Try.func101 (by kernel_rfl) rfl #[.agg #[.int .i64 a1_0, .int .i64 a1_1, .bool a1_2, .int .i64 a1_3, .int .i64 a1_4, .int .i64 a1_5, .int .i64 a1_6]] (by rfl) rfl rfl (by (try simp only [List.map_toArray, List.map_cons, List.map_nil]); first | done | rfl | (simp only [List.length_drop, List.length_take]; rfl)) ?_
  with_reducible refine (key_fields.calls a1_0 a1_1 a1_2 a1_3 a1_4 a1_5 a1_6 t148 _ A4.out).mono ?_
  rintro e w9 ⟨v149, rfl, ho0, hb⟩
  refine ⟨_, rfl, ?_⟩
  have n0_ := Aside0.mk (Kd.R_elder' (by (with_reducible repeat (first | apply Kd.R_alloc | apply Kd.R_drewN | apply Kd.R_drew)); exact HO147.out) (Kd.R_base ho0) hb)
  have n1_ := Aside0.mk (Kd.R_lower (Kd.R_new' ho0 (Kd.R_lt (by (with_reducible repeat (first | apply Kd.R_alloc | apply Kd.R_drewN | apply Kd.R_drew)); exact HO147.out))) (below_size (by repeat (first | (with_reducible first | exact HB.out | apply below_alloc | apply pw_below_drewN | apply below_drew1 | refine below_set ?_ GE143.out | refine below_set ?_ GE144.out) | exact HB.out))))
  have n2_ := Aside0.mk (blk_below (g := gb143) (o := .cells #[.int .i64 a0_0, .int .i64 a0_1, .bool a0_2, .int .i64 a0_3, .int .i64 a0_4, .int .i64 a0_5, .int .i64 a0_6] 24 (0, 0)) (by (with_reducible repeat (first | refine blk_drewN ?_ _ | refine blk_drew ?_ | refine blk_alloc ?_ _)); exact BK143.out) hb)
  have n3_ := Aside0.mk (blk_below (g := gb144) (o := .cells #[.int .i64 a1_0, .int .i64 a1_1, .bool a1_2, .int .i64 a1_3, .int .i64 a1_4, .int .i64 a1_5, .int .i64 a1_6] 24 (0, 0)) (by (with_reducible repeat (first | refine blk_drewN ?_ _ | refine blk_drew ?_ | refine blk_alloc ?_ _)); exact BK144.out) hb)
  have n4_ := Aside0.mk (below_step (by repeat (first | (with_reducible first | exact HB.out | apply below_alloc | apply pw_below_drewN | apply below_drew1 | refine below_set ?_ GE143.out | refine below_set ?_ GE144.out) | exact HB.out)) hb)
  clear HO147
  clear BK143
  clear BK144
  clear HB
  have HO147 := n0_
  have HO150 := n1_
  have BK143 := n2_
  have BK144 := n3_
  have HB := n4_
  clear n0_ n1_ n2_ n3_ n4_
  (try clear hb)
  (try clear hb2)
  (try clear hk)
  (try clear hi)
  (try clear ho0)
  refine hK.out _ _ ⟨(blk_cell BK143.out 0).trans rfl, (blk_cell BK143.out 1).trans rfl, (blk_cell BK143.out 2).trans rfl, (blk_cell BK143.out 3).trans rfl, (blk_cell BK143.out 4).trans rfl, (blk_cell BK143.out 5).trans rfl, (blk_cell BK143.out 6).trans rfl, (blk_cell BK144.out 0).trans rfl, (blk_cell BK144.out 1).trans rfl, (blk_cell BK144.out 2).trans rfl, (blk_cell BK144.out 3).trans rfl, (blk_cell BK144.out 4).trans rfl, (blk_cell BK144.out 5).trans rfl, (blk_cell BK144.out 6).trans rfl⟩ (fun hHeld => ?_)
  clear hK K
  refine norm_ (a' := ?_) ?_ ?_
  rotate_left
  · show Act.put _ (some 11) _ = _
    simp only [Act.put, List.setIfInBounds_toArray, List.set_cons_zero, List.set_cons_succ, i64_w, i32_w]
    rfl
  refine pure_ (i := 4) (N := some 5) (v := ?_) (a' := ?_) #[true, true, true, true, true, false] rfl rfl (by kernel_rfl) (fun _ _ _ h => h) (Or.inl ⟨by rfl, ?_⟩) ?_ ?_
  rotate_left
  · intro w'
    go_simp
    with_reducible rfl
  rotate_left
  · simp only [Act.put, List.setIfInBounds_toArray, List.set_cons_zero, List.set_cons_succ, i64_w, i32_w]
    rfl
  refine pure_ (i := 5) (N := some 6) (v := ?_) (a' := ?_) #[true, true, true, true, true, true] rfl rfl (by kernel_rfl) (fun _ _ _ h => h) (Or.inl ⟨by rfl, ?_⟩) ?_ ?_
  rotate_left
  · intro w'
    go_simp
    with_reducible rfl
  rotate_left
  · simp only [Act.put, List.setIfInBounds_toArray, List.set_cons_zero, List.set_cons_succ, i64_w, i32_w]
    rfl
  refine done_ (by kernel_rfl) ?_
  obtain ⟨Ao10, co10, eo10⟩ := Kd.R_slice HO147.out
  subst eo10
  try go_wp2
  go_loopg [14] k (fun kq v14 w' => ∃ (x14_1 : Int), v14 = .int .i64 x14_1 ∧ Aside0 (key_Less.l0 kq t145 t148 (t145.length : Int) x14_1 = some r) ∧ Aside0 (kq ≤ k) ∧ Aside0 (Kd.R k164 164 w' w.heap.size (fun k_ => some k_ ≠ (v149 : Value).ownBlock) (.slice Ao10 t145.length co10) t145) ∧ Aside0 (Kd.R k164 164 w' w.heap.size (fun k_ => some k_ ≠ ((.slice Ao10 t145.length co10) : Value).ownBlock) v149 t148) ∧ Aside0 (w'.heap[gb143]? = some (.cells #[.int .i64 a0_0, .int .i64 a0_1, .bool a0_2, .int .i64 a0_3, .int .i64 a0_4, .int .i64 a0_5, .int .i64 a0_6] 24 (0, 0))) ∧ Aside0 (w'.heap[gb144]? = some (.cells #[.int .i64 a1_0, .int .i64 a1_1, .bool a1_2, .int .i64 a1_3, .int .i64 a1_4, .int .i64 a1_5, .int .i64 a1_6] 24 (0, 0))) ∧ Aside0 (Below w.heap.size w w'))
  case atStart => exact ⟨(0), (by first | rfl | (simp; done) | (simp [*]; done)), H', ⟨Nat.le_refl _⟩, ⟨by (with_reducible repeat (first | apply Kd.R_alloc | apply Kd.R_drewN | apply Kd.R_drew)); exact Kd.R_mono HO147.out (fun _ hk => hk.2)⟩, ⟨by (with_reducible repeat (first | apply Kd.R_alloc | apply Kd.R_drewN | apply Kd.R_drew)); exact Kd.R_mono HO150.out (fun _ hk => hk.2)⟩, ⟨by (with_reducible repeat (first | refine blk_drewN ?_ _ | refine blk_drew ?_ | refine blk_alloc ?_ _)); exact BK143.out⟩, ⟨by (with_reducible repeat (first | refine blk_drewN ?_ _ | refine blk_drew ?_ | refine blk_alloc ?_ _)); exact BK144.out⟩, ⟨by repeat (first | (with_reducible first | exact HB.out | apply below_alloc | apply pw_below_drewN | apply below_drew1 | refine below_set ?_ GE143.out | refine below_set ?_ GE144.out) | exact HB.out)⟩⟩
  case round =>
    clear H'
    try clear c1
    try clear p2
    try clear c10
    obtain ⟨x14_1, rfl, HA, HK1, HO_5, HO_6, BK143, BK144, HB⟩ := hrel
    cases gk with
    | zero => exact absurd HA.out (by simp [key_Less.l0])
    | succ k1 =>
      have H := HA.out
      clear HA
      simp only [key_Less.l0] at H
      by_cases c11 : x14_1 < (t145.length : Int)
      · rw [if_pos c11] at H
        have c11b0 : decide (x14_1 < (t145.length : Int)) = true := decide_eq_true c11
        clear c11
        by_cases c12 : 0 ≤ x14_1
        · rw [if_pos c12] at H
          have c12b0 : decide (0 ≤ x14_1) = true := decide_eq_true c12
          clear c12
          by_cases c13 : x14_1 < (t145.length : Int)
          · rw [if_pos c13] at H
            have c13b0 : decide (x14_1 < (t145.length : Int)) = true := decide_eq_true c13
            clear c13
            by_cases c14 : x14_1 < (t148.length : Int)
            · rw [if_pos c14] at H
              have c14b0 : decide (x14_1 < (t148.length : Int)) = true := decide_eq_true c14
              clear c14
              by_cases c15 : ((rd_T164 t145 x14_1).f0) = ((rd_T164 t148 x14_1).f0)
              · rw [if_pos c15] at H
                have c15b0 : (((rd_T164 t145 x14_1).f0) == ((rd_T164 t148 x14_1).f0)) = true := beq_iff_eq.mpr c15
                have c15b1 : (((rd_T164 t145 x14_1).f0) != ((rd_T164 t148 x14_1).f0)) = false := bne_eq_false_iff_eq.mpr c15
                clear c15
                have H' := Aside0.mk H
                clear H
                try go_wp2
                have n0_ := Aside0.mk (Kd.R_drew HO_5.out)
                have n1_ := Aside0.mk (Kd.R_drew HO_6.out)
                have n2_ := Aside0.mk (blk_drew BK143.out)
                have n3_ := Aside0.mk (blk_drew BK144.out)
                have n4_ := Aside0.mk (below_drew1 HB.out)
                clear HO_5
                clear HO_6
                clear BK143
                clear BK144
                clear HB
                have HO_5 := n0_
                have HO_6 := n1_
                have BK143 := n2_
                have BK144 := n3_
                have HB := n4_
                clear n0_ n1_ n2_ n3_ n4_
                have p151 : 0 ≤ (x14_1 : Int) := of_decide_eq_true (by first | (with_reducible assumption) | assumption)
                have q151 : x14_1 < (t145.length : Int) := of_decide_eq_true (by first | (with_reducible assumption) | assumption)
                obtain ⟨ad151, e151, hx151_0, hx151_1⟩ := at_T164 (Kd.R_reads' HO_5.out).2.2 x14_1 p151 q151
                cases e151
                replace p151 := eq_true p151
                replace q151 := eq_true q151
                obtain ⟨Ao17, co17, eo17⟩ := Kd.R_slice HO_6.out
                (first | subst eo17 | (injection eo17 with f1_ f2_ f3_; have f4_ := f1_.symm; have f5_ := f3_.symm; clear f1_ f2_ f3_; subst f4_; subst f5_))
                have p152 : 0 ≤ (x14_1 : Int) := of_decide_eq_true (by first | (with_reducible assumption) | assumption)
                have q152 : x14_1 < (t148.length : Int) := of_decide_eq_true (by first | (with_reducible assumption) | assumption)
                obtain ⟨ad152, e152, hx152_0, hx152_1⟩ := at_T164 (Kd.R_reads' HO_6.out).2.2 x14_1 p152 q152
                cases e152
                replace p152 := eq_true p152
                replace q152 := eq_true q152
                refine start_ (n := 11) (S := fun w' => w'.cell? (ad151.add ((x14_1).toNat * 2)) = some (.int .i64 ((rd_T164 t145 x14_1).f0)) ∧ w'.cell? ⟨(ad151.add ((x14_1).toNat * 2)).block, (ad151.add ((x14_1).toNat * 2)).off + 1, none⟩ = some (.int .i64 ((rd_T164 t145 x14_1).f1)) ∧ w'.cell? (ad152.add ((x14_1).toNat * 2)) = some (.int .i64 ((rd_T164 t148 x14_1).f0)) ∧ w'.cell? ⟨(ad152.add ((x14_1).toNat * 2)).block, (ad152.add ((x14_1).toNat * 2)).off + 1, none⟩ = some (.int .i64 ((rd_T164 t148 x14_1).f1))) (ds := []) #[false, false, false, false, false, false, false, false, false, false, false] (by kernel_rfl) rfl rfl ⟨hx151_0, hx151_1, hx152_0, hx152_1⟩ (fun hHeld => ?_); refine with_tabW key_Less.tab5 key_Less.bits5 (fun HT_ HW_ => ?_)
                generalize wr.drew = w16 at HO_5 HO_6 BK143 BK144 HB hx151_0 hx151_1 hx152_0 hx152_1 hHeld ⊢
                refine pure_ (i := 0) (N := some 17) (v := ?_) (a' := ?_) #[true, false, false, false, false, false, false, false, false, false, false] rfl rfl (any_of HT_.out (by kernel_rfl)) (fun _ _ _ h => h) (Or.inl ⟨by rfl, ?_⟩) ?_ ?_
                rotate_left
                · intro w'
                  go_simp
                  with_reducible rfl
                rotate_left
                · simp only [Act.put, List.setIfInBounds_toArray, List.set_cons_zero, List.set_cons_succ, i64_w, i32_w]
                  rfl
                refine pure_ (i := 1) (N := some 18) (v := ?_) (a' := ?_) #[true, true, false, false, false, false, false, false, false, false, false] rfl rfl (any_of HT_.out (by kernel_rfl)) (fun _ _ _ h => h) (Or.inl ⟨by rfl, ?_⟩) ?_ ?_
                rotate_left
                · intro w'
                  go_simp
                  with_reducible rfl
                rotate_left
                · simp only [Act.put, List.setIfInBounds_toArray, List.set_cons_zero, List.set_cons_succ, i64_w, i32_w]
                  rfl
                refine pure_ (i := 2) (N := some 19) (v := ?_) (a' := ?_) #[true, true, true, false, false, false, false, false, false, false, false] rfl rfl (any_of HT_.out (by kernel_rfl)) (fun _ _ _ h => h) (Or.inl ⟨by rfl, ?_⟩) ?_ ?_
                rotate_left
                · intro w'
                  go_simp
                  with_reducible rfl
                rotate_left
                · simp only [Act.put, List.setIfInBounds_toArray, List.set_cons_zero, List.set_cons_succ, i64_w, i32_w]
                  rfl
                refine pure_ (i := 3) (N := some 20) (v := ?_) (a' := ?_) #[true, true, true, true, false, false, false, false, false, false, false] rfl rfl (any_of HT_.out (by kernel_rfl)) (fun _ _ _ h => h) (Or.inl ⟨by rfl, ?_⟩) ?_ ?_
                rotate_left
                · intro w'
                  go_simp
                  with_reducible rfl
                rotate_left
                · simp only [Act.put, List.setIfInBounds_toArray, List.set_cons_zero, List.set_cons_succ, i64_w, i32_w]
                  rfl
                refine pure_ (i := 5) (N := some 22) (v := ?_) (a' := ?_) #[true, true, true, true, false, true, false, false, false, false, false] rfl rfl (any_of HT_.out (by kernel_rfl)) (fun _ _ _ h => h) (Or.inl ⟨by rfl, ?_⟩) ?_ ?_
                rotate_left
                · intro w'
                  go_simp
                  with_reducible rfl
                rotate_left
                · simp only [Act.put, List.setIfInBounds_toArray, List.set_cons_zero, List.set_cons_succ, i64_w, i32_w]
                  rfl
                refine pure_ (i := 6) (N := some 23) (v := ?_) (a' := ?_) #[true, true, true, true, false, true, true, false, false, false, false] rfl rfl (any_of HT_.out (by kernel_rfl)) (fun _ _ _ h => h) (Or.inl ⟨by rfl, ?_⟩) ?_ ?_
                rotate_left
                · intro w'
                  go_simp
                  with_reducible rfl
                rotate_left
                · simp only [Act.put, List.setIfInBounds_toArray, List.set_cons_zero, List.set_cons_succ, i64_w, i32_w]
                  rfl
                refine pure_ (i := 7) (N := some 24) (v := ?_) (a' := ?_) #[true, true, true, true, false, true, true, true, false, false, false] rfl rfl (any_of HT_.out (by kernel_rfl)) (fun _ _ _ h => h) (Or.inl ⟨by rfl, ?_⟩) ?_ ?_
                rotate_left
                · intro w'
                  go_simp
                  with_reducible rfl
                rotate_left
                · simp only [Act.put, List.setIfInBounds_toArray, List.set_cons_zero, List.set_cons_succ, i64_w, i32_w]
                  rfl
                refine pure_ (i := 8) (N := some 25) (v := ?_) (a' := ?_) #[true, true, true, true, false, true, true, true, true, false, false] rfl rfl (any_of HT_.out (by kernel_rfl)) (fun _ _ _ h => h) (Or.inl ⟨by rfl, ?_⟩) ?_ ?_
                rotate_left
                · intro w'
                  go_simp
                  with_reducible rfl
                rotate_left
                · simp only [Act.put, List.setIfInBounds_toArray, List.set_cons_zero, List.set_cons_succ, i64_w, i32_w]
                  rfl
                refine take_ (i := 4) (N := some 21) (v := ?_) (a' := ?_) #[true, true, true, true, true, true, true, true, true, false, false] rfl rfl (take_ofW HT_.out HW_.out (by kernel_rfl)) (fun _ _ _ h => h) (Or.inl ⟨by rfl, ?_⟩) hHeld ?_ ?_
                rotate_left
                · rintro w' ⟨s0, s1, s2, s3⟩
                  go_simp
                  with_reducible rfl
                rotate_left
                · simp only [Act.put, List.setIfInBounds_toArray, List.set_cons_zero, List.set_cons_succ, i64_w, i32_w]
                  rfl
                refine take_ (i := 9) (N := some 26) (v := ?_) (a' := ?_) #[true, true, true, true, true, true, true, true, true, true, false] rfl rfl (take_ofW HT_.out HW_.out (by kernel_rfl)) (fun _ _ _ h => h) (Or.inl ⟨by rfl, ?_⟩) hHeld ?_ ?_
                rotate_left
                · rintro w' ⟨s0, s1, s2, s3⟩
                  go_simp
                  with_reducible rfl
                rotate_left
                · simp only [Act.put, List.setIfInBounds_toArray, List.set_cons_zero, List.set_cons_succ, i64_w, i32_w]
                  rfl
                refine pure_ (i := 10) (N := some 27) (v := ?_) (a' := ?_) #[true, true, true, true, true, true, true, true, true, true, true] rfl rfl (any_of HT_.out (by kernel_rfl)) (fun _ _ _ h => h) (Or.inl ⟨by rfl, ?_⟩) ?_ ?_
                rotate_left
                · intro w'
                  go_simp
                  with_reducible rfl
                rotate_left
                · simp only [Act.put, List.setIfInBounds_toArray, List.set_cons_zero, List.set_cons_succ, i64_w, i32_w]
                  rfl
                refine done_ (done_of HT_.out (by kernel_rfl)) ?_
                try go_wp2
                go_roundg k1
                case measure => have := HK1.out; omega
                case rel => exact ⟨(wrap64 (x14_1 + 1)), (by first | rfl | (simp; done) | (simp [*]; done)), H', ⟨by have := HK1.out; omega⟩, ⟨by (with_reducible repeat (first | apply Kd.R_alloc | apply Kd.R_drewN | apply Kd.R_drew)); exact HO_5.out⟩, ⟨by (with_reducible repeat (first | apply Kd.R_alloc | apply Kd.R_drewN | apply Kd.R_drew)); exact HO_6.out⟩, ⟨by (with_reducible repeat (first | refine blk_drewN ?_ _ | refine blk_drew ?_ | refine blk_alloc ?_ _)); exact BK143.out⟩, ⟨by (with_reducible repeat (first | refine blk_drewN ?_ _ | refine blk_drew ?_ | refine blk_alloc ?_ _)); exact BK144.out⟩, ⟨by repeat (first | (with_reducible first | exact HB.out | apply below_alloc | apply pw_below_drewN | apply below_drew1 | refine below_set ?_ GE143.out | refine below_set ?_ GE144.out) | exact HB.out)⟩⟩
              · rw [if_neg c15] at H
                have c15b0 : (((rd_T164 t145 x14_1).f0) == ((rd_T164 t148 x14_1).f0)) = false := beq_eq_false_iff_ne.mpr c15
                have c15b1 : (((rd_T164 t145 x14_1).f0) != ((rd_T164 t148 x14_1).f0)) = true := bne_iff_ne.mpr c15
                obtain rfl := Option.some.inj H
                try go_wp2
                have n0_ := Aside0.mk (Kd.R_drew HO_5.out)
                have n1_ := Aside0.mk (Kd.R_drew HO_6.out)
                have n2_ := Aside0.mk (blk_drew BK143.out)
                have n3_ := Aside0.mk (blk_drew BK144.out)
                have n4_ := Aside0.mk (below_drew1 HB.out)
                clear HO_5
                clear HO_6
                clear BK143
                clear BK144
                clear HB
                have HO_5 := n0_
                have HO_6 := n1_
                have BK143 := n2_
                have BK144 := n3_
                have HB := n4_
                clear n0_ n1_ n2_ n3_ n4_
                have p151 : 0 ≤ (x14_1 : Int) := of_decide_eq_true (by first | (with_reducible assumption) | assumption)
                have q151 : x14_1 < (t145.length : Int) := of_decide_eq_true (by first | (with_reducible assumption) | assumption)
                obtain ⟨ad151, e151, hx151_0, hx151_1⟩ := at_T164 (Kd.R_reads' HO_5.out).2.2 x14_1 p151 q151
                cases e151
                replace p151 := eq_true p151
                replace q151 := eq_true q151
                obtain ⟨Ao19, co19, eo19⟩ := Kd.R_slice HO_6.out
                (first | subst eo19 | (injection eo19 with f1_ f2_ f3_; have f4_ := f1_.symm; have f5_ := f3_.symm; clear f1_ f2_ f3_; subst f4_; subst f5_))
                have p152 : 0 ≤ (x14_1 : Int) := of_decide_eq_true (by first | (with_reducible assumption) | assumption)
                have q152 : x14_1 < (t148.length : Int) := of_decide_eq_true (by first | (with_reducible assumption) | assumption)
                obtain ⟨ad152, e152, hx152_0, hx152_1⟩ := at_T164 (Kd.R_reads' HO_6.out).2.2 x14_1 p152 q152
                cases e152
                replace p152 := eq_true p152
                replace q152 := eq_true q152
                refine start_ (n := 11) (S := fun w' => w'.cell? (ad151.add ((x14_1).toNat * 2)) = some (.int .i64 ((rd_T164 t145 x14_1).f0)) ∧ w'.cell? ⟨(ad151.add ((x14_1).toNat * 2)).block, (ad151.add ((x14_1).toNat * 2)).off + 1, none⟩ = some (.int .i64 ((rd_T164 t145 x14_1).f1)) ∧ w'.cell? (ad152.add ((x14_1).toNat * 2)) = some (.int .i64 ((rd_T164 t148 x14_1).f0)) ∧ w'.cell? ⟨(ad152.add ((x14_1).toNat * 2)).block, (ad152.add ((x14_1).toNat * 2)).off + 1, none⟩ = some (.int .i64 ((rd_T164 t148 x14_1).f1))) (ds := []) #[false, false, false, false, false, false, false, false, false, false, false] (by kernel_rfl) rfl rfl ⟨hx151_0, hx151_1, hx152_0, hx152_1⟩ (fun hHeld => ?_); refine with_tabW key_Less.tab5 key_Less.bits5 (fun HT_ HW_ => ?_)
                generalize wr.drew = w18 at HO_5 HO_6 BK143 BK144 HB hx151_0 hx151_1 hx152_0 hx152_1 hHeld ⊢
                refine pure_ (i := 0) (N := some 17) (v := ?_) (a' := ?_) #[true, false, false, false, false, false, false, false, false, false, false] rfl rfl (any_of HT_.out (by kernel_rfl)) (fun _ _ _ h => h) (Or.inl ⟨by rfl, ?_⟩) ?_ ?_
                rotate_left
                · intro w'
                  go_simp
                  with_reducible rfl
                rotate_left
                · simp only [Act.put, List.setIfInBounds_toArray, List.set_cons_zero, List.set_cons_succ, i64_w, i32_w]
                  rfl
                refine pure_ (i := 1) (N := some 18) (v := ?_) (a' := ?_) #[true, true, false, false, false, false, false, false, false, false, false] rfl rfl (any_of HT_.out (by kernel_rfl)) (fun _ _ _ h => h) (Or.inl ⟨by rfl, ?_⟩) ?_ ?_
                rotate_left
                · intro w'
                  go_simp
                  with_reducible rfl
                rotate_left
                · simp only [Act.put, List.setIfInBounds_toArray, List.set_cons_zero, List.set_cons_succ, i64_w, i32_w]
                  rfl
                refine pure_ (i := 2) (N := some 19) (v := ?_) (a' := ?_) #[true, true, true, false, false, false, false, false, false, false, false] rfl rfl (any_of HT_.out (by kernel_rfl)) (fun _ _ _ h => h) (Or.inl ⟨by rfl, ?_⟩) ?_ ?_
                rotate_left
                · intro w'
                  go_simp
                  with_reducible rfl
                rotate_left
                · simp only [Act.put, List.setIfInBounds_toArray, List.set_cons_zero, List.set_cons_succ, i64_w, i32_w]
                  rfl
                refine pure_ (i := 3) (N := some 20) (v := ?_) (a' := ?_) #[true, true, true, true, false, false, false, false, false, false, false] rfl rfl (any_of HT_.out (by kernel_rfl)) (fun _ _ _ h => h) (Or.inl ⟨by rfl, ?_⟩) ?_ ?_
                rotate_left
                · intro w'
                  go_simp
                  with_reducible rfl
                rotate_left
                · simp only [Act.put, List.setIfInBounds_toArray, List.set_cons_zero, List.set_cons_succ, i64_w, i32_w]
                  rfl
                refine pure_ (i := 5) (N := some 22) (v := ?_) (a' := ?_) #[true, true, true, true, false, true, false, false, false, false, false] rfl rfl (any_of HT_.out (by kernel_rfl)) (fun _ _ _ h => h) (Or.inl ⟨by rfl, ?_⟩) ?_ ?_
                rotate_left
                · intro w'
                  go_simp
                  with_reducible rfl
                rotate_left
                · simp only [Act.put, List.setIfInBounds_toArray, List.set_cons_zero, List.set_cons_succ, i64_w, i32_w]
                  rfl
                refine pure_ (i := 6) (N := some 23) (v := ?_) (a' := ?_) #[true, true, true, true, false, true, true, false, false, false, false] rfl rfl (any_of HT_.out (by kernel_rfl)) (fun _ _ _ h => h) (Or.inl ⟨by rfl, ?_⟩) ?_ ?_
                rotate_left
                · intro w'
                  go_simp
                  with_reducible rfl
                rotate_left
                · simp only [Act.put, List.setIfInBounds_toArray, List.set_cons_zero, List.set_cons_succ, i64_w, i32_w]
                  rfl
                refine pure_ (i := 7) (N := some 24) (v := ?_) (a' := ?_) #[true, true, true, true, false, true, true, true, false, false, false] rfl rfl (any_of HT_.out (by kernel_rfl)) (fun _ _ _ h => h) (Or.inl ⟨by rfl, ?_⟩) ?_ ?_
                rotate_left
                · intro w'
                  go_simp
                  with_reducible rfl
                rotate_left
                · simp only [Act.put, List.setIfInBounds_toArray, List.set_cons_zero, List.set_cons_succ, i64_w, i32_w]
                  rfl
                refine pure_ (i := 8) (N := some 25) (v := ?_) (a' := ?_) #[true, true, true, true, false, true, true, true, true, false, false] rfl rfl (any_of HT_.out (by kernel_rfl)) (fun _ _ _ h => h) (Or.inl ⟨by rfl, ?_⟩) ?_ ?_
                rotate_left
                · intro w'
                  go_simp
                  with_reducible rfl
                rotate_left
                · simp only [Act.put, List.setIfInBounds_toArray, List.set_cons_zero, List.set_cons_succ, i64_w, i32_w]
                  rfl
                refine take_ (i := 4) (N := some 21) (v := ?_) (a' := ?_) #[true, true, true, true, true, true, true, true, true, false, false] rfl rfl (take_ofW HT_.out HW_.out (by kernel_rfl)) (fun _ _ _ h => h) (Or.inl ⟨by rfl, ?_⟩) hHeld ?_ ?_
                rotate_left
                · rintro w' ⟨s0, s1, s2, s3⟩
                  go_simp
                  with_reducible rfl
                rotate_left
                · simp only [Act.put, List.setIfInBounds_toArray, List.set_cons_zero, List.set_cons_succ, i64_w, i32_w]
                  rfl
                refine take_ (i := 9) (N := some 26) (v := ?_) (a' := ?_) #[true, true, true, true, true, true, true, true, true, true, false] rfl rfl (take_ofW HT_.out HW_.out (by kernel_rfl)) (fun _ _ _ h => h) (Or.inl ⟨by rfl, ?_⟩) hHeld ?_ ?_
                rotate_left
                · rintro w' ⟨s0, s1, s2, s3⟩
                  go_simp
                  with_reducible rfl
                rotate_left
                · simp only [Act.put, List.setIfInBounds_toArray, List.set_cons_zero, List.set_cons_succ, i64_w, i32_w]
                  rfl
                refine pure_ (i := 10) (N := some 27) (v := ?_) (a' := ?_) #[true, true, true, true, true, true, true, true, true, true, true] rfl rfl (any_of HT_.out (by kernel_rfl)) (fun _ _ _ h => h) (Or.inl ⟨by rfl, ?_⟩) ?_ ?_
                rotate_left
                · intro w'
                  go_simp
                  with_reducible rfl
                rotate_left
                · simp only [Act.put, List.setIfInBounds_toArray, List.set_cons_zero, List.set_cons_succ, i64_w, i32_w]
                  rfl
                refine done_ (done_of HT_.out (by kernel_rfl)) ?_
                try go_wp2
                have n0_ := Aside0.mk (Kd.R_drew HO_5.out)
                have n1_ := Aside0.mk (Kd.R_drew HO_6.out)
                have n2_ := Aside0.mk (blk_drew BK143.out)
                have n3_ := Aside0.mk (blk_drew BK144.out)
                have n4_ := Aside0.mk (below_drew1 HB.out)
                clear HO_5
                clear HO_6
                clear BK143
                clear BK144
                clear HB
                have HO_5 := n0_
                have HO_6 := n1_
                have BK143 := n2_
                have BK144 := n3_
                have HB := n4_
                clear n0_ n1_ n2_ n3_ n4_
                have p153 : 0 ≤ (x14_1 : Int) := of_decide_eq_true (by first | (with_reducible assumption) | assumption)
                have q153 : x14_1 < (t145.length : Int) := of_decide_eq_true (by first | (with_reducible assumption) | assumption)
                obtain ⟨ad153, e153, hx153_0, hx153_1⟩ := at_T164 (Kd.R_reads' HO_5.out).2.2 x14_1 p153 q153
                obtain rfl : ad151 = ad153 := (by injection e153)
                replace p153 := eq_true p153
                replace q153 := eq_true q153
                have p154 : 0 ≤ (x14_1 : Int) := of_decide_eq_true (by first | (with_reducible assumption) | assumption)
                have q154 : x14_1 < (t148.length : Int) := of_decide_eq_true (by first | (with_reducible assumption) | assumption)
                obtain ⟨ad154, e154, hx154_0, hx154_1⟩ := at_T164 (Kd.R_reads' HO_6.out).2.2 x14_1 p154 q154
                obtain rfl : ad152 = ad154 := (by injection e154)
                replace p154 := eq_true p154
                replace q154 := eq_true q154
                refine start_ (n := 12) (S := fun w' => w'.cell? (ad151.add ((x14_1).toNat * 2)) = some (.int .i64 ((rd_T164 t145 x14_1).f0)) ∧ w'.cell? ⟨(ad151.add ((x14_1).toNat * 2)).block, (ad151.add ((x14_1).toNat * 2)).off + 1, none⟩ = some (.int .i64 ((rd_T164 t145 x14_1).f1)) ∧ w'.cell? (ad152.add ((x14_1).toNat * 2)) = some (.int .i64 ((rd_T164 t148 x14_1).f0)) ∧ w'.cell? ⟨(ad152.add ((x14_1).toNat * 2)).block, (ad152.add ((x14_1).toNat * 2)).off + 1, none⟩ = some (.int .i64 ((rd_T164 t148 x14_1).f1))) (ds := []) #[false, false, false, false, false, false, false, false, false, false, false, false] (by kernel_rfl) rfl rfl ⟨hx153_0, hx153_1, hx154_0, hx154_1⟩ (fun hHeld => ?_); refine with_tabW key_Less.tab6 key_Less.bits6 (fun HT_ HW_ => ?_)
                generalize w18.drew = w20 at HO_5 HO_6 BK143 BK144 HB hx153_0 hx153_1 hx154_0 hx154_1 hHeld ⊢
                refine pure_ (i := 0) (N := some 28) (v := ?_) (a' := ?_) #[true, false, false, false, false, false, false, false, false, false, false, false] rfl rfl (any_of HT_.out (by kernel_rfl)) (fun _ _ _ h => h) (Or.inl ⟨by rfl, ?_⟩) ?_ ?_
                rotate_left
                · intro w'
                  go_simp
                  with_reducible rfl
                rotate_left
                · simp only [Act.put, List.setIfInBounds_toArray, List.set_cons_zero, List.set_cons_succ, i64_w, i32_w]
                  rfl
                refine pure_ (i := 1) (N := some 29) (v := ?_) (a' := ?_) #[true, true, false, false, false, false, false, false, false, false, false, false] rfl rfl (any_of HT_.out (by kernel_rfl)) (fun _ _ _ h => h) (Or.inl ⟨by rfl, ?_⟩) ?_ ?_
                rotate_left
                · intro w'
                  go_simp
                  with_reducible rfl
                rotate_left
                · simp only [Act.put, List.setIfInBounds_toArray, List.set_cons_zero, List.set_cons_succ, i64_w, i32_w]
                  rfl
                refine pure_ (i := 2) (N := some 30) (v := ?_) (a' := ?_) #[true, true, true, false, false, false, false, false, false, false, false, false] rfl rfl (any_of HT_.out (by kernel_rfl)) (fun _ _ _ h => h) (Or.inl ⟨by rfl, ?_⟩) ?_ ?_
                rotate_left
                · intro w'
                  go_simp
                  with_reducible rfl
                rotate_left
                · simp only [Act.put, List.setIfInBounds_toArray, List.set_cons_zero, List.set_cons_succ, i64_w, i32_w]
                  rfl
                refine pure_ (i := 3) (N := some 31) (v := ?_) (a' := ?_) #[true, true, true, true, false, false, false, false, false, false, false, false] rfl rfl (any_of HT_.out (by kernel_rfl)) (fun _ _ _ h => h) (Or.inl ⟨by rfl, ?_⟩) ?_ ?_
                rotate_left
                · intro w'
                  go_simp
                  with_reducible rfl
                rotate_left
                · simp only [Act.put, List.setIfInBounds_toArray, List.set_cons_zero, List.set_cons_succ, i64_w, i32_w]
                  rfl
                refine pure_ (i := 5) (N := some 33) (v := ?_) (a' := ?_) #[true, true, true, true, false, true, false, false, false, false, false, false] rfl rfl (any_of HT_.out (by kernel_rfl)) (fun _ _ _ h => h) (Or.inl ⟨by rfl, ?_⟩) ?_ ?_
                rotate_left
                · intro w'
                  go_simp
                  with_reducible rfl
                rotate_left
                · simp only [Act.put, List.setIfInBounds_toArray, List.set_cons_zero, List.set_cons_succ, i64_w, i32_w]
                  rfl
                refine pure_ (i := 6) (N := some 34) (v := ?_) (a' := ?_) #[true, true, true, true, false, true, true, false, false, false, false, false] rfl rfl (any_of HT_.out (by kernel_rfl)) (fun _ _ _ h => h) (Or.inl ⟨by rfl, ?_⟩) ?_ ?_
                rotate_left
                · intro w'
                  go_simp
                  with_reducible rfl
                rotate_left
                · simp only [Act.put, List.setIfInBounds_toArray, List.set_cons_zero, List.set_cons_succ, i64_w, i32_w]
                  rfl
                refine pure_ (i := 7) (N := some 35) (v := ?_) (a' := ?_) #[true, true, true, true, false, true, true, true, false, false, false, false] rfl rfl (any_of HT_.out (by kernel_rfl)) (fun _ _ _ h => h) (Or.inl ⟨by rfl, ?_⟩) ?_ ?_
                rotate_left
                · intro w'
                  go_simp
                  with_reducible rfl
                rotate_left
                · simp only [Act.put, List.setIfInBounds_toArray, List.set_cons_zero, List.set_cons_succ, i64_w, i32_w]
                  rfl
                refine pure_ (i := 8) (N := some 36) (v := ?_) (a' := ?_) #[true, true, true, true, false, true, true, true, true, false, false, false] rfl rfl (any_of HT_.out (by kernel_rfl)) (fun _ _ _ h => h) (Or.inl ⟨by rfl, ?_⟩) ?_ ?_
                rotate_left
                · intro w'
                  go_simp
                  with_reducible rfl
                rotate_left
                · simp only [Act.put, List.setIfInBounds_toArray, List.set_cons_zero, List.set_cons_succ, i64_w, i32_w]
                  rfl
                refine take_ (i := 4) (N := some 32) (v := ?_) (a' := ?_) #[true, true, true, true, true, true, true, true, true, false, false, false] rfl rfl (take_ofW HT_.out HW_.out (by kernel_rfl)) (fun _ _ _ h => h) (Or.inl ⟨by rfl, ?_⟩) hHeld ?_ ?_
                rotate_left
                · rintro w' ⟨s0, s1, s2, s3⟩
                  go_simp
                  with_reducible rfl
                rotate_left
                · simp only [Act.put, List.setIfInBounds_toArray, List.set_cons_zero, List.set_cons_succ, i64_w, i32_w]
                  rfl
                refine take_ (i := 9) (N := some 37) (v := ?_) (a' := ?_) #[true, true, true, true, true, true, true, true, true, true, false, false] rfl rfl (take_ofW HT_.out HW_.out (by kernel_rfl)) (fun _ _ _ h => h) (Or.inl ⟨by rfl, ?_⟩) hHeld ?_ ?_
                rotate_left
                · rintro w' ⟨s0, s1, s2, s3⟩
                  go_simp
                  with_reducible rfl
                rotate_left
                · simp only [Act.put, List.setIfInBounds_toArray, List.set_cons_zero, List.set_cons_succ, i64_w, i32_w]
                  rfl
                refine pure_ (i := 10) (N := some 38) (v := ?_) (a' := ?_) #[true, true, true, true, true, true, true, true, true, true, true, false] rfl rfl (any_of HT_.out (by kernel_rfl)) (fun _ _ _ h => h) (Or.inl ⟨by rfl, ?_⟩) ?_ ?_
                rotate_left
                · intro w'
                  go_simp
                  with_reducible rfl
                rotate_left
                · simp only [Act.put, List.setIfInBounds_toArray, List.set_cons_zero, List.set_cons_succ, i64_w, i32_w]
                  rfl
                refine pure_ (i := 11) (N := some 4) (v := ?_) (a' := ?_) #[true, true, true, true, true, true, true, true, true, true, true, true] rfl rfl (any_of HT_.out (by kernel_rfl)) (fun _ _ _ h => h) (Or.inl ⟨by rfl, ?_⟩) ?_ ?_
                rotate_left
                · intro w'
                  go_simp
                  with_reducible rfl
                rotate_left
                · simp only [Act.put, List.setIfInBounds_toArray, List.set_cons_zero, List.set_cons_succ, i64_w, i32_w]
                  rfl
                refine done_ (done_of HT_.out (by kernel_rfl)) ?_
                try go_wp2
                go_ret
                exact ⟨by first | rfl | (simp [errW_none, errW_some] <;> rfl) | (simp [*, errW_none, errW_some] <;> rfl), by repeat (first | (with_reducible first | exact HB.out | apply below_alloc | apply pw_below_drewN | apply below_drew1 | refine below_set ?_ GE143.out | refine below_set ?_ GE144.out) | exact HB.out)⟩
            · rw [if_neg c14] at H
              exact absurd H (by simp)
          · rw [if_neg c13] at H
            exact absurd H (by simp)
        · rw [if_neg c12] at H
          exact absurd H (by simp)
      · rw [if_neg c11] at H
        have c11b0 : decide (x14_1 < (t145.length : Int)) = false := decide_eq_false c11
        clear c11
        obtain rfl := Option.some.inj H
        go_wp2
        go_ret
        exact ⟨by first | rfl | (simp [errW_none, errW_some] <;> rfl) | (simp [*, errW_none, errW_some] <;> rfl), by repeat (first | (with_reducible first | exact HB.out | apply below_alloc | apply pw_below_drewN | apply below_drew1 | refine below_set ?_ GE143.out | refine below_set ?_ GE144.out) | exact HB.out)⟩

/-! ### key_Unpack: function 20 -/
def key_Unpack.f (a0 : Int) : Option (Int × Int × Bool × Int × Int × Int × Int × Int) := if 0 ≤ a0 then if a0 < 18446744073709551616 then if a0 < 9007199254740992 then if (a0 / 70368744177664 % 2 == 1) = true then some (a0 / 562949953421312 % 16, a0 / 140737488355328 % 4, true, a0 / 65536 % 64, a0 / 256 % 256, a0 % 256, (16777215 - a0 / 4194304 % 16777216 - 8388608) * 256, 0) else some (a0 / 562949953421312 % 16, a0 / 140737488355328 % 4, false, a0 / 1099511627776 % 64, a0 / 4294967296 % 256, a0 / 16777216 % 256, (a0 % 16777216 - 8388608) * 256, 0) else some (0, 0, false, 0, 0, 0, 0, 2) else none else none
theorem and_mask (k : Int) (n M : Nat) (hM : M + 1 = 2 ^ n) (hM' : M < 18446744073709551616) (h0 : 0 ≤ k) (h1 : k ≤ 18446744073709551615) : bits BinOp.and IntKind.u64 k (M : Int) = k % ((M : Int) + 1) := by
  obtain ⟨a, rfl⟩ := Int.eq_ofNat_of_zero_le h0
  rw [u64_and_nat a M (by omega) (by omega)]
  have h : M = 2 ^ n - 1 := by omega
  rw [show a &&& M = a % (M + 1) from by rw [hM, h, Nat.and_two_pow_sub_one_eq_mod]]
  exact Int.natCast_emod a (M + 1)
def Taken (w : World) (g : Nat) (k r : Int) (e : Ending) (w' : World) : Prop := e = .returned (.int .i64 r) ∧ w'.heap[g]? = some (.cells #[.int .u64 k] 25 (0, 0)) ∧ w.grownBy w' (some g)
theorem taken_fin (k : Int) (g : Nat) (w : World) (hb : w.heap[g]? = some (.cells #[.int .u64 k] 25 (0, 0))) (nq : Nat) (q : Int) (r r' : Int) (h : r' = r) : Taken w g q r (.returned (.int .i64 r')) ((w.drewN nq).setCell ⟨g, 0, none⟩ (.int .u64 q)) := by
  subst h
  have hb' : (w.drewN nq).heap[g]? = some (.cells #[.int .u64 k] 25 (0, 0)) := hb
  refine ⟨rfl, by simpa using blk_set hb' 0 (.int .u64 q), rfl, rfl, rfl, by simp [World.setCell], fun i hi hne => ?_⟩
  rw [Below.heap_setCell _ _ _ _ (fun e => hne (by rw [e]))]
  rfl
set_option maxHeartbeats 400000 in
theorem take24 (k : Int) (g : Nat) (w : World) (h0 : 0 ≤ k) (h1 : k ≤ 18446744073709551615) (hb : w.heap[g]? = some (.cells #[.int .u64 k] 25 (0, 0))) :
    Calls Try.prog 102 #[.int .i64 24, .pointer (some ⟨g, 0, none⟩)] w (Taken w g (k / 16777216) (k % 16777216)) := by
  have hc : w.cell? ⟨g, 0, none⟩ = some (.int .u64 k) := (blk_cell hb 0).trans rfl
  have hf : w.frozen? ⟨g, 0, none⟩ = false := blk_frozen hb 0
  have FIN := Lib.hid (taken_fin k g w hb)
  clear hb
  go_enter Try.func102, Try.ntmps102
  go_wp2
  go_quiet (fail)
  go_wp2
  go_ret
  exact FIN.out _ _ _ _ (by rw [show (16777215 : Int) = ((16777215 : Nat) : Int) from rfl, and_mask k 24 16777215 (by decide) (by decide) h0 h1]; unfold wrap64; omega)
set_option maxHeartbeats 400000 in
theorem take8 (k : Int) (g : Nat) (w : World) (h0 : 0 ≤ k) (h1 : k ≤ 18446744073709551615) (hb : w.heap[g]? = some (.cells #[.int .u64 k] 25 (0, 0))) :
    Calls Try.prog 102 #[.int .i64 8, .pointer (some ⟨g, 0, none⟩)] w (Taken w g (k / 256) (k % 256)) := by
  have hc : w.cell? ⟨g, 0, none⟩ = some (.int .u64 k) := (blk_cell hb 0).trans rfl
  have hf : w.frozen? ⟨g, 0, none⟩ = false := blk_frozen hb 0
  have FIN := Lib.hid (taken_fin k g w hb)
  clear hb
  go_enter Try.func102, Try.ntmps102
  go_wp2
  go_quiet (fail)
  go_wp2
  go_ret
  exact FIN.out _ _ _ _ (by rw [show (255 : Int) = ((255 : Nat) : Int) from rfl, and_mask k 8 255 (by decide) (by decide) h0 h1]; unfold wrap64; omega)
set_option maxHeartbeats 400000 in
theorem take6 (k : Int) (g : Nat) (w : World) (h0 : 0 ≤ k) (h1 : k ≤ 18446744073709551615) (hb : w.heap[g]? = some (.cells #[.int .u64 k] 25 (0, 0))) :
    Calls Try.prog 102 #[.int .i64 6, .pointer (some ⟨g, 0, none⟩)] w (Taken w g (k / 64) (k % 64)) := by
  have hc : w.cell? ⟨g, 0, none⟩ = some (.int .u64 k) := (blk_cell hb 0).trans rfl
  have hf : w.frozen? ⟨g, 0, none⟩ = false := blk_frozen hb 0
  have FIN := Lib.hid (taken_fin k g w hb)
  clear hb
  go_enter Try.func102, Try.ntmps102
  go_wp2
  go_quiet (fail)
  go_wp2
  go_ret
  exact FIN.out _ _ _ _ (by rw [show (63 : Int) = ((63 : Nat) : Int) from rfl, and_mask k 6 63 (by decide) (by decide) h0 h1]; unfold wrap64; omega)
set_option maxHeartbeats 400000 in
theorem take1 (k : Int) (g : Nat) (w : World) (h0 : 0 ≤ k) (h1 : k ≤ 18446744073709551615) (hb : w.heap[g]? = some (.cells #[.int .u64 k] 25 (0, 0))) :
    Calls Try.prog 102 #[.int .i64 1, .pointer (some ⟨g, 0, none⟩)] w (Taken w g (k / 2) (k % 2)) := by
  have hc : w.cell? ⟨g, 0, none⟩ = some (.int .u64 k) := (blk_cell hb 0).trans rfl
  have hf : w.frozen? ⟨g, 0, none⟩ = false := blk_frozen hb 0
  have FIN := Lib.hid (taken_fin k g w hb)
  clear hb
  go_enter Try.func102, Try.ntmps102
  go_wp2
  go_quiet (fail)
  go_wp2
  go_ret
  exact FIN.out _ _ _ _ (by rw [show (1 : Int) = ((1 : Nat) : Int) from rfl, and_mask k 1 1 (by decide) (by decide) h0 h1]; unfold wrap64; omega)
set_option maxHeartbeats 400000 in
theorem take2 (k : Int) (g : Nat) (w : World) (h0 : 0 ≤ k) (h1 : k ≤ 18446744073709551615) (hb : w.heap[g]? = some (.cells #[.int .u64 k] 25 (0, 0))) :
    Calls Try.prog 102 #[.int .i64 2, .pointer (some ⟨g, 0, none⟩)] w (Taken w g (k / 4) (k % 4)) := by
  have hc : w.cell? ⟨g, 0, none⟩ = some (.int .u64 k) := (blk_cell hb 0).trans rfl
  have hf : w.frozen? ⟨g, 0, none⟩ = false := blk_frozen hb 0
  have FIN := Lib.hid (taken_fin k g w hb)
  clear hb
  go_enter Try.func102, Try.ntmps102
  go_wp2
  go_quiet (fail)
  go_wp2
  go_ret
  exact FIN.out _ _ _ _ (by rw [show (3 : Int) = ((3 : Nat) : Int) from rfl, and_mask k 2 3 (by decide) (by decide) h0 h1]; unfold wrap64; omega)
set_option maxHeartbeats 400000 in
theorem take4 (k : Int) (g : Nat) (w : World) (h0 : 0 ≤ k) (h1 : k ≤ 18446744073709551615) (hb : w.heap[g]? = some (.cells #[.int .u64 k] 25 (0, 0))) :
    Calls Try.prog 102 #[.int .i64 4, .pointer (some ⟨g, 0, none⟩)] w (Taken w g (k / 16) (k % 16)) := by
  have hc : w.cell? ⟨g, 0, none⟩ = some (.int .u64 k) := (blk_cell hb 0).trans rfl
  have hf : w.frozen? ⟨g, 0, none⟩ = false := blk_frozen hb 0
  have FIN := Lib.hid (taken_fin k g w hb)
  clear hb
  go_enter Try.func102, Try.ntmps102
  go_wp2
  go_quiet (fail)
  go_wp2
  go_ret
  exact FIN.out _ _ _ _ (by rw [show (15 : Int) = ((15 : Nat) : Int) from rfl, and_mask k 4 15 (by decide) (by decide) h0 h1]; unfold wrap64; omega)

/-- Unpack's world: what it took of, the result's place, the draw's place (from block d on). -/
structure U (w W : World) (k : Int) : Prop where
  k : W.heap[w.heap.size]? = some (.cells #[.int .u64 k] 25 (0, 0))
  z : W.heap[w.heap.size + 1]? = some (.cells #[.int .i64 0, .int .i64 0, .bool false, .int .i64 0, .int .i64 0, .int .i64 0, .int .i64 0] 24 (0, 0))
  b : Below w.heap.size w W
theorem U.take {w W W' : World} {k k' : Int} (h : U w W k) (hb : W'.heap[w.heap.size]? = some (.cells #[.int .u64 k'] 25 (0, 0))) (hg : W.grownBy W' (some w.heap.size)) : U w W' k' :=
  ⟨hb, blk_grown h.z hg (by simp), h.b.grown hg h.b.size (fun k e => by cases e; exact Nat.le_refl _)⟩
theorem U.alloc {w W : World} {k : Int} (h : U w W k) (o : Obj) : U w (W.alloc o) k :=
  ⟨blk_alloc h.k o, blk_alloc h.z o, h.b.alloc h.b.size o⟩
theorem U.start (w : World) (k : Int) : U w ((w.alloc (.cells #[.int .u64 k] 25)).alloc (.cells #[.int .i64 0, .int .i64 0, .bool false, .int .i64 0, .int .i64 0, .int .i64 0, .int .i64 0] 24)) k :=
  ⟨blk_alloc (heap_alloc_new _ _) _, by simpa using heap_alloc_new (w.alloc (.cells #[.int .u64 k] 25)) (.cells #[.int .i64 0, .int .i64 0, .bool false, .int .i64 0, .int .i64 0, .int .i64 0, .int .i64 0] 24), ((Below.refl _ _).alloc (Nat.le_refl _) _).alloc (by simp) _⟩
set_option maxHeartbeats 2000000 in
theorem unpack_plain (k : Int) (w : World) (h0 : 0 ≤ k) (h1 : k < 9007199254740992) (hc : (k / 70368744177664 % 2 == 1) = false) :
    Calls Try.prog 20 #[.int .u64 k] w fun e w' => e = .returned (.tuple #[.agg #[.int .i64 (k / 562949953421312 % 16), .int .i64 (k / 140737488355328 % 4), .bool false, .int .i64 (k / 1099511627776 % 64), .int .i64 (k / 4294967296 % 256), .int .i64 (k / 16777216 % 256), .int .i64 ((k % 16777216 - 8388608) * 256)], .int .i64 0]) ∧ Below w.heap.size w w' := by
  have hk : (k / 9007199254740992 != 0) = false := by rw [bne_eq_false_iff_eq]; omega
  have ha : bits BinOp.and IntKind.u64 (k / 70368744177664) 1 = k / 70368744177664 % 2 := by
    rw [show (1 : Int) = ((1 : Nat) : Int) from rfl, and_mask _ 1 1 (by decide) (by decide) (by omega) (by omega)]; rfl
  have U0 := Aside0.mk (U.start w k)
  go_enter Try.func20, Try.ntmps20
  go_wp2_with fail
  clear hk ha
  refine (take24 _ _ _ (by omega) (by omega) U0.out.k).mono ?_
  rintro e w1 ⟨rfl, hb1, hg1⟩
  have U1 := Aside0.mk (U0.out.take hb1 hg1)
  clear hb1 hg1 U0
  go_wp2_with fail
  refine (take8 _ _ _ (by omega) (by omega) U1.out.k).mono ?_
  rintro e w2 ⟨rfl, hb1, hg1⟩
  have U2 := Aside0.mk (U1.out.take hb1 hg1)
  clear hb1 hg1 U1
  go_wp2_with fail
  refine (take8 _ _ _ (by omega) (by omega) U2.out.k).mono ?_
  rintro e w3 ⟨rfl, hb1, hg1⟩
  have U3 := Aside0.mk (U2.out.take hb1 hg1)
  clear hb1 hg1 U2
  go_wp2_with fail
  refine (take6 _ _ _ (by omega) (by omega) U3.out.k).mono ?_
  rintro e w4 ⟨rfl, hb1, hg1⟩
  have U4 := Aside0.mk (U3.out.take hb1 hg1)
  clear hb1 hg1 U3
  go_wp2_with fail
  have D4 : Aside0 _ := Aside0.mk (heap_alloc_new w4 (.cells #[.int .i64 0, .int .i64 0, .bool false, .int .i64 (k / 16777216 / 256 / 256 % 64), .int .i64 (k / 16777216 / 256 % 256), .int .i64 (k / 16777216 % 256), .int .i64 0] 24))
  have G := Aside0.mk (blk_lt U4.out.z)
  have U4' := Aside0.mk (U4.out.alloc (.cells #[.int .i64 0, .int .i64 0, .bool false, .int .i64 (k / 16777216 / 256 / 256 % 64), .int .i64 (k / 16777216 / 256 % 256), .int .i64 (k / 16777216 % 256), .int .i64 0] 24))
  clear U4
  refine (take1 _ _ _ (by omega) (by omega) U4'.out.k).mono ?_
  rintro e w5 ⟨rfl, hb1, hg1⟩
  have U5 := Aside0.mk (U4'.out.take hb1 hg1)
  have D5 := Aside0.mk (blk_grown D4.out hg1 (by have := G.out; simp; omega))
  clear hb1 hg1 U4' D4
  go_wp2_with fail
  refine (take2 _ _ _ (by omega) (by omega) U5.out.k).mono ?_
  rintro e w6 ⟨rfl, hb1, hg1⟩
  have U6 := Aside0.mk (U5.out.take hb1 hg1)
  have D6 := Aside0.mk (blk_grown D5.out hg1 (by have := G.out; simp; omega))
  clear hb1 hg1 U5 D5
  go_wp2_with fail
  refine (take4 _ _ _ (by omega) (by omega) U6.out.k).mono ?_
  rintro e w7 ⟨rfl, hb1, hg1⟩
  have U7 := Aside0.mk (U6.out.take hb1 hg1)
  have D7 := Aside0.mk (blk_grown D6.out hg1 (by have := G.out; simp; omega))
  clear hb1 hg1 U6 D6
  obtain ⟨d, hd⟩ : ∃ d, w4.heap.size = d := ⟨_, rfl⟩
  rw [hd] at D7 G ⊢
  clear hd
  have hcd := blk_cell D7.out
  have hfd := blk_frozen D7.out
  have hcz := blk_cell U7.out.z
  have hfz := blk_frozen U7.out.z
  have ne : w.heap.size + 1 ≠ d := by have := G.out; omega
  clear D7
  go_wp2
  have e1 : k / 16777216 / 256 / 256 / 64 / 2 / 4 % 16 = k / 562949953421312 % 16 := by omega
  have e2 : k / 16777216 / 256 / 256 / 64 / 2 % 4 = k / 140737488355328 % 4 := by omega
  have e3 : k / 16777216 / 256 / 256 % 64 = k / 1099511627776 % 64 := by omega
  have e4 : k / 16777216 / 256 % 256 = k / 4294967296 % 256 := by omega
  have e5 : k / 16777216 % 256 = k / 16777216 % 256 := by omega
  have e6 : k % 16777216 = k % 16777216 := by omega
  rw [e1, e2, e3, e4, e5, e6]
  refine bodyPost_ret (v := .tuple #[.agg #[.int .i64 (k / 562949953421312 % 16), .int .i64 (k / 140737488355328 % 4), .bool false, .int .i64 (k / 1099511627776 % 64), .int .i64 (k / 4294967296 % 256), .int .i64 (k / 16777216 % 256), .int .i64 ((k % 16777216 - 8388608) * 256)], .int .i64 0]) (by simp [results, Try.results20, go_sem, hcz]) rfl ⟨rfl, ?_⟩
  iterate 10 refine Below.setCell ?_ (by have := G.out; first | (simp; done) | (simp; omega)) _
  exact U7.out.b
set_option maxHeartbeats 2000000 in
theorem unpack_clear (k : Int) (w : World) (h0 : 0 ≤ k) (h1 : k < 9007199254740992) (hc : (k / 70368744177664 % 2 == 1) = true) :
    Calls Try.prog 20 #[.int .u64 k] w fun e w' => e = .returned (.tuple #[.agg #[.int .i64 (k / 562949953421312 % 16), .int .i64 (k / 140737488355328 % 4), .bool true, .int .i64 (k / 65536 % 64), .int .i64 (k / 256 % 256), .int .i64 (k % 256), .int .i64 ((16777215 - k / 4194304 % 16777216 - 8388608) * 256)], .int .i64 0]) ∧ Below w.heap.size w w' := by
  have hk : (k / 9007199254740992 != 0) = false := by rw [bne_eq_false_iff_eq]; omega
  have ha : bits BinOp.and IntKind.u64 (k / 70368744177664) 1 = k / 70368744177664 % 2 := by
    rw [show (1 : Int) = ((1 : Nat) : Int) from rfl, and_mask _ 1 1 (by decide) (by decide) (by omega) (by omega)]; rfl
  have U0 := Aside0.mk (U.start w k)
  go_enter Try.func20, Try.ntmps20
  go_wp2_with fail
  clear hk ha
  refine (take8 _ _ _ (by omega) (by omega) U0.out.k).mono ?_
  rintro e w1 ⟨rfl, hb1, hg1⟩
  have U1 := Aside0.mk (U0.out.take hb1 hg1)
  clear hb1 hg1 U0
  go_wp2_with fail
  refine (take8 _ _ _ (by omega) (by omega) U1.out.k).mono ?_
  rintro e w2 ⟨rfl, hb1, hg1⟩
  have U2 := Aside0.mk (U1.out.take hb1 hg1)
  clear hb1 hg1 U1
  go_wp2_with fail
  refine (take6 _ _ _ (by omega) (by omega) U2.out.k).mono ?_
  rintro e w3 ⟨rfl, hb1, hg1⟩
  have U3 := Aside0.mk (U2.out.take hb1 hg1)
  clear hb1 hg1 U2
  go_wp2_with fail
  have D3 : Aside0 _ := Aside0.mk (heap_alloc_new w3 (.cells #[.int .i64 0, .int .i64 0, .bool true, .int .i64 (k / 256 / 256 % 64), .int .i64 (k / 256 % 256), .int .i64 (k % 256), .int .i64 0] 24))
  have G := Aside0.mk (blk_lt U3.out.z)
  have U3' := Aside0.mk (U3.out.alloc (.cells #[.int .i64 0, .int .i64 0, .bool true, .int .i64 (k / 256 / 256 % 64), .int .i64 (k / 256 % 256), .int .i64 (k % 256), .int .i64 0] 24))
  clear U3
  refine (take24 _ _ _ (by omega) (by omega) U3'.out.k).mono ?_
  rintro e w4 ⟨rfl, hb1, hg1⟩
  have U4 := Aside0.mk (U3'.out.take hb1 hg1)
  have D4 := Aside0.mk (blk_grown D3.out hg1 (by have := G.out; simp; omega))
  clear hb1 hg1 U3' D3
  go_wp2_with fail
  refine (take1 _ _ _ (by omega) (by omega) U4.out.k).mono ?_
  rintro e w5 ⟨rfl, hb1, hg1⟩
  have U5 := Aside0.mk (U4.out.take hb1 hg1)
  have D5 := Aside0.mk (blk_grown D4.out hg1 (by have := G.out; simp; omega))
  clear hb1 hg1 U4 D4
  go_wp2_with fail
  refine (take2 _ _ _ (by omega) (by omega) U5.out.k).mono ?_
  rintro e w6 ⟨rfl, hb1, hg1⟩
  have U6 := Aside0.mk (U5.out.take hb1 hg1)
  have D6 := Aside0.mk (blk_grown D5.out hg1 (by have := G.out; simp; omega))
  clear hb1 hg1 U5 D5
  go_wp2_with fail
  refine (take4 _ _ _ (by omega) (by omega) U6.out.k).mono ?_
  rintro e w7 ⟨rfl, hb1, hg1⟩
  have U7 := Aside0.mk (U6.out.take hb1 hg1)
  have D7 := Aside0.mk (blk_grown D6.out hg1 (by have := G.out; simp; omega))
  clear hb1 hg1 U6 D6
  obtain ⟨d, hd⟩ : ∃ d, w3.heap.size = d := ⟨_, rfl⟩
  rw [hd] at D7 G ⊢
  clear hd
  have hcd := blk_cell D7.out
  have hfd := blk_frozen D7.out
  have hcz := blk_cell U7.out.z
  have hfz := blk_frozen U7.out.z
  have ne : w.heap.size + 1 ≠ d := by have := G.out; omega
  clear D7
  go_wp2
  have e1 : k / 256 / 256 / 64 / 16777216 / 2 / 4 % 16 = k / 562949953421312 % 16 := by omega
  have e2 : k / 256 / 256 / 64 / 16777216 / 2 % 4 = k / 140737488355328 % 4 := by omega
  have e3 : k / 256 / 256 % 64 = k / 65536 % 64 := by omega
  have e4 : k / 256 % 256 = k / 256 % 256 := by omega
  have e5 : k % 256 = k % 256 := by omega
  have e6 : k / 256 / 256 / 64 % 16777216 = k / 4194304 % 16777216 := by omega
  rw [e1, e2, e3, e4, e5, e6]
  refine bodyPost_ret (v := .tuple #[.agg #[.int .i64 (k / 562949953421312 % 16), .int .i64 (k / 140737488355328 % 4), .bool true, .int .i64 (k / 65536 % 64), .int .i64 (k / 256 % 256), .int .i64 (k % 256), .int .i64 ((16777215 - k / 4194304 % 16777216 - 8388608) * 256)], .int .i64 0]) (by simp [results, Try.results20, go_sem, hcz]) rfl ⟨rfl, ?_⟩
  iterate 10 refine Below.setCell ?_ (by have := G.out; first | (simp; done) | (simp; omega)) _
  exact U7.out.b
set_option maxHeartbeats 1000000 in
theorem unpack_no (k : Int) (w : World) (h0 : 9007199254740992 ≤ k) (h1 : k < 18446744073709551616) :
    Calls Try.prog 20 #[.int .u64 k] w fun e w' => e = .returned (.tuple #[.agg #[.int .i64 0, .int .i64 0, .bool false, .int .i64 0, .int .i64 0, .int .i64 0, .int .i64 0], .int .i64 2]) ∧ Below w.heap.size w w' := by
  have hk : (k / 9007199254740992 != 0) = true := by rw [bne_iff_ne]; omega
  go_enter Try.func20, Try.ntmps20
  go_wp2
  exact bodyPost_ret (v := .tuple #[.agg #[.int .i64 0, .int .i64 0, .bool false, .int .i64 0, .int .i64 0, .int .i64 0, .int .i64 0], .int .i64 2]) (by simp [results, Try.results20, go_sem]) rfl ⟨rfl, ((Below.refl _ _).alloc (Nat.le_refl _) _).alloc (by simp) _⟩
set_option maxHeartbeats 8000000 in
set_option maxRecDepth 100000 in
theorem key_Unpack.calls (a0 : Int) (r1 : Int) (r2 : Int) (r3 : Bool) (r4 : Int) (r5 : Int) (r6 : Int) (r7 : Int) (r8 : Int) (w : World) (h : key_Unpack.f a0 = some (r1, r2, r3, r4, r5, r6, r7, r8)) :
    Calls Try.prog 20 #[.int .u64 a0] w fun e w' => e = .returned (.tuple #[.agg #[.int .i64 r1, .int .i64 r2, .bool r3, .int .i64 r4, .int .i64 r5, .int .i64 r6, .int .i64 r7], .int .i64 r8]) ∧ Below w.heap.size w w' := by
  have H : (if 0 ≤ a0 then if a0 < 18446744073709551616 then if a0 < 9007199254740992 then if (a0 / 70368744177664 % 2 == 1) = true then some (a0 / 562949953421312 % 16, a0 / 140737488355328 % 4, true, a0 / 65536 % 64, a0 / 256 % 256, a0 % 256, (16777215 - a0 / 4194304 % 16777216 - 8388608) * 256, 0) else some (a0 / 562949953421312 % 16, a0 / 140737488355328 % 4, false, a0 / 1099511627776 % 64, a0 / 4294967296 % 256, a0 / 16777216 % 256, (a0 % 16777216 - 8388608) * 256, 0) else some (0, 0, false, 0, 0, 0, 0, 2) else none else none) = some (r1, r2, r3, r4, r5, r6, r7, r8) := h
  clear h
  by_cases h0 : 0 ≤ a0
  · rw [if_pos h0] at H
    by_cases h1 : a0 < 18446744073709551616
    · rw [if_pos h1] at H
      by_cases h2 : a0 < 9007199254740992
      · rw [if_pos h2] at H
        by_cases h3 : (a0 / 70368744177664 % 2 == 1) = true
        · rw [if_pos h3] at H
          simp only [Option.some.injEq, Prod.mk.injEq] at H
          obtain ⟨rfl, rfl, rfl, rfl, rfl, rfl, rfl, rfl⟩ := H
          exact unpack_clear a0 w h0 h2 h3
        · rw [if_neg h3] at H
          simp only [Option.some.injEq, Prod.mk.injEq] at H
          obtain ⟨rfl, rfl, rfl, rfl, rfl, rfl, rfl, rfl⟩ := H
          exact unpack_plain a0 w h0 h2 (by simpa using h3)
      · rw [if_neg h2] at H
        simp only [Option.some.injEq, Prod.mk.injEq] at H
        obtain ⟨rfl, rfl, rfl, rfl, rfl, rfl, rfl, rfl⟩ := H
        exact unpack_no a0 w (by omega) h1
    · rw [if_neg h1] at H; cases H
  · rw [if_neg h0] at H; cases H

end Go.Proofs.Ytbkcaedlijhnlaa.GKey
