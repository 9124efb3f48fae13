/- The row of ShapeInside: for every input the law returns true, and each argument reads behind the call as it read before. No condition. -/
import Derived.Test.YtbkcaedlijhnlaaRows
import Derived.Test.YtbkcaedlijhnlaaOpen
import Derived.Test.YtbkcaedlijhnlaaShI
import Derived.WalkKit
import Derived.ProofKit
import Derived.OpenShut
import Derived.ShutString
import Derived.ChangeOld
import Derived.Below
import Derived.Carry
import Derived.KernelRfl
namespace Go.Proofs.Ytbkcaedlijhnlaa.shapeInside
open Go.ChangeShapes Go.WideShapes Go.ChangeAt Go.RowKit Go.Proofs.Ytbkcaedlijhnlaa.Opn Go.Proofs.YtbkcaedlijhnlaaW.PrintWords Go.Proofs.Ytbkcaedlijhnlaa.LB
structure B2 where
  f0 : B6
  f1 : B6
structure P2 where
  f0 : Pl
  f1 : Pl
theorem op22 : Opens Try.prog (Kd.int .i64) 22 (fun n => (Lit.int .i64 n).wf = true) := op_int Try.underlying22
def wf56 (x : V3) : Prop := ((Lit.int .i64 x.x).wf = true) ∧ ((Lit.int .i64 x.y).wf = true) ∧ ((Lit.int .i64 x.z).wf = true)
def k56 : Kd V3 := Kd.iso (Kd.pair (Kd.int .i64) (Kd.pair (Kd.int .i64) (Kd.int .i64))) (fun x : V3 => (x.x, x.y, x.z))
theorem k56_open {w : World} {x : V3} {cs : List Value} (h : k56.K w x cs) : cs = [.int .i64 x.x, .int .i64 x.y, .int .i64 x.z] := by
  obtain ⟨_, _, rfl, rfl, ⟨_, _, rfl, rfl, rfl⟩⟩ := h
  exact rfl
theorem op56 : Opens Try.prog k56 56 wf56 := op_iso (fun x : V3 => (x.x, x.y, x.z)) (fun p => ⟨p.1, p.2.1, p.2.2⟩) (fun _ => rfl) (op_array Try.underlying56 (ts := [(22, 0), (22, 1), (22, 2)]) (by kernel_rfl) (opf_cons op22 (by kernel_rfl) (opf_cons op22 (by kernel_rfl) (opf_one op22 (by kernel_rfl)))) (by kernel_rfl))
def wf58 (x : B6) : Prop := (wf56 x.lo) ∧ (wf56 x.hi)
def k58 : Kd B6 := Kd.iso (Kd.pair k56 k56) (fun x : B6 => (x.lo, x.hi))
theorem k58_open {w : World} {x : B6} {cs : List Value} (h : k58.K w x cs) : cs = [.int .i64 x.lo.x, .int .i64 x.lo.y, .int .i64 x.lo.z, .int .i64 x.hi.x, .int .i64 x.hi.y, .int .i64 x.hi.z] := by
  obtain ⟨_, _, rfl, h0, h1⟩ := h
  obtain rfl := k56_open h0
  obtain rfl := k56_open h1
  exact rfl
theorem op58 : Opens Try.prog k58 58 wf58 := op_iso (fun x : B6 => (x.lo, x.hi)) (fun p => ⟨p.1, p.2⟩) (fun _ => rfl) (op_struct Try.underlying58 (ts := [(56, 0), (56, 3)]) (by kernel_rfl) (opf_cons op56 (by kernel_rfl) (opf_one op56 (by kernel_rfl))) (by kernel_rfl))
def wf147 (x : B2) : Prop := (wf58 x.f0) ∧ (wf58 x.f1)
def k147 : Kd B2 := Kd.iso (Kd.pair k58 k58) (fun x : B2 => (x.f0, x.f1))
theorem k147_open {w : World} {x : B2} {cs : List Value} (h : k147.K w x cs) : cs = [.int .i64 x.f0.lo.x, .int .i64 x.f0.lo.y, .int .i64 x.f0.lo.z, .int .i64 x.f0.hi.x, .int .i64 x.f0.hi.y, .int .i64 x.f0.hi.z, .int .i64 x.f1.lo.x, .int .i64 x.f1.lo.y, .int .i64 x.f1.lo.z, .int .i64 x.f1.hi.x, .int .i64 x.f1.hi.y, .int .i64 x.f1.hi.z] := by
  obtain ⟨_, _, rfl, h0, h1⟩ := h
  obtain rfl := k58_open h0
  obtain rfl := k58_open h1
  exact rfl
theorem op147 : Opens Try.prog k147 147 wf147 := op_iso (fun x : B2 => (x.f0, x.f1)) (fun p => ⟨p.1, p.2⟩) (fun _ => rfl) (op_array Try.underlying147 (ts := [(58, 0), (58, 6)]) (by kernel_rfl) (opf_cons op58 (by kernel_rfl) (opf_one op58 (by kernel_rfl))) (by kernel_rfl))
def wf54 (x : M12) : Prop := ((Lit.int .i64 x.a0).wf = true) ∧ ((Lit.int .i64 x.a1).wf = true) ∧ ((Lit.int .i64 x.a2).wf = true) ∧ ((Lit.int .i64 x.a3).wf = true) ∧ ((Lit.int .i64 x.a4).wf = true) ∧ ((Lit.int .i64 x.a5).wf = true) ∧ ((Lit.int .i64 x.a6).wf = true) ∧ ((Lit.int .i64 x.a7).wf = true) ∧ ((Lit.int .i64 x.a8).wf = true) ∧ ((Lit.int .i64 x.a9).wf = true) ∧ ((Lit.int .i64 x.a10).wf = true) ∧ ((Lit.int .i64 x.a11).wf = true)
def k54 : Kd M12 := Kd.iso (Kd.pair (Kd.int .i64) (Kd.pair (Kd.int .i64) (Kd.pair (Kd.int .i64) (Kd.pair (Kd.int .i64) (Kd.pair (Kd.int .i64) (Kd.pair (Kd.int .i64) (Kd.pair (Kd.int .i64) (Kd.pair (Kd.int .i64) (Kd.pair (Kd.int .i64) (Kd.pair (Kd.int .i64) (Kd.pair (Kd.int .i64) (Kd.int .i64)))))))))))) (fun x : M12 => (x.a0, x.a1, x.a2, x.a3, x.a4, x.a5, x.a6, x.a7, x.a8, x.a9, x.a10, x.a11))
theorem k54_open {w : World} {x : M12} {cs : List Value} (h : k54.K w x cs) : cs = [.int .i64 x.a0, .int .i64 x.a1, .int .i64 x.a2, .int .i64 x.a3, .int .i64 x.a4, .int .i64 x.a5, .int .i64 x.a6, .int .i64 x.a7, .int .i64 x.a8, .int .i64 x.a9, .int .i64 x.a10, .int .i64 x.a11] := by
  obtain ⟨_, _, rfl, rfl, ⟨_, _, rfl, rfl, ⟨_, _, rfl, rfl, ⟨_, _, rfl, rfl, ⟨_, _, rfl, rfl, ⟨_, _, rfl, rfl, ⟨_, _, rfl, rfl, ⟨_, _, rfl, rfl, ⟨_, _, rfl, rfl, ⟨_, _, rfl, rfl, ⟨_, _, rfl, rfl, rfl⟩⟩⟩⟩⟩⟩⟩⟩⟩⟩⟩ := h
  exact rfl
theorem op54 : Opens Try.prog k54 54 wf54 := op_iso (fun x : M12 => (x.a0, x.a1, x.a2, x.a3, x.a4, x.a5, x.a6, x.a7, x.a8, x.a9, x.a10, x.a11)) (fun p => ⟨p.1, p.2.1, p.2.2.1, p.2.2.2.1, p.2.2.2.2.1, p.2.2.2.2.2.1, p.2.2.2.2.2.2.1, p.2.2.2.2.2.2.2.1, p.2.2.2.2.2.2.2.2.1, p.2.2.2.2.2.2.2.2.2.1, p.2.2.2.2.2.2.2.2.2.2.1, p.2.2.2.2.2.2.2.2.2.2.2⟩) (fun _ => rfl) (op_array Try.underlying54 (ts := [(22, 0), (22, 1), (22, 2), (22, 3), (22, 4), (22, 5), (22, 6), (22, 7), (22, 8), (22, 9), (22, 10), (22, 11)]) (by kernel_rfl) (opf_cons op22 (by kernel_rfl) (opf_cons op22 (by kernel_rfl) (opf_cons op22 (by kernel_rfl) (opf_cons op22 (by kernel_rfl) (opf_cons op22 (by kernel_rfl) (opf_cons op22 (by kernel_rfl) (opf_cons op22 (by kernel_rfl) (opf_cons op22 (by kernel_rfl) (opf_cons op22 (by kernel_rfl) (opf_cons op22 (by kernel_rfl) (opf_cons op22 (by kernel_rfl) (opf_one op22 (by kernel_rfl))))))))))))) (by kernel_rfl))
def wf93 (x : Pl) : Prop := (wf56 x.n) ∧ ((Lit.int .i64 x.d).wf = true)
def k93 : Kd Pl := Kd.iso (Kd.pair k56 (Kd.int .i64)) (fun x : Pl => (x.n, x.d))
theorem k93_open {w : World} {x : Pl} {cs : List Value} (h : k93.K w x cs) : cs = [.int .i64 x.n.x, .int .i64 x.n.y, .int .i64 x.n.z, .int .i64 x.d] := by
  obtain ⟨_, _, rfl, h0, rfl⟩ := h
  obtain rfl := k56_open h0
  exact rfl
theorem op93 : Opens Try.prog k93 93 wf93 := op_iso (fun x : Pl => (x.n, x.d)) (fun p => ⟨p.1, p.2⟩) (fun _ => rfl) (op_struct Try.underlying93 (ts := [(56, 0), (22, 3)]) (by kernel_rfl) (opf_cons op56 (by kernel_rfl) (opf_one op22 (by kernel_rfl))) (by kernel_rfl))
def wf148 (x : P2) : Prop := (wf93 x.f0) ∧ (wf93 x.f1)
def k148 : Kd P2 := Kd.iso (Kd.pair k93 k93) (fun x : P2 => (x.f0, x.f1))
theorem k148_open {w : World} {x : P2} {cs : List Value} (h : k148.K w x cs) : cs = [.int .i64 x.f0.n.x, .int .i64 x.f0.n.y, .int .i64 x.f0.n.z, .int .i64 x.f0.d, .int .i64 x.f1.n.x, .int .i64 x.f1.n.y, .int .i64 x.f1.n.z, .int .i64 x.f1.d] := by
  obtain ⟨_, _, rfl, h0, h1⟩ := h
  obtain rfl := k93_open h0
  obtain rfl := k93_open h1
  exact rfl
theorem op148 : Opens Try.prog k148 148 wf148 := op_iso (fun x : P2 => (x.f0, x.f1)) (fun p => ⟨p.1, p.2⟩) (fun _ => rfl) (op_array Try.underlying148 (ts := [(93, 0), (93, 4)]) (by kernel_rfl) (opf_cons op93 (by kernel_rfl) (opf_one op93 (by kernel_rfl))) (by kernel_rfl))
theorem own : ownKnob Try.prog.godebug = none := by kernel_rfl
theorem laidOut : laidOutB Try.prog = true := by kernel_rfl
theorem calls {args : List LV} {f : FuncId} {v : LV} (h : LPure Try.prog f args v) (hf : ∀ x ∈ args, x.free) (w : World) (η : Eta) : Calls Try.prog f (args.map (LV.den η)).toArray w (fun e w' => e = .returned (v.den η) ∧ Below w.heap.size w w') := by
  refine (h.2 η w (Sim.nil _ η w) (fun x hx => (hf x hx).mono fun _ h => h.elim)).mono ?_
  rintro e w' ⟨v', H', η', ⟨rfl, rfl⟩, rfl, hv', hx⟩
  exact ⟨congrArg Ending.returned (LV.den_congr (F := fun _ => False) (fun _ h => h.elim) (hv'.mono (by simp))), ⟨hx.kept.os, hx.kept.tape, hx.kept.output, hx.kept.size, fun b hb => hx.kept.block b hb (by rintro ⟨i, b, h, _⟩; simp at h)⟩⟩
theorem free_law (b0 b1 : B6) (m : M12) (p0 p1 : Pl) : ∀ x ∈ [.a (.agg (b0.cells ++ b1.cells)), m.val, .a (.agg (p0.cells ++ p1.cells))], LV.free x := by
  intro x hx
  simp only [List.mem_cons, List.not_mem_nil, or_false] at hx
  rcases hx with rfl | rfl | rfl
  · exact free_ints (by simp [LC.refs])
  · exact free_M m
  · exact free_ints (by simp [LC.refs])
set_option maxRecDepth 100000 in
theorem lifted (os : Os) (started : os.Started) (H : Type) (enc : TypeId × Value → H) :
    ReturnsInHanded {} Try.checked os 14 .any (Rows.shapeInsideSpec.pre6 enc Try.prog Try.f14 Rows.shapeInsideRow.domain false) (Rows.shapeInsideSpec.post enc Try.prog Try.f14 false true false false) := by
  refine returnsInHanded_of_change (C := Try.checked) own started (by kernel_rfl) Try.func14
    (ChangeSpec.witness6 (enc := enc) (C := Try.checked) false ⟨#[], #[.agg #[(.int .i64 0), (.int .i64 0), (.int .i64 0), (.int .i64 0), (.int .i64 0), (.int .i64 0), (.int .i64 0), (.int .i64 0), (.int .i64 0), (.int .i64 0), (.int .i64 0), (.int .i64 0)], .agg #[(.int .i64 0), (.int .i64 0), (.int .i64 0), (.int .i64 0), (.int .i64 0), (.int .i64 0), (.int .i64 0), (.int .i64 0), (.int .i64 0), (.int .i64 0), (.int .i64 0), (.int .i64 0)], .agg #[(.int .i64 0), (.int .i64 0), (.int .i64 0), (.int .i64 0), (.int .i64 0), (.int .i64 0), (.int .i64 0), (.int .i64 0)]], []⟩ 8 (by kernel_rfl) (by kernel_rfl) (by kernel_rfl) (by kernel_rfl)) ?_
  intro W base args ds gs before hval0 hW hcnd _
  have hval : ∀ (j : Nat) t v, Try.f14.params[j]? = some t → args[j]? = some v → Value.okWide Try.prog W .any base t v := hval0
  have hW' := hW
  obtain ⟨p, q, hA0, hV, rfl, hfz, hnd⟩ := hW
  have hA : DataW.TrodAll enc Try.prog W 0 (fun _ => true) true Try.f14.params.toList args.toList ds p := hA0
  rw [Try.params14] at hA hval
  obtain ⟨v0, vs0, d0, ds0, p0, q0, hargs, rfl, rfl, h0, r0⟩ := trodAll_cons hA
  obtain ⟨v1, vs1, d1, ds1, p1, q1, rfl, rfl, rfl, h1, r1⟩ := trodAll_cons r0
  obtain ⟨v2, vs2, d2, ds2, p2, q2, rfl, rfl, rfl, h2, r2⟩ := trodAll_cons r1
  obtain ⟨rfl, rfl, rfl⟩ := trodAll_nil r2
  obtain rfl : args = #[v0, v1, v2] := by cases args; simp_all
  obtain ⟨rfl, rfl⟩ := trodVars_none hV
  have k0 := h0
  have lt0 : ∀ x ∈ p0, x.block < W.heap.size := by obtain ⟨m, hm⟩ := k0; exact DataW.trod_lt m _ _ _ hm
  obtain ⟨fuel0, hf0⟩ := h0
  obtain ⟨cs0, rfl, _⟩ := okWide_array Try.underlying147 (hval 0 147 v0 rfl rfl)
  obtain ⟨x0, hK0, w0⟩ := op147 hf0
  have hcs0 := k147_open hK0
  obtain rfl : cs0 = #[.int .i64 x0.f0.lo.x, .int .i64 x0.f0.lo.y, .int .i64 x0.f0.lo.z, .int .i64 x0.f0.hi.x, .int .i64 x0.f0.hi.y, .int .i64 x0.f0.hi.z, .int .i64 x0.f1.lo.x, .int .i64 x0.f1.lo.y, .int .i64 x0.f1.lo.z, .int .i64 x0.f1.hi.x, .int .i64 x0.f1.hi.y, .int .i64 x0.f1.hi.z] := by cases cs0; simpa [Value.cells] using hcs0
  have k1 := h1
  have lt1 : ∀ x ∈ p1, x.block < W.heap.size := by obtain ⟨m, hm⟩ := k1; exact DataW.trod_lt m _ _ _ hm
  obtain ⟨fuel1, hf1⟩ := h1
  obtain ⟨cs1, rfl, _⟩ := okWide_array Try.underlying54 (hval 1 54 v1 rfl rfl)
  obtain ⟨x1, hK1, w1⟩ := op54 hf1
  have hcs1 := k54_open hK1
  obtain rfl : cs1 = #[.int .i64 x1.a0, .int .i64 x1.a1, .int .i64 x1.a2, .int .i64 x1.a3, .int .i64 x1.a4, .int .i64 x1.a5, .int .i64 x1.a6, .int .i64 x1.a7, .int .i64 x1.a8, .int .i64 x1.a9, .int .i64 x1.a10, .int .i64 x1.a11] := by cases cs1; simpa [Value.cells] using hcs1
  have k2 := h2
  have lt2 : ∀ x ∈ p2, x.block < W.heap.size := by obtain ⟨m, hm⟩ := k2; exact DataW.trod_lt m _ _ _ hm
  obtain ⟨fuel2, hf2⟩ := h2
  obtain ⟨cs2, rfl, _⟩ := okWide_array Try.underlying148 (hval 2 148 v2 rfl rfl)
  obtain ⟨x2, hK2, w2⟩ := op148 hf2
  have hcs2 := k148_open hK2
  obtain rfl : cs2 = #[.int .i64 x2.f0.n.x, .int .i64 x2.f0.n.y, .int .i64 x2.f0.n.z, .int .i64 x2.f0.d, .int .i64 x2.f1.n.x, .int .i64 x2.f1.n.y, .int .i64 x2.f1.n.z, .int .i64 x2.f1.d] := by cases cs2; simpa [Value.cells] using hcs2
  refine (calls (law_ShapeInside x0.f0 x0.f1 x1 x2.f0 x2.f1) (free_law _ _ _ _ _) W (fun _ => ⟨⟨0, 0, none⟩, 0⟩)).mono fun e W' ⟨he, bel0⟩ => ?_
  have bel : Below W.heap.size W W' := bel0
  subst he
  exact ⟨_, rfl, _, _, _, [], _, [], hW', trodAll_mk1 (shut_bool Try.underlying4 _), (trodAll_cons_mk (Below.trod laidOut (by kernel_rfl) (of_decide_eq_true (by kernel_rfl)) k0 bel lt0) (trodAll_cons_mk (Below.trod laidOut (by kernel_rfl) (of_decide_eq_true (by kernel_rfl)) k1 bel lt1) (trodAll_cons_mk (Below.trod laidOut (by kernel_rfl) (of_decide_eq_true (by kernel_rfl)) k2 bel lt2) trodAll_mk0))), rfl, bel.frame _, fun h => by cases h⟩
theorem over : Rows.shapeInsideRow.holds Try.pinned (OpenSpec.ofChange Rows.shapeInsideSpec) :=
  OpenClaim.holds_of_wide 14 Try.f14 rfl rfl rfl rfl rfl rfl rfl ⟨rfl, rfl, rfl, rfl, rfl⟩ rfl rfl rfl rfl rfl (by kernel_rfl) Try.func14 (by kernel_rfl)
    (of_decide_eq_true (by kernel_rfl)) (by unfold Func.isWrapper; first | (rw [if_pos (by decide +kernel)]; kernel_rfl) | (rw [if_neg (by decide +kernel)]; exact ⟨rfl, rfl⟩))
    (fun os started H enc _ => lifted os started H enc)
theorem proved : Rows.ShapeInsideSaid := over
#print axioms proved
end Go.Proofs.Ytbkcaedlijhnlaa.shapeInside
namespace Go.Proofs.Ytbkcaedlijhnlaa
/-- The row, under a short name, for the claim. -/
theorem shapeInside_holds : Rows.ShapeInsideSaid := shapeInside.proved
end Go.Proofs.Ytbkcaedlijhnlaa
