/- The row of AffineNumbers: for every input the law returns true, and each argument reads behind the call as it read before. No condition. -/
import Derived.Test.YtbkcaedlijhnlaaRows
import Derived.Test.YtbkcaedlijhnlaaOpen
import Derived.Test.YtbkcaedlijhnlaaAf6
import Derived.WalkKit
import Derived.ProofKit
import Derived.OpenShut
import Derived.ShutString
import Derived.ChangeOld
import Derived.Below
import Derived.Carry
import Derived.KernelRfl
namespace Go.Proofs.Ytbkcaedlijhnlaa.affineNumbers
open Go.ChangeShapes Go.WideShapes Go.ChangeAt Go.RowKit Go.Proofs.Ytbkcaedlijhnlaa.Opn Go.Proofs.YtbkcaedlijhnlaaW.PrintWords Go.Proofs.Ytbkcaedlijhnlaa.LB
structure W3 where
  f0 : M12
  f1 : M12
  f2 : M12
theorem op78 : Opens Try.prog (Kd.int .i8) 78 (fun n => (Lit.int .i8 n).wf = true) := op_int Try.underlying78
def wf80 (x : M12) : Prop := ((Lit.int .i8 x.a0).wf = true) ∧ ((Lit.int .i8 x.a1).wf = true) ∧ ((Lit.int .i8 x.a2).wf = true) ∧ ((Lit.int .i8 x.a3).wf = true) ∧ ((Lit.int .i8 x.a4).wf = true) ∧ ((Lit.int .i8 x.a5).wf = true) ∧ ((Lit.int .i8 x.a6).wf = true) ∧ ((Lit.int .i8 x.a7).wf = true) ∧ ((Lit.int .i8 x.a8).wf = true) ∧ ((Lit.int .i8 x.a9).wf = true) ∧ ((Lit.int .i8 x.a10).wf = true) ∧ ((Lit.int .i8 x.a11).wf = true)
def k80 : Kd M12 := Kd.iso (Kd.pair (Kd.int .i8) (Kd.pair (Kd.int .i8) (Kd.pair (Kd.int .i8) (Kd.pair (Kd.int .i8) (Kd.pair (Kd.int .i8) (Kd.pair (Kd.int .i8) (Kd.pair (Kd.int .i8) (Kd.pair (Kd.int .i8) (Kd.pair (Kd.int .i8) (Kd.pair (Kd.int .i8) (Kd.pair (Kd.int .i8) (Kd.int .i8)))))))))))) (fun x : M12 => (x.a0, x.a1, x.a2, x.a3, x.a4, x.a5, x.a6, x.a7, x.a8, x.a9, x.a10, x.a11))
theorem k80_open {w : World} {x : M12} {cs : List Value} (h : k80.K w x cs) : cs = [.int .i8 x.a0, .int .i8 x.a1, .int .i8 x.a2, .int .i8 x.a3, .int .i8 x.a4, .int .i8 x.a5, .int .i8 x.a6, .int .i8 x.a7, .int .i8 x.a8, .int .i8 x.a9, .int .i8 x.a10, .int .i8 x.a11] := by
  obtain ⟨_, _, rfl, rfl, ⟨_, _, rfl, rfl, ⟨_, _, rfl, rfl, ⟨_, _, rfl, rfl, ⟨_, _, rfl, rfl, ⟨_, _, rfl, rfl, ⟨_, _, rfl, rfl, ⟨_, _, rfl, rfl, ⟨_, _, rfl, rfl, ⟨_, _, rfl, rfl, ⟨_, _, rfl, rfl, rfl⟩⟩⟩⟩⟩⟩⟩⟩⟩⟩⟩ := h
  exact rfl
theorem op80 : Opens Try.prog k80 80 wf80 := op_iso (fun x : M12 => (x.a0, x.a1, x.a2, x.a3, x.a4, x.a5, x.a6, x.a7, x.a8, x.a9, x.a10, x.a11)) (fun p => ⟨p.1, p.2.1, p.2.2.1, p.2.2.2.1, p.2.2.2.2.1, p.2.2.2.2.2.1, p.2.2.2.2.2.2.1, p.2.2.2.2.2.2.2.1, p.2.2.2.2.2.2.2.2.1, p.2.2.2.2.2.2.2.2.2.1, p.2.2.2.2.2.2.2.2.2.2.1, p.2.2.2.2.2.2.2.2.2.2.2⟩) (fun _ => rfl) (op_array Try.underlying80 (ts := [(78, 0), (78, 1), (78, 2), (78, 3), (78, 4), (78, 5), (78, 6), (78, 7), (78, 8), (78, 9), (78, 10), (78, 11)]) (by kernel_rfl) (opf_cons op78 (by kernel_rfl) (opf_cons op78 (by kernel_rfl) (opf_cons op78 (by kernel_rfl) (opf_cons op78 (by kernel_rfl) (opf_cons op78 (by kernel_rfl) (opf_cons op78 (by kernel_rfl) (opf_cons op78 (by kernel_rfl) (opf_cons op78 (by kernel_rfl) (opf_cons op78 (by kernel_rfl) (opf_cons op78 (by kernel_rfl) (opf_cons op78 (by kernel_rfl) (opf_one op78 (by kernel_rfl))))))))))))) (by kernel_rfl))
def wf81 (x : W3) : Prop := (wf80 x.f0) ∧ (wf80 x.f1) ∧ (wf80 x.f2)
def k81 : Kd W3 := Kd.iso (Kd.pair k80 (Kd.pair k80 k80)) (fun x : W3 => (x.f0, x.f1, x.f2))
theorem k81_open {w : World} {x : W3} {cs : List Value} (h : k81.K w x cs) : cs = [.int .i8 x.f0.a0, .int .i8 x.f0.a1, .int .i8 x.f0.a2, .int .i8 x.f0.a3, .int .i8 x.f0.a4, .int .i8 x.f0.a5, .int .i8 x.f0.a6, .int .i8 x.f0.a7, .int .i8 x.f0.a8, .int .i8 x.f0.a9, .int .i8 x.f0.a10, .int .i8 x.f0.a11, .int .i8 x.f1.a0, .int .i8 x.f1.a1, .int .i8 x.f1.a2, .int .i8 x.f1.a3, .int .i8 x.f1.a4, .int .i8 x.f1.a5, .int .i8 x.f1.a6, .int .i8 x.f1.a7, .int .i8 x.f1.a8, .int .i8 x.f1.a9, .int .i8 x.f1.a10, .int .i8 x.f1.a11, .int .i8 x.f2.a0, .int .i8 x.f2.a1, .int .i8 x.f2.a2, .int .i8 x.f2.a3, .int .i8 x.f2.a4, .int .i8 x.f2.a5, .int .i8 x.f2.a6, .int .i8 x.f2.a7, .int .i8 x.f2.a8, .int .i8 x.f2.a9, .int .i8 x.f2.a10, .int .i8 x.f2.a11] := by
  obtain ⟨_, _, rfl, h0, ⟨_, _, rfl, h1, h2⟩⟩ := h
  obtain rfl := k80_open h0
  obtain rfl := k80_open h1
  obtain rfl := k80_open h2
  exact rfl
theorem op81 : Opens Try.prog k81 81 wf81 := op_iso (fun x : W3 => (x.f0, x.f1, x.f2)) (fun p => ⟨p.1, p.2.1, p.2.2⟩) (fun _ => rfl) (op_array Try.underlying81 (ts := [(80, 0), (80, 12), (80, 24)]) (by kernel_rfl) (opf_cons op80 (by kernel_rfl) (opf_cons op80 (by kernel_rfl) (opf_one op80 (by kernel_rfl)))) (by kernel_rfl))
theorem op22 : Opens Try.prog (Kd.int .i64) 22 (fun n => (Lit.int .i64 n).wf = true) := op_int Try.underlying22
def wf54 (x : M12) : Prop := ((Lit.int .i64 x.a0).wf = true) ∧ ((Lit.int .i64 x.a1).wf = true) ∧ ((Lit.int .i64 x.a2).wf = true) ∧ ((Lit.int .i64 x.a3).wf = true) ∧ ((Lit.int .i64 x.a4).wf = true) ∧ ((Lit.int .i64 x.a5).wf = true) ∧ ((Lit.int .i64 x.a6).wf = true) ∧ ((Lit.int .i64 x.a7).wf = true) ∧ ((Lit.int .i64 x.a8).wf = true) ∧ ((Lit.int .i64 x.a9).wf = true) ∧ ((Lit.int .i64 x.a10).wf = true) ∧ ((Lit.int .i64 x.a11).wf = true)
def k54 : Kd M12 := Kd.iso (Kd.pair (Kd.int .i64) (Kd.pair (Kd.int .i64) (Kd.pair (Kd.int .i64) (Kd.pair (Kd.int .i64) (Kd.pair (Kd.int .i64) (Kd.pair (Kd.int .i64) (Kd.pair (Kd.int .i64) (Kd.pair (Kd.int .i64) (Kd.pair (Kd.int .i64) (Kd.pair (Kd.int .i64) (Kd.pair (Kd.int .i64) (Kd.int .i64)))))))))))) (fun x : M12 => (x.a0, x.a1, x.a2, x.a3, x.a4, x.a5, x.a6, x.a7, x.a8, x.a9, x.a10, x.a11))
theorem k54_open {w : World} {x : M12} {cs : List Value} (h : k54.K w x cs) : cs = [.int .i64 x.a0, .int .i64 x.a1, .int .i64 x.a2, .int .i64 x.a3, .int .i64 x.a4, .int .i64 x.a5, .int .i64 x.a6, .int .i64 x.a7, .int .i64 x.a8, .int .i64 x.a9, .int .i64 x.a10, .int .i64 x.a11] := by
  obtain ⟨_, _, rfl, rfl, ⟨_, _, rfl, rfl, ⟨_, _, rfl, rfl, ⟨_, _, rfl, rfl, ⟨_, _, rfl, rfl, ⟨_, _, rfl, rfl, ⟨_, _, rfl, rfl, ⟨_, _, rfl, rfl, ⟨_, _, rfl, rfl, ⟨_, _, rfl, rfl, ⟨_, _, rfl, rfl, rfl⟩⟩⟩⟩⟩⟩⟩⟩⟩⟩⟩ := h
  exact rfl
theorem op54 : Opens Try.prog k54 54 wf54 := op_iso (fun x : M12 => (x.a0, x.a1, x.a2, x.a3, x.a4, x.a5, x.a6, x.a7, x.a8, x.a9, x.a10, x.a11)) (fun p => ⟨p.1, p.2.1, p.2.2.1, p.2.2.2.1, p.2.2.2.2.1, p.2.2.2.2.2.1, p.2.2.2.2.2.2.1, p.2.2.2.2.2.2.2.1, p.2.2.2.2.2.2.2.2.1, p.2.2.2.2.2.2.2.2.2.1, p.2.2.2.2.2.2.2.2.2.2.1, p.2.2.2.2.2.2.2.2.2.2.2⟩) (fun _ => rfl) (op_array Try.underlying54 (ts := [(22, 0), (22, 1), (22, 2), (22, 3), (22, 4), (22, 5), (22, 6), (22, 7), (22, 8), (22, 9), (22, 10), (22, 11)]) (by kernel_rfl) (opf_cons op22 (by kernel_rfl) (opf_cons op22 (by kernel_rfl) (opf_cons op22 (by kernel_rfl) (opf_cons op22 (by kernel_rfl) (opf_cons op22 (by kernel_rfl) (opf_cons op22 (by kernel_rfl) (opf_cons op22 (by kernel_rfl) (opf_cons op22 (by kernel_rfl) (opf_cons op22 (by kernel_rfl) (opf_cons op22 (by kernel_rfl) (opf_cons op22 (by kernel_rfl) (opf_one op22 (by kernel_rfl))))))))))))) (by kernel_rfl))
def wf56 (x : V3) : Prop := ((Lit.int .i64 x.x).wf = true) ∧ ((Lit.int .i64 x.y).wf = true) ∧ ((Lit.int .i64 x.z).wf = true)
def k56 : Kd V3 := Kd.iso (Kd.pair (Kd.int .i64) (Kd.pair (Kd.int .i64) (Kd.int .i64))) (fun x : V3 => (x.x, x.y, x.z))
theorem k56_open {w : World} {x : V3} {cs : List Value} (h : k56.K w x cs) : cs = [.int .i64 x.x, .int .i64 x.y, .int .i64 x.z] := by
  obtain ⟨_, _, rfl, rfl, ⟨_, _, rfl, rfl, rfl⟩⟩ := h
  exact rfl
theorem op56 : Opens Try.prog k56 56 wf56 := op_iso (fun x : V3 => (x.x, x.y, x.z)) (fun p => ⟨p.1, p.2.1, p.2.2⟩) (fun _ => rfl) (op_array Try.underlying56 (ts := [(22, 0), (22, 1), (22, 2)]) (by kernel_rfl) (opf_cons op22 (by kernel_rfl) (opf_cons op22 (by kernel_rfl) (opf_one op22 (by kernel_rfl)))) (by kernel_rfl))
theorem own : ownKnob Try.prog.godebug = none := by kernel_rfl
theorem laidOut : laidOutB Try.prog = true := by kernel_rfl
theorem wf8 {n : Int} (h : (Lit.int .i8 n).wf = true) : R8 n := by
  simp [Lit.wf, IntKind.min, IntKind.max, IntKind.signed, IntKind.bits] at h
  unfold R8; omega
theorem wfM {m : M12} (h : wf80 m) : R8M m := by
  obtain ⟨g0, g1, g2, g3, g4, g5, g6, g7, g8, g9, g10, g11⟩ := h
  exact ⟨wf8 g0, wf8 g1, wf8 g2, wf8 g3, wf8 g4, wf8 g5, wf8 g6, wf8 g7, wf8 g8, wf8 g9, wf8 g10, wf8 g11⟩
theorem calls {args : List LV} {f : FuncId} {v : LV} (h : LPure Try.prog f args v) (hf : ∀ x ∈ args, x.free) (w : World) (η : Eta) : Calls Try.prog f (args.map (LV.den η)).toArray w (fun e w' => e = .returned (v.den η) ∧ Below w.heap.size w w') := by
  refine (h.2 η w (Sim.nil _ η w) (fun x hx => (hf x hx).mono fun _ h => h.elim)).mono ?_
  rintro e w' ⟨v', H', η', ⟨rfl, rfl⟩, rfl, hv', hx⟩
  exact ⟨congrArg Ending.returned (LV.den_congr (F := fun _ => False) (fun _ h => h.elim) (hv'.mono (by simp))), ⟨hx.kept.os, hx.kept.tape, hx.kept.output, hx.kept.size, fun b hb => hx.kept.block b hb (by rintro ⟨i, b, h, _⟩; simp at h)⟩⟩
theorem free_law (a b c m : M12) (v : V3) : ∀ x ∈ [.a (.agg (a.cells8 ++ (b.cells8 ++ c.cells8))), m.val, v.val], LV.free x := by
  intro x hx
  simp only [List.mem_cons, List.not_mem_nil, or_false] at hx
  rcases hx with rfl | rfl | rfl
  · exact free_ints (by simp [LC.refs])
  · exact free_M m
  · exact free_V v
set_option maxRecDepth 100000 in
theorem lifted (os : Os) (started : os.Started) (H : Type) (enc : TypeId × Value → H) :
    ReturnsInHanded {} Try.checked os 8 .any (Rows.affineNumbersSpec.pre6 enc Try.prog Try.f8 Rows.affineNumbersRow.domain false) (Rows.affineNumbersSpec.post enc Try.prog Try.f8 false true false false) := by
  refine returnsInHanded_of_change (C := Try.checked) own started (by kernel_rfl) Try.func8
    (ChangeSpec.witness6 (enc := enc) (C := Try.checked) false ⟨#[], #[.agg #[(.int .i8 0), (.int .i8 0), (.int .i8 0), (.int .i8 0), (.int .i8 0), (.int .i8 0), (.int .i8 0), (.int .i8 0), (.int .i8 0), (.int .i8 0), (.int .i8 0), (.int .i8 0), (.int .i8 0), (.int .i8 0), (.int .i8 0), (.int .i8 0), (.int .i8 0), (.int .i8 0), (.int .i8 0), (.int .i8 0), (.int .i8 0), (.int .i8 0), (.int .i8 0), (.int .i8 0), (.int .i8 0), (.int .i8 0), (.int .i8 0), (.int .i8 0), (.int .i8 0), (.int .i8 0), (.int .i8 0), (.int .i8 0), (.int .i8 0), (.int .i8 0), (.int .i8 0), (.int .i8 0)], .agg #[(.int .i64 0), (.int .i64 0), (.int .i64 0), (.int .i64 0), (.int .i64 0), (.int .i64 0), (.int .i64 0), (.int .i64 0), (.int .i64 0), (.int .i64 0), (.int .i64 0), (.int .i64 0)], .agg #[(.int .i64 0), (.int .i64 0), (.int .i64 0)]], []⟩ 8 (by kernel_rfl) (by kernel_rfl) (by kernel_rfl) (by kernel_rfl)) ?_
  intro W base args ds gs before hval0 hW hcnd _
  have hval : ∀ (j : Nat) t v, Try.f8.params[j]? = some t → args[j]? = some v → Value.okWide Try.prog W .any base t v := hval0
  have hW' := hW
  obtain ⟨p, q, hA0, hV, rfl, hfz, hnd⟩ := hW
  have hA : DataW.TrodAll enc Try.prog W 0 (fun _ => true) true Try.f8.params.toList args.toList ds p := hA0
  rw [Try.params8] at hA hval
  obtain ⟨v0, vs0, d0, ds0, p0, q0, hargs, rfl, rfl, h0, r0⟩ := trodAll_cons hA
  obtain ⟨v1, vs1, d1, ds1, p1, q1, rfl, rfl, rfl, h1, r1⟩ := trodAll_cons r0
  obtain ⟨v2, vs2, d2, ds2, p2, q2, rfl, rfl, rfl, h2, r2⟩ := trodAll_cons r1
  obtain ⟨rfl, rfl, rfl⟩ := trodAll_nil r2
  obtain rfl : args = #[v0, v1, v2] := by cases args; simp_all
  obtain ⟨rfl, rfl⟩ := trodVars_none hV
  have k0 := h0
  have lt0 : ∀ x ∈ p0, x.block < W.heap.size := by obtain ⟨m, hm⟩ := k0; exact DataW.trod_lt m _ _ _ hm
  obtain ⟨fuel0, hf0⟩ := h0
  obtain ⟨cs0, rfl, _⟩ := okWide_array Try.underlying81 (hval 0 81 v0 rfl rfl)
  obtain ⟨x0, hK0, w0⟩ := op81 hf0
  have hcs0 := k81_open hK0
  obtain rfl : cs0 = #[.int .i8 x0.f0.a0, .int .i8 x0.f0.a1, .int .i8 x0.f0.a2, .int .i8 x0.f0.a3, .int .i8 x0.f0.a4, .int .i8 x0.f0.a5, .int .i8 x0.f0.a6, .int .i8 x0.f0.a7, .int .i8 x0.f0.a8, .int .i8 x0.f0.a9, .int .i8 x0.f0.a10, .int .i8 x0.f0.a11, .int .i8 x0.f1.a0, .int .i8 x0.f1.a1, .int .i8 x0.f1.a2, .int .i8 x0.f1.a3, .int .i8 x0.f1.a4, .int .i8 x0.f1.a5, .int .i8 x0.f1.a6, .int .i8 x0.f1.a7, .int .i8 x0.f1.a8, .int .i8 x0.f1.a9, .int .i8 x0.f1.a10, .int .i8 x0.f1.a11, .int .i8 x0.f2.a0, .int .i8 x0.f2.a1, .int .i8 x0.f2.a2, .int .i8 x0.f2.a3, .int .i8 x0.f2.a4, .int .i8 x0.f2.a5, .int .i8 x0.f2.a6, .int .i8 x0.f2.a7, .int .i8 x0.f2.a8, .int .i8 x0.f2.a9, .int .i8 x0.f2.a10, .int .i8 x0.f2.a11] := by cases cs0; simpa [Value.cells] using hcs0
  have k1 := h1
  have lt1 : ∀ x ∈ p1, x.block < W.heap.size := by obtain ⟨m, hm⟩ := k1; exact DataW.trod_lt m _ _ _ hm
  obtain ⟨fuel1, hf1⟩ := h1
  obtain ⟨cs1, rfl, _⟩ := okWide_array Try.underlying54 (hval 1 54 v1 rfl rfl)
  obtain ⟨x1, hK1, w1⟩ := op54 hf1
  have hcs1 := k54_open hK1
  obtain rfl : cs1 = #[.int .i64 x1.a0, .int .i64 x1.a1, .int .i64 x1.a2, .int .i64 x1.a3, .int .i64 x1.a4, .int .i64 x1.a5, .int .i64 x1.a6, .int .i64 x1.a7, .int .i64 x1.a8, .int .i64 x1.a9, .int .i64 x1.a10, .int .i64 x1.a11] := by cases cs1; simpa [Value.cells] using hcs1
  have k2 := h2
  have lt2 : ∀ x ∈ p2, x.block < W.heap.size := by obtain ⟨m, hm⟩ := k2; exact DataW.trod_lt m _ _ _ hm
  obtain ⟨fuel2, hf2⟩ := h2
  obtain ⟨cs2, rfl, _⟩ := okWide_array Try.underlying56 (hval 2 56 v2 rfl rfl)
  obtain ⟨x2, hK2, w2⟩ := op56 hf2
  have hcs2 := k56_open hK2
  obtain rfl : cs2 = #[.int .i64 x2.x, .int .i64 x2.y, .int .i64 x2.z] := by cases cs2; simpa [Value.cells] using hcs2
  refine (calls (law_AffineNumbers x0.f0 x0.f1 x0.f2 x1 x2 (wfM w0.1) (wfM w0.2.1) (wfM w0.2.2)) (free_law _ _ _ _ _) W (fun _ => ⟨⟨0, 0, none⟩, 0⟩)).mono fun e W' ⟨he, bel0⟩ => ?_
  have bel : Below W.heap.size W W' := bel0
  subst he
  exact ⟨_, rfl, _, _, _, [], _, [], hW', trodAll_mk1 (shut_bool Try.underlying4 _), (trodAll_cons_mk (Below.trod laidOut (by kernel_rfl) (of_decide_eq_true (by kernel_rfl)) k0 bel lt0) (trodAll_cons_mk (Below.trod laidOut (by kernel_rfl) (of_decide_eq_true (by kernel_rfl)) k1 bel lt1) (trodAll_cons_mk (Below.trod laidOut (by kernel_rfl) (of_decide_eq_true (by kernel_rfl)) k2 bel lt2) trodAll_mk0))), rfl, bel.frame _, fun h => by cases h⟩
theorem over : Rows.affineNumbersRow.holds Try.pinned (OpenSpec.ofChange Rows.affineNumbersSpec) :=
  OpenClaim.holds_of_wide 8 Try.f8 rfl rfl rfl rfl rfl rfl rfl ⟨rfl, rfl, rfl, rfl, rfl⟩ rfl rfl rfl rfl rfl (by kernel_rfl) Try.func8 (by kernel_rfl)
    (of_decide_eq_true (by kernel_rfl)) (by unfold Func.isWrapper; first | (rw [if_pos (by decide +kernel)]; kernel_rfl) | (rw [if_neg (by decide +kernel)]; exact ⟨rfl, rfl⟩))
    (fun os started H enc _ => lifted os started H enc)
theorem proved : Rows.AffineNumbersSaid := over
#print axioms proved
end Go.Proofs.Ytbkcaedlijhnlaa.affineNumbers
namespace Go.Proofs.Ytbkcaedlijhnlaa
/-- The row, under a short name, for the claim. -/
theorem affineNumbers_holds : Rows.AffineNumbersSaid := affineNumbers.proved
end Go.Proofs.Ytbkcaedlijhnlaa
