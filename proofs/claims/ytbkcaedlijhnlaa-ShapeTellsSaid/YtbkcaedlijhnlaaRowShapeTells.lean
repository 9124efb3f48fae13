/- The row of ShapeTells: for every input the law returns true, and each argument reads behind the call as it read before. No condition. -/
import Derived.Test.YtbkcaedlijhnlaaRows
import Derived.Test.YtbkcaedlijhnlaaOpen
import Derived.Test.YtbkcaedlijhnlaaSt
import Derived.Test.YtbkcaedlijhnlaaBr
import Derived.WalkKit
import Derived.ProofKit
import Derived.OpenShut
import Derived.ShutString
import Derived.ChangeOld
import Derived.Below
import Derived.Carry
import Derived.KernelRfl
namespace Go.Proofs.Ytbkcaedlijhnlaa.shapeTells
open Go.ChangeShapes Go.WideShapes Go.ChangeAt Go.RowKit Go.Proofs.Ytbkcaedlijhnlaa.Opn Go.Proofs.YtbkcaedlijhnlaaW.PrintWords Go.Proofs.Ytbkcaedlijhnlaa.LB
theorem op22 : Opens Try.prog (Kd.int .i64) 22 (fun n => (Lit.int .i64 n).wf = true) := op_int Try.underlying22
def wf56 (x : V3) : Prop := ((Lit.int .i64 x.x).wf = true) ∧ ((Lit.int .i64 x.y).wf = true) ∧ ((Lit.int .i64 x.z).wf = true)
def k56 : Kd V3 := Kd.iso (Kd.pair (Kd.int .i64) (Kd.pair (Kd.int .i64) (Kd.int .i64))) (fun x : V3 => (x.x, x.y, x.z))
theorem k56_open {w : World} {x : V3} {cs : List Value} (h : k56.K w x cs) : cs = [.int .i64 x.x, .int .i64 x.y, .int .i64 x.z] := by
  obtain ⟨_, _, rfl, rfl, ⟨_, _, rfl, rfl, rfl⟩⟩ := h
  exact rfl
theorem op56 : Opens Try.prog k56 56 wf56 := op_iso (fun x : V3 => (x.x, x.y, x.z)) (fun p => ⟨p.1, p.2.1, p.2.2⟩) (fun _ => rfl) (op_array Try.underlying56 (ts := [(22, 0), (22, 1), (22, 2)]) (by kernel_rfl) (opf_cons op22 (by kernel_rfl) (opf_cons op22 (by kernel_rfl) (opf_one op22 (by kernel_rfl)))) (by kernel_rfl))
def wf58 (x : B6) : Prop := (wf56 x.lo) ∧ (wf56 x.hi)
def k58 : Kd B6 := Kd.iso (Kd.pair k56 k56) (fun x : B6 => (x.lo, x.hi))
theorem k58_open {w : World} {x : B6} {cs : List Value} (h : k58.K w x cs) : cs = [.int .i64 x.lo.x, .int .i64 x.lo.y, .int .i64 x.lo.z, .int .i64 x.hi.x, .int .i64 x.hi.y, .int .i64 x.hi.z] := by
  obtain ⟨_, _, rfl, h0, h1⟩ := h
  obtain rfl := k56_open h0
  obtain rfl := k56_open h1
  exact rfl
theorem op58 : Opens Try.prog k58 58 wf58 := op_iso (fun x : B6 => (x.lo, x.hi)) (fun p => ⟨p.1, p.2⟩) (fun _ => rfl) (op_struct Try.underlying58 (ts := [(56, 0), (56, 3)]) (by kernel_rfl) (opf_cons op56 (by kernel_rfl) (opf_one op56 (by kernel_rfl))) (by kernel_rfl))
theorem op119 : Opens Try.prog (Kd.slice 58 k58) 119 (fun x => ∀ y ∈ x, wf58 y) := op_slice Try.underlying119 op58 (by kernel_rfl)
def wf54 (x : M12) : Prop := ((Lit.int .i64 x.a0).wf = true) ∧ ((Lit.int .i64 x.a1).wf = true) ∧ ((Lit.int .i64 x.a2).wf = true) ∧ ((Lit.int .i64 x.a3).wf = true) ∧ ((Lit.int .i64 x.a4).wf = true) ∧ ((Lit.int .i64 x.a5).wf = true) ∧ ((Lit.int .i64 x.a6).wf = true) ∧ ((Lit.int .i64 x.a7).wf = true) ∧ ((Lit.int .i64 x.a8).wf = true) ∧ ((Lit.int .i64 x.a9).wf = true) ∧ ((Lit.int .i64 x.a10).wf = true) ∧ ((Lit.int .i64 x.a11).wf = true)
def k54 : Kd M12 := Kd.iso (Kd.pair (Kd.int .i64) (Kd.pair (Kd.int .i64) (Kd.pair (Kd.int .i64) (Kd.pair (Kd.int .i64) (Kd.pair (Kd.int .i64) (Kd.pair (Kd.int .i64) (Kd.pair (Kd.int .i64) (Kd.pair (Kd.int .i64) (Kd.pair (Kd.int .i64) (Kd.pair (Kd.int .i64) (Kd.pair (Kd.int .i64) (Kd.int .i64)))))))))))) (fun x : M12 => (x.a0, x.a1, x.a2, x.a3, x.a4, x.a5, x.a6, x.a7, x.a8, x.a9, x.a10, x.a11))
theorem k54_open {w : World} {x : M12} {cs : List Value} (h : k54.K w x cs) : cs = [.int .i64 x.a0, .int .i64 x.a1, .int .i64 x.a2, .int .i64 x.a3, .int .i64 x.a4, .int .i64 x.a5, .int .i64 x.a6, .int .i64 x.a7, .int .i64 x.a8, .int .i64 x.a9, .int .i64 x.a10, .int .i64 x.a11] := by
  obtain ⟨_, _, rfl, rfl, ⟨_, _, rfl, rfl, ⟨_, _, rfl, rfl, ⟨_, _, rfl, rfl, ⟨_, _, rfl, rfl, ⟨_, _, rfl, rfl, ⟨_, _, rfl, rfl, ⟨_, _, rfl, rfl, ⟨_, _, rfl, rfl, ⟨_, _, rfl, rfl, ⟨_, _, rfl, rfl, rfl⟩⟩⟩⟩⟩⟩⟩⟩⟩⟩⟩ := h
  exact rfl
theorem op54 : Opens Try.prog k54 54 wf54 := op_iso (fun x : M12 => (x.a0, x.a1, x.a2, x.a3, x.a4, x.a5, x.a6, x.a7, x.a8, x.a9, x.a10, x.a11)) (fun p => ⟨p.1, p.2.1, p.2.2.1, p.2.2.2.1, p.2.2.2.2.1, p.2.2.2.2.2.1, p.2.2.2.2.2.2.1, p.2.2.2.2.2.2.2.1, p.2.2.2.2.2.2.2.2.1, p.2.2.2.2.2.2.2.2.2.1, p.2.2.2.2.2.2.2.2.2.2.1, p.2.2.2.2.2.2.2.2.2.2.2⟩) (fun _ => rfl) (op_array Try.underlying54 (ts := [(22, 0), (22, 1), (22, 2), (22, 3), (22, 4), (22, 5), (22, 6), (22, 7), (22, 8), (22, 9), (22, 10), (22, 11)]) (by kernel_rfl) (opf_cons op22 (by kernel_rfl) (opf_cons op22 (by kernel_rfl) (opf_cons op22 (by kernel_rfl) (opf_cons op22 (by kernel_rfl) (opf_cons op22 (by kernel_rfl) (opf_cons op22 (by kernel_rfl) (opf_cons op22 (by kernel_rfl) (opf_cons op22 (by kernel_rfl) (opf_cons op22 (by kernel_rfl) (opf_cons op22 (by kernel_rfl) (opf_cons op22 (by kernel_rfl) (opf_one op22 (by kernel_rfl))))))))))))) (by kernel_rfl))
def wf93 (x : Pl) : Prop := (wf56 x.n) ∧ ((Lit.int .i64 x.d).wf = true)
def k93 : Kd Pl := Kd.iso (Kd.pair k56 (Kd.int .i64)) (fun x : Pl => (x.n, x.d))
theorem k93_open {w : World} {x : Pl} {cs : List Value} (h : k93.K w x cs) : cs = [.int .i64 x.n.x, .int .i64 x.n.y, .int .i64 x.n.z, .int .i64 x.d] := by
  obtain ⟨_, _, rfl, h0, rfl⟩ := h
  obtain rfl := k56_open h0
  exact rfl
theorem op93 : Opens Try.prog k93 93 wf93 := op_iso (fun x : Pl => (x.n, x.d)) (fun p => ⟨p.1, p.2⟩) (fun _ => rfl) (op_struct Try.underlying93 (ts := [(56, 0), (22, 3)]) (by kernel_rfl) (opf_cons op56 (by kernel_rfl) (opf_one op22 (by kernel_rfl))) (by kernel_rfl))
theorem own : ownKnob Try.prog.godebug = none := by kernel_rfl
theorem laidOut : laidOutB Try.prog = true := by kernel_rfl
set_option maxRecDepth 100000 in
theorem lifted (os : Os) (started : os.Started) (H : Type) (enc : TypeId × Value → H) :
    ReturnsInHanded {} Try.checked os 12 .any (Rows.shapeTellsSpec.pre6 enc Try.prog Try.f12 Rows.shapeTellsRow.domain false) (Rows.shapeTellsSpec.post enc Try.prog Try.f12 false true false false) := by
  refine returnsInHanded_of_change (C := Try.checked) own started (by kernel_rfl) Try.func12
    (ChangeSpec.witness6 (enc := enc) (C := Try.checked) false ⟨#[], #[.slice none 0 0, .agg #[(.int .i64 0), (.int .i64 0), (.int .i64 0), (.int .i64 0), (.int .i64 0), (.int .i64 0), (.int .i64 0), (.int .i64 0), (.int .i64 0), (.int .i64 0), (.int .i64 0), (.int .i64 0)], .agg #[(.int .i64 0), (.int .i64 0), (.int .i64 0), (.int .i64 0)]], []⟩ 8 (by kernel_rfl) (by kernel_rfl) (by kernel_rfl) (by kernel_rfl)) ?_
  intro W base args ds gs before hval0 hW hcnd _
  have hval : ∀ (j : Nat) t v, Try.f12.params[j]? = some t → args[j]? = some v → Value.okWide Try.prog W .any base t v := hval0
  have hW' := hW
  obtain ⟨p, q, hA0, hV, rfl, hfz, hnd⟩ := hW
  have hA : DataW.TrodAll enc Try.prog W 0 (fun _ => true) true Try.f12.params.toList args.toList ds p := hA0
  rw [Try.params12] at hA hval
  obtain ⟨v0, vs0, d0, ds0, p0, q0, hargs, rfl, rfl, h0, r0⟩ := trodAll_cons hA
  obtain ⟨v1, vs1, d1, ds1, p1, q1, rfl, rfl, rfl, h1, r1⟩ := trodAll_cons r0
  obtain ⟨v2, vs2, d2, ds2, p2, q2, rfl, rfl, rfl, h2, r2⟩ := trodAll_cons r1
  obtain ⟨rfl, rfl, rfl⟩ := trodAll_nil r2
  obtain rfl : args = #[v0, v1, v2] := by cases args; simp_all
  obtain ⟨rfl, rfl⟩ := trodVars_none hV
  have k0 := h0
  have lt0 : ∀ x ∈ p0, x.block < W.heap.size := by obtain ⟨m, hm⟩ := k0; exact DataW.trod_lt m _ _ _ hm
  obtain ⟨fuel0, hf0⟩ := h0
  obtain ⟨a0, len0, cap0, rfl⟩ := okWide_slice Try.underlying119 (hval 0 119 v0 rfl rfl)
  obtain ⟨x0, ⟨A0, c0, e0, hl0, hr0⟩, w0⟩ := op119 hf0
  simp only [Value.cells, List.cons.injEq, and_true, Value.slice.injEq] at e0
  obtain ⟨rfl, rfl, rfl⟩ := e0
  have k1 := h1
  have lt1 : ∀ x ∈ p1, x.block < W.heap.size := by obtain ⟨m, hm⟩ := k1; exact DataW.trod_lt m _ _ _ hm
  obtain ⟨fuel1, hf1⟩ := h1
  obtain ⟨cs1, rfl, _⟩ := okWide_array Try.underlying54 (hval 1 54 v1 rfl rfl)
  obtain ⟨x1, hK1, w1⟩ := op54 hf1
  have hcs1 := k54_open hK1
  obtain rfl : cs1 = #[.int .i64 x1.a0, .int .i64 x1.a1, .int .i64 x1.a2, .int .i64 x1.a3, .int .i64 x1.a4, .int .i64 x1.a5, .int .i64 x1.a6, .int .i64 x1.a7, .int .i64 x1.a8, .int .i64 x1.a9, .int .i64 x1.a10, .int .i64 x1.a11] := by cases cs1; simpa [Value.cells] using hcs1
  have k2 := h2
  have lt2 : ∀ x ∈ p2, x.block < W.heap.size := by obtain ⟨m, hm⟩ := k2; exact DataW.trod_lt m _ _ _ hm
  obtain ⟨fuel2, hf2⟩ := h2
  obtain ⟨cs2, rfl, _⟩ := okWide_struct Try.underlying93 (hval 2 93 v2 rfl rfl)
  obtain ⟨x2, hK2, w2⟩ := op93 hf2
  have hcs2 := k93_open hK2
  obtain rfl : cs2 = #[.int .i64 x2.n.x, .int .i64 x2.n.y, .int .i64 x2.n.z, .int .i64 x2.d] := by cases cs2; simpa [Value.cells] using hcs2
  refine (calls_row (by decide) boxes rfl (fun _ _ _ _ h => k58_open h) (law_ShapeTells x0 x1 x2) (fun A c => law_ShapeTells0 A c x1 x2) (free3 (free_M x1) (free_P x2)) (free_bo true) hl0 hr0 (fun _ => ⟨⟨0, 0, none⟩, 0⟩)).mono fun e W' ⟨he, bel0⟩ => ?_
  have bel : Below W.heap.size W W' := bel0
  subst he
  exact ⟨_, rfl, _, _, _, [], _, [], hW', trodAll_mk1 (shut_bool Try.underlying4 _), (trodAll_cons_mk (Below.trod laidOut (by kernel_rfl) (of_decide_eq_true (by kernel_rfl)) k0 bel lt0) (trodAll_cons_mk (Below.trod laidOut (by kernel_rfl) (of_decide_eq_true (by kernel_rfl)) k1 bel lt1) (trodAll_cons_mk (Below.trod laidOut (by kernel_rfl) (of_decide_eq_true (by kernel_rfl)) k2 bel lt2) trodAll_mk0))), rfl, bel.frame _, fun h => by cases h⟩
theorem over : Rows.shapeTellsRow.holds Try.pinned (OpenSpec.ofChange Rows.shapeTellsSpec) :=
  OpenClaim.holds_of_wide 12 Try.f12 rfl rfl rfl rfl rfl rfl rfl ⟨rfl, rfl, rfl, rfl, rfl⟩ rfl rfl rfl rfl rfl (by kernel_rfl) Try.func12 (by kernel_rfl)
    (of_decide_eq_true (by kernel_rfl)) (by unfold Func.isWrapper; first | (rw [if_pos (by decide +kernel)]; kernel_rfl) | (rw [if_neg (by decide +kernel)]; exact ⟨rfl, rfl⟩))
    (fun os started H enc _ => lifted os started H enc)
theorem proved : Rows.ShapeTellsSaid := over
#print axioms proved
end Go.Proofs.Ytbkcaedlijhnlaa.shapeTells
namespace Go.Proofs.Ytbkcaedlijhnlaa
/-- The row, under a short name, for the claim. -/
theorem shapeTells_holds : Rows.ShapeTellsSaid := shapeTells.proved
end Go.Proofs.Ytbkcaedlijhnlaa
