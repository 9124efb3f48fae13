/- The row of KeyOrder: for every input the law returns true, and each argument reads behind the call as it read before. No condition. -/
import Derived.Test.YtbkcaedlijhnlaaRows
import Derived.Test.YtbkcaedlijhnlaaWfKeyOrder
import Derived.Test.YtbkcaedlijhnlaaKeyPure
import Derived.Test.YtbkcaedlijhnlaaGKeyx0
import Derived.Test.YtbkcaedlijhnlaaGKeyx5
import Derived.WalkKit
import Derived.ProofKit
import Derived.OpenShut
import Derived.ShutString
import Derived.ChangeOld
import Derived.Below
import Derived.Carry
namespace Go.Proofs.Ytbkcaedlijhnlaa.keyOrder
open Go.ChangeShapes Go.WideShapes Go.ChangeAt Go.RowKit Go.Proofs.Ytbkcaedlijhnlaa.Opn Go.Proofs.YtbkcaedlijhnlaaW.PrintWords Go.Proofs.YtbkcaedlijhnlaaW.PrintLast Go.Proofs.Ytbkcaedlijhnlaa.GKey
theorem own : ownKnob Try.prog.godebug = none := by kernel_rfl
theorem laidOut : laidOutB Try.prog = true := by kernel_rfl
set_option maxRecDepth 100000 in
theorem lifted (os : Os) (started : os.Started) (H : Type) (enc : TypeId × Value → H) :
    ReturnsInHanded {} Try.checked os 3 .any (Rows.keyOrderSpec.pre6 enc Try.prog Try.f3 Rows.keyOrderRow.domain false) (Rows.keyOrderSpec.post enc Try.prog Try.f3 false true false false) := by
  refine returnsInHanded_of_change (C := Try.checked) own started (by kernel_rfl) Try.func3
    (ChangeSpec.witness6 (enc := enc) (C := Try.checked) false ⟨#[], #[.agg #[(.int .i64 0), (.int .i64 0), (.bool false), (.int .i64 0), (.int .i64 0), (.int .i64 0), (.int .i64 0)], .agg #[(.int .i64 0), (.int .i64 0), (.bool false), (.int .i64 0), (.int .i64 0), (.int .i64 0), (.int .i64 0)]], []⟩ 8 (by kernel_rfl) (by kernel_rfl) (by kernel_rfl) (by kernel_rfl)) ?_
  intro W base args ds gs before hval0 hW hcnd _
  have hval : ∀ (j : Nat) t v, Try.f3.params[j]? = some t → args[j]? = some v → Value.okWide Try.prog W .any base t v := hval0
  have hW' := hW
  obtain ⟨p, q, hA0, hV, rfl, hfz, hnd⟩ := hW
  have hA : DataW.TrodAll enc Try.prog W 0 (fun _ => true) true Try.f3.params.toList args.toList ds p := hA0
  rw [Try.params3] at hA hval
  obtain ⟨v0, vs0, d0, ds0, p0, q0, hargs, rfl, rfl, h0, r0⟩ := trodAll_cons hA
  obtain ⟨v1, vs1, d1, ds1, p1, q1, rfl, rfl, rfl, h1, r1⟩ := trodAll_cons r0
  obtain ⟨rfl, rfl, rfl⟩ := trodAll_nil r1
  obtain rfl : args = #[v0, v1] := by cases args; simp_all
  obtain ⟨rfl, rfl⟩ := trodVars_none hV
  have k0 := h0
  have lt0 : ∀ x ∈ p0, x.block < W.heap.size := by obtain ⟨m, hm⟩ := k0; exact DataW.trod_lt m _ _ _ hm
  obtain ⟨fuel0, hf0⟩ := h0
  obtain ⟨cs0, rfl, _⟩ := okWide_struct Try.underlying24 (hval 0 24 v0 rfl rfl)
  obtain ⟨x0, hK0, w0⟩ := op24 hf0
  have hcs0 := k24_open hK0
  obtain rfl : cs0 = #[.int .i64 x0.f0, .int .i64 x0.f1, .bool x0.f2, .int .i64 x0.f3, .int .i64 x0.f4, .int .i64 x0.f5, .int .i64 x0.f6] := by cases cs0; simpa [Value.cells] using hcs0
  have k1 := h1
  have lt1 : ∀ x ∈ p1, x.block < W.heap.size := by obtain ⟨m, hm⟩ := k1; exact DataW.trod_lt m _ _ _ hm
  obtain ⟨fuel1, hf1⟩ := h1
  obtain ⟨cs1, rfl, _⟩ := okWide_struct Try.underlying24 (hval 1 24 v1 rfl rfl)
  obtain ⟨x1, hK1, w1⟩ := op24 hf1
  have hcs1 := k24_open hK1
  obtain rfl : cs1 = #[.int .i64 x1.f0, .int .i64 x1.f1, .bool x1.f2, .int .i64 x1.f3, .int .i64 x1.f4, .int .i64 x1.f5, .int .i64 x1.f6] := by cases cs1; simpa [Value.cells] using hcs1
  obtain ⟨k, hk⟩ := KeyOrder_yes x0 x1 w0 w1
  refine (gessolaw16_KeyOrder.calls k x0.f0 x0.f1 x0.f2 x0.f3 x0.f4 x0.f5 x0.f6 x1.f0 x1.f1 x1.f2 x1.f3 x1.f4 x1.f5 x1.f6 true W  hk).mono fun e W' ⟨he, bel0⟩ => ?_
  have bel : Below W.heap.size W W' := bel0
  subst he
  exact ⟨_, rfl, _, _, _, [], _, [], hW', trodAll_mk1 (shut_bool Try.underlying4 _), (trodAll_cons_mk (Below.trod laidOut (by kernel_rfl) (of_decide_eq_true (by kernel_rfl)) k0 bel lt0) (trodAll_cons_mk (Below.trod laidOut (by kernel_rfl) (of_decide_eq_true (by kernel_rfl)) k1 bel lt1) trodAll_mk0)), rfl, bel.frame _, fun h => by cases h⟩
theorem over : Rows.keyOrderRow.holds Try.pinned (OpenSpec.ofChange Rows.keyOrderSpec) :=
  OpenClaim.holds_of_wide 3 Try.f3 rfl rfl rfl rfl rfl rfl rfl ⟨rfl, rfl, rfl, rfl, rfl⟩ rfl rfl rfl rfl rfl (by kernel_rfl) Try.func3 (by kernel_rfl)
    (of_decide_eq_true (by kernel_rfl)) (by unfold Func.isWrapper; first | (rw [if_pos (by decide +kernel)]; kernel_rfl) | (rw [if_neg (by decide +kernel)]; exact ⟨rfl, rfl⟩))
    (fun os started H enc _ => lifted os started H enc)
theorem proved : Rows.KeyOrderSaid := over
#print axioms proved
end Go.Proofs.Ytbkcaedlijhnlaa.keyOrder
namespace Go.Proofs.Ytbkcaedlijhnlaa
/-- The row, under a short name, for the claim. -/
theorem keyOrder_holds : Rows.KeyOrderSaid := keyOrder.proved
end Go.Proofs.Ytbkcaedlijhnlaa
