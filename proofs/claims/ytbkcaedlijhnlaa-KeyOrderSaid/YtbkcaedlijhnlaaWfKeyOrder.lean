/- How the arguments of KeyOrder are opened. -/
import Derived.Test.YtbkcaedlijhnlaaOpen
import Derived.Test.YtbkcaedlijhnlaaGKeyx0
import Derived.KernelRfl
namespace Go.Proofs.Ytbkcaedlijhnlaa.GKey
open Go.RowKit Go.Proofs.Ytbkcaedlijhnlaa.Opn Go.Proofs.YtbkcaedlijhnlaaW.PrintWords Go.Proofs.YtbkcaedlijhnlaaW.PrintLast
theorem op3 : Opens Try.prog (Kd.int .i64) 3 (fun n => (Lit.int .i64 n).wf = true) := op_int Try.underlying3
theorem op4 : Opens Try.prog Kd.bool 4 (fun _ => True) := op_bool Try.underlying4
theorem op22 : Opens Try.prog (Kd.int .i64) 22 (fun n => (Lit.int .i64 n).wf = true) := op_int Try.underlying22
def wf24 (x : S24) : Prop := ((Lit.int .i64 x.f0).wf = true) ∧ ((Lit.int .i64 x.f1).wf = true) ∧ (True) ∧ ((Lit.int .i64 x.f3).wf = true) ∧ ((Lit.int .i64 x.f4).wf = true) ∧ ((Lit.int .i64 x.f5).wf = true) ∧ ((Lit.int .i64 x.f6).wf = true)
theorem op24 : Opens Try.prog k24 24 wf24 := op_iso (fun x : S24 => (x.f0, x.f1, x.f2, x.f3, x.f4, x.f5, x.f6)) (fun p => ⟨p.1, p.2.1, p.2.2.1, p.2.2.2.1, p.2.2.2.2.1, p.2.2.2.2.2.1, p.2.2.2.2.2.2⟩) (fun _ => rfl) (op_struct Try.underlying24 (ts := [(3, 0), (3, 1), (4, 2), (3, 3), (3, 4), (3, 5), (22, 6)]) (by kernel_rfl) (opf_cons op3 (by kernel_rfl) (opf_cons op3 (by kernel_rfl) (opf_cons op4 (by kernel_rfl) (opf_cons op3 (by kernel_rfl) (opf_cons op3 (by kernel_rfl) (opf_cons op3 (by kernel_rfl) (opf_one op22 (by kernel_rfl)))))))) (by kernel_rfl))
end Go.Proofs.Ytbkcaedlijhnlaa.GKey
