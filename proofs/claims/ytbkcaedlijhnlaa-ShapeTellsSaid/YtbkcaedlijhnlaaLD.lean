/- Regions of open order: every operation is shown once, whatever came up before it. First part: masks, and operations in a state of which some blocks are not made yet. -/
import Derived.Test.YtbkcaedlijhnlaaLF
namespace Go.Proofs.Ytbkcaedlijhnlaa.LB
open Go Go.RowKit
section
variable {P : Program} {tab : Tab} {n : Nat} {F : Nat → Prop} {η : Eta} {env : Env} {a : Act} {H : LH} {w : World} {t : Nat} {ti : TI}
/-! ### single operations, F: the blocks that are there -/
theorem run_load_op (hT : TOk P tab) (hs : Sim F η H w) {o : Oper} {x : Operand} (ho : o.op = .load t x) (ht : tyOf tab t = some ti) {i : Nat} {off : NE} (hx : a.eval x = .pointer (some ((η i).addr.add off.v)))
    {b : LBlk} (hb : H[i]? = some (some b)) {xs : List LC} (hxs : xs = (b.cells.drop off.v).take ti.size) (hr : off.v + ti.size ≤ b.cells.length) {v : LA} (hv : asVar ti xs = some v) : (LV.a v).In F ∧ (execOp a.eval o).run P w = .ok (.value ((LV.a v).den η)) w := by
  refine ⟨?_, ?_⟩
  · show v.In _
    intro c hc
    rw [asVar_cells hv, hxs] at hc
    exact (hs.inn i b hb).2 c (List.mem_of_mem_drop (List.mem_of_mem_take hc))
  · have e : execOp a.eval o = (do Pure.pure (Next.value (← Instr.loadAt t (a.eval x))) : Sem Next) := by simp only [execOp, ho]
    rw [e, hx]
    refine run_val ?_
    refine run_loadAt (tfacts hT ht) (xs := xs) (hxs ▸ hs.lies hb off.v ti.size) ?_ hv
    rw [hxs]; simp only [List.length_take, List.length_drop]; omega
/-- An operation that makes a block, and hands on where it lies. -/
def MakesB (P : Program) (o : Oper) (a : Act) (η : Eta) (w : World) (id : Nat) (d : LBlk) (v : LV) : Prop :=
  (execOp a.eval o).run P w = .ok (.value (v.den (upd η id ⟨⟨w.heap.size, 0, none⟩, d.cells.length⟩))) (w.alloc (.cells (d.cells.map (LC.den η)).toArray d.ty))
theorem makes_alloc (hT : TOk P tab) {o : Oper} (ho : o.op = .alloc t) (ht : tyOf tab t = some ti) (id : Nat) : MakesB P o a η w id ⟨ti.zero, true, t, false⟩ (.a (.c (.ptr id (.lit 0)))) ∧ ∀ c ∈ ti.zero, c.refs = [] := by
  obtain ⟨v, hz, hc, hn⟩ := (tfacts hT ht).zeroValue (w := w) η
  refine ⟨?_, hn⟩
  unfold MakesB
  have e : execOp a.eval o = (do Pure.pure (Next.value (← Instr.alloc t true (.tuple #[]))) : Sem Next) := by simp only [execOp, ho]
  rw [e, den_newptr']
  refine run_val ?_
  unfold Instr.alloc
  rw [Sem.run_bind, hz, Result.andThen_ok]
  simp only [Sem.run_bind, run_newVar hc, Result.andThen_ok]; rfl
theorem makes_box {o : Oper} {x : Operand} (ho : o.op = .box t x) {v : LA} (hx : a.eval x = v.den η) (id : Nat) : MakesB P o a η w id ⟨v.cells, true, t, false⟩ (.a (.c (.ptr id (.lit 0)))) := by
  unfold MakesB
  have e : execOp a.eval o = (do Pure.pure (Next.value (← Instr.box t (a.eval x))) : Sem Next) := by simp only [execOp, ho]
  rw [e, den_newptr']
  refine run_val ?_
  unfold Instr.box
  rw [hx, Sem.run_bind, run_newVar (LA.den_cells η v), Result.andThen_ok]; rfl
theorem makes_buildSlice (hT : TOk P tab) (hd : Den n F η env a) {o : Oper} {len : Nat} {parts : Array (Nat × Operand)} (ho : o.op = .buildSlice t len parts)
    {xs : List LC} {e sz : Nat} (h : lbuildSlice tab env t len parts = some (xs, e, sz)) (hlen : xs.length = len * sz) (hsz : sz ≠ 0) :
    (∀ c ∈ xs, c.In F) ∧ ∀ id, MakesB P o a η w id ⟨xs, true, e, false⟩ (.a (.c (.slice id (.lit 0) (.lit len) sz none))) := by
  unfold lbuildSlice at h
  split at h
  · rename_i ti ps ht hps
    split at h
    · rename_i e' hk
      split at h
      · rename_i tj hj
        by_cases hc : len * tj.size ≤ 16777216 ∧ tj.zero.length ≠ 0
        · rw [if_pos hc] at h
          obtain ⟨ys, hx, he⟩ := map_some h
          simp only [Prod.mk.injEq] at he
          obtain ⟨rfl, rfl, rfl⟩ := he
          obtain ⟨h1, h2⟩ := lparts_den hd hps
          obtain ⟨h3, h4⟩ := lfill_den (η := η) hx
          have F' := tfacts hT hj
          obtain ⟨z, hz, hzc, hzn⟩ := F'.zeroValue (w := w) η
          have e0 : (parts.map fun (x : Nat × Operand) => (x.1, a.eval x.2)).toList = ps.map fun p => (p.1, p.2.den η) := by
            rw [← h1]; simp
          have hin : ∀ c ∈ ys, c.In F := by
            intro c hc'
            rcases h4 c hc' with h5 | ⟨p, hp, h5⟩
            · intro r hr; rw [hzn c (zeroRow_mem hc.2 h5)] at hr; cases hr
            · exact h2 p hp c h5
          refine ⟨hin, fun id => ?_⟩
          unfold MakesB
          have e : execOp a.eval o = (do Pure.pure (Next.value (← Instr.buildSlice t len (parts.map fun (i, x) => (i, a.eval x)))) : Sem Next) := by simp only [execOp, ho]
          rw [e]
          refine run_val ?_
          unfold Instr.buildSlice
          rw [Sem.run_bind, run_underlying' (kind_slice (tfacts hT ht) hk), Result.andThen_ok]
          simp only
          rw [Sem.run_bind, F'.sizeOf, Result.andThen_ok]
          have hle : ¬ (len * tj.size > 2 ^ 24) := by have := hc.1; omega
          rw [if_neg hle]
          have hrow : ∀ (cs : Array Value) (w : World), (newRow e' cs).run P w = .ok ⟨w.heap.size, 0, none⟩ (w.alloc (.cells cs e')) := fun _ _ => rfl
          have hden : (LV.a (.c (.slice id (.lit 0) (.lit len) tj.size none))).den (upd η id ⟨⟨w.heap.size, 0, none⟩, ys.length⟩) = .slice (some ⟨w.heap.size, 0, none⟩) len len := by
            simp only [LV.den, LA.den, LC.den, upd_self, NE.lit_v, Option.getD_none, Nat.sub_zero]
            rw [hlen, Nat.mul_div_cancel _ (Nat.pos_of_ne_zero hsz)]
            simp [Addr.add]
          by_cases h0 : len * tj.size = 0
          · rw [if_pos h0, Sem.run_bind, Sem.run_pure, Result.andThen_ok]
            have e3 : (Array.range (len * tj.size)).map (fun x => (#[] : Array Value)[x % (#[] : Array Value).size]!) = ((zeroRow tj.zero (len * tj.size)).map (LC.den η)).toArray := by
              rw [h0]; simp [zeroRow]
            rw [e3, e0]
            simp only [h3]
            rw [Sem.run_bind, hrow, Result.andThen_ok, hden]; rfl
          · rw [if_neg h0, Sem.run_bind, hz, Result.andThen_ok, Sem.run_bind, Sem.run_pure, Result.andThen_ok, hzc, run_zeroCells hc.2, e0]
            simp only [h3]
            rw [Sem.run_bind, hrow, Result.andThen_ok, hden]; rfl
        · rw [if_neg hc] at h; cases h
      · cases h
    · cases h
  · cases h
end
end Go.Proofs.Ytbkcaedlijhnlaa.LB
