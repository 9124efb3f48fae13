/- The operations without memory: what is told of them is so. -/
import Derived.Test.YtbkcaedlijhnlaaLO
namespace Go.Proofs.Ytbkcaedlijhnlaa.LB
open Go Go.RowKit
section
variable {P : Program} {tab : Tab} {n : Nat} {F : Nat → Prop} {η : Eta} {env : Env} {a : Act}
theorem in_cell {c : LC} (h : c.In F) : (LV.a (.c c)).In F := fun d hd => by
  simp only [LA.cells, List.mem_singleton] at hd
  subst hd; exact h
theorem in_none {c : LC} (h : c.refs = []) : (LV.a (.c c)).In F := in_cell (fun r hr => by rw [h] at hr; cases hr)
theorem of_in {c : LC} (h : (LV.a (.c c)).In F) : c.In F := h c (by simp [LA.cells])
theorem in_ptr {i : Nat} {o : NE} (h : F i) : (LV.a (.c (.ptr i o))).In F := in_cell (fun r hr => by simp only [LC.refs, List.mem_singleton] at hr; subst hr; exact h)
theorem of_ptr {i : Nat} {o : NE} (h : (LV.a (.c (.ptr i o))).In F) : F i := of_in h i (by simp [LC.refs])
theorem of_slice {i : Nat} {o l : NE} {e : Nat} {c : Option Nat} (h : (LV.a (.c (.slice i o l e c))).In F) : F i := of_in h i (by simp [LC.refs])
theorem rdCells_ok {t : Nat} {ti : TI} (hF : TFacts P t ti) {xs : List LC} {off : Nat} {x : LA} (h : rdCells ti xs off = some x) (hin : ∀ c ∈ xs, c.In F) (w : World) :
    x.In F ∧ (part t (xs.map (LC.den η)).toArray off).run P w = .ok (x.den η) w := by
  unfold rdCells at h
  have hA := hF.isAgg (w := w)
  cases hk : ti.kind.agg with
  | true =>
    rw [hk] at h hA
    obtain rfl := Option.some.inj h
    refine ⟨fun c hc => hin c (List.mem_of_mem_drop (List.mem_of_mem_take hc)), ?_⟩
    unfold part
    rw [Sem.run_bind, hA, Result.andThen_ok]
    simp only [if_true]
    rw [Sem.run_bind, hF.sizeOf, Result.andThen_ok]
    simp only [LA.den, Sem.run_pure]
    congr 2
    rw [List.extract_toArray]
    congr 1
    rw [List.extract_eq_take_drop, List.map_take, List.map_drop]
    congr 1
    omega
  | false =>
    rw [hk] at h hA
    simp only at h
    cases hd : xs.drop off with
    | nil => rw [hd] at h; cases h
    | cons c r =>
      rw [hd] at h
      obtain rfl := Option.some.inj h
      have hm : c ∈ xs.drop off := by rw [hd]; simp
      refine ⟨fun d hc => by simp only [LA.cells, List.mem_singleton] at hc; subst hc; exact hin _ (List.mem_of_mem_drop hm), ?_⟩
      have hg : xs[off]? = some c := by
        have h1 := List.getElem?_drop (xs := xs) (i := off) (j := 0)
        rw [hd] at h1; simpa using h1.symm
      unfold part
      rw [Sem.run_bind, hA, Result.andThen_ok]
      have hg2 : (xs.map (LC.den η)).toArray[off]? = some (c.den η) := by simp [hg]
      simp only [Bool.false_eq_true, if_false, hg2]
      rfl
theorem lunary_run {op : UnOp} {c r : LC} (h : lunary op c = some r) (w : World) : (Op.unary op (c.den η)).run P w = .ok (r.den η) w ∧ r.refs = [] := by
  cases op <;> cases c <;> first | (simp [lunary] at h; done) | skip
  all_goals
    simp only [lunary] at h
    obtain rfl := Option.some.inj h
    refine ⟨?_, rfl⟩
    simp [Op.unary, Op.intArith, Op.intBits, bitop, LC.den, IE.map_v, BE.map_v]
theorem lmx_run {m : Bool} {c d r : LC} (h : lmx m c d = some r) (w : World) (ts : Array TypeId) (t : TypeId) :
    (if m then Builtin.max_ ts t #[c.den η, d.den η] else Builtin.min_ ts t #[c.den η, d.den η]).run P w = .ok (r.den η) w ∧ r.refs = [] := by
  unfold lmx at h
  split at h
  · rename_i k x k' y
    by_cases hk : k = k'
    · subst hk
      rw [if_pos rfl] at h
      obtain rfl := Option.some.inj h
      refine ⟨?_, rfl⟩
      cases m <;> simp [Builtin.max_, Builtin.min_, Builtin.max2, Builtin.min2, LC.den, IE.map2_v]
    · rw [if_neg hk] at h; cases h
  · cases h
theorem lindex_ok {i e len : Nat} {o : NE} {ix : Int} {c : LC} (h : lindex n e i o ix len = some c) : 0 ≤ ix ∧ ix < (len : Int) ∧ c = .ptr i (NE.plus o (.lit (ix.toNat * e))) := by
  unfold lindex at h
  by_cases hc : 0 ≤ ix ∧ ix < (len : Int)
  · rw [if_pos hc] at h; exact ⟨hc.1, hc.2, (Option.some.inj h).symm⟩
  · rw [if_neg hc] at h; cases h
theorem capsL_ok : ∀ {xs : List Operand} {l : List (Nat × Nat)}, Den n F η env a → capsL (xs.map (ev env)) = some l → xs.map a.eval = l.map (fun p => Value.pointer (some ((η p.1).addr.add p.2))) ∧ ∀ p ∈ l, F p.1
  | [], l, _, h => by
    simp only [List.map_nil, capsL] at h
    obtain rfl := Option.some.inj h
    exact ⟨rfl, fun p hp => by cases hp⟩
  | x :: r, l, hd, h => by
    simp only [List.map_cons] at h
    cases hx : ev env x with
    | none => rw [hx] at h; simp [capsL] at h
    | some v =>
      rw [hx] at h
      obtain ⟨h1, h2⟩ := ev_den hd hx
      unfold capsL at h
      split at h
      · rename_i heq; cases heq
      · rename_i i o r' heq
        simp only [List.cons.injEq, Option.some.injEq] at heq
        obtain ⟨rfl, rfl⟩ := heq
        cases hr : capsL (r.map (ev env)) with
        | none => rw [hr] at h; cases h
        | some l' =>
          rw [hr] at h
          obtain rfl := Option.some.inj h
          obtain ⟨h3, h4⟩ := capsL_ok hd hr
          refine ⟨by simp only [List.map_cons, h3, h1]; rfl, fun p hp => ?_⟩
          rcases List.mem_cons.1 hp with rfl | hp
          · exact of_ptr h2
          · exact h4 p hp
      · cases h
theorem run_fieldAt {s : Nat} {gs : Array Field} (hu : P.underlying s = some (.struct gs)) {f off t : Nat} (hf : (gs.toList.map fun f => (f.offset, f.type))[f]? = some (off, t)) {tj : TI} (hj : TFacts P t tj) (h0 : tj.size ≠ 0) (A : Addr) (w : World) :
    (Instr.fieldAt s (.pointer (some A)) f).run P w = .ok (.pointer (some (A.add off))) w := by
  rw [List.getElem?_map] at hf
  cases hg : gs.toList[f]? with
  | none => rw [hg] at hf; cases hf
  | some g =>
    rw [hg] at hf
    simp only [Option.map_some, Option.some.injEq, Prod.mk.injEq] at hf
    obtain ⟨rfl, rfl⟩ := hf
    have hg' : gs[f]? = some g := by simpa using hg
    unfold Instr.fieldAt
    rw [Sem.run_bind, run_underlying' hu, Result.andThen_ok]
    simp only [hg']
    have h1 : (Instr.sureAddr (.pointer (some A))).run P w = .ok A w := rfl
    rw [Sem.run_bind, h1, Result.andThen_ok, Sem.run_bind]
    have h2 : (fieldPlace A g).run P w = .ok (A.add g.offset) w := by
      unfold fieldPlace
      rw [Sem.run_bind, hj.sizeOf, Result.andThen_ok]
      simp only [if_neg h0]; rfl
    rw [h2, Result.andThen_ok]; rfl
theorem run_indexAt_array {t len e : Nat} (hu : P.underlying t = some (.array len e)) {tj : TI} (hj : TFacts P e tj) (A : Addr) (k : IntKind) {ix : Int} (h0 : 0 ≤ ix) (h1 : ix < (len : Int)) (w : World) :
    (Instr.indexAt t (.pointer (some A)) (.int k ix)).run P w = .ok (.pointer (some (A.add (ix.toNat * tj.size)))) w := by
  unfold Instr.indexAt
  have e1 : (asIntOf (.int k ix)).run P w = .ok (k, ix) w := rfl
  rw [Sem.run_bind, e1, Result.andThen_ok]
  simp only [Sem.run_bind, run_underlying' hu, Result.andThen_ok]
  have e2 : (Instr.sureAddr (.pointer (some A))).run P w = .ok A w := rfl
  simp only [e2, Result.andThen_ok, Sem.run_pure, h0, h1, and_self, if_true, Sem.run_bind, hj.sizeOf]
theorem run_indexAt_slice {t e len cap : Nat} (hu : P.underlying t = some (.slice e)) {tj : TI} (hj : TFacts P e tj) (A : Addr) (k : IntKind) {ix : Int} (h0 : 0 ≤ ix) (h1 : ix < (len : Int)) (w : World) :
    (Instr.indexAt t (.slice (some A) len cap) (.int k ix)).run P w = .ok (.pointer (some (A.add (ix.toNat * tj.size)))) w := by
  unfold Instr.indexAt
  have e1 : (asIntOf (.int k ix)).run P w = .ok (k, ix) w := rfl
  rw [Sem.run_bind, e1, Result.andThen_ok]
  simp only [Sem.run_bind, run_underlying' hu, Result.andThen_ok]
  simp only [Result.andThen_ok, Sem.run_pure, h0, h1, and_self, if_true, Sem.run_bind, hj.sizeOf]
theorem run_val {s : Sem Value} {v : Value} {w w' : World} (h : s.run P w = .ok v w') : (do pure (.value (← s)) : Sem Next).run P w = .ok (.value v) w' := by
  rw [Sem.run_bind, h, Result.andThen_ok]; rfl
theorem run_next {s : Sem Next} {v : Value} {w : World} {s' : Sem Value} (e : s = (do pure (.value (← s')))) (h : s'.run P w = .ok v w) : s.run P w = .ok (.value v) w := by
  rw [e]; exact run_val h
theorem map_some {α β : Type} {f : α → β} {x : Option α} {y : β} (h : x.map f = some y) : ∃ z, x = some z ∧ f z = y := by
  cases x with
  | none => cases h
  | some z => exact ⟨z, rfl, Option.some.inj h⟩
/-- An operation without memory yields its value in whatever world. -/
theorem lpure_run (hT : TOk P tab) (hd : Den n F η env a) {o : Oper} {v : LV} (h : lpure tab env o.op o.type = some v) : v.In F ∧ ∀ w, (execOp a.eval o).run P w = .ok (.value (v.den η)) w := by
  obtain ⟨dst, op, ty, pos, after, guard⟩ := o
  cases op with
  | move x => exact ⟨(ev_den hd h).2, fun w => by simp only [execOp]; rw [(ev_den hd h).1]; rfl⟩
  | assign x => exact ⟨(ev_den hd h).2, fun w => by simp only [execOp]; rw [(ev_den hd h).1]; rfl⟩
  | pick c x y =>
    simp only [lpure] at h
    split at h
    · rename_i hc
      refine ⟨(ev_den hd h).2, fun w => ?_⟩
      simp only [execOp]; rw [(ev_den hd hc).1, (ev_den hd h).1]; rfl
    · rename_i hc
      refine ⟨(ev_den hd h).2, fun w => ?_⟩
      simp only [execOp]; rw [(ev_den hd hc).1, (ev_den hd h).1]; rfl
    · cases h
  | extract x ix =>
    simp only [lpure] at h
    split at h
    · rename_i xs hx
      obtain ⟨z, hz, rfl⟩ := map_some h
      refine ⟨(ev_den hd hx).2 z (List.mem_of_getElem? hz), fun w => ?_⟩
      simp only [execOp]
      refine run_val ?_
      rw [(ev_den hd hx).1]
      simp only [LV.den, Instr.extract]
      have : (xs.map (LA.den η)).toArray[ix]? = some (z.den η) := by simp [hz]
      rw [this]; rfl
    · cases h
  | nilCheck x =>
    simp only [lpure] at h
    split at h
    · rename_i i o hx
      obtain rfl := Option.some.inj h
      refine ⟨(ev_den hd hx).2, fun w => ?_⟩
      simp only [execOp]
      rw [(ev_den hd hx).1]; rfl
    · cases h
  | binOp op t x y t' =>
    simp only [lpure] at h
    split at h
    · rename_i c d hx hy
      obtain ⟨r, hr, rfl⟩ := map_some h
      refine ⟨in_none (lbin_run (P := P) (η := η) (w := default) hT hr).2, fun w => ?_⟩
      simp only [execOp]
      refine run_val ?_
      rw [(ev_den hd hx).1, (ev_den hd hy).1, Sem.run_bind]
      have h1 := run_eqGuard_cell (P := P) (η := η) (w := w) (t := t) (op := op) (x := x) (y := y) c d
      simp only [LV.den, LA.den]
      rw [h1, Result.andThen_ok]
      exact (lbin_run hT hr).1
    · rename_i xs ys hx hy
      split at h
      · rename_i e ti he ht
        cases hq : ti.eqs with
        | false => rw [hq] at h; cases h
        | true =>
          rw [hq] at h
          obtain ⟨b, hb, rfl⟩ := map_some h
          obtain ⟨h1, h2, h3⟩ := teq hT ht hq
          refine ⟨in_none rfl, fun w => ?_⟩
          have hv : ∀ l, vOf P t l = .agg l.toArray := by
            obtain ⟨i, d, v, _, hd, _, _, hk, _⟩ := (tfacts hT ht).ex
            intro l
            unfold vOf
            rw [hd]
            cases hti : ti.kind <;> rw [hti] at hk h2 <;> cases d <;> simp [kindOk, TK.agg] at hk h2 <;> rfl
          have h4 := eqTy_run (P := P) (η := η) 20 t ti.zero h1 xs ys b hb 9980 w
          rw [hv, hv] at h4
          simp only [execOp]
          refine run_val ?_
          rw [(ev_den hd hx).1, (ev_den hd hy).1, Sem.run_bind]
          simp only [LV.den, LA.den]
          rw [run_eqGuard_agg w op t x y _ _ h3, Result.andThen_ok]
          rcases isEq_op he with ⟨rfl, rfl⟩ | ⟨rfl, rfl⟩
          · rw [run_eql_struct, h4, Result.andThen_ok]; rfl
          · rw [run_neq_struct, h4, Result.andThen_ok]
            simp only [cond_false, LC.den, BE.map_v]
      · cases h
    · cases h
  | unOp op t x =>
    simp only [lpure] at h
    split at h
    · rename_i c hx
      obtain ⟨r, hr, rfl⟩ := map_some h
      refine ⟨in_none (lunary_run (P := P) (η := η) hr default).2, fun w => ?_⟩
      simp only [execOp]
      refine run_val ?_
      rw [(ev_den hd hx).1]
      exact (lunary_run hr w).1
    · cases h
  | convert s d x =>
    simp only [lpure] at h
    split at h
    · rename_i ts ti k m hs hd' hx
      split at h
      · rename_i k' hk
        obtain rfl := Option.some.inj h
        refine ⟨in_none rfl, fun w => ?_⟩
        simp only [execOp]
        refine run_val ?_
        rw [(ev_den hd hx).1]
        obtain ⟨i1, d1, v1, _, hu1, _⟩ := (tfacts hT hs).ex
        unfold convert
        rw [Sem.run_bind, run_underlying' hu1, Result.andThen_ok, Sem.run_bind, run_underlying' (kind_int (tfacts hT hd') hk), Result.andThen_ok]
        simp only [LV.den, LA.den, LC.den, Conv.intToInt, IE.map_v]
        rfl
      · cases h
    · cases h
  | fieldAddr s x f =>
    simp only [lpure] at h
    split at h
    · rename_i ti i o hs hx
      split at h
      · rename_i fs hk
        split at h
        · rename_i off t hf
          split at h
          · rename_i tj hj
            by_cases h0 : tj.size = 0
            · rw [if_pos h0] at h; cases h
            · rw [if_neg h0] at h
              obtain rfl := Option.some.inj h
              refine ⟨in_ptr (of_ptr (ev_den hd hx).2), fun w => ?_⟩
              simp only [execOp]
              refine run_val ?_
              rw [(ev_den hd hx).1]
              obtain ⟨gs, hu, rfl⟩ := kind_struct (tfacts hT hs) hk
              simp only [LV.den, LA.den, LC.den, NE.plus_v, NE.lit_v]
              rw [run_fieldAt hu hf (tfacts hT hj) h0, add_add]
          · cases h
        · cases h
      · cases h
    · cases h
  | field s x f =>
    simp only [lpure] at h
    split at h
    · rename_i ti xs hs hx
      split at h
      · rename_i fs hk
        split at h
        · rename_i off t hf
          split at h
          · rename_i tj hj
            obtain ⟨z, hz, rfl⟩ := map_some h
            obtain ⟨h1, h2⟩ := rdCells_ok (P := P) (η := η) (tfacts hT hj) hz (ev_den hd hx).2 default
            refine ⟨h1, fun w => ?_⟩
            simp only [execOp]
            refine run_val ?_
            rw [(ev_den hd hx).1]
            obtain ⟨gs, hu, hgs⟩ := kind_struct (tfacts hT hs) hk
            rw [← hgs, List.getElem?_map] at hf
            cases hg : gs.toList[f]? with
            | none => rw [hg] at hf; cases hf
            | some g =>
              rw [hg] at hf
              simp only [Option.map_some, Option.some.injEq, Prod.mk.injEq] at hf
              obtain ⟨rfl, rfl⟩ := hf
              have hg' : gs[f]? = some g := by simpa using hg
              unfold Instr.field
              rw [Sem.run_bind, run_underlying' hu, Result.andThen_ok]
              simp only [hg', LV.den, LA.den]
              have e2 : (asAgg (.agg (xs.map (LC.den η)).toArray)).run P w = .ok (xs.map (LC.den η)).toArray w := rfl
              rw [Sem.run_bind, e2, Result.andThen_ok]
              exact (rdCells_ok (tfacts hT hj) hz (ev_den hd hx).2 w).2
          · cases h
        · cases h
      · cases h
    · cases h
  | indexAddr t x ix =>
    simp only [lpure] at h
    split at h
    · rename_i ti i o k m ht hx hix
      split at h
      · rename_i len e hk
        split at h
        · rename_i tj hj
          obtain ⟨z, hz, rfl⟩ := map_some h
          obtain ⟨h0, h1, rfl⟩ := lindex_ok hz
          refine ⟨in_ptr (of_ptr (ev_den hd hx).2), fun w => ?_⟩
          simp only [execOp]
          refine run_val ?_
          rw [(ev_den hd hx).1, (ev_den hd hix).1]
          simp only [LV.den, LA.den, LC.den, NE.plus_v, NE.lit_v, IE.lit_v]
          rw [run_indexAt_array (kind_array (tfacts hT ht) hk) (tfacts hT hj) _ _ h0 h1, add_add]
        · cases h
      · cases h
    · rename_i ti i o len esz cap k m ht hx hix
      split at h
      · rename_i e hk
        split at h
        · rename_i tj hj
          by_cases he : tj.size = esz
          · rw [if_pos he] at h
            obtain ⟨z, hz, rfl⟩ := map_some h
            obtain ⟨h0, h1, rfl⟩ := lindex_ok hz
            refine ⟨in_ptr (of_slice (ev_den hd hx).2), fun w => ?_⟩
            simp only [execOp]
            refine run_val ?_
            rw [(ev_den hd hx).1, (ev_den hd hix).1]
            simp only [LV.den, LA.den, LC.den, NE.plus_v, NE.lit_v, IE.lit_v]
            rw [run_indexAt_slice (kind_slice (tfacts hT ht) hk) (tfacts hT hj) _ _ h0 h1, add_add]
          · rw [if_neg he] at h; cases h
        · cases h
      · cases h
    · cases h
  | index t x ix =>
    simp only [lpure] at h
    split at h
    · rename_i ti xs k m ht hx hix
      split at h
      · rename_i len e hk
        split at h
        · rename_i tj hj
          by_cases hc : 0 ≤ m ∧ m < (len : Int)
          · rw [if_pos hc] at h
            obtain ⟨z, hz, rfl⟩ := map_some h
            obtain ⟨h1, h2⟩ := rdCells_ok (P := P) (η := η) (tfacts hT hj) hz (ev_den hd hx).2 default
            refine ⟨h1, fun w => ?_⟩
            simp only [execOp]
            refine run_val ?_
            rw [(ev_den hd hx).1, (ev_den hd hix).1]
            simp only [LV.den, LA.den, LC.den, IE.lit_v]
            unfold Instr.index
            have e1 : (asIntOf (.int k m)).run P w = .ok (k, m) w := rfl
            rw [Sem.run_bind, e1, Result.andThen_ok]
            simp only [Sem.run_bind, run_underlying' (kind_array (tfacts hT ht) hk), Result.andThen_ok, hc, and_self, if_true, (tfacts hT hj).sizeOf]
            exact (rdCells_ok (tfacts hT hj) hz (ev_den hd hx).2 w).2
          · rw [if_neg hc] at h; cases h
        · cases h
      · cases h
    · cases h
  | sliceToArrayPointer t x =>
    simp only [lpure] at h
    split at h
    · rename_i ti i o len esz cap ht hx
      split at h
      · rename_i m e hk
        by_cases hc : len < m
        · rw [if_pos hc] at h; cases h
        · rw [if_neg hc] at h
          obtain rfl := Option.some.inj h
          refine ⟨in_ptr (of_slice (ev_den hd hx).2), fun w => ?_⟩
          simp only [execOp]
          refine run_val ?_
          rw [(ev_den hd hx).1]
          unfold Instr.arrayAt
          rw [Sem.run_bind, run_underlying' (kind_array (tfacts hT ht) hk), Result.andThen_ok]
          simp only [LV.den, LA.den, LC.den, NE.lit_v, if_neg hc]; rfl
      · cases h
    · cases h
  | makeFunc fn first caps =>
    cases fn with
    | func f =>
      simp only [lpure] at h
      cases hf : first.isEmpty with
      | false => rw [hf] at h; cases h
      | true =>
        rw [hf] at h
        obtain ⟨l, hl, rfl⟩ := map_some h
        obtain ⟨h1, h2⟩ := capsL_ok hd hl
        refine ⟨in_cell (fun r hr => by simp only [LC.refs, List.mem_map] at hr; obtain ⟨p, hp, rfl⟩ := hr; exact h2 p hp), fun w => ?_⟩
        simp only [execOp]
        refine run_val ?_
        have e1 : first = #[] := by simpa using hf
        subst e1
        have e2 : caps.map a.eval = (l.map fun p => Value.pointer (some ((η p.1).addr.add p.2))).toArray := by
          rw [← h1, ← Array.toList_inj]; simp
        rw [e2]; simp [Instr.makeFunc, LV.den, LA.den, LC.den]
    | _ => simp [lpure] at h
  | call c =>
    obtain ⟨callee, args, argTypes⟩ := c
    simp only [lpure] at h
    split at h
    · rename_i x t hargs htys
      have e1 : args = #[x] := by rw [← Array.toList_inj, hargs]
      have e2 : argTypes = #[t] := by rw [← Array.toList_inj, htys]
      subst e1 e2
      split at h
      · rename_i ti i o len esz cap ht hx
        split at h
        · rename_i e hk
          obtain rfl := Option.some.inj h
          refine ⟨in_none rfl, fun w => ?_⟩
          simp [execOp, resolve, invoke, builtin, Builtin.len_, (ev_den hd hx).1, Sem.run_bind, run_underlying' (kind_slice (tfacts hT ht) hk), Result.andThen_ok, LV.den, LA.den, LC.den, IE.ofNE_v, goInt]
        · cases h
      · rename_i ti ht hx
        split at h
        · rename_i e hk
          obtain rfl := Option.some.inj h
          refine ⟨in_none rfl, fun w => ?_⟩
          simp [execOp, resolve, invoke, builtin, Builtin.len_, (ev_den hd hx).1, Sem.run_bind, run_underlying' (kind_slice (tfacts hT ht) hk), Result.andThen_ok, LV.den, LA.den, LC.den, IE.lit_v, goInt]
        · cases h
      · rename_i ti A cc ht hx
        split at h
        · rename_i e hk
          obtain rfl := Option.some.inj h
          refine ⟨in_none rfl, fun w => ?_⟩
          simp [execOp, resolve, invoke, builtin, Builtin.len_, (ev_den hd hx).1, Sem.run_bind, run_underlying' (kind_slice (tfacts hT ht) hk), Result.andThen_ok, LV.den, LA.den, LC.den, IE.lit_v, goInt]
        · cases h
      · cases h
    · rename_i x y hargs
      have e1 : args = #[x, y] := by rw [← Array.toList_inj, hargs]
      subst e1
      split at h
      · rename_i c d hx hy
        obtain ⟨r, hr, rfl⟩ := map_some h
        refine ⟨in_none (lmx_run (P := P) (η := η) hr default #[] 0).2, fun w => ?_⟩
        have h1 := (lmx_run (P := P) (η := η) hr w argTypes ty).1
        simp only [if_true] at h1
        simp [execOp, resolve, invoke, builtin, (ev_den hd hx).1, (ev_den hd hy).1, Sem.run_bind, LV.den, LA.den, h1, Result.andThen_ok]
      · cases h
    · rename_i x y hargs
      have e1 : args = #[x, y] := by rw [← Array.toList_inj, hargs]
      subst e1
      split at h
      · rename_i c d hx hy
        obtain ⟨r, hr, rfl⟩ := map_some h
        refine ⟨in_none (lmx_run (P := P) (η := η) hr default #[] 0).2, fun w => ?_⟩
        have h1 := (lmx_run (P := P) (η := η) hr w argTypes ty).1
        simp only [Bool.false_eq_true, if_false] at h1
        simp [execOp, resolve, invoke, builtin, (ev_den hd hx).1, (ev_den hd hy).1, Sem.run_bind, LV.den, LA.den, h1, Result.andThen_ok]
      · cases h
    · cases h
  | _ => simp [lpure] at h
end
end Go.Proofs.Ytbkcaedlijhnlaa.LB
