/- Aggregates, and slices, made of parts. -/
import Derived.Test.YtbkcaedlijhnlaaLM
namespace Go.Proofs.Ytbkcaedlijhnlaa.LB
open Go Go.RowKit
def lfill (place : Nat → Option (Nat × Nat)) (cells : List LC) : List (Nat × LA) → Option (List LC)
  | [] => some cells
  | (i, v) :: r => match place i with
    | none => none
    | some (off, size) => if v.cells.length = size then (if off + size ≤ cells.length then lfill place (setL cells off v.cells) r else none) else none
def lparts (env : Env) : List (Nat × Operand) → Option (List (Nat × LA))
  | [] => some []
  | (i, x) :: r => match ev env x with
    | some (.a v) => (lparts env r).map ((i, v) :: ·)
    | _ => none
def lplaces (tab : Tab) : List (Nat × Nat) → Option (List (Nat × Nat))
  | [] => some []
  | (off, t) :: r => match tyOf tab t with
    | some ti => (lplaces tab r).map ((off, ti.size) :: ·)
    | none => none
def zeroRow (z : List LC) (m : Nat) : List LC := (List.range m).map fun i => z.getD (i % z.length) .nilp
def lbuild (tab : Tab) (env : Env) (t : Nat) (parts : Array (Nat × Operand)) : Option LV :=
  match tyOf tab t, lparts env parts.toList with
  | some ti, some ps => match ti.kind with
    | .struct fs => match lplaces tab fs with
      | some pl => (lfill (fun i => pl[i]?) ti.zero ps).map fun xs => .a (.agg xs)
      | none => none
    | .array _ e => match tyOf tab e with
      | some tj => (lfill (fun i => some (i * tj.size, tj.size)) ti.zero ps).map fun xs => .a (.agg xs)
      | none => none
    | _ => none
  | _, _ => none
def lbuildSlice (tab : Tab) (env : Env) (t : Nat) (len : Nat) (parts : Array (Nat × Operand)) : Option (List LC × Nat × Nat) :=
  match tyOf tab t, lparts env parts.toList with
  | some ti, some ps => match ti.kind with
    | .slice e => match tyOf tab e with
      | some tj => if len * tj.size ≤ 16777216 ∧ tj.zero.length ≠ 0 then (lfill (fun i => some (i * tj.size, tj.size)) (zeroRow tj.zero (len * tj.size)) ps).map fun xs => (xs, e, tj.size) else none
      | none => none
    | _ => none
  | _, _ => none
section
variable {P : Program} {tab : Tab} {n : Nat} {F : Nat → Prop} {η : Eta} {env : Env} {a : Act} {H : LH} {w : World} {t : Nat} {ti : TI}
theorem foldl_put (off : Nat) : ∀ (vs : List Value) (k : Nat) (cs : Array Value), (vs.zipIdx k).foldl (fun cs p => cs.setIfInBounds (off + p.2) p.1) cs = putRow cs (off + k) vs
  | [], _, _ => rfl
  | v :: r, k, cs => by
    rw [List.zipIdx_cons, List.foldl_cons, foldl_put off r (k + 1), putRow, Nat.add_assoc]
theorem putRow_den {xs ys : List LC} {o : Nat} (h : o + ys.length ≤ xs.length) : putRow (xs.map (LC.den η)).toArray o (ys.map (LC.den η)) = ((setL xs o ys).map (LC.den η)).toArray := by
  apply Array.ext_getElem?
  intro j
  have hsz : (xs.map (LC.den η)).toArray.size = xs.length := by simp
  have hr : ((setL xs o ys).map (LC.den η)).toArray[j]? = ((setL xs o ys)[j]?).map (LC.den η) := by simp
  rw [hr]
  rcases Nat.lt_or_ge j o with h1 | h1
  · rw [putRow_out _ _ _ _ (.inl h1)]
    unfold setL
    rw [List.getElem?_append_left (by simp; omega), List.getElem?_take, if_pos h1]
    simp
  · rcases Nat.lt_or_ge (j - o) ys.length with h2 | h2
    · have h3 := putRow_in (ys.map (LC.den η)) (xs.map (LC.den η)).toArray o (j - o) (by simp; omega) (by simp; omega)
      rw [show o + (j - o) = j by omega] at h3
      rw [h3]
      unfold setL
      rw [List.getElem?_append_right (by simp; omega)]
      have e : (xs.take o).length = o := by simp; omega
      rw [e, List.getElem?_append_left h2]; simp
    · rw [putRow_out _ _ _ _ (.inr (by simp only [List.length_map]; omega))]
      unfold setL
      rw [List.getElem?_append_right (by simp; omega)]
      have e : (xs.take o).length = o := by simp; omega
      rw [e, List.getElem?_append_right h2, List.getElem?_drop, show o + ys.length + (j - o - ys.length) = j by omega]
      simp
theorem setL_mem {xs ys : List LC} {o : Nat} {c : LC} (h : c ∈ setL xs o ys) : c ∈ xs ∨ c ∈ ys := by
  unfold setL at h
  simp only [List.mem_append] at h
  rcases h with h | h | h
  · exact .inl (List.mem_of_mem_take h)
  · exact .inr h
  · exact .inl (List.mem_of_mem_drop h)
theorem lfill_den {place : Nat → Option (Nat × Nat)} : ∀ {ps : List (Nat × LA)} {cells xs : List LC}, lfill place cells ps = some xs →
    Instr.fill place (cells.map (LC.den η)).toArray (ps.map fun p => (p.1, p.2.den η)) = some (xs.map (LC.den η)).toArray ∧ ∀ c ∈ xs, c ∈ cells ∨ ∃ p ∈ ps, c ∈ p.2.cells
  | [], cells, xs, h => by
    simp only [lfill] at h
    obtain rfl := Option.some.inj h
    exact ⟨rfl, fun c hc => .inl hc⟩
  | (i, v) :: r, cells, xs, h => by
    simp only [lfill] at h
    cases hp : place i with
    | none => rw [hp] at h; cases h
    | some q =>
      obtain ⟨off, size⟩ := q
      rw [hp] at h
      simp only at h
      by_cases h1 : v.cells.length = size
      · rw [if_pos h1] at h
        by_cases h2 : off + size ≤ cells.length
        · rw [if_pos h2] at h
          obtain ⟨h3, h4⟩ := lfill_den h
          refine ⟨?_, fun c hc => ?_⟩
          · simp only [List.map_cons, Instr.fill, hp]
            have e1 : (v.den η).cells = (v.cells.map (LC.den η)).toArray := LA.den_cells η v
            rw [e1]
            have e2 : ((v.cells.map (LC.den η)).toArray.size ≠ size || off + (v.cells.map (LC.den η)).toArray.size > (cells.map (LC.den η)).toArray.size) = false := by
              simp; omega
            rw [e2]
            simp only [Bool.false_eq_true, if_false]
            have e3 : (v.cells.map (LC.den η)).toArray.zipIdx.foldl (fun cs (x : Value × Nat) => cs.setIfInBounds (off + x.2) x.1) (cells.map (LC.den η)).toArray = ((setL cells off v.cells).map (LC.den η)).toArray := by
              rw [← putRow_den (by omega), ← Array.foldl_toList, Array.toList_zipIdx]
              have h5 := foldl_put off (v.cells.map (LC.den η)) 0 (cells.map (LC.den η)).toArray
              rw [Nat.add_zero] at h5
              exact h5
            rw [e3]
            exact h3
          · rcases h4 c hc with h5 | ⟨p, hp', hc'⟩
            · rcases setL_mem h5 with h6 | h6
              · exact .inl h6
              · exact .inr ⟨(i, v), by simp, h6⟩
            · exact .inr ⟨p, by simp [hp'], hc'⟩
        · rw [if_neg h2] at h; cases h
      · rw [if_neg h1] at h; cases h
theorem lparts_den (hd : Den n F η env a) : ∀ {l : List (Nat × Operand)} {ps : List (Nat × LA)}, lparts env l = some ps → (l.map fun p => (p.1, a.eval p.2)) = (ps.map fun p => (p.1, p.2.den η)) ∧ ∀ p ∈ ps, p.2.In F
  | [], ps, h => by
    simp only [lparts] at h
    obtain rfl := Option.some.inj h
    exact ⟨rfl, fun p hp => by cases hp⟩
  | (i, x) :: r, ps, h => by
    simp only [lparts] at h
    split at h
    · rename_i v hx
      obtain ⟨q, hq, rfl⟩ := map_some h
      obtain ⟨h1, h2⟩ := lparts_den hd hq
      obtain ⟨h3, h4⟩ := ev_den hd hx
      refine ⟨by simp only [List.map_cons, h1, h3]; rfl, fun p hp => ?_⟩
      rcases List.mem_cons.1 hp with rfl | hp
      · exact h4
      · exact h2 p hp
    · cases h
theorem run_places (hT : TOk P tab) : ∀ {gs : List Field} {pl : List (Nat × Nat)}, lplaces tab (gs.map fun f => (f.offset, f.type)) = some pl →
    (gs.mapM (fun f => do pure (f.offset, ← sizeOf f.type) : Field → Sem (Nat × Nat))).run P w = .ok pl w
  | [], pl, h => by
    simp only [List.map_nil, lplaces] at h
    obtain rfl := Option.some.inj h
    rfl
  | g :: r, pl, h => by
    simp only [List.map_cons, lplaces] at h
    split at h
    · rename_i ti ht
      obtain ⟨q, hq, rfl⟩ := map_some h
      rw [List.mapM_cons, Sem.run_bind, Sem.run_bind, (tfacts hT ht).sizeOf, Result.andThen_ok, Sem.run_pure, Result.andThen_ok, Sem.run_bind, run_places hT hq, Result.andThen_ok]; rfl
    · cases h
theorem lbuild_run (hT : TOk P tab) (hd : Den n F η env a) {parts : Array (Nat × Operand)} {v : LV} (h : lbuild tab env t parts = some v) :
    v.In F ∧ (Instr.build t (parts.map fun (i, x) => (i, a.eval x))).run P w = .ok (v.den η) w := by
  unfold lbuild at h
  split at h
  · rename_i ti ps ht hps
    obtain ⟨h1, h2⟩ := lparts_den hd hps
    have F' := tfacts hT ht
    obtain ⟨z, hz, hzc, hzn⟩ := F'.zeroValue (w := w) η
    have e0 : (parts.map fun (x : Nat × Operand) => (x.1, a.eval x.2)).toList = ps.map fun p => (p.1, p.2.den η) := by
      rw [← h1]; simp
    have hin : ∀ {xs : List LC}, (∀ c ∈ xs, c ∈ ti.zero ∨ ∃ p ∈ ps, c ∈ p.2.cells) → (LV.a (.agg xs)).In F := by
      intro xs hx c hc
      rcases hx c hc with h3 | ⟨p, hp, h3⟩
      · intro r hr; rw [hzn c h3] at hr; cases hr
      · exact h2 p hp c h3
    split at h
    · rename_i fs hk
      split at h
      · rename_i pl hpl
        obtain ⟨xs, hx, rfl⟩ := map_some h
        obtain ⟨h3, h4⟩ := lfill_den (η := η) hx
        refine ⟨hin h4, ?_⟩
        obtain ⟨gs, hu, rfl⟩ := kind_struct F' hk
        unfold Instr.build
        rw [Sem.run_bind, hz, Result.andThen_ok, Sem.run_bind, run_underlying' hu, Result.andThen_ok]
        simp only [hzc]
        have e1 : (gs.mapM (fun f => do pure (f.offset, ← sizeOf f.type) : Field → Sem (Nat × Nat))).run P w = .ok pl.toArray w := by
          rw [Array.mapM_eq_mapM_toList, Sem.run_map, run_places hT hpl]; rfl
        rw [Sem.run_bind, e1, Result.andThen_ok]
        have e2 : Instr.fill (fun x => pl.toArray[x]?) (ti.zero.map (LC.den η)).toArray (parts.map fun (x : Nat × Operand) => (x.1, a.eval x.2)).toList = some (xs.map (LC.den η)).toArray := by
          rw [e0, ← h3]; congr 1; funext i; simp
        simp only [e2]; rfl
      · cases h
    · rename_i m e hk
      split at h
      · rename_i tj hj
        obtain ⟨xs, hx, rfl⟩ := map_some h
        obtain ⟨h3, h4⟩ := lfill_den (η := η) hx
        refine ⟨hin h4, ?_⟩
        have hu := kind_array F' hk
        unfold Instr.build
        rw [Sem.run_bind, hz, Result.andThen_ok, Sem.run_bind, run_underlying' hu, Result.andThen_ok]
        simp only [hzc]
        rw [Sem.run_bind, (tfacts hT hj).sizeOf, Result.andThen_ok]
        rw [← e0] at h3
        simp only [h3]; rfl
      · cases h
    · cases h
  · cases h
theorem run_zeroCells {z : List LC} (hz : z.length ≠ 0) (m : Nat) : (Array.range m).map (fun i => (z.map (LC.den η)).toArray[i % (z.map (LC.den η)).toArray.size]!) = ((zeroRow z m).map (LC.den η)).toArray := by
  rw [← Array.toList_inj]
  simp only [zeroRow, Array.toList_map, Array.toList_range, List.map_map]
  refine List.map_congr_left fun i _ => ?_
  have hlt : i % z.length < z.length := Nat.mod_lt _ (by omega)
  simp [Function.comp, hlt, List.getD_eq_getElem?_getD]
theorem zeroRow_mem {z : List LC} {m : Nat} (hz : z.length ≠ 0) {c : LC} (h : c ∈ zeroRow z m) : c ∈ z := by
  simp only [zeroRow, List.mem_map] at h
  obtain ⟨i, _, rfl⟩ := h
  have hlt : i % z.length < z.length := Nat.mod_lt _ (by omega)
  rw [List.getD_eq_getElem?_getD, List.getElem?_eq_getElem hlt]
  exact List.getElem_mem hlt
theorem OpTo.buildSlice (hT : TOk P tab) (hs : Sim (· < H.length) η H w) (hd : Den n (· < H.length) η env a) {o : Oper} {len : Nat} {parts : Array (Nat × Operand)} (ho : o.op = .buildSlice t len parts)
    {xs : List LC} {e sz : Nat} (h : lbuildSlice tab env t len parts = some (xs, e, sz)) (hlen : xs.length = len * sz) (hsz : sz ≠ 0) :
    OpTo P o a η H w (.a (.c (.slice H.length (.lit 0) (.lit len) sz none))) (H ++ [some ⟨xs, true, e, false⟩]) := by
  unfold lbuildSlice at h
  split at h
  · rename_i ti ps ht hps
    split at h
    · rename_i e' hk
      split at h
      · rename_i tj hj
        by_cases hc : len * tj.size ≤ 16777216 ∧ tj.zero.length ≠ 0
        · rw [if_pos hc] at h
          obtain ⟨ys, hx, he⟩ := map_some h
          simp only [Prod.mk.injEq] at he
          obtain ⟨rfl, rfl, rfl⟩ := he
          obtain ⟨h1, h2⟩ := lparts_den hd hps
          obtain ⟨h3, h4⟩ := lfill_den (η := η) hx
          have F' := tfacts hT hj
          obtain ⟨z, hz, hzc, hzn⟩ := F'.zeroValue (w := w) η
          have e0 : (parts.map fun (x : Nat × Operand) => (x.1, a.eval x.2)).toList = ps.map fun p => (p.1, p.2.den η) := by
            rw [← h1]; simp
          have hin : ∀ c ∈ ys, c.In (· < H.length) := by
            intro c hc'
            rcases h4 c hc' with h5 | ⟨p, hp, h5⟩
            · intro r hr; rw [hzn c (zeroRow_mem hc.2 h5)] at hr; cases hr
            · exact h2 p hp c h5
          refine ⟨_, _, Ext.fresh hs (d := ⟨ys, true, e', false⟩) hin (Nat.le_refl _) (cs := (ys.map (LC.den η)).toArray) (by simp) (fun j c hj => cells_get hj), in_cell (fun r hr => by simp only [LC.refs, List.mem_singleton] at hr; subst hr; simp), .inl ?_⟩
          have e : execOp a.eval o = (do Pure.pure (Next.value (← Instr.buildSlice t len (parts.map fun (i, x) => (i, a.eval x)))) : Sem Next) := by simp only [execOp, ho]
          rw [e]
          refine run_val ?_
          unfold Instr.buildSlice
          rw [Sem.run_bind, run_underlying' (kind_slice (tfacts hT ht) hk), Result.andThen_ok]
          simp only
          rw [Sem.run_bind, F'.sizeOf, Result.andThen_ok]
          have hle : ¬ (len * tj.size > 2 ^ 24) := by have := hc.1; omega
          rw [if_neg hle]
          have hrow : ∀ (cs : Array Value) (w : World), (newRow e' cs).run P w = .ok ⟨w.heap.size, 0, none⟩ (w.alloc (.cells cs e')) := fun _ _ => rfl
          have hden : (LV.a (.c (.slice H.length (.lit 0) (.lit len) tj.size none))).den (upd η H.length ⟨⟨w.heap.size, 0, none⟩, ys.length⟩) = .slice (some ⟨w.heap.size, 0, none⟩) len len := by
            simp only [LV.den, LA.den, LC.den, upd_self, NE.lit_v, Option.getD_none, Nat.sub_zero]
            rw [hlen, Nat.mul_div_cancel _ (Nat.pos_of_ne_zero hsz)]
            simp [Addr.add]
          by_cases h0 : len * tj.size = 0
          · rw [if_pos h0, Sem.run_bind, Sem.run_pure, Result.andThen_ok]
            have e3 : (Array.range (len * tj.size)).map (fun x => (#[] : Array Value)[x % (#[] : Array Value).size]!) = ((zeroRow tj.zero (len * tj.size)).map (LC.den η)).toArray := by
              rw [h0]; simp [zeroRow]
            rw [e3, e0]
            simp only [h3]
            rw [Sem.run_bind, hrow, Result.andThen_ok, hden]; rfl
          · rw [if_neg h0, Sem.run_bind, hz, Result.andThen_ok, Sem.run_bind, Sem.run_pure, Result.andThen_ok, hzc, run_zeroCells hc.2, e0]
            simp only [h3]
            rw [Sem.run_bind, hrow, Result.andThen_ok, hden]; rfl
        · rw [if_neg hc] at h; cases h
      · cases h
    · cases h
  · cases h
/-! ### slices of slices, of arrays -/
/-- low, high (or none), max (or none) as literals -/
def litNat (env : Env) (x : Operand) : Option Nat :=
  match ev env x with
  | some (.a (.c (.int _ (.lit n)))) => if 0 ≤ n then some n.toNat else none
  | _ => none
def bndL (env : Env) (d : Nat) (x : Option Operand) : Option Nat :=
  match x with
  | none => some d
  | some y => litNat env y
def roomOk (H : LH) (i : Nat) (o : NE) (L esz : Nat) (cap : Option Nat) : Bool :=
  match cap with
  | some c => decide (L ≤ c)
  | none => match o, H[i]? with
    | .lit o, some (some b) => cond b.sym false (decide (o + L * esz ≤ b.cells.length))
    | _, _ => false
def lsliceV (tab : Tab) (env : Env) (H : LH) (t : Nat) (x : Operand) (lo hi mx : Option Operand) : Option LC :=
  match tyOf tab t, ev env x with
  | some ti, some (.a (.c (.ptr i o))) => match ti.kind, mx with
    | .array m e, none => match tyOf tab e, bndL env 0 lo, bndL env m hi with
      | some tj, some l, some h => if l ≤ h ∧ h ≤ m ∧ l < m then some (.slice i (NE.plus o (.lit (l * tj.size))) (.lit (h - l)) tj.size (some (m - l))) else none
      | _, _, _ => none
    | _, _ => none
  | some ti, some (.a (.c (.slice i o (.lit L) esz cap))) => match ti.kind, mx with
    | .slice e, none => match tyOf tab e, bndL env 0 lo, bndL env L hi with
      | some tj, some l, some h => if tj.size = esz ∧ esz ≠ 0 ∧ l ≤ h ∧ h ≤ L ∧ (l < L ∨ l = 0) ∧ roomOk H i o L esz cap = true then some (.slice i (NE.plus o (.lit (l * esz))) (.lit (h - l)) esz (cap.map (· - l))) else none
      | _, _, _ => none
    | _, _ => none
  | _, _ => none
/-- What the number of elements up to the end of the block is, at least. -/
def capV (η : Eta) (i : Nat) (o : NE) (esz : Nat) (cap : Option Nat) : Nat := cap.getD (((η i).cap - o.v) / esz)
theorem litNat_ok (hd : Den n F η env a) {x : Operand} {m : Nat} (h : litNat env x = some m) : ∃ k, a.eval x = .int k (m : Int) := by
  unfold litNat at h
  split at h
  · rename_i k z hx
    by_cases h0 : 0 ≤ z
    · rw [if_pos h0] at h
      obtain rfl := Option.some.inj h
      refine ⟨k, ?_⟩
      rw [(ev_den hd hx).1]
      simp only [LV.den, LA.den, LC.den, IE.lit_v]
      congr 1; omega
    · rw [if_neg h0] at h; cases h
  · cases h
theorem run_sliceBound {k : IntKind} {m y : Nat} (h : m ≤ y) (c : BoundsCode) : (Instr.sliceBound (.int k (m : Int)) y c).run P w = .ok m w := by
  unfold Instr.sliceBound
  have e1 : (asIntOf (.int k (m : Int))).run P w = .ok (k, (m : Int)) w := rfl
  rw [Sem.run_bind, e1, Result.andThen_ok]
  have h1 : 0 ≤ (m : Int) ∧ (m : Int) ≤ (y : Int) := ⟨by omega, by omega⟩
  simp [h1, h]
def Bnd (v : Option Value) (d m : Nat) : Prop := (v = none ∧ m = d) ∨ ∃ k, v = some (.int k (m : Int))
theorem run_sliceBounds {isSlice : Bool} {len cap l h : Nat} {lo hi : Option Value} (hl : Bnd lo 0 l) (hh : Bnd hi len h) (h1 : l ≤ h) (h2 : h ≤ cap) : (Instr.sliceBounds isSlice len cap lo hi none).run P w = .ok (l, h, cap) w := by
  unfold Instr.sliceBounds
  rw [Sem.run_bind, Sem.run_pure, Result.andThen_ok]
  rcases hh with ⟨rfl, rfl⟩ | ⟨k, rfl⟩
  · rw [Sem.run_bind, Sem.run_pure, Result.andThen_ok]
    rcases hl with ⟨rfl, rfl⟩ | ⟨k', rfl⟩
    · rw [Sem.run_bind, Sem.run_pure, Result.andThen_ok]; rfl
    · rw [Sem.run_bind, run_sliceBound h1, Result.andThen_ok]; rfl
  · rw [Sem.run_bind, run_sliceBound h2, Result.andThen_ok]
    rcases hl with ⟨rfl, rfl⟩ | ⟨k', rfl⟩
    · rw [Sem.run_bind, Sem.run_pure, Result.andThen_ok]; rfl
    · rw [Sem.run_bind, run_sliceBound h1, Result.andThen_ok]; rfl
theorem bnd_of (hd : Den n F η env a) {x : Option Operand} {d m : Nat} (h : bndL env d x = some m) : Bnd (x.map a.eval) d m := by
  cases x with
  | none => exact .inl ⟨rfl, (Option.some.inj h).symm⟩
  | some y =>
    obtain ⟨k, hk⟩ := litNat_ok hd h
    exact .inr ⟨k, by simp [hk]⟩
theorem roomOk_ok (hs : Sim F η H w) {i : Nat} {o : NE} {L esz : Nat} {cap : Option Nat} (h : roomOk H i o L esz cap = true) (h0 : esz ≠ 0) : L ≤ capV η i o esz cap := by
  unfold roomOk at h
  unfold capV
  cases cap with
  | some c => simpa using h
  | none =>
    simp only at h
    split at h
    · rename_i o' b hb
      cases hsy : b.sym with
      | true => rw [hsy] at h; cases h
      | false =>
        rw [hsy] at h
        simp only [cond_false, decide_eq_true_eq] at h
        have h1 := hs.room i b hb
        simp only [Option.getD_none, NE.lit_v]
        rw [Nat.le_div_iff_mul_le (Nat.pos_of_ne_zero h0)]
        omega
    · cases h
theorem lsliceV_run (hT : TOk P tab) (hs : Sim F η H w) (hd : Den n F η env a) {x : Operand} {lo hi mx : Option Operand} {c : LC} (h : lsliceV tab env H t x lo hi mx = some c) :
    (LV.a (.c c)).In F ∧ (Instr.sliceAt t (a.eval x) (lo.map a.eval) (hi.map a.eval) (mx.map a.eval)).run P w = .ok (c.den η) w := by
  unfold lsliceV at h
  split at h
  · rename_i ti i o ht hx
    split at h
    · rename_i m e hk
      split at h
      · rename_i tj l hh hj hl hhi
        by_cases hc : l ≤ hh ∧ hh ≤ m ∧ l < m
        · rw [if_pos hc] at h
          obtain rfl := Option.some.inj h
          refine ⟨in_cell (fun r hr => by simp only [LC.refs, List.mem_singleton] at hr; subst hr; exact of_ptr (ev_den hd hx).2), ?_⟩
          rw [(ev_den hd hx).1]
          unfold Instr.sliceAt
          rw [Sem.run_bind, run_underlying' (kind_array (tfacts hT ht) hk), Result.andThen_ok]
          simp only [LV.den, LA.den, LC.den, NE.plus_v, NE.lit_v, Option.getD_some, Option.map_none]
          have e1 : (Instr.sureAddr (.pointer (some ((η i).addr.add o.v)))).run P w = .ok ((η i).addr.add o.v) w := rfl
          rw [Sem.run_bind, e1, Result.andThen_ok, Sem.run_bind, run_sliceBounds (bnd_of hd hl) (bnd_of hd hhi) hc.1 hc.2.1, Result.andThen_ok, Sem.run_bind, (tfacts hT hj).sizeOf, Result.andThen_ok]
          have hne : ¬ (m = l) := by omega
          simp only [if_neg hne, add_add]; rfl
        · rw [if_neg hc] at h; cases h
      · cases h
    · cases h
  · rename_i ti i o L esz cap ht hx
    split at h
    · rename_i e hk
      split at h
      · rename_i tj l hh hj hl hhi
        by_cases hc : tj.size = esz ∧ esz ≠ 0 ∧ l ≤ hh ∧ hh ≤ L ∧ (l < L ∨ l = 0) ∧ roomOk H i o L esz cap = true
        · rw [if_pos hc] at h
          obtain rfl := Option.some.inj h
          obtain ⟨h1, h2, h3, h4, h5, h6⟩ := hc
          have h7 := roomOk_ok hs h6 h2
          refine ⟨in_cell (fun r hr => by simp only [LC.refs, List.mem_singleton] at hr; subst hr; exact of_slice (ev_den hd hx).2), ?_⟩
          rw [(ev_den hd hx).1]
          unfold Instr.sliceAt
          rw [Sem.run_bind, run_underlying' (kind_slice (tfacts hT ht) hk), Result.andThen_ok]
          simp only [LV.den, LA.den, LC.den, NE.plus_v, NE.lit_v, Option.map_none]
          unfold Instr.slice
          rw [Sem.run_bind, run_underlying' (kind_slice (tfacts hT ht) hk), Result.andThen_ok]
          simp only
          have h8 : hh ≤ cap.getD (((η i).cap - o.v) / esz) := Nat.le_trans h4 h7
          rw [Sem.run_bind, run_sliceBounds (bnd_of hd hl) (bnd_of hd hhi) h3 h8, Result.andThen_ok, Sem.run_bind, (tfacts hT hj).sizeOf, Result.andThen_ok, h1]
          have hcap : (cap.map (· - l)).getD (((η i).cap - (o.v + l * esz)) / esz) = cap.getD (((η i).cap - o.v) / esz) - l := by
            cases cap with
            | some c => rfl
            | none =>
              simp only [Option.map_none, Option.getD_none]
              rw [show (η i).cap - (o.v + l * esz) = (η i).cap - o.v - l * esz by omega, Nat.mul_comm l esz, Nat.sub_mul_div]
          rw [hcap]
          by_cases hne : cap.getD (((η i).cap - o.v) / esz) = l
          · have hl0 : l = 0 := by
              rcases h5 with h5 | h5
              · have h7' : L ≤ cap.getD (((η i).cap - o.v) / esz) := h7
                omega
              · exact h5
            subst hl0
            simp only [if_pos hne, Nat.zero_mul, Nat.add_zero, Sem.run_pure]
          · simp only [if_neg hne, Option.map_some, add_add, Sem.run_pure]
        · rw [if_neg hc] at h; cases h
      · cases h
    · cases h
  · cases h
end
end Go.Proofs.Ytbkcaedlijhnlaa.LB
