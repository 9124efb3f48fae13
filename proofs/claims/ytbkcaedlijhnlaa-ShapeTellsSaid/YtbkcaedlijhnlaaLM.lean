/- The operations with memory. -/
import Derived.Test.YtbkcaedlijhnlaaLP
namespace Go.Proofs.Ytbkcaedlijhnlaa.LB
open Go Go.RowKit
def rdH (H : LH) (i o n : Nat) : Option (List LC) :=
  match H[i]? with
  | some (some b) => cond b.sym none (if o + n ≤ b.cells.length then some ((b.cells.drop o).take n) else none)
  | _ => none
def asVar (ti : TI) (xs : List LC) : Option LA :=
  match ti.kind.agg with
  | true => some (.agg xs)
  | false => match xs with
    | [c] => some (.c c)
    | _ => none
def setL (xs : List LC) (o : Nat) (ys : List LC) : List LC := xs.take o ++ (ys ++ xs.drop (o + ys.length))
section
variable {P : Program} {tab : Tab} {n : Nat} {F : Nat → Prop} {η : Eta} {env : Env} {a : Act} {H : LH} {w : World} {t : Nat} {ti : TI}
theorem rdH_ok {i o m : Nat} {xs : List LC} (h : rdH H i o m = some xs) : ∃ b, H[i]? = some (some b) ∧ o + m ≤ b.cells.length ∧ xs = (b.cells.drop o).take m := by
  unfold rdH at h
  split at h
  · rename_i b hb
    cases hs : b.sym with
    | true => rw [hs] at h; cases h
    | false =>
      rw [hs] at h
      simp only [cond_false] at h
      by_cases hc : o + m ≤ b.cells.length
      · rw [if_pos hc] at h; exact ⟨b, hb, hc, (Option.some.inj h).symm⟩
      · rw [if_neg hc] at h; cases h
  · cases h
/-- Some cells, as they stand in the world from A on. -/
def Lies (w : World) (η : Eta) (A : Addr) (xs : List LC) : Prop := ∀ (j : Nat) (c : LC), xs[j]? = some c → w.cell? (A.add j) = some (c.den η)
theorem Sim.lies (h : Sim F η H w) {i : Nat} {b : LBlk} (hb : H[i]? = some (some b)) (o m : Nat) : Lies w η ((η i).addr.add o) ((b.cells.drop o).take m) := by
  intro j c hj
  rw [List.getElem?_take] at hj
  by_cases hlt : j < m
  · rw [if_pos hlt, List.getElem?_drop] at hj
    rw [add_add]; exact h.cell i b hb (o + j) c hj
  · rw [if_neg hlt] at hj; cases hj
theorem run_load {A : Addr} {v : Value} (h : w.cell? A = some v) : (load A).run P w = .ok v w := by
  unfold load; simp [Sem.run, h]
theorem run_loadCellsFrom {A : Addr} : ∀ (xs : List LC) (i : Nat) (acc : Array Value), (∀ (j : Nat) (c : LC), xs[j]? = some c → w.cell? (A.add (i + j)) = some (c.den η)) →
    (loadCellsFrom A i xs.length acc).run P w = .ok (acc ++ (xs.map (LC.den η)).toArray) w
  | [], i, acc, _ => by simp [loadCellsFrom]
  | c :: r, i, acc, h => by
    have h0 := h 0 c rfl
    rw [Nat.add_zero] at h0
    simp only [List.length_cons, loadCellsFrom]
    rw [Sem.run_bind, run_load h0, Result.andThen_ok, run_loadCellsFrom r (i + 1) _ (fun j d hj => by rw [show i + 1 + j = i + (j + 1) by omega]; exact h (j + 1) d hj)]
    simp
theorem run_loadCells {A : Addr} {xs : List LC} (h : Lies w η A xs) {m : Nat} (hm : m = xs.length) : (loadCells A m).run P w = .ok (xs.map (LC.den η)).toArray w := by
  subst hm
  unfold loadCells
  rw [run_loadCellsFrom (η := η) xs 0 #[] (fun j c hj => by rw [Nat.zero_add]; exact h j c hj)]
  simp
theorem run_loadVar (hF : TFacts P t ti) {A : Addr} {xs : List LC} (h : Lies w η A xs) (hl : xs.length = ti.size) {x : LA} (hx : asVar ti xs = some x) : (loadVar t A).run P w = .ok (x.den η) w := by
  have hA := hF.isAgg (w := w)
  unfold asVar at hx
  unfold loadVar
  cases hk : ti.kind.agg with
  | true =>
    rw [hk] at hx hA
    obtain rfl := Option.some.inj hx
    rw [Sem.run_bind, hA, Result.andThen_ok]
    simp only [if_true]
    rw [Sem.run_bind, hF.sizeOf, Result.andThen_ok, Sem.run_bind, run_loadCells h hl.symm, Result.andThen_ok]
    rfl
  | false =>
    rw [hk] at hx hA
    simp only at hx
    split at hx
    · rename_i c
      obtain rfl := Option.some.inj hx
      rw [Sem.run_bind, hA, Result.andThen_ok]
      simp only [Bool.false_eq_true, if_false]
      have h0 := h 0 c rfl
      have e : A.add 0 = A := by simp [Addr.add]
      rw [e] at h0
      exact run_load h0
    · cases hx
theorem asVar_cells {xs : List LC} {x : LA} (hx : asVar ti xs = some x) : x.cells = xs := by
  unfold asVar at hx
  split at hx
  · obtain rfl := Option.some.inj hx; rfl
  · split at hx
    · obtain rfl := Option.some.inj hx; rfl
    · cases hx
theorem run_loadAt (hF : TFacts P t ti) {A : Addr} {xs : List LC} (h : Lies w η A xs) (hl : xs.length = ti.size) {x : LA} (hx : asVar ti xs = some x) : (Instr.loadAt t (.pointer (some A))).run P w = .ok (x.den η) w := by
  unfold Instr.loadAt
  have e1 : (Instr.sureAddr (.pointer (some A))).run P w = .ok A w := rfl
  rw [Sem.run_bind, e1, Result.andThen_ok]
  exact run_loadVar hF h hl hx
/-! a store -/
theorem setL_length {xs ys : List LC} {o : Nat} (h : o + ys.length ≤ xs.length) : (setL xs o ys).length = xs.length := by
  unfold setL
  simp only [List.length_append, List.length_take, List.length_drop]
  omega
theorem setL_get {xs ys : List LC} {o j : Nat} {c : LC} (h : o + ys.length ≤ xs.length) (hj : (setL xs o ys)[j]? = some c) : (o ≤ j ∧ ys[j - o]? = some c) ∨ ((j < o ∨ o + ys.length ≤ j) ∧ xs[j]? = some c) := by
  unfold setL at hj
  rcases Nat.lt_or_ge j o with h1 | h1
  · right
    rw [List.getElem?_append_left (by simp; omega), List.getElem?_take, if_pos h1] at hj
    exact ⟨.inl h1, hj⟩
  · rw [List.getElem?_append_right (by simp; omega)] at hj
    have e : (xs.take o).length = o := by simp; omega
    rw [e] at hj
    rcases Nat.lt_or_ge (j - o) ys.length with h2 | h2
    · left
      rw [List.getElem?_append_left h2] at hj
      exact ⟨h1, hj⟩
    · right
      rw [List.getElem?_append_right h2, List.getElem?_drop] at hj
      refine ⟨.inr (by omega), ?_⟩
      rw [show o + ys.length + (j - o - ys.length) = j by omega] at hj
      exact hj
theorem heap_lt {g : Nat} {o : Obj} (h : w.heap[g]? = some o) : g < w.heap.size := by
  rcases Nat.lt_or_ge g w.heap.size with h1 | h1
  · exact h1
  · rw [Array.getElem?_eq_none h1] at h; cases h
theorem Kept.setRow {O : Nat → Prop} {g : Nat} {cs : Array Value} {ty : TypeId} (hO : O g) : Kept O w (World.setRow w g cs ty) :=
  ⟨rfl, rfl, rfl, Nat.le_of_eq setRow_size.symm, fun b _ hb => setRow_ne (fun e => hb (e ▸ hO))⟩
theorem run_storeVar (hF : TFacts P t ti) {A : Addr} {cs : Array Value} {ty : TypeId} (h : w.heap[A.block]? = some (.cells cs ty (0, 0))) (hs : A.spot = none) {x : LA} (hl : x.cells.length = ti.size) (hroom : A.off + x.cells.length ≤ cs.size) :
    (storeVar t A (x.den η)).run P w = .ok () (World.setRow w A.block (putRow cs A.off (x.cells.map (LC.den η))) ty) := by
  unfold storeVar
  rw [Sem.run_bind, hF.sizeOf, Result.andThen_ok, LA.den_cells]
  have e : ¬ ((x.cells.map (LC.den η)).toArray.size ≠ ti.size) := by simp [hl]
  rw [if_neg e]
  have h1 := run_storeCells (P := P) hs (x.cells.map (LC.den η)) 0 w cs h (by simp only [List.length_map]; omega) (fun v hv => by obtain ⟨c, _, rfl⟩ := List.mem_map.1 hv; exact LC.den_plain η c)
  rw [Nat.add_zero] at h1
  exact h1
/-! ### load, store, alloc, box -/
theorem OpTo.load (hT : TOk P tab) (hs : Sim (· < H.length) η H w) {o : Oper} {x : Operand} (ho : o.op = .load t x) (ht : tyOf tab t = some ti) {i : Nat} {off : NE} (hx : a.eval x = .pointer (some ((η i).addr.add off.v)))
    {b : LBlk} (hb : H[i]? = some (some b)) {xs : List LC} (hxs : xs = (b.cells.drop off.v).take ti.size) (hr : off.v + ti.size ≤ b.cells.length) {v : LA} (hv : asVar ti xs = some v) : OpTo P o a η H w (.a v) H := by
  refine OpTo.pure hs ?_ ?_
  · show v.In _
    intro c hc
    rw [asVar_cells hv, hxs] at hc
    exact (hs.inn i b hb).2 c (List.mem_of_mem_drop (List.mem_of_mem_take hc))
  · have F := tfacts hT ht
    have e : execOp a.eval o = (do Pure.pure (Next.value (← Instr.loadAt t (a.eval x))) : Sem Next) := by simp only [execOp, ho]
    rw [e, hx]
    refine run_val ?_
    refine run_loadAt F (xs := xs) (hxs ▸ hs.lies hb off.v ti.size) ?_ hv
    rw [hxs]; simp only [List.length_take, List.length_drop]; omega
theorem OpTo.store (hT : TOk P tab) (hs : Sim (· < H.length) η H w) {o : Oper} {x y : Operand} (ho : o.op = .store t x y) (ht : tyOf tab t = some ti) {i : Nat} {off : NE} (hx : a.eval x = .pointer (some ((η i).addr.add off.v)))
    {v : LA} (hy : a.eval y = v.den η) (hv : v.In (· < H.length)) {b : LBlk} (hb : H[i]? = some (some b)) (hown : b.own = true) (hl : v.cells.length = ti.size) (hr : off.v + ti.size ≤ b.cells.length) :
    OpTo P o a η H w (.tup []) (H.set i (some { b with cells := setL b.cells off.v v.cells })) := by
  obtain ⟨cs, h1, h2, h3, h4⟩ := hs.own i b hb hown
  have hi : i < H.length := (hs.inn i b hb).1
  have hlen : (H.set i (some { b with cells := setL b.cells off.v v.cells })).length = H.length := by simp
  have hsl : (setL b.cells off.v v.cells).length = b.cells.length := setL_length (by omega)
  have hget : ∀ (k : Nat) (d : LBlk), (H.set i (some { b with cells := setL b.cells off.v v.cells }))[k]? = some (some d) → (k = i ∧ d = { b with cells := setL b.cells off.v v.cells }) ∨ (k ≠ i ∧ H[k]? = some (some d)) := by
    intro k d hk
    by_cases hki : k = i
    · subst hki
      rw [List.getElem?_set_self hi] at hk
      exact .inl ⟨rfl, (Option.some.inj (Option.some.inj hk)).symm⟩
    · rw [List.getElem?_set_ne (Ne.symm hki)] at hk
      exact .inr ⟨hki, hk⟩
  have hsim := Sim.put hs hb hown (n := i) (s := 0) (o := off.v) (η' := η) (fun _ _ => rfl) (by simp [Addr.add]) (xs := v.cells) (d' := { b with cells := setL b.cells off.v v.cells }) rfl hv
    (fun j c hj => by rw [Nat.add_zero]; exact setL_get (by omega) hj) (by omega) (by simp only [Nat.zero_add]; rw [hsl]; exact h4)
    (H' := H.set i (some { b with cells := setL b.cells off.v v.cells })) (fun k d hk => by rcases hget k d hk with ⟨rfl, rfl⟩ | ⟨h5, h6⟩; exact .inl ⟨rfl, rfl⟩; exact .inr ⟨h5, h5, h6⟩) h1
  refine ⟨η, World.setRow w (η i).addr.block (putRow cs ((η i).addr.off + off.v) (v.cells.map (LC.den η))) b.ty, ⟨?_, fun _ _ => rfl, by rw [hlen]; exact Nat.le_refl _, Kept.setRow (O := Img η H) ⟨i, b, hb, hown, rfl⟩, ?_⟩, (fun x hx => by cases hx), .inr ⟨?_, rfl⟩⟩
  · refine ⟨fun k d hk => ?_, hsim.cell, hsim.room, hsim.own, hsim.apart⟩
    obtain ⟨h5, h6⟩ := hsim.inn k d hk
    have hm : ∀ k, (k < H.length ∨ k = i) → k < (H.set i (some { b with cells := setL b.cells off.v v.cells })).length := fun k hk => by rw [hlen]; rcases hk with h | h <;> omega
    exact ⟨hm k h5, fun c hc => (h6 c hc).mono hm⟩
  · intro k d hk hd
    rcases hget k d hk with ⟨rfl, rfl⟩ | ⟨_, h6⟩
    · exact .inl ⟨k, b, hb, hown, rfl⟩
    · exact .inl ⟨k, d, h6, hd, rfl⟩
  · have F := tfacts hT ht
    have e : execOp a.eval o = (do Instr.storeAt t (a.eval x) (a.eval y); Pure.pure Next.skip : Sem Next) := by simp only [execOp, ho]
    rw [e, hx, hy, Sem.run_bind]
    have e2 : (Instr.storeAt t (.pointer (some ((η i).addr.add off.v))) (v.den η)).run P w = .ok () (World.setRow w (η i).addr.block (putRow cs ((η i).addr.off + off.v) (v.cells.map (LC.den η))) b.ty) := by
      unfold Instr.storeAt
      have e1 : (Instr.sureAddr (.pointer (some ((η i).addr.add off.v)))).run P w = .ok ((η i).addr.add off.v) w := rfl
      rw [Sem.run_bind, e1, Result.andThen_ok]
      have h7 := run_storeVar (P := P) (η := η) F (A := (η i).addr.add off.v) (cs := cs) (ty := b.ty) (w := w) (by rw [add_block]; exact h1) (add_spot _ h2) (x := v) hl (by rw [add_off]; omega)
      rw [add_block, add_off] at h7
      exact h7
    rw [e2, Result.andThen_ok]; rfl
/-- A new block at the end. -/
theorem Ext.fresh (hs : Sim (· < H.length) η H w) {d : LBlk} (hin : ∀ c ∈ d.cells, c.In (· < H.length)) {N : Nat} (hN : d.cells.length ≤ N) {cs : Array Value} (hcs : N ≤ cs.size)
    (hcell : ∀ (j : Nat) (c : LC), d.cells[j]? = some c → cs[j]? = some (c.den η)) :
    Ext η H w (upd η H.length ⟨⟨w.heap.size, 0, none⟩, N⟩) (H ++ [some d]) (w.alloc (.cells cs d.ty)) := by
  have hget : ∀ (i : Nat) (b : LBlk), (H ++ [some d])[i]? = some (some b) → (i = H.length ∧ b = d) ∨ (i ≠ H.length ∧ H[i]? = some (some b)) := by
    intro i b hi
    rcases Nat.lt_trichotomy i H.length with h1 | h1 | h1
    · rw [List.getElem?_append_left h1] at hi; exact .inr ⟨Nat.ne_of_lt h1, hi⟩
    · subst h1
      rw [List.getElem?_append_right (Nat.le_refl _)] at hi
      simp at hi; exact .inl ⟨rfl, hi.symm⟩
    · rw [List.getElem?_eq_none (by simp; omega)] at hi; cases hi
  have h := hs.alloc (n := H.length) (Nat.lt_irrefl _) hin hN hcs hcell (H' := H ++ [some d]) hget
  have hm : ∀ k, (k < H.length ∨ k = H.length) → k < (H ++ [some d]).length := fun k hk => by simp; omega
  refine ⟨⟨fun k b hk => ⟨hm k (h.inn k b hk).1, fun c hc => ((h.inn k b hk).2 c hc).mono hm⟩, h.cell, h.room, h.own, h.apart⟩, fun i hi => upd_ne _ _ (Nat.ne_of_lt hi), by simp, .alloc _ _ _, fun i b hi ho => ?_⟩
  rcases hget i b hi with ⟨rfl, rfl⟩ | ⟨h1, h2⟩
  · rw [upd_self]; exact .inr (Nat.le_refl _)
  · rw [upd_ne _ _ h1]; exact .inl ⟨i, b, h2, ho, rfl⟩
theorem in_fresh {F : Nat → Prop} {x : LV} {i : Nat} (h : x.In F) (hm : ∀ k, F k → k < i) : x.In (· < i) := h.mono hm
theorem den_newptr (w : World) (N : Nat) : (LV.a (.c (.ptr H.length (.lit 0)))).den (upd η H.length ⟨⟨w.heap.size, 0, none⟩, N⟩) = .pointer (some ⟨w.heap.size, 0, none⟩) := by
  simp [LV.den, LA.den, LC.den, upd_self, NE.lit_v, Addr.add]
theorem den_newptr' (w : World) (id N : Nat) : (LV.a (.c (.ptr id (.lit 0)))).den (upd η id ⟨⟨w.heap.size, 0, none⟩, N⟩) = .pointer (some ⟨w.heap.size, 0, none⟩) := by
  simp [LV.den, LA.den, LC.den, upd_self, NE.lit_v, Addr.add]
theorem cells_get {xs : List LC} {j : Nat} {c : LC} (h : xs[j]? = some c) : (xs.map (LC.den η)).toArray[j]? = some (c.den η) := by simp [h]
theorem run_newVar {v : Value} {cs : Array Value} (h : v.cells = cs) : (newVar t v).run P w = .ok ⟨w.heap.size, 0, none⟩ (w.alloc (.cells cs t)) := by
  subst h; rfl
theorem OpTo.alloc (hT : TOk P tab) (hs : Sim (· < H.length) η H w) {o : Oper} (ho : o.op = .alloc t) (ht : tyOf tab t = some ti) :
    OpTo P o a η H w (.a (.c (.ptr H.length (.lit 0)))) (H ++ [some ⟨ti.zero, true, t, false⟩]) := by
  obtain ⟨v, hz, hc, hn⟩ := (tfacts hT ht).zeroValue (w := w) η
  have hin : ∀ c ∈ ti.zero, c.In (· < H.length) := fun c hc r hr => by rw [hn c hc] at hr; cases hr
  refine ⟨_, _, Ext.fresh hs (d := ⟨ti.zero, true, t, false⟩) hin (Nat.le_refl _) (cs := (ti.zero.map (LC.den η)).toArray) (by simp) (fun j c hj => cells_get hj), in_ptr (by simp), .inl ?_⟩
  have e : execOp a.eval o = (do Pure.pure (Next.value (← Instr.alloc t true (.tuple #[]))) : Sem Next) := by simp only [execOp, ho]
  rw [e, den_newptr]
  refine run_val ?_
  unfold Instr.alloc
  rw [Sem.run_bind, hz, Result.andThen_ok]
  simp only [Sem.run_bind, run_newVar hc, Result.andThen_ok]; rfl
theorem OpTo.box (hs : Sim (· < H.length) η H w) {o : Oper} {x : Operand} (ho : o.op = .box t x) {v : LA} (hx : a.eval x = v.den η) (hv : v.In (· < H.length)) :
    OpTo P o a η H w (.a (.c (.ptr H.length (.lit 0)))) (H ++ [some ⟨v.cells, true, t, false⟩]) := by
  refine ⟨_, _, Ext.fresh hs (d := ⟨v.cells, true, t, false⟩) hv (Nat.le_refl _) (cs := (v.cells.map (LC.den η)).toArray) (by simp) (fun j c hj => cells_get hj), in_ptr (by simp), .inl ?_⟩
  have e : execOp a.eval o = (do Pure.pure (Next.value (← Instr.box t (a.eval x))) : Sem Next) := by simp only [execOp, ho]
  rw [e, den_newptr]
  refine run_val ?_
  unfold Instr.box
  rw [hx, Sem.run_bind, run_newVar (LA.den_cells η v), Result.andThen_ok]; rfl
end
end Go.Proofs.Ytbkcaedlijhnlaa.LB
