/- append. -/
import Derived.Test.YtbkcaedlijhnlaaLQ
namespace Go.Proofs.Ytbkcaedlijhnlaa.LB
open Go Go.RowKit
theorem growBy_le (need : Nat) : ∀ (r c : Nat), Builtin.growBy need r c ≤ max c (2 * need + 192)
  | 0, c => by unfold Builtin.growBy; omega
  | r + 1, c => by
    unfold Builtin.growBy
    split
    · omega
    · have h := growBy_le need r (c + (c + 768) / 4)
      omega
theorem nextslicecap_le {need c : Nat} (h : c < need) : Builtin.nextslicecap need c ≤ 2 * need + 192 := by
  unfold Builtin.nextslicecap
  split
  · omega
  · split
    · omega
    · have := growBy_le need 4 c
      omega
section
variable {P : Program} {tab : Tab} {n : Nat} {F : Nat → Prop} {η : Eta} {env : Env} {a : Act} {H : LH} {w : World} {t : Nat} {ti : TI}
/-- What an append takes: its cells, in every world that keeps what is there. -/
def Src (w : World) (η : Eta) (sz : Nat) (X : Value) (k : Nat) (ys : List LC) : Prop :=
  ys.length = k * sz ∧ ∃ A c, X = .slice A k c ∧ ((A = none ∧ k = 0) ∨ ∃ B, A = some B ∧ Lies w η B ys)
theorem Lies.kept {w w' : World} {A : Addr} {ys : List LC} (h : Lies w η A ys) (hk : ∀ b, b < w.heap.size → w'.heap[b]? = w.heap[b]?) : Lies w' η A ys := fun j c hj => by
  have h1 := h j c hj
  rw [cell_of_heap (hk _ (block_lt h1))]; exact h1
theorem Src.firstCells {sz k : Nat} {X : Value} {ys : List LC} (h : Src w η sz X k ys) : (Builtin.firstCells sz k X).run P w = .ok (ys.map (LC.den η)).toArray w := by
  obtain ⟨hl, A, c, rfl, h⟩ := h
  rcases h with ⟨rfl, rfl⟩ | ⟨B, rfl, h⟩
  · have e : ys = [] := List.length_eq_zero_iff.1 (by omega)
    subst e; rfl
  · exact run_loadCells h hl.symm
theorem Src.kept {w w' : World} {sz k : Nat} {X : Value} {ys : List LC} (h : Src w η sz X k ys) (hk : ∀ b, b < w.heap.size → w'.heap[b]? = w.heap[b]?) : Src w' η sz X k ys := by
  obtain ⟨hl, A, c, rfl, h⟩ := h
  exact ⟨hl, A, c, rfl, h.imp id (fun ⟨B, e, h⟩ => ⟨B, e, h.kept hk⟩)⟩
theorem Src.nil (sz : Nat) (hsz : sz ≠ 0) : Src w η sz (.slice none 0 0) 0 [] := ⟨by simp, none, 0, rfl, .inl ⟨rfl, rfl⟩⟩
theorem Src.emp (sz : Nat) (A : Option Addr) (c : Nat) : Src w η sz (.slice A 0 c) 0 [] := by
  refine ⟨by simp, A, c, rfl, ?_⟩
  cases A with
  | none => exact .inl ⟨rfl, rfl⟩
  | some B => exact .inr ⟨B, rfl, fun j c h => by simp at h⟩
theorem Sim.src (hs : Sim F η H w) {i : Nat} {b : LBlk} (hb : H[i]? = some (some b)) {o L : NE} {sz : Nat} {cap : Option Nat} (hr : o.v + L.v * sz ≤ b.cells.length) : Src w η sz ((LC.slice i o L sz cap).den η) L.v ((b.cells.drop o.v).take (L.v * sz)) :=
  ⟨by simp only [List.length_take, List.length_drop]; omega, _, _, rfl, .inr ⟨_, rfl, hs.lies hb o.v (L.v * sz)⟩⟩
theorem Ext.drew (hs : Sim (· < H.length) η H w) : Ext η H w η H { w with drawn := w.drawn + 1 } :=
  ⟨hs.kept fun _ _ => rfl, fun _ _ => rfl, Nat.le_refl _, .drew _ _, fun i b hi ho => .inl ⟨i, b, hi, ho, rfl⟩⟩
theorem getSet_none {i k : Nat} {d : LBlk} (h : (H.set i none)[k]? = some (some d)) : k ≠ i ∧ H[k]? = some (some d) := by
  by_cases hki : k = i
  · subst hki
    rcases Nat.lt_or_ge k H.length with h1 | h1
    · rw [List.getElem?_set_self h1] at h; cases h
    · rw [List.getElem?_eq_none (by simp; omega)] at h; cases h
  · rw [List.getElem?_set_ne (Ne.symm hki)] at h; exact ⟨hki, h⟩
theorem Ext.kill (hs : Sim (· < H.length) η H w) (i : Nat) : Ext η H w η (H.set i none) w :=
  ⟨by rw [List.length_set]; exact hs.less (fun k d hk => (getSet_none hk).2), fun _ _ => rfl, by simp, .refl _ _, fun k b hk ho => .inl ⟨k, b, (getSet_none hk).2, ho, rfl⟩⟩
structure AppT (P : Program) (st xt e : Nat) (tj : TI) : Prop where
  us : P.underlying st = some (.slice e)
  ux : ∃ e2, P.underlying xt = some (.slice e2)
  F : TFacts P e tj
  z : tj.zero.length = tj.size
  s0 : tj.size ≠ 0
  b0 : tj.bytes ≠ 0
theorem AppT.bytes {st xt e : Nat} {tj : TI} (h : AppT P st xt e tj) : ∃ i, P.info? e = some i ∧ i.bytes = tj.bytes := by
  obtain ⟨i, d, v, hi, _, _, hb, _⟩ := h.F.ex
  exact ⟨i, hi, hb⟩
/-- there is no room: all is copied -/
theorem run_append_new {st xt e : Nat} {tj : TI} (hA : AppT P st xt e tj) {S X : Value} {L k c : Nat} {xs ys : List LC} {B : Option Addr} (hS : S = .slice B L c) (hxs : Src w η tj.size S L xs) (hys : Src w η tj.size X k ys) (hc : c < L + k)
    (hbig : (2 * (L + k) + 192) * tj.bytes ≤ 281474976710656) (ty : TypeId) :
    ∃ N cs, (Builtin.append_ #[st, xt] ty #[S, X]).run P w = .ok (.slice (some ⟨w.heap.size, 0, none⟩) (L + k) N) (World.alloc { w with drawn := w.drawn + 1 } (.cells cs e)) ∧ L + k ≤ N ∧ N * tj.size ≤ cs.size ∧
      ∀ (j : Nat) (d : LC), (xs ++ ys)[j]? = some d → cs[j]? = some (d.den η) := by
  obtain ⟨i, hi, hib⟩ := hA.bytes
  obtain ⟨e2, hux⟩ := hA.ux
  obtain ⟨z, hz, hzc, _⟩ := hA.F.zeroValue (w := { w with drawn := w.drawn + 1 }) η
  have hk2 : ∀ b, b < w.heap.size → ({ w with drawn := w.drawn + 1 } : World).heap[b]? = w.heap[b]? := fun _ _ => rfl
  have hx1 := (hxs.kept (w' := { w with drawn := w.drawn + 1 }) hk2).firstCells (P := P)
  have hy1 := (hys.kept (w' := { w with drawn := w.drawn + 1 }) hk2).firstCells (P := P)
  obtain ⟨hxl, _⟩ := hxs
  obtain ⟨hyl, A, cx, rfl, _⟩ := hys
  subst hS
  let N := (L + k) + w.tape w.drawn (.appendCap (L + k) c e) % (2 ^ 63 - (L + k))
  let rest := Builtin.zeroCells z.cells (N - (L + k))
  refine ⟨N, (xs.map (LC.den η)).toArray ++ (ys.map (LC.den η)).toArray ++ rest, ?_, Nat.le_add_right _ _, ?_, ?_⟩
  · have hno : ¬ (L + k ≤ c) := by omega
    have hcap : ¬ (2 ^ 48 < Builtin.nextslicecap (L + k) c * i.bytes) := by
      have h1 : Builtin.nextslicecap (L + k) c * i.bytes ≤ 281474976710656 := Nat.le_trans (Nat.mul_le_mul_right _ (nextslicecap_le hc)) (by rw [hib]; exact hbig)
      omega
    have hch : (choose (.appendCap (L + k) c e)).run P w = .ok N { w with drawn := w.drawn + 1 } := by
      simp [choose, Sem.run, Question.forced, Question.cut, N]
    have hroom : (askRoom (N * i.bytes)).run P { w with drawn := w.drawn + 1 } = .ok () { w with drawn := w.drawn + 1 } := by
      unfold askRoom mark; split <;> rfl
    have hti : ∀ w, (typeInfo e).run P w = .ok i w := fun w => run_typeInfo hi
    have hrow : ∀ (cs : Array Value) (w : World), (newRow e cs).run P w = .ok ⟨w.heap.size, 0, none⟩ (w.alloc (.cells cs e)) := fun _ _ => rfl
    have hbig2 : ¬ ((IntKind.i64.max : Int) < ((L + k : Nat) : Int) ∧ i.bytes = 0) := by
      rintro ⟨h1, h2⟩
      exact hA.b0 (by rw [← hib]; exact h2)
    simp only [Builtin.append_, List.getElem?_toArray, List.getElem?_cons_zero, List.getElem?_cons_succ, Sem.run_bind, run_underlying' hA.us, run_underlying' hux, hA.F.sizeOf, Result.andThen_ok, Sem.run_pure, Bool.false_eq_true, if_false, Builtin.lenOf, hno, hti, false_or, gt_iff_lt, hbig2, hcap, hch, hroom, hx1, hy1, hz, Bool.not_false, if_true, hrow]
    rfl
  · simp only [Array.size_append, List.size_toArray, List.length_map, rest, Builtin.zeroCells, Array.size_map, Array.size_range, hxl, hyl]
    have e1 : z.cells.size = tj.size := by rw [hzc]; simp [hA.z]
    rw [e1, ← Nat.add_mul, ← Nat.add_mul]
    refine Nat.mul_le_mul_right _ ?_
    show N ≤ L + k + (N - (L + k))
    omega
  · intro j d hj
    have hlt : j < (xs ++ ys).length := (List.getElem?_eq_some_iff.1 hj).1
    rw [Array.getElem?_append_left (by simp at hlt; simp; omega)]
    have e2 : (xs.map (LC.den η)).toArray ++ (ys.map (LC.den η)).toArray = ((xs ++ ys).map (LC.den η)).toArray := by simp
    rw [e2]; exact cells_get hj
/-- there is room: the cells behind are written -/
theorem run_append_in {st xt e : Nat} {tj : TI} (hA : AppT P st xt e tj) {X : Value} {L k c : Nat} {ys : List LC} {B : Addr} (hys : Src w η tj.size X k ys) (hc : L + k ≤ c)
    {cs : Array Value} {ty0 : TypeId} (hb : w.heap[B.block]? = some (.cells cs ty0 (0, 0))) (hsp : B.spot = none) (hroom : B.off + L * tj.size + ys.length ≤ cs.size) (ty : TypeId) :
    (Builtin.append_ #[st, xt] ty #[.slice (some B) L c, X]).run P w = .ok (.slice (some B) (L + k) c) (World.setRow w B.block (putRow cs (B.off + L * tj.size) (ys.map (LC.den η))) ty0) := by
  obtain ⟨e2, hux⟩ := hA.ux
  have hy1 := hys.firstCells (P := P)
  obtain ⟨hyl, A, cx, rfl, _⟩ := hys
  have hst := run_storeCells (P := P) (a := B.add (L * tj.size)) (ty := ty0) (add_spot _ hsp) (ys.map (LC.den η)) 0 w cs (by rw [add_block]; exact hb) (by rw [add_off]; simp only [List.length_map]; omega) (fun v hv => by obtain ⟨c, _, rfl⟩ := List.mem_map.1 hv; exact LC.den_plain η c)
  rw [add_block, add_off, Nat.add_zero] at hst
  simp only [Builtin.append_, List.getElem?_toArray, List.getElem?_cons_zero, List.getElem?_cons_succ, Sem.run_bind, run_underlying' hA.us, run_underlying' hux, hA.F.sizeOf, Result.andThen_ok, Sem.run_pure, Bool.false_eq_true, if_false, Builtin.lenOf, hc, if_true, hy1, Bool.not_false, hst]
theorem run_append_none {st xt e : Nat} {tj : TI} (hA : AppT P st xt e tj) {X : Value} {L c : Nat} {B : Option Addr} (hys : Src w η tj.size X 0 []) (hc : L ≤ c) (ty : TypeId) :
    (Builtin.append_ #[st, xt] ty #[.slice B L c, X]).run P w = .ok (.slice B L c) w := by
  obtain ⟨e2, hux⟩ := hA.ux
  have hy1 := hys.firstCells (P := P)
  obtain ⟨hyl, A, cx, rfl, _⟩ := hys
  have hst : ∀ a : Addr, (storeCells a [] 0).run P w = .ok () w := fun _ => rfl
  cases B with
  | none => simp only [Builtin.append_, List.getElem?_toArray, List.getElem?_cons_zero, List.getElem?_cons_succ, Sem.run_bind, run_underlying' hA.us, run_underlying' hux, hA.F.sizeOf, Result.andThen_ok, Sem.run_pure, Bool.false_eq_true, if_false, Builtin.lenOf, Nat.add_zero, hc, if_true, hy1, Bool.not_false]
  | some B => simp only [Builtin.append_, List.getElem?_toArray, List.getElem?_cons_zero, List.getElem?_cons_succ, Sem.run_bind, run_underlying' hA.us, run_underlying' hux, hA.F.sizeOf, Result.andThen_ok, Sem.run_pure, Bool.false_eq_true, if_false, Builtin.lenOf, Nat.add_zero, hc, if_true, hy1, Bool.not_false, List.map_nil, hst]
def appOp (o : Oper) (s x : Operand) (st xt : Nat) : Prop := ∃ c, o.op = .call c ∧ c.callee = .builtin .append ∧ c.args = #[s, x] ∧ c.argTypes = #[st, xt]
theorem run_appOp {o : Oper} {s x : Operand} {st xt : Nat} (ho : appOp o s x st xt) {v : Value} {w w' : World} (h : (Builtin.append_ #[st, xt] o.type #[a.eval s, a.eval x]).run P w = .ok v w') : (execOp a.eval o).run P w = .ok (.value v) w' := by
  obtain ⟨c, h1, h2, h3, h4⟩ := ho
  obtain ⟨callee, args, argTypes⟩ := c
  simp only at h2 h3 h4
  subst h2 h3 h4
  simp [execOp, h1, resolve, invoke, builtin, Sem.run_bind, h, Result.andThen_ok]
theorem append_get {xs ys : List LC} {j : Nat} {c : LC} {m : Nat} (hm : xs.length = m) (h : (xs ++ ys)[j]? = some c) : (m ≤ j ∧ ys[j - m]? = some c) ∨ (j < m ∧ xs[j]? = some c) := by
  rcases Nat.lt_or_ge j xs.length with h1 | h1
  · rw [List.getElem?_append_left h1] at h; exact .inr ⟨by omega, h⟩
  · rw [List.getElem?_append_right h1] at h; exact .inl ⟨by omega, by rw [← hm]; exact h⟩
/-- append to a slice of a block of the call's own: the block is used up, a new one takes its place. -/
theorem OpTo.append_own {st xt e : Nat} {tj : TI} (hA : AppT P st xt e tj) (hs : Sim (· < H.length) η H w) {o : Oper} {s x : Operand} (ho : appOp o s x st xt)
    {i : Nat} {off L : NE} (hsv : a.eval s = (LC.slice i off L tj.size none).den η) {b : LBlk} (hb : H[i]? = some (some b)) (hown : b.own = true) (hty : b.ty = e) (hr : off.v + L.v * tj.size ≤ b.cells.length)
    {X : Value} (hxv : a.eval x = X) {k : NE} {ys : List LC} (hys : Src w η tj.size X k.v ys) (hyin : ∀ c ∈ ys, c.In (· < H.length)) (hbig : (2 * (L.v + k.v) + 192) * tj.bytes ≤ 281474976710656) (sym : Bool) :
    OpTo P o a η H w (.a (.c (.slice H.length (.lit 0) (NE.plus L k) tj.size none))) (H.set i none ++ [some ⟨(b.cells.drop off.v).take (L.v * tj.size) ++ ys, true, e, sym⟩]) := by
  obtain ⟨cs, h1, h2, h3, h4⟩ := hs.own i b hb hown
  have hxs := hs.src hb (o := off) (L := L) (sz := tj.size) (cap := none) hr
  have hxl : ((b.cells.drop off.v).take (L.v * tj.size)).length = L.v * tj.size := hxs.1
  have hyl : ys.length = k.v * tj.size := hys.1
  have hspos := Nat.pos_of_ne_zero hA.s0
  have hdin : ∀ c ∈ (b.cells.drop off.v).take (L.v * tj.size) ++ ys, c.In (· < H.length) := by
    intro c hc
    rcases List.mem_append.1 hc with hc | hc
    · exact (hs.inn i b hb).2 c (List.mem_of_mem_drop (List.mem_of_mem_take hc))
    · exact hyin c hc
  have hlen1 : (H.set i none).length = H.length := by simp
  have hlenv : (LV.a (.c (.slice H.length (.lit 0) (NE.plus L k) tj.size none))).In (· < (H.set i none ++ [some (⟨(b.cells.drop off.v).take (L.v * tj.size) ++ ys, true, e, sym⟩ : LBlk)]).length) :=
    in_cell (fun r hr => by simp only [LC.refs, List.mem_singleton] at hr; subst hr; simp)
  by_cases hc : L.v + k.v ≤ ((η i).cap - off.v) / tj.size
  · -- in place
    have hcm : (L.v + k.v) * tj.size ≤ (η i).cap - off.v := by
      have := (Nat.le_div_iff_mul_le hspos).1 hc
      exact this
    have hmul : (L.v + k.v) * tj.size = L.v * tj.size + k.v * tj.size := Nat.add_mul _ _ _
    have hrm := hs.room i b hb
    have hrun := run_append_in (P := P) (η := η) hA (B := (η i).addr.add off.v) (L := L.v) (c := ((η i).cap - off.v) / tj.size) hys hc (cs := cs) (ty0 := b.ty) (by rw [add_block]; exact h1) (add_spot _ h2) (by rw [add_off]; omega) o.type
    rw [add_block, add_off, Nat.add_assoc] at hrun
    have hget : ∀ (kk : Nat) (d : LBlk), (H.set i none ++ [some (⟨(b.cells.drop off.v).take (L.v * tj.size) ++ ys, true, e, sym⟩ : LBlk)])[kk]? = some (some d) → (kk = H.length ∧ d = ⟨(b.cells.drop off.v).take (L.v * tj.size) ++ ys, true, e, sym⟩) ∨ (kk ≠ H.length ∧ kk ≠ i ∧ H[kk]? = some (some d)) := by
      intro kk d hk
      rcases Nat.lt_trichotomy kk H.length with h5 | h5 | h5
      · rw [List.getElem?_append_left (by rw [hlen1]; exact h5)] at hk
        exact .inr ⟨Nat.ne_of_lt h5, getSet_none hk⟩
      · subst h5
        rw [List.getElem?_append_right (by rw [hlen1]; exact Nat.le_refl _), hlen1] at hk
        simp at hk; exact .inl ⟨rfl, hk.symm⟩
      · rw [List.getElem?_eq_none (by simp; omega)] at hk; cases hk
    have hsim := Sim.put hs hb hown (n := H.length) (s := off.v) (o := off.v + L.v * tj.size) (η' := upd η H.length ⟨(η i).addr.add off.v, (η i).cap - off.v⟩) (upd_on η _ (Nat.lt_irrefl _)) (upd_self _ _ _)
      (xs := ys) (d' := ⟨(b.cells.drop off.v).take (L.v * tj.size) ++ ys, true, e, sym⟩) hty.symm hyin
      (fun j c hj => by
        rcases append_get hxl hj with ⟨h5, h6⟩ | ⟨h5, h6⟩
        · exact .inl ⟨by omega, by rw [show j + off.v - (off.v + L.v * tj.size) = j - L.v * tj.size by omega]; exact h6⟩
        · right
          rw [List.getElem?_take, if_pos h5, List.getElem?_drop] at h6
          exact ⟨.inl (by omega), by rw [Nat.add_comm]; exact h6⟩)
      (by omega) (by simp only [List.length_append, hxl, hyl]; omega) hget h1
    have hm : ∀ kk, (kk < H.length ∨ kk = H.length) → kk < (H.set i none ++ [some (⟨(b.cells.drop off.v).take (L.v * tj.size) ++ ys, true, e, sym⟩ : LBlk)]).length := fun kk hk => by simp; omega
    refine ⟨upd η H.length ⟨(η i).addr.add off.v, (η i).cap - off.v⟩, World.setRow w (η i).addr.block (putRow cs ((η i).addr.off + (off.v + L.v * tj.size)) (ys.map (LC.den η))) b.ty, ⟨⟨fun kk d hk => ⟨hm kk (hsim.inn kk d hk).1, fun c hc => ((hsim.inn kk d hk).2 c hc).mono hm⟩, hsim.cell, hsim.room, hsim.own, hsim.apart⟩, fun j hj => upd_ne _ _ (Nat.ne_of_lt hj), by simp, Kept.setRow (O := Img η H) ⟨i, b, hb, hown, rfl⟩, fun kk d hk hd => ?_⟩, hlenv, .inl ?_⟩
    · rcases hget kk d hk with ⟨rfl, rfl⟩ | ⟨h5, _, h6⟩
      · rw [upd_self]; exact .inl ⟨i, b, hb, hown, (add_block _ _).symm⟩
      · rw [upd_ne _ _ h5]; exact .inl ⟨kk, d, h6, hd, rfl⟩
    · refine run_appOp ho ?_
      rw [hsv, hxv]
      simp only [LC.den, LV.den, LA.den, upd_self, Option.getD_none, NE.plus_v, NE.lit_v, Nat.sub_zero]
      rw [hrun]
      have e0 : ∀ A : Addr, A.add 0 = A := fun A => by simp [Addr.add]
      rw [e0]
  · -- a new block
    obtain ⟨N, cs2, hrun, hN, hN2, hcell⟩ := run_append_new (P := P) (η := η) hA (S := (LC.slice i off L tj.size none).den η) (X := X) (L := L.v) (k := k.v) (c := ((η i).cap - off.v) / tj.size) rfl hxs hys (by omega) hbig o.type
    have hk1 := Ext.kill hs i
    have hk2 := Ext.drew hk1.sim
    have hk3 := Ext.fresh hk2.sim (d := ⟨(b.cells.drop off.v).take (L.v * tj.size) ++ ys, true, e, sym⟩) (by rw [hlen1]; exact hdin) (N := N * tj.size) (by
      simp only [List.length_append, hxl, hyl, ← Nat.add_mul]; exact Nat.mul_le_mul_right _ hN) hN2 hcell
    refine ⟨_, _, (hk1.trans hk2).trans hk3, hlenv, .inl ?_⟩
    refine run_appOp ho ?_
    rw [hsv, hxv, hrun]
    simp only [LV.den, LA.den, LC.den, hlen1, upd_self, Option.getD_none, NE.plus_v, NE.lit_v, Nat.sub_zero, Nat.mul_div_cancel _ hspos]
    rfl
/-- append where all is copied. -/
theorem OpTo.append_new {st xt e : Nat} {tj : TI} (hA : AppT P st xt e tj) (hs : Sim (· < H.length) η H w) {o : Oper} {s x : Operand} (ho : appOp o s x st xt)
    {B : Option Addr} {L k : NE} {c : Nat} (hsv : a.eval s = .slice B L.v c) {xs : List LC} (hxs : Src w η tj.size (.slice B L.v c) L.v xs) (hxin : ∀ c ∈ xs, c.In (· < H.length)) (hlt : c < L.v + k.v)
    {X : Value} (hxv : a.eval x = X) {ys : List LC} (hys : Src w η tj.size X k.v ys) (hyin : ∀ c ∈ ys, c.In (· < H.length)) (hbig : (2 * (L.v + k.v) + 192) * tj.bytes ≤ 281474976710656) (sym : Bool) :
    OpTo P o a η H w (.a (.c (.slice H.length (.lit 0) (NE.plus L k) tj.size none))) (H ++ [some ⟨xs ++ ys, true, e, sym⟩]) := by
  have hspos := Nat.pos_of_ne_zero hA.s0
  obtain ⟨N, cs2, hrun, hN, hN2, hcell⟩ := run_append_new (P := P) (η := η) hA (S := .slice B L.v c) (X := X) (L := L.v) (k := k.v) (c := c) rfl hxs hys hlt hbig o.type
  have hk2 := Ext.drew hs
  have hk3 := Ext.fresh hk2.sim (d := ⟨xs ++ ys, true, e, sym⟩) (fun d hd => (List.mem_append.1 hd).elim (hxin d) (hyin d)) (N := N * tj.size) (by
    simp only [List.length_append, hxs.1, hys.1, ← Nat.add_mul]; exact Nat.mul_le_mul_right _ hN) hN2 hcell
  refine ⟨_, _, hk2.trans hk3, in_cell (fun r hr => by simp only [LC.refs, List.mem_singleton] at hr; subst hr; simp), .inl ?_⟩
  refine run_appOp ho ?_
  rw [hsv, hxv, hrun]
  simp only [LV.den, LA.den, LC.den, upd_self, Option.getD_none, NE.plus_v, NE.lit_v, Nat.sub_zero, Nat.mul_div_cancel _ hspos]
  rfl
theorem OpTo.append_none {st xt e : Nat} {tj : TI} (hA : AppT P st xt e tj) (hs : Sim (· < H.length) η H w) {o : Oper} {s x : Operand} (ho : appOp o s x st xt)
    {v : LV} (hv : v.In (· < H.length)) (hsv : a.eval s = v.den η) {B : Option Addr} {L c : Nat} (hvd : v.den η = .slice B L c) (hc : L ≤ c) (hys : Src w η tj.size (a.eval x) 0 []) :
    OpTo P o a η H w v H := by
  refine OpTo.pure hs hv (run_appOp ho ?_)
  rw [hsv, hvd]
  exact run_append_none hA hys hc o.type
end
end Go.Proofs.Ytbkcaedlijhnlaa.LB
