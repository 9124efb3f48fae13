/- The operations over logical states, one by one. -/
import Derived.Test.YtbkcaedlijhnlaaLN
namespace Go.Proofs.Ytbkcaedlijhnlaa.LB
open Go Go.RowKit

/-! ### what is told of types -/
inductive TK where
  | int (k : IntKind) | bool | str | slice (e : Nat) | array (n e : Nat) | struct (fs : List (Nat × Nat)) | ptr | other
structure TI where
  kind : TK
  size : Nat
  bytes : Nat
  zero : List LC
  eqs : Bool
abbrev Tab := List (Nat × TI)
def tyOf : Tab → Nat → Option TI
  | [], _ => none
  | (s, v) :: r, t => if Nat.beq s t then some v else tyOf r t
def TK.agg : TK → Bool
  | .array _ _ => true
  | .struct _ => true
  | _ => false
def LC.stands : LC → Value → Bool
  | .int k n, .int k' m => decide (k = k') && decide (n.v = m)
  | .bool b, .bool c => b.v == c
  | .str s, .string s' => decide (s = s')
  | .nilp, .pointer none => true
  | .nils, .slice none 0 0 => true
  | _, _ => false
theorem LC.stands_den {c : LC} {v : Value} (h : c.stands v = true) (η : Eta) : v = c.den η ∧ c.refs = [] := by
  cases c with
  | int k n => cases v <;> simp [LC.stands] at h; obtain ⟨rfl, rfl⟩ := h; exact ⟨rfl, rfl⟩
  | bool b => cases v <;> simp [LC.stands] at h; subst h; exact ⟨rfl, rfl⟩
  | str s => cases v <;> simp [LC.stands] at h; subst h; exact ⟨rfl, rfl⟩
  | nilp =>
    cases v with
    | pointer a => cases a <;> simp [LC.stands] at h; exact ⟨rfl, rfl⟩
    | _ => simp [LC.stands] at h
  | nils =>
    cases v with
    | slice a n m =>
      cases a with
      | none => cases n <;> cases m <;> simp [LC.stands] at h; exact ⟨rfl, rfl⟩
      | some a => simp [LC.stands] at h
    | _ => simp [LC.stands] at h
  | _ => cases v <;> simp [LC.stands] at h
def standsAll : List LC → List Value → Bool
  | [], [] => true
  | c :: r, v :: s => c.stands v && standsAll r s
  | _, _ => false
theorem standsAll_den {η : Eta} : ∀ {cs : List LC} {vs : List Value}, standsAll cs vs = true → vs = cs.map (LC.den η) ∧ ∀ c ∈ cs, c.refs = []
  | [], [], _ => ⟨rfl, fun c hc => by cases hc⟩
  | c :: r, v :: s, h => by
    simp only [standsAll, Bool.and_eq_true] at h
    obtain ⟨h1, h2⟩ := LC.stands_den h.1 η
    obtain ⟨h3, h4⟩ := standsAll_den (η := η) h.2
    refine ⟨by rw [h1, h3]; rfl, fun d hd => ?_⟩
    rcases List.mem_cons.1 hd with rfl | hd
    · exact h2
    · exact h4 d hd
  | [], _ :: _, h => by simp [standsAll] at h
  | _ :: _, [], h => by simp [standsAll] at h
def kindOk : TK → TypeDesc → Bool
  | .int k, .int k' => decide (k = k')
  | .bool, .bool => true
  | .str, .string => true
  | .slice e, .slice e' => e == e'
  | .array n e, .array n' e' => n == n' && e == e'
  | .struct fs, .struct fs' => fs'.toList.map (fun f => (f.offset, f.type)) == fs
  | .ptr, .pointer _ => true
  | .other, .struct _ => false
  | .other, .array _ _ => false
  | .other, _ => true
  | _, _ => false
def tiOk0 (P : Program) (t : Nat) (ti : TI) : Bool :=
  match P.info? t, P.underlying t with
  | some i, some d => i.size == ti.size && i.bytes == ti.bytes && kindOk ti.kind d &&
      (match i.zero with | some v => standsAll ti.zero v.cells.toList && (match v with | .agg _ => ti.kind.agg | _ => !ti.kind.agg) | none => false)
  | _, _ => false
def tiOk (P : Program) (t : Nat) (ti : TI) : Bool := tiOk0 P t ti && (!ti.eqs || (eqTy P 20 t ti.zero && ti.kind.agg && !P.eqGuardType P.depth t))
def TOk (P : Program) (tab : Tab) : Prop := ∀ t ti, tyOf tab t = some ti → tiOk P t ti = true
theorem tok_of {P : Program} {tab : Tab} (h : (tab.all fun p => tiOk P p.1 p.2) = true) : TOk P tab := by
  induction tab with
  | nil => intro t ti h; simp [tyOf] at h
  | cons p r ih =>
    simp only [List.all_cons, Bool.and_eq_true] at h
    intro t ti ht
    obtain ⟨s, v⟩ := p
    simp only [tyOf] at ht
    by_cases hs : Nat.beq s t = true
    · rw [if_pos hs] at ht
      obtain rfl := Option.some.inj ht
      rw [← Nat.eq_of_beq_eq_true hs]; exact h.1
    · rw [if_neg hs] at ht
      exact ih h.2 t ti ht
theorem teq {P : Program} {tab : Tab} (h : TOk P tab) {t : Nat} {ti : TI} (ht : tyOf tab t = some ti) (he : ti.eqs = true) : eqTy P 20 t ti.zero = true ∧ ti.kind.agg = true ∧ P.eqGuardType P.depth t = false := by
  have h1 := h t ti ht
  unfold tiOk at h1
  rw [Bool.and_eq_true] at h1
  have h2 := h1.2
  rw [he] at h2
  simp at h2
  exact ⟨h2.1.1, h2.1.2, h2.2⟩
structure TFacts (P : Program) (t : Nat) (ti : TI) : Prop where
  ex : ∃ i d v, P.info? t = some i ∧ P.underlying t = some d ∧ i.size = ti.size ∧ i.bytes = ti.bytes ∧ kindOk ti.kind d = true ∧ i.zero = some v ∧ standsAll ti.zero v.cells.toList = true ∧ ((∃ xs, v = .agg xs) ↔ ti.kind.agg = true)
theorem tfacts {P : Program} {tab : Tab} (h : TOk P tab) {t : Nat} {ti : TI} (ht : tyOf tab t = some ti) : TFacts P t ti := by
  have h1 := h t ti ht
  unfold tiOk at h1
  rw [Bool.and_eq_true] at h1
  have h1 := h1.1
  unfold tiOk0 at h1
  cases hi : P.info? t with
  | none => rw [hi] at h1; simp at h1
  | some i =>
    cases hd : P.underlying t with
    | none => rw [hi, hd] at h1; simp at h1
    | some d =>
      rw [hi, hd] at h1
      simp only [Bool.and_eq_true, beq_iff_eq] at h1
      cases hz : i.zero with
      | none => rw [hz] at h1; simp at h1
      | some v =>
        rw [hz] at h1
        simp only [Bool.and_eq_true] at h1
        obtain ⟨⟨⟨h2, h3⟩, h4⟩, h5, h6⟩ := h1
        refine ⟨i, d, v, hi, hd, h2, h3, h4, hz, h5, ?_⟩
        cases v <;> simp_all
section
variable {P : Program} {t : Nat} {ti : TI} {w : World}
theorem run_typeInfo {i : TypeInfo} (h : P.info? t = some i) : (typeInfo t).run P w = .ok i w := by
  unfold typeInfo program; simp [Sem.run_bind, Sem.run, Result.andThen_ok, h]
theorem TFacts.sizeOf (h : TFacts P t ti) : (sizeOf t).run P w = .ok ti.size w := by
  obtain ⟨i, d, v, hi, _, hs, _⟩ := h.ex
  unfold Go.sizeOf
  rw [Sem.run_bind, run_typeInfo hi, Result.andThen_ok, hs]; rfl
theorem TFacts.isAgg (h : TFacts P t ti) : (isAgg t).run P w = .ok ti.kind.agg w := by
  obtain ⟨i, d, v, _, hd, _, _, hk, _⟩ := h.ex
  unfold Go.isAgg
  rw [Sem.run_bind, run_underlying' hd, Result.andThen_ok]
  cases hti : ti.kind <;> rw [hti] at hk <;> cases d <;> simp [kindOk] at hk <;> rfl
theorem TFacts.zeroValue (h : TFacts P t ti) (η : Eta) : ∃ v, (zeroValue t).run P w = .ok v w ∧ v.cells = (ti.zero.map (LC.den η)).toArray ∧ (∀ c ∈ ti.zero, c.refs = []) := by
  obtain ⟨i, d, v, hi, _, _, _, _, hz, hst, _⟩ := h.ex
  obtain ⟨h1, h2⟩ := standsAll_den (η := η) hst
  refine ⟨v, ?_, ?_, h2⟩
  · unfold Go.zeroValue
    rw [Sem.run_bind, run_typeInfo hi, Result.andThen_ok, hz]; rfl
  · rw [← h1]
end

/-! ### slots -/
abbrev Env := List (Nat × LV)
def lk : Env → Nat → Option LV
  | [], _ => none
  | (s, v) :: r, t => cond (Nat.beq s t) (some v) (lk r t)
def constL : Value → Option LV
  | .int k n => some (.a (.c (.int k (.lit n))))
  | .bool b => some (.a (.c (.bool (.lit b))))
  | .string s => some (.a (.c (.str s)))
  | .pointer none => some (.a (.c .nilp))
  | .slice none 0 0 => some (.a (.c .nils))
  | _ => none
def ev (env : Env) : Operand → Option LV
  | .tmp t => lk env t
  | .const v => constL v
  | .func f => some (.a (.c (.fn f [])))
  | .global _ => none
structure Den (n : Nat) (F : Nat → Prop) (η : Eta) (env : Env) (a : Act) : Prop where
  defers : a.defers = []
  size : a.tmps.size = n
  slot : ∀ t v, lk env t = some v → v.In F ∧ a.tmps[t]? = some (v.den η)
theorem constL_den {v : Value} {x : LV} (h : constL v = some x) (η : Eta) (F : Nat → Prop) : v = x.den η ∧ x.In F := by
  have key : ∀ {c : LC}, c.refs = [] → (LV.a (.c c)).In F := fun {c} hc d hd r hr => by
    simp only [LA.cells, List.mem_singleton] at hd
    subst hd; rw [hc] at hr; cases hr
  unfold constL at h
  split at h <;> first | (obtain rfl := Option.some.inj h; exact ⟨rfl, key rfl⟩) | cases h
theorem ev_den {n : Nat} {F : Nat → Prop} {η : Eta} {env : Env} {a : Act} (hd : Den n F η env a) {x : Operand} {v : LV} (h : ev env x = some v) : a.eval x = v.den η ∧ v.In F := by
  cases x with
  | tmp t =>
    obtain ⟨h1, h2⟩ := hd.slot t v h
    refine ⟨?_, h1⟩
    have h3 := (Array.getElem?_eq_some_iff.1 h2)
    show a.tmps.getD t undef = _
    rw [Array.getD_eq_getD_getElem?, h2]; rfl
  | const c => exact constL_den h η F
  | func f =>
    obtain rfl := Option.some.inj h
    refine ⟨?_, fun d hd r hr => ?_⟩
    · simp [LV.den, LA.den, LC.den, Act.eval]
    · simp only [LA.cells, List.mem_singleton] at hd
      subst hd; simp [LC.refs] at hr
  | global g => cases h
theorem lk_put {env : Env} {d t : Nat} {v u : LV} (h : lk ((d, v) :: env) t = some u) : (d = t ∧ u = v) ∨ (d ≠ t ∧ lk env t = some u) := by
  unfold lk at h
  by_cases hs : Nat.beq d t = true
  · rw [hs] at h
    exact .inl ⟨Nat.eq_of_beq_eq_true hs, (Option.some.inj h).symm⟩
  · rw [Bool.eq_false_iff.2 hs] at h
    exact .inr ⟨fun e => hs (by rw [e]; exact Nat.beq_refl t), h⟩
theorem Den.put {n : Nat} {F : Nat → Prop} {η : Eta} {env : Env} {a : Act} (hd : Den n F η env a) {d : Nat} (hlt : d < n) {v : LV} (hv : v.In F) : Den n F η ((d, v) :: env) (a.put (some d) (v.den η)) := by
  refine ⟨hd.defers, by simp [Act.put, hd.size], fun t u h => ?_⟩
  rcases lk_put h with ⟨rfl, rfl⟩ | ⟨hne, h⟩
  · refine ⟨hv, ?_⟩
    simp only [Act.put]
    rw [Array.getElem?_setIfInBounds_self_of_lt (by rw [hd.size]; exact hlt)]
  · obtain ⟨h1, h2⟩ := hd.slot t u h
    refine ⟨h1, ?_⟩
    simp only [Act.put]
    rw [Array.getElem?_setIfInBounds_ne hne]; exact h2
theorem Den.mono {n : Nat} {F F' : Nat → Prop} {η η' : Eta} {env : Env} {a : Act} (hd : Den n F η env a) (hF : ∀ i, F i → F' i) (hη : ∀ i, F i → η' i = η i) : Den n F' η' env a :=
  ⟨hd.defers, hd.size, fun t v h => ⟨(hd.slot t v h).1.mono hF, by rw [(hd.slot t v h).2, LV.den_congr hη (hd.slot t v h).1]⟩⟩

/-! ### from one state to the next -/
def Img (η : Eta) (H : LH) (x : Nat) : Prop := ∃ (i : Nat) (b : LBlk), H[i]? = some (some b) ∧ b.own = true ∧ (η i).addr.block = x
structure Ext (η : Eta) (H : LH) (w : World) (η' : Eta) (H' : LH) (w' : World) : Prop where
  sim : Sim (· < H'.length) η' H' w'
  on : ∀ i, i < H.length → η' i = η i
  len : H.length ≤ H'.length
  kept : Kept (Img η H) w w'
  mine : ∀ (i : Nat) (b : LBlk), H'[i]? = some (some b) → b.own = true → Img η H (η' i).addr.block ∨ w.heap.size ≤ (η' i).addr.block
theorem Ext.refl {η : Eta} {H : LH} {w : World} (h : Sim (· < H.length) η H w) : Ext η H w η H w :=
  ⟨h, fun _ _ => rfl, Nat.le_refl _, .refl _ _, fun i b hi ho => .inl ⟨i, b, hi, ho, rfl⟩⟩
theorem Ext.trans {η η' η'' : Eta} {H H' H'' : LH} {w w' w'' : World} (h : Ext η H w η' H' w') (k : Ext η' H' w' η'' H'' w'') : Ext η H w η'' H'' w'' := by
  have himg : ∀ x, Img η' H' x → Img η H x ∨ w.heap.size ≤ x := fun x ⟨i, b, hi, ho, e⟩ => e ▸ h.mine i b hi ho
  refine ⟨k.sim, fun i hi => (k.on i (Nat.lt_of_lt_of_le hi h.len)).trans (h.on i hi), Nat.le_trans h.len k.len, h.kept.trans k.kept (fun x hx ho => ?_), fun i b hi ho => ?_⟩
  · rcases himg x ho with h1 | h1
    · exact h1
    · omega
  · rcases k.mine i b hi ho with h1 | h1
    · exact himg _ h1
    · exact .inr (Nat.le_trans h.kept.size h1)
/-- An operation takes one state to the next, with a value. -/
def OpTo (P : Program) (o : Oper) (a : Act) (η : Eta) (H : LH) (w : World) (v : LV) (H' : LH) : Prop :=
  ∃ η' w', Ext η H w η' H' w' ∧ v.In (· < H'.length) ∧ ((execOp a.eval o).run P w = .ok (.value (v.den η')) w' ∨ ((execOp a.eval o).run P w = .ok .skip w' ∧ v = .tup []))
theorem OpTo.pure {P : Program} {o : Oper} {a : Act} {η : Eta} {H : LH} {w : World} {v : LV} (h : Sim (· < H.length) η H w) (hv : v.In (· < H.length)) (hr : (execOp a.eval o).run P w = .ok (.value (v.den η)) w) : OpTo P o a η H w v H :=
  ⟨η, w, .refl h, hv, .inl hr⟩
end Go.Proofs.Ytbkcaedlijhnlaa.LB
