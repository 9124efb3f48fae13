/- Regions of open order, step by step; calls that only read. -/
import Derived.Test.YtbkcaedlijhnlaaLH
namespace Go.Proofs.Ytbkcaedlijhnlaa.LB
open Go Go.RowKit
/-! ### calls that only read some blocks -/
def LRo (P : Program) (f : FuncId) (args : List LV) (v : LV) (ids : List Nat) (H : LH) : Prop :=
  callOk P f = true ∧ v.free ∧ ∀ F η Hs w, (∀ k ∈ ids, Hs[k]? = H[k]?) → Sim F η Hs w → (∀ x ∈ args, x.In F) → Calls P f (args.map (LV.den η)).toArray w fun e w' => e = .returned (v.den η) ∧ Kept (fun _ => False) w w'
theorem LRo.call {P : Program} {f : FuncId} {args : List LV} {v : LV} {ids : List Nat} {H : LH} (h : LRo P f args v ids H) : LCall P f args H (fun v' H' => v' = v ∧ H' = H) := by
  refine ⟨h.1, fun η w hs hin => (h.2.2 _ η H w (fun _ _ => rfl) hs hin).mono ?_⟩
  rintro e w' ⟨rfl, hk⟩
  have hk' : ∀ b, b < w.heap.size → w'.heap[b]? = w.heap[b]? := fun b hb => hk.block b hb (fun h => h)
  exact ⟨v, H, η, ⟨rfl, rfl⟩, rfl, h.2.1.mono fun _ h => h.elim, ⟨hs.kept hk', fun _ _ => rfl, Nat.le_refl _, ⟨hk.os, hk.tape, hk.output, hk.size, fun b hb _ => hk' b hb⟩, fun i b hi ho => .inl ⟨i, b, hi, ho, rfl⟩⟩⟩
/-- Blocks of a small state found in a greater one. -/
def sub (η : Eta) (σ : Nat → Nat × Nat) : Eta := fun j => ⟨(η (σ j).1).addr.add (σ j).2, (η (σ j).1).cap - (σ j).2⟩
theorem LRo.of {P : Program} {f : FuncId} {args1 : List LV} {H1 : LH} {v : LV} (C : LCall P f args1 H1 (fun v' H' => v' = v ∧ H' = H1)) (hv : v.free) (hro : ∀ (j : Nat) (b : LBlk), H1[j]? = some (some b) → b.own = false)
    (hsc : ∀ (j : Nat) (b : LBlk), H1[j]? = some (some b) → ∀ c ∈ b.cells, c.In (· < H1.length)) (hin1 : ∀ x ∈ args1, x.In (· < H1.length)) (σ : Nat → Nat × Nat) {ids : List Nat} {H : LH}
    (hH : ∀ (j : Nat) (b : LBlk), H1[j]? = some (some b) → (σ j).1 ∈ ids ∧ ∃ b', H[(σ j).1]? = some (some b') ∧ (σ j).2 + b.cells.length ≤ b'.cells.length ∧ ∀ (t : Nat) (c : LC), b.cells[t]? = some c → ∃ c', b'.cells[(σ j).2 + t]? = some c' ∧ ∀ η, c'.den η = c.den (sub η σ))
    {args : List LV} (hargs : ∀ η, args.map (LV.den η) = args1.map (LV.den (sub η σ))) : LRo P f args v ids H := by
  refine ⟨C.1, hv, fun F η Hs w hag hs _ => ?_⟩
  have hs1 : Sim (· < H1.length) (sub η σ) H1 w := by
    refine ⟨fun j b hj => ⟨(List.getElem?_eq_some_iff.1 hj).1, hsc j b hj⟩, ?_, ?_, (fun j b hj ho => by rw [hro j b hj] at ho; cases ho), (fun i j b b' hi _ _ ho => by rw [hro i b hi] at ho; cases ho)⟩
    · intro j b hj t c ht
      obtain ⟨hid, b', hb', _, hcells⟩ := hH j b hj
      obtain ⟨c', hc', hden⟩ := hcells t c ht
      rw [← hag _ hid] at hb'
      have h1 := hs.cell _ b' hb' _ c' hc'
      rw [hden] at h1
      simp only [sub, add_add]
      exact h1
    · intro j b hj
      obtain ⟨hid, b', hb', hl, _⟩ := hH j b hj
      rw [← hag _ hid] at hb'
      have h1 := hs.room _ b' hb'
      simp only [sub]; omega
  rw [hargs η]
  refine (C.2 (sub η σ) w hs1 hin1).mono ?_
  rintro e w' ⟨v', H', η', ⟨rfl, rfl⟩, rfl, _, hx⟩
  refine ⟨by rw [LV.free_den hv η' η], hx.kept.os, hx.kept.tape, hx.kept.output, hx.kept.size, fun b hb _ => hx.kept.block b hb ?_⟩
  rintro ⟨i, b', hi, ho, _⟩
  rw [hro i b' hi] at ho; cases ho
def sub2 (η : Eta) (σ : Nat → Nat × Nat) (cp : Nat → Option Nat) : Eta := fun j => ⟨(η (σ j).1).addr.add (σ j).2, (cp j).getD ((η (σ j).1).cap - (σ j).2)⟩
theorem LRo.of2 {P : Program} {f : FuncId} {args1 : List LV} {H1 : LH} {v : LV} (C : LCall P f args1 H1 (fun v' H' => v' = v ∧ H' = H1)) (hv : v.free) (hro : ∀ (j : Nat) (b : LBlk), H1[j]? = some (some b) → b.own = false)
    (hsc : ∀ (j : Nat) (b : LBlk), H1[j]? = some (some b) → ∀ c ∈ b.cells, c.In (· < H1.length)) (hin1 : ∀ x ∈ args1, x.In (· < H1.length)) (σ : Nat → Nat × Nat) (cp : Nat → Option Nat) {ids : List Nat} {H : LH}
    (hH : ∀ (j : Nat) (b : LBlk), H1[j]? = some (some b) → (σ j).1 ∈ ids ∧ ∃ b', H[(σ j).1]? = some (some b') ∧ (σ j).2 + b.cells.length ≤ b'.cells.length ∧ (∀ n, cp j = some n → b.cells.length ≤ n) ∧ ∀ (t : Nat) (c : LC), b.cells[t]? = some c → ∃ c', b'.cells[(σ j).2 + t]? = some c' ∧ ∀ η, c'.den η = c.den (sub2 η σ cp))
    {args : List LV} (hargs : ∀ η, args.map (LV.den η) = args1.map (LV.den (sub2 η σ cp))) : LRo P f args v ids H := by
  refine ⟨C.1, hv, fun F η Hs w hag hs _ => ?_⟩
  have hs1 : Sim (· < H1.length) (sub2 η σ cp) H1 w := by
    refine ⟨fun j b hj => ⟨(List.getElem?_eq_some_iff.1 hj).1, hsc j b hj⟩, ?_, ?_, (fun j b hj ho => by rw [hro j b hj] at ho; cases ho), (fun i j b b' hi _ _ ho => by rw [hro i b hi] at ho; cases ho)⟩
    · intro j b hj t c ht
      obtain ⟨hid, b', hb', _, _, hcells⟩ := hH j b hj
      obtain ⟨c', hc', hden⟩ := hcells t c ht
      rw [← hag _ hid] at hb'
      have h1 := hs.cell _ b' hb' _ c' hc'
      rw [hden] at h1
      simp only [sub2, add_add]
      exact h1
    · intro j b hj
      obtain ⟨hid, b', hb', hl, hcp, _⟩ := hH j b hj
      rw [← hag _ hid] at hb'
      have h1 := hs.room _ b' hb'
      simp only [sub2]
      cases hc : cp j with
      | none => simp only [Option.getD_none]; omega
      | some n => exact hcp n hc
  rw [hargs η]
  refine (C.2 (sub2 η σ cp) w hs1 hin1).mono ?_
  rintro e w' ⟨v', H', η', ⟨rfl, rfl⟩, rfl, _, hx⟩
  refine ⟨by rw [LV.free_den hv η' η], hx.kept.os, hx.kept.tape, hx.kept.output, hx.kept.size, fun b hb _ => hx.kept.block b hb ?_⟩
  rintro ⟨i, b', hi, ho, _⟩
  rw [hro i b' hi] at ho; cases ho
theorem LPure.ro {P : Program} {f : FuncId} {args : List LV} {v : LV} (h : LPure P f args v) (hargs : ∀ x ∈ args, x.free) (hv : v.free) (H : LH) : LRo P f args v [] H :=
  LRo.of (H1 := []) h hv (fun j b hj => by simp at hj) (fun j b hj => by simp at hj) (fun x hx => (hargs x hx).mono fun _ h => h.elim) (fun j => (j, 0)) (fun j b hj => by simp at hj)
    (fun η => List.map_congr_left fun x hx => LV.free_den (hargs x hx) _ _)
/-! ### a region of open order, in the order of the text -/
structure DSt where
  todo : List Oper
  env : Env
  H : LH
  nid : Nat
  acc : List PR
structure DGood (P : Program) (n : Nat) (arr : Array Oper) (env0 : Env) (Hp : LH) (s : DSt) : Prop where
  todo : ∃ p, arr.toList = p ++ s.todo ∧ p.length = s.acc.length
  env : s.env = envUp (fun _ => true) env0 0 arr.toList s.acc
  heap : s.H = heapUp (fun _ => true) Hp 0 s.acc
  ok : ∀ (i : Nat) (o : Oper) (p : PR), arr[i]? = some o → s.acc[i]? = some p → DOk P n arr o (tEnv arr s.acc env0 i) (tHeap s.acc Hp i) p
def DHolds (P : Program) (c : Ctx) (Q : Exit → Env → LH → Prop) (id : Nat) (arr : Array Oper) (k : List Frm) (env0 : Env) (H0 : LH) (nA : Nat) (s : DSt) : Prop :=
  DGood P c.n arr env0 (H0 ++ List.replicate nA none) s → Holds P c Q ⟨.run (.code (.region id arr true) :: k), env0, H0⟩
theorem envUp_acc {S : Nat → Bool} : ∀ {r : List Oper} {s t : List PR} {i : Nat} {env : Env}, (∀ j, i + s.length ≤ j → S j = false) → envUp S env i r (s ++ t) = envUp S env i r s
  | [], _, _, _, _, _ => by simp [envUp]
  | o :: r, [], t, i, env, h => by
    have e : envUp S env i (o :: r) [] = env := by simp [envUp]
    rw [List.nil_append, e]
    exact envUp_off (fun j hj => h j (by simpa using hj))
  | o :: r, p :: s, t, i, env, h => by
    simp only [List.cons_append, envUp]
    exact envUp_acc (fun j hj => h j (by simp; omega))
theorem heapUp_acc {S : Nat → Bool} : ∀ {s t : List PR} {i : Nat} {H : LH}, (∀ j, i + s.length ≤ j → S j = false) → heapUp S H i (s ++ t) = heapUp S H i s
  | [], t, i, H, h => by
    rw [List.nil_append]
    exact heapUp_off (fun j hj => h j (by simpa using hj))
  | p :: s, t, i, H, h => by
    simp only [List.cons_append, heapUp]
    exact heapUp_acc (fun j hj => h j (by simp; omega))
theorem envUp_snoc : ∀ {p : List Oper} {o : Oper} {r : List Oper} {s : List PR} {q : PR} {i : Nat} {env : Env}, p.length = s.length → envUp (fun _ => true) env i (p ++ o :: r) (s ++ [q]) = eput (envUp (fun _ => true) env i (p ++ o :: r) s) o.dst q.v
  | [], o, r, [], q, i, env, _ => by cases r <;> simp [envUp]
  | [], o, r, _ :: _, q, i, env, h => by simp at h
  | _ :: _, o, r, [], q, i, env, h => by simp at h
  | x :: p, o, r, y :: s, q, i, env, h => by
    simp only [List.cons_append, envUp]
    exact envUp_snoc (by simpa using h)
theorem heapUp_snoc : ∀ {s : List PR} {q : PR} {i : Nat} {H : LH}, heapUp (fun _ => true) H i (s ++ [q]) = hput (heapUp (fun _ => true) H i s) q
  | [], q, i, H => rfl
  | y :: s, q, i, H => by
    simp only [List.cons_append, heapUp]
    exact heapUp_snoc
theorem envUp_congr' {S T : Nat → Bool} : ∀ {r : List Oper} {s : List PR} {i : Nat} {env : Env}, (∀ k, k < s.length → S (i + k) = T (i + k)) → envUp S env i r s = envUp T env i r s
  | [], _, _, _, _ => by simp [envUp]
  | o :: r, [], _, _, _ => by simp [envUp]
  | o :: r, p :: s, i, env, h => by
    have h1 := h 0 (by simp)
    rw [Nat.add_zero] at h1
    simp only [envUp, h1]
    exact envUp_congr' (fun k hk => by rw [show i + 1 + k = i + (k + 1) by omega]; exact h (k + 1) (by simp; omega))
def nidUp (nid : Nat) (p : PR) : Nat :=
  match p.plan with
  | .new _ => nid + 1
  | _ => nid
section
variable {P : Program} {tab : Tab} {c : Ctx} {Q : Exit → Env → LH → Prop} {id : Nat} {arr : Array Oper} {k : List Frm} {env0 : Env} {H0 : LH} {nA : Nat}
theorem DGood.snoc {Hp : LH} {n : Nat} {o : Oper} {r : List Oper} {env : Env} {H : LH} {nid : Nat} {acc : List PR} (h : DGood P n arr env0 Hp ⟨o :: r, env, H, nid, acc⟩) {q : PR} (hq : DOk P n arr o env H q) (nid' : Nat) :
    DGood P n arr env0 Hp ⟨r, eput env o.dst q.v, hput H q, nid', acc ++ [q]⟩ := by
  obtain ⟨⟨p, hp, hl⟩, he, hh, hok⟩ := h
  simp only at hp hl he hh hok
  have ht : ∀ i, i ≤ acc.length → tEnv arr (acc ++ [q]) env0 i = tEnv arr acc env0 i := fun i hi => envUp_acc (fun j hj => decide_eq_false (by omega))
  have hh2 : ∀ i, i ≤ acc.length → tHeap (acc ++ [q]) Hp i = tHeap acc Hp i := fun i hi => heapUp_acc (fun j hj => decide_eq_false (by omega))
  refine ⟨⟨p ++ [o], by rw [hp]; simp, by simp [hl]⟩, ?_, ?_, ?_⟩
  · show eput env o.dst q.v = envUp (fun _ => true) env0 0 arr.toList (acc ++ [q])
    rw [he, hp, envUp_snoc hl]
  · show hput H q = heapUp (fun _ => true) Hp 0 (acc ++ [q])
    rw [hh, heapUp_snoc]
  · intro i o' p' ho hp'
    simp only at hp' ⊢
    rcases Nat.lt_or_ge i acc.length with h1 | h1
    · rw [List.getElem?_append_left h1] at hp'
      rw [ht i (by omega), hh2 i (by omega)]
      exact hok i o' p' ho hp'
    · have hi : i = acc.length := by
        have := (List.getElem?_eq_some_iff.1 hp').1
        simp at this; omega
      subst hi
      rw [List.getElem?_append_right (Nat.le_refl _)] at hp'
      simp at hp'
      subst hp'
      have ho' : arr.toList[acc.length]? = some o' := by simpa using ho
      rw [hp, ← hl, List.getElem?_append_right (Nat.le_refl _)] at ho'
      simp at ho'
      subst ho'
      rw [ht _ (Nat.le_refl _), hh2 _ (Nat.le_refl _)]
      have e1 : tEnv arr acc env0 acc.length = env := by
        rw [he]
        unfold tEnv
        exact envUp_congr' (fun j hj => by rw [Nat.zero_add]; exact decide_eq_true hj)
      have e2 : tHeap acc Hp acc.length = H := by
        rw [hh]
        unfold tHeap
        exact heapUp_congr (fun j hj => by rw [Nat.zero_add]; exact decide_eq_true hj)
      rw [e1, e2]; exact hq
theorem holds_drawStart (nA : Nat) {env : Env} {H : LH} (h : DHolds P c Q id arr k env H nA ⟨arr.toList, env, H ++ List.replicate nA none, H.length, []⟩) : Holds P c Q ⟨.run (.code (.region id arr true) :: k), env, H⟩ :=
  h ⟨⟨[], rfl, rfl⟩, by cases arr.toList <;> rfl, rfl, fun i o p _ hp => by simp at hp⟩
def forceP {β : Type} (p : PR) (k : PR → Option β) : Option β :=
  match p with
  | ⟨.new id, v, b⟩ => forceV v fun v' => forceB b fun b' => k ⟨.new id, v', b'⟩
  | ⟨.store id, v, b⟩ => forceV v fun v' => forceB b fun b' => k ⟨.store id, v', b'⟩
  | ⟨.val ids, v, b⟩ => forceV v fun v' => k ⟨.val ids, v', b⟩
  | ⟨.skip, v, b⟩ => k ⟨.skip, v, b⟩
theorem forceP_eq {β : Type} (p : PR) (k : PR → Option β) : forceP p k = k p := by
  obtain ⟨pl, v, b⟩ := p
  cases pl <;> simp only [forceP, forceV_eq, forceB_eq]
def hputF {β : Type} (H : LH) (p : PR) (k : LH → Option β) : Option β :=
  match p.plan with
  | .new id => forceH (H.set id (some p.blk)) k
  | .store id => forceH (H.set id (some p.blk)) k
  | _ => k H
theorem hputF_eq {β : Type} (H : LH) (p : PR) (k : LH → Option β) : hputF H p k = k (hput H p) := by
  obtain ⟨pl, v, b⟩ := p
  cases pl <;> simp only [hputF, hput, forceH_eq]
def accUp : List PR → PR → (List PR → Option DSt) → Option DSt
  | [], q, k => k [q]
  | p :: r, q, k => accUp r q fun r' => k (p :: r')
theorem accUp_eq : ∀ (l : List PR) (q : PR) (k : List PR → Option DSt), accUp l q k = k (l ++ [q])
  | [], _, _ => rfl
  | p :: r, q, k => accUp_eq r q _
def dstep (tab : Tab) (arr : Array Oper) (n : Nat) : DSt → Option DSt
  | ⟨[], _, _, _, _⟩ => none
  | ⟨o :: r, env, H, nid, acc⟩ => cond (dstOk n o) (match litId nid with
    | some nid => match dplan tab arr env H nid o with
      | some p => forceP p fun p => hputF H p fun H' => accUp acc p fun acc' => (match o.dst with
        | none => some ⟨r, env, H', nidUp nid p, acc'⟩
        | some d => some ⟨r, (d, p.v) :: env, H', nidUp nid p, acc'⟩)
      | none => none
    | none => none) none
theorem dstep_ok (hT : TOk P tab) {s s' : DSt} (h : dstep tab arr c.n s = some s') (hh : DHolds P c Q id arr k env0 H0 nA s') : DHolds P c Q id arr k env0 H0 nA s := by
  intro hg
  obtain ⟨todo, env, H, nid, acc⟩ := s
  cases todo with
  | nil => cases h
  | cons o r =>
    simp only [dstep] at h
    cases hd : dstOk c.n o with
    | false => rw [hd] at h; cases h
    | true =>
      rw [hd] at h
      simp only [cond_true] at h
      split at h
      · rename_i nid' hn
        split at h
        · rename_i p hp
          rw [forceP_eq, hputF_eq, accUp_eq] at h
          have e : (match o.dst with
            | none => some (⟨r, env, hput H p, nidUp nid' p, acc ++ [p]⟩ : DSt)
            | some d => some ⟨r, (d, p.v) :: env, hput H p, nidUp nid' p, acc ++ [p]⟩) = some ⟨r, eput env o.dst p.v, hput H p, nidUp nid' p, acc ++ [p]⟩ := by
            cases o.dst <;> rfl
          rw [e] at h
          obtain rfl := Option.some.inj h
          exact hh (hg.snoc (dplan_ok hT hp hd) _)
        · cases h
      · cases h
/-- A guard may look at it: a bool that is moved, and of which no more is known than a term. -/
def dstop : DSt → Bool
  | ⟨o :: _, env, _, _, _⟩ => match o.op with
    | .move x => match ev env x with
      | some (.a (.c (.bool (.var _)))) => true
      | _ => false
    | _ => false
  | _ => false
def dexec (tab : Tab) (arr : Array Oper) (n : Nat) : Nat → DSt → DSt
  | 0, s => s
  | m + 1, s => cond (dstop s) s (match dstep tab arr n s with
    | some s' => dexec tab arr n m s'
    | none => s)
theorem dexec_ok (hT : TOk P tab) : ∀ (m : Nat) {s : DSt}, DHolds P c Q id arr k env0 H0 nA (dexec tab arr c.n m s) → DHolds P c Q id arr k env0 H0 nA s
  | 0, _, h => h
  | m + 1, s, h => by
    unfold dexec at h
    cases hb : dstop s with
    | true => rw [hb] at h; exact h
    | false =>
      rw [hb, cond_false] at h
      split at h
      · rename_i s' hs
        exact dstep_ok hT hs (dexec_ok hT m h)
      · exact h
/-- The bool that is moved is known. -/
theorem dholds_move (hT : TOk P tab) {o : Oper} {rest : List Oper} {env : Env} {H : LH} {nid : Nat} {acc : List PR} {x : Operand} {b : Bool} (r : Bool) (ho : o.op = .move x) (hg : lguard arr env o = some true) (hx : ev env x = some (.a (.c (.bool (.var b))))) (hd : dstOk c.n o = true) (hr : b = r)
    (h : DHolds P c Q id arr k env0 H0 nA ⟨rest, eput env o.dst (.a (.c (.bool (.lit r)))), H, nid, acc ++ [⟨.val [], .a (.c (.bool (.lit r))), default⟩]⟩) : DHolds P c Q id arr k env0 H0 nA ⟨o :: rest, env, H, nid, acc⟩ := by
  subst hr
  intro hgd
  have hp : dplan tab arr env H nid o = some ⟨.val [], .a (.c (.bool (.var b))), default⟩ := by
    unfold dplan
    rw [hg, ho]
    simp [lpure, hx]
  obtain ⟨h1, h2, h3⟩ := dplan_ok (P := P) hT hp hd
  exact h (hgd.snoc (q := ⟨.val [], .a (.c (.bool (.lit b))), default⟩) ⟨h1, h2, fun F η Hs envS a w h4 h5 h6 h7 => ⟨in_none rfl, (h3 F η Hs envS a w h4 h5 h6 h7).2⟩⟩ _)
theorem dholds_call {o : Oper} {r : List Oper} {env : Env} {H : LH} {nid : Nat} {acc : List PR} (hg : lguard arr env o = some true) {f : FuncId} {args : List LV} (hc : lcallee env o.op = some (f, args)) {v : LV} {ids : List Nat}
    (C : LRo P f args v ids H) (hd : dstOk c.n o = true) (h : DHolds P c Q id arr k env0 H0 nA ⟨r, eput env o.dst v, H, nid, acc ++ [⟨.val ids, v, default⟩]⟩) : DHolds P c Q id arr k env0 H0 nA ⟨o :: r, env, H, nid, acc⟩ :=
  fun hgd => h (hgd.snoc (q := ⟨.val ids, v, default⟩) (dcall_ok hg hc hd C.2.1 C.1 C.2.2) _)
theorem dholds_end (hm : P.follows .mixedOrders = true) {env : Env} {H : LH} {nid : Nat} {acc : List PR} (hchk : drawOk arr acc H0.length nA = true) (h : Holds P c Q ⟨.run k, env, H⟩) : DHolds P c Q id arr k env0 H0 nA ⟨[], env, H, nid, acc⟩ := by
  intro hg
  refine holds_draw hm acc nA hchk hg.ok ?_
  rw [← hg.env, ← hg.heap]; exact h
/-- A bool in a slot is known. -/
theorem dholds_bool {p : DSt} (t : Nat) {b r : Bool} (hb : lk env0 t = some (.a (.c (.bool (.var b))))) (hr : b = r) {env1 : Env} (he : env1 = (t, .a (.c (.bool (.lit r)))) :: env0)
    (h : Holds P c Q ⟨.run (.code (.region id arr true) :: k), env1, H0⟩) : Holds P c Q ⟨.run (.code (.region id arr true) :: k), env0, H0⟩ := by
  subst he
  exact holds_bool t hb hr h
end
/-! ### slots in other words -/
def LV.same (v u : LV) : Prop := (∀ η, v.den η = u.den η) ∧ ∀ F, u.In F → v.In F
theorem LV.same_refl (v : LV) : v.same v := ⟨fun _ => rfl, fun _ h => h⟩
theorem same_cell {c d : LC} (h : ∀ η, c.den η = d.den η) (hr : c.refs = []) : (LV.a (.c c)).same (LV.a (.c d)) := ⟨h, fun _ _ => in_none hr⟩
def EnvLe : Env → Env → Prop
  | [], _ => True
  | (t, v) :: r, env => (∃ u, lk env t = some u ∧ v.same u) ∧ EnvLe r env
theorem EnvLe.get : ∀ {e env : Env} {t : Nat} {v : LV}, EnvLe e env → lk e t = some v → ∃ u, lk env t = some u ∧ v.same u
  | [], _, _, _, _, h => by simp [lk] at h
  | (s, x) :: r, env, t, v, h, hl => by
    rcases lk_put hl with ⟨rfl, rfl⟩ | ⟨_, hl⟩
    · exact h.1
    · exact h.2.get hl
theorem holds_le {P : Program} {c : Ctx} {Q : Exit → Env → LH → Prop} {p : Pt} {env env' : Env} {H : LH} (he : EnvLe env' env) (h : Holds P c Q ⟨p, env', H⟩) : Holds P c Q ⟨p, env, H⟩ := by
  intro η a w hx hd
  refine h η a w hx ⟨hd.defers, hd.size, fun t v ht => ?_⟩
  obtain ⟨u, hu, h1, h2⟩ := he.get ht
  obtain ⟨h3, h4⟩ := hd.slot t u hu
  exact ⟨h2 _ h3, by rw [h1]; exact h4⟩
/-- A loop's next round. -/
theorem holds_round {P : Program} {c : Ctx} {Q : Exit → Env → LH → Prop} {x : Code} {k : List Frm} {env : Env} {H : LH} (h : Holds P c Q ⟨.run (.code x :: .loopb x :: k), env, H⟩) : Holds P c Q ⟨.run (.loopb x :: k), env, H⟩ :=
  fun η a w hx hd => loop_once (h η a w hx hd)
/-- An address of an element of a slice, the index being in reach. -/
theorem holds_index {P : Program} {tab : Tab} (hT : TOk P tab) {c : Ctx} {Q : Exit → Env → LH → Prop} {arr : Array Oper} {i : Nat} {l : List Nat} {k : List Frm} {env : Env} {H : LH} {o : Oper} (ho : arr[i]? = some o) (hg : lguard arr env o = some true) {t : Nat} {x ix : Operand} (hop : o.op = .indexAddr t x ix)
    {ti tj : TI} {e : Nat} (ht : tyOf tab t = some ti) (hk : ti.kind = .slice e) (hj : tyOf tab e = some tj) {j : Nat} {off len : NE} {cap : Option Nat} (hx : ev env x = some (.a (.c (.slice j off len tj.size cap)))) {kk : IntKind} {m : IE} (hix : ev env ix = some (.a (.c (.int kk m))))
    {q : Nat} (hq : m.v = (q : Int)) (hlt : q < len.v) {d : Nat} (hdst : o.dst = some d) (hd : d < c.n) (h : Holds P c Q ⟨.ops arr l k, (d, .a (.c (.ptr j (.var (off.v + q * tj.size))))) :: env, H⟩) : Holds P c Q ⟨.ops arr (i :: l) k, env, H⟩ := by
  intro η a w hx' hd'
  simp only [At]
  unfold wpOps
  simp only [ho]
  rw [if_pos (lguard_ok hd' hg)]
  left
  unfold Oper.wp
  obtain ⟨h1, h2⟩ := ev_den hd' hx
  obtain ⟨h3, _⟩ := ev_den hd' hix
  have hr : (execOp a.eval o).run P w = .ok (.value ((LV.a (.c (.ptr j (.var (off.v + q * tj.size))))).den η)) w := by
    simp only [execOp, hop]
    refine run_val ?_
    rw [h1, h3]
    simp only [LV.den, LA.den, LC.den]
    rw [run_indexAt_slice (kind_slice (tfacts hT ht) hk) (tfacts hT hj) _ _ (by rw [hq]; omega) (by rw [hq]; omega), add_add, hq]
    rfl
  rw [hr, Oper.upon_value, hdst]
  have h5 : (LV.a (.c (.ptr j (.var (off.v + q * tj.size))))).In (· < H.length) := in_ptr (F := (· < H.length)) (of_slice (F := (· < H.length)) h2)
  exact h η _ w hx' (hd'.put hd h5)
/-- A load out of a block that isn't written out. -/
theorem holds_load {P : Program} {tab : Tab} (hT : TOk P tab) {c : Ctx} {Q : Exit → Env → LH → Prop} {arr : Array Oper} {i : Nat} {l : List Nat} {k : List Frm} {env : Env} {H : LH} {o : Oper} (ho : arr[i]? = some o) (hg : lguard arr env o = some true) {t : Nat} {x : Operand} (hop : o.op = .load t x)
    {ti : TI} (ht : tyOf tab t = some ti) {j : Nat} {off : NE} (hx : ev env x = some (.a (.c (.ptr j off)))) {b : LBlk} (hb : H[j]? = some (some b)) (hr : off.v + ti.size ≤ b.cells.length) {v : LA} (hv : asVar ti ((b.cells.drop off.v).take ti.size) = some v)
    {d : Nat} (hdst : o.dst = some d) (hd : d < c.n) (h : Holds P c Q ⟨.ops arr l k, (d, .a v) :: env, H⟩) : Holds P c Q ⟨.ops arr (i :: l) k, env, H⟩ := by
  intro η a w hx' hd'
  simp only [At]
  unfold wpOps
  simp only [ho]
  rw [if_pos (lguard_ok hd' hg)]
  left
  unfold Oper.wp
  obtain ⟨h1, h2⟩ := run_load_op (P := P) hT hx'.sim hop ht (ev_den hd' hx).1 hb rfl hr hv
  rw [h2, Oper.upon_value, hdst]
  exact h η _ w hx' (hd'.put hd h1)
/-- A loop that counts. -/
theorem holds_count {P : Program} {c : Ctx} {Q : Exit → Env → LH → Prop} {x : Code} {k : List Frm} {env : Env} {H : LH} (n : Nat) (E : Nat → Env) (G : Nat → LH) (I : Nat → Prop) (h0 : I 0) (he : EnvLe (E 0) env) (hG : G 0 = H)
    (round : ∀ i, i < n → I i → (I (i + 1) → Holds P c Q ⟨.run (.loopb x :: k), E (i + 1), G (i + 1)⟩) → Holds P c Q ⟨.run (.code x :: .loopb x :: k), E i, G i⟩)
    (done : I n → Holds P c Q ⟨.run (.code x :: .loopb x :: k), E n, G n⟩) : Holds P c Q ⟨.run (.loopb x :: k), env, H⟩ := by
  have main : ∀ m i, n - i = m → i ≤ n → I i → Holds P c Q ⟨.run (.loopb x :: k), E i, G i⟩ := by
    intro m
    induction m with
    | zero =>
      intro i hi hle hI
      obtain rfl : i = n := by omega
      exact holds_round (done hI)
    | succ m ih =>
      intro i hi hle hI
      exact holds_round (round i (by omega) hI (fun hI' => ih (i + 1) (by omega) (by omega) hI'))
  subst hG
  exact holds_le he (main n 0 (by omega) (by omega) h0)
end Go.Proofs.Ytbkcaedlijhnlaa.LB
