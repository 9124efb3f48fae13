/- Regions of open order: the theorem. -/
import Derived.Test.YtbkcaedlijhnlaaLE
import Derived.Orders
namespace Go.Proofs.Ytbkcaedlijhnlaa.LB
open Go Go.RowKit
def Agree (o : Oper) (envS env : Env) : Prop := ∀ x ∈ o.op.operands.toList, ev envS x = ev env x
/-- What is to be shown of an operation: once, for whatever came up before it. -/
def DOk (P : Program) (n : Nat) (arr : Array Oper) (o : Oper) (env : Env) (H : LH) (p : PR) : Prop :=
  (∀ d, o.dst = some d → d < n) ∧
  match p.plan with
  | .skip => lguard arr env o = some false ∧ p.v = .tup []
  | .val ids => lguard arr env o = some true ∧ ∀ F η Hs envS a w, Agree o envS env → (∀ k ∈ ids, Hs[k]? = H[k]?) → Sim F η Hs w → Den n F η envS a →
      p.v.In F ∧ ∀ K Q, (∀ w', Kept (fun _ => False) w w' → K (a.put o.dst (p.v.den η)) w') → o.wp P a w K Q
  | .new id => lguard arr env o = some true ∧ ∀ F η (Hs : LH) envS a w, Agree o envS env → Sim F η Hs w → Den n F η envS a →
      (∀ c ∈ p.blk.cells, c.In F) ∧ p.v.In (fun k => F k ∨ k = id) ∧ MakesB P o a η w id p.blk p.v
  | .store id => lguard arr env o = some true ∧ p.v = .tup [] ∧ ∀ F η Hs envS a w, Agree o envS env → Hs[id]? = H[id]? → Sim F η Hs w → Den n F η envS a →
      ∃ b w', Hs[id]? = some (some b) ∧ b.own = true ∧ (execOp a.eval o).run P w = .ok .skip w' ∧ Sim F η (Hs.set id (some p.blk)) w' ∧ Kept (· = (η id).addr.block) w w'
theorem Sim.mono {F F' : Nat → Prop} {η : Eta} {H : LH} {w : World} (h : Sim F η H w) (hm : ∀ k, F k → F' k) : Sim F' η H w :=
  ⟨fun i b hi => ⟨hm i (h.inn i b hi).1, fun c hc => ((h.inn i b hi).2 c hc).mono hm⟩, h.cell, h.room, h.own, h.apart⟩
theorem mem_opTmps {t : Nat} : ∀ {l : List Operand}, Operand.tmp t ∈ l → t ∈ opTmps l
  | [], h => by cases h
  | x :: r, h => by
    rcases List.mem_cons.1 h with rfl | h
    · simp [opTmps]
    · have h1 := mem_opTmps h
      cases x <;> simp [opTmps, h1]
theorem agree_of {arr : Array Oper} {o : Oper} {envS env : Env} (h : ∀ t ∈ looks arr o, lk envS t = lk env t) : Agree o envS env ∧ lguard arr envS o = lguard arr env o := by
  constructor
  · intro x hx
    cases x with
    | tmp t => exact h t (by unfold looks; exact List.mem_append_left _ (mem_opTmps hx))
    | _ => rfl
  · unfold lguard
    cases hg : o.guard with
    | none => rfl
    | some q =>
      obtain ⟨j, want⟩ := q
      simp only
      cases hj : arr[j]? with
      | none => rfl
      | some oj =>
        simp only
        cases hd : oj.dst with
        | none => rfl
        | some d =>
          simp only
          rw [h d (by unfold looks; refine List.mem_append_right _ ?_; simp [hg, hj, hd])]
section
variable {P : Program} {tab : Tab} {c : Ctx} {Q : Exit → Env → LH → Prop} {arr : Array Oper} {recs : List PR} {env : Env} {H Hp : LH} {nA : Nat}
/-- the blocks that are there -/
def Fs (S : Nat → Bool) (recs : List PR) (h0 : Nat) (k : Nat) : Prop := k < h0 ∨ ∃ (j : Nat) (p : PR), recs[j]? = some p ∧ p.plan = .new k ∧ S j = true
structure RInv (c : Ctx) (arr : Array Oper) (recs : List PR) (env : Env) (Hp : LH) (h0 : Nat) (S : Nat → Bool) (a : Act) (w : World) : Prop where
  closed : ClosedS arr S
  st : ∃ η, Sim (Fs S recs h0) η (heapUp S Hp 0 recs) w ∧ (∀ i, i < c.H0.length → η i = c.η0 i) ∧ Kept (Img c.η0 c.H0) c.w0 w ∧
    (∀ (i : Nat) (b : LBlk), (heapUp S Hp 0 recs)[i]? = some (some b) → b.own = true → Img c.η0 c.H0 (η i).addr.block ∨ c.w0.heap.size ≤ (η i).addr.block) ∧
    Den c.n (Fs S recs h0) η (envUp S env 0 arr.toList recs) a
theorem newIds_mem : ∀ {recs : List PR} {j id : Nat} {p : PR}, recs[j]? = some p → p.plan = .new id → id ∈ newIds recs
  | [], _, _, _, h, _ => by simp at h
  | q :: r, 0, id, p, h, hp => by
    simp at h
    subst h
    simp [newIds, hp]
  | q :: r, j + 1, id, p, h, hp => by
    have h1 := newIds_mem (recs := r) (j := j) (by simpa using h) hp
    unfold newIds
    split
    · exact List.mem_cons_of_mem _ h1
    · exact h1
theorem newIds_inj : ∀ {recs : List PR}, (newIds recs).Nodup → ∀ {j k id : Nat} {p q : PR}, recs[j]? = some p → recs[k]? = some q → p.plan = .new id → q.plan = .new id → j = k
  | [], _, _, _, _, _, _, h, _, _, _ => by simp at h
  | x :: r, hn, 0, 0, _, _, _, _, _, _, _ => rfl
  | x :: r, hn, 0, k + 1, id, p, q, h, h', hp, hq => by
    simp at h
    subst h
    have h1 := newIds_mem (recs := r) (by simpa using h') hq
    unfold newIds at hn
    rw [hp] at hn
    exact absurd h1 (List.nodup_cons.1 hn).1
  | x :: r, hn, j + 1, 0, id, p, q, h, h', hp, hq => by
    simp at h'
    subst h'
    have h1 := newIds_mem (recs := r) (by simpa using h) hp
    unfold newIds at hn
    rw [hq] at hn
    exact absurd h1 (List.nodup_cons.1 hn).1
  | x :: r, hn, j + 1, k + 1, id, p, q, h, h', hp, hq => by
    have hn' : (newIds r).Nodup := by
      unfold newIds at hn
      split at hn
      · exact (List.nodup_cons.1 hn).2
      · exact hn
    exact congrArg (· + 1) (newIds_inj hn' (by simpa using h) (by simpa using h') hp hq)
theorem upFrom_mem : ∀ {n b x : Nat}, x ∈ upFrom b n ↔ b ≤ x ∧ x < b + n
  | 0, b, x => by simp [upFrom]
  | n + 1, b, x => by
    simp only [upFrom, List.mem_cons, upFrom_mem]
    omega
theorem upFrom_nodup : ∀ {n b : Nat}, (upFrom b n).Nodup
  | 0, b => by simp [upFrom]
  | n + 1, b => by
    simp only [upFrom, List.nodup_cons]
    exact ⟨fun h => by have := upFrom_mem.1 h; omega, upFrom_nodup⟩
/-- The text's own states. -/
def tEnv (arr : Array Oper) (recs : List PR) (env : Env) (i : Nat) : Env := envUp (fun j => decide (j < i)) env 0 arr.toList recs
def tHeap (recs : List PR) (Hp : LH) (i : Nat) : LH := heapUp (fun j => decide (j < i)) Hp 0 recs
theorem draw_step {h0 : Nat} (hh0 : c.H0.length ≤ h0) (hchk : drawOk arr recs h0 nA = true) (hHp : Hp.length = h0 + nA) (hdo : ∀ (i : Nat) (o : Oper) (p : PR), arr[i]? = some o → recs[i]? = some p → DOk P c.n arr o (tEnv arr recs env i) (tHeap recs Hp i) p)
    {R : Exit → Act → World → Prop} {S : Nat → Bool} {a : Act} {w : World} (hI : RInv c arr recs env Hp h0 S a w) (hout : ∀ j, arr.size ≤ j → S j = false) {i : Nat} (hSi : S i = false) {o : Oper} (ho : arr[i]? = some o) (hpre : PredsIn S o)
    {K : Act → World → Prop} (hK : ∀ a' w', RInv c arr recs env Hp h0 (fun j => S j || j == i) a' w' → K a' w') : wpOp P arr R i K a w := by
  simp only [drawOk, Bool.and_eq_true, beq_iff_eq] at hchk
  obtain ⟨hrows, hnew⟩ := hchk
  obtain ⟨hlen, hrow⟩ := rowsOk_get hrows
  have hi : i < arr.size := (Array.getElem?_eq_some_iff.1 ho).1
  have hlo : arr.toList[i]? = some o := by simpa using ho
  have hir : i < recs.length := by rw [← hlen]; simpa using hi
  obtain ⟨p, hp⟩ : ∃ p, recs[i]? = some p := ⟨_, List.getElem?_eq_getElem hir⟩
  obtain ⟨hri, _⟩ := hrow i o p hlo hp
  rw [Nat.zero_add] at hri
  obtain ⟨hcl, η, hsim, hon, hkept, hmine, hden⟩ := hI
  -- what is comparable
  have hcmp : ∀ (j : Nat) (oj : Oper), arr[j]? = some oj → j ≠ i → cmpB (masksOf [] arr.toList) i j = true → S j = decide (j < i) := by
    intro j oj hj hji hc
    unfold cmpB at hc
    rcases Nat.lt_or_ge j i with h1 | h1
    · rw [show Nat.blt j i = true by rw [Nat.blt_eq]; exact h1] at hc
      rw [decide_eq_true h1]
      exact mask_ok hcl ho hpre hc
    · rw [show Nat.blt j i = false by rw [← Bool.not_eq_true, Nat.blt_eq]; omega] at hc
      rw [decide_eq_false (by omega)]
      cases hSj : S j with
      | false => rfl
      | true =>
        have := mask_ok hcl hj (hcl j oj hj hSj) hc
        rw [hSi] at this; cases this
  have hpair : ∀ (j : Nat) (oj : Oper) (pj : PR), arr[j]? = some oj → recs[j]? = some pj → j ≠ i → (meets (looks arr o ++ dstL o) (dstL oj) = true ∨ meets p.plan.touch pj.plan.mods = true) → S j = decide (j < i) := by
    intro j oj pj hj hpj hji hm
    have h1 := rowOk_get hri j oj pj (by simpa using hj) hpj
    rw [Nat.zero_add] at h1
    unfold pairOk at h1
    have h2 : Nat.beq i j = false := by
      cases hb : Nat.beq i j with
      | false => rfl
      | true => exact absurd (Nat.eq_of_beq_eq_true hb).symm hji
    have h3 : (meets (looks arr o ++ dstL o) (dstL oj) || meets p.plan.touch pj.plan.mods) = true := by
      rcases hm with hm | hm <;> simp [hm]
    rw [h2, h3] at h1
    exact hcmp j oj hj hji h1
  have hdec : ∀ j, j = i → S j = decide (j < i) := fun j e => by subst e; rw [hSi, decide_eq_false (Nat.lt_irrefl _)]
  -- the slots that it looks at, and its own
  have hslot : ∀ t, t ∈ looks arr o ++ dstL o → lk (envUp S env 0 arr.toList recs) t = lk (tEnv arr recs env i) t := by
    intro t ht
    refine envUp_lk rfl (fun j oj hj hd => ?_)
    rw [Nat.zero_add]
    by_cases hji : j = i
    · exact hdec j hji
    · have hj' : arr[j]? = some oj := by simpa using hj
      have hjr : j < recs.length := by rw [← hlen]; exact (List.getElem?_eq_some_iff.1 hj).1
      exact hpair j oj _ hj' (List.getElem?_eq_getElem hjr) hji (.inl (meets_of ht (by simp [dstL, hd])))
  have hblk : ∀ k, k ∈ p.plan.touch → (heapUp S Hp 0 recs)[k]? = (tHeap recs Hp i)[k]? := by
    intro k hk
    refine heapUp_get rfl rfl (fun j pj hj hm => ?_)
    rw [Nat.zero_add]
    by_cases hji : j = i
    · exact hdec j hji
    · have hjl : j < arr.toList.length := by rw [hlen]; exact (List.getElem?_eq_some_iff.1 hj).1
      have hj' : arr[j]? = some arr.toList[j] := by
        rw [← List.getElem?_eq_getElem hjl]; simp
      exact hpair j _ pj hj' hj hji (.inr (meets_of hk hm))
  obtain ⟨hag, hlg⟩ := agree_of (arr := arr) (o := o) (fun t ht => hslot t (List.mem_append_left _ ht))
  have hS' : ∀ j, (S j || j == i) = true ↔ S j = true ∨ j = i := fun j => by rw [Bool.or_eq_true, beq_iff_eq]
  -- what is closed stays so
  have hcl' : ClosedS arr (fun j => S j || j == i) := by
    intro j oj hj hSj e he hb
    rcases (hS' j).1 hSj with h1 | h1
    · exact (hS' _).2 (.inl (hcl j oj hj h1 e he hb))
    · subst h1
      rw [ho] at hj
      obtain rfl := Option.some.inj hj
      exact (hS' _).2 (.inl (hpre e he hb))
  obtain ⟨hdn, hd⟩ := hdo i o p ho hp
  have hdstval : ∀ t, o.dst = some t → lk (envUp (fun j => S j || j == i) env 0 arr.toList recs) t = some p.v := by
    intro t hdst
    have h1 : lk (envUp (fun j => S j || j == i) env 0 arr.toList recs) t = lk (envUp (fun j => decide (j < 0 + i + 1)) env 0 arr.toList recs) t := by
      refine envUp_lk rfl (fun j oj hj hd' => ?_)
      rw [Nat.zero_add, Nat.zero_add]
      by_cases hji : j = i
      · subst hji; simp
      · have hj' : arr[j]? = some oj := by simpa using hj
        have hjr : j < recs.length := by rw [← hlen]; exact (List.getElem?_eq_some_iff.1 hj).1
        have h2 := hpair j oj _ hj' (List.getElem?_eq_getElem hjr) hji (.inl (meets_of (x := t) (List.mem_append_right _ (by simp [dstL, hdst])) (by simp [dstL, hd'])))
        rw [h2]
        rcases Nat.lt_or_ge j i with h3 | h3
        · rw [decide_eq_true h3, decide_eq_true (by omega : j < i + 1)]; rfl
        · rw [decide_eq_false (by omega), decide_eq_false (by omega : ¬ j < i + 1)]
          simp [hji]
    rw [h1]
    exact envUp_at (b := 0) (k := i) hlo hp hdst
  have hoth : ∀ t, o.dst ≠ some t → lk (envUp (fun j => S j || j == i) env 0 arr.toList recs) t = lk (envUp S env 0 arr.toList recs) t := by
    intro t hdst
    refine envUp_lk rfl (fun j oj hj hd' => ?_)
    rw [Nat.zero_add]
    have hji : j ≠ i := fun e => by
      subst e
      rw [hlo] at hj
      obtain rfl := Option.some.inj hj
      exact hdst hd'
    simp [hji]
  have hden' : ∀ {F' : Nat → Prop} {η' : Eta}, (∀ k, Fs S recs h0 k → F' k) → (∀ k, Fs S recs h0 k → η' k = η k) → p.v.In F' → Den c.n F' η' (envUp (fun j => S j || j == i) env 0 arr.toList recs) (a.put o.dst (p.v.den η')) := by
    intro F' η' hF hη hv
    have hd0 := hden.mono hF hη
    refine ⟨by cases o.dst <;> exact hd0.defers, by cases o.dst <;> simp [Act.put, hd0.size], fun t u ht => ?_⟩
    by_cases hdst : o.dst = some t
    · rw [hdstval t hdst] at ht
      obtain rfl := Option.some.inj ht
      refine ⟨hv, ?_⟩
      rw [hdst]
      simp only [Act.put]
      rw [Array.getElem?_setIfInBounds_self_of_lt (by rw [hd0.size]; exact hdn t hdst)]
    · rw [hoth t hdst] at ht
      obtain ⟨h1, h2⟩ := hd0.slot t u ht
      refine ⟨h1, ?_⟩
      cases hod : o.dst with
      | none => exact h2
      | some d =>
        simp only [Act.put]
        rw [Array.getElem?_setIfInBounds_ne (fun e => hdst (by rw [hod, e]))]
        exact h2
  have hFs : ∀ k, Fs S recs h0 k → Fs (fun j => S j || j == i) recs h0 k := by
    rintro k (h1 | ⟨j, q, h1, h2, h3⟩)
    · exact .inl h1
    · exact .inr ⟨j, q, h1, h2, by simp [h3]⟩
  have hheap_same : p.plan.mods = [] → ∀ k : Nat, (heapUp (fun j => S j || j == i) Hp 0 recs)[k]? = (heapUp S Hp 0 recs)[k]? := by
    intro hm k
    refine heapUp_get rfl rfl (fun j pj hj hkm => ?_)
    rw [Nat.zero_add]
    have hji : j ≠ i := fun e => by
      subst e
      rw [hp] at hj
      obtain rfl := Option.some.inj hj
      rw [hm] at hkm; cases hkm
    simp [hji]
  have hheap_mod : ∀ id, p.plan.mods = [id] → id < Hp.length → heapUp (fun j => S j || j == i) Hp 0 recs = (heapUp S Hp 0 recs).set id (some p.blk) := by
    intro id hm hid
    apply List.ext_getElem?
    intro k
    by_cases hk : k = id
    · subst hk
      rw [List.getElem?_set_self (by rw [heapUp_length]; exact hid)]
      have h1 : (heapUp (fun j => S j || j == i) Hp 0 recs)[k]? = (heapUp (fun j => decide (j < 0 + i + 1)) Hp 0 recs)[k]? := by
        refine heapUp_get rfl rfl (fun j pj hj hkm => ?_)
        rw [Nat.zero_add, Nat.zero_add]
        by_cases hji : j = i
        · subst hji; simp
        · have hjl : j < arr.toList.length := by rw [hlen]; exact (List.getElem?_eq_some_iff.1 hj).1
          have hj' : arr[j]? = some arr.toList[j] := by
            rw [← List.getElem?_eq_getElem hjl]; simp
          have htouch : k ∈ p.plan.touch := by
            cases hpl : p.plan <;> rw [hpl] at hm <;> simp [Plan.mods] at hm <;> simp [Plan.touch, hm]
          have h2 := hpair j _ pj hj' hj hji (.inr (meets_of htouch hkm))
          rw [h2]
          rcases Nat.lt_or_ge j i with h3 | h3
          · rw [decide_eq_true h3, decide_eq_true (by omega : j < i + 1)]; rfl
          · rw [decide_eq_false (by omega), decide_eq_false (by omega : ¬ j < i + 1)]
            simp [hji]
      rw [h1]
      exact heapUp_at (b := 0) (k := i) hp (by rw [hm]; simp) hid
    · rw [List.getElem?_set_ne (Ne.symm hk)]
      refine heapUp_get rfl rfl (fun j pj hj hkm => ?_)
      rw [Nat.zero_add]
      have hji : j ≠ i := fun e => by
        subst e
        rw [hp] at hj
        obtain rfl := Option.some.inj hj
        rw [hm] at hkm
        simp at hkm
        exact hk hkm
      simp [hji]
  unfold wpOp
  simp only [ho]
  cases hpl : p.plan with
  | skip =>
    rw [hpl] at hd
    simp only at hd
    obtain ⟨hg, hv⟩ := hd
    rw [if_neg (by rw [lguard_ok hden (hlg.trans hg)]; simp)]
    refine hK _ _ ⟨hcl', η, ?_⟩
    have hh : heapUp (fun j => S j || j == i) Hp 0 recs = heapUp S Hp 0 recs := List.ext_getElem? (hheap_same (by rw [hpl]; rfl))
    rw [hh]
    have hd1 := hden' hFs (fun _ _ => rfl) (by rw [hv]; exact fun x hx => by cases hx)
    rw [hv] at hd1
    exact ⟨hsim.mono hFs, hon, hkept, hmine, hd1⟩
  | val ids =>
    rw [hpl] at hd
    simp only at hd
    obtain ⟨hg, hd⟩ := hd
    rw [if_pos (lguard_ok hden (hlg.trans hg))]
    obtain ⟨hv, hwp⟩ := hd _ η _ _ a w hag (fun k hk => hblk k (by rw [hpl]; exact hk)) hsim hden
    left
    refine hwp _ _ (fun w' hk => hK _ _ ⟨hcl', η, ?_⟩)
    have hh : heapUp (fun j => S j || j == i) Hp 0 recs = heapUp S Hp 0 recs := List.ext_getElem? (hheap_same (by rw [hpl]; rfl))
    rw [hh]
    refine ⟨(hsim.kept (fun b hb => hk.block b hb (fun h => h))).mono hFs, hon, hkept.trans hk (fun _ _ h => h.elim), hmine, hden' hFs (fun _ _ => rfl) (hv.mono hFs)⟩
  | new id =>
    rw [hpl] at hd
    simp only at hd
    obtain ⟨hg, hd⟩ := hd
    rw [if_pos (lguard_ok hden (hlg.trans hg))]
    obtain ⟨hcin, hvin, hmk⟩ := hd _ η _ _ a w hag hsim hden
    have hidr := upFrom_mem.1 (hnew ▸ newIds_mem hp hpl)
    have hnF : ¬ Fs S recs h0 id := by
      rintro (h1 | ⟨j, q, h1, h2, h3⟩)
      · omega
      · have hnd : (newIds recs).Nodup := by rw [hnew]; exact upFrom_nodup
        have e := newIds_inj hnd h1 hp h2 hpl
        rw [e, hSi] at h3; cases h3
    have hhe := hheap_mod id (by rw [hpl]; rfl) (by omega)
    have hsz : id < (heapUp S Hp 0 recs).length := by rw [heapUp_length]; omega
    have hget : ∀ (k : Nat) (b : LBlk), ((heapUp S Hp 0 recs).set id (some p.blk))[k]? = some (some b) → (k = id ∧ b = p.blk) ∨ (k ≠ id ∧ (heapUp S Hp 0 recs)[k]? = some (some b)) := by
      intro k b hk
      by_cases hki : k = id
      · subst hki
        rw [List.getElem?_set_self hsz] at hk
        exact .inl ⟨rfl, (Option.some.inj (Option.some.inj hk)).symm⟩
      · rw [List.getElem?_set_ne (Ne.symm hki)] at hk
        exact .inr ⟨hki, hk⟩
    have hs2 := hsim.alloc hnF hcin (Nat.le_refl _) (cs := (p.blk.cells.map (LC.den η)).toArray) (by simp) (fun j c hj => cells_get hj) hget
    have hF2 : ∀ k, (Fs S recs h0 k ∨ k = id) → Fs (fun j => S j || j == i) recs h0 k := by
      rintro k (h1 | rfl)
      · exact hFs k h1
      · exact .inr ⟨i, p, hp, hpl, by simp⟩
    have hupd : ∀ k, Fs S recs h0 k → upd η id ⟨⟨w.heap.size, 0, none⟩, p.blk.cells.length⟩ k = η k := upd_on η _ hnF
    left
    unfold Oper.wp
    rw [hmk]
    refine hK _ _ ⟨hcl', upd η id ⟨⟨w.heap.size, 0, none⟩, p.blk.cells.length⟩, ?_⟩
    rw [hhe]
    refine ⟨hs2.mono hF2, ?_, hkept.trans (.alloc _ _ _) (fun _ _ h => h), ?_, hden' hFs hupd (hvin.mono hF2)⟩
    · intro k hk
      rw [upd_ne _ _ (fun e => by omega)]
      exact hon k hk
    · intro k b hk hb
      rcases hget k b hk with ⟨rfl, rfl⟩ | ⟨h1, h2⟩
      · rw [upd_self]; exact .inr hkept.size
      · rw [upd_ne _ _ h1]; exact hmine k b h2 hb
  | store id =>
    rw [hpl] at hd
    simp only at hd
    obtain ⟨hg, hv, hd⟩ := hd
    rw [if_pos (lguard_ok hden (hlg.trans hg))]
    obtain ⟨b, w', hb, hbo, hrun, hs2, hk2⟩ := hd _ η _ _ a w hag (hblk id (by rw [hpl]; simp [Plan.touch])) hsim hden
    have hid : id < Hp.length := by
      have h1 := (List.getElem?_eq_some_iff.1 hb).1
      rwa [heapUp_length] at h1
    have hhe := hheap_mod id (by rw [hpl]; rfl) hid
    left
    unfold Oper.wp
    rw [hrun]
    refine hK _ _ ⟨hcl', η, ?_⟩
    rw [hhe]
    have hd1 := hden' hFs (fun _ _ => rfl) (by rw [hv]; exact fun x hx => by cases hx)
    rw [hv] at hd1
    refine ⟨hs2.mono hFs, hon, hkept.trans hk2 (fun x hx e => ?_), ?_, hd1⟩
    · rcases hmine id b hb hbo with h1 | h1
      · exact e ▸ h1
      · omega
    · intro k d hk hd2
      by_cases hki : k = id
      · subst hki; exact hmine k b hb hbo
      · rw [List.getElem?_set_ne (Ne.symm hki)] at hk
        exact hmine k d hk hd2
theorem RInv.congr {h0 : Nat} {S S' : Nat → Bool} {a : Act} {w : World} (h : RInv c arr recs env Hp h0 S a w) (hS : ∀ j, S' j = S j) : RInv c arr recs env Hp h0 S' a w := by
  have e : S' = S := funext hS
  rw [e]; exact h
def cnt (n : Nat) (S : Nat → Bool) : Nat := (List.range n).countP fun j => !S j
theorem cnt_step {n i : Nat} {S S' : Nat → Bool} (hi : i < n) (hSi : S i = false) (h : ∀ j, S' j = (S j || j == i)) : cnt n S' + 1 = cnt n S := by
  induction n with
  | zero => omega
  | succ n ih =>
    unfold cnt at *
    rw [List.range_succ, List.countP_append, List.countP_append]
    simp only [List.countP_singleton]
    by_cases hin : i = n
    · subst hin
      have e1 : (List.range i).countP (fun j => !S' j) = (List.range i).countP (fun j => !S j) := by
        refine List.countP_congr (fun j hj => ?_)
        have hlt := List.mem_range.1 hj
        have hne : (j == i) = false := by simp; omega
        rw [h j, hne, Bool.or_false]
      rw [e1, h i, hSi]
      simp
    · have h1 := ih (by omega)
      have hne : (n == i) = false := by simp; omega
      rw [h n, hne, Bool.or_false]
      omega
theorem draw_all {h0 : Nat} (hh0 : c.H0.length ≤ h0) (hchk : drawOk arr recs h0 nA = true) (hHp : Hp.length = h0 + nA) (hdo : ∀ (i : Nat) (o : Oper) (p : PR), arr[i]? = some o → recs[i]? = some p → DOk P c.n arr o (tEnv arr recs env i) (tHeap recs Hp i) p)
    {R : Exit → Act → World → Prop} (hend : ∀ S a w, RInv c arr recs env Hp h0 S a w → (∀ j, j < arr.size → S j = true) → R .normal a w) :
    ∀ (fuel : Nat) (listed : Array Bool) (a : Act) (w : World), listed.size = arr.size → cnt arr.size (fun j => listed.getD j false) ≤ fuel → RInv c arr recs env Hp h0 (fun j => listed.getD j false) a w → wpAny P .any arr R fuel listed a w := by
  have hedge : ∀ (i : Nat) (o : Oper), arr[i]? = some o → ∀ e ∈ o.after.toList, Region.binds .any e = true → e.on < i := by
    intro i o ho
    have hchk' := hchk
    simp only [drawOk, Bool.and_eq_true] at hchk'
    obtain ⟨hlen, hrow⟩ := rowsOk_get hchk'.1
    have hlo : arr.toList[i]? = some o := by simpa using ho
    have hir : i < recs.length := by rw [← hlen]; exact (List.getElem?_eq_some_iff.1 hlo).1
    have h1 := (hrow i o _ hlo (List.getElem?_eq_getElem hir)).2
    rw [Nat.zero_add] at h1
    exact h1
  have hready : ∀ (listed : Array Bool), listed.size = arr.size → Region.ready .any arr listed = [] → ∀ j, j < arr.size → listed.getD j false = true := by
    intro listed hsz hr j
    induction j using Nat.strongRecOn with
    | ind j ih =>
      intro hj
      cases hS : listed.getD j false with
      | true => rfl
      | false =>
        have hm : j ∈ Region.ready .any arr listed := by
          rw [mem_ready]
          refine ⟨?_, _, Array.getElem?_eq_getElem hj, fun e he hb => ?_⟩
          · have hjl : j < listed.size := by omega
            simp only [Array.getD, hjl, dif_pos] at hS ⊢
            exact hS
          · have h1 := hedge j _ (Array.getElem?_eq_getElem hj) e (by simpa using he) hb
            exact ih e.on h1 (by omega)
        rw [hr] at hm; cases hm
  intro fuel
  induction fuel with
  | zero =>
    intro listed a w hsz hc hI
    have hall : ∀ j, j < arr.size → listed.getD j false = true := by
      intro j hj
      have h0 : cnt arr.size (fun j => listed.getD j false) = 0 := by omega
      unfold cnt at h0
      have := List.countP_eq_zero.1 h0 j (List.mem_range.2 hj)
      simpa using this
    refine ⟨?_, hend _ a w hI hall⟩
    apply List.eq_nil_iff_forall_not_mem.2
    intro j hj
    rw [mem_ready] at hj
    obtain ⟨h1, o, ho, _⟩ := hj
    have hja : j < arr.size := (Array.getElem?_eq_some_iff.1 ho).1
    have h2 := hall j hja
    have hjl : j < listed.size := by omega
    simp only [Array.getD, hjl, dif_pos] at h1 h2
    rw [h2] at h1; cases h1
  | succ fuel ih =>
    intro listed a w hsz hc hI
    refine ⟨fun hr => hend _ a w hI (hready listed hsz hr), fun i hi => ?_⟩
    rw [mem_ready] at hi
    obtain ⟨h1, o, ho, hpre⟩ := hi
    have hia : i < arr.size := (Array.getElem?_eq_some_iff.1 ho).1
    have hil : i < listed.size := by omega
    have hSi : listed.getD i false = false := by
      simp only [Array.getD, hil, dif_pos] at h1 ⊢
      exact h1
    have hup : ∀ j, (listed.setIfInBounds i true).getD j false = (listed.getD j false || j == i) := by
      intro j
      by_cases hji : j = i
      · subst hji
        simp [Array.getD, hil]
      · have hne : (j == i) = false := by simp [hji]
        rw [hne, Bool.or_false]
        simp only [Array.getD_eq_getD_getElem?]
        rw [Array.getElem?_setIfInBounds_ne (Ne.symm hji)]
    refine draw_step hh0 hchk hHp hdo hI (fun j hj => by simp [Array.getD, show ¬ j < listed.size by omega]) hSi ho (fun e he hb => hpre e (by simpa using he) hb) (fun a' w' hI' => ?_)
    refine ih _ a' w' (by simp [hsz]) ?_ (hI'.congr hup)
    have := cnt_step (n := arr.size) (S := fun j => listed.getD j false) (S' := fun j => (listed.setIfInBounds i true).getD j false) hia hSi hup
    omega
theorem replicate_none {k m : Nat} {b : LBlk} (h : (H ++ List.replicate m none)[k]? = some (some b)) : H[k]? = some (some b) := by
  rcases Nat.lt_or_ge k H.length with h1 | h1
  · rwa [List.getElem?_append_left h1] at h
  · rw [List.getElem?_append_right h1, List.getElem?_replicate] at h
    split at h <;> simp at h
/-- A region of open order. -/
theorem holds_draw (hm : P.follows .mixedOrders = true) {id : Nat} {k : List Frm} (recs : List PR) (nA : Nat) (hchk : drawOk arr recs H.length nA = true)
    (hdo : ∀ (i : Nat) (o : Oper) (p : PR), arr[i]? = some o → recs[i]? = some p → DOk P c.n arr o (tEnv arr recs env i) (tHeap recs (H ++ List.replicate nA none) i) p)
    (h : Holds P c Q ⟨.run k, envUp (fun _ => true) env 0 arr.toList recs, heapUp (fun _ => true) (H ++ List.replicate nA none) 0 recs⟩) : Holds P c Q ⟨.run (.code (.region id arr true) :: k), env, H⟩ := by
  intro η a w hx hd
  refine wp_region_any hm ?_
  have hHp : (H ++ List.replicate nA (none : Option LBlk)).length = H.length + nA := by simp
  have hx2 := hx.trans (Ext.drew hx.sim)
  have hlen : ∀ {recs : List PR}, arr.toList.length = recs.length → arr.size = recs.length := fun h => by simpa using h
  have hchk' := hchk
  simp only [drawOk, Bool.and_eq_true, beq_iff_eq] at hchk'
  obtain ⟨hrl, _⟩ := rowsOk_get hchk'.1
  refine draw_all (recs := recs) (env := env) (Hp := H ++ List.replicate nA none) (h0 := H.length) hx.len hchk hHp hdo (fun S a' w' hI hall => ?_) arr.size _ a _ (by simp) ?_ ?_
  · obtain ⟨_, η', hsim, hon, hkept, hmine, hden⟩ := hI
    have e1 : heapUp S (H ++ List.replicate nA none) 0 recs = heapUp (fun _ => true) (H ++ List.replicate nA none) 0 recs := heapUp_congr (fun j hj => by rw [Nat.zero_add]; exact hall j (by rw [hlen hrl]; exact hj))
    have e2 : envUp S env 0 arr.toList recs = envUp (fun _ => true) env 0 arr.toList recs := envUp_congr (fun j hj => by rw [Nat.zero_add]; exact hall j (by simpa using hj))
    rw [e1] at hsim hmine
    rw [e2] at hden
    have hF : ∀ j, Fs S recs H.length j → j < (heapUp (fun _ => true) (H ++ List.replicate nA none) 0 recs).length := by
      intro j hj
      rw [heapUp_length, hHp]
      rcases hj with hj | ⟨q, p, hq, hp, _⟩
      · omega
      · have := (upFrom_mem.1 (hchk'.2 ▸ newIds_mem hq hp)).2
        exact this
    refine h η' a' w' ⟨hsim.mono hF, hon, ?_, hkept, hmine⟩ (hden.mono hF fun _ _ => rfl)
    simp only
    rw [heapUp_length, hHp]
    have h9 : c.H0.length ≤ H.length := hx.len
    omega
  · unfold cnt
    exact Nat.le_trans List.countP_le_length (by simp)
  · have hf : ∀ j, (Array.replicate arr.size false).getD j false = false := fun j => by simp [Array.getD]
    have e1 : heapUp (fun j => (Array.replicate arr.size false).getD j false) (H ++ List.replicate nA none) 0 recs = H ++ List.replicate nA none := heapUp_off (fun j _ => hf j)
    have e2 : envUp (fun j => (Array.replicate arr.size false).getD j false) env 0 arr.toList recs = env := envUp_off (fun j _ => hf j)
    refine ⟨fun i o ho hS => ?_, η, ?_⟩
    · rw [hf] at hS; cases hS
    · rw [e1, e2]
      have hF0 : ∀ j, j < H.length → Fs (fun j => (Array.replicate arr.size false).getD j false) recs H.length j := fun j hj => .inl hj
      refine ⟨(hx2.sim.mono hF0).less (fun i b hi => replicate_none hi), hx2.on, hx2.kept, fun i b hi => hx2.mine i b (replicate_none hi), hd.mono hF0 fun _ _ => rfl⟩
end
end Go.Proofs.Ytbkcaedlijhnlaa.LB
