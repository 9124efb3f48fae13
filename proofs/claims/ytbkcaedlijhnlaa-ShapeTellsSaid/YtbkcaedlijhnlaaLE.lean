/- Regions of open order: every operation is shown once, whatever came up before it. -/
import Derived.Test.YtbkcaedlijhnlaaLD
namespace Go.Proofs.Ytbkcaedlijhnlaa.LB
open Go Go.RowKit
/-! ### what an operation waits for -/
def mask1 (ms : List Nat) (es : List Edge) : Nat :=
  match es with
  | [] => 0
  | e :: r => cond (Region.binds .any e) (2 ^ e.on ||| ms.getD e.on 0 ||| mask1 ms r) (mask1 ms r)
def masksOf : List Nat → List Oper → List Nat
  | ms, [] => ms
  | ms, o :: r => masksOf (ms ++ [mask1 ms o.after.toList]) r
def PredsIn (S : Nat → Bool) (o : Oper) : Prop := ∀ e ∈ o.after.toList, Region.binds .any e = true → S e.on = true
def ClosedS (arr : Array Oper) (S : Nat → Bool) : Prop := ∀ (i : Nat) (o : Oper), arr[i]? = some o → S i = true → PredsIn S o
theorem mask1_bit {ms : List Nat} {j : Nat} : ∀ {es : List Edge}, (mask1 ms es).testBit j = true → ∃ e ∈ es, Region.binds .any e = true ∧ (j = e.on ∨ (ms.getD e.on 0).testBit j = true)
  | [], h => by simp [mask1] at h
  | e :: r, h => by
    unfold mask1 at h
    cases hb : Region.binds .any e with
    | false =>
      rw [hb] at h
      obtain ⟨e', h1, h2⟩ := mask1_bit h
      exact ⟨e', by simp [h1], h2⟩
    | true =>
      rw [hb] at h
      simp only [cond_true, Nat.testBit_or, Bool.or_eq_true] at h
      rcases h with (h | h) | h
      · have : e.on = j := by
          rcases Nat.decEq e.on j with h1 | h1
          · rw [Nat.testBit_two_pow_of_ne h1] at h; cases h
          · exact h1
        exact ⟨e, by simp, hb, .inl this.symm⟩
      · exact ⟨e, by simp, hb, .inr h⟩
      · obtain ⟨e', h1, h2⟩ := mask1_bit h
        exact ⟨e', by simp [h1], h2⟩
theorem masks_good {arr : Array Oper} {S : Nat → Bool} (hS : ClosedS arr S) : ∀ (r : List Oper) (ms : List Nat) (p : List Oper), arr.toList = p ++ r → ms.length = p.length →
    (∀ (i : Nat) (o : Oper), p[i]? = some o → PredsIn S o → ∀ j, (ms.getD i 0).testBit j = true → S j = true) → ∀ (i : Nat) (o : Oper), arr[i]? = some o → PredsIn S o → ∀ j, ((masksOf ms r).getD i 0).testBit j = true → S j = true
  | [], ms, p, he, hl, h => by
    intro i o ho
    rw [List.append_nil] at he
    exact h i o (by rw [← he]; simpa using ho)
  | x :: r, ms, p, he, hl, h => by
    refine masks_good hS r _ (p ++ [x]) (by rw [he]; simp) (by simp [hl]) ?_
    intro i o ho hp j hj
    rcases Nat.lt_trichotomy i p.length with h1 | h1 | h1
    · rw [List.getElem?_append_left h1] at ho
      rw [List.getD_eq_getElem?_getD, List.getElem?_append_left (by omega), ← List.getD_eq_getElem?_getD] at hj
      exact h i o ho hp j hj
    · subst h1
      rw [List.getElem?_append_right (Nat.le_refl _)] at ho
      simp at ho
      subst ho
      rw [List.getD_eq_getElem?_getD, List.getElem?_append_right (by omega)] at hj
      simp [hl] at hj
      obtain ⟨e, he', hb, h2⟩ := mask1_bit hj
      have hSe := hp e he' hb
      rcases h2 with rfl | h2
      · exact hSe
      · rcases Nat.lt_or_ge e.on p.length with h3 | h3
        · have hpe : p[e.on]? = some p[e.on] := List.getElem?_eq_getElem h3
          have harr : arr[e.on]? = some p[e.on] := by
            have : arr.toList[e.on]? = some p[e.on] := by rw [he, List.getElem?_append_left h3]; exact hpe
            simpa using this
          exact h e.on _ hpe (hS e.on _ harr hSe) j h2
        · rw [List.getD_eq_getElem?_getD, List.getElem?_eq_none (by omega)] at h2
          simp at h2
    · rw [List.getElem?_eq_none (by simp; omega)] at ho; cases ho
theorem mask_ok {arr : Array Oper} {S : Nat → Bool} (hS : ClosedS arr S) {i j : Nat} {o : Oper} (ho : arr[i]? = some o) (hp : PredsIn S o) (h : ((masksOf [] arr.toList).getD i 0).testBit j = true) : S j = true :=
  masks_good hS arr.toList [] [] rfl rfl (fun i o h => by simp at h) i o ho hp j h
/-! ### plans -/
inductive Plan where
  | skip
  | val (ids : List Nat)
  | new (id : Nat)
  | store (id : Nat)
structure PR where
  plan : Plan
  v : LV
  blk : LBlk
def Plan.mods : Plan → List Nat
  | .new id => [id]
  | .store id => [id]
  | _ => []
def Plan.touch : Plan → List Nat
  | .new id => [id]
  | .store id => [id]
  | .val ids => ids
  | .skip => []
def opTmps : List Operand → List Nat
  | [] => []
  | .tmp t :: r => t :: opTmps r
  | _ :: r => opTmps r
def looks (arr : Array Oper) (o : Oper) : List Nat :=
  opTmps o.op.operands.toList ++ (match o.guard with
    | none => []
    | some (j, _) => match arr[j]? with
      | some oj => match oj.dst with
        | some d => [d]
        | none => []
      | none => [])
def dstL (o : Oper) : List Nat :=
  match o.dst with
  | some d => [d]
  | none => []
def cmpB (ms : List Nat) (i j : Nat) : Bool := cond (Nat.blt j i) ((ms.getD i 0).testBit j) ((ms.getD j 0).testBit i)
def meets (xs ys : List Nat) : Bool := xs.any fun x => ys.contains x
/-- operation i against operation j -/
def pairOk (arr : Array Oper) (ms : List Nat) (i j : Nat) (oi oj : Oper) (pi pj : Plan) : Bool :=
  cond (Nat.beq i j) true (cond (meets (looks arr oi ++ dstL oi) (dstL oj) || meets pi.touch pj.mods) (cmpB ms i j) true)
def rowOk (arr : Array Oper) (ms : List Nat) (i : Nat) (oi : Oper) (pi : Plan) : Nat → List Oper → List PR → Bool
  | j, o :: r, p :: s => pairOk arr ms i j oi o pi p.plan && rowOk arr ms i oi pi (j + 1) r s
  | _, [], [] => true
  | _, _, _ => false
def rowsOk (arr : Array Oper) (ms : List Nat) (recs : List PR) : Nat → List Oper → List PR → Bool
  | i, o :: r, p :: s => rowOk arr ms i o p.plan 0 arr.toList recs && (o.after.toList.all fun e => !Region.binds .any e || Nat.blt e.on i) && rowsOk arr ms recs (i + 1) r s
  | _, [], [] => true
  | _, _, _ => false
def newIds : List PR → List Nat
  | [] => []
  | p :: r => match p.plan with
    | .new id => id :: newIds r
    | _ => newIds r
def upFrom : Nat → Nat → List Nat
  | _, 0 => []
  | b, n + 1 => b :: upFrom (b + 1) n
/-- the blocks that are made are h0, h0 + 1, .., in the order of the text -/
def drawOk (arr : Array Oper) (recs : List PR) (h0 nA : Nat) : Bool :=
  rowsOk arr (masksOf [] arr.toList) recs 0 arr.toList recs && (newIds recs == upFrom h0 nA)
def eput (env : Env) (dst : Option Nat) (v : LV) : Env :=
  match dst with
  | none => env
  | some d => (d, v) :: env
def hput (H : LH) (p : PR) : LH :=
  match p.plan with
  | .new id => H.set id (some p.blk)
  | .store id => H.set id (some p.blk)
  | _ => H
/-- The slots, and the blocks, when the operations of S have come up. -/
def envUp (S : Nat → Bool) (env : Env) : Nat → List Oper → List PR → Env
  | i, o :: r, p :: s => envUp S (cond (S i) (eput env o.dst p.v) env) (i + 1) r s
  | _, _, _ => env
def heapUp (S : Nat → Bool) (H : LH) : Nat → List PR → LH
  | i, p :: s => heapUp S (cond (S i) (hput H p) H) (i + 1) s
  | _, [] => H
/-! ### lookups -/
theorem lk_eput {env env' : Env} {t : Nat} (h : lk env t = lk env' t) (dst : Option Nat) (v : LV) : lk (eput env dst v) t = lk (eput env' dst v) t := by
  cases dst with
  | none => exact h
  | some d => simp only [eput, lk, h]
theorem lk_eput_ne {env : Env} {t : Nat} {dst : Option Nat} (hd : dst ≠ some t) (v : LV) : lk (eput env dst v) t = lk env t := by
  cases dst with
  | none => rfl
  | some d =>
    have hne : Nat.beq d t = false := by
      cases hb : Nat.beq d t with
      | false => rfl
      | true => exact absurd (by rw [Nat.eq_of_beq_eq_true hb]) hd
    simp only [eput, lk, hne, cond_false]
theorem envUp_lk {S T : Nat → Bool} {t : Nat} : ∀ {r : List Oper} {s : List PR} {i : Nat} {env env' : Env}, lk env t = lk env' t → (∀ (k : Nat) (o : Oper), r[k]? = some o → o.dst = some t → S (i + k) = T (i + k)) → lk (envUp S env i r s) t = lk (envUp T env' i r s) t
  | [], s, i, env, env', h, _ => by simpa [envUp] using h
  | o :: r, [], i, env, env', h, _ => by simpa [envUp] using h
  | o :: r, p :: s, i, env, env', h, hh => by
    simp only [envUp]
    refine envUp_lk ?_ (fun k o' ho hd => by rw [show i + 1 + k = i + (k + 1) by omega]; exact hh (k + 1) o' ho hd)
    by_cases hd : o.dst = some t
    · have h1 := hh 0 o rfl hd
      rw [Nat.add_zero] at h1
      rw [h1]
      cases T i with
      | true => exact lk_eput h _ _
      | false => exact h
    · have e1 : ∀ (b : Bool) (env : Env), lk (cond b (eput env o.dst p.v) env) t = lk env t := fun b env => by
        cases b with
        | true => exact lk_eput_ne hd _
        | false => rfl
      rw [e1, e1]; exact h
theorem envUp_off {S : Nat → Bool} : ∀ {r : List Oper} {s : List PR} {i : Nat} {env : Env}, (∀ j, i ≤ j → S j = false) → envUp S env i r s = env
  | [], _, _, _, _ => by simp [envUp]
  | o :: r, [], _, _, _ => by simp [envUp]
  | o :: r, p :: s, i, env, h => by
    simp only [envUp, h i (Nat.le_refl _), cond_false]
    exact envUp_off (fun j hj => h j (by omega))
theorem envUp_at {t : Nat} : ∀ {r : List Oper} {s : List PR} {b k : Nat} {env : Env} {o : Oper} {p : PR}, r[k]? = some o → s[k]? = some p → o.dst = some t → lk (envUp (fun j => decide (j < b + k + 1)) env b r s) t = some p.v
  | [], _, _, _, _, _, _, h, _, _ => by simp at h
  | o :: r, [], _, _, _, _, _, _, h, _ => by simp at h
  | o :: r, p :: s, b, 0, env, o', p', ho, hp, hd => by
    simp at ho hp
    subst ho hp
    simp only [envUp, Nat.add_zero]
    rw [envUp_off (fun j hj => decide_eq_false (by omega))]
    have h1 : decide (b < b + 1) = true := decide_eq_true (by omega)
    rw [h1, hd]
    simp only [cond_true, eput, lk, Nat.beq_refl]
  | o :: r, p :: s, b, k + 1, env, o', p', ho, hp, hd => by
    simp only [envUp]
    have h1 := envUp_at (r := r) (s := s) (b := b + 1) (k := k) (env := cond (decide (b < b + (k + 1) + 1)) (eput env o.dst p.v) env) (by simpa using ho) (by simpa using hp) hd
    rw [show b + 1 + k + 1 = b + (k + 1) + 1 by omega] at h1
    exact h1
theorem envUp_congr {S T : Nat → Bool} : ∀ {r : List Oper} {s : List PR} {i : Nat} {env : Env}, (∀ k, k < r.length → S (i + k) = T (i + k)) → envUp S env i r s = envUp T env i r s
  | [], _, _, _, _ => by simp [envUp]
  | o :: r, [], _, _, _ => by simp [envUp]
  | o :: r, p :: s, i, env, h => by
    have h1 := h 0 (by simp)
    rw [Nat.add_zero] at h1
    simp only [envUp, h1]
    exact envUp_congr (fun k hk => by rw [show i + 1 + k = i + (k + 1) by omega]; exact h (k + 1) (by simp; omega))
theorem hput_length (H : LH) (p : PR) : (hput H p).length = H.length := by
  unfold hput; split <;> simp
theorem heapUp_length {S : Nat → Bool} : ∀ {s : List PR} {i : Nat} {H : LH}, (heapUp S H i s).length = H.length
  | [], _, _ => rfl
  | p :: s, i, H => by
    simp only [heapUp]
    rw [heapUp_length]
    cases S i with
    | true => exact hput_length H p
    | false => rfl
theorem hput_get {H H' : LH} {k : Nat} (h : H[k]? = H'[k]?) (hl : H.length = H'.length) (p : PR) : (hput H p)[k]? = (hput H' p)[k]? := by
  have e1 : ∀ (id : Nat) (x : Option LBlk), (H.set id x)[k]? = (H'.set id x)[k]? := fun id x => by
    rw [List.getElem?_set, List.getElem?_set, hl, h]
  unfold hput; split <;> first | exact e1 _ _ | exact h
theorem hput_get_ne {H : LH} {k : Nat} {p : PR} (h : k ∉ p.plan.mods) : (hput H p)[k]? = H[k]? := by
  unfold hput
  split
  · rename_i id hp
    rw [hp] at h
    exact List.getElem?_set_ne (fun e => h (by simp [Plan.mods, e]))
  · rename_i id hp
    rw [hp] at h
    exact List.getElem?_set_ne (fun e => h (by simp [Plan.mods, e]))
  · rfl
theorem hput_get_self {H : LH} {k : Nat} {p : PR} (h : k ∈ p.plan.mods) (hk : k < H.length) : (hput H p)[k]? = some (some p.blk) := by
  unfold hput
  split
  · rename_i id hp
    rw [hp] at h
    simp only [Plan.mods, List.mem_singleton] at h
    subst h
    rw [List.getElem?_set_self hk]
  · rename_i id hp
    rw [hp] at h
    simp only [Plan.mods, List.mem_singleton] at h
    subst h
    rw [List.getElem?_set_self hk]
  · rename_i h1 h2
    cases hp : p.plan with
    | new id => exact absurd hp (h1 id)
    | store id => exact absurd hp (h2 id)
    | skip => rw [hp] at h; simp [Plan.mods] at h
    | val ids => rw [hp] at h; simp [Plan.mods] at h
theorem heapUp_get {S T : Nat → Bool} {k : Nat} : ∀ {s : List PR} {i : Nat} {H H' : LH}, H[k]? = H'[k]? → H.length = H'.length → (∀ (j : Nat) (p : PR), s[j]? = some p → k ∈ p.plan.mods → S (i + j) = T (i + j)) → (heapUp S H i s)[k]? = (heapUp T H' i s)[k]?
  | [], i, H, H', h, _, _ => h
  | p :: s, i, H, H', h, hl, hh => by
    simp only [heapUp]
    have hlen : ∀ (b : Bool) (H : LH), (cond b (hput H p) H).length = H.length := fun b H => by
      cases b with
      | true => exact hput_length H p
      | false => rfl
    refine heapUp_get ?_ (by rw [hlen, hlen, hl]) (fun j q hq hm => by rw [show i + 1 + j = i + (j + 1) by omega]; exact hh (j + 1) q hq hm)
    by_cases hm : k ∈ p.plan.mods
    · have h1 := hh 0 p rfl hm
      rw [Nat.add_zero] at h1
      rw [h1]
      cases T i with
      | true => exact hput_get h hl p
      | false => exact h
    · have e1 : ∀ (b : Bool) (H : LH), (cond b (hput H p) H)[k]? = H[k]? := fun b H => by
        cases b with
        | true => exact hput_get_ne hm
        | false => rfl
      rw [e1, e1]; exact h
theorem heapUp_off {S : Nat → Bool} : ∀ {s : List PR} {i : Nat} {H : LH}, (∀ j, i ≤ j → S j = false) → heapUp S H i s = H
  | [], _, _, _ => rfl
  | p :: s, i, H, h => by
    simp only [heapUp, h i (Nat.le_refl _), cond_false]
    exact heapUp_off (fun j hj => h j (by omega))
theorem heapUp_at {t : Nat} : ∀ {s : List PR} {b k : Nat} {H : LH} {p : PR}, s[k]? = some p → t ∈ p.plan.mods → t < H.length → (heapUp (fun j => decide (j < b + k + 1)) H b s)[t]? = some (some p.blk)
  | [], _, _, _, _, h, _, _ => by simp at h
  | p :: s, b, 0, H, p', hp, hm, hk => by
    simp at hp
    subst hp
    simp only [heapUp, Nat.add_zero]
    rw [heapUp_off (fun j hj => decide_eq_false (by omega))]
    have h1 : decide (b < b + 1) = true := decide_eq_true (by omega)
    rw [h1]
    exact hput_get_self hm hk
  | p :: s, b, k + 1, H, p', hp, hm, hk => by
    simp only [heapUp]
    have hlen : (cond (decide (b < b + (k + 1) + 1)) (hput H p) H).length = H.length := by
      cases decide (b < b + (k + 1) + 1) with
      | true => exact hput_length H p
      | false => rfl
    have h1 := heapUp_at (s := s) (b := b + 1) (k := k) (H := cond (decide (b < b + (k + 1) + 1)) (hput H p) H) (by simpa using hp) hm (by rw [hlen]; exact hk)
    rw [show b + 1 + k + 1 = b + (k + 1) + 1 by omega] at h1
    exact h1
theorem heapUp_congr {S T : Nat → Bool} : ∀ {s : List PR} {i : Nat} {H : LH}, (∀ k, k < s.length → S (i + k) = T (i + k)) → heapUp S H i s = heapUp T H i s
  | [], _, _, _ => rfl
  | p :: s, i, H, h => by
    have h1 := h 0 (by simp)
    rw [Nat.add_zero] at h1
    simp only [heapUp, h1]
    exact heapUp_congr (fun k hk => by rw [show i + 1 + k = i + (k + 1) by omega]; exact h (k + 1) (by simp; omega))
/-! ### the check -/
theorem rowOk_get {arr : Array Oper} {ms : List Nat} {i : Nat} {oi : Oper} {pi : Plan} : ∀ {r : List Oper} {s : List PR} {b : Nat}, rowOk arr ms i oi pi b r s = true → ∀ (k : Nat) (o : Oper) (p : PR), r[k]? = some o → s[k]? = some p → pairOk arr ms i (b + k) oi o pi p.plan = true
  | [], _, _, _, k, o, p, h, _ => by simp at h
  | o :: r, [], _, _, k, o', p', _, h => by simp at h
  | o :: r, p :: s, b, h, k, o', p', ho, hp => by
    simp only [rowOk, Bool.and_eq_true] at h
    cases k with
    | zero => simp at ho hp; subst ho hp; exact h.1
    | succ k =>
      have h1 := rowOk_get h.2 k o' p' (by simpa using ho) (by simpa using hp)
      rw [show b + (k + 1) = b + 1 + k by omega]; exact h1
theorem rowsOk_get {arr : Array Oper} {ms : List Nat} {recs : List PR} : ∀ {r : List Oper} {s : List PR} {b : Nat}, rowsOk arr ms recs b r s = true → r.length = s.length ∧ ∀ (k : Nat) (o : Oper) (p : PR), r[k]? = some o → s[k]? = some p →
    rowOk arr ms (b + k) o p.plan 0 arr.toList recs = true ∧ ∀ e ∈ o.after.toList, Region.binds .any e = true → e.on < b + k
  | [], [], _, _ => ⟨rfl, fun k o p h _ => by simp at h⟩
  | [], p :: s, _, h => by simp [rowsOk] at h
  | o :: r, [], _, h => by simp [rowsOk] at h
  | o :: r, p :: s, b, h => by
    simp only [rowsOk, Bool.and_eq_true] at h
    obtain ⟨h1, h2⟩ := rowsOk_get h.2
    refine ⟨by simp [h1], fun k o' p' ho hp => ?_⟩
    cases k with
    | zero =>
      simp at ho hp
      subst ho hp
      refine ⟨h.1.1, fun e he hb => ?_⟩
      have h3 := List.all_eq_true.1 h.1.2 e he
      rw [hb] at h3
      simp only [Bool.not_true, Bool.false_or] at h3
      rw [Nat.blt_eq] at h3; exact h3
    | succ k =>
      have h3 := h2 k o' p' (by simpa using ho) (by simpa using hp)
      rw [show b + (k + 1) = b + 1 + k by omega]; exact h3
theorem meets_of {xs ys : List Nat} {x : Nat} (h1 : x ∈ xs) (h2 : x ∈ ys) : meets xs ys = true := by
  unfold meets
  exact List.any_eq_true.2 ⟨x, h1, by simpa using h2⟩
end Go.Proofs.Ytbkcaedlijhnlaa.LB
