/- Code over logical states: a stack of what is still to be run, and steps. -/
import Derived.Test.YtbkcaedlijhnlaaLZ
namespace Go.Proofs.Ytbkcaedlijhnlaa.LB
open Go Go.RowKit
inductive Frm where
  | code (c : Code)
  | blk (id : Nat)
  | loopb (c : Code)
/-- From the head of a loop's body on. -/
def LoopFrom (P : Program) (c : Code) (Q : Exit → Act → World → Prop) (a : Act) (w : World) : Prop :=
  ∀ b k cs, ∃ e a' w', Q e a' w' ∧ Arrives P (lone (b.at a (.code c :: .inLoop c :: k)) cs w) b k cs e a' w'
theorem loop_in {P : Program} {c : Code} {Q : Exit → Act → World → Prop} {a : Act} {w : World} (h : LoopFrom P c Q a w) : (Code.loop c).wp P Q a w := by
  intro b k cs
  obtain ⟨e, a', w', hq, harr⟩ := h b k cs
  exact ⟨e, a', w', hq, .of_steps (.one step_loop) harr⟩
theorem loop_once {P : Program} {c : Code} {Q : Exit → Act → World → Prop} {a : Act} {w : World} (h : c.wp P (Exit.then (fun a' w' => LoopFrom P c Q a' w') Q) a w) : LoopFrom P c Q a w := by
  intro b k cs
  obtain ⟨e, a₁, w₁, hq, harr⟩ := h b (.inLoop c :: k) cs
  cases e with
  | normal =>
    obtain ⟨e₂, a₂, w₂, hq₂, harr₂⟩ := hq b k cs
    exact ⟨e₂, a₂, w₂, hq₂, .of_steps (Steps.trans harr (.one step_inLoop)) harr₂⟩
  | exit id => exact ⟨_, a₁, w₁, hq, .pass (x := .inLoop c) rfl (fun _ _ => .inl (by simp)) harr⟩
  | goto l => exact ⟨_, a₁, w₁, hq, .pass (x := .inLoop c) rfl (fun _ _ => .inl (by simp)) harr⟩
  | ret => exact ⟨_, a₁, w₁, hq, .pass (x := .inLoop c) rfl (fun _ _ => .inl (by simp)) harr⟩
  | panic ch => exact ⟨_, a₁, w₁, hq, .pass (x := .inLoop c) rfl (fun _ _ => .inl (by simp)) harr⟩
  | outgrown => exact ⟨_, a₁, w₁, hq, .pass (x := .inLoop c) rfl (fun _ _ => .inl (by simp)) harr⟩
def post (P : Program) : List Frm → (Exit → Act → World → Prop) → Exit → Act → World → Prop
  | [], Q => Q
  | .code c :: k, Q => Exit.then (fun a w => c.wp P (post P k Q) a w) (post P k Q)
  | .blk id :: k, Q => Exit.inBlock id (post P k Q)
  | .loopb c :: k, Q => Exit.then (fun a w => LoopFrom P c (post P k Q) a w) (post P k Q)
/-- Where a call began. -/
structure Ctx where
  η0 : Eta
  H0 : LH
  w0 : World
  n : Nat
def Up (c : Ctx) (Q : Exit → Env → LH → Prop) (e : Exit) (a : Act) (w : World) : Prop := ∃ η env H, Q e env H ∧ Ext c.η0 c.H0 c.w0 η H w ∧ Den c.n (· < H.length) η env a
inductive Pt where
  | run (k : List Frm)
  | ops (arr : Array Oper) (l : List Nat) (k : List Frm)
structure St where
  pt : Pt
  env : Env
  H : LH
def At (P : Program) (c : Ctx) (Q : Exit → Env → LH → Prop) (p : Pt) (a : Act) (w : World) : Prop :=
  match p with
  | .run k => post P k (Up c Q) .normal a w
  | .ops arr l k => wpOps P arr (post P k (Up c Q)) l a w
def Holds (P : Program) (c : Ctx) (Q : Exit → Env → LH → Prop) (s : St) : Prop :=
  ∀ η a w, Ext c.η0 c.H0 c.w0 η s.H w → Den c.n (· < s.H.length) η s.env a → At P c Q s.pt a w
def lguard (arr : Array Oper) (env : Env) (o : Oper) : Option Bool :=
  match o.guard with
  | none => some true
  | some (j, want) => match arr[j]? with
    | some oj => match oj.dst with
      | some d => match lk env d with
        | some (.a (.c (.bool (.lit b)))) => some (b == want)
        | some (.tup []) => some false
        | _ => none
      | none => none
    | none => none
def lput (n : Nat) (env : Env) (dst : Option Nat) (v : LV) : Option Env :=
  match dst with
  | none => some env
  | some d => if d < n then some ((d, v) :: env) else none
def popTo (id : Nat) : List Frm → Option (List Frm)
  | [] => none
  | .blk i :: k => cond (Nat.beq id i) (some k) (popTo id k)
  | _ :: k => popTo id k
/-! ### lists that are written out -/
def forceL {β : Type} : List LC → (List LC → Option β) → Option β
  | [], k => k []
  | x :: r, k => forceL r fun r' => k (x :: r')
theorem forceL_eq {β : Type} : ∀ (xs : List LC) (k : List LC → Option β), forceL xs k = k xs
  | [], _ => rfl
  | x :: r, k => forceL_eq r _
def forceB {β : Type} (b : LBlk) (k : LBlk → Option β) : Option β :=
  match b with
  | ⟨cs, ow, ty, true⟩ => k ⟨cs, ow, ty, true⟩
  | ⟨cs, ow, ty, false⟩ => forceL cs fun cs' => k ⟨cs', ow, ty, false⟩
theorem forceB_eq {β : Type} (b : LBlk) (k : LBlk → Option β) : forceB b k = k b := by
  obtain ⟨cs, ow, ty, sy⟩ := b
  cases sy with
  | true => rfl
  | false => exact forceL_eq cs _
def forceH {β : Type} : LH → (LH → Option β) → Option β
  | [], k => k []
  | none :: r, k => forceH r fun r' => k (none :: r')
  | some b :: r, k => forceB b fun b' => forceH r fun r' => k (some b' :: r')
theorem forceH_eq {β : Type} : ∀ (H : LH) (k : LH → Option β), forceH H k = k H
  | [], _ => rfl
  | none :: r, k => forceH_eq r _
  | some b :: r, k => by rw [forceH, forceB_eq, forceH_eq]
def forceV {β : Type} (v : LV) (k : LV → Option β) : Option β :=
  match v with
  | .a (.agg xs) => forceL xs fun xs' => k (.a (.agg xs'))
  | .a (.c x) => k (.a (.c x))
  | .tup xs => k (.tup xs)
theorem forceV_eq {β : Type} (v : LV) (k : LV → Option β) : forceV v k = k v := by
  cases v with
  | a x =>
    cases x with
    | agg xs => exact forceL_eq xs _
    | c x => rfl
  | tup xs => rfl
def memOp : Op → Bool
  | .alloc _ => true
  | .box _ _ => true
  | .buildSlice _ _ _ => true
  | .store _ _ _ => true
  | .call _ => true
  | _ => false
def lopF (tab : Tab) (env : Env) (H : LH) (op : Op) (ty : TypeId) : Option (LV × LH) :=
  match lop tab env H op ty with
  | some (v, H') => forceV v fun v' => cond (memOp op) (forceH H' fun H'' => some (v', H'')) (some (v', H'))
  | none => none
theorem lopF_eq (tab : Tab) (env : Env) (H : LH) (op : Op) (ty : TypeId) : lopF tab env H op ty = lop tab env H op ty := by
  unfold lopF
  split
  · rename_i v H' h
    rw [forceV_eq, h]
    cases memOp op with
    | true => exact forceH_eq H' _
    | false => rfl
  · rename_i h; exact h.symm
/-- u: a loop's next round is begun. -/
def lstep (tab : Tab) (n : Nat) (u : Bool) : St → Option St
  | ⟨pt, env, H⟩ => match pt with
  | .run [] => none
  | .run (.code c :: k) => match c with
    | .skip => some ⟨.run k, env, H⟩
    | .seq x y => some ⟨.run (.code x :: .code y :: k), env, H⟩
    | .block id x => some ⟨.run (.code x :: .blk id :: k), env, H⟩
    | .exit id => match popTo id k with
      | some k' => some ⟨.run k', env, H⟩
      | none => none
    | .cond x t e => match ev env x with
      | some (.a (.c (.bool (.lit true)))) => some ⟨.run (.code t :: k), env, H⟩
      | some (.a (.c (.bool (.lit false)))) => some ⟨.run (.code e :: k), env, H⟩
      | _ => none
    | .loop x => some ⟨.run (.loopb x :: k), env, H⟩
    | .region _ arr false => some ⟨.ops arr (List.range arr.size) k, env, H⟩
    | _ => none
  | .run (.blk _ :: k) => some ⟨.run k, env, H⟩
  | .run (.loopb c :: k) => cond u (some ⟨.run (.code c :: .loopb c :: k), env, H⟩) none
  | .ops _ [] k => some ⟨.run k, env, H⟩
  | .ops arr (i :: l) k => match arr[i]? with
    | none => none
    | some o => match lguard arr env o with
      | some true => match lopF tab env H o.op o.type with
        | some (v, H') => match lput n env o.dst v with
          | some env' => some ⟨.ops arr l k, env', H'⟩
          | none => none
        | none => none
      | some false => match lput n env o.dst (.tup []) with
        | some env' => some ⟨.ops arr l k, env', H⟩
        | none => none
      | none => none
section
variable {P : Program} {tab : Tab} {c : Ctx} {Q : Exit → Env → LH → Prop}
theorem lput_den {n : Nat} {F : Nat → Prop} {η : Eta} {env env' : Env} {a : Act} (hd : Den n F η env a) {dst : Option Nat} {v : LV} (hv : v.In F) (h : lput n env dst v = some env') : Den n F η env' (a.put dst (v.den η)) := by
  cases dst with
  | none => obtain rfl := Option.some.inj h; exact hd
  | some d =>
    simp only [lput] at h
    by_cases hlt : d < n
    · rw [if_pos hlt] at h; obtain rfl := Option.some.inj h; exact hd.put hlt hv
    · rw [if_neg hlt] at h; cases h
theorem lguard_ok {n : Nat} {F : Nat → Prop} {η : Eta} {env : Env} {a : Act} (hd : Den n F η env a) {arr : Array Oper} {o : Oper} {b : Bool} (h : lguard arr env o = some b) : Region.wanted o (yielded arr a.tmps) = b := by
  unfold lguard at h
  unfold Region.wanted
  cases hg : o.guard with
  | none => rw [hg] at h; obtain rfl := Option.some.inj h; rfl
  | some q =>
    obtain ⟨j, want⟩ := q
    rw [hg] at h
    simp only at h
    cases hj : arr[j]? with
    | none => rw [hj] at h; cases h
    | some oj =>
      rw [hj] at h
      simp only at h
      cases hdst : oj.dst with
      | none => rw [hdst] at h; cases h
      | some d =>
        rw [hdst] at h
        simp only at h
        split at h
        · rename_i bb hlk
          obtain rfl := Option.some.inj h
          have h1 := (hd.slot d _ hlk).2
          simp only [LV.den, LA.den, LC.den, BE.lit_v] at h1
          have h2 : yielded arr a.tmps j = some bb := by simp [yielded, hj, hdst, h1]
          show (yielded arr a.tmps j == some want) = _
          rw [h2]; cases bb <;> cases want <;> rfl
        · rename_i hlk
          obtain rfl := Option.some.inj h
          have h1 := (hd.slot d _ hlk).2
          simp only [LV.den, List.map_nil] at h1
          have h2 : yielded arr a.tmps j = none := by simp [yielded, hj, hdst, h1]
          show (yielded arr a.tmps j == some want) = _
          rw [h2]; rfl
        · cases h
theorem popTo_ok : ∀ {id : Nat} {k k' : List Frm} {R : Exit → Act → World → Prop}, popTo id k = some k' → ∀ a w, post P k' R .normal a w → post P k R (.exit id) a w
  | _, [], _, _, h, _, _, _ => by cases h
  | id, .blk i :: k, k', R, h, a, w, hp => by
    simp only [popTo] at h
    simp only [post, Exit.inBlock]
    cases hb : Nat.beq id i with
    | true =>
      rw [hb] at h
      obtain rfl := Option.some.inj h
      rw [if_pos (Nat.eq_of_beq_eq_true hb)]; exact hp
    | false =>
      rw [hb] at h
      have hne : ¬ id = i := fun e => by rw [e, Nat.beq_refl] at hb; cases hb
      rw [if_neg hne]; exact popTo_ok (by simpa using h) a w hp
  | id, .code c :: k, k', R, h, a, w, hp => popTo_ok (k := k) (by simpa [popTo] using h) a w hp
  | id, .loopb c :: k, k', R, h, a, w, hp => popTo_ok (k := k) (by simpa [popTo] using h) a w hp
theorem lstep_ok (hT : TOk P tab) {u : Bool} {s s' : St} (h : lstep tab c.n u s = some s') (hh : Holds P c Q s') : Holds P c Q s := by
  intro η a w hx hd
  obtain ⟨pt, env, H⟩ := s
  unfold lstep at h
  simp only at h
  split at h
  · cases h
  · rename_i cd k
    simp only at hx hd
    simp only [At]
    split at h
    · obtain rfl := Option.some.inj h
      exact wp_skip (hh η a w hx hd)
    · obtain rfl := Option.some.inj h
      exact wp_seq (hh η a w hx hd)
    · obtain rfl := Option.some.inj h
      exact wp_block (hh η a w hx hd)
    · split at h
      · rename_i k' hp
        obtain rfl := Option.some.inj h
        exact wp_exit (popTo_ok hp a w (hh η a w hx hd))
      · cases h
    · split at h
      · rename_i hev
        obtain rfl := Option.some.inj h
        exact wp_cond_true (ev_den hd hev).1 (hh η a w hx hd)
      · rename_i hev
        obtain rfl := Option.some.inj h
        exact wp_cond_false (ev_den hd hev).1 (hh η a w hx hd)
      · cases h
    · obtain rfl := Option.some.inj h
      exact loop_in (hh η a w hx hd)
    · obtain rfl := Option.some.inj h
      exact wp_region (hh η a w hx hd)
    · cases h
  · rename_i id k
    simp only at hx hd
    obtain rfl := Option.some.inj h
    exact hh η a w hx hd
  · rename_i x k
    simp only at hx hd
    cases u with
    | true =>
      obtain rfl := Option.some.inj h
      exact loop_once (hh η a w hx hd)
    | false => cases h
  · rename_i arr k
    simp only at hx hd
    obtain rfl := Option.some.inj h
    exact hh η a w hx hd
  · rename_i arr i l k
    simp only at hx hd
    simp only [At]
    split at h
    · cases h
    · rename_i o ho
      unfold wpOps
      simp only [ho]
      split at h
      · rename_i hg
        rw [if_pos (lguard_ok hd hg)]
        split at h
        · rename_i v H' hop
          split at h
          · rename_i env' hput
            obtain rfl := Option.some.inj h
            obtain ⟨η', w', hx', hv, hr⟩ := lop_ok (P := P) hT hx.sim hd (by rw [← lopF_eq]; exact hop)
            have hd' : Den c.n (· < H'.length) η' env a := hd.mono (fun i hi => Nat.lt_of_lt_of_le hi hx'.len) hx'.on
            have hnext := hh η' (a.put o.dst (v.den η')) w' (hx.trans hx') (lput_den hd' hv hput)
            left
            rcases hr with hr | ⟨hr, rfl⟩
            · unfold Oper.wp; rw [hr]; exact hnext
            · unfold Oper.wp; rw [hr]; exact hnext
          · cases h
        · cases h
      · rename_i hg
        rw [if_neg (by rw [lguard_ok hd hg]; simp)]
        split at h
        · rename_i env' hput
          obtain rfl := Option.some.inj h
          exact hh η (a.put o.dst undef) w hx (lput_den hd (v := .tup []) (fun x hx => by cases hx) hput)
        · cases h
      · cases h
def exec (tab : Tab) (n : Nat) (u : Bool) : Nat → St → St
  | 0, s => s
  | m + 1, s => match lstep tab n u s with
    | some s' => exec tab n u m s'
    | none => s
theorem exec_ok (hT : TOk P tab) (u : Bool) : ∀ (m : Nat) {s : St}, Holds P c Q (exec tab c.n u m s) → Holds P c Q s
  | 0, _, h => h
  | m + 1, s, h => by
    unfold exec at h
    split at h
    · rename_i s' hs
      exact lstep_ok hT hs (exec_ok hT u m h)
    · exact h
end
end Go.Proofs.Ytbkcaedlijhnlaa.LB
