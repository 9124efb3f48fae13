/- Plans of single operations, by evaluation. -/
import Derived.Test.YtbkcaedlijhnlaaLG
namespace Go.Proofs.Ytbkcaedlijhnlaa.LB
open Go Go.RowKit
section
variable {P : Program} {tab : Tab} {env envS : Env} {H : LH}
theorem capsL_congr {l : List Operand} (h : ∀ x ∈ l, ev envS x = ev env x) : l.map (ev envS) = l.map (ev env) := List.map_congr_left h
theorem lparts_congr : ∀ {l : List (Nat × Operand)}, (∀ p ∈ l, ev envS p.2 = ev env p.2) → lparts envS l = lparts env l
  | [], _ => rfl
  | (i, x) :: r, h => by
    have h1 : ev envS x = ev env x := h (i, x) (by simp)
    have ih : lparts envS r = lparts env r := lparts_congr (fun p hp => h p (List.mem_cons_of_mem _ hp))
    simp only [lparts, h1, ih]
theorem lpure_congr {op : Op} {ty : TypeId} (h : ∀ x ∈ op.operands.toList, ev envS x = ev env x) : lpure tab envS op ty = lpure tab env op ty := by
  cases op with
  | move x => exact h x (by simp [Op.operands])
  | assign x => exact h x (by simp [Op.operands])
  | pick c x y =>
    have h1 := h c (by simp [Op.operands]); have h2 := h x (by simp [Op.operands]); have h3 := h y (by simp [Op.operands])
    simp only [lpure, h1, h2, h3]
  | extract x i => simp only [lpure, h x (by simp [Op.operands])]
  | nilCheck x => simp only [lpure, h x (by simp [Op.operands])]
  | binOp op t x y t' =>
    have h1 := h x (by simp [Op.operands]); have h2 := h y (by simp [Op.operands])
    simp only [lpure, h1, h2]
  | unOp op t x => simp only [lpure, h x (by simp [Op.operands])]
  | convert s d x => simp only [lpure, h x (by simp [Op.operands])]
  | fieldAddr s x f => simp only [lpure, h x (by simp [Op.operands])]
  | field s x f => simp only [lpure, h x (by simp [Op.operands])]
  | indexAddr t x ix =>
    have h1 := h x (by simp [Op.operands]); have h2 := h ix (by simp [Op.operands])
    simp only [lpure, h1, h2]
  | index t x ix =>
    have h1 := h x (by simp [Op.operands]); have h2 := h ix (by simp [Op.operands])
    simp only [lpure, h1, h2]
  | sliceToArrayPointer t x => simp only [lpure, h x (by simp [Op.operands])]
  | makeFunc fn first caps =>
    cases fn with
    | func f =>
      simp only [lpure]
      rw [capsL_congr (fun x hx => h x (by simp only [Op.operands]; simp at hx ⊢; exact .inr hx))]
    | _ => rfl
  | call c =>
    obtain ⟨callee, args, argTypes⟩ := c
    have h1 : ∀ x ∈ args.toList, ev envS x = ev env x := fun x hx => h x (by simp only [Op.operands, Call.operands]; simp at hx ⊢; exact .inr hx)
    simp only [lpure]
    split
    · rename_i x t hargs _
      rw [h1 x (by rw [hargs]; simp)]
    · rename_i x y hargs
      rw [h1 x (by rw [hargs]; simp), h1 y (by rw [hargs]; simp)]
    · rename_i x y hargs
      rw [h1 x (by rw [hargs]; simp), h1 y (by rw [hargs]; simp)]
    · rfl
  | _ => rfl
theorem largs_congr : ∀ {l : List Operand}, (∀ x ∈ l, ev envS x = ev env x) → largs envS l = largs env l
  | [], _ => rfl
  | x :: r, h => by
    have ih : largs envS r = largs env r := largs_congr (fun y hy => h y (List.mem_cons_of_mem _ hy))
    simp only [largs, h x (by simp), ih]
theorem lcallee_congr {op : Op} (h : ∀ x ∈ op.operands.toList, ev envS x = ev env x) : lcallee envS op = lcallee env op := by
  cases op with
  | call c =>
    obtain ⟨callee, args, argTypes⟩ := c
    have h1 : ∀ x ∈ args.toList, ev envS x = ev env x := fun x hx => h x (by simp only [Op.operands, Call.operands]; simp at hx ⊢; exact .inr hx)
    cases callee with
    | value fx =>
      have h2 : ev envS fx = ev env fx := h fx (by simp [Op.operands, Call.operands])
      simp only [lcallee, h2, largs_congr h1]
    | _ => rfl
  | _ => rfl
end
def dstOk (n : Nat) (o : Oper) : Bool :=
  match o.dst with
  | some d => Nat.blt d n
  | none => true
theorem dstOk_ok {n : Nat} {o : Oper} (h : dstOk n o = true) : ∀ d, o.dst = some d → d < n := by
  intro d hd
  unfold dstOk at h
  rw [hd] at h
  simpa [Nat.blt_eq] using h
/-- The plan of an operation that is no call. -/
def dplan (tab : Tab) (arr : Array Oper) (env : Env) (H : LH) (nid : Nat) (o : Oper) : Option PR :=
  match lguard arr env o with
  | some false => some ⟨.skip, .tup [], default⟩
  | some true => match o.op with
    | .load t x => match tyOf tab t, ev env x with
      | some ti, some (.a (.c (.ptr i (.lit o)))) => match rdH H i o ti.size with
        | some xs => (asVar ti xs).map fun v => ⟨.val [i], .a v, default⟩
        | none => none
      | _, _ => none
    | .store t x y => match tyOf tab t, ev env x, ev env y with
      | some ti, some (.a (.c (.ptr i (.lit o)))), some (.a v) => match H[i]? with
        | some (some b) => cond b.sym none (if b.own = true ∧ v.cells.length = ti.size ∧ o + ti.size ≤ b.cells.length then some ⟨.store i, .tup [], { b with cells := setL b.cells o v.cells }⟩ else none)
        | _ => none
      | _, _, _ => none
    | .alloc t => match tyOf tab t with
      | some ti => some ⟨.new nid, .a (.c (.ptr nid (.lit 0))), ⟨ti.zero, true, t, false⟩⟩
      | none => none
    | .box t x => match ev env x with
      | some (.a v) => some ⟨.new nid, .a (.c (.ptr nid (.lit 0))), ⟨v.cells, true, t, false⟩⟩
      | _ => none
    | .buildSlice t len parts => match lbuildSlice tab env t len parts with
      | some (xs, e, sz) => if xs.length = len * sz ∧ sz ≠ 0 then some ⟨.new nid, .a (.c (.slice nid (.lit 0) (.lit len) sz none)), ⟨xs, true, e, false⟩⟩ else none
      | none => none
    | .build t parts => (lbuild tab env t parts).map fun v => ⟨.val [], v, default⟩
    | .slice t x lo hi mx => match ev env x with
      | some (.a (.c (.slice i _ _ _ _))) => (lsliceV tab env H t x lo hi mx).map fun c => ⟨.val [i], .a (.c c), default⟩
      | _ => (lsliceV tab env [] t x lo hi mx).map fun c => ⟨.val [], .a (.c c), default⟩
    | op => (lpure tab env op o.type).map fun v => ⟨.val [], v, default⟩
  | none => none
section
variable {P : Program} {tab : Tab} {env envS : Env} {H : LH} {arr : Array Oper} {n : Nat} {o : Oper}
theorem wp_val {a : Act} {w : World} {v : Value} (hr : (execOp a.eval o).run P w = .ok (.value v) w) (K : Act → World → Prop) (Q : Exit → Act → World → Prop) (hK : ∀ w', Kept (fun _ => False) w w' → K (a.put o.dst v) w') : o.wp P a w K Q := by
  unfold Oper.wp; rw [hr]; exact hK w (.refl _ _)
theorem litNat_congr {x : Operand} (h : ev envS x = ev env x) : litNat envS x = litNat env x := by unfold litNat; rw [h]
theorem lsliceV_congr {Hs : LH} {t : Nat} {x : Operand} {lo hi mx : Option Operand} (hx : ev envS x = ev env x) (hlo : ∀ y, lo = some y → ev envS y = ev env y) (hhi : ∀ y, hi = some y → ev envS y = ev env y)
    (hH : ∀ i o L e c, ev env x = some (.a (.c (.slice i o L e c))) → Hs[i]? = H[i]?) : lsliceV tab envS Hs t x lo hi mx = lsliceV tab env H t x lo hi mx := by
  have h1 : ∀ d, bndL envS d lo = bndL env d lo := fun d => by
    cases lo with
    | none => rfl
    | some y => exact litNat_congr (hlo y rfl)
  have h2 : ∀ d, bndL envS d hi = bndL env d hi := fun d => by
    cases hi with
    | none => rfl
    | some y => exact litNat_congr (hhi y rfl)
  unfold lsliceV
  rw [hx]
  split
  · simp only [h1, h2]
  · rename_i ti i o L esz cap ht hxs
    have h3 : roomOk Hs i o L esz cap = roomOk H i o L esz cap := by
      unfold roomOk
      rw [hH i o (.lit L) esz cap hxs]
    simp only [h1, h2, h3]
  · rfl
theorem dplan_ok (hT : TOk P tab) {nid : Nat} {p : PR} (h : dplan tab arr env H nid o = some p) (hd : dstOk n o = true) : DOk P n arr o env H p := by
  refine ⟨dstOk_ok hd, ?_⟩
  unfold dplan at h
  have mem : ∀ {op : Op}, o.op = op → ∀ {F : Nat → Prop} {η : Eta} {envS : Env} {a : Act}, Agree o envS env → Den n F η envS a → ∀ {x : Operand} {v : LV}, x ∈ op.operands.toList → ev env x = some v → a.eval x = v.den η ∧ v.In F := by
    intro op ho F η envS a hag hden x v hx hv
    exact ev_den hden (by rw [hag x (by rw [ho]; exact hx)]; exact hv)
  have pureCase : ∀ {op : Op} {ids : List Nat} {v : LV}, o.op = op → lguard arr env o = some true → lpure tab env op o.type = some v → p = ⟨.val ids, v, default⟩ → (match p.plan with
      | .skip => lguard arr env o = some false ∧ p.v = .tup []
      | .val ids => lguard arr env o = some true ∧ ∀ F η Hs envS a w, Agree o envS env → (∀ k ∈ ids, Hs[k]? = H[k]?) → Sim F η Hs w → Den n F η envS a →
          p.v.In F ∧ ∀ K Q, (∀ w', Kept (fun _ => False) w w' → K (a.put o.dst (p.v.den η)) w') → o.wp P a w K Q
      | .new id => lguard arr env o = some true ∧ ∀ F η (Hs : LH) envS a w, Agree o envS env → Sim F η Hs w → Den n F η envS a →
          (∀ c ∈ p.blk.cells, c.In F) ∧ p.v.In (fun k => F k ∨ k = id) ∧ MakesB P o a η w id p.blk p.v
      | .store id => lguard arr env o = some true ∧ p.v = .tup [] ∧ ∀ F η Hs envS a w, Agree o envS env → Hs[id]? = H[id]? → Sim F η Hs w → Den n F η envS a →
          ∃ b w', Hs[id]? = some (some b) ∧ b.own = true ∧ (execOp a.eval o).run P w = .ok .skip w' ∧ Sim F η (Hs.set id (some p.blk)) w' ∧ Kept (· = (η id).addr.block) w w') := by
    intro op ids v ho hg hv hp
    subst hp
    refine ⟨hg, fun F η Hs envS a w hag _ hs hden => ?_⟩
    have h1 := lpure_run (P := P) hT hden (o := o) (v := v) (by rw [ho, lpure_congr (fun x hx => hag x (by rw [ho]; exact hx))]; exact hv)
    exact ⟨h1.1, fun K Q hK => wp_val (h1.2 w) K Q hK⟩
  split at h
  · rename_i hg
    obtain rfl := Option.some.inj h
    exact ⟨hg, rfl⟩
  · rename_i hg
    generalize hop : o.op = op at h
    split at h
    · rename_i t x
      split at h
      · rename_i ti i off ht hx
        split at h
        · rename_i xs hxs
          obtain ⟨z, hz, rfl⟩ := map_some h
          refine ⟨hg, fun F η Hs envS a w hag hH hs hden => ?_⟩
          obtain ⟨b, hb, hr, rfl⟩ := rdH_ok hxs
          rw [← hH i (by simp)] at hb
          obtain ⟨h1, h2⟩ := run_load_op hT hs hop ht (off := .lit off) (mem hop hag hden (by simp [Op.operands]) hx).1 hb rfl hr hz
          exact ⟨h1, fun K Q hK => wp_val h2 K Q hK⟩
        · cases h
      · cases h
    · rename_i t x y
      split at h
      · rename_i ti i off u ht hx hy
        split at h
        · rename_i b hb
          cases hsy : b.sym with
          | true => rw [hsy] at h; cases h
          | false =>
            rw [hsy] at h
            simp only [cond_false] at h
            by_cases hc : b.own = true ∧ u.cells.length = ti.size ∧ off + ti.size ≤ b.cells.length
            · rw [if_pos hc] at h
              obtain rfl := Option.some.inj h
              refine ⟨hg, rfl, fun F η Hs envS a w hag hH hs hden => ?_⟩
              rw [← hH] at hb
              have hxx := (mem hop hag hden (x := x) (by simp [Op.operands]) hx).1
              have hyy := mem hop hag hden (x := y) (by simp [Op.operands]) hy
              obtain ⟨cs, h1, h2, h3, h4⟩ := hs.own i b hb hc.1
              have hi : i < Hs.length := (List.getElem?_eq_some_iff.1 hb).1
              have hsl : (setL b.cells off u.cells).length = b.cells.length := setL_length (by omega)
              have hget : ∀ (k : Nat) (d : LBlk), (Hs.set i (some { b with cells := setL b.cells off u.cells }))[k]? = some (some d) → (k = i ∧ d = { b with cells := setL b.cells off u.cells }) ∨ (k ≠ i ∧ k ≠ i ∧ Hs[k]? = some (some d)) := by
                intro k d hk
                by_cases hki : k = i
                · subst hki
                  rw [List.getElem?_set_self hi] at hk
                  exact .inl ⟨rfl, (Option.some.inj (Option.some.inj hk)).symm⟩
                · rw [List.getElem?_set_ne (Ne.symm hki)] at hk
                  exact .inr ⟨hki, hki, hk⟩
              have hsim := Sim.put hs hb hc.1 (n := i) (s := 0) (o := off) (η' := η) (fun _ _ => rfl) (by simp [Addr.add]) (xs := u.cells) (d' := { b with cells := setL b.cells off u.cells }) rfl hyy.2
                (fun j c hj => by rw [Nat.add_zero]; exact setL_get (by omega) hj) (by omega) (by simp only [Nat.zero_add]; rw [hsl]; exact h4)
                (H' := Hs.set i (some { b with cells := setL b.cells off u.cells })) hget h1
              refine ⟨b, World.setRow w (η i).addr.block (putRow cs ((η i).addr.off + off) (u.cells.map (LC.den η))) b.ty, hb, hc.1, ?_, ?_, Kept.setRow (O := (· = (η i).addr.block)) rfl⟩
              · have F' := tfacts hT ht
                have e : execOp a.eval o = (do Instr.storeAt t (a.eval x) (a.eval y); Pure.pure Next.skip : Sem Next) := by simp only [execOp, hop]
                rw [e, hxx, hyy.1, Sem.run_bind]
                have e2 : (Instr.storeAt t (.pointer (some ((η i).addr.add off))) (u.den η)).run P w = .ok () (World.setRow w (η i).addr.block (putRow cs ((η i).addr.off + off) (u.cells.map (LC.den η))) b.ty) := by
                  unfold Instr.storeAt
                  have e1 : (Instr.sureAddr (.pointer (some ((η i).addr.add off)))).run P w = .ok ((η i).addr.add off) w := rfl
                  rw [Sem.run_bind, e1, Result.andThen_ok]
                  have h7 := run_storeVar (P := P) (η := η) F' (A := (η i).addr.add off) (cs := cs) (ty := b.ty) (w := w) (by rw [add_block]; exact h1) (add_spot _ h2) (x := u) hc.2.1 (by rw [add_off]; omega)
                  rw [add_block, add_off] at h7
                  exact h7
                have e3 : (LV.a (.c (.ptr i (.lit off)))).den η = .pointer (some ((η i).addr.add off)) := rfl
                have e4 : (LV.a u).den η = u.den η := rfl
                rw [e3, e4, e2, Result.andThen_ok]; rfl
              · have hm : ∀ k, (F k ∨ k = i) → F k := fun k hk => hk.elim id (fun e => e ▸ (hs.inn i b hb).1)
                have h5 := hsim.mono hm
                rw [hsy] at h5
                exact h5
            · rw [if_neg hc] at h; cases h
        · cases h
      · cases h
    · rename_i t
      split at h
      · rename_i ti ht
        obtain rfl := Option.some.inj h
        refine ⟨hg, fun F η Hs envS a w hag hs hden => ?_⟩
        obtain ⟨h1, h2⟩ := makes_alloc (P := P) (a := a) (η := η) (w := w) hT hop ht nid
        exact ⟨(fun c hc r hr => by rw [h2 c hc] at hr; cases hr), in_ptr (.inr rfl), h1⟩
      · cases h
    · rename_i t x
      split at h
      · rename_i u hx
        obtain rfl := Option.some.inj h
        refine ⟨hg, fun F η Hs envS a w hag hs hden => ?_⟩
        obtain ⟨h1, h2⟩ := mem hop hag hden (x := x) (by simp [Op.operands]) hx
        exact ⟨h2, in_ptr (.inr rfl), makes_box hop h1 nid⟩
      · cases h
    · rename_i t len parts
      split at h
      · rename_i xs e sz hb
        by_cases hc : xs.length = len * sz ∧ sz ≠ 0
        · rw [if_pos hc] at h
          obtain rfl := Option.some.inj h
          refine ⟨hg, fun F η Hs envS a w hag hs hden => ?_⟩
          have hb' : lbuildSlice tab envS t len parts = some (xs, e, sz) := by
            unfold lbuildSlice at hb ⊢
            rw [lparts_congr (envS := envS) (env := env) (fun q hq => hag q.2 (by rw [hop]; simp only [Op.operands]; exact List.mem_map_of_mem hq))]
            exact hb
          obtain ⟨h1, h2⟩ := makes_buildSlice (P := P) (η := η) (a := a) (w := w) hT hden hop hb' hc.1 hc.2
          exact ⟨h1, in_cell (fun r hr => by simp only [LC.refs, List.mem_singleton] at hr; subst hr; exact .inr rfl), h2 nid⟩
        · rw [if_neg hc] at h; cases h
      · cases h
    · rename_i t parts
      obtain ⟨z, hz, rfl⟩ := map_some h
      refine ⟨hg, fun F η Hs envS a w hag _ hs hden => ?_⟩
      have hb' : lbuild tab envS t parts = some z := by
        unfold lbuild at hz ⊢
        rw [lparts_congr (envS := envS) (env := env) (fun q hq => hag q.2 (by rw [hop]; simp only [Op.operands]; exact List.mem_map_of_mem hq))]
        exact hz
      obtain ⟨h1, h2⟩ := lbuild_run (P := P) (w := w) hT hden hb'
      have e : execOp a.eval o = (do Pure.pure (Next.value (← Instr.build t (parts.map fun (i, x) => (i, a.eval x)))) : Sem Next) := by simp only [execOp, hop]
      exact ⟨h1, fun K Q hK => wp_val (by rw [e]; exact run_val h2) K Q hK⟩
    · rename_i t x lo hi mx
      have slc : ∀ {Hx : LH} {c : LC} {F : Nat → Prop} {η : Eta} {Hs : LH} {envS : Env} {a : Act} {w : World}, lsliceV tab env Hx t x lo hi mx = some c → Agree o envS env → Sim F η Hs w → Den n F η envS a → (∀ i o L e c, ev env x = some (.a (.c (.slice i o L e c))) → Hs[i]? = Hx[i]?) →
          (LV.a (.c c)).In F ∧ (execOp a.eval o).run P w = .ok (.value ((LV.a (.c c)).den η)) w := by
        intro Hx c F η Hs envS a w hc hag hs hden hH
        have hc' : lsliceV tab envS Hs t x lo hi mx = some c := by
          rw [lsliceV_congr (H := Hx) (env := env) (hag x (by rw [hop]; simp [Op.operands])) (fun y hy => hag y (by rw [hop, hy]; simp [Op.operands])) (fun y hy => hag y (by rw [hop, hy]; simp [Op.operands])) hH]
          exact hc
        obtain ⟨h1, h2⟩ := lsliceV_run (P := P) hT hs hden hc'
        refine ⟨h1, ?_⟩
        have e : execOp a.eval o = (do Pure.pure (Next.value (← Instr.sliceAt t (a.eval x) (lo.map a.eval) (hi.map a.eval) (mx.map a.eval))) : Sem Next) := by simp only [execOp, hop]
        rw [e]
        exact run_val h2
      split at h
      · rename_i i o' L e c' hx
        obtain ⟨z, hz, rfl⟩ := map_some h
        refine ⟨hg, fun F η Hs envS a w hag hH hs hden => ?_⟩
        obtain ⟨h1, h2⟩ := slc hz hag hs hden (fun i' o2 L2 e2 c2 hh => by
          rw [hx] at hh
          simp only [Option.some.injEq, LV.a.injEq, LA.c.injEq, LC.slice.injEq] at hh
          rw [← hh.1]; exact hH i (by simp))
        exact ⟨h1, fun K Q hK => wp_val h2 K Q hK⟩
      · rename_i hno
        obtain ⟨z, hz, rfl⟩ := map_some h
        refine ⟨hg, fun F η Hs envS a w hag hH hs hden => ?_⟩
        obtain ⟨h1, h2⟩ := slc hz hag hs hden (fun i' o2 L2 e2 c2 hh => absurd hh (hno i' o2 L2 e2 c2))
        exact ⟨h1, fun K Q hK => wp_val h2 K Q hK⟩
    · obtain ⟨z, hz, he⟩ := map_some h
      exact pureCase hop hg hz he.symm
  · cases h
/-- The plan of a call that only computes, whatever is in memory but for some blocks. -/
theorem dcall_ok {f : FuncId} {args : List LV} {v : LV} {ids : List Nat} (hg : lguard arr env o = some true) (hc : lcallee env o.op = some (f, args)) (hd : dstOk n o = true) (hfree : v.free) (hok : callOk P f = true)
    (C : ∀ F η Hs w, (∀ k ∈ ids, Hs[k]? = H[k]?) → Sim F η Hs w → (∀ x ∈ args, x.In F) → Calls P f (args.map (LV.den η)).toArray w fun e w' => e = .returned (v.den η) ∧ Kept (fun _ => False) w w') : DOk P n arr o env H ⟨.val ids, v, default⟩ := by
  refine ⟨dstOk_ok hd, hg, fun F η Hs envS a w hag hH hs hden => ⟨hfree.mono fun _ h => h.elim, fun K Q hK => ?_⟩⟩
  have hc' : lcallee envS o.op = some (f, args) := by rw [lcallee_congr hag]; exact hc
  obtain ⟨hin, hrun⟩ := lcallee_run (P := P) (w := w) hden hc' hok
  unfold Oper.wp
  rw [hrun, Oper.upon_enter]
  refine (C F η Hs w hH hs hin).mono ?_
  rintro e w' ⟨rfl, hk⟩
  exact hK w' hk
end
end Go.Proofs.Ytbkcaedlijhnlaa.LB
