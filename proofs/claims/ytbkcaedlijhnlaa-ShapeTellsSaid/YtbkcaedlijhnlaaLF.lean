/- Calls over logical states: contracts, entering, leaving, and a contract met in a greater state. -/
import Derived.Test.YtbkcaedlijhnlaaLS
namespace Go.Proofs.Ytbkcaedlijhnlaa.LB
open Go Go.RowKit
def callOk (P : Program) (f : FuncId) : Bool :=
  match P.funcs[f]? with
  | some fn => fn.body.isSome && !(fn.name == "runtime.NumGoroutine")
  | none => false
/-- What a call comes to. -/
def LPost (η : Eta) (H : LH) (w : World) (R : LV → LH → Prop) (e : Ending) (w' : World) : Prop :=
  ∃ v H' η', R v H' ∧ e = .returned (v.den η') ∧ v.In (· < H'.length) ∧ Ext η H w η' H' w'
def LCall (P : Program) (f : FuncId) (args : List LV) (H : LH) (R : LV → LH → Prop) : Prop :=
  callOk P f = true ∧ ∀ η w, Sim (· < H.length) η H w → (∀ x ∈ args, x.In (· < H.length)) → Calls P f (args.map (LV.den η)).toArray w (LPost η H w R)
theorem LCall.mono {P : Program} {f : FuncId} {args : List LV} {H : LH} {R R' : LV → LH → Prop} (h : LCall P f args H R) (hr : ∀ v H', R v H' → R' v H') : LCall P f args H R' :=
  ⟨h.1, fun η w hs hi => (h.2 η w hs hi).mono fun _ _ ⟨v, H', η', h1, h2⟩ => ⟨v, H', η', hr _ _ h1, h2⟩⟩
/-! ### results -/
def resF (tmps : Array Value) : ResultVar → Sem Value
  | .tmp t => pure (tmps.getD t undef)
  | .cell a t => do loadVar t (← asAddr (tmps.getD a undef))
theorem results_eq (fn : Func) (tmps : Array Value) : results fn tmps = (do
    let vs ← fn.results.mapM (resF tmps)
    pure (if h : vs.size = 1 then vs[0] else .tuple vs)) := rfl
def lresOne (tab : Tab) (env : Env) (H : LH) : ResultVar → Option LA
  | .tmp t => match lk env t with
    | some (.a x) => some x
    | _ => none
  | .cell a t => match tyOf tab t, lk env a with
    | some ti, some (.a (.c (.ptr i (.lit o)))) => match rdH H i o ti.size with
      | some xs => asVar ti xs
      | none => none
    | _, _ => none
def lresAll (tab : Tab) (env : Env) (H : LH) : List ResultVar → Option (List LA)
  | [] => some []
  | r :: rs => match lresOne tab env H r, lresAll tab env H rs with
    | some x, some xs => some (x :: xs)
    | _, _ => none
def lres (tab : Tab) (env : Env) (H : LH) (rs : List ResultVar) : Option LV :=
  match lresAll tab env H rs with
  | some [x] => some (.a x)
  | some xs => some (.tup xs)
  | none => none
section
variable {P : Program} {tab : Tab} {c : Ctx} {Q : Exit → Env → LH → Prop} {η : Eta} {H : LH} {w : World} {env : Env} {a : Act} {n : Nat}
theorem lresOne_ok (hT : TOk P tab) (hs : Sim (· < H.length) η H w) (hd : Den n (· < H.length) η env a) {r : ResultVar} {x : LA} (h : lresOne tab env H r = some x) :
    x.In (· < H.length) ∧ (resF a.tmps r).run P w = .ok (x.den η) w := by
  have hev : ∀ {t : Nat} {v : LV}, lk env t = some v → a.tmps.getD t undef = v.den η ∧ v.In (· < H.length) := fun {t v} h => ev_den (x := .tmp t) hd h
  cases r with
  | tmp t =>
    simp only [lresOne] at h
    split at h
    · rename_i y hy
      obtain rfl := Option.some.inj h
      refine ⟨(hev hy).2, ?_⟩
      simp only [resF, (hev hy).1]; rfl
    · cases h
  | cell p t =>
    simp only [lresOne] at h
    split at h
    · rename_i ti i o ht hp
      split at h
      · rename_i xs hxs
        obtain ⟨b, hb, hr, rfl⟩ := rdH_ok hxs
        refine ⟨fun d hd' => ?_, ?_⟩
        · rw [asVar_cells h] at hd'
          exact (hs.inn i b hb).2 d (List.mem_of_mem_drop (List.mem_of_mem_take hd'))
        · simp only [resF, (hev hp).1]
          have e1 : (asAddr (LV.den η (.a (.c (.ptr i (.lit o)))))).run P w = .ok ((η i).addr.add o) w := rfl
          rw [Sem.run_bind, e1, Result.andThen_ok]
          exact run_loadVar (tfacts hT ht) (hs.lies hb o ti.size) (by simp only [List.length_take, List.length_drop]; omega) h
      · cases h
    · cases h
theorem lresAll_ok (hT : TOk P tab) (hs : Sim (· < H.length) η H w) (hd : Den n (· < H.length) η env a) : ∀ {rs : List ResultVar} {xs : List LA}, lresAll tab env H rs = some xs → (∀ x ∈ xs, x.In (· < H.length)) ∧
    (rs.mapM (resF a.tmps)).run P w = .ok (xs.map (LA.den η)) w
  | [], xs, h => by
    obtain rfl := Option.some.inj h
    exact ⟨(fun x hx => by cases hx), rfl⟩
  | r :: rs, xs, h => by
    simp only [lresAll] at h
    split at h
    · rename_i y ys hy hys
      obtain rfl := Option.some.inj h
      obtain ⟨h1, h2⟩ := lresOne_ok hT hs hd hy
      obtain ⟨h3, h4⟩ := lresAll_ok hT hs hd hys
      refine ⟨fun x hx => ?_, ?_⟩
      · rcases List.mem_cons.1 hx with rfl | hx
        · exact h1
        · exact h3 x hx
      · rw [List.mapM_cons, Sem.run_bind, h2, Result.andThen_ok, Sem.run_bind, h4, Result.andThen_ok]; rfl
    · cases h
theorem lres_ok (hT : TOk P tab) (hs : Sim (· < H.length) η H w) (hd : Den n (· < H.length) η env a) {fn : Func} {v : LV} (h : lres tab env H fn.results.toList = some v) :
    v.In (· < H.length) ∧ (results fn a.tmps).run P w = .ok (v.den η) w := by
  have main : ∀ {xs : List LA}, lresAll tab env H fn.results.toList = some xs → (∀ x ∈ xs, x.In (· < H.length)) ∧ (results fn a.tmps).run P w = .ok (match (xs.map (LA.den η)) with | [y] => y | ys => .tuple ys.toArray) w := by
    intro xs hx
    obtain ⟨h1, h2⟩ := lresAll_ok hT hs hd hx
    refine ⟨h1, ?_⟩
    rw [results_eq, Sem.run_bind, Array.mapM_eq_mapM_toList, Sem.run_map, h2]
    simp only [Result.andThen_ok]
    cases hxs : xs.map (LA.den η) with
    | nil => rfl
    | cons y ys => cases ys <;> rfl
  unfold lres at h
  split at h
  · rename_i x hx
    obtain rfl := Option.some.inj h
    obtain ⟨h1, h2⟩ := main hx
    exact ⟨h1 x (by simp), h2⟩
  · rename_i xs hne hx
    obtain rfl := Option.some.inj h
    obtain ⟨h1, h2⟩ := main hx
    refine ⟨h1, ?_⟩
    rw [h2]
    match xs, hne with
    | [], _ => rfl
    | [x], hne => exact absurd rfl (hne x)
    | x :: y :: r, _ => rfl
  · cases h
/-! ### entering and leaving -/
def env0 : Nat → List LV → Env
  | _, [] => []
  | i, x :: r => (i, x) :: env0 (i + 1) r
theorem env0_lk : ∀ {args : List LV} {i t : Nat} {v : LV}, lk (env0 i args) t = some v → i ≤ t ∧ args[t - i]? = some v
  | [], i, t, v, h => by simp [env0, lk] at h
  | x :: r, i, t, v, h => by
    unfold env0 at h
    rcases lk_put h with ⟨rfl, rfl⟩ | ⟨hne, h⟩
    · exact ⟨Nat.le_refl _, by simp⟩
    · obtain ⟨h1, h2⟩ := env0_lk h
      refine ⟨by omega, ?_⟩
      rw [show t - i = (t - (i + 1)) + 1 by omega]
      exact h2
/-- What holds where a function has been left. -/
def Ret (tab : Tab) (fn : Func) (k0 : Nat) (R : LV → LH → Prop) (e : Exit) (env : Env) (H : LH) : Prop :=
  (e = .ret ∨ e = .normal) ∧ ∃ v v' H', lres tab env H fn.results.toList = some v ∧ (∀ η, v'.den η = v.den η) ∧ R v' H' ∧ k0 ≤ H'.length ∧ v'.In (· < H'.length) ∧
    ∀ (i : Nat) (b : LBlk), H'[i]? = some (some b) → H[i]? = some (some b) ∧ ∀ c ∈ b.cells, c.In (· < H'.length)
theorem Ext.less {η η' : Eta} {H H1 H2 : LH} {w w' : World} (h : Ext η H w η' H1 w') (hk : H.length ≤ H2.length) (hH : ∀ (i : Nat) (b : LBlk), H2[i]? = some (some b) → H1[i]? = some (some b) ∧ ∀ c ∈ b.cells, c.In (· < H2.length)) : Ext η H w η' H2 w' := by
  refine ⟨⟨fun i b hi => ⟨?_, (hH i b hi).2⟩, fun i b hi => h.sim.cell i b (hH i b hi).1, fun i b hi => h.sim.room i b (hH i b hi).1, fun i b hi => h.sim.own i b (hH i b hi).1, fun i j b b' hi hj => h.sim.apart i j b b' (hH i b hi).1 (hH j b' hj).1⟩, h.on, hk, h.kept, fun i b hi => h.mine i b (hH i b hi).1⟩
  rcases Nat.lt_or_ge i H2.length with h1 | h1
  · exact h1
  · rw [List.getElem?_eq_none h1] at hi; cases hi
/-- A function's contract, out of its body. -/
theorem LCall.of (hT : TOk P tab) {f : FuncId} {fn : Func} {body : Code} (hf : P.funcs[f]? = some fn) (hb : fn.body = some body) (hok : callOk P f = true) {args : List LV} (hlen : args.length ≤ fn.ntmps) {H : LH} {R : LV → LH → Prop}
    (h : ∀ η w, Holds P ⟨η, H, w, fn.ntmps⟩ (Ret tab fn H.length R) ⟨.run [.code body], env0 0 args, H⟩) : LCall P f args H R := by
  refine ⟨hok, fun η w hs hin => calls_of_wp hf hb ?_⟩
  have hd : Den fn.ntmps (· < H.length) η (env0 0 args) { tmps := (args.map (LV.den η)).toArray ++ Array.replicate (fn.ntmps - (args.map (LV.den η)).toArray.size) undef, defers := [] } := by
    refine ⟨rfl, by simp; omega, fun t v ht => ?_⟩
    obtain ⟨_, h2⟩ := env0_lk ht
    rw [Nat.sub_zero] at h2
    refine ⟨hin v (List.mem_of_getElem? h2), ?_⟩
    have hlt : t < args.length := (List.getElem?_eq_some_iff.1 h2).1
    rw [Array.getElem?_append_left (by simpa using hlt)]
    simp [h2]
  have h1 := h η w η _ w (.refl hs) hd
  refine wp_mono h1 ?_
  rintro e a w' ⟨η', env, H', ⟨he, v, v2, H2, hres, hden, hR, hk, hv, hH⟩, hx, hd'⟩
  obtain ⟨_, hrun⟩ := lres_ok (P := P) hT hx.sim hd' hres
  have : a.defers = [] ∧ ∃ v, (results fn a.tmps).run P w' = .ok v w' ∧ LPost η H w R (.returned v) w' :=
    ⟨hd'.defers, _, hrun, v2, H2, η', hR, by rw [hden], hv, hx.less hk hH⟩
  rcases he with rfl | rfl
  · exact this
  · exact this
/-- Leaving. -/
theorem holds_ret {k : List Frm} {H : LH} (h : Q .ret env H) : Holds P c Q ⟨.run (.code .ret :: k), env, H⟩ := by
  intro η a w hx hd
  refine wp_ret ?_
  have key : ∀ k, post P k (Up c Q) .ret a w := by
    intro k
    induction k with
    | nil => exact ⟨η, env, H, h, hx, hd⟩
    | cons x k ih => cases x <;> exact ih
  exact key k
/-- A bool in a slot is known. -/
theorem holds_bool {p : Pt} {H : LH} (t : Nat) {b r : Bool} (hb : lk env t = some (.a (.c (.bool (.var b))))) (hr : b = r) (h : Holds P c Q ⟨p, (t, .a (.c (.bool (.lit r)))) :: env, H⟩) : Holds P c Q ⟨p, env, H⟩ := by
  intro η a w hx hd
  refine h η a w hx ⟨hd.defers, hd.size, fun s v hs => ?_⟩
  rcases lk_put hs with ⟨rfl, rfl⟩ | ⟨_, hs⟩
  · obtain ⟨h1, h2⟩ := hd.slot _ _ hb
    subst hr
    exact ⟨in_none rfl, h2⟩
  · exact hd.slot s v hs
/-- A slot's value is told in other words. -/
theorem holds_same {p : Pt} {H : LH} (t : Nat) {v u : LV} (hv : lk env t = some v) (hu : ∀ η, u.den η = v.den η) (hin : ∀ F, v.In F → u.In F) (h : Holds P c Q ⟨p, (t, u) :: env, H⟩) : Holds P c Q ⟨p, env, H⟩ := by
  intro η a w hx hd
  refine h η a w hx ⟨hd.defers, hd.size, fun s v' hs => ?_⟩
  rcases lk_put hs with ⟨rfl, rfl⟩ | ⟨_, hs⟩
  · obtain ⟨h1, h2⟩ := hd.slot _ _ hv
    exact ⟨hin _ h1, by rw [hu]; exact h2⟩
  · exact hd.slot s v' hs
/-- Fewer slots are told. -/
theorem holds_env {p : Pt} {H : LH} {env' : Env} (he : ∀ t v, lk env' t = some v → lk env t = some v) (h : Holds P c Q ⟨p, env', H⟩) : Holds P c Q ⟨p, env, H⟩ :=
  fun η a w hx hd => h η a w hx ⟨hd.defers, hd.size, fun t v ht => hd.slot t v (he t v ht)⟩
def largs (env : Env) : List Operand → Option (List LV)
  | [] => some []
  | x :: r => match ev env x, largs env r with
    | some v, some vs => some (v :: vs)
    | _, _ => none
theorem largs_ok {F : Nat → Prop} (hd : Den n F η env a) : ∀ {l : List Operand} {vs : List LV}, largs env l = some vs → l.map a.eval = vs.map (LV.den η) ∧ ∀ v ∈ vs, v.In F
  | [], vs, h => by
    obtain rfl := Option.some.inj h
    exact ⟨rfl, fun v hv => by cases hv⟩
  | x :: r, vs, h => by
    simp only [largs] at h
    split at h
    · rename_i v ws hv hw
      obtain rfl := Option.some.inj h
      obtain ⟨h1, h2⟩ := ev_den hd hv
      obtain ⟨h3, h4⟩ := largs_ok hd hw
      refine ⟨by simp only [List.map_cons, h1, h3], fun u hu => ?_⟩
      rcases List.mem_cons.1 hu with rfl | hu
      · exact h2
      · exact h4 u hu
    · cases h
/-- The function, and the arguments, of a call. -/
def lcallee (env : Env) (op : Op) : Option (FuncId × List LV) :=
  match op with
  | .call c => match c.callee with
    | .value fx => match ev env fx, largs env c.args.toList with
      | some (.a (.c (.fn f caps))), some args => some (f, args ++ caps.map fun p => .a (.c (.ptr p.1 (.lit p.2))))
      | _, _ => none
    | _ => none
  | _ => none
theorem run_callFunc {f : FuncId} (hok : callOk P f = true) (args : Array Value) (w : World) : (callFunc f args).run P w = .ok (.enter f args) w := by
  unfold callOk at hok
  split at hok
  · rename_i fn hf
    simp only [Bool.and_eq_true, Bool.not_eq_true'] at hok
    unfold callFunc program
    simp only [Sem.run_bind, Sem.run, Result.andThen_ok, hf]
    have h1 : ¬ (fn.name == "runtime.NumGoroutine") = true := by rw [hok.2]; simp
    rw [if_neg h1]
    have h2 : ¬ fn.body.isNone = true := by
      cases hb : fn.body with
      | none => rw [hb] at hok; simp at hok
      | some b => simp
    rw [if_neg h2]; rfl
  · cases hok
theorem lcallee_run {F : Nat → Prop} (hd : Den n F η env a) {o : Oper} {f : FuncId} {args : List LV} (h : lcallee env o.op = some (f, args)) (hok : callOk P f = true) :
    (∀ x ∈ args, x.In F) ∧ (execOp a.eval o).run P w = .ok (.enter f (args.map (LV.den η)).toArray) w := by
  generalize hop : o.op = op at h
  unfold lcallee at h
  split at h
  · rename_i c
    split at h
    · rename_i fx hcal
      split at h
      · rename_i f' caps args' hf hargs
        simp only [Option.some.injEq, Prod.mk.injEq] at h
        obtain ⟨rfl, rfl⟩ := h
        obtain ⟨h1, h2⟩ := ev_den hd hf
        obtain ⟨h3, h4⟩ := largs_ok hd hargs
        refine ⟨fun x hx => ?_, ?_⟩
        · rcases List.mem_append.1 hx with hx | hx
          · exact h4 x hx
          · simp only [List.mem_map] at hx
            obtain ⟨p, hp, rfl⟩ := hx
            exact in_ptr (of_in h2 p.1 (by simp only [LC.refs]; exact List.mem_map_of_mem hp))
        · obtain ⟨callee, cargs, ctys⟩ := c
          simp only at hcal hargs h3
          subst hcal
          have e1 : cargs.map a.eval = (args'.map (LV.den η)).toArray := by rw [← h3, ← Array.toList_inj]; simp
          simp only [execOp, hop, resolve, h1, e1, LV.den, LA.den, LC.den, Deferred.ofValue, Sem.run_bind, Sem.run_pure, Result.andThen_ok, invoke]
          rw [run_callFunc hok]
          simp [LV.den, LA.den, LC.den, Function.comp_def, NE.lit_v]
      · cases h
    · cases h
  · cases h
/-- A call, by its contract. -/
theorem holds_call {arr : Array Oper} {i : Nat} {l : List Nat} {k : List Frm} {H : LH} {o : Oper} (ho : arr[i]? = some o) (hg : lguard arr env o = some true) {f : FuncId} {args : List LV} (hc : lcallee env o.op = some (f, args))
    {R : LV → LH → Prop} (C : LCall P f args H R) {d : Nat} (hdst : o.dst = some d) (hlt : d < c.n) (h : ∀ v H', R v H' → Holds P c Q ⟨.ops arr l k, (d, v) :: env, H'⟩) : Holds P c Q ⟨.ops arr (i :: l) k, env, H⟩ := by
  intro η a w hx hd
  simp only [At]
  unfold wpOps
  simp only [ho]
  rw [if_pos (lguard_ok hd hg)]
  left
  obtain ⟨hin, hrun⟩ := lcallee_run (P := P) (w := w) hd hc C.1
  unfold Oper.wp
  rw [hrun, Oper.upon_enter]
  refine (C.2 η w hx.sim hin).mono ?_
  rintro e w' ⟨v, H', η', hR, rfl, hv, hx'⟩
  have hd' : Den c.n (· < H'.length) η' env a := hd.mono (fun i hi => Nat.lt_of_lt_of_le hi hx'.len) hx'.on
  have hnext := h v H' hR η' (a.put (some d) (v.den η')) w' (hx.trans hx') (hd'.put hlt hv)
  rw [hdst]
  exact hnext
/-- A call that only computes. -/
def LPure (P : Program) (f : FuncId) (args : List LV) (v : LV) : Prop := LCall P f args [] (fun v' H' => v' = v ∧ H' = [])
def LV.free (v : LV) : Prop := v.In (fun _ => False)
theorem LV.free_den {v : LV} (h : v.free) (η η' : Eta) : v.den η = v.den η' := LV.den_congr (F := fun _ => False) (fun _ h => h.elim) h
theorem Sim.nil (F : Nat → Prop) (η : Eta) (w : World) : Sim F η [] w :=
  ⟨fun i b h => by simp at h, fun i b h => by simp at h, fun i b h => by simp at h, fun i b h => by simp at h, fun i j b b' h => by simp at h⟩
theorem LPure.any {f : FuncId} {args : List LV} {v : LV} (h : LPure P f args v) (hargs : ∀ x ∈ args, x.free) (hv : v.free) (H : LH) : LCall P f args H (fun v' H' => v' = v ∧ H' = H) := by
  refine ⟨h.1, fun η w hs hin => (h.2 η w (Sim.nil _ η w) (fun x hx => (hargs x hx).mono fun _ h => h.elim)).mono ?_⟩
  rintro e w' ⟨v', H', η', ⟨rfl, rfl⟩, rfl, hv', hx⟩
  have hk : ∀ b, b < w.heap.size → w'.heap[b]? = w.heap[b]? := fun b hb => hx.kept.block b hb (by rintro ⟨i, b, h, _⟩; simp at h)
  exact ⟨v', H, η, ⟨rfl, rfl⟩, by rw [LV.free_den hv η' η], hv.mono fun _ h => h.elim, ⟨hs.kept hk, fun _ _ => rfl, Nat.le_refl _, ⟨hx.kept.os, hx.kept.tape, hx.kept.output, hx.kept.size, fun b hb _ => hk b hb⟩, fun i b hi ho => .inl ⟨i, b, hi, ho, rfl⟩⟩⟩
/-- Leaving a function that only computes. -/
theorem ret_pure {fn : Func} {H0 : LH} {e : Exit} (he : e = .ret ∨ e = .normal) {H : LH} {v v' : LV} (hres : lres tab env H fn.results.toList = some v) (hden : ∀ η, v'.den η = v.den η) (hv : v'.free) (hH : H.take H0.length = H0)
    (hsc : ∀ (i : Nat) (b : LBlk), H0[i]? = some (some b) → ∀ c ∈ b.cells, c.In (· < H0.length)) : Ret tab fn H0.length (fun u H' => u = v' ∧ H' = H0) e env H := by
  refine ⟨he, v, v', H0, hres, hden, ⟨rfl, rfl⟩, Nat.le_refl _, hv.mono fun _ h => h.elim, fun i b hi => ⟨?_, hsc i b hi⟩⟩
  have hlt : i < H0.length := (List.getElem?_eq_some_iff.1 hi).1
  rw [← hH, List.getElem?_take, if_pos hlt] at hi
  exact hi
end
end Go.Proofs.Ytbkcaedlijhnlaa.LB
