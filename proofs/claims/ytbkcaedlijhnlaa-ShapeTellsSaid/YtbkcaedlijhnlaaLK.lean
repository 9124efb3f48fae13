/- append to rows of any length; blocks that get other numbers. -/
import Derived.Test.YtbkcaedlijhnlaaLJ
namespace Go.Proofs.Ytbkcaedlijhnlaa.LB
open Go Go.RowKit
section
variable {P : Program} {tab : Tab} {c : Ctx} {Q : Exit → Env → LH → Prop} {arr : Array Oper} {l : List Nat} {k : List Frm} {env : Env} {H : LH}
theorem holds_opto {i0 : Nat} {o : Oper} (ho : arr[i0]? = some o) (hg : lguard arr env o = some true) {v : LV} {H' : LH} (hne : v ≠ .tup [])
    (hop : ∀ η a w, Sim (· < H.length) η H w → Den c.n (· < H.length) η env a → OpTo P o a η H w v H') {d : Nat} (hdst : o.dst = some d) (hd : d < c.n) (h : Holds P c Q ⟨.ops arr l k, (d, v) :: env, H'⟩) : Holds P c Q ⟨.ops arr (i0 :: l) k, env, H⟩ := by
  intro η a w hx hden
  simp only [At]
  unfold wpOps
  simp only [ho]
  rw [if_pos (lguard_ok hden hg)]
  left
  obtain ⟨η', w', hx', hv, hr⟩ := hop η a w hx.sim hden
  have hd' : Den c.n (· < H'.length) η' env a := hden.mono (fun i hi => Nat.lt_of_lt_of_le hi hx'.len) hx'.on
  rcases hr with hr | ⟨_, rfl⟩
  · unfold Oper.wp
    rw [hr, Oper.upon_value, hdst]
    exact h η' _ w' (hx.trans hx') (hd'.put hd hv)
  · exact absurd rfl hne
def isApp (o : Oper) : Option (Operand × Operand × Nat × Nat) :=
  match o.op with
  | .call c => match c.callee, c.args.toList, c.argTypes.toList with
    | .builtin .append, [s, x], [st, xt] => some (s, x, st, xt)
    | _, _, _ => none
  | _ => none
theorem isApp_ok {o : Oper} {s x : Operand} {st xt : Nat} (h : isApp o = some (s, x, st, xt)) : appOp o s x st xt := by
  unfold isApp at h
  split at h
  · rename_i c hc
    split at h
    · rename_i s' x' st' xt' h1 h2 h3
      simp only [Option.some.injEq, Prod.mk.injEq] at h
      obtain ⟨rfl, rfl, rfl, rfl⟩ := h
      exact ⟨c, hc, h1, by rw [← Array.toList_inj, h2], by rw [← Array.toList_inj, h3]⟩
    · cases h
  · cases h
/-- the types of an append -/
def appT (tab : Tab) (st xt : Nat) : Option (Nat × TI) :=
  match tyOf tab st, tyOf tab xt with
  | some ti, some tx => match ti.kind, tx.kind with
    | .slice e, .slice _ => match tyOf tab e with
      | some tj => if tj.zero.length = tj.size ∧ tj.size ≠ 0 ∧ tj.bytes ≠ 0 then some (e, tj) else none
      | none => none
    | _, _ => none
  | _, _ => none
theorem appT_ok (hT : TOk P tab) {st xt e : Nat} {tj : TI} (h : appT tab st xt = some (e, tj)) : AppT P st xt e tj := by
  unfold appT at h
  split at h
  · rename_i ti tx hti htx
    split at h
    · rename_i e' e2 hk hk2
      split at h
      · rename_i tj' hj
        by_cases hz : tj'.zero.length = tj'.size ∧ tj'.size ≠ 0 ∧ tj'.bytes ≠ 0
        · rw [if_pos hz] at h
          simp only [Option.some.injEq, Prod.mk.injEq] at h
          obtain ⟨rfl, rfl⟩ := h
          exact ⟨kind_slice (tfacts hT hti) hk, ⟨e2, kind_slice (tfacts hT htx) hk2⟩, tfacts hT hj, hz.1, hz.2.1, hz.2.2⟩
        · rw [if_neg hz] at h; cases h
      · cases h
    · cases h
  · cases h
/-- append to a row of the call's own. -/
theorem holds_append (hT : TOk P tab) {i0 : Nat} {o : Oper} (ho : arr[i0]? = some o) (hg : lguard arr env o = some true) {s x : Operand} {st xt : Nat} (hop : isApp o = some (s, x, st, xt)) {e : Nat} {tj : TI} (ht : appT tab st xt = some (e, tj))
    {i : Nat} {off L : NE} (hs : ev env s = some (.a (.c (.slice i off L tj.size none)))) {b : LBlk} (hb : H[i]? = some (some b)) (hown : b.own = true) (hty : b.ty = e) (hr : off.v + L.v * tj.size ≤ b.cells.length)
    {j : Nat} {off2 K : NE} {cap : Option Nat} (hx : ev env x = some (.a (.c (.slice j off2 K tj.size cap)))) {b2 : LBlk} (hb2 : H[j]? = some (some b2)) (hr2 : off2.v + K.v * tj.size ≤ b2.cells.length) (hbig : (2 * (L.v + K.v) + 192) * tj.bytes ≤ 281474976710656) (sym : Bool)
    {d : Nat} (hdst : o.dst = some d) (hd : d < c.n) (h : Holds P c Q ⟨.ops arr l k, (d, .a (.c (.slice H.length (.lit 0) (NE.plus L K) tj.size none))) :: env, H.set i none ++ [some ⟨(b.cells.drop off.v).take (L.v * tj.size) ++ (b2.cells.drop off2.v).take (K.v * tj.size), true, e, sym⟩]⟩) :
    Holds P c Q ⟨.ops arr (i0 :: l) k, env, H⟩ :=
  holds_opto ho hg (by simp) (fun _ _ _ hsim hden => OpTo.append_own (appT_ok hT ht) hsim (isApp_ok hop) (ev_den hden hs).1 hb hown hty hr (ev_den hden hx).1 (hsim.src hb2 hr2) (fun c hc => (hsim.inn j b2 hb2).2 c (List.mem_of_mem_drop (List.mem_of_mem_take hc))) hbig sym) hdst hd h
/-- append where there is nothing yet. -/
theorem holds_append0 (hT : TOk P tab) {i0 : Nat} {o : Oper} (ho : arr[i0]? = some o) (hg : lguard arr env o = some true) {s x : Operand} {st xt : Nat} (hop : isApp o = some (s, x, st, xt)) {e : Nat} {tj : TI} (ht : appT tab st xt = some (e, tj))
    (hs : ev env s = some (.a (.c .nils)))
    {j : Nat} {off2 K : NE} {cap : Option Nat} (hx : ev env x = some (.a (.c (.slice j off2 K tj.size cap)))) {b2 : LBlk} (hb2 : H[j]? = some (some b2)) (hr2 : off2.v + K.v * tj.size ≤ b2.cells.length) (hK : 0 < K.v) (hbig : (2 * K.v + 192) * tj.bytes ≤ 281474976710656) (sym : Bool)
    {d : Nat} (hdst : o.dst = some d) (hd : d < c.n) (h : Holds P c Q ⟨.ops arr l k, (d, .a (.c (.slice H.length (.lit 0) (NE.plus (.lit 0) K) tj.size none))) :: env, H ++ [some ⟨(b2.cells.drop off2.v).take (K.v * tj.size), true, e, sym⟩]⟩) :
    Holds P c Q ⟨.ops arr (i0 :: l) k, env, H⟩ :=
  holds_opto ho hg (by simp) (fun _ _ _ hsim hden => OpTo.append_new (appT_ok hT ht) hsim (isApp_ok hop) (B := none) (L := .lit 0) (c := 0) (ev_den hden hs).1 (xs := []) (Src.nil _ (appT_ok hT ht).s0) (fun c hc => by cases hc) (by simpa [NE.v] using hK) (ev_den hden hx).1 (hsim.src hb2 hr2) (fun c hc => (hsim.inn j b2 hb2).2 c (List.mem_of_mem_drop (List.mem_of_mem_take hc))) (by simpa [NE.v] using hbig) sym) hdst hd h
end
/-! ### other numbers for the blocks -/
def CellsRen (ρ : Nat → Nat) (cs' cs : List LC) : Prop := cs'.length = cs.length ∧ ∀ η : Eta, cs'.map (LC.den fun i => η (ρ i)) = cs.map (LC.den η)
def HeapRen (ρ : Nat → Nat) (n : Nat) (H : LH) : Nat → LH → Prop
  | _, [] => True
  | i, none :: r => HeapRen ρ n H (i + 1) r
  | i, some b' :: r => (∃ b, H[ρ i]? = some (some b) ∧ b'.own = b.own ∧ b'.ty = b.ty ∧ CellsRen ρ b'.cells b.cells ∧ ∀ c ∈ b'.cells, c.In (· < n)) ∧ HeapRen ρ n H (i + 1) r
theorem HeapRen.get {ρ : Nat → Nat} {n : Nat} {H : LH} : ∀ {H' : LH} {i0 i : Nat} {b' : LBlk}, HeapRen ρ n H i0 H' → H'[i]? = some (some b') →
    ∃ b, H[ρ (i0 + i)]? = some (some b) ∧ b'.own = b.own ∧ b'.ty = b.ty ∧ CellsRen ρ b'.cells b.cells ∧ ∀ c ∈ b'.cells, c.In (· < n)
  | [], _, _, _, _, h => by simp at h
  | none :: r, i0, 0, _, _, h => by simp at h
  | none :: r, i0, i + 1, b', h, hi => by
    have := HeapRen.get (i := i) (b' := b') (show HeapRen ρ n H (i0 + 1) r from h) (by simpa using hi)
    rwa [Nat.add_assoc, Nat.add_comm 1 i] at this
  | some b1 :: r, i0, 0, b', h, hi => by
    simp at hi
    subst hi
    exact h.1
  | some b1 :: r, i0, i + 1, b', h, hi => by
    have := HeapRen.get (i := i) (b' := b') h.2 (by simpa using hi)
    rwa [Nat.add_assoc, Nat.add_comm 1 i] at this
def EnvRen (ρ : Nat → Nat) (n : Nat) (env : Env) : Env → Prop
  | [] => True
  | (t, v') :: r => (v'.In (· < n) ∧ ∃ v, lk env t = some v ∧ ∀ η : Eta, v'.den (fun i => η (ρ i)) = v.den η) ∧ EnvRen ρ n env r
theorem EnvRen.get {ρ : Nat → Nat} {n : Nat} {env : Env} : ∀ {e : Env} {t : Nat} {v' : LV}, EnvRen ρ n env e → lk e t = some v' → v'.In (· < n) ∧ ∃ v, lk env t = some v ∧ ∀ η : Eta, v'.den (fun i => η (ρ i)) = v.den η
  | [], _, _, _, h => by simp [lk] at h
  | (s, x) :: r, t, v', h, hl => by
    rcases lk_put hl with ⟨rfl, rfl⟩ | ⟨_, hl⟩
    · exact h.1
    · exact h.2.get hl
def injOn (ρ : Nat → Nat) (n : Nat) : Bool := (List.range n).all fun i => (List.range n).all fun j => i == j || ρ i != ρ j
theorem holds_ren {P : Program} {c : Ctx} {Q : Exit → Env → LH → Prop} {p : Pt} {env : Env} {H : LH} (ρ : Nat → Nat) (env' : Env) (H' : LH) (hρ : ((List.range c.H0.length).all fun i => ρ i == i) = true) (hlen : Nat.ble c.H0.length H'.length = true) (hinj : injOn ρ H'.length = true)
    (he : EnvRen ρ H'.length env env') (hH : HeapRen ρ H'.length H 0 H') (h : Holds P c Q ⟨p, env', H'⟩) : Holds P c Q ⟨p, env, H⟩ := by
  intro η a w hx hd
  have hρ' : ∀ i, i < c.H0.length → ρ i = i := fun i hi => by
    have := List.all_eq_true.1 hρ i (List.mem_range.2 hi)
    simpa using this
  have hin : ∀ i j, i < H'.length → j < H'.length → i ≠ j → ρ i ≠ ρ j := fun i j hi hj hne => by
    have := List.all_eq_true.1 (List.all_eq_true.1 hinj i (List.mem_range.2 hi)) j (List.mem_range.2 hj)
    simp only [Bool.or_eq_true, beq_iff_eq, bne_iff_ne] at this
    exact this.resolve_left hne
  have get : ∀ {i b'}, H'[i]? = some (some b') → ∃ b, H[ρ i]? = some (some b) ∧ b'.own = b.own ∧ b'.ty = b.ty ∧ CellsRen ρ b'.cells b.cells ∧ ∀ c ∈ b'.cells, c.In (· < H'.length) := fun {i b'} hi => by
    have := hH.get hi
    rwa [Nat.zero_add] at this
  refine h (fun i => η (ρ i)) a w ⟨⟨fun i b' hi => ⟨(List.getElem?_eq_some_iff.1 hi).1, ?_⟩, fun i b' hi j c' hj => ?_, fun i b' hi => ?_, fun i b' hi ho => ?_, fun i j b1 b2 hi hj hne ho hc => ?_⟩, fun i hi => ?_, Nat.le_of_ble_eq_true hlen, hx.kept, fun i b' hi ho => ?_⟩ ⟨hd.defers, hd.size, fun t v' ht => ?_⟩
  · obtain ⟨b, _, _, _, _, h5⟩ := get hi
    exact h5
  · obtain ⟨b, h1, _, _, h4, _⟩ := get hi
    have h6 := congrArg (·[j]?) (h4.2 η)
    simp only [List.getElem?_map, hj, Option.map_some] at h6
    cases hb : b.cells[j]? with
    | none => rw [hb] at h6; simp at h6
    | some c0 =>
      rw [hb] at h6
      simp only [Option.map_some, Option.some.injEq] at h6
      rw [h6]
      exact hx.sim.cell _ b h1 j c0 hb
  · obtain ⟨b, h1, _, _, h4, _⟩ := get hi
    rw [h4.1]
    exact hx.sim.room _ b h1
  · obtain ⟨b, h1, h2, h3, h4, _⟩ := get hi
    rw [h3, h4.1]
    exact hx.sim.own _ b h1 (by rw [← h2]; exact ho)
  · obtain ⟨d1, h1, h2, _, h4, _⟩ := get hi
    obtain ⟨d2, g1, g2, _, g4, _⟩ := get hj
    refine hx.sim.apart _ _ d1 d2 h1 g1 (hin i j (List.getElem?_eq_some_iff.1 hi).1 (List.getElem?_eq_some_iff.1 hj).1 hne) (by rw [← h2]; exact ho) ?_
    rcases hc with hc | hc
    · exact .inl (by rw [← g2]; exact hc)
    · exact .inr fun h0 => hc (List.length_eq_zero_iff.1 (by rw [g4.1, h0]; rfl))
  · show η (ρ i) = _
    rw [hρ' i hi]; exact hx.on i hi
  · obtain ⟨b, h1, h2, _, _, _⟩ := get hi
    exact hx.mine _ b h1 (by rw [← h2]; exact ho)
  · obtain ⟨h1, v, h2, h3⟩ := he.get ht
    exact ⟨h1, by rw [h3 η]; exact (hd.slot t v h2).2⟩
/-! ### rows of any length in regions of open order -/
section
variable {P : Program} {tab : Tab} {c : Ctx} {Q : Exit → Env → LH → Prop} {id : Nat} {arr : Array Oper} {k : List Frm} {env0 : Env} {H0 : LH} {nA : Nat}
theorem dholds_index (hT : TOk P tab) {o : Oper} {rest : List Oper} {env : Env} {H : LH} {nid : Nat} {acc : List PR} (hg : lguard arr env o = some true) {t : Nat} {x ix : Operand} (hop : o.op = .indexAddr t x ix)
    {ti tj : TI} {e : Nat} (ht : tyOf tab t = some ti) (hk : ti.kind = .slice e) (hj : tyOf tab e = some tj) {j : Nat} {off len : NE} {cap : Option Nat} (hx : ev env x = some (.a (.c (.slice j off len tj.size cap)))) {kk : IntKind} {m : IE} (hix : ev env ix = some (.a (.c (.int kk m))))
    {q : Nat} (hq : m.v = (q : Int)) (hlt : q < len.v) (hd : dstOk c.n o = true)
    (h : DHolds P c Q id arr k env0 H0 nA ⟨rest, eput env o.dst (.a (.c (.ptr j (.var (off.v + q * tj.size))))), H, nid, acc ++ [⟨.val [], .a (.c (.ptr j (.var (off.v + q * tj.size)))), default⟩]⟩) : DHolds P c Q id arr k env0 H0 nA ⟨o :: rest, env, H, nid, acc⟩ := by
  intro hgd
  refine h (hgd.snoc (q := ⟨.val [], .a (.c (.ptr j (.var (off.v + q * tj.size)))), default⟩) ⟨dstOk_ok hd, hg, fun F η Hs envS a w hag _ hs hden => ?_⟩ _)
  obtain ⟨h1, h2⟩ := ev_den hden (x := x) (by rw [hag x (by rw [hop]; simp [Op.operands])]; exact hx)
  obtain ⟨h3, _⟩ := ev_den hden (x := ix) (by rw [hag ix (by rw [hop]; simp [Op.operands])]; exact hix)
  refine ⟨in_ptr (of_slice h2), fun K Q hK => wp_val ?_ K Q hK⟩
  simp only [execOp, hop]
  refine run_val ?_
  rw [h1, h3]
  simp only [LV.den, LA.den, LC.den]
  rw [run_indexAt_slice (kind_slice (tfacts hT ht) hk) (tfacts hT hj) _ _ (by rw [hq]; omega) (by rw [hq]; omega), add_add, hq]
  rfl
theorem dholds_load (hT : TOk P tab) {o : Oper} {rest : List Oper} {env : Env} {H : LH} {nid : Nat} {acc : List PR} (hg : lguard arr env o = some true) {t : Nat} {x : Operand} (hop : o.op = .load t x)
    {ti : TI} (ht : tyOf tab t = some ti) {j : Nat} {off : NE} (hx : ev env x = some (.a (.c (.ptr j off)))) {b : LBlk} (hb : H[j]? = some (some b)) (hd : dstOk c.n o = true) {v : LA} (hr : off.v + ti.size ≤ b.cells.length) (hv : asVar ti ((b.cells.drop off.v).take ti.size) = some v)
    (h : DHolds P c Q id arr k env0 H0 nA ⟨rest, eput env o.dst (.a v), H, nid, acc ++ [⟨.val [j], .a v, default⟩]⟩) : DHolds P c Q id arr k env0 H0 nA ⟨o :: rest, env, H, nid, acc⟩ := by
  intro hgd
  refine h (hgd.snoc (q := ⟨.val [j], .a v, default⟩) ⟨dstOk_ok hd, hg, fun F η Hs envS a w hag hH hs hden => ?_⟩ _)
  have hx' := (ev_den hden (x := x) (by rw [hag x (by rw [hop]; simp [Op.operands])]; exact hx)).1
  rw [← hH j (by simp)] at hb
  obtain ⟨h1, h2⟩ := run_load_op hT hs hop ht hx' hb rfl hr hv
  exact ⟨h1, fun K Q hK => wp_val h2 K Q hK⟩
end
end Go.Proofs.Ytbkcaedlijhnlaa.LB
