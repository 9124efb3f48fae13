/- One operation over a logical state, as a function. -/
import Derived.Test.YtbkcaedlijhnlaaLX
namespace Go.Proofs.Ytbkcaedlijhnlaa.LB
open Go Go.RowKit
def idTab : List Nat := [0, 1, 2, 3, 4, 5, 6, 7, 8, 9, 10, 11, 12, 13, 14, 15, 16, 17, 18, 19, 20, 21, 22, 23, 24, 25, 26, 27, 28, 29, 30, 31, 32, 33, 34, 35, 36, 37, 38, 39, 40, 41, 42, 43, 44, 45, 46, 47, 48, 49, 50, 51, 52, 53, 54, 55, 56, 57, 58, 59, 60, 61, 62, 63, 64, 65, 66, 67, 68, 69, 70, 71, 72, 73, 74, 75, 76, 77, 78, 79, 80, 81, 82, 83, 84, 85, 86, 87, 88, 89, 90, 91, 92, 93, 94, 95, 96, 97, 98, 99]
def litId (m : Nat) : Option Nat :=
  match idTab[m]? with
  | some k => cond (Nat.beq k m) (some k) none
  | none => none
theorem litId_ok {m k : Nat} (h : litId m = some k) : k = m := by
  unfold litId at h
  split at h
  · rename_i j _
    cases hb : Nat.beq j m with
    | true =>
      rw [hb] at h
      obtain rfl := Option.some.inj h
      exact Nat.eq_of_beq_eq_true hb
    | false => rw [hb] at h; cases h
  · cases h
/-- the cells that an append takes -/
def lsrc (H : LH) (sz : Nat) (v : LV) : Option (List LC × Nat) :=
  match v with
  | .a (.c .nils) => some ([], 0)
  | .a (.c (.emp _ _)) => some ([], 0)
  | .a (.c (.slice i (.lit o) (.lit k) esz _)) => if esz = sz then (rdH H i o (k * sz)).map fun xs => (xs, k) else none
  | _ => none
def lappend (tab : Tab) (env : Env) (H : LH) (s x : Operand) (st xt : Nat) : Option (LV × LH) :=
  match tyOf tab st, tyOf tab xt, ev env s, ev env x with
  | some ti, some tx, some vs, some vx => match ti.kind, tx.kind with
    | .slice e, .slice _ => match tyOf tab e with
      | some tj => match lsrc H tj.size vx with
        | some (ys, k) => if tj.zero.length = tj.size ∧ tj.size ≠ 0 ∧ tj.bytes ≠ 0 then (match vs with
          | .a (.c .nils) => match k with
            | 0 => some (vs, H)
            | k + 1 => match litId H.length with
              | some id => if (2 * (k + 1) + 192) * tj.bytes ≤ 281474976710656 then some (.a (.c (.slice id (.lit 0) (.lit (k + 1)) tj.size none)), H ++ [some ⟨ys, true, e, false⟩]) else none
              | none => none
          | .a (.c (.slice i (.lit o) (.lit L) esz cap)) => if esz = tj.size ∧ (2 * (L + k) + 192) * tj.bytes ≤ 281474976710656 then (match H[i]?, litId H.length with
            | some (some b), some id => cond b.sym none (match cap with
              | none => if b.own = true ∧ b.ty = e ∧ o + L * tj.size ≤ b.cells.length then some (.a (.c (.slice id (.lit 0) (.lit (L + k)) tj.size none)), H.set i none ++ [some ⟨(b.cells.drop o).take (L * tj.size) ++ ys, true, e, false⟩]) else none
              | some c => if c < L + k ∧ o + L * tj.size ≤ b.cells.length then some (.a (.c (.slice id (.lit 0) (.lit (L + k)) tj.size none)), H ++ [some ⟨(b.cells.drop o).take (L * tj.size) ++ ys, true, e, false⟩]) else none)
            | _, _ => none) else none
          | _ => none) else none
        | none => none
      | none => none
    | _, _ => none
  | _, _, _, _ => none
def lop (tab : Tab) (env : Env) (H : LH) (op : Op) (ty : TypeId) : Option (LV × LH) :=
  match op with
  | .load t x => match tyOf tab t, ev env x with
    | some ti, some (.a (.c (.ptr i (.lit o)))) => match rdH H i o ti.size with
      | some xs => (asVar ti xs).map fun v => (.a v, H)
      | none => none
    | _, _ => none
  | .store t x y => match tyOf tab t, ev env x, ev env y with
    | some ti, some (.a (.c (.ptr i (.lit o)))), some (.a v) => match H[i]? with
      | some (some b) => cond b.sym none (if b.own = true ∧ v.cells.length = ti.size ∧ o + ti.size ≤ b.cells.length then some (.tup [], H.set i (some { b with cells := setL b.cells o v.cells })) else none)
      | _ => none
    | _, _, _ => none
  | .alloc t => match tyOf tab t, litId H.length with
    | some ti, some id => some (.a (.c (.ptr id (.lit 0))), H ++ [some ⟨ti.zero, true, t, false⟩])
    | _, _ => none
  | .box t x => match ev env x, litId H.length with
    | some (.a v), some id => some (.a (.c (.ptr id (.lit 0))), H ++ [some ⟨v.cells, true, t, false⟩])
    | _, _ => none
  | .build t parts => (lbuild tab env t parts).map fun v => (v, H)
  | .buildSlice t len parts => match lbuildSlice tab env t len parts, litId H.length with
    | some (xs, e, sz), some id => if xs.length = len * sz ∧ sz ≠ 0 then some (.a (.c (.slice id (.lit 0) (.lit len) sz none)), H ++ [some ⟨xs, true, e, false⟩]) else none
    | _, _ => none
  | .slice t x lo hi mx => (lsliceV tab env H t x lo hi mx).map fun c => (.a (.c c), H)
  | .call c => match c.callee, c.args.toList, c.argTypes.toList with
    | .builtin .append, [s, x], [st, xt] => lappend tab env H s x st xt
    | _, _, _ => (lpure tab env (.call c) ty).map fun v => (v, H)
  | op => (lpure tab env op ty).map fun v => (v, H)
section
variable {P : Program} {tab : Tab} {n : Nat} {η : Eta} {env : Env} {a : Act} {H : LH} {w : World} {t : Nat} {ti : TI}
theorem lsrc_ok (hs : Sim (· < H.length) η H w) {sz : Nat} (hsz : sz ≠ 0) {v : LV} {ys : List LC} {k : Nat} (h : lsrc H sz v = some (ys, k)) : Src w η sz (v.den η) k ys ∧ ∀ c ∈ ys, c.In (· < H.length) := by
  unfold lsrc at h
  split at h
  · simp only [Option.some.injEq, Prod.mk.injEq] at h; obtain ⟨rfl, rfl⟩ := h
    exact ⟨Src.nil sz hsz, fun c hc => by cases hc⟩
  · simp only [Option.some.injEq, Prod.mk.injEq] at h; obtain ⟨rfl, rfl⟩ := h
    exact ⟨Src.emp sz _ _, fun c hc => by cases hc⟩
  · rename_i i o k' esz cap
    by_cases he : esz = sz
    · subst he
      rw [if_pos rfl] at h
      obtain ⟨xs, hx, he⟩ := map_some h
      simp only [Prod.mk.injEq] at he
      obtain ⟨rfl, rfl⟩ := he
      obtain ⟨b, hb, hr, rfl⟩ := rdH_ok hx
      exact ⟨hs.src hb (o := .lit o) (L := .lit k') hr, fun c hc => (hs.inn i b hb).2 c (List.mem_of_mem_drop (List.mem_of_mem_take hc))⟩
    · rw [if_neg he] at h; cases h
  · cases h
theorem opTo_pure' (hT : TOk P tab) (hs : Sim (· < H.length) η H w) (hd : Den n (· < H.length) η env a) {o : Oper} {v : LV} (h : lpure tab env o.op o.type = some v) : OpTo P o a η H w v H :=
  OpTo.pure hs (lpure_run (P := P) hT hd h).1 ((lpure_run hT hd h).2 w)
theorem lappend_ok (hT : TOk P tab) (hs : Sim (· < H.length) η H w) (hd : Den n (· < H.length) η env a) {o : Oper} {s x : Operand} {st xt : Nat} (ho : appOp o s x st xt) {v : LV} {H' : LH} (h : lappend tab env H s x st xt = some (v, H')) : OpTo P o a η H w v H' := by
  unfold lappend at h
  split at h
  · rename_i ti tx vs vx hts htx hvs hvx
    split at h
    · rename_i e e2 hk hk2
      split at h
      · rename_i tj hj
        split at h
        · rename_i ys k hsrc
          by_cases hz : tj.zero.length = tj.size ∧ tj.size ≠ 0 ∧ tj.bytes ≠ 0
          · rw [if_pos hz] at h
            have hA : AppT P st xt e tj := ⟨kind_slice (tfacts hT hts) hk, ⟨e2, kind_slice (tfacts hT htx) hk2⟩, tfacts hT hj, hz.1, hz.2.1, hz.2.2⟩
            obtain ⟨hsr, hsin⟩ := lsrc_ok hs hz.2.1 hsrc
            obtain ⟨hvs1, hvs2⟩ := ev_den hd hvs
            obtain ⟨hvx1, _⟩ := ev_den hd hvx
            rw [← hvx1] at hsr
            split at h
            · split at h
              · simp only [Option.some.injEq, Prod.mk.injEq] at h; obtain ⟨rfl, rfl⟩ := h
                obtain ⟨hl, _⟩ := id hsr
                have e0 : ys = [] := List.length_eq_zero_iff.1 (by omega)
                subst e0
                exact OpTo.append_none hA hs ho hvs2 hvs1 rfl (Nat.le_refl _) hsr
              · rename_i k'
                split at h
                · rename_i id hid
                  by_cases hbig : (2 * (k' + 1) + 192) * tj.bytes ≤ 281474976710656
                  · rw [if_pos hbig] at h
                    simp only [Option.some.injEq, Prod.mk.injEq] at h; obtain ⟨rfl, rfl⟩ := h
                    obtain rfl := litId_ok hid
                    have h9 := OpTo.append_new (P := P) hA hs ho (B := none) (L := .lit 0) (k := .lit (k' + 1)) (c := 0) hvs1 (xs := []) (Src.nil _ hz.2.1) (fun c hc => by cases hc) (by simp only [NE.lit_v]; omega) rfl hsr hsin (by simp only [NE.lit_v, Nat.zero_add]; exact hbig) false
                    have e9 : NE.plus (.lit 0) (.lit (k' + 1)) = .lit (k' + 1) := by simp only [NE.plus, Nat.zero_add]
                    rw [e9] at h9
                    exact h9
                  · rw [if_neg hbig] at h; cases h
                · cases h
            · rename_i i o' L esz cap
              by_cases hc : esz = tj.size ∧ (2 * (L + k) + 192) * tj.bytes ≤ 281474976710656
              · rw [if_pos hc] at h
                obtain ⟨rfl, hbig⟩ := hc
                split at h
                · rename_i b id hb hid
                  obtain rfl := litId_ok hid
                  cases hsy : b.sym with
                  | true => rw [hsy] at h; cases h
                  | false =>
                    rw [hsy] at h
                    simp only [cond_false] at h
                    split at h
                    · by_cases hcc : b.own = true ∧ b.ty = e ∧ o' + L * tj.size ≤ b.cells.length
                      · rw [if_pos hcc] at h
                        simp only [Option.some.injEq, Prod.mk.injEq] at h; obtain ⟨rfl, rfl⟩ := h
                        exact OpTo.append_own (P := P) hA hs ho (off := .lit o') (L := .lit L) hvs1 hb hcc.1 hcc.2.1 hcc.2.2 rfl (k := .lit k) hsr hsin hbig false
                      · rw [if_neg hcc] at h; cases h
                    · rename_i c
                      by_cases hcc : c < L + k ∧ o' + L * tj.size ≤ b.cells.length
                      · rw [if_pos hcc] at h
                        simp only [Option.some.injEq, Prod.mk.injEq] at h; obtain ⟨rfl, rfl⟩ := h
                        exact OpTo.append_new (P := P) hA hs ho (L := .lit L) (k := .lit k) hvs1 (hs.src hb (o := .lit o') (L := .lit L) hcc.2) (fun c hc => (hs.inn i b hb).2 c (List.mem_of_mem_drop (List.mem_of_mem_take hc))) hcc.1 rfl hsr hsin hbig false
                      · rw [if_neg hcc] at h; cases h
                · cases h
              · rw [if_neg hc] at h; cases h
            · cases h
          · rw [if_neg hz] at h; cases h
        · cases h
      · cases h
    · cases h
  · cases h
/-- One operation: what is told of it is so. -/
theorem lop_ok (hT : TOk P tab) (hs : Sim (· < H.length) η H w) (hd : Den n (· < H.length) η env a) {o : Oper} {v : LV} {H' : LH} (h : lop tab env H o.op o.type = some (v, H')) : OpTo P o a η H w v H' := by
  have pureCase : ∀ {op : Op}, o.op = op → (lpure tab env op o.type).map (fun v => (v, H)) = some (v, H') → OpTo P o a η H w v H' := by
    intro op ho hh
    obtain ⟨z, hz, he⟩ := map_some hh
    simp only [Prod.mk.injEq] at he
    obtain ⟨rfl, rfl⟩ := he
    exact opTo_pure' hT hs hd (by rw [ho]; exact hz)
  generalize hop : o.op = op at h
  unfold lop at h
  split at h
  · rename_i t x
    split at h
    · rename_i ti i off ht hx
      split at h
      · rename_i xs hxs
        obtain ⟨z, hz, he⟩ := map_some h
        simp only [Prod.mk.injEq] at he
        obtain ⟨rfl, rfl⟩ := he
        obtain ⟨b, hb, hr, rfl⟩ := rdH_ok hxs
        exact OpTo.load hT hs hop ht (off := .lit off) (ev_den hd hx).1 hb rfl hr hz
      · cases h
    · cases h
  · rename_i t x y
    split at h
    · rename_i ti i off u ht hx hy
      split at h
      · rename_i b hb
        cases hsy : b.sym with
        | true => rw [hsy] at h; cases h
        | false =>
          rw [hsy] at h
          simp only [cond_false] at h
          by_cases hc : b.own = true ∧ u.cells.length = ti.size ∧ off + ti.size ≤ b.cells.length
          · rw [if_pos hc] at h
            simp only [Option.some.injEq, Prod.mk.injEq] at h; obtain ⟨rfl, rfl⟩ := h
            have h9 := OpTo.store (P := P) hT hs hop ht (off := .lit off) (ev_den hd hx).1 (ev_den hd hy).1 (ev_den hd hy).2 hb hc.1 hc.2.1 hc.2.2
            rw [hsy] at h9
            exact h9
          · rw [if_neg hc] at h; cases h
      · cases h
    · cases h
  · rename_i t
    split at h
    · rename_i ti id ht hid
      simp only [Option.some.injEq, Prod.mk.injEq] at h; obtain ⟨rfl, rfl⟩ := h
      obtain rfl := litId_ok hid
      exact OpTo.alloc hT hs hop ht
    · cases h
  · rename_i t x
    split at h
    · rename_i u id hx hid
      simp only [Option.some.injEq, Prod.mk.injEq] at h; obtain ⟨rfl, rfl⟩ := h
      obtain rfl := litId_ok hid
      exact OpTo.box hs hop (ev_den hd hx).1 (ev_den hd hx).2
    · cases h
  · rename_i t parts
    obtain ⟨z, hz, he⟩ := map_some h
    simp only [Prod.mk.injEq] at he
    obtain ⟨rfl, rfl⟩ := he
    obtain ⟨h1, h2⟩ := lbuild_run (P := P) (w := w) hT hd hz
    refine OpTo.pure hs h1 ?_
    have e : execOp a.eval o = (do Pure.pure (Next.value (← Instr.build t (parts.map fun (i, x) => (i, a.eval x)))) : Sem Next) := by simp only [execOp, hop]
    rw [e]
    exact run_val h2
  · rename_i t len parts
    split at h
    · rename_i xs e sz id hb hid
      by_cases hc : xs.length = len * sz ∧ sz ≠ 0
      · rw [if_pos hc] at h
        simp only [Option.some.injEq, Prod.mk.injEq] at h; obtain ⟨rfl, rfl⟩ := h
        obtain rfl := litId_ok hid
        exact OpTo.buildSlice hT hs hd hop hb hc.1 hc.2
      · rw [if_neg hc] at h; cases h
    · cases h
  · rename_i t x lo hi mx
    obtain ⟨z, hz, he⟩ := map_some h
    simp only [Prod.mk.injEq] at he
    obtain ⟨rfl, rfl⟩ := he
    obtain ⟨h1, h2⟩ := lsliceV_run (P := P) hT hs hd hz
    refine OpTo.pure hs h1 ?_
    have e : execOp a.eval o = (do Pure.pure (Next.value (← Instr.sliceAt t (a.eval x) (lo.map a.eval) (hi.map a.eval) (mx.map a.eval))) : Sem Next) := by simp only [execOp, hop]
    rw [e]
    exact run_val h2
  · rename_i c
    split at h
    · rename_i s x st xt hcal hargs htys
      refine lappend_ok hT hs hd ⟨c, hop, hcal, by rw [← Array.toList_inj, hargs], by rw [← Array.toList_inj, htys]⟩ h
    · exact pureCase hop h
  · exact pureCase hop h
end
end Go.Proofs.Ytbkcaedlijhnlaa.LB
