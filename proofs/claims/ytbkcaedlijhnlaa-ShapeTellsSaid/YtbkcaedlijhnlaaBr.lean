/- From what is shown over logical states to calls at values that are read: a row as the first argument. -/
import Derived.Test.YtbkcaedlijhnlaaFix
import Derived.Test.YtbkcaedlijhnlaaOpen
namespace Go.Proofs.Ytbkcaedlijhnlaa.LB
open Go Go.RowKit Go.Proofs.YtbkcaedlijhnlaaW.PrintWords
theorem LPure.calls {args : List LV} {f : FuncId} {v : LV} (h : LPure Try.prog f args v) (hf : ∀ x ∈ args, x.free) (w : World) (η : Eta) : Calls Try.prog f (args.map (LV.den η)).toArray w (fun e w' => e = .returned (v.den η) ∧ Below w.heap.size w w') := by
  refine (h.2 η w (Sim.nil _ η w) (fun x hx => (hf x hx).mono fun _ h => h.elim)).mono ?_
  rintro e w' ⟨v', H', η', ⟨rfl, rfl⟩, rfl, hv', hx⟩
  exact ⟨congrArg Ending.returned (LV.den_congr (F := fun _ => False) (fun _ h => h.elim) (hv'.mono (by simp))), ⟨hx.kept.os, hx.kept.tape, hx.kept.output, hx.kept.size, fun b hb => hx.kept.block b hb (by rintro ⟨i, b, h, _⟩; simp at h)⟩⟩
theorem Enc.nth {α : Type} {sz : Nat} (E : Enc α sz) {xs : List α} {t : Nat} {c : LC} (hs : 0 < sz) (h : (E.all xs)[t]? = some c) : ∃ x, xs[t / sz]? = some x ∧ (E.cells x)[t % sz]? = some c := by
  have hlt : t < xs.length * sz := by rw [← E.all_len]; exact (List.getElem?_eq_some_iff.1 h).1
  have hj : t / sz < xs.length := Nat.div_lt_of_lt_mul (by rw [Nat.mul_comm]; exact hlt)
  refine ⟨_, List.getElem?_eq_getElem hj, ?_⟩
  have h1 := E.get (List.getElem?_eq_getElem hj)
  have h2 := congrArg (·[t % sz]?) h1
  simp only [List.getElem?_take, if_pos (Nat.mod_lt t hs), List.getElem?_drop] at h2
  rw [← h2, show t / sz * sz + t % sz = t by rw [Nat.mul_comm]; exact Nat.div_add_mod t sz]
  exact h
theorem row_sim {α : Type} {sz : Nat} (hs : 0 < sz) (E : Enc α sz) (ty : Nat) {d : Kd α} (hd : d.sz = sz) (hk : ∀ (w : World) (x : α) (cs : List Value) (η : Eta), d.K w x cs → cs = (E.cells x).map (LC.den η)) {xs : List α} {W : World} {ad : Addr} {c : Nat} (hl : xs.length ≤ c)
    (hr : ∀ j p, xs[j]? = some p → ∃ cs, cs.length = d.sz ∧ d.K W p cs ∧ ∀ i u, cs[i]? = some u → W.cell? (ad.add (j * d.sz + i)) = some u) (η : Eta) (hη : η 0 = ⟨ad, c * sz⟩) : Sim (· < ([some (Eblk E ty xs)] : LH).length) η [some (Eblk E ty xs)] W := by
  have one : ∀ {i b}, ([some (Eblk E ty xs)] : LH)[i]? = some (some b) → i = 0 ∧ b = Eblk E ty xs := fun {i b} h => by
    cases i with
    | zero => simp at h; exact ⟨rfl, h.symm⟩
    | succ i => simp at h
  refine ⟨fun i b hi => ?_, fun i b hi t cc ht => ?_, fun i b hi => ?_, fun i b hi ho => ?_, fun i j b b' hi _ _ ho => ?_⟩
  · obtain ⟨rfl, rfl⟩ := one hi
    exact ⟨by simp, fun c hc r hr => by rw [E.all_flat hc] at hr; cases hr⟩
  · obtain ⟨rfl, rfl⟩ := one hi
    obtain ⟨x, hx, hc⟩ := E.nth hs ht
    obtain ⟨cs, _, hK, hcell⟩ := hr _ x hx
    have h1 := hcell (t % sz) (cc.den η) (by rw [hk W x cs η hK]; simp [hc])
    rw [hd, show t / sz * sz + t % sz = t by rw [Nat.mul_comm]; exact Nat.div_add_mod t sz] at h1
    rw [hη]; exact h1
  · obtain ⟨rfl, rfl⟩ := one hi
    show (E.all xs).length ≤ _
    rw [E.all_len, hη]; exact Nat.mul_le_mul_right _ hl
  · obtain ⟨rfl, rfl⟩ := one hi; cases ho
  · obtain ⟨rfl, rfl⟩ := one hi; cases ho
theorem calls_row {α : Type} {sz : Nat} (hs : 0 < sz) (E : Enc α sz) {ty : Nat} {d : Kd α} (hd : d.sz = sz) (hk : ∀ (w : World) (x : α) (cs : List Value) (η : Eta), d.K w x cs → cs = (E.cells x).map (LC.den η)) {f : FuncId} {xs : List α} {rest : List LV} {v : LV}
    (C : LCall Try.prog f (sl xs.length sz :: rest) [some (Eblk E ty xs)] (fun v' H' => v' = v ∧ H' = [some (Eblk E ty xs)])) (C0 : ∀ A c, LPure Try.prog f (emp A c :: rest) v) (hrest : ∀ x ∈ rest, x.free) (hv : v.free)
    {W : World} {A : Option Addr} {c : Nat} (hl : xs.length ≤ c) (hr : d.C W A xs.length xs) (η0 : Eta) : Calls Try.prog f (Value.slice A xs.length c :: rest.map (LV.den η0)).toArray W (fun e w' => e = .returned (v.den η0) ∧ Below W.heap.size W w') := by
  have hrd : ∀ η : Eta, rest.map (LV.den η) = rest.map (LV.den η0) := fun η => List.map_congr_left fun x hx => LV.free_den (hrest x hx) _ _
  rcases Nat.eq_zero_or_pos xs.length with h0 | h0
  · have h1 := (C0 A c).calls (fun x hx => by
      rcases List.mem_cons.1 hx with rfl | hx
      · exact free_emp _ _
      · exact hrest x hx) W η0
    rw [h0]
    exact h1
  · obtain ⟨ad, rfl, hc⟩ := hr.2.2 h0
    have hS := row_sim hs E ty hd hk hl hc (fun _ => ⟨ad, c * sz⟩) rfl
    have h1 := C.2 (fun _ => ⟨ad, c * sz⟩) W hS (fun x hx => by
      rcases List.mem_cons.1 hx with rfl | hx
      · exact in_cell (fun r hr => by simp only [LC.refs, List.mem_singleton] at hr; subst hr; simp)
      · exact (hrest x hx).mono fun _ h => h.elim)
    have e1 : ((sl xs.length sz :: rest).map (LV.den fun _ => ⟨ad, c * sz⟩)).toArray = (Value.slice (some ad) xs.length c :: rest.map (LV.den η0)).toArray := by
      have hn : ∀ n, (NE.var n).v = n := fun _ => rfl
      have e0 : ∀ A : Addr, A.add 0 = A := fun A => by simp [Addr.add]
      simp only [List.map_cons, LV.den, LA.den, LC.den, NE.lit_v, hn, e0, Option.getD_none, Nat.sub_zero, Nat.mul_div_cancel _ hs]
      rw [hrd]
    rw [e1] at h1
    refine h1.mono ?_
    rintro e w' ⟨v', H', η', ⟨rfl, rfl⟩, rfl, _, hx⟩
    refine ⟨by rw [LV.free_den hv η' η0], hx.kept.os, hx.kept.tape, hx.kept.output, hx.kept.size, fun b hb => hx.kept.block b hb ?_⟩
    rintro ⟨i, b, h, ho, _⟩
    cases i with
    | zero => simp at h; subst h; cases ho
    | succ i => simp at h
end Go.Proofs.Ytbkcaedlijhnlaa.LB
