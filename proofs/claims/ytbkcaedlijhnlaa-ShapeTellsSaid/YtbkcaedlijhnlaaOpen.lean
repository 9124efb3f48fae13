/- Opening an argument: a datum that is read of any type of whole numbers, bools, structs, arrays and slices of these gives the cells that its kind tells, and what is known of its numbers. -/
import Derived.Test.YtbkcaedlijhnlaaWWords
import Derived.Deep.Slices
import Derived.OpenShut
import Derived.ChangeSame
import Derived.ProofKit
namespace Go.Proofs.Ytbkcaedlijhnlaa.Opn
open Go.RowKit Go.ChangeShapes Go.WideShapes Go.Deep Go.Proofs.YtbkcaedlijhnlaaW.PrintWords

/-- Whatever is read at type t has the cells of a value of kind d, of which wf holds. -/
def Opens {α : Type} (P : Program) (d : Kd α) (t : TypeId) (wf : α → Prop) : Prop :=
  ∀ {H : Type} {enc : TypeId × Value → H} {w : World} {base : Nat} {spare : Nat → Bool} {held : Bool} {fuel : Nat} {cs : List Value} {x : DataW H × List MemPlace}, DataW.trod enc P w base spare held fuel t cs = some x → ∃ v : α, d.K w v cs ∧ wf v
/-- The same of several types, one behind the other from place off on. -/
def OpensF {α : Type} (P : Program) (d : Kd α) (ts : List (TypeId × Nat)) (off : Nat) (wf : α → Prop) : Prop :=
  ∀ {H : Type} {enc : TypeId × Value → H} {w : World} {base : Nat} {spare : Nat → Bool} {held : Bool} {n : Nat} {cs : List Value},
    (∀ t o, (t, o) ∈ ts → ∃ x, DataW.trod enc P w base spare held n t ((cs.drop o).take (P.cellsOf t)) = some x) → ∃ v : α, d.K w v ((cs.drop off).take d.sz) ∧ wf v

theorem exists_list {α : Type} (n : Nat) (Q : Nat → α → Prop) (h : ∀ i, i < n → ∃ v, Q i v) : ∃ xs : List α, xs.length = n ∧ ∀ i v, xs[i]? = some v → Q i v := by
  induction n with
  | zero => exact ⟨[], rfl, fun i v h => by simp at h⟩
  | succ n ih =>
    obtain ⟨xs, hxl, hxs⟩ := ih (fun i hi => h i (by omega))
    obtain ⟨v, hv⟩ := h n (by omega)
    refine ⟨xs ++ [v], by simp [hxl], fun i u hu => ?_⟩
    by_cases hi : i < xs.length
    · rw [List.getElem?_append_left hi] at hu
      exact hxs i u hu
    · rw [List.getElem?_append_right (by omega)] at hu
      have hi0 : i - xs.length = 0 := by
        rcases Nat.eq_zero_or_pos (i - xs.length) with h0 | h0
        · exact h0
        · rw [List.getElem?_eq_none (by simp; omega)] at hu; cases hu
      rw [hi0] at hu
      simp at hu
      subst hu
      have : i = n := by omega
      subst this
      exact hv
section
variable {P : Program} {t e : TypeId}
theorem op_int {k : IntKind} (ht : P.underlying t = some (.int k)) : Opens P (Kd.int k) t (fun n => (Lit.int k n).wf = true) := by
  intro H enc w base spare held fuel cs x h
  obtain ⟨n, rfl, _, hw⟩ := DataW.trod_int ht h
  exact ⟨n, rfl, hw⟩
theorem op_bool (ht : P.underlying t = some .bool) : Opens P Kd.bool t (fun _ => True) := by
  intro H enc w base spare held fuel cs x h
  obtain ⟨b, rfl, _⟩ := DataW.trod_bool ht h
  exact ⟨b, rfl, trivial⟩
theorem op_slice {α : Type} {d : Kd α} {wf : α → Prop} (ht : P.underlying t = some (.slice e)) (he : Opens P d e wf) (hs : P.cellsOf e = d.sz) :
    Opens P (Kd.slice e d) t (fun xs => ∀ y ∈ xs, wf y) := by
  intro H enc w base spare held fuel cs x h
  rcases open_slice ht h with ⟨rfl, _⟩ | ⟨a, len, cap, m, n, D, Pl, rfl, _, hl, hm, hmm, _, hi⟩
  · exact ⟨[], ⟨none, 0, rfl, Nat.le_refl _, rfl, by simp, fun h => absurd h (by simp)⟩, by simp⟩
  · have hlm : len ≤ m := by rw [hmm]; split <;> omega
    have hex : ∀ i, i < len → ∃ v, d.K w v ((w.cells? base (a.add (i * P.cellsOf e)) (P.cellsOf e)).getD []) ∧ wf v ∧ ∃ cs', w.cells? base (a.add (i * P.cellsOf e)) (P.cellsOf e) = some cs' := by
      intro i hil
      obtain ⟨cs', hc, ht'⟩ := hi i (by omega)
      obtain ⟨v, hK, hw⟩ := he ht'
      exact ⟨v, by rw [hc]; exact hK, hw, cs', hc⟩
    obtain ⟨xs, hxl, hxs⟩ := exists_list len _ hex
    have hmx : len ≤ 9223372036854775807 := by simp only [maxLen] at hm; omega
    refine ⟨xs, ⟨some a, cap, by rw [hxl], by omega, rfl, by omega, fun _ => ⟨a, rfl, fun j p hj => ?_⟩⟩, fun y hy => ?_⟩
    · obtain ⟨hK, _, cs', hc⟩ := hxs j p hj
      rw [hc] at hK
      obtain ⟨_, hcl, hat⟩ := World.cells?_some hc
      refine ⟨cs', d.K_len hK, hK, fun i u hu => ?_⟩
      have hil : i < cs'.length := by
        rcases Nat.lt_or_ge i cs'.length with h | h
        · exact h
        · rw [List.getElem?_eq_none h] at hu; cases hu
      rw [← Go.Deep.add_add, ← hs, hat i (by omega)]
      exact hu
    · obtain ⟨i, hi', rfl⟩ := List.getElem_of_mem hy
      exact (hxs i _ (List.getElem?_eq_getElem hi')).2.1
theorem opf_one {α : Type} {d : Kd α} {wf : α → Prop} {off : Nat} (h : Opens P d t wf) (hs : P.cellsOf t = d.sz) : OpensF P d [(t, off)] off wf := by
  intro H enc w base spare held n cs hh
  obtain ⟨x, hx⟩ := hh t off (by simp)
  rw [hs] at hx
  exact h hx
theorem opf_cons {α β : Type} {d1 : Kd α} {d2 : Kd β} {wf1 : α → Prop} {wf2 : β → Prop} {off : Nat} {ts : List (TypeId × Nat)} (h1 : Opens P d1 t wf1) (hs : P.cellsOf t = d1.sz) (h2 : OpensF P d2 ts (off + d1.sz) wf2) :
    OpensF P (Kd.pair d1 d2) ((t, off) :: ts) off (fun p => wf1 p.1 ∧ wf2 p.2) := by
  intro H enc w base spare held n cs hh
  obtain ⟨x, hx⟩ := hh t off (by simp)
  rw [hs] at hx
  obtain ⟨v1, k1, f1⟩ := h1 hx
  obtain ⟨v2, k2, f2⟩ := h2 (fun t' o' hm => hh t' o' (by simp [hm]))
  refine ⟨(v1, v2), ⟨_, _, ?_, k1, k2⟩, f1, f2⟩
  show (cs.drop off).take (d1.sz + d2.sz) = _
  rw [List.take_add, List.drop_drop]
theorem op_struct {α : Type} {d : Kd α} {wf : α → Prop} {fs : Array Field} {ts : List (TypeId × Nat)} (ht : P.underlying t = some (.struct fs)) (hts : fs.toList.map (fun f => (f.type, f.offset)) = ts) (h : OpensF P d ts 0 wf) (hs : P.cellsOf t = d.sz) : Opens P d t wf := by
  intro H enc w base spare held fuel cs x hh
  obtain ⟨xs, n, _, _, hl, hxl, hf⟩ := DataW.trod_struct ht hh
  obtain ⟨v, hK, hw⟩ := h (enc := enc) (w := w) (base := base) (spare := spare) (held := held) (n := n) (cs := cs) (fun t' o' hm => by
    rw [← hts, List.mem_map] at hm
    obtain ⟨f, hfm, he⟩ := hm
    simp only [Prod.mk.injEq] at he
    obtain ⟨rfl, rfl⟩ := he
    obtain ⟨i, hi, hg⟩ := List.getElem_of_mem hfm
    have hi' : i < fs.size := by simpa using hi
    have hfi : fs[i]? = some f := by rw [Array.getElem?_eq_getElem hi']; congr 1
    exact ⟨xs[i]'(by omega), (hf i f hfi).trans (List.getElem?_eq_getElem (by omega))⟩)
  refine ⟨v, ?_, hw⟩
  rw [List.drop_zero, List.take_of_length_le (by omega)] at hK
  exact hK
theorem op_array {α : Type} {d : Kd α} {wf : α → Prop} {m : Nat} {ts : List (TypeId × Nat)} (ht : P.underlying t = some (.array m e)) (hts : (List.range m).map (fun i => (e, i * P.cellsOf e)) = ts) (h : OpensF P d ts 0 wf) (hs : P.cellsOf t = d.sz) : Opens P d t wf := by
  intro H enc w base spare held fuel cs x hh
  obtain ⟨xs, n, _, _, hl, hxl, hf⟩ := DataW.trod_array ht hh
  obtain ⟨v, hK, hw⟩ := h (enc := enc) (w := w) (base := base) (spare := spare) (held := held) (n := n) (cs := cs) (fun t' o' hm => by
    rw [← hts, List.mem_map] at hm
    obtain ⟨i, hfm, he⟩ := hm
    simp only [Prod.mk.injEq] at he
    obtain ⟨rfl, rfl⟩ := he
    rw [List.mem_range] at hfm
    exact ⟨xs[i]'(by omega), (hf i hfm).trans (List.getElem?_eq_getElem (by omega))⟩)
  refine ⟨v, ?_, hw⟩
  rw [List.drop_zero, List.take_of_length_le (by omega)] at hK
  exact hK
theorem op_iso {α β : Type} {d : Kd α} {wf : α → Prop} (f : β → α) (g : α → β) (hfg : ∀ p, f (g p) = p) (h : Opens P d t wf) : Opens P (Kd.iso d f) t (fun x => wf (f x)) := by
  intro H enc w base spare held fuel cs x hh
  obtain ⟨v, hK, hw⟩ := h hh
  exact ⟨g v, by show d.K w (f (g v)) cs; rw [hfg]; exact hK, by show wf (f (g v)); rw [hfg]; exact hw⟩
theorem okWide_array {w : World} {r : Reach} {base m : Nat} {v : Value} (ht : P.underlying t = some (.array m e)) (h : Value.okWide P w r base t v) : ∃ cs, v = .agg cs ∧ cs.size = P.cellsOf t := by
  simp only [Value.okWide, ht] at h
  obtain ⟨cs, h1, h2, _⟩ := h
  exact ⟨cs, h1, h2⟩
theorem op_mono {α : Type} {d : Kd α} {wf wf' : α → Prop} (h : Opens P d t wf) (hw : ∀ x, wf x → wf' x) : Opens P d t wf' := by
  intro H enc w base spare held fuel cs x hh
  obtain ⟨v, hK, h1⟩ := h hh
  exact ⟨v, hK, hw v h1⟩
end
end Go.Proofs.Ytbkcaedlijhnlaa.Opn
