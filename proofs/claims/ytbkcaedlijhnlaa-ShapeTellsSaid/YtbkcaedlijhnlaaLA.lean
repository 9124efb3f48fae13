/- Logical states: values whose blocks have numbers of their own, and how they stand for the model's values and worlds. -/
import Derived.WalkKit
namespace Go.Proofs.Ytbkcaedlijhnlaa.LB
open Go Go.RowKit

/-- A number, or a truth: known here as a literal, or some term. -/
inductive IE where
  | lit (n : Int)
  | var (n : Int)
  deriving Inhabited
inductive NE where
  | lit (n : Nat)
  | var (n : Nat)
  deriving Inhabited
inductive BE where
  | lit (b : Bool)
  | var (b : Bool)
  deriving Inhabited
def IE.v : IE → Int
  | .lit n => n
  | .var n => n
def NE.v : NE → Nat
  | .lit n => n
  | .var n => n
def BE.v : BE → Bool
  | .lit b => b
  | .var b => b
/-- The value of one cell. -/
inductive LC where
  | int (k : IntKind) (n : IE)
  | bool (b : BE)
  | str (s : ByteArray)
  | ptr (i : Nat) (off : NE)
  | nilp
  | slice (i : Nat) (off len : NE) (esz : Nat) (cap : Option Nat)
  | emp (A : Option Addr) (c : Nat)
  | nils
  | fn (f : FuncId) (caps : List (Nat × Nat))
  deriving Inhabited
inductive LA where
  | c (x : LC)
  | agg (xs : List LC)
  deriving Inhabited
inductive LV where
  | a (x : LA)
  | tup (xs : List LA)
  deriving Inhabited
/-- Where a block of a logical state lies, and how many cells it may use from there on. -/
structure Loc where
  addr : Addr
  cap : Nat
abbrev Eta := Nat → Loc
def LC.den (η : Eta) : LC → Value
  | .int k n => .int k n.v
  | .bool b => .bool b.v
  | .str s => .string s
  | .ptr i off => .pointer (some ((η i).addr.add off.v))
  | .nilp => .pointer none
  | .slice i off len esz cap => .slice (some ((η i).addr.add off.v)) len.v (cap.getD (((η i).cap - off.v) / esz))
  | .emp A c => .slice A 0 c
  | .nils => .slice none 0 0
  | .fn f caps => .func (.func f) #[] (caps.map fun p => Value.pointer (some ((η p.1).addr.add p.2))).toArray
def LA.den (η : Eta) : LA → Value
  | .c x => x.den η
  | .agg xs => .agg (xs.map (LC.den η)).toArray
def LV.den (η : Eta) : LV → Value
  | .a x => x.den η
  | .tup xs => .tuple (xs.map (LA.den η)).toArray
def LA.cells : LA → List LC
  | .c x => [x]
  | .agg xs => xs
def LC.refs : LC → List Nat
  | .ptr i _ => [i]
  | .slice i _ _ _ _ => [i]
  | .fn _ caps => caps.map (·.1)
  | _ => []
def LC.In (F : Nat → Prop) (c : LC) : Prop := ∀ r ∈ c.refs, F r
def LA.In (F : Nat → Prop) (x : LA) : Prop := ∀ c ∈ x.cells, c.In F
def LV.In (F : Nat → Prop) : LV → Prop
  | .a x => x.In F
  | .tup xs => ∀ x ∈ xs, x.In F
theorem LC.In.mono {F G : Nat → Prop} {c : LC} (h : c.In F) (hm : ∀ i, F i → G i) : c.In G := fun r hr => hm r (h r hr)
theorem LA.In.mono {F G : Nat → Prop} {c : LA} (h : c.In F) (hm : ∀ i, F i → G i) : c.In G := fun r hr => (h r hr).mono hm
theorem LV.In.mono {F G : Nat → Prop} {c : LV} (h : c.In F) (hm : ∀ i, F i → G i) : c.In G := by
  cases c with
  | a x => exact LA.In.mono h hm
  | tup xs => exact fun x hx => (h x hx).mono hm
theorem LC.den_congr {F : Nat → Prop} {η η' : Eta} (h : ∀ i, F i → η' i = η i) {c : LC} (hc : c.In F) : c.den η' = c.den η := by
  cases c with
  | ptr i off => simp only [LC.den, h i (hc i (by simp [LC.refs]))]
  | slice i off len esz z => simp only [LC.den, h i (hc i (by simp [LC.refs]))]
  | fn f caps =>
    have e : (caps.map fun p => Value.pointer (some ((η' p.1).addr.add p.2))) = caps.map fun p => Value.pointer (some ((η p.1).addr.add p.2)) :=
      List.map_congr_left fun p hp => by rw [h p.1 (hc p.1 (by simp only [LC.refs]; exact List.mem_map_of_mem hp))]
    simp only [LC.den, e]
  | _ => rfl
theorem dens_congr {F : Nat → Prop} {η η' : Eta} (h : ∀ i, F i → η' i = η i) {xs : List LC} (hc : ∀ c ∈ xs, c.In F) : xs.map (LC.den η') = xs.map (LC.den η) :=
  List.map_congr_left fun c hx => LC.den_congr h (hc c hx)
theorem LA.den_congr {F : Nat → Prop} {η η' : Eta} (h : ∀ i, F i → η' i = η i) {x : LA} (hc : x.In F) : x.den η' = x.den η := by
  cases x with
  | c x => exact LC.den_congr h (hc x (by simp [LA.cells]))
  | agg xs => simp only [LA.den]; rw [dens_congr h (xs := xs) hc]
theorem LV.den_congr {F : Nat → Prop} {η η' : Eta} (h : ∀ i, F i → η' i = η i) {x : LV} (hc : x.In F) : x.den η' = x.den η := by
  cases x with
  | a x => exact LA.den_congr h hc
  | tup xs =>
    simp only [LV.den]
    congr 2
    exact List.map_congr_left fun c hx => LA.den_congr h (hc c hx)
theorem LC.den_agg (η : Eta) (c : LC) (xs : Array Value) : c.den η ≠ .agg xs := by cases c <;> simp [LC.den]
theorem LC.den_tuple (η : Eta) (c : LC) (xs : Array Value) : c.den η ≠ .tuple xs := by cases c <;> simp [LC.den]
theorem LA.den_cells (η : Eta) (x : LA) : (x.den η).cells = (x.cells.map (LC.den η)).toArray := by
  cases x with
  | c x => cases x <;> rfl
  | agg xs => rfl

/-! ### memory -/
/-- sym: its cells are no list that is written out. -/
structure LBlk where
  cells : List LC
  own : Bool
  ty : TypeId
  sym : Bool
  deriving Inhabited
abbrev LH := List (Option LBlk)
def Own (w : World) (l : Loc) (ty : TypeId) (n : Nat) : Prop :=
  ∃ cs, w.heap[l.addr.block]? = some (.cells cs ty (0, 0)) ∧ l.addr.spot = none ∧ l.addr.off + l.cap ≤ cs.size ∧ n ≤ l.cap
structure Sim (F : Nat → Prop) (η : Eta) (H : LH) (w : World) : Prop where
  inn : ∀ i b, H[i]? = some (some b) → F i ∧ ∀ c ∈ b.cells, c.In F
  cell : ∀ i b, H[i]? = some (some b) → ∀ j c, b.cells[j]? = some c → w.cell? ((η i).addr.add j) = some (c.den η)
  room : ∀ i b, H[i]? = some (some b) → b.cells.length ≤ (η i).cap
  own : ∀ i b, H[i]? = some (some b) → b.own = true → Own w (η i) b.ty b.cells.length
  apart : ∀ i j b b', H[i]? = some (some b) → H[j]? = some (some b') → i ≠ j → b.own = true → (b'.own = true ∨ b'.cells ≠ []) → (η i).addr.block ≠ (η j).addr.block

theorem add_block (a : Addr) (n : Nat) : (a.add n).block = a.block := by unfold Addr.add; split <;> rfl
theorem add_off (a : Addr) (n : Nat) : (a.add n).off = a.off + n := by unfold Addr.add; split <;> simp_all
theorem add_spot {a : Addr} (n : Nat) (h : a.spot = none) : (a.add n).spot = none := by unfold Addr.add; split <;> simp_all
theorem add_add (a : Addr) (n m : Nat) : (a.add n).add m = a.add (n + m) := by
  unfold Addr.add
  by_cases hn : n = 0
  · subst hn; simp
  · by_cases hm : m = 0
    · subst hm; simp
    · have h1 : ¬ n + m = 0 := by omega
      simp only [if_neg hn, if_neg hm, if_neg h1, Nat.add_assoc]
theorem block_lt {w : World} {a : Addr} {v : Value} (h : w.cell? a = some v) : a.block < w.heap.size := World.block_lt_of_cell? w a h
theorem cell_alloc {w : World} {a : Addr} {v : Value} (o : Obj) (h : w.cell? a = some v) : (w.alloc o).cell? a = some v := by
  rw [World.cell?_alloc_lt _ _ _ (block_lt h)]; exact h
theorem heap_alloc {w : World} {b : Nat} {x : Obj} (o : Obj) (h : w.heap[b]? = some x) : (w.alloc o).heap[b]? = some x := by
  have hb : b < w.heap.size := by
    rcases Nat.lt_or_ge b w.heap.size with h1 | h1
    · exact h1
    · rw [Array.getElem?_eq_none h1] at h; cases h
  show (w.heap.push o)[b]? = some x
  rw [Array.getElem?_push_lt hb, ← h, Array.getElem?_eq_getElem hb]
theorem heap_new (w : World) (o : Obj) : (w.alloc o).heap[w.heap.size]? = some o := by
  show (w.heap.push o)[w.heap.size]? = some o
  simp

section
variable {F : Nat → Prop} {η : Eta} {H : LH} {w : World}
/-- A live block's number is one of the world's, if there is something in it, or it is its own. -/
theorem Sim.lt (h : Sim F η H w) {i : Nat} {b : LBlk} (hi : H[i]? = some (some b)) (ho : b.own = true ∨ b.cells ≠ []) : (η i).addr.block < w.heap.size := by
  rcases ho with ho | ho
  · obtain ⟨cs, hc, _⟩ := h.own i b hi ho
    rcases Nat.lt_or_ge (η i).addr.block w.heap.size with h1 | h1
    · exact h1
    · rw [Array.getElem?_eq_none h1] at hc; cases hc
  · cases hb : b.cells with
    | nil => exact absurd hb ho
    | cons c r =>
      have h1 := h.cell i b hi 0 c (by rw [hb]; rfl)
      have h2 := block_lt h1
      rwa [add_block] at h2
def upd (η : Eta) (n : Nat) (l : Loc) : Eta := fun i => if i = n then l else η i
theorem upd_self (η : Eta) (n : Nat) (l : Loc) : upd η n l n = l := by simp [upd]
theorem upd_ne (η : Eta) {n i : Nat} (l : Loc) (h : i ≠ n) : upd η n l i = η i := by simp [upd, h]
theorem upd_on (η : Eta) {n : Nat} (l : Loc) (hn : ¬ F n) : ∀ i, F i → upd η n l i = η i := fun i hi => upd_ne η l (fun e => hn (e ▸ hi))
/-- A new block. -/
theorem Sim.alloc (h : Sim F η H w) {n : Nat} (hn : ¬ F n) {d : LBlk} (hin : ∀ c ∈ d.cells, c.In F) {N : Nat} (hN : d.cells.length ≤ N) {cs : Array Value} (hcs : N ≤ cs.size)
    (hcell : ∀ (j : Nat) (c : LC), d.cells[j]? = some c → cs[j]? = some (c.den η)) {H' : LH}
    (hH : ∀ (i : Nat) (b : LBlk), H'[i]? = some (some b) → (i = n ∧ b = d) ∨ (i ≠ n ∧ H[i]? = some (some b))) :
    Sim (fun i => F i ∨ i = n) (upd η n ⟨⟨w.heap.size, 0, none⟩, N⟩) H' (w.alloc (.cells cs d.ty)) := by
  have hon := upd_on (F := F) η (n := n) ⟨⟨w.heap.size, 0, none⟩, N⟩ hn
  refine ⟨?_, ?_, ?_, ?_, ?_⟩
  · intro i b hi
    rcases hH i b hi with ⟨rfl, rfl⟩ | ⟨hne, hi⟩
    · exact ⟨.inr rfl, fun c hc => (hin c hc).mono fun _ => .inl⟩
    · exact ⟨.inl (h.inn i b hi).1, fun c hc => ((h.inn i b hi).2 c hc).mono fun _ => .inl⟩
  · intro i b hi j c hj
    rcases hH i b hi with ⟨rfl, rfl⟩ | ⟨hne, hi⟩
    · rw [upd_self, LC.den_congr hon (hin c (List.mem_of_getElem? hj))]
      have h1 : (⟨w.heap.size, 0, none⟩ : Addr).add j = ⟨w.heap.size, j, none⟩ := by unfold Addr.add; split <;> simp_all
      simp only [h1]
      rw [World.cell?_alloc_new]
      exact hcell j c hj
    · rw [upd_ne _ _ hne, LC.den_congr hon ((h.inn i b hi).2 c (List.mem_of_getElem? hj))]
      exact cell_alloc _ (h.cell i b hi j c hj)
  · intro i b hi
    rcases hH i b hi with ⟨rfl, rfl⟩ | ⟨hne, hi⟩
    · rw [upd_self]; exact hN
    · rw [upd_ne _ _ hne]; exact h.room i b hi
  · intro i b hi ho
    rcases hH i b hi with ⟨rfl, rfl⟩ | ⟨hne, hi⟩
    · rw [upd_self]
      exact ⟨_, heap_new _ _, rfl, by simp only [Nat.zero_add]; exact hcs, hN⟩
    · rw [upd_ne _ _ hne]
      obtain ⟨cs, h1, h2, h3, h4⟩ := h.own i b hi ho
      exact ⟨cs, heap_alloc _ h1, h2, h3, h4⟩
  · intro i j b b' hi hj hij ho ho'
    rcases hH i b hi with ⟨rfl, rfl⟩ | ⟨hne, hi⟩
    · rcases hH j b' hj with ⟨rfl, rfl⟩ | ⟨hne', hj⟩
      · exact absurd rfl hij
      · rw [upd_self, upd_ne _ _ hne']
        exact Nat.ne_of_gt (h.lt hj ho')
    · rcases hH j b' hj with ⟨rfl, rfl⟩ | ⟨hne', hj⟩
      · rw [upd_self, upd_ne _ _ hne]
        exact Nat.ne_of_lt (h.lt hi (.inl ho))
      · rw [upd_ne _ _ hne, upd_ne _ _ hne']
        exact h.apart i j b b' hi hj hij ho ho'
/-- What a world keeps: all blocks that were there, but for some. -/
structure Kept (O : Nat → Prop) (w w' : World) : Prop where
  os : w'.os = w.os
  tape : w'.tape = w.tape
  output : w'.output = w.output
  size : w.heap.size ≤ w'.heap.size
  block : ∀ b, b < w.heap.size → ¬ O b → w'.heap[b]? = w.heap[b]?
theorem Kept.refl (O : Nat → Prop) (w : World) : Kept O w w := ⟨rfl, rfl, rfl, Nat.le_refl _, fun _ _ _ => rfl⟩
theorem Kept.trans {O : Nat → Prop} {a b c : World} (h : Kept O a b) {O' : Nat → Prop} (k : Kept O' b c) (hO : ∀ x, x < a.heap.size → O' x → O x) : Kept O a c :=
  ⟨k.os.trans h.os, k.tape.trans h.tape, k.output.trans h.output, Nat.le_trans h.size k.size, fun x hx ho => (k.block x (Nat.lt_of_lt_of_le hx h.size) (fun h1 => ho (hO x hx h1))).trans (h.block x hx ho)⟩
theorem Kept.below {w w' : World} (h : Kept (fun _ => False) w w') : Below w.heap.size w w' := ⟨h.os, h.tape, h.output, h.size, fun b hb => h.block b hb (fun h => h)⟩
theorem Kept.of_below {O : Nat → Prop} {w w' : World} (h : Below w.heap.size w w') : Kept O w w' := ⟨h.os, h.tape, h.output, h.size, fun b hb _ => h.block b hb⟩
theorem Kept.alloc (O : Nat → Prop) (w : World) (o : Obj) : Kept O w (w.alloc o) := .of_below ((Below.refl _ _).alloc (Nat.le_refl _) o)
theorem Kept.drew (O : Nat → Prop) (w : World) : Kept O w { w with drawn := w.drawn + 1 } := ⟨rfl, rfl, rfl, Nat.le_refl _, fun _ _ _ => rfl⟩
theorem cell_of_heap {w w' : World} {a : Addr} (h : w'.heap[a.block]? = w.heap[a.block]?) : w'.cell? a = w.cell? a := by unfold World.cell?; rw [h]
/-- A state stands in every world that keeps its blocks. -/
theorem Sim.kept (h : Sim F η H w) {w' : World} (hk : ∀ b, b < w.heap.size → w'.heap[b]? = w.heap[b]?) : Sim F η H w' := by
  refine ⟨h.inn, fun i b hi j c hj => ?_, h.room, fun i b hi ho => ?_, h.apart⟩
  · have h1 := h.cell i b hi j c hj
    rw [cell_of_heap (hk _ (block_lt h1))]; exact h1
  · obtain ⟨cs, h1, h2⟩ := h.own i b hi ho
    exact ⟨cs, by rw [hk _ (h.lt hi (.inl ho))]; exact h1, h2⟩
/-- Fewer blocks. -/
theorem Sim.less (h : Sim F η H w) {H' : LH} (hH : ∀ (i : Nat) (b : LBlk), H'[i]? = some (some b) → H[i]? = some (some b)) : Sim F η H' w :=
  ⟨fun i b hi => h.inn i b (hH i b hi), fun i b hi => h.cell i b (hH i b hi), fun i b hi => h.room i b (hH i b hi), fun i b hi => h.own i b (hH i b hi), fun i j b b' hi hj => h.apart i j b b' (hH i b hi) (hH j b' hj)⟩
/-! ### writing into a block of the call's own -/
def putRow (cs : Array Value) (o : Nat) : List Value → Array Value
  | [] => cs
  | v :: r => putRow (cs.setIfInBounds o v) (o + 1) r
theorem putRow_size : ∀ (vs : List Value) (cs : Array Value) (o : Nat), (putRow cs o vs).size = cs.size
  | [], _, _ => rfl
  | v :: r, cs, o => by rw [putRow, putRow_size r]; simp
theorem putRow_out : ∀ (vs : List Value) (cs : Array Value) (o j : Nat), j < o ∨ o + vs.length ≤ j → (putRow cs o vs)[j]? = cs[j]?
  | [], _, _, _, _ => rfl
  | v :: r, cs, o, j, h => by
    simp only [List.length_cons] at h
    rw [putRow, putRow_out r _ _ _ (by omega), Array.getElem?_setIfInBounds_ne (by omega)]
theorem putRow_in : ∀ (vs : List Value) (cs : Array Value) (o j : Nat), o + vs.length ≤ cs.size → j < vs.length → (putRow cs o vs)[o + j]? = vs[j]?
  | [], _, _, _, _, h => by simp at h
  | v :: r, cs, o, 0, hs, _ => by
    simp only [List.length_cons] at hs
    rw [putRow, putRow_out r _ _ _ (by omega), Nat.add_zero, Array.getElem?_setIfInBounds_self_of_lt (by omega)]; rfl
  | v :: r, cs, o, j + 1, hs, h => by
    simp only [List.length_cons] at hs h
    have h1 := putRow_in r (cs.setIfInBounds o v) (o + 1) j (by simp; omega) (by omega)
    rw [putRow, show o + (j + 1) = o + 1 + j by omega, h1]; rfl
def World.setRow (w : World) (g : Nat) (cs : Array Value) (ty : TypeId) : World := { w with heap := w.heap.setIfInBounds g (.cells cs ty (0, 0)) }
theorem setRow_at {w : World} {g : Nat} {cs : Array Value} {ty : TypeId} (h : g < w.heap.size) : (World.setRow w g cs ty).heap[g]? = some (.cells cs ty (0, 0)) := by
  show (w.heap.setIfInBounds g _)[g]? = _
  rw [Array.getElem?_setIfInBounds_self_of_lt h]
theorem setRow_ne {w : World} {g b : Nat} {cs : Array Value} {ty : TypeId} (h : b ≠ g) : (World.setRow w g cs ty).heap[b]? = w.heap[b]? := by
  show (w.heap.setIfInBounds g _)[b]? = _
  rw [Array.getElem?_setIfInBounds_ne (Ne.symm h)]
theorem setRow_size {w : World} {g : Nat} {cs : Array Value} {ty : TypeId} : (World.setRow w g cs ty).heap.size = w.heap.size := by
  show (w.heap.setIfInBounds g _).size = _
  simp
theorem setCell_setRow {w : World} {a : Addr} {cs : Array Value} {ty : TypeId} (h : w.heap[a.block]? = some (.cells cs ty (0, 0))) (hs : a.spot = none) (v : Value) :
    w.setCell a v = World.setRow w a.block (cs.setIfInBounds a.off v) ty := by
  have hb : a.block < w.heap.size := by
    rcases Nat.lt_or_ge a.block w.heap.size with h1 | h1
    · exact h1
    · rw [Array.getElem?_eq_none h1] at h; cases h
  unfold World.setCell World.setRow
  congr 1
  apply Array.ext_getElem?
  intro i
  by_cases hi : i = a.block
  · subst hi
    rw [Array.getElem?_modify, Array.getElem?_setIfInBounds_self_of_lt hb, h]
    simp [hs]
  · rw [Array.getElem?_modify, Array.getElem?_setIfInBounds_ne (Ne.symm hi), if_neg (Ne.symm hi)]
theorem setRow_setRow {w : World} {g : Nat} {cs cs' : Array Value} {ty : TypeId} : World.setRow (World.setRow w g cs ty) g cs' ty = World.setRow w g cs' ty := by
  unfold World.setRow
  simp only [Array.setIfInBounds_setIfInBounds]
theorem setRow_self {w : World} {g : Nat} {cs : Array Value} {ty : TypeId} (h : w.heap[g]? = some (.cells cs ty (0, 0))) : World.setRow w g cs ty = w := by
  unfold World.setRow
  have e : w.heap.setIfInBounds g (.cells cs ty (0, 0)) = w.heap := by
    apply Array.ext_getElem?
    intro i
    by_cases hi : i = g
    · subst hi
      have hb : i < w.heap.size := by
        rcases Nat.lt_or_ge i w.heap.size with h1 | h1
        · exact h1
        · rw [Array.getElem?_eq_none h1] at h; cases h
      rw [Array.getElem?_setIfInBounds_self_of_lt hb, h]
    · rw [Array.getElem?_setIfInBounds_ne (Ne.symm hi)]
  rw [e]
def Plain (v : Value) : Prop := (∀ xs, v ≠ .agg xs) ∧ ∀ xs, v ≠ .tuple xs
theorem run_store_own {P : Program} {a : Addr} {w : World} {cs : Array Value} {ty : TypeId} (h : w.heap[a.block]? = some (.cells cs ty (0, 0))) (hs : a.spot = none) (hl : a.off < cs.size) {v : Value} (hv : Plain v) :
    (store a v).run P w = .ok () (World.setRow w a.block (cs.setIfInBounds a.off v) ty) := by
  have hc : w.cell? a = some cs[a.off] := by
    unfold World.cell?; rw [h]; simp [hs, hl]
  have hf : w.frozen? a = false := by unfold World.frozen?; rw [h]; simp
  rw [← setCell_setRow h hs]
  unfold store
  cases v <;> first | exact absurd rfl (hv.1 _) | exact absurd rfl (hv.2 _) | simp [Sem.run, hc, hf]
theorem run_storeCells {P : Program} {a : Addr} {ty : TypeId} (hs : a.spot = none) : ∀ (vs : List Value) (i : Nat) (w : World) (cs : Array Value), w.heap[a.block]? = some (.cells cs ty (0, 0)) → a.off + i + vs.length ≤ cs.size → (∀ v ∈ vs, Plain v) →
    (storeCells a vs i).run P w = .ok () (World.setRow w a.block (putRow cs (a.off + i) vs) ty)
  | [], i, w, cs, h, _, _ => by
    rw [storeCells, putRow, setRow_self h]; rfl
  | v :: r, i, w, cs, h, hl, hv => by
    simp only [List.length_cons] at hl
    have hb : a.block < w.heap.size := by
      rcases Nat.lt_or_ge a.block w.heap.size with h1 | h1
      · exact h1
      · rw [Array.getElem?_eq_none h1] at h; cases h
    have h1 := run_store_own (P := P) (a := a.add i) (w := w) (cs := cs) (ty := ty) (by rw [add_block]; exact h) (add_spot i hs) (by rw [add_off]; omega) (hv v (by simp))
    rw [add_block, add_off] at h1
    have h2 := run_storeCells (P := P) hs r (i + 1) (World.setRow w a.block (cs.setIfInBounds (a.off + i) v) ty) (cs.setIfInBounds (a.off + i) v) (setRow_at hb) (by simp; omega) (fun u hu => hv u (by simp [hu]))
    rw [storeCells, Sem.run_bind, h1]
    simp only [Result.andThen_ok]
    rw [h2, setRow_setRow, putRow, Nat.add_assoc]
theorem LC.den_plain (η : Eta) (c : LC) : Plain (c.den η) := ⟨c.den_agg η, c.den_tuple η⟩
theorem cell_iff {w : World} {a : Addr} {cs : Array Value} {ty : TypeId} (h : w.heap[a.block]? = some (.cells cs ty (0, 0))) (hs : a.spot = none) : w.cell? a = cs[a.off]? := by
  unfold World.cell?; rw [h]; simp [hs]
/-- Cells of a block of the call's own are written; the block goes on as block n, from s on. -/
theorem Sim.put (h : Sim F η H w) {i : Nat} {b : LBlk} (hi : H[i]? = some (some b)) (ho : b.own = true) {n s o : Nat} {η' : Eta} (hη : ∀ k, F k → η' k = η k)
    (hn : η' n = ⟨(η i).addr.add s, (η i).cap - s⟩) {xs : List LC} {d' : LBlk} (hty : d'.ty = b.ty) (hxs : ∀ c ∈ xs, c.In F)
    (hcell : ∀ (j : Nat) (c : LC), d'.cells[j]? = some c → (o ≤ j + s ∧ xs[j + s - o]? = some c) ∨ ((j + s < o ∨ o + xs.length ≤ j + s) ∧ b.cells[j + s]? = some c))
    (hl : o + xs.length ≤ (η i).cap) (hl' : s + d'.cells.length ≤ (η i).cap) {H' : LH}
    (hH : ∀ (k : Nat) (d : LBlk), H'[k]? = some (some d) → (k = n ∧ d = d') ∨ (k ≠ n ∧ k ≠ i ∧ H[k]? = some (some d)))
    {cs : Array Value} (hcs : w.heap[(η i).addr.block]? = some (.cells cs b.ty (0, 0))) :
    Sim (fun k => F k ∨ k = n) η' H' (World.setRow w (η i).addr.block (putRow cs ((η i).addr.off + o) (xs.map (LC.den η))) b.ty) := by
  obtain ⟨cs1, h1, hsp, hc1, hc2⟩ := h.own i b hi ho
  rw [hcs] at h1
  obtain rfl : cs = cs1 := by simpa using h1
  have hblt := h.lt hi (.inl ho)
  have hcin : ∀ c, c ∈ d'.cells → c.In F := by
    intro c hc
    obtain ⟨j, hj⟩ := List.mem_iff_getElem?.1 hc
    rcases hcell j c hj with ⟨_, h2⟩ | ⟨_, h2⟩
    · exact hxs c (List.mem_of_getElem? h2)
    · exact (h.inn i b hi).2 c (List.mem_of_getElem? h2)
  have hat : (World.setRow w (η i).addr.block (putRow cs ((η i).addr.off + o) (xs.map (LC.den η))) b.ty).heap[(η i).addr.block]? = some (.cells (putRow cs ((η i).addr.off + o) (xs.map (LC.den η))) b.ty (0, 0)) := setRow_at hblt
  have hre : ∀ k d, H[k]? = some (some d) → k ≠ i → (d.own = true ∨ d.cells ≠ []) → (η k).addr.block ≠ (η i).addr.block := fun k d hk hki hd => Ne.symm (h.apart i k b d hi hk (Ne.symm hki) ho hd)
  refine ⟨?_, ?_, ?_, ?_, ?_⟩
  · intro k d hk
    rcases hH k d hk with ⟨rfl, rfl⟩ | ⟨_, _, hk⟩
    · exact ⟨.inr rfl, fun c hc => (hcin c hc).mono fun _ => .inl⟩
    · exact ⟨.inl (h.inn k d hk).1, fun c hc => ((h.inn k d hk).2 c hc).mono fun _ => .inl⟩
  · intro k d hk j c hj
    rcases hH k d hk with ⟨rfl, rfl⟩ | ⟨_, hki, hk⟩
    · rw [hn, LC.den_congr hη (hcin c (List.mem_of_getElem? hj))]
      simp only [add_add]
      have hoff : ((η i).addr.add (s + j)).block = (η i).addr.block := add_block _ _
      rw [cell_iff (cs := putRow cs ((η i).addr.off + o) (xs.map (LC.den η))) (ty := b.ty) (by rw [hoff]; exact hat) (add_spot _ hsp), add_off]
      rcases hcell j c hj with ⟨h2, h3⟩ | ⟨h2, h3⟩
      · have hlt : j + s - o < xs.length := (List.getElem?_eq_some_iff.1 h3).1
        have e : (η i).addr.off + (s + j) = (η i).addr.off + o + (j + s - o) := by omega
        rw [e, putRow_in _ _ _ _ (by simp only [List.length_map]; omega) (by simp only [List.length_map]; exact hlt)]
        simp only [List.getElem?_map, h3, Option.map_some]
      · rw [putRow_out _ _ _ _ (by simp only [List.length_map]; omega)]
        have h4 := h.cell i b hi (j + s) c h3
        rw [cell_iff (cs := cs) (ty := b.ty) (by rw [add_block]; exact hcs) (add_spot _ hsp), add_off] at h4
        rw [show s + j = j + s by omega]; exact h4
    · have h2 := h.cell k d hk j c hj
      have hFk := (h.inn k d hk)
      rw [hη k hFk.1, LC.den_congr hη (hFk.2 c (List.mem_of_getElem? hj)), ← h2]
      refine cell_of_heap ?_
      rw [add_block]
      exact setRow_ne (hre k d hk hki (.inr (fun e => by rw [e] at hj; simp at hj)))
  · intro k d hk
    rcases hH k d hk with ⟨rfl, rfl⟩ | ⟨_, hki, hk⟩
    · rw [hn]; simp only; omega
    · rw [hη k (h.inn k d hk).1]; exact h.room k d hk
  · intro k d hk hd
    rcases hH k d hk with ⟨rfl, rfl⟩ | ⟨_, hki, hk⟩
    · rw [hn, hty]
      exact ⟨_, by simp only [add_block]; exact hat, add_spot _ hsp, by rw [putRow_size]; simp only [add_off]; omega, by simp only; omega⟩
    · rw [hη k (h.inn k d hk).1]
      obtain ⟨cs2, h2, h3⟩ := h.own k d hk hd
      exact ⟨cs2, by rw [setRow_ne (hre k d hk hki (.inl hd))]; exact h2, h3⟩
  · intro k j d d' hk hj hkj hd hd'
    rcases hH k d hk with ⟨rfl, rfl⟩ | ⟨_, hki, hk⟩
    · rcases hH j d' hj with ⟨rfl, rfl⟩ | ⟨_, hji, hj⟩
      · exact absurd rfl hkj
      · rw [hn, hη j (h.inn j d' hj).1]
        simp only [add_block]
        exact h.apart i j b d' hi hj (Ne.symm hji) ho hd'
    · rcases hH j d' hj with ⟨rfl, rfl⟩ | ⟨_, hji, hj⟩
      · rw [hn, hη k (h.inn k d hk).1]
        simp only [add_block]
        exact h.apart k i d b hk hi hki hd (.inl ho)
      · rw [hη k (h.inn k d hk).1, hη j (h.inn j d' hj).1]
        exact h.apart k j d d' hk hj hkj hd hd'
end
end Go.Proofs.Ytbkcaedlijhnlaa.LB
