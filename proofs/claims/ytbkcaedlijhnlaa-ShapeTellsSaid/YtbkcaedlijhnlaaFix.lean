/- The numbers' functions: what they come to. -/
import Derived.Test.YtbkcaedlijhnlaaLJ
import Derived.Test.YtbkcaedlijhnlaaLT
namespace Go.Proofs.Ytbkcaedlijhnlaa.LB
open Go Go.RowKit
abbrev i64 (x : Int) : LV := .a (.c (.int .i64 (.var x)))
abbrev bo (b : Bool) : LV := .a (.c (.bool (.var b)))
abbrev ci (x : Int) : LC := .int .i64 (.var x)
theorem free_i64 (x : Int) : (i64 x).free := in_none rfl
theorem free_bo (x : Bool) : (bo x).free := in_none rfl
theorem nosc (i : Nat) (b : LBlk) (h : ([] : LH)[i]? = some (some b)) : ∀ c ∈ b.cells, c.In (· < ([] : LH).length) := by simp at h
theorem mixed : Try.prog.follows .mixedOrders = true := by kernel_rfl
/-- The same arguments in other words. -/
theorem LPure.inn {P : Program} {f : FuncId} {args args' : List LV} {v : LV} (h : LPure P f args v) (hf : ∀ x ∈ args, x.free) (hf' : ∀ x ∈ args', x.free) (hv : v.free) {H : LH} (he : ∀ η, args'.map (LV.den η) = args.map (LV.den η)) : LCall P f args' H (fun v' H' => v' = v ∧ H' = H) :=
  LPure.any (⟨h.1, fun η w hs _ => by rw [he]; exact h.2 η w hs (fun x hx => (hf x hx).mono fun _ h => h.elim)⟩ : LPure P f args' v) hf' hv H
theorem LPure.roin {P : Program} {f : FuncId} {args args' : List LV} {v : LV} (h : LPure P f args v) (hf : ∀ x ∈ args, x.free) (hf' : ∀ x ∈ args', x.free) (hv : v.free) {H : LH} (he : ∀ η, args'.map (LV.den η) = args.map (LV.den η)) : LRo P f args' v [] H :=
  LPure.ro (⟨h.1, fun η w hs _ => by rw [he]; exact h.2 η w hs (fun x hx => (hf x hx).mono fun _ h => h.elim)⟩ : LPure P f args' v) hf' hv H
def inR (x : Int) : Bool := decide (x ≥ -2147483648) && decide (x ≤ 2147483647)
theorem fix_in (x : Int) : LPure Try.prog 192 [i64 x] (bo (inR x)) := by
  refine LCall.of hT Try.func192 rfl (by kernel_rfl) (by show 1 ≤ 9; decide) (fun η w => ?_)
  refine exec_ok hT false 50 ?_
  conv => arg 4; whnf
  cases hb : decide (x ≥ -2147483648)
  all_goals
    refine holds_bool 5 rfl hb ?_
    refine exec_ok hT false 50 ?_
    conv => arg 4; whnf
    exact holds_ret (ret_pure (.inl rfl) rfl (fun _ => by simp only [inR, hb]; rfl) (free_bo _) rfl nosc)
def outV (x : Int) : Int := if inR x then x else 0
def outE (x : Int) : Int := if inR x then 0 else 6
abbrev two (x y : Int) : LV := .tup [.c (ci x), .c (ci y)]
theorem free_two (x y : Int) : (two x y).free := fun a ha => by simp at ha; rcases ha with rfl | rfl <;> exact in_none rfl
theorem fix_out (x : Int) : LPure Try.prog 181 [i64 x] (two (outV x) (outE x)) := by
  refine LCall.of hT Try.func181 rfl (by kernel_rfl) (by show 1 ≤ 8; decide) (fun η w => ?_)
  refine exec_ok hT false 50 ?_
  conv => arg 4; whnf
  refine holds_call rfl rfl rfl ((fix_in x).any (by simp [free_i64]) (free_bo _) _) rfl (by show 5 < 8; decide) ?_
  rintro _ _ ⟨rfl, rfl⟩
  refine exec_ok hT false 50 ?_
  conv => arg 4; whnf
  cases hb : inR x
  · refine holds_bool 6 rfl (r := true) rfl ?_
    refine exec_ok hT false 50 ?_
    conv => arg 4; whnf
    exact holds_ret (ret_pure (.inl rfl) rfl (fun _ => by simp only [outV, outE, hb]; rfl) (free_two _ _) rfl nosc)
  · refine holds_bool 6 rfl (r := false) rfl ?_
    refine exec_ok hT false 50 ?_
    conv => arg 4; whnf
    exact holds_ret (ret_pure (.inl rfl) rfl (fun _ => by simp only [outV, outE, hb]; rfl) (free_two _ _) rfl nosc)
theorem fix_Right1 (x : Int) : LPure Try.prog 191 [i64 x] (bo (!inR x)) := by
  refine LCall.of hT Try.func191 rfl (by kernel_rfl) (by show 1 ≤ 6; decide) (fun η w => ?_)
  refine exec_ok hT false 50 ?_
  conv => arg 4; whnf
  refine holds_call rfl rfl rfl ((fix_in x).any (by simp [free_i64]) (free_bo _) _) rfl (by show 4 < 6; decide) ?_
  rintro _ _ ⟨rfl, rfl⟩
  refine exec_ok hT false 50 ?_
  conv => arg 4; whnf
  exact holds_ret (ret_pure (.inl rfl) rfl (fun _ => rfl) (free_bo _) rfl nosc)
/-- the first place at which q holds, or -1 -/
def idx {α : Type} (q : α → Bool) : Nat → List α → Int
  | _, [] => -1
  | i, x :: r => if q x then (i : Int) else idx q (i + 1) r
theorem idx_ge {α : Type} (q : α → Bool) : ∀ (l : List α) (i : Nat), decide (idx q i l ≥ 0) = l.any q
  | [], i => by simp [idx]
  | x :: r, i => by
    unfold idx
    by_cases h : q x = true
    · rw [if_pos h]; simp [h]
    · rw [if_neg h, idx_ge q r (i + 1)]; simp [h]
theorem wrap_succ {q n : Nat} (h : q < n) (hn : n ≤ 140737488351232) : IntKind.i64.wrap ((q : Int) + 1) = ((q + 1 : Nat) : Int) := by
  rw [IntWalk.i64_in _ (by omega)]; omega
/-! ### rows of things of one size -/
/-- How a thing lies in cells: as many as sz, none of which bears an address. -/
structure Enc (α : Type) (sz : Nat) where
  cells : α → List LC
  len : ∀ x, (cells x).length = sz
  flat : ∀ x, ∀ c ∈ cells x, c.refs = []
def Enc.all {α : Type} {sz : Nat} (E : Enc α sz) (xs : List α) : List LC := xs.flatMap E.cells
theorem Enc.all_len {α : Type} {sz : Nat} (E : Enc α sz) : ∀ xs : List α, (E.all xs).length = xs.length * sz
  | [] => by simp [Enc.all]
  | x :: r => by
    have h := Enc.all_len E r
    simp only [Enc.all] at h ⊢
    rw [List.flatMap_cons, List.length_append, h, E.len, List.length_cons, Nat.add_mul, Nat.one_mul, Nat.add_comm]
theorem Enc.all_flat {α : Type} {sz : Nat} (E : Enc α sz) {xs : List α} {c : LC} (h : c ∈ E.all xs) : c.refs = [] := by
  simp only [Enc.all, List.mem_flatMap] at h
  obtain ⟨x, _, hc⟩ := h
  exact E.flat x c hc
theorem Enc.get {α : Type} {sz : Nat} (E : Enc α sz) : ∀ {xs : List α} {q : Nat} {x : α}, xs[q]? = some x → ((E.all xs).drop (q * sz)).take sz = E.cells x
  | [], q, x, h => by simp at h
  | y :: r, 0, x, h => by
    simp at h
    subst h
    simp only [Enc.all, List.flatMap_cons, Nat.zero_mul, List.drop_zero]
    rw [List.take_append_of_le_length (by rw [E.len]; exact Nat.le_refl _), List.take_of_length_le (by rw [E.len]; exact Nat.le_refl _)]
  | y :: r, q + 1, x, h => by
    have h1 := Enc.get E (xs := r) (q := q) (x := x) (by simpa using h)
    simp only [Enc.all, List.flatMap_cons] at h1 ⊢
    rw [show (q + 1) * sz = (E.cells y).length + q * sz by rw [E.len, Nat.add_mul]; omega, ← List.drop_drop, List.drop_left]
    exact h1
/-- A row that came in. -/
def Eblk {α : Type} {sz : Nat} (E : Enc α sz) (ty : Nat) (xs : List α) : LBlk := ⟨E.all xs, false, ty, true⟩
theorem sc1 {α : Type} {sz : Nat} (E : Enc α sz) (ty : Nat) (xs : List α) (i : Nat) (b : LBlk) (h : ([some (Eblk E ty xs)] : LH)[i]? = some (some b)) : ∀ c ∈ b.cells, c.In (· < ([some (Eblk E ty xs)] : LH).length) := by
  cases i with
  | zero =>
    simp at h
    subst h
    exact fun c hc r hr => by rw [E.all_flat hc] at hr; cases hr
  | succ i => simp at h
abbrev sl (n sz : Nat) : LV := .a (.c (.slice 0 (.lit 0) (.var n) sz none))
abbrev emp (A : Option Addr) (c : Nat) : LV := .a (.c (.emp A c))
theorem free_emp (A : Option Addr) (c : Nat) : (emp A c).free := in_none rfl
abbrev fnv (f : FuncId) : LV := .a (.c (.fn f []))
theorem free_fnv (f : FuncId) : (fnv f).free := in_none rfl
def ints : Enc Int 1 := ⟨fun x => [ci x], fun _ => rfl, fun x c h => by simp at h; subst h; rfl⟩
theorem free_F (x : Int) : (i64 x).free := free_i64 x
theorem sc1b {α : Type} {sz : Nat} (E : Enc α sz) (ty : Nat) (sym : Bool) (xs : List α) (i : Nat) (b : LBlk) (h : ([some ⟨E.all xs, false, ty, sym⟩] : LH)[i]? = some (some b)) : ∀ c ∈ b.cells, c.In (· < ([some ⟨E.all xs, false, ty, sym⟩] : LH).length) := by
  cases i with
  | zero =>
    simp at h
    subst h
    exact fun c hc r hr => by rw [E.all_flat hc] at hr; cases hr
  | succ i => simp at h
theorem ro_of {α : Type} {sz : Nat} (hs : 0 < sz) (E : Enc α sz) (ty : Nat) (sym : Bool) (xs : List α) {f : FuncId} {v : LV} {len1 : NE} (hl1 : len1.v = xs.length) (C : LCall Try.prog f [.a (.c (.slice 0 (.lit 0) len1 sz none))] [some ⟨E.all xs, false, ty, sym⟩] (fun v' H' => v' = v ∧ H' = [some ⟨E.all xs, false, ty, sym⟩])) (hv : v.free) {H : LH} {i : Nat} {off len : NE} {cap : Option Nat} {b : LBlk}
    (hb : H[i]? = some (some b)) (hl : len.v = xs.length) (hr : off.v + xs.length * sz ≤ b.cells.length) (hc : ∀ η, ((b.cells.drop off.v).take (xs.length * sz)).map (LC.den η) = (E.all xs).map (LC.den η))
    (hcap : (cap.all fun c => decide (xs.length ≤ c)) = true) : LRo Try.prog f [.a (.c (.slice i off len sz cap))] v [i] H := by
  refine LRo.of2 C hv ?_ (sc1b E ty sym xs) ?_ (fun _ => (i, off.v)) (fun _ => cap.map (· * sz)) ?_ ?_
  · intro j b' hj
    cases j with
    | zero => simp at hj; subst hj; rfl
    | succ j => simp at hj
  · intro x hx
    simp at hx
    subst hx
    exact in_cell (fun r hr => by simp only [LC.refs, List.mem_singleton] at hr; subst hr; simp)
  · intro j b' hj
    cases j with
    | succ j => simp at hj
    | zero =>
      simp at hj
      subst hj
      refine ⟨by simp, b, hb, by show off.v + (E.all xs).length ≤ _; rw [E.all_len]; exact hr, fun n hn => ?_, fun t c ht => ?_⟩
      · cases cap with
        | none => cases hn
        | some c =>
          simp at hcap hn
          show (E.all xs).length ≤ n
          rw [E.all_len, ← hn]
          exact Nat.mul_le_mul_right _ hcap
      have ht' : (E.all xs)[t]? = some c := ht
      have hlt : t < xs.length * sz := by rw [← E.all_len]; exact (List.getElem?_eq_some_iff.1 ht').1
      have hbt : off.v + t < b.cells.length := by omega
      refine ⟨_, List.getElem?_eq_getElem hbt, fun η => ?_⟩
      have h1 := congrArg (·[t]?) (hc η)
      simp only [List.getElem?_map, List.getElem?_take, if_pos hlt, List.getElem?_drop, ht', List.getElem?_eq_getElem hbt, Option.map_some, Option.some.injEq] at h1
      rw [h1]
      exact LV.free_den (v := .a (.c c)) (in_none (E.all_flat (List.mem_of_getElem? ht'))) _ _
  · intro η
    have hv : ∀ n, (NE.var n).v = n := fun _ => rfl
    have e0 : ∀ A : Addr, A.add 0 = A := fun A => by simp [Addr.add]
    simp only [List.map_cons, List.map_nil, LV.den, LA.den, LC.den, sub2, NE.lit_v, hv, hl, hl1, Option.getD_none, Nat.sub_zero, e0]
    cases cap with
    | none => rfl
    | some c => simp only [Option.map_some, Option.getD_some, Nat.mul_div_cancel _ hs]

theorem idx_F {f : FuncId} {q : Int → Bool} (hq : ∀ x : Int, LPure Try.prog f [i64 x] (bo (q x))) (xs : List Int) (hn : xs.length ≤ 140737488351232) :
    LCall Try.prog 222 [sl xs.length 1, fnv f] [some (Eblk ints 22 xs)] (fun v H' => v = i64 (idx q 0 xs) ∧ H' = [some (Eblk ints 22 xs)]) := by
  refine LCall.of hT Try.func222 rfl (by kernel_rfl) (by show 2 ≤ 19; decide) (fun η w => ?_)
  refine exec_ok hT false 50 ?_
  conv => arg 4; whnf
  refine holds_count xs.length (fun i => [(8, i64 (i : Int)), (7, i64 (xs.length : Int)), (1, fnv f), (0, sl xs.length 1)]) (fun _ => [some (Eblk ints 22 xs)]) (fun i => idx q i (xs.drop i) = idx q 0 xs)
    rfl ⟨⟨_, rfl, same_cell (fun _ => rfl) rfl⟩, ⟨_, rfl, same_cell (fun _ => rfl) rfl⟩, ⟨_, rfl, LV.same_refl _⟩, ⟨_, rfl, LV.same_refl _⟩, trivial⟩ rfl ?_ ?_
  · intro i hi hI next
    have hx : xs[i]? = some xs[i] := List.getElem?_eq_getElem hi
    rw [List.drop_eq_getElem_cons hi, idx] at hI
    refine exec_ok hT false 50 ?_
    conv => arg 4; whnf
    refine holds_bool 9 rfl (r := true) (decide_eq_true (by show (i : Int) < (xs.length : Int); omega)) ?_
    refine exec_ok hT false 50 ?_
    conv => arg 4; whnf
    refine holds_index hT rfl rfl rfl rfl rfl rfl rfl rfl (q := i) rfl hi rfl (by show 14 < 19; decide) ?_
    refine holds_load hT rfl rfl rfl rfl rfl rfl (v := .c (ci xs[i])) ?_ ?_ rfl (by show 15 < 19; decide) ?_
    · show 0 + i * 1 + 1 ≤ (ints.all xs).length
      rw [ints.all_len]
      have := Nat.mul_le_mul_right 1 (show i + 1 ≤ xs.length from hi)
      omega
    · show asVar _ (((ints.all xs).drop (0 + i * 1)).take 1) = _
      rw [Nat.zero_add, ints.get hx]; rfl
    refine holds_call rfl rfl rfl ((hq xs[i]).any (fun y hy => by simp at hy; subst hy; exact free_F _) (free_bo _) _) rfl (by show 16 < 19; decide) ?_
    rintro _ _ ⟨rfl, rfl⟩
    refine exec_ok hT false 50 ?_
    conv => arg 4; whnf
    cases hqx : q xs[i]
    · refine holds_bool 16 rfl (r := false) rfl ?_
      refine exec_ok hT false 50 ?_
      conv => arg 4; whnf
      rw [hqx] at hI
      refine holds_le ?_ (next hI)
      refine ⟨⟨_, rfl, same_cell (fun _ => ?_) rfl⟩, ⟨_, rfl, LV.same_refl _⟩, ⟨_, rfl, LV.same_refl _⟩, ⟨_, rfl, LV.same_refl _⟩, trivial⟩
      show Value.int .i64 _ = Value.int .i64 (IntKind.i64.wrap ((i : Int) + 1))
      rw [wrap_succ hi hn]; rfl
    · refine holds_bool 16 rfl (r := true) rfl ?_
      refine exec_ok hT false 50 ?_
      conv => arg 4; whnf
      rw [hqx] at hI
      refine holds_ret (ret_pure (.inl rfl) rfl (fun _ => ?_) (free_i64 _) rfl (sc1 _ _ _))
      rw [← hI]; rfl
  · intro hI
    refine exec_ok hT false 50 ?_
    conv => arg 4; whnf
    refine holds_bool 9 rfl (r := false) (decide_eq_false (by show ¬ (xs.length : Int) < (xs.length : Int); omega)) ?_
    refine exec_ok hT false 50 ?_
    conv => arg 4; whnf
    refine holds_ret (ret_pure (.inl rfl) rfl (fun _ => ?_) (free_i64 _) rfl (sc1 _ _ _))
    rw [← hI, List.drop_length]; rfl
theorem idx0_F (f : FuncId) (A : Option Addr) (c : Nat) : LPure Try.prog 222 [emp A c, fnv f] (i64 (-1)) := by
  refine LCall.of hT Try.func222 rfl (by kernel_rfl) (by show 2 ≤ 19; decide) (fun η w => ?_)
  refine exec_ok hT true 50 ?_
  conv => arg 4; whnf
  exact holds_ret (ret_pure (.inl rfl) rfl (fun _ => rfl) (free_i64 _) rfl nosc)
theorem con_F {f : FuncId} {q : Int → Bool} (hq : ∀ x : Int, LPure Try.prog f [i64 x] (bo (q x))) (xs : List Int) (hn : xs.length ≤ 140737488351232) :
    LCall Try.prog 190 [sl xs.length 1, fnv f] [some (Eblk ints 22 xs)] (fun v H' => v = bo (xs.any q) ∧ H' = [some (Eblk ints 22 xs)]) := by
  refine LCall.of hT Try.func190 rfl (by kernel_rfl) (by show 2 ≤ 9; decide) (fun η w => ?_)
  refine exec_ok hT false 50 ?_
  conv => arg 4; whnf
  refine holds_call rfl rfl rfl (idx_F hq xs hn) rfl (by show 7 < 9; decide) ?_
  rintro _ _ ⟨rfl, rfl⟩
  refine exec_ok hT false 50 ?_
  conv => arg 4; whnf
  refine holds_ret (ret_pure (.inl rfl) rfl (fun _ => ?_) (free_bo _) rfl (sc1 _ _ _))
  show Value.bool _ = Value.bool (decide (idx q 0 xs ≥ 0))
  rw [idx_ge]; rfl
theorem con0_F (f : FuncId) (A : Option Addr) (c : Nat) : LPure Try.prog 190 [emp A c, fnv f] (bo false) := by
  refine LCall.of hT Try.func190 rfl (by kernel_rfl) (by show 2 ≤ 9; decide) (fun η w => ?_)
  refine exec_ok hT false 50 ?_
  conv => arg 4; whnf
  refine holds_call rfl rfl rfl ((idx0_F f A c).any (fun y hy => by simp at hy; rcases hy with rfl | rfl; exact free_emp _ _; exact free_fnv _) (free_i64 _) _) rfl (by show 7 < 9; decide) ?_
  rintro _ _ ⟨rfl, rfl⟩
  refine exec_ok hT false 50 ?_
  conv => arg 4; whnf
  exact holds_ret (ret_pure (.inl rfl) rfl (fun _ => rfl) (free_bo _) rfl nosc)

/-- F: all of a row. -/
theorem all_F (xs : List Int) (hn : xs.length ≤ 140737488351232) : LCall Try.prog 142 [sl xs.length 1] [some (Eblk ints 22 xs)] (fun v H' => v = bo (xs.all inR) ∧ H' = [some (Eblk ints 22 xs)]) := by
  refine LCall.of hT Try.func142 rfl (by kernel_rfl) (by show 1 ≤ 6; decide) (fun η w => ?_)
  refine exec_ok hT false 50 ?_
  conv => arg 4; whnf
  refine holds_call rfl rfl rfl (con_F fix_Right1 xs hn) rfl (by show 4 < 6; decide) ?_
  rintro _ _ ⟨rfl, rfl⟩
  refine exec_ok hT false 50 ?_
  conv => arg 4; whnf
  refine holds_ret (ret_pure (.inl rfl) rfl (fun _ => ?_) (free_bo _) rfl (sc1 _ _ _))
  show Value.bool (xs.all inR) = Value.bool (!(xs.any fun x => !inR x))
  rw [List.not_any_eq_all_not]; simp
theorem all0_F (A : Option Addr) (c : Nat) : LPure Try.prog 142 [emp A c] (bo true) := by
  refine LCall.of hT Try.func142 rfl (by kernel_rfl) (by show 1 ≤ 6; decide) (fun η w => ?_)
  refine exec_ok hT false 50 ?_
  conv => arg 4; whnf
  refine holds_call rfl rfl rfl ((con0_F 191 A c).any (fun y hy => by simp at hy; rcases hy with rfl | rfl; exact free_emp _ _; exact free_fnv _) (free_bo _) _) rfl (by show 4 < 6; decide) ?_
  rintro _ _ ⟨rfl, rfl⟩
  refine exec_ok hT false 50 ?_
  conv => arg 4; whnf
  exact holds_ret (ret_pure (.inl rfl) rfl (fun _ => rfl) (free_bo _) rfl nosc)
/-- F, wherever the row lies. -/
theorem ro_F {H : LH} {i : Nat} {off len : NE} {cap : Option Nat} {b : LBlk} (xs : List Int) (hn : xs.length ≤ 140737488351232) (hb : H[i]? = some (some b)) (hl : len.v = xs.length) (hr : off.v + xs.length * 1 ≤ b.cells.length)
    (hc : ∀ η, ((b.cells.drop off.v).take (xs.length * 1)).map (LC.den η) = (ints.all xs).map (LC.den η)) (hcap : (cap.all fun c => decide (xs.length ≤ c)) = true) : LRo Try.prog 142 [.a (.c (.slice i off len 1 cap))] (bo (xs.all inR)) [i] H :=
  ro_of (by decide) ints 22 true xs rfl (all_F xs hn) (free_bo _) hb hl hr hc hcap

def mulQ (a b : Int) : Int := (IntKind.i64.wrap (a * b)).fdiv (2 ^ min (16 : Int).toNat IntKind.i64.bits)
def mulV (a b : Int) : Int := if inR a && inR b then outV (mulQ a b) else 0
def mulE (a b : Int) : Int := if inR a && inR b then outE (mulQ a b) else 1
theorem fix_Mul (a b : Int) : LPure Try.prog 178 [i64 a, i64 b] (two (mulV a b) (mulE a b)) := by
  refine LCall.of hT Try.func178 rfl (by kernel_rfl) (by show 2 ≤ 18; decide) (fun η w => ?_)
  refine exec_ok hT false 50 ?_
  conv => arg 4; whnf
  refine holds_call rfl rfl rfl (ro_F (len := .lit 2) [a, b] (by simp) rfl rfl (by exact Nat.le_refl 2) (fun _ => rfl) rfl).call rfl (by show 9 < 18; decide) ?_
  rintro _ _ ⟨rfl, rfl⟩
  refine exec_ok hT false 50 ?_
  conv => arg 4; whnf
  cases hb : [a, b].all inR
  · refine holds_bool 10 rfl (r := true) rfl ?_
    refine exec_ok hT false 50 ?_
    conv => arg 4; whnf
    have h2 : (inR a && inR b) = false := by simpa using hb
    exact holds_ret (ret_pure (.inl rfl) rfl (fun _ => by simp only [mulV, mulE, h2]; rfl) (free_two _ _) rfl nosc)
  · refine holds_bool 10 rfl (r := false) rfl ?_
    refine exec_ok hT false 50 ?_
    conv => arg 4; whnf
    have h2 : (inR a && inR b) = true := by simpa using hb
    refine holds_call rfl rfl rfl ((fix_out _).any (by simp [free_i64]) (free_two _ _) _) rfl (by show 15 < 18; decide) ?_
    rintro _ _ ⟨rfl, rfl⟩
    refine exec_ok hT false 50 ?_
    conv => arg 4; whnf
    exact holds_ret (ret_pure (.inl rfl) rfl (fun _ => by simp only [mulV, mulE, h2]; rfl) (free_two _ _) rfl nosc)

def sumW (xs : List Int) : Int := xs.foldl (fun s x => IntKind.i64.wrap (s + x)) 0
theorem sumW_take {xs : List Int} {i : Nat} (h : i < xs.length) : sumW (xs.take (i + 1)) = IntKind.i64.wrap (sumW (xs.take i) + xs[i]) := by
  unfold sumW
  rw [List.take_succ_eq_append_getElem h, List.foldl_append]; rfl
def addOk (xs : List Int) : Bool := xs.all inR && decide (xs.length ≤ 1024)
def addV (xs : List Int) : Int := if addOk xs then outV (sumW xs) else 0
def addE (xs : List Int) : Int := if addOk xs then outE (sumW xs) else 1
theorem fix_Add (xs : List Int) (hn : xs.length ≤ 140737488351232) : LCall Try.prog 146 [sl xs.length 1] [some (Eblk ints 22 xs)] (fun v H' => v = two (addV xs) (addE xs) ∧ H' = [some (Eblk ints 22 xs)]) := by
  refine LCall.of hT Try.func146 rfl (by kernel_rfl) (by show 1 ≤ 29; decide) (fun η w => ?_)
  refine exec_ok hT false 50 ?_
  conv => arg 4; whnf
  refine holds_call rfl rfl rfl (all_F xs hn) rfl (by show 8 < 29; decide) ?_
  rintro _ _ ⟨rfl, rfl⟩
  refine exec_ok hT false 50 ?_
  conv => arg 4; whnf
  cases hb : xs.all inR
  · have hok : addOk xs = false := by simp [addOk, hb]
    refine holds_bool 10 rfl (r := true) rfl ?_
    refine exec_ok hT false 50 ?_
    conv => arg 4; whnf
    exact holds_ret (ret_pure (.inl rfl) rfl (fun _ => by simp only [addV, addE, hok]; rfl) (free_two _ _) rfl (sc1 _ _ _))
  · refine holds_bool 10 rfl (r := false) rfl ?_
    refine exec_ok hT false 50 ?_
    conv => arg 4; whnf
    by_cases hl : xs.length ≤ 1024
    · have hok : addOk xs = true := by simp [addOk, hb, hl]
      refine holds_bool 14 rfl (r := false) (decide_eq_false (by show ¬ (1024 < (xs.length : Int)); omega)) ?_
      refine exec_ok hT false 50 ?_
      conv => arg 4; whnf
      refine holds_count xs.length (fun i => [(17, i64 (i : Int)), (16, i64 (xs.length : Int)), (15, sl xs.length 1), (4, i64 (sumW (xs.take i)))]) (fun _ => [some (Eblk ints 22 xs)]) (fun _ => True)
        trivial ⟨⟨_, rfl, same_cell (fun _ => rfl) rfl⟩, ⟨_, rfl, same_cell (fun _ => rfl) rfl⟩, ⟨_, rfl, LV.same_refl _⟩, ⟨_, rfl, same_cell (fun _ => rfl) rfl⟩, trivial⟩ rfl ?_ ?_
      · intro i hi _ next
        refine exec_ok hT false 50 ?_
        conv => arg 4; whnf
        refine holds_bool 18 rfl (r := true) (decide_eq_true (by show (i : Int) < (xs.length : Int); omega)) ?_
        refine exec_ok hT false 50 ?_
        conv => arg 4; whnf
        refine holds_index hT rfl rfl rfl rfl rfl rfl rfl rfl (q := i) rfl hi rfl (by show 19 < 29; decide) ?_
        refine holds_load hT rfl rfl rfl rfl rfl rfl (v := .c (ci xs[i])) ?_ ?_ rfl (by show 20 < 29; decide) ?_
        · show 0 + i * 1 + 1 ≤ (ints.all xs).length
          rw [ints.all_len]; omega
        · show asVar _ (((ints.all xs).drop (0 + i * 1)).take 1) = _
          rw [Nat.zero_add, ints.get (List.getElem?_eq_getElem hi)]; rfl
        refine exec_ok hT false 50 ?_
        conv => arg 4; whnf
        refine holds_le ?_ (next trivial)
        refine ⟨⟨_, rfl, same_cell (fun _ => ?_) rfl⟩, ⟨_, rfl, LV.same_refl _⟩, ⟨_, rfl, LV.same_refl _⟩, ⟨_, rfl, same_cell (fun _ => ?_) rfl⟩, trivial⟩
        · show Value.int .i64 _ = Value.int .i64 (IntKind.i64.wrap ((i : Int) + 1))
          rw [wrap_succ hi hn]; rfl
        · show Value.int .i64 (sumW (xs.take (i + 1))) = Value.int .i64 _
          rw [sumW_take hi]; rfl
      · intro _
        refine exec_ok hT false 50 ?_
        conv => arg 4; whnf
        refine holds_bool 18 rfl (r := false) (decide_eq_false (by show ¬ (xs.length : Int) < (xs.length : Int); omega)) ?_
        refine exec_ok hT false 50 ?_
        conv => arg 4; whnf
        refine holds_call rfl rfl rfl ((fix_out _).any (by simp [free_i64]) (free_two _ _) _) rfl (by show 26 < 29; decide) ?_
        rintro _ _ ⟨rfl, rfl⟩
        refine exec_ok hT false 50 ?_
        conv => arg 4; whnf
        exact holds_ret (ret_pure (.inl rfl) rfl (fun _ => by simp only [addV, addE, hok, List.take_length]; rfl) (free_two _ _) rfl (sc1 _ _ _))
    · have hok : addOk xs = false := by simp [addOk]; intro _; omega
      refine holds_bool 14 rfl (r := true) (decide_eq_true (by show 1024 < (xs.length : Int); omega)) ?_
      refine exec_ok hT false 50 ?_
      conv => arg 4; whnf
      exact holds_ret (ret_pure (.inl rfl) rfl (fun _ => by simp only [addV, addE, hok]; rfl) (free_two _ _) rfl (sc1 _ _ _))
theorem ro_Add {H : LH} {i : Nat} {off len : NE} {cap : Option Nat} {b : LBlk} (xs : List Int) (hn : xs.length ≤ 140737488351232) (hb : H[i]? = some (some b)) (hl : len.v = xs.length) (hr : off.v + xs.length * 1 ≤ b.cells.length)
    (hc : ∀ η, ((b.cells.drop off.v).take (xs.length * 1)).map (LC.den η) = (ints.all xs).map (LC.den η)) (hcap : (cap.all fun c => decide (xs.length ≤ c)) = true) : LRo Try.prog 146 [.a (.c (.slice i off len 1 cap))] (two (addV xs) (addE xs)) [i] H :=
  ro_of (by decide) ints 22 true xs rfl (fix_Add xs hn) (free_two _ _) hb hl hr hc hcap
end Go.Proofs.Ytbkcaedlijhnlaa.LB
