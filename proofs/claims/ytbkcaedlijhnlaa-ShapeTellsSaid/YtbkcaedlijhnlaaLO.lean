/- What the operations of a region do to a logical state. -/
import Derived.Test.YtbkcaedlijhnlaaLB
namespace Go.Proofs.Ytbkcaedlijhnlaa.LB
open Go Go.RowKit

def IE.map2 (f : Int → Int → Int) : IE → IE → IE
  | .lit a, .lit b => .lit (f a b)
  | a, b => .var (f a.v b.v)
theorem IE.map2_v (f : Int → Int → Int) (a b : IE) : (IE.map2 f a b).v = f a.v b.v := by cases a <;> cases b <;> rfl
def IE.map (f : Int → Int) : IE → IE
  | .lit a => .lit (f a)
  | .var a => .var (f a)
theorem IE.map_v (f : Int → Int) (a : IE) : (IE.map f a).v = f a.v := by cases a <;> rfl
def IE.cmp (f : Int → Int → Bool) : IE → IE → BE
  | .lit a, .lit b => .lit (f a b)
  | a, b => .var (f a.v b.v)
theorem IE.cmp_v (f : Int → Int → Bool) (a b : IE) : (IE.cmp f a b).v = f a.v b.v := by cases a <;> cases b <;> rfl
def NE.plus : NE → NE → NE
  | .lit a, .lit b => .lit (a + b)
  | a, b => .var (a.v + b.v)
theorem NE.plus_v (a b : NE) : (NE.plus a b).v = a.v + b.v := by cases a <;> cases b <;> rfl
def BE.map (f : Bool → Bool) : BE → BE
  | .lit a => .lit (f a)
  | .var a => .var (f a)
theorem BE.map_v (f : Bool → Bool) (a : BE) : (BE.map f a).v = f a.v := by cases a <;> rfl
def BE.map2 (f : Bool → Bool → Bool) : BE → BE → BE
  | .lit a, .lit b => .lit (f a b)
  | a, b => .var (f a.v b.v)
theorem BE.map2_v (f : Bool → Bool → Bool) (a b : BE) : (BE.map2 f a b).v = f a.v b.v := by cases a <;> cases b <;> rfl
def IE.ofNE : NE → IE
  | .lit n => .lit (n : Int)
  | .var n => .var (n : Int)
theorem IE.ofNE_v (n : NE) : (IE.ofNE n).v = (n.v : Int) := by cases n <;> rfl

/-- an integer's operation with two operands of its kind -/
def bitop (op : BinOp) (k : IntKind) (x y : Int) : Int :=
  let a := BitVec.ofInt k.bits x
  let b := BitVec.ofInt k.bits y
  match op with
  | .and => k.wrap (a &&& b).toNat
  | .or => k.wrap (a ||| b).toNat
  | .xor => k.wrap (a ^^^ b).toNat
  | _ => k.wrap (a &&& ~~~b).toNat
def lint (op : BinOp) (k : IntKind) (x y : IE) : Option LC :=
  match op with
  | .add => some (.int k (IE.map2 (fun a b => k.wrap (a + b)) x y))
  | .sub => some (.int k (IE.map2 (fun a b => k.wrap (a - b)) x y))
  | .mul => some (.int k (IE.map2 (fun a b => k.wrap (a * b)) x y))
  | .and => some (.int k (IE.map2 (bitop .and k) x y))
  | .or => some (.int k (IE.map2 (bitop .or k) x y))
  | .xor => some (.int k (IE.map2 (bitop .xor k) x y))
  | .andNot => some (.int k (IE.map2 (bitop .andNot k) x y))
  | .eql => some (.bool (IE.cmp (fun a b => a == b) x y))
  | .neq => some (.bool (IE.cmp (fun a b => a != b) x y))
  | .lss => some (.bool (IE.cmp (fun a b => decide (a < b)) x y))
  | .leq => some (.bool (IE.cmp (fun a b => decide (a ≤ b)) x y))
  | .gtr => some (.bool (IE.cmp (fun a b => decide (a > b)) x y))
  | .geq => some (.bool (IE.cmp (fun a b => decide (a ≥ b)) x y))
  | .quo => match y with
    | .lit b => if b = 0 then none else some (.int k (IE.map (fun a => k.wrap (a.tdiv b)) x))
    | .var _ => none
  | .rem => match y with
    | .lit b => if b = 0 then none else some (.int k (IE.map (fun a => a.tmod b) x))
    | .var _ => none
  | _ => none
def lshift (op : BinOp) (k : IntKind) (x y : IE) : Option LC :=
  match y with
  | .lit b => if b < 0 then none else match op with
    | .shl => some (.int k (IE.map (fun a => k.wrap (a * 2 ^ min b.toNat k.bits)) x))
    | .shr => some (.int k (IE.map (fun a => a.fdiv (2 ^ min b.toNat k.bits)) x))
    | _ => none
  | .var _ => none
def isEq (op : BinOp) : Option Bool :=
  match op with
  | .eql => some true
  | .neq => some false
  | _ => none
def isShift (op : BinOp) : Bool :=
  match op with
  | .shl => true
  | .shr => true
  | _ => false
def lbin (tab : Tab) (op : BinOp) (t : Nat) (x y : LC) : Option LC :=
  match x, y with
  | .int k a, .int k' b => cond (isShift op) (lshift op k a b) (if k = k' then lint op k a b else none)
  | .bool a, .bool b => match isEq op, tyOf tab t with
    | some e, some ti => match ti.kind with
      | .bool => some (.bool (BE.map2 (fun a b => if e then a == b else !(a == b)) a b))
      | _ => none
    | _, _ => none
  | .nilp, .nilp => match isEq op, tyOf tab t with
    | some e, some ti => match ti.kind with | .ptr => some (.bool (.lit e)) | _ => none
    | _, _ => none
  | .ptr _ _, .nilp => match isEq op, tyOf tab t with
    | some e, some ti => match ti.kind with | .ptr => some (.bool (.lit !e)) | _ => none
    | _, _ => none
  | .nils, .nils => match isEq op, tyOf tab t with
    | some e, some ti => match ti.kind with | .slice _ => some (.bool (.lit e)) | _ => none
    | _, _ => none
  | .slice _ _ _ _ _, .nils => match isEq op, tyOf tab t with
    | some e, some ti => match ti.kind with | .slice _ => some (.bool (.lit !e)) | _ => none
    | _, _ => none
  | _, _ => none
section
variable {P : Program} {tab : Tab} {η : Eta} {w : World} {t : Nat}
theorem IE.lit_v (b : Int) : (IE.lit b).v = b := rfl
theorem NE.lit_v (b : Nat) : (NE.lit b).v = b := rfl
theorem BE.lit_v (b : Bool) : (BE.lit b).v = b := rfl
theorem lint_run {op : BinOp} {k : IntKind} {x y : IE} {c : LC} (h : lint op k x y = some c) (hs : isShift op = false) : (binOp op t (.int k x.v) (.int k y.v)).run P w = .ok (c.den η) w ∧ c.refs = [] := by
  cases op <;> first | (simp [isShift] at hs; done) | skip
  case quo =>
    cases y with
    | var b => simp [lint] at h
    | lit b =>
      simp only [lint] at h
      by_cases hb : b = 0
      · simp [hb] at h
      · rw [if_neg hb] at h
        obtain rfl := Option.some.inj h
        refine ⟨?_, rfl⟩
        simp [binOp, Op.intDiv, hb, IE.lit_v, LC.den, IE.map_v]
  case rem =>
    cases y with
    | var b => simp [lint] at h
    | lit b =>
      simp only [lint] at h
      by_cases hb : b = 0
      · simp [hb] at h
      · rw [if_neg hb] at h
        obtain rfl := Option.some.inj h
        refine ⟨?_, rfl⟩
        simp [binOp, Op.intDiv, hb, IE.lit_v, LC.den, IE.map_v]
  all_goals
    simp only [lint] at h
    first
      | cases h; done
      | (obtain rfl := Option.some.inj h
         refine ⟨?_, rfl⟩
         simp [binOp, Op.intArith, Op.intCmp, Op.intBits, bitop, LC.den, IE.map2_v, IE.cmp_v, Sem.run]
         try rfl)
theorem lshift_run {op : BinOp} {k k' : IntKind} {x y : IE} {c : LC} (h : lshift op k x y = some c) (hs : isShift op = true) : (binOp op t (.int k x.v) (.int k' y.v)).run P w = .ok (c.den η) w ∧ c.refs = [] := by
  cases y with
  | var b => simp [lshift] at h
  | lit b =>
    simp only [lshift] at h
    by_cases hb : b < 0
    · simp [hb] at h
    · rw [if_neg hb] at h
      cases op <;> first | (simp [isShift] at hs; done) | skip
      all_goals
        obtain rfl := Option.some.inj h
        refine ⟨?_, rfl⟩
        simp [binOp, Op.shift, hb, IE.lit_v, LC.den, IE.map_v]
theorem isEq_op {op : BinOp} {e : Bool} (h : isEq op = some e) : (e = true ∧ op = .eql) ∨ (e = false ∧ op = .neq) := by
  cases op <;> simp [isEq] at h <;> subst h <;> simp
theorem run_eqGuard_cell {op : BinOp} {x y : Operand} (c d : LC) : (eqGuard op t x y (c.den η) (d.den η)).run P w = .ok () w := by
  unfold eqGuard
  cases op <;> first | rfl | skip
  all_goals cases c <;> cases d <;> rfl
theorem eq_bool (d : Nat) (hu : P.underlying t = some .bool) (a b : Bool) : (Op.equalIn (d + 1) t (.bool a) (.bool b)).run P w = .ok (a == b) w := by
  rw [Op.equalIn, Sem.run_bind, run_underlying' hu, Result.andThen_ok]; rfl
theorem eq_nilp (d : Nat) {e : TypeId} (hu : P.underlying t = some (.pointer e)) : (Op.equalIn (d + 1) t (.pointer none) (.pointer none)).run P w = .ok true w := by
  rw [Op.equalIn, Sem.run_bind, run_underlying' hu, Result.andThen_ok]; rfl
theorem eq_ptr (d : Nat) {e : TypeId} (hu : P.underlying t = some (.pointer e)) (a : Addr) : (Op.equalIn (d + 1) t (.pointer (some a)) (.pointer none)).run P w = .ok false w := by
  rw [Op.equalIn, Sem.run_bind, run_underlying' hu, Result.andThen_ok]; rfl
theorem eq_nils (d : Nat) {e : TypeId} (hu : P.underlying t = some (.slice e)) : (Op.equalIn (d + 1) t (.slice none 0 0) (.slice none 0 0)).run P w = .ok true w := by
  rw [Op.equalIn, Sem.run_bind, run_underlying' hu, Result.andThen_ok]; rfl
theorem eq_slice (d : Nat) {e : TypeId} (hu : P.underlying t = some (.slice e)) (a : Addr) (n m : Nat) : (Op.equalIn (d + 1) t (.slice (some a) n m) (.slice none 0 0)).run P w = .ok false w := by
  rw [Op.equalIn, Sem.run_bind, run_underlying' hu, Result.andThen_ok]; rfl
theorem run_equal {x y : Value} {r : Bool} (h : (Op.equalIn (9999 + 1) t x y).run P w = .ok r w) (op : BinOp) {e : Bool} (he : isEq op = some e) (hx : ∀ k n, x ≠ .int k n) (hs : ∀ s, x ≠ .string s) (hf : ∀ k n, x ≠ .float k n) (hc : ∀ k n m, x ≠ .complex k n m) :
    (binOp op t x y).run P w = .ok (.bool (if e then r else !r)) w := by
  rcases isEq_op he with ⟨rfl, rfl⟩ | ⟨rfl, rfl⟩
  · have e1 : binOp .eql t x y = (do pure (.bool (← Op.equal t x y)) : Sem Value) := by
      cases x <;> first | exact absurd rfl (hx _ _) | exact absurd rfl (hs _) | exact absurd rfl (hf _ _) | exact absurd rfl (hc _ _ _) | (cases y <;> rfl)
    rw [e1, Sem.run_bind]
    have h2 : (Op.equal t x y).run P w = .ok r w := h
    rw [h2, Result.andThen_ok]; rfl
  · have e1 : binOp .neq t x y = (do pure (.bool (!(← Op.equal t x y))) : Sem Value) := by
      cases x <;> first | exact absurd rfl (hx _ _) | exact absurd rfl (hs _) | exact absurd rfl (hf _ _) | exact absurd rfl (hc _ _ _) | (cases y <;> rfl)
    rw [e1, Sem.run_bind]
    have h2 : (Op.equal t x y).run P w = .ok r w := h
    rw [h2, Result.andThen_ok]; rfl
theorem kind_bool {ti : TI} (h : TFacts P t ti) (hk : ti.kind = .bool) : P.underlying t = some .bool := by
  obtain ⟨i, d, v, _, hd, _, _, h4, _⟩ := h.ex
  rw [hk] at h4; cases d <;> simp [kindOk] at h4; exact hd
theorem kind_ptr {ti : TI} (h : TFacts P t ti) (hk : ti.kind = .ptr) : ∃ e, P.underlying t = some (.pointer e) := by
  obtain ⟨i, d, v, _, hd, _, _, h4, _⟩ := h.ex
  rw [hk] at h4; cases d <;> simp [kindOk] at h4; exact ⟨_, hd⟩
theorem kind_slice {ti : TI} (h : TFacts P t ti) {e : Nat} (hk : ti.kind = .slice e) : P.underlying t = some (.slice e) := by
  obtain ⟨i, d, v, _, hd, _, _, h4, _⟩ := h.ex
  rw [hk] at h4; cases d <;> simp [kindOk] at h4; subst h4; exact hd
theorem kind_array {ti : TI} (h : TFacts P t ti) {n e : Nat} (hk : ti.kind = .array n e) : P.underlying t = some (.array n e) := by
  obtain ⟨i, d, v, _, hd, _, _, h4, _⟩ := h.ex
  rw [hk] at h4; cases d <;> simp [kindOk] at h4; obtain ⟨rfl, rfl⟩ := h4; exact hd
theorem kind_int {ti : TI} (h : TFacts P t ti) {k : IntKind} (hk : ti.kind = .int k) : P.underlying t = some (.int k) := by
  obtain ⟨i, d, v, _, hd, _, _, h4, _⟩ := h.ex
  rw [hk] at h4; cases d <;> simp [kindOk] at h4; subst h4; exact hd
theorem kind_struct {ti : TI} (h : TFacts P t ti) {fs : List (Nat × Nat)} (hk : ti.kind = .struct fs) : ∃ gs, P.underlying t = some (.struct gs) ∧ gs.toList.map (fun f => (f.offset, f.type)) = fs := by
  obtain ⟨i, d, v, _, hd, _, _, h4, _⟩ := h.ex
  rw [hk] at h4; cases d <;> simp [kindOk] at h4
  exact ⟨_, hd, by simpa using h4⟩
theorem lbin_run (hT : TOk P tab) {op : BinOp} {c d r : LC} (h : lbin tab op t c d = some r) : (binOp op t (c.den η) (d.den η)).run P w = .ok (r.den η) w ∧ r.refs = [] := by
  unfold lbin at h
  split at h
  · rename_i k a k' b
    cases hs : isShift op with
    | true => rw [hs] at h; exact lshift_run h hs
    | false =>
      rw [hs] at h
      simp only [cond_false] at h
      by_cases hk : k = k'
      · subst hk; rw [if_pos rfl] at h; exact lint_run h hs
      · rw [if_neg hk] at h; cases h
  case h_7 => cases h
  all_goals
    split at h
    · rename_i e ti he hti
      split at h
      · rename_i hk
        obtain rfl := Option.some.inj h
        refine ⟨?_, rfl⟩
        have F := tfacts hT hti
        first
          | (have hu := kind_bool F hk
             simp only [LC.den, BE.map2_v]; exact run_equal (eq_bool 9999 hu _ _) op he (by simp) (by simp) (by simp) (by simp))
          | (obtain ⟨e', hu⟩ := kind_ptr F hk
             simp only [LC.den]; rw [run_equal (eq_nilp 9999 hu) op he (by simp) (by simp) (by simp) (by simp)]; cases e <;> rfl)
          | (obtain ⟨e', hu⟩ := kind_ptr F hk
             simp only [LC.den]; rw [run_equal (eq_ptr 9999 hu _) op he (by simp) (by simp) (by simp) (by simp)]; cases e <;> rfl)
          | (have hu := kind_slice F hk
             simp only [LC.den]; rw [run_equal (eq_nils 9999 hu) op he (by simp) (by simp) (by simp) (by simp)]; cases e <;> rfl)
          | (have hu := kind_slice F hk
             simp only [LC.den]; rw [run_equal (eq_slice 9999 hu _ _ _) op he (by simp) (by simp) (by simp) (by simp)]; cases e <;> rfl)
      · cases h
    · cases h
end
/-! ### operations without memory -/
def rdCells (ti : TI) (xs : List LC) (off : Nat) : Option LA :=
  match ti.kind.agg with
  | true => some (.agg ((xs.drop off).take ti.size))
  | false => match xs.drop off with
    | c :: _ => some (.c c)
    | [] => none
def capsL : List (Option LV) → Option (List (Nat × Nat))
  | [] => some []
  | some (.a (.c (.ptr i (.lit o)))) :: r => (capsL r).map ((i, o) :: ·)
  | _ => none
def lunary (op : UnOp) (x : LC) : Option LC :=
  match op, x with
  | .neg, .int k n => some (.int k (IE.map (fun a => k.wrap (0 - a)) n))
  | .xor, .int k n => some (.int k (IE.map (bitop .xor k (if k.signed then -1 else k.max)) n))
  | .not, .bool b => some (.bool (BE.map (fun b => !b) b))
  | _, _ => none
def lmx (mx : Bool) (x y : LC) : Option LC :=
  match x, y with
  | .int k a, .int k' b => if k = k' then some (.int k (IE.map2 (fun a b => if mx then (if b > a then b else a) else (if b < a then b else a)) a b)) else none
  | _, _ => none
/-- the index of an array's, or a slice's, element: where it lies -/
def lindex (n e : Nat) (i : Nat) (o : NE) (ix : Int) (len : Nat) : Option LC :=
  if 0 ≤ ix ∧ ix < (len : Int) then some (.ptr i (NE.plus o (.lit (ix.toNat * e)))) else none
def lpure (tab : Tab) (env : Env) (op : Op) (ty : TypeId) : Option LV :=
  match op with
  | .move x => ev env x
  | .assign x => ev env x
  | .pick c a b => match ev env c with
    | some (.a (.c (.bool (.lit true)))) => ev env a
    | some (.a (.c (.bool (.lit false)))) => ev env b
    | _ => none
  | .extract x ix => match ev env x with
    | some (.tup xs) => (xs[ix]?).map .a
    | _ => none
  | .nilCheck x => match ev env x with
    | some (.a (.c (.ptr i o))) => some (.a (.c (.ptr i o)))
    | _ => none
  | .binOp op t x y _ => match ev env x, ev env y with
    | some (.a (.c c)), some (.a (.c d)) => (lbin tab op t c d).map fun c => .a (.c c)
    | some (.a (.agg xs)), some (.a (.agg ys)) => match isEq op, tyOf tab t with
      | some e, some ti => cond ti.eqs ((ceq ti.zero xs ys).map fun b => .a (.c (.bool (cond e b (BE.map (fun b => !b) b))))) none
      | _, _ => none
    | _, _ => none
  | .unOp op _ x => match ev env x with
    | some (.a (.c c)) => (lunary op c).map fun c => .a (.c c)
    | _ => none
  | .convert s d x => match tyOf tab s, tyOf tab d, ev env x with
    | some _, some ti, some (.a (.c (.int _ n))) => match ti.kind with
      | .int k => some (.a (.c (.int k (IE.map k.wrap n))))
      | _ => none
    | _, _, _ => none
  | .fieldAddr s x f => match tyOf tab s, ev env x with
    | some ti, some (.a (.c (.ptr i o))) => match ti.kind with
      | .struct fs => match fs[f]? with
        | some (off, t) => match tyOf tab t with
          | some tj => if tj.size = 0 then none else some (.a (.c (.ptr i (NE.plus o (.lit off)))))
          | none => none
        | none => none
      | _ => none
    | _, _ => none
  | .field s x f => match tyOf tab s, ev env x with
    | some ti, some (.a (.agg xs)) => match ti.kind with
      | .struct fs => match fs[f]? with
        | some (off, t) => match tyOf tab t with
          | some tj => (rdCells tj xs off).map .a
          | none => none
        | none => none
      | _ => none
    | _, _ => none
  | .indexAddr t x ix => match tyOf tab t, ev env x, ev env ix with
    | some ti, some (.a (.c (.ptr i o))), some (.a (.c (.int _ (.lit n)))) => match ti.kind with
      | .array len e => match tyOf tab e with
        | some tj => (lindex len tj.size i o n len).map fun c => .a (.c c)
        | none => none
      | _ => none
    | some ti, some (.a (.c (.slice i o (.lit len) esz _))), some (.a (.c (.int _ (.lit n)))) => match ti.kind with
      | .slice e => match tyOf tab e with
        | some tj => if tj.size = esz then (lindex len tj.size i o n len).map fun c => .a (.c c) else none
        | none => none
      | _ => none
    | _, _, _ => none
  | .index t x ix => match tyOf tab t, ev env x, ev env ix with
    | some ti, some (.a (.agg xs)), some (.a (.c (.int _ (.lit n)))) => match ti.kind with
      | .array len e => match tyOf tab e with
        | some tj => if 0 ≤ n ∧ n < (len : Int) then (rdCells tj xs (n.toNat * tj.size)).map .a else none
        | none => none
      | _ => none
    | _, _, _ => none
  | .sliceToArrayPointer t x => match tyOf tab t, ev env x with
    | some ti, some (.a (.c (.slice i o (.lit len) _ _))) => match ti.kind with
      | .array n _ => if len < n then none else some (.a (.c (.ptr i o)))
      | _ => none
    | _, _ => none
  | .makeFunc (.func f) first caps => cond first.isEmpty ((capsL (caps.toList.map (ev env))).map fun l => .a (.c (.fn f l))) none
  | .call c => match c.callee, c.args.toList, c.argTypes.toList with
    | .builtin .len, [x], [t] => match tyOf tab t, ev env x with
      | some ti, some (.a (.c (.slice _ _ len _ _))) => match ti.kind with
        | .slice _ => some (.a (.c (.int .i64 (IE.ofNE len))))
        | _ => none
      | some ti, some (.a (.c .nils)) => match ti.kind with
        | .slice _ => some (.a (.c (.int .i64 (.lit 0))))
        | _ => none
      | some ti, some (.a (.c (.emp _ _))) => match ti.kind with
        | .slice _ => some (.a (.c (.int .i64 (.lit 0))))
        | _ => none
      | _, _ => none
    | .builtin .max, [x, y], _ => match ev env x, ev env y with
      | some (.a (.c c)), some (.a (.c d)) => (lmx true c d).map fun c => .a (.c c)
      | _, _ => none
    | .builtin .min, [x, y], _ => match ev env x, ev env y with
      | some (.a (.c c)), some (.a (.c d)) => (lmx false c d).map fun c => .a (.c c)
      | _, _ => none
    | _, _, _ => none
  | _ => none
end Go.Proofs.Ytbkcaedlijhnlaa.LB
