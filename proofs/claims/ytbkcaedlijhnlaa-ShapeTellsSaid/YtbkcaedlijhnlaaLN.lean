/- '==' of things of many cells: what it comes to. -/
import Derived.Test.YtbkcaedlijhnlaaLA
import Derived.ChangeKeysEq
import Derived.Laws.StructEq
namespace Go.Proofs.Ytbkcaedlijhnlaa.LB
open Go Go.RowKit

def BE.and : BE → BE → BE
  | .lit a, .lit b => .lit (a && b)
  | a, b => .var (a.v && b.v)
theorem BE.and_v (a b : BE) : (BE.and a b).v = (a.v && b.v) := by cases a <;> cases b <;> rfl
def BE.eq : BE → BE → BE
  | .lit a, .lit b => .lit (a == b)
  | a, b => .var (a.v == b.v)
theorem BE.eq_v (a b : BE) : (BE.eq a b).v = (a.v == b.v) := by cases a <;> cases b <;> rfl
def IE.eq : IE → IE → BE
  | .lit a, .lit b => .lit (a == b)
  | a, b => .var (a.v == b.v)
theorem IE.eq_v (a b : IE) : (IE.eq a b).v = (a.v == b.v) := by cases a <;> cases b <;> rfl
/-- Two cells beside a third one of their type. -/
def ceq1 : LC → LC → LC → Option BE
  | .int k _, .int k1 x, .int k2 y => if k = k1 ∧ k = k2 then some (IE.eq x y) else none
  | .bool _, .bool x, .bool y => some (BE.eq x y)
  | .str _, .str x, .str y => some (.var (x == y))
  | _, _, _ => none
def ceq : List LC → List LC → List LC → Option BE
  | [], [], [] => some (.lit true)
  | z :: zr, x :: xr, y :: yr => match ceq1 z x y, ceq zr xr yr with
    | some a, some b => some (BE.and a b)
    | _, _ => none
  | _, _, _ => none
theorem ceq_len : ∀ {z xs ys : List LC} {b : BE}, ceq z xs ys = some b → xs.length = z.length ∧ ys.length = z.length
  | [], [], [], _, _ => ⟨rfl, rfl⟩
  | z :: zr, x :: xr, y :: yr, b, h => by
    simp only [ceq] at h
    split at h
    · rename_i a b' _ h2
      have := ceq_len h2
      simp [this.1, this.2]
    · cases h
  | [], [], _ :: _, _, h => by simp [ceq] at h
  | [], _ :: _, _, _, h => by simp [ceq] at h
  | _ :: _, [], _, _, h => by simp [ceq] at h
  | _ :: _, _ :: _, [], _, h => by simp [ceq] at h
theorem ceq_split : ∀ (n : Nat) {z xs ys : List LC} {b : BE}, ceq z xs ys = some b → ∃ b1 b2, ceq (z.take n) (xs.take n) (ys.take n) = some b1 ∧ ceq (z.drop n) (xs.drop n) (ys.drop n) = some b2 ∧ b.v = (b1.v && b2.v)
  | 0, z, xs, ys, b, h => ⟨.lit true, b, by simp [ceq], by simpa using h, by simp [BE.v]⟩
  | n + 1, [], [], [], b, h => ⟨.lit true, .lit true, by simp [ceq], by simp [ceq], by simp [ceq] at h; subst h; rfl⟩
  | n + 1, z :: zr, x :: xr, y :: yr, b, h => by
    simp only [ceq] at h
    split at h
    · rename_i a b' h1 h2
      obtain rfl := Option.some.inj h
      obtain ⟨c1, c2, e1, e2, e3⟩ := ceq_split n h2
      refine ⟨BE.and a c1, c2, ?_, by simpa using e2, ?_⟩
      · simp only [List.take_succ_cons, ceq, h1, e1]
      · rw [BE.and_v, BE.and_v, e3, Bool.and_assoc]
    · cases h
  | _ + 1, [], [], _ :: _, _, h => by simp [ceq] at h
  | _ + 1, [], _ :: _, _, _, h => by simp [ceq] at h
  | _ + 1, _ :: _, [], _, _, h => by simp [ceq] at h
  | _ + 1, _ :: _, _ :: _, [], _, h => by simp [ceq] at h
def fieldsEq (P : Program) (g : TypeId → List LC → Bool) (z : List LC) : Nat → List Field → Bool
  | off, [] => off == z.length
  | off, f :: r => f.name != "_" && f.offset == off && g f.type ((z.drop off).take (P.cellsOf f.type)) && fieldsEq P g z (off + P.cellsOf f.type) r
def leafZ : TypeDesc → List LC → Bool
  | .bool, [.bool _] => true
  | .int k, [.int k' _] => decide (k = k')
  | .string, [.str _] => true
  | _, _ => false
theorem leafZ_of {k : TypeDesc} {z : List LC} (h : leafZ k z = true) : (k = .bool ∧ ∃ c, z = [.bool c]) ∨ (∃ q c, k = .int q ∧ z = [.int q c]) ∨ (k = .string ∧ ∃ c, z = [.str c]) := by
  unfold leafZ at h
  split at h
  · exact .inl ⟨rfl, _, rfl⟩
  · exact .inr (.inl ⟨_, _, by rw [of_decide_eq_true h], rfl⟩)
  · exact .inr (.inr ⟨rfl, _, rfl⟩)
  · cases h
def isA : TypeDesc → Bool
  | .struct _ => true
  | .array _ _ => true
  | _ => false
/-- A type whose things are the same when their cells are: z tells their kinds. -/
def eqTy (P : Program) : Nat → TypeId → List LC → Bool
  | 0, _, _ => false
  | d + 1, t, z => z.length == P.cellsOf t && match P.underlying t with
    | some (.array n e) => n != 0 && z.length == n * P.cellsOf e && (List.range n).all fun i => eqTy P d e ((z.drop (i * P.cellsOf e)).take (P.cellsOf e))
    | some (.struct fs) => !P.stoodInHeld t && fieldsEq P (eqTy P d) z 0 fs.toList
    | some k => leafZ k z
    | none => false
def vOf (P : Program) (t : TypeId) (l : List Value) : Value :=
  match P.underlying t with
  | some (.array _ _) => .agg l.toArray
  | some (.struct _) => .agg l.toArray
  | _ => l.headD default
theorem run_underlying' {P : Program} {t : TypeId} {w : World} {d : TypeDesc} (h : P.underlying t = some d) : (underlying t).run P w = .ok d w := by
  unfold underlying program; simp [Sem.run_bind, Sem.run, Result.andThen_ok, h]
section
variable {P : Program} {η : Eta}
theorem eqTy_len {m t : Nat} {z : List LC} (h : eqTy P m t z = true) : z.length = P.cellsOf t := by
  cases m with
  | zero => simp [eqTy] at h
  | succ m =>
    unfold eqTy at h
    rw [Bool.and_eq_true] at h
    simpa using h.1
theorem part_v {m t : Nat} {z : List LC} (h : eqTy P m t z = true) (xs : List Value) (off : Nat) (hl : z.length ≤ (xs.drop off).length) (w : World) :
    (part t xs.toArray off).run P w = .ok (vOf P t ((xs.drop off).take z.length)) w := by
  have hlen := eqTy_len h
  cases m with
  | zero => simp [eqTy] at h
  | succ m =>
    unfold eqTy at h
    rw [Bool.and_eq_true] at h
    have h := h.2
    cases hu : P.underlying t with
    | none => rw [hu] at h; simp at h
    | some d =>
      have hA : ∀ b : Bool, isA d = b → (isAgg t).run P w = .ok b w := by
        intro b hb
        unfold Go.isAgg
        rw [Sem.run_bind, run_underlying' hu, Result.andThen_ok]
        cases d <;> simp [isA] at hb <;> subst hb <;> rfl
      obtain ⟨i, hi⟩ := info_of_underlying hu
      have agg : isA d = true → (part t xs.toArray off).run P w = .ok (vOf P t ((xs.drop off).take z.length)) w := by
        intro hb
        unfold part
        rw [Sem.run_bind, hA true hb, Result.andThen_ok]
        simp only [if_true, Sem.run_bind, run_sizeOf w hi, Result.andThen_ok, Sem.run_pure]
        congr 1
        have e : vOf P t ((xs.drop off).take z.length) = .agg ((xs.drop off).take z.length).toArray := by
          unfold vOf; rw [hu]; cases d <;> simp [isA] at hb <;> rfl
        rw [e, hlen, List.extract_toArray, List.extract_eq_take_drop]
        congr 3; omega
      have leaf : isA d = false → z.length = 1 → (part t xs.toArray off).run P w = .ok (vOf P t ((xs.drop off).take z.length)) w := by
        intro hb h1
        unfold part
        rw [Sem.run_bind, hA false hb, Result.andThen_ok]
        have e : vOf P t ((xs.drop off).take z.length) = ((xs.drop off).take z.length).headD default := by
          unfold vOf; rw [hu]; cases d <;> simp [isA] at hb <;> rfl
        rw [h1] at hl
        cases hd : xs.drop off with
        | nil => rw [hd] at hl; simp at hl
        | cons x r =>
          have hg : xs[off]? = some x := by
            have h2 := List.getElem?_drop (xs := xs) (i := off) (j := 0)
            rw [hd] at h2; simpa using h2.symm
          rw [hd] at e
          rw [e, h1]
          simp only [Bool.false_eq_true, if_false, List.getElem?_toArray, hg]
          rfl
      rw [hu] at h
      cases d with
      | array n e => exact agg rfl
      | struct fs => exact agg rfl
      | bool => simp only at h; unfold leafZ at h; split at h <;> first | (simp at h; done) | exact leaf rfl rfl | skip
      | int k => simp only at h; unfold leafZ at h; split at h <;> first | (simp at h; done) | exact leaf rfl rfl | skip
      | string => simp only at h; unfold leafZ at h; split at h <;> first | (simp at h; done) | exact leaf rfl rfl | skip
      | _ => simp [leafZ] at h
def EqSays (P : Program) (η : Eta) (m : Nat) : Prop := ∀ t z, eqTy P m t z = true → ∀ xs ys b, ceq z xs ys = some b → ∀ d w, (Op.equalIn (d + m) t (vOf P t (xs.map (LC.den η))) (vOf P t (ys.map (LC.den η)))).run P w = .ok b.v w
theorem eqStep {m : Nat} (IH : EqSays P η m) {t n : Nat} {z xs ys : List LC} (off : Nat) (he : eqTy P m t ((z.drop off).take n) = true) (hn : n = P.cellsOf t) {b : BE} (hc : ceq (z.drop off) (xs.drop off) (ys.drop off) = some b) (d : Nat) (w : World) :
    ∃ a v b1 b2, (part t (xs.map (LC.den η)).toArray off).run P w = .ok a w ∧ (part t (ys.map (LC.den η)).toArray off).run P w = .ok v w ∧ (Op.equalIn (d + m) t a v).run P w = .ok b1 w ∧
      ceq (z.drop (off + n)) (xs.drop (off + n)) (ys.drop (off + n)) = some b2 ∧ b.v = (b1 && b2.v) := by
  obtain ⟨c1, c2, e1, e2, e3⟩ := ceq_split n hc
  obtain ⟨l1, l2⟩ := ceq_len hc
  have hlen := eqTy_len he
  rw [← hn] at hlen
  have hz : n ≤ (z.drop off).length := by rw [List.length_take] at hlen; omega
  have p1 := part_v he (xs.map (LC.den η)) off (by rw [hlen, ← List.map_drop, List.length_map, l1]; exact hz) w
  have p2 := part_v he (ys.map (LC.den η)) off (by rw [hlen, ← List.map_drop, List.length_map, l2]; exact hz) w
  rw [hlen, ← List.map_drop, ← List.map_take] at p1 p2
  refine ⟨_, _, _, c2, p1, p2, IH t _ he _ _ c1 e1 d w, ?_, e3⟩
  simpa only [List.drop_drop] using e2
theorem eqFields_says {m : Nat} (IH : EqSays P η m) {z xs ys : List LC} (d : Nat) (w : World) : ∀ (fs : List Field) (off : Nat) (b : BE), fieldsEq P (eqTy P m) z off fs = true → ceq (z.drop off) (xs.drop off) (ys.drop off) = some b →
    (Op.eqFields (d + m) (xs.map (LC.den η)).toArray (ys.map (LC.den η)).toArray fs).run P w = .ok b.v w
  | [], off, b, h, hc => by
    have h : off = z.length := by simpa [fieldsEq] using h
    subst h
    rw [List.drop_length] at hc
    cases hx : xs.drop z.length with
    | cons _ _ => rw [hx] at hc; simp [ceq] at hc
    | nil =>
      cases hy : ys.drop z.length with
      | cons _ _ => rw [hx, hy] at hc; simp [ceq] at hc
      | nil =>
        rw [hx, hy] at hc
        simp only [ceq] at hc
        obtain rfl := Option.some.inj hc
        simp [Op.eqFields, BE.v]
  | f :: fs, off, b, h, hc => by
    simp only [fieldsEq, Bool.and_eq_true, bne_iff_ne, beq_iff_eq] at h
    obtain ⟨⟨⟨hn, ho⟩, he⟩, hr⟩ := h
    obtain ⟨a, v, b1, b2, q1, q2, q3, q4, q5⟩ := eqStep IH off he rfl hc d w
    have q6 := eqFields_says IH d w fs _ b2 hr q4
    rw [Op.eqFields, ho]
    simp only [hn, ne_eq, not_false_eq_true, if_true, Sem.run_bind, q1, q2, q3, Result.andThen_ok]
    rw [q5]
    cases b1
    · simp
    · simpa using q6
theorem eqItems_says {m e n : Nat} (IH : EqSays P η m) {z xs ys : List LC} (hz : z.length = n * P.cellsOf e) (hall : ∀ i, i < n → eqTy P m e ((z.drop (i * P.cellsOf e)).take (P.cellsOf e)) = true) (d : Nat) (w : World) : ∀ (k j : Nat) (b : BE), j + k = n → ceq (z.drop (j * P.cellsOf e)) (xs.drop (j * P.cellsOf e)) (ys.drop (j * P.cellsOf e)) = some b →
    (Op.eqItems (d + m) e (P.cellsOf e) (xs.map (LC.den η)).toArray (ys.map (LC.den η)).toArray (List.range' j k)).run P w = .ok b.v w
  | 0, j, b, hj, hc => by
    have hj : j = n := by omega
    subst hj
    rw [← hz, List.drop_length] at hc
    cases hx : xs.drop z.length with
    | cons _ _ => rw [hx] at hc; simp [ceq] at hc
    | nil =>
      cases hy : ys.drop z.length with
      | cons _ _ => rw [hx, hy] at hc; simp [ceq] at hc
      | nil =>
        rw [hx, hy] at hc
        simp only [ceq] at hc
        obtain rfl := Option.some.inj hc
        simp [Op.eqItems, BE.v]
  | k + 1, j, b, hj, hc => by
    obtain ⟨a, v, b1, b2, q1, q2, q3, q4, q5⟩ := eqStep IH (j * P.cellsOf e) (hall j (by omega)) rfl hc d w
    rw [← Nat.succ_mul] at q4
    have q6 := eqItems_says IH hz hall d w k (j + 1) b2 (by omega) q4
    rw [List.range'_succ, Op.eqItems]
    simp only [Sem.run_bind, q1, q2, q3, Result.andThen_ok]
    rw [q5]
    cases b1
    · simp
    · simpa using q6
theorem ceq_one {c : LC} {b : BE} {xs ys : List LC} (h : ceq [c] xs ys = some b) : ∃ x y b1, xs = [x] ∧ ys = [y] ∧ ceq1 c x y = some b1 ∧ b.v = b1.v := by
  obtain ⟨l1, l2⟩ := ceq_len h
  match xs, ys, l1, l2 with
  | [x], [y], _, _ =>
    simp only [ceq] at h
    split at h
    · rename_i a b' h1 h2
      obtain rfl := Option.some.inj h
      obtain rfl := Option.some.inj h2
      exact ⟨x, y, a, rfl, rfl, h1, by rw [BE.and_v]; simp [BE.v]⟩
    · cases h
theorem eqTy_run : ∀ m, EqSays P η m
  | 0 => fun t z h => by simp [eqTy] at h
  | m + 1 => by
    intro t z h xs ys b hc d w
    have IH := eqTy_run m
    unfold eqTy at h
    rw [Bool.and_eq_true] at h
    have h := h.2
    cases hu : P.underlying t with
    | none => rw [hu] at h; simp at h
    | some k =>
      rw [hu] at h
      cases k with
      | array n e =>
        simp only [Bool.and_eq_true, beq_iff_eq, bne_iff_ne, List.all_eq_true, List.mem_range] at h
        obtain ⟨⟨hn, hz⟩, h2⟩ := h
        have e1 : ∀ l, vOf P t l = .agg l.toArray := fun l => by unfold vOf; rw [hu]
        rw [e1, e1, show d + (m + 1) = (d + m) + 1 from rfl]
        have h0 := h2 0 (by omega)
        have hi : ∃ i, P.info? e = some i := by
          cases m with
          | zero => simp [eqTy] at h0
          | succ m =>
            unfold eqTy at h0
            rw [Bool.and_eq_true] at h0
            have h0 := h0.2
            cases hue : P.underlying e with
            | none => rw [hue] at h0; simp at h0
            | some k' => exact info_of_underlying hue
        obtain ⟨i, hi⟩ := hi
        rw [run_equalIn_array w (d + m) _ _ hu hi, List.range_eq_range']
        exact eqItems_says IH hz h2 d w n 0 b (by omega) (by simpa using hc)
      | struct fs =>
        simp only [Bool.and_eq_true, Bool.not_eq_true'] at h
        have e1 : ∀ l, vOf P t l = .agg l.toArray := fun l => by unfold vOf; rw [hu]
        have hf : P.fieldsOf t = fs := by simp [Program.fieldsOf, hu]
        rw [e1, e1, show d + (m + 1) = (d + m) + 1 from rfl, run_equalIn_struct w (d + m) t _ _ (by rw [hf]; exact hu) h.1, hf]
        exact eqFields_says IH d w fs.toList 0 b h.2 (by simpa using hc)
      | _ =>
        simp only at h
        have e1 : ∀ l, vOf P t l = l.headD default := fun l => by unfold vOf; rw [hu]
        rcases leafZ_of h with ⟨hk, c, rfl⟩ | ⟨q, c, hk, rfl⟩ | ⟨hk, c, rfl⟩
        · rw [hk] at hu
          obtain ⟨x, y, b1, rfl, rfl, h1, h2⟩ := ceq_one hc
          rw [e1, e1, h2, show d + (m + 1) = (d + m) + 1 from rfl]
          cases x <;> cases y <;> simp only [ceq1] at h1 <;> first | (cases h1; done) | skip
          obtain rfl := Option.some.inj h1
          rw [BE.eq_v]
          exact run_equalIn_bool' w (d + m) t _ _ hu
        · rw [hk] at hu
          obtain ⟨x, y, b1, rfl, rfl, h1, h2⟩ := ceq_one hc
          rw [e1, e1, h2, show d + (m + 1) = (d + m) + 1 from rfl]
          cases x <;> cases y <;> simp only [ceq1] at h1 <;> first | (cases h1; done) | skip
          rename_i k1 x k2 y
          by_cases hk : q = k1 ∧ q = k2
          · rw [if_pos hk] at h1
            obtain ⟨rfl, rfl⟩ := hk
            obtain rfl := Option.some.inj h1
            rw [IE.eq_v]
            exact run_equalIn_int w (d + m) t _ _ _ _ hu
          · rw [if_neg hk] at h1; cases h1
        · rw [hk] at hu
          obtain ⟨x, y, b1, rfl, rfl, h1, h2⟩ := ceq_one hc
          rw [e1, e1, h2, show d + (m + 1) = (d + m) + 1 from rfl]
          cases x <;> cases y <;> simp only [ceq1] at h1 <;> first | (cases h1; done) | skip
          rename_i x y
          obtain rfl := Option.some.inj h1
          show _ = Result.ok (x == y) w
          rw [beq_toListBytes]
          exact run_equalIn_string w (d + m) t _ _ hu
end
end Go.Proofs.Ytbkcaedlijhnlaa.LB
