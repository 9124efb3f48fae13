/- The vectors' functions: least, greatest, sums of products. -/
import Derived.Test.YtbkcaedlijhnlaaAf3
namespace Go.Proofs.Ytbkcaedlijhnlaa.LB
open Go Go.RowKit
def closedB (H : LH) : Bool := H.all fun ob => match ob with
  | some b => b.cells.all fun c => c.refs.all fun r => decide (r < H.length)
  | none => true
theorem sc_of {H : LH} (h : closedB H = true) (i : Nat) (b : LBlk) (hi : H[i]? = some (some b)) : ∀ c ∈ b.cells, c.In (· < H.length) := by
  unfold closedB at h
  have h1 := List.all_eq_true.1 h _ (List.mem_of_getElem? hi)
  simp only at h1
  intro c hc r hr
  exact of_decide_eq_true (List.all_eq_true.1 (List.all_eq_true.1 h1 c hc) r hr)
def LA.inB (n : Nat) (x : LA) : Bool := x.cells.all fun c => c.refs.all fun r => decide (r < n)
theorem LA.inB_ok {n : Nat} {x : LA} (h : x.inB n = true) : x.In (· < n) := fun c hc r hr => of_decide_eq_true (List.all_eq_true.1 (List.all_eq_true.1 h c hc) r hr)
def LV.inB (n : Nat) : LV → Bool
  | .a x => x.inB n
  | .tup xs => xs.all fun x => x.inB n
theorem LV.inB_ok {n : Nat} {v : LV} (h : v.inB n = true) : v.In (· < n) := by
  cases v with
  | a x => exact LA.inB_ok h
  | tup xs => exact fun x hx => LA.inB_ok (List.all_eq_true.1 h x hx)
/-- Leaving a function whose result is in memory. -/
theorem ret_mem {tab : Tab} {env : Env} {fn : Func} {H0 : LH} {R : LV → LH → Prop} {e : Exit} (he : e = .ret ∨ e = .normal) {H : LH} {v v' : LV} (hres : lres tab env H fn.results.toList = some v) (hden : ∀ η, v'.den η = v.den η) (hR : R v' H) (hl : Nat.ble H0.length H.length = true) (hv : v'.inB H.length = true) (hc : closedB H = true) : Ret tab fn H0.length R e env H :=
  ⟨he, v, v', H, hres, hden, hR, Nat.le_of_ble_eq_true hl, LV.inB_ok hv, fun i b hi => ⟨hi, sc_of hc i b hi⟩⟩
def sameB : LH → LH → Prop
  | [], _ => True
  | some b :: r, some b' :: s => b'.cells = b.cells ∧ sameB r s
  | _, _ => False
theorem sameB_get : ∀ {H1 H : LH} {j : Nat} {b : LBlk}, sameB H1 H → H1[j]? = some (some b) → ∃ b', H[j]? = some (some b') ∧ b'.cells = b.cells
  | [], _, j, b, _, h => by simp at h
  | some b1 :: r, some b1' :: s, 0, b, h, hj => by
    simp at hj
    subst hj
    exact ⟨b1', rfl, h.1⟩
  | some b1 :: r, some b1' :: s, j + 1, b, h, hj => by
    have := sameB_get (j := j) (b := b) h.2 (by simpa using hj)
    simpa using this
  | none :: _, _, _, _, h, _ => by simp [sameB] at h
  | some _ :: _, [], _, _, h, _ => by simp [sameB] at h
  | some _ :: _, none :: _, _, _, h, _ => by simp [sameB] at h
theorem sub2_self (η : Eta) : sub2 η (fun j => (j, 0)) (fun _ => none) = η := by
  funext j
  have e0 : ∀ A : Addr, A.add 0 = A := fun A => by simp [Addr.add]
  simp [sub2, e0]
/-- What is so over some blocks is so over these with more behind them. -/
theorem LRo.ext {P : Program} {f : FuncId} {args : List LV} {H1 H : LH} {v : LV} (C : LCall P f args H1 (fun v' H' => v' = v ∧ H' = H1)) (hv : v.free) (hro : (H1.all fun ob => match ob with | some b => !b.own | none => true) = true) (hsc : closedB H1 = true) (hin : (args.all fun x => x.inB H1.length) = true) (hH : sameB H1 H) :
    LRo P f args v (List.range H1.length) H := by
  refine LRo.of2 C hv (fun j b hj => ?_) (sc_of hsc) (fun x hx => LV.inB_ok (List.all_eq_true.1 hin x hx)) (fun j => (j, 0)) (fun _ => none) (fun j b hj => ?_) (fun η => by rw [sub2_self])
  · have h1 := List.all_eq_true.1 hro _ (List.mem_of_getElem? hj)
    simpa using h1
  · obtain ⟨b', hb', hc⟩ := sameB_get hH hj
    refine ⟨List.mem_range.2 (List.getElem?_eq_some_iff.1 hj).1, b', hb', by simp [hc], fun n hn => (by cases hn), fun t c ht => ⟨c, by simpa [hc] using ht, fun η => by rw [sub2_self]⟩⟩
def mn (a b : Int) : Int := if b < a then b else a
def mx (a b : Int) : Int := if b > a then b else a
def leastV (a b : V3) : V3 := ⟨mn a.x b.x, mn a.y b.y, mn a.z b.z⟩
def greatV (a b : V3) : V3 := ⟨mx a.x b.x, mx a.y b.y, mx a.z b.z⟩
abbrev two0 (x : Int) : LV := .tup [.c (ci x), .c (.int .i64 (.lit 0))]
theorem free_two0 (x : Int) : (two0 x).free := fun a ha => by simp at ha; rcases ha with rfl | rfl <;> exact in_none rfl
abbrev vsl : LC := .slice 0 (.lit 0) (.lit 2) 3 none
abbrev vcH (a b : V3) : LH := [some ⟨vecs.all [a, b], false, 56, false⟩, some ⟨[vsl], false, 196, false⟩]
theorem vec_places0 (a b : V3) : LCall Try.prog 185 [.a (.c vsl), (.a (.c (.int .i64 (.lit 0))))] (vcH a b) (fun v H' => v = .a (.c (.slice 7 (.lit 0) (.lit 2) 1 none)) ∧
    H' = vcH a b ++ [some ⟨a.cells, true, 56, false⟩, some ⟨[ci a.x], true, 22, false⟩, none, some ⟨b.cells, true, 56, false⟩, some ⟨[ci b.x], true, 22, false⟩, some ⟨[ci a.x, ci b.x], true, 22, false⟩]) := by
  refine LCall.of hT Try.func185 rfl (by kernel_rfl) (by show 2 ≤ 22; decide) (fun η w => ?_)
  refine exec_ok hT true 200 ?_
  conv => arg 4; whnf
  refine exec_ok hT true 200 ?_
  conv => arg 4; whnf
  exact holds_ret (ret_mem (.inl rfl) rfl (fun _ => rfl) ⟨rfl, rfl⟩ rfl rfl rfl)
theorem vec_places1 (a b : V3) : LCall Try.prog 185 [.a (.c vsl), (.a (.c (.int .i64 (.lit 1))))] (vcH a b) (fun v H' => v = .a (.c (.slice 7 (.lit 0) (.lit 2) 1 none)) ∧
    H' = vcH a b ++ [some ⟨a.cells, true, 56, false⟩, some ⟨[ci a.y], true, 22, false⟩, none, some ⟨b.cells, true, 56, false⟩, some ⟨[ci b.y], true, 22, false⟩, some ⟨[ci a.y, ci b.y], true, 22, false⟩]) := by
  refine LCall.of hT Try.func185 rfl (by kernel_rfl) (by show 2 ≤ 22; decide) (fun η w => ?_)
  refine exec_ok hT true 200 ?_
  conv => arg 4; whnf
  refine exec_ok hT true 200 ?_
  conv => arg 4; whnf
  exact holds_ret (ret_mem (.inl rfl) rfl (fun _ => rfl) ⟨rfl, rfl⟩ rfl rfl rfl)
theorem vec_places2 (a b : V3) : LCall Try.prog 185 [.a (.c vsl), (.a (.c (.int .i64 (.lit 2))))] (vcH a b) (fun v H' => v = .a (.c (.slice 7 (.lit 0) (.lit 2) 1 none)) ∧
    H' = vcH a b ++ [some ⟨a.cells, true, 56, false⟩, some ⟨[ci a.z], true, 22, false⟩, none, some ⟨b.cells, true, 56, false⟩, some ⟨[ci b.z], true, 22, false⟩, some ⟨[ci a.z, ci b.z], true, 22, false⟩]) := by
  refine LCall.of hT Try.func185 rfl (by kernel_rfl) (by show 2 ≤ 22; decide) (fun η w => ?_)
  refine exec_ok hT true 200 ?_
  conv => arg 4; whnf
  refine exec_ok hT true 200 ?_
  conv => arg 4; whnf
  exact holds_ret (ret_mem (.inl rfl) rfl (fun _ => rfl) ⟨rfl, rfl⟩ rfl rfl rfl)
theorem slices_Min (x y : Int) : LCall Try.prog 184 [.a (.c (.slice 0 (.lit 0) (.lit 2) 1 none))] [some ⟨ints.all [x, y], false, 22, false⟩] (fun v H' => v = i64 (mn x y) ∧ H' = [some ⟨ints.all [x, y], false, 22, false⟩]) := by
  refine LCall.of hT Try.func184 rfl (by kernel_rfl) (by show 1 ≤ 25; decide) (fun η w => ?_)
  refine exec_ok hT true 200 ?_
  conv => arg 4; whnf
  refine exec_ok hT true 200 ?_
  conv => arg 4; whnf
  exact holds_ret (ret_pure (.inl rfl) rfl (fun _ => rfl) (free_i64 _) rfl (sc_of rfl))
theorem vec_Min0 (a b : V3) : LCall Try.prog 183 [(.a (.c (.int .i64 (.lit 0)))), .a (.c (.ptr 1 (.lit 0)))] (vcH a b) (fun v H' => v = two0 (mn a.x b.x) ∧ H' = vcH a b) := by
  refine LCall.of hT Try.func183 rfl (by kernel_rfl) (by show 2 ≤ 9; decide) (fun η w => ?_)
  refine exec_ok hT true 200 ?_
  conv => arg 4; whnf
  refine holds_call rfl rfl rfl (vec_places0 a b) rfl (by show 7 < 9; decide) ?_
  rintro _ _ ⟨rfl, rfl⟩
  refine exec_ok hT true 200 ?_
  conv => arg 4; whnf
  refine holds_call rfl rfl rfl ((ro_of (by decide) ints 22 false [a.x, b.x] rfl (slices_Min a.x b.x) (free_i64 _) rfl rfl (by exact Nat.le_refl 2) (fun _ => rfl) rfl).call) rfl (by show 8 < 9; decide) ?_
  rintro _ _ ⟨rfl, rfl⟩
  refine exec_ok hT true 200 ?_
  conv => arg 4; whnf
  exact holds_ret (ret_pure (.inl rfl) rfl (fun _ => rfl) (free_two0 _) rfl (sc_of rfl))
theorem vec_Min1 (a b : V3) : LCall Try.prog 183 [(.a (.c (.int .i64 (.lit 1)))), .a (.c (.ptr 1 (.lit 0)))] (vcH a b) (fun v H' => v = two0 (mn a.y b.y) ∧ H' = vcH a b) := by
  refine LCall.of hT Try.func183 rfl (by kernel_rfl) (by show 2 ≤ 9; decide) (fun η w => ?_)
  refine exec_ok hT true 200 ?_
  conv => arg 4; whnf
  refine holds_call rfl rfl rfl (vec_places1 a b) rfl (by show 7 < 9; decide) ?_
  rintro _ _ ⟨rfl, rfl⟩
  refine exec_ok hT true 200 ?_
  conv => arg 4; whnf
  refine holds_call rfl rfl rfl ((ro_of (by decide) ints 22 false [a.y, b.y] rfl (slices_Min a.y b.y) (free_i64 _) rfl rfl (by exact Nat.le_refl 2) (fun _ => rfl) rfl).call) rfl (by show 8 < 9; decide) ?_
  rintro _ _ ⟨rfl, rfl⟩
  refine exec_ok hT true 200 ?_
  conv => arg 4; whnf
  exact holds_ret (ret_pure (.inl rfl) rfl (fun _ => rfl) (free_two0 _) rfl (sc_of rfl))
theorem vec_Min2 (a b : V3) : LCall Try.prog 183 [(.a (.c (.int .i64 (.lit 2)))), .a (.c (.ptr 1 (.lit 0)))] (vcH a b) (fun v H' => v = two0 (mn a.z b.z) ∧ H' = vcH a b) := by
  refine LCall.of hT Try.func183 rfl (by kernel_rfl) (by show 2 ≤ 9; decide) (fun η w => ?_)
  refine exec_ok hT true 200 ?_
  conv => arg 4; whnf
  refine holds_call rfl rfl rfl (vec_places2 a b) rfl (by show 7 < 9; decide) ?_
  rintro _ _ ⟨rfl, rfl⟩
  refine exec_ok hT true 200 ?_
  conv => arg 4; whnf
  refine holds_call rfl rfl rfl ((ro_of (by decide) ints 22 false [a.z, b.z] rfl (slices_Min a.z b.z) (free_i64 _) rfl rfl (by exact Nat.le_refl 2) (fun _ => rfl) rfl).call) rfl (by show 8 < 9; decide) ?_
  rintro _ _ ⟨rfl, rfl⟩
  refine exec_ok hT true 200 ?_
  conv => arg 4; whnf
  exact holds_ret (ret_pure (.inl rfl) rfl (fun _ => rfl) (free_two0 _) rfl (sc_of rfl))
theorem vec_eachMin (a b : V3) : LCall Try.prog 182 [.a (.c (.fn 183 [(1, 0)]))] [some ⟨vecs.all [a, b], false, 56, false⟩, some ⟨[vsl], true, 196, false⟩, some ⟨[.int .i64 (.lit 0), .int .i64 (.lit 0), .int .i64 (.lit 0)], true, 56, false⟩] (fun v H' => v = twoV (leastV a b) 0 ∧ H' = [some ⟨vecs.all [a, b], false, 56, false⟩, some ⟨[vsl], true, 196, false⟩, some ⟨[.int .i64 (.lit 0), .int .i64 (.lit 0), .int .i64 (.lit 0)], true, 56, false⟩]) := by
  refine LCall.of hT Try.func182 rfl (by kernel_rfl) (by show 1 ≤ 26; decide) (fun η w => ?_)
  refine exec_ok hT true 200 ?_
  conv => arg 4; whnf
  refine holds_call rfl rfl rfl (LRo.call (LRo.ext (vec_Min0 a b) (free_two0 _) rfl rfl rfl ⟨rfl, rfl, trivial⟩)) rfl (by show 14 < 26; decide) ?_
  rintro _ _ ⟨rfl, rfl⟩
  refine exec_ok hT true 200 ?_
  conv => arg 4; whnf
  refine holds_call rfl rfl rfl (LRo.call (LRo.ext (vec_Min1 a b) (free_two0 _) rfl rfl rfl ⟨rfl, rfl, trivial⟩)) rfl (by show 14 < 26; decide) ?_
  rintro _ _ ⟨rfl, rfl⟩
  refine exec_ok hT true 200 ?_
  conv => arg 4; whnf
  refine holds_call rfl rfl rfl (LRo.call (LRo.ext (vec_Min2 a b) (free_two0 _) rfl rfl rfl ⟨rfl, rfl, trivial⟩)) rfl (by show 14 < 26; decide) ?_
  rintro _ _ ⟨rfl, rfl⟩
  refine exec_ok hT true 200 ?_
  conv => arg 4; whnf
  exact holds_ret (ret_pure (.inl rfl) rfl (fun _ => rfl) (free_twoV _ _) rfl (sc_of rfl))
theorem vec_Min (a b : V3) : LCall Try.prog 135 [.a (.c vsl)] [some ⟨vecs.all [a, b], false, 56, false⟩] (fun v H' => v = (leastV a b).val ∧ H' = [some ⟨vecs.all [a, b], false, 56, false⟩]) := by
  refine LCall.of hT Try.func135 rfl (by kernel_rfl) (by show 1 ≤ 15; decide) (fun η w => ?_)
  refine exec_ok hT true 200 ?_
  conv => arg 4; whnf
  refine holds_call rfl rfl rfl (vec_eachMin a b) rfl (by show 11 < 15; decide) ?_
  rintro _ _ ⟨rfl, rfl⟩
  refine exec_ok hT true 200 ?_
  conv => arg 4; whnf
  exact holds_ret (ret_pure (.inl rfl) rfl (fun _ => rfl) (free_V _) rfl (sc_of rfl))
theorem ro_Min {H : LH} {i : Nat} {off len : NE} {cap : Option Nat} {b : LBlk} (x y : V3) (hb : H[i]? = some (some b)) (hl : len.v = 2) (hr : off.v + 6 ≤ b.cells.length)
    (hc : ∀ η, ((b.cells.drop off.v).take 6).map (LC.den η) = (vecs.all [x, y]).map (LC.den η)) (hcap : (cap.all fun c => decide (2 ≤ c)) = true) : LRo Try.prog 135 [.a (.c (.slice i off len 3 cap))] (leastV x y).val [i] H :=
  ro_of (by decide) vecs 56 false [x, y] rfl (vec_Min x y) (free_V _) hb hl hr hc hcap
theorem slices_Max (x y : Int) : LCall Try.prog 187 [.a (.c (.slice 0 (.lit 0) (.lit 2) 1 none))] [some ⟨ints.all [x, y], false, 22, false⟩] (fun v H' => v = i64 (mx x y) ∧ H' = [some ⟨ints.all [x, y], false, 22, false⟩]) := by
  refine LCall.of hT Try.func187 rfl (by kernel_rfl) (by show 1 ≤ 25; decide) (fun η w => ?_)
  refine exec_ok hT true 200 ?_
  conv => arg 4; whnf
  refine exec_ok hT true 200 ?_
  conv => arg 4; whnf
  exact holds_ret (ret_pure (.inl rfl) rfl (fun _ => rfl) (free_i64 _) rfl (sc_of rfl))
theorem vec_Max0 (a b : V3) : LCall Try.prog 186 [(.a (.c (.int .i64 (.lit 0)))), .a (.c (.ptr 1 (.lit 0)))] (vcH a b) (fun v H' => v = two0 (mx a.x b.x) ∧ H' = vcH a b) := by
  refine LCall.of hT Try.func186 rfl (by kernel_rfl) (by show 2 ≤ 9; decide) (fun η w => ?_)
  refine exec_ok hT true 200 ?_
  conv => arg 4; whnf
  refine holds_call rfl rfl rfl (vec_places0 a b) rfl (by show 7 < 9; decide) ?_
  rintro _ _ ⟨rfl, rfl⟩
  refine exec_ok hT true 200 ?_
  conv => arg 4; whnf
  refine holds_call rfl rfl rfl ((ro_of (by decide) ints 22 false [a.x, b.x] rfl (slices_Max a.x b.x) (free_i64 _) rfl rfl (by exact Nat.le_refl 2) (fun _ => rfl) rfl).call) rfl (by show 8 < 9; decide) ?_
  rintro _ _ ⟨rfl, rfl⟩
  refine exec_ok hT true 200 ?_
  conv => arg 4; whnf
  exact holds_ret (ret_pure (.inl rfl) rfl (fun _ => rfl) (free_two0 _) rfl (sc_of rfl))
theorem vec_Max1 (a b : V3) : LCall Try.prog 186 [(.a (.c (.int .i64 (.lit 1)))), .a (.c (.ptr 1 (.lit 0)))] (vcH a b) (fun v H' => v = two0 (mx a.y b.y) ∧ H' = vcH a b) := by
  refine LCall.of hT Try.func186 rfl (by kernel_rfl) (by show 2 ≤ 9; decide) (fun η w => ?_)
  refine exec_ok hT true 200 ?_
  conv => arg 4; whnf
  refine holds_call rfl rfl rfl (vec_places1 a b) rfl (by show 7 < 9; decide) ?_
  rintro _ _ ⟨rfl, rfl⟩
  refine exec_ok hT true 200 ?_
  conv => arg 4; whnf
  refine holds_call rfl rfl rfl ((ro_of (by decide) ints 22 false [a.y, b.y] rfl (slices_Max a.y b.y) (free_i64 _) rfl rfl (by exact Nat.le_refl 2) (fun _ => rfl) rfl).call) rfl (by show 8 < 9; decide) ?_
  rintro _ _ ⟨rfl, rfl⟩
  refine exec_ok hT true 200 ?_
  conv => arg 4; whnf
  exact holds_ret (ret_pure (.inl rfl) rfl (fun _ => rfl) (free_two0 _) rfl (sc_of rfl))
theorem vec_Max2 (a b : V3) : LCall Try.prog 186 [(.a (.c (.int .i64 (.lit 2)))), .a (.c (.ptr 1 (.lit 0)))] (vcH a b) (fun v H' => v = two0 (mx a.z b.z) ∧ H' = vcH a b) := by
  refine LCall.of hT Try.func186 rfl (by kernel_rfl) (by show 2 ≤ 9; decide) (fun η w => ?_)
  refine exec_ok hT true 200 ?_
  conv => arg 4; whnf
  refine holds_call rfl rfl rfl (vec_places2 a b) rfl (by show 7 < 9; decide) ?_
  rintro _ _ ⟨rfl, rfl⟩
  refine exec_ok hT true 200 ?_
  conv => arg 4; whnf
  refine holds_call rfl rfl rfl ((ro_of (by decide) ints 22 false [a.z, b.z] rfl (slices_Max a.z b.z) (free_i64 _) rfl rfl (by exact Nat.le_refl 2) (fun _ => rfl) rfl).call) rfl (by show 8 < 9; decide) ?_
  rintro _ _ ⟨rfl, rfl⟩
  refine exec_ok hT true 200 ?_
  conv => arg 4; whnf
  exact holds_ret (ret_pure (.inl rfl) rfl (fun _ => rfl) (free_two0 _) rfl (sc_of rfl))
theorem vec_eachMax (a b : V3) : LCall Try.prog 182 [.a (.c (.fn 186 [(1, 0)]))] [some ⟨vecs.all [a, b], false, 56, false⟩, some ⟨[vsl], true, 196, false⟩, some ⟨[.int .i64 (.lit 0), .int .i64 (.lit 0), .int .i64 (.lit 0)], true, 56, false⟩] (fun v H' => v = twoV (greatV a b) 0 ∧ H' = [some ⟨vecs.all [a, b], false, 56, false⟩, some ⟨[vsl], true, 196, false⟩, some ⟨[.int .i64 (.lit 0), .int .i64 (.lit 0), .int .i64 (.lit 0)], true, 56, false⟩]) := by
  refine LCall.of hT Try.func182 rfl (by kernel_rfl) (by show 1 ≤ 26; decide) (fun η w => ?_)
  refine exec_ok hT true 200 ?_
  conv => arg 4; whnf
  refine holds_call rfl rfl rfl (LRo.call (LRo.ext (vec_Max0 a b) (free_two0 _) rfl rfl rfl ⟨rfl, rfl, trivial⟩)) rfl (by show 14 < 26; decide) ?_
  rintro _ _ ⟨rfl, rfl⟩
  refine exec_ok hT true 200 ?_
  conv => arg 4; whnf
  refine holds_call rfl rfl rfl (LRo.call (LRo.ext (vec_Max1 a b) (free_two0 _) rfl rfl rfl ⟨rfl, rfl, trivial⟩)) rfl (by show 14 < 26; decide) ?_
  rintro _ _ ⟨rfl, rfl⟩
  refine exec_ok hT true 200 ?_
  conv => arg 4; whnf
  refine holds_call rfl rfl rfl (LRo.call (LRo.ext (vec_Max2 a b) (free_two0 _) rfl rfl rfl ⟨rfl, rfl, trivial⟩)) rfl (by show 14 < 26; decide) ?_
  rintro _ _ ⟨rfl, rfl⟩
  refine exec_ok hT true 200 ?_
  conv => arg 4; whnf
  exact holds_ret (ret_pure (.inl rfl) rfl (fun _ => rfl) (free_twoV _ _) rfl (sc_of rfl))
theorem vec_Max (a b : V3) : LCall Try.prog 136 [.a (.c vsl)] [some ⟨vecs.all [a, b], false, 56, false⟩] (fun v H' => v = (greatV a b).val ∧ H' = [some ⟨vecs.all [a, b], false, 56, false⟩]) := by
  refine LCall.of hT Try.func136 rfl (by kernel_rfl) (by show 1 ≤ 15; decide) (fun η w => ?_)
  refine exec_ok hT true 200 ?_
  conv => arg 4; whnf
  refine holds_call rfl rfl rfl (vec_eachMax a b) rfl (by show 11 < 15; decide) ?_
  rintro _ _ ⟨rfl, rfl⟩
  refine exec_ok hT true 200 ?_
  conv => arg 4; whnf
  exact holds_ret (ret_pure (.inl rfl) rfl (fun _ => rfl) (free_V _) rfl (sc_of rfl))
theorem ro_Max {H : LH} {i : Nat} {off len : NE} {cap : Option Nat} {b : LBlk} (x y : V3) (hb : H[i]? = some (some b)) (hl : len.v = 2) (hr : off.v + 6 ≤ b.cells.length)
    (hc : ∀ η, ((b.cells.drop off.v).take 6).map (LC.den η) = (vecs.all [x, y]).map (LC.den η)) (hcap : (cap.all fun c => decide (2 ≤ c)) = true) : LRo Try.prog 136 [.a (.c (.slice i off len 3 cap))] (greatV x y).val [i] H :=
  ro_of (by decide) vecs 56 false [x, y] rfl (vec_Max x y) (free_V _) hb hl hr hc hcap
theorem vec_Dot0 (a b : V3) : LCall Try.prog 193 [(.a (.c (.int .i64 (.lit 0)))), .a (.c (.ptr 0 (.lit 0))), .a (.c (.ptr 1 (.lit 0)))] [some ⟨a.cells, false, 56, false⟩, some ⟨b.cells, false, 56, false⟩] (fun v H' => v = two (mulV a.x b.x) (mulE a.x b.x) ∧ H' = [some ⟨a.cells, false, 56, false⟩, some ⟨b.cells, false, 56, false⟩]) := by
  refine LCall.of hT Try.func193 rfl (by kernel_rfl) (by show 3 ≤ 15; decide) (fun η w => ?_)
  refine exec_ok hT true 200 ?_
  conv => arg 4; whnf
  refine holds_drawStart 0 ?_
  refine dexec_ok hT 100 ?_
  conv => arg 10; whnf
  refine dholds_call rfl rfl ((fix_Mul a.x b.x).ro (free3 (free_i64 _) (free_i64 _)) (free_two _ _) _) rfl ?_
  refine dexec_ok hT 100 ?_
  conv => arg 10; whnf
  refine dholds_end mixed (by kernel_rfl) ?_
  refine exec_ok hT true 200 ?_
  conv => arg 4; whnf
  exact holds_ret (ret_pure (.inl rfl) rfl (fun _ => rfl) (free_two _ _) rfl (sc_of rfl))
theorem vec_Dot1 (a b : V3) : LCall Try.prog 193 [(.a (.c (.int .i64 (.lit 1)))), .a (.c (.ptr 0 (.lit 0))), .a (.c (.ptr 1 (.lit 0)))] [some ⟨a.cells, false, 56, false⟩, some ⟨b.cells, false, 56, false⟩] (fun v H' => v = two (mulV a.y b.y) (mulE a.y b.y) ∧ H' = [some ⟨a.cells, false, 56, false⟩, some ⟨b.cells, false, 56, false⟩]) := by
  refine LCall.of hT Try.func193 rfl (by kernel_rfl) (by show 3 ≤ 15; decide) (fun η w => ?_)
  refine exec_ok hT true 200 ?_
  conv => arg 4; whnf
  refine holds_drawStart 0 ?_
  refine dexec_ok hT 100 ?_
  conv => arg 10; whnf
  refine dholds_call rfl rfl ((fix_Mul a.y b.y).ro (free3 (free_i64 _) (free_i64 _)) (free_two _ _) _) rfl ?_
  refine dexec_ok hT 100 ?_
  conv => arg 10; whnf
  refine dholds_end mixed (by kernel_rfl) ?_
  refine exec_ok hT true 200 ?_
  conv => arg 4; whnf
  exact holds_ret (ret_pure (.inl rfl) rfl (fun _ => rfl) (free_two _ _) rfl (sc_of rfl))
theorem vec_Dot2 (a b : V3) : LCall Try.prog 193 [(.a (.c (.int .i64 (.lit 2)))), .a (.c (.ptr 0 (.lit 0))), .a (.c (.ptr 1 (.lit 0)))] [some ⟨a.cells, false, 56, false⟩, some ⟨b.cells, false, 56, false⟩] (fun v H' => v = two (mulV a.z b.z) (mulE a.z b.z) ∧ H' = [some ⟨a.cells, false, 56, false⟩, some ⟨b.cells, false, 56, false⟩]) := by
  refine LCall.of hT Try.func193 rfl (by kernel_rfl) (by show 3 ≤ 15; decide) (fun η w => ?_)
  refine exec_ok hT true 200 ?_
  conv => arg 4; whnf
  refine holds_drawStart 0 ?_
  refine dexec_ok hT 100 ?_
  conv => arg 10; whnf
  refine dholds_call rfl rfl ((fix_Mul a.z b.z).ro (free3 (free_i64 _) (free_i64 _)) (free_two _ _) _) rfl ?_
  refine dexec_ok hT 100 ?_
  conv => arg 10; whnf
  refine dholds_end mixed (by kernel_rfl) ?_
  refine exec_ok hT true 200 ?_
  conv => arg 4; whnf
  exact holds_ret (ret_pure (.inl rfl) rfl (fun _ => rfl) (free_two _ _) rfl (sc_of rfl))
def dotP (a b : V3) : V3 := ⟨mulV a.x b.x, mulV a.y b.y, mulV a.z b.z⟩
def dotPE (a b : V3) : Int := firstE [mulE a.x b.x, mulE a.y b.y, mulE a.z b.z]
def dotE (a b : V3) : Int := cond ([a, b].all inV) (cond (dotPE a b != 0) (dotPE a b) (addE (dotP a b).list)) 1
def dotV (a b : V3) : Int := cond ([a, b].all inV) (cond (dotPE a b != 0) 0 (addV (dotP a b).list)) 0
theorem vec_eachDot (a b : V3) : LCall Try.prog 182 [.a (.c (.fn 193 [(0, 0), (1, 0)]))] [some ⟨a.cells, true, 56, false⟩, some ⟨b.cells, true, 56, false⟩, some ⟨vecs.all [a, b], true, 56, false⟩] (fun v H' => v = twoV (cond (dotPE a b != 0) zeroV (dotP a b)) (dotPE a b) ∧ H' = [some ⟨a.cells, true, 56, false⟩, some ⟨b.cells, true, 56, false⟩, some ⟨vecs.all [a, b], true, 56, false⟩]) := by
  refine LCall.of hT Try.func182 rfl (by kernel_rfl) (by show 1 ≤ 26; decide) (fun η w => ?_)
  refine exec_ok hT true 200 ?_
  conv => arg 4; whnf
  refine holds_call rfl rfl rfl (LRo.call (LRo.ext (vec_Dot0 a b) (free_two _ _) rfl rfl rfl ⟨rfl, rfl, trivial⟩)) rfl (by show 14 < 26; decide) ?_
  rintro _ _ ⟨rfl, rfl⟩
  refine exec_ok hT true 200 ?_
  conv => arg 4; whnf
  cases h0 : (mulE a.x b.x != 0)
  · refine holds_bool 18 rfl (r := false) (h0) ?_
    refine exec_ok hT true 200 ?_
    conv => arg 4; whnf
    refine holds_call rfl rfl rfl (LRo.call (LRo.ext (vec_Dot1 a b) (free_two _ _) rfl rfl rfl ⟨rfl, rfl, trivial⟩)) rfl (by show 14 < 26; decide) ?_
    rintro _ _ ⟨rfl, rfl⟩
    refine exec_ok hT true 200 ?_
    conv => arg 4; whnf
    cases h1 : (mulE a.y b.y != 0)
    · refine holds_bool 18 rfl (r := false) (h1) ?_
      refine exec_ok hT true 200 ?_
      conv => arg 4; whnf
      refine holds_call rfl rfl rfl (LRo.call (LRo.ext (vec_Dot2 a b) (free_two _ _) rfl rfl rfl ⟨rfl, rfl, trivial⟩)) rfl (by show 14 < 26; decide) ?_
      rintro _ _ ⟨rfl, rfl⟩
      refine exec_ok hT true 200 ?_
      conv => arg 4; whnf
      cases h2 : (mulE a.z b.z != 0)
      · refine holds_bool 18 rfl (r := false) (h2) ?_
        refine exec_ok hT true 200 ?_
        conv => arg 4; whnf
        exact holds_ret (ret_pure (.inl rfl) rfl (fun _ => by simp only [dotPE, firstE, h0, h1, h2, cond_false, bne_self_eq_false] <;> rfl) (free_twoV _ _) rfl (sc_of rfl))
      · refine holds_bool 18 rfl (r := true) (h2) ?_
        refine exec_ok hT true 200 ?_
        conv => arg 4; whnf
        exact holds_ret (ret_pure (.inl rfl) rfl (fun _ => by simp only [dotPE, firstE, h0, h1, h2, cond_false, cond_true] <;> rfl) (free_twoV _ _) rfl (sc_of rfl))
    · refine holds_bool 18 rfl (r := true) (h1) ?_
      refine exec_ok hT true 200 ?_
      conv => arg 4; whnf
      exact holds_ret (ret_pure (.inl rfl) rfl (fun _ => by simp only [dotPE, firstE, h0, h1, cond_false, cond_true] <;> rfl) (free_twoV _ _) rfl (sc_of rfl))
  · refine holds_bool 18 rfl (r := true) (h0) ?_
    refine exec_ok hT true 200 ?_
    conv => arg 4; whnf
    exact holds_ret (ret_pure (.inl rfl) rfl (fun _ => by simp only [dotPE, firstE, h0, cond_false, cond_true] <;> rfl) (free_twoV _ _) rfl (sc_of rfl))
theorem vec_Dot (a b : V3) : LPure Try.prog 145 [a.val, b.val] (two (dotV a b) (dotE a b)) := by
  refine LCall.of hT Try.func145 rfl (by kernel_rfl) (by show 2 ≤ 25; decide) (fun η w => ?_)
  refine exec_ok hT true 200 ?_
  conv => arg 4; whnf
  refine holds_call rfl rfl rfl ((ro_V (len := .lit 2) [a, b] (by simp) rfl rfl (by exact Nat.le_refl 6) (fun _ => rfl) rfl).call) rfl (by show 11 < 25; decide) ?_
  rintro _ _ ⟨rfl, rfl⟩
  refine exec_ok hT true 200 ?_
  conv => arg 4; whnf
  cases h : [a, b].all inV
  · refine holds_bool 12 rfl (r := true) (rfl) ?_
    refine exec_ok hT true 200 ?_
    conv => arg 4; whnf
    exact holds_ret (ret_pure (.inl rfl) rfl (fun _ => by simp only [dotE, dotV, h, cond_false] <;> rfl) (free_two _ _) rfl (nosc))
  · refine holds_bool 12 rfl (r := false) (rfl) ?_
    refine exec_ok hT true 200 ?_
    conv => arg 4; whnf
    refine holds_call rfl rfl rfl (vec_eachDot a b) rfl (by show 15 < 25; decide) ?_
    rintro _ _ ⟨rfl, rfl⟩
    refine exec_ok hT true 200 ?_
    conv => arg 4; whnf
    cases h2 : (dotPE a b != 0)
    · refine holds_bool 19 rfl (r := false) (h2) ?_
      refine exec_ok hT true 200 ?_
      conv => arg 4; whnf
      refine holds_call rfl rfl rfl ((ro_Add (len := .lit 3) (dotP a b).list (by simp) rfl rfl (by exact Nat.le_refl 3) (fun _ => rfl) rfl).call) rfl (by show 22 < 25; decide) ?_
      rintro _ _ ⟨rfl, rfl⟩
      refine exec_ok hT true 200 ?_
      conv => arg 4; whnf
      exact holds_ret (ret_pure (.inl rfl) rfl (fun _ => by simp only [dotE, dotV, h, h2, cond_false, cond_true] <;> rfl) (free_two _ _) rfl (nosc))
    · refine holds_bool 19 rfl (r := true) (h2) ?_
      refine exec_ok hT true 200 ?_
      conv => arg 4; whnf
      exact holds_ret (ret_pure (.inl rfl) rfl (fun _ => by simp only [dotE, dotV, h, h2, cond_true] <;> rfl) (free_two _ _) rfl (nosc))
end Go.Proofs.Ytbkcaedlijhnlaa.LB
