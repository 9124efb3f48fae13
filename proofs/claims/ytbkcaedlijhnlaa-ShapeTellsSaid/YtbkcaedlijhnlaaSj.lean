/- Boxes joined, of any number. -/
import Derived.Test.YtbkcaedlijhnlaaRh
import Derived.Test.YtbkcaedlijhnlaaLK
namespace Go.Proofs.Ytbkcaedlijhnlaa.LB
open Go Go.RowKit
/-- a row that lies where it is told, whole -/
theorem ro_full {α : Type} {sz : Nat} (hs : 0 < sz) (E : Enc α sz) (ty : Nat) (sym : Bool) (xs : List α) {f : FuncId} {v : LV} {len1 : NE} (hl1 : len1.v = xs.length) (C : LCall Try.prog f [.a (.c (.slice 0 (.lit 0) len1 sz none))] [some ⟨E.all xs, false, ty, sym⟩] (fun v' H' => v' = v ∧ H' = [some ⟨E.all xs, false, ty, sym⟩])) (hv : v.free) {H : LH} {i : Nat} {len : NE} {b : LBlk}
    (hb : H[i]? = some (some b)) (hbc : b.cells = E.all xs) (hl : len.v = xs.length) : LRo Try.prog f [.a (.c (.slice i (.lit 0) len sz none))] v [i] H :=
  ro_of hs E ty sym xs hl1 C hv hb hl (by rw [hbc, E.all_len]; show 0 + _ ≤ _; omega) (fun η => by rw [hbc, NE.lit_v, List.drop_zero, List.take_of_length_le (by rw [E.all_len]; exact Nat.le_refl _)]) rfl
theorem Enc.den_all {α : Type} {sz : Nat} (E : Enc α sz) (xs : List α) (η η' : Eta) : (E.all xs).map (LC.den η) = (E.all xs).map (LC.den η') :=
  List.map_congr_left fun c hc => LV.free_den (v := .a (.c c)) (in_none (E.all_flat hc)) _ _
theorem Enc.all_in {α : Type} {sz : Nat} (E : Enc α sz) (xs : List α) (n : Nat) : ∀ c ∈ E.all xs, c.In (· < n) := fun c hc r hr => by rw [E.all_flat hc] at hr; cases hr
theorem B6.in_n (b : B6) (n : Nat) : ∀ c ∈ b.cells, c.In (· < n) := fun c hc r hr => by
  simp at hc; rcases hc with rfl | rfl | rfl | rfl | rfl | rfl <;> cases hr
theorem V3.in_n (b : V3) (n : Nat) : ∀ c ∈ b.cells, c.In (· < n) := fun c hc r hr => by
  simp at hc; rcases hc with rfl | rfl | rfl <;> cases hr
theorem lit_in {cs : List LC} (h : (cs.all fun c => c.refs.isEmpty) = true) (n : Nat) : ∀ c ∈ cs, c.In (· < n) := fun c hc r hr => by
  have := List.all_eq_true.1 h c hc
  rw [List.isEmpty_iff.1 this] at hr; cases hr
def jacc (x : B6) (l : List B6) : B6 := l.foldl join1 x
theorem jacc_take {x : B6} {l : List B6} {i : Nat} (h : i < l.length) : jacc x (l.take (i + 1)) = join1 (jacc x (l.take i)) l[i] := by
  unfold jacc
  rw [List.take_succ_eq_append_getElem h, List.foldl_append]; rfl
def joinLV (xs : List B6) : B6 := match xs with
  | [] => zeroB
  | x :: r => cond ((x :: r).all boxOk) (jacc x (x :: r)) zeroB
def joinLE (xs : List B6) : Int := match xs with
  | [] => 1
  | x :: r => cond ((x :: r).all boxOk) 0 1
set_option maxHeartbeats 1000000 in
theorem shape_Join (xs : List B6) (hn : xs.length ≤ 140737488351232) : LCall Try.prog 74 [sl xs.length 6] [some (Eblk boxes 58 xs)] (fun v H' => v = twoB (joinLV xs) (joinLE xs) ∧ H' = [some (Eblk boxes 58 xs)]) := by
  refine LCall.of hT Try.func74 rfl (by kernel_rfl) (by show 1 ≤ 40; decide) (fun η w => ?_)
  refine exec_ok hT false 200 ?_
  conv => arg 4; whnf
  match xs, hn with
  | [], hn =>
    refine holds_bool 10 rfl (r := true) (rfl) ?_
    refine exec_ok hT false 200 ?_
    conv => arg 4; whnf
    exact holds_ret (ret_pure (.inl rfl) rfl (fun _ => rfl) (free_twoB _ _) rfl (sc1 _ _ _))
  | x :: r, hn =>
    refine holds_bool 10 rfl (r := false) (by show ((((x :: r).length : Nat) : Int) == 0) = false; simp; omega) ?_
    refine exec_ok hT false 200 ?_
    conv => arg 4; whnf
    refine holds_call rfl rfl rfl (LRo.call (ro_full (by decide) boxes 58 true (x :: r) rfl (all_B (x :: r) hn) (free_bo _) rfl rfl rfl)) rfl (by show 12 < 40; decide) ?_
    rintro _ _ ⟨rfl, rfl⟩
    refine exec_ok hT false 200 ?_
    conv => arg 4; whnf
    cases h : (x :: r).all boxOk
    · refine holds_bool 14 rfl (r := true) (rfl) ?_
      refine exec_ok hT false 200 ?_
      conv => arg 4; whnf
      exact holds_ret (ret_pure (.inl rfl) rfl (fun _ => by simp only [joinLV, joinLE, h, cond_false] <;> rfl) (free_twoB _ _) rfl (sc1 _ _ _))
    · refine holds_bool 14 rfl (r := false) (rfl) ?_
      refine exec_ok hT false 200 ?_
      conv => arg 4; whnf
      have h0 : 0 < (x :: r).length := by simp
      refine holds_index hT rfl rfl rfl rfl rfl rfl rfl rfl (q := 0) rfl h0 rfl (by show 17 < 40; decide) ?_
      refine holds_load hT rfl rfl rfl rfl rfl rfl (v := .agg (B6.cells x)) ?_ ?_ rfl (by show 18 < 40; decide) ?_
      · show 0 + 0 * 6 + 6 ≤ (boxes.all (x :: r)).length
        rw [boxes.all_len]
        have := Nat.mul_le_mul_right 6 (show 1 ≤ (x :: r).length from h0)
        omega
      · show asVar _ (((boxes.all (x :: r)).drop (0 + 0 * 6)).take 6) = _
        rw [Nat.zero_add, boxes.get (x := x) (q := 0) rfl]; rfl
      refine exec_ok hT false 200 ?_
      conv => arg 4; whnf
      refine holds_count (x :: r).length (fun i => [(21, i64 (i : Int)), (20, i64 ((x :: r).length : Int)), (19, sl (x :: r).length 6), (4, .a (.c (.ptr 2 (.lit 0)))), (2, .a (.c (.ptr 1 (.lit 0))))]) (fun i => [some (Eblk boxes 58 (x :: r)), some ⟨[.int .i64 (.lit 0), .int .i64 (.lit 0), .int .i64 (.lit 0), .int .i64 (.lit 0), .int .i64 (.lit 0), .int .i64 (.lit 0)], true, 58, false⟩, some ⟨B6.cells (jacc x ((x :: r).take i)), true, 58, false⟩]) (fun _ => True)
        trivial ⟨⟨_, rfl, same_cell (fun _ => rfl) rfl⟩, ⟨_, rfl, same_cell (fun _ => rfl) rfl⟩, ⟨_, rfl, LV.same_refl _⟩, ⟨_, rfl, LV.same_refl _⟩, ⟨_, rfl, LV.same_refl _⟩, trivial⟩ rfl ?_ ?_
      · intro i hi _ next
        refine exec_ok hT false 200 ?_
        conv => arg 4; whnf
        refine holds_bool 22 rfl (r := true) (decide_eq_true (by show (i : Int) < ((x :: r).length : Int); omega)) ?_
        refine exec_ok hT false 200 ?_
        conv => arg 4; whnf
        refine holds_index hT rfl rfl rfl rfl rfl rfl rfl rfl (q := i) rfl hi rfl (by show 23 < 40; decide) ?_
        refine holds_load hT rfl rfl rfl rfl rfl rfl (v := .agg (B6.cells (x :: r)[i])) ?_ ?_ rfl (by show 24 < 40; decide) ?_
        · show 0 + i * 6 + 6 ≤ (boxes.all (x :: r)).length
          rw [boxes.all_len]
          have := Nat.mul_le_mul_right 6 (show i + 1 ≤ (x :: r).length from hi)
          omega
        · show asVar _ (((boxes.all (x :: r)).drop (0 + i * 6)).take 6) = _
          rw [Nat.zero_add, boxes.get (List.getElem?_eq_getElem hi)]; rfl
        refine exec_ok hT false 200 ?_
        conv => arg 4; whnf
        refine holds_drawStart 2 ?_
        refine dexec_ok hT 100 ?_
        conv => arg 10; whnf
        refine dholds_call rfl rfl (ro_Min (len := .lit 2) (jacc x ((x :: r).take i)).lo (x :: r)[i].lo rfl rfl (by exact Nat.le_refl 6) (fun _ => rfl) rfl) rfl ?_
        refine dexec_ok hT 100 ?_
        conv => arg 10; whnf
        refine dholds_call rfl rfl (ro_Max (len := .lit 2) (jacc x ((x :: r).take i)).hi (x :: r)[i].hi rfl rfl (by exact Nat.le_refl 6) (fun _ => rfl) rfl) rfl ?_
        refine dexec_ok hT 100 ?_
        conv => arg 10; whnf
        refine dholds_end mixed (by kernel_rfl) ?_
        refine exec_ok hT false 200 ?_
        conv => arg 4; whnf
        refine holds_ren id _ _ rfl rfl rfl ?_ ?_ (next trivial)
        · exact ⟨⟨(by simp [LV.In, LA.In, LA.cells, LC.In, LC.refs]), _, rfl, fun _ => congrArg (Value.int .i64) (wrap_succ hi hn).symm⟩, ⟨(by simp [LV.In, LA.In, LA.cells, LC.In, LC.refs]), _, rfl, fun _ => rfl⟩, ⟨(by simp [LV.In, LA.In, LA.cells, LC.In, LC.refs]), _, rfl, fun _ => rfl⟩, ⟨(by simp [LV.In, LA.In, LA.cells, LC.In, LC.refs]), _, rfl, fun _ => rfl⟩, ⟨(by simp [LV.In, LA.In, LA.cells, LC.In, LC.refs]), _, rfl, fun _ => rfl⟩, trivial⟩
        · exact ⟨⟨_, rfl, rfl, rfl, ⟨rfl, fun _ => boxes.den_all _ _ _⟩, boxes.all_in _ _⟩, ⟨_, rfl, rfl, rfl, ⟨rfl, fun _ => rfl⟩, lit_in rfl _⟩, ⟨_, rfl, rfl, rfl, ⟨rfl, fun _ => by rw [jacc_take hi]; rfl⟩, B6.in_n _ _⟩, trivial⟩
      · intro _
        refine exec_ok hT false 200 ?_
        conv => arg 4; whnf
        refine holds_bool 22 rfl (r := false) (decide_eq_false (by show ¬ ((x :: r).length : Int) < ((x :: r).length : Int); omega)) ?_
        refine exec_ok hT false 200 ?_
        conv => arg 4; whnf
        exact holds_ret (ret_pure (.inl rfl) rfl (fun _ => by rw [List.take_length]; simp only [joinLV, joinLE, h, cond_true] <;> rfl) (free_twoB _ _) rfl (sc1 _ _ _))
end Go.Proofs.Ytbkcaedlijhnlaa.LB
