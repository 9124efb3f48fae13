/- The document's edges. -/
import Derived.Test.YtbkcaedlijhnlaaSj
namespace Go.Proofs.Ytbkcaedlijhnlaa.LB
open Go Go.RowKit
theorem holds_cutE {P : Program} {c : Ctx} {Q : Exit → Env → LH → Prop} {s : St} (env' : Env) (H' : LH) {pt : Pt} (h : Holds P c Q ⟨pt, env', H'⟩ → Holds P c Q s) (h' : Holds P c Q ⟨pt, env', H'⟩) : Holds P c Q s := h h'
theorem Enc.get1 {α : Type} {sz : Nat} (E : Enc α sz) {xs : List α} {q k : Nat} {x : α} {c : LC} (h : xs[q]? = some x) (hk : (E.cells x)[k]? = some c) : ((E.all xs).drop (q * sz + k)).take 1 = [c] := by
  have h1 := E.get h
  have hlt : k < sz := by rw [← E.len x]; exact (List.getElem?_eq_some_iff.1 hk).1
  have h2 := congrArg (·[k]?) h1
  simp only [List.getElem?_take, if_pos hlt, List.getElem?_drop, hk] at h2
  rw [List.take_one, List.head?_drop, h2]; rfl
def edgeF (far : Bool) (a b : V3) : V3 := cond far (greatV a b) (leastV a b)
def eacc (far : Bool) (l : List V3) : V3 := match l with
  | [] => zeroV
  | x :: r => r.foldl (edgeF far) x
theorem eacc_take (far : Bool) {l : List V3} {i : Nat} (h : i < l.length) (hi : 0 < i) : eacc far (l.take (i + 1)) = edgeF far (eacc far (l.take i)) l[i] := by
  cases l with
  | nil => simp at h
  | cons x r =>
    cases i with
    | zero => omega
    | succ i =>
      have h' : i < r.length := by simpa using h
      simp only [List.take_succ_cons, List.getElem_cons_succ, eacc]
      rw [List.take_succ_eq_append_getElem h', List.foldl_append]; rfl
theorem eacc_one (far : Bool) {l : List V3} (h : 0 < l.length) : eacc far (l.take (0 + 1)) = l[0] := by
  cases l with
  | nil => simp at h
  | cons x r => rfl
theorem mn_lt {a b : Int} (h : decide (b < a) = true) : mn a b = b := by unfold mn; rw [if_pos (of_decide_eq_true h)]
theorem mn_nlt {a b : Int} (h : decide (b < a) = false) : mn a b = a := by unfold mn; rw [if_neg (of_decide_eq_false h)]
theorem mx_gt {a b : Int} (h : decide (b > a) = true) : mx a b = b := by unfold mx; rw [if_pos (of_decide_eq_true h)]
theorem mx_ngt {a b : Int} (h : decide (b > a) = false) : mx a b = a := by unfold mx; rw [if_neg (of_decide_eq_false h)]
set_option maxHeartbeats 4000000 in
theorem ref02_Edge_near (xs : List V3) (hn : xs.length ≤ 140737488351232) : LCall Try.prog 137 [sl xs.length 3, (.a (.c (.bool (.lit false))))] [some (Eblk vecs 56 xs)] (fun v H' => v = (eacc false xs).val ∧ H' = [some (Eblk vecs 56 xs)]) := by
  refine LCall.of hT Try.func137 rfl (by kernel_rfl) (by show 2 ≤ 61; decide) (fun η w => ?_)
  refine exec_ok hT false 200 ?_
  conv => arg 4; whnf
  refine holds_ren id [(6, i64 ((0 : Nat) : Int)), (0, sl xs.length 3), (1, (.a (.c (.bool (.lit false))))), (4, .a (.c (.ptr 1 (.lit 0)))), (5, .a (.c (.ptr 2 (.lit 0))))] [some (Eblk vecs 56 xs), some ⟨[.int .i64 (.lit 0), .int .i64 (.lit 0), .int .i64 (.lit 0)], true, 56, false⟩, some ⟨V3.cells (eacc false (xs.take 0)), true, 56, false⟩] rfl rfl rfl ⟨⟨(by simp [LV.In, LA.In, LA.cells, LC.In, LC.refs]), _, rfl, fun _ => rfl⟩, ⟨(by simp [LV.In, LA.In, LA.cells, LC.In, LC.refs]), _, rfl, fun _ => rfl⟩, ⟨(by simp [LV.In, LA.In, LA.cells, LC.In, LC.refs]), _, rfl, fun _ => rfl⟩, ⟨(by simp [LV.In, LA.In, LA.cells, LC.In, LC.refs]), _, rfl, fun _ => rfl⟩, ⟨(by simp [LV.In, LA.In, LA.cells, LC.In, LC.refs]), _, rfl, fun _ => rfl⟩, trivial⟩ ⟨⟨_, rfl, rfl, rfl, ⟨rfl, fun _ => vecs.den_all _ _ _⟩, vecs.all_in _ _⟩, ⟨_, rfl, rfl, rfl, ⟨rfl, fun _ => rfl⟩, lit_in rfl _⟩, ⟨_, rfl, rfl, rfl, ⟨rfl, fun _ => rfl⟩, lit_in rfl _⟩, trivial⟩ ?_
  refine holds_count xs.length (fun i => [(6, i64 (i : Int)), (0, sl xs.length 3), (1, (.a (.c (.bool (.lit false))))), (4, .a (.c (.ptr 1 (.lit 0)))), (5, .a (.c (.ptr 2 (.lit 0))))]) (fun i => [some (Eblk vecs 56 xs), some ⟨[.int .i64 (.lit 0), .int .i64 (.lit 0), .int .i64 (.lit 0)], true, 56, false⟩, some ⟨V3.cells (eacc false (xs.take i)), true, 56, false⟩]) (fun _ => True)
    trivial ⟨⟨_, rfl, LV.same_refl _⟩, ⟨_, rfl, LV.same_refl _⟩, ⟨_, rfl, LV.same_refl _⟩, ⟨_, rfl, LV.same_refl _⟩, ⟨_, rfl, LV.same_refl _⟩, trivial⟩ rfl ?_ ?_
  · intro i hi _ next
    refine exec_ok hT false 200 ?_
    conv => arg 4; whnf
    refine holds_bool 12 rfl (r := true) (decide_eq_true (by show (i : Int) < (xs.length : Int); omega)) ?_
    refine exec_ok hT false 200 ?_
    conv => arg 4; whnf
    have hg := List.getElem?_eq_getElem hi
    rcases Nat.eq_zero_or_pos i with h0 | h0
    · refine holds_round ?_
      refine exec_ok hT false 200 ?_
      conv => arg 4; whnf
      refine holds_drawStart 0 ?_
      refine dexec_ok hT 100 ?_
      conv => arg 10; whnf
      refine dholds_move hT true rfl rfl rfl rfl (by subst h0; rfl) ?_
      refine dexec_ok hT 100 ?_
      conv => arg 10; whnf
      refine dholds_end mixed (by kernel_rfl) ?_
      refine exec_ok hT false 200 ?_
      conv => arg 4; whnf
      refine holds_index hT rfl rfl rfl rfl rfl rfl rfl rfl (q := i) rfl hi rfl (by show 56 < 61; decide) ?_
      refine exec_ok hT false 200 ?_
      conv => arg 4; whnf
      refine holds_load hT rfl rfl rfl rfl rfl rfl (v := .c (ci xs[i].x)) ?_ ?_ rfl (by show 58 < 61; decide) ?_
      · show 0 + i * 3 + 0 + 1 ≤ (vecs.all xs).length
        rw [vecs.all_len]
        have := Nat.mul_le_mul_right 3 (show i + 1 ≤ xs.length from hi)
        omega
      · show asVar _ (((vecs.all xs).drop (0 + i * 3 + 0)).take 1) = _
        rw [Nat.zero_add, vecs.get1 (k := 0) hg rfl]; rfl
      refine exec_ok hT false 200 ?_
      conv => arg 4; whnf
      refine holds_round ?_
      refine exec_ok hT false 200 ?_
      conv => arg 4; whnf
      refine holds_drawStart 0 ?_
      refine dexec_ok hT 100 ?_
      conv => arg 10; whnf
      refine dholds_move hT true rfl rfl rfl rfl (by subst h0; rfl) ?_
      refine dexec_ok hT 100 ?_
      conv => arg 10; whnf
      refine dholds_end mixed (by kernel_rfl) ?_
      refine exec_ok hT false 200 ?_
      conv => arg 4; whnf
      refine holds_index hT rfl rfl rfl rfl rfl rfl rfl rfl (q := i) rfl hi rfl (by show 56 < 61; decide) ?_
      refine exec_ok hT false 200 ?_
      conv => arg 4; whnf
      refine holds_load hT rfl rfl rfl rfl rfl rfl (v := .c (ci xs[i].y)) ?_ ?_ rfl (by show 58 < 61; decide) ?_
      · show 0 + i * 3 + 1 + 1 ≤ (vecs.all xs).length
        rw [vecs.all_len]
        have := Nat.mul_le_mul_right 3 (show i + 1 ≤ xs.length from hi)
        omega
      · show asVar _ (((vecs.all xs).drop (0 + i * 3 + 1)).take 1) = _
        rw [Nat.zero_add, vecs.get1 (k := 1) hg rfl]; rfl
      refine exec_ok hT false 200 ?_
      conv => arg 4; whnf
      refine holds_round ?_
      refine exec_ok hT false 200 ?_
      conv => arg 4; whnf
      refine holds_drawStart 0 ?_
      refine dexec_ok hT 100 ?_
      conv => arg 10; whnf
      refine dholds_move hT true rfl rfl rfl rfl (by subst h0; rfl) ?_
      refine dexec_ok hT 100 ?_
      conv => arg 10; whnf
      refine dholds_end mixed (by kernel_rfl) ?_
      refine exec_ok hT false 200 ?_
      conv => arg 4; whnf
      refine holds_index hT rfl rfl rfl rfl rfl rfl rfl rfl (q := i) rfl hi rfl (by show 56 < 61; decide) ?_
      refine exec_ok hT false 200 ?_
      conv => arg 4; whnf
      refine holds_load hT rfl rfl rfl rfl rfl rfl (v := .c (ci xs[i].z)) ?_ ?_ rfl (by show 58 < 61; decide) ?_
      · show 0 + i * 3 + 2 + 1 ≤ (vecs.all xs).length
        rw [vecs.all_len]
        have := Nat.mul_le_mul_right 3 (show i + 1 ≤ xs.length from hi)
        omega
      · show asVar _ (((vecs.all xs).drop (0 + i * 3 + 2)).take 1) = _
        rw [Nat.zero_add, vecs.get1 (k := 2) hg rfl]; rfl
      refine exec_ok hT false 200 ?_
      conv => arg 4; whnf
      refine holds_round ?_
      refine exec_ok hT false 200 ?_
      conv => arg 4; whnf
      subst h0
      refine holds_ren id _ _ rfl rfl rfl ?_ ?_ (next trivial)
      · exact ⟨⟨(by simp [LV.In, LA.In, LA.cells, LC.In, LC.refs]), _, rfl, fun _ => congrArg (Value.int .i64) (wrap_succ hi hn).symm⟩, ⟨(by simp [LV.In, LA.In, LA.cells, LC.In, LC.refs]), _, rfl, fun _ => rfl⟩, ⟨(by simp [LV.In, LA.In, LA.cells, LC.In, LC.refs]), _, rfl, fun _ => rfl⟩, ⟨(by simp [LV.In, LA.In, LA.cells, LC.In, LC.refs]), _, rfl, fun _ => rfl⟩, ⟨(by simp [LV.In, LA.In, LA.cells, LC.In, LC.refs]), _, rfl, fun _ => rfl⟩, trivial⟩
      · exact ⟨⟨_, rfl, rfl, rfl, ⟨rfl, fun _ => vecs.den_all _ _ _⟩, vecs.all_in _ _⟩, ⟨_, rfl, rfl, rfl, ⟨rfl, fun _ => rfl⟩, lit_in rfl _⟩, ⟨_, rfl, rfl, rfl, ⟨rfl, fun _ => by rw [eacc_one false hi]; rfl⟩, lit_in rfl _⟩, trivial⟩
    · generalize hO : eacc false (xs.take i) = out
      apply holds_cutE [(7, .a (.c (.int .i64 (.lit 1)))), (6, i64 (i : Int)), (0, sl xs.length 3), (1, (.a (.c (.bool (.lit false))))), (4, .a (.c (.ptr 1 (.lit 0)))), (5, .a (.c (.ptr 2 (.lit 0))))] [some (Eblk vecs 56 xs), some ⟨[.int .i64 (.lit 0), .int .i64 (.lit 0), .int .i64 (.lit 0)], true, 56, false⟩, some ⟨[ci (mn out.x xs[i].x), ci out.y, ci out.z], true, 56, false⟩]
      · intro rest
        refine holds_round ?_
        refine exec_ok hT false 200 ?_
        conv => arg 4; whnf
        refine holds_drawStart 0 ?_
        refine dexec_ok hT 100 ?_
        conv => arg 10; whnf
        refine dholds_move hT false rfl rfl rfl rfl (by show ((i : Int) == 0) = false; simp; omega) ?_
        refine dexec_ok hT 100 ?_
        conv => arg 10; whnf
        refine dholds_index hT rfl rfl rfl rfl rfl rfl rfl (q := i) rfl hi rfl ?_
        refine dexec_ok hT 100 ?_
        conv => arg 10; whnf
        refine dholds_load hT rfl rfl rfl rfl rfl rfl (v := .c (ci xs[i].x)) ?_ ?_ ?_
        · show 0 + i * 3 + 0 + 1 ≤ (vecs.all xs).length
          rw [vecs.all_len]
          have := Nat.mul_le_mul_right 3 (show i + 1 ≤ xs.length from hi)
          omega
        · show asVar _ (((vecs.all xs).drop (0 + i * 3 + 0)).take 1) = _
          rw [Nat.zero_add, vecs.get1 (k := 0) hg rfl]; rfl
        refine dexec_ok hT 100 ?_
        conv => arg 10; whnf
        cases hc : decide (xs[i].x < out.x)
        · refine dholds_end mixed (by kernel_rfl) ?_
          refine exec_ok hT false 200 ?_
          conv => arg 4; whnf
          refine holds_bool 51 rfl (r := false) (by first | exact hc | rfl) ?_
          refine exec_ok hT false 200 ?_
          conv => arg 4; whnf
          exact holds_ren id [(7, .a (.c (.int .i64 (.lit 1)))), (6, i64 (i : Int)), (0, sl xs.length 3), (1, (.a (.c (.bool (.lit false))))), (4, .a (.c (.ptr 1 (.lit 0)))), (5, .a (.c (.ptr 2 (.lit 0))))] [some (Eblk vecs 56 xs), some ⟨[.int .i64 (.lit 0), .int .i64 (.lit 0), .int .i64 (.lit 0)], true, 56, false⟩, some ⟨[ci (mn out.x xs[i].x), ci out.y, ci out.z], true, 56, false⟩] rfl rfl rfl ⟨⟨(by simp [LV.In, LA.In, LA.cells, LC.In, LC.refs]), _, rfl, fun _ => rfl⟩, ⟨(by simp [LV.In, LA.In, LA.cells, LC.In, LC.refs]), _, rfl, fun _ => rfl⟩, ⟨(by simp [LV.In, LA.In, LA.cells, LC.In, LC.refs]), _, rfl, fun _ => rfl⟩, ⟨(by simp [LV.In, LA.In, LA.cells, LC.In, LC.refs]), _, rfl, fun _ => rfl⟩, ⟨(by simp [LV.In, LA.In, LA.cells, LC.In, LC.refs]), _, rfl, fun _ => rfl⟩, ⟨(by simp [LV.In, LA.In, LA.cells, LC.In, LC.refs]), _, rfl, fun _ => rfl⟩, trivial⟩ ⟨⟨_, rfl, rfl, rfl, ⟨rfl, fun _ => vecs.den_all _ _ _⟩, vecs.all_in _ _⟩, ⟨_, rfl, rfl, rfl, ⟨rfl, fun _ => rfl⟩, lit_in rfl _⟩, ⟨_, rfl, rfl, rfl, ⟨rfl, fun _ => by rw [mn_nlt hc]; rfl⟩, lit_in rfl _⟩, trivial⟩ rest
        · refine dholds_end mixed (by kernel_rfl) ?_
          refine exec_ok hT false 200 ?_
          conv => arg 4; whnf
          refine holds_bool 51 rfl (r := true) (by first | exact hc | rfl) ?_
          refine exec_ok hT false 200 ?_
          conv => arg 4; whnf
          refine holds_index hT rfl rfl rfl rfl rfl rfl rfl rfl (q := i) rfl hi rfl (by show 56 < 61; decide) ?_
          refine exec_ok hT false 200 ?_
          conv => arg 4; whnf
          refine holds_load hT rfl rfl rfl rfl rfl rfl (v := .c (ci xs[i].x)) ?_ ?_ rfl (by show 58 < 61; decide) ?_
          · show 0 + i * 3 + 0 + 1 ≤ (vecs.all xs).length
            rw [vecs.all_len]
            have := Nat.mul_le_mul_right 3 (show i + 1 ≤ xs.length from hi)
            omega
          · show asVar _ (((vecs.all xs).drop (0 + i * 3 + 0)).take 1) = _
            rw [Nat.zero_add, vecs.get1 (k := 0) hg rfl]; rfl
          refine exec_ok hT false 200 ?_
          conv => arg 4; whnf
          exact holds_ren id [(7, .a (.c (.int .i64 (.lit 1)))), (6, i64 (i : Int)), (0, sl xs.length 3), (1, (.a (.c (.bool (.lit false))))), (4, .a (.c (.ptr 1 (.lit 0)))), (5, .a (.c (.ptr 2 (.lit 0))))] [some (Eblk vecs 56 xs), some ⟨[.int .i64 (.lit 0), .int .i64 (.lit 0), .int .i64 (.lit 0)], true, 56, false⟩, some ⟨[ci (mn out.x xs[i].x), ci out.y, ci out.z], true, 56, false⟩] rfl rfl rfl ⟨⟨(by simp [LV.In, LA.In, LA.cells, LC.In, LC.refs]), _, rfl, fun _ => rfl⟩, ⟨(by simp [LV.In, LA.In, LA.cells, LC.In, LC.refs]), _, rfl, fun _ => rfl⟩, ⟨(by simp [LV.In, LA.In, LA.cells, LC.In, LC.refs]), _, rfl, fun _ => rfl⟩, ⟨(by simp [LV.In, LA.In, LA.cells, LC.In, LC.refs]), _, rfl, fun _ => rfl⟩, ⟨(by simp [LV.In, LA.In, LA.cells, LC.In, LC.refs]), _, rfl, fun _ => rfl⟩, ⟨(by simp [LV.In, LA.In, LA.cells, LC.In, LC.refs]), _, rfl, fun _ => rfl⟩, trivial⟩ ⟨⟨_, rfl, rfl, rfl, ⟨rfl, fun _ => vecs.den_all _ _ _⟩, vecs.all_in _ _⟩, ⟨_, rfl, rfl, rfl, ⟨rfl, fun _ => rfl⟩, lit_in rfl _⟩, ⟨_, rfl, rfl, rfl, ⟨rfl, fun _ => by rw [mn_lt hc]; rfl⟩, lit_in rfl _⟩, trivial⟩ rest
      apply holds_cutE [(7, .a (.c (.int .i64 (.lit 2)))), (6, i64 (i : Int)), (0, sl xs.length 3), (1, (.a (.c (.bool (.lit false))))), (4, .a (.c (.ptr 1 (.lit 0)))), (5, .a (.c (.ptr 2 (.lit 0))))] [some (Eblk vecs 56 xs), some ⟨[.int .i64 (.lit 0), .int .i64 (.lit 0), .int .i64 (.lit 0)], true, 56, false⟩, some ⟨[ci (mn out.x xs[i].x), ci (mn out.y xs[i].y), ci out.z], true, 56, false⟩]
      · intro rest
        refine holds_round ?_
        refine exec_ok hT false 200 ?_
        conv => arg 4; whnf
        refine holds_drawStart 0 ?_
        refine dexec_ok hT 100 ?_
        conv => arg 10; whnf
        refine dholds_move hT false rfl rfl rfl rfl (by show ((i : Int) == 0) = false; simp; omega) ?_
        refine dexec_ok hT 100 ?_
        conv => arg 10; whnf
        refine dholds_index hT rfl rfl rfl rfl rfl rfl rfl (q := i) rfl hi rfl ?_
        refine dexec_ok hT 100 ?_
        conv => arg 10; whnf
        refine dholds_load hT rfl rfl rfl rfl rfl rfl (v := .c (ci xs[i].y)) ?_ ?_ ?_
        · show 0 + i * 3 + 1 + 1 ≤ (vecs.all xs).length
          rw [vecs.all_len]
          have := Nat.mul_le_mul_right 3 (show i + 1 ≤ xs.length from hi)
          omega
        · show asVar _ (((vecs.all xs).drop (0 + i * 3 + 1)).take 1) = _
          rw [Nat.zero_add, vecs.get1 (k := 1) hg rfl]; rfl
        refine dexec_ok hT 100 ?_
        conv => arg 10; whnf
        cases hc : decide (xs[i].y < out.y)
        · refine dholds_end mixed (by kernel_rfl) ?_
          refine exec_ok hT false 200 ?_
          conv => arg 4; whnf
          refine holds_bool 51 rfl (r := false) (by first | exact hc | rfl) ?_
          refine exec_ok hT false 200 ?_
          conv => arg 4; whnf
          exact holds_ren id [(7, .a (.c (.int .i64 (.lit 2)))), (6, i64 (i : Int)), (0, sl xs.length 3), (1, (.a (.c (.bool (.lit false))))), (4, .a (.c (.ptr 1 (.lit 0)))), (5, .a (.c (.ptr 2 (.lit 0))))] [some (Eblk vecs 56 xs), some ⟨[.int .i64 (.lit 0), .int .i64 (.lit 0), .int .i64 (.lit 0)], true, 56, false⟩, some ⟨[ci (mn out.x xs[i].x), ci (mn out.y xs[i].y), ci out.z], true, 56, false⟩] rfl rfl rfl ⟨⟨(by simp [LV.In, LA.In, LA.cells, LC.In, LC.refs]), _, rfl, fun _ => rfl⟩, ⟨(by simp [LV.In, LA.In, LA.cells, LC.In, LC.refs]), _, rfl, fun _ => rfl⟩, ⟨(by simp [LV.In, LA.In, LA.cells, LC.In, LC.refs]), _, rfl, fun _ => rfl⟩, ⟨(by simp [LV.In, LA.In, LA.cells, LC.In, LC.refs]), _, rfl, fun _ => rfl⟩, ⟨(by simp [LV.In, LA.In, LA.cells, LC.In, LC.refs]), _, rfl, fun _ => rfl⟩, ⟨(by simp [LV.In, LA.In, LA.cells, LC.In, LC.refs]), _, rfl, fun _ => rfl⟩, trivial⟩ ⟨⟨_, rfl, rfl, rfl, ⟨rfl, fun _ => vecs.den_all _ _ _⟩, vecs.all_in _ _⟩, ⟨_, rfl, rfl, rfl, ⟨rfl, fun _ => rfl⟩, lit_in rfl _⟩, ⟨_, rfl, rfl, rfl, ⟨rfl, fun _ => by rw [mn_nlt hc]; rfl⟩, lit_in rfl _⟩, trivial⟩ rest
        · refine dholds_end mixed (by kernel_rfl) ?_
          refine exec_ok hT false 200 ?_
          conv => arg 4; whnf
          refine holds_bool 51 rfl (r := true) (by first | exact hc | rfl) ?_
          refine exec_ok hT false 200 ?_
          conv => arg 4; whnf
          refine holds_index hT rfl rfl rfl rfl rfl rfl rfl rfl (q := i) rfl hi rfl (by show 56 < 61; decide) ?_
          refine exec_ok hT false 200 ?_
          conv => arg 4; whnf
          refine holds_load hT rfl rfl rfl rfl rfl rfl (v := .c (ci xs[i].y)) ?_ ?_ rfl (by show 58 < 61; decide) ?_
          · show 0 + i * 3 + 1 + 1 ≤ (vecs.all xs).length
            rw [vecs.all_len]
            have := Nat.mul_le_mul_right 3 (show i + 1 ≤ xs.length from hi)
            omega
          · show asVar _ (((vecs.all xs).drop (0 + i * 3 + 1)).take 1) = _
            rw [Nat.zero_add, vecs.get1 (k := 1) hg rfl]; rfl
          refine exec_ok hT false 200 ?_
          conv => arg 4; whnf
          exact holds_ren id [(7, .a (.c (.int .i64 (.lit 2)))), (6, i64 (i : Int)), (0, sl xs.length 3), (1, (.a (.c (.bool (.lit false))))), (4, .a (.c (.ptr 1 (.lit 0)))), (5, .a (.c (.ptr 2 (.lit 0))))] [some (Eblk vecs 56 xs), some ⟨[.int .i64 (.lit 0), .int .i64 (.lit 0), .int .i64 (.lit 0)], true, 56, false⟩, some ⟨[ci (mn out.x xs[i].x), ci (mn out.y xs[i].y), ci out.z], true, 56, false⟩] rfl rfl rfl ⟨⟨(by simp [LV.In, LA.In, LA.cells, LC.In, LC.refs]), _, rfl, fun _ => rfl⟩, ⟨(by simp [LV.In, LA.In, LA.cells, LC.In, LC.refs]), _, rfl, fun _ => rfl⟩, ⟨(by simp [LV.In, LA.In, LA.cells, LC.In, LC.refs]), _, rfl, fun _ => rfl⟩, ⟨(by simp [LV.In, LA.In, LA.cells, LC.In, LC.refs]), _, rfl, fun _ => rfl⟩, ⟨(by simp [LV.In, LA.In, LA.cells, LC.In, LC.refs]), _, rfl, fun _ => rfl⟩, ⟨(by simp [LV.In, LA.In, LA.cells, LC.In, LC.refs]), _, rfl, fun _ => rfl⟩, trivial⟩ ⟨⟨_, rfl, rfl, rfl, ⟨rfl, fun _ => vecs.den_all _ _ _⟩, vecs.all_in _ _⟩, ⟨_, rfl, rfl, rfl, ⟨rfl, fun _ => rfl⟩, lit_in rfl _⟩, ⟨_, rfl, rfl, rfl, ⟨rfl, fun _ => by rw [mn_lt hc]; rfl⟩, lit_in rfl _⟩, trivial⟩ rest
      apply holds_cutE [(7, .a (.c (.int .i64 (.lit 3)))), (6, i64 (i : Int)), (0, sl xs.length 3), (1, (.a (.c (.bool (.lit false))))), (4, .a (.c (.ptr 1 (.lit 0)))), (5, .a (.c (.ptr 2 (.lit 0))))] [some (Eblk vecs 56 xs), some ⟨[.int .i64 (.lit 0), .int .i64 (.lit 0), .int .i64 (.lit 0)], true, 56, false⟩, some ⟨[ci (mn out.x xs[i].x), ci (mn out.y xs[i].y), ci (mn out.z xs[i].z)], true, 56, false⟩]
      · intro rest
        refine holds_round ?_
        refine exec_ok hT false 200 ?_
        conv => arg 4; whnf
        refine holds_drawStart 0 ?_
        refine dexec_ok hT 100 ?_
        conv => arg 10; whnf
        refine dholds_move hT false rfl rfl rfl rfl (by show ((i : Int) == 0) = false; simp; omega) ?_
        refine dexec_ok hT 100 ?_
        conv => arg 10; whnf
        refine dholds_index hT rfl rfl rfl rfl rfl rfl rfl (q := i) rfl hi rfl ?_
        refine dexec_ok hT 100 ?_
        conv => arg 10; whnf
        refine dholds_load hT rfl rfl rfl rfl rfl rfl (v := .c (ci xs[i].z)) ?_ ?_ ?_
        · show 0 + i * 3 + 2 + 1 ≤ (vecs.all xs).length
          rw [vecs.all_len]
          have := Nat.mul_le_mul_right 3 (show i + 1 ≤ xs.length from hi)
          omega
        · show asVar _ (((vecs.all xs).drop (0 + i * 3 + 2)).take 1) = _
          rw [Nat.zero_add, vecs.get1 (k := 2) hg rfl]; rfl
        refine dexec_ok hT 100 ?_
        conv => arg 10; whnf
        cases hc : decide (xs[i].z < out.z)
        · refine dholds_end mixed (by kernel_rfl) ?_
          refine exec_ok hT false 200 ?_
          conv => arg 4; whnf
          refine holds_bool 51 rfl (r := false) (by first | exact hc | rfl) ?_
          refine exec_ok hT false 200 ?_
          conv => arg 4; whnf
          exact holds_ren id [(7, .a (.c (.int .i64 (.lit 3)))), (6, i64 (i : Int)), (0, sl xs.length 3), (1, (.a (.c (.bool (.lit false))))), (4, .a (.c (.ptr 1 (.lit 0)))), (5, .a (.c (.ptr 2 (.lit 0))))] [some (Eblk vecs 56 xs), some ⟨[.int .i64 (.lit 0), .int .i64 (.lit 0), .int .i64 (.lit 0)], true, 56, false⟩, some ⟨[ci (mn out.x xs[i].x), ci (mn out.y xs[i].y), ci (mn out.z xs[i].z)], true, 56, false⟩] rfl rfl rfl ⟨⟨(by simp [LV.In, LA.In, LA.cells, LC.In, LC.refs]), _, rfl, fun _ => rfl⟩, ⟨(by simp [LV.In, LA.In, LA.cells, LC.In, LC.refs]), _, rfl, fun _ => rfl⟩, ⟨(by simp [LV.In, LA.In, LA.cells, LC.In, LC.refs]), _, rfl, fun _ => rfl⟩, ⟨(by simp [LV.In, LA.In, LA.cells, LC.In, LC.refs]), _, rfl, fun _ => rfl⟩, ⟨(by simp [LV.In, LA.In, LA.cells, LC.In, LC.refs]), _, rfl, fun _ => rfl⟩, ⟨(by simp [LV.In, LA.In, LA.cells, LC.In, LC.refs]), _, rfl, fun _ => rfl⟩, trivial⟩ ⟨⟨_, rfl, rfl, rfl, ⟨rfl, fun _ => vecs.den_all _ _ _⟩, vecs.all_in _ _⟩, ⟨_, rfl, rfl, rfl, ⟨rfl, fun _ => rfl⟩, lit_in rfl _⟩, ⟨_, rfl, rfl, rfl, ⟨rfl, fun _ => by rw [mn_nlt hc]; rfl⟩, lit_in rfl _⟩, trivial⟩ rest
        · refine dholds_end mixed (by kernel_rfl) ?_
          refine exec_ok hT false 200 ?_
          conv => arg 4; whnf
          refine holds_bool 51 rfl (r := true) (by first | exact hc | rfl) ?_
          refine exec_ok hT false 200 ?_
          conv => arg 4; whnf
          refine holds_index hT rfl rfl rfl rfl rfl rfl rfl rfl (q := i) rfl hi rfl (by show 56 < 61; decide) ?_
          refine exec_ok hT false 200 ?_
          conv => arg 4; whnf
          refine holds_load hT rfl rfl rfl rfl rfl rfl (v := .c (ci xs[i].z)) ?_ ?_ rfl (by show 58 < 61; decide) ?_
          · show 0 + i * 3 + 2 + 1 ≤ (vecs.all xs).length
            rw [vecs.all_len]
            have := Nat.mul_le_mul_right 3 (show i + 1 ≤ xs.length from hi)
            omega
          · show asVar _ (((vecs.all xs).drop (0 + i * 3 + 2)).take 1) = _
            rw [Nat.zero_add, vecs.get1 (k := 2) hg rfl]; rfl
          refine exec_ok hT false 200 ?_
          conv => arg 4; whnf
          exact holds_ren id [(7, .a (.c (.int .i64 (.lit 3)))), (6, i64 (i : Int)), (0, sl xs.length 3), (1, (.a (.c (.bool (.lit false))))), (4, .a (.c (.ptr 1 (.lit 0)))), (5, .a (.c (.ptr 2 (.lit 0))))] [some (Eblk vecs 56 xs), some ⟨[.int .i64 (.lit 0), .int .i64 (.lit 0), .int .i64 (.lit 0)], true, 56, false⟩, some ⟨[ci (mn out.x xs[i].x), ci (mn out.y xs[i].y), ci (mn out.z xs[i].z)], true, 56, false⟩] rfl rfl rfl ⟨⟨(by simp [LV.In, LA.In, LA.cells, LC.In, LC.refs]), _, rfl, fun _ => rfl⟩, ⟨(by simp [LV.In, LA.In, LA.cells, LC.In, LC.refs]), _, rfl, fun _ => rfl⟩, ⟨(by simp [LV.In, LA.In, LA.cells, LC.In, LC.refs]), _, rfl, fun _ => rfl⟩, ⟨(by simp [LV.In, LA.In, LA.cells, LC.In, LC.refs]), _, rfl, fun _ => rfl⟩, ⟨(by simp [LV.In, LA.In, LA.cells, LC.In, LC.refs]), _, rfl, fun _ => rfl⟩, ⟨(by simp [LV.In, LA.In, LA.cells, LC.In, LC.refs]), _, rfl, fun _ => rfl⟩, trivial⟩ ⟨⟨_, rfl, rfl, rfl, ⟨rfl, fun _ => vecs.den_all _ _ _⟩, vecs.all_in _ _⟩, ⟨_, rfl, rfl, rfl, ⟨rfl, fun _ => rfl⟩, lit_in rfl _⟩, ⟨_, rfl, rfl, rfl, ⟨rfl, fun _ => by rw [mn_lt hc]; rfl⟩, lit_in rfl _⟩, trivial⟩ rest
      refine holds_round ?_
      refine exec_ok hT false 200 ?_
      conv => arg 4; whnf
      refine holds_ren id _ _ rfl rfl rfl ?_ ?_ (next trivial)
      · exact ⟨⟨(by simp [LV.In, LA.In, LA.cells, LC.In, LC.refs]), _, rfl, fun _ => congrArg (Value.int .i64) (wrap_succ hi hn).symm⟩, ⟨(by simp [LV.In, LA.In, LA.cells, LC.In, LC.refs]), _, rfl, fun _ => rfl⟩, ⟨(by simp [LV.In, LA.In, LA.cells, LC.In, LC.refs]), _, rfl, fun _ => rfl⟩, ⟨(by simp [LV.In, LA.In, LA.cells, LC.In, LC.refs]), _, rfl, fun _ => rfl⟩, ⟨(by simp [LV.In, LA.In, LA.cells, LC.In, LC.refs]), _, rfl, fun _ => rfl⟩, trivial⟩
      · exact ⟨⟨_, rfl, rfl, rfl, ⟨rfl, fun _ => vecs.den_all _ _ _⟩, vecs.all_in _ _⟩, ⟨_, rfl, rfl, rfl, ⟨rfl, fun _ => rfl⟩, lit_in rfl _⟩, ⟨_, rfl, rfl, rfl, ⟨rfl, fun _ => by rw [eacc_take false hi h0, hO]; rfl⟩, lit_in rfl _⟩, trivial⟩
  · intro _
    refine exec_ok hT false 200 ?_
    conv => arg 4; whnf
    refine holds_bool 12 rfl (r := false) (decide_eq_false (by show ¬ (xs.length : Int) < (xs.length : Int); omega)) ?_
    refine exec_ok hT false 200 ?_
    conv => arg 4; whnf
    exact holds_ret (ret_pure (.inl rfl) rfl (fun _ => by rw [List.take_length]; rfl) (free_V _) rfl (sc1 _ _ _))
set_option maxHeartbeats 4000000 in
theorem ref02_Edge_far (xs : List V3) (hn : xs.length ≤ 140737488351232) : LCall Try.prog 137 [sl xs.length 3, (.a (.c (.bool (.lit true))))] [some (Eblk vecs 56 xs)] (fun v H' => v = (eacc true xs).val ∧ H' = [some (Eblk vecs 56 xs)]) := by
  refine LCall.of hT Try.func137 rfl (by kernel_rfl) (by show 2 ≤ 61; decide) (fun η w => ?_)
  refine exec_ok hT false 200 ?_
  conv => arg 4; whnf
  refine holds_ren id [(6, i64 ((0 : Nat) : Int)), (0, sl xs.length 3), (1, (.a (.c (.bool (.lit true))))), (4, .a (.c (.ptr 1 (.lit 0)))), (5, .a (.c (.ptr 2 (.lit 0))))] [some (Eblk vecs 56 xs), some ⟨[.int .i64 (.lit 0), .int .i64 (.lit 0), .int .i64 (.lit 0)], true, 56, false⟩, some ⟨V3.cells (eacc true (xs.take 0)), true, 56, false⟩] rfl rfl rfl ⟨⟨(by simp [LV.In, LA.In, LA.cells, LC.In, LC.refs]), _, rfl, fun _ => rfl⟩, ⟨(by simp [LV.In, LA.In, LA.cells, LC.In, LC.refs]), _, rfl, fun _ => rfl⟩, ⟨(by simp [LV.In, LA.In, LA.cells, LC.In, LC.refs]), _, rfl, fun _ => rfl⟩, ⟨(by simp [LV.In, LA.In, LA.cells, LC.In, LC.refs]), _, rfl, fun _ => rfl⟩, ⟨(by simp [LV.In, LA.In, LA.cells, LC.In, LC.refs]), _, rfl, fun _ => rfl⟩, trivial⟩ ⟨⟨_, rfl, rfl, rfl, ⟨rfl, fun _ => vecs.den_all _ _ _⟩, vecs.all_in _ _⟩, ⟨_, rfl, rfl, rfl, ⟨rfl, fun _ => rfl⟩, lit_in rfl _⟩, ⟨_, rfl, rfl, rfl, ⟨rfl, fun _ => rfl⟩, lit_in rfl _⟩, trivial⟩ ?_
  refine holds_count xs.length (fun i => [(6, i64 (i : Int)), (0, sl xs.length 3), (1, (.a (.c (.bool (.lit true))))), (4, .a (.c (.ptr 1 (.lit 0)))), (5, .a (.c (.ptr 2 (.lit 0))))]) (fun i => [some (Eblk vecs 56 xs), some ⟨[.int .i64 (.lit 0), .int .i64 (.lit 0), .int .i64 (.lit 0)], true, 56, false⟩, some ⟨V3.cells (eacc true (xs.take i)), true, 56, false⟩]) (fun _ => True)
    trivial ⟨⟨_, rfl, LV.same_refl _⟩, ⟨_, rfl, LV.same_refl _⟩, ⟨_, rfl, LV.same_refl _⟩, ⟨_, rfl, LV.same_refl _⟩, ⟨_, rfl, LV.same_refl _⟩, trivial⟩ rfl ?_ ?_
  · intro i hi _ next
    refine exec_ok hT false 200 ?_
    conv => arg 4; whnf
    refine holds_bool 12 rfl (r := true) (decide_eq_true (by show (i : Int) < (xs.length : Int); omega)) ?_
    refine exec_ok hT false 200 ?_
    conv => arg 4; whnf
    have hg := List.getElem?_eq_getElem hi
    rcases Nat.eq_zero_or_pos i with h0 | h0
    · refine holds_round ?_
      refine exec_ok hT false 200 ?_
      conv => arg 4; whnf
      refine holds_drawStart 0 ?_
      refine dexec_ok hT 100 ?_
      conv => arg 10; whnf
      refine dholds_move hT true rfl rfl rfl rfl (by subst h0; rfl) ?_
      refine dexec_ok hT 100 ?_
      conv => arg 10; whnf
      refine dholds_end mixed (by kernel_rfl) ?_
      refine exec_ok hT false 200 ?_
      conv => arg 4; whnf
      refine holds_index hT rfl rfl rfl rfl rfl rfl rfl rfl (q := i) rfl hi rfl (by show 56 < 61; decide) ?_
      refine exec_ok hT false 200 ?_
      conv => arg 4; whnf
      refine holds_load hT rfl rfl rfl rfl rfl rfl (v := .c (ci xs[i].x)) ?_ ?_ rfl (by show 58 < 61; decide) ?_
      · show 0 + i * 3 + 0 + 1 ≤ (vecs.all xs).length
        rw [vecs.all_len]
        have := Nat.mul_le_mul_right 3 (show i + 1 ≤ xs.length from hi)
        omega
      · show asVar _ (((vecs.all xs).drop (0 + i * 3 + 0)).take 1) = _
        rw [Nat.zero_add, vecs.get1 (k := 0) hg rfl]; rfl
      refine exec_ok hT false 200 ?_
      conv => arg 4; whnf
      refine holds_round ?_
      refine exec_ok hT false 200 ?_
      conv => arg 4; whnf
      refine holds_drawStart 0 ?_
      refine dexec_ok hT 100 ?_
      conv => arg 10; whnf
      refine dholds_move hT true rfl rfl rfl rfl (by subst h0; rfl) ?_
      refine dexec_ok hT 100 ?_
      conv => arg 10; whnf
      refine dholds_end mixed (by kernel_rfl) ?_
      refine exec_ok hT false 200 ?_
      conv => arg 4; whnf
      refine holds_index hT rfl rfl rfl rfl rfl rfl rfl rfl (q := i) rfl hi rfl (by show 56 < 61; decide) ?_
      refine exec_ok hT false 200 ?_
      conv => arg 4; whnf
      refine holds_load hT rfl rfl rfl rfl rfl rfl (v := .c (ci xs[i].y)) ?_ ?_ rfl (by show 58 < 61; decide) ?_
      · show 0 + i * 3 + 1 + 1 ≤ (vecs.all xs).length
        rw [vecs.all_len]
        have := Nat.mul_le_mul_right 3 (show i + 1 ≤ xs.length from hi)
        omega
      · show asVar _ (((vecs.all xs).drop (0 + i * 3 + 1)).take 1) = _
        rw [Nat.zero_add, vecs.get1 (k := 1) hg rfl]; rfl
      refine exec_ok hT false 200 ?_
      conv => arg 4; whnf
      refine holds_round ?_
      refine exec_ok hT false 200 ?_
      conv => arg 4; whnf
      refine holds_drawStart 0 ?_
      refine dexec_ok hT 100 ?_
      conv => arg 10; whnf
      refine dholds_move hT true rfl rfl rfl rfl (by subst h0; rfl) ?_
      refine dexec_ok hT 100 ?_
      conv => arg 10; whnf
      refine dholds_end mixed (by kernel_rfl) ?_
      refine exec_ok hT false 200 ?_
      conv => arg 4; whnf
      refine holds_index hT rfl rfl rfl rfl rfl rfl rfl rfl (q := i) rfl hi rfl (by show 56 < 61; decide) ?_
      refine exec_ok hT false 200 ?_
      conv => arg 4; whnf
      refine holds_load hT rfl rfl rfl rfl rfl rfl (v := .c (ci xs[i].z)) ?_ ?_ rfl (by show 58 < 61; decide) ?_
      · show 0 + i * 3 + 2 + 1 ≤ (vecs.all xs).length
        rw [vecs.all_len]
        have := Nat.mul_le_mul_right 3 (show i + 1 ≤ xs.length from hi)
        omega
      · show asVar _ (((vecs.all xs).drop (0 + i * 3 + 2)).take 1) = _
        rw [Nat.zero_add, vecs.get1 (k := 2) hg rfl]; rfl
      refine exec_ok hT false 200 ?_
      conv => arg 4; whnf
      refine holds_round ?_
      refine exec_ok hT false 200 ?_
      conv => arg 4; whnf
      subst h0
      refine holds_ren id _ _ rfl rfl rfl ?_ ?_ (next trivial)
      · exact ⟨⟨(by simp [LV.In, LA.In, LA.cells, LC.In, LC.refs]), _, rfl, fun _ => congrArg (Value.int .i64) (wrap_succ hi hn).symm⟩, ⟨(by simp [LV.In, LA.In, LA.cells, LC.In, LC.refs]), _, rfl, fun _ => rfl⟩, ⟨(by simp [LV.In, LA.In, LA.cells, LC.In, LC.refs]), _, rfl, fun _ => rfl⟩, ⟨(by simp [LV.In, LA.In, LA.cells, LC.In, LC.refs]), _, rfl, fun _ => rfl⟩, ⟨(by simp [LV.In, LA.In, LA.cells, LC.In, LC.refs]), _, rfl, fun _ => rfl⟩, trivial⟩
      · exact ⟨⟨_, rfl, rfl, rfl, ⟨rfl, fun _ => vecs.den_all _ _ _⟩, vecs.all_in _ _⟩, ⟨_, rfl, rfl, rfl, ⟨rfl, fun _ => rfl⟩, lit_in rfl _⟩, ⟨_, rfl, rfl, rfl, ⟨rfl, fun _ => by rw [eacc_one true hi]; rfl⟩, lit_in rfl _⟩, trivial⟩
    · generalize hO : eacc true (xs.take i) = out
      apply holds_cutE [(7, .a (.c (.int .i64 (.lit 1)))), (6, i64 (i : Int)), (0, sl xs.length 3), (1, (.a (.c (.bool (.lit true))))), (4, .a (.c (.ptr 1 (.lit 0)))), (5, .a (.c (.ptr 2 (.lit 0))))] [some (Eblk vecs 56 xs), some ⟨[.int .i64 (.lit 0), .int .i64 (.lit 0), .int .i64 (.lit 0)], true, 56, false⟩, some ⟨[ci (mx out.x xs[i].x), ci out.y, ci out.z], true, 56, false⟩]
      · intro rest
        refine holds_round ?_
        refine exec_ok hT false 200 ?_
        conv => arg 4; whnf
        refine holds_drawStart 0 ?_
        refine dexec_ok hT 100 ?_
        conv => arg 10; whnf
        refine dholds_move hT false rfl rfl rfl rfl (by show ((i : Int) == 0) = false; simp; omega) ?_
        refine dexec_ok hT 100 ?_
        conv => arg 10; whnf
        refine dholds_index hT rfl rfl rfl rfl rfl rfl rfl (q := i) rfl hi rfl ?_
        refine dexec_ok hT 100 ?_
        conv => arg 10; whnf
        refine dholds_load hT rfl rfl rfl rfl rfl rfl (v := .c (ci xs[i].x)) ?_ ?_ ?_
        · show 0 + i * 3 + 0 + 1 ≤ (vecs.all xs).length
          rw [vecs.all_len]
          have := Nat.mul_le_mul_right 3 (show i + 1 ≤ xs.length from hi)
          omega
        · show asVar _ (((vecs.all xs).drop (0 + i * 3 + 0)).take 1) = _
          rw [Nat.zero_add, vecs.get1 (k := 0) hg rfl]; rfl
        refine dexec_ok hT 100 ?_
        conv => arg 10; whnf
        cases hc : decide (xs[i].x > out.x)
        · refine dholds_move hT false rfl rfl rfl rfl (by first | exact hc | rfl) ?_
          refine dexec_ok hT 100 ?_
          conv => arg 10; whnf
          refine dholds_end mixed (by kernel_rfl) ?_
          refine exec_ok hT false 200 ?_
          conv => arg 4; whnf
          exact holds_ren id [(7, .a (.c (.int .i64 (.lit 1)))), (6, i64 (i : Int)), (0, sl xs.length 3), (1, (.a (.c (.bool (.lit true))))), (4, .a (.c (.ptr 1 (.lit 0)))), (5, .a (.c (.ptr 2 (.lit 0))))] [some (Eblk vecs 56 xs), some ⟨[.int .i64 (.lit 0), .int .i64 (.lit 0), .int .i64 (.lit 0)], true, 56, false⟩, some ⟨[ci (mx out.x xs[i].x), ci out.y, ci out.z], true, 56, false⟩] rfl rfl rfl ⟨⟨(by simp [LV.In, LA.In, LA.cells, LC.In, LC.refs]), _, rfl, fun _ => rfl⟩, ⟨(by simp [LV.In, LA.In, LA.cells, LC.In, LC.refs]), _, rfl, fun _ => rfl⟩, ⟨(by simp [LV.In, LA.In, LA.cells, LC.In, LC.refs]), _, rfl, fun _ => rfl⟩, ⟨(by simp [LV.In, LA.In, LA.cells, LC.In, LC.refs]), _, rfl, fun _ => rfl⟩, ⟨(by simp [LV.In, LA.In, LA.cells, LC.In, LC.refs]), _, rfl, fun _ => rfl⟩, ⟨(by simp [LV.In, LA.In, LA.cells, LC.In, LC.refs]), _, rfl, fun _ => rfl⟩, trivial⟩ ⟨⟨_, rfl, rfl, rfl, ⟨rfl, fun _ => vecs.den_all _ _ _⟩, vecs.all_in _ _⟩, ⟨_, rfl, rfl, rfl, ⟨rfl, fun _ => rfl⟩, lit_in rfl _⟩, ⟨_, rfl, rfl, rfl, ⟨rfl, fun _ => by rw [mx_ngt hc]; rfl⟩, lit_in rfl _⟩, trivial⟩ rest
        · refine dholds_move hT true rfl rfl rfl rfl (by first | exact hc | rfl) ?_
          refine dexec_ok hT 100 ?_
          conv => arg 10; whnf
          refine dholds_end mixed (by kernel_rfl) ?_
          refine exec_ok hT false 200 ?_
          conv => arg 4; whnf
          refine holds_index hT rfl rfl rfl rfl rfl rfl rfl rfl (q := i) rfl hi rfl (by show 56 < 61; decide) ?_
          refine exec_ok hT false 200 ?_
          conv => arg 4; whnf
          refine holds_load hT rfl rfl rfl rfl rfl rfl (v := .c (ci xs[i].x)) ?_ ?_ rfl (by show 58 < 61; decide) ?_
          · show 0 + i * 3 + 0 + 1 ≤ (vecs.all xs).length
            rw [vecs.all_len]
            have := Nat.mul_le_mul_right 3 (show i + 1 ≤ xs.length from hi)
            omega
          · show asVar _ (((vecs.all xs).drop (0 + i * 3 + 0)).take 1) = _
            rw [Nat.zero_add, vecs.get1 (k := 0) hg rfl]; rfl
          refine exec_ok hT false 200 ?_
          conv => arg 4; whnf
          exact holds_ren id [(7, .a (.c (.int .i64 (.lit 1)))), (6, i64 (i : Int)), (0, sl xs.length 3), (1, (.a (.c (.bool (.lit true))))), (4, .a (.c (.ptr 1 (.lit 0)))), (5, .a (.c (.ptr 2 (.lit 0))))] [some (Eblk vecs 56 xs), some ⟨[.int .i64 (.lit 0), .int .i64 (.lit 0), .int .i64 (.lit 0)], true, 56, false⟩, some ⟨[ci (mx out.x xs[i].x), ci out.y, ci out.z], true, 56, false⟩] rfl rfl rfl ⟨⟨(by simp [LV.In, LA.In, LA.cells, LC.In, LC.refs]), _, rfl, fun _ => rfl⟩, ⟨(by simp [LV.In, LA.In, LA.cells, LC.In, LC.refs]), _, rfl, fun _ => rfl⟩, ⟨(by simp [LV.In, LA.In, LA.cells, LC.In, LC.refs]), _, rfl, fun _ => rfl⟩, ⟨(by simp [LV.In, LA.In, LA.cells, LC.In, LC.refs]), _, rfl, fun _ => rfl⟩, ⟨(by simp [LV.In, LA.In, LA.cells, LC.In, LC.refs]), _, rfl, fun _ => rfl⟩, ⟨(by simp [LV.In, LA.In, LA.cells, LC.In, LC.refs]), _, rfl, fun _ => rfl⟩, trivial⟩ ⟨⟨_, rfl, rfl, rfl, ⟨rfl, fun _ => vecs.den_all _ _ _⟩, vecs.all_in _ _⟩, ⟨_, rfl, rfl, rfl, ⟨rfl, fun _ => rfl⟩, lit_in rfl _⟩, ⟨_, rfl, rfl, rfl, ⟨rfl, fun _ => by rw [mx_gt hc]; rfl⟩, lit_in rfl _⟩, trivial⟩ rest
      apply holds_cutE [(7, .a (.c (.int .i64 (.lit 2)))), (6, i64 (i : Int)), (0, sl xs.length 3), (1, (.a (.c (.bool (.lit true))))), (4, .a (.c (.ptr 1 (.lit 0)))), (5, .a (.c (.ptr 2 (.lit 0))))] [some (Eblk vecs 56 xs), some ⟨[.int .i64 (.lit 0), .int .i64 (.lit 0), .int .i64 (.lit 0)], true, 56, false⟩, some ⟨[ci (mx out.x xs[i].x), ci (mx out.y xs[i].y), ci out.z], true, 56, false⟩]
      · intro rest
        refine holds_round ?_
        refine exec_ok hT false 200 ?_
        conv => arg 4; whnf
        refine holds_drawStart 0 ?_
        refine dexec_ok hT 100 ?_
        conv => arg 10; whnf
        refine dholds_move hT false rfl rfl rfl rfl (by show ((i : Int) == 0) = false; simp; omega) ?_
        refine dexec_ok hT 100 ?_
        conv => arg 10; whnf
        refine dholds_index hT rfl rfl rfl rfl rfl rfl rfl (q := i) rfl hi rfl ?_
        refine dexec_ok hT 100 ?_
        conv => arg 10; whnf
        refine dholds_load hT rfl rfl rfl rfl rfl rfl (v := .c (ci xs[i].y)) ?_ ?_ ?_
        · show 0 + i * 3 + 1 + 1 ≤ (vecs.all xs).length
          rw [vecs.all_len]
          have := Nat.mul_le_mul_right 3 (show i + 1 ≤ xs.length from hi)
          omega
        · show asVar _ (((vecs.all xs).drop (0 + i * 3 + 1)).take 1) = _
          rw [Nat.zero_add, vecs.get1 (k := 1) hg rfl]; rfl
        refine dexec_ok hT 100 ?_
        conv => arg 10; whnf
        cases hc : decide (xs[i].y > out.y)
        · refine dholds_move hT false rfl rfl rfl rfl (by first | exact hc | rfl) ?_
          refine dexec_ok hT 100 ?_
          conv => arg 10; whnf
          refine dholds_end mixed (by kernel_rfl) ?_
          refine exec_ok hT false 200 ?_
          conv => arg 4; whnf
          exact holds_ren id [(7, .a (.c (.int .i64 (.lit 2)))), (6, i64 (i : Int)), (0, sl xs.length 3), (1, (.a (.c (.bool (.lit true))))), (4, .a (.c (.ptr 1 (.lit 0)))), (5, .a (.c (.ptr 2 (.lit 0))))] [some (Eblk vecs 56 xs), some ⟨[.int .i64 (.lit 0), .int .i64 (.lit 0), .int .i64 (.lit 0)], true, 56, false⟩, some ⟨[ci (mx out.x xs[i].x), ci (mx out.y xs[i].y), ci out.z], true, 56, false⟩] rfl rfl rfl ⟨⟨(by simp [LV.In, LA.In, LA.cells, LC.In, LC.refs]), _, rfl, fun _ => rfl⟩, ⟨(by simp [LV.In, LA.In, LA.cells, LC.In, LC.refs]), _, rfl, fun _ => rfl⟩, ⟨(by simp [LV.In, LA.In, LA.cells, LC.In, LC.refs]), _, rfl, fun _ => rfl⟩, ⟨(by simp [LV.In, LA.In, LA.cells, LC.In, LC.refs]), _, rfl, fun _ => rfl⟩, ⟨(by simp [LV.In, LA.In, LA.cells, LC.In, LC.refs]), _, rfl, fun _ => rfl⟩, ⟨(by simp [LV.In, LA.In, LA.cells, LC.In, LC.refs]), _, rfl, fun _ => rfl⟩, trivial⟩ ⟨⟨_, rfl, rfl, rfl, ⟨rfl, fun _ => vecs.den_all _ _ _⟩, vecs.all_in _ _⟩, ⟨_, rfl, rfl, rfl, ⟨rfl, fun _ => rfl⟩, lit_in rfl _⟩, ⟨_, rfl, rfl, rfl, ⟨rfl, fun _ => by rw [mx_ngt hc]; rfl⟩, lit_in rfl _⟩, trivial⟩ rest
        · refine dholds_move hT true rfl rfl rfl rfl (by first | exact hc | rfl) ?_
          refine dexec_ok hT 100 ?_
          conv => arg 10; whnf
          refine dholds_end mixed (by kernel_rfl) ?_
          refine exec_ok hT false 200 ?_
          conv => arg 4; whnf
          refine holds_index hT rfl rfl rfl rfl rfl rfl rfl rfl (q := i) rfl hi rfl (by show 56 < 61; decide) ?_
          refine exec_ok hT false 200 ?_
          conv => arg 4; whnf
          refine holds_load hT rfl rfl rfl rfl rfl rfl (v := .c (ci xs[i].y)) ?_ ?_ rfl (by show 58 < 61; decide) ?_
          · show 0 + i * 3 + 1 + 1 ≤ (vecs.all xs).length
            rw [vecs.all_len]
            have := Nat.mul_le_mul_right 3 (show i + 1 ≤ xs.length from hi)
            omega
          · show asVar _ (((vecs.all xs).drop (0 + i * 3 + 1)).take 1) = _
            rw [Nat.zero_add, vecs.get1 (k := 1) hg rfl]; rfl
          refine exec_ok hT false 200 ?_
          conv => arg 4; whnf
          exact holds_ren id [(7, .a (.c (.int .i64 (.lit 2)))), (6, i64 (i : Int)), (0, sl xs.length 3), (1, (.a (.c (.bool (.lit true))))), (4, .a (.c (.ptr 1 (.lit 0)))), (5, .a (.c (.ptr 2 (.lit 0))))] [some (Eblk vecs 56 xs), some ⟨[.int .i64 (.lit 0), .int .i64 (.lit 0), .int .i64 (.lit 0)], true, 56, false⟩, some ⟨[ci (mx out.x xs[i].x), ci (mx out.y xs[i].y), ci out.z], true, 56, false⟩] rfl rfl rfl ⟨⟨(by simp [LV.In, LA.In, LA.cells, LC.In, LC.refs]), _, rfl, fun _ => rfl⟩, ⟨(by simp [LV.In, LA.In, LA.cells, LC.In, LC.refs]), _, rfl, fun _ => rfl⟩, ⟨(by simp [LV.In, LA.In, LA.cells, LC.In, LC.refs]), _, rfl, fun _ => rfl⟩, ⟨(by simp [LV.In, LA.In, LA.cells, LC.In, LC.refs]), _, rfl, fun _ => rfl⟩, ⟨(by simp [LV.In, LA.In, LA.cells, LC.In, LC.refs]), _, rfl, fun _ => rfl⟩, ⟨(by simp [LV.In, LA.In, LA.cells, LC.In, LC.refs]), _, rfl, fun _ => rfl⟩, trivial⟩ ⟨⟨_, rfl, rfl, rfl, ⟨rfl, fun _ => vecs.den_all _ _ _⟩, vecs.all_in _ _⟩, ⟨_, rfl, rfl, rfl, ⟨rfl, fun _ => rfl⟩, lit_in rfl _⟩, ⟨_, rfl, rfl, rfl, ⟨rfl, fun _ => by rw [mx_gt hc]; rfl⟩, lit_in rfl _⟩, trivial⟩ rest
      apply holds_cutE [(7, .a (.c (.int .i64 (.lit 3)))), (6, i64 (i : Int)), (0, sl xs.length 3), (1, (.a (.c (.bool (.lit true))))), (4, .a (.c (.ptr 1 (.lit 0)))), (5, .a (.c (.ptr 2 (.lit 0))))] [some (Eblk vecs 56 xs), some ⟨[.int .i64 (.lit 0), .int .i64 (.lit 0), .int .i64 (.lit 0)], true, 56, false⟩, some ⟨[ci (mx out.x xs[i].x), ci (mx out.y xs[i].y), ci (mx out.z xs[i].z)], true, 56, false⟩]
      · intro rest
        refine holds_round ?_
        refine exec_ok hT false 200 ?_
        conv => arg 4; whnf
        refine holds_drawStart 0 ?_
        refine dexec_ok hT 100 ?_
        conv => arg 10; whnf
        refine dholds_move hT false rfl rfl rfl rfl (by show ((i : Int) == 0) = false; simp; omega) ?_
        refine dexec_ok hT 100 ?_
        conv => arg 10; whnf
        refine dholds_index hT rfl rfl rfl rfl rfl rfl rfl (q := i) rfl hi rfl ?_
        refine dexec_ok hT 100 ?_
        conv => arg 10; whnf
        refine dholds_load hT rfl rfl rfl rfl rfl rfl (v := .c (ci xs[i].z)) ?_ ?_ ?_
        · show 0 + i * 3 + 2 + 1 ≤ (vecs.all xs).length
          rw [vecs.all_len]
          have := Nat.mul_le_mul_right 3 (show i + 1 ≤ xs.length from hi)
          omega
        · show asVar _ (((vecs.all xs).drop (0 + i * 3 + 2)).take 1) = _
          rw [Nat.zero_add, vecs.get1 (k := 2) hg rfl]; rfl
        refine dexec_ok hT 100 ?_
        conv => arg 10; whnf
        cases hc : decide (xs[i].z > out.z)
        · refine dholds_move hT false rfl rfl rfl rfl (by first | exact hc | rfl) ?_
          refine dexec_ok hT 100 ?_
          conv => arg 10; whnf
          refine dholds_end mixed (by kernel_rfl) ?_
          refine exec_ok hT false 200 ?_
          conv => arg 4; whnf
          exact holds_ren id [(7, .a (.c (.int .i64 (.lit 3)))), (6, i64 (i : Int)), (0, sl xs.length 3), (1, (.a (.c (.bool (.lit true))))), (4, .a (.c (.ptr 1 (.lit 0)))), (5, .a (.c (.ptr 2 (.lit 0))))] [some (Eblk vecs 56 xs), some ⟨[.int .i64 (.lit 0), .int .i64 (.lit 0), .int .i64 (.lit 0)], true, 56, false⟩, some ⟨[ci (mx out.x xs[i].x), ci (mx out.y xs[i].y), ci (mx out.z xs[i].z)], true, 56, false⟩] rfl rfl rfl ⟨⟨(by simp [LV.In, LA.In, LA.cells, LC.In, LC.refs]), _, rfl, fun _ => rfl⟩, ⟨(by simp [LV.In, LA.In, LA.cells, LC.In, LC.refs]), _, rfl, fun _ => rfl⟩, ⟨(by simp [LV.In, LA.In, LA.cells, LC.In, LC.refs]), _, rfl, fun _ => rfl⟩, ⟨(by simp [LV.In, LA.In, LA.cells, LC.In, LC.refs]), _, rfl, fun _ => rfl⟩, ⟨(by simp [LV.In, LA.In, LA.cells, LC.In, LC.refs]), _, rfl, fun _ => rfl⟩, ⟨(by simp [LV.In, LA.In, LA.cells, LC.In, LC.refs]), _, rfl, fun _ => rfl⟩, trivial⟩ ⟨⟨_, rfl, rfl, rfl, ⟨rfl, fun _ => vecs.den_all _ _ _⟩, vecs.all_in _ _⟩, ⟨_, rfl, rfl, rfl, ⟨rfl, fun _ => rfl⟩, lit_in rfl _⟩, ⟨_, rfl, rfl, rfl, ⟨rfl, fun _ => by rw [mx_ngt hc]; rfl⟩, lit_in rfl _⟩, trivial⟩ rest
        · refine dholds_move hT true rfl rfl rfl rfl (by first | exact hc | rfl) ?_
          refine dexec_ok hT 100 ?_
          conv => arg 10; whnf
          refine dholds_end mixed (by kernel_rfl) ?_
          refine exec_ok hT false 200 ?_
          conv => arg 4; whnf
          refine holds_index hT rfl rfl rfl rfl rfl rfl rfl rfl (q := i) rfl hi rfl (by show 56 < 61; decide) ?_
          refine exec_ok hT false 200 ?_
          conv => arg 4; whnf
          refine holds_load hT rfl rfl rfl rfl rfl rfl (v := .c (ci xs[i].z)) ?_ ?_ rfl (by show 58 < 61; decide) ?_
          · show 0 + i * 3 + 2 + 1 ≤ (vecs.all xs).length
            rw [vecs.all_len]
            have := Nat.mul_le_mul_right 3 (show i + 1 ≤ xs.length from hi)
            omega
          · show asVar _ (((vecs.all xs).drop (0 + i * 3 + 2)).take 1) = _
            rw [Nat.zero_add, vecs.get1 (k := 2) hg rfl]; rfl
          refine exec_ok hT false 200 ?_
          conv => arg 4; whnf
          exact holds_ren id [(7, .a (.c (.int .i64 (.lit 3)))), (6, i64 (i : Int)), (0, sl xs.length 3), (1, (.a (.c (.bool (.lit true))))), (4, .a (.c (.ptr 1 (.lit 0)))), (5, .a (.c (.ptr 2 (.lit 0))))] [some (Eblk vecs 56 xs), some ⟨[.int .i64 (.lit 0), .int .i64 (.lit 0), .int .i64 (.lit 0)], true, 56, false⟩, some ⟨[ci (mx out.x xs[i].x), ci (mx out.y xs[i].y), ci (mx out.z xs[i].z)], true, 56, false⟩] rfl rfl rfl ⟨⟨(by simp [LV.In, LA.In, LA.cells, LC.In, LC.refs]), _, rfl, fun _ => rfl⟩, ⟨(by simp [LV.In, LA.In, LA.cells, LC.In, LC.refs]), _, rfl, fun _ => rfl⟩, ⟨(by simp [LV.In, LA.In, LA.cells, LC.In, LC.refs]), _, rfl, fun _ => rfl⟩, ⟨(by simp [LV.In, LA.In, LA.cells, LC.In, LC.refs]), _, rfl, fun _ => rfl⟩, ⟨(by simp [LV.In, LA.In, LA.cells, LC.In, LC.refs]), _, rfl, fun _ => rfl⟩, ⟨(by simp [LV.In, LA.In, LA.cells, LC.In, LC.refs]), _, rfl, fun _ => rfl⟩, trivial⟩ ⟨⟨_, rfl, rfl, rfl, ⟨rfl, fun _ => vecs.den_all _ _ _⟩, vecs.all_in _ _⟩, ⟨_, rfl, rfl, rfl, ⟨rfl, fun _ => rfl⟩, lit_in rfl _⟩, ⟨_, rfl, rfl, rfl, ⟨rfl, fun _ => by rw [mx_gt hc]; rfl⟩, lit_in rfl _⟩, trivial⟩ rest
      refine holds_round ?_
      refine exec_ok hT false 200 ?_
      conv => arg 4; whnf
      refine holds_ren id _ _ rfl rfl rfl ?_ ?_ (next trivial)
      · exact ⟨⟨(by simp [LV.In, LA.In, LA.cells, LC.In, LC.refs]), _, rfl, fun _ => congrArg (Value.int .i64) (wrap_succ hi hn).symm⟩, ⟨(by simp [LV.In, LA.In, LA.cells, LC.In, LC.refs]), _, rfl, fun _ => rfl⟩, ⟨(by simp [LV.In, LA.In, LA.cells, LC.In, LC.refs]), _, rfl, fun _ => rfl⟩, ⟨(by simp [LV.In, LA.In, LA.cells, LC.In, LC.refs]), _, rfl, fun _ => rfl⟩, ⟨(by simp [LV.In, LA.In, LA.cells, LC.In, LC.refs]), _, rfl, fun _ => rfl⟩, trivial⟩
      · exact ⟨⟨_, rfl, rfl, rfl, ⟨rfl, fun _ => vecs.den_all _ _ _⟩, vecs.all_in _ _⟩, ⟨_, rfl, rfl, rfl, ⟨rfl, fun _ => rfl⟩, lit_in rfl _⟩, ⟨_, rfl, rfl, rfl, ⟨rfl, fun _ => by rw [eacc_take true hi h0, hO]; rfl⟩, lit_in rfl _⟩, trivial⟩
  · intro _
    refine exec_ok hT false 200 ?_
    conv => arg 4; whnf
    refine holds_bool 12 rfl (r := false) (decide_eq_false (by show ¬ (xs.length : Int) < (xs.length : Int); omega)) ?_
    refine exec_ok hT false 200 ?_
    conv => arg 4; whnf
    exact holds_ret (ret_pure (.inl rfl) rfl (fun _ => by rw [List.take_length]; rfl) (free_V _) rfl (sc1 _ _ _))
end Go.Proofs.Ytbkcaedlijhnlaa.LB
