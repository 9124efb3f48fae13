/- The document's join. -/
import Derived.Test.YtbkcaedlijhnlaaEd
namespace Go.Proofs.Ytbkcaedlijhnlaa.LB
open Go Go.RowKit
theorem ro_fullX {α : Type} {sz : Nat} (hs : 0 < sz) (E : Enc α sz) (ty : Nat) (sym : Bool) (xs : List α) {xa : List LV} (hxa : ∀ x ∈ xa, x.free) {f : FuncId} {v : LV} {len1 : NE} (hl1 : len1.v = xs.length) (C : LCall Try.prog f (.a (.c (.slice 0 (.lit 0) len1 sz none)) :: xa) [some ⟨E.all xs, false, ty, sym⟩] (fun v' H' => v' = v ∧ H' = [some ⟨E.all xs, false, ty, sym⟩])) (hv : v.free) {H : LH} {i : Nat} {len : NE} {b : LBlk}
    (hb : H[i]? = some (some b)) (hbc : b.cells = E.all xs) (hl : len.v = xs.length) : LRo Try.prog f (.a (.c (.slice i (.lit 0) len sz none)) :: xa) v [i] H := by
  refine LRo.of2 C hv ?_ (sc1b E ty sym xs) ?_ (fun _ => (i, 0)) (fun _ => none) ?_ ?_
  · intro j b' hj
    cases j with
    | zero => simp at hj; subst hj; rfl
    | succ j => simp at hj
  · intro x hx
    rcases List.mem_cons.1 hx with rfl | hx
    · exact in_cell (fun r hr => by simp only [LC.refs, List.mem_singleton] at hr; subst hr; simp)
    · exact (hxa x hx).mono fun _ h => h.elim
  · intro j b' hj
    cases j with
    | succ j => simp at hj
    | zero =>
      simp at hj
      subst hj
      refine ⟨by simp, b, hb, by rw [hbc]; simp, fun n hn => (by cases hn), fun t c ht => ⟨c, by rw [hbc]; simpa using ht, fun η => ?_⟩⟩
      exact LV.free_den (v := .a (.c c)) (in_none (E.all_flat (List.mem_of_getElem? ht))) _ _
  · intro η
    have e0 : ∀ A : Addr, A.add 0 = A := fun A => by simp [Addr.add]
    simp only [List.map_cons, LV.den, LA.den, LC.den, sub2, NE.lit_v, hl, hl1, Option.getD_none, Nat.sub_zero, e0]
    congr 1
    exact List.map_congr_left fun x hx => LV.free_den (hxa x hx) _ _
theorem Enc.getR {α : Type} {sz : Nat} (E : Enc α sz) {xs : List α} {q k m : Nat} {x : α} (h : xs[q]? = some x) (hk : k + m ≤ sz) : ((E.all xs).drop (q * sz + k)).take m = ((E.cells x).drop k).take m := by
  have h1 := E.get h
  rw [← h1, List.drop_take, List.take_take, List.drop_drop, Nat.min_eq_left (by omega)]
theorem Enc.app {α : Type} {sz : Nat} (E : Enc α sz) (l : List α) (v : α) : ((E.all l).drop 0).take (l.length * sz) ++ E.cells v = E.all (l ++ [v]) := by
  rw [List.drop_zero, List.take_of_length_le (by rw [E.all_len]; exact Nat.le_refl _)]
  simp [Enc.all]
theorem leastV_self (a : V3) : leastV a a = a := by simp [leastV, mn]
theorem greatV_self (a : V3) : greatV a a = a := by simp [greatV, mx]
theorem jacc_fold : ∀ (r : List B6) (b : B6), r.foldl join1 b = ⟨(r.map (·.lo)).foldl (edgeF false) b.lo, (r.map (·.hi)).foldl (edgeF true) b.hi⟩
  | [], b => rfl
  | x :: r, b => by
    simp only [List.foldl_cons, List.map_cons]
    rw [jacc_fold r (join1 b x)]; rfl
theorem jacc_eq (x : B6) (r : List B6) : jacc x (x :: r) = ⟨eacc false ((x :: r).map (·.lo)), eacc true ((x :: r).map (·.hi))⟩ := by
  show r.foldl join1 (join1 x x) = _
  rw [show join1 x x = x by simp [join1, leastV_self, greatV_self], jacc_fold]; rfl
def LOs (l : List B6) (n : Nat) : List V3 := (l.take n).map (·.lo)
def HIs (l : List B6) (n : Nat) : List V3 := (l.take n).map (·.hi)
theorem LOs_succ {l : List B6} {n : Nat} (h : n < l.length) : LOs l (n + 1) = LOs l n ++ [l[n].lo] := by
  unfold LOs; rw [List.take_succ_eq_append_getElem h, List.map_append]; rfl
theorem HIs_succ {l : List B6} {n : Nat} (h : n < l.length) : HIs l (n + 1) = HIs l n ++ [l[n].hi] := by
  unfold HIs; rw [List.take_succ_eq_append_getElem h, List.map_append]; rfl
theorem LOs_len {l : List B6} {n : Nat} (h : n ≤ l.length) : (LOs l n).length = n := by simp [LOs, h]
theorem HIs_len {l : List B6} {n : Nat} (h : n ≤ l.length) : (HIs l n).length = n := by simp [HIs, h]
theorem app_ren {ρ : Nat → Nat} {l l' : List V3} {v : V3} {n : Nat} (hl : l.length = n) (h : l' = l ++ [v]) : CellsRen ρ (vecs.all l') (((vecs.all l).drop 0).take (n * 3) ++ v.cells) := by
  subst hl h
  have e : vecs.all (l ++ [v]) = ((vecs.all l).drop 0).take (l.length * 3) ++ v.cells := (vecs.app l v).symm
  rw [← e]
  exact ⟨rfl, fun η => vecs.den_all _ _ _⟩
theorem joinLV_bad {xs : List B6} (h : xs.all boxOk = false) : joinLV xs = zeroB := by
  cases xs with
  | nil => rfl
  | cons x r => simp only [joinLV, h, cond_false]
theorem joinLE_bad {xs : List B6} (h : xs.all boxOk = false) : joinLE xs = 1 := by
  cases xs with
  | nil => rfl
  | cons x r => simp only [joinLE, h, cond_false]
theorem joinLV_good {xs : List B6} (h : xs.all boxOk = true) (h0 : 0 < xs.length) : joinLV xs = ⟨eacc false (xs.map (·.lo)), eacc true (xs.map (·.hi))⟩ := by
  cases xs with
  | nil => simp at h0
  | cons x r => simp only [joinLV, h, cond_true]; exact jacc_eq x r
theorem joinLE_good {xs : List B6} (h : xs.all boxOk = true) (h0 : 0 < xs.length) : joinLE xs = 0 := by
  cases xs with
  | nil => simp at h0
  | cons x r => simp only [joinLE, h, cond_true]
set_option maxHeartbeats 4000000 in
theorem ref04_Join (xs : List B6) (hn : xs.length ≤ 1000000) : LCall Try.prog 75 [sl xs.length 6] [some (Eblk boxes 58 xs)] (fun v H' => v = twoB (joinLV xs) (joinLE xs) ∧ H' = [some (Eblk boxes 58 xs)]) := by
  refine LCall.of hT Try.func75 rfl (by kernel_rfl) (by show 1 ≤ 47; decide) (fun η w => ?_)
  refine exec_ok hT false 200 ?_
  conv => arg 4; whnf
  match hxs : xs with
  | [] =>
    subst hxs
    refine holds_round ?_
    refine exec_ok hT false 200 ?_
    conv => arg 4; whnf
    refine holds_bool 11 rfl (r := false) (rfl) ?_
    refine exec_ok hT false 200 ?_
    conv => arg 4; whnf
    refine holds_bool 40 rfl (r := true) (rfl) ?_
    refine exec_ok hT false 200 ?_
    conv => arg 4; whnf
    exact holds_ret (ret_pure (.inl rfl) rfl (fun _ => rfl) (free_twoB _ _) rfl (sc1 _ _ _))
  | x :: r =>
    have hn2 : r.length + 1 ≤ 1000000 := by simpa using hn
    have hxl : xs.length = r.length + 1 := by rw [hxs]; rfl
    rw [← hxs]
    have hi : 0 < xs.length := by omega
    have hg := List.getElem?_eq_getElem hi
    refine holds_round ?_
    refine exec_ok hT false 200 ?_
    conv => arg 4; whnf
    refine holds_bool 11 rfl (r := true) (decide_eq_true (by show (0 : Int) < (xs.length : Int); omega)) ?_
    refine exec_ok hT false 200 ?_
    conv => arg 4; whnf
    refine holds_index hT rfl rfl rfl rfl rfl rfl rfl rfl (q := 0) rfl hi rfl (by show 16 < 47; decide) ?_
    refine holds_load hT rfl rfl rfl rfl rfl rfl (v := .agg (B6.cells xs[0])) ?_ ?_ rfl (by show 17 < 47; decide) ?_
    · show 0 + 0 * 6 + 6 ≤ (boxes.all xs).length
      rw [boxes.all_len]
      have := Nat.mul_le_mul_right 6 (show 0 + 1 ≤ xs.length from hi)
      omega
    · show asVar _ (((boxes.all xs).drop (0 + 0 * 6)).take 6) = _
      rw [Nat.zero_add, boxes.get hg]; rfl
    refine holds_call rfl rfl rfl ((ref04_Right xs[0]).any (free1 (free_B _)) (free_bo _) _) rfl (by show 18 < 47; decide) ?_
    rintro _ _ ⟨rfl, rfl⟩
    refine exec_ok hT false 200 ?_
    conv => arg 4; whnf
    cases hr : boxOk xs[0]
    · refine holds_bool 20 rfl (r := true) (rfl) ?_
      refine exec_ok hT false 200 ?_
      conv => arg 4; whnf
      have ha : xs.all boxOk = false := by rw [List.all_eq_false]; exact ⟨_, List.getElem_mem hi, by rw [hr]; simp⟩
      exact holds_ret (ret_pure (.inl rfl) rfl (fun _ => by rw [joinLV_bad ha, joinLE_bad ha]; rfl) (free_twoB _ _) rfl (sc1 _ _ _))
    · refine holds_bool 20 rfl (r := false) (rfl) ?_
      refine exec_ok hT false 200 ?_
      conv => arg 4; whnf
      refine holds_index hT rfl rfl rfl rfl rfl rfl rfl rfl (q := 0) rfl hi rfl (by show 25 < 47; decide) ?_
      refine exec_ok hT false 200 ?_
      conv => arg 4; whnf
      refine holds_load hT rfl rfl rfl rfl rfl rfl (v := .agg (V3.cells xs[0].lo)) ?_ ?_ rfl (by show 27 < 47; decide) ?_
      · show 0 + 0 * 6 + 0 + 3 ≤ (boxes.all xs).length
        rw [boxes.all_len]
        have := Nat.mul_le_mul_right 6 (show 0 + 1 ≤ xs.length from hi)
        omega
      · show asVar _ (((boxes.all xs).drop (0 + 0 * 6 + 0)).take 3) = _
        rw [Nat.zero_add, boxes.getR (k := 0) (m := 3) hg (by decide)]; rfl
      refine exec_ok hT false 200 ?_
      conv => arg 4; whnf
      refine holds_index hT rfl rfl rfl rfl rfl rfl rfl rfl (q := 0) rfl hi rfl (by show 33 < 47; decide) ?_
      refine exec_ok hT false 200 ?_
      conv => arg 4; whnf
      refine holds_load hT rfl rfl rfl rfl rfl rfl (v := .agg (V3.cells xs[0].hi)) ?_ ?_ rfl (by show 35 < 47; decide) ?_
      · show 0 + 0 * 6 + 3 + 3 ≤ (boxes.all xs).length
        rw [boxes.all_len]
        have := Nat.mul_le_mul_right 6 (show 0 + 1 ≤ xs.length from hi)
        omega
      · show asVar _ (((boxes.all xs).drop (0 + 0 * 6 + 3)).take 3) = _
        rw [Nat.zero_add, boxes.getR (k := 3) (m := 3) hg (by decide)]; rfl
      refine exec_ok hT false 200 ?_
      conv => arg 4; whnf
      refine holds_ren (fun j => if j = 2 then 3 else if j = 3 then 5 else j) [(6, i64 ((0 + 1 : Nat) : Int)), (0, sl xs.length 6), (2, .a (.c (.ptr 1 (.lit 0)))), (4, .a (.c (.slice 2 (.lit 0) (.var (0 + 1)) 3 none))), (5, .a (.c (.slice 3 (.lit 0) (.var (0 + 1)) 3 none)))] [some (Eblk boxes 58 xs), some ⟨[.int .i64 (.lit 0), .int .i64 (.lit 0), .int .i64 (.lit 0), .int .i64 (.lit 0), .int .i64 (.lit 0), .int .i64 (.lit 0)], true, 58, false⟩, some ⟨vecs.all (LOs xs (0 + 1)), true, 56, true⟩, some ⟨vecs.all (HIs xs (0 + 1)), true, 56, true⟩] rfl rfl rfl ?_ ?_ ?_
      · exact ⟨⟨(by simp [LV.In, LA.In, LA.cells, LC.In, LC.refs]), _, rfl, fun _ => rfl⟩, ⟨(by simp [LV.In, LA.In, LA.cells, LC.In, LC.refs]), _, rfl, fun _ => rfl⟩, ⟨(by simp [LV.In, LA.In, LA.cells, LC.In, LC.refs]), _, rfl, fun _ => rfl⟩, ⟨(by simp [LV.In, LA.In, LA.cells, LC.In, LC.refs]), _, rfl, fun _ => rfl⟩, ⟨(by simp [LV.In, LA.In, LA.cells, LC.In, LC.refs]), _, rfl, fun _ => rfl⟩, trivial⟩
      · exact ⟨⟨_, rfl, rfl, rfl, ⟨rfl, fun _ => boxes.den_all _ _ _⟩, boxes.all_in _ _⟩, ⟨_, rfl, rfl, rfl, ⟨rfl, fun _ => rfl⟩, lit_in rfl _⟩, ⟨_, rfl, rfl, rfl, app_ren (l := []) rfl (LOs_succ hi), vecs.all_in _ _⟩, ⟨_, rfl, rfl, rfl, app_ren (l := []) rfl (HIs_succ hi), vecs.all_in _ _⟩, trivial⟩
      refine holds_count r.length (fun i => [(6, i64 ((i + 1 : Nat) : Int)), (0, sl xs.length 6), (2, .a (.c (.ptr 1 (.lit 0)))), (4, .a (.c (.slice 2 (.lit 0) (.var (i + 1)) 3 none))), (5, .a (.c (.slice 3 (.lit 0) (.var (i + 1)) 3 none)))]) (fun i => [some (Eblk boxes 58 xs), some ⟨[.int .i64 (.lit 0), .int .i64 (.lit 0), .int .i64 (.lit 0), .int .i64 (.lit 0), .int .i64 (.lit 0), .int .i64 (.lit 0)], true, 58, false⟩, some ⟨vecs.all (LOs xs (i + 1)), true, 56, true⟩, some ⟨vecs.all (HIs xs (i + 1)), true, 56, true⟩]) (fun i => (xs.take (i + 1)).all boxOk = true) ?_ ⟨⟨_, rfl, LV.same_refl _⟩, ⟨_, rfl, LV.same_refl _⟩, ⟨_, rfl, LV.same_refl _⟩, ⟨_, rfl, LV.same_refl _⟩, ⟨_, rfl, LV.same_refl _⟩, trivial⟩ rfl ?_ ?_
      · rw [List.take_succ_eq_append_getElem hi]
        simp [hr]
      · intro i hir hI next
        have hi : i + 1 < xs.length := by omega
        have hg := List.getElem?_eq_getElem hi
        clear hr
        refine exec_ok hT false 200 ?_
        conv => arg 4; whnf
        refine holds_bool 11 rfl (r := true) (decide_eq_true (by show ((i + 1 : Nat) : Int) < (xs.length : Int); omega)) ?_
        refine exec_ok hT false 200 ?_
        conv => arg 4; whnf
        refine holds_index hT rfl rfl rfl rfl rfl rfl rfl rfl (q := (i + 1)) rfl hi rfl (by show 16 < 47; decide) ?_
        refine holds_load hT rfl rfl rfl rfl rfl rfl (v := .agg (B6.cells xs[(i + 1)])) ?_ ?_ rfl (by show 17 < 47; decide) ?_
        · show 0 + (i + 1) * 6 + 6 ≤ (boxes.all xs).length
          rw [boxes.all_len]
          have := Nat.mul_le_mul_right 6 (show (i + 1) + 1 ≤ xs.length from hi)
          omega
        · show asVar _ (((boxes.all xs).drop (0 + (i + 1) * 6)).take 6) = _
          rw [Nat.zero_add, boxes.get hg]; rfl
        refine holds_call rfl rfl rfl ((ref04_Right xs[(i + 1)]).any (free1 (free_B _)) (free_bo _) _) rfl (by show 18 < 47; decide) ?_
        rintro _ _ ⟨rfl, rfl⟩
        refine exec_ok hT false 200 ?_
        conv => arg 4; whnf
        cases hr : boxOk xs[(i + 1)]
        · refine holds_bool 20 rfl (r := true) (rfl) ?_
          refine exec_ok hT false 200 ?_
          conv => arg 4; whnf
          have ha : xs.all boxOk = false := by rw [List.all_eq_false]; exact ⟨_, List.getElem_mem hi, by rw [hr]; simp⟩
          exact holds_ret (ret_pure (.inl rfl) rfl (fun _ => by rw [joinLV_bad ha, joinLE_bad ha]; rfl) (free_twoB _ _) rfl (sc1 _ _ _))
        · refine holds_bool 20 rfl (r := false) (rfl) ?_
          refine exec_ok hT false 200 ?_
          conv => arg 4; whnf
          refine holds_index hT rfl rfl rfl rfl rfl rfl rfl rfl (q := (i + 1)) rfl hi rfl (by show 25 < 47; decide) ?_
          refine exec_ok hT false 200 ?_
          conv => arg 4; whnf
          refine holds_load hT rfl rfl rfl rfl rfl rfl (v := .agg (V3.cells xs[(i + 1)].lo)) ?_ ?_ rfl (by show 27 < 47; decide) ?_
          · show 0 + (i + 1) * 6 + 0 + 3 ≤ (boxes.all xs).length
            rw [boxes.all_len]
            have := Nat.mul_le_mul_right 6 (show (i + 1) + 1 ≤ xs.length from hi)
            omega
          · show asVar _ (((boxes.all xs).drop (0 + (i + 1) * 6 + 0)).take 3) = _
            rw [Nat.zero_add, boxes.getR (k := 0) (m := 3) hg (by decide)]; rfl
          refine exec_ok hT false 200 ?_
          conv => arg 4; whnf
          refine holds_append hT rfl rfl rfl rfl rfl rfl rfl rfl ?_ rfl rfl (by exact Nat.le_refl 3) ?_ true rfl (by show 29 < 47; decide) ?_
          · show 0 + ((i + 1)) * 3 ≤ (vecs.all (LOs xs ((i + 1)))).length
            rw [vecs.all_len, LOs_len (Nat.le_of_lt hi)]; omega
          · show (2 * (((i + 1)) + 1) + 192) * 24 ≤ 281474976710656
            omega
          refine exec_ok hT false 200 ?_
          conv => arg 4; whnf
          refine holds_index hT rfl rfl rfl rfl rfl rfl rfl rfl (q := (i + 1)) rfl hi rfl (by show 33 < 47; decide) ?_
          refine exec_ok hT false 200 ?_
          conv => arg 4; whnf
          refine holds_load hT rfl rfl rfl rfl rfl rfl (v := .agg (V3.cells xs[(i + 1)].hi)) ?_ ?_ rfl (by show 35 < 47; decide) ?_
          · show 0 + (i + 1) * 6 + 3 + 3 ≤ (boxes.all xs).length
            rw [boxes.all_len]
            have := Nat.mul_le_mul_right 6 (show (i + 1) + 1 ≤ xs.length from hi)
            omega
          · show asVar _ (((boxes.all xs).drop (0 + (i + 1) * 6 + 3)).take 3) = _
            rw [Nat.zero_add, boxes.getR (k := 3) (m := 3) hg (by decide)]; rfl
          refine exec_ok hT false 200 ?_
          conv => arg 4; whnf
          refine holds_append hT rfl rfl rfl rfl rfl rfl rfl rfl ?_ rfl rfl (by exact Nat.le_refl 3) ?_ true rfl (by show 37 < 47; decide) ?_
          · show 0 + ((i + 1)) * 3 ≤ (vecs.all (HIs xs ((i + 1)))).length
            rw [vecs.all_len, HIs_len (Nat.le_of_lt hi)]; omega
          · show (2 * (((i + 1)) + 1) + 192) * 24 ≤ 281474976710656
            omega
          refine exec_ok hT false 200 ?_
          conv => arg 4; whnf
          refine holds_ren (fun j => if j = 2 then 5 else if j = 3 then 7 else j) _ _ rfl rfl rfl ?_ ?_ (next (by rw [List.take_succ_eq_append_getElem hi, List.all_append, hI]; simp [hr]))
          · exact ⟨⟨(by simp [LV.In, LA.In, LA.cells, LC.In, LC.refs]), _, rfl, fun _ => congrArg (Value.int .i64) (wrap_succ hi (by omega)).symm⟩, ⟨(by simp [LV.In, LA.In, LA.cells, LC.In, LC.refs]), _, rfl, fun _ => rfl⟩, ⟨(by simp [LV.In, LA.In, LA.cells, LC.In, LC.refs]), _, rfl, fun _ => rfl⟩, ⟨(by simp [LV.In, LA.In, LA.cells, LC.In, LC.refs]), _, rfl, fun _ => rfl⟩, ⟨(by simp [LV.In, LA.In, LA.cells, LC.In, LC.refs]), _, rfl, fun _ => rfl⟩, trivial⟩
          · exact ⟨⟨_, rfl, rfl, rfl, ⟨rfl, fun _ => boxes.den_all _ _ _⟩, boxes.all_in _ _⟩, ⟨_, rfl, rfl, rfl, ⟨rfl, fun _ => rfl⟩, lit_in rfl _⟩, ⟨_, rfl, rfl, rfl, app_ren (LOs_len (Nat.le_of_lt hi)) (LOs_succ hi), vecs.all_in _ _⟩, ⟨_, rfl, rfl, rfl, app_ren (HIs_len (Nat.le_of_lt hi)) (HIs_succ hi), vecs.all_in _ _⟩, trivial⟩
      · intro hI
        rw [← hxl, List.take_length] at hI
        refine exec_ok hT false 200 ?_
        conv => arg 4; whnf
        refine holds_bool 11 rfl (r := false) (decide_eq_false (by show ¬ ((r.length + 1 : Nat) : Int) < (xs.length : Int); omega)) ?_
        refine exec_ok hT false 200 ?_
        conv => arg 4; whnf
        refine holds_bool 40 rfl (r := false) (by show ((xs.length : Int) == 0) = false; exact beq_eq_false_iff_ne.2 (by omega)) ?_
        refine exec_ok hT false 200 ?_
        conv => arg 4; whnf
        refine holds_call rfl rfl rfl (LRo.call (ro_fullX (by decide) vecs 56 true (LOs xs (r.length + 1)) (free1 (in_none rfl)) rfl (ref02_Edge_near _ (by rw [LOs_len (by omega)]; omega)) (free_V _) rfl rfl (by show r.length + 1 = _; rw [LOs_len (by omega)]))) rfl (by show 43 < 47; decide) ?_
        rintro _ _ ⟨rfl, rfl⟩
        refine exec_ok hT false 200 ?_
        conv => arg 4; whnf
        refine holds_call rfl rfl rfl (LRo.call (ro_fullX (by decide) vecs 56 true (HIs xs (r.length + 1)) (free1 (in_none rfl)) rfl (ref02_Edge_far _ (by rw [HIs_len (by omega)]; omega)) (free_V _) rfl rfl (by show r.length + 1 = _; rw [HIs_len (by omega)]))) rfl (by show 45 < 47; decide) ?_
        rintro _ _ ⟨rfl, rfl⟩
        refine exec_ok hT false 200 ?_
        conv => arg 4; whnf
        exact holds_ret (ret_pure (.inl rfl) rfl (fun _ => by rw [joinLV_good hI (by omega), joinLE_good hI (by omega), ← hxl]; unfold LOs HIs; rw [List.take_length]; rfl) (free_twoB _ _) rfl (sc1 _ _ _))
end Go.Proofs.Ytbkcaedlijhnlaa.LB
