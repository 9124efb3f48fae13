/- The matrices' functions: what they come to. -/
import Derived.Test.YtbkcaedlijhnlaaFix
namespace Go.Proofs.Ytbkcaedlijhnlaa.LB
open Go Go.RowKit
structure V3 where
  x : Int
  y : Int
  z : Int
abbrev V3.cells (v : V3) : List LC := [ci v.x, ci v.y, ci v.z]
abbrev V3.val (v : V3) : LV := .a (.agg v.cells)
theorem free_ints {xs : List LC} (h : ∀ c ∈ xs, c.refs = []) : (LV.a (.agg xs)).free := fun c hc r hr => by rw [h c hc] at hr; cases hr
theorem free_V (v : V3) : v.val.free := free_ints (by simp [LC.refs])
def prodL (a b : V3) (m : Int) : List Int := [m, mulV a.x b.x, mulV a.y b.y, mulV a.z b.z]
def prodV (a b : V3) (m : Int) : Int := if mulE a.x b.x != 0 then 0 else if mulE a.y b.y != 0 then 0 else if mulE a.z b.z != 0 then 0 else addV (prodL a b m)
def prodE (a b : V3) (m : Int) : Int := if mulE a.x b.x != 0 then mulE a.x b.x else if mulE a.y b.y != 0 then mulE a.y b.y else if mulE a.z b.z != 0 then mulE a.z b.z else addE (prodL a b m)
theorem free3 {a b : LV} (ha : a.free) (hb : b.free) : ∀ x ∈ [a, b], x.free := fun x hx => by simp at hx; rcases hx with rfl | rfl <;> assumption
set_option maxHeartbeats 1000000 in
theorem affine_product (a b : V3) (m : Int) : LPure Try.prog 122 [a.val, b.val, i64 m] (two (prodV a b m) (prodE a b m)) := by
  refine LCall.of hT Try.func122 rfl (by kernel_rfl) (by show 3 ≤ 39; decide) (fun η w => ?_)
  refine exec_ok hT true 200 ?_
  conv => arg 4; whnf
  refine holds_drawStart 0 ?_
  refine dexec_ok hT 100 ?_
  conv => arg 10; whnf
  refine dholds_call rfl rfl ((fix_Mul a.x b.x).ro (free3 (free_i64 _) (free_i64 _)) (free_two _ _) _) rfl ?_
  refine dexec_ok hT 100 ?_
  conv => arg 10; whnf
  refine dholds_end mixed (by kernel_rfl) ?_
  refine exec_ok hT true 200 ?_
  conv => arg 4; whnf
  cases hx : (mulE a.x b.x != 0)
  · refine holds_bool 28 rfl (r := false) (hx) ?_
    refine exec_ok hT true 200 ?_
    conv => arg 4; whnf
    refine holds_drawStart 0 ?_
    refine dexec_ok hT 100 ?_
    conv => arg 10; whnf
    refine dholds_call rfl rfl ((fix_Mul a.y b.y).ro (free3 (free_i64 _) (free_i64 _)) (free_two _ _) _) rfl ?_
    refine dexec_ok hT 100 ?_
    conv => arg 10; whnf
    refine dholds_end mixed (by kernel_rfl) ?_
    refine exec_ok hT true 200 ?_
    conv => arg 4; whnf
    cases hy : (mulE a.y b.y != 0)
    · refine holds_bool 28 rfl (r := false) (hy) ?_
      refine exec_ok hT true 200 ?_
      conv => arg 4; whnf
      refine holds_drawStart 0 ?_
      refine dexec_ok hT 100 ?_
      conv => arg 10; whnf
      refine dholds_call rfl rfl ((fix_Mul a.z b.z).ro (free3 (free_i64 _) (free_i64 _)) (free_two _ _) _) rfl ?_
      refine dexec_ok hT 100 ?_
      conv => arg 10; whnf
      refine dholds_end mixed (by kernel_rfl) ?_
      refine exec_ok hT true 200 ?_
      conv => arg 4; whnf
      cases hz : (mulE a.z b.z != 0)
      · refine holds_bool 28 rfl (r := false) (hz) ?_
        refine exec_ok hT true 200 ?_
        conv => arg 4; whnf
        refine holds_call rfl rfl rfl ((ro_Add (len := .lit 4) (prodL a b m) (by simp [prodL]) rfl rfl (by exact Nat.le_refl 4) (fun _ => rfl) rfl).call) rfl (by show 36 < 39; decide) ?_
        rintro _ _ ⟨rfl, rfl⟩
        refine exec_ok hT true 200 ?_
        conv => arg 4; whnf
        exact holds_ret (ret_pure (.inl rfl) rfl (fun _ => by simp [prodV, prodE, hx, hy, hz] <;> rfl) (free_two _ _) rfl (nosc))
      · refine holds_bool 28 rfl (r := true) (hz) ?_
        refine exec_ok hT true 200 ?_
        conv => arg 4; whnf
        exact holds_ret (ret_pure (.inl rfl) rfl (fun _ => by simp [prodV, prodE, hx, hy, hz] <;> rfl) (free_two _ _) rfl (nosc))
    · refine holds_bool 28 rfl (r := true) (hy) ?_
      refine exec_ok hT true 200 ?_
      conv => arg 4; whnf
      exact holds_ret (ret_pure (.inl rfl) rfl (fun _ => by simp [prodV, prodE, hx, hy] <;> rfl) (free_two _ _) rfl (nosc))
  · refine holds_bool 28 rfl (r := true) (hx) ?_
    refine exec_ok hT true 200 ?_
    conv => arg 4; whnf
    exact holds_ret (ret_pure (.inl rfl) rfl (fun _ => by simp [prodV, prodE, hx] <;> rfl) (free_two _ _) rfl (nosc))
end Go.Proofs.Ytbkcaedlijhnlaa.LB
