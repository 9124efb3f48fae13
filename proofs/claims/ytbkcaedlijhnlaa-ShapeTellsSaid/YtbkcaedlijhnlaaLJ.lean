/- Where two roads meet: only the slots that are still read are kept. -/
import Derived.Test.YtbkcaedlijhnlaaLI
namespace Go.Proofs.Ytbkcaedlijhnlaa.LB
open Go Go.RowKit
def keepE (env : Env) : List Nat → Env
  | [] => []
  | s :: r => match lk env s with
    | some v => (s, v) :: keepE env r
    | none => keepE env r
def keepK (env : Env) : List Nat → (Env → St) → St
  | [], k => k []
  | s :: r, k => match lk env s with
    | some v => keepK env r fun e => k ((s, v) :: e)
    | none => keepK env r k
theorem keepK_eq (env : Env) : ∀ (l : List Nat) (k : Env → St), keepK env l k = k (keepE env l)
  | [], _ => rfl
  | s :: r, k => by
    unfold keepK keepE
    cases lk env s with
    | some v => exact keepK_eq env r _
    | none => exact keepK_eq env r k
theorem keepE_lk {env : Env} : ∀ {l : List Nat} {t : Nat} {v : LV}, lk (keepE env l) t = some v → lk env t = some v
  | [], _, _, h => by simp [keepE, lk] at h
  | s :: r, t, v, h => by
    unfold keepE at h
    cases hs : lk env s with
    | none => rw [hs] at h; exact keepE_lk h
    | some u =>
      rw [hs] at h
      rcases lk_put h with ⟨rfl, rfl⟩ | ⟨_, h⟩
      · exact hs
      · exact keepE_lk h
theorem holds_keep {P : Program} {c : Ctx} {Q : Exit → Env → LH → Prop} {p : Pt} {env : Env} {H : LH} (l : List Nat) (h : Holds P c Q (keepK env l fun e => ⟨p, e, H⟩)) : Holds P c Q ⟨p, env, H⟩ := by
  rw [keepK_eq] at h
  exact holds_env (fun t v ht => keepE_lk ht) h
theorem holds_cut {P : Program} {c : Ctx} {Q : Exit → Env → LH → Prop} {s s' : St} (h : Holds P c Q s' → Holds P c Q s) (h' : Holds P c Q s') : Holds P c Q s := h h'
end Go.Proofs.Ytbkcaedlijhnlaa.LB
