/- TYPES: when two are the same. -/
import Derived.Test.YtcoagkfjdpdohaaTyDMa
namespace Go.Proofs.Ytcoagkfjdpdohaa.Sx
open Go
set_option maxRecDepth 1000000
set_option linter.unusedSimpArgs false
set_option linter.unusedVariables false

mutual
def Ty.same : Ty → Ty → Bool
  | .mk n l, .mk m k => decide (n = m) && sames l k
def sames : List Ty → List Ty → Bool
  | [], [] => true
  | t :: r, u :: s => t.same u && sames r s
  | [], _ :: _ => false
  | _ :: _, [] => false
end
theorem Ty.same_eq (t u : Ty) : t.same u = (decide (t.name = u.name) && sames t.args u.args) := by cases t; cases u; rfl
theorem sames_len : ∀ {l k : List Ty}, l.length ≠ k.length → sames l k = false
  | [], [], h => absurd rfl h
  | t :: r, u :: s, h => by simp only [sames, sames_len (l := r) (k := s) (fun e => h (by simp [e])), Bool.and_false]
  | [], _ :: _, _ => rfl
  | _ :: _, [], _ => rfl
mutual
theorem Ty.same_iff : ∀ t u : Ty, t.same u = true ↔ t = u
  | .mk n l, .mk m k => by rw [Ty.same, Bool.and_eq_true, decide_eq_true_eq, sames_iff l k, Ty.mk.injEq]
theorem sames_iff : ∀ l k : List Ty, sames l k = true ↔ l = k
  | [], [] => by simp [sames]
  | t :: r, u :: s => by rw [sames, Bool.and_eq_true, t.same_iff u, sames_iff r s, List.cons.injEq]
  | [], _ :: _ => by simp [sames]
  | _ :: _, [] => by simp [sames]
end

theorem ClT2 (t u : Ty) : ∀ x ∈ [avT t, avT u], Cl x := fun x h => by
  rcases List.mem_cons.1 h with rfl | h
  · exact ClT t
  · rw [List.mem_singleton.1 h]; exact ClT u
theorem ClTs2 (t u : List Ty) : ∀ x ∈ [avTs t, avTs u], Cl x := fun x h => by
  rcases List.mem_cons.1 h with rfl | h
  · exact ClTs t
  · rw [List.mem_singleton.1 h]; exact ClTs u

end Go.Proofs.Ytcoagkfjdpdohaa.Sx
