/-
  SX, PART E: EVALUATION. What the simplifier needs to run the abstract machine at arguments that are not closed.
-/
import Derived.Test.YtmjdkocjfehdcaaGreatSxZ
import Derived.IntWalk
namespace Go.Proofs.YtmjdkocjfehdcaaGreat.Sx
open Go
theorem acall_code {G : Prog} {f : FuncId} {cf : CF} (h : G.fns f = some (.code cf)) (N : Nat) (args : List AV) (lo : Nat) (M : MM) :
    acall G (N + 1) f args lo M = match exec (acall G N) G.mode lo G.nl cf.body ⟨args ++ List.replicate (cf.nt - args.length) .undef, M⟩ with
      | some (.normal, s) | some (.ret, s) => (resAll s cf.res).map (·, s.M)
      | _ => none := by
  simp only [acall, h]; rfl
theorem bool_beq_tf : ((true : Bool) == false) = false := rfl
theorem bool_beq_ff : ((false : Bool) == false) = true := rfl
theorem bool_beq_tt : ((true : Bool) == true) = true := rfl
theorem bool_beq_ft : ((false : Bool) == true) = false := rfl

/-- A loop: with an invariant 'I' that knows how far it is ('r' falls at every round). -/
theorem iter_rule {f : St → Option (Ex × St)} {I : Nat → St → Prop} {Q : Ex × St → Prop}
    (step : ∀ r s, I r s → (∃ s', f s = some (.normal, s') ∧ ∃ r', r' < r ∧ I r' s') ∨ (∃ e s', f s = some (e, s') ∧ e ≠ .normal ∧ Q (e, s'))) :
    ∀ n r s, I r s → r < n → ∃ x, iter f n s = some x ∧ Q x
  | 0, _, _, _, h => absurd h (by omega)
  | n + 1, r, s, hI, h => by
    rcases step r s hI with ⟨s', hf, r', hr, hI'⟩ | ⟨e, s', hf, he, hQ⟩
    · simp only [iter, hf]; exact iter_rule step n r' s' hI' (by omega)
    · refine ⟨(e, s'), ?_, hQ⟩
      simp only [iter, hf]
      cases e <;> first | rfl | exact absurd rfl he
end Go.Proofs.YtmjdkocjfehdcaaGreat.Sx
