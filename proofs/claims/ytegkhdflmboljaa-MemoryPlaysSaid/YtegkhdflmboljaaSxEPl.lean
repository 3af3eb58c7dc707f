/-
  SX, PART E: EVALUATION. What the simplifier needs to run the abstract machine at arguments that are not closed.
-/
import Derived.Test.YtegkhdflmboljaaSxZPl
import Derived.IntWalk
namespace Go.Proofs.Ytegkhdflmboljaa.Sx
open Go
theorem acall_code {G : Prog} {f : FuncId} {cf : CF} (h : G.fns f = some (.code cf)) (N : Nat) (args : List AV) (lo : Nat) (M : MM) :
    acall G (N + 1) f args lo M = match exec (acall G N) G.mode lo G.nl cf.body ⟨args ++ List.replicate (cf.nt - args.length) .undef, M⟩ with
      | some (.normal, s) | some (.ret, s) => (resAll s cf.res).map (·, s.M)
      | _ => none := by
  simp only [acall, h]; rfl
end Go.Proofs.Ytegkhdflmboljaa.Sx
