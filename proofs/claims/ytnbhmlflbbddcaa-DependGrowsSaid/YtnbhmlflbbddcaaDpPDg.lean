/- THE SANITY CHECK of the chapter, reckoned: a prim. -/
import Derived.Test.YtnbhmlflbbddcaaBDg
import Derived.Test.YtnbhmlflbbddcaaPrDg
import Derived.Test.YtnbhmlflbbddcaaSxHDg
namespace Go.Proofs.Ytnbhmlflbbddcaa.Sx
open Go
set_option maxRecDepth 1000000
theorem awake_run : (acall Bs.GB 60 6 [] 0 ⟨0, fun _ => none⟩).map Prod.fst = some (.bool true) := by kernel_rfl
def primAwake : List AV → Nat → MM → Option (AV × MM) := primOf trueQ
theorem primAwake_eq : primAwake = trueP := by funext args lo M; cases args <;> rfl
theorem primAwake_ok : PrimOK Try.prog 6 primAwake := by rw [primAwake_eq]; exact trueP_ok Bs.GB_ok awake_run
theorem primAwake_ext : PrimExt primAwake := primOf_ext _
theorem primAwake_v {S : Sig} {f : FuncId} (hr : S.rs f = []) : PrimV S f primAwake := primOf_v (fun a v h => by unfold trueQ at h; split at h <;> simp at h; subst h; intro e; cases e) hr
end Go.Proofs.Ytnbhmlflbbddcaa.Sx
