/- TYPES: copies. -/
import Derived.Test.YtcoagkfjdpdohaaTyBLo
namespace Go.Proofs.Ytcoagkfjdpdohaa.Sx
open Go
set_option maxRecDepth 1000000
set_option linter.unusedSimpArgs false
set_option linter.unusedVariables false

theorem rn_appT {m : Mem} {lim : Lm} {l : List Ty} {t : Ty} {bytes : Nat} {R : Type} {r : R → Prop} {k : AV → Option R} (hb : (l.length + 1) * bytes ≤ 140737488355328 ∧ l.length + 1 ≤ 9223372036854775807) (hk : Wp (k (avTs (l ++ [t]))) r) :
    Wp (opt (wappA m lim 2 bytes (avTs l) (.d (.sl (encT t) 1))) k) r := by
  refine rn_wapp (by rw [encT_len]) hb ?_
  have e : encTs l ++ encT t = encTs (l ++ [t]) := by rw [encTs_append]; simp [encTs]
  have e2 : l.length + 1 = (l ++ [t]).length := by simp
  rw [e, e2]; exact hk
theorem rn_wslT {t : Ty} {a b : AV} {R : Type} {r : R → Prop} {k : AV → Option R} (hk : Wp (k (.d (.sl (encT t) 1))) r) : Wp (opt (wslA 1 (fill [a, b] [(0, 2, avT t)])) k) r := by
  refine rn_wsl (ds := encT t) ?_ hk
  rw [encT_eq]; rfl

theorem rn_setA {t : Ty} {l : List Ty} {R : Type} {r : R → Prop} {k : AV → Option R} (hk : Wp (k (avT (.mk t.name l))) r) : Wp (opt (setcA 1 1 (avT t) (avTs l)) k) r := hk

end Go.Proofs.Ytcoagkfjdpdohaa.Sx
