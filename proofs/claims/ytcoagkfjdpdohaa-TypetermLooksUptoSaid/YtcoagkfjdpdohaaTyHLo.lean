/- TYPES: replacing names by types. -/
import Derived.Test.YtcoagkfjdpdohaaTyGLo
namespace Go.Proofs.Ytcoagkfjdpdohaa.Sx
open Go
set_option maxRecDepth 1000000
set_option linter.unusedSimpArgs false
set_option linter.unusedVariables false

end Go.Proofs.Ytcoagkfjdpdohaa.Sx
