/- TYPES: the parameters of a type. -/
import Derived.Test.YtcoagkfjdpdohaaTyKRe
import Derived.Test.YtcoagkfjdpdohaaTyLRe
namespace Go.Proofs.Ytcoagkfjdpdohaa.Sx
open Go
set_option maxRecDepth 1000000
set_option linter.unusedSimpArgs false
set_option linter.unusedVariables false

def addP (n : ByteArray) (out : List ByteArray) : List ByteArray := if param n && !hasS out n then out ++ [n] else out
mutual
def Ty.coll : Ty → List ByteArray → List ByteArray
  | .mk n l, out => colls l (addP n out)
def colls : List Ty → List ByteArray → List ByteArray
  | [], out => out
  | t :: r, out => colls r (t.coll out)
end
theorem Ty.coll_eq (t : Ty) (out : List ByteArray) : t.coll out = colls t.args (addP t.name out) := by cases t; simp only [Ty.coll, Ty.name, Ty.args]
theorem addP_len (n : ByteArray) (out : List ByteArray) : (addP n out).length ≤ out.length + 1 := by
  unfold addP
  split
  · simp
  · omega
mutual
theorem Ty.coll_len : ∀ (t : Ty) (out : List ByteArray), (t.coll out).length ≤ out.length + t.size
  | .mk n l, out => by
    have h1 := addP_len n out
    have h2 := colls_len l (addP n out)
    rw [Ty.coll, Ty.size]; omega
theorem colls_len : ∀ (l : List Ty) (out : List ByteArray), (colls l out).length ≤ out.length + sizes l
  | [], out => by simp [colls, sizes]
  | t :: r, out => by
    have h1 := Ty.coll_len t out
    have h2 := colls_len r (t.coll out)
    rw [colls, sizes]; omega
end

end Go.Proofs.Ytcoagkfjdpdohaa.Sx
