/-
  SX, PART CL: 'slices.Clone', whatever its elements are: the same elements, for slices that are nil too.
-/
import Derived.Test.YtegkhdflmboljaaSxZPl
namespace Go.Proofs.Ytegkhdflmboljaa.Sx
open Go
set_option linter.unusedSimpArgs false

section
variable {P : Program}
/-- The shape of 'slices.Clone'. -/
structure CloneShape (P : Program) (f : FuncId) (sz bytes : Nat) where
  fn : Func
  hf : P.funcs[f]? = some fn
  nm : (fn.name == "runtime.NumGoroutine") = false
  i0 : Nat
  i1 : Nat
  i2 : Nat
  i3 : Nat
  r0 : Array Oper
  o1 : Oper
  o2 : Oper
  r2 : Array Oper
  r3 : Array Oper
  body : fn.body = some (.seq (.region i0 r0 false) (.seq (.seq (.region i1 #[o1, o2] false) (.cond (.tmp 4) (.seq (.region i2 r2 false) .ret) .skip)) (.seq (.region i3 r3 false) .ret)))
  nt : fn.ntmps = 8
  res : fn.results = #[.tmp 2]
  zero : List AV
  hz : zero.length = sz
  e : TypeId
  t : TypeId
  t2 : TypeId
  hu : P.underlying t = some (.slice e)
  c0 : r0.toList.mapM (compOper P [] r0) = some [⟨some 2, none, .mov (.k .nilsl), 0, false⟩]
  c1 : compOper P [] #[o1, o2] o1 = some ⟨some 3, none, .mov (.t 0), 0, false⟩
  d2 : o2.dst = some 4
  g2 : o2.guard = none
  p2 : o2.op = .binOp .eql t (.tmp 3) (.const (.slice none 0 0)) t2
  c2 : r2.toList.mapM (compOper P [] r2) = some [⟨some 2, none, .mov (.k .nilsl), 0, false⟩]
  c3 : r3.toList.mapM (compOper P [] r3) = some [⟨some 5, none, .vsl e 0 sz [] [], 0, false⟩, ⟨some 6, none, .mov (.t 0), 0, false⟩, ⟨some 7, none, .vapp e sz bytes zero (.t 5) (.t 6), 0, false⟩, ⟨some 2, none, .mov (.t 7), 0, false⟩]

theorem CallOK.none (P : Program) : CallOK P (fun _ _ _ _ => none) := fun _ _ _ _ _ _ h => by cases h

/-! ### A closed call, reckoned: true -/
end
end Go.Proofs.Ytegkhdflmboljaa.Sx
