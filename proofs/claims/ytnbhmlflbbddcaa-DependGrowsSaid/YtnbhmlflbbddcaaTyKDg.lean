/- TYPES: names: built in, parameters; closed types. -/
import Derived.Test.YtnbhmlflbbddcaaTyIDg
namespace Go.Proofs.Ytnbhmlflbbddcaa.Sx
open Go
set_option maxRecDepth 1000000
set_option linter.unusedSimpArgs false
set_option linter.unusedVariables false

def builtin (s : ByteArray) : Bool := decide (s = ⟨⟨[73, 110, 116]⟩⟩) || decide (s = ⟨⟨[66, 121, 116, 101]⟩⟩) || decide (s = ⟨⟨[66, 111, 111, 108]⟩⟩) || decide (s = ⟨⟨[65, 114, 114, 97, 121]⟩⟩)
def dotB (s : ByteArray) : Bool := decide (0 ≤ Lib.indexByte s.data.toList 46)
def param (s : ByteArray) : Bool := !builtin s && !dotB s
mutual
def Ty.closed : Ty → Bool
  | .mk n l => !param n && closeds l
def closeds : List Ty → Bool
  | [] => true
  | t :: r => t.closed && closeds r
end
theorem Ty.closed_eq (t : Ty) : t.closed = (!param t.name && closeds t.args) := by cases t; simp only [Ty.closed, Ty.name, Ty.args]
section
variable {call : CallT} (hc : Lim G call)
include hc

theorem lindex_cc (a : ByteArray) (c : UInt8) : CC call 55 [.str a, .str ⟨⟨[c]⟩⟩] (.i (Lib.indexByte a.data.toList c)) := by
  intro lo M
  rw [hc.prim rfl]
  exact rn_ans
theorem sindex_cc (a : ByteArray) (c : UInt8) : CC call 50 [.str a, .str ⟨⟨[c]⟩⟩] (.i (Lib.indexByte a.data.toList c)) := by
  intro lo M
  rw [q50 hc]
  unfold s50
  refine rn_pcc (lindex_cc hc a c) (fz_i _) (by simp [ClStr]) ?_
  exact rn_ans
theorem scontains_cc (a : ByteArray) : CC call 43 [.str a, .str ⟨⟨[46]⟩⟩] (.bool (dotB a)) := by
  intro lo M
  rw [q43 hc]
  unfold s43
  refine rn_pcc (sindex_cc hc a 46) (fz_i _) (by simp [ClStr]) ?_
  refine rn_geq ?_
  exact rn_ans
theorem Builtin_cc (s : ByteArray) : CC call 23 [.str s] (.bool (builtin s)) := by
  intro lo M
  rw [q23 hc]
  unfold s23 builtin
  refine rn_eqS ?_
  cases decide (s = ⟨⟨[73, 110, 116]⟩⟩)
  · repeat (first | (with_reducible (first | refine rn_some ?_ | refine rn_gp_ff ?_)))
    refine rn_eqS ?_
    cases decide (s = ⟨⟨[66, 121, 116, 101]⟩⟩)
    · repeat (first | (with_reducible (first | refine rn_some ?_ | refine rn_gp_ff ?_ | refine rn_pf ?_)))
      refine rn_eqS ?_
      cases decide (s = ⟨⟨[66, 111, 111, 108]⟩⟩)
      · repeat (first | (with_reducible (first | refine rn_some ?_ | refine rn_gp_ff ?_ | refine rn_pf ?_)))
        refine rn_eqS ?_
        repeat (first | (with_reducible (first | refine rn_pf ?_)))
        exact rn_ans
      · repeat (first | (with_reducible (first | refine rn_gp_tf ?_ | refine rn_pt ?_ | refine rn_pf ?_)))
        exact rn_ans
    · repeat (first | (with_reducible (first | refine rn_gp_tf ?_ | refine rn_pt ?_ | refine rn_pf ?_)))
      exact rn_ans
  · repeat (first | (with_reducible (first | refine rn_gp_tf ?_ | refine rn_pt ?_)))
    exact rn_ans
theorem param_cc (s : ByteArray) : CC call 29 [.str s] (.bool (param s)) := by
  intro lo M
  rw [q29 hc]
  unfold s29 param
  refine rn_pcc (Builtin_cc hc s) (fz_b _) (by simp [ClStr]) ?_
  cases builtin s
  · repeat (first | (with_reducible (first | refine rn_pcc (scontains_cc hc s) (fz_b _) (by simp [ClStr]) ?_ | refine rn_some ?_ | refine rn_gp_tt ?_ | refine rn_not_f ?_)))
    refine rn_not ?_
    repeat (first | (with_reducible (first | refine rn_pt ?_)))
    exact rn_ans
  · repeat (first | (with_reducible (first | refine rn_gp_ft ?_ | refine rn_pf ?_ | refine rn_not_t ?_)))
    exact rn_ans

end
end Go.Proofs.Ytnbhmlflbbddcaa.Sx
