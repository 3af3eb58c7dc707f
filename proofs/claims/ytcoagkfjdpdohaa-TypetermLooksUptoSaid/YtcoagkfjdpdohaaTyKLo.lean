/- TYPES: names: built in, parameters; closed types. -/
import Derived.Test.YtcoagkfjdpdohaaTyGLo
namespace Go.Proofs.Ytcoagkfjdpdohaa.Sx
open Go
set_option maxRecDepth 1000000
set_option linter.unusedSimpArgs false
set_option linter.unusedVariables false

def builtin (s : ByteArray) : Bool := decide (s = ⟨⟨[73, 110, 116]⟩⟩) || decide (s = ⟨⟨[66, 121, 116, 101]⟩⟩) || decide (s = ⟨⟨[66, 111, 111, 108]⟩⟩) || decide (s = ⟨⟨[65, 114, 114, 97, 121]⟩⟩)
/-- A full stop stands in a name. -/
def dotB (s : ByteArray) : Bool := decide (0 ≤ Lib.indexByte s.data.toList 46)
def param (s : ByteArray) : Bool := !builtin s && !dotB s
mutual
def Ty.closed : Ty → Bool
  | .mk n l => !param n && closeds l
def closeds : List Ty → Bool
  | [] => true
  | t :: r => t.closed && closeds r
end
theorem Ty.closed_eq (t : Ty) : t.closed = (!param t.name && closeds t.args) := by cases t; simp only [Ty.closed, Ty.name, Ty.args]
/-- The place of the first type that is not closed. -/
def openIx : List Ty → Nat → Int
  | [], _ => -1
  | t :: r, i => if t.closed then openIx r (i + 1) else i
theorem openIx_closed : ∀ (l : List Ty) (i : Nat), decide (0 ≤ openIx l i) = !closeds l
  | [], i => rfl
  | t :: r, i => by
    by_cases h : t.closed = true
    · have e : openIx (t :: r) i = openIx r (i + 1) := by simp only [openIx, if_pos h]
      simp only [e, closeds, h, Bool.true_and]; exact openIx_closed r (i + 1)
    · have e : openIx (t :: r) i = i := by simp only [openIx, if_neg h]
      simp only [e, closeds, Bool.eq_false_iff.2 h]; simp

section
variable {call : CallT} (hc : Lim G call)
include hc

theorem lindex_cc (a : ByteArray) (c : UInt8) : CC call 86 [.str a, .str ⟨⟨[c]⟩⟩] (.i (Lib.indexByte a.data.toList c)) := by
  intro lo M
  rw [hc.prim rfl]
  exact rn_ans
theorem sindex_cc (a : ByteArray) (c : UInt8) : CC call 79 [.str a, .str ⟨⟨[c]⟩⟩] (.i (Lib.indexByte a.data.toList c)) := by
  intro lo M
  rw [q79 hc]
  unfold s79
  refine rn_pcc (lindex_cc hc a c) (fz_i _) (by simp [ClStr]) ?_
  exact rn_ans
theorem scontains_cc (a : ByteArray) : CC call 61 [.str a, .str ⟨⟨[46]⟩⟩] (.bool (dotB a)) := by
  intro lo M
  rw [q61 hc]
  unfold s61
  refine rn_pcc (sindex_cc hc a 46) (fz_i _) (by simp [ClStr]) ?_
  refine rn_geq ?_
  exact rn_ans
theorem Builtin_cc (s : ByteArray) : CC call 37 [.str s] (.bool (builtin s)) := by
  intro lo M
  rw [q37 hc]
  unfold s37 builtin
  refine rn_eqS ?_
  cases decide (s = ⟨⟨[73, 110, 116]⟩⟩)
  · repeat (first | (with_reducible (first | refine rn_some ?_ | refine rn_gp_ff ?_)))
    refine rn_eqS ?_
    cases decide (s = ⟨⟨[66, 121, 116, 101]⟩⟩)
    · repeat (first | (with_reducible (first | refine rn_some ?_ | refine rn_gp_ff ?_ | refine rn_pf ?_)))
      refine rn_eqS ?_
      cases decide (s = ⟨⟨[66, 111, 111, 108]⟩⟩)
      · repeat (first | (with_reducible (first | refine rn_some ?_ | refine rn_gp_ff ?_ | refine rn_pf ?_)))
        refine rn_eqS ?_
        repeat (first | (with_reducible (first | refine rn_pf ?_)))
        exact rn_ans
      · repeat (first | (with_reducible (first | refine rn_gp_tf ?_ | refine rn_pt ?_ | refine rn_pf ?_)))
        exact rn_ans
    · repeat (first | (with_reducible (first | refine rn_gp_tf ?_ | refine rn_pt ?_ | refine rn_pf ?_)))
      exact rn_ans
  · repeat (first | (with_reducible (first | refine rn_gp_tf ?_ | refine rn_pt ?_)))
    exact rn_ans
theorem RBuiltin_cc (s : ByteArray) : CC call 38 [.str s] (.bool (builtin s)) := by
  intro lo M
  rw [q38 hc]
  unfold s38 builtin
  refine rn_eqS ?_
  cases decide (s = ⟨⟨[73, 110, 116]⟩⟩)
  · repeat (first | (with_reducible (first | refine rn_some ?_ | refine rn_gp_ff ?_)))
    refine rn_eqS ?_
    cases decide (s = ⟨⟨[66, 121, 116, 101]⟩⟩)
    · repeat (first | (with_reducible (first | refine rn_some ?_ | refine rn_gp_ff ?_ | refine rn_pf ?_)))
      refine rn_eqS ?_
      cases decide (s = ⟨⟨[66, 111, 111, 108]⟩⟩)
      · repeat (first | (with_reducible (first | refine rn_some ?_ | refine rn_gp_ff ?_ | refine rn_pf ?_)))
        refine rn_eqS ?_
        repeat (first | (with_reducible (first | refine rn_pf ?_)))
        exact rn_ans
      · repeat (first | (with_reducible (first | refine rn_gp_tf ?_ | refine rn_pt ?_ | refine rn_pf ?_)))
        exact rn_ans
    · repeat (first | (with_reducible (first | refine rn_gp_tf ?_ | refine rn_pt ?_ | refine rn_pf ?_)))
      exact rn_ans
  · repeat (first | (with_reducible (first | refine rn_gp_tf ?_ | refine rn_pt ?_)))
    exact rn_ans
theorem param_cc (s : ByteArray) : CC call 58 [.str s] (.bool (param s)) := by
  intro lo M
  rw [q58 hc]
  unfold s58 param
  refine rn_pcc (Builtin_cc hc s) (fz_b _) (by simp [ClStr]) ?_
  cases builtin s
  · repeat (first | (with_reducible (first | refine rn_pcc (scontains_cc hc s) (fz_b _) (by simp [ClStr]) ?_ | refine rn_some ?_ | refine rn_gp_tt ?_ | refine rn_not_f ?_)))
    refine rn_not ?_
    repeat (first | (with_reducible (first | refine rn_pt ?_)))
    exact rn_ans
  · repeat (first | (with_reducible (first | refine rn_gp_ft ?_ | refine rn_pf ?_ | refine rn_not_t ?_)))
    exact rn_ans

theorem indexFunc_cc (l : List Ty) (hl : l.length ≤ 9223372036854775807) (h : ∀ t ∈ l, CC call 60 [avT t] (.bool !t.closed)) : CC call 78 [avTs l, .fn 60 [] []] (.i (openIx l 0)) := by
  intro lo M
  obtain ⟨nl, hG, hN⟩ : ∃ nl, G.nl = nl ∧ nl = 18446744073709551616 := ⟨_, rfl, rfl⟩
  rw [q78 hc, hG]
  clear hG
  have loop : ∀ (r : List Ty) (i f : Nat) (M : MM), l.drop i = r → r.length < f →
      Wp (b78_4 call nl lo f (avTs l) (.fn 60 [] []) (.i l.length) (.i i) M) (Ans (.i (openIx r i)) M) := by
    intro r
    induction r with
    | nil =>
      intro i f M hd hf
      obtain ⟨f, rfl⟩ : ∃ k, f = k + 1 := ⟨f - 1, by simp only [List.length_nil] at hf; omega⟩
      have := drop_nil hd
      unfold b78_4
      repeat (first | (with_reducible (first | refine rn_if_f ?_)) | ((with_reducible refine rn_lss_f ?_ ?_); focus omega))
      exact rn_ans
    | cons x r ih =>
      intro i f M hd hf
      simp only [List.length_cons] at hf
      obtain ⟨f, rfl⟩ : ∃ k, f = k + 1 := ⟨f - 1, by omega⟩
      obtain ⟨hi, hd'⟩ := drop_cons hd
      have hx : x ∈ l := List.drop_subset i l (by rw [hd]; simp)
      unfold b78_4
      repeat (first | (with_reducible (first | refine rn_ldT ?_ | refine rn_ixD hd ?_ | refine rn_if_t ?_)) | ((with_reducible refine rn_lss_t ?_ ?_); focus omega))
      refine rn_pcw rfl rfl rfl (h x hx) (fz_b _) (ClT1 _) ?_
      simp only [openIx]
      cases hxy : x.closed
      · refine rn_if_t ?_
        exact rn_ans
      · refine rn_if_f ?_
        repeat (first | ((with_reducible refine rn_add64 ?_ ?_); focus omega))
        exact ih (i + 1) f _ hd' (by omega)
  unfold s78
  repeat (first | (with_reducible (first | refine rn_lenT ?_)))
  exact loop l 0 nl M rfl (by omega)

theorem closed_cc : ∀ (n : Nat) (t : Ty), t.size ≤ n → n ≤ 9223372036854775807 → CC call 27 [avT t] (.bool t.closed) := by
  intro n
  induction n with
  | zero => intro t h; have := t.size_pos; omega
  | succ n ih =>
    intro t h hn lo M
    have hs := t.size_eq
    have hlen := sizes_len t.args
    have hF : ∀ x ∈ t.args, CC call 60 [avT x] (.bool !x.closed) := fun x hx lo M => by
      have := size_mem hx
      rw [q60 hc]
      unfold s60
      repeat (first | (with_reducible (first | refine rn_aggT ?_ | refine rn_allT ?_ | refine rn_pcc (ih x (by omega) (by omega)) (fz_b _) (ClT1 _) ?_ | refine rn_upa ?_)))
      refine rn_not ?_
      exact rn_ans
    have hI := indexFunc_cc hc t.args (by omega) hF
    have hC : CC call 59 [avTs t.args, .fn 60 [] []] (.bool !(closeds t.args)) := fun lo M => by
      rw [q59 hc]
      unfold s59
      refine rn_cc hI (fun M1 => ?_)
      refine rn_geq ?_
      exact rn_ans' (by rw [openIx_closed])
    rw [q27 hc]
    unfold s27
    repeat (first | (with_reducible (first | refine rn_aggT ?_ | refine rn_noT ?_ | refine rn_nameT ?_ | refine rn_pcc (param_cc hc t.name) (fz_b _) (by simp [ClStr]) ?_ | refine rn_upa ?_)))
    rw [t.closed_eq]
    cases param t.name
    · repeat (first | (with_reducible (first | refine rn_noT ?_ | refine rn_argsT ?_)) | ((with_reducible refine rn_cc hC ?_); intro M') | (with_reducible (first | refine rn_gtt ?_ | refine rn_gp_tt ?_ | refine rn_not_f ?_)))
      refine rn_not ?_
      repeat (first | (with_reducible (first | refine rn_pt ?_)))
      exact rn_ans' (by rw [Bool.not_not]; rfl)
    · repeat (first | (with_reducible (first | refine rn_gft ?_ | refine rn_gp_ft ?_ | refine rn_pf ?_ | refine rn_not_t ?_)))
      exact rn_ans
end
end Go.Proofs.Ytcoagkfjdpdohaa.Sx
