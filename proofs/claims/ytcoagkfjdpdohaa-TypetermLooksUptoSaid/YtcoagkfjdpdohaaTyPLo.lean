/- TYPES: the parameters of a type. -/
import Derived.Test.YtcoagkfjdpdohaaTyKLo
import Derived.Test.YtcoagkfjdpdohaaTyLLo
namespace Go.Proofs.Ytcoagkfjdpdohaa.Sx
open Go
set_option maxRecDepth 1000000
set_option linter.unusedSimpArgs false
set_option linter.unusedVariables false

theorem fz_S (l : List ByteArray) (m : Mem) : freeze m 0 (avS l) = some (avS l) := rfl
def addP (n : ByteArray) (out : List ByteArray) : List ByteArray := if param n && !hasS out n then out ++ [n] else out
mutual
def Ty.coll : Ty → List ByteArray → List ByteArray
  | .mk n l, out => colls l (addP n out)
def colls : List Ty → List ByteArray → List ByteArray
  | [], out => out
  | t :: r, out => colls r (t.coll out)
end
theorem Ty.coll_eq (t : Ty) (out : List ByteArray) : t.coll out = colls t.args (addP t.name out) := by cases t; simp only [Ty.coll, Ty.name, Ty.args]
theorem addP_len (n : ByteArray) (out : List ByteArray) : (addP n out).length ≤ out.length + 1 := by
  unfold addP
  split
  · simp
  · omega
mutual
theorem Ty.coll_len : ∀ (t : Ty) (out : List ByteArray), (t.coll out).length ≤ out.length + t.size
  | .mk n l, out => by
    have h1 := addP_len n out
    have h2 := colls_len l (addP n out)
    rw [Ty.coll, Ty.size]; omega
theorem colls_len : ∀ (l : List Ty) (out : List ByteArray), (colls l out).length ≤ out.length + sizes l
  | [], out => by simp [colls, sizes]
  | t :: r, out => by
    have h1 := Ty.coll_len t out
    have h2 := colls_len r (t.coll out)
    rw [colls, sizes]; omega
end

theorem collect_loop {call : CallT} (l : List Ty) (B : Nat) (hl : l.length ≤ 1000000000000) (h : ∀ x ∈ l, ∀ out, out.length + x.size ≤ B → CC call 57 [avS out, avT x] (avS (x.coll out))) (nl lo : Nat) :
    ∀ (s : List Ty) (i f : Nat) (out : List ByteArray) (M : MM), l.drop i = s → s.length < f → out.length + sizes s ≤ B →
      Wp (b57_5 call nl lo f (avS out) (avTs l) (.i l.length) (.i i) M) (Ans (avS (colls s out)) M) := by
  intro s
  induction s with
  | nil =>
    intro i f out M hd hf ha
    obtain ⟨f, rfl⟩ : ∃ k, f = k + 1 := ⟨f - 1, by simp only [List.length_nil] at hf; omega⟩
    have := drop_nil hd
    unfold b57_5
    repeat (first | (with_reducible (first | refine rn_if_f ?_)) | ((with_reducible refine rn_lss_f ?_ ?_); focus omega))
    exact rn_ans
  | cons x s ih =>
    intro i f out M hd hf ha
    simp only [List.length_cons] at hf
    simp only [sizes] at ha
    obtain ⟨f, rfl⟩ : ∃ k, f = k + 1 := ⟨f - 1, by omega⟩
    obtain ⟨hi, hd'⟩ := drop_cons hd
    have hx : x ∈ l := List.drop_subset i l (by rw [hd]; simp)
    have hcx := h x hx out (by omega)
    have hlen := x.coll_len out
    unfold b57_5
    repeat (first | (with_reducible (first | refine rn_ldT ?_ | refine rn_setT ?_ | refine rn_allT ?_ | refine rn_ixD hd ?_ | refine rn_upa ?_ | refine rn_if_t ?_)) | ((with_reducible refine rn_lss_t ?_ ?_); focus omega))
    refine rn_cc hcx (fun M1 => ?_)
    repeat (first | ((with_reducible refine rn_add64 ?_ ?_); focus omega))
    exact ih (i + 1) f (x.coll out) _ hd' (by omega) (by omega)

section
variable {call : CallT} (hc : Lim G call)
include hc

theorem collect_cc : ∀ (n : Nat) (t : Ty) (out : List ByteArray), t.size ≤ n → n ≤ 1000000000000 → out.length + t.size ≤ 1000000000000 → CC call 57 [avS out, avT t] (avS (t.coll out)) := by
  intro n
  induction n with
  | zero => intro t _ h; have := t.size_pos; omega
  | succ n ihn =>
    intro t out h hn ho lo M
    obtain ⟨nl, hG, hN⟩ : ∃ nl, G.nl = nl ∧ nl = 18446744073709551616 := ⟨_, rfl, rfl⟩
    rw [q57 hc, hG]
    clear hG
    have hs := t.size_eq
    have hlen := sizes_len t.args
    have hcl : ∀ y ∈ [avS out, .str t.name], Cl y := by simp [ClS, ClStr]
    have hbb : (out.length + 1) * 16 ≤ 140737488355328 ∧ out.length + 1 ≤ 9223372036854775807 := by omega
    have loop := collect_loop (call := call) t.args 1000000000000 (by omega) (fun x hx out' ho' => ihn x out' (by have := size_mem hx; omega) (by omega) ho') nl lo t.args 0 nl
    unfold s57
    repeat (first | (with_reducible (first | refine rn_aggT ?_ | refine rn_noT ?_ | refine rn_nameT ?_ | refine rn_pcc (param_cc hc t.name) (fz_b _) (by simp [ClStr]) ?_ | refine rn_upa ?_)))
    rw [t.coll_eq]
    cases hp : param t.name
    · repeat (first | (with_reducible (first | refine rn_noT ?_ | refine rn_argsT ?_ | refine rn_lenT ?_ | refine rn_if_f ?_ | refine rn_gp_ft ?_ | refine rn_pf ?_)))
      have e : addP t.name out = out := by unfold addP; rw [hp]; rfl
      rw [e]
      exact loop out _ rfl (by omega) (by omega)
    · repeat (first | (with_reducible (first | refine rn_noT ?_ | refine rn_nameT ?_ | refine rn_pcc (contains_cc hc out t.name (by omega)) (fz_b _) hcl ?_ | refine rn_some ?_ | refine rn_gp_tt ?_)))
      cases hh : hasS out t.name
      · repeat (first | (with_reducible (first | refine rn_noT ?_ | refine rn_nameT ?_ | refine rn_argsT ?_ | refine rn_lenT ?_ | refine rn_wslS1 ?_ | refine rn_appS hbb ?_ | refine rn_upa ?_ | refine rn_if_t ?_ | refine rn_pt ?_ | refine rn_not_f ?_)))
        have e : addP t.name out = out ++ [t.name] := by unfold addP; rw [hp, hh]; rfl
        rw [e]
        exact loop (out ++ [t.name]) _ rfl (by omega) (by simp only [List.length_append, List.length_cons, List.length_nil]; omega)
      · repeat (first | (with_reducible (first | refine rn_noT ?_ | refine rn_argsT ?_ | refine rn_lenT ?_ | refine rn_if_f ?_ | refine rn_pt ?_ | refine rn_not_t ?_)))
        have e : addP t.name out = out := by unfold addP; rw [hp, hh]; rfl
        rw [e]
        exact loop out _ rfl (by omega) (by omega)

theorem Params_cc (t : Ty) (h : t.size ≤ 1000000000000) : CC call 26 [avT t] (avS (t.coll [])) := by
  intro lo M
  rw [q26 hc]
  unfold s26
  repeat (first | (with_reducible (first | refine rn_aggT ?_ | refine rn_allT ?_ | refine rn_upa ?_)))
  refine rn_cc (collect_cc hc _ t [] (Nat.le_refl _) h (by simpa using h)) (fun M1 => ?_)
  exact rn_ans
end
end Go.Proofs.Ytcoagkfjdpdohaa.Sx
