/- TYPES: when two are the same. -/
import Derived.Test.YtcoagkfjdpdohaaTyDLo
namespace Go.Proofs.Ytcoagkfjdpdohaa.Sx
open Go
set_option maxRecDepth 1000000
set_option linter.unusedSimpArgs false
set_option linter.unusedVariables false

mutual
def Ty.same : Ty → Ty → Bool
  | .mk n l, .mk m k => decide (n = m) && sames l k
def sames : List Ty → List Ty → Bool
  | [], [] => true
  | t :: r, u :: s => t.same u && sames r s
  | [], _ :: _ => false
  | _ :: _, [] => false
end
theorem Ty.same_eq (t u : Ty) : t.same u = (decide (t.name = u.name) && sames t.args u.args) := by cases t; cases u; rfl
theorem sames_len : ∀ {l k : List Ty}, l.length ≠ k.length → sames l k = false
  | [], [], h => absurd rfl h
  | t :: r, u :: s, h => by simp only [sames, sames_len (l := r) (k := s) (fun e => h (by simp [e])), Bool.and_false]
  | [], _ :: _, _ => rfl
  | _ :: _, [], _ => rfl
mutual
theorem Ty.same_iff : ∀ t u : Ty, t.same u = true ↔ t = u
  | .mk n l, .mk m k => by rw [Ty.same, Bool.and_eq_true, decide_eq_true_eq, sames_iff l k, Ty.mk.injEq]
theorem sames_iff : ∀ l k : List Ty, sames l k = true ↔ l = k
  | [], [] => by simp [sames]
  | t :: r, u :: s => by rw [sames, Bool.and_eq_true, t.same_iff u, sames_iff r s, List.cons.injEq]
  | [], _ :: _ => by simp [sames]
  | _ :: _, [] => by simp [sames]
end

theorem ClT2 (t u : Ty) : ∀ x ∈ [avT t, avT u], Cl x := fun x h => by
  rcases List.mem_cons.1 h with rfl | h
  · exact ClT t
  · rw [List.mem_singleton.1 h]; exact ClT u
theorem ClTs2 (t u : List Ty) : ∀ x ∈ [avTs t, avTs u], Cl x := fun x h => by
  rcases List.mem_cons.1 h with rfl | h
  · exact ClTs t
  · rw [List.mem_singleton.1 h]; exact ClTs u

section
variable {call : CallT} (hc : Lim G call)
include hc

theorem sames_cc (l k : List Ty) (hl : l.length ≤ 9223372036854775807) (h : ∀ t ∈ l, ∀ u, CC call 51 [avT t, avT u] (.bool (t.same u))) : CC call 74 [avTs l, avTs k] (.bool (sames l k)) := by
  intro lo M
  obtain ⟨nl, hG, hN⟩ : ∃ nl, G.nl = nl ∧ nl = 18446744073709551616 := ⟨_, rfl, rfl⟩
  rw [q74 hc, hG]
  clear hG
  have loop : ∀ (r s : List Ty) (i f : Nat) (M : MM), l.drop i = r → k.drop i = s → r.length = s.length → r.length < f →
      Wp (b74_5 call nl lo f (avTs l) (avTs k) (.i i) M) (Ans (.bool (sames r s)) M) := by
    intro r
    induction r with
    | nil =>
      intro s i f M hd he hrs hf
      obtain ⟨f, rfl⟩ : ∃ k, f = k + 1 := ⟨f - 1, by simp only [List.length_nil] at hf; omega⟩
      have := drop_nil hd
      have hs : s = [] := List.eq_nil_of_length_eq_zero hrs.symm
      subst hs
      unfold b74_5
      repeat (first | (with_reducible (first | refine rn_lenT ?_ | refine rn_if_f ?_)) | ((with_reducible refine rn_lss_f ?_ ?_); focus omega))
      exact rn_ans
    | cons x r ih =>
      intro s i f M hd he hrs hf
      match s, he, hrs with
      | y :: s, he, hrs =>
        simp only [List.length_cons] at hf hrs
        obtain ⟨f, rfl⟩ : ∃ k, f = k + 1 := ⟨f - 1, by omega⟩
        obtain ⟨hi, hd'⟩ := drop_cons hd
        obtain ⟨hi2, he'⟩ := drop_cons he
        have hx : x ∈ l := List.drop_subset i l (by rw [hd]; simp)
        unfold b74_5
        repeat (first | (with_reducible (first | refine rn_lenT ?_ | refine rn_ixD hd ?_ | refine rn_ixD he ?_ | refine rn_ldT ?_ | refine rn_pcc (h x hx y) (fz_b _) (ClT2 _ _) ?_ | refine rn_bumpa ?_ | refine rn_if_t ?_)) | ((with_reducible refine rn_lss_t ?_ ?_); focus omega))
        refine rn_not ?_
        simp only [sames]
        cases hxy : x.same y
        · refine rn_if_t ?_
          exact rn_ans
        · refine rn_if_f ?_
          repeat (first | ((with_reducible refine rn_add64 ?_ ?_); focus omega))
          simp only [Bool.true_and]
          exact ih s (i + 1) f _ hd' he' (by omega) (by omega)
  unfold s74
  repeat (first | (with_reducible (first | refine rn_lenT ?_)))
  refine rn_neq ?_
  refine rn_if (fun hne => ?_) (fun he => ?_)
  · exact rn_ans' (by rw [sames_len (by omega)])
  · exact loop l k 0 nl M rfl rfl (by omega) (by omega)

theorem sameType_cc : ∀ (n : Nat) (t u : Ty), t.size ≤ n → n ≤ 9223372036854775807 → CC call 51 [avT t, avT u] (.bool (t.same u)) := by
  intro n
  induction n with
  | zero => intro t _ h; have := t.size_pos; omega
  | succ n ih =>
    intro t u h hn lo M
    have hs := t.size_eq
    have hlen := sizes_len t.args
    have hl := sames_cc hc t.args u.args (by omega) (fun x hx v => ih x v (by have := size_mem hx; omega) (by omega))
    rw [q51 hc]
    unfold s51
    repeat (first | (with_reducible (first | refine rn_aggT ?_ | refine rn_noT ?_ | refine rn_nameT ?_ | refine rn_upa ?_)))
    refine rn_eqS ?_
    rw [Ty.same_eq]
    cases hnm : decide (t.name = u.name)
    · repeat (first | (with_reducible (first | refine rn_gp_ft ?_ | refine rn_pf ?_)))
      exact rn_ans
    · repeat (first | (with_reducible (first | refine rn_noT ?_ | refine rn_argsT ?_ | refine rn_pcc hl (fz_b _) (ClTs2 _ _) ?_ | refine rn_gp_tt ?_ | refine rn_pt ?_)))
      exact rn_ans' (by rw [Bool.true_and])
end
end Go.Proofs.Ytcoagkfjdpdohaa.Sx
