/- TYPES: when two are the same, in the program. -/
import Derived.Test.YtcoagkfjdpdohaaTyELo
import Derived.Test.YtcoagkfjdpdohaaTyCLo
namespace Go.Proofs.Ytcoagkfjdpdohaa.Sx
open Go
set_option maxRecDepth 1000000
set_option linter.unusedSimpArgs false
set_option linter.unusedVariables false

theorem rn_pcw {R : Type} {r : R → Prop} {call : CallT} {mode : FuncId → Mode} {draw : Bool} {lo : Nat} {lim : Lm} {fresh : Nat} {ρ : List AV} {M : MM} {no : List FuncId} {f : FuncId} {as0 bs as1 : List AV} {args : List X} {w : AV} {k : AV → MM → Option R}
    (hm : mode f = .pure) (hno : no.contains f = false) (ha : as0 ++ args.map (ev ρ) ++ bs = as1) (h : CC call f as1 w) (hf : ∀ m, freeze m 0 w = some w) (hs : ∀ x ∈ as1, Cl x) (hk : Wp (k w M) r) : Wp (bnd (istep call mode draw lo lim fresh (.callw no (.k (.fn f as0 bs)) args) ρ M) k) r := by
  subst ha
  exact rn_callwp hm hno (rn_pcc h hf hs hk)

section
variable {call : CallT} (hc : Lim G call)
include hc

theorem equalFunc_cc (l k : List Ty) (hl : l.length ≤ 9223372036854775807) (h : ∀ t ∈ l, ∀ u, CC call 14 [avT t, avT u] (.bool (t.same u))) : CC call 41 [avTs l, avTs k, .fn 14 [] []] (.bool (sames l k)) := by
  intro lo M
  obtain ⟨nl, hG, hN⟩ : ∃ nl, G.nl = nl ∧ nl = 18446744073709551616 := ⟨_, rfl, rfl⟩
  rw [q41 hc, hG]
  clear hG
  have loop : ∀ (r s : List Ty) (i f : Nat) (M : MM), l.drop i = r → k.drop i = s → r.length = s.length → r.length < f →
      Wp (b41_5 call nl lo f (avTs k) (.fn 14 [] []) (avTs l) (.i l.length) (.i i) M) (Ans (.bool (sames r s)) M) := by
    intro r
    induction r with
    | nil =>
      intro s i f M hd he hrs hf
      obtain ⟨f, rfl⟩ : ∃ k, f = k + 1 := ⟨f - 1, by simp only [List.length_nil] at hf; omega⟩
      have := drop_nil hd
      have hs : s = [] := List.eq_nil_of_length_eq_zero hrs.symm
      subst hs
      unfold b41_5
      repeat (first | (with_reducible (first | refine rn_if_f ?_)) | ((with_reducible refine rn_lss_f ?_ ?_); focus omega))
      exact rn_ans
    | cons x r ih =>
      intro s i f M hd he hrs hf
      match s, he, hrs with
      | y :: s, he, hrs =>
        simp only [List.length_cons] at hf hrs
        obtain ⟨f, rfl⟩ : ∃ k, f = k + 1 := ⟨f - 1, by omega⟩
        obtain ⟨hi, hd'⟩ := drop_cons hd
        obtain ⟨hi2, he'⟩ := drop_cons he
        have hx : x ∈ l := List.drop_subset i l (by rw [hd]; simp)
        unfold b41_5
        repeat (first | (with_reducible (first | refine rn_ldT ?_ | refine rn_setT ?_ | refine rn_allT ?_ | refine rn_ixD hd ?_ | refine rn_ixD he ?_ | refine rn_upa ?_ | refine rn_if_t ?_)) | ((with_reducible refine rn_lss_t ?_ ?_); focus omega))
        refine rn_pcw rfl rfl rfl (h x hx y) (fz_b _) (ClT2 _ _) ?_
        refine rn_not ?_
        simp only [sames]
        cases hxy : x.same y
        · refine rn_if_t ?_
          exact rn_ans
        · refine rn_if_f ?_
          repeat (first | ((with_reducible refine rn_add64 ?_ ?_); focus omega))
          simp only [Bool.true_and]
          exact ih s (i + 1) f _ hd' he' (by omega) (by omega)
  unfold s41
  repeat (first | (with_reducible (first | refine rn_lenT ?_)))
  refine rn_neq ?_
  refine rn_if (fun hne => ?_) (fun he => ?_)
  · exact rn_ans' (by rw [sames_len (by omega)])
  · exact loop l k 0 nl M rfl rfl (by omega) (by omega)

theorem same_cc : ∀ (n : Nat) (t u : Ty), t.size ≤ n → n ≤ 9223372036854775807 → CC call 14 [avT t, avT u] (.bool (t.same u)) := by
  intro n
  induction n with
  | zero => intro t _ h; have := t.size_pos; omega
  | succ n ih =>
    intro t u h hn lo M
    have hs := t.size_eq
    have hlen := sizes_len t.args
    have hl := equalFunc_cc hc t.args u.args (by omega) (fun x hx v => ih x v (by have := size_mem hx; omega) (by omega))
    rw [q14 hc]
    unfold s14
    repeat (first | (with_reducible (first | refine rn_aggT ?_ | refine rn_noT ?_ | refine rn_nameT ?_ | refine rn_eqS ?_ | refine rn_upa ?_)))
    rw [Ty.same_eq]
    cases hnm : decide (t.name = u.name)
    · repeat (first | (with_reducible (first | refine rn_gft ?_ | refine rn_gp_ft ?_ | refine rn_pf ?_)))
      exact rn_ans
    · repeat (first | (with_reducible (first | refine rn_noT ?_ | refine rn_argsT ?_)) | ((with_reducible refine rn_cc hl ?_); intro M') | (with_reducible (first | refine rn_gtt ?_ | refine rn_gp_tt ?_ | refine rn_pt ?_)))
      exact rn_ans' (by rw [Bool.true_and])

theorem rsame_cc (t u : Ty) (h : t.size ≤ 9223372036854775807) : CC call 20 [avT t, avT u] (.bool (t.same u)) := by
  intro lo M
  rw [q20 hc]
  unfold s20
  repeat (first | (with_reducible (first | refine rn_aggT ?_ | refine rn_allT ?_ | refine rn_pcc (sameType_cc hc _ t u h (Nat.le_refl _)) (fz_b _) (ClT2 _ _) ?_ | exact rn_ans | refine rn_upa ?_)))
end
end Go.Proofs.Ytcoagkfjdpdohaa.Sx
