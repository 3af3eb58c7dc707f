/- TYPES: copies. -/
import Derived.Test.YtcoagkfjdpdohaaTyBRe
namespace Go.Proofs.Ytcoagkfjdpdohaa.Sx
open Go
set_option maxRecDepth 1000000
set_option linter.unusedSimpArgs false
set_option linter.unusedVariables false

theorem rn_appT {m : Mem} {lim : Lm} {l : List Ty} {t : Ty} {bytes : Nat} {R : Type} {r : R → Prop} {k : AV → Option R} (hb : (l.length + 1) * bytes ≤ 140737488355328 ∧ l.length + 1 ≤ 9223372036854775807) (hk : Wp (k (avTs (l ++ [t]))) r) :
    Wp (opt (wappA m lim 2 bytes (avTs l) (.d (.sl (encT t) 1))) k) r := by
  refine rn_wapp (by rw [encT_len]) hb ?_
  have e : encTs l ++ encT t = encTs (l ++ [t]) := by rw [encTs_append]; simp [encTs]
  have e2 : l.length + 1 = (l ++ [t]).length := by simp
  rw [e, e2]; exact hk
theorem rn_wslT {t : Ty} {a b : AV} {R : Type} {r : R → Prop} {k : AV → Option R} (hk : Wp (k (.d (.sl (encT t) 1))) r) : Wp (opt (wslA 1 (fill [a, b] [(0, 2, avT t)])) k) r := by
  refine rn_wsl (ds := encT t) ?_ hk
  rw [encT_eq]; rfl

theorem rn_setA {t : Ty} {l : List Ty} {R : Type} {r : R → Prop} {k : AV → Option R} (hk : Wp (k (avT (.mk t.name l))) r) : Wp (opt (setcA 1 1 (avT t) (avTs l)) k) r := hk

section
variable {call : CallT} (hc : Lim G call)
include hc

theorem clone_cc : ∀ (n : Nat) (t : Ty), t.size ≤ n → n ≤ 1000000000000 → CC call 55 [avT t] (avT t) := by
  intro n
  induction n with
  | zero => intro t h; have := t.size_pos; omega
  | succ n ih =>
    intro t h hn lo M
    obtain ⟨nl, hG, hN⟩ : ∃ nl, G.nl = nl ∧ nl = 18446744073709551616 := ⟨_, rfl, rfl⟩
    rw [q55 hc, hG]
    clear hG
    have hs := t.size_eq
    have hlen := sizes_len t.args
    have loop : ∀ (s d : List Ty) (i f : Nat) (M : MM), d ++ s = t.args → d.length = i → s.length < f →
        Wp (b55_5 call nl lo f (.agg [.str ⟨⟨[]⟩⟩, .d (.sl [] 0)]) (avT (.mk t.name d)) (avTs t.args) (.i t.args.length) (.i i) M) (Ans (avT t) M) := by
      intro s
      induction s with
      | nil =>
        intro d i f M hd hi hf
        obtain ⟨f, rfl⟩ : ∃ k, f = k + 1 := ⟨f - 1, by simp only [List.length_nil] at hf; omega⟩
        rw [List.append_nil] at hd
        subst hd
        unfold b55_5
        repeat (first | (with_reducible (first | refine rn_allT ?_ | refine rn_setT ?_ | refine rn_locT ?_ | refine rn_if_f ?_)) | ((with_reducible refine rn_lss_f ?_ ?_); focus omega))
        exact rn_ans' (by cases t; rfl)
      | cons x s ihs =>
        intro d i f M hd hi hf
        simp only [List.length_cons] at hf
        obtain ⟨f, rfl⟩ : ∃ k, f = k + 1 := ⟨f - 1, by omega⟩
        have hdrop : t.args.drop i = x :: s := by rw [← hd, ← hi, List.drop_left]
        obtain ⟨hl, hd'⟩ := drop_cons hdrop
        have hx : x.size ≤ n := by
          have h1 := sizes_drop t.args i
          rw [hdrop] at h1; simp only [sizes] at h1; omega
        have hdl : d.length ≤ t.args.length := by rw [← hd]; simp
        have hbb : ((Ty.mk t.name d).args.length + 1) * 40 ≤ 140737488355328 ∧ (Ty.mk t.name d).args.length + 1 ≤ 9223372036854775807 := by simp only [Ty.args]; omega
        unfold b55_5
        repeat (first | (with_reducible (first | refine rn_ixD hdrop ?_ | refine rn_ldT ?_ | refine rn_setT ?_ | refine rn_allT ?_ | refine rn_noT ?_ | refine rn_argsT ?_ | refine rn_pcc (ih x hx (by omega)) (fz_T _) (ClT1 _) ?_ | refine rn_wslT ?_ | refine rn_appT hbb ?_ | refine rn_setA ?_ | refine rn_upa ?_ | refine rn_bumpa ?_ | refine rn_if_t ?_)) | ((with_reducible refine rn_add64 ?_ ?_); focus omega) | ((with_reducible refine rn_lss_t ?_ ?_); focus omega))
        exact ihs (d ++ [x]) (i + 1) f _ (by rw [List.append_assoc]; exact hd) (by simp [hi]) (by omega)
    unfold s55
    repeat (first | (with_reducible (first | refine rn_aggT ?_ | refine rn_noT ?_ | refine rn_nameT ?_ | refine rn_upa ?_ | refine rn_mke ?_)) | ((with_reducible refine rn_mk0 ?_ ?_); focus exact ⟨rfl, rfl⟩))
    exact loop t.args [] 0 nl _ rfl rfl (by omega)
theorem copy_cc : ∀ (n : Nat) (t : Ty), t.size ≤ n → n ≤ 1000000000000 → CC call 73 [avT t] (avT t) := by
  intro n
  induction n with
  | zero => intro t h; have := t.size_pos; omega
  | succ n ih =>
    intro t h hn lo M
    obtain ⟨nl, hG, hN⟩ : ∃ nl, G.nl = nl ∧ nl = 18446744073709551616 := ⟨_, rfl, rfl⟩
    rw [q73 hc, hG]
    clear hG
    have hs := t.size_eq
    have hlen := sizes_len t.args
    have loop : ∀ (s d : List Ty) (i f : Nat) (M : MM), d ++ s = t.args → d.length = i → s.length < f →
        Wp (b73_5 call nl lo f (.agg [.str ⟨⟨[]⟩⟩, .d (.sl [] 0)]) (avT (.mk t.name d)) (avTs t.args) (.i t.args.length) (.i i) M) (Ans (avT t) M) := by
      intro s
      induction s with
      | nil =>
        intro d i f M hd hi hf
        obtain ⟨f, rfl⟩ : ∃ k, f = k + 1 := ⟨f - 1, by simp only [List.length_nil] at hf; omega⟩
        rw [List.append_nil] at hd
        subst hd
        unfold b73_5
        repeat (first | (with_reducible (first | refine rn_allT ?_ | refine rn_setT ?_ | refine rn_locT ?_ | refine rn_if_f ?_)) | ((with_reducible refine rn_lss_f ?_ ?_); focus omega))
        exact rn_ans' (by cases t; rfl)
      | cons x s ihs =>
        intro d i f M hd hi hf
        simp only [List.length_cons] at hf
        obtain ⟨f, rfl⟩ : ∃ k, f = k + 1 := ⟨f - 1, by omega⟩
        have hdrop : t.args.drop i = x :: s := by rw [← hd, ← hi, List.drop_left]
        obtain ⟨hl, hd'⟩ := drop_cons hdrop
        have hx : x.size ≤ n := by
          have h1 := sizes_drop t.args i
          rw [hdrop] at h1; simp only [sizes] at h1; omega
        have hdl : d.length ≤ t.args.length := by rw [← hd]; simp
        have hbb : ((Ty.mk t.name d).args.length + 1) * 40 ≤ 140737488355328 ∧ (Ty.mk t.name d).args.length + 1 ≤ 9223372036854775807 := by simp only [Ty.args]; omega
        unfold b73_5
        repeat (first | (with_reducible (first | refine rn_ixD hdrop ?_ | refine rn_ldT ?_ | refine rn_setT ?_ | refine rn_allT ?_ | refine rn_noT ?_ | refine rn_argsT ?_ | refine rn_pcc (ih x hx (by omega)) (fz_T _) (ClT1 _) ?_ | refine rn_wslT ?_ | refine rn_appT hbb ?_ | refine rn_setA ?_ | refine rn_upa ?_ | refine rn_bumpa ?_ | refine rn_if_t ?_)) | ((with_reducible refine rn_add64 ?_ ?_); focus omega) | ((with_reducible refine rn_lss_t ?_ ?_); focus omega))
        exact ihs (d ++ [x]) (i + 1) f _ (by rw [List.append_assoc]; exact hd) (by simp [hi]) (by omega)
    unfold s73
    repeat (first | (with_reducible (first | refine rn_aggT ?_ | refine rn_noT ?_ | refine rn_nameT ?_ | refine rn_upa ?_ | refine rn_mke ?_)) | ((with_reducible refine rn_mk0 ?_ ?_); focus exact ⟨rfl, rfl⟩))
    exact loop t.args [] 0 nl _ rfl rfl (by omega)
end
end Go.Proofs.Ytcoagkfjdpdohaa.Sx
