/- TYPES: replacing names by types. -/
import Derived.Test.YtcoagkfjdpdohaaTyGRe
namespace Go.Proofs.Ytcoagkfjdpdohaa.Sx
open Go
set_option maxRecDepth 1000000
set_option linter.unusedSimpArgs false
set_option linter.unusedVariables false

theorem put_loop {call : CallT} (nm : ByteArray) (ns : List ByteArray) (bs : List Ty) (l : List Ty) (hl : l.length ≤ 1000000000000) (h : ∀ x ∈ l, CC call 47 [avT x, avS ns, avTs bs] (avT (putT ns bs x))) (nl lo : Nat) :
    ∀ (s d : List Ty) (i f : Nat) (M : MM), l.drop i = s → d.length = i → s.length < f → i + s.length = l.length →
      Wp (b47_6 call nl lo f (avS ns) (avTs bs) (.agg [.str ⟨⟨[]⟩⟩, .d (.sl [] 0)]) (avT (.mk nm d)) (avTs l) (.i l.length) (.i i) M) (Ans (avT (.mk nm (d ++ putTs ns bs s))) M) := by
  intro s
  induction s with
  | nil =>
    intro d i f M hd hi hf hil
    obtain ⟨f, rfl⟩ : ∃ k, f = k + 1 := ⟨f - 1, by simp only [List.length_nil] at hf; omega⟩
    have := drop_nil hd
    unfold b47_6
    repeat (first | (with_reducible (first | refine rn_setT ?_ | refine rn_allT ?_ | refine rn_locT ?_ | refine rn_if_f ?_)) | ((with_reducible refine rn_lss_f ?_ ?_); focus omega))
    exact rn_ans' (by rw [putTs, List.append_nil])
  | cons x s ih =>
    intro d i f M hd hi hf hil
    simp only [List.length_cons] at hf hil
    obtain ⟨f, rfl⟩ : ∃ k, f = k + 1 := ⟨f - 1, by omega⟩
    obtain ⟨hi', hd'⟩ := drop_cons hd
    have hx : x ∈ l := List.drop_subset i l (by rw [hd]; simp)
    have hcl : ∀ y ∈ [avT x, avS ns, avTs bs], Cl y := by simp [ClS, ClT, ClTs]
    have hbb : ((Ty.mk nm d).args.length + 1) * 40 ≤ 140737488355328 ∧ (Ty.mk nm d).args.length + 1 ≤ 9223372036854775807 := by simp only [Ty.args]; omega
    unfold b47_6
    repeat (first | (with_reducible (first | refine rn_noT ?_ | refine rn_argsT ?_ | refine rn_ldT ?_ | refine rn_setT ?_ | refine rn_allT ?_ | refine rn_wslT ?_ | refine rn_setA ?_ | refine rn_ixD hd ?_ | refine rn_pcc (h x hx) (fz_T _) hcl ?_ | refine rn_appT hbb ?_ | refine rn_upa ?_ | refine rn_bumpa ?_ | refine rn_if_t ?_)) | ((with_reducible refine rn_add64 ?_ ?_); focus omega) | ((with_reducible refine rn_lss_t ?_ ?_); focus omega))
    have := ih (d ++ [putT ns bs x]) (i + 1) f (((M.up M.nx).bump 10).up ((M.up M.nx).nx + 6) |>.up ((M.up M.nx).nx + 7)) hd' (by simp [hi]) (by omega) (by omega)
    rw [List.append_assoc] at this
    exact this
theorem replace_loop {call : CallT} (nm : ByteArray) (ns : List ByteArray) (bs : List Ty) (l : List Ty) (hl : l.length ≤ 1000000000000) (h : ∀ x ∈ l, CC call 50 [avT x, avS ns, avTs bs] (avT (putT ns bs x))) (nl lo : Nat) :
    ∀ (s d : List Ty) (i f : Nat) (M : MM), l.drop i = s → d.length = i → s.length < f → i + s.length = l.length →
      Wp (b50_6 call nl lo f (avS ns) (avTs bs) (.agg [.str ⟨⟨[]⟩⟩, .d (.sl [] 0)]) (avT (.mk nm d)) (avTs l) (.i l.length) (.i i) M) (Ans (avT (.mk nm (d ++ putTs ns bs s))) M) := by
  intro s
  induction s with
  | nil =>
    intro d i f M hd hi hf hil
    obtain ⟨f, rfl⟩ : ∃ k, f = k + 1 := ⟨f - 1, by simp only [List.length_nil] at hf; omega⟩
    have := drop_nil hd
    unfold b50_6
    repeat (first | (with_reducible (first | refine rn_setT ?_ | refine rn_allT ?_ | refine rn_locT ?_ | refine rn_if_f ?_)) | ((with_reducible refine rn_lss_f ?_ ?_); focus omega))
    exact rn_ans' (by rw [putTs, List.append_nil])
  | cons x s ih =>
    intro d i f M hd hi hf hil
    simp only [List.length_cons] at hf hil
    obtain ⟨f, rfl⟩ : ∃ k, f = k + 1 := ⟨f - 1, by omega⟩
    obtain ⟨hi', hd'⟩ := drop_cons hd
    have hx : x ∈ l := List.drop_subset i l (by rw [hd]; simp)
    have hcl : ∀ y ∈ [avT x, avS ns, avTs bs], Cl y := by simp [ClS, ClT, ClTs]
    have hbb : ((Ty.mk nm d).args.length + 1) * 40 ≤ 140737488355328 ∧ (Ty.mk nm d).args.length + 1 ≤ 9223372036854775807 := by simp only [Ty.args]; omega
    unfold b50_6
    repeat (first | (with_reducible (first | refine rn_noT ?_ | refine rn_argsT ?_ | refine rn_ldT ?_ | refine rn_setT ?_ | refine rn_allT ?_ | refine rn_wslT ?_ | refine rn_setA ?_ | refine rn_ixD hd ?_ | refine rn_pcc (h x hx) (fz_T _) hcl ?_ | refine rn_appT hbb ?_ | refine rn_upa ?_ | refine rn_bumpa ?_ | refine rn_if_t ?_)) | ((with_reducible refine rn_add64 ?_ ?_); focus omega) | ((with_reducible refine rn_lss_t ?_ ?_); focus omega))
    have := ih (d ++ [putT ns bs x]) (i + 1) f (((M.up M.nx).bump 10).up ((M.up M.nx).nx + 6) |>.up ((M.up M.nx).nx + 7)) hd' (by simp [hi]) (by omega) (by omega)
    rw [List.append_assoc] at this
    exact this

section
variable {call : CallT} (hc : Lim G call)
include hc

theorem put_cc (ns : List ByteArray) (bs : List Ty) (hn : ns.length ≤ 1000000000000) (hns : ns.length = bs.length) (hsz : ∀ x ∈ bs, x.size ≤ 1000000000000) : ∀ (n : Nat) (t : Ty), t.size ≤ n → n ≤ 1000000000000 → CC call 47 [avT t, avS ns, avTs bs] (avT (putT ns bs t)) := by
  intro n
  induction n with
  | zero => intro t h; have := t.size_pos; omega
  | succ n ihn =>
    intro t h hn' lo M
    obtain ⟨nl, hG, hN⟩ : ∃ nl, G.nl = nl ∧ nl = 18446744073709551616 := ⟨_, rfl, rfl⟩
    rw [q47 hc, hG]
    clear hG
    have hs := t.size_eq
    have hlen := sizes_len t.args
    have hcl : ∀ y ∈ [avT t, avS ns], Cl y := by simp [ClS, ClT]
    have main : ∀ M : MM, Wp (b47_2 call nl lo (avS ns) (avTs bs) (avT t) (.agg [.str ⟨⟨[]⟩⟩, .d (.sl [] 0)]) M) (Ans (avT (.mk t.name (putTs ns bs t.args))) M) := fun M => by
      repeat (first | (with_reducible (first | refine rn_noT ?_ | refine rn_nameT ?_ | refine rn_upa ?_ | refine rn_mke ?_)) | ((with_reducible refine rn_mk0 ?_ ?_); focus exact ⟨rfl, rfl⟩))
      have := put_loop t.name ns bs t.args (by omega) (fun x hx => ihn x (by have := size_mem hx; omega) (by omega)) nl lo t.args [] 0 nl (M.up M.nx) rfl rfl (by omega) (by omega)
      exact this
    unfold s47
    repeat (first | (with_reducible (first | refine rn_aggT ?_ | refine rn_allT ?_ | refine rn_pcc (replaced_cc hc t ns (by omega)) (fz_i _) hcl ?_ | refine rn_upa ?_)))
    rw [putT_eq, here]
    cases he : t.args.isEmpty
    · simp only [Bool.false_eq_true, if_false]
      refine rn_geq_f (by decide) (rn_if_f ?_)
      exact main _
    · simp only [if_true]
      rcases look_ix0 t.name ns bs hns with ⟨h1, h2⟩ | ⟨k, x, hm, hd, h1, h2⟩
      · rw [h2, h1]
        refine rn_geq_f (by decide) (rn_if_f ?_)
        exact main _
      · rw [h2, h1]
        refine rn_geq_t (by omega) (rn_if_t ?_)
        repeat (first | (with_reducible (first | refine rn_ldT ?_ | refine rn_setT ?_ | refine rn_locT ?_ | refine rn_ixD hd ?_ | refine rn_pcc (clone_cc hc _ x (hsz x hm) (Nat.le_refl _)) (fz_T _) (ClT1 x) ?_ | exact rn_ans)))

theorem replace_cc (ns : List ByteArray) (bs : List Ty) (hn : ns.length ≤ 1000000000000) (hns : ns.length = bs.length) (hsz : ∀ x ∈ bs, x.size ≤ 1000000000000) : ∀ (n : Nat) (t : Ty), t.size ≤ n → n ≤ 1000000000000 → CC call 50 [avT t, avS ns, avTs bs] (avT (putT ns bs t)) := by
  intro n
  induction n with
  | zero => intro t h; have := t.size_pos; omega
  | succ n ihn =>
    intro t h hn' lo M
    obtain ⟨nl, hG, hN⟩ : ∃ nl, G.nl = nl ∧ nl = 18446744073709551616 := ⟨_, rfl, rfl⟩
    rw [q50 hc, hG]
    clear hG
    have hs := t.size_eq
    have hlen := sizes_len t.args
    have hcl : ∀ y ∈ [avS ns, .str t.name], Cl y := by simp [ClS, ClStr]
    have main : ∀ M : MM, Wp (b50_2 call nl lo (avS ns) (avTs bs) (avT t) (.agg [.str ⟨⟨[]⟩⟩, .d (.sl [] 0)]) M) (Ans (avT (.mk t.name (putTs ns bs t.args))) M) := fun M => by
      repeat (first | (with_reducible (first | refine rn_noT ?_ | refine rn_nameT ?_ | refine rn_upa ?_ | refine rn_mke ?_)) | ((with_reducible refine rn_mk0 ?_ ?_); focus exact ⟨rfl, rfl⟩))
      have := replace_loop t.name ns bs t.args (by omega) (fun x hx => ihn x (by have := size_mem hx; omega) (by omega)) nl lo t.args [] 0 nl (M.up M.nx) rfl rfl (by omega) (by omega)
      exact this
    unfold s50
    repeat (first | (with_reducible (first | refine rn_aggT ?_ | refine rn_noT ?_ | refine rn_nameT ?_ | refine rn_pcc (index_cc hc ns t.name (by omega)) (fz_i _) hcl ?_ | refine rn_upa ?_)))
    rw [putT_eq, here]
    rcases look_ix0 t.name ns bs hns with ⟨h1, h2⟩ | ⟨k, x, hm, hd, h1, h2⟩
    · rw [h2, h1, ite_self]
      refine rn_geq_f (by decide) (rn_gp_ft (rn_gp_ft (rn_gp_ft (rn_gp_ft (rn_pf (rn_if_f ?_))))))
      exact main _
    · rw [h2, h1]
      refine rn_geq_t (by omega) ?_
      repeat (first | (with_reducible (first | refine rn_noT ?_ | refine rn_argsT ?_ | refine rn_lenT ?_ | refine rn_gp_tt ?_)))
      cases ha : t.args with
      | nil =>
        refine rn_eql_t rfl ?_
        repeat (first | (with_reducible (first | refine rn_ldT ?_ | refine rn_setT ?_ | refine rn_locT ?_ | refine rn_ixD hd ?_ | refine rn_pcc (copy_cc hc _ x (hsz x hm) (Nat.le_refl _)) (fz_T _) (ClT1 x) ?_ | refine rn_if_t ?_ | refine rn_pt ?_)))
        exact rn_ans
      | cons y r =>
        refine rn_eql_f (by rw [List.length_cons]; omega) (rn_pt (rn_if_f ?_))
        have := main ((M.up M.nx).up (M.up M.nx).nx)
        rw [ha] at this
        exact this
end
end Go.Proofs.Ytcoagkfjdpdohaa.Sx
