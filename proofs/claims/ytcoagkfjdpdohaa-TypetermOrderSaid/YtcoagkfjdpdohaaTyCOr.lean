/- TYPES: copies. -/
import Derived.Test.YtcoagkfjdpdohaaTyBOr
namespace Go.Proofs.Ytcoagkfjdpdohaa.Sx
open Go
set_option maxRecDepth 1000000
set_option linter.unusedSimpArgs false
set_option linter.unusedVariables false

theorem rn_appT {m : Mem} {lim : Lm} {l : List Ty} {t : Ty} {bytes : Nat} {R : Type} {r : R → Prop} {k : AV → Option R} (hb : (l.length + 1) * bytes ≤ 140737488355328 ∧ l.length + 1 ≤ 9223372036854775807) (hk : Wp (k (avTs (l ++ [t]))) r) :
    Wp (opt (wappA m lim 2 bytes (avTs l) (.d (.sl (encT t) 1))) k) r := by
  refine rn_wapp (by rw [encT_len]) hb ?_
  have e : encTs l ++ encT t = encTs (l ++ [t]) := by rw [encTs_append]; simp [encTs]
  have e2 : l.length + 1 = (l ++ [t]).length := by simp
  rw [e, e2]; exact hk
theorem rn_wslT {t : Ty} {a b : AV} {R : Type} {r : R → Prop} {k : AV → Option R} (hk : Wp (k (.d (.sl (encT t) 1))) r) : Wp (opt (wslA 1 (fill [a, b] [(0, 2, avT t)])) k) r := by
  refine rn_wsl (ds := encT t) ?_ hk
  rw [encT_eq]; rfl

theorem rn_setA {t : Ty} {l : List Ty} {R : Type} {r : R → Prop} {k : AV → Option R} (hk : Wp (k (avT (.mk t.name l))) r) : Wp (opt (setcA 1 1 (avT t) (avTs l)) k) r := hk

section
variable {call : CallT} (hc : Lim G call)
include hc

theorem clone_cc : ∀ (n : Nat) (t : Ty), t.size ≤ n → n ≤ 1000000000000 → CC call 55 [avT t] (avT t) := by
  intro n
  induction n with
  | zero => intro t h; have := t.size_pos; omega
  | succ n ih =>
    intro t h hn lo M
    obtain ⟨nl, hG, hN⟩ : ∃ nl, G.nl = nl ∧ nl = 18446744073709551616 := ⟨_, rfl, rfl⟩
    rw [q55 hc, hG]
    clear hG
    have hs := t.size_eq
    have hlen := sizes_len t.args
    have loop : ∀ (s d : List Ty) (i f : Nat) (M : MM), d ++ s = t.args → d.length = i → s.length < f →
        Wp (b55_5 call nl lo f (.agg [.str ⟨⟨[]⟩⟩, .d (.sl [] 0)]) (avT (.mk t.name d)) (avTs t.args) (.i t.args.length) (.i i) M) (Ans (avT t) M) := by
      intro s
      induction s with
      | nil =>
        intro d i f M hd hi hf
        obtain ⟨f, rfl⟩ : ∃ k, f = k + 1 := ⟨f - 1, by simp only [List.length_nil] at hf; omega⟩
        rw [List.append_nil] at hd
        subst hd
        unfold b55_5
        repeat (first | (with_reducible (first | refine rn_allT ?_ | refine rn_setT ?_ | refine rn_locT ?_ | exact rn_ans | refine rn_upa ?_ | refine rn_bumpa ?_ | refine rn_bsome ?_ | refine rn_some ?_ | refine rn_if_t ?_ | refine rn_if_f ?_ | refine rn_gtt ?_ | refine rn_gff ?_ | refine rn_gtf ?_ | refine rn_gft ?_ | refine rn_gun ?_ | refine rn_gp_tt ?_ | refine rn_gp_ff ?_ | refine rn_gp_tf ?_ | refine rn_gp_ft ?_ | refine rn_gp_un ?_ | refine rn_agg ?_ | refine rn_aggd ?_ | refine rn_aggo ?_ | refine rn_fld00 ?_ | refine rn_mke ?_)) | ((with_reducible refine rn_fld ?_ ?_); focus exact rfl) | ((with_reducible refine rn_fldall ?_ ?_); focus exact rfl) | ((with_reducible refine rn_setcall ?_ ?_ ?_ ?_); focus exact rfl; focus exact rfl; focus exact rfl) | ((with_reducible refine rn_loc ?_ ?_); focus exact rfl) | ((with_reducible refine rn_set0 ?_ ?_); focus exact ⟨rfl, rfl⟩) | ((with_reducible refine rn_set1 ?_ ?_); focus exact ⟨rfl, rfl⟩) | ((with_reducible refine rn_mk0 ?_ ?_); focus exact ⟨rfl, rfl⟩) | ((with_reducible refine rn_mk1 ?_ ?_); focus exact ⟨rfl, rfl⟩) | ((with_reducible refine rn_res2 ?_ ?_ ?_); focus (first | exact locA_all rfl | exact rfl); focus (first | exact locA_all rfl | exact rfl)) | (with_reducible (first | refine rn_mmax ?_ | refine rn_pt ?_ | refine rn_pf ?_ | refine rn_eqb_tt ?_ | refine rn_eqb_ff ?_ | refine rn_eqb_tf ?_ | refine rn_eqb_ft ?_ | refine rn_neb_tt ?_ | refine rn_neb_ff ?_ | refine rn_neb_tf ?_ | refine rn_neb_ft ?_ | refine rn_not_t ?_ | refine rn_not_f ?_ | refine rn_ext0 ?_ | refine rn_ext1 ?_ | refine rn_ext2 ?_ | refine rn_len_sl ?_ | refine rn_len_nil ?_ | refine rn_len_os ?_ | refine rn_lens ?_ | refine rn_nilc ?_ | refine rn_nilci ?_ | refine rn_fad ?_ | refine rn_fadi ?_ | refine rn_ldi ?_)) | ((with_reducible refine rn_add64 ?_ ?_); focus omega) | ((with_reducible refine rn_sub64 ?_ ?_); focus omega) | ((with_reducible refine rn_rem ?_ ?_); focus omega) | ((with_reducible refine rn_eql_t ?_ ?_); focus omega) | ((with_reducible refine rn_eql_f ?_ ?_); focus omega) | ((with_reducible refine rn_neq_t ?_ ?_); focus omega) | ((with_reducible refine rn_neq_f ?_ ?_); focus omega) | ((with_reducible refine rn_lss_t ?_ ?_); focus omega) | ((with_reducible refine rn_lss_f ?_ ?_); focus omega) | ((with_reducible refine rn_leq_t ?_ ?_); focus omega) | ((with_reducible refine rn_leq_f ?_ ?_); focus omega) | ((with_reducible refine rn_gtr_t ?_ ?_); focus omega) | ((with_reducible refine rn_gtr_f ?_ ?_); focus omega) | ((with_reducible refine rn_geq_t ?_ ?_); focus omega) | ((with_reducible refine rn_geq_f ?_ ?_); focus omega) | ((with_reducible refine rn_cvi64 ?_ ?_); focus omega) | ((with_reducible refine rn_ixs ?_ ?_); focus omega) | ((with_reducible refine rn_ixsl ?_ ?_); focus omega))
        exact rn_ans' (by cases t; rfl)
      | cons x s ihs =>
        intro d i f M hd hi hf
        simp only [List.length_cons] at hf
        obtain ⟨f, rfl⟩ : ∃ k, f = k + 1 := ⟨f - 1, by omega⟩
        have hdrop : t.args.drop i = x :: s := by rw [← hd, ← hi, List.drop_left]
        obtain ⟨hl, hd'⟩ := drop_cons hdrop
        have hx : x.size ≤ n := by
          have h1 := sizes_drop t.args i
          rw [hdrop] at h1; simp only [sizes] at h1; omega
        have hdl : d.length ≤ t.args.length := by rw [← hd]; simp
        have hbb : ((Ty.mk t.name d).args.length + 1) * 40 ≤ 140737488355328 ∧ (Ty.mk t.name d).args.length + 1 ≤ 9223372036854775807 := by simp only [Ty.args]; omega
        unfold b55_5
        repeat (first | (with_reducible (first | refine rn_ixD hdrop ?_ | refine rn_ldT ?_ | refine rn_setT ?_ | refine rn_allT ?_ | refine rn_noT ?_ | refine rn_argsT ?_ | refine rn_pcc (ih x hx (by omega)) (fz_T _) (ClT1 _) ?_ | refine rn_wslT ?_ | refine rn_appT hbb ?_ | refine rn_setA ?_ | exact rn_ans | refine rn_upa ?_ | refine rn_bumpa ?_ | refine rn_bsome ?_ | refine rn_some ?_ | refine rn_if_t ?_ | refine rn_if_f ?_ | refine rn_gtt ?_ | refine rn_gff ?_ | refine rn_gtf ?_ | refine rn_gft ?_ | refine rn_gun ?_ | refine rn_gp_tt ?_ | refine rn_gp_ff ?_ | refine rn_gp_tf ?_ | refine rn_gp_ft ?_ | refine rn_gp_un ?_ | refine rn_agg ?_ | refine rn_aggd ?_ | refine rn_aggo ?_ | refine rn_fld00 ?_ | refine rn_mke ?_)) | ((with_reducible refine rn_fld ?_ ?_); focus exact rfl) | ((with_reducible refine rn_fldall ?_ ?_); focus exact rfl) | ((with_reducible refine rn_setcall ?_ ?_ ?_ ?_); focus exact rfl; focus exact rfl; focus exact rfl) | ((with_reducible refine rn_loc ?_ ?_); focus exact rfl) | ((with_reducible refine rn_set0 ?_ ?_); focus exact ⟨rfl, rfl⟩) | ((with_reducible refine rn_set1 ?_ ?_); focus exact ⟨rfl, rfl⟩) | ((with_reducible refine rn_mk0 ?_ ?_); focus exact ⟨rfl, rfl⟩) | ((with_reducible refine rn_mk1 ?_ ?_); focus exact ⟨rfl, rfl⟩) | ((with_reducible refine rn_res2 ?_ ?_ ?_); focus (first | exact locA_all rfl | exact rfl); focus (first | exact locA_all rfl | exact rfl)) | (with_reducible (first | refine rn_mmax ?_ | refine rn_pt ?_ | refine rn_pf ?_ | refine rn_eqb_tt ?_ | refine rn_eqb_ff ?_ | refine rn_eqb_tf ?_ | refine rn_eqb_ft ?_ | refine rn_neb_tt ?_ | refine rn_neb_ff ?_ | refine rn_neb_tf ?_ | refine rn_neb_ft ?_ | refine rn_not_t ?_ | refine rn_not_f ?_ | refine rn_ext0 ?_ | refine rn_ext1 ?_ | refine rn_ext2 ?_ | refine rn_len_sl ?_ | refine rn_len_nil ?_ | refine rn_len_os ?_ | refine rn_lens ?_ | refine rn_nilc ?_ | refine rn_nilci ?_ | refine rn_fad ?_ | refine rn_fadi ?_ | refine rn_ldi ?_)) | ((with_reducible refine rn_add64 ?_ ?_); focus omega) | ((with_reducible refine rn_sub64 ?_ ?_); focus omega) | ((with_reducible refine rn_rem ?_ ?_); focus omega) | ((with_reducible refine rn_eql_t ?_ ?_); focus omega) | ((with_reducible refine rn_eql_f ?_ ?_); focus omega) | ((with_reducible refine rn_neq_t ?_ ?_); focus omega) | ((with_reducible refine rn_neq_f ?_ ?_); focus omega) | ((with_reducible refine rn_lss_t ?_ ?_); focus omega) | ((with_reducible refine rn_lss_f ?_ ?_); focus omega) | ((with_reducible refine rn_leq_t ?_ ?_); focus omega) | ((with_reducible refine rn_leq_f ?_ ?_); focus omega) | ((with_reducible refine rn_gtr_t ?_ ?_); focus omega) | ((with_reducible refine rn_gtr_f ?_ ?_); focus omega) | ((with_reducible refine rn_geq_t ?_ ?_); focus omega) | ((with_reducible refine rn_geq_f ?_ ?_); focus omega) | ((with_reducible refine rn_cvi64 ?_ ?_); focus omega) | ((with_reducible refine rn_ixs ?_ ?_); focus omega) | ((with_reducible refine rn_ixsl ?_ ?_); focus omega))
        exact ihs (d ++ [x]) (i + 1) f _ (by rw [List.append_assoc]; exact hd) (by simp [hi]) (by omega)
    unfold s55
    repeat (first | (with_reducible (first | refine rn_aggT ?_ | refine rn_noT ?_ | refine rn_nameT ?_ | refine rn_argsT ?_ | refine rn_lenT ?_ | exact rn_ans | refine rn_upa ?_ | refine rn_bumpa ?_ | refine rn_bsome ?_ | refine rn_some ?_ | refine rn_if_t ?_ | refine rn_if_f ?_ | refine rn_gtt ?_ | refine rn_gff ?_ | refine rn_gtf ?_ | refine rn_gft ?_ | refine rn_gun ?_ | refine rn_gp_tt ?_ | refine rn_gp_ff ?_ | refine rn_gp_tf ?_ | refine rn_gp_ft ?_ | refine rn_gp_un ?_ | refine rn_agg ?_ | refine rn_aggd ?_ | refine rn_aggo ?_ | refine rn_fld00 ?_ | refine rn_mke ?_)) | ((with_reducible refine rn_fld ?_ ?_); focus exact rfl) | ((with_reducible refine rn_fldall ?_ ?_); focus exact rfl) | ((with_reducible refine rn_setcall ?_ ?_ ?_ ?_); focus exact rfl; focus exact rfl; focus exact rfl) | ((with_reducible refine rn_loc ?_ ?_); focus exact rfl) | ((with_reducible refine rn_set0 ?_ ?_); focus exact ⟨rfl, rfl⟩) | ((with_reducible refine rn_set1 ?_ ?_); focus exact ⟨rfl, rfl⟩) | ((with_reducible refine rn_mk0 ?_ ?_); focus exact ⟨rfl, rfl⟩) | ((with_reducible refine rn_mk1 ?_ ?_); focus exact ⟨rfl, rfl⟩) | ((with_reducible refine rn_res2 ?_ ?_ ?_); focus (first | exact locA_all rfl | exact rfl); focus (first | exact locA_all rfl | exact rfl)) | (with_reducible (first | refine rn_mmax ?_ | refine rn_pt ?_ | refine rn_pf ?_ | refine rn_eqb_tt ?_ | refine rn_eqb_ff ?_ | refine rn_eqb_tf ?_ | refine rn_eqb_ft ?_ | refine rn_neb_tt ?_ | refine rn_neb_ff ?_ | refine rn_neb_tf ?_ | refine rn_neb_ft ?_ | refine rn_not_t ?_ | refine rn_not_f ?_ | refine rn_ext0 ?_ | refine rn_ext1 ?_ | refine rn_ext2 ?_ | refine rn_len_sl ?_ | refine rn_len_nil ?_ | refine rn_len_os ?_ | refine rn_lens ?_ | refine rn_nilc ?_ | refine rn_nilci ?_ | refine rn_fad ?_ | refine rn_fadi ?_ | refine rn_ldi ?_)) | ((with_reducible refine rn_add64 ?_ ?_); focus omega) | ((with_reducible refine rn_sub64 ?_ ?_); focus omega) | ((with_reducible refine rn_rem ?_ ?_); focus omega) | ((with_reducible refine rn_eql_t ?_ ?_); focus omega) | ((with_reducible refine rn_eql_f ?_ ?_); focus omega) | ((with_reducible refine rn_neq_t ?_ ?_); focus omega) | ((with_reducible refine rn_neq_f ?_ ?_); focus omega) | ((with_reducible refine rn_lss_t ?_ ?_); focus omega) | ((with_reducible refine rn_lss_f ?_ ?_); focus omega) | ((with_reducible refine rn_leq_t ?_ ?_); focus omega) | ((with_reducible refine rn_leq_f ?_ ?_); focus omega) | ((with_reducible refine rn_gtr_t ?_ ?_); focus omega) | ((with_reducible refine rn_gtr_f ?_ ?_); focus omega) | ((with_reducible refine rn_geq_t ?_ ?_); focus omega) | ((with_reducible refine rn_geq_f ?_ ?_); focus omega) | ((with_reducible refine rn_cvi64 ?_ ?_); focus omega) | ((with_reducible refine rn_ixs ?_ ?_); focus omega) | ((with_reducible refine rn_ixsl ?_ ?_); focus omega))
    exact loop t.args [] 0 nl _ rfl rfl (by omega)
end
end Go.Proofs.Ytcoagkfjdpdohaa.Sx
