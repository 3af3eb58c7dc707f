/- TYPES: the law TypetermSizes on the abstract machine. -/
import Derived.Test.YtcoagkfjdpdohaaTyLSz
namespace Go.Proofs.Ytcoagkfjdpdohaa.Sx
open Go
set_option maxRecDepth 1000000
set_option linter.unusedSimpArgs false
set_option linter.unusedVariables false

abbrev tyT : Ty := .mk ⟨⟨[84]⟩⟩ []
abbrev nmP : ByteArray := ⟨⟨[109, 46, 80]⟩⟩
def full (w : Nat) : Nat → Ty
  | 0 => tyT
  | i + 1 => .mk nmP (List.replicate w (full w i))
theorem putTs_replicate (ns : List ByteArray) (bs : List Ty) (t : Ty) : ∀ n, putTs ns bs (List.replicate n t) = List.replicate n (putT ns bs t)
  | 0 => rfl
  | n + 1 => by rw [List.replicate_succ, putTs, putTs_replicate ns bs t n, List.replicate_succ]
theorem full_put (w : Nat) (hw : 1 ≤ w) : ∀ i, putT [⟨⟨[84]⟩⟩] [full w 1] (full w i) = full w (i + 1)
  | 0 => by rfl
  | i + 1 => by
    rw [show full w (i + 1) = .mk nmP (List.replicate w (full w i)) from rfl, putT, here]
    have e : (List.replicate w (full w i)).isEmpty = false := by cases w with
      | zero => omega
      | succ w => rfl
    rw [e]
    simp only [Bool.false_eq_true, if_false]
    rw [putTs_replicate, full_put w hw i]
    rfl
theorem sizes_replicate (t : Ty) : ∀ n, sizes (List.replicate n t) = n * t.size
  | 0 => by simp [sizes]
  | n + 1 => by rw [List.replicate_succ, sizes, sizes_replicate t n, Nat.succ_mul]; omega
theorem depths_replicate (t : Ty) : ∀ n, 1 ≤ n → depths (List.replicate n t) = t.depth
  | 0, h => by omega
  | 1, _ => by simp [List.replicate, depths]
  | n + 2, _ => by rw [List.replicate_succ, depths, depths_replicate t (n + 1) (by omega), Nat.max_self]
theorem full_size (w : Nat) : ∀ i, (full w (i + 1)).size = (full w i).size + w ^ i * w
  | 0 => by simp [full, Ty.size, sizes_replicate, sizes]
  | i + 1 => by
    have h := full_size w i
    rw [show full w (i + 1 + 1) = .mk nmP (List.replicate w (full w (i + 1))) from rfl, Ty.size, sizes_replicate, h, Nat.mul_add, ← Nat.add_assoc]
    have e : (full w (i + 1)).size = 1 + w * (full w i).size := by
      rw [show full w (i + 1) = .mk nmP (List.replicate w (full w i)) from rfl, Ty.size, sizes_replicate]
    rw [← e, h, Nat.pow_succ]
    have : w * (w ^ i * w) = w ^ i * w * w := Nat.mul_comm _ _
    omega
theorem full_depth (w : Nat) (hw : 1 ≤ w) : ∀ i, (full w i).depth = i + 1
  | 0 => rfl
  | i + 1 => by rw [show full w (i + 1) = .mk nmP (List.replicate w (full w i)) from rfl, Ty.depth, depths_replicate _ _ hw, full_depth w hw i]

theorem pow_le (w i : Nat) (hw : w ≤ 5) (hi : i ≤ 8) : w ^ i ≤ 390625 := Nat.le_trans (Nat.pow_le_pow_left hw i) (Nat.pow_le_pow_right (n := 5) (by decide) hi)

theorem encTs_rep (t : Ty) (n : Nat) : AV.d (.sl (encTs (List.replicate n t)) n) = avTs (List.replicate n t) := by simp only [avTs, List.length_replicate]

section
variable {call : CallT} (hc : Lim G call)
include hc

theorem sizes_wp (lo : Nat) (deep w : Nat) (h1 : 1 ≤ deep ∧ deep ≤ 7) (h2 : 1 ≤ w ∧ w ≤ 5) (nl : Nat) (hN : nl = 18446744073709551616) (M : MM) : Wp (b5_2 call nl lo (.i (deep : Int)) (.i (w : Int)) M) (Av (.bool true)) := by
  have hend : ∀ M, Wp (b5_5 call nl lo M) (Av (.bool true)) := fun M => by
    refine rn_puc (awake_pc hc) (by simp) ?_
    exact rn_av
  have outer : ∀ (m i f : Nat) (M : MM), i + m = deep → m < f → (full w i).size ≤ 4096 →
      Wp (b5_7 call nl lo f (.i (deep : Int)) (.i (w : Int)) (avT (full w i)) (.i ((full w i).size : Int)) (.i (i : Int)) M) (Av (.bool true)) := by
    intro m
    induction m with
    | zero =>
      intro i f M hi hf hs
      obtain ⟨f, rfl⟩ : ∃ k, f = k + 1 := ⟨f - 1, by omega⟩
      unfold b5_7
      refine rn_lss_f (by omega) (rn_if_f ?_)
      exact hend M
    | succ m ih =>
      intro i f M hi hf hs
      obtain ⟨f, rfl⟩ : ∃ k, f = k + 1 := ⟨f - 1, by omega⟩
      unfold b5_7
      have hpw := pow_le w i h2.2 (by omega)
      have hpw1 := pow_le w (i + 1) h2.2 (by omega)
      rw [Nat.pow_succ] at hpw1
      have hfs := full_size w i
      have hx : (full w 1).size = 1 + w := by rw [full_size]; simp [full, Ty.size, sizes]
      have hsub : substT [⟨⟨[84]⟩⟩] [full w 1] (full w i) = if 4096 < (full w (i + 1)).size then (ty0, 4) else (full w (i + 1), 0) := by
        rw [substT_ok rfl rfl, full_put w h2.1]
      have fin : ∀ (M : MM) (j : AV → AV → AV → AV → AV → MM → Option (AV × MM)), (∀ M, (full w (i + 1)).size ≤ 4096 → Wp (j (.i (deep : Int)) (.i (w : Int)) (avT (full w (i + 1))) (.i ((full w (i + 1)).size : Int)) (.i ((i + 1 : Nat) : Int)) M) (Av (.bool true))) →
          Wp (b5_15 call nl lo j (.i (deep : Int)) (.i (w : Int)) (avT (full w i)) (.i ((full w i).size : Int)) (.i (i : Int)) (avT (substT [⟨⟨[84]⟩⟩] [full w 1] (full w i)).1) (.i (substT [⟨⟨[84]⟩⟩] [full w 1] (full w i)).2) (.i ((w ^ i : Nat) : Int)) M) (Av (.bool true)) := by
        intro M j hj
        rw [hsub]
        refine rn_mul64 (by rw [← Int.natCast_mul]; omega) ?_
        rw [← Int.natCast_mul]
        refine rn_add64 (by omega) ?_
        by_cases hg : 4096 < (full w (i + 1)).size
        · rw [if_pos hg]
          dsimp only
          refine rn_eql_f (by decide) ?_
          refine rn_leq_f (by omega) ?_
          repeat (first | (with_reducible (first | refine rn_aggT ?_ | refine rn_noT ?_ | refine rn_nameT ?_ | refine rn_argsT ?_ | refine rn_lenT ?_ | refine rn_ldT ?_ | refine rn_setT ?_ | refine rn_setTT ?_ | refine rn_allT ?_ | refine rn_locT ?_ | refine rn_eqS ?_ | refine rn_neS ?_ | refine rn_wslT ?_ | refine rn_setA ?_ | exact rn_ans | refine rn_upa ?_ | refine rn_bumpa ?_ | refine rn_bsome ?_ | refine rn_some ?_ | refine rn_if_t ?_ | refine rn_if_f ?_ | refine rn_gtt ?_ | refine rn_gft ?_ | refine rn_gun ?_ | refine rn_gp_tt ?_ | refine rn_gp_ff ?_ | refine rn_gp_ft ?_ | refine rn_gp_un ?_ | refine rn_agg ?_ | refine rn_aggd ?_ | refine rn_aggo ?_ | refine rn_fld00 ?_ | refine rn_mke ?_)) | ((with_reducible refine rn_fld ?_ ?_); focus exact rfl) | ((with_reducible refine rn_fldall ?_ ?_); focus exact rfl) | ((with_reducible refine rn_setcall ?_ ?_ ?_ ?_); focus exact rfl; focus exact rfl; focus exact rfl) | ((with_reducible refine rn_loc ?_ ?_); focus exact rfl) | ((with_reducible refine rn_set0 ?_ ?_); focus exact ⟨rfl, rfl⟩) | ((with_reducible refine rn_set1 ?_ ?_); focus exact ⟨rfl, rfl⟩) | ((with_reducible refine rn_mk0 ?_ ?_); focus exact ⟨rfl, rfl⟩) | ((with_reducible refine rn_mk1 ?_ ?_); focus exact ⟨rfl, rfl⟩) | ((with_reducible refine rn_res2 ?_ ?_ ?_); focus (first | exact locA_all rfl | exact rfl); focus (first | exact locA_all rfl | exact rfl)) | (with_reducible (first | refine rn_mmax ?_ | refine rn_pt ?_ | refine rn_pf ?_ | refine rn_eqb_tt ?_ | refine rn_eqb_ff ?_ | refine rn_eqb_tf ?_ | refine rn_eqb_ft ?_ | refine rn_neb_tt ?_ | refine rn_neb_ff ?_ | refine rn_neb_tf ?_ | refine rn_neb_ft ?_ | refine rn_not_t ?_ | refine rn_not_f ?_ | refine rn_ext0 ?_ | refine rn_ext1 ?_ | refine rn_ext2 ?_ | refine rn_len_sl ?_ | refine rn_len_nil ?_ | refine rn_len_os ?_ | refine rn_lens ?_ | refine rn_nilc ?_ | refine rn_nilci ?_ | refine rn_fad ?_ | refine rn_fadi ?_ | refine rn_ldi ?_)) | ((with_reducible refine rn_add64 ?_ ?_); focus omega) | ((with_reducible refine rn_sub64 ?_ ?_); focus omega) | ((with_reducible refine rn_rem ?_ ?_); focus omega) | ((with_reducible refine rn_eql_t ?_ ?_); focus omega) | ((with_reducible refine rn_eql_f ?_ ?_); focus omega) | ((with_reducible refine rn_neq_t ?_ ?_); focus omega) | ((with_reducible refine rn_neq_f ?_ ?_); focus omega) | ((with_reducible refine rn_lss_t ?_ ?_); focus omega) | ((with_reducible refine rn_lss_f ?_ ?_); focus omega) | ((with_reducible refine rn_leq_t ?_ ?_); focus omega) | ((with_reducible refine rn_leq_f ?_ ?_); focus omega) | ((with_reducible refine rn_gtr_t ?_ ?_); focus omega) | ((with_reducible refine rn_gtr_f ?_ ?_); focus omega) | ((with_reducible refine rn_geq_t ?_ ?_); focus omega) | ((with_reducible refine rn_geq_f ?_ ?_); focus omega) | ((with_reducible refine rn_cvi64 ?_ ?_); focus omega) | ((with_reducible refine rn_ixs ?_ ?_); focus omega) | ((with_reducible refine rn_ixsl ?_ ?_); focus omega))
          refine rn_puc (awake_pc hc) (by simp) ?_
          exact rn_av
        · rw [if_neg hg]
          dsimp only
          refine rn_eql_t rfl ?_
          refine rn_leq_t (by omega) ?_
          have hd := depth_cc hc _ (full w (i + 1)) (Nat.le_refl _) (by omega)
          have hz := size_cc hc _ (full w (i + 1)) (Nat.le_refl _) (by omega)
          rw [full_depth w h2.1] at hd
          repeat (first | (with_reducible (first | refine rn_aggT ?_ | refine rn_noT ?_ | refine rn_nameT ?_ | refine rn_argsT ?_ | refine rn_lenT ?_ | refine rn_ldT ?_ | refine rn_setT ?_ | refine rn_setTT ?_ | refine rn_allT ?_ | refine rn_locT ?_ | refine rn_eqS ?_ | refine rn_neS ?_ | refine rn_wslT ?_ | refine rn_setA ?_ | refine rn_pcc hd (fz_i _) (ClT1 _) ?_ | refine rn_pcc hz (fz_i _) (ClT1 _) ?_ | exact rn_ans | refine rn_upa ?_ | refine rn_bumpa ?_ | refine rn_bsome ?_ | refine rn_some ?_ | refine rn_if_t ?_ | refine rn_if_f ?_ | refine rn_gtt ?_ | refine rn_gft ?_ | refine rn_gun ?_ | refine rn_gp_tt ?_ | refine rn_gp_ff ?_ | refine rn_gp_ft ?_ | refine rn_gp_un ?_ | refine rn_agg ?_ | refine rn_aggd ?_ | refine rn_aggo ?_ | refine rn_fld00 ?_ | refine rn_mke ?_)) | ((with_reducible refine rn_fld ?_ ?_); focus exact rfl) | ((with_reducible refine rn_fldall ?_ ?_); focus exact rfl) | ((with_reducible refine rn_setcall ?_ ?_ ?_ ?_); focus exact rfl; focus exact rfl; focus exact rfl) | ((with_reducible refine rn_loc ?_ ?_); focus exact rfl) | ((with_reducible refine rn_set0 ?_ ?_); focus exact ⟨rfl, rfl⟩) | ((with_reducible refine rn_set1 ?_ ?_); focus exact ⟨rfl, rfl⟩) | ((with_reducible refine rn_mk0 ?_ ?_); focus exact ⟨rfl, rfl⟩) | ((with_reducible refine rn_mk1 ?_ ?_); focus exact ⟨rfl, rfl⟩) | ((with_reducible refine rn_res2 ?_ ?_ ?_); focus (first | exact locA_all rfl | exact rfl); focus (first | exact locA_all rfl | exact rfl)) | (with_reducible (first | refine rn_mmax ?_ | refine rn_pt ?_ | refine rn_pf ?_ | refine rn_eqb_tt ?_ | refine rn_eqb_ff ?_ | refine rn_eqb_tf ?_ | refine rn_eqb_ft ?_ | refine rn_neb_tt ?_ | refine rn_neb_ff ?_ | refine rn_neb_tf ?_ | refine rn_neb_ft ?_ | refine rn_not_t ?_ | refine rn_not_f ?_ | refine rn_ext0 ?_ | refine rn_ext1 ?_ | refine rn_ext2 ?_ | refine rn_len_sl ?_ | refine rn_len_nil ?_ | refine rn_len_os ?_ | refine rn_lens ?_ | refine rn_nilc ?_ | refine rn_nilci ?_ | refine rn_fad ?_ | refine rn_fadi ?_ | refine rn_ldi ?_)) | ((with_reducible refine rn_add64 ?_ ?_); focus omega) | ((with_reducible refine rn_sub64 ?_ ?_); focus omega) | ((with_reducible refine rn_rem ?_ ?_); focus omega) | ((with_reducible refine rn_eql_t ?_ ?_); focus omega) | ((with_reducible refine rn_eql_f ?_ ?_); focus omega) | ((with_reducible refine rn_neq_t ?_ ?_); focus omega) | ((with_reducible refine rn_neq_f ?_ ?_); focus omega) | ((with_reducible refine rn_lss_t ?_ ?_); focus omega) | ((with_reducible refine rn_lss_f ?_ ?_); focus omega) | ((with_reducible refine rn_leq_t ?_ ?_); focus omega) | ((with_reducible refine rn_leq_f ?_ ?_); focus omega) | ((with_reducible refine rn_gtr_t ?_ ?_); focus omega) | ((with_reducible refine rn_gtr_f ?_ ?_); focus omega) | ((with_reducible refine rn_geq_t ?_ ?_); focus omega) | ((with_reducible refine rn_geq_f ?_ ?_); focus omega) | ((with_reducible refine rn_cvi64 ?_ ?_); focus omega) | ((with_reducible refine rn_ixs ?_ ?_); focus omega) | ((with_reducible refine rn_ixsl ?_ ?_); focus omega))
          have e : ((full w i).size : Int) + ((w ^ i * w : Nat) : Int) = ((full w (i + 1)).size : Int) := by omega
          have e2 : (i : Int) + 1 = ((i + 1 : Nat) : Int) := by omega
          rw [e, e2]
          exact hj _ (by omega)
      have leaves : ∀ (j : AV → AV → AV → AV → AV → MM → Option (AV × MM)) (Q : AV × MM → Prop) (x12 x13 x7 x8 : AV), (∀ M, Wp (b5_15 call nl lo j (.i (deep : Int)) (.i (w : Int)) x7 x8 (.i (i : Int)) x12 x13 (.i ((w ^ i : Nat) : Int)) M) Q) →
          ∀ (m q f : Nat) (M : MM), q + m = i → m < f → Wp (b5_17 call nl lo j f (.i (deep : Int)) (.i (w : Int)) x7 x8 (.i (i : Int)) x12 x13 (.i ((w ^ q : Nat) : Int)) (.i (q : Int)) M) Q := by
        intro j Q x12 x13 x7 x8 hk m
        induction m with
        | zero =>
          intro q f M hq hf
          obtain ⟨f, rfl⟩ : ∃ k, f = k + 1 := ⟨f - 1, by omega⟩
          have e : q = i := by omega
          subst e
          unfold b5_17
          refine rn_lss_f (by omega) (rn_if_f ?_)
          exact hk M
        | succ m ihm =>
          intro q f M hq hf
          obtain ⟨f, rfl⟩ : ∃ k, f = k + 1 := ⟨f - 1, by omega⟩
          have hp := pow_le w (q + 1) h2.2 (by omega)
          rw [Nat.pow_succ] at hp
          unfold b5_17
          refine rn_lss_t (by omega) (rn_if_t ?_)
          refine rn_mul64 (by rw [← Int.natCast_mul]; omega) ?_
          refine rn_add64 (by omega) ?_
          rw [← Int.natCast_mul, ← Nat.pow_succ]
          exact ihm (q + 1) f M (by omega) (by omega)
      have build : ∀ (j : AV → AV → AV → AV → AV → MM → Option (AV × MM)) (Q : AV × MM → Prop) (x7 x8 : AV), (∀ M, Wp (b5_12 call nl lo j (.i (deep : Int)) (.i (w : Int)) x7 x8 (.i (i : Int)) (avT (full w 1)) M) Q) →
          ∀ (m q f : Nat) (M : MM), q + m = w → m < f → Wp (b5_21 call nl lo j f (.i (deep : Int)) (.i (w : Int)) x7 x8 (.i (i : Int)) (avT (.mk nmP (List.replicate q tyT))) (.i (q : Int)) M) Q := by
        intro j Q x7 x8 hk m
        induction m with
        | zero =>
          intro q f M hq hf
          obtain ⟨f, rfl⟩ : ∃ k, f = k + 1 := ⟨f - 1, by omega⟩
          have e : q = w := by omega
          subst e
          unfold b5_21
          refine rn_lss_f (by omega) (rn_if_f ?_)
          exact hk M
        | succ m ihm =>
          intro q f M hq hf
          obtain ⟨f, rfl⟩ : ∃ k, f = k + 1 := ⟨f - 1, by omega⟩
          have hbb : ((Ty.mk nmP (List.replicate q tyT)).args.length + 1) * 40 ≤ 140737488355328 ∧ (Ty.mk nmP (List.replicate q tyT)).args.length + 1 ≤ 9223372036854775807 := by simp only [Ty.args, List.length_replicate]; omega
          unfold b5_21
          refine rn_lss_t (by omega) (rn_if_t ?_)
          repeat (first | (with_reducible (first | refine rn_aggT ?_ | refine rn_noT ?_ | refine rn_nameT ?_ | refine rn_argsT ?_ | refine rn_lenT ?_ | refine rn_ldT ?_ | refine rn_setT ?_ | refine rn_setTT ?_ | refine rn_allT ?_ | refine rn_locT ?_ | refine rn_eqS ?_ | refine rn_neS ?_ | refine rn_wslT ?_ | refine rn_setA ?_ | exact rn_ans | refine rn_upa ?_ | refine rn_bumpa ?_ | refine rn_bsome ?_ | refine rn_some ?_ | refine rn_if_t ?_ | refine rn_if_f ?_ | refine rn_gtt ?_ | refine rn_gft ?_ | refine rn_gun ?_ | refine rn_gp_tt ?_ | refine rn_gp_ff ?_ | refine rn_gp_ft ?_ | refine rn_gp_un ?_ | refine rn_agg ?_ | refine rn_aggd ?_ | refine rn_aggo ?_ | refine rn_fld00 ?_ | refine rn_mke ?_)) | ((with_reducible refine rn_fld ?_ ?_); focus exact rfl) | ((with_reducible refine rn_fldall ?_ ?_); focus exact rfl) | ((with_reducible refine rn_setcall ?_ ?_ ?_ ?_); focus exact rfl; focus exact rfl; focus exact rfl) | ((with_reducible refine rn_loc ?_ ?_); focus exact rfl) | ((with_reducible refine rn_set0 ?_ ?_); focus exact ⟨rfl, rfl⟩) | ((with_reducible refine rn_set1 ?_ ?_); focus exact ⟨rfl, rfl⟩) | ((with_reducible refine rn_mk0 ?_ ?_); focus exact ⟨rfl, rfl⟩) | ((with_reducible refine rn_mk1 ?_ ?_); focus exact ⟨rfl, rfl⟩) | ((with_reducible refine rn_res2 ?_ ?_ ?_); focus (first | exact locA_all rfl | exact rfl); focus (first | exact locA_all rfl | exact rfl)) | (with_reducible (first | refine rn_mmax ?_ | refine rn_pt ?_ | refine rn_pf ?_ | refine rn_eqb_tt ?_ | refine rn_eqb_ff ?_ | refine rn_eqb_tf ?_ | refine rn_eqb_ft ?_ | refine rn_neb_tt ?_ | refine rn_neb_ff ?_ | refine rn_neb_tf ?_ | refine rn_neb_ft ?_ | refine rn_not_t ?_ | refine rn_not_f ?_ | refine rn_ext0 ?_ | refine rn_ext1 ?_ | refine rn_ext2 ?_ | refine rn_len_sl ?_ | refine rn_len_nil ?_ | refine rn_len_os ?_ | refine rn_lens ?_ | refine rn_nilc ?_ | refine rn_nilci ?_ | refine rn_fad ?_ | refine rn_fadi ?_ | refine rn_ldi ?_)) | ((with_reducible refine rn_add64 ?_ ?_); focus omega) | ((with_reducible refine rn_sub64 ?_ ?_); focus omega) | ((with_reducible refine rn_rem ?_ ?_); focus omega) | ((with_reducible refine rn_eql_t ?_ ?_); focus omega) | ((with_reducible refine rn_eql_f ?_ ?_); focus omega) | ((with_reducible refine rn_neq_t ?_ ?_); focus omega) | ((with_reducible refine rn_neq_f ?_ ?_); focus omega) | ((with_reducible refine rn_lss_t ?_ ?_); focus omega) | ((with_reducible refine rn_lss_f ?_ ?_); focus omega) | ((with_reducible refine rn_leq_t ?_ ?_); focus omega) | ((with_reducible refine rn_leq_f ?_ ?_); focus omega) | ((with_reducible refine rn_gtr_t ?_ ?_); focus omega) | ((with_reducible refine rn_gtr_f ?_ ?_); focus omega) | ((with_reducible refine rn_geq_t ?_ ?_); focus omega) | ((with_reducible refine rn_geq_f ?_ ?_); focus omega) | ((with_reducible refine rn_cvi64 ?_ ?_); focus omega) | ((with_reducible refine rn_ixs ?_ ?_); focus omega) | ((with_reducible refine rn_ixsl ?_ ?_); focus omega))
          refine rn_wslT (t := tyT) ?_
          repeat (first | (with_reducible (first | refine rn_aggT ?_ | refine rn_noT ?_ | refine rn_nameT ?_ | refine rn_argsT ?_ | refine rn_lenT ?_ | refine rn_ldT ?_ | refine rn_setT ?_ | refine rn_setTT ?_ | refine rn_allT ?_ | refine rn_locT ?_ | refine rn_eqS ?_ | refine rn_neS ?_ | refine rn_wslT ?_ | refine rn_setA ?_ | refine rn_upk ?_ | refine rn_appT hbb ?_ | exact rn_ans | refine rn_upa ?_ | refine rn_bumpa ?_ | refine rn_bsome ?_ | refine rn_some ?_ | refine rn_if_t ?_ | refine rn_if_f ?_ | refine rn_gtt ?_ | refine rn_gft ?_ | refine rn_gun ?_ | refine rn_gp_tt ?_ | refine rn_gp_ff ?_ | refine rn_gp_ft ?_ | refine rn_gp_un ?_ | refine rn_agg ?_ | refine rn_aggd ?_ | refine rn_aggo ?_ | refine rn_fld00 ?_ | refine rn_mke ?_)) | ((with_reducible refine rn_fld ?_ ?_); focus exact rfl) | ((with_reducible refine rn_fldall ?_ ?_); focus exact rfl) | ((with_reducible refine rn_setcall ?_ ?_ ?_ ?_); focus exact rfl; focus exact rfl; focus exact rfl) | ((with_reducible refine rn_loc ?_ ?_); focus exact rfl) | ((with_reducible refine rn_set0 ?_ ?_); focus exact ⟨rfl, rfl⟩) | ((with_reducible refine rn_set1 ?_ ?_); focus exact ⟨rfl, rfl⟩) | ((with_reducible refine rn_mk0 ?_ ?_); focus exact ⟨rfl, rfl⟩) | ((with_reducible refine rn_mk1 ?_ ?_); focus exact ⟨rfl, rfl⟩) | ((with_reducible refine rn_res2 ?_ ?_ ?_); focus (first | exact locA_all rfl | exact rfl); focus (first | exact locA_all rfl | exact rfl)) | (with_reducible (first | refine rn_mmax ?_ | refine rn_pt ?_ | refine rn_pf ?_ | refine rn_eqb_tt ?_ | refine rn_eqb_ff ?_ | refine rn_eqb_tf ?_ | refine rn_eqb_ft ?_ | refine rn_neb_tt ?_ | refine rn_neb_ff ?_ | refine rn_neb_tf ?_ | refine rn_neb_ft ?_ | refine rn_not_t ?_ | refine rn_not_f ?_ | refine rn_ext0 ?_ | refine rn_ext1 ?_ | refine rn_ext2 ?_ | refine rn_len_sl ?_ | refine rn_len_nil ?_ | refine rn_len_os ?_ | refine rn_lens ?_ | refine rn_nilc ?_ | refine rn_nilci ?_ | refine rn_fad ?_ | refine rn_fadi ?_ | refine rn_ldi ?_)) | ((with_reducible refine rn_add64 ?_ ?_); focus omega) | ((with_reducible refine rn_sub64 ?_ ?_); focus omega) | ((with_reducible refine rn_rem ?_ ?_); focus omega) | ((with_reducible refine rn_eql_t ?_ ?_); focus omega) | ((with_reducible refine rn_eql_f ?_ ?_); focus omega) | ((with_reducible refine rn_neq_t ?_ ?_); focus omega) | ((with_reducible refine rn_neq_f ?_ ?_); focus omega) | ((with_reducible refine rn_lss_t ?_ ?_); focus omega) | ((with_reducible refine rn_lss_f ?_ ?_); focus omega) | ((with_reducible refine rn_leq_t ?_ ?_); focus omega) | ((with_reducible refine rn_leq_f ?_ ?_); focus omega) | ((with_reducible refine rn_gtr_t ?_ ?_); focus omega) | ((with_reducible refine rn_gtr_f ?_ ?_); focus omega) | ((with_reducible refine rn_geq_t ?_ ?_); focus omega) | ((with_reducible refine rn_geq_f ?_ ?_); focus omega) | ((with_reducible refine rn_cvi64 ?_ ?_); focus omega) | ((with_reducible refine rn_ixs ?_ ?_); focus omega) | ((with_reducible refine rn_ixsl ?_ ?_); focus omega))
          have e : List.replicate q tyT ++ [tyT] = List.replicate (q + 1) tyT := by rw [List.replicate_succ']
          rw [Ty.args, e]
          exact ihm (q + 1) f _ (by omega) (by omega)
      refine rn_lss_t (by omega) (rn_if_t ?_)
      repeat (first | (with_reducible (first | refine rn_aggT ?_ | refine rn_noT ?_ | refine rn_nameT ?_ | refine rn_argsT ?_ | refine rn_lenT ?_ | refine rn_ldT ?_ | refine rn_setT ?_ | refine rn_setTT ?_ | refine rn_allT ?_ | refine rn_locT ?_ | refine rn_eqS ?_ | refine rn_neS ?_ | refine rn_wslT ?_ | refine rn_setA ?_ | refine rn_upk ?_ | exact rn_ans | refine rn_upa ?_ | refine rn_bumpa ?_ | refine rn_bsome ?_ | refine rn_some ?_ | refine rn_if_t ?_ | refine rn_if_f ?_ | refine rn_gtt ?_ | refine rn_gft ?_ | refine rn_gun ?_ | refine rn_gp_tt ?_ | refine rn_gp_ff ?_ | refine rn_gp_ft ?_ | refine rn_gp_un ?_ | refine rn_agg ?_ | refine rn_aggd ?_ | refine rn_aggo ?_ | refine rn_fld00 ?_ | refine rn_mke ?_)) | ((with_reducible refine rn_fld ?_ ?_); focus exact rfl) | ((with_reducible refine rn_fldall ?_ ?_); focus exact rfl) | ((with_reducible refine rn_setcall ?_ ?_ ?_ ?_); focus exact rfl; focus exact rfl; focus exact rfl) | ((with_reducible refine rn_loc ?_ ?_); focus exact rfl) | ((with_reducible refine rn_set0 ?_ ?_); focus exact ⟨rfl, rfl⟩) | ((with_reducible refine rn_set1 ?_ ?_); focus exact ⟨rfl, rfl⟩) | ((with_reducible refine rn_mk0 ?_ ?_); focus exact ⟨rfl, rfl⟩) | ((with_reducible refine rn_mk1 ?_ ?_); focus exact ⟨rfl, rfl⟩) | ((with_reducible refine rn_res2 ?_ ?_ ?_); focus (first | exact locA_all rfl | exact rfl); focus (first | exact locA_all rfl | exact rfl)) | (with_reducible (first | refine rn_mmax ?_ | refine rn_pt ?_ | refine rn_pf ?_ | refine rn_eqb_tt ?_ | refine rn_eqb_ff ?_ | refine rn_eqb_tf ?_ | refine rn_eqb_ft ?_ | refine rn_neb_tt ?_ | refine rn_neb_ff ?_ | refine rn_neb_tf ?_ | refine rn_neb_ft ?_ | refine rn_not_t ?_ | refine rn_not_f ?_ | refine rn_ext0 ?_ | refine rn_ext1 ?_ | refine rn_ext2 ?_ | refine rn_len_sl ?_ | refine rn_len_nil ?_ | refine rn_len_os ?_ | refine rn_lens ?_ | refine rn_nilc ?_ | refine rn_nilci ?_ | refine rn_fad ?_ | refine rn_fadi ?_ | refine rn_ldi ?_)) | ((with_reducible refine rn_add64 ?_ ?_); focus omega) | ((with_reducible refine rn_sub64 ?_ ?_); focus omega) | ((with_reducible refine rn_rem ?_ ?_); focus omega) | ((with_reducible refine rn_eql_t ?_ ?_); focus omega) | ((with_reducible refine rn_eql_f ?_ ?_); focus omega) | ((with_reducible refine rn_neq_t ?_ ?_); focus omega) | ((with_reducible refine rn_neq_f ?_ ?_); focus omega) | ((with_reducible refine rn_lss_t ?_ ?_); focus omega) | ((with_reducible refine rn_lss_f ?_ ?_); focus omega) | ((with_reducible refine rn_leq_t ?_ ?_); focus omega) | ((with_reducible refine rn_leq_f ?_ ?_); focus omega) | ((with_reducible refine rn_gtr_t ?_ ?_); focus omega) | ((with_reducible refine rn_gtr_f ?_ ?_); focus omega) | ((with_reducible refine rn_geq_t ?_ ?_); focus omega) | ((with_reducible refine rn_geq_f ?_ ?_); focus omega) | ((with_reducible refine rn_cvi64 ?_ ?_); focus omega) | ((with_reducible refine rn_ixs ?_ ?_); focus omega) | ((with_reducible refine rn_ixsl ?_ ?_); focus omega))
      refine build _ _ _ _ (fun M => ?_) w 0 nl _ (by omega) (by omega)
      have hS := subst_pc hc [⟨⟨[84]⟩⟩] [full w 1] (full w i) (by simp) (by simp) (fun y hy => by rw [List.mem_singleton.1 hy, hx]; omega) (by omega)
      have hclS : ∀ y ∈ [avT (full w i), avS [⟨⟨[84]⟩⟩], avTs [full w 1]], Cl y := by simp [ClS, ClT, ClTs]
      repeat (first | (with_reducible (first | refine rn_upk ?_ | refine rn_wslS1 ?_ | refine rn_wslT1 ?_ | refine rn_aggT ?_ | refine rn_noT ?_ | refine rn_nameT ?_ | refine rn_argsT ?_ | refine rn_lenT ?_ | refine rn_ldT ?_ | refine rn_setT ?_ | refine rn_setTT ?_ | refine rn_allT ?_ | refine rn_locT ?_ | refine rn_eqS ?_ | refine rn_neS ?_ | refine rn_wslT ?_ | refine rn_setA ?_ | refine rn_puc hS hclS ?_ | exact rn_ans | refine rn_upa ?_ | refine rn_bumpa ?_ | refine rn_bsome ?_ | refine rn_some ?_ | refine rn_if_t ?_ | refine rn_if_f ?_ | refine rn_gtt ?_ | refine rn_gft ?_ | refine rn_gun ?_ | refine rn_gp_tt ?_ | refine rn_gp_ff ?_ | refine rn_gp_ft ?_ | refine rn_gp_un ?_ | refine rn_agg ?_ | refine rn_aggd ?_ | refine rn_aggo ?_ | refine rn_fld00 ?_ | refine rn_mke ?_)) | ((with_reducible refine rn_fld ?_ ?_); focus exact rfl) | ((with_reducible refine rn_fldall ?_ ?_); focus exact rfl) | ((with_reducible refine rn_setcall ?_ ?_ ?_ ?_); focus exact rfl; focus exact rfl; focus exact rfl) | ((with_reducible refine rn_loc ?_ ?_); focus exact rfl) | ((with_reducible refine rn_set0 ?_ ?_); focus exact ⟨rfl, rfl⟩) | ((with_reducible refine rn_set1 ?_ ?_); focus exact ⟨rfl, rfl⟩) | ((with_reducible refine rn_mk0 ?_ ?_); focus exact ⟨rfl, rfl⟩) | ((with_reducible refine rn_mk1 ?_ ?_); focus exact ⟨rfl, rfl⟩) | ((with_reducible refine rn_res2 ?_ ?_ ?_); focus (first | exact locA_all rfl | exact rfl); focus (first | exact locA_all rfl | exact rfl)) | (with_reducible (first | refine rn_mmax ?_ | refine rn_pt ?_ | refine rn_pf ?_ | refine rn_eqb_tt ?_ | refine rn_eqb_ff ?_ | refine rn_eqb_tf ?_ | refine rn_eqb_ft ?_ | refine rn_neb_tt ?_ | refine rn_neb_ff ?_ | refine rn_neb_tf ?_ | refine rn_neb_ft ?_ | refine rn_not_t ?_ | refine rn_not_f ?_ | refine rn_ext0 ?_ | refine rn_ext1 ?_ | refine rn_ext2 ?_ | refine rn_len_sl ?_ | refine rn_len_nil ?_ | refine rn_len_os ?_ | refine rn_lens ?_ | refine rn_nilc ?_ | refine rn_nilci ?_ | refine rn_fad ?_ | refine rn_fadi ?_ | refine rn_ldi ?_)) | ((with_reducible refine rn_add64 ?_ ?_); focus omega) | ((with_reducible refine rn_sub64 ?_ ?_); focus omega) | ((with_reducible refine rn_rem ?_ ?_); focus omega) | ((with_reducible refine rn_eql_t ?_ ?_); focus omega) | ((with_reducible refine rn_eql_f ?_ ?_); focus omega) | ((with_reducible refine rn_neq_t ?_ ?_); focus omega) | ((with_reducible refine rn_neq_f ?_ ?_); focus omega) | ((with_reducible refine rn_lss_t ?_ ?_); focus omega) | ((with_reducible refine rn_lss_f ?_ ?_); focus omega) | ((with_reducible refine rn_leq_t ?_ ?_); focus omega) | ((with_reducible refine rn_leq_f ?_ ?_); focus omega) | ((with_reducible refine rn_gtr_t ?_ ?_); focus omega) | ((with_reducible refine rn_gtr_f ?_ ?_); focus omega) | ((with_reducible refine rn_geq_t ?_ ?_); focus omega) | ((with_reducible refine rn_geq_f ?_ ?_); focus omega) | ((with_reducible refine rn_cvi64 ?_ ?_); focus omega) | ((with_reducible refine rn_ixs ?_ ?_); focus omega) | ((with_reducible refine rn_ixsl ?_ ?_); focus omega))
      have hl := leaves (b5_7 call nl lo f) (Av (.bool true)) _ _ _ _ (fun M => fin M _ (fun M hs' => ih (i + 1) f M (by omega) (by omega) hs')) i 0 nl
      simp only [Nat.pow_zero] at hl
      exact hl _ (by omega) (by omega)
  repeat (first | (with_reducible (first | refine rn_aggT ?_ | refine rn_noT ?_ | refine rn_nameT ?_ | refine rn_argsT ?_ | refine rn_lenT ?_ | refine rn_ldT ?_ | refine rn_setT ?_ | refine rn_setTT ?_ | refine rn_allT ?_ | refine rn_locT ?_ | refine rn_eqS ?_ | refine rn_neS ?_ | refine rn_wslT ?_ | refine rn_setA ?_ | refine rn_upk ?_ | exact rn_ans | refine rn_upa ?_ | refine rn_bumpa ?_ | refine rn_bsome ?_ | refine rn_some ?_ | refine rn_if_t ?_ | refine rn_if_f ?_ | refine rn_gtt ?_ | refine rn_gft ?_ | refine rn_gun ?_ | refine rn_gp_tt ?_ | refine rn_gp_ff ?_ | refine rn_gp_ft ?_ | refine rn_gp_un ?_ | refine rn_agg ?_ | refine rn_aggd ?_ | refine rn_aggo ?_ | refine rn_fld00 ?_ | refine rn_mke ?_)) | ((with_reducible refine rn_fld ?_ ?_); focus exact rfl) | ((with_reducible refine rn_fldall ?_ ?_); focus exact rfl) | ((with_reducible refine rn_setcall ?_ ?_ ?_ ?_); focus exact rfl; focus exact rfl; focus exact rfl) | ((with_reducible refine rn_loc ?_ ?_); focus exact rfl) | ((with_reducible refine rn_set0 ?_ ?_); focus exact ⟨rfl, rfl⟩) | ((with_reducible refine rn_set1 ?_ ?_); focus exact ⟨rfl, rfl⟩) | ((with_reducible refine rn_mk0 ?_ ?_); focus exact ⟨rfl, rfl⟩) | ((with_reducible refine rn_mk1 ?_ ?_); focus exact ⟨rfl, rfl⟩) | ((with_reducible refine rn_res2 ?_ ?_ ?_); focus (first | exact locA_all rfl | exact rfl); focus (first | exact locA_all rfl | exact rfl)) | (with_reducible (first | refine rn_mmax ?_ | refine rn_pt ?_ | refine rn_pf ?_ | refine rn_eqb_tt ?_ | refine rn_eqb_ff ?_ | refine rn_eqb_tf ?_ | refine rn_eqb_ft ?_ | refine rn_neb_tt ?_ | refine rn_neb_ff ?_ | refine rn_neb_tf ?_ | refine rn_neb_ft ?_ | refine rn_not_t ?_ | refine rn_not_f ?_ | refine rn_ext0 ?_ | refine rn_ext1 ?_ | refine rn_ext2 ?_ | refine rn_len_sl ?_ | refine rn_len_nil ?_ | refine rn_len_os ?_ | refine rn_lens ?_ | refine rn_nilc ?_ | refine rn_nilci ?_ | refine rn_fad ?_ | refine rn_fadi ?_ | refine rn_ldi ?_)) | ((with_reducible refine rn_add64 ?_ ?_); focus omega) | ((with_reducible refine rn_sub64 ?_ ?_); focus omega) | ((with_reducible refine rn_rem ?_ ?_); focus omega) | ((with_reducible refine rn_eql_t ?_ ?_); focus omega) | ((with_reducible refine rn_eql_f ?_ ?_); focus omega) | ((with_reducible refine rn_neq_t ?_ ?_); focus omega) | ((with_reducible refine rn_neq_f ?_ ?_); focus omega) | ((with_reducible refine rn_lss_t ?_ ?_); focus omega) | ((with_reducible refine rn_lss_f ?_ ?_); focus omega) | ((with_reducible refine rn_leq_t ?_ ?_); focus omega) | ((with_reducible refine rn_leq_f ?_ ?_); focus omega) | ((with_reducible refine rn_gtr_t ?_ ?_); focus omega) | ((with_reducible refine rn_gtr_f ?_ ?_); focus omega) | ((with_reducible refine rn_geq_t ?_ ?_); focus omega) | ((with_reducible refine rn_geq_f ?_ ?_); focus omega) | ((with_reducible refine rn_cvi64 ?_ ?_); focus omega) | ((with_reducible refine rn_ixs ?_ ?_); focus omega) | ((with_reducible refine rn_ixsl ?_ ?_); focus omega))
  refine outer deep 0 nl _ (by omega) (by omega) ?_
  simp [full, Ty.size, sizes]

theorem sizes_run (lo : Nat) (n k : Nat) (hn : n ≤ 255) (hk : k ≤ 255) (M : MM) : Wp (call 5 [.int .u8 (n : Int), .int .u8 (k : Int)] lo M) (Av (.bool true)) := by
  obtain ⟨nl, hG, hN⟩ : ∃ nl, G.nl = nl ∧ nl = 18446744073709551616 := ⟨_, rfl, rfl⟩
  rw [q5 hc, hG]
  clear hG
  unfold s5
  have h1 : ((n : Int).tmod 7) = ((n % 7 : Nat) : Int) := rfl
  have h2 : ((k : Int).tmod 5) = ((k % 5 : Nat) : Int) := rfl
  have h3 : n % 7 < 7 := Nat.mod_lt _ (by decide)
  have h4 : k % 5 < 5 := Nat.mod_lt _ (by decide)
  refine rn_rem (by decide) ?_
  rw [h1]
  refine rn_cvi64 (by omega) (rn_add64 (by omega) ?_)
  refine rn_rem (by decide) ?_
  rw [h2]
  refine rn_cvi64 (by omega) (rn_add64 (by omega) ?_)
  rw [show (1 : Int) + ((n % 7 : Nat) : Int) = ((1 + n % 7 : Nat) : Int) by omega, show (1 : Int) + ((k % 5 : Nat) : Int) = ((1 + k % 5 : Nat) : Int) by omega]
  exact sizes_wp hc lo (1 + n % 7) (1 + k % 5) ⟨by omega, by omega⟩ ⟨by omega, by omega⟩ nl hN M
end

theorem sizes_law (e0 : D) (h0 : TD Try.prog 5 [e0]) (e1 : D) (h1 : TD Try.prog 5 [e1]) : ∃ N M', acall G N 5 [.d e0, .d e1] 0 ⟨0, fun _ => none⟩ = some (.bool true, M') := by
  obtain ⟨n, hn, wn⟩ := h0.int_inv Try.underlying5
  obtain ⟨k, hk, wk⟩ := h1.int_inv Try.underlying5
  cases hn
  cases hk
  have b1 := wf_u8 wn
  have b2 := wf_u8 wk
  obtain ⟨n, rfl⟩ : ∃ m : Nat, n = (m : Int) := ⟨n.toNat, by omega⟩
  obtain ⟨k, rfl⟩ : ∃ m : Nat, k = (m : Int) := ⟨k.toNat, by omega⟩
  refine Lim.law fun call hc => ?_
  obtain ⟨⟨v, M'⟩, h1, h2⟩ := sizes_run hc 0 n k (by omega) (by omega) ⟨0, fun _ => none⟩
  have h2 : v = .bool true := h2
  subst h2
  exact ⟨M', h1⟩
end Go.Proofs.Ytcoagkfjdpdohaa.Sx
