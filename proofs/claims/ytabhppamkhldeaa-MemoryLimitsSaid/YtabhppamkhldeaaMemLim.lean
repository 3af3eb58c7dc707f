/- CHAPTER 19, MemoryLimits: what the statement's function answers on the abstract machine. -/
import Derived.Test.YtabhppamkhldeaaMemA
import Derived.Test.YtabhppamkhldeaaSxI
namespace Go.Proofs.Ytabhppamkhldeaa.Sx
open Go
set_option maxRecDepth 1000000
set_option linter.unusedSimpArgs false
set_option maxHeartbeats 4000000 in
theorem lim_walk (n k : Int) (a b x e : Int) (M1 : MM) (hn0 : 0 ≤ n) (hn1 : n ≤ 255) (hk0 : 0 ≤ k) (hk1 : k ≤ 255)
    (hn : n.tmod 3 = a) (hk : k.tmod 3 = b) (ha0 : 0 ≤ a) (ha1 : a ≤ 2) (hb0 : 0 ≤ b) (hb1 : b ≤ 2)
    (hm : acall G 19 10 [.ptr 0 0, .i (4194303 + a), .i (4095 + b)] 0 mmNew = some (.tup [.int .u64 x, .i e], M1))
    (h : a ≤ 1 ∧ b ≤ 1 ∧ x = 8 ∧ e = 0 ∨ a = 2 ∧ x = 0 ∧ e = 20 ∨ a ≤ 1 ∧ b = 2 ∧ x = 0 ∧ e = 20) :
    acall G 20 4 [.int .u8 n, .int .u8 k] 0 mm0 = some (.bool true, M1) := by
  have hmb := fun (M : MM) => make_bad 18 (.ptr 0 0) (-1 - n) 0 0 M (by omega)
  have hmc := fun (M : MM) => make_bad 18 (.ptr 0 0) 0 (-1 - k) 0 M (by omega)
  rw [eq4]
  rcases h with ⟨h1, h2, rfl, rfl⟩ | ⟨h1, rfl, rfl⟩ | ⟨h1, h2, rfl, rfl⟩
  all_goals unfold s4
  all_goals subst hn; subst hk
  all_goals repeat (first | with_reducible refine rn_bnd new_ok ?_ | with_reducible refine rn_bnd hm ?_ | with_reducible refine rn_bnd (hmb _) ?_ | with_reducible refine rn_bnd (hmc _) ?_ | with_reducible refine rn_bnd (awake_pu _ _) ?_ | with_reducible refine rn_bsome ?_ | with_reducible refine rn_some ?_ | with_reducible refine rn_if_t ?_ | with_reducible refine rn_if_f ?_ | with_reducible refine rn_gtt ?_ | with_reducible refine rn_gff ?_ | with_reducible refine rn_gtf ?_ | with_reducible refine rn_gft ?_ | with_reducible refine rn_gun ?_ | with_reducible refine rn_ibin ?_ | with_reducible refine rn_iun ?_ | with_reducible refine rn_ipick ?_ | with_reducible refine rn_icvi ?_ | with_reducible refine rn_ild1 ?_ | with_reducible refine rn_inilc ?_ | with_reducible refine rn_ifad ?_ | with_reducible refine rn_iext ?_ | with_reducible refine rn_ilens ?_ | with_reducible refine rn_ilen ?_ | with_reducible refine rn_iixs ?_ | with_reducible refine rn_iixc ?_ | with_reducible refine rn_pt ?_ | with_reducible refine rn_pf ?_ | with_reducible refine rn_eqb_tt ?_ | with_reducible refine rn_eqb_ff ?_ | with_reducible refine rn_eqb_tf ?_ | with_reducible refine rn_eqb_ft ?_ | with_reducible refine rn_neb_tt ?_ | with_reducible refine rn_neb_ff ?_ | with_reducible refine rn_neb_tf ?_ | with_reducible refine rn_neb_ft ?_ | with_reducible refine rn_not_t ?_ | with_reducible refine rn_not_f ?_ | with_reducible refine rn_eqp1 ?_ | with_reducible refine rn_eqp2 ?_ | with_reducible refine rn_eqp3 ?_ | with_reducible refine rn_nep1 ?_ | with_reducible refine rn_nep2 ?_ | with_reducible refine rn_ext0 ?_ | with_reducible refine rn_ext1 ?_ | with_reducible refine rn_ext2 ?_ | with_reducible refine rn_ext3 ?_ | with_reducible refine rn_len_sl ?_ | with_reducible refine rn_len_nil ?_ | with_reducible refine rn_len_os ?_ | with_reducible refine rn_lens ?_ | with_reducible refine rn_nilc ?_ | with_reducible refine rn_nilci ?_ | with_reducible refine rn_fad ?_ | with_reducible refine rn_fadi ?_ | with_reducible refine rn_ldi ?_ | (with_reducible refine rn_add64 ?_ ?_; focus omega) | (with_reducible refine rn_sub64 ?_ ?_; focus omega) | (with_reducible refine rn_mul64 ?_ ?_; focus omega) | (with_reducible refine rn_addu ?_ ?_; focus omega) | (with_reducible refine rn_subu ?_ ?_; focus omega) | (with_reducible refine rn_mulu ?_ ?_; focus omega) | (with_reducible refine rn_add8 ?_ ?_; focus omega) | (with_reducible refine rn_sub8 ?_ ?_; focus omega) | (with_reducible refine rn_rem ?_ ?_; focus omega) | (with_reducible refine rn_quo64 ?_ ?_; focus omega) | (with_reducible refine rn_quou ?_ ?_; focus omega) | (with_reducible refine rn_quo8 ?_ ?_; focus omega) | (with_reducible refine rn_eql_t ?_ ?_; focus omega) | (with_reducible refine rn_eql_f ?_ ?_; focus omega) | (with_reducible refine rn_neq_t ?_ ?_; focus omega) | (with_reducible refine rn_neq_f ?_ ?_; focus omega) | (with_reducible refine rn_lss_t ?_ ?_; focus omega) | (with_reducible refine rn_lss_f ?_ ?_; focus omega) | (with_reducible refine rn_leq_t ?_ ?_; focus omega) | (with_reducible refine rn_leq_f ?_ ?_; focus omega) | (with_reducible refine rn_gtr_t ?_ ?_; focus omega) | (with_reducible refine rn_gtr_f ?_ ?_; focus omega) | (with_reducible refine rn_geq_t ?_ ?_; focus omega) | (with_reducible refine rn_geq_f ?_ ?_; focus omega) | (with_reducible refine rn_cvi64 ?_ ?_; focus omega) | (with_reducible refine rn_cviu ?_ ?_; focus omega) | (with_reducible refine rn_cvi8 ?_ ?_; focus omega) | (with_reducible refine rn_ixs ?_ ?_; focus omega) | (with_reducible refine rn_ixsl ?_ ?_; focus omega) | (with_reducible refine rn_shr ?_ ?_; focus omega))
  all_goals rfl

theorem lim_ok (n k : Int) (hn0 : 0 ≤ n) (hn1 : n ≤ 255) (hk0 : 0 ≤ k) (hk1 : k ≤ 255) :
    ∃ M', acall G 20 4 [.int .u8 n, .int .u8 k] 0 mm0 = some (.bool true, M') := by
  have h1 : n.tmod 3 = 0 ∨ n.tmod 3 = 1 ∨ n.tmod 3 = 2 := by rw [Int.tmod_eq_emod_of_nonneg hn0]; omega
  have h2 : k.tmod 3 = 0 ∨ k.tmod 3 = 1 ∨ k.tmod 3 = 2 := by rw [Int.tmod_eq_emod_of_nonneg hk0]; omega
  have mk : ∀ a b x e : Int, (acall G 19 10 [.ptr 0 0, .i (4194303 + a), .i (4095 + b)] 0 mmNew).map Prod.fst = some (.tup [.int .u64 x, .i e]) →
      ∃ M', acall G 19 10 [.ptr 0 0, .i (4194303 + a), .i (4095 + b)] 0 mmNew = some (.tup [.int .u64 x, .i e], M') := fun a b x e h => fst_some h
  rcases h1 with h1 | h1 | h1 <;> rcases h2 with h2 | h2 | h2
  · obtain ⟨M1, hm⟩ := mk 0 0 8 0 (by kernel_rfl); exact ⟨M1, lim_walk n k 0 0 8 0 M1 hn0 hn1 hk0 hk1 h1 h2 (by omega) (by omega) (by omega) (by omega) hm (by omega)⟩
  · obtain ⟨M1, hm⟩ := mk 0 1 8 0 (by kernel_rfl); exact ⟨M1, lim_walk n k 0 1 8 0 M1 hn0 hn1 hk0 hk1 h1 h2 (by omega) (by omega) (by omega) (by omega) hm (by omega)⟩
  · obtain ⟨M1, hm⟩ := mk 0 2 0 20 (by kernel_rfl); exact ⟨M1, lim_walk n k 0 2 0 20 M1 hn0 hn1 hk0 hk1 h1 h2 (by omega) (by omega) (by omega) (by omega) hm (by omega)⟩
  · obtain ⟨M1, hm⟩ := mk 1 0 8 0 (by kernel_rfl); exact ⟨M1, lim_walk n k 1 0 8 0 M1 hn0 hn1 hk0 hk1 h1 h2 (by omega) (by omega) (by omega) (by omega) hm (by omega)⟩
  · obtain ⟨M1, hm⟩ := mk 1 1 8 0 (by kernel_rfl); exact ⟨M1, lim_walk n k 1 1 8 0 M1 hn0 hn1 hk0 hk1 h1 h2 (by omega) (by omega) (by omega) (by omega) hm (by omega)⟩
  · obtain ⟨M1, hm⟩ := mk 1 2 0 20 (by kernel_rfl); exact ⟨M1, lim_walk n k 1 2 0 20 M1 hn0 hn1 hk0 hk1 h1 h2 (by omega) (by omega) (by omega) (by omega) hm (by omega)⟩
  · obtain ⟨M1, hm⟩ := mk 2 0 0 20 (by kernel_rfl); exact ⟨M1, lim_walk n k 2 0 0 20 M1 hn0 hn1 hk0 hk1 h1 h2 (by omega) (by omega) (by omega) (by omega) hm (by omega)⟩
  · obtain ⟨M1, hm⟩ := mk 2 1 0 20 (by kernel_rfl); exact ⟨M1, lim_walk n k 2 1 0 20 M1 hn0 hn1 hk0 hk1 h1 h2 (by omega) (by omega) (by omega) (by omega) hm (by omega)⟩
  · obtain ⟨M1, hm⟩ := mk 2 2 0 20 (by kernel_rfl); exact ⟨M1, lim_walk n k 2 2 0 20 M1 hn0 hn1 hk0 hk1 h1 h2 (by omega) (by omega) (by omega) (by omega) hm (by omega)⟩

theorem limits_law (e0 : D) (h0 : TD Try.prog 5 [e0]) (e1 : D) (h1 : TD Try.prog 5 [e1]) : ∃ N M', acall G N 4 [.d e0, .d e1] 0 mm0 = some (.bool true, M') := by
  obtain ⟨n, hn, wn⟩ := h0.int_inv Try.underlying5
  obtain ⟨k, hk, wk⟩ := h1.int_inv Try.underlying5
  cases hn; cases hk
  have b1 := wf_u8 wn; have b2 := wf_u8 wk
  exact ⟨20, lim_ok n k b1.1 b1.2 b2.1 b2.2⟩
end Go.Proofs.Ytabhppamkhldeaa.Sx
