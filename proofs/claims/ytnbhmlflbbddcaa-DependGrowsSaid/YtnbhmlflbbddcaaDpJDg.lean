/- DEPEND: a type whose arguments grow without end has no order. -/
import Derived.Test.YtnbhmlflbbddcaaDpIDg
namespace Go.Proofs.Ytnbhmlflbbddcaa.Sx
open Go
set_option maxRecDepth 1000000
set_option maxHeartbeats 2000000
set_option linter.unusedSimpArgs false
set_option linter.unusedVariables false

def nilD : D := .v (.slice none 0 0)
def dT : List D := [.v (.string sT), nilD]
def dArg (wide : Bool) : List D := [.v (.string sG), .sl (if wide then [.v (.string sP), .sl (dT ++ dT) 2] else [.v (.string sArray), .sl dT 1]) 1]
def dMod (wide direct : Bool) : List D := [.v (.int .i64 1), .v (.string ⟨⟨[103, 101, 111]⟩⟩), .v (.int .i64 1), nilD,
  .sl [.v (.int .i64 0), .v (.bool false), .v (.bool false), .v (.string ⟨⟨[80]⟩⟩), .sl [.v (.string ⟨⟨[65]⟩⟩), .v (.string ⟨⟨[66]⟩⟩)] 2, nilD] 1,
  .sl [.v (.int .i64 0), .v (.bool false), .v (.bool false), .v (.string ⟨⟨[71]⟩⟩), .sl [.v (.string sT)] 1,
    .sl [.v (.bool false), .v (.string ⟨⟨[99, 97]⟩⟩), nilD, .v (.bool !direct), .v (.string ⟨⟨[99, 98]⟩⟩), .sl (dArg wide) 1] 2] 1, nilD, nilD, nilD]
def wK (wide direct : Bool) : AV := .d (.sl (dMod wide direct) 1)

theorem lists_run : ∀ wide direct all : Bool, (acall G 60 25 [vv (wK wide direct), .str sG, .bool all] 0 ⟨0, fun _ => none⟩).map Prod.fst = some (.tup [avTs (lsT wide direct all), avS [sT], .bool true, .bool true])
  | false, false, false => by kernel_rfl
  | false, false, true => by kernel_rfl
  | false, true, false => by kernel_rfl
  | false, true, true => by kernel_rfl
  | true, false, false => by kernel_rfl
  | true, false, true => by kernel_rfl
  | true, true, false => by kernel_rfl
  | true, true, true => by kernel_rfl
theorem wK_cl (wide direct : Bool) : Cl (vv (wK wide direct)) := ⟨rfl, rfl⟩
section
variable {cV cK : CallT} (hV : Lim G cV) (hK : Lim GK cK)
include hV

theorem Wg_pc (wide direct all : Bool) (t : Ty) (ht : t.size ≤ 1000000000) (hn : okG t = true) : PC cV 13 [vv (wK wide direct), avT t, .bool all] (avP (Wg wide direct all t)) := by
  have hn : t.name = sG := by simpa [okG] using hn
  refine within_pc hV _ (wK_cl wide direct) t all ht [sT] (by simp) (lsT wide direct all) (by unfold lsT; split <;> simp) true true (fun x hx => ?_) ?_
  · have hx : x = argT wide := by unfold lsT at hx; split at hx <;> simp at hx; exact hx
    subst hx
    have h4 : (argT wide).size ≤ 10 := by rw [argT, tG_size, Fw_size]; simp [Ty.size, sizes]; split <;> omega
    refine ⟨by omega, ?_⟩
    by_cases hl : [sT].length = t.args.length
    · rw [substT_ok hl rfl]
      split
      · simp [Ty.size_eq, Ty.args, sizes]
      · refine Nat.le_trans (putT_size [sT] t.args 1000000000 (by omega) (fun x hx => ?_) (argT wide)) (by omega)
        have := t.size_eq; have := size_mem hx; omega
    · rw [substT, if_pos hl]
      simp [Ty.size_eq, Ty.args, sizes]
  · rw [hn]
    exact hV.closed 60 (lists_run wide direct all) (fun m => rfl)
end
theorem kT0 : KT (.agg [.d (.v (.string sG)), .d (.sl [.v (.string sInt), nilD] 1)]) (tG (Xk false 0)) := ⟨[.v (.string sG), .sl [.v (.string sInt), nilD] 1], rfl, rfl⟩
theorem kTs0 : KTs (.d (.sl [.v (.string sG), .sl [.v (.string sInt), nilD] 1] 1)) [tG (Xk false 0)] := ⟨_, rfl, rfl⟩
section
variable {cV cK : CallT} (hV : Lim G cV) (hK : Lim GK cK)
include hV hK
theorem ord_e (wide direct : Bool) : ∃ r, PC cK 4 [wK wide direct, .d (.sl [.v (.string sG), .sl [.v (.string sInt), nilD] 1] 1)] (.tup [r, .i (if direct then 4 else 0)]) ∧ closedA r = true := by
  cases direct
  · have h : goF (innerF (Wg wide false false) okG 1) S0 [tG (Xk wide 0)] = some (⟨[(tG (Xk wide 0)).text], [], [tG (Xk wide 0)]⟩, 0) := by
      have hok : okW okG S0 (tG (Xk wide 0)) = true := by
        obtain ⟨h1, h2, h3⟩ := tk_ok wide 0 (Nat.zero_le _)
        simp only [okW, h1, h2, h3, S0, List.length_nil]; rfl
      have hw : Wg wide false false (tG (Xk wide 0)) = ([], 0) := rfl
      have hv : visitF S0.seen (tG (Xk wide 0)) = (true, 0, [(tG (Xk wide 0)).text]) := rfl
      simp only [goF, innerF, hok, hw, hv]
      rfl
    obtain ⟨r, h1, h2⟩ := order_pc hV hK (wK_cl wide false) rfl ⟨_, rfl⟩ _ okG (fun t ht hn => Wg_pc hV wide false false t ht hn) 1 [tG (Xk wide 0)] (by simp) kTs0 h
    exact ⟨r, h1, h2.closed⟩
  · obtain ⟨S', hS⟩ := inner_chain (grows wide true false rfl) (Kg wide) 0 (by omega)
    have h : goF (innerF (Wg wide true false) okG (Kg wide + 1)) S0 [tG (Xk wide 0)] = some (S', 4) := by
      have hS : innerF (Wg wide true false) okG (Kg wide + 1) S0 (tG (Xk wide 0)) = some (S', 4) := hS
      simp only [goF, hS]
      rfl
    obtain ⟨r, h1, h2⟩ := order_pc hV hK (wK_cl wide true) rfl ⟨_, rfl⟩ _ okG (fun t ht hn => Wg_pc hV wide true false t ht hn) _ [tG (Xk wide 0)] (by simp) kTs0 h
    exact ⟨r, h1, h2.closed⟩
theorem reach_e (wide direct : Bool) : ∃ r, PC cK 5 [wK wide direct, .agg [.d (.v (.string sG)), .d (.sl [.v (.string sInt), nilD] 1)]] (.tup [r, .i 4]) ∧ closedA r = true := by
  obtain ⟨S', hS⟩ := outer_chain (grows wide direct true rfl) (Kg wide) 0 (by omega)
  obtain ⟨r, h1, h2⟩ := reach_pc hV hK (wK_cl wide direct) rfl ⟨_, rfl⟩ _ okG (fun t ht hn => Wg_pc hV wide direct true t ht hn) _ (tG (Xk wide 0)) kT0 hS
  exact ⟨r, h1, h2.closed⟩
end
theorem puA_snap {call : CallT} {lk : Nat → Option Blk} {f : FuncId} {args args' : List AV} {v : AV} (h : PC call f args' v) (hs : args.mapM (snap lk) = some args') (hc : args.all closedA = true) : puA call lk f args = some v := by
  obtain ⟨w, M', h1, h2⟩ := h
  simp only [puA, hs, h1, h2, hc, Bool.true_or, if_true]
theorem awakeK {cK : CallT} (hK : Lim GK cK) {lk : Nat → Option Blk} : puA cK lk 6 [] = some (.bool true) := by
  have h : PC cK 6 [] (.bool true) := ⟨.bool true, ⟨0, fun _ => none⟩, (hK.prim (p := primAwake) rfl [] 0 ⟨0, fun _ => none⟩).trans rfl, rfl⟩
  exact puA_ok h rfl rfl
theorem law_run (wide direct : Bool) : ∃ N M', acall GK N 3 [.bool wide, .bool direct] 0 ⟨0, fun _ => none⟩ = some (.bool true, M') := by
  refine Lim.law fun cK hK => ?_
  obtain ⟨cV, hV⟩ := Lim.exists G
  obtain ⟨r1, o1, c1⟩ := ord_e hV hK wide direct
  obtain ⟨r2, o2, c2⟩ := reach_e hV hK wide direct
  have : Wp (cK 3 [.bool wide, .bool direct] 0 ⟨0, fun _ => none⟩) (fun z => z.1 = .bool true) := by
    rw [q3 hK]
    unfold s3
    cases wide <;> cases direct <;> simp only [Bool.false_eq_true, if_false, if_true] at o1
    · repeat (first | (with_reducible (first | refine rn_upk ?_)) | (refine rn_bnd rfl ?_) | (with_reducible (first | refine rn_opt (awakeK hK) ?_)) | (refine rn_opt (puA_snap o1 rfl rfl) ?_) | (refine rn_opt (puA_snap o2 rfl rfl) ?_) | (with_reducible (first | exact rn_ans | refine rn_upa ?_ | refine rn_bumpa ?_ | refine rn_bsome ?_ | refine rn_some ?_ | refine rn_if_t ?_ | refine rn_if_f ?_ | refine rn_gtt ?_ | refine rn_gff ?_ | refine rn_gtf ?_ | refine rn_gft ?_ | refine rn_gun ?_ | refine rn_gp_tt ?_ | refine rn_gp_ff ?_ | refine rn_gp_tf ?_ | refine rn_gp_ft ?_ | refine rn_gp_un ?_ | refine rn_agg ?_ | refine rn_aggd ?_ | refine rn_aggo ?_ | refine rn_fld00 ?_ | refine rn_mke ?_)) | ((with_reducible apply rn_fld); focus exact rfl) | ((with_reducible refine rn_fldall ?_ ?_); focus exact rfl) | ((with_reducible refine rn_setcall ?_ ?_ ?_ ?_); (focus exact rfl); (focus exact rfl); (focus exact rfl)) | ((with_reducible refine rn_loc ?_ ?_); focus exact rfl) | ((with_reducible refine rn_set0 ?_ ?_); focus exact ⟨rfl, rfl⟩) | ((with_reducible refine rn_set1 ?_ ?_); focus exact ⟨rfl, rfl⟩) | ((with_reducible refine rn_mk0 ?_ ?_); focus exact ⟨rfl, rfl⟩) | ((with_reducible refine rn_mk1 ?_ ?_); focus exact ⟨rfl, rfl⟩) | ((with_reducible apply rn_res2); (focus (first | exact locA_all rfl | exact rfl)); (focus (first | exact locA_all rfl | exact rfl))) | (with_reducible (first | refine rn_mmax ?_ | refine rn_pt ?_ | refine rn_pf ?_ | refine rn_eqb_tt ?_ | refine rn_eqb_ff ?_ | refine rn_eqb_tf ?_ | refine rn_eqb_ft ?_ | refine rn_neb_tt ?_ | refine rn_neb_ff ?_ | refine rn_neb_tf ?_ | refine rn_neb_ft ?_ | refine rn_not_t ?_ | refine rn_not_f ?_ | refine rn_ext0 ?_ | refine rn_ext1 ?_ | refine rn_ext2 ?_ | refine rn_len_sl ?_ | refine rn_len_nil ?_ | refine rn_len_os ?_ | refine rn_lens ?_ | refine rn_nilc ?_ | refine rn_nilci ?_ | refine rn_fad ?_ | refine rn_fadi ?_ | refine rn_ldi ?_)) | ((with_reducible refine rn_add64 ?_ ?_); focus omega) | ((with_reducible refine rn_sub64 ?_ ?_); focus omega) | ((with_reducible refine rn_rem ?_ ?_); focus omega) | ((with_reducible refine rn_eql_t ?_ ?_); focus omega) | ((with_reducible refine rn_eql_f ?_ ?_); focus omega) | ((with_reducible refine rn_neq_t ?_ ?_); focus omega) | ((with_reducible refine rn_neq_f ?_ ?_); focus omega) | ((with_reducible refine rn_lss_t ?_ ?_); focus omega) | ((with_reducible refine rn_lss_f ?_ ?_); focus omega) | ((with_reducible refine rn_leq_t ?_ ?_); focus omega) | ((with_reducible refine rn_leq_f ?_ ?_); focus omega) | ((with_reducible refine rn_gtr_t ?_ ?_); focus omega) | ((with_reducible refine rn_gtr_f ?_ ?_); focus omega) | ((with_reducible refine rn_geq_t ?_ ?_); focus omega) | ((with_reducible refine rn_geq_f ?_ ?_); focus omega) | ((with_reducible refine rn_cvi64 ?_ ?_); focus omega) | ((with_reducible refine rn_ixs ?_ ?_); focus omega) | ((with_reducible refine rn_ixsl ?_ ?_); focus omega))
      exact rn_done rfl
    · repeat (first | (with_reducible (first | refine rn_upk ?_)) | (refine rn_bnd rfl ?_) | (with_reducible (first | refine rn_opt (awakeK hK) ?_)) | (refine rn_opt (puA_snap o1 rfl rfl) ?_) | (refine rn_opt (puA_snap o2 rfl rfl) ?_) | (with_reducible (first | exact rn_ans | refine rn_upa ?_ | refine rn_bumpa ?_ | refine rn_bsome ?_ | refine rn_some ?_ | refine rn_if_t ?_ | refine rn_if_f ?_ | refine rn_gtt ?_ | refine rn_gff ?_ | refine rn_gtf ?_ | refine rn_gft ?_ | refine rn_gun ?_ | refine rn_gp_tt ?_ | refine rn_gp_ff ?_ | refine rn_gp_tf ?_ | refine rn_gp_ft ?_ | refine rn_gp_un ?_ | refine rn_agg ?_ | refine rn_aggd ?_ | refine rn_aggo ?_ | refine rn_fld00 ?_ | refine rn_mke ?_)) | ((with_reducible apply rn_fld); focus exact rfl) | ((with_reducible refine rn_fldall ?_ ?_); focus exact rfl) | ((with_reducible refine rn_setcall ?_ ?_ ?_ ?_); (focus exact rfl); (focus exact rfl); (focus exact rfl)) | ((with_reducible refine rn_loc ?_ ?_); focus exact rfl) | ((with_reducible refine rn_set0 ?_ ?_); focus exact ⟨rfl, rfl⟩) | ((with_reducible refine rn_set1 ?_ ?_); focus exact ⟨rfl, rfl⟩) | ((with_reducible refine rn_mk0 ?_ ?_); focus exact ⟨rfl, rfl⟩) | ((with_reducible refine rn_mk1 ?_ ?_); focus exact ⟨rfl, rfl⟩) | ((with_reducible apply rn_res2); (focus (first | exact locA_all rfl | exact rfl)); (focus (first | exact locA_all rfl | exact rfl))) | (with_reducible (first | refine rn_mmax ?_ | refine rn_pt ?_ | refine rn_pf ?_ | refine rn_eqb_tt ?_ | refine rn_eqb_ff ?_ | refine rn_eqb_tf ?_ | refine rn_eqb_ft ?_ | refine rn_neb_tt ?_ | refine rn_neb_ff ?_ | refine rn_neb_tf ?_ | refine rn_neb_ft ?_ | refine rn_not_t ?_ | refine rn_not_f ?_ | refine rn_ext0 ?_ | refine rn_ext1 ?_ | refine rn_ext2 ?_ | refine rn_len_sl ?_ | refine rn_len_nil ?_ | refine rn_len_os ?_ | refine rn_lens ?_ | refine rn_nilc ?_ | refine rn_nilci ?_ | refine rn_fad ?_ | refine rn_fadi ?_ | refine rn_ldi ?_)) | ((with_reducible refine rn_add64 ?_ ?_); focus omega) | ((with_reducible refine rn_sub64 ?_ ?_); focus omega) | ((with_reducible refine rn_rem ?_ ?_); focus omega) | ((with_reducible refine rn_eql_t ?_ ?_); focus omega) | ((with_reducible refine rn_eql_f ?_ ?_); focus omega) | ((with_reducible refine rn_neq_t ?_ ?_); focus omega) | ((with_reducible refine rn_neq_f ?_ ?_); focus omega) | ((with_reducible refine rn_lss_t ?_ ?_); focus omega) | ((with_reducible refine rn_lss_f ?_ ?_); focus omega) | ((with_reducible refine rn_leq_t ?_ ?_); focus omega) | ((with_reducible refine rn_leq_f ?_ ?_); focus omega) | ((with_reducible refine rn_gtr_t ?_ ?_); focus omega) | ((with_reducible refine rn_gtr_f ?_ ?_); focus omega) | ((with_reducible refine rn_geq_t ?_ ?_); focus omega) | ((with_reducible refine rn_geq_f ?_ ?_); focus omega) | ((with_reducible refine rn_cvi64 ?_ ?_); focus omega) | ((with_reducible refine rn_ixs ?_ ?_); focus omega) | ((with_reducible refine rn_ixsl ?_ ?_); focus omega))
      exact rn_done rfl
    · repeat (first | (with_reducible (first | refine rn_upk ?_)) | (refine rn_bnd rfl ?_) | (with_reducible (first | refine rn_opt (awakeK hK) ?_)) | (refine rn_opt (puA_snap o1 rfl rfl) ?_) | (refine rn_opt (puA_snap o2 rfl rfl) ?_) | (with_reducible (first | exact rn_ans | refine rn_upa ?_ | refine rn_bumpa ?_ | refine rn_bsome ?_ | refine rn_some ?_ | refine rn_if_t ?_ | refine rn_if_f ?_ | refine rn_gtt ?_ | refine rn_gff ?_ | refine rn_gtf ?_ | refine rn_gft ?_ | refine rn_gun ?_ | refine rn_gp_tt ?_ | refine rn_gp_ff ?_ | refine rn_gp_tf ?_ | refine rn_gp_ft ?_ | refine rn_gp_un ?_ | refine rn_agg ?_ | refine rn_aggd ?_ | refine rn_aggo ?_ | refine rn_fld00 ?_ | refine rn_mke ?_)) | ((with_reducible apply rn_fld); focus exact rfl) | ((with_reducible refine rn_fldall ?_ ?_); focus exact rfl) | ((with_reducible refine rn_setcall ?_ ?_ ?_ ?_); (focus exact rfl); (focus exact rfl); (focus exact rfl)) | ((with_reducible refine rn_loc ?_ ?_); focus exact rfl) | ((with_reducible refine rn_set0 ?_ ?_); focus exact ⟨rfl, rfl⟩) | ((with_reducible refine rn_set1 ?_ ?_); focus exact ⟨rfl, rfl⟩) | ((with_reducible refine rn_mk0 ?_ ?_); focus exact ⟨rfl, rfl⟩) | ((with_reducible refine rn_mk1 ?_ ?_); focus exact ⟨rfl, rfl⟩) | ((with_reducible apply rn_res2); (focus (first | exact locA_all rfl | exact rfl)); (focus (first | exact locA_all rfl | exact rfl))) | (with_reducible (first | refine rn_mmax ?_ | refine rn_pt ?_ | refine rn_pf ?_ | refine rn_eqb_tt ?_ | refine rn_eqb_ff ?_ | refine rn_eqb_tf ?_ | refine rn_eqb_ft ?_ | refine rn_neb_tt ?_ | refine rn_neb_ff ?_ | refine rn_neb_tf ?_ | refine rn_neb_ft ?_ | refine rn_not_t ?_ | refine rn_not_f ?_ | refine rn_ext0 ?_ | refine rn_ext1 ?_ | refine rn_ext2 ?_ | refine rn_len_sl ?_ | refine rn_len_nil ?_ | refine rn_len_os ?_ | refine rn_lens ?_ | refine rn_nilc ?_ | refine rn_nilci ?_ | refine rn_fad ?_ | refine rn_fadi ?_ | refine rn_ldi ?_)) | ((with_reducible refine rn_add64 ?_ ?_); focus omega) | ((with_reducible refine rn_sub64 ?_ ?_); focus omega) | ((with_reducible refine rn_rem ?_ ?_); focus omega) | ((with_reducible refine rn_eql_t ?_ ?_); focus omega) | ((with_reducible refine rn_eql_f ?_ ?_); focus omega) | ((with_reducible refine rn_neq_t ?_ ?_); focus omega) | ((with_reducible refine rn_neq_f ?_ ?_); focus omega) | ((with_reducible refine rn_lss_t ?_ ?_); focus omega) | ((with_reducible refine rn_lss_f ?_ ?_); focus omega) | ((with_reducible refine rn_leq_t ?_ ?_); focus omega) | ((with_reducible refine rn_leq_f ?_ ?_); focus omega) | ((with_reducible refine rn_gtr_t ?_ ?_); focus omega) | ((with_reducible refine rn_gtr_f ?_ ?_); focus omega) | ((with_reducible refine rn_geq_t ?_ ?_); focus omega) | ((with_reducible refine rn_geq_f ?_ ?_); focus omega) | ((with_reducible refine rn_cvi64 ?_ ?_); focus omega) | ((with_reducible refine rn_ixs ?_ ?_); focus omega) | ((with_reducible refine rn_ixsl ?_ ?_); focus omega))
      exact rn_done rfl
    · repeat (first | (with_reducible (first | refine rn_upk ?_)) | (refine rn_bnd rfl ?_) | (with_reducible (first | refine rn_opt (awakeK hK) ?_)) | (refine rn_opt (puA_snap o1 rfl rfl) ?_) | (refine rn_opt (puA_snap o2 rfl rfl) ?_) | (with_reducible (first | exact rn_ans | refine rn_upa ?_ | refine rn_bumpa ?_ | refine rn_bsome ?_ | refine rn_some ?_ | refine rn_if_t ?_ | refine rn_if_f ?_ | refine rn_gtt ?_ | refine rn_gff ?_ | refine rn_gtf ?_ | refine rn_gft ?_ | refine rn_gun ?_ | refine rn_gp_tt ?_ | refine rn_gp_ff ?_ | refine rn_gp_tf ?_ | refine rn_gp_ft ?_ | refine rn_gp_un ?_ | refine rn_agg ?_ | refine rn_aggd ?_ | refine rn_aggo ?_ | refine rn_fld00 ?_ | refine rn_mke ?_)) | ((with_reducible apply rn_fld); focus exact rfl) | ((with_reducible refine rn_fldall ?_ ?_); focus exact rfl) | ((with_reducible refine rn_setcall ?_ ?_ ?_ ?_); (focus exact rfl); (focus exact rfl); (focus exact rfl)) | ((with_reducible refine rn_loc ?_ ?_); focus exact rfl) | ((with_reducible refine rn_set0 ?_ ?_); focus exact ⟨rfl, rfl⟩) | ((with_reducible refine rn_set1 ?_ ?_); focus exact ⟨rfl, rfl⟩) | ((with_reducible refine rn_mk0 ?_ ?_); focus exact ⟨rfl, rfl⟩) | ((with_reducible refine rn_mk1 ?_ ?_); focus exact ⟨rfl, rfl⟩) | ((with_reducible apply rn_res2); (focus (first | exact locA_all rfl | exact rfl)); (focus (first | exact locA_all rfl | exact rfl))) | (with_reducible (first | refine rn_mmax ?_ | refine rn_pt ?_ | refine rn_pf ?_ | refine rn_eqb_tt ?_ | refine rn_eqb_ff ?_ | refine rn_eqb_tf ?_ | refine rn_eqb_ft ?_ | refine rn_neb_tt ?_ | refine rn_neb_ff ?_ | refine rn_neb_tf ?_ | refine rn_neb_ft ?_ | refine rn_not_t ?_ | refine rn_not_f ?_ | refine rn_ext0 ?_ | refine rn_ext1 ?_ | refine rn_ext2 ?_ | refine rn_len_sl ?_ | refine rn_len_nil ?_ | refine rn_len_os ?_ | refine rn_lens ?_ | refine rn_nilc ?_ | refine rn_nilci ?_ | refine rn_fad ?_ | refine rn_fadi ?_ | refine rn_ldi ?_)) | ((with_reducible refine rn_add64 ?_ ?_); focus omega) | ((with_reducible refine rn_sub64 ?_ ?_); focus omega) | ((with_reducible refine rn_rem ?_ ?_); focus omega) | ((with_reducible refine rn_eql_t ?_ ?_); focus omega) | ((with_reducible refine rn_eql_f ?_ ?_); focus omega) | ((with_reducible refine rn_neq_t ?_ ?_); focus omega) | ((with_reducible refine rn_neq_f ?_ ?_); focus omega) | ((with_reducible refine rn_lss_t ?_ ?_); focus omega) | ((with_reducible refine rn_lss_f ?_ ?_); focus omega) | ((with_reducible refine rn_leq_t ?_ ?_); focus omega) | ((with_reducible refine rn_leq_f ?_ ?_); focus omega) | ((with_reducible refine rn_gtr_t ?_ ?_); focus omega) | ((with_reducible refine rn_gtr_f ?_ ?_); focus omega) | ((with_reducible refine rn_geq_t ?_ ?_); focus omega) | ((with_reducible refine rn_geq_f ?_ ?_); focus omega) | ((with_reducible refine rn_cvi64 ?_ ?_); focus omega) | ((with_reducible refine rn_ixs ?_ ?_); focus omega) | ((with_reducible refine rn_ixsl ?_ ?_); focus omega))
      exact rn_done rfl
  obtain ⟨⟨v, M'⟩, e, q⟩ := this
  simp only at q
  subst q
  exact ⟨M', e⟩
theorem grows_law (e0 : D) (h0 : TD Try.prog 4 [e0]) (e1 : D) (h1 : TD Try.prog 4 [e1]) : ∃ N M', acall GK N 3 [.d e0, .d e1] 0 ⟨0, fun _ => none⟩ = some (.bool true, M') := by
  obtain ⟨b0, hb0⟩ := h0.bool_inv Try.underlying4
  obtain ⟨b1, hb1⟩ := h1.bool_inv Try.underlying4
  cases hb0
  cases hb1
  exact law_run b0 b1
end Go.Proofs.Ytnbhmlflbbddcaa.Sx
