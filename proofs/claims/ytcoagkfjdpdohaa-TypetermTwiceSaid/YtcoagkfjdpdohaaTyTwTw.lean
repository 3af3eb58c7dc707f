/- TYPES: the law TypetermTwice on the abstract machine. -/
import Derived.Test.YtcoagkfjdpdohaaTyKTw
import Derived.Test.YtcoagkfjdpdohaaTyMTw
namespace Go.Proofs.Ytcoagkfjdpdohaa.Sx
open Go
set_option maxRecDepth 1000000
set_option linter.unusedSimpArgs false
set_option linter.unusedVariables false

abbrev nT : ByteArray := ⟨⟨[84]⟩⟩
abbrev nU : ByteArray := ⟨⟨[85]⟩⟩
abbrev nSelf : ByteArray := ⟨⟨[83, 101, 108, 102]⟩⟩

theorem here_map {α β : Type} (f : α → β) (ns : List ByteArray) (xs : List α) (n : ByteArray) (l : List Ty) : here ns (xs.map f) n l = (here ns xs n l).map f := by
  have look : ∀ (ns : List ByteArray) (xs : List α), look? ns (xs.map f) n = (look? ns xs n).map f := by
    intro ns
    induction ns with
    | nil => intro xs; simp [look?]
    | cons m ns ih =>
      intro xs
      cases xs with
      | nil => simp [look?]
      | cons x xs => simp only [List.map_cons, look?, ih]; split <;> rfl
  unfold here
  split
  · exact look _ _
  · rfl

theorem putTs_nil {ns : List ByteArray} {bs l : List Ty} : (putTs ns bs l).isEmpty = l.isEmpty := by cases l <;> rfl

mutual
/-- Replacing twice is replacing once by what was replaced. -/
theorem put_put (b1 b2 b3 c : Ty) : ∀ t : Ty, putT [nT] [c] (putT [nT, nU, nSelf] [b1, b2, b3] t) = putT [nT, nU, nSelf] ([b1, b2, b3].map (putT [nT] [c])) t
  | .mk n l => by
    rw [putT, putT, here_map]
    cases hh : here [nT, nU, nSelf] [b1, b2, b3] n l with
    | some x => rfl
    | none =>
      simp only [Option.map_none]
      have h0 : here [nT] [c] n (putTs [nT, nU, nSelf] [b1, b2, b3] l) = none := by
        unfold here at hh ⊢
        rw [putTs_nil]
        split
        · rename_i he
          rw [if_pos he] at hh
          simp only [look?] at hh ⊢
          split
          · rename_i hT; rw [if_pos hT] at hh; cases hh
          · rfl
        · rfl
      rw [putT, h0]
      simp only
      rw [puts_puts b1 b2 b3 c l]
theorem puts_puts (b1 b2 b3 c : Ty) : ∀ l : List Ty, putTs [nT] [c] (putTs [nT, nU, nSelf] [b1, b2, b3] l) = putTs [nT, nU, nSelf] ([b1, b2, b3].map (putT [nT] [c])) l
  | [] => rfl
  | t :: r => by rw [putTs, putTs, putTs, put_put b1 b2 b3 c t, puts_puts b1 b2 b3 c r]
end

theorem look_none {α : Type} {n : ByteArray} : ∀ {ns : List ByteArray} {xs : List α}, n ∉ ns → look? ns xs n = none
  | [], _, _ => by simp [look?]
  | _ :: _, [], _ => by simp [look?]
  | m :: ns, x :: xs, h => by
    simp only [look?]
    rw [if_neg (fun e => h (by simp [e])), look_none (fun hh => h (by simp [hh]))]
mutual
/-- A closed type stays. -/
theorem put_closed {ns : List ByteArray} (bs : List Ty) (hp : ∀ n ∈ ns, param n = true) : ∀ t : Ty, t.closed = true → putT ns bs t = t
  | .mk n l, h => by
    rw [Ty.closed, Bool.and_eq_true] at h
    have hn : n ∉ ns := fun hh => by have := hp n hh; rw [this] at h; simp at h
    have h0 : here ns bs n l = none := by
      unfold here
      rw [look_none hn, ite_self]
    rw [putT, h0]
    simp only
    rw [puts_closed bs hp l h.2]
theorem puts_closed {ns : List ByteArray} (bs : List Ty) (hp : ∀ n ∈ ns, param n = true) : ∀ l : List Ty, closeds l = true → putTs ns bs l = l
  | [], _ => rfl
  | t :: r, h => by
    rw [closeds, Bool.and_eq_true] at h
    rw [putTs, put_closed bs hp t h.1, puts_closed bs hp r h.2]
end

section
variable {call : CallT} (hc : Lim G call)
include hc

theorem twice_run (l : List Int) (M : MM) : Wp (call 7 [avZ l] 0 M) (Av (.bool true)) := by
  obtain ⟨nl, hG, hN⟩ : ∃ nl, G.nl = nl ∧ nl = 18446744073709551616 := ⟨_, rfl, rfl⟩
  rw [q7 hc, hG]
  clear hG
  have hclZ : ∀ y ∈ [avZ l], Cl y := by simp [ClZ]
  unfold s7
  refine rn_pcc (light_cc hc l) (fz_b _) hclZ ?_
  refine rn_not ?_
  refine rn_ifb (fun _ => ?_) (fun hle => ?_)
  · refine rn_puc (awake_pc hc) (by simp) ?_
    exact rn_av
  have hl : l.length ≤ 1000000000000 := by
    have : l.length ≤ 700 := by simpa using hle
    omega
  refine rn_wp (roll_d hc l hl 0 M) fun v M1 hh => ?_
  obtain ⟨e1, h1, _⟩ := hh
  simp only at e1 h1
  subst e1
  generalize M.nx = id at h1
  clear hclZ
  refine rn_open hc 4 rfl (by decide) h1 (fun M2 h2 _ => ?_)
  refine rn_open hc 2 rfl (by decide) h2 (fun M3 h3 _ => ?_)
  refine rn_open hc 2 rfl (by decide) h3 (fun M4 h4 _ => ?_)
  refine rn_open hc 2 rfl (by decide) h4 (fun M5 h5 _ => ?_)
  have s0 := openT_size4 l
  have s1 := openT_size2 (openT 4 l).2
  have s2 := openT_size2 (openT 2 (openT 4 l).2).2
  have s3 := openT_size2 (openT 2 (openT 2 (openT 4 l).2).2).2
  generalize (openT 2 (openT 2 (openT 2 (openT 4 l).2).2).2).1 = c at s3
  generalize (openT 2 (openT 2 (openT 4 l).2).2).1 = b at s2
  generalize (openT 2 (openT 4 l).2).1 = a at s1
  generalize (openT 4 l).1 = t at s0
  clear h1 h2 h3 h4 h5
  generalize hx : putT [nT, nU, nSelf] [a, b, c] t = x
  have sx : x.size ≤ 469 := by
    have := putT_size [nT, nU, nSelf] [a, b, c] 7 (by decide) (by simp; exact ⟨s1, s2, s3⟩) t
    rw [hx] at this; omega
  have p1 := subst_ok hc [nT, nU, nSelf] [a, b, c] t rfl (by decide) (by simp) 7 (by decide) (by simp; exact ⟨s1, s2, s3⟩) (by omega)
  have p2 := subst_ok hc [nT] [c] x rfl (by decide) (by simp) 7 (by decide) (by simp; exact s3) (by omega)
  rw [hx] at p1
  have hz : ∀ s ∈ [a, b, c], PC call 18 [avT s, avS [nT], avTs [c]] (.tup [avT (putT [nT] [c] s), .i 0]) := fun s hs => by
    have : s.size ≤ 7 := by
      simp only [List.mem_cons, List.not_mem_nil, or_false] at hs
      rcases hs with rfl | rfl | rfl <;> assumption
    exact subst_ok hc [nT] [c] s rfl (by decide) (by simp) 7 (by decide) (by simp; exact s3) (by omega)
  have sz : ∀ y ∈ [a, b, c].map (putT [nT] [c]), y.size ≤ 49 := fun y hy => by
    obtain ⟨s, hs, rfl⟩ := List.mem_map.1 hy
    have h7 : s.size ≤ 7 := by
      simp only [List.mem_cons, List.not_mem_nil, or_false] at hs
      rcases hs with rfl | rfl | rfl <;> assumption
    have := putT_size [nT] [c] 7 (by decide) (by simp; exact s3) s
    omega
  have p3 := subst_ok hc [nT, nU, nSelf] ([a, b, c].map (putT [nT] [c])) t rfl (by decide) (by simp) 49 (by decide) sz (by omega)
  have hpp := put_put a b c c t
  rw [hx] at hpp
  rw [← hpp] at p3
  have sy : (putT [nT] [c] x).size ≤ 7 * x.size := putT_size [nT] [c] 7 (by decide) (by simp; exact s3) x
  have hcx : t.closed = true → x = t := fun h => by rw [← hx]; exact put_closed _ (by decide) t h
  generalize hy : putT [nT] [c] x = y at p2 p3 sy
  have hyy : y.same y = true := (y.same_iff y).2 rfl
  have q1 := same_cc hc _ y y (Nat.le_refl _) (by omega)
  rw [hyy] at q1
  have q2 := closed_cc hc _ t (Nat.le_refl _) (by omega)
  have q3 := same_cc hc _ x t (Nat.le_refl _) (by omega)
  have c1 : ∀ v ∈ [avT t, avS [nT, nU, nSelf], avTs [a, b, c]], Cl v := by simp [ClT, ClS, ClTs]
  have c2 : ∀ v ∈ [avT x, avS [nT], avTs [c]], Cl v := by simp [ClT, ClS, ClTs]
  have c3 : ∀ v ∈ [avT t, avS [nT, nU, nSelf], avTs ([a, b, c].map (putT [nT] [c]))], Cl v := by simp only [List.mem_cons, List.not_mem_nil, or_false]; rintro v (rfl | rfl | rfl) <;> first | exact ClT _ | exact ClS _ | exact ClTs _
  have fin : ∀ M, Wp (b7_8 call nl 0 (avT t) (avT x) (.i 0) (avT y) (.i 0) (avTs ([a, b, c].map (putT [nT] [c]))) M) (Av (.bool true)) := fun M => by
    repeat (first | (with_reducible (first | refine rn_upk ?_ | refine rn_aggT ?_ | refine rn_noT ?_ | refine rn_nameT ?_ | refine rn_argsT ?_ | refine rn_lenT ?_ | refine rn_ldT ?_ | refine rn_setT ?_ | refine rn_setTT ?_ | refine rn_allT ?_ | refine rn_locT ?_ | refine rn_eqS ?_ | refine rn_neS ?_ | refine rn_wslT ?_ | refine rn_setA ?_ | refine rn_wslS3 ?_ | refine rn_puc p3 c3 ?_ | refine rn_pcc q1 (fz_b _) (ClT2 _ _) ?_ | refine rn_pcc q2 (fz_b _) (ClT1 _) ?_ | exact rn_ans | refine rn_upa ?_ | refine rn_bumpa ?_ | refine rn_bsome ?_ | refine rn_some ?_ | refine rn_if_t ?_ | refine rn_if_f ?_ | refine rn_gtt ?_ | refine rn_gff ?_ | refine rn_gtf ?_ | refine rn_gft ?_ | refine rn_gun ?_ | refine rn_gp_tt ?_ | refine rn_gp_ff ?_ | refine rn_gp_tf ?_ | refine rn_gp_ft ?_ | refine rn_gp_un ?_ | refine rn_agg ?_ | refine rn_aggd ?_ | refine rn_aggo ?_ | refine rn_fld00 ?_ | refine rn_mke ?_)) | ((with_reducible refine rn_fld ?_ ?_); focus exact rfl) | ((with_reducible refine rn_fldall ?_ ?_); focus exact rfl) | ((with_reducible refine rn_setcall ?_ ?_ ?_ ?_); focus exact rfl; focus exact rfl; focus exact rfl) | ((with_reducible refine rn_loc ?_ ?_); focus exact rfl) | ((with_reducible refine rn_set0 ?_ ?_); focus exact ⟨rfl, rfl⟩) | ((with_reducible refine rn_set1 ?_ ?_); focus exact ⟨rfl, rfl⟩) | ((with_reducible refine rn_mk0 ?_ ?_); focus exact ⟨rfl, rfl⟩) | ((with_reducible refine rn_mk1 ?_ ?_); focus exact ⟨rfl, rfl⟩) | ((with_reducible refine rn_res2 ?_ ?_ ?_); focus (first | exact locA_all rfl | exact rfl); focus (first | exact locA_all rfl | exact rfl)) | (with_reducible (first | refine rn_mmax ?_ | refine rn_pt ?_ | refine rn_pf ?_ | refine rn_eqb_tt ?_ | refine rn_eqb_ff ?_ | refine rn_eqb_tf ?_ | refine rn_eqb_ft ?_ | refine rn_neb_tt ?_ | refine rn_neb_ff ?_ | refine rn_neb_tf ?_ | refine rn_neb_ft ?_ | refine rn_not_t ?_ | refine rn_not_f ?_ | refine rn_ext0 ?_ | refine rn_ext1 ?_ | refine rn_ext2 ?_ | refine rn_len_sl ?_ | refine rn_len_nil ?_ | refine rn_len_os ?_ | refine rn_lens ?_ | refine rn_nilc ?_ | refine rn_nilci ?_ | refine rn_fad ?_ | refine rn_fadi ?_ | refine rn_ldi ?_)) | ((with_reducible refine rn_add64 ?_ ?_); focus omega) | ((with_reducible refine rn_sub64 ?_ ?_); focus omega) | ((with_reducible refine rn_rem ?_ ?_); focus omega) | ((with_reducible refine rn_eql_t ?_ ?_); focus omega) | ((with_reducible refine rn_eql_f ?_ ?_); focus omega) | ((with_reducible refine rn_neq_t ?_ ?_); focus omega) | ((with_reducible refine rn_neq_f ?_ ?_); focus omega) | ((with_reducible refine rn_lss_t ?_ ?_); focus omega) | ((with_reducible refine rn_lss_f ?_ ?_); focus omega) | ((with_reducible refine rn_leq_t ?_ ?_); focus omega) | ((with_reducible refine rn_leq_f ?_ ?_); focus omega) | ((with_reducible refine rn_gtr_t ?_ ?_); focus omega) | ((with_reducible refine rn_gtr_f ?_ ?_); focus omega) | ((with_reducible refine rn_geq_t ?_ ?_); focus omega) | ((with_reducible refine rn_geq_f ?_ ?_); focus omega) | ((with_reducible refine rn_cvi64 ?_ ?_); focus omega) | ((with_reducible refine rn_ixs ?_ ?_); focus omega) | ((with_reducible refine rn_ixsl ?_ ?_); focus omega))
    cases hct : t.closed
    · repeat (first | (with_reducible (first | exact rn_ans | refine rn_upa ?_ | refine rn_bumpa ?_ | refine rn_bsome ?_ | refine rn_some ?_ | refine rn_if_t ?_ | refine rn_if_f ?_ | refine rn_gtt ?_ | refine rn_gff ?_ | refine rn_gtf ?_ | refine rn_gft ?_ | refine rn_gun ?_ | refine rn_gp_tt ?_ | refine rn_gp_ff ?_ | refine rn_gp_tf ?_ | refine rn_gp_ft ?_ | refine rn_gp_un ?_ | refine rn_agg ?_ | refine rn_aggd ?_ | refine rn_aggo ?_ | refine rn_fld00 ?_ | refine rn_mke ?_)) | ((with_reducible refine rn_fld ?_ ?_); focus exact rfl) | ((with_reducible refine rn_fldall ?_ ?_); focus exact rfl) | ((with_reducible refine rn_setcall ?_ ?_ ?_ ?_); focus exact rfl; focus exact rfl; focus exact rfl) | ((with_reducible refine rn_loc ?_ ?_); focus exact rfl) | ((with_reducible refine rn_set0 ?_ ?_); focus exact ⟨rfl, rfl⟩) | ((with_reducible refine rn_set1 ?_ ?_); focus exact ⟨rfl, rfl⟩) | ((with_reducible refine rn_mk0 ?_ ?_); focus exact ⟨rfl, rfl⟩) | ((with_reducible refine rn_mk1 ?_ ?_); focus exact ⟨rfl, rfl⟩) | ((with_reducible refine rn_res2 ?_ ?_ ?_); focus (first | exact locA_all rfl | exact rfl); focus (first | exact locA_all rfl | exact rfl)) | (with_reducible (first | refine rn_mmax ?_ | refine rn_pt ?_ | refine rn_pf ?_ | refine rn_eqb_tt ?_ | refine rn_eqb_ff ?_ | refine rn_eqb_tf ?_ | refine rn_eqb_ft ?_ | refine rn_neb_tt ?_ | refine rn_neb_ff ?_ | refine rn_neb_tf ?_ | refine rn_neb_ft ?_ | refine rn_not_t ?_ | refine rn_not_f ?_ | refine rn_ext0 ?_ | refine rn_ext1 ?_ | refine rn_ext2 ?_ | refine rn_len_sl ?_ | refine rn_len_nil ?_ | refine rn_len_os ?_ | refine rn_lens ?_ | refine rn_nilc ?_ | refine rn_nilci ?_ | refine rn_fad ?_ | refine rn_fadi ?_ | refine rn_ldi ?_)) | ((with_reducible refine rn_add64 ?_ ?_); focus omega) | ((with_reducible refine rn_sub64 ?_ ?_); focus omega) | ((with_reducible refine rn_rem ?_ ?_); focus omega) | ((with_reducible refine rn_eql_t ?_ ?_); focus omega) | ((with_reducible refine rn_eql_f ?_ ?_); focus omega) | ((with_reducible refine rn_neq_t ?_ ?_); focus omega) | ((with_reducible refine rn_neq_f ?_ ?_); focus omega) | ((with_reducible refine rn_lss_t ?_ ?_); focus omega) | ((with_reducible refine rn_lss_f ?_ ?_); focus omega) | ((with_reducible refine rn_leq_t ?_ ?_); focus omega) | ((with_reducible refine rn_leq_f ?_ ?_); focus omega) | ((with_reducible refine rn_gtr_t ?_ ?_); focus omega) | ((with_reducible refine rn_gtr_f ?_ ?_); focus omega) | ((with_reducible refine rn_geq_t ?_ ?_); focus omega) | ((with_reducible refine rn_geq_f ?_ ?_); focus omega) | ((with_reducible refine rn_cvi64 ?_ ?_); focus omega) | ((with_reducible refine rn_ixs ?_ ?_); focus omega) | ((with_reducible refine rn_ixsl ?_ ?_); focus omega))
      refine rn_puc (awake_pc hc) (by simp) ?_
      exact rn_av
    · have hxt : x.same t = true := (x.same_iff t).2 (hcx hct)
      rw [hxt] at q3
      repeat (first | (with_reducible (first | refine rn_aggT ?_ | refine rn_noT ?_ | refine rn_nameT ?_ | refine rn_argsT ?_ | refine rn_lenT ?_ | refine rn_ldT ?_ | refine rn_setT ?_ | refine rn_setTT ?_ | refine rn_allT ?_ | refine rn_locT ?_ | refine rn_eqS ?_ | refine rn_neS ?_ | refine rn_wslT ?_ | refine rn_setA ?_ | refine rn_pcc q3 (fz_b _) (ClT2 _ _) ?_ | exact rn_ans | refine rn_upa ?_ | refine rn_bumpa ?_ | refine rn_bsome ?_ | refine rn_some ?_ | refine rn_if_t ?_ | refine rn_if_f ?_ | refine rn_gtt ?_ | refine rn_gff ?_ | refine rn_gtf ?_ | refine rn_gft ?_ | refine rn_gun ?_ | refine rn_gp_tt ?_ | refine rn_gp_ff ?_ | refine rn_gp_tf ?_ | refine rn_gp_ft ?_ | refine rn_gp_un ?_ | refine rn_agg ?_ | refine rn_aggd ?_ | refine rn_aggo ?_ | refine rn_fld00 ?_ | refine rn_mke ?_)) | ((with_reducible refine rn_fld ?_ ?_); focus exact rfl) | ((with_reducible refine rn_fldall ?_ ?_); focus exact rfl) | ((with_reducible refine rn_setcall ?_ ?_ ?_ ?_); focus exact rfl; focus exact rfl; focus exact rfl) | ((with_reducible refine rn_loc ?_ ?_); focus exact rfl) | ((with_reducible refine rn_set0 ?_ ?_); focus exact ⟨rfl, rfl⟩) | ((with_reducible refine rn_set1 ?_ ?_); focus exact ⟨rfl, rfl⟩) | ((with_reducible refine rn_mk0 ?_ ?_); focus exact ⟨rfl, rfl⟩) | ((with_reducible refine rn_mk1 ?_ ?_); focus exact ⟨rfl, rfl⟩) | ((with_reducible refine rn_res2 ?_ ?_ ?_); focus (first | exact locA_all rfl | exact rfl); focus (first | exact locA_all rfl | exact rfl)) | (with_reducible (first | refine rn_mmax ?_ | refine rn_pt ?_ | refine rn_pf ?_ | refine rn_eqb_tt ?_ | refine rn_eqb_ff ?_ | refine rn_eqb_tf ?_ | refine rn_eqb_ft ?_ | refine rn_neb_tt ?_ | refine rn_neb_ff ?_ | refine rn_neb_tf ?_ | refine rn_neb_ft ?_ | refine rn_not_t ?_ | refine rn_not_f ?_ | refine rn_ext0 ?_ | refine rn_ext1 ?_ | refine rn_ext2 ?_ | refine rn_len_sl ?_ | refine rn_len_nil ?_ | refine rn_len_os ?_ | refine rn_lens ?_ | refine rn_nilc ?_ | refine rn_nilci ?_ | refine rn_fad ?_ | refine rn_fadi ?_ | refine rn_ldi ?_)) | ((with_reducible refine rn_add64 ?_ ?_); focus omega) | ((with_reducible refine rn_sub64 ?_ ?_); focus omega) | ((with_reducible refine rn_rem ?_ ?_); focus omega) | ((with_reducible refine rn_eql_t ?_ ?_); focus omega) | ((with_reducible refine rn_eql_f ?_ ?_); focus omega) | ((with_reducible refine rn_neq_t ?_ ?_); focus omega) | ((with_reducible refine rn_neq_f ?_ ?_); focus omega) | ((with_reducible refine rn_lss_t ?_ ?_); focus omega) | ((with_reducible refine rn_lss_f ?_ ?_); focus omega) | ((with_reducible refine rn_leq_t ?_ ?_); focus omega) | ((with_reducible refine rn_leq_f ?_ ?_); focus omega) | ((with_reducible refine rn_gtr_t ?_ ?_); focus omega) | ((with_reducible refine rn_gtr_f ?_ ?_); focus omega) | ((with_reducible refine rn_geq_t ?_ ?_); focus omega) | ((with_reducible refine rn_geq_f ?_ ?_); focus omega) | ((with_reducible refine rn_cvi64 ?_ ?_); focus omega) | ((with_reducible refine rn_ixs ?_ ?_); focus omega) | ((with_reducible refine rn_ixsl ?_ ?_); focus omega))
      refine rn_puc (awake_pc hc) (by simp) ?_
      exact rn_av
  have loop : ∀ (s d : List Ty) (i f : Nat) (M : MM), [a, b, c].drop i = s → s.length < f → d.length + s.length ≤ 1000 → d ++ s.map (putT [nT] [c]) = [a, b, c].map (putT [nT] [c]) →
      Wp (b7_10 call nl 0 f (avT t) (avT c) (avT x) (.i 0) (avT y) (.i 0) (avTs d) (avTs [a, b, c]) (.i (3 : Nat)) (.i (i : Int)) M) (Av (.bool true)) := by
    intro s
    induction s with
    | nil =>
      intro d i f M hd hf hl he
      obtain ⟨f, rfl⟩ : ∃ k, f = k + 1 := ⟨f - 1, by simp only [List.length_nil] at hf; omega⟩
      have := drop_nil hd
      simp only [List.length_cons, List.length_nil] at this
      unfold b7_10
      refine rn_lss_f (by omega) (rn_if_f ?_)
      rw [List.map_nil, List.append_nil] at he
      rw [he]
      exact fin M
    | cons u s ih =>
      intro d i f M hd hf hl he
      simp only [List.length_cons] at hf hl
      obtain ⟨f, rfl⟩ : ∃ k, f = k + 1 := ⟨f - 1, by omega⟩
      obtain ⟨hi, hd'⟩ := drop_cons hd
      simp only [List.length_cons, List.length_nil] at hi
      have hu : u ∈ [a, b, c] := List.drop_subset i _ (by rw [hd]; simp)
      have hbb : (d.length + 1) * 40 ≤ 140737488355328 ∧ d.length + 1 ≤ 9223372036854775807 := by omega
      have cu : ∀ v ∈ [avT u, avS [nT], avTs [c]], Cl v := by simp [ClT, ClS, ClTs]
      have hzu := hz u hu
      unfold b7_10
      refine rn_lss_t (by omega) (rn_if_t ?_)
      refine rn_ixD hd ?_
      repeat (first | (with_reducible (first | refine rn_upk ?_ | refine rn_wslT1 ?_ | refine rn_aggT ?_ | refine rn_noT ?_ | refine rn_nameT ?_ | refine rn_argsT ?_ | refine rn_lenT ?_ | refine rn_ldT ?_ | refine rn_setT ?_ | refine rn_setTT ?_ | refine rn_allT ?_ | refine rn_locT ?_ | refine rn_eqS ?_ | refine rn_neS ?_ | refine rn_wslT ?_ | refine rn_setA ?_ | refine rn_wslS1 ?_ | refine rn_puc hzu cu ?_ | refine rn_appT1 hbb ?_ | exact rn_ans | refine rn_upa ?_ | refine rn_bumpa ?_ | refine rn_bsome ?_ | refine rn_some ?_ | refine rn_if_t ?_ | refine rn_if_f ?_ | refine rn_gtt ?_ | refine rn_gff ?_ | refine rn_gtf ?_ | refine rn_gft ?_ | refine rn_gun ?_ | refine rn_gp_tt ?_ | refine rn_gp_ff ?_ | refine rn_gp_tf ?_ | refine rn_gp_ft ?_ | refine rn_gp_un ?_ | refine rn_agg ?_ | refine rn_aggd ?_ | refine rn_aggo ?_ | refine rn_fld00 ?_ | refine rn_mke ?_)) | ((with_reducible refine rn_fld ?_ ?_); focus exact rfl) | ((with_reducible refine rn_fldall ?_ ?_); focus exact rfl) | ((with_reducible refine rn_setcall ?_ ?_ ?_ ?_); focus exact rfl; focus exact rfl; focus exact rfl) | ((with_reducible refine rn_loc ?_ ?_); focus exact rfl) | ((with_reducible refine rn_set0 ?_ ?_); focus exact ⟨rfl, rfl⟩) | ((with_reducible refine rn_set1 ?_ ?_); focus exact ⟨rfl, rfl⟩) | ((with_reducible refine rn_mk0 ?_ ?_); focus exact ⟨rfl, rfl⟩) | ((with_reducible refine rn_mk1 ?_ ?_); focus exact ⟨rfl, rfl⟩) | ((with_reducible refine rn_res2 ?_ ?_ ?_); focus (first | exact locA_all rfl | exact rfl); focus (first | exact locA_all rfl | exact rfl)) | (with_reducible (first | refine rn_mmax ?_ | refine rn_pt ?_ | refine rn_pf ?_ | refine rn_eqb_tt ?_ | refine rn_eqb_ff ?_ | refine rn_eqb_tf ?_ | refine rn_eqb_ft ?_ | refine rn_neb_tt ?_ | refine rn_neb_ff ?_ | refine rn_neb_tf ?_ | refine rn_neb_ft ?_ | refine rn_not_t ?_ | refine rn_not_f ?_ | refine rn_ext0 ?_ | refine rn_ext1 ?_ | refine rn_ext2 ?_ | refine rn_len_sl ?_ | refine rn_len_nil ?_ | refine rn_len_os ?_ | refine rn_lens ?_ | refine rn_nilc ?_ | refine rn_nilci ?_ | refine rn_fad ?_ | refine rn_fadi ?_ | refine rn_ldi ?_)) | ((with_reducible refine rn_add64 ?_ ?_); focus omega) | ((with_reducible refine rn_sub64 ?_ ?_); focus omega) | ((with_reducible refine rn_rem ?_ ?_); focus omega) | ((with_reducible refine rn_eql_t ?_ ?_); focus omega) | ((with_reducible refine rn_eql_f ?_ ?_); focus omega) | ((with_reducible refine rn_neq_t ?_ ?_); focus omega) | ((with_reducible refine rn_neq_f ?_ ?_); focus omega) | ((with_reducible refine rn_lss_t ?_ ?_); focus omega) | ((with_reducible refine rn_lss_f ?_ ?_); focus omega) | ((with_reducible refine rn_leq_t ?_ ?_); focus omega) | ((with_reducible refine rn_leq_f ?_ ?_); focus omega) | ((with_reducible refine rn_gtr_t ?_ ?_); focus omega) | ((with_reducible refine rn_gtr_f ?_ ?_); focus omega) | ((with_reducible refine rn_geq_t ?_ ?_); focus omega) | ((with_reducible refine rn_geq_f ?_ ?_); focus omega) | ((with_reducible refine rn_cvi64 ?_ ?_); focus omega) | ((with_reducible refine rn_ixs ?_ ?_); focus omega) | ((with_reducible refine rn_ixsl ?_ ?_); focus omega))
      exact ih (d ++ [putT [nT] [c] u]) (i + 1) f _ hd' (by omega) (by simp only [List.length_append, List.length_cons, List.length_nil]; omega) (by rw [← he]; simp)
  repeat (first | (with_reducible (first | refine rn_upk ?_ | refine rn_wslT1 ?_ | refine rn_aggT ?_ | refine rn_noT ?_ | refine rn_nameT ?_ | refine rn_argsT ?_ | refine rn_lenT ?_ | refine rn_ldT ?_ | refine rn_setT ?_ | refine rn_setTT ?_ | refine rn_allT ?_ | refine rn_locT ?_ | refine rn_eqS ?_ | refine rn_neS ?_ | refine rn_wslT ?_ | refine rn_setA ?_ | refine rn_wslS3 ?_ | refine rn_wslT3 ?_ | refine rn_wslS1 ?_ | refine rn_puc p1 c1 ?_ | refine rn_puc p2 c2 ?_ | exact rn_ans | refine rn_upa ?_ | refine rn_bumpa ?_ | refine rn_bsome ?_ | refine rn_some ?_ | refine rn_if_t ?_ | refine rn_if_f ?_ | refine rn_gtt ?_ | refine rn_gff ?_ | refine rn_gtf ?_ | refine rn_gft ?_ | refine rn_gun ?_ | refine rn_gp_tt ?_ | refine rn_gp_ff ?_ | refine rn_gp_tf ?_ | refine rn_gp_ft ?_ | refine rn_gp_un ?_ | refine rn_agg ?_ | refine rn_aggd ?_ | refine rn_aggo ?_ | refine rn_fld00 ?_ | refine rn_mke ?_)) | ((with_reducible refine rn_fld ?_ ?_); focus exact rfl) | ((with_reducible refine rn_fldall ?_ ?_); focus exact rfl) | ((with_reducible refine rn_setcall ?_ ?_ ?_ ?_); focus exact rfl; focus exact rfl; focus exact rfl) | ((with_reducible refine rn_loc ?_ ?_); focus exact rfl) | ((with_reducible refine rn_set0 ?_ ?_); focus exact ⟨rfl, rfl⟩) | ((with_reducible refine rn_set1 ?_ ?_); focus exact ⟨rfl, rfl⟩) | ((with_reducible refine rn_mk0 ?_ ?_); focus exact ⟨rfl, rfl⟩) | ((with_reducible refine rn_mk1 ?_ ?_); focus exact ⟨rfl, rfl⟩) | ((with_reducible refine rn_res2 ?_ ?_ ?_); focus (first | exact locA_all rfl | exact rfl); focus (first | exact locA_all rfl | exact rfl)) | (with_reducible (first | refine rn_mmax ?_ | refine rn_pt ?_ | refine rn_pf ?_ | refine rn_eqb_tt ?_ | refine rn_eqb_ff ?_ | refine rn_eqb_tf ?_ | refine rn_eqb_ft ?_ | refine rn_neb_tt ?_ | refine rn_neb_ff ?_ | refine rn_neb_tf ?_ | refine rn_neb_ft ?_ | refine rn_not_t ?_ | refine rn_not_f ?_ | refine rn_ext0 ?_ | refine rn_ext1 ?_ | refine rn_ext2 ?_ | refine rn_len_sl ?_ | refine rn_len_nil ?_ | refine rn_len_os ?_ | refine rn_lens ?_ | refine rn_nilc ?_ | refine rn_nilci ?_ | refine rn_fad ?_ | refine rn_fadi ?_ | refine rn_ldi ?_)) | ((with_reducible refine rn_add64 ?_ ?_); focus omega) | ((with_reducible refine rn_sub64 ?_ ?_); focus omega) | ((with_reducible refine rn_rem ?_ ?_); focus omega) | ((with_reducible refine rn_eql_t ?_ ?_); focus omega) | ((with_reducible refine rn_eql_f ?_ ?_); focus omega) | ((with_reducible refine rn_neq_t ?_ ?_); focus omega) | ((with_reducible refine rn_neq_f ?_ ?_); focus omega) | ((with_reducible refine rn_lss_t ?_ ?_); focus omega) | ((with_reducible refine rn_lss_f ?_ ?_); focus omega) | ((with_reducible refine rn_leq_t ?_ ?_); focus omega) | ((with_reducible refine rn_leq_f ?_ ?_); focus omega) | ((with_reducible refine rn_gtr_t ?_ ?_); focus omega) | ((with_reducible refine rn_gtr_f ?_ ?_); focus omega) | ((with_reducible refine rn_geq_t ?_ ?_); focus omega) | ((with_reducible refine rn_geq_f ?_ ?_); focus omega) | ((with_reducible refine rn_cvi64 ?_ ?_); focus omega) | ((with_reducible refine rn_ixs ?_ ?_); focus omega) | ((with_reducible refine rn_ixsl ?_ ?_); focus omega))
  exact loop [a, b, c] [] 0 nl _ rfl (by simp only [List.length_cons, List.length_nil]; omega) (by simp) rfl
end

theorem twice_law (e0 : D) (h0 : TD Try.prog 22 [e0]) : ∃ N M', acall G N 7 [.d e0] 0 ⟨0, fun _ => none⟩ = some (.bool true, M') := by
  obtain ⟨ns, hn, hm, wn⟩ := h0.ints_inv Try.underlying22 Try.underlying3
  cases hn
  refine Lim.law fun call hc => ?_
  obtain ⟨⟨v, M'⟩, h1, h2⟩ := twice_run hc ns ⟨0, fun _ => none⟩
  have h2 : v = .bool true := h2
  subst h2
  exact ⟨M', h1⟩
end Go.Proofs.Ytcoagkfjdpdohaa.Sx
