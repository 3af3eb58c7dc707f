/- TYPES: which are valid. -/
import Derived.Test.YtcoagkfjdpdohaaTyZLo
namespace Go.Proofs.Ytcoagkfjdpdohaa.Sx
open Go
set_option maxRecDepth 1000000
set_option linter.unusedSimpArgs false
set_option linter.unusedVariables false

abbrev sArr : ByteArray := ⟨⟨[65, 114, 114, 97, 121]⟩⟩
/-- What is said of a type's name and of how many arguments it has. -/
def headV (s : ByteArray) (k : Nat) : Bool := splitOk s || (!decide (s = s0) && !dotB s && decide (k = if s = sArr then 1 else 0))
mutual
def Ty.valid : Ty → Bool
  | .mk n l => headV n l.length && valids l
def valids : List Ty → Bool
  | [] => true
  | t :: r => t.valid && valids r
end
theorem Ty.valid_eq (t : Ty) : t.valid = (headV t.name t.args.length && valids t.args) := by cases t; rfl
def badIx : List Ty → Nat → Int
  | [], _ => -1
  | t :: r, i => if t.valid then badIx r (i + 1) else i
theorem badIx_valid : ∀ (l : List Ty) (i : Nat), decide (0 ≤ badIx l i) = !valids l
  | [], i => rfl
  | t :: r, i => by
    by_cases h : t.valid = true
    · have e : badIx (t :: r) i = badIx r (i + 1) := by simp only [badIx, if_pos h]
      simp only [e, valids, h, Bool.true_and]; exact badIx_valid r (i + 1)
    · have e : badIx (t :: r) i = i := by simp only [badIx, if_neg h]
      simp only [e, valids, Bool.eq_false_iff.2 h]; simp
theorem dot_arr : dotB sArr = false := by decide
theorem split_arr : splitOk sArr = false := by decide
theorem split_dot {s : ByteArray} (h : dotB s = false) : splitOk s = false := by unfold splitOk; rw [h]; rfl
theorem split_nil : splitOk s0 = false := by decide

section
variable {call : CallT} (hc : Lim G call)
include hc

theorem indexFunc2_cc (l : List Ty) (hl : l.length ≤ 9223372036854775807) (h : ∀ t ∈ l, CC call 62 [avT t] (.bool !t.valid)) : CC call 78 [avTs l, .fn 62 [] []] (.i (badIx l 0)) := by
  intro lo M
  obtain ⟨nl, hG, hN⟩ : ∃ nl, G.nl = nl ∧ nl = 18446744073709551616 := ⟨_, rfl, rfl⟩
  rw [q78 hc, hG]
  clear hG
  have loop : ∀ (r : List Ty) (i f : Nat) (M : MM), l.drop i = r → r.length < f →
      Wp (b78_4 call nl lo f (avTs l) (.fn 62 [] []) (.i l.length) (.i i) M) (Ans (.i (badIx r i)) M) := by
    intro r
    induction r with
    | nil =>
      intro i f M hd hf
      obtain ⟨f, rfl⟩ : ∃ k, f = k + 1 := ⟨f - 1, by simp only [List.length_nil] at hf; omega⟩
      have := drop_nil hd
      unfold b78_4
      repeat (first | (with_reducible (first | refine rn_if_f ?_)) | ((with_reducible refine rn_lss_f ?_ ?_); focus omega))
      exact rn_ans
    | cons x r ih =>
      intro i f M hd hf
      simp only [List.length_cons] at hf
      obtain ⟨f, rfl⟩ : ∃ k, f = k + 1 := ⟨f - 1, by omega⟩
      obtain ⟨hi, hd'⟩ := drop_cons hd
      have hx : x ∈ l := List.drop_subset i l (by rw [hd]; simp)
      unfold b78_4
      repeat (first | (with_reducible (first | refine rn_ldT ?_ | refine rn_ixD hd ?_ | refine rn_if_t ?_)) | ((with_reducible refine rn_lss_t ?_ ?_); focus omega))
      refine rn_pcw rfl rfl rfl (h x hx) (fz_b _) (ClT1 _) ?_
      simp only [badIx]
      cases hxy : x.valid
      · refine rn_if_t ?_
        exact rn_ans
      · refine rn_if_f ?_
        repeat (first | ((with_reducible refine rn_add64 ?_ ?_); focus omega))
        exact ih (i + 1) f _ hd' (by omega)
  unfold s78
  repeat (first | (with_reducible (first | refine rn_lenT ?_)))
  exact loop l 0 nl M rfl (by omega)

theorem valid_cc : ∀ (n : Nat) (t : Ty), t.size ≤ n → n ≤ 1000000000000 → t.wf → CC call 28 [avT t] (.bool t.valid) := by
  intro n
  induction n with
  | zero => intro t h; have := t.size_pos; omega
  | succ n ih =>
    intro t h hn hw lo M
    have hs := t.size_eq
    have hlen := sizes_len t.args
    have hF : ∀ x ∈ t.args, CC call 62 [avT x] (.bool !x.valid) := fun x hx lo M => by
      have := size_mem hx
      rw [q62 hc]
      unfold s62
      repeat (first | (with_reducible (first | refine rn_aggT ?_ | refine rn_allT ?_ | refine rn_pcc (ih x (by omega) (by omega) (wf_mem hw.args hx)) (fz_b _) (ClT1 _) ?_ | refine rn_upa ?_)))
      refine rn_not ?_
      exact rn_ans
    have hI := indexFunc2_cc hc t.args (by omega) hF
    have hC : CC call 59 [avTs t.args, .fn 62 [] []] (.bool !(valids t.args)) := fun lo M => by
      rw [q59 hc]
      unfold s59
      refine rn_cc hI (fun M1 => ?_)
      refine rn_geq ?_
      exact rn_ans' (by rw [badIx_valid])
    have hsp := split_cc hc t.name hw.name
    have tail : ∀ (w : Nat) (M : MM), (w = if t.name = sArr then 1 else 0) → Wp (b28_3 call G.nl lo (avT t) (.i (w : Int)) M) (Ans (.bool t.valid) M) := by
      intro w M hwant
      have fin : headV t.name t.args.length = true → ∀ M : MM, Wp (bnd (call 59 [avTs t.args, (.fn 62 [] [])] lo M) fun v34 M35 => opt (unA .not v34) fun v36 => some (v36, M35)) (Ans (.bool t.valid) M) := fun hh M => by
        refine rn_cc hC (fun M1 => ?_)
        refine rn_not ?_
        exact rn_ans' (by rw [t.valid_eq, hh, Bool.not_not, Bool.true_and])
      have bad : headV t.name t.args.length = false → ∀ M : MM, Wp (some (AV.bool false, M)) (Ans (.bool t.valid) M) := fun hh M => rn_ans' (by rw [t.valid_eq, hh, Bool.false_and])
      repeat (first | (with_reducible (first | refine rn_noT ?_ | refine rn_nameT ?_ | refine rn_pcc hsp (fz_split _) (by simp [ClStr]) ?_ | refine rn_ext0 ?_ | refine rn_ext1 ?_ | refine rn_ext2 ?_)))
      cases hok : splitOk t.name
      · repeat (first | (with_reducible (first | refine rn_noT ?_ | refine rn_nameT ?_ | refine rn_eqS ?_ | refine rn_some ?_ | refine rn_gp_tt ?_ | refine rn_not_f ?_)))
        cases hn0 : decide (t.name = s0)
        · repeat (first | (with_reducible (first | refine rn_noT ?_ | refine rn_nameT ?_ | refine rn_pcc (scontains_cc hc t.name) (fz_b _) (by simp [ClStr]) ?_ | refine rn_some ?_ | refine rn_gp_tt ?_ | refine rn_gp_ff ?_ | refine rn_pf ?_)))
          cases hd : dotB t.name
          · repeat (first | (with_reducible (first | refine rn_noT ?_ | refine rn_argsT ?_ | refine rn_lenT ?_ | refine rn_some ?_ | refine rn_gp_ff ?_)))
            by_cases hk : t.args.length = w
            · refine rn_neq_f (by omega) ?_
              repeat (first | (with_reducible (first | refine rn_noT ?_ | refine rn_argsT ?_ | refine rn_if_f ?_ | refine rn_gp_tt ?_ | refine rn_pt ?_ | refine rn_pf ?_)))
              exact fin (by unfold headV; rw [hok, hn0, hd, decide_eq_true (by rw [hk]; exact hwant)]; rfl) M
            · refine rn_neq_t (by omega) ?_
              repeat (first | (with_reducible (first | refine rn_if_t ?_ | refine rn_gp_tt ?_ | refine rn_pt ?_ | refine rn_pf ?_)))
              exact bad (by unfold headV; rw [hok, hn0, hd, decide_eq_false (by rw [← hwant]; exact hk)]; rfl) M
          · repeat (first | (with_reducible (first | refine rn_if_t ?_ | refine rn_gp_tt ?_ | refine rn_gp_tf ?_ | refine rn_pt ?_)))
            exact bad (by unfold headV; rw [hok, hn0, hd]; rfl) M
        · repeat (first | (with_reducible (first | refine rn_some ?_ | refine rn_if_t ?_ | refine rn_gp_tt ?_ | refine rn_gp_tf ?_ | refine rn_pt ?_)))
          exact bad (by unfold headV; rw [hok, hn0]; rfl) M
      · repeat (first | (with_reducible (first | refine rn_noT ?_ | refine rn_argsT ?_ | refine rn_if_f ?_ | refine rn_gp_ft ?_ | refine rn_gp_un ?_ | refine rn_pf ?_ | refine rn_not_t ?_)))
        exact fin (by unfold headV; rw [hok]; rfl) M
    rw [q28 hc]
    unfold s28
    repeat (first | (with_reducible (first | refine rn_aggT ?_ | refine rn_noT ?_ | refine rn_nameT ?_ | refine rn_eqS ?_ | refine rn_upa ?_)))
    by_cases hA : t.name = sArr
    · rw [decide_eq_true hA]
      refine rn_if_t ?_
      exact tail 1 _ (by rw [if_pos hA])
    · rw [decide_eq_false hA]
      refine rn_if_f ?_
      exact tail 0 _ (by rw [if_neg hA])

theorem rvalid_cc : ∀ (n : Nat) (t : Ty), t.size ≤ n → n ≤ 1000000000000 → t.wf → CC call 29 [avT t] (.bool t.valid) := by
  intro n
  induction n with
  | zero => intro t h; have := t.size_pos; omega
  | succ n ih =>
    intro t h hn hw lo M
    obtain ⟨nl, hG, hN⟩ : ∃ nl, G.nl = nl ∧ nl = 18446744073709551616 := ⟨_, rfl, rfl⟩
    rw [q29 hc, hG]
    clear hG
    have hs := t.size_eq
    have hlen := sizes_len t.args
    have hw2 := hw.args
    have loop : ∀ (s : List Ty) (i f : Nat) (M : MM), t.args.drop i = s → s.length < f →
        Wp (b29_5 call nl lo f (avTs t.args) (.i t.args.length) (.i i) M) (Ans (.bool (valids s)) M) := by
      intro s
      induction s with
      | nil =>
        intro i f M hd hf
        obtain ⟨f, rfl⟩ : ∃ k, f = k + 1 := ⟨f - 1, by simp only [List.length_nil] at hf; omega⟩
        have := drop_nil hd
        unfold b29_5
        repeat (first | (with_reducible (first | refine rn_if_f ?_)) | ((with_reducible refine rn_lss_f ?_ ?_); focus omega))
        exact rn_ans
      | cons x s ihs =>
        intro i f M hd hf
        simp only [List.length_cons] at hf
        obtain ⟨f, rfl⟩ : ∃ k, f = k + 1 := ⟨f - 1, by omega⟩
        obtain ⟨hi, hd'⟩ := drop_cons hd
        have hxm : x ∈ t.args := List.drop_subset i t.args (by rw [hd]; simp)
        have hx := size_mem hxm
        unfold b29_5
        repeat (first | (with_reducible (first | refine rn_ldT ?_ | refine rn_setT ?_ | refine rn_allT ?_ | refine rn_ixD hd ?_ | refine rn_pcc (ih x (by omega) (by omega) (wf_mem hw2 hxm)) (fz_b _) (ClT1 _) ?_ | refine rn_upa ?_ | refine rn_if_t ?_)) | ((with_reducible refine rn_lss_t ?_ ?_); focus omega))
        simp only [valids]
        cases hxv : x.valid
        · repeat (first | (with_reducible (first | refine rn_if_t ?_ | refine rn_not_f ?_)))
          exact rn_ans
        · repeat (first | (with_reducible (first | refine rn_if_f ?_ | refine rn_not_t ?_)) | ((with_reducible refine rn_add64 ?_ ?_); focus omega))
          rw [Bool.true_and]
          exact ihs (i + 1) f _ hd' (by omega)
    have fin : headV t.name t.args.length = true → ∀ M : MM, Wp (b29_2 call nl lo (avT t) M) (Ans (.bool t.valid) M) := fun hh M => by
      repeat (first | (with_reducible (first | refine rn_noT ?_ | refine rn_argsT ?_ | refine rn_lenT ?_)))
      rw [t.valid_eq, hh, Bool.true_and]
      exact loop t.args 0 nl M rfl (by omega)
    have bad : headV t.name t.args.length = false → ∀ M : MM, Wp (some (AV.bool false, M)) (Ans (.bool t.valid) M) := fun hh M => rn_ans' (by rw [t.valid_eq, hh, Bool.false_and])
    have hsp := rsplit_cc hc t.name hw.name
    have hdt := dots_cc hc t.name hw.name
    unfold s29
    repeat (first | (with_reducible (first | refine rn_aggT ?_ | refine rn_noT ?_ | refine rn_nameT ?_ | refine rn_eqS ?_ | refine rn_upa ?_)))
    by_cases h0 : t.name = s0
    · rw [decide_eq_true h0]
      refine rn_if_t ?_
      exact bad (by unfold headV; rw [h0, split_nil]; simp) _
    · rw [decide_eq_false h0]
      refine rn_if_f ?_
      repeat (first | (with_reducible (first | refine rn_noT ?_ | refine rn_nameT ?_ | refine rn_pcc hdt (fz_i _) (by simp [ClStr]) ?_)))
      by_cases hd : dotsN t.name = 0
      · have hdb : dotB t.name = false := by rw [dotB_dots, hd]; rfl
        refine rn_gtr_f (by omega) (rn_if_f ?_)
        repeat (first | (with_reducible (first | refine rn_noT ?_ | refine rn_nameT ?_ | refine rn_eqS ?_)))
        by_cases hA : t.name = sArr
        · rw [decide_eq_true hA]
          refine rn_if_t ?_
          repeat (first | (with_reducible (first | refine rn_noT ?_ | refine rn_argsT ?_ | refine rn_lenT ?_)))
          by_cases hk : t.args.length = 1
          · refine rn_neq_f (by omega) (rn_if_f ?_)
            exact fin (by unfold headV; rw [split_dot hdb, decide_eq_false h0, hdb, if_pos hA, decide_eq_true hk]; rfl) _
          · refine rn_neq_t (by omega) (rn_if_t ?_)
            exact bad (by unfold headV; rw [split_dot hdb, decide_eq_false h0, hdb, if_pos hA, decide_eq_false hk]; rfl) _
        · rw [decide_eq_false hA]
          refine rn_if_f ?_
          repeat (first | (with_reducible (first | refine rn_noT ?_ | refine rn_argsT ?_ | refine rn_lenT ?_)))
          by_cases hk : t.args.length = 0
          · refine rn_gtr_f (by omega) (rn_if_f ?_)
            exact fin (by unfold headV; rw [split_dot hdb, decide_eq_false h0, hdb, if_neg hA, decide_eq_true hk]; rfl) _
          · refine rn_gtr_t (by omega) (rn_if_t ?_)
            exact bad (by unfold headV; rw [split_dot hdb, decide_eq_false h0, hdb, if_neg hA, decide_eq_false hk]; rfl) _
      · have hdb : dotB t.name = true := by rw [dotB_dots, decide_eq_false hd]; rfl
        refine rn_gtr_t (by omega) (rn_if_t ?_)
        repeat (first | (with_reducible (first | refine rn_noT ?_ | refine rn_nameT ?_ | refine rn_pcc hsp (fz_split _) (by simp [ClStr]) ?_ | refine rn_ext0 ?_ | refine rn_ext1 ?_ | refine rn_ext2 ?_)))
        cases hok : splitOk t.name
        · repeat (first | (with_reducible (first | refine rn_if_t ?_ | refine rn_not_f ?_)))
          exact bad (by unfold headV; rw [hok, hdb]; simp) _
        · refine rn_not_t (rn_if_f ?_)
          exact fin (by unfold headV; rw [hok]; rfl) _
end
end Go.Proofs.Ytcoagkfjdpdohaa.Sx
