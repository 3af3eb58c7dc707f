/- TYPES: light types; lists of strings as closed data. -/
import Derived.Test.YtcoagkfjdpdohaaTyPLo
import Derived.Test.YtcoagkfjdpdohaaTyMLo
namespace Go.Proofs.Ytcoagkfjdpdohaa.Sx
open Go
set_option maxRecDepth 1000000
set_option linter.unusedSimpArgs false
set_option linter.unusedVariables false

abbrev nmT : ByteArray := ⟨⟨[84]⟩⟩
abbrev nmU : ByteArray := ⟨⟨[85]⟩⟩
def lightT : Nat → Ty → Bool
  | 0, _ => false
  | d + 1, t => if 6 < t.args.length then false else t.args.all (lightT d)
def bulk : Nat → Nat
  | 0 => 0
  | d + 1 => 1 + 6 * bulk d
theorem sizes_bulk {B : Nat} : ∀ {l : List Ty}, (∀ x ∈ l, x.size ≤ B) → sizes l ≤ l.length * B
  | [], _ => Nat.zero_le _
  | x :: r, h => by
    have h1 := h x (by simp)
    have h2 := sizes_bulk (l := r) (fun y hy => h y (by simp [hy]))
    rw [sizes, List.length_cons, Nat.succ_mul]; omega
theorem light_size : ∀ (d : Nat) (t : Ty), lightT d t = true → t.size ≤ bulk d
  | 0, t, h => by simp [lightT] at h
  | d + 1, t, h => by
    rw [lightT] at h
    split at h
    · cases h
    · rename_i hl
      rw [List.all_eq_true] at h
      have h1 := sizes_bulk (fun x hx => light_size d x (h x hx))
      have h2 : t.args.length * bulk d ≤ 6 * bulk d := Nat.mul_le_mul_right _ (by omega)
      rw [t.size_eq, bulk]; omega

theorem TD.strs_inv {cs : List D} (h : TD Try.prog 35 cs) : ∃ l : List ByteArray, cs = [.sl (encS l) l.length] ∧ ∀ s ∈ l, s.size ≤ maxLen := by
  obtain ⟨rows, rfl, hm, _, hr⟩ := h.sl_inv Try.underlying35
  have key : ∀ rows : List (List D), (∀ r ∈ rows, TD Try.prog 9 r) → ∃ l : List ByteArray, rows.flatten = encS l ∧ rows.length = l.length ∧ ∀ s ∈ l, s.size ≤ maxLen := by
    intro rows
    induction rows with
    | nil => intro _; exact ⟨[], rfl, rfl, by simp⟩
    | cons r rows ih =>
      intro hr
      obtain ⟨l, h1, h2, h3⟩ := ih fun r h => hr r (by simp [h])
      obtain ⟨s, rfl, hs⟩ := (hr r (by simp)).str_inv Try.underlying9
      refine ⟨s :: l, by rw [List.flatten_cons, h1]; rfl, by simp [h2], fun x hx => ?_⟩
      rcases List.mem_cons.1 hx with rfl | hx
      · exact hs
      · exact h3 x hx
  obtain ⟨l, h1, h2, h3⟩ := key rows hr
  exact ⟨l, by rw [h1, h2], h3⟩

theorem ClInt (n : Int) : Cl (.i n) := ⟨rfl, rfl⟩
theorem nm_wf : ∀ i, i < 9 → (nmAt i).size ≤ 6 := by decide
theorem opens_wf {f : List Int → Ty × List Int} (h : ∀ r, (f r).1.wf) : ∀ (n : Nat) (r : List Int), wfs (opens f n r).1
  | 0, _ => True.intro
  | n + 1, r => ⟨h r, opens_wf h n _⟩
theorem wf_mk {n : ByteArray} {l : List Ty} (hn : n.size ≤ 6) (hl : wfs l) : (Ty.mk n l).wf := by
  have : 6 ≤ maxLen := by decide
  exact ⟨Nat.le_trans hn this, hl⟩
theorem openT_wf : ∀ (k : Nat) (r : List Int), (openT k r).1.wf := by
  intro k
  induction k with
  | zero =>
    intro r
    obtain ⟨i, e, hi⟩ := nextI_lt 9 (by decide) r
    rw [openT]
    split
    · exact wf_mk (nm_wf 0 (by decide)) True.intro
    · rw [e, Int.toNat_natCast]; exact wf_mk (nm_wf i (by omega)) True.intro
  | succ k ih =>
    intro r
    obtain ⟨i, e, hi⟩ := nextI_lt 9 (by decide) r
    rw [openT]
    split
    · exact wf_mk (nm_wf 5 (by decide)) (opens_wf ih _ _)
    · split
      · rw [e, Int.toNat_natCast]; exact wf_mk (nm_wf i (by omega)) (opens_wf ih _ _)
      · rw [e, Int.toNat_natCast]; exact wf_mk (nm_wf i (by omega)) True.intro

section
variable {call : CallT} (hc : Lim G call)
include hc

theorem lightT_cc : ∀ (d : Nat) (t : Ty), d ≤ 1000 → CC call 16 [avT t, .i (d : Int)] (.bool (lightT d t)) := by
  intro d
  induction d with
  | zero =>
    intro t _ lo M
    rw [q16 hc]
    unfold s16
    repeat (first | (with_reducible (first | refine rn_aggT ?_ | refine rn_upa ?_ | refine rn_if_t ?_ | refine rn_gp_tf ?_ | refine rn_pt ?_)) | ((with_reducible refine rn_leq_t ?_ ?_); focus omega))
    exact rn_ans
  | succ d ih =>
    intro t hd lo M
    obtain ⟨nl, hG, hN⟩ : ∃ nl, G.nl = nl ∧ nl = 18446744073709551616 := ⟨_, rfl, rfl⟩
    rw [q16 hc, hG]
    clear hG
    rw [lightT]
    by_cases hl : 6 < t.args.length
    · rw [if_pos hl]
      unfold s16
      repeat (first | (with_reducible (first | refine rn_aggT ?_ | refine rn_noT ?_ | refine rn_argsT ?_ | refine rn_lenT ?_ | exact rn_ans | refine rn_upa ?_ | refine rn_if_t ?_ | refine rn_gp_ff ?_ | refine rn_pf ?_)) | ((with_reducible refine rn_leq_f ?_ ?_); focus omega) | ((with_reducible refine rn_gtr_t ?_ ?_); focus omega))
    · rw [if_neg hl]
      have loop : ∀ (s : List Ty) (i f : Nat) (M : MM), t.args.drop i = s → s.length < f → i + s.length = t.args.length →
          Wp (b16_5 call nl lo f (.i ((d + 1 : Nat) : Int)) (avTs t.args) (.i t.args.length) (.i i) M) (Ans (.bool (s.all (lightT d))) M) := by
        intro s
        induction s with
        | nil =>
          intro i f M hd hf hi
          obtain ⟨f, rfl⟩ : ∃ k, f = k + 1 := ⟨f - 1, by simp only [List.length_nil] at hf; omega⟩
          have := drop_nil hd
          unfold b16_5
          refine rn_lss_f (by omega) (rn_if_f ?_)
          exact rn_ans
        | cons x s ihs =>
          intro i f M hdr hf hi
          simp only [List.length_cons] at hf hi
          obtain ⟨f, rfl⟩ : ∃ k, f = k + 1 := ⟨f - 1, by omega⟩
          obtain ⟨hil, hd'⟩ := drop_cons hdr
          have hcl : ∀ y ∈ [avT x, .i (d : Int)], Cl y := by simp [ClT, ClInt]
          have hx := ih x (by omega)
          unfold b16_5
          refine rn_lss_t (by omega) (rn_if_t ?_)
          repeat (first | (with_reducible (first | refine rn_ldT ?_ | refine rn_setT ?_ | refine rn_allT ?_ | refine rn_ixD hdr ?_ | refine rn_upa ?_)) | ((with_reducible refine rn_sub64 ?_ ?_); focus omega))
          rw [show (((d + 1 : Nat) : Int) - 1) = (d : Int) by omega]
          refine rn_pcc hx (fz_b _) hcl ?_
          rw [List.all_cons]
          cases hxx : lightT d x
          · repeat (first | (with_reducible (first | refine rn_if_t ?_ | refine rn_not_f ?_)))
            exact rn_ans
          · repeat (first | (with_reducible (first | refine rn_if_f ?_ | refine rn_not_t ?_)) | ((with_reducible refine rn_add64 ?_ ?_); focus omega))
            rw [Bool.true_and]
            exact ihs (i + 1) f _ hd' (by omega) (by omega)
      unfold s16
      repeat (first | (with_reducible (first | refine rn_aggT ?_ | refine rn_noT ?_ | refine rn_argsT ?_ | refine rn_lenT ?_ | refine rn_upa ?_ | refine rn_if_f ?_ | refine rn_gp_ff ?_ | refine rn_pf ?_)) | ((with_reducible refine rn_leq_f ?_ ?_); focus omega) | ((with_reducible refine rn_gtr_f ?_ ?_); focus omega))
      exact loop t.args 0 nl _ rfl (by omega) (by omega)
end
end Go.Proofs.Ytcoagkfjdpdohaa.Sx
