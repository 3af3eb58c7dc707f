/- TYPES: lists of strings. -/
import Derived.Test.YtcoagkfjdpdohaaTyBLo
namespace Go.Proofs.Ytcoagkfjdpdohaa.Sx
open Go
set_option maxRecDepth 1000000
set_option linter.unusedSimpArgs false
set_option linter.unusedVariables false

def encS (l : List ByteArray) : List D := l.map fun s => .v (.string s)
abbrev avS (l : List ByteArray) : AV := .d (.sl (encS l) l.length)
theorem ClS (l : List ByteArray) : Cl (avS l) := ⟨rfl, rfl⟩
theorem ClStr (s : ByteArray) : Cl (.str s) := ⟨rfl, rfl⟩

/-- The place of a string in a list, from i on; -1. -/
def ixFrom : List ByteArray → ByteArray → Nat → Int
  | [], _, _ => -1
  | x :: r, s, i => if x = s then (i : Int) else ixFrom r s (i + 1)
abbrev ixS (l : List ByteArray) (s : ByteArray) : Int := ixFrom l s 0

theorem ixFrom_mem (s : ByteArray) : ∀ (l : List ByteArray) (i : Nat), (0 ≤ ixFrom l s i ↔ s ∈ l)
  | [], i => by simp [ixFrom]
  | x :: r, i => by
    simp only [ixFrom]
    split
    · rename_i h; subst h; simp
    · rename_i h
      rw [ixFrom_mem s r (i + 1), List.mem_cons]
      constructor
      · exact fun hh => .inr hh
      · rintro (hh | hh)
        · exact absurd hh.symm h
        · exact hh

def hasS : List ByteArray → ByteArray → Bool
  | [], _ => false
  | x :: r, s => decide (x = s) || hasS r s
theorem hasS_mem (s : ByteArray) : ∀ l : List ByteArray, hasS l s = true ↔ s ∈ l
  | [] => by simp [hasS]
  | x :: r => by rw [hasS, Bool.or_eq_true, decide_eq_true_eq, hasS_mem s r, List.mem_cons, eq_comm (a := s)]
theorem hasS_ix (s : ByteArray) (l : List ByteArray) (i : Nat) : decide (0 ≤ ixFrom l s i) = hasS l s := by
  rw [Bool.eq_iff_iff, decide_eq_true_eq, ixFrom_mem, hasS_mem]

theorem beq_str (a b : ByteArray) : (a.data.toList == b.data.toList) = decide (a = b) := by
  by_cases h : a = b
  · subst h; simp
  · rw [decide_eq_false h]
    refine beq_eq_false_iff_ne.2 fun hh => h ?_
    obtain ⟨⟨x⟩⟩ := a
    obtain ⟨⟨y⟩⟩ := b
    simp only at hh
    rw [hh]

section
variable {R : Type} {r : R → Prop} {k : AV → Option R}
theorem rn_eqS {e : EK} {a b : ByteArray} (hk : Wp (k (.bool (decide (a = b)))) r) : Wp (opt (binA .eql e (.str a) (.str b)) k) r := rn_eqs (by rw [beq_str]; exact hk)
theorem rn_neS {e : EK} {a b : ByteArray} (hk : Wp (k (.bool !(decide (a = b)))) r) : Wp (opt (binA .neq e (.str a) (.str b)) k) r := rn_nes (by rw [beq_str]; exact hk)
theorem rn_ixS {l : List ByteArray} {i : Nat} {t : ByteArray} {s : List ByteArray} (h : l.drop i = t :: s) (hk : Wp (k (.ip (.v (.string t) :: encS s))) r) : Wp (opt (ixsA 1 (avS l) (.i (i : Int))) k) r := by
  obtain ⟨hi, _⟩ := drop_cons h
  refine rn_opt (v := .ip (.v (.string t) :: encS s)) ?_ hk
  rw [ixsA_sl _ _ _ _ _ (by omega), Int.toNat_natCast, Nat.mul_one, encS, ← List.map_drop, h]; rfl
end

section
variable {call : CallT} (hc : Lim G call)
include hc

theorem index_cc (l : List ByteArray) (s : ByteArray) (hl : l.length ≤ 9223372036854775807) : CC call 72 [avS l, .str s] (.i (ixS l s)) := by
  intro lo M
  obtain ⟨nl, hG, hN⟩ : ∃ nl, G.nl = nl ∧ nl = 18446744073709551616 := ⟨_, rfl, rfl⟩
  rw [q72 hc, hG]
  clear hG
  have loop : ∀ (r : List ByteArray) (i f : Nat) (M : MM), l.drop i = r → r.length < f →
      Wp (b72_4 call nl lo f (.str s) (avS l) (.i l.length) (.i i) M) (Ans (.i (ixFrom r s i)) M) := by
    intro r
    induction r with
    | nil =>
      intro i f M hd hf
      obtain ⟨f, rfl⟩ : ∃ k, f = k + 1 := ⟨f - 1, by simp only [List.length_nil] at hf; omega⟩
      have := drop_nil hd
      unfold b72_4
      repeat (first | (with_reducible (first | refine rn_if_f ?_)) | ((with_reducible refine rn_lss_f ?_ ?_); focus omega))
      exact rn_ans
    | cons x r ih =>
      intro i f M hd hf
      simp only [List.length_cons] at hf
      obtain ⟨f, rfl⟩ : ∃ k, f = k + 1 := ⟨f - 1, by omega⟩
      obtain ⟨hi, hd'⟩ := drop_cons hd
      unfold b72_4
      repeat (first | (with_reducible (first | refine rn_ixS hd ?_ | refine rn_eqS ?_ | refine rn_if_t ?_ | refine rn_ldi ?_)) | ((with_reducible refine rn_lss_t ?_ ?_); focus omega))
      refine rn_if (fun h => ?_) (fun h => ?_)
      · exact rn_ans' (by simp only [ixFrom, if_pos h])
      · repeat (first | ((with_reducible refine rn_add64 ?_ ?_); focus omega))
        simp only [ixFrom, if_neg h]
        exact ih (i + 1) f M hd' (by omega)
  unfold s72
  repeat (first | (with_reducible (first | refine rn_len_sl ?_)))
  exact loop l 0 nl M rfl (by omega)
theorem has_cc (l : List ByteArray) (s : ByteArray) (hl : l.length ≤ 9223372036854775807) : CC call 48 [avS l, .str s] (.bool (hasS l s)) := by
  intro lo M
  obtain ⟨nl, hG, hN⟩ : ∃ nl, G.nl = nl ∧ nl = 18446744073709551616 := ⟨_, rfl, rfl⟩
  rw [q48 hc, hG]
  clear hG
  have loop : ∀ (r : List ByteArray) (i f : Nat) (M : MM), l.drop i = r → r.length < f →
      Wp (b48_4 call nl lo f (.str s) (avS l) (.i l.length) (.i i) M) (Ans (.bool (hasS r s)) M) := by
    intro r
    induction r with
    | nil =>
      intro i f M hd hf
      obtain ⟨f, rfl⟩ : ∃ k, f = k + 1 := ⟨f - 1, by simp only [List.length_nil] at hf; omega⟩
      have := drop_nil hd
      unfold b48_4
      repeat (first | (with_reducible (first | refine rn_if_f ?_)) | ((with_reducible refine rn_lss_f ?_ ?_); focus omega))
      exact rn_ans
    | cons x r ih =>
      intro i f M hd hf
      simp only [List.length_cons] at hf
      obtain ⟨f, rfl⟩ : ∃ k, f = k + 1 := ⟨f - 1, by omega⟩
      obtain ⟨hi, hd'⟩ := drop_cons hd
      unfold b48_4
      repeat (first | (with_reducible (first | refine rn_ixS hd ?_ | refine rn_eqS ?_ | refine rn_if_t ?_ | refine rn_ldi ?_)) | ((with_reducible refine rn_lss_t ?_ ?_); focus omega))
      refine rn_if (fun h => ?_) (fun h => ?_)
      · exact rn_ans' (by simp [hasS, h])
      · repeat (first | ((with_reducible refine rn_add64 ?_ ?_); focus omega))
        have e : hasS (x :: r) s = hasS r s := by simp [hasS, h]
        rw [e]
        exact ih (i + 1) f M hd' (by omega)
  unfold s48
  repeat (first | (with_reducible (first | refine rn_len_sl ?_)))
  exact loop l 0 nl M rfl (by omega)
theorem xindex_cc (l : List ByteArray) (s : ByteArray) (hl : l.length ≤ 9223372036854775807) : CC call 85 [avS l, .str s] (.i (ixS l s)) := by
  intro lo M
  obtain ⟨nl, hG, hN⟩ : ∃ nl, G.nl = nl ∧ nl = 18446744073709551616 := ⟨_, rfl, rfl⟩
  rw [q85 hc, hG]
  clear hG
  have loop : ∀ (r : List ByteArray) (i f : Nat) (M : MM), l.drop i = r → r.length < f →
      Wp (b85_4 call nl lo f (avS l) (.str s) (.i l.length) (.i i) M) (Ans (.i (ixFrom r s i)) M) := by
    intro r
    induction r with
    | nil =>
      intro i f M hd hf
      obtain ⟨f, rfl⟩ : ∃ k, f = k + 1 := ⟨f - 1, by simp only [List.length_nil] at hf; omega⟩
      have := drop_nil hd
      unfold b85_4
      repeat (first | (with_reducible (first | refine rn_if_f ?_)) | ((with_reducible refine rn_lss_f ?_ ?_); focus omega))
      exact rn_ans
    | cons x r ih =>
      intro i f M hd hf
      simp only [List.length_cons] at hf
      obtain ⟨f, rfl⟩ : ∃ k, f = k + 1 := ⟨f - 1, by omega⟩
      obtain ⟨hi, hd'⟩ := drop_cons hd
      unfold b85_4
      repeat (first | (with_reducible (first | refine rn_ixS hd ?_ | refine rn_eqS ?_ | refine rn_if_t ?_ | refine rn_ldi ?_)) | ((with_reducible refine rn_lss_t ?_ ?_); focus omega))
      refine rn_if (fun h => ?_) (fun h => ?_)
      · exact rn_ans' (by simp only [ixFrom, if_pos h.symm])
      · repeat (first | ((with_reducible refine rn_add64 ?_ ?_); focus omega))
        simp only [ixFrom, if_neg (fun hh : x = s => h hh.symm)]
        exact ih (i + 1) f M hd' (by omega)
  unfold s85
  repeat (first | (with_reducible (first | refine rn_len_sl ?_)))
  exact loop l 0 nl M rfl (by omega)
theorem contains_cc (l : List ByteArray) (s : ByteArray) (hl : l.length ≤ 9223372036854775807) : CC call 70 [avS l, .str s] (.bool (hasS l s)) := by
  intro lo M
  rw [q70 hc]
  unfold s70
  refine rn_pcc (xindex_cc hc l s hl) (fz_i _) (by simp [ClS, ClStr]) ?_
  refine rn_geq ?_
  exact rn_ans' (by rw [← hasS_ix s l 0])
end
end Go.Proofs.Ytcoagkfjdpdohaa.Sx
