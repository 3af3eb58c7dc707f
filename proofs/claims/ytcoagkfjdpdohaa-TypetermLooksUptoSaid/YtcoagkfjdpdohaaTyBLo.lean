/- TYPES: sizes, depths. -/
import Derived.Test.YtcoagkfjdpdohaaTyALo
import Derived.Test.YtcoagkfjdpdohaaHLo
namespace Go.Proofs.Ytcoagkfjdpdohaa.Sx
open Go
set_option maxRecDepth 1000000
set_option linter.unusedSimpArgs false
set_option linter.unusedVariables false

mutual
def Ty.size : Ty → Nat
  | .mk _ l => 1 + sizes l
def sizes : List Ty → Nat
  | [] => 0
  | t :: r => t.size + sizes r
end
theorem Ty.size_eq (t : Ty) : t.size = 1 + sizes t.args := by cases t; simp only [Ty.size, Ty.args]
theorem Ty.size_pos (t : Ty) : 1 ≤ t.size := by rw [t.size_eq]; omega
theorem size_mem {t : Ty} : ∀ {l : List Ty}, t ∈ l → t.size ≤ sizes l
  | [], h => by simp at h
  | u :: r, h => by
    simp only [sizes]
    rcases List.mem_cons.1 h with rfl | h
    · omega
    · have := size_mem h; omega
theorem sizes_append : ∀ a b : List Ty, sizes (a ++ b) = sizes a + sizes b
  | [], b => by simp [sizes]
  | x :: a, b => by simp only [List.cons_append, sizes, sizes_append a b]; omega
theorem sizes_drop (l : List Ty) (i : Nat) : sizes (l.drop i) ≤ sizes l := by
  have h := congrArg sizes (List.take_append_drop i l)
  rw [sizes_append] at h; omega
theorem sizes_len : ∀ l : List Ty, l.length ≤ sizes l
  | [] => Nat.le_refl _
  | t :: r => by have := sizes_len r; have := t.size_pos; simp only [sizes, List.length_cons]; omega
mutual
def Ty.depth : Ty → Nat
  | .mk _ l => depths l + 1
def depths : List Ty → Nat
  | [] => 0
  | t :: r => max t.depth (depths r)
end
theorem Ty.depth_eq (t : Ty) : t.depth = depths t.args + 1 := by cases t; simp only [Ty.depth, Ty.args]
mutual
theorem Ty.depth_size : ∀ t : Ty, t.depth ≤ t.size
  | .mk _ l => by have := depths_sizes l; simp only [Ty.depth, Ty.size]; omega
theorem depths_sizes : ∀ l : List Ty, depths l ≤ sizes l
  | [] => Nat.le_refl _
  | t :: r => by have := t.depth_size; have := depths_sizes r; simp only [depths, sizes]; omega
end

theorem ClT (t : Ty) : Cl (avT t) := ⟨rfl, rfl⟩
theorem ClTs (l : List Ty) : Cl (avTs l) := ⟨rfl, rfl⟩
theorem ClT1 (t : Ty) : ∀ x ∈ [avT t], Cl x := fun x h => by rw [List.mem_singleton.1 h]; exact ClT t
theorem fz_i (n : Int) (m : Mem) : freeze m 0 (.i n) = some (.i n) := rfl
theorem fz_b (n : Bool) (m : Mem) : freeze m 0 (.bool n) = some (.bool n) := rfl
theorem fz_s (n : ByteArray) (m : Mem) : freeze m 0 (.str n) = some (.str n) := rfl
theorem fz_T (t : Ty) (m : Mem) : freeze m 0 (avT t) = some (avT t) := rfl
theorem fz_Ts (t : List Ty) (m : Mem) : freeze m 0 (avTs t) = some (avTs t) := rfl

section
variable {call : CallT} (hc : Lim G call)
include hc

theorem size_cc : ∀ (n : Nat) (t : Ty), t.size ≤ n → n ≤ 9223372036854775807 → CC call 25 [avT t] (.i t.size) := by
  intro n
  induction n with
  | zero => intro t h; have := t.size_pos; omega
  | succ n ih =>
    intro t h hn lo M
    have hG : G.nl = 18446744073709551616 := rfl
    have hs := t.size_eq
    have hlen := sizes_len t.args
    have loop : ∀ (s : List Ty) (i f a : Nat) (M : MM), t.args.drop i = s → s.length < f → a + sizes s ≤ n + 1 →
        Wp (b25_5 call G.nl lo f (.i a) (avTs t.args) (.i t.args.length) (.i i) M) (Ans (.i (a + sizes s : Nat)) M) := by
      intro s
      induction s with
      | nil =>
        intro i f a M hd hf hb
        obtain ⟨f, rfl⟩ : ∃ k, f = k + 1 := ⟨f - 1, by simp only [List.length_nil] at hf; omega⟩
        have := drop_nil hd
        unfold b25_5
        repeat (first | (with_reducible (first | refine rn_if_f ?_)) | ((with_reducible refine rn_lss_f ?_ ?_); focus omega))
        exact rn_ans
      | cons x s ihs =>
        intro i f a M hd hf hb
        simp only [List.length_cons] at hf
        obtain ⟨f, rfl⟩ : ∃ k, f = k + 1 := ⟨f - 1, by omega⟩
        obtain ⟨hl, hd'⟩ := drop_cons hd
        have hx : x.size ≤ n := by
          have h1 := sizes_drop t.args i
          rw [hd] at h1; simp only [sizes] at h1; omega
        simp only [sizes] at hb ⊢
        unfold b25_5
        repeat (first | (with_reducible (first | refine rn_ixD hd ?_ | refine rn_ldT ?_ | refine rn_setT ?_ | refine rn_allT ?_ | refine rn_pcc (ih x hx (by omega)) (fz_i _) (ClT1 _) ?_ | refine rn_upa ?_ | refine rn_if_t ?_)) | ((with_reducible refine rn_add64 ?_ ?_); focus omega) | ((with_reducible refine rn_lss_t ?_ ?_); focus omega))
        have := ihs (i + 1) f (a + x.size) (M.up M.nx) hd' (by omega) (by omega)
        rw [Nat.add_assoc] at this
        exact this
    rw [q25 hc]
    unfold s25
    repeat (first | (with_reducible (first | refine rn_aggT ?_ | refine rn_noT ?_ | refine rn_argsT ?_ | refine rn_lenT ?_ | refine rn_upa ?_)))
    rw [hs]
    exact loop t.args 0 G.nl 1 (M.up M.nx) rfl (by omega) (by omega)
theorem rsize_cc : ∀ (n : Nat) (t : Ty), t.size ≤ n → n ≤ 9223372036854775807 → CC call 32 [avT t] (.i t.size) := by
  intro n
  induction n with
  | zero => intro t h; have := t.size_pos; omega
  | succ n ih =>
    intro t h hn lo M
    have hG : G.nl = 18446744073709551616 := rfl
    have hs := t.size_eq
    have hlen := sizes_len t.args
    have loop : ∀ (s : List Ty) (i f a : Nat) (M : MM), t.args.drop i = s → s.length < f → a + sizes s ≤ n + 1 →
        Wp (b32_5 call G.nl lo f (.i a) (avTs t.args) (.i t.args.length) (.i i) M) (Ans (.i (a + sizes s : Nat)) M) := by
      intro s
      induction s with
      | nil =>
        intro i f a M hd hf hb
        obtain ⟨f, rfl⟩ : ∃ k, f = k + 1 := ⟨f - 1, by simp only [List.length_nil] at hf; omega⟩
        have := drop_nil hd
        unfold b32_5
        repeat (first | (with_reducible (first | refine rn_if_f ?_)) | ((with_reducible refine rn_lss_f ?_ ?_); focus omega))
        exact rn_ans
      | cons x s ihs =>
        intro i f a M hd hf hb
        simp only [List.length_cons] at hf
        obtain ⟨f, rfl⟩ : ∃ k, f = k + 1 := ⟨f - 1, by omega⟩
        obtain ⟨hl, hd'⟩ := drop_cons hd
        have hx : x.size ≤ n := by
          have h1 := sizes_drop t.args i
          rw [hd] at h1; simp only [sizes] at h1; omega
        simp only [sizes] at hb ⊢
        unfold b32_5
        repeat (first | (with_reducible (first | refine rn_ixD hd ?_ | refine rn_ldT ?_ | refine rn_setT ?_ | refine rn_allT ?_ | refine rn_pcc (ih x hx (by omega)) (fz_i _) (ClT1 _) ?_ | refine rn_upa ?_ | refine rn_if_t ?_)) | ((with_reducible refine rn_add64 ?_ ?_); focus omega) | ((with_reducible refine rn_lss_t ?_ ?_); focus omega))
        have := ihs (i + 1) f (a + x.size) (M.up M.nx) hd' (by omega) (by omega)
        rw [Nat.add_assoc] at this
        exact this
    rw [q32 hc]
    unfold s32
    repeat (first | (with_reducible (first | refine rn_aggT ?_ | refine rn_noT ?_ | refine rn_argsT ?_ | refine rn_lenT ?_ | refine rn_upa ?_)))
    rw [hs]
    exact loop t.args 0 G.nl 1 (M.up M.nx) rfl (by omega) (by omega)
theorem depth_cc : ∀ (n : Nat) (t : Ty), t.size ≤ n → n ≤ 9223372036854775807 → CC call 24 [avT t] (.i t.depth) := by
  intro n
  induction n with
  | zero => intro t h; have := t.size_pos; omega
  | succ n ih =>
    intro t h hn lo M
    have hG : G.nl = 18446744073709551616 := rfl
    have hs := t.size_eq
    have hlen := sizes_len t.args
    have loop : ∀ (s : List Ty) (i f a : Nat) (M : MM), t.args.drop i = s → s.length < f → max a (depths s) ≤ n →
        Wp (b24_5 call G.nl lo f (.i a) (avTs t.args) (.i t.args.length) (.i i) M) (Ans (.i (max a (depths s) + 1 : Nat)) M) := by
      intro s
      induction s with
      | nil =>
        intro i f a M hd hf hb
        obtain ⟨f, rfl⟩ : ∃ k, f = k + 1 := ⟨f - 1, by simp only [List.length_nil] at hf; omega⟩
        have := drop_nil hd
        simp only [depths] at hb
        unfold b24_5
        repeat (first | (with_reducible (first | refine rn_if_f ?_)) | ((with_reducible refine rn_add64 ?_ ?_); focus omega) | ((with_reducible refine rn_lss_f ?_ ?_); focus omega))
        exact rn_ans' (by simp only [depths, Nat.max_zero]; first | rfl | (congr 2; omega))
      | cons x s ihs =>
        intro i f a M hd hf hb
        simp only [List.length_cons] at hf
        obtain ⟨f, rfl⟩ : ∃ k, f = k + 1 := ⟨f - 1, by omega⟩
        obtain ⟨hl, hd'⟩ := drop_cons hd
        have hx : x.size ≤ n := by
          have h1 := sizes_drop t.args i
          rw [hd] at h1; simp only [sizes] at h1; omega
        simp only [depths] at hb ⊢
        unfold b24_5
        repeat (first | (with_reducible (first | refine rn_ixD hd ?_ | refine rn_ldT ?_ | refine rn_setT ?_ | refine rn_allT ?_ | refine rn_pcc (ih x hx (by omega)) (fz_i _) (ClT1 _) ?_ | refine rn_upa ?_ | refine rn_if_t ?_ | refine rn_mmax ?_)) | ((with_reducible refine rn_add64 ?_ ?_); focus omega) | ((with_reducible refine rn_lss_t ?_ ?_); focus omega))
        have := ihs (i + 1) f (max a x.depth) (M.up M.nx) hd' (by omega) (by omega)
        rw [Nat.max_assoc] at this
        have e : (if true = true then (if (x.depth : Int) > (a : Int) then (x.depth : Int) else (a : Int)) else (if (x.depth : Int) < (a : Int) then (x.depth : Int) else (a : Int))) = ((max a x.depth : Nat) : Int) := by
          simp only [if_true]; split <;> omega
        rw [e]
        exact this
    rw [q24 hc]
    unfold s24
    repeat (first | (with_reducible (first | refine rn_aggT ?_ | refine rn_noT ?_ | refine rn_argsT ?_ | refine rn_lenT ?_ | refine rn_upa ?_)))
    have hd := depths_sizes t.args
    have := loop t.args 0 G.nl 0 (M.up M.nx) rfl (by omega) (by omega)
    rw [Nat.zero_max, ← t.depth_eq] at this
    exact this
theorem rdepth_cc : ∀ (n : Nat) (t : Ty), t.size ≤ n → n ≤ 9223372036854775807 → CC call 31 [avT t] (.i t.depth) := by
  intro n
  induction n with
  | zero => intro t h; have := t.size_pos; omega
  | succ n ih =>
    intro t h hn lo M
    have hG : G.nl = 18446744073709551616 := rfl
    have hs := t.size_eq
    have hlen := sizes_len t.args
    have loop : ∀ (s : List Ty) (i f a : Nat) (M : MM), t.args.drop i = s → s.length < f → max a (depths s) ≤ n →
        Wp (b31_5 call G.nl lo f (.i a) (avTs t.args) (.i t.args.length) (.i i) M) (Ans (.i (max a (depths s) + 1 : Nat)) M) := by
      intro s
      induction s with
      | nil =>
        intro i f a M hd hf hb
        obtain ⟨f, rfl⟩ : ∃ k, f = k + 1 := ⟨f - 1, by simp only [List.length_nil] at hf; omega⟩
        have := drop_nil hd
        simp only [depths] at hb
        unfold b31_5
        repeat (first | (with_reducible (first | refine rn_if_f ?_)) | ((with_reducible refine rn_add64 ?_ ?_); focus omega) | ((with_reducible refine rn_lss_f ?_ ?_); focus omega))
        exact rn_ans' (by simp only [depths, Nat.max_zero]; first | rfl | (congr 2; omega))
      | cons x s ihs =>
        intro i f a M hd hf hb
        simp only [List.length_cons] at hf
        obtain ⟨f, rfl⟩ : ∃ k, f = k + 1 := ⟨f - 1, by omega⟩
        obtain ⟨hl, hd'⟩ := drop_cons hd
        have hx : x.size ≤ n := by
          have h1 := sizes_drop t.args i
          rw [hd] at h1; simp only [sizes] at h1; omega
        simp only [depths] at hb ⊢
        unfold b31_5
        repeat (first | (with_reducible (first | refine rn_ixD hd ?_ | refine rn_ldT ?_ | refine rn_setT ?_ | refine rn_allT ?_ | refine rn_pcc (ih x hx (by omega)) (fz_i _) (ClT1 _) ?_ | refine rn_upa ?_ | refine rn_if_t ?_ | refine rn_mmax ?_)) | ((with_reducible refine rn_add64 ?_ ?_); focus omega) | ((with_reducible refine rn_lss_t ?_ ?_); focus omega))
        have := ihs (i + 1) f (max a x.depth) (M.up M.nx) hd' (by omega) (by omega)
        rw [Nat.max_assoc] at this
        have e : (if true = true then (if (x.depth : Int) > (a : Int) then (x.depth : Int) else (a : Int)) else (if (x.depth : Int) < (a : Int) then (x.depth : Int) else (a : Int))) = ((max a x.depth : Nat) : Int) := by
          simp only [if_true]; split <;> omega
        rw [e]
        exact this
    rw [q31 hc]
    unfold s31
    repeat (first | (with_reducible (first | refine rn_aggT ?_ | refine rn_noT ?_ | refine rn_argsT ?_ | refine rn_lenT ?_ | refine rn_upa ?_)))
    have hd := depths_sizes t.args
    have := loop t.args 0 G.nl 0 (M.up M.nx) rfl (by omega) (by omega)
    rw [Nat.zero_max, ← t.depth_eq] at this
    exact this
end
end Go.Proofs.Ytcoagkfjdpdohaa.Sx
