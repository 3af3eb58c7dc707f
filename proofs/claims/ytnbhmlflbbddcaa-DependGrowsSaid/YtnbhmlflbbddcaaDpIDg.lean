/- DEPEND: types that grow without end. -/
import Derived.Test.YtnbhmlflbbddcaaDpHDg
namespace Go.Proofs.Ytnbhmlflbbddcaa.Sx
open Go
set_option maxRecDepth 1000000
set_option linter.unusedSimpArgs false
set_option linter.unusedVariables false

section
variable {W : Ty → List Ty × Int} {ok : Ty → Bool} {t : Nat → Ty} {K : Nat}
/-- What a chain of types has to have. -/
structure Chain (W : Ty → List Ty × Int) (ok : Ty → Bool) (t : Nat → Ty) (K : Nat) : Prop where
  le : K ≤ 300
  okt : ∀ k, k ≤ K → ok (t k) = true ∧ (t k).size ≤ 1000000000 ∧ (t k).textL.length ≤ 1000000000000
  ne : ∀ j k, j < k → k ≤ K → (t k).same (t j) = false ∧ (t j).text ≠ (t k).text
  next : ∀ k, k < K → W (t k) = ([t (k + 1)], 0)
  last : K = 300 ∨ K < 300 ∧ W (t K) = ([], 4)
def tx (t : Nat → Ty) (k : Nat) : List ByteArray := (List.range k).map fun j => (t j).text
theorem tx_succ (t : Nat → Ty) (k : Nat) : tx t (k + 1) = tx t k ++ [(t k).text] := by simp [tx, List.range_succ]
theorem tx_len (t : Nat → Ty) (k : Nat) : (tx t k).length = k := by simp [tx]
theorem visit_chain (h : Chain W ok t K) {k : Nat} (hk : k ≤ K) : visitF (tx t k) (t k) = if k = 300 then (false, 4, tx t k) else (true, 0, tx t (k + 1)) := by
  have e : hasS (tx t k) (t k).text = false := by
    cases e : hasS (tx t k) (t k).text
    · rfl
    · have := (hasS_mem _ _).1 e
      simp only [tx, List.mem_map, List.mem_range] at this
      obtain ⟨j, hj, e⟩ := this
      exact absurd e (h.ne j k hj hk).2
  simp only [visitF, e, Bool.false_eq_true, if_false, tx_len, tx_succ]
theorem inner_chain (h : Chain W ok t K) : ∀ (d k : Nat), k + d = K → ∃ S', innerF W ok (d + 1) ⟨tx t k, (List.range k).map t, []⟩ (t k) = some (S', 4) := by
  intro d
  induction d with
  | zero =>
    intro k hk
    have hk : k = K := by omega
    subst hk
    obtain ⟨h1, h2, h3⟩ := h.okt k (Nat.le_refl _)
    have hle := h.le
    have hok : okW ok ⟨tx t k, (List.range k).map t, []⟩ (t k) = true := by
      simp only [okW, h1, h2, h3, tx_len, List.length_map, List.length_range, List.length_nil, decide_true, Bool.true_and, Bool.and_eq_true, decide_eq_true_eq]; omega
    have hon : ((List.range k).map t).any (fun x => (t k).same x) = false := by
      rw [List.any_eq_false]
      intro x hx
      simp only [List.mem_map, List.mem_range] at hx
      obtain ⟨j, hj, rfl⟩ := hx
      rw [(h.ne j k hj (Nat.le_refl _)).1]; simp
    have hv := visit_chain h (Nat.le_refl k)
    simp only [innerF, hok, Bool.true_eq_false, if_false, hon, Bool.false_eq_true, hv]
    rcases h.last with e | ⟨e, hw⟩
    · simp [e]
    · rw [if_neg (show ¬ k = 300 by omega)]
      simp [hw]
  | succ d ih =>
    intro k hk
    obtain ⟨h1, h2, h3⟩ := h.okt k (by omega)
    have hle := h.le
    have hok : okW ok ⟨tx t k, (List.range k).map t, []⟩ (t k) = true := by
      simp only [okW, h1, h2, h3, tx_len, List.length_map, List.length_range, List.length_nil, decide_true, Bool.true_and, Bool.and_eq_true, decide_eq_true_eq]; omega
    have hon : ((List.range k).map t).any (fun x => (t k).same x) = false := by
      rw [List.any_eq_false]
      intro x hx
      simp only [List.mem_map, List.mem_range] at hx
      obtain ⟨j, hj, rfl⟩ := hx
      rw [(h.ne j k hj (by omega)).1]; simp
    have hv := visit_chain h (show k ≤ K by omega)
    rw [if_neg (show ¬ k = 300 by omega)] at hv
    obtain ⟨S', hS⟩ := ih (k + 1) (by omega)
    refine ⟨S', ?_⟩
    have e : (List.range (k + 1)).map t = (List.range k).map t ++ [t k] := by simp [List.range_succ]
    rw [e] at hS
    rw [innerF]
    simp only [hok, Bool.true_eq_false, if_false, hon, Bool.false_eq_true, hv, h.next k (by omega), ne_eq, not_true, List.length_cons, List.length_nil, goF, hS]
    simp
theorem outer_chain (h : Chain W ok t K) : ∀ (d k : Nat), k + d = K → ∃ S', outerF W ok (d + 1) ⟨tx t k, [], (List.range k).map t⟩ (t k) = some (S', 4) := by
  intro d
  induction d with
  | zero =>
    intro k hk
    have hk : k = K := by omega
    subst hk
    obtain ⟨h1, h2, h3⟩ := h.okt k (Nat.le_refl _)
    have hle := h.le
    have hok : okW ok ⟨tx t k, [], (List.range k).map t⟩ (t k) = true := by
      simp only [okW, h1, h2, h3, tx_len, List.length_map, List.length_range, List.length_nil, decide_true, Bool.true_and, Bool.and_eq_true, decide_eq_true_eq]; omega
    have hv := visit_chain h (Nat.le_refl k)
    simp only [outerF, hok, Bool.true_eq_false, if_false, hv]
    rcases h.last with e | ⟨e, hw⟩
    · simp [e]
    · rw [if_neg (show ¬ k = 300 by omega)]
      simp [hw]
  | succ d ih =>
    intro k hk
    obtain ⟨h1, h2, h3⟩ := h.okt k (by omega)
    have hle := h.le
    have hok : okW ok ⟨tx t k, [], (List.range k).map t⟩ (t k) = true := by
      simp only [okW, h1, h2, h3, tx_len, List.length_map, List.length_range, List.length_nil, decide_true, Bool.true_and, Bool.and_eq_true, decide_eq_true_eq]; omega
    have hv := visit_chain h (show k ≤ K by omega)
    rw [if_neg (show ¬ k = 300 by omega)] at hv
    obtain ⟨S', hS⟩ := ih (k + 1) (by omega)
    refine ⟨S', ?_⟩
    have e : (List.range (k + 1)).map t = (List.range k).map t ++ [t k] := by simp [List.range_succ]
    rw [e] at hS
    rw [outerF]
    simp only [hok, Bool.true_eq_false, if_false, hv, h.next k (by omega), ne_eq, not_true, List.length_cons, List.length_nil, goF, hS]
    simp
end

/-! ### The types of the statement -/
abbrev sT : ByteArray := ⟨⟨[84]⟩⟩
abbrev sG : ByteArray := ⟨⟨[103, 101, 111, 46, 71]⟩⟩
abbrev sP : ByteArray := ⟨⟨[103, 101, 111, 46, 80]⟩⟩
abbrev sInt : ByteArray := ⟨⟨[73, 110, 116]⟩⟩
def Fw (wide : Bool) (X : Ty) : Ty := if wide then .mk sP [X, X] else .mk sArray [X]
def tG (X : Ty) : Ty := .mk sG [X]
def Xk (wide : Bool) : Nat → Ty
  | 0 => .mk sInt []
  | k + 1 => Fw wide (Xk wide k)
def argT (wide : Bool) : Ty := tG (Fw wide (.mk sT []))
def lsT (wide direct all : Bool) : List Ty := if all || direct then [argT wide] else []
def Wg (wide direct all : Bool) (t : Ty) : List Ty × Int := withinT (lsT wide direct all) [sT] true true t all
def okG (t : Ty) : Bool := decide (t.name = sG)

theorem param_f {s : ByteArray} (h : builtin s = true ∨ dotB s = true) : param s = false := by
  rcases h with h | h <;> simp [param, h]
theorem Xk_closed (wide : Bool) : ∀ k, (Xk wide k).closed = true
  | 0 => by rw [Ty.closed_eq]; simp only [Xk, Ty.name, Ty.args, closeds, param_f (.inl (show builtin sInt = true from rfl))]; rfl
  | k + 1 => by
    have ih := Xk_closed wide k
    rw [Ty.closed_eq]
    cases wide
    · simp only [Xk, Fw, Bool.false_eq_true, if_false, Ty.name, Ty.args, closeds, ih, param_f (.inl (show builtin sArray = true from rfl))]; rfl
    · simp only [Xk, Fw, if_true, Ty.name, Ty.args, closeds, ih, param_f (.inr (show dotB sP = true from rfl))]; rfl
theorem Fw_size (wide : Bool) (X : Ty) : (Fw wide X).size = if wide then 1 + 2 * X.size else 1 + X.size := by
  cases wide
  · simp [Fw, Ty.size_eq, Ty.args, sizes]
  · have : (Fw true X).size = 1 + (X.size + (X.size + 0)) := by simp only [Fw, if_true, Ty.size, sizes]
    rw [this]; simp; omega
theorem tG_size (X : Ty) : (tG X).size = 1 + X.size := by simp only [tG, Ty.size, sizes]; omega
theorem Wg_chain (wide direct all : Bool) (h : (all || direct) = true) (X : Ty) (hX : X.closed = true) : Wg wide direct all (tG X) = if 4096 < (tG (Fw wide X)).size then ([], 4) else ([tG (Fw wide X)], 0) := by
  have hc : (tG X).closed = true := by
    rw [Ty.closed_eq]; simp only [tG, Ty.name, Ty.args, closeds, hX, param_f (.inr (show dotB sG = true from rfl))]; rfl
  have hb : builtin (tG X).name = false := rfl
  have hs : substT [sT] [X] (argT wide) = if 4096 < (tG (Fw wide X)).size then (ty0, 4) else (tG (Fw wide X), 0) := by
    rw [substT_ok rfl rfl]
    have : putT [sT] [X] (argT wide) = tG (Fw wide X) := by cases wide <;> rfl
    rw [this]
  show withinT _ _ _ _ _ _ = _
  rw [withinT, if_neg (by rw [hc]; decide), if_neg (by rw [hb]; decide), if_neg (by decide), if_neg (by simp [tG, Ty.args]), if_neg (by decide), show lsT wide direct all = [argT wide] by simp [lsT, h]]
  show withinL [sT] [X] [argT wide] [] = _
  rw [withinL, hs]
  by_cases hz : 4096 < (tG (Fw wide X)).size
  · rw [if_pos hz, if_pos hz]; rfl
  · rw [if_neg hz, if_neg hz]; rfl

/-! ### Sizes -/
theorem Xn_size : ∀ k, (Xk false k).size = k + 1
  | 0 => by simp [Xk, Ty.size_eq, Ty.args, sizes]
  | k + 1 => by rw [Xk, Fw_size, Xn_size k]; simp; omega
theorem Xw_size : ∀ k, (Xk true k).size + 1 = 2 ^ (k + 1)
  | 0 => by simp [Xk, Ty.size_eq, Ty.args, sizes]
  | k + 1 => by
    have := Xw_size k
    rw [Xk, Fw_size, Nat.pow_succ]; simp; omega
theorem X_mono (wide : Bool) (k : Nat) : (Xk wide k).size < (Xk wide (k + 1)).size := by
  have := (Xk wide k).size_pos
  rw [Xk, Fw_size]; split <;> omega
theorem X_lt (wide : Bool) {j : Nat} : ∀ {k : Nat}, j < k → (Xk wide j).size < (Xk wide k).size
  | 0, h => by omega
  | k + 1, h => by
    have := X_mono wide k
    by_cases e : j = k
    · subst e; exact this
    · have := X_lt wide (show j < k by omega); omega
theorem Fw_text (wide : Bool) (X : Ty) : (Fw wide X).textL.length = if wide then 9 + 2 * X.textL.length else 7 + X.textL.length := by
  cases wide
  · rw [Ty.textL_eq]; simp [Fw, Ty.name, Ty.args, textLs, Lib.join, Lib.joinTail]; omega
  · rw [Ty.textL_eq]; simp [Fw, Ty.name, Ty.args, textLs, Lib.join, Lib.joinTail]; omega
theorem tG_text (X : Ty) : (tG X).textL.length = 7 + X.textL.length := by
  rw [Ty.textL_eq]; simp [tG, Ty.name, Ty.args, textLs, Lib.join, Lib.joinTail]; omega
theorem Xt_mono (wide : Bool) (k : Nat) : (Xk wide k).textL.length < (Xk wide (k + 1)).textL.length := by
  rw [Xk, Fw_text]; split <;> omega
theorem Xt_lt (wide : Bool) {j : Nat} : ∀ {k : Nat}, j < k → (Xk wide j).textL.length < (Xk wide k).textL.length
  | 0, h => by omega
  | k + 1, h => by
    have := Xt_mono wide k
    by_cases e : j = k
    · subst e; exact this
    · have := Xt_lt wide (show j < k by omega); omega
theorem Xn_text : ∀ k, (Xk false k).textL.length = 3 + 7 * k
  | 0 => by rw [Ty.textL_eq]; simp [Xk, Ty.name, Ty.args]
  | k + 1 => by rw [Xk, Fw_text, Xn_text k]; simp; omega
theorem Xw_text : ∀ k, (Xk true k).textL.length + 9 = 12 * 2 ^ k
  | 0 => by rw [Ty.textL_eq]; simp [Xk, Ty.name, Ty.args]
  | k + 1 => by
    have := Xw_text k
    rw [Xk, Fw_text, Nat.pow_succ]; simp; omega
def Kg (wide : Bool) : Nat := if wide then 11 else 300
theorem tk_ok (wide : Bool) (k : Nat) (hk : k ≤ Kg wide) : okG (tG (Xk wide k)) = true ∧ (tG (Xk wide k)).size ≤ 1000000000 ∧ (tG (Xk wide k)).textL.length ≤ 1000000000000 := by
  refine ⟨by simp [okG, tG, Ty.name], ?_, ?_⟩
  · rw [tG_size]
    cases wide
    · rw [Xn_size]; simp only [Kg, Bool.false_eq_true, if_false] at hk; omega
    · have := Xw_size k
      simp only [Kg, if_true] at hk
      have h2 : 2 ^ (k + 1) ≤ 2 ^ 12 := Nat.pow_le_pow_right (by omega) (by omega)
      omega
  · rw [tG_text]
    cases wide
    · rw [Xn_text]; simp only [Kg, Bool.false_eq_true, if_false] at hk; omega
    · have := Xw_text k
      simp only [Kg, if_true] at hk
      have h2 : 2 ^ k ≤ 2 ^ 11 := Nat.pow_le_pow_right (by omega) (by omega)
      omega
theorem grows (wide direct all : Bool) (h : (all || direct) = true) : Chain (Wg wide direct all) okG (fun k => tG (Xk wide k)) (Kg wide) where
  le := by cases wide <;> simp [Kg]
  okt k hk := tk_ok wide k hk
  ne j k hj hk := by
    constructor
    · cases e : (tG (Xk wide k)).same (tG (Xk wide j))
      · rfl
      · have := (Ty.same_iff _ _).1 e
        have h1 := congrArg Ty.size this
        rw [tG_size, tG_size] at h1
        have := X_lt wide hj; omega
    · intro e
      have h1 : (tG (Xk wide j)).textL.length = (tG (Xk wide k)).textL.length := by
        have := congrArg (fun b : ByteArray => b.data.toList.length) e
        simpa [Ty.text] using this
      rw [tG_text, tG_text] at h1
      have := Xt_lt wide hj; omega
  next k hk := by
    rw [Wg_chain wide direct all h _ (Xk_closed wide k), if_neg ?_]
    · rfl
    · rw [tG_size, Fw_size]
      cases wide
      · rw [Xn_size]; simp only [Kg, Bool.false_eq_true, if_false] at hk ⊢; omega
      · have := Xw_size k
        simp only [Kg, if_true] at hk ⊢
        have h2 : 2 ^ (k + 1) ≤ 2 ^ 11 := Nat.pow_le_pow_right (by omega) (by omega)
        omega
  last := by
    cases wide
    · exact .inl rfl
    · refine .inr ⟨by simp [Kg], ?_⟩
      rw [Wg_chain true direct all h _ (Xk_closed true _), if_pos ?_]
      rw [tG_size, Fw_size]
      have := Xw_size (Kg true)
      simp only [Kg, if_true] at this ⊢
      omega
end Go.Proofs.Ytnbhmlflbbddcaa.Sx
