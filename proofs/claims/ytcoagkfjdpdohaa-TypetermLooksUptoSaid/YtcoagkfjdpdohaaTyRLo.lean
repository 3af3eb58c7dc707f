/- TYPES: parameters and matching, in the reference. -/
import Derived.Test.YtcoagkfjdpdohaaTyPLo
namespace Go.Proofs.Ytcoagkfjdpdohaa.Sx
open Go
set_option maxRecDepth 1000000
set_option linter.unusedSimpArgs false
set_option linter.unusedVariables false

theorem indexByte_mem (c : UInt8) : ∀ l : List UInt8, (0 ≤ Lib.indexByte l c ↔ c ∈ l)
  | [] => by simp [Lib.indexByte]
  | b :: l => by
    have ih := indexByte_mem c l
    have h1 := Lib.indexByte_ge l c
    rw [Lib.indexByte, List.mem_cons]
    by_cases hb : b = c
    · subst hb; simp
    · have e : (b == c) = false := by simpa using hb
      rw [e]
      simp only [Bool.false_eq_true, if_false]
      by_cases hm : Lib.indexByte l c = -1
      · rw [hm]
        have : ¬ c ∈ l := fun hh => by have := ih.2 hh; omega
        simp [this]
        exact fun h => hb h.symm
      · have e2 : (Lib.indexByte l c == -1) = false := by simpa using hm
        rw [e2]
        simp only [Bool.false_eq_true, if_false]
        have h2 : 0 ≤ Lib.indexByte l c := by omega
        simp [ih.1 h2]; omega
def dotsN (s : ByteArray) : Nat := s.data.toList.count 46
theorem dotB_dots (s : ByteArray) : dotB s = !decide (dotsN s = 0) := by
  rw [dotB, dotsN, Bool.eq_iff_iff, decide_eq_true_eq, indexByte_mem, Bool.not_eq_true', decide_eq_false_iff_not, List.count_eq_zero]
  exact ⟨fun h hh => hh h, fun h => Decidable.byContradiction h⟩
theorem param_dots (s : ByteArray) : param s = (decide (dotsN s = 0) && !builtin s) := by rw [param, dotB_dots, Bool.not_not, Bool.and_comm]

section
variable {call : CallT} (hc : Lim G call)
include hc

theorem dots_cc (s : ByteArray) (hs : s.size ≤ 9223372036854775807) : CC call 63 [.str s] (.i (dotsN s)) := by
  intro lo M
  obtain ⟨nl, hG, hN⟩ : ∃ nl, G.nl = nl ∧ nl = 18446744073709551616 := ⟨_, rfl, rfl⟩
  rw [q63 hc, hG]
  clear hG
  have hsz : s.data.size = s.data.toList.length := by simp
  have hs' : s.data.size ≤ 9223372036854775807 := hs
  have loop : ∀ (r : List UInt8) (i f c : Nat) (M : MM), s.data.toList.drop i = r → r.length < f → c ≤ i →
      Wp (b63_5 call nl lo f (.str s) (.i (c : Int)) (.i (i : Int)) M) (Ans (.i ((c + r.count 46 : Nat) : Int)) M) := by
    intro r
    induction r with
    | nil =>
      intro i f c M hd hf hci
      obtain ⟨f, rfl⟩ : ∃ k, f = k + 1 := ⟨f - 1, by simp only [List.length_nil] at hf; omega⟩
      have := drop_nil hd
      unfold b63_5
      repeat (first | (with_reducible (first | refine rn_if_f ?_ | refine rn_lens ?_)) | ((with_reducible refine rn_lss_f ?_ ?_); focus omega))
      exact rn_ans
    | cons b r ih =>
      intro i f c M hd hf hci
      simp only [List.length_cons] at hf
      obtain ⟨f, rfl⟩ : ∃ k, f = k + 1 := ⟨f - 1, by omega⟩
      obtain ⟨hi, hd'⟩ := drop_cons hd
      have hb : s.data[(i : Int).toNat]? = some b := by
        have := congrArg List.head? hd
        rw [List.head?_drop] at this
        rw [Int.toNat_natCast, ← Array.getElem?_toList]
        simpa using this
      unfold b63_5
      repeat (first | (with_reducible (first | refine rn_if_t ?_ | refine rn_lens ?_)) | ((with_reducible refine rn_lss_t ?_ ?_); focus omega))
      refine rn_ixc (by omega) hb ?_
      by_cases h46 : b = 46
      · subst h46
        skip
        refine rn_eql_t rfl (rn_if_t ?_)
        repeat (first | ((with_reducible refine rn_add64 ?_ ?_); focus omega))
        have := ih (i + 1) f (c + 1) M hd' (by omega) (by omega)
        rw [List.count_cons_self, show c + (r.count 46 + 1) = c + 1 + r.count 46 by omega]
        exact this
      · have h47 : ¬ ((b.toNat : Nat) : Int) = 46 := fun hh => h46 (UInt8.toNat_inj.1 (Int.ofNat.inj hh))
        refine rn_eql_f h47 (rn_if_f ?_)
        repeat (first | ((with_reducible refine rn_add64 ?_ ?_); focus omega))
        have := ih (i + 1) f c M hd' (by omega) (by omega)
        rw [List.count_cons_of_ne (fun e => h46 e)]
        exact this
  unfold s63
  skip
  have := loop s.data.toList 0 nl 0 M rfl (by omega) (by omega)
  rw [Nat.zero_add] at this
  exact this

theorem Param_cc (s : ByteArray) (hs : s.size ≤ 9223372036854775807) : CC call 75 [.str s] (.bool (param s)) := by
  intro lo M
  rw [q75 hc]
  unfold s75
  rw [param_dots]
  refine rn_pcc (dots_cc hc s hs) (fz_i _) (by simp [ClStr]) ?_
  by_cases h : dotsN s = 0
  · rw [decide_eq_true h, h]
    refine rn_eql_t rfl ?_
    repeat (first | (with_reducible (first | refine rn_pcc (RBuiltin_cc hc s) (fz_b _) (by simp [ClStr]) ?_ | refine rn_some ?_ | refine rn_gp_tt ?_)))
    refine rn_not ?_
    repeat (first | (with_reducible (first | refine rn_pt ?_)))
    exact rn_ans
  · rw [decide_eq_false h]
    refine rn_eql_f (by omega) ?_
    repeat (first | (with_reducible (first | refine rn_gp_ft ?_ | refine rn_pf ?_)))
    exact rn_ans
end

theorem wf_mem {t : Ty} : ∀ {l : List Ty}, wfs l → t ∈ l → t.wf
  | u :: r, hw, h => by
    rw [wfs] at hw
    rcases List.mem_cons.1 h with rfl | h
    · exact hw.1
    · exact wf_mem hw.2 h
theorem Ty.wf.args {t : Ty} (h : t.wf) : wfs t.args := by cases t; exact h.2
theorem Ty.wf.name {t : Ty} (h : t.wf) : t.name.size ≤ 9223372036854775807 := by
  cases t
  have : maxLen ≤ 9223372036854775807 := by decide
  exact Nat.le_trans h.1 this

theorem params_loop {call : CallT} (l : List Ty) (B : Nat) (hl : l.length ≤ 1000000000000) (h : ∀ x ∈ l, ∀ out, out.length + x.size ≤ B → CC call 52 [avT x, avS out] (avS (x.coll out))) (nl lo : Nat) :
    ∀ (s : List Ty) (i f : Nat) (out : List ByteArray) (M : MM), l.drop i = s → s.length < f → out.length + sizes s ≤ B →
      Wp (b52_5 call nl lo f (avS out) (avTs l) (.i l.length) (.i i) M) (Ans (avS (colls s out)) M) := by
  intro s
  induction s with
  | nil =>
    intro i f out M hd hf ha
    obtain ⟨f, rfl⟩ : ∃ k, f = k + 1 := ⟨f - 1, by simp only [List.length_nil] at hf; omega⟩
    have := drop_nil hd
    unfold b52_5
    repeat (first | (with_reducible (first | refine rn_if_f ?_)) | ((with_reducible refine rn_lss_f ?_ ?_); focus omega))
    exact rn_ans
  | cons x s ih =>
    intro i f out M hd hf ha
    simp only [List.length_cons] at hf
    simp only [sizes] at ha
    obtain ⟨f, rfl⟩ : ∃ k, f = k + 1 := ⟨f - 1, by omega⟩
    obtain ⟨hi, hd'⟩ := drop_cons hd
    have hx : x ∈ l := List.drop_subset i l (by rw [hd]; simp)
    have hcx := h x hx out (by omega)
    have hlen := x.coll_len out
    unfold b52_5
    repeat (first | (with_reducible (first | refine rn_ldT ?_ | refine rn_setT ?_ | refine rn_allT ?_ | refine rn_ixD hd ?_ | refine rn_upa ?_ | refine rn_if_t ?_)) | ((with_reducible refine rn_lss_t ?_ ?_); focus omega))
    refine rn_cc hcx (fun M1 => ?_)
    repeat (first | ((with_reducible refine rn_add64 ?_ ?_); focus omega))
    exact ih (i + 1) f (x.coll out) _ hd' (by omega) (by omega)

section
variable {call : CallT} (hc : Lim G call)
include hc

theorem params_cc : ∀ (n : Nat) (t : Ty) (out : List ByteArray), t.size ≤ n → n ≤ 1000000000000 → t.wf → out.length + t.size ≤ 1000000000000 → CC call 52 [avT t, avS out] (avS (t.coll out)) := by
  intro n
  induction n with
  | zero => intro t _ h; have := t.size_pos; omega
  | succ n ihn =>
    intro t out h hn hw ho lo M
    obtain ⟨nl, hG, hN⟩ : ∃ nl, G.nl = nl ∧ nl = 18446744073709551616 := ⟨_, rfl, rfl⟩
    rw [q52 hc, hG]
    clear hG
    have hs := t.size_eq
    have hlen := sizes_len t.args
    have hcl : ∀ y ∈ [avS out, .str t.name], Cl y := by simp [ClS, ClStr]
    have hbb : (out.length + 1) * 16 ≤ 140737488355328 ∧ out.length + 1 ≤ 9223372036854775807 := by omega
    have loop := params_loop (call := call) t.args 1000000000000 (by omega) (fun x hx out' ho' => ihn x out' (by have := size_mem hx; omega) (by omega) (wf_mem hw.args hx) ho') nl lo t.args 0 nl
    unfold s52
    repeat (first | (with_reducible (first | refine rn_aggT ?_ | refine rn_noT ?_ | refine rn_nameT ?_ | refine rn_pcc (Param_cc hc t.name hw.name) (fz_b _) (by simp [ClStr]) ?_ | refine rn_upa ?_)))
    rw [t.coll_eq]
    cases hp : param t.name
    · repeat (first | (with_reducible (first | refine rn_noT ?_ | refine rn_argsT ?_ | refine rn_lenT ?_ | refine rn_if_f ?_ | refine rn_gp_ft ?_ | refine rn_pf ?_)))
      have e : addP t.name out = out := by unfold addP; rw [hp]; rfl
      rw [e]
      exact loop out _ rfl (by omega) (by omega)
    · repeat (first | (with_reducible (first | refine rn_noT ?_ | refine rn_nameT ?_ | refine rn_pcc (has_cc hc out t.name (by omega)) (fz_b _) hcl ?_ | refine rn_some ?_ | refine rn_gp_tt ?_)))
      cases hh : hasS out t.name
      · repeat (first | (with_reducible (first | refine rn_noT ?_ | refine rn_nameT ?_ | refine rn_argsT ?_ | refine rn_lenT ?_ | refine rn_wslS1 ?_ | refine rn_appS hbb ?_ | refine rn_upa ?_ | refine rn_if_t ?_ | refine rn_pt ?_ | refine rn_not_f ?_)))
        have e : addP t.name out = out ++ [t.name] := by unfold addP; rw [hp, hh]; rfl
        rw [e]
        exact loop (out ++ [t.name]) _ rfl (by omega) (by simp only [List.length_append, List.length_cons, List.length_nil]; omega)
      · repeat (first | (with_reducible (first | refine rn_noT ?_ | refine rn_argsT ?_ | refine rn_lenT ?_ | refine rn_if_f ?_ | refine rn_pt ?_ | refine rn_not_t ?_)))
        have e : addP t.name out = out := by unfold addP; rw [hp, hh]; rfl
        rw [e]
        exact loop out _ rfl (by omega) (by omega)

theorem RParams_cc (t : Ty) (h : t.size ≤ 1000000000000) (hw : t.wf) : CC call 21 [avT t] (avS (t.coll [])) := by
  intro lo M
  rw [q21 hc]
  unfold s21
  repeat (first | (with_reducible (first | refine rn_aggT ?_ | refine rn_allT ?_ | refine rn_upa ?_)))
  refine rn_cc (params_cc hc _ t [] (Nat.le_refl _) h hw (by simpa using h)) (fun M1 => ?_)
  exact rn_ans
end

end Go.Proofs.Ytcoagkfjdpdohaa.Sx
