/- TYPES: Compare, Text and Closed of the reference. -/
import Derived.Test.YtcoagkfjdpdohaaTyNLo
import Derived.Test.YtcoagkfjdpdohaaTyRLo
namespace Go.Proofs.Ytcoagkfjdpdohaa.Sx
open Go
set_option maxRecDepth 1000000
set_option linter.unusedSimpArgs false
set_option linter.unusedVariables false

theorem less_cmp : ∀ a b : List UInt8, Lib.compareBytes a b = if a = b then 0 else if Op.bytesLess a b then -1 else 1
  | [], [] => by simp [Lib.compareBytes]
  | [], _ :: _ => by simp [Lib.compareBytes, Op.bytesLess]
  | _ :: _, [] => by simp [Lib.compareBytes, Op.bytesLess]
  | x :: a, y :: b => by
    have ih := less_cmp a b
    simp only [Lib.compareBytes, Op.bytesLess]
    by_cases h1 : x < y
    · have hne : ¬ x = y := fun e => by subst e; exact absurd h1 (UInt8.lt_irrefl x)
      simp [h1, hne]
    · by_cases h2 : y < x
      · have hne : ¬ x = y := fun e => by subst e; exact absurd h2 (UInt8.lt_irrefl x)
        simp [h1, h2, hne]
      · have e : x = y := UInt8.toNat_inj.1 (by rw [UInt8.lt_iff_toNat_lt] at h1 h2; omega)
        subst e
        simp [h1, ih]
theorem rn_lssS {e : EK} {a b : ByteArray} {R : Type} {r : R → Prop} {k : AV → Option R} (hk : Wp (k (.bool (Op.bytesLess a.data.toList b.data.toList))) r) : Wp (opt (binA .lss e (.str a) (.str b)) k) r := hk
theorem toList_inj' {a b : ByteArray} (h : a.data.toList = b.data.toList) : a = b := by
  obtain ⟨⟨x⟩⟩ := a
  obtain ⟨⟨y⟩⟩ := b
  simp only at h
  rw [h]

/-! ### Closed -/
theorem addP_ge (n : ByteArray) (out : List ByteArray) : out.length ≤ (addP n out).length := by
  unfold addP
  split
  · simp
  · exact Nat.le_refl _
mutual
theorem coll_ge : ∀ (t : Ty) (out : List ByteArray), out.length ≤ (t.coll out).length
  | .mk n l, out => by rw [Ty.coll]; exact Nat.le_trans (addP_ge n out) (colls_ge l _)
theorem colls_ge : ∀ (l : List Ty) (out : List ByteArray), out.length ≤ (colls l out).length
  | [], out => Nat.le_refl _
  | t :: r, out => by rw [colls]; exact Nat.le_trans (coll_ge t out) (colls_ge r _)
end
mutual
theorem coll_closed : ∀ (t : Ty), t.closed = true → t.coll [] = []
  | .mk n l, h => by
    rw [Ty.closed, Bool.and_eq_true] at h
    have e : addP n [] = [] := by unfold addP; have := h.1; simp at this; rw [this]; rfl
    rw [Ty.coll, e, colls_closed l h.2]
theorem colls_closed : ∀ (l : List Ty), closeds l = true → colls l [] = []
  | [], _ => rfl
  | t :: r, h => by
    rw [closeds, Bool.and_eq_true] at h
    rw [colls, coll_closed t h.1, colls_closed r h.2]
end
mutual
theorem coll_open : ∀ (t : Ty) (out : List ByteArray), t.closed = false → 0 < (t.coll out).length
  | .mk n l, out, h => by
    rw [Ty.closed] at h
    rw [Ty.coll]
    cases hp : param n
    · rw [hp] at h
      exact colls_open l _ (by simpa using h)
    · refine Nat.lt_of_lt_of_le ?_ (colls_ge l _)
      unfold addP
      rw [hp]
      cases hh : hasS out n
      · simp
      · have := (hasS_mem n out).1 hh
        simp only [Bool.not_true, Bool.and_false, Bool.false_eq_true, if_false]
        exact List.length_pos_of_mem this
theorem colls_open : ∀ (l : List Ty) (out : List ByteArray), closeds l = false → 0 < (colls l out).length
  | [], out, h => by simp [closeds] at h
  | t :: r, out, h => by
    rw [closeds] at h
    rw [colls]
    cases hc : t.closed
    · exact Nat.lt_of_lt_of_le (coll_open t out hc) (colls_ge r _)
    · rw [hc] at h
      exact colls_open r _ (by simpa using h)
end
theorem closed_coll (t : Ty) : decide ((t.coll []).length = 0) = t.closed := by
  cases h : t.closed
  · have := coll_open t [] h
    rw [decide_eq_false]; omega
  · rw [coll_closed t h]; rfl

/-! ### Text -/
theorem joinTail_app (sep : List UInt8) (r : List (List UInt8)) (x : List UInt8) : Lib.joinTail sep (r ++ [x]) = Lib.joinTail sep r ++ (sep ++ x) := by simp [Lib.joinTail]
theorem textLs_app : ∀ (a b : List Ty), textLs (a ++ b) = textLs a ++ textLs b
  | [], _ => rfl
  | t :: a, b => by rw [List.cons_append, textLs, textLs, textLs_app a b, List.cons_append]
/-- The text of types, one behind the other. -/
def joinT (l : List Ty) : List UInt8 := Lib.join (textLs l) [44, 32]
theorem joinT_app (l : List Ty) (x : Ty) (h : l ≠ []) : joinT (l ++ [x]) = joinT l ++ ([44, 32] ++ x.textL) := by
  cases l with
  | nil => exact absurd rfl h
  | cons t r =>
    unfold joinT
    rw [textLs_app, List.cons_append]
    simp only [textLs]
    rw [List.cons_append, Lib.join_cons, Lib.join_cons, joinTail_app, List.append_assoc]
    rfl
theorem joinT_le (l : List Ty) (i : Nat) : (joinT (l.take i)).length ≤ (joinT l).length := by
  unfold joinT
  cases l with
  | nil => simp
  | cons t r =>
    cases i with
    | zero => simp [textLs, Lib.join_nil]
    | succ i =>
      rw [List.take_succ_cons, textLs, textLs, Lib.join_cons, Lib.join_cons, List.length_append, List.length_append]
      have : ∀ (r : List Ty) (i : Nat), (Lib.joinTail [44, 32] (textLs (r.take i))).length ≤ (Lib.joinTail [44, 32] (textLs r)).length := by
        intro r
        induction r with
        | nil => intro i; simp
        | cons y r ih =>
          intro i
          cases i with
          | zero => simp [textLs, Lib.joinTail]
          | succ i =>
            have := ih i
            have e : ∀ (x : List UInt8) (r : List (List UInt8)), (Lib.joinTail [44, 32] (x :: r)).length = 2 + x.length + (Lib.joinTail [44, 32] r).length := by intro x r; simp [Lib.joinTail]; omega
            rw [List.take_succ_cons, textLs, textLs, e, e]; omega
      have := this r i
      omega

section
variable {call : CallT} (hc : Lim G call)
include hc

theorem rcompare_cc : ∀ (n : Nat) (t u : Ty), t.size ≤ n → n ≤ 9223372036854775807 → CC call 30 [avT t, avT u] (.i (t.cmp u)) := by
  intro n
  induction n with
  | zero => intro t _ h; have := t.size_pos; omega
  | succ n ih =>
    intro t u h hn lo M
    obtain ⟨nl, hG, hN⟩ : ∃ nl, G.nl = nl ∧ nl = 18446744073709551616 := ⟨_, rfl, rfl⟩
    rw [q30 hc, hG]
    clear hG
    have hs := t.size_eq
    have hlen := sizes_len t.args
    have loop : ∀ (r s : List Ty) (i f : Nat) (M : MM), t.args.drop i = r → u.args.drop i = s → i ≤ t.args.length → i ≤ u.args.length → r.length < f →
        Wp (b30_5 call nl lo f (avT t) (avT u) (.i (i : Int)) M) (Ans (.i (cmps r s)) M) := by
      intro r
      induction r with
      | nil =>
        intro s i f M hd he hi1 hi2 hf
        obtain ⟨f, rfl⟩ : ∃ k, f = k + 1 := ⟨f - 1, by simp only [List.length_nil] at hf; omega⟩
        have := drop_nil hd
        unfold b30_5
        cases s with
        | nil =>
          have := drop_nil he
          repeat (first | (with_reducible (first | refine rn_noT ?_ | refine rn_argsT ?_ | refine rn_lenT ?_ | refine rn_if_f ?_ | refine rn_gp_ft ?_ | refine rn_pf ?_)) | ((with_reducible refine rn_lss_f ?_ ?_); focus omega) | ((with_reducible refine rn_gtr_f ?_ ?_); focus omega))
          exact rn_ans
        | cons y s =>
          have := drop_cons he
          repeat (first | (with_reducible (first | refine rn_noT ?_ | refine rn_argsT ?_ | refine rn_lenT ?_ | refine rn_if_t ?_ | refine rn_if_f ?_ | refine rn_gp_ft ?_ | refine rn_pf ?_)) | ((with_reducible refine rn_lss_t ?_ ?_); focus omega) | ((with_reducible refine rn_lss_f ?_ ?_); focus omega))
          exact rn_ans
      | cons x r ihr =>
        intro s i f M hd he hi1 hi2 hf
        simp only [List.length_cons] at hf
        obtain ⟨f, rfl⟩ : ∃ k, f = k + 1 := ⟨f - 1, by omega⟩
        obtain ⟨hi, hd'⟩ := drop_cons hd
        have hx := size_mem (List.drop_subset i t.args (by rw [hd]; simp : x ∈ t.args.drop i))
        unfold b30_5
        cases s with
        | nil =>
          have := drop_nil he
          repeat (first | (with_reducible (first | refine rn_noT ?_ | refine rn_argsT ?_ | refine rn_lenT ?_ | refine rn_some ?_ | refine rn_if_t ?_ | refine rn_if_f ?_ | refine rn_gp_tt ?_ | refine rn_pt ?_)) | ((with_reducible refine rn_lss_t ?_ ?_); focus omega) | ((with_reducible refine rn_lss_f ?_ ?_); focus omega) | ((with_reducible refine rn_gtr_t ?_ ?_); focus omega))
          exact rn_ans
        | cons y s =>
          obtain ⟨hj, he'⟩ := drop_cons he
          repeat (first | (with_reducible (first | refine rn_noT ?_ | refine rn_argsT ?_ | refine rn_lenT ?_ | refine rn_ldT ?_ | refine rn_ixD hd ?_ | refine rn_ixD he ?_ | refine rn_pcc (ih x y (by omega) (by omega)) (fz_i _) (ClT2 _ _) ?_ | refine rn_bumpa ?_ | refine rn_some ?_ | refine rn_if_t ?_ | refine rn_gp_tt ?_ | refine rn_pt ?_)) | ((with_reducible refine rn_lss_t ?_ ?_); focus omega))
          simp only [cmps]
          by_cases hxy : x.cmp y = 0
          · rw [if_neg (fun hh => hh hxy), hxy]
            repeat (first | (with_reducible (first | refine rn_if_f ?_)) | ((with_reducible refine rn_add64 ?_ ?_); focus omega) | ((with_reducible refine rn_neq_f ?_ ?_); focus omega))
            exact ihr s (i + 1) f _ hd' he' (by omega) (by omega) (by omega)
          · rw [if_pos hxy]
            refine rn_neq_t hxy (rn_if_t ?_)
            exact rn_ans
    unfold s30
    repeat (first | (with_reducible (first | refine rn_aggT ?_ | refine rn_noT ?_ | refine rn_nameT ?_ | refine rn_neS ?_ | refine rn_upa ?_)))
    rw [Ty.cmp_eq, cB, less_cmp]
    by_cases hnm : t.name = u.name
    · rw [decide_eq_true hnm, Bool.not_true, if_neg (by rw [if_pos (by rw [hnm])]; simp)]
      refine rn_if_f ?_
      exact loop t.args u.args 0 nl _ rfl rfl (by omega) (by omega) (by omega)
    · have hne : ¬ t.name.data.toList = u.name.data.toList := fun e => hnm (toList_inj' e)
      rw [decide_eq_false hnm, Bool.not_false, if_neg hne]
      refine rn_if_t ?_
      repeat (first | (with_reducible (first | refine rn_noT ?_ | refine rn_nameT ?_ | refine rn_lssS ?_)))
      cases hl : Op.bytesLess t.name.data.toList u.name.data.toList
      · repeat (first | (with_reducible (first | refine rn_if_f ?_)))
        exact rn_ans
      · repeat (first | (with_reducible (first | refine rn_if_t ?_)))
        exact rn_ans

theorem types3_cc (l : List Ty) (hl : l.length ≤ 1000000000000) (hL : (joinT l).length ≤ 1000000000000) (h : ∀ x ∈ l, CC call 64 [avT x] (.str x.text)) : CC call 87 [avTs l] (.str ⟨(joinT l).toArray⟩) := by
  intro lo M
  obtain ⟨nl, hG, hN⟩ : ∃ nl, G.nl = nl ∧ nl = 18446744073709551616 := ⟨_, rfl, rfl⟩
  rw [q87 hc, hG]
  clear hG
  have loop : ∀ (s : List Ty) (i f : Nat) (M : MM), l.drop i = s → s.length < f → i ≤ l.length →
      Wp (b87_5 call nl lo f (.str ⟨(joinT (l.take i)).toArray⟩) (avTs l) (.i l.length) (.i (i : Int)) M) (Ans (.str ⟨(joinT l).toArray⟩) M) := by
    intro s
    induction s with
    | nil =>
      intro i f M hd hf hil
      obtain ⟨f, rfl⟩ : ∃ k, f = k + 1 := ⟨f - 1, by simp only [List.length_nil] at hf; omega⟩
      have hge := drop_nil hd
      unfold b87_5
      repeat (first | (with_reducible (first | refine rn_if_f ?_)) | ((with_reducible refine rn_lss_f ?_ ?_); focus omega))
      exact rn_ans' (by rw [List.take_of_length_le hge])
    | cons x s ih =>
      intro i f M hd hf hil
      simp only [List.length_cons] at hf
      obtain ⟨f, rfl⟩ : ∃ k, f = k + 1 := ⟨f - 1, by omega⟩
      obtain ⟨hi, hd'⟩ := drop_cons hd
      have hx : x ∈ l := List.drop_subset i l (by rw [hd]; simp)
      have h1 := joinT_le l i
      have h2 := joinT_le l (i + 1)
      have hxe : l[i]? = some x := by have := congrArg List.head? hd; simpa [List.head?_drop] using this
      have etk : l.take (i + 1) = l.take i ++ [x] := by rw [List.take_add_one, hxe]; rfl
      unfold b87_5
      repeat (first | (with_reducible (first | refine rn_ldT ?_ | refine rn_setT ?_ | refine rn_ixD hd ?_ | refine rn_upa ?_ | refine rn_if_t ?_)) | ((with_reducible refine rn_lss_t ?_ ?_); focus omega))
      by_cases h0 : i = 0
      · subst h0
        have ej : joinT (l.take (0 + 1)) = x.textL := by rw [etk]; simp [joinT, textLs, Lib.join_one]
        rw [ej] at h2
        repeat (first | (with_reducible (first | refine rn_allT ?_ | refine rn_pcc (h x hx) (fz_s _) (ClT1 x) ?_ | refine rn_if_f ?_)) | ((with_reducible refine rn_gtr_f ?_ ?_); focus omega))
        refine rn_addS (by simp [joinT, textLs, Lib.join_nil, Ty.text]; omega) ?_
        repeat (first | ((with_reducible refine rn_add64 ?_ ?_); focus omega))
        have e : (⟨(joinT (l.take 0)).toArray ++ x.text.data⟩ : ByteArray) = ⟨(joinT (l.take (0 + 1))).toArray⟩ := by
          rw [ej]; simp [joinT, textLs, Lib.join_nil, Ty.text]
        show Wp (b87_5 call nl lo f (.str ⟨(joinT (l.take 0)).toArray ++ x.text.data⟩) _ _ _ _) _
        rw [e]
        exact ih (0 + 1) f _ hd' (by omega) (by omega)
      · have hne : l.take i ≠ [] := by
          intro e
          have := congrArg List.length e
          rw [List.length_take, List.length_nil] at this
          omega
        have ej := joinT_app (l.take i) x hne
        rw [← etk] at ej
        have hlj := congrArg List.length ej
        simp only [List.length_append, List.length_cons, List.length_nil] at hlj
        refine rn_gtr_t (by omega) (rn_if_t ?_)
        refine rn_addS (by simp only [List.size_toArray, List.length_cons, List.length_nil]; omega) ?_
        repeat (first | (with_reducible (first | refine rn_allT ?_ | refine rn_pcc (h x hx) (fz_s _) (ClT1 x) ?_)))
        refine rn_addS (by simp only [Array.size_append, List.size_toArray, List.length_cons, List.length_nil, Ty.text]; omega) ?_
        repeat (first | ((with_reducible refine rn_add64 ?_ ?_); focus omega))
        have e : (⟨((joinT (l.take i)).toArray ++ (⟨[44, 32]⟩ : Array UInt8)) ++ x.text.data⟩ : ByteArray) = ⟨(joinT (l.take (i + 1))).toArray⟩ := by
          rw [ej]
          congr 1
          apply Array.ext'
          simp [Ty.text]
        show Wp (b87_5 call nl lo f (.str ⟨((joinT (l.take i)).toArray ++ (⟨[44, 32]⟩ : Array UInt8)) ++ x.text.data⟩) _ _ _ _) _
        rw [e]
        exact ih (i + 1) f _ hd' (by omega) (by omega)
  unfold s87
  repeat (first | (with_reducible (first | refine rn_lenT ?_)))
  exact loop l 0 nl _ rfl (by omega) (by omega)

theorem text3_cc : ∀ (n : Nat) (t : Ty), t.size ≤ n → n ≤ 1000000000000 → t.textL.length ≤ 1000000000000 → CC call 64 [avT t] (.str t.text) := by
  intro n
  induction n with
  | zero => intro t h; have := t.size_pos; omega
  | succ n ih =>
    intro t h hn hL lo M
    have hs := t.size_eq
    have hlen := sizes_len t.args
    have hE := t.textL_eq
    have hn1 : t.name.data.size = t.name.data.toList.length := by simp
    have hbr : CC call 80 [avTs t.args] (.str ⟨(if t.args.isEmpty then [] else 91 :: (joinT t.args ++ [93])).toArray⟩) := by
      intro lo M
      rw [q80 hc]
      unfold s80
      cases hemp : t.args.isEmpty with
      | true =>
        have h0 : t.args.length = 0 := by simpa using hemp
        repeat (first | (with_reducible (first | refine rn_lenT ?_ | refine rn_if_t ?_)) | ((with_reducible refine rn_eql_t ?_ ?_); focus omega))
        exact rn_ans
      | false =>
        have h0 : 1 ≤ t.args.length := by
          cases hh : t.args with
          | nil => rw [hh] at hemp; cases hemp
          | cons x r => simp
        rw [hemp, if_neg (by simp)] at hE
        have hLn := congrArg List.length hE
        simp only [List.length_append, List.length_cons, List.length_nil] at hLn
        have ej : (joinT t.args).length = (Lib.join (textLs t.args) [44, 32]).length := rfl
        have h3 := types3_cc hc t.args (by omega) (by omega) (fun x hx => ih x (by have := size_mem hx; omega) (by omega) (by have := join_mem (sep := [44, 32]) (text_mem hx); omega))
        repeat (first | (with_reducible (first | refine rn_lenT ?_ | refine rn_pcc h3 (fz_s _) (by simp [ClTs]) ?_ | refine rn_if_f ?_)) | ((with_reducible refine rn_eql_f ?_ ?_); focus omega))
        refine rn_addS (by simp only [List.size_toArray, List.length_cons, List.length_nil]; omega) ?_
        refine rn_addS (by simp only [Array.size_append, List.size_toArray, List.length_cons, List.length_nil]; omega) ?_
        refine rn_ans' ?_
        congr 3
        rw [if_neg (by simp)]
        apply Array.ext'
        simp
    rw [q64 hc]
    unfold s64
    repeat (first | (with_reducible (first | refine rn_aggT ?_ | refine rn_noT ?_ | refine rn_nameT ?_ | refine rn_argsT ?_ | refine rn_pcc hbr (fz_s _) (by simp [ClTs]) ?_ | refine rn_upa ?_ | refine rn_bumpa ?_)))
    have hLn := congrArg List.length hE
    rw [List.length_append] at hLn
    have ej : joinT t.args = Lib.join (textLs t.args) [44, 32] := rfl
    rw [ej]
    have hsz : t.name.data.size + (if t.args.isEmpty then [] else 91 :: (Lib.join (textLs t.args) [44, 32] ++ [93])).length ≤ 9223372036854775807 := by rw [hn1]; omega
    refine rn_addS (by simpa using hsz) ?_
    have e : t.text = ⟨t.name.data ++ (if t.args.isEmpty then [] else 91 :: (Lib.join (textLs t.args) [44, 32] ++ [93])).toArray⟩ := by
      unfold Ty.text
      rw [hE]
      congr 1
      apply Array.ext'
      simp
    exact rn_ans' (by rw [e])

theorem rtext_cc (t : Ty) (h : t.size ≤ 1000000000000) (hL : t.textL.length ≤ 1000000000000) : CC call 34 [avT t] (.str t.text) := by
  intro lo M
  rw [q34 hc]
  unfold s34
  repeat (first | (with_reducible (first | refine rn_aggT ?_ | refine rn_allT ?_ | refine rn_pcc (text3_cc hc _ t (Nat.le_refl _) h hL) (fz_s _) (ClT1 t) ?_ | exact rn_ans | refine rn_upa ?_)))

theorem rclosed_cc (t : Ty) (h : t.size ≤ 1000000000000) (hw : t.wf) : CC call 33 [avT t] (.bool t.closed) := by
  intro lo M
  rw [q33 hc]
  unfold s33
  repeat (first | (with_reducible (first | refine rn_aggT ?_ | refine rn_allT ?_ | refine rn_pcc (RParams_cc hc t h hw) (fun _ => rfl) (ClT1 t) ?_ | refine rn_upa ?_ | refine rn_len_sl ?_)))
  refine rn_eql ?_
  have e : decide (((t.coll []).length : Int) = 0) = decide ((t.coll []).length = 0) := by rw [decide_eq_decide]; omega
  exact rn_ans' (by rw [e, closed_coll])
end
end Go.Proofs.Ytcoagkfjdpdohaa.Sx
