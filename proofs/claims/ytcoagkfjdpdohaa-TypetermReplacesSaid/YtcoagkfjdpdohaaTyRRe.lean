/- TYPES: parameters and matching, in the reference. -/
import Derived.Test.YtcoagkfjdpdohaaTyPRe
import Derived.Test.YtcoagkfjdpdohaaTyQRe
namespace Go.Proofs.Ytcoagkfjdpdohaa.Sx
open Go
set_option maxRecDepth 1000000
set_option linter.unusedSimpArgs false
set_option linter.unusedVariables false

theorem indexByte_mem (c : UInt8) : ∀ l : List UInt8, (0 ≤ Lib.indexByte l c ↔ c ∈ l)
  | [] => by simp [Lib.indexByte]
  | b :: l => by
    have ih := indexByte_mem c l
    have h1 := Lib.indexByte_ge l c
    rw [Lib.indexByte, List.mem_cons]
    by_cases hb : b = c
    · subst hb; simp
    · have e : (b == c) = false := by simpa using hb
      rw [e]
      simp only [Bool.false_eq_true, if_false]
      by_cases hm : Lib.indexByte l c = -1
      · rw [hm]
        have : ¬ c ∈ l := fun hh => by have := ih.2 hh; omega
        simp [this]
        exact fun h => hb h.symm
      · have e2 : (Lib.indexByte l c == -1) = false := by simpa using hm
        rw [e2]
        simp only [Bool.false_eq_true, if_false]
        have h2 : 0 ≤ Lib.indexByte l c := by omega
        simp [ih.1 h2]; omega
def dotsN (s : ByteArray) : Nat := s.data.toList.count 46
theorem dotB_dots (s : ByteArray) : dotB s = !decide (dotsN s = 0) := by
  rw [dotB, dotsN, Bool.eq_iff_iff, decide_eq_true_eq, indexByte_mem, Bool.not_eq_true', decide_eq_false_iff_not, List.count_eq_zero]
  exact ⟨fun h hh => hh h, fun h => Decidable.byContradiction h⟩
theorem param_dots (s : ByteArray) : param s = (decide (dotsN s = 0) && !builtin s) := by rw [param, dotB_dots, Bool.not_not, Bool.and_comm]

section
variable {call : CallT} (hc : Lim G call)
include hc

theorem dots_cc (s : ByteArray) (hs : s.size ≤ 9223372036854775807) : CC call 63 [.str s] (.i (dotsN s)) := by
  intro lo M
  obtain ⟨nl, hG, hN⟩ : ∃ nl, G.nl = nl ∧ nl = 18446744073709551616 := ⟨_, rfl, rfl⟩
  rw [q63 hc, hG]
  clear hG
  have hsz : s.data.size = s.data.toList.length := by simp
  have hs' : s.data.size ≤ 9223372036854775807 := hs
  have loop : ∀ (r : List UInt8) (i f c : Nat) (M : MM), s.data.toList.drop i = r → r.length < f → c ≤ i →
      Wp (b63_5 call nl lo f (.str s) (.i (c : Int)) (.i (i : Int)) M) (Ans (.i ((c + r.count 46 : Nat) : Int)) M) := by
    intro r
    induction r with
    | nil =>
      intro i f c M hd hf hci
      obtain ⟨f, rfl⟩ : ∃ k, f = k + 1 := ⟨f - 1, by simp only [List.length_nil] at hf; omega⟩
      have := drop_nil hd
      unfold b63_5
      repeat (first | (with_reducible (first | refine rn_if_f ?_ | refine rn_lens ?_)) | ((with_reducible refine rn_lss_f ?_ ?_); focus omega))
      exact rn_ans
    | cons b r ih =>
      intro i f c M hd hf hci
      simp only [List.length_cons] at hf
      obtain ⟨f, rfl⟩ : ∃ k, f = k + 1 := ⟨f - 1, by omega⟩
      obtain ⟨hi, hd'⟩ := drop_cons hd
      have hb : s.data[(i : Int).toNat]? = some b := by
        have := congrArg List.head? hd
        rw [List.head?_drop] at this
        rw [Int.toNat_natCast, ← Array.getElem?_toList]
        simpa using this
      unfold b63_5
      repeat (first | (with_reducible (first | refine rn_if_t ?_ | refine rn_lens ?_)) | ((with_reducible refine rn_lss_t ?_ ?_); focus omega))
      refine rn_ixc (by omega) hb ?_
      by_cases h46 : b = 46
      · subst h46
        skip
        refine rn_eql_t rfl (rn_if_t ?_)
        repeat (first | ((with_reducible refine rn_add64 ?_ ?_); focus omega))
        have := ih (i + 1) f (c + 1) M hd' (by omega) (by omega)
        rw [List.count_cons_self, show c + (r.count 46 + 1) = c + 1 + r.count 46 by omega]
        exact this
      · have h47 : ¬ ((b.toNat : Nat) : Int) = 46 := fun hh => h46 (UInt8.toNat_inj.1 (Int.ofNat.inj hh))
        refine rn_eql_f h47 (rn_if_f ?_)
        repeat (first | ((with_reducible refine rn_add64 ?_ ?_); focus omega))
        have := ih (i + 1) f c M hd' (by omega) (by omega)
        rw [List.count_cons_of_ne (fun e => h46 e)]
        exact this
  unfold s63
  skip
  have := loop s.data.toList 0 nl 0 M rfl (by omega) (by omega)
  rw [Nat.zero_add] at this
  exact this

theorem Param_cc (s : ByteArray) (hs : s.size ≤ 9223372036854775807) : CC call 75 [.str s] (.bool (param s)) := by
  intro lo M
  rw [q75 hc]
  unfold s75
  rw [param_dots]
  refine rn_pcc (dots_cc hc s hs) (fz_i _) (by simp [ClStr]) ?_
  by_cases h : dotsN s = 0
  · rw [decide_eq_true h, h]
    refine rn_eql_t rfl ?_
    repeat (first | (with_reducible (first | refine rn_pcc (RBuiltin_cc hc s) (fz_b _) (by simp [ClStr]) ?_ | refine rn_some ?_ | refine rn_gp_tt ?_)))
    refine rn_not ?_
    repeat (first | (with_reducible (first | refine rn_pt ?_)))
    exact rn_ans
  · rw [decide_eq_false h]
    refine rn_eql_f (by omega) ?_
    repeat (first | (with_reducible (first | refine rn_gp_ft ?_ | refine rn_pf ?_)))
    exact rn_ans
end

theorem wf_mem {t : Ty} : ∀ {l : List Ty}, wfs l → t ∈ l → t.wf
  | u :: r, hw, h => by
    rw [wfs] at hw
    rcases List.mem_cons.1 h with rfl | h
    · exact hw.1
    · exact wf_mem hw.2 h
theorem Ty.wf.args {t : Ty} (h : t.wf) : wfs t.args := by cases t; exact h.2
theorem Ty.wf.name {t : Ty} (h : t.wf) : t.name.size ≤ 9223372036854775807 := by
  cases t
  have : maxLen ≤ 9223372036854775807 := by decide
  exact Nat.le_trans h.1 this

theorem params_loop {call : CallT} (l : List Ty) (B : Nat) (hl : l.length ≤ 1000000000000) (h : ∀ x ∈ l, ∀ out, out.length + x.size ≤ B → CC call 52 [avT x, avS out] (avS (x.coll out))) (nl lo : Nat) :
    ∀ (s : List Ty) (i f : Nat) (out : List ByteArray) (M : MM), l.drop i = s → s.length < f → out.length + sizes s ≤ B →
      Wp (b52_5 call nl lo f (avS out) (avTs l) (.i l.length) (.i i) M) (Ans (avS (colls s out)) M) := by
  intro s
  induction s with
  | nil =>
    intro i f out M hd hf ha
    obtain ⟨f, rfl⟩ : ∃ k, f = k + 1 := ⟨f - 1, by simp only [List.length_nil] at hf; omega⟩
    have := drop_nil hd
    unfold b52_5
    repeat (first | (with_reducible (first | refine rn_if_f ?_)) | ((with_reducible refine rn_lss_f ?_ ?_); focus omega))
    exact rn_ans
  | cons x s ih =>
    intro i f out M hd hf ha
    simp only [List.length_cons] at hf
    simp only [sizes] at ha
    obtain ⟨f, rfl⟩ : ∃ k, f = k + 1 := ⟨f - 1, by omega⟩
    obtain ⟨hi, hd'⟩ := drop_cons hd
    have hx : x ∈ l := List.drop_subset i l (by rw [hd]; simp)
    have hcx := h x hx out (by omega)
    have hlen := x.coll_len out
    unfold b52_5
    repeat (first | (with_reducible (first | refine rn_ldT ?_ | refine rn_setT ?_ | refine rn_allT ?_ | refine rn_ixD hd ?_ | refine rn_upa ?_ | refine rn_if_t ?_)) | ((with_reducible refine rn_lss_t ?_ ?_); focus omega))
    refine rn_cc hcx (fun M1 => ?_)
    repeat (first | ((with_reducible refine rn_add64 ?_ ?_); focus omega))
    exact ih (i + 1) f (x.coll out) _ hd' (by omega) (by omega)

section
variable {call : CallT} (hc : Lim G call)
include hc

theorem params_cc : ∀ (n : Nat) (t : Ty) (out : List ByteArray), t.size ≤ n → n ≤ 1000000000000 → t.wf → out.length + t.size ≤ 1000000000000 → CC call 52 [avT t, avS out] (avS (t.coll out)) := by
  intro n
  induction n with
  | zero => intro t _ h; have := t.size_pos; omega
  | succ n ihn =>
    intro t out h hn hw ho lo M
    obtain ⟨nl, hG, hN⟩ : ∃ nl, G.nl = nl ∧ nl = 18446744073709551616 := ⟨_, rfl, rfl⟩
    rw [q52 hc, hG]
    clear hG
    have hs := t.size_eq
    have hlen := sizes_len t.args
    have hcl : ∀ y ∈ [avS out, .str t.name], Cl y := by simp [ClS, ClStr]
    have hbb : (out.length + 1) * 16 ≤ 140737488355328 ∧ out.length + 1 ≤ 9223372036854775807 := by omega
    have loop := params_loop (call := call) t.args 1000000000000 (by omega) (fun x hx out' ho' => ihn x out' (by have := size_mem hx; omega) (by omega) (wf_mem hw.args hx) ho') nl lo t.args 0 nl
    unfold s52
    repeat (first | (with_reducible (first | refine rn_aggT ?_ | refine rn_noT ?_ | refine rn_nameT ?_ | refine rn_pcc (Param_cc hc t.name hw.name) (fz_b _) (by simp [ClStr]) ?_ | refine rn_upa ?_)))
    rw [t.coll_eq]
    cases hp : param t.name
    · repeat (first | (with_reducible (first | refine rn_noT ?_ | refine rn_argsT ?_ | refine rn_lenT ?_ | refine rn_if_f ?_ | refine rn_gp_ft ?_ | refine rn_pf ?_)))
      have e : addP t.name out = out := by unfold addP; rw [hp]; rfl
      rw [e]
      exact loop out _ rfl (by omega) (by omega)
    · repeat (first | (with_reducible (first | refine rn_noT ?_ | refine rn_nameT ?_ | refine rn_pcc (has_cc hc out t.name (by omega)) (fz_b _) hcl ?_ | refine rn_some ?_ | refine rn_gp_tt ?_)))
      cases hh : hasS out t.name
      · repeat (first | (with_reducible (first | refine rn_noT ?_ | refine rn_nameT ?_ | refine rn_argsT ?_ | refine rn_lenT ?_ | refine rn_wslS1 ?_ | refine rn_appS hbb ?_ | refine rn_upa ?_ | refine rn_if_t ?_ | refine rn_pt ?_ | refine rn_not_f ?_)))
        have e : addP t.name out = out ++ [t.name] := by unfold addP; rw [hp, hh]; rfl
        rw [e]
        exact loop (out ++ [t.name]) _ rfl (by omega) (by simp only [List.length_append, List.length_cons, List.length_nil]; omega)
      · repeat (first | (with_reducible (first | refine rn_noT ?_ | refine rn_argsT ?_ | refine rn_lenT ?_ | refine rn_if_f ?_ | refine rn_pt ?_ | refine rn_not_t ?_)))
        have e : addP t.name out = out := by unfold addP; rw [hp, hh]; rfl
        rw [e]
        exact loop out _ rfl (by omega) (by omega)

theorem RParams_cc (t : Ty) (h : t.size ≤ 1000000000000) (hw : t.wf) : CC call 21 [avT t] (avS (t.coll [])) := by
  intro lo M
  rw [q21 hc]
  unfold s21
  repeat (first | (with_reducible (first | refine rn_aggT ?_ | refine rn_allT ?_ | refine rn_upa ?_)))
  refine rn_cc (params_cc hc _ t [] (Nat.le_refl _) h hw (by simpa using h)) (fun M1 => ?_)
  exact rn_ans
end

/-! ### Matching -/
/-- What the reference's match knows: at F what was found, at O the types. -/
def RI (M : MM) (F O : Nat) (fs : List (Option Ty)) : Prop := F < M.nx ∧ O < M.nx ∧ F ≠ O ∧ ∃ bs cs, M.mem F = some (.cells 4 bs) ∧ M.mem O = some (.cells 27 cs) ∧ bs.length = fs.length ∧ cs.length = fs.length * 2 ∧
  ∀ (i : Nat) (o : Option Ty), fs[i]? = some o → bs[i]? = some (.bool o.isSome) ∧ ∀ u, o = some u → u.size ≤ 1000000000000 ∧ (cs.drop (i * 2)).take 2 = [.d (.v (.string u.name)), .d (.sl (encTs u.args) u.args.length)]
theorem RI.same {M M1 : MM} {F O : Nat} {fs : List (Option Ty)} (h : RI M F O fs) (e : M1.mem = M.mem) (hn : M.nx ≤ M1.nx) : RI M1 F O fs := by
  obtain ⟨h1, h2, h3, bs, cs, h4, h5, h6⟩ := h
  exact ⟨Nat.lt_of_lt_of_le h1 hn, Nat.lt_of_lt_of_le h2 hn, h3, bs, cs, by rw [e]; exact h4, by rw [e]; exact h5, h6⟩
theorem RI.up {M : MM} {F O f : Nat} {fs : List (Option Ty)} (h : RI M F O fs) : RI (M.up f) F O fs := h.same rfl (Nat.le_max_left _ _)
theorem RI.bump {M : MM} {F O f : Nat} {fs : List (Option Ty)} (h : RI M F O fs) : RI (M.bump f) F O fs := h.same rfl (Nat.le_add_right _ _)
def RAns (F O : Nat) (r : Option (List (Option Ty))) (M : MM) : AV × MM → Prop := fun x => M.nx ≤ x.2.nx ∧ match r with
  | none => x.1 = .bool false
  | some fs => x.1 = .bool true ∧ RI x.2 F O fs
theorem rn_rfr {F O : Nat} {r : Option (List (Option Ty))} {M M1 : MM} {o : Option (AV × MM)} (h : M.nx ≤ M1.nx) (hk : Wp o (RAns F O r M1)) : Wp o (RAns F O r M) := hk.mono fun x q => ⟨Nat.le_trans h q.1, q.2⟩
section
variable {F O : Nat} {r : Option (List (Option Ty))} {M : MM}
theorem rn_rup {f : Nat} {k : MM → Option (AV × MM)} (hk : Wp (k (M.up f)) (RAns F O r (M.up f))) : Wp (upK M f k) (RAns F O r M) := rn_rfr (o := k (M.up f)) (Nat.le_max_left _ _) hk
theorem rn_rbump {f : Nat} {k : MM → Option (AV × MM)} (hk : Wp (k (M.bump f)) (RAns F O r (M.bump f))) : Wp (bumpK M f k) (RAns F O r M) := rn_rfr (o := k (M.bump f)) (Nat.le_add_right _ _) hk
theorem rn_rno : Wp (some (.bool false, M)) (RAns F O none M) := rn_done ⟨Nat.le_refl _, rfl⟩
theorem rn_ryes {fs : List (Option Ty)} (h : RI M F O fs) : Wp (some (.bool true, M)) (RAns F O (some fs) M) := rn_done ⟨Nat.le_refl _, rfl, h⟩
end
section
variable {R : Type} {r : R → Prop} {k : AV → Option R}
theorem rn_ixo2 {O n i : Nat} (h : i < n) (hk : Wp (k (.ptr O (i * 2))) r) : Wp (opt (ixsA 2 (.os O 0 n 2) (.i (i : Int))) k) r := by
  refine rn_ixs (by omega) ?_
  rw [show 0 + (i : Int).toNat * 2 = i * 2 by omega]
  exact hk
end
theorem rn_ldTc {R : Type} {r : R → Prop} {k : AV → Option R} {M : MM} {lim : Lm} {j off : Nat} {t : TypeId} {cs : List AV} {u : Ty} (h1 : lim.ok j = true) (h2 : M.mem j = some (.cells t cs)) (h3 : off + 2 ≤ cs.length) (h4 : (cs.drop off).take 2 = [.d (.v (.string u.name)), .d (.sl (encTs u.args) u.args.length)]) (hk : Wp (k (avT u)) r) : Wp (opt (ldnA (look M.mem lim) 2 (.ptr j off)) k) r :=
  rn_ldn h1 h2 h3 h4 hk
theorem cells2 {cs : List AV} {k j : Nat} {a b : AV} (hk : k * 2 + 2 ≤ cs.length) : ((setAt cs (k * 2) [a, b]).drop (j * 2)).take 2 = if j = k then [a, b] else (cs.drop (j * 2)).take 2 := by
  unfold setAt
  have e0 : (cs.take (k * 2)).length = k * 2 := by rw [List.length_take]; omega
  by_cases h : j = k
  · subst h
    rw [if_pos rfl, List.append_assoc, List.drop_append, e0, List.drop_of_length_le (by omega), Nat.sub_self]
    rfl
  · rw [if_neg h]
    apply List.ext_getElem?
    intro i
    rw [List.getElem?_take, List.getElem?_take, List.getElem?_drop, List.getElem?_drop]
    by_cases hi : i < 2
    · rw [if_pos hi, if_pos hi, List.append_assoc]
      rcases Nat.lt_or_ge j k with hjk | hjk
      · rw [List.getElem?_append_left (by omega), List.getElem?_take, if_pos (by omega)]
      · rw [List.getElem?_append_right (by omega), e0]
        have e1 : j * 2 + i - k * 2 = (j * 2 + i - (k * 2 + 2)) + 2 := by omega
        rw [e1]
        simp only [List.cons_append, List.nil_append, List.getElem?_cons_succ]
        rw [List.getElem?_drop]
        congr 1
        simp only [List.length_cons, List.length_nil]
        omega
    · rw [if_neg hi, if_neg hi]

section
variable {call : CallT} (hc : Lim G call)
include hc

theorem rmatch_d (ns : List ByteArray) (hns : ns.length ≤ 1000000000000) (F O : Nat) : ∀ (n : Nat) (p t : Ty) (fs : List (Option Ty)) (M : MM), p.size ≤ n → n ≤ 1000000000000 → t.size ≤ 1000000000000 → RI M F O fs → fs.length = ns.length →
    Wp (call 56 [avT p, avT t, avS ns, .os F 0 ns.length 1, .os O 0 ns.length 2] 0 M) (RAns F O (matchT ns p t fs) M) := by
  intro n
  induction n with
  | zero => intro p _ _ _ h; have := p.size_pos; omega
  | succ n ih =>
    intro p t fs M hp hn ht hri hfl
    obtain ⟨nl, hG, hN⟩ : ∃ nl, G.nl = nl ∧ nl = 18446744073709551616 := ⟨_, rfl, rfl⟩
    rw [q56 hc, hG]
    clear hG
    have hs := p.size_eq
    have hlen := sizes_len p.args
    have hts := t.size_eq
    have loop : ∀ (r s : List Ty) (i f : Nat) (fs : List (Option Ty)) (M : MM), p.args.drop i = r → t.args.drop i = s → r.length = s.length → r.length < f → RI M F O fs → fs.length = ns.length →
        Wp (b56_6 call nl 0 f (avS ns) (.os F 0 ns.length 1) (.os O 0 ns.length 2) (avT p) (avT t) (.i (i : Int)) M) (RAns F O (matchTs ns r s fs) M) := by
      intro r
      induction r with
      | nil =>
        intro s i f fs M hd he hrs hf hri hfl
        obtain ⟨f, rfl⟩ : ∃ k, f = k + 1 := ⟨f - 1, by simp only [List.length_nil] at hf; omega⟩
        have hs : s = [] := List.eq_nil_of_length_eq_zero hrs.symm
        subst hs
        have := drop_nil he
        unfold b56_6
        repeat (first | (with_reducible (first | refine rn_noT ?_ | refine rn_argsT ?_ | refine rn_lenT ?_ | refine rn_if_f ?_)) | ((with_reducible refine rn_lss_f ?_ ?_); focus omega))
        rw [matchTs]
        exact rn_ryes hri
      | cons x r ihr =>
        intro s i f fs M hd he hrs hf hri hfl
        match s, he, hrs with
        | y :: s, he, hrs =>
          simp only [List.length_cons] at hf hrs
          obtain ⟨f, rfl⟩ : ∃ k, f = k + 1 := ⟨f - 1, by omega⟩
          obtain ⟨hi, hd'⟩ := drop_cons hd
          obtain ⟨hi2, he'⟩ := drop_cons he
          have hx := size_mem (List.drop_subset i p.args (by rw [hd]; simp : x ∈ p.args.drop i))
          have hy := size_mem (List.drop_subset i t.args (by rw [he]; simp : y ∈ t.args.drop i))
          unfold b56_6
          repeat (first | (with_reducible (first | refine rn_noT ?_ | refine rn_argsT ?_ | refine rn_lenT ?_ | refine rn_ldT ?_ | refine rn_ixD hd ?_ | refine rn_ixD he ?_ | refine rn_rbump ?_ | refine rn_if_t ?_)) | ((with_reducible refine rn_lss_t ?_ ?_); focus omega))
          refine rn_rwD (ih x y fs (M.bump 15) (by omega) (by omega) (by omega) hri.bump hfl) (fun x hx => hx.1) (fun v M1 hh => ?_)
          rw [matchTs]
          cases hm : matchT ns x y fs with
          | none =>
            rw [hm] at hh
            obtain ⟨g1, e1⟩ := hh
            simp only at e1 g1
            subst e1
            refine rn_rfr g1 ?_
            repeat (first | (with_reducible (first | refine rn_if_t ?_ | refine rn_not_f ?_)))
            exact rn_rno
          | some fs' =>
            rw [hm] at hh
            obtain ⟨g1, e1, r1⟩ := hh
            simp only at e1 g1 r1
            subst e1
            refine rn_rfr g1 ?_
            repeat (first | (with_reducible (first | refine rn_if_f ?_ | refine rn_not_t ?_)) | ((with_reducible refine rn_add64 ?_ ?_); focus omega))
            exact ihr s (i + 1) f fs' M1 hd' he' (by omega) (by omega) r1 (by rw [matchT_len ns x y fs fs' hm]; exact hfl)
    have hcl : ∀ y ∈ [avS ns, .str p.name], Cl y := by simp [ClS, ClStr]
    unfold s56
    repeat (first | (with_reducible (first | refine rn_aggT ?_ | refine rn_noT ?_ | refine rn_nameT ?_ | refine rn_rup ?_ | refine rn_pcc (index_cc hc ns p.name (by omega)) (fz_i _) hcl ?_)))
    have hri : RI ((M.up M.nx).up (M.up M.nx).nx) F O fs := hri.up.up
    generalize (M.up M.nx).up (M.up M.nx).nx = M at hri
    have none_ : place ns p.name p.args = none → Wp (b56_2 call nl 0 (avS ns) (.os F 0 ns.length 1) (.os O 0 ns.length 2) (avT p) (avT t) M) (RAns F O (matchT ns p t fs) M) := fun hpl => by
      rw [matchT_eq, hpl]
      simp only
      repeat (first | (with_reducible (first | refine rn_noT ?_ | refine rn_nameT ?_ | refine rn_neS ?_)))
      by_cases hnm : p.name = t.name
      · rw [decide_eq_true hnm, Bool.not_true]
        repeat (first | (with_reducible (first | refine rn_noT ?_ | refine rn_argsT ?_ | refine rn_lenT ?_ | refine rn_gp_ff ?_)))
        by_cases hll : p.args.length = t.args.length
        · rw [if_pos ⟨hnm, hll⟩]
          refine rn_neq_f (by omega) (rn_pf (rn_if_f ?_))
          exact loop p.args t.args 0 nl fs M rfl rfl hll (by omega) hri hfl
        · rw [if_neg (fun h => hll h.2)]
          refine rn_neq_t (by omega) (rn_pf (rn_if_t ?_))
          exact rn_rno
      · rw [decide_eq_false hnm, Bool.not_false, if_neg (fun h => hnm h.1)]
        repeat (first | (with_reducible (first | refine rn_if_t ?_ | refine rn_gp_tf ?_ | refine rn_pt ?_)))
        exact rn_rno
    have hix := placeN_ix p.name ns 0
    cases hpn : placeN ns p.name with
    | none =>
      rw [hpn] at hix
      rw [ixS, hix]
      refine rn_geq_f (by decide) (rn_gp_ft (rn_gp_ft (rn_gp_ft (rn_gp_ft (rn_pf (rn_if_f ?_))))))
      exact none_ (by unfold place; rw [hpn, ite_self])
    | some k =>
      rw [hpn] at hix
      simp only [Nat.zero_add] at hix
      rw [ixS, hix]
      have hk := placeN_lt hpn
      refine rn_geq_t (by omega) ?_
      refine rn_gp_tt (rn_noT (rn_gp_tt (rn_argsT (rn_gp_tt (rn_lenT (rn_gp_tt ?_))))))
      cases hpa : p.args with
      | cons y r =>
        refine rn_eql_f (by rw [List.length_cons]; omega) (rn_pt (rn_if_f ?_))
        exact none_ (by unfold place; rw [hpa]; rfl)
      | nil =>
        refine rn_eql_t rfl (rn_pt (rn_if_t ?_))
        have hpl : place ns p.name p.args = some k := by unfold place; rw [hpa]; exact hpn
        rw [matchT_eq, hpl]
        simp only
        have hri' := hri
        obtain ⟨f1, f2, f3, bs, cs, m1, m2, l1, l2, hh⟩ := hri
        have hkf : k < fs.length := by omega
        obtain ⟨q1, q2⟩ := hh k fs[k] (List.getElem?_eq_getElem hkf)
        rw [List.getElem?_eq_getElem hkf, Option.getD_some]
        refine rn_ixo hk ?_
        refine rn_ld (ok_lt f1) m1 q1 ?_
        cases hfk : fs[k] with
        | some u =>
          rw [hfk] at q2
          obtain ⟨hu, hcs⟩ := q2 u rfl
          have hsm := rsame_cc hc u t (by omega)
          refine rn_if_t (rn_rbump ?_)
          refine rn_ixo2 hk ?_
          refine rn_ldTc (ok_lt f2) m2 (by omega) hcs ?_
          refine rn_allT ?_
          refine rn_pcc hsm (fz_b _) (ClT2 _ _) ?_
          simp only
          cases hst : u.same t
          · exact rn_rno
          · exact rn_ryes hri'.bump
        | none =>
          refine rn_if_f ?_
          refine rn_allT ?_
          refine rn_pcc (copy_cc hc _ t ht (Nat.le_refl _)) (fz_T _) (ClT1 t) ?_
          refine rn_ixo hk ?_
          refine rn_st1 rfl (ok_lt f1) m1 ⟨Nat.zero_le _, rfl, rfl⟩ (by omega) rfl ?_
          refine rn_ixo2 hk ?_
          have m2' : (M.put F (.cells 4 (bs.set k (.bool true)))).mem O = some (.cells 27 cs) := (upd_ne _ _ _ _ (Ne.symm f3)).trans m2
          refine rn_stn (xs := [.d (.v (.string t.name)), .d (.sl (encTs t.args) t.args.length)]) rfl (ok_lt f2) m2' ⟨Nat.zero_le _, rfl, rfl⟩ (by omega) rfl ?_
          refine rn_rfr (M1 := (M.put F (.cells 4 (bs.set k (.bool true)))).put O (.cells 27 (setAt cs (k * 2) [.d (.v (.string t.name)), .d (.sl (encTs t.args) t.args.length)]))) (Nat.le_refl _) (rn_ryes ?_)
          refine ⟨f1, f2, f3, bs.set k (.bool true), _, (upd_ne _ _ _ _ f3).trans (upd_same _ _ _), upd_same _ _ _, by rw [List.length_set, List.length_set]; exact l1, ?_, fun i o ho => ?_⟩
          · rw [List.length_set, ← l2]
            unfold setAt
            simp only [List.length_append, List.length_take, List.length_drop, List.length_cons, List.length_nil]
            omega
          · rw [cells2 (by omega)]
            rw [List.getElem?_set] at ho ⊢
            by_cases hik : k = i
            · subst hik
              rw [if_pos rfl, if_pos (by omega)] at ho ⊢
              cases ho
              refine ⟨rfl, fun u hu => ?_⟩
              cases hu
              exact ⟨ht, by rw [if_pos rfl]⟩
            · rw [if_neg hik] at ho ⊢
              rw [if_neg (fun e => hik e.symm)]
              exact hh i o ho
end
end Go.Proofs.Ytcoagkfjdpdohaa.Sx
