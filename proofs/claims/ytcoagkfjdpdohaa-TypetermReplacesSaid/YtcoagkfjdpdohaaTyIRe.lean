/- TYPES: Substitute. -/
import Derived.Test.YtcoagkfjdpdohaaTyHRe
namespace Go.Proofs.Ytcoagkfjdpdohaa.Sx
open Go
set_option maxRecDepth 1000000
set_option linter.unusedSimpArgs false
set_option linter.unusedVariables false

abbrev ty0 : Ty := .mk ⟨⟨[]⟩⟩ []
/-- What Substitute answers. -/
def substT (ns : List ByteArray) (bs : List Ty) (t : Ty) : Ty × Int :=
  if ns.length ≠ bs.length then (ty0, 9) else if twice ns then (ty0, 5) else if 4096 < gT (fun m => m) ns (bs.map Ty.size) t then (ty0, 4) else (putT ns bs t, 0)
abbrev avE (p : Ty × Int) : AV := .tup [avT p.1, .i p.2]
theorem fz_E (p : Ty × Int) (m : Mem) : freeze m 0 (avE p) = some (avE p) := rfl

/-- It answers v. -/
def Av (v : AV) : AV × MM → Prop := fun x => x.1 = v
theorem rn_av {v : AV} {M : MM} : Wp (some (v, M)) (Av v) := rn_done rfl
theorem Wp.pc {call : CallT} {f : FuncId} {args : List AV} {v : AV} (h : ∀ M, Wp (call f args 0 M) (Av v)) (hf : ∀ m, freeze m 0 v = some v) : PC call f args v := by
  obtain ⟨⟨w, M'⟩, h1, h2⟩ := h ⟨0, fun _ => none⟩
  have h2 : w = v := h2
  subst h2
  exact ⟨w, M', h1, hf _⟩
theorem CC.av {call : CallT} {f : FuncId} {args : List AV} {v : AV} (h : CC call f args v) (lo : Nat) (M : MM) : Wp (call f args lo M) (Av v) := (h lo M).mono fun _ q => q.1

theorem mapM_frz (m : Mem) (k : Nat) : ∀ l : List Nat, (l.map fun n : Nat => AV.i n).mapM (freezeD m 0 k) = some (encI l)
  | [] => rfl
  | n :: l => by
    rw [List.map_cons, List.mapM_cons, mapM_frz m k l]
    cases k <;> rfl

theorem gT_cc (c c' : Nat → Nat) (hc : ∀ m, 4096 < m → 4096 < c m) (hc' : ∀ m, 4096 < m → 4096 < c' m) (ns : List ByteArray) (sz : List Nat) : ∀ n, (∀ t : Ty, t.size ≤ n → (4096 < gT c ns sz t ∧ 4096 < gT c' ns sz t) ∨ gT c ns sz t = gT c' ns sz t) := by
  intro n
  induction n with
  | zero => intro t h; have := t.size_pos; omega
  | succ n ih =>
    intro t h
    have hs := t.size_eq
    rw [gT_eq, gT_eq]
    cases here ns sz t.name t.args with
    | some x => exact .inr rfl
    | none =>
      have : ∀ (l : List Ty) (a : Nat), sizes l ≤ n → (4096 < gTs c ns sz a l ∧ 4096 < gTs c' ns sz a l) ∨ gTs c ns sz a l = gTs c' ns sz a l := by
        intro l
        induction l with
        | nil => intro a _; exact .inr rfl
        | cons x r ihr =>
          intro a hl
          simp only [sizes] at hl
          have hx := ih x (by omega)
          simp only [gTs]
          by_cases h1 : 4096 < a + gT c ns sz x
          · have h2 : 4096 < a + gT c' ns sz x := by omega
            rw [if_pos h1, if_pos h2]
            exact .inl ⟨hc _ h1, hc' _ h2⟩
          · have h2 : ¬ 4096 < a + gT c' ns sz x := by omega
            have e : gT c ns sz x = gT c' ns sz x := by omega
            rw [if_neg h1, if_neg h2, e]
            exact ihr _ (by omega)
      exact this t.args 1 (by omega)

theorem rn_wslT1 {t : Ty} {a b : AV} {R : Type} {r : R → Prop} {k : AV → Option R} (hk : Wp (k (avTs [t])) r) : Wp (opt (wslA 1 (fill [a, b] [(0, 2, avT t)])) k) r := by
  refine rn_wslT ?_
  have e : encT t = encTs [t] := by simp [encTs]
  rw [e]; exact hk
theorem rn_wslS1 {s : ByteArray} {a : AV} {R : Type} {r : R → Prop} {k : AV → Option R} (hk : Wp (k (avS [s])) r) : Wp (opt (wslA 1 (fill [a] [(0, 1, .str s)])) k) r := rn_wsl (ds := encS [s]) rfl hk
theorem rn_wslI {n : Nat} {R : Type} {r : R → Prop} {k : AV → Option R} (hk : Wp (k (avI [n])) r) : Wp (opt (wslA 1 (fill [.i 0] [(0, 1, .i (n : Int))])) k) r := rn_wsl (ds := encI [n]) rfl hk
theorem rn_appI {m : Mem} {lim : Lm} {l : List Nat} {n bytes : Nat} {R : Type} {r : R → Prop} {k : AV → Option R} (hb : (l.length + 1) * bytes ≤ 140737488355328 ∧ l.length + 1 ≤ 9223372036854775807) (hk : Wp (k (avI (l ++ [n]))) r) : Wp (opt (wappA m lim 1 bytes (avI l) (avI [n])) k) r := by
  refine rn_wapp rfl hb ?_
  have e : encI l ++ encI [n] = encI (l ++ [n]) := by simp [encI]
  have e2 : l.length + 1 = (l ++ [n]).length := by simp
  show Wp (k (.d (.sl (encI l ++ encI [n]) (l.length + 1)))) r
  rw [e, e2]; exact hk

section
variable {call : CallT} (hc : Lim G call)
include hc

theorem subst_pc (ns : List ByteArray) (bs : List Ty) (t : Ty) (hn : ns.length ≤ 1000000000000) (hb : bs.length ≤ 1000000000000) (hsz : ∀ x ∈ bs, x.size ≤ 1000000000000) (ht : t.size ≤ 1000000000000) : PC call 18 [avT t, avS ns, avTs bs] (avE (substT ns bs t)) := by
  refine Wp.pc (fun M => ?_) (fz_E _)
  obtain ⟨nl, hG, hN⟩ : ∃ nl, G.nl = nl ∧ nl = 18446744073709551616 := ⟨_, rfl, rfl⟩
  rw [q18 hc, hG]
  clear hG
  have hcl : ∀ y ∈ [avS ns], Cl y := by simp [ClS]
  have hcl2 : ∀ y ∈ [avT t, avS ns, avTs bs], Cl y := by simp [ClS, ClT, ClTs]
  have loop : ns.length = bs.length → twice ns = false → ∀ (s : List Ty) (i f : Nat) (M : MM) (id : Nat) (cs : List AV), bs.drop i = s → s.length < f → i ≤ bs.length → id < M.nx → M.mem id = some (.cells 3 cs) → cs.length = bs.length → cs.take i = ((bs.take i).map Ty.size).map (fun n : Nat => AV.i n) →
      Wp (b18_6 call nl 0 f (avS ns) (avTs bs) (avT t) (avT ty0) (.os id 0 bs.length 1) (avTs bs) (.i bs.length) (.i i) M) (Av (avE (substT ns bs t))) := by
    intro hlen htw s
    induction s with
    | nil =>
      intro i f M id cs hd hf hil hid hm hcs hpre
      obtain ⟨f, rfl⟩ : ∃ k, f = k + 1 := ⟨f - 1, by simp only [List.length_nil] at hf; omega⟩
      have := drop_nil hd
      have ei : i = bs.length := by omega
      subst ei
      rw [List.take_length, ← hcs, List.take_length] at hpre
      have hgc := grown_cc hc ns (bs.map Ty.size) hn (by rw [List.length_map]; exact hlen) (fun x hx => by
        obtain ⟨y, hy, rfl⟩ := List.mem_map.1 hx
        exact hsz y hy) _ t ht (Nat.le_refl _)
      have hsn : [avT t, avS ns, .os id 0 bs.length 1].mapM (snap (lk M)) = some [avT t, avS ns, avI (bs.map Ty.size)] := by
        have e : snap (lk M) (.os id 0 bs.length 1) = some (avI (bs.map Ty.size)) := by
          have e1 : look M.mem (.top M.nx) id = some (.cells 3 cs) := by rw [look_lt hid, hm]
          have e2 : ¬ id < 0 := Nat.not_lt_zero _
          have e3 : 0 + bs.length * 1 ≤ cs.length := by omega
          have e4 : List.take (bs.length * 1) (List.drop 0 cs) = cs := by rw [List.drop_zero, Nat.mul_one, ← hcs, List.take_length]
          simp only [snap, closedA, closedC, Bool.false_eq_true, if_false, freezeA, freeze1, freezeD, e1, e2, e3, if_true, e4]
          rw [hpre, mapM_frz]
          simp only [Option.map_some, avI, List.length_map]
        rw [List.mapM_cons, (ClT t).snap, List.mapM_cons, (ClS ns).snap, List.mapM_cons, e]; rfl
      unfold b18_6
      repeat (first | (with_reducible (first | refine rn_allT ?_ | refine rn_pus (hgc.pc (fz_i _)) hsn rfl ?_ | refine rn_if_f ?_)) | ((with_reducible refine rn_lss_f ?_ ?_); focus omega))
      rw [substT, if_neg (by omega), if_neg (by rw [htw]; simp)]
      by_cases hg : 4096 < gT (fun m => m) ns (bs.map Ty.size) t
      · rw [if_pos hg]
        refine rn_gtr_t (by omega) (rn_if_t ?_)
        repeat (first | (with_reducible (first | refine rn_mke ?_)))
        exact rn_av
      · rw [if_neg hg]
        refine rn_gtr_f (by omega) (rn_if_f ?_)
        repeat (first | (with_reducible (first | refine rn_setTT ?_ | refine rn_allT ?_ | refine rn_pcc (put_cc hc ns bs hn hlen hsz _ t ht (Nat.le_refl _)) (fz_T _) hcl2 ?_)))
        exact rn_av
    | cons x s ih =>
      intro i f M id cs hd hf hil hid hm hcs hpre
      simp only [List.length_cons] at hf
      obtain ⟨f, rfl⟩ : ∃ k, f = k + 1 := ⟨f - 1, by omega⟩
      obtain ⟨hi', hd'⟩ := drop_cons hd
      have hx : x ∈ bs := List.drop_subset i bs (by rw [hd]; simp)
      have hsx := hsz x hx
      unfold b18_6
      repeat (first | (with_reducible (first | refine rn_ldT ?_ | refine rn_setT ?_ | refine rn_allT ?_ | refine rn_upk ?_ | refine rn_ixD hd ?_ | refine rn_pcc (size_cc hc _ x hsx (by omega)) (fz_i _) (ClT1 x) ?_ | refine rn_if_t ?_)) | ((with_reducible refine rn_lss_t ?_ ?_); focus omega) | ((with_reducible refine rn_ixs ?_ ?_); focus omega))
      rw [show 0 + (i : Int).toNat * 1 = i by omega]
      refine rn_st1 rfl (ok_top.2 ?_) (by exact hm) ⟨Nat.zero_le _, rfl, rfl⟩ (by omega) rfl ?_
      · exact Nat.lt_of_lt_of_le hid (Nat.le_max_left _ _)
      repeat (first | ((with_reducible refine rn_add64 ?_ ?_); focus omega))
      refine ih (i + 1) f _ id (cs.set i (.i x.size)) hd' (by omega) (by omega) ?_ ?_ (by rw [List.length_set]; exact hcs) ?_
      · exact Nat.lt_of_lt_of_le hid (Nat.le_max_left _ _)
      · exact upd_same _ _ _
      · have hxe : bs[i]? = some x := by have := congrArg List.head? hd; simpa [List.head?_drop] using this
        rw [List.take_add_one, List.take_add_one, hxe, List.take_set_of_le (Nat.le_refl _), hpre, List.getElem?_set_self (by omega)]
        simp
  unfold s18
  repeat (first | (with_reducible (first | refine rn_aggT ?_ | refine rn_lenT ?_ | refine rn_upk ?_ | refine rn_len_sl ?_)))
  refine rn_neq ?_
  refine rn_if (fun hne => ?_) (fun he => ?_)
  · repeat (first | (with_reducible (first | refine rn_mke ?_)))
    rw [substT, if_pos (by omega)]
    exact rn_av
  · have he : ns.length = bs.length := by omega
    repeat (first | (with_reducible (first | refine rn_pcc (twice_cc hc ns (by omega)) (fz_b _) hcl ?_)))
    cases htw : twice ns
    · refine rn_if_f ?_
      repeat (first | (with_reducible (first | refine rn_lenT ?_)))
      refine rn_mkslice rfl ⟨by omega, by omega⟩ ?_
      repeat (first | (with_reducible (first | refine rn_lenT ?_)))
      refine loop he htw bs 0 nl _ _ _ rfl (by omega) (by omega) ?_ (upd_same _ _ _) ?_ rfl
      · exact Nat.lt_of_lt_of_le (Nat.lt_succ_self _) (Nat.le_max_right _ _)
      · simp
    · refine rn_if_t ?_
      repeat (first | (with_reducible (first | refine rn_mke ?_)))
      rw [substT, if_neg (by omega), if_pos (by rw [htw])]
      exact rn_av

theorem rsubst_cc (ns : List ByteArray) (bs : List Ty) (t : Ty) (hn : ns.length ≤ 1000000000000) (hb : bs.length ≤ 1000000000000) (hsz : ∀ x ∈ bs, x.size ≤ 1000000000000) (ht : t.size ≤ 1000000000000) : CC call 19 [avT t, avS ns, avTs bs] (avE (substT ns bs t)) := by
  intro lo M
  obtain ⟨nl, hG, hN⟩ : ∃ nl, G.nl = nl ∧ nl = 18446744073709551616 := ⟨_, rfl, rfl⟩
  rw [q19 hc, hG]
  clear hG
  have hcl3 : ∀ y ∈ [avT t, avS ns, avI (bs.map Ty.size)], Cl y := by simp [ClS, ClT, ClI]
  have hcl2 : ∀ y ∈ [avT t, avS ns, avTs bs], Cl y := by simp [ClS, ClT, ClTs]
  have loop : ns.length = bs.length → ∀ (r : List ByteArray) (i f : Nat) (M : MM), ns.drop i = r → r.length < f → i ≤ ns.length →
      Wp (b19_6 call nl lo f (avS ns) (avTs bs) (avT t) (avT ty0) (avI ((bs.take i).map Ty.size)) (avS ns) (.i ns.length) (.i i) M)
        (Ans (avE (if twiceF (ns.take i) r then (ty0, 5) else if 4096 < gT (fun m => m) ns (bs.map Ty.size) t then (ty0, 4) else (putT ns bs t, 0))) M) := by
    intro hlen r
    induction r with
    | nil =>
      intro i f M hd hf hil
      obtain ⟨f, rfl⟩ : ∃ k, f = k + 1 := ⟨f - 1, by simp only [List.length_nil] at hf; omega⟩
      have := drop_nil hd
      have ei : i = bs.length := by omega
      subst ei
      rw [List.take_length]
      have hgc := sized_cc hc ns (bs.map Ty.size) hn (by rw [List.length_map]; exact hlen) (fun x hx => by
        obtain ⟨y, hy, rfl⟩ := List.mem_map.1 hx
        exact hsz y hy) _ t ht (Nat.le_refl _)
      have hcc := gT_cc (fun m => m) (fun _ => 4097) (fun _ h => h) (fun _ _ => by omega) ns (bs.map Ty.size) t.size t (Nat.le_refl _)
      unfold b19_6
      repeat (first | (with_reducible (first | refine rn_allT ?_ | refine rn_pcc hgc (fz_i _) hcl3 ?_ | refine rn_if_f ?_)) | ((with_reducible refine rn_lss_f ?_ ?_); focus omega))
      rw [twiceF, if_neg (by simp)]
      by_cases hg : 4096 < gT (fun m => m) ns (bs.map Ty.size) t
      · rw [if_pos hg]
        refine rn_gtr_t (by omega) (rn_if_t ?_)
        repeat (first | (with_reducible (first | refine rn_mke ?_)))
        exact rn_ans
      · rw [if_neg hg]
        refine rn_gtr_f (by omega) (rn_if_f ?_)
        repeat (first | (with_reducible (first | refine rn_setTT ?_ | refine rn_allT ?_ | refine rn_pcc (replace_cc hc ns bs hn hlen hsz _ t ht (Nat.le_refl _)) (fz_T _) hcl2 ?_)))
        exact rn_ans
    | cons n r ih =>
      intro i f M hd hf hil
      simp only [List.length_cons] at hf
      obtain ⟨f, rfl⟩ : ∃ k, f = k + 1 := ⟨f - 1, by omega⟩
      obtain ⟨hi', hd'⟩ := drop_cons hd
      have hib : i < bs.length := by omega
      have hbd : bs.drop i = bs[i] :: bs.drop (i + 1) := List.drop_eq_getElem_cons hib
      have hsx := hsz bs[i] (List.getElem_mem hib)
      have hcl : ∀ y ∈ [avS (ns.take i), .str n], Cl y := by simp [ClS, ClStr]
      have hbn := has_cc hc (ns.take i) n (by rw [List.length_take]; omega)
      have hbb : (((bs.take i).map Ty.size).length + 1) * 8 ≤ 140737488355328 ∧ ((bs.take i).map Ty.size).length + 1 ≤ 9223372036854775807 := by rw [List.length_map, List.length_take]; omega
      unfold b19_6
      repeat (first | (with_reducible (first | refine rn_ixS hd ?_ | refine rn_takeS hil ?_ | refine rn_pcc hbn (fz_b _) hcl ?_ | refine rn_if_t ?_ | refine rn_ldi ?_)) | ((with_reducible refine rn_lss_t ?_ ?_); focus omega))
      simp only [twiceF]
      refine rn_ifb (fun hh => ?_) (fun hh => ?_)
      · repeat (first | (with_reducible (first | refine rn_mke ?_)))
        simp only [hh, Bool.true_or, if_true]
        exact rn_ans
      · repeat (first | (with_reducible (first | refine rn_ldT ?_ | refine rn_ixD hbd ?_ | refine rn_pcc (rsize_cc hc _ bs[i] hsx (by omega)) (fz_i _) (ClT1 _) ?_ | refine rn_wslI ?_ | refine rn_appI hbb ?_ | refine rn_upa ?_)) | ((with_reducible refine rn_add64 ?_ ?_); focus omega))
        have e : ns.take i ++ [n] = ns.take (i + 1) := by
          have : ns[i]? = some n := by have := congrArg List.head? hd; simpa [List.head?_drop] using this
          rw [List.take_add_one, this]; rfl
        have e2 : (bs.take i).map Ty.size ++ [bs[i].size] = (bs.take (i + 1)).map Ty.size := by
          rw [List.take_add_one, List.getElem?_eq_getElem hib, List.map_append]; rfl
        simp only [hh, Bool.false_or]
        rw [e, e2]
        exact ih (i + 1) f _ hd' (by omega) (by omega)
  unfold s19
  repeat (first | (with_reducible (first | refine rn_aggT ?_ | refine rn_lenT ?_ | refine rn_upa ?_ | refine rn_len_sl ?_)))
  refine rn_neq ?_
  refine rn_if (fun hne => ?_) (fun he => ?_)
  · repeat (first | (with_reducible (first | refine rn_mke ?_)))
    rw [substT, if_pos (by omega)]
    exact rn_ans
  · have he : ns.length = bs.length := by omega
    repeat (first | (with_reducible (first | refine rn_len_sl ?_)))
    rw [substT, if_neg (by omega)]
    exact loop he ns 0 nl _ rfl (by omega) (by omega)
end
end Go.Proofs.Ytcoagkfjdpdohaa.Sx
