/- TYPES: Match, in the reference. -/
import Derived.Test.YtcoagkfjdpdohaaTyRRe
namespace Go.Proofs.Ytcoagkfjdpdohaa.Sx
open Go
set_option maxRecDepth 1000000
set_option linter.unusedSimpArgs false
set_option linter.unusedVariables false

/-- What it answers, given up, is v. -/
def PF (v : AV) : AV × MM → Prop := fun x => freeze x.2.mem 0 x.1 = some v
theorem Wp.pf {call : CallT} {f : FuncId} {args : List AV} {v : AV} (h : ∀ M, Wp (call f args 0 M) (PF v)) : PC call f args v := by
  obtain ⟨⟨w, M'⟩, h1, h2⟩ := h ⟨0, fun _ => none⟩
  exact ⟨w, M', h1, h2⟩
theorem mapM_frzD (m : Mem) (k : Nat) : ∀ l : List D, (l.map AV.d).mapM (freezeD m 0 k) = some (l.map normD)
  | [] => rfl
  | d :: l => by
    rw [List.map_cons, List.mapM_cons, mapM_frzD m k l]
    cases k <;> rfl
theorem encTs_norm : ∀ l : List Ty, (encTs l).map normD = encTs l
  | [] => rfl
  | t :: r => by rw [encTs, List.map_append, encTs_norm r, encT_eq]; rfl
theorem cells_T : ∀ (us : List Ty) (cs : List AV), cs.length = us.length * 2 → (∀ i u, us[i]? = some u → (cs.drop (i * 2)).take 2 = [.d (.v (.string u.name)), .d (.sl (encTs u.args) u.args.length)]) → cs = (encTs us).map .d
  | [], cs, h, _ => by
    have : cs = [] := List.eq_nil_of_length_eq_zero (by simpa using h)
    rw [this]; rfl
  | u :: us, cs, h, hh => by
    have h0 := hh 0 u rfl
    rw [Nat.zero_mul, List.drop_zero] at h0
    have ih := cells_T us (cs.drop 2) (by rw [List.length_drop, h, List.length_cons]; omega) (fun i v hv => by
      have := hh (i + 1) v (by simpa using hv)
      rw [List.drop_drop, show 2 + i * 2 = (i + 1) * 2 by omega]
      exact this)
    rw [← List.take_append_drop 2 cs, h0, ih, encTs, List.map_append, encT_eq]
    simp
theorem freeze_out {m : Mem} {O : Nat} {us : List Ty} (h : m O = some (.cells 27 ((encTs us).map .d))) : freeze m 0 (.tup [.os O 0 us.length 2, .bool true]) = some (.tup [avTs us, .bool true]) := by
  have e1 : ¬ O < 0 := Nat.not_lt_zero _
  have e3 : 0 + us.length * 2 ≤ ((encTs us).map AV.d).length := by rw [List.length_map, encTs_len]; omega
  have e4 : List.take (us.length * 2) (List.drop 0 ((encTs us).map AV.d)) = (encTs us).map .d := by rw [List.drop_zero, List.take_of_length_le]; rw [List.length_map, encTs_len]; omega
  have e : freezeA m 0 (.os O 0 us.length 2) = some (avTs us) := by
    simp only [freezeA, freeze1, freezeD, e1, if_false, h, e3, if_true, e4, mapM_frzD, encTs_norm, Option.map_some]
  rw [freeze, List.mapM_cons, e]; rfl
theorem flat_len (n : Nat) (a b : AV) : ((List.replicate n [a, b]).flatten).length = n * 2 := by
  induction n with
  | zero => rfl
  | succ n ih => rw [List.replicate_succ, List.flatten_cons, List.length_append, ih]; simp; omega
theorem flat_one (n : Nat) (a : AV) : (List.replicate n [a]).flatten = List.replicate n a := by
  induction n with
  | zero => rfl
  | succ n ih => rw [List.replicate_succ, List.flatten_cons, ih, List.replicate_succ]; rfl

section
variable {call : CallT} (hc : Lim G call)
include hc

theorem RMatch_pc (ns : List ByteArray) (p t : Ty) (hns : ns.length ≤ 1000000000000) (hp : p.size ≤ 1000000000000) (ht : t.size ≤ 1000000000000) : PC call 23 [avT p, avT t, avS ns] (avMt (matchAll ns p t)) := by
  refine Wp.pf (fun M => ?_)
  obtain ⟨nl, hG, hN⟩ : ∃ nl, G.nl = nl ∧ nl = 18446744073709551616 := ⟨_, rfl, rfl⟩
  rw [q23 hc, hG]
  clear hG
  have no : ∀ M : MM, Wp (some (AV.tup [.d (.sl [] 0), .bool false], M)) (PF (avMt none)) := fun M => rn_done rfl
  have out : ∀ (fs : List (Option Ty)) (F O : Nat) (M : MM), fs.length ≤ 1000000000000 → RI M F O fs → ∀ (r : List (Option Ty)) (i f : Nat), fs.drop i = r → r.length < f → (∀ us, allSome r = some us → allSome fs ≠ none) → (allSome r = none → allSome fs = none) →
      Wp (b23_8 call nl 0 f (.os O 0 fs.length 2) (.os F 0 fs.length 1) (.i fs.length) (.i i) M) (PF (avMt (allSome fs))) := by
    intro fs F O M hfl hri r
    obtain ⟨f1, f2, f3, bs, cs, m1, m2, l1, l2, hh⟩ := hri
    induction r with
    | nil =>
      intro i f hd hf h1 h2
      obtain ⟨f, rfl⟩ : ∃ k, f = k + 1 := ⟨f - 1, by simp only [List.length_nil] at hf; omega⟩
      have := drop_nil hd
      unfold b23_8
      repeat (first | (with_reducible (first | refine rn_if_f ?_)) | ((with_reducible refine rn_lss_f ?_ ?_); focus omega))
      cases hs : allSome fs with
      | none => exact absurd hs (h1 [] rfl)
      | some us =>
        have e := allSome_eq hs
        have hul : fs.length = us.length := by rw [e, List.length_map]
        have ec : cs = (encTs us).map .d := cells_T us cs (by rw [← hul]; exact l2) (fun i u hu => ((hh i (some u) (by rw [e, List.getElem?_map, hu]; rfl)).2 u rfl).2)
        rw [ec] at m2
        rw [hul]
        exact rn_done (freeze_out m2)
    | cons o r ih =>
      intro i f hd hf h1 h2
      simp only [List.length_cons] at hf
      obtain ⟨f, rfl⟩ : ∃ k, f = k + 1 := ⟨f - 1, by omega⟩
      obtain ⟨hi, hd'⟩ := drop_cons hd
      have ho : fs[i]? = some o := by have := congrArg List.head? hd; simpa [List.head?_drop] using this
      obtain ⟨q1, q2⟩ := hh i o ho
      unfold b23_8
      refine rn_lss_t (by omega) (rn_if_t ?_)
      refine rn_ixo hi ?_
      refine rn_ld (ok_lt f1) m1 q1 ?_
      cases o with
      | none =>
        rw [h2 (by rw [allSome])]
        skip
        exact no M
      | some u =>
        simp only [Option.isSome_some]
        repeat (first | (with_reducible (first | refine rn_if_f ?_ | refine rn_not_t ?_)) | ((with_reducible refine rn_add64 ?_ ?_); focus omega))
        refine ih (i + 1) f hd' (by omega) (fun us hu => h1 (u :: us) (by rw [allSome, hu]; rfl)) (fun hu => h2 (by rw [allSome, hu]; rfl))
  have body : ∀ M : MM, Wp (b23_2 call nl 0 (avS ns) (avT p) (avT t) M) (PF (avMt (match matchT ns p t (List.replicate ns.length none) with
      | none => none
      | some fs => allSome fs))) := fun M => by
    repeat (first | (with_reducible (first | refine rn_len_sl ?_)))
    refine rn_mkslice rfl ⟨by omega, by omega⟩ ?_
    have a := alloc_facts M (.cells 4 ((List.replicate ns.length [AV.bool false]).flatten))
    generalize M.alloc M.nx (.cells 4 ((List.replicate ns.length [AV.bool false]).flatten)) = M1 at a
    obtain ⟨a1, a2, _⟩ := a
    generalize M.nx = F at a1 a2
    repeat (first | (with_reducible (first | refine rn_len_sl ?_)))
    refine rn_mkslice rfl ⟨by omega, by omega⟩ ?_
    have a := alloc_facts M1 (.cells 27 ((List.replicate ns.length [AV.str ⟨⟨[]⟩⟩, AV.d (.sl [] 0)]).flatten))
    generalize M1.alloc M1.nx (.cells 27 ((List.replicate ns.length [AV.str ⟨⟨[]⟩⟩, AV.d (.sl [] 0)]).flatten)) = M2 at a
    obtain ⟨c1, c2, c3⟩ := a
    have hri : RI M2 F M1.nx (List.replicate ns.length none) := by
      refine ⟨by omega, c1, by omega, _, _, (c3 F a1).trans a2, c2, by rw [flat_one, List.length_replicate, List.length_replicate], by rw [flat_len, List.length_replicate], fun i o ho => ?_⟩
      have hi : i < ns.length := by
        have := (List.getElem?_eq_some_iff.1 ho).1
        simpa using this
      rw [List.getElem?_replicate, if_pos hi] at ho
      cases ho
      rw [flat_one, List.getElem?_replicate, if_pos hi]
      exact ⟨rfl, fun u hu => by cases hu⟩
    generalize M1.nx = O at hri
    repeat (first | (with_reducible (first | refine rn_allT ?_)))
    refine rn_wp (rmatch_d hc ns hns F O _ p t _ M2 (Nat.le_refl _) hp ht hri (by simp)) (fun v M9 hh => ?_)
    cases hm : matchT ns p t (List.replicate ns.length none) with
    | none =>
      rw [hm] at hh
      obtain ⟨_, e1⟩ := hh
      simp only at e1
      subst e1
      repeat (first | (with_reducible (first | refine rn_if_t ?_ | refine rn_not_f ?_)))
      exact no M9
    | some fs =>
      rw [hm] at hh
      obtain ⟨_, e1, h1⟩ := hh
      simp only at e1 h1
      subst e1
      have hfl : fs.length = ns.length := by rw [matchT_len ns p t _ fs hm]; simp
      repeat (first | (with_reducible (first | refine rn_if_f ?_ | refine rn_not_t ?_ | refine rn_len_os ?_)))
      rw [← hfl]
      exact out fs F O M9 (by omega) h1 fs 0 nl rfl (by omega) (fun us hu => by rw [hu]; simp) (fun h => h)
  have loop : ∀ (r : List ByteArray) (i f : Nat) (M : MM), ns.drop i = r → r.length < f → i ≤ ns.length →
      Wp (b23_13 call nl 0 f (avS ns) (avT p) (avT t) (avS ns) (.i ns.length) (.i i) M) (PF (avMt (if twiceF (ns.take i) r then none else match matchT ns p t (List.replicate ns.length none) with
      | none => none
      | some fs => allSome fs))) := by
    intro r
    induction r with
    | nil =>
      intro i f M hd hf hil
      obtain ⟨f, rfl⟩ : ∃ k, f = k + 1 := ⟨f - 1, by simp only [List.length_nil] at hf; omega⟩
      have := drop_nil hd
      unfold b23_13
      refine rn_lss_f (by omega) (rn_if_f ?_)
      rw [twiceF, if_neg (by simp)]
      exact body M
    | cons n r ih =>
      intro i f M hd hf hil
      simp only [List.length_cons] at hf
      obtain ⟨f, rfl⟩ : ∃ k, f = k + 1 := ⟨f - 1, by omega⟩
      obtain ⟨hi', hd'⟩ := drop_cons hd
      have hcl : ∀ y ∈ [avS (ns.take i), .str n], Cl y := by simp [ClS, ClStr]
      have hbn := has_cc hc (ns.take i) n (by rw [List.length_take]; omega)
      unfold b23_13
      repeat (first | (with_reducible (first | refine rn_ixS hd ?_ | refine rn_takeS hil ?_ | refine rn_pcc hbn (fz_b _) hcl ?_ | refine rn_if_t ?_ | refine rn_ldi ?_)) | ((with_reducible refine rn_lss_t ?_ ?_); focus omega))
      simp only [twiceF]
      refine rn_ifb (fun hh => ?_) (fun hh => ?_)
      · simp only [hh, Bool.true_or, if_true]
        exact no M
      · repeat (first | ((with_reducible refine rn_add64 ?_ ?_); focus omega))
        have e : ns.take i ++ [n] = ns.take (i + 1) := by
          have : ns[i]? = some n := by have := congrArg List.head? hd; simpa [List.head?_drop] using this
          rw [List.take_add_one, this]; rfl
        simp only [hh, Bool.false_or]
        rw [e]
        exact ih (i + 1) f _ hd' (by omega) (by omega)
  unfold s23
  repeat (first | (with_reducible (first | refine rn_aggT ?_ | refine rn_upk ?_ | refine rn_len_sl ?_)))
  exact loop ns 0 nl _ rfl (by omega) (by omega)
end
end Go.Proofs.Ytcoagkfjdpdohaa.Sx
