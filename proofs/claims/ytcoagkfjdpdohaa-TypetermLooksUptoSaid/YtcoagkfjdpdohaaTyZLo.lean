/- TYPES: parting a name at its full stop, in the reference. -/
import Derived.Test.YtcoagkfjdpdohaaTyYLo
namespace Go.Proofs.Ytcoagkfjdpdohaa.Sx
open Go
set_option maxRecDepth 1000000
set_option linter.unusedSimpArgs false
set_option linter.unusedVariables false

theorem byte_at {s : ByteArray} {l : List UInt8} (h : s.data.toList = l) (k : Nat) : s.data[((k : Nat) : Int).toNat]? = l[k]? := by
  rw [Int.toNat_natCast, ← Array.getElem?_toList, h]
theorem u8_ne {b : UInt8} (h : b ≠ 46) : ¬ ((b.toNat : Nat) : Int) = 46 := fun hh => h (UInt8.toNat_inj.1 (Int.ofNat.inj hh))

section
variable {call : CallT} (hc : Lim G call)
include hc

theorem rsplit_cc (s : ByteArray) (hs : s.size ≤ 9223372036854775807) : CC call 36 [.str s] (splitV s) := by
  intro lo M
  obtain ⟨nl, hG, hN⟩ : ∃ nl, G.nl = nl ∧ nl = 18446744073709551616 := ⟨_, rfl, rfl⟩
  rw [q36 hc, hG]
  clear hG
  have hs' : s.data.size ≤ 9223372036854775807 := hs
  have hsz : s.data.size = s.data.toList.length := by simp
  have no : splitOk s = false → ∀ M : MM, Wp (some (AV.tup [.str ⟨⟨[]⟩⟩, .str ⟨⟨[]⟩⟩, .bool false], M)) (Ans (splitV s) M) := fun e M => rn_ans' (by rw [splitV, e]; rfl)
  unfold s36
  refine rn_pcc (dots_cc hc s hs) (fz_i _) (by simp [ClStr]) ?_
  rcases parts s with ⟨h1, h2, h3⟩ | ⟨i, h1, h2, h3, h4, h5, h6, h7⟩
  · rw [h3]
    repeat (first | (with_reducible (first | refine rn_if_t ?_ | refine rn_gp_tf ?_ | refine rn_pt ?_)) | ((with_reducible refine rn_neq_t ?_ ?_); focus omega))
    exact no (by unfold splitOk; rw [h1]; rfl) M
  · rw [h7]
    by_cases hp : dotsN (postS s) = 0
    · have hdp : dotB (postS s) = false := by rw [dotB_dots, hp]; rfl
      have e1 : preS s = ⟨s.data.extract 0 i⟩ := by unfold preS; rw [h2, Int.toNat_natCast]
      have e2 : postS s = ⟨s.data.extract (i + 1) s.data.size⟩ := by unfold postS; rw [h2, Int.toNat_natCast]
      have hlen := congrArg List.length h4
      rw [List.length_append, List.length_cons, ← hsz, h5] at hlen
      rw [hp]
      refine rn_neq_f (by omega) ?_
      repeat (first | (with_reducible (first | refine rn_some ?_ | refine rn_gp_ff ?_)))
      cases hA : (preS s).data.toList with
      | nil =>
        have hpre : preS s = s0 := str_nil.2 hA
        rw [hA, List.nil_append] at h4
        refine rn_ixc (b := 46) (by decide) (by have := byte_at h4 0; simpa using this) ?_
        repeat (first | (with_reducible (first | refine rn_gp_ff ?_)))
        refine rn_eql_t rfl ?_
        repeat (first | (with_reducible (first | refine rn_if_t ?_ | refine rn_gp_tf ?_ | refine rn_pt ?_ | refine rn_pf ?_)))
        exact no (by unfold splitOk; rw [hpre]; simp) M
      | cons a0 A =>
        have ha0 : a0 ≠ 46 := fun e => h6 (by rw [hA, e]; simp)
        have hpre : decide (preS s = s0) = false := decide_eq_false (fun e => by have := str_nil.1 e; rw [hA] at this; cases this)
        rw [hA] at h4 h5 h6
        refine rn_ixc (b := a0) (by decide) (by have := byte_at h4 0; simpa using this) ?_
        repeat (first | (with_reducible (first | refine rn_gp_ff ?_)))
        refine rn_eql_f (u8_ne ha0) ?_
        repeat (first | (with_reducible (first | refine rn_some ?_ | refine rn_gp_ff ?_ | refine rn_pf ?_ | refine rn_lens ?_)) | ((with_reducible refine rn_sub64 ?_ ?_); focus omega))
        cases hB : (postS s).data.toList with
        | nil =>
          have hpost : postS s = s0 := str_nil.2 hB
          rw [hB] at h4 hlen
          simp only [List.length_nil] at hlen
          refine rn_ixc (b := 46) (by omega) ?_ ?_
          · rw [show ((s.data.size : Int) - 1) = ((i : Nat) : Int) by omega, byte_at h4 i, ← h5, List.getElem?_append_right (Nat.le_refl _)]
            simp
          repeat (first | (with_reducible (first | refine rn_gp_ff ?_)))
          refine rn_eql_t rfl ?_
          repeat (first | (with_reducible (first | refine rn_if_t ?_ | refine rn_pf ?_)))
          exact no (by unfold splitOk; rw [hpost]; simp) M
        | cons b0 B =>
          have hpost : decide (postS s = s0) = false := decide_eq_false (fun e => by have := str_nil.1 e; rw [hB] at this; cases this)
          rw [hB] at h4 hlen
          simp only [List.length_cons] at hlen
          have hok : splitOk s = true := by unfold splitOk; rw [h1, hpre, hpost, hdp]; rfl
          have hlast : (b0 :: B)[B.length]? = some ((b0 :: B).getLast (by simp)) := by
            rw [List.getLast_eq_getElem, List.getElem?_eq_getElem (by simp)]; simp
          have hne : (b0 :: B).getLast (by simp) ≠ 46 := fun e => by
            have hm : (46 : UInt8) ∈ (postS s).data.toList := by rw [hB, ← e]; exact List.getLast_mem _
            have := List.count_pos_iff.2 hm
            unfold dotsN at hp
            omega
          refine rn_ixc (b := (b0 :: B).getLast (by simp)) (by omega) ?_ ?_
          · rw [show ((s.data.size : Int) - 1) = ((i + 1 + B.length : Nat) : Int) by omega, byte_at h4 (i + 1 + B.length), ← h5, List.getElem?_append_right (by omega),
              show (a0 :: A).length + 1 + B.length - (a0 :: A).length = B.length + 1 by omega, List.getElem?_cons_succ]
            exact hlast
          repeat (first | (with_reducible (first | refine rn_gp_ff ?_)))
          refine rn_eql_f (u8_ne hne) ?_
          repeat (first | (with_reducible (first | refine rn_if_f ?_ | refine rn_pf ?_)))
          have loop : ∀ (m k f : Nat) (M : MM), k + m = i → m < f → Wp (b36_6 call nl lo f (.str s) (.i (k : Int)) M) (Ans (splitV s) M) := by
            intro m
            induction m with
            | zero =>
              intro k f M hk hf
              obtain ⟨f, rfl⟩ : ∃ k, f = k + 1 := ⟨f - 1, by omega⟩
              have hki : k = i := by omega
              subst hki
              unfold b36_6
              refine rn_ixc (b := 46) (by omega) ?_ ?_
              · rw [byte_at h4 k, ← h5, List.getElem?_append_right (Nat.le_refl _)]; simp
              refine rn_neq_f rfl (rn_if_f ?_)
              refine rn_bumpa ?_
              refine rn_slstr (l := 0) (h := k) rfl rfl (by omega) ?_
              refine rn_add64 (by omega) ?_
              refine rn_slstr (l := (k : Int) + 1) (h := s.data.size) rfl rfl (by omega) ?_
              refine rn_ans' ?_
              rw [splitV, hok, if_pos rfl, if_pos rfl, e1, e2, show ((k : Int) + 1).toNat = k + 1 by omega, Int.toNat_natCast, Int.toNat_natCast]
              rfl
            | succ m ih =>
              intro k f M hk hf
              obtain ⟨f, rfl⟩ : ∃ k, f = k + 1 := ⟨f - 1, by omega⟩
              have hkl : k < (a0 :: A).length := by omega
              have hne : (a0 :: A)[k] ≠ 46 := fun e => h6 (by rw [← e]; exact List.getElem_mem hkl)
              unfold b36_6
              refine rn_ixc (b := (a0 :: A)[k]) (by omega) ?_ ?_
              · rw [byte_at h4 k, List.getElem?_append_left hkl, List.getElem?_eq_getElem hkl]
              refine rn_neq_t (u8_ne hne) (rn_if_t ?_)
              refine rn_add64 (by omega) ?_
              exact ih (k + 1) f M (by omega) (by omega)
          exact loop i 0 nl M (by omega) (by omega)
    · have hdp : dotB (postS s) = true := by rw [dotB_dots, decide_eq_false hp]; rfl
      refine rn_neq_t (by omega) ?_
      repeat (first | (with_reducible (first | refine rn_if_t ?_ | refine rn_gp_tf ?_ | refine rn_pt ?_)))
      exact no (by unfold splitOk; rw [hdp]; simp) M
end
end Go.Proofs.Ytcoagkfjdpdohaa.Sx
