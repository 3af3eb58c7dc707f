/- TYPES: parting a name at its full stop. -/
import Derived.Test.YtcoagkfjdpdohaaTyXLo
namespace Go.Proofs.Ytcoagkfjdpdohaa.Sx
open Go
set_option maxRecDepth 1000000
set_option linter.unusedSimpArgs false
set_option linter.unusedVariables false

theorem index_split (c : UInt8) : ∀ l : List UInt8, (Lib.indexByte l c = -1 ∧ c ∉ l) ∨ ∃ a b, l = a ++ c :: b ∧ c ∉ a ∧ Lib.indexByte l c = (a.length : Int)
  | [] => .inl ⟨rfl, by simp⟩
  | x :: l => by
    by_cases hx : x = c
    · subst hx
      exact .inr ⟨[], l, rfl, by simp, by simp [Lib.indexByte]⟩
    · have e : (x == c) = false := by simpa using hx
      rcases index_split c l with ⟨h1, h2⟩ | ⟨a, b, h1, h2, h3⟩
      · refine .inl ⟨by rw [Lib.indexByte, e, h1]; rfl, ?_⟩
        intro hh
        rcases List.mem_cons.1 hh with rfl | hh
        · exact hx rfl
        · exact h2 hh
      · refine .inr ⟨x :: a, b, by rw [h1]; rfl, ?_, ?_⟩
        · intro hh
          rcases List.mem_cons.1 hh with rfl | hh
          · exact hx rfl
          · exact h2 hh
        · have e2 : (Lib.indexByte l c == -1) = false := by rw [h3]; simp
          rw [Lib.indexByte, e]
          simp only [Bool.false_eq_true, if_false, e2]
          rw [h3]; simp

abbrev s0 : ByteArray := ⟨⟨[]⟩⟩
/-- A name's parts before and behind its first full stop. -/
def preS (s : ByteArray) : ByteArray := ⟨s.data.extract 0 (Lib.indexByte s.data.toList 46).toNat⟩
def postS (s : ByteArray) : ByteArray := ⟨s.data.extract ((Lib.indexByte s.data.toList 46).toNat + 1) s.data.size⟩
def splitOk (s : ByteArray) : Bool := dotB s && !decide (preS s = s0) && !decide (postS s = s0) && !dotB (postS s)
abbrev splitV (s : ByteArray) : AV := .tup [.str (if splitOk s then preS s else s0), .str (if splitOk s then postS s else s0), .bool (splitOk s)]
theorem fz_split (s : ByteArray) (m : Mem) : freeze m 0 (splitV s) = some (splitV s) := rfl
theorem str_nil {s : ByteArray} : s = s0 ↔ s.data.toList = [] := ⟨fun h => by rw [h], fun h => toList_inj' h⟩

/-- What stands where a full stop is in a name. -/
theorem parts (s : ByteArray) : (dotB s = false ∧ Lib.indexByte s.data.toList 46 = -1 ∧ dotsN s = 0) ∨
    ∃ i : Nat, dotB s = true ∧ Lib.indexByte s.data.toList 46 = (i : Int) ∧ i < s.data.size ∧ s.data.toList = (preS s).data.toList ++ 46 :: (postS s).data.toList ∧ (preS s).data.toList.length = i ∧ 46 ∉ (preS s).data.toList ∧ dotsN s = 1 + dotsN (postS s) := by
  rcases index_split 46 s.data.toList with ⟨h1, h2⟩ | ⟨a, b, h1, h2, h3⟩
  · refine .inl ⟨?_, h1, List.count_eq_zero.2 h2⟩
    unfold dotB; rw [h1]; rfl
  · have hsz : s.data.size = s.data.toList.length := by simp
    have ea : (preS s).data.toList = a := by
      unfold preS
      rw [h3, Array.toList_extract, h1]
      simp
    have eb : (postS s).data.toList = b := by
      unfold postS
      rw [h3, Array.toList_extract, h1, hsz, h1]
      simp [List.extract_eq_take_drop]
      exact List.take_of_length_le (by omega)
    refine .inr ⟨a.length, ?_, h3, ?_, by rw [ea, eb]; exact h1, by rw [ea], by rw [ea]; exact h2, ?_⟩
    · unfold dotB; rw [h3]; simp
    · rw [hsz, h1]; simp
    · unfold dotsN
      rw [eb, h1, List.count_append, List.count_cons_self, List.count_eq_zero.2 h2]; omega

section
variable {call : CallT} (hc : Lim G call)
include hc

theorem lcut_cc (s : ByteArray) (hs : s.size ≤ 9223372036854775807) : CC call 81 [.str s, .str ⟨⟨[46]⟩⟩] (if dotB s then .tup [.str (preS s), .str (postS s), .bool true] else .tup [.str s, .str s0, .bool false]) := by
  intro lo M
  have hs' : s.data.size ≤ 9223372036854775807 := hs
  rw [q81 hc]
  unfold s81
  refine rn_pcc (lindex_cc hc s 46) (fz_i _) (by simp [ClStr]) ?_
  rcases parts s with ⟨h1, h2, _⟩ | ⟨i, h1, h2, h3, _⟩
  · rw [h1, h2]
    repeat (first | (with_reducible (first | refine rn_if_f ?_)) | ((with_reducible refine rn_geq_f ?_ ?_); focus omega))
    exact rn_ans
  · rw [h1, h2]
    have e1 : preS s = ⟨s.data.extract 0 i⟩ := by unfold preS; rw [h2, Int.toNat_natCast]
    have e2 : postS s = ⟨s.data.extract (i + 1) s.data.size⟩ := by unfold postS; rw [h2, Int.toNat_natCast]
    repeat (first | (with_reducible (first | refine rn_bumpa ?_ | refine rn_if_t ?_)) | ((with_reducible refine rn_geq_t ?_ ?_); focus omega))
    refine rn_slstr (l := 0) (h := i) rfl rfl (by omega) ?_
    repeat (first | (with_reducible (first | refine rn_lens ?_)))
    refine rn_add64 (by show (-9223372036854775808 : Int) ≤ i + 1 ∧ (i : Int) + 1 ≤ _; omega) ?_
    refine rn_slstr (l := (i : Int) + 1) (h := s.data.size) rfl rfl (by omega) ?_
    refine rn_ans' ?_
    rw [if_pos rfl, e1, e2, show ((i : Int) + 1).toNat = i + 1 by omega, Int.toNat_natCast, Int.toNat_natCast]
    rfl

theorem cut_cc (s : ByteArray) (hs : s.size ≤ 9223372036854775807) : CC call 65 [.str s, .str ⟨⟨[46]⟩⟩] (if dotB s then .tup [.str (preS s), .str (postS s), .bool true] else .tup [.str s, .str s0, .bool false]) := by
  intro lo M
  have h := lcut_cc hc s hs
  rw [q65 hc]
  unfold s65
  cases hd : dotB s
  · rw [hd, if_neg (by simp)] at h
    refine rn_pcc h (fun _ => rfl) (by simp [ClStr]) ?_
    repeat (first | (with_reducible (first | refine rn_ext0 ?_ | refine rn_ext1 ?_ | refine rn_ext2 ?_)))
    exact rn_ans
  · rw [hd, if_pos rfl] at h
    refine rn_pcc h (fun _ => rfl) (by simp [ClStr]) ?_
    repeat (first | (with_reducible (first | refine rn_ext0 ?_ | refine rn_ext1 ?_ | refine rn_ext2 ?_)))
    exact rn_ans

theorem split_cc (s : ByteArray) (hs : s.size ≤ 9223372036854775807) : CC call 35 [.str s] (splitV s) := by
  intro lo M
  have h := cut_cc hc s hs
  rw [q35 hc]
  unfold s35
  cases hd : dotB s
  · rw [hd, if_neg (by simp)] at h
    have e : splitOk s = false := by unfold splitOk; rw [hd]; rfl
    refine rn_pcc h (fun _ => rfl) (by simp [ClStr]) ?_
    repeat (first | (with_reducible (first | refine rn_if_t ?_ | refine rn_gp_tf ?_ | refine rn_pt ?_ | refine rn_not_f ?_ | refine rn_ext0 ?_ | refine rn_ext1 ?_ | refine rn_ext2 ?_)))
    exact rn_ans' (by rw [splitV, e]; rfl)
  · rw [hd, if_pos rfl] at h
    refine rn_pcc h (fun _ => rfl) (by simp [ClStr]) ?_
    repeat (first | (with_reducible (first | refine rn_some ?_ | refine rn_gp_ff ?_ | refine rn_not_t ?_ | refine rn_ext0 ?_ | refine rn_ext1 ?_ | refine rn_ext2 ?_)))
    refine rn_eqS ?_
    cases h1 : decide (preS s = s0)
    · repeat (first | (with_reducible (first | refine rn_some ?_ | refine rn_gp_ff ?_ | refine rn_pf ?_)))
      refine rn_eqS ?_
      cases h2 : decide (postS s = s0)
      · repeat (first | (with_reducible (first | refine rn_pcc (scontains_cc hc (postS s)) (fz_b _) (by simp [ClStr]) ?_ | refine rn_some ?_ | refine rn_gp_ff ?_ | refine rn_pf ?_)))
        cases h3 : dotB (postS s)
        · have e : splitOk s = true := by unfold splitOk; rw [hd, h1, h2, h3]; rfl
          repeat (first | (with_reducible (first | refine rn_if_f ?_)))
          exact rn_ans' (by rw [splitV, e]; rfl)
        · have e : splitOk s = false := by unfold splitOk; rw [hd, h1, h2, h3]; rfl
          repeat (first | (with_reducible (first | refine rn_if_t ?_)))
          exact rn_ans' (by rw [splitV, e]; rfl)
      · have e : splitOk s = false := by unfold splitOk; rw [hd, h1, h2]; rfl
        repeat (first | (with_reducible (first | refine rn_if_t ?_ | refine rn_gp_tf ?_ | refine rn_pt ?_ | refine rn_pf ?_)))
        exact rn_ans' (by rw [splitV, e]; rfl)
    · have e : splitOk s = false := by unfold splitOk; rw [hd, h1]; rfl
      repeat (first | (with_reducible (first | refine rn_if_t ?_ | refine rn_gp_tf ?_ | refine rn_pt ?_ | refine rn_pf ?_)))
      exact rn_ans' (by rw [splitV, e]; rfl)
end
end Go.Proofs.Ytcoagkfjdpdohaa.Sx
