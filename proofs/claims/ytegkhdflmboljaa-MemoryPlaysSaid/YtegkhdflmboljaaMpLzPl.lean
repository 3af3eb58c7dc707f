/- MEMORY PLAYS: the script, small functions of the law, new memories, memories beside each other. -/
import Derived.Test.YtegkhdflmboljaaMpClPl
import Derived.Test.YtegkhdflmboljaaSxIPl
namespace Go.Proofs.Ytegkhdflmboljaa.Sx
open Go
set_option maxRecDepth 1000000
set_option linter.unusedSimpArgs false
set_option linter.unusedVariables false
set_option linter.unusedSectionVars false
/-! ### The script -/
structure DoR where
  kind : Int
  object : Int
  a : Int
  b : Int
  data : List Int
def i64 (n : Int) : Prop := -9223372036854775808 ≤ n ∧ n ≤ 9223372036854775807
def DoR.ok (d : DoR) : Prop := i64 d.kind ∧ i64 d.object ∧ i64 d.a ∧ i64 d.b ∧ d.data.length ≤ 9223372036854775807 ∧ ∀ x ∈ d.data, 0 ≤ x ∧ x ≤ 255
def DoR.row (d : DoR) : List D := [.v (.int .i64 d.kind), .v (.int .i64 d.object), .v (.int .i64 d.a), .v (.int .i64 d.b), .sl (dB d.data) d.data.length]
def rows (l : List DoR) : List D := (l.map DoR.row).flatten
def avDos (l : List DoR) : AV := .d (.sl (rows l) l.length)
theorem rows_cons (d : DoR) (l : List DoR) : rows (d :: l) = d.row ++ rows l := by simp [rows]
theorem rows_drop : ∀ (l : List DoR) (i : Nat) (h : i < l.length), (rows l).drop (i * 5) = (l[i]).row ++ rows (l.drop (i + 1))
  | d :: l, 0, _ => by simp [rows_cons]
  | d :: l, i + 1, h => by
    have := rows_drop l i (by simpa using h)
    have e : (i + 1) * 5 = d.row.length + i * 5 := by simp only [DoR.row, List.length_cons, List.length_nil]; omega
    rw [rows_cons, e, List.drop_length_add_append, this]
    rfl
theorem row_of {cs : List D} (h : TD Try.prog 31 cs) : ∃ d : DoR, d.ok ∧ cs = d.row := by
  obtain ⟨parts, rfl, hn, hl, hr⟩ := h.struct_inv Try.underlying31
  have hn : parts.length = 5 := hn
  match parts, hn, hr with
  | [p0, p1, p2, p3, p4], _, hr =>
    have r0 := hr 0 (by simp) (by simp)
    have r1 := hr 1 (by simp) (by simp)
    have r2 := hr 2 (by simp) (by simp)
    have r3 := hr 3 (by simp) (by simp)
    have r4 := hr 4 (by simp) (by simp)
    obtain ⟨n0, e0, w0⟩ := TD.int_inv r0 Try.underlying3
    obtain ⟨n1, e1, w1⟩ := TD.int_inv r1 Try.underlying3
    obtain ⟨n2, e2, w2⟩ := TD.int_inv r2 Try.underlying3
    obtain ⟨n3, e3, w3⟩ := TD.int_inv r3 Try.underlying3
    obtain ⟨ns, e4, h4, w4⟩ := TD.ints_inv r4 Try.underlying29 Try.underlying5
    simp only [List.getElem_cons_zero, List.getElem_cons_succ] at e0 e1 e2 e3 e4
    subst e0 e1 e2 e3 e4
    exact ⟨⟨n0, n1, n2, n3, ns⟩, ⟨wf_i64 w0, wf_i64 w1, wf_i64 w2, wf_i64 w3, h4, fun x hx => wf_u8 (w4 x hx)⟩, rfl⟩
theorem dos_of {e : D} (h : TD Try.prog 22 [e]) : ∃ l : List DoR, l.length ≤ 9223372036854775807 ∧ (∀ d ∈ l, d.ok) ∧ AV.d e = avDos l := by
  obtain ⟨rs, he, hm, hl, hr⟩ := h.sl_inv Try.underlying22
  simp only [List.cons.injEq, and_true] at he
  subst he
  have key : ∀ rs : List (List D), (∀ r ∈ rs, TD Try.prog 31 r) → ∃ l : List DoR, l.length = rs.length ∧ (∀ d ∈ l, d.ok) ∧ rows l = rs.flatten := by
    intro rs
    induction rs with
    | nil => intro _; exact ⟨[], rfl, (fun d h => by cases h), rfl⟩
    | cons r rs ih =>
      intro h
      obtain ⟨d, h1, rfl⟩ := row_of (h r (by simp))
      obtain ⟨l, g1, g2, g3⟩ := ih fun r hr => h r (by simp [hr])
      exact ⟨d :: l, by simp [g1], fun x hx => by
        rcases List.mem_cons.1 hx with rfl | hx
        · exact h1
        · exact g2 x hx, by rw [rows_cons, g3]; rfl⟩
  obtain ⟨l, g1, g2, g3⟩ := key rs hr
  exact ⟨l, by rw [g1]; exact hm, g2, by rw [avDos, g1, g3]⟩
theorem bx_sl (bs : List Int) : BX (.d (.sl (dB bs) bs.length)) bs := by
  refine ⟨rfl, fun j hj => ⟨_, ixsA_sl _ _ _ _ _ (by omega), fun lk => ?_⟩⟩
  have e : (dB bs).drop ((j : Int).toNat * 1) = .v (.int .u8 bs[j]) :: (dB bs).drop (j + 1) := by
    rw [Int.toNat_natCast, Nat.mul_one, List.drop_eq_getElem_cons (by simpa [dB] using hj)]
    simp [dB]
  rw [e]; rfl
theorem bx_ov (id : Nat) (bs : List Int) : BX (.ov id (dB bs) bs.length 1) bs := by
  refine ⟨rfl, fun j hj => ⟨.ip ((dB bs).drop j), ?_, fun lk => ?_⟩⟩
  · simp only [ixsA, asI]
    rw [if_pos (by omega), Int.toNat_natCast, Nat.mul_one]
  · rw [List.drop_eq_getElem_cons (by simpa [dB] using hj)]
    simp [ld1A, dB]
/-! ### Small functions of the law -/
def nr (n : Int) : Int := if n.tmod 7 = 6 then n else n.tmod 20 + n.tmod 2
def adr (o : Int) : Int := if o.tmod 9 = 8 then o else if o.tmod 6 < 0 then 8 * (o.tmod 6 + 6 + 1) else 8 * (o.tmod 6 + 1)
theorem tmod_b (n m : Int) (hm : 0 < m) : -m < n.tmod m ∧ n.tmod m < m := by
  have h1 := Int.tmod_lt_of_pos n (b := m) hm
  have h2 := Int.tmod_lt_of_pos (-n) (b := m) hm
  rw [Int.neg_tmod] at h2
  exact ⟨by omega, h1⟩
theorem nr_ok {n : Int} (h : i64 n) : i64 (nr n) := by
  have h1 := tmod_b n 20 (by omega)
  have h2 := tmod_b n 2 (by omega)
  unfold i64 at h ⊢
  unfold nr
  split <;> omega
theorem adr_ok {o : Int} (h : i64 o) : 0 ≤ adr o ∧ adr o ≤ 18446744073709551615 := by
  have h1 := tmod_b o 6 (by omega)
  unfold i64 at h
  unfold adr
  split
  · rename_i h2
    by_cases h3 : o < 0
    · have : o.tmod 9 ≤ 0 := by
        have := Int.tmod_nonneg (a := -o) 9 (by omega)
        rw [Int.neg_tmod] at this; omega
      omega
    · omega
  · split <;> omega
section
variable {call : CallT} (hc : Lim GK call)
include hc
theorem near_cc {n : Int} (h : i64 n) : CC call 10 [.i n] (.i (nr n)) := fun lo M => by
  have h1 := tmod_b n 20 (by omega)
  have h2 := tmod_b n 2 (by omega)
  unfold i64 at h
  rw [q10 hc]; unfold s10
  by_cases c : n.tmod 7 = 6
  · repeat (first | (with_reducible (first | refine rn_if_t ?_)) | ((with_reducible refine rn_rem ?_ ?_); focus omega) | ((with_reducible refine rn_eql_t ?_ ?_); focus omega))
    exact rn_ans' (by rw [nr, if_pos c])
  · repeat (first | (with_reducible (first | refine rn_if_f ?_)) | ((with_reducible refine rn_add64 ?_ ?_); focus omega) | ((with_reducible refine rn_rem ?_ ?_); focus omega) | ((with_reducible refine rn_eql_f ?_ ?_); focus omega))
    exact rn_ans' (by rw [nr, if_neg c])
theorem near_pc {n : Int} (h : i64 n) : PC call 10 [.i n] (.i (nr n)) := (near_cc hc h).pc fun m => rfl
theorem address_cc {d : DoR} (h : d.ok) : CC call 8 [.agg (d.row.map .d)] (.int .u64 (adr d.object)) := fun lo M => by
  have ho := h.2.1
  have hb := tmod_b d.object 6 (by omega)
  have had := adr_ok ho
  unfold i64 at ho
  rw [q8 hc]; unfold s8 DoR.row
  simp only [List.map_cons, List.map_nil]
  by_cases c : d.object.tmod 9 = 8
  · have e : adr d.object = d.object := by rw [adr, if_pos c]
    rw [e] at had
    repeat (first | (with_reducible (first | refine rn_upa ?_ | refine rn_if_t ?_ | refine rn_agg ?_ | refine rn_fld00 ?_)) | ((with_reducible apply rn_fld); focus exact rfl) | ((with_reducible refine rn_rem ?_ ?_); focus omega) | ((with_reducible refine rn_eql_t ?_ ?_); focus omega) | ((with_reducible refine rn_cviu ?_ ?_); focus omega))
    exact rn_ans' (by rw [e])
  · by_cases c2 : d.object.tmod 6 < 0
    · have e : adr d.object = 8 * (d.object.tmod 6 + 6 + 1) := by rw [adr, if_neg c, if_pos c2]
      repeat (first | (with_reducible (first | refine rn_upa ?_ | refine rn_if_t ?_ | refine rn_if_f ?_ | refine rn_agg ?_ | refine rn_fld00 ?_)) | ((with_reducible apply rn_fld); focus exact rfl) | ((with_reducible refine rn_add64 ?_ ?_); focus omega) | ((with_reducible refine rn_mul64 ?_ ?_); focus omega) | ((with_reducible refine rn_rem ?_ ?_); focus omega) | ((with_reducible refine rn_eql_f ?_ ?_); focus omega) | ((with_reducible refine rn_lss_t ?_ ?_); focus omega) | ((with_reducible refine rn_cviu ?_ ?_); focus omega))
      exact rn_ans' (by rw [e])
    · have e : adr d.object = 8 * (d.object.tmod 6 + 1) := by rw [adr, if_neg c, if_neg c2]
      repeat (first | (with_reducible (first | refine rn_upa ?_ | refine rn_if_f ?_ | refine rn_agg ?_ | refine rn_fld00 ?_)) | ((with_reducible apply rn_fld); focus exact rfl) | ((with_reducible refine rn_add64 ?_ ?_); focus omega) | ((with_reducible refine rn_mul64 ?_ ?_); focus omega) | ((with_reducible refine rn_rem ?_ ?_); focus omega) | ((with_reducible refine rn_eql_f ?_ ?_); focus omega) | ((with_reducible refine rn_lss_f ?_ ?_); focus omega) | ((with_reducible refine rn_cviu ?_ ?_); focus omega))
      exact rn_ans' (by rw [e])
theorem address_pc {d : DoR} (h : d.ok) : PC call 8 [.agg (d.row.map .d)] (.int .u64 (adr d.object)) := (address_cc hc h).pc fun m => rfl
end
end Go.Proofs.Ytegkhdflmboljaa.Sx

namespace Go.Proofs.Ytegkhdflmboljaa.Sx
open Go
set_option maxRecDepth 1000000
set_option linter.unusedSimpArgs false
set_option linter.unusedVariables false
set_option linter.unusedSectionVars false
def lightF (l : List DoR) : Bool := decide (l.length ≤ 80) && l.all fun d => decide (d.data.length ≤ 100)
set_option maxHeartbeats 4000000 in
theorem awake_run : (acall GK 19 5 [] 0 ⟨0, fun _ => none⟩).map Prod.fst = some (.bool true) := by kernel_rfl
theorem awake_pc {call : CallT} (hc : Lim GK call) : PC call 5 [] (.bool true) := by
  obtain ⟨M', h⟩ := fst_some awake_run
  exact ⟨.bool true, M', (hc _ _ _ _ _).2 ⟨19, h⟩, rfl⟩
section
variable {call : CallT}
theorem light_loop (l : List DoR) (hl : l.length ≤ 80) (hok : ∀ d ∈ l, d.ok) (lo : Nat) : ∀ (r i n : Nat) (M : MM), i + r = l.length → r < n → Wp (b4_5 call GK.nl lo n (avDos l) (.i l.length) (.i i) M) (Ans (.bool ((l.drop i).all fun d => decide (d.data.length ≤ 100))) M) := by
  intro r
  induction r with
  | zero =>
    intro i n M hi hn
    obtain ⟨n, rfl⟩ : ∃ k, n = k + 1 := ⟨n - 1, by omega⟩
    unfold b4_5
    repeat (first | (with_reducible (first | refine rn_if_f ?_)) | ((with_reducible refine rn_lss_f ?_ ?_); focus omega))
    exact rn_ans' (by rw [List.drop_of_length_le (by omega)]; rfl)
  | succ r ih =>
    intro i n M hi hn
    obtain ⟨n, rfl⟩ : ∃ k, n = k + 1 := ⟨n - 1, by omega⟩
    have hil : i < l.length := by omega
    have hd := rows_drop l i hil
    have hdo := hok _ (List.getElem_mem hil)
    have hrl : (l[i]).row.length = 5 := rfl
    have hdl : (l.drop i) = l[i] :: l.drop (i + 1) := List.drop_eq_getElem_cons hil
    unfold b4_5
    simp only [avDos]
    repeat (first | (with_reducible (first | refine rn_if_t ?_)) | ((with_reducible refine rn_lss_t ?_ ?_); focus omega) | ((with_reducible refine rn_ixsl ?_ ?_); focus omega))
    rw [show ((i : Nat) : Int).toNat * 5 = i * 5 by omega, hd]
    refine rn_ldni (cs := (l[i]).row.map .d) (by rw [List.length_append]; omega) (by rw [List.take_append_of_le_length (by omega), List.take_of_length_le (by omega)]) ?_
    have hdd := hdo.2.2.2.2.1
    repeat (first | ((with_reducible refine rn_setcall ?_ ?_ ?_ ?_); (focus exact rfl); (focus exact rfl); (focus exact rfl)) | (with_reducible (first | refine rn_upa ?_ | refine rn_fld00 ?_)) | ((with_reducible apply rn_fld); focus exact rfl) | ((with_reducible refine rn_setcall ?_ ?_ ?_ ?_); (focus exact rfl); (focus exact rfl); (focus exact rfl)) | (with_reducible (first | refine rn_len_sl ?_)))
    by_cases c : (l[i]).data.length ≤ 100
    · repeat (first | (with_reducible (first | refine rn_if_f ?_)) | ((with_reducible refine rn_add64 ?_ ?_); focus omega) | ((with_reducible refine rn_gtr_f ?_ ?_); focus omega))
      have := ih (i + 1) n (M.up M.nx) (by omega) (by omega)
      rw [hdl, List.all_cons, decide_eq_true c, Bool.true_and]
      refine Wp.mono (o := b4_5 call GK.nl lo n (avDos l) (.i l.length) (.i ((i : Int) + 1)) (M.up M.nx)) this fun x hx => hx
    · repeat (first | (with_reducible (first | refine rn_if_t ?_)) | ((with_reducible refine rn_gtr_t ?_ ?_); focus omega))
      exact rn_ans' (by rw [hdl, List.all_cons, decide_eq_false c, Bool.false_and])
theorem light_pc (hc : Lim GK call) (l : List DoR) (hl : l.length ≤ 9223372036854775807) (hok : ∀ d ∈ l, d.ok) : PC call 4 [avDos l] (.bool (lightF l)) := by
  have : CC call 4 [avDos l] (.bool (lightF l)) := fun lo M => by
    rw [q4 hc]; unfold s4
    by_cases c : l.length ≤ 80
    · simp only [avDos]
      repeat (first | (with_reducible (first | refine rn_if_f ?_ | refine rn_len_sl ?_)) | ((with_reducible refine rn_gtr_f ?_ ?_); focus omega))
      have := light_loop (call := call) l c hok lo l.length 0 GK.nl M (by omega) (by show _ < 18446744073709551616; omega)
      have e : lightF l = (l.drop 0).all fun d => decide (d.data.length ≤ 100) := by rw [lightF, decide_eq_true c, Bool.true_and, List.drop_zero]
      rw [e]; exact this
    · simp only [avDos]
      repeat (first | (with_reducible (first | refine rn_if_t ?_ | refine rn_len_sl ?_)) | ((with_reducible refine rn_gtr_t ?_ ?_); focus omega))
      exact rn_ans' (by rw [lightF, decide_eq_false c, Bool.false_and])
  exact this.pc fun m => rfl
def tag1 (n : Nat) : Nat → Option Tag := fun id => if id = n then some .root else none
theorem new_ok (hc : Lim GK call) (lo : Nat) (M : MM) : Wp (call 6 [] lo M) fun x => x.1 = .ptr M.nx 0 ∧ M.nx ≤ x.2.nx ∧ (∀ id, id < M.nx → x.2.mem id = M.mem id) ∧ IM (tag1 M.nx) x.2 M.nx [] .nilsl [] := by
  rw [q6 hc]; unfold s6
  refine rn_mke ?_
  refine rn_box rfl ?_
  refine rn_done ⟨rfl, by rw [alloc_nx]; omega, fun id hid => alloc_ne _ _ _ _ (by omega), ⟨fun id hid => ?_, rfl, by simp [tag1], alloc_same .., .inl ⟨rfl, rfl⟩, fun i q o h => by simp at h⟩⟩
  by_cases e : id = M.nx
  · subst e; rw [alloc_same]; exact ⟨by rw [alloc_nx]; omega, by simp⟩
  · simp [tag1, e] at hid
theorem rnew_ok (hc : Lim GK call) (lo : Nat) (M : MM) : Wp (call 7 [] lo M) fun x => x.1 = .ptr M.nx 0 ∧ M.nx ≤ x.2.nx ∧ (∀ id, id < M.nx → x.2.mem id = M.mem id) ∧ RM (tag1 M.nx) x.2 M.nx [] .nilsl [] := by
  rw [q7 hc]; unfold s7
  refine rn_mke ?_
  refine rn_box rfl ?_
  refine rn_done ⟨rfl, by rw [alloc_nx]; omega, fun id hid => alloc_ne _ _ _ _ (by omega), ⟨fun id hid => ?_, rfl, by simp [tag1], alloc_same .., .inl ⟨rfl, rfl⟩, fun i o b h => by simp at h⟩⟩
  by_cases e : id = M.nx
  · subst e; rw [alloc_same]; exact ⟨by rw [alloc_nx]; omega, by simp⟩
  · simp [tag1, e] at hid
end
/-! ### Memories beside each other -/
def Dj (L K : Nat → Option Tag) : Prop := ∀ id, L id ≠ none → K id = none
theorem Dj.symm {L K : Nat → Option Tag} (h : Dj L K) : Dj K L := fun id hk => by
  cases e : L id with
  | none => rfl
  | some t => exact absurd (h id (by rw [e]; simp)) hk
theorem Gr.other {L L' K : Nat → Option Tag} {M M' : MM} (hg : Gr L L' M M') (hd : Dj K L) (hk : ∀ id, K id ≠ none → id < M.nx) : (∀ id, K id ≠ none → M'.mem id = M.mem id) ∧ Dj K L' :=
  ⟨fun id h => hg.old id (hk id h) (hd id h), fun id h => by
    cases e : L' id with
    | none => rfl
    | some t =>
      rcases hg.new id (by rw [e]; simp) with h1 | h1
      · exact absurd (hd id h) h1
      · have := hk id h; omega⟩
theorem hid_lt {b n m : Nat} {w : Bool} {id : Nat} (h : id < b) : hid (.mk b n m w) id = false := by
  have : Nat.ble b id = false := by rw [← Bool.not_eq_true, Nat.ble_eq]; omega
  simp [hid, Lm.own, this]
theorem hid_ge {b n m : Nat} {w : Bool} {id : Nat} (h : b + n ≤ id) : hid (.mk b n m w) id = false := by
  have : Nat.blt id (b + n) = false := by rw [← Bool.not_eq_true, Nat.blt_eq]; omega
  simp [hid, Lm.own, this]
theorem Gr.back {L L' : Nat → Option Tag} {M M' : MM} {b n m : Nat} {w : Bool} (hg : Gr L L' ⟨M.nx, hideM (.mk b n m w) M.mem⟩ M') (hL : ∀ id, L id ≠ none → id < b ∧ M.mem id ≠ none) (hn : b + n ≤ M.nx) :
    Gr L L' M ⟨M'.nx, backM (.mk b n m w) M.nx M.mem M'.mem⟩ ∧ ∀ id, L' id ≠ none → backM (.mk b n m w) M.nx M.mem M'.mem id = M'.mem id := by
  refine ⟨⟨hg.nx, hg.new, fun id hid hl => ?_⟩, fun id hl => ?_⟩
  · have h1 := hg.old id hid hl
    show (if _ then _ else if _ then _ else _) = _
    by_cases e : Sx.hid (.mk b n m w) id = true
    · rw [if_pos e]
    · rw [if_neg e]
      have h2 : M'.mem id = M.mem id := by
        rw [h1]; show (if _ then _ else _) = _; rw [if_neg e]
      by_cases e2 : (Nat.blt id M.nx && (M.mem id).isNone) = true
      · rw [if_pos e2]
        rw [Bool.and_eq_true] at e2
        exact (Option.isNone_iff_eq_none.1 e2.2).symm
      · rw [if_neg e2, h2]
  · show (if _ then _ else if _ then _ else _) = _
    rcases hg.new id hl with h1 | h1
    · obtain ⟨h2, h3⟩ := hL id h1
      rw [hid_lt h2, if_neg (by simp), if_neg]
      rw [Bool.and_eq_true]
      rintro ⟨_, h4⟩
      exact h3 (Option.isNone_iff_eq_none.1 h4)
    · have h1 : M.nx ≤ id := h1
      rw [hid_ge (by omega), if_neg (by simp), if_neg]
      rw [Bool.and_eq_true, Nat.blt_eq]
      omega
/-! ### Bounds -/
def Bd (n : Nat) (l : List Ob) : Prop := l.length ≤ n ∧ ∀ o ∈ l, o.refs ≤ n
theorem Bd.mono {n m : Nat} {l : List Ob} (h : Bd n l) (hm : n ≤ m) : Bd m l := ⟨Nat.le_trans h.1 hm, fun o ho => Nat.le_trans (h.2 o ho) hm⟩
theorem Bd.set {n k : Nat} {l : List Ob} {o : Ob} (h : Bd n l) (ho : o.refs ≤ n) : Bd n (l.set k o) := ⟨by rw [List.length_set]; exact h.1, fun x hx => by
  rcases List.mem_or_eq_of_mem_set hx with h1 | h1
  · exact h.2 x h1
  · rw [h1]; exact ho⟩
theorem fnd_mem {l : List Ob} {a : Int} {k : Nat} {o : Ob} (h : fnd l a = some (k, o)) : o ∈ l := by
  unfold fnd at h
  split at h
  · cases h
  · obtain ⟨o', h1, h2⟩ := Option.bind_eq_some_iff.1 h
    split at h2
    · simp only [Option.some.injEq, Prod.mk.injEq] at h2
      obtain ⟨_, rfl⟩ := h2
      exact List.mem_of_getElem? h1
    · cases h2
theorem Bd.retain {n : Nat} {l : List Ob} (h : Bd n l) (a : Int) : Bd (n + 1) (sRetain l a).2 := by
  unfold sRetain
  split
  · exact h.mono (by omega)
  · rename_i k o e
    exact (h.mono (by omega)).set (by have := h.2 o (fnd_mem e); simp only; omega)
theorem Bd.release {n : Nat} {l : List Ob} (h : Bd n l) (a : Int) : Bd (n + 1) (sRelease l a).2.2 := by
  unfold sRelease
  split
  · exact h.mono (by omega)
  · rename_i k o e
    split
    · exact h.mono (by omega)
    · exact (h.mono (by omega)).set (by have := h.2 o (fnd_mem e); simp only; omega)
theorem Bd.free {n : Nat} {l : List Ob} (h : Bd n l) (a : Int) : Bd (n + 1) (sFree l a).2 := by
  unfold sFree
  split
  · exact h.mono (by omega)
  · rename_i k o e
    split
    · exact h.mono (by omega)
    · exact (h.mono (by omega)).set (by have := h.2 o (fnd_mem e); simp only; omega)
theorem Bd.write {n : Nat} {l : List Ob} (h : Bd n l) (a at0 : Int) (bs : List Int) : Bd (n + 1) (sWrite l a at0 bs).2 := by
  unfold sWrite
  split
  · exact h.mono (by omega)
  · rename_i k o e
    split
    · exact (h.mono (by omega)).set (by have := h.2 o (fnd_mem e); simp only; omega)
    · exact h.mono (by omega)
theorem Bd.make {n : Nat} {l : List Ob} (h : Bd n l) (size count : Int) : Bd (n + 1) (sMake l size count).2.2 := by
  unfold sMake
  split
  · exact h.mono (by omega)
  · refine ⟨by simp; exact h.1, fun o ho => ?_⟩
    rcases List.mem_append.1 ho with h1 | h1
    · have := h.2 o h1; omega
    · simp only [List.mem_singleton] at h1; subst h1; simp [newOb]
end Go.Proofs.Ytegkhdflmboljaa.Sx

namespace Go.Proofs.Ytegkhdflmboljaa.Sx
open Go
set_option maxRecDepth 1000000
set_option linter.unusedSimpArgs false
set_option linter.unusedVariables false
set_option linter.unusedSectionVars false
theorem rn_callkD {R : Type} {Q' : R → Prop} {call : CallT} {mode : FuncId → Mode} {lo : Nat} {lim : Lm} {fresh : Nat} {ρ : List AV} {M : MM} {f : FuncId} {args roots : List X} {Q : AV × MM → Prop} {k : AV → MM → Option R}
    (hm : mode f = .rw) (h : Wp (call f (args.map (ev ρ)) lo ⟨M.nx, hideM lim M.mem⟩) Q) (hn : ∀ x, Q x → M.nx ≤ x.2.nx) (hr : ∀ m m', roots.all (fun y => kept m m' (ev ρ y)) = true) (hk : ∀ v M', Q (v, M') → Wp (k v ⟨M'.nx, backM lim M.nx M.mem M'.mem⟩) Q') :
    Wp (bnd (istep call mode true lo lim fresh (.callk f args roots) ρ M) k) Q' := by
  obtain ⟨⟨w, M'⟩, e, q⟩ := h
  refine rn_bnd (v := w) (M := ⟨M'.nx, backM lim M.nx M.mem M'.mem⟩) ?_ (hk w M' q)
  simp only [istep, docall, hm, if_true, rwD_ok e (hn _ q), hr]
section
variable {L : Nat → Option Tag} {M : MM} {p : Nat} {l l' : List Ob} {sl r : AV} {ps : List Nat} {bw : List (Nat × Nat)} {b n m : Nat} {w : Bool}
theorem IM.hide (h : IM L M p l sl ps) (hb : ∀ id, L id ≠ none → id < b) : IM L ⟨M.nx, hideM (.mk b n m w) M.mem⟩ p l sl ps :=
  h.frame (Nat.le_refl _) fun id hid => by show (if _ then _ else _) = _; rw [hid_lt (hb id hid), if_neg (by simp)]
theorem RM.hide (h : RM L M p l sl bw) (hb : ∀ id, L id ≠ none → id < b) : RM L ⟨M.nx, hideM (.mk b n m w) M.mem⟩ p l sl bw :=
  h.frame (Nat.le_refl _) fun id hid => by show (if _ then _ else _) = _; rw [hid_lt (hb id hid), if_neg (by simp)]
theorem IM.back (h : IM L M p l sl ps) (hb : ∀ id, L id ≠ none → id < b) (hn : b + n ≤ M.nx) {x : AV × MM} (hx : Pst L ⟨M.nx, hideM (.mk b n m w) M.mem⟩ p r l' x) : Pst L M p r l' (x.1, ⟨x.2.nx, backM (.mk b n m w) M.nx M.mem x.2.mem⟩) := by
  obtain ⟨e, L', sl', ps', h1, h2⟩ := hx
  obtain ⟨g1, g2⟩ := h2.back (fun id hid => ⟨hb id hid, (h.dom id hid).2⟩) hn
  exact ⟨e, L', sl', ps', h1.frame (Nat.le_refl _) g2, g1⟩
theorem RM.back (h : RM L M p l sl bw) (hb : ∀ id, L id ≠ none → id < b) (hn : b + n ≤ M.nx) {x : AV × MM} (hx : Pst2 L ⟨M.nx, hideM (.mk b n m w) M.mem⟩ p r l' x) : Pst2 L M p r l' (x.1, ⟨x.2.nx, backM (.mk b n m w) M.nx M.mem x.2.mem⟩) := by
  obtain ⟨e, L', sl', ps', h1, h2⟩ := hx
  obtain ⟨g1, g2⟩ := h2.back (fun id hid => ⟨hb id hid, (h.dom id hid).2⟩) hn
  exact ⟨e, L', sl', ps', h1.frame (Nat.le_refl _) g2, g1⟩
theorem Pst.nx {x : AV × MM} (h : Pst L M p r l' x) : M.nx ≤ x.2.nx := by obtain ⟨_, _, _, _, _, h⟩ := h; exact h.nx
theorem Pst2.nx {x : AV × MM} (h : Pst2 L M p r l' x) : M.nx ≤ x.2.nx := by obtain ⟨_, _, _, _, _, h⟩ := h; exact h.nx
end
/-- Both memories, of the same objects, beside each other. -/
structure Two (M : MM) (p1 p2 : Nat) (l1 l2 : List Ob) : Prop where
  ex : ∃ L1 L2 sl1 ps sl2 bw, IM L1 M p1 l1 sl1 ps ∧ RM L2 M p2 l2 sl2 bw ∧ Dj L1 L2
theorem Two.impl {M : MM} {p1 p2 : Nat} {l1 l2 l' : List Ob} {o : Option (AV × MM)} {r : AV} (h : Two M p1 p2 l1 l2) {R : Type} {Q : R → Prop} {k : AV → MM → Option R}
    (hc : ∀ L1 sl1 ps, IM L1 M p1 l1 sl1 ps → Wp o (Pst L1 M p1 r l')) (hk : ∀ M', Two M' p1 p2 l' l2 → Wp (k r M') Q) : Wp (bnd o k) Q := by
  obtain ⟨L1, L2, sl1, ps, sl2, bw, h1, h2, h3⟩ := h.ex
  refine rn_wp (hc L1 sl1 ps h1) fun v M' hv => ?_
  obtain ⟨e, L1', sl1', ps', g1, g2⟩ := hv
  simp only at e; subst e
  obtain ⟨g3, g4⟩ := g2.other h3.symm fun id hid => (h2.dom id hid).1
  exact hk M' ⟨L1', L2, sl1', ps', sl2, bw, g1, h2.frame g2.nx g3, g4.symm⟩
theorem Two.ref {M : MM} {p1 p2 : Nat} {l1 l2 l' : List Ob} {o : Option (AV × MM)} {r : AV} (h : Two M p1 p2 l1 l2) {R : Type} {Q : R → Prop} {k : AV → MM → Option R}
    (hc : ∀ L2 sl2 bw, RM L2 M p2 l2 sl2 bw → Wp o (Pst2 L2 M p2 r l')) (hk : ∀ M', Two M' p1 p2 l1 l' → Wp (k r M') Q) : Wp (bnd o k) Q := by
  obtain ⟨L1, L2, sl1, ps, sl2, bw, h1, h2, h3⟩ := h.ex
  refine rn_wp (hc L2 sl2 bw h2) fun v M' hv => ?_
  obtain ⟨e, L2', sl2', bw', g1, g2⟩ := hv
  simp only at e; subst e
  obtain ⟨g3, g4⟩ := g2.other h3 fun id hid => (h1.dom id hid).1
  exact hk M' ⟨L1, L2', sl1, ps, sl2', bw', h1.frame g2.nx g3, g1, g4⟩
theorem Two.same {M M' : MM} {p1 p2 : Nat} {l1 l2 : List Ob} (h : Two M p1 p2 l1 l2) (hm : M'.mem = M.mem) (hn : M.nx ≤ M'.nx) : Two M' p1 p2 l1 l2 := by
  obtain ⟨L1, L2, sl1, ps, sl2, bw, h1, h2, h3⟩ := h.ex
  exact ⟨L1, L2, sl1, ps, sl2, bw, h1.frame hn fun _ _ => by rw [hm], h2.frame hn fun _ _ => by rw [hm], h3⟩
theorem Cl_i (n : Int) : ∀ x ∈ [AV.i n], Cl x := fun x hx => by
  simp only [List.mem_singleton] at hx; subst hx; exact ⟨rfl, rfl⟩
theorem Cl_row (d : DoR) : ∀ x ∈ [AV.agg (d.row.map .d)], Cl x := fun x hx => by
  simp only [List.mem_singleton] at hx; subst hx; exact ⟨rfl, rfl⟩

section
variable {call : CallT} (hc : Lim GK call)
include hc
theorem tail_ok {l : List DoR} {i n : Nat} {Q : AV × MM → Prop} {p1 p2 : Nat} {obs : List Ob} {M : MM} (hll : obs.length ≤ 1000000) (hi : i < 1000) (h : Two M p1 p2 obs obs)
    (hk : Wp (b3_7 call GK.nl 0 n (.ptr p1 0) (.ptr p2 0) (avDos l) (.i l.length) (.i ((i : Int) + 1)) M) Q) : Wp (b3_14 call GK.nl 0 (b3_7 call GK.nl 0 n) (.ptr p1 0) (.ptr p2 0) (avDos l) (.i l.length) (.i i) M) Q := by
  obtain ⟨L1, L2, sl1, ps, sl2, bw, h1, h2, h3⟩ := h.ex
  refine rn_roE (live_ok hc (h1.look h1.oks) M.nx) (fun x hx => hx) (v' := .i (liveN obs)) (fun m => rfl) ?_
  refine rn_roE (rlive_ok hc (h2.look h2.oks) hll M.nx) (fun x hx => hx) (v' := .i (liveN obs)) (fun m => rfl) ?_
  repeat (first | (with_reducible (first | refine rn_if_f ?_)) | ((with_reducible refine rn_add64 ?_ ?_); focus omega) | ((with_reducible refine rn_neq_f ?_ ?_); focus omega))
  exact hk
theorem step_read {l : List DoR} {i n : Nat} {Q : AV × MM → Prop} {p1 p2 : Nat} {obs : List Ob} {M : MM} {d : DoR} (hd : d.ok) (hll : obs.length ≤ 1000000) (hi : i < 1000) (h : Two M p1 p2 obs obs)
    (hk : ∀ M', Two M' p1 p2 obs obs → Wp (b3_14 call GK.nl 0 (b3_7 call GK.nl 0 n) (.ptr p1 0) (.ptr p2 0) (avDos l) (.i l.length) (.i i) M') Q) :
    Wp (b3_18 call GK.nl 0 (b3_7 call GK.nl 0 n) (.ptr p1 0) (.ptr p2 0) (.agg (d.row.map .d)) (.int .u64 (adr d.object)) (.i 2) (avDos l) (.i l.length) (.i i) (.bool true) M) Q := by
  obtain ⟨L1, L2, sl1, ps, sl2, bw, h1, h2, h3⟩ := h.ex
  have had := adr_ok hd.2.1
  have ha := nr_ok hd.2.2.1
  have hb := nr_ok hd.2.2.2.1
  have pa := near_pc hc hd.2.2.1
  have pb := near_pc hc hd.2.2.2.1
  repeat (first | (with_reducible (first | refine rn_bumpk ?_ | refine rn_puc pa (Cl_i _) ?_ | refine rn_puc pb (Cl_i _) ?_ | refine rn_if_t ?_ | refine rn_fld00 ?_)) | ((with_reducible apply rn_fld); focus exact rfl))
  have b1 : IM L1 (M.bump 14) p1 obs sl1 ps := h1.frame (Nat.le_add_right _ _) fun _ _ => rfl
  refine rn_read hc b1 had hll (fun id hid => ok_lt (h1.dom id hid).1) ha hb ?_
  repeat (first | (with_reducible (first | refine rn_bumpk ?_ | refine rn_puc pa (Cl_i _) ?_ | refine rn_puc pb (Cl_i _) ?_ | refine rn_fld00 ?_)) | ((with_reducible apply rn_fld); focus exact rfl) | (with_reducible (first | refine rn_ext0 ?_ | refine rn_ext1 ?_)))
  have b2 : RM L2 ((M.bump 14).bump 14) p2 obs sl2 bw := h2.frame (by show M.nx ≤ M.nx + 14 + 14; omega) fun _ _ => rfl
  refine rn_rread hc b2 had hll (fun id hid => ok_lt (Nat.lt_of_lt_of_le (h2.dom id hid).1 (Nat.le_add_right _ _))) ha hb ?_
  have hbs : ∀ (m : Mem) (lim : Lm) (bs : List Int), b2sA m lim (RB bs) = some (.str ⟨(bs.map fun b => UInt8.ofNat b.toNat).toArray⟩) := fun m lim bs => by
    have e1 : sliceCells m lim 1 (RB bs) = some (bs.length, (dB bs).map .d) := by
      simp only [RB, sliceCells, Nat.mul_one]
      rw [if_pos (by simp [dB]), List.take_of_length_le (by simp [dB])]
    have e2 : ∀ bs : List Int, bytesA ((dB bs).map .d) = some (bs.map fun b => UInt8.ofNat b.toNat) := by
      intro bs
      induction bs with
      | nil => rfl
      | cons b r ih =>
        show (bytesA ((dB r).map .d)).map _ = _
        rw [ih]; rfl
    simp only [b2sA, e1, e2, Option.map_some]
  repeat (first | ((with_reducible refine rn_gp_ff ?_); with_reducible refine rn_opt (hbs _ _ _) ?_) | (with_reducible (first | refine rn_some ?_ | refine rn_gp_ff ?_ | refine rn_ext0 ?_ | refine rn_ext1 ?_)) | ((with_reducible refine rn_neq_f ?_ ?_); focus omega))
  refine rn_gp_ff (rn_nes (e := .none) ?_)
  rw [beq_self_eq_true]
  repeat (first | (with_reducible (first | refine rn_pf ?_)))
  exact hk _ (h.same rfl (by show M.nx ≤ M.nx + 14 + 14; omega))
omit hc in
theorem eqDs_b : ∀ bs : List Int, eqDs (dB bs) (dB bs) = true
  | [] => rfl
  | b :: r => by
    have := eqDs_b r
    show (eqV (.int .u8 b) (.int .u8 b) && eqDs (dB r) (dB r)) = true
    rw [this]; simp [eqV]
omit hc in
theorem kept_row (d : DoR) (m m' : Mem) : kept m m' (.agg (d.row.map .d)) = true := by
  have := eqDs_b d.data
  simp only [kept, DoR.row, List.map_cons, List.map_nil, eqAs, eqA, eqD, eqV, this, beq_self_eq_true, Bool.and_self, Bool.and_true]
theorem step_write {l : List DoR} {i n : Nat} {Q : AV × MM → Prop} {p1 p2 : Nat} {obs : List Ob} {M : MM} {d : DoR} (hd : d.ok) (hdl : d.data.length ≤ 100) (hll : obs.length ≤ 1000000) (hi : i < 1000) (h : Two M p1 p2 obs obs)
    (hk : ∀ M', Two M' p1 p2 (sWrite obs (adr d.object) (nr d.a) d.data).2 (sWrite obs (adr d.object) (nr d.a) d.data).2 → Wp (b3_14 call GK.nl 0 (b3_7 call GK.nl 0 n) (.ptr p1 0) (.ptr p2 0) (avDos l) (.i l.length) (.i i) M') Q) :
    Wp (b3_17 call GK.nl 0 (b3_7 call GK.nl 0 n) (.ptr p1 0) (.ptr p2 0) (.agg (d.row.map .d)) (.int .u64 (adr d.object)) (.i 1) (avDos l) (.i l.length) (.i i) (.bool true) M) Q := by
  obtain ⟨L1, L2, sl1, ps, sl2, bw, h1, h2, h3⟩ := h.ex
  have had := adr_ok hd.2.1
  have ha := nr_ok hd.2.2.1
  have pa := near_pc hc hd.2.2.1
  have hu := hd.2.2.2.2.2
  repeat (first | (with_reducible (first | refine rn_bumpk ?_ | refine rn_puc pa (Cl_i _) ?_ | refine rn_if_t ?_ | refine rn_fld00 ?_)) | ((with_reducible apply rn_fld); focus exact rfl))
  have hn0 : M.nx + 17 ≤ (M.bump 17).nx := Nat.le_refl _
  have b1 : IM L1 (M.bump 17) p1 obs sl1 ps := h1.frame (Nat.le_add_right _ _) fun _ _ => rfl
  have b2 : RM L2 (M.bump 17) p2 obs sl2 bw := h2.frame (Nat.le_add_right _ _) fun _ _ => rfl
  refine rn_callkD (Q := Pst L1 ⟨(M.bump 17).nx, hideM (.mk M.nx 17 127 true) (M.bump 17).mem⟩ p1 (.i (sWrite obs (adr d.object) (nr d.a) d.data).1) (sWrite obs (adr d.object) (nr d.a) d.data).2) (by kernel_rfl) ?_ (fun x hx => hx.nx) (fun m m' => ?_) (fun v M' hv => ?_)
  · exact write_ok hc (b1.hide fun id hid => (h1.dom id hid).1) had hll (bx_sl d.data) hu (by omega) ha
  · have := kept_row d m m'
    simp only [List.all_cons, List.all_nil, ev, Bool.and_true, Bool.and_eq_true]
    exact ⟨this, this⟩
  · obtain ⟨e, L1', sl1', ps', g1, g2⟩ := b1.back (fun id hid => (h1.dom id hid).1) hn0 hv
    simp only at e g1 g2
    subst e
    generalize hM1 : (⟨M'.nx, backM (.mk M.nx 17 127 true) (M.bump 17).nx (M.bump 17).mem M'.mem⟩ : MM) = M1 at g1 g2 ⊢
    clear hM1
    obtain ⟨g3, g4⟩ := g2.other h3.symm fun id hid => Nat.lt_of_lt_of_le (h2.dom id hid).1 (Nat.le_add_right _ _)
    have c2 := b2.frame g2.nx g3
    have hn1 : M.nx + 17 ≤ M1.nx := g2.nx
    repeat (first | (with_reducible (first | refine rn_puc pa (Cl_i _) ?_ | refine rn_fld00 ?_)) | ((with_reducible apply rn_fld); focus exact rfl))
    refine rn_rwD (Q := Pst2 L2 ⟨M1.nx, hideM (.mk M.nx 17 32767 true) M1.mem⟩ p2 (.i (sWrite obs (adr d.object) (nr d.a) d.data).1) (sWrite obs (adr d.object) (nr d.a) d.data).2) ?_ (fun x hx => hx.nx) (fun v M2 hv => ?_)
    · exact rwrite_ok hc (c2.hide fun id hid => (h2.dom id hid).1) had hll (bx_sl d.data) hu (by omega) ha
    · obtain ⟨e, L2', sl2', bw', k1, k2⟩ := c2.back (fun id hid => (h2.dom id hid).1) hn1 hv
      simp only at e k1 k2
      subst e
      generalize hM3 : (⟨M2.nx, backM (.mk M.nx 17 32767 true) M1.nx M1.mem M2.mem⟩ : MM) = M3 at k1 k2 ⊢
      clear hM3
      obtain ⟨k3, k4⟩ := k2.other g4.symm fun id hid => (g1.dom id hid).1
      repeat (first | (with_reducible (first | refine rn_if_f ?_)) | ((with_reducible refine rn_neq_f ?_ ?_); focus omega))
      exact hk M3 ⟨L1', L2', sl1', ps', sl2', bw', g1.frame k2.nx k3, k1, k4⟩
theorem step_clone {l : List DoR} {i n : Nat} {Q : AV × MM → Prop} {p1 p2 : Nat} {obs : List Ob} {M : MM} {d : DoR} (hd : d.ok) (hB : Bd 1000 obs) (hi : i < 1000) (h : Two M p1 p2 obs obs)
    (hk : ∀ M' p1', Two M' p1' p2 obs obs → Wp (b3_14 call GK.nl 0 (b3_7 call GK.nl 0 n) (.ptr p1' 0) (.ptr p2 0) (avDos l) (.i l.length) (.i i) M') Q) :
    Wp (b3_23 call GK.nl 0 (b3_7 call GK.nl 0 n) (.ptr p1 0) (.ptr p2 0) (.agg (d.row.map .d)) (.int .u64 (adr d.object)) (avDos l) (.i l.length) (.i i) (.bool true) M) Q := by
  obtain ⟨L1, L2, sl1, ps, sl2, bw, h1, h2, h3⟩ := h.ex
  have had := adr_ok hd.2.1
  repeat (first | (with_reducible (first | refine rn_if_t ?_)))
  refine rn_wp (clone_ok hc h1 (by have := hB.1; omega) 0) fun v M1 hv => ?_
  obtain ⟨e, n1, o1, Lc, slc, psc, c1, c2⟩ := hv
  simp only at e n1 o1 c1
  subst e
  repeat (first | (with_reducible (first | refine rn_if_f ?_ | refine rn_eqp1 ?_)))
  -- the clone beside the old memory and the reference's
  have a1 : IM L1 M1 p1 obs sl1 ps := h1.frame n1 fun id hid => o1 id (h1.dom id hid).1
  have a2 : RM L2 M1 p2 obs sl2 bw := h2.frame n1 fun id hid => o1 id (h2.dom id hid).1
  have dj : ∀ L : Nat → Option Tag, (∀ id, L id ≠ none → id < M.nx) → Dj L Lc := fun L hL id hid => by
    cases e : Lc id with
    | none => rfl
    | some t =>
      have g1 := c2 id (by rw [e]; simp)
      have g2 := hL id hid
      omega
  have d1 : Dj Lc L1 := (dj L1 fun id hid => (h1.dom id hid).1).symm
  have d2 : Dj Lc L2 := (dj L2 fun id hid => (h2.dom id hid).1).symm
  -- Make
  refine rn_wp (make_ok hc a1 (by have := hB.1; omega) (size := 3) (count := 3) (by omega) (by omega)) fun v M2 hv => ?_
  obtain ⟨e, L1', sl1', ps', e1, e2⟩ := hv
  simp only at e e1 e2
  subst e
  obtain ⟨f1, f2⟩ := e2.other d1 fun id hid => (c1.dom id hid).1
  obtain ⟨f3, f4⟩ := e2.other h3.symm fun id hid => (a2.dom id hid).1
  have c3 := c1.frame e2.nx f1
  have a3 := a2.frame e2.nx f3
  have hB2 := hB.make 3 3
  generalize (sMake obs 3 3).2.2 = l2 at e1 hB2
  skip
  -- two bytes
  refine rn_bnd (v := .ov M2.nx (dB [9, 9]) 2 1) (M := M2.alloc M2.nx (.tok 5 2)) rfl ?_
  have n3 : M2.nx ≤ (M2.alloc M2.nx (.tok 5 2)).nx := by rw [alloc_nx]; omega
  have k3 : ∀ id, id < M2.nx → (M2.alloc M2.nx (.tok 5 2)).mem id = M2.mem id := fun id hid => alloc_ne _ _ _ _ (by omega)
  have e3 := e1.frame n3 fun id hid => k3 id (e1.dom id hid).1
  have c4 := c3.frame n3 fun id hid => k3 id (c3.dom id hid).1
  have a4 := a3.frame n3 fun id hid => k3 id (a3.dom id hid).1
  generalize M2.alloc M2.nx (.tok 5 2) = M3 at e3 c4 a4 ⊢
  -- Write
  refine rn_wp (write_ok hc e3 had (by have := hB2.1; omega) (bx_ov _ [9, 9]) (fun b hb => by simp at hb; omega) (by simp) (at0 := 0) (by omega)) fun v M4 hv => ?_
  obtain ⟨e, L1'', sl1'', ps'', g1, g2⟩ := hv
  simp only at e g1 g2
  subst e
  obtain ⟨j1, j2⟩ := g2.other f2 fun id hid => (c4.dom id hid).1
  obtain ⟨j3, j4⟩ := g2.other f4 fun id hid => (a4.dom id hid).1
  have c5 := c4.frame g2.nx j1
  have a5 := a4.frame g2.nx j3
  have hB3 := hB2.write (adr d.object) 0 [9, 9]
  generalize (sWrite l2 (adr d.object) 0 [9, 9]).2 = l3 at g1 hB3
  skip
  -- Retain
  refine rn_wp (retain_ok hc g1 had (by have := hB3.1; omega) (fun o ho => by have := hB3.2 o ho; omega)) fun v M5 hv => ?_
  obtain ⟨e, L1r, sl1r, psr, q1, q2⟩ := hv
  simp only at e q1 q2
  subst e
  obtain ⟨r1, r2⟩ := q2.other j2 fun id hid => (c5.dom id hid).1
  obtain ⟨r3, r4⟩ := q2.other j4 fun id hid => (a5.dom id hid).1
  skip
  exact hk M5 M.nx ⟨Lc, L2, slc, psc, sl2, bw, c5.frame q2.nx r1, a5.frame q2.nx r3, d2⟩
end
end Go.Proofs.Ytegkhdflmboljaa.Sx

namespace Go.Proofs.Ytegkhdflmboljaa.Sx
open Go
set_option maxRecDepth 1000000
set_option linter.unusedSimpArgs false
set_option linter.unusedVariables false
set_option linter.unusedSectionVars false
section
variable {call : CallT} (hc : Lim GK call)
include hc
theorem plays_loop (l : List DoR) (hl : l.length ≤ 80) (hok : ∀ d ∈ l, d.ok) (hlt : ∀ d ∈ l, d.data.length ≤ 100) : ∀ (r i n : Nat) (M : MM) (p1 p2 : Nat) (obs : List Ob), i + r = l.length → r < n → Two M p1 p2 obs obs → Bd (i + 1) obs →
    Wp (b3_7 call GK.nl 0 n (.ptr p1 0) (.ptr p2 0) (avDos l) (.i l.length) (.i i) M) fun x => x.1 = .bool true := by
  intro r
  induction r with
  | zero =>
    intro i n M p1 p2 obs hi hn h hB
    obtain ⟨n, rfl⟩ : ∃ k, n = k + 1 := ⟨n - 1, by omega⟩
    unfold b3_7
    repeat (first | (with_reducible (first | refine rn_if_f ?_)) | ((with_reducible refine rn_lss_f ?_ ?_); focus omega))
    refine rn_puc (awake_pc hc) (fun x hx => by cases hx) ?_
    exact rn_done rfl
  | succ r ih =>
    intro i n M p1 p2 obs hi hn h hB
    obtain ⟨n, rfl⟩ : ∃ k, n = k + 1 := ⟨n - 1, by omega⟩
    have hil : i < l.length := by omega
    have hd := rows_drop l i hil
    have hdo := hok _ (List.getElem_mem hil)
    have hdl := hlt _ (List.getElem_mem hil)
    have hrl : (l[i]).row.length = 5 := rfl
    have pd := address_pc hc hdo
    generalize hdd : l[i] = d at hd hdo hdl hrl pd
    have had := adr_ok hdo.2.1
    have ha := nr_ok hdo.2.2.1
    have hb := nr_ok hdo.2.2.2.1
    have pa := near_pc hc hdo.2.2.1
    have pb := near_pc hc hdo.2.2.2.1
    have hL := hB.1
    have nxt : ∀ (M' : MM) (p1' : Nat) (obs' : List Ob), Two M' p1' p2 obs' obs' → Bd (i + 2) obs' → Wp (b3_14 call GK.nl 0 (b3_7 call GK.nl 0 n) (.ptr p1' 0) (.ptr p2 0) (avDos l) (.i l.length) (.i i) M') fun x => x.1 = .bool true := fun M' p1' obs' h' hB' =>
      tail_ok hc (by have := hB'.1; omega) (by omega) h' (ih (i + 1) n M' p1' p2 obs' (by omega) (by omega) h' hB')
    have hk64 := hdo.1
    unfold i64 at hk64
    unfold b3_7
    simp only [avDos]
    repeat (first | (with_reducible (first | refine rn_if_t ?_)) | ((with_reducible refine rn_lss_t ?_ ?_); focus omega) | ((with_reducible refine rn_ixsl ?_ ?_); focus omega))
    rw [show ((i : Nat) : Int).toNat * 5 = i * 5 by omega, hd]
    refine rn_ldni (cs := d.row.map .d) (by rw [List.length_append]; omega) (by rw [List.take_append_of_le_length (by omega), List.take_of_length_le (by omega)]) ?_
    repeat (first | (with_reducible (first | refine rn_upk ?_)) | ((with_reducible refine rn_setcall ?_ ?_ ?_ ?_); (focus exact rfl); (focus exact rfl); (focus exact rfl)) | (with_reducible (first | refine rn_puc pd (Cl_row _) ?_ | refine rn_fld00 ?_)) | ((with_reducible apply rn_fld); focus exact rfl) | ((with_reducible refine rn_fldall ?_ ?_); focus exact rfl) | ((with_reducible refine rn_setcall ?_ ?_ ?_ ?_); (focus exact rfl); (focus exact rfl); (focus exact rfl)) | ((with_reducible refine rn_rem ?_ ?_); focus omega))
    have h0 : Two (M.up M.nx) p1 p2 obs obs := h.same rfl (Nat.le_max_left _ _)
    generalize M.up M.nx = M0 at h0 ⊢
    by_cases c1 : d.kind.tmod 8 = 1
    · rw [c1]
      repeat (first | (with_reducible (first | refine rn_if_t ?_)) | ((with_reducible refine rn_eql_t ?_ ?_); focus omega))
      exact step_write hc hdo hdl (by omega) (by omega) h0 fun M' h' => nxt M' p1 _ h' (hB.write _ _ _)
    by_cases c2 : d.kind.tmod 8 = 2
    · rw [c2]
      with_reducible refine rn_eql_f (by omega) ?_
      with_reducible refine rn_if_f ?_
      with_reducible refine rn_eql_t rfl ?_
      exact step_read hc hdo (by omega) (by omega) h0 fun M' h' => nxt M' p1 _ h' (hB.mono (by omega))
    by_cases c3 : d.kind.tmod 8 = 3
    · rw [c3]
      repeat (first | (with_reducible (first | refine rn_if_t ?_ | refine rn_if_f ?_)) | ((with_reducible refine rn_eql_t ?_ ?_); focus omega) | ((with_reducible refine rn_eql_f ?_ ?_); focus omega))
      refine h0.impl (fun L1 sl1 ps g => retain_ok hc g had (by omega) (fun o ho => by have := hB.2 o ho; omega)) fun M1 h1 => ?_
      refine h1.ref (fun L2 sl2 bw g => rretain_ok hc g had (by omega) (fun o ho => by have := hB.2 o ho; omega)) fun M2 h2 => ?_
      repeat (first | (with_reducible (first | refine rn_if_f ?_)) | ((with_reducible refine rn_neq_f ?_ ?_); focus omega))
      exact nxt M2 p1 _ h2 (hB.retain _)
    by_cases c4 : d.kind.tmod 8 = 4
    · rw [c4]
      repeat (first | (with_reducible (first | refine rn_if_t ?_ | refine rn_if_f ?_)) | ((with_reducible refine rn_eql_t ?_ ?_); focus omega) | ((with_reducible refine rn_eql_f ?_ ?_); focus omega))
      refine h0.impl (fun L1 sl1 ps g => release_ok hc g had (by omega) (fun o ho => by have := hB.2 o ho; omega)) fun M1 h1 => ?_
      repeat (first | (with_reducible (first | refine rn_ext0 ?_ | refine rn_ext1 ?_)))
      refine h1.ref (fun L2 sl2 bw g => rrelease_ok hc g had (by omega) (fun o ho => by have := hB.2 o ho; omega)) fun M2 h2 => ?_
      repeat (first | (with_reducible (first | refine rn_some ?_ | refine rn_if_f ?_ | refine rn_gp_ff ?_ | refine rn_pf ?_ | refine rn_ext0 ?_ | refine rn_ext1 ?_)) | ((with_reducible refine rn_neq_f ?_ ?_); focus omega))
      exact nxt M2 p1 _ h2 (hB.release _)
    by_cases c5 : d.kind.tmod 8 = 5
    · rw [c5]
      repeat (first | (with_reducible (first | refine rn_if_t ?_ | refine rn_if_f ?_)) | ((with_reducible refine rn_eql_t ?_ ?_); focus omega) | ((with_reducible refine rn_eql_f ?_ ?_); focus omega))
      refine h0.impl (fun L1 sl1 ps g => free_ok hc g had (by omega) (fun o ho => by have := hB.2 o ho; omega)) fun M1 h1 => ?_
      refine h1.ref (fun L2 sl2 bw g => rfree_ok hc g had (by omega) (fun o ho => by have := hB.2 o ho; omega)) fun M2 h2 => ?_
      repeat (first | (with_reducible (first | refine rn_if_f ?_)) | ((with_reducible refine rn_neq_f ?_ ?_); focus omega))
      exact nxt M2 p1 _ h2 (hB.free _)
    by_cases c6 : d.kind.tmod 8 = 6
    · rw [c6]
      obtain ⟨L1, L2, sl1, ps, sl2, bw, h1, h2, h3⟩ := h0.ex
      repeat (first | (with_reducible (first | refine rn_if_t ?_ | refine rn_if_f ?_)) | ((with_reducible refine rn_eql_t ?_ ?_); focus omega) | ((with_reducible refine rn_eql_f ?_ ?_); focus omega))
      refine rn_roE (size_ok hc (h1.look h1.oks) had (by omega) M0.nx) (fun x hx => hx) (v' := .tup [.i (sSize obs (adr d.object)).1, .i (sSize obs (adr d.object)).2.1, .i (sSize obs (adr d.object)).2.2]) (fun m => by simp only [freeze, List.mapM_cons, List.mapM_nil, freezeA, freeze1, freezeD, Option.pure_def, Option.bind_eq_bind, Option.bind_some, Option.map_some, normD]) ?_
      repeat (first | (with_reducible (first | refine rn_ext0 ?_ | refine rn_ext1 ?_ | refine rn_ext2 ?_)))
      refine rn_roE (rsize_ok hc (h2.look h2.oks) had (by omega) M0.nx) (fun x hx => hx) (v' := .tup [.i (sSize obs (adr d.object)).1, .i (sSize obs (adr d.object)).2.1, .i (sSize obs (adr d.object)).2.2]) (fun m => by simp only [freeze, List.mapM_cons, List.mapM_nil, freezeA, freeze1, freezeD, Option.pure_def, Option.bind_eq_bind, Option.bind_some, Option.map_some, normD]) ?_
      repeat (first | (with_reducible (first | refine rn_ext0 ?_ | refine rn_ext1 ?_ | refine rn_ext2 ?_)))
      refine rn_roE (refs_ok hc (h1.look h1.oks) had (by omega) M0.nx) (fun x hx => hx) (v' := .tup [.i (sRefs obs (adr d.object)).1, .i (sRefs obs (adr d.object)).2]) (fun m => by simp only [freeze, List.mapM_cons, List.mapM_nil, freezeA, freeze1, freezeD, Option.pure_def, Option.bind_eq_bind, Option.bind_some, Option.map_some, normD]) ?_
      repeat (first | (with_reducible (first | refine rn_ext0 ?_ | refine rn_ext1 ?_)))
      refine rn_roE (rrefs_ok hc (h2.look h2.oks) had (by omega) M0.nx) (fun x hx => hx) (v' := .tup [.i (sRefs obs (adr d.object)).1, .i (sRefs obs (adr d.object)).2]) (fun m => by simp only [freeze, List.mapM_cons, List.mapM_nil, freezeA, freeze1, freezeD, Option.pure_def, Option.bind_eq_bind, Option.bind_some, Option.map_some, normD]) ?_
      repeat (first | (with_reducible (first | refine rn_some ?_ | refine rn_if_f ?_ | refine rn_gp_ff ?_ | refine rn_pf ?_ | refine rn_ext0 ?_ | refine rn_ext1 ?_)) | ((with_reducible refine rn_neq_f ?_ ?_); focus omega))
      exact nxt M0 p1 _ h0 (hB.mono (by omega))
    by_cases c7 : d.kind.tmod 8 = 7
    · rw [c7]
      repeat (first | (with_reducible (first | refine rn_if_t ?_ | refine rn_if_f ?_)) | ((with_reducible refine rn_eql_t ?_ ?_); focus omega) | ((with_reducible refine rn_eql_f ?_ ?_); focus omega))
      exact step_clone hc hdo (hB.mono (by omega)) (by omega) h0 fun M' p1' h' => nxt M' p1' _ h' (hB.mono (by omega))
    · repeat (first | (with_reducible (first | refine rn_bumpk ?_ | refine rn_puc pa (Cl_i _) ?_ | refine rn_puc pb (Cl_i _) ?_ | refine rn_if_f ?_ | refine rn_fld00 ?_)) | ((with_reducible apply rn_fld); focus exact rfl) | ((with_reducible refine rn_eql_f ?_ ?_); focus omega))
      have h1 : Two (M0.bump 8) p1 p2 obs obs := h0.same rfl (Nat.le_add_right _ _)
      generalize M0.bump 8 = M1 at h1 ⊢
      have mk : ∀ size : Int, i64 size → Wp (b3_25 call GK.nl 0 (b3_7 call GK.nl 0 n) (.ptr p1 0) (.ptr p2 0) (.i size) (.i (nr d.b)) (avDos l) (.i l.length) (.i i) M1) fun x => x.1 = .bool true := fun size hs => by
        refine h1.impl (fun L1 sl1 ps g => make_ok hc g (by omega) hs hb) fun M2 h2 => ?_
        repeat (first | (with_reducible (first | refine rn_ext0 ?_ | refine rn_ext1 ?_)))
        refine h2.ref (fun L2 sl2 bw g => rmake_ok hc g (by omega) hs hb) fun M3 h3 => ?_
        repeat (first | (with_reducible (first | refine rn_some ?_ | refine rn_if_f ?_ | refine rn_gp_ff ?_ | refine rn_pf ?_ | refine rn_ext0 ?_ | refine rn_ext1 ?_)) | ((with_reducible refine rn_neq_f ?_ ?_); focus omega))
        exact nxt M3 p1 _ h3 (hB.make _ _)
      by_cases c8 : nr d.a > 4096
      · repeat (first | (with_reducible (first | refine rn_if_t ?_)) | ((with_reducible refine rn_gtr_t ?_ ?_); focus omega))
        exact mk 4194305 ⟨by omega, by omega⟩
      · repeat (first | (with_reducible (first | refine rn_if_f ?_)) | ((with_reducible refine rn_gtr_f ?_ ?_); focus omega))
        exact mk (nr d.a) ha
theorem plays_wp (l : List DoR) (hl : l.length ≤ 9223372036854775807) (hok : ∀ d ∈ l, d.ok) (M : MM) : Wp (call 3 [avDos l] 0 M) fun x => x.1 = .bool true := by
  have hcl : ∀ x ∈ [avDos l], Cl x := fun x hx => by
    simp only [List.mem_singleton] at hx; subst hx; exact ⟨rfl, rfl⟩
  rw [q3 hc]; unfold s3
  repeat (first | (with_reducible (first | refine rn_puc (light_pc hc l hl hok) hcl ?_)))
  cases c : lightF l with
  | false =>
    repeat (first | (with_reducible (first | refine rn_if_t ?_ | refine rn_not_f ?_)))
    refine rn_puc (awake_pc hc) (fun x hx => by cases hx) ?_
    exact rn_done rfl
  | true =>
    unfold lightF at c
    rw [Bool.and_eq_true, decide_eq_true_eq, List.all_eq_true] at c
    obtain ⟨c1, c2⟩ := c
    repeat (first | (with_reducible (first | refine rn_if_f ?_ | refine rn_not_t ?_)))
    refine rn_wp (new_ok hc 0 M) fun v M1 hv => ?_
    obtain ⟨e, n1, o1, g1⟩ := hv
    simp only at e n1 o1 g1
    subst e
    refine rn_wp (rnew_ok hc 0 M1) fun v M2 hv => ?_
    obtain ⟨e, n2, o2, g2⟩ := hv
    simp only at e n2 o2 g2
    subst e
    have g3 := g1.frame n2 fun id hid => o2 id (g1.dom id hid).1
    repeat (first | (with_reducible (first | refine rn_if_f ?_ | refine rn_eqp1 ?_)))
    have := plays_loop hc l c1 hok (fun d hd => by simpa using c2 d hd) l.length 0 GK.nl M2 M.nx M1.nx [] (by omega) (by show _ < 18446744073709551616; omega)
      ⟨_, _, _, _, _, _, g3, g2, fun id hid => by
        have h1 := (g1.dom id hid).1
        simp only [tag1]; rw [if_neg (by omega)]⟩ ⟨by simp, fun o ho => by cases ho⟩
    exact this
end
theorem plays_law (e0 : D) (td : TD Try.prog 22 [e0]) : ∃ N M', acall GK N 3 [.d e0] 0 ⟨0, fun _ => none⟩ = some (.bool true, M') := by
  obtain ⟨l, h1, h2, h3⟩ := dos_of td
  rw [h3]
  refine Lim.law fun call hc => ?_
  obtain ⟨⟨v, M'⟩, e, q⟩ := plays_wp hc l h1 h2 ⟨0, fun _ => none⟩
  simp only at q; subst q
  exact ⟨M', e⟩
end Go.Proofs.Ytegkhdflmboljaa.Sx
