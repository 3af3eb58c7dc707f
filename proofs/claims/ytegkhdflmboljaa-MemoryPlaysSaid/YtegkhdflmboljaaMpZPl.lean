/- THE REFERENCE's MEMORY: find, Retain, Release, Free, Size, References. -/
import Derived.Test.YtegkhdflmboljaaMpWPl
namespace Go.Proofs.Ytegkhdflmboljaa.Sx
open Go
set_option maxRecDepth 1000000
set_option linter.unusedSimpArgs false
set_option linter.unusedVariables false
set_option linter.unusedSectionVars false
def rcell (o : Ob) (b w : Nat) : List AV := if o.alive then [.bool true, .i o.count, .i o.refs, .os b 0 o.size 1, .os w 0 o.size 1] else [.bool false, .i 0, .i 0, .nilsl, .nilsl]
def rflat : List Ob → List (Nat × Nat) → List AV
  | o :: l, b :: bw => rcell o b.1 b.2 ++ rflat l bw
  | _, _ => []
theorem rcell_len (o : Ob) (b w : Nat) : (rcell o b w).length = 5 := by unfold rcell; split <;> rfl
theorem rflat_len : ∀ (l : List Ob) (bw : List (Nat × Nat)), bw.length = l.length → (rflat l bw).length = l.length * 5
  | [], [], _ => rfl
  | o :: l, b :: bw, h => by
    have := rflat_len l bw (by simpa using h)
    simp only [rflat, List.length_append, rcell_len, this, List.length_cons]; omega
  | [], b :: bw, h => by simp at h
  | o :: l, [], h => by simp at h
theorem rflat_get : ∀ (l : List Ob) (bw : List (Nat × Nat)) (i j : Nat) (o : Ob) (b : Nat × Nat), l[i]? = some o → bw[i]? = some b → j < 5 → (rflat l bw)[i * 5 + j]? = (rcell o b.1 b.2)[j]?
  | [], _, i, j, o, b, h, _, _ => by simp at h
  | _ :: _, [], i, j, o, b, _, h, _ => by simp at h
  | x :: l, y :: bw, 0, j, o, b, h1, h2, hj => by
    simp only [List.getElem?_cons_zero, Option.some.injEq] at h1 h2; subst h1 h2
    simp only [rflat]
    rw [List.getElem?_append_left (by rw [rcell_len]; omega), Nat.zero_mul, Nat.zero_add]
  | x :: l, y :: bw, i + 1, j, o, b, h1, h2, hj => by
    have := rflat_get l bw i j o b (by simpa using h1) (by simpa using h2) hj
    simp only [rflat]
    rw [List.getElem?_append_right (by rw [rcell_len]; omega), rcell_len, ← this]
    congr 1; omega
theorem rflat_set : ∀ (l : List Ob) (bw : List (Nat × Nat)) (i j : Nat) (o o' : Ob) (b : Nat × Nat) (x : AV), l[i]? = some o → bw[i]? = some b → j < 5 → (rcell o b.1 b.2).set j x = rcell o' b.1 b.2 → (rflat l bw).set (i * 5 + j) x = rflat (l.set i o') bw
  | [], _, i, j, o, o', b, x, h, _, _, _ => by simp at h
  | _ :: _, [], i, j, o, o', b, x, _, h, _, _ => by simp at h
  | z :: l, y :: bw, 0, j, o, o', b, x, h1, h2, hj, he => by
    simp only [List.getElem?_cons_zero, Option.some.injEq] at h1 h2; subst h1 h2
    simp only [rflat, List.set_cons_zero]
    rw [List.set_append_left _ _ (by rw [rcell_len]; omega), Nat.zero_mul, Nat.zero_add, he]
  | z :: l, y :: bw, i + 1, j, o, o', b, x, h1, h2, hj, he => by
    have := rflat_set l bw i j o o' b x (by simpa using h1) (by simpa using h2) hj he
    simp only [rflat, List.set_cons_succ]
    rw [List.set_append_right _ _ (by rw [rcell_len]; omega), rcell_len, ← this]
    congr 2; omega
theorem rflat_setAt : ∀ (l : List Ob) (bw : List (Nat × Nat)) (i : Nat) (o o' : Ob) (b : Nat × Nat), l[i]? = some o → bw[i]? = some b → setAt (rflat l bw) (i * 5) (rcell o' b.1 b.2) = rflat (l.set i o') bw
  | [], _, i, o, o', b, h, _ => by simp at h
  | _ :: _, [], i, o, o', b, _, h => by simp at h
  | z :: l, y :: bw, 0, o, o', b, h1, h2 => by
    simp only [List.getElem?_cons_zero, Option.some.injEq] at h1 h2; subst h1 h2
    simp only [rflat, List.set_cons_zero, setAt, Nat.zero_mul, List.take_zero, List.nil_append, Nat.zero_add, rcell_len]
    congr 1
    rw [List.drop_append_of_le_length (by rw [rcell_len]; exact Nat.le_refl _), List.drop_of_length_le (by rw [rcell_len]; exact Nat.le_refl _), List.nil_append]
  | z :: l, y :: bw, i + 1, o, o', b, h1, h2 => by
    have := rflat_setAt l bw i o o' b (by simpa using h1) (by simpa using h2)
    simp only [setAt, rcell_len] at this ⊢
    simp only [rflat, List.set_cons_succ, ← this]
    have e1 : (i + 1) * 5 = (rcell z y.1 y.2).length + i * 5 := by rw [rcell_len]; omega
    have e2 : (i + 1) * 5 + 5 = (rcell z y.1 y.2).length + (i * 5 + 5) := by rw [rcell_len]; omega
    rw [e2, e1, List.take_length_add_append, List.drop_length_add_append, List.append_assoc, List.append_assoc, List.append_assoc]
theorem rflat_append : ∀ (l : List Ob) (bw : List (Nat × Nat)) (o : Ob) (b : Nat × Nat), bw.length = l.length → rflat (l ++ [o]) (bw ++ [b]) = rflat l bw ++ rcell o b.1 b.2
  | [], [], o, b, _ => by simp [rflat]
  | x :: l, y :: bw, o, b, h => by
    have := rflat_append l bw o b (by simpa using h)
    simp only [List.cons_append, rflat, this, List.append_assoc]
  | [], y :: bw, o, b, h => by simp at h
  | x :: l, [], o, b, h => by simp at h
def BW (f : Nat → Option Int) (n : Nat) (bs ws : List AV) : Prop := bs.length = n ∧ ws.length = n ∧ ∀ x, x < n → match f x with
  | some v => bs[x]? = some (.int .u8 v) ∧ ws[x]? = some (.bool true)
  | none => ws[x]? = some (.bool false)
/-- The reference's memory. -/
structure RM (L : Nat → Option Tag) (M : MM) (p : Nat) (l : List Ob) (sl : AV) (bw : List (Nat × Nat)) : Prop where
  dom : ∀ id, L id ≠ none → id < M.nx ∧ M.mem id ≠ none
  len : bw.length = l.length
  rl : L p = some .root
  root : M.mem p = some (.cells 52 [sl])
  sli : (sl = .nilsl ∧ l = []) ∨ ∃ sid, sl = .os sid 0 l.length 5 ∧ L sid = some .sl ∧ M.mem sid = some (.cells 68 (rflat l bw))
  obs : ∀ i o b, l[i]? = some o → bw[i]? = some b → o.alive = true → o.size ≤ 4194304 ∧ L b.1 = some (.ob i) ∧ L b.2 = some (.ck i) ∧ ∃ bs ws, M.mem b.1 = some (.cells 5 bs) ∧ M.mem b.2 = some (.cells 4 ws) ∧ BW o.f o.size bs ws
def Pst2 (L : Nat → Option Tag) (M : MM) (p : Nat) (r : AV) (l' : List Ob) : AV × MM → Prop := fun x => x.1 = r ∧ ∃ L' sl' bw', RM L' x.2 p l' sl' bw' ∧ Gr L L' M x.2
section
variable {L : Nat → Option Tag} {M : MM} {p : Nat} {l : List Ob} {sl : AV} {bw : List (Nat × Nat)}
theorem RM.plt (h : RM L M p l sl bw) : p < M.nx := (h.dom p (by rw [h.rl]; simp)).1
theorem RM.oks (h : RM L M p l sl bw) : ∀ id, L id ≠ none → (Lm.top M.nx).ok id = true := fun id hid => ok_top.2 (h.dom id hid).1
theorem RM.frame (h : RM L M p l sl bw) {M' : MM} (hn : M.nx ≤ M'.nx) (hm : ∀ id, L id ≠ none → M'.mem id = M.mem id) : RM L M' p l sl bw where
  dom id hid := ⟨Nat.lt_of_lt_of_le (h.dom id hid).1 hn, by rw [hm id hid]; exact (h.dom id hid).2⟩
  len := h.len
  rl := h.rl
  root := by rw [hm p (by rw [h.rl]; simp)]; exact h.root
  sli := by
    rcases h.sli with h1 | ⟨sid, h1, h2, h3⟩
    · exact .inl h1
    · exact .inr ⟨sid, h1, h2, by rw [hm sid (by rw [h2]; simp)]; exact h3⟩
  obs i o b h1 h2 ha := by
    obtain ⟨g1, g2, g3, bs, ws, g4, g5, g6⟩ := h.obs i o b h1 h2 ha
    exact ⟨g1, g2, g3, bs, ws, by rw [hm _ (by rw [g2]; simp)]; exact g4, by rw [hm _ (by rw [g3]; simp)]; exact g5, g6⟩
theorem RM.look (h : RM L M p l sl bw) {lim : Lm} (hl : ∀ id, L id ≠ none → lim.ok id = true) : RM L ⟨M.nx, look M.mem lim⟩ p l sl bw :=
  h.frame (Nat.le_refl _) fun id hid => by simp only [Sx.look, hl id hid, if_true]
theorem Pst2.same (h : RM L M p l sl bw) {r : AV} {M' : MM} (hm : M'.mem = M.mem) (hn : M.nx ≤ M'.nx) : Pst2 L M p r l (r, M') :=
  ⟨rfl, L, sl, bw, h.frame hn fun _ _ => by rw [hm], ⟨hn, fun _ h => .inl h, fun _ _ _ => by rw [hm]⟩⟩
theorem RM.at (h : RM L M p l sl bw) {k : Nat} {o : Ob} (hk : l[k]? = some o) : ∃ b sid, bw[k]? = some b ∧ sl = .os sid 0 l.length 5 ∧ sid < M.nx ∧ M.mem sid = some (.cells 68 (rflat l bw)) ∧ L sid = some .sl ∧ sid ≠ p ∧ k < l.length ∧ ∀ j, j < 5 → (rflat l bw)[k * 5 + j]? = (rcell o b.1 b.2)[j]? := by
  have hkl : k < l.length := by
    rcases Nat.lt_or_ge k l.length with e | e
    · exact e
    · rw [List.getElem?_eq_none e] at hk; cases hk
  have hl := h.len
  have hb : bw[k]? = some (bw[k]'(by omega)) := List.getElem?_eq_getElem _
  rcases h.sli with ⟨_, e⟩ | ⟨sid, e1, e2, e3⟩
  · rw [e] at hkl; simp at hkl
  · exact ⟨_, sid, hb, e1, (h.dom _ (by rw [e2]; simp)).1, e3, e2, (fun e => by rw [e, h.rl] at e2; cases e2), hkl, fun j hj => rflat_get _ _ _ _ _ _ hk hb hj⟩
theorem RM.putOb (h : RM L M p l sl bw) {k sid : Nat} {o o' : Ob} {b : Nat × Nat} (hk : l[k]? = some o) (hb : bw[k]? = some b) (hsl : sl = .os sid 0 l.length 5) (hLs : L sid = some .sl) (ho : o'.alive = true → o.alive = true ∧ o'.f = o.f ∧ o'.size = o.size) {M' : MM}
    (e : M.put sid (.cells 68 (rflat (l.set k o') bw)) = M') : RM L M' p (l.set k o') sl bw ∧ Gr L L M M' := by
  subst e
  have hne : ∀ id, id ≠ sid → (M.put sid (.cells 68 (rflat (l.set k o') bw))).mem id = M.mem id := fun id hid => put_ne _ _ _ _ hid
  have hps : p ≠ sid := fun e => by have := h.rl; rw [e, hLs] at this; cases this
  refine ⟨⟨fun id hid => ⟨(h.dom id hid).1, ?_⟩, by rw [h.len, List.length_set], h.rl, by rw [hne p hps]; exact h.root, .inr ⟨sid, by rw [hsl, List.length_set], hLs, put_same _ _ _⟩, fun i o2 b2 h1 h2 ha => ?_⟩, ⟨Nat.le_refl _, fun id h => .inl h, fun id _ hid => hne id fun e => by rw [e, hLs] at hid; cases hid⟩⟩
  · by_cases e : id = sid
    · rw [e, put_same]; simp
    · rw [hne id e]; exact (h.dom id hid).2
  · have key : ∀ o3 : Ob, l[i]? = some o3 → o3.alive = true → o2.f = o3.f → o2.size = o3.size → o2.size ≤ 4194304 ∧ L b2.1 = some (.ob i) ∧ L b2.2 = some (.ck i) ∧ ∃ bs ws, (M.put sid (.cells 68 (rflat (l.set k o') bw))).mem b2.1 = some (.cells 5 bs) ∧ (M.put sid (.cells 68 (rflat (l.set k o') bw))).mem b2.2 = some (.cells 4 ws) ∧ BW o2.f o2.size bs ws := fun o3 g1 g2 g3 g4 => by
      obtain ⟨q1, q2, q3, bs, ws, q4, q5, q6⟩ := h.obs i o3 b2 g1 h2 g2
      have n1 : b2.1 ≠ sid := fun e => by rw [e, hLs] at q2; cases q2
      have n2 : b2.2 ≠ sid := fun e => by rw [e, hLs] at q3; cases q3
      exact ⟨by rw [g4]; exact q1, q2, q3, bs, ws, by rw [hne _ n1]; exact q4, by rw [hne _ n2]; exact q5, by rw [g3, g4]; exact q6⟩
    by_cases e : i = k
    · subst e
      rw [List.getElem?_set_self (by rcases Nat.lt_or_ge i l.length with e | e; exact e; rw [List.getElem?_eq_none e] at hk; cases hk)] at h1
      injection h1 with h1; subst h1
      obtain ⟨g1, g2, g3⟩ := ho ha
      exact key o hk g1 g2 g3
    · rw [List.getElem?_set_ne (fun e2 => e e2.symm)] at h1
      exact key o2 h1 ha rfl rfl
def rfnd (l : List Ob) (a : Int) : Int := match fnd l a with
  | none => -1
  | some (k, _) => k
variable {call : CallT} (hc : Lim GK call)
include hc
theorem rfind_ok (h : RM L M p l sl bw) {a : Int} (ha : 0 ≤ a ∧ a ≤ 18446744073709551615) (hl : l.length ≤ 1000000) (lo : Nat) : Wp (call 31 [.ptr p 0, .int .u64 a] lo M) (Ans (.i (rfnd l a)) M) := by
  have hrem : a.tmod 8 = a % 8 := Int.tmod_eq_emod_of_nonneg ha.1
  have hp := h.plt
  have hr := h.root
  rw [q31 hc]; unfold s31
  rcases addr_cases l a ha.1 with c | ⟨c1, c⟩ | ⟨c1, c2, c⟩ | ⟨k, o, hk, c, hkl⟩
  · subst c
    repeat (first | (with_reducible (first | refine rn_if_t ?_ | refine rn_gp_tf ?_ | refine rn_pt ?_)) | ((with_reducible refine rn_eql_t ?_ ?_); focus omega))
    exact rn_ans' (by rw [rfnd, fnd_none (.inl rfl)])
  · repeat (first | rw [hrem] | (with_reducible (first | refine rn_some ?_ | refine rn_if_t ?_ | refine rn_gp_ff ?_ | refine rn_gp_tf ?_ | refine rn_pt ?_ | refine rn_pf ?_)) | ((with_reducible refine rn_rem ?_ ?_); focus omega) | ((with_reducible refine rn_eql_f ?_ ?_); focus omega) | ((with_reducible refine rn_neq_t ?_ ?_); focus omega))
    exact rn_ans' (by rw [rfnd, fnd_none (.inr (.inl c))])
  · have hsl : lenA sl = some (.i l.length) := by
      rcases h.sli with ⟨e1, e2⟩ | ⟨sid, e1, _⟩
      · rw [e1, e2]; rfl
      · rw [e1]; rfl
    repeat (first | rw [hrem] | ((with_reducible apply rn_ld (ok_top.2 hp) hr); focus exact rfl) | ((with_reducible refine rn_gp_ff ?_); with_reducible refine rn_opt hsl ?_) | (with_reducible (first | refine rn_some ?_ | refine rn_if_t ?_ | refine rn_gp_ff ?_ | refine rn_gp_tf ?_ | refine rn_pt ?_ | refine rn_pf ?_ | refine rn_nilc ?_ | refine rn_fad ?_)) | ((with_reducible refine rn_rem ?_ ?_); focus omega) | ((with_reducible refine rn_quou ?_ ?_); focus omega) | ((with_reducible refine rn_eql_f ?_ ?_); focus omega) | ((with_reducible refine rn_neq_f ?_ ?_); focus omega) | ((with_reducible refine rn_gtr_t ?_ ?_); focus omega) | ((with_reducible refine rn_cviu ?_ ?_); focus omega))
    exact rn_ans' (by rw [rfnd, fnd_none (.inr (.inr c))])
  · obtain ⟨b, sid, hb, rfl, hsid, hsm, hLs, _, _, hget⟩ := h.at hk
    have c1 : a ≠ 0 := by omega
    have c2 : a % 8 = 0 := by omega
    have c3 : a / 8 = (k : Int) + 1 := by omega
    have e1 : fnd l a = if o.alive then some (k, o) else none := by rw [c]; exact fnd_of hk
    have hal : (rflat l bw)[0 + ((k : Int) + 1 - 1).toNat * 5 + 0]? = some (.bool o.alive) := by
      have : 0 + ((k : Int) + 1 - 1).toNat * 5 + 0 = k * 5 + 0 := by omega
      rw [this, hget 0 (by omega), rcell]
      cases o.alive <;> rfl
    cases ho : o.alive with
    | true =>
      rw [ho] at hal e1
      repeat (first | rw [hrem] | rw [c3] | ((with_reducible apply rn_ld (ok_top.2 hp) hr); focus exact rfl) | (with_reducible (first | apply rn_ld (ok_top.2 hsid) hsm hal ?_ | refine rn_some ?_ | refine rn_if_f ?_ | refine rn_gp_ff ?_ | refine rn_pf ?_ | refine rn_not_t ?_ | refine rn_len_os ?_ | refine rn_nilc ?_ | refine rn_fad ?_)) | ((with_reducible refine rn_sub64 ?_ ?_); focus omega) | ((with_reducible refine rn_subu ?_ ?_); focus omega) | ((with_reducible refine rn_rem ?_ ?_); focus omega) | ((with_reducible refine rn_quou ?_ ?_); focus omega) | ((with_reducible refine rn_eql_f ?_ ?_); focus omega) | ((with_reducible refine rn_neq_f ?_ ?_); focus omega) | ((with_reducible refine rn_gtr_f ?_ ?_); focus omega) | ((with_reducible refine rn_cvi64 ?_ ?_); focus omega) | ((with_reducible refine rn_cviu ?_ ?_); focus omega) | ((with_reducible refine rn_ixs ?_ ?_); focus omega))
      exact rn_ans' (by rw [rfnd, e1]; simp only [if_true]; congr 1; omega)
    | false =>
      rw [ho] at hal e1
      repeat (first | rw [hrem] | rw [c3] | ((with_reducible apply rn_ld (ok_top.2 hp) hr); focus exact rfl) | (with_reducible (first | apply rn_ld (ok_top.2 hsid) hsm hal ?_ | refine rn_some ?_ | refine rn_if_t ?_ | refine rn_gp_ff ?_ | refine rn_pf ?_ | refine rn_not_f ?_ | refine rn_len_os ?_ | refine rn_nilc ?_ | refine rn_fad ?_)) | ((with_reducible refine rn_subu ?_ ?_); focus omega) | ((with_reducible refine rn_rem ?_ ?_); focus omega) | ((with_reducible refine rn_quou ?_ ?_); focus omega) | ((with_reducible refine rn_eql_f ?_ ?_); focus omega) | ((with_reducible refine rn_neq_f ?_ ?_); focus omega) | ((with_reducible refine rn_gtr_f ?_ ?_); focus omega) | ((with_reducible refine rn_cviu ?_ ?_); focus omega) | ((with_reducible refine rn_ixs ?_ ?_); focus omega))
      exact rn_ans' (by rw [rfnd, e1]; rfl)
theorem rn_rfind {R : Type} {r : R → Prop} {lim : Lm} {k : AV → Option R} (h : RM L M p l sl bw) {a : Int} (ha : 0 ≤ a ∧ a ≤ 18446744073709551615) (hl : l.length ≤ 1000000) (hlim : ∀ id, L id ≠ none → lim.ok id = true)
    (h1 : fnd l a = none → Wp (k (.i (-1))) r) (h2 : ∀ (i : Nat) (o : Ob), fnd l a = some (i, o) → l[i]? = some o → o.alive = true → i < l.length → Wp (k (.i i)) r) : Wp (opt (roA call lim 31 [.ptr p 0, .int .u64 a] M) k) r := by
  have hf := rfind_ok hc (h.look hlim) ha hl M.nx
  cases e : fnd l a with
  | none =>
    refine rn_roE hf (fun x hx => hx.1) (v' := .i (-1)) (fun m => ?_) (h1 e)
    rw [rfnd, e]; rfl
  | some io =>
    obtain ⟨i, o⟩ := io
    obtain ⟨e1, e2, e3⟩ := fnd_some ha.1 e
    refine rn_roE hf (fun x hx => hx.1) (v' := .i i) (fun m => ?_) (h2 i o e e1 e2 (by
      rcases Nat.lt_or_ge i l.length with e | e
      · exact e
      · rw [List.getElem?_eq_none e] at e1; cases e1))
    rw [rfnd, e]; rfl
end
end Go.Proofs.Ytegkhdflmboljaa.Sx

namespace Go.Proofs.Ytegkhdflmboljaa.Sx
open Go
set_option maxRecDepth 1000000
set_option linter.unusedSimpArgs false
set_option linter.unusedVariables false
set_option linter.unusedSectionVars false
section
variable {L : Nat → Option Tag} {M : MM} {p : Nat} {l : List Ob} {sl : AV} {bw : List (Nat × Nat)}
theorem rcell_t {o : Ob} (h : o.alive = true) (b w : Nat) : rcell o b w = [.bool true, .i o.count, .i o.refs, .os b 0 o.size 1, .os w 0 o.size 1] := by rw [rcell, if_pos h]
theorem RM.cell (h : RM L M p l sl bw) {k sid : Nat} {o : Ob} {b : Nat × Nat} (hal : o.alive = true) (hget : ∀ j, j < 5 → (rflat l bw)[k * 5 + j]? = (rcell o b.1 b.2)[j]?) (j : Nat) (hj : j < 5) :
    (rflat l bw)[0 + ((k : Nat) : Int).toNat * 5 + j]? = [AV.bool true, .i o.count, .i o.refs, .os b.1 0 o.size 1, .os b.2 0 o.size 1][j]? := by
  have : 0 + ((k : Nat) : Int).toNat * 5 + j = k * 5 + j := by omega
  rw [this, hget j hj, rcell_t hal]
theorem set_refs {k : Nat} {o : Ob} {b : Nat × Nat} (hk : l[k]? = some o) (hb : bw[k]? = some b) (hal : o.alive = true) (r' : Nat) {r : Int} (e : r = r') : (rflat l bw).set (0 + ((k : Nat) : Int).toNat * 5 + 2) (.i r) = rflat (l.set k { o with refs := r' }) bw := by
  rw [← rflat_set l bw k 2 o { o with refs := r' } b (.i r) hk hb (by omega) (by rw [rcell_t hal, rcell_t (by exact hal), e]; rfl)]
  congr 1; omega
variable {call : CallT} (hc : Lim GK call) (h : RM L M p l sl bw) {a : Int} (ha : 0 ≤ a ∧ a ≤ 18446744073709551615) (hl : l.length ≤ 1000000) (hr : ∀ o ∈ l, o.refs ≤ 1000000)
include hc h ha hl hr
theorem rretain_ok : Wp (call 15 [.ptr p 0, .int .u64 a] 0 M) (Pst2 L M p (.i (sRetain l a).1) (sRetain l a).2) := by
  have hp := h.plt
  have hrt := h.root
  rw [q15 hc]; unfold s15
  refine rn_rfind hc h ha hl h.oks (fun e => ?_) (fun k o e hk hal hkl => ?_)
  · repeat (first | (with_reducible (first | refine rn_if_t ?_)) | ((with_reducible refine rn_lss_t ?_ ?_); focus omega))
    refine rn_done ?_
    simp only [sRetain, e]
    exact Pst2.same h rfl (Nat.le_refl _)
  · obtain ⟨b, sid, hb, rfl, hsid, hsm, hLs, hsp, _, hget⟩ := h.at hk
    have hro := hr o (List.mem_of_getElem? hk)
    have g2 := h.cell (sid := sid) hal hget 2 (by omega)
    repeat (first | ((with_reducible apply rn_ld (ok_top.2 hp) hrt); focus exact rfl) | (with_reducible (first | apply rn_ld (ok_top.2 hsid) hsm g2 ?_ | refine rn_if_f ?_ | refine rn_nilc ?_ | refine rn_fad ?_)) | ((with_reducible refine rn_add64 ?_ ?_); focus omega) | ((with_reducible refine rn_lss_f ?_ ?_); focus omega) | ((with_reducible refine rn_ixs ?_ ?_); focus omega))
    have hlen := rflat_len l bw h.len
    refine rn_st1 rfl (ok_top.2 hsid) hsm ⟨Nat.zero_le _, rfl, rfl⟩ (by rw [hlen]; omega) (set_refs hk hb hal (o.refs + 1) (by omega)) ?_
    skip
    refine rn_done ?_
    simp only [sRetain, e]
    obtain ⟨q1, q2⟩ := h.putOb (o' := { o with refs := o.refs + 1 }) hk hb rfl hLs (fun _ => ⟨hal, rfl, rfl⟩) rfl
    exact ⟨rfl, L, _, bw, q1, q2⟩
theorem rrelease_ok : Wp (call 17 [.ptr p 0, .int .u64 a] 0 M) (Pst2 L M p (.tup [.i (sRelease l a).1, .i (sRelease l a).2.1]) (sRelease l a).2.2) := by
  have hp := h.plt
  have hrt := h.root
  rw [q17 hc]; unfold s17
  refine rn_rfind hc h ha hl h.oks (fun e => ?_) (fun k o e hk hal hkl => ?_)
  · repeat (first | (with_reducible (first | refine rn_if_t ?_)) | ((with_reducible refine rn_lss_t ?_ ?_); focus omega))
    refine rn_done ?_
    simp only [sRelease, e]
    exact Pst2.same h rfl (Nat.le_refl _)
  · obtain ⟨b, sid, hb, rfl, hsid, hsm, hLs, hsp, _, hget⟩ := h.at hk
    have hro := hr o (List.mem_of_getElem? hk)
    have g2 := h.cell (sid := sid) hal hget 2 (by omega)
    have hlen := rflat_len l bw h.len
    by_cases h0 : o.refs = 0
    · repeat (first | ((with_reducible apply rn_ld (ok_top.2 hp) hrt); focus exact rfl) | (with_reducible (first | apply rn_ld (ok_top.2 hsid) hsm g2 ?_ | refine rn_if_t ?_ | refine rn_if_f ?_ | refine rn_nilc ?_ | refine rn_fad ?_)) | ((with_reducible refine rn_eql_t ?_ ?_); focus omega) | ((with_reducible refine rn_lss_f ?_ ?_); focus omega) | ((with_reducible refine rn_ixs ?_ ?_); focus omega))
      refine rn_done ?_
      simp only [sRelease, e, h0, if_true]
      exact Pst2.same h rfl (Nat.le_refl _)
    · repeat (first | ((with_reducible apply rn_ld (ok_top.2 hp) hrt); focus exact rfl) | (with_reducible (first | apply rn_ld (ok_top.2 hsid) hsm g2 ?_ | refine rn_if_f ?_ | refine rn_nilc ?_ | refine rn_fad ?_)) | ((with_reducible refine rn_sub64 ?_ ?_); focus omega) | ((with_reducible refine rn_eql_f ?_ ?_); focus omega) | ((with_reducible refine rn_lss_f ?_ ?_); focus omega) | ((with_reducible refine rn_ixs ?_ ?_); focus omega))
      refine rn_st1 rfl (ok_top.2 hsid) hsm ⟨Nat.zero_le _, rfl, rfl⟩ (by rw [hlen]; omega) (set_refs hk hb hal (o.refs - 1) (by omega)) ?_
      generalize hM' : MM.put M sid _ = M'
      obtain ⟨q1, q2⟩ := h.putOb (o' := { o with refs := o.refs - 1 }) hk hb rfl hLs (fun _ => ⟨hal, rfl, rfl⟩) hM'
      have hb' : bw[k]? = some b := hb
      have hk' : (l.set k { o with refs := o.refs - 1 })[k]? = some { o with refs := o.refs - 1 } := List.getElem?_set_self hkl
      have e2 : (o.refs : Int) - 1 = ((o.refs - 1 : Nat) : Int) := by omega
      have g3 : (rflat (l.set k { o with refs := o.refs - 1 }) bw)[0 + ((k : Nat) : Int).toNat * 5 + 2]? = some (.i ((o.refs - 1 : Nat) : Int)) := by
        have : 0 + ((k : Nat) : Int).toNat * 5 + 2 = k * 5 + 2 := by omega
        rw [this, rflat_get _ _ _ _ _ _ hk' hb (by omega), rcell_t (by exact hal)]; rfl
      have m2 : M'.mem sid = some (.cells 68 (rflat (l.set k { o with refs := o.refs - 1 }) bw)) := by subst hM'; exact put_same _ _ _
      have hn : M'.nx = M.nx := by subst hM'; rfl
      repeat (first | ((with_reducible apply rn_ld); (focus exact ok_top.2 q1.plt); (focus exact q1.root); (focus exact rfl)) | ((with_reducible apply rn_ld); (focus exact ok_top.2 (show sid < M'.nx by omega)); (focus exact m2); (focus exact g3)) | (with_reducible (first | refine rn_nilc ?_ | refine rn_fad ?_)) | ((with_reducible refine rn_ixs ?_ ?_); focus omega))
      refine rn_done ?_
      simp only [sRelease, e, h0, if_false]
      exact ⟨rfl, L, _, bw, q1, q2⟩
theorem rfree_ok : Wp (call 19 [.ptr p 0, .int .u64 a] 0 M) (Pst2 L M p (.i (sFree l a).1) (sFree l a).2) := by
  have hp := h.plt
  have hrt := h.root
  rw [q19 hc]; unfold s19
  refine rn_rfind hc h ha hl h.oks (fun e => ?_) (fun k o e hk hal hkl => ?_)
  · repeat (first | (with_reducible (first | refine rn_if_t ?_)) | ((with_reducible refine rn_lss_t ?_ ?_); focus omega))
    refine rn_done ?_
    simp only [sFree, e]
    exact Pst2.same h rfl (Nat.le_refl _)
  · obtain ⟨b, sid, hb, rfl, hsid, hsm, hLs, hsp, _, hget⟩ := h.at hk
    have hro := hr o (List.mem_of_getElem? hk)
    have g2 := h.cell (sid := sid) hal hget 2 (by omega)
    have hlen := rflat_len l bw h.len
    by_cases h0 : 0 < o.refs
    · repeat (first | ((with_reducible apply rn_ld (ok_top.2 hp) hrt); focus exact rfl) | (with_reducible (first | apply rn_ld (ok_top.2 hsid) hsm g2 ?_ | refine rn_if_t ?_ | refine rn_if_f ?_ | refine rn_nilc ?_ | refine rn_fad ?_)) | ((with_reducible refine rn_lss_f ?_ ?_); focus omega) | ((with_reducible refine rn_gtr_t ?_ ?_); focus omega) | ((with_reducible refine rn_ixs ?_ ?_); focus omega))
      refine rn_done ?_
      simp only [sFree, e, h0, if_true]
      exact Pst2.same h rfl (Nat.le_refl _)
    · repeat (first | ((with_reducible apply rn_ld (ok_top.2 hp) hrt); focus exact rfl) | (with_reducible (first | apply rn_ld (ok_top.2 hsid) hsm g2 ?_ | refine rn_if_f ?_ | refine rn_mke ?_ | refine rn_nilc ?_ | refine rn_fad ?_)) | ((with_reducible refine rn_lss_f ?_ ?_); focus omega) | ((with_reducible refine rn_gtr_f ?_ ?_); focus omega) | ((with_reducible refine rn_ixs ?_ ?_); focus omega))
      have es : setAt (rflat l bw) (0 + ((k : Nat) : Int).toNat * 5) [.bool false, .i 0, .i 0, .nilsl, .nilsl] = rflat (l.set k { o with alive := false }) bw := by
        have : 0 + ((k : Nat) : Int).toNat * 5 = k * 5 := by omega
        rw [this]; exact rflat_setAt l bw k o { o with alive := false } b hk hb
      refine rn_stn rfl (ok_top.2 hsid) hsm ⟨Nat.zero_le _, rfl, rfl⟩ (by rw [hlen]; omega) es ?_
      skip
      refine rn_done ?_
      simp only [sFree, e, h0, if_false]
      obtain ⟨q1, q2⟩ := h.putOb (o' := { o with alive := false }) hk hb rfl hLs (fun h => by cases h) rfl
      exact ⟨rfl, L, _, bw, q1, q2⟩
omit hr
theorem rsize_ok (lo : Nat) : Wp (call 21 [.ptr p 0, .int .u64 a] lo M) fun x => x.1 = .tup [.i (sSize l a).1, .i (sSize l a).2.1, .i (sSize l a).2.2] := by
  have hp := h.plt
  have hrt := h.root
  rw [q21 hc]; unfold s21
  refine rn_rfind hc h ha hl h.oks (fun e => ?_) (fun k o e hk hal hkl => ?_)
  · repeat (first | (with_reducible (first | refine rn_if_t ?_)) | ((with_reducible refine rn_lss_t ?_ ?_); focus omega))
    refine rn_done ?_
    simp only [sSize, e]
  · obtain ⟨b, sid, hb, rfl, hsid, hsm, hLs, hsp, _, hget⟩ := h.at hk
    have g1 := h.cell (sid := sid) hal hget 1 (by omega)
    have g3 := h.cell (sid := sid) hal hget 3 (by omega)
    repeat (first | (with_reducible (first | refine rn_bumpk ?_)) | ((with_reducible apply rn_ld); (focus exact ok_lt hp); (focus exact hrt); (focus exact rfl)) | ((with_reducible apply rn_ld); (focus exact ok_lt hsid); (focus exact hsm); (focus (first | exact g1 | exact g3))) | (with_reducible (first | refine rn_if_f ?_ | refine rn_len_os ?_ | refine rn_nilc ?_ | refine rn_fad ?_)) | ((with_reducible refine rn_lss_f ?_ ?_); focus omega) | ((with_reducible refine rn_ixs ?_ ?_); focus omega))
    refine rn_done ?_
    simp only [sSize, e]
theorem rrefs_ok (lo : Nat) : Wp (call 23 [.ptr p 0, .int .u64 a] lo M) fun x => x.1 = .tup [.i (sRefs l a).1, .i (sRefs l a).2] := by
  have hp := h.plt
  have hrt := h.root
  rw [q23 hc]; unfold s23
  refine rn_rfind hc h ha hl h.oks (fun e => ?_) (fun k o e hk hal hkl => ?_)
  · repeat (first | (with_reducible (first | refine rn_if_t ?_)) | ((with_reducible refine rn_lss_t ?_ ?_); focus omega))
    refine rn_done ?_
    simp only [sRefs, e]
  · obtain ⟨b, sid, hb, rfl, hsid, hsm, hLs, hsp, _, hget⟩ := h.at hk
    have g2 := h.cell (sid := sid) hal hget 2 (by omega)
    repeat (first | ((with_reducible apply rn_ld (ok_top.2 hp) hrt); focus exact rfl) | (with_reducible (first | apply rn_ld (ok_top.2 hsid) hsm g2 ?_ | refine rn_if_f ?_ | refine rn_nilc ?_ | refine rn_fad ?_)) | ((with_reducible refine rn_lss_f ?_ ?_); focus omega) | ((with_reducible refine rn_ixs ?_ ?_); focus omega))
    refine rn_done ?_
    simp only [sRefs, e]
omit ha hl
theorem rlive_loop {sid : Nat} (hsid : sid < M.nx) (hsm : M.mem sid = some (.cells 68 (rflat l bw))) (hll : l.length ≤ 1000000) (lo : Nat) : ∀ (r i n : Nat) (M' : MM), i + r = l.length → r < n → M.nx ≤ M'.nx → M'.mem = M.mem →
    Wp (b28_5 call GK.nl lo n (.i (liveN (l.take i))) (.os sid 0 l.length 5) (.i l.length) (.i i) M') fun x => x.1 = .i (liveN l) := by
  intro r
  induction r with
  | zero =>
    intro i n M' hi hn hx hm
    obtain ⟨n, rfl⟩ : ∃ k, n = k + 1 := ⟨n - 1, by omega⟩
    unfold b28_5
    repeat (first | (with_reducible (first | refine rn_if_f ?_)) | ((with_reducible refine rn_lss_f ?_ ?_); focus omega))
    refine rn_done ?_
    rw [List.take_of_length_le (by omega)]
  | succ r ih =>
    intro i n M' hi hn hx hm
    obtain ⟨n, rfl⟩ : ∃ k, n = k + 1 := ⟨n - 1, by omega⟩
    have hil : i < l.length := by omega
    have hk : l[i]? = some l[i] := List.getElem?_eq_getElem hil
    have hbl := h.len
    have hb : bw[i]? = some (bw[i]'(by omega)) := List.getElem?_eq_getElem _
    have hlen := rflat_len l bw h.len
    have hcells : ((rflat l bw).drop (0 + ((i : Nat) : Int).toNat * 5)).take 5 = rcell l[i] (bw[i]'(by omega)).1 (bw[i]'(by omega)).2 := by
      refine List.ext_getElem? fun j => ?_
      have e0 : 0 + ((i : Nat) : Int).toNat * 5 = i * 5 := by omega
      rw [e0]
      by_cases hj : j < 5
      · rw [List.getElem?_take_of_lt hj, List.getElem?_drop, rflat_get _ _ _ _ _ _ hk hb hj]
      · rw [List.getElem?_eq_none (by simp; omega), List.getElem?_eq_none (by rw [rcell_len]; omega)]
    have htk : liveN (l.take (i + 1)) = liveN (l.take i) + (if (l[i]).alive then 1 else 0) := by
      rw [List.take_add_one, hk, Option.toList_some, liveN_append]; simp [liveN]
    have hbd := liveN_le (l.take i)
    simp only [List.length_take] at hbd
    unfold b28_5
    repeat (first | (with_reducible (first | refine rn_if_t ?_)) | ((with_reducible refine rn_lss_t ?_ ?_); focus omega) | ((with_reducible refine rn_ixs ?_ ?_); focus omega))
    refine rn_ldn (ok_top.2 (by omega)) (by rw [hm]; exact hsm) (by rw [hlen]; omega) hcells ?_
    refine rn_upk ?_
    have hone : ∀ (o : Ob) (x y : Nat), (rcell o x y).all AV.one = true := fun o x y => by unfold rcell; split <;> rfl
    refine rn_setcall (rcell_len _ _ _) rfl (hone _ _ _) ?_
    have hal : (rcell l[i] (bw[i]'(by omega)).1 (bw[i]'(by omega)).2)[0]? = some (.bool (l[i]).alive) := by unfold rcell; cases (l[i]).alive <;> rfl
    refine rn_fldn (by rw [rcell_len]; omega) rfl ?_
    refine rn_fld hal ?_
    cases ho : (l[i]).alive with
    | true =>
      repeat (first | (with_reducible (first | refine rn_if_t ?_)) | ((with_reducible refine rn_add64 ?_ ?_); focus omega))
      rw [ho] at htk
      simp only [if_true] at htk
      have := ih (i + 1) n (M'.up M'.nx) (by omega) (by omega) (by show _ ≤ max _ _; omega) hm
      rw [htk] at this
      exact this
    | false =>
      repeat (first | (with_reducible (first | refine rn_if_f ?_)) | ((with_reducible refine rn_add64 ?_ ?_); focus omega))
      rw [ho] at htk
      simp only [Bool.false_eq_true, if_false, Nat.add_zero] at htk
      have := ih (i + 1) n (M'.up M'.nx) (by omega) (by omega) (by show _ ≤ max _ _; omega) hm
      rw [htk] at this
      exact this
theorem rlive_ok (hll : l.length ≤ 1000000) (lo : Nat) : Wp (call 28 [.ptr p 0] lo M) fun x => x.1 = .i (liveN l) := by
  have hp := h.plt
  have hrt := h.root
  rw [q28 hc]; unfold s28
  rcases h.sli with ⟨rfl, rfl⟩ | ⟨sid, rfl, h2, h3⟩
  · repeat (first | ((with_reducible apply rn_ld (ok_top.2 hp) hrt); focus exact rfl) | (with_reducible (first | refine rn_len_nil ?_ | refine rn_nilc ?_ | refine rn_fad ?_)))
    show Wp (b28_5 call GK.nl lo GK.nl (.i 0) .nilsl (.i 0) (.i 0) M) _
    rw [show GK.nl = 18446744073709551615 + 1 from rfl]
    unfold b28_5
    repeat (first | (with_reducible (first | refine rn_if_f ?_)) | ((with_reducible refine rn_lss_f ?_ ?_); focus omega))
    exact rn_done rfl
  · repeat (first | ((with_reducible apply rn_ld (ok_top.2 hp) hrt); focus exact rfl) | (with_reducible (first | refine rn_len_os ?_ | refine rn_nilc ?_ | refine rn_fad ?_)))
    exact rlive_loop hc h (h.dom sid (by rw [h2]; simp)).1 h3 hll lo l.length 0 GK.nl M (by omega) (by show _ < 18446744073709551616; omega) (Nat.le_refl _) rfl
end
end Go.Proofs.Ytegkhdflmboljaa.Sx

namespace Go.Proofs.Ytegkhdflmboljaa.Sx
open Go
set_option maxRecDepth 1000000
set_option linter.unusedSimpArgs false
set_option linter.unusedVariables false
set_option linter.unusedSectionVars false
def tagR (L : Nat → Option Tag) (n k : Nat) (sl : AV) : Nat → Option Tag := fun id =>
  if id = n + 12 then some .sl else if id = n + 7 then some (.ob k) else if id = n + 9 then some (.ck k) else if n ≤ id then none else if aidOf sl = some id then none else L id
section
variable {L : Nat → Option Tag} {M : MM} {p : Nat} {l : List Ob} {sl : AV} {bw : List (Nat × Nat)}
theorem RM.sid (h : RM L M p l sl bw) {id : Nat} (e : aidOf sl = some id) : L id = some .sl := by
  rcases h.sli with ⟨rfl, _⟩ | ⟨sid, rfl, h2, _⟩
  · cases e
  · injection e with e; subst e; exact h2
theorem RM.grow (h : RM L M p l sl bw) {M' : MM} {size : Nat} {count : Int} (hs : size ≤ 4194304) (hn : M'.nx = M.nx + 16) (m1 : M'.mem p = some (.cells 52 [.os (M.nx + 12) 0 (l.length + 1) 5]))
    (m2 : M'.mem (M.nx + 12) = some (.cells 68 (rflat l bw ++ [.bool true, .i count, .i 1, .os (M.nx + 7) 0 size 1, .os (M.nx + 9) 0 size 1]))) (m3 : M'.mem (M.nx + 7) = some (.cells 5 (List.replicate size (.int .u8 0)))) (m4 : M'.mem (M.nx + 9) = some (.cells 4 (List.replicate size (.bool false))))
    (m5 : ∀ id, id < M.nx → id ≠ p → aidOf sl ≠ some id → M'.mem id = M.mem id) :
    RM (tagR L M.nx l.length sl) M' p (l ++ [newOb size count]) (.os (M.nx + 12) 0 (l.length + 1) 5) (bw ++ [(M.nx + 7, M.nx + 9)]) ∧ Gr L (tagR L M.nx l.length sl) M M' := by
  have hp := h.plt
  have hpa : aidOf sl ≠ some p := fun e => by have := h.sid e; rw [h.rl] at this; cases this
  have hlow : ∀ id, id < M.nx → tagR L M.nx l.length sl id = if aidOf sl = some id then none else L id := fun id hid => by
    simp only [tagR]; rw [if_neg (by omega), if_neg (by omega), if_neg (by omega), if_neg (by omega)]
  have hkeep : ∀ id t, L id = some t → t ≠ .root → t ≠ .sl → tagR L M.nx l.length sl id = some t ∧ M'.mem id = M.mem id := fun id t ht h1 h2 => by
    have hd := (h.dom id (by rw [ht]; simp)).1
    have ha : aidOf sl ≠ some id := fun e => by rw [h.sid e] at ht; injection ht with ht; exact h2 ht.symm
    refine ⟨by rw [hlow id hd, if_neg ha]; exact ht, m5 id hd (fun e => ?_) ha⟩
    rw [e, h.rl] at ht; injection ht with ht; exact h1 ht.symm
  have hll := h.len
  refine ⟨⟨fun id hid => ?_, by simp [hll], by rw [hlow p hp, if_neg hpa]; exact h.rl, m1, .inr ⟨M.nx + 12, by simp, by simp [tagR], ?_⟩, fun i o b ho hb ha => ?_⟩, ⟨by omega, fun id hid => ?_, fun id hid hL => m5 id hid (fun e => ?_) fun e => ?_⟩⟩
  · simp only [tagR] at hid
    by_cases e1 : id = M.nx + 12
    · rw [e1, m2]; exact ⟨by omega, by simp⟩
    · rw [if_neg e1] at hid
      by_cases e2 : id = M.nx + 7
      · rw [e2, m3]; exact ⟨by omega, by simp⟩
      · rw [if_neg e2] at hid
        by_cases e3 : id = M.nx + 9
        · rw [e3, m4]; exact ⟨by omega, by simp⟩
        · rw [if_neg e3] at hid
          by_cases e4 : M.nx ≤ id
          · rw [if_pos e4] at hid; exact absurd rfl hid
          · rw [if_neg e4] at hid
            by_cases e5 : aidOf sl = some id
            · rw [if_pos e5] at hid; exact absurd rfl hid
            · rw [if_neg e5] at hid
              obtain ⟨d1, d2⟩ := h.dom id hid
              refine ⟨by omega, ?_⟩
              by_cases e6 : id = p
              · rw [e6, m1]; simp
              · rw [m5 id d1 e6 e5]; exact d2
  · rw [m2, rflat_append l bw _ _ hll]; rfl
  · by_cases e : i < l.length
    · rw [List.getElem?_append_left e] at ho
      rw [List.getElem?_append_left (by omega)] at hb
      obtain ⟨q1, q2, q3, bs, ws, q4, q5, q6⟩ := h.obs i o b ho hb ha
      have k1 := hkeep _ _ q2 (fun e => by cases e) (fun e => by cases e)
      have k2 := hkeep _ _ q3 (fun e => by cases e) (fun e => by cases e)
      exact ⟨q1, k1.1, k2.1, bs, ws, by rw [k1.2]; exact q4, by rw [k2.2]; exact q5, q6⟩
    · have hi : i = l.length := by
        have hlt : i < (l ++ [newOb size count]).length := by
          rcases Nat.lt_or_ge i (l ++ [newOb size count]).length with e | e
          · exact e
          · rw [List.getElem?_eq_none e] at ho; cases ho
        simp at hlt; omega
      subst hi
      rw [List.getElem?_append_right (by omega), Nat.sub_self] at ho
      rw [List.getElem?_append_right (by omega), hll, Nat.sub_self] at hb
      simp only [List.getElem?_cons_zero, Option.some.injEq] at ho hb
      subst ho hb
      refine ⟨hs, by simp [tagR], by simp [tagR], _, _, m3, m4, by simp [newOb], by simp [newOb], fun x hx => ?_⟩
      simp only [newOb] at hx ⊢
      simp [hx]
  · by_cases e : M.nx ≤ id
    · exact .inr e
    · rw [hlow id (by omega)] at hid
      by_cases e5 : aidOf sl = some id
      · rw [if_pos e5] at hid; exact absurd rfl hid
      · rw [if_neg e5] at hid; exact .inl hid
  · rw [e, h.rl] at hL; cases hL
  · rw [h.sid e] at hL; cases hL
variable {call : CallT} (hc : Lim GK call)
include hc
theorem rmake_ok (h : RM L M p l sl bw) (hl : l.length ≤ 100000) {size count : Int} (h1 : -9223372036854775808 ≤ size ∧ size ≤ 9223372036854775807) (h2 : -9223372036854775808 ≤ count ∧ count ≤ 9223372036854775807) :
    Wp (call 26 [.ptr p 0, .i size, .i count] 0 M) (Pst2 L M p (.tup [.int .u64 (sMake l size count).1, .i (sMake l size count).2.1]) (sMake l size count).2.2) := by
  rw [q26 hc]; unfold s26
  have bad : ∀ {M' : MM}, M' = M → (size < 0 ∨ size > 4194304 ∨ count < 0 ∨ count > 4096) → Wp (some (AV.tup [.int .u64 0, .i 20], M')) (Pst2 L M p (.tup [.int .u64 (sMake l size count).1, .i (sMake l size count).2.1]) (sMake l size count).2.2) := fun e hb => by
    subst e
    simp only [sMake, if_pos hb]
    exact rn_done (Pst2.same h rfl (Nat.le_refl _))
  by_cases b1 : size < 0
  · repeat (first | (with_reducible (first | refine rn_if_t ?_ | refine rn_gp_tf ?_ | refine rn_pt ?_)) | ((with_reducible refine rn_lss_t ?_ ?_); focus omega))
    exact bad rfl (.inl b1)
  by_cases b2 : size > 4194304
  · repeat (first | (with_reducible (first | refine rn_some ?_ | refine rn_if_t ?_ | refine rn_gp_ff ?_ | refine rn_gp_tf ?_ | refine rn_pt ?_ | refine rn_pf ?_)) | ((with_reducible refine rn_lss_f ?_ ?_); focus omega) | ((with_reducible refine rn_gtr_t ?_ ?_); focus omega))
    exact bad rfl (.inr (.inl b2))
  by_cases b3 : count < 0
  · repeat (first | (with_reducible (first | refine rn_some ?_ | refine rn_if_t ?_ | refine rn_gp_ff ?_ | refine rn_gp_tf ?_ | refine rn_pt ?_ | refine rn_pf ?_)) | ((with_reducible refine rn_lss_t ?_ ?_); focus omega) | ((with_reducible refine rn_lss_f ?_ ?_); focus omega) | ((with_reducible refine rn_gtr_f ?_ ?_); focus omega))
    exact bad rfl (.inr (.inr (.inl b3)))
  by_cases b4 : count > 4096
  · repeat (first | (with_reducible (first | refine rn_some ?_ | refine rn_if_t ?_ | refine rn_gp_ff ?_ | refine rn_pf ?_)) | ((with_reducible refine rn_lss_f ?_ ?_); focus omega) | ((with_reducible refine rn_gtr_t ?_ ?_); focus omega) | ((with_reducible refine rn_gtr_f ?_ ?_); focus omega))
    exact bad rfl (.inr (.inr (.inr b4)))
  have hp := h.plt
  have hrt := h.root
  obtain ⟨n, rfl⟩ : ∃ n : Nat, size = n := ⟨size.toNat, by omega⟩
  have e0 : sMake l n count = (8 * ((l.length : Int) + 1), 0, l ++ [newOb n count]) := by simp only [sMake]; rw [if_neg (by omega)]; rfl
  rw [e0]
  repeat (first | (with_reducible (first | refine rn_bumpk ?_)) | ((with_reducible apply rn_ld); (focus exact ok_lt hp); (focus exact hrt); (focus exact rfl)) | (with_reducible (first | refine rn_some ?_ | refine rn_if_f ?_ | refine rn_gp_ff ?_ | refine rn_pf ?_ | refine rn_nilc ?_ | refine rn_fad ?_)) | ((with_reducible refine rn_lss_f ?_ ?_); focus omega) | ((with_reducible refine rn_gtr_f ?_ ?_); focus omega))
  refine rn_mkslice (n := n) rfl ⟨by omega, by omega⟩ ?_
  refine rn_mkslice (n := n) rfl ⟨by omega, by omega⟩ ?_
  refine rn_opt (v := .agg [.bool true, .i count, .i 1, .os (M.nx + 7) 0 n 1, .os (M.nx + 9) 0 n 1]) rfl ?_
  refine rn_mksl (cs := [.bool true, .i count, .i 1, .os (M.nx + 7) 0 n 1, .os (M.nx + 9) 0 n 1]) rfl rfl ?_
  generalize hM3 : MM.alloc _ (M.nx + 11) _ = M3
  have n3 : M3.nx = M.nx + 16 := by subst hM3; simp only [MM.alloc, MM.bump]; omega
  have rep : ∀ v : AV, (List.replicate n [v]).flatten = List.replicate n v := fun v => by simp
  have a7 : M3.mem (M.nx + 7) = some (.cells 5 (List.replicate n (.int .u8 0))) := by
    subst hM3; rw [alloc_ne _ _ _ _ (by omega), alloc_ne _ _ _ _ (by omega), alloc_same, rep]
  have a9 : M3.mem (M.nx + 9) = some (.cells 4 (List.replicate n (.bool false))) := by
    subst hM3; rw [alloc_ne _ _ _ _ (by omega), alloc_same, rep]
  have a11 : M3.mem (M.nx + 11) = some (.cells 68 [.bool true, .i count, .i 1, .os (M.nx + 7) 0 n 1, .os (M.nx + 9) 0 n 1]) := by subst hM3; exact alloc_same ..
  have ao : ∀ id, id < M.nx → M3.mem id = M.mem id := fun id hid => by
    subst hM3; rw [alloc_ne _ _ _ _ (by omega), alloc_ne _ _ _ _ (by omega), alloc_ne _ _ _ _ (by omega)]; rfl
  clear hM3
  have lit : sliceCells M3.mem (.top M3.nx) 5 (.os (M.nx + 11) 0 1 5) = some (1, [.bool true, .i count, .i 1, .os (M.nx + 7) 0 n 1, .os (M.nx + 9) 0 n 1]) := by
    simp only [sliceCells, look_ok (ok_top.2 (show M.nx + 11 < M3.nx by omega)), a11]; rfl
  -- behind the append
  have fin : ∀ (M4 : MM) (k : Nat), M4.nx = M.nx + 16 → k = l.length + 1 → M4.mem (M.nx + 12) = some (.cells 68 (rflat l bw ++ [.bool true, .i count, .i 1, .os (M.nx + 7) 0 n 1, .os (M.nx + 9) 0 n 1])) → (∀ id, id ≠ M.nx + 12 → aidOf sl ≠ some id → M4.mem id = M3.mem id) →
      Wp (opt (nilcA (.ptr p 0)) fun v38 => opt (fadA 0 v38) fun v39 => bnd (istep call modeF true 0 (.mk M.nx 16 32767 true) (M.nx + 15) (.st 1 (.k v39) (.k (.os (M.nx + 12) 0 k 5))) [] M4) fun v40 M41 =>
        opt (nilcA (.ptr p 0)) fun v43 => opt (fadA 0 v43) fun v44 => opt (ld1A (lk M41) v44) fun v45 => opt (lenA v45) fun v46 => opt (binA .mul .none (.i 8) v46) fun v47 => opt (cviA .u64 v47) fun v48 => some (.tup [v48, (.i 0)], M41))
        (Pst2 L M p (.tup [.int .u64 (8 * ((l.length : Int) + 1)), .i 0]) (l ++ [newOb n count])) := by
    intro M4 k hn4 en m2 mo
    subst en
    have hpa : aidOf sl ≠ some p := fun e => by have := h.sid e; rw [h.rl] at this; cases this
    have r4 : M4.mem p = some (.cells 52 [sl]) := by rw [mo p (by omega) hpa, ao p hp]; exact hrt
    have hp4 : p < M4.nx := by omega
    repeat (first | (with_reducible (first | refine rn_nilc ?_ | refine rn_fad ?_)))
    refine rn_st1 rfl (ok_lt hp) r4 ⟨Nat.zero_le _, rfl, rfl⟩ (by simp) rfl ?_
    repeat (first | (with_reducible (first | refine rn_nilc ?_ | refine rn_fad ?_)))
    refine rn_ld (ok_top.2 hp4) (put_same _ _ _) rfl ?_
    repeat (first | (with_reducible (first | refine rn_len_os ?_)) | ((with_reducible refine rn_mul64 ?_ ?_); focus omega) | ((with_reducible refine rn_cviu ?_ ?_); focus omega))
    refine rn_done ?_
    generalize hM' : MM.put _ p _ = M'
    have m1 : M'.mem p = some (.cells 52 [.os (M.nx + 12) 0 (l.length + 1) 5]) := by subst hM'; rw [put_same]; rfl
    have m6 : ∀ id, id ≠ p → M'.mem id = M4.mem id := fun id i1 => by subst hM'; rw [put_ne _ _ _ _ i1]
    have m7 : M'.nx = M.nx + 16 := by subst hM'; exact hn4
    clear hM'
    have old : ∀ id, M.nx ≤ id → aidOf sl ≠ some id := fun id hid e => by have := (h.dom id (by rw [h.sid e]; simp)).1; omega
    obtain ⟨g1, g2⟩ := h.grow (M' := M') (size := n) (count := count) (by omega) m7 m1 (by rw [m6 _ (by omega)]; exact m2) (by rw [m6 _ (by omega), mo _ (by omega) (old _ (by omega))]; exact a7) (by rw [m6 _ (by omega), mo _ (by omega) (old _ (by omega))]; exact a9) (fun id i1 i2 i3 => by rw [m6 id i2, mo id (by omega) i3, ao id i1])
    have e9 : (8 : Int) * ((l.length + 1 : Nat) : Int) = 8 * ((l.length : Int) + 1) := by omega
    rw [e9]
    exact ⟨rfl, _, _, _, g1, g2⟩
  have hll := h.len
  have hlen := rflat_len l bw hll
  rcases h.sli with ⟨es1, es2⟩ | ⟨sid, es1, es2, es3⟩
  · subst es1 es2
    refine rn_app0 (n := 1) rfl lit rfl (by simp) ?_
    have hbw : bw = [] := List.eq_nil_of_length_eq_zero hll
    refine fin _ 1 (by simp only [MM.alloc]; omega) rfl ?_ fun id hid _ => alloc_ne _ _ _ _ hid
    rw [alloc_same, hbw]; rfl
  · subst es1
    have hsid := (h.dom sid (by rw [es2]; simp)).1
    have hs3 : M3.mem sid = some (.cells 68 (rflat l bw)) := by rw [ao sid hsid]; exact es3
    refine rn_app (n := 1) rfl lit rfl (by omega) hs3 ⟨Nat.zero_le _, hlen, by omega, by omega, rfl⟩ ?_
    refine fin _ (l.length + 1) (by show max M3.nx (M.nx + 12 + 1) = _; omega) rfl ?_ fun id hid hne => ?_
    · exact upd_same _ _ _
    · show upd _ (M.nx + 12) _ _ = _
      rw [upd_ne _ _ _ _ hid, upd_ne _ _ _ _ (fun e => hne (by rw [e]; rfl))]
end
end Go.Proofs.Ytegkhdflmboljaa.Sx
