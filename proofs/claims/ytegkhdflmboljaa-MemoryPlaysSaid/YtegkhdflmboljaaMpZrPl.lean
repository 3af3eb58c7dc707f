/- THE REFERENCE's MEMORY: Write, Read. -/
import Derived.Test.YtegkhdflmboljaaMpZPl
namespace Go.Proofs.Ytegkhdflmboljaa.Sx
open Go
set_option maxRecDepth 1000000
set_option linter.unusedSimpArgs false
set_option linter.unusedVariables false
set_option linter.unusedSectionVars false
theorem BW.set {f : Nat → Option Int} {n : Nat} {bs ws : List AV} (h : BW f n bs ws) {k : Nat} (hk : k < n) (b : Int) : BW (setF f k b) n (bs.set k (.int .u8 b)) (ws.set k (.bool true)) := by
  obtain ⟨h1, h2, h3⟩ := h
  refine ⟨by simpa using h1, by simpa using h2, fun x hx => ?_⟩
  have := h3 x hx
  by_cases e : x = k
  · subst e
    simp only [setF, if_true]
    exact ⟨by rw [List.getElem?_set_self (by omega)], by rw [List.getElem?_set_self (by omega)]⟩
  · simp only [setF, if_neg e]
    rw [List.getElem?_set_ne (fun e2 => e e2.symm), List.getElem?_set_ne (fun e2 => e e2.symm)]
    exact this
section
variable {L : Nat → Option Tag} {M : MM} {p : Nat} {l : List Ob} {sl : AV} {bw : List (Nat × Nat)}
theorem RM.wrote (h : RM L M p l sl bw) {k : Nat} {o : Ob} {b : Nat × Nat} {g : Nat → Option Int} {bs ws : List AV} (hk : l[k]? = some o) (hb : bw[k]? = some b) (ha : o.alive = true) {M' : MM} (hn : M.nx ≤ M'.nx) (hL1 : L b.1 = some (.ob k)) (hL2 : L b.2 = some (.ck k))
    (m1 : M'.mem b.1 = some (.cells 5 bs)) (m2 : M'.mem b.2 = some (.cells 4 ws)) (hBW : BW g o.size bs ws) (hm : ∀ z, z ≠ b.1 → z ≠ b.2 → M'.mem z = M.mem z) : RM L M' p (l.set k { o with f := g }) sl bw ∧ Gr L L M M' := by
  have ne : ∀ id t, L id = some t → t ≠ .ob k → t ≠ .ck k → M'.mem id = M.mem id := fun id t ht h1 h2 => hm id (fun e => by rw [e, hL1] at ht; injection ht with ht; exact h1 ht.symm) (fun e => by rw [e, hL2] at ht; injection ht with ht; exact h2 ht.symm)
  have hkl : k < l.length := by
    rcases Nat.lt_or_ge k l.length with e | e
    · exact e
    · rw [List.getElem?_eq_none e] at hk; cases hk
  have hrc : rcell { o with f := g } b.1 b.2 = rcell o b.1 b.2 := rfl
  have hfl : rflat (l.set k { o with f := g }) bw = rflat l bw := by
    rw [← rflat_setAt l bw k o { o with f := g } b hk hb, hrc]
    have := rflat_setAt l bw k o o b hk hb
    have e2 : l.set k o = l := by
      obtain ⟨h1, h2⟩ := List.getElem?_eq_some_iff.1 hk
      rw [← h2]; exact List.set_getElem_self _
    rw [this, e2]
  refine ⟨⟨fun id hid => ⟨Nat.lt_of_lt_of_le (h.dom id hid).1 hn, ?_⟩, by rw [h.len, List.length_set], h.rl, by rw [ne p _ h.rl (fun e => by cases e) (fun e => by cases e)]; exact h.root, ?_, fun i o2 b2 h1 h2 hal => ?_⟩, ⟨hn, fun id h => .inl h, fun id _ hid => hm id (fun e => by rw [e, hL1] at hid; cases hid) (fun e => by rw [e, hL2] at hid; cases hid)⟩⟩
  · by_cases e1 : id = b.1
    · rw [e1, m1]; simp
    · by_cases e2 : id = b.2
      · rw [e2, m2]; simp
      · rw [hm id e1 e2]; exact (h.dom id hid).2
  · rcases h.sli with ⟨_, e2⟩ | ⟨sid, e1, e2, e3⟩
    · rw [e2] at hkl; simp at hkl
    · exact .inr ⟨sid, by rw [e1, List.length_set], e2, by rw [ne sid _ e2 (fun e => by cases e) (fun e => by cases e), e3, hfl]⟩
  · by_cases e : i = k
    · subst e
      rw [List.getElem?_set_self hkl] at h1
      injection h1 with h1; subst h1
      rw [hb] at h2; injection h2 with h2; subst h2
      exact ⟨(h.obs i o b hk hb ha).1, hL1, hL2, bs, ws, m1, m2, hBW⟩
    · rw [List.getElem?_set_ne (fun e2 => e e2.symm)] at h1
      obtain ⟨q1, q2, q3, bs', ws', q4, q5, q6⟩ := h.obs i o2 b2 h1 h2 hal
      refine ⟨q1, q2, q3, bs', ws', ?_, ?_, q6⟩
      · rw [ne _ _ q2 (fun e2 => by injection e2 with e2; exact e e2) (fun e => by cases e)]; exact q4
      · rw [ne _ _ q3 (fun e => by cases e) (fun e2 => by injection e2 with e2; exact e e2)]; exact q5
variable {call : CallT}
theorem rwrite_loop (p sid k b w size len : Nat) (x : AV) (xs : List Int) (hb : ∀ b ∈ xs, 0 ≤ b ∧ b ≤ 255) (at0 : Nat) (hat : at0 + xs.length ≤ size) (hsz : size ≤ 4194304) (hx : BX x xs) (fl : List AV) (hkl : k < len)
    (g3 : fl[0 + ((k : Nat) : Int).toNat * 5 + 3]? = some (.os b 0 size 1)) (g4 : fl[0 + ((k : Nat) : Int).toNat * 5 + 4]? = some (.os w 0 size 1)) (hpb : p ≠ b) (hpw : p ≠ w) (hsb : sid ≠ b) (hsw : sid ≠ w) (hbw : b ≠ w) :
    ∀ (r j n : Nat) (M : MM) (f : Nat → Option Int) (bs ws : List AV), j + r = xs.length → r < n → p < M.nx → sid < M.nx → b < M.nx → w < M.nx → M.mem p = some (.cells 52 [.os sid 0 len 5]) → M.mem sid = some (.cells 68 fl) → M.mem b = some (.cells 5 bs) → M.mem w = some (.cells 4 ws) → BW f size bs ws →
      Wp (b11_7 call GK.nl 0 n (.ptr p 0) (.i at0) (.i k) x (.i xs.length) (.i j) M) fun y => y.1 = .i 0 ∧ M.nx ≤ y.2.nx ∧ ∃ bs' ws', y.2.mem b = some (.cells 5 bs') ∧ y.2.mem w = some (.cells 4 ws') ∧ BW (wrF f (at0 + j) (xs.drop j)) size bs' ws' ∧ ∀ z, z ≠ b → z ≠ w → y.2.mem z = M.mem z := by
  intro r
  induction r with
  | zero =>
    intro j n M f bs ws hj hn hp hs hbn hwn m1 m2 m3 m4 hBW
    obtain ⟨n, rfl⟩ : ∃ k, n = k + 1 := ⟨n - 1, by omega⟩
    unfold b11_7
    repeat (first | (with_reducible (first | refine rn_if_f ?_)) | ((with_reducible refine rn_lss_f ?_ ?_); focus omega))
    refine rn_done ⟨rfl, Nat.le_refl _, bs, ws, m3, m4, ?_, fun _ _ _ => rfl⟩
    have : xs.drop j = [] := List.drop_of_length_le (by omega)
    rw [this]; exact hBW
  | succ r ih =>
    intro j n M f bs ws hj hn hp hs hbn hwn m1 m2 m3 m4 hBW
    obtain ⟨n, rfl⟩ : ∃ k, n = k + 1 := ⟨n - 1, by omega⟩
    have hjl : j < xs.length := by omega
    obtain ⟨v, hv1, hv2⟩ := hx.2 j hjl
    have hv2' := hv2 (lk M)
    have hbj := hb _ (List.getElem_mem hjl)
    have hdrop : xs.drop j = xs[j] :: xs.drop (j + 1) := List.drop_eq_getElem_cons hjl
    have hwr : wrF f (at0 + j) (xs.drop j) = wrF (setF f (at0 + j) xs[j]) (at0 + (j + 1)) (xs.drop (j + 1)) := by rw [hdrop]; rfl
    have hB1 := hBW.1
    have hB2 := hBW.2.1
    have e3 : 0 + ((at0 : Int) + (j : Int)).toNat * 1 = at0 + j := by omega
    unfold b11_7
    repeat (first | (with_reducible (first | refine rn_bumpk ?_ | refine rn_opt hv1 ?_ | refine rn_opt hv2' ?_)) | ((with_reducible apply rn_ld); (focus exact ok_lt hp); (focus exact m1); (focus exact rfl)) | ((with_reducible apply rn_ld); (focus exact ok_lt hs); (focus exact m2); (focus (first | exact g3 | exact g4))) | (with_reducible (first | refine rn_if_t ?_ | refine rn_nilc ?_ | refine rn_fad ?_)) | ((with_reducible refine rn_add64 ?_ ?_); focus omega) | ((with_reducible refine rn_lss_t ?_ ?_); focus omega) | ((with_reducible refine rn_ixs ?_ ?_); focus omega))
    rw [e3]
    refine rn_st1 rfl (ok_lt hbn) m3 ⟨Nat.zero_le _, rfl, rfl⟩ (by omega) rfl ?_
    repeat (first | ((with_reducible refine rn_ixs ?_ ?_); focus omega))
    rw [e3]
    refine rn_st1 rfl (ok_lt hwn) (by rw [put_ne _ _ _ _ (Ne.symm hbw)]; exact m4) ⟨Nat.zero_le _, rfl, rfl⟩ (by omega) rfl ?_
    repeat (first | ((with_reducible refine rn_add64 ?_ ?_); focus omega))
    generalize hM2 : MM.put _ w _ = M2
    have n2 : M2.nx = M.nx + 27 := by subst hM2; rfl
    have c1 : M2.mem b = some (.cells 5 (bs.set (at0 + j) (.int .u8 xs[j]))) := by subst hM2; rw [put_ne _ _ _ _ hbw]; exact put_same _ _ _
    have c2 : M2.mem w = some (.cells 4 (ws.set (at0 + j) (.bool true))) := by subst hM2; exact put_same _ _ _
    have c3 : ∀ z, z ≠ b → z ≠ w → M2.mem z = M.mem z := fun z h1 h2 => by subst hM2; rw [put_ne _ _ _ _ h2, put_ne _ _ _ _ h1]; rfl
    clear hM2
    have := ih (j + 1) n M2 (setF f (at0 + j) xs[j]) _ _ (by omega) (by omega) (by omega) (by omega) (by omega) (by omega) (by rw [c3 p hpb hpw]; exact m1) (by rw [c3 sid hsb hsw]; exact m2) c1 c2 (hBW.set (by omega) _)
    refine Wp.mono (o := b11_7 call GK.nl 0 n (.ptr p 0) (.i at0) (.i k) x (.i xs.length) (.i ((j : Int) + 1)) M2) this fun y hy => ?_
    obtain ⟨q1, q2, bs', ws', q3, q4, q5, q6⟩ := hy
    exact ⟨q1, by omega, bs', ws', q3, q4, by rw [hwr]; exact q5, fun z h1 h2 => by rw [q6 z h1 h2, c3 z h1 h2]⟩
variable (hc : Lim GK call) (h : RM L M p l sl bw) {a : Int} (ha : 0 ≤ a ∧ a ≤ 18446744073709551615) (hl : l.length ≤ 1000000)
include hc h ha hl
theorem rwrite_ok {x : AV} {xs : List Int} (hx : BX x xs) (hb : ∀ b ∈ xs, 0 ≤ b ∧ b ≤ 255) (hbl : xs.length ≤ 1000) {at0 : Int} (hat : -9223372036854775808 ≤ at0 ∧ at0 ≤ 9223372036854775807) :
    Wp (call 11 [.ptr p 0, .int .u64 a, .i at0, x] 0 M) (Pst2 L M p (.i (sWrite l a at0 xs).1) (sWrite l a at0 xs).2) := by
  have hx1 : lenA x = some (.i xs.length) := hx.1
  have hp := h.plt
  have hrt := h.root
  rw [q11 hc]; unfold s11
  refine rn_rfind hc h ha hl h.oks (fun e => ?_) (fun k o e hk hal hkl => ?_)
  · repeat (first | (with_reducible (first | refine rn_if_t ?_)) | ((with_reducible refine rn_lss_t ?_ ?_); focus omega))
    refine rn_done ?_
    simp only [sWrite, e]
    exact Pst2.same h rfl (Nat.le_refl _)
  · obtain ⟨b, sid, hb2, rfl, hsid, hsm, hLs, hsp, _, hget⟩ := h.at hk
    have g3 := h.cell (sid := sid) hal hget 3 (by omega)
    have g4 := h.cell (sid := sid) hal hget 4 (by omega)
    obtain ⟨q1, q2, q3, bs, ws, q4, q5, q6⟩ := h.obs k o b hk hb2 hal
    have bad : ¬ (0 ≤ at0 ∧ at0 ≤ o.size ∧ (xs.length : Int) ≤ o.size - at0) → Wp (some (AV.i 20, M)) (Pst2 L M p (.i (sWrite l a at0 xs).1) (sWrite l a at0 xs).2) := fun c => by
      simp only [sWrite, e, if_neg c]
      exact rn_done (Pst2.same h rfl (Nat.le_refl _))
    by_cases c1 : at0 < 0
    · repeat (first | (with_reducible (first | refine rn_if_t ?_ | refine rn_if_f ?_ | refine rn_gp_tf ?_ | refine rn_pt ?_)) | ((with_reducible refine rn_lss_t ?_ ?_); focus omega) | ((with_reducible refine rn_lss_f ?_ ?_); focus omega))
      exact bad (by omega)
    by_cases c2 : at0 > o.size
    · repeat (first | ((with_reducible apply rn_ld); (focus exact ok_top.2 hp); (focus exact hrt); (focus exact rfl)) | ((with_reducible apply rn_ld); (focus exact ok_top.2 hsid); (focus exact hsm); (focus exact g3)) | (with_reducible (first | refine rn_some ?_ | refine rn_if_t ?_ | refine rn_if_f ?_ | refine rn_gp_ff ?_ | refine rn_gp_tf ?_ | refine rn_pt ?_ | refine rn_pf ?_ | refine rn_len_os ?_ | refine rn_nilc ?_ | refine rn_fad ?_)) | ((with_reducible refine rn_lss_f ?_ ?_); focus omega) | ((with_reducible refine rn_gtr_t ?_ ?_); focus omega) | ((with_reducible refine rn_ixs ?_ ?_); focus omega))
      exact bad (by omega)
    by_cases c3 : (xs.length : Int) > o.size - at0
    · repeat (first | ((with_reducible apply rn_ld); (focus exact ok_top.2 hp); (focus exact hrt); (focus exact rfl)) | ((with_reducible apply rn_ld); (focus exact ok_top.2 hsid); (focus exact hsm); (focus exact g3)) | ((with_reducible refine rn_gp_ff ?_); with_reducible refine rn_opt hx1 ?_) | (with_reducible (first | refine rn_some ?_ | refine rn_if_t ?_ | refine rn_if_f ?_ | refine rn_gp_ff ?_ | refine rn_pf ?_ | refine rn_len_os ?_ | refine rn_nilc ?_ | refine rn_fad ?_)) | ((with_reducible refine rn_sub64 ?_ ?_); focus omega) | ((with_reducible refine rn_lss_f ?_ ?_); focus omega) | ((with_reducible refine rn_gtr_t ?_ ?_); focus omega) | ((with_reducible refine rn_gtr_f ?_ ?_); focus omega) | ((with_reducible refine rn_ixs ?_ ?_); focus omega))
      exact bad (by omega)
    repeat (first | ((with_reducible apply rn_ld); (focus exact ok_top.2 hp); (focus exact hrt); (focus exact rfl)) | ((with_reducible apply rn_ld); (focus exact ok_top.2 hsid); (focus exact hsm); (focus exact g3)) | ((with_reducible refine rn_gp_ff ?_); with_reducible refine rn_opt hx1 ?_) | (with_reducible (first | refine rn_opt hx1 ?_ | refine rn_some ?_ | refine rn_if_f ?_ | refine rn_gp_ff ?_ | refine rn_pf ?_ | refine rn_len_os ?_ | refine rn_nilc ?_ | refine rn_fad ?_)) | ((with_reducible refine rn_sub64 ?_ ?_); focus omega) | ((with_reducible refine rn_lss_f ?_ ?_); focus omega) | ((with_reducible refine rn_gtr_f ?_ ?_); focus omega) | ((with_reducible refine rn_ixs ?_ ?_); focus omega))
    have hat2 : ((at0.toNat : Nat) : Int) = at0 := by omega
    have t1 : ∀ {i j : Nat} {t u : Tag}, L i = some t → L j = some u → t ≠ u → i ≠ j := fun h1 h2 hne e => by rw [e, h2] at h1; injection h1 with h1; exact hne h1.symm
    have hlp := rwrite_loop (call := call) p sid k b.1 b.2 o.size l.length x xs hb at0.toNat (by omega) q1 hx _ hkl g3 g4 (t1 h.rl q2 (fun e => by cases e)) (t1 h.rl q3 (fun e => by cases e)) (t1 hLs q2 (fun e => by cases e)) (t1 hLs q3 (fun e => by cases e)) (t1 q2 q3 (fun e => by cases e))
      xs.length 0 GK.nl M o.f bs ws (by omega) (by show _ < 18446744073709551616; omega) hp hsid (h.dom _ (by rw [q2]; simp)).1 (h.dom _ (by rw [q3]; simp)).1 hrt hsm q4 q5 q6
    rw [hat2] at hlp
    refine Wp.mono (o := b11_7 call GK.nl 0 GK.nl (.ptr p 0) (.i at0) (.i k) x (.i xs.length) (.i 0) M) hlp fun y hy => ?_
    obtain ⟨r1, r2, bs', ws', r3, r4, r5, r6⟩ := hy
    have c : 0 ≤ at0 ∧ at0 ≤ o.size ∧ (xs.length : Int) ≤ o.size - at0 := by omega
    simp only [sWrite, e, if_pos c]
    obtain ⟨g1, g2⟩ := h.wrote hk hb2 hal r2 q2 q3 r3 r4 r5 r6
    exact ⟨r1, _, _, _, g1, g2⟩
end
end Go.Proofs.Ytegkhdflmboljaa.Sx

namespace Go.Proofs.Ytegkhdflmboljaa.Sx
open Go
set_option maxRecDepth 1000000
set_option linter.unusedSimpArgs false
set_option linter.unusedVariables false
set_option linter.unusedSectionVars false
theorem BW.read {f : Nat → Option Int} {n : Nat} {bs ws : List AV} (h : BW f n bs ws) : ∀ (r i : Nat) (xs : List Int), i + r ≤ n → rdF f i r = some xs → (bs.drop i).take r = (dB xs).map .d ∧ xs.length = r
  | 0, i, xs, _, hr => by
    simp only [rdF, Option.some.injEq] at hr; subst hr
    exact ⟨by simp [dB], rfl⟩
  | r + 1, i, xs, hi, hr => by
    obtain ⟨h1, h2, h3⟩ := h
    simp only [rdF] at hr
    have h4 := h3 i (by omega)
    split at hr
    · cases hr
    · rename_i b hb
      rw [hb] at h4
      obtain ⟨ys, hy, rfl⟩ := Option.map_eq_some_iff.1 hr
      obtain ⟨g1, g2⟩ := BW.read ⟨h1, h2, h3⟩ r (i + 1) ys (by omega) hy
      have hil : i < bs.length := by omega
      have e : bs[i] = .int .u8 b := by have := h4.1; rw [List.getElem?_eq_getElem hil] at this; exact Option.some.inj this
      rw [List.drop_eq_getElem_cons hil, List.take_succ_cons, g1, e]
      exact ⟨rfl, by simp [g2]⟩
section
variable {R : Type} {r : R → Prop} {call : CallT} {mode : FuncId → Mode} {draw : Bool} {lo : Nat} {lim : Lm} {fresh : Nat} {ρ : List AV} {M : MM} {k : AV → MM → Option R}
theorem rn_vapp0 {x : AV} {xs : List Int} (hx : sliceCells M.mem lim 1 x = some (xs.length, (dB xs).map .d)) (hn : xs.length ≤ 1000000000)
    (hk : ∀ w M1, RO w xs → Wp (k w M1) r) : Wp (bnd (istep call mode draw lo lim fresh (.vapp 5 1 1 [.int .u8 0] (.k .nilsl) (.k x)) ρ M) k) r := by
  have hd : (dB xs).length = xs.length := by simp [dB]
  by_cases h0 : xs.length = 0
  · refine rn_bnd (v := .nilsl) (M := M.up fresh) ?_ (hk _ _ (.inl ⟨rfl, List.eq_nil_of_length_eq_zero h0⟩))
    simp only [istep, ev, hx, mapM_toD]
    rw [if_pos h0]
  · refine rn_bnd (v := .ov fresh (dB xs) xs.length 1) (M := M.alloc fresh (.tok 5 xs.length)) ?_ (hk _ _ (.inr ⟨fresh, rfl⟩))
    simp only [istep, ev, hx, mapM_toD]
    rw [if_neg h0, if_pos ⟨by omega, by omega, rfl⟩, Nat.mul_one]
end
section
variable {L : Nat → Option Tag} {M : MM} {p : Nat} {l : List Ob} {sl : AV} {bw : List (Nat × Nat)} {call : CallT}
theorem rread_loop (lo sid k b w size len : Nat) (f : Nat → Option Int) (at0 n0 : Nat) (hat : at0 + n0 ≤ size) (hsz : size ≤ 4194304) (fl bs ws : List AV) (hkl : k < len) (hp : p < M.nx) (hs : sid < M.nx) (hwn : w < M.nx) (m1 : M.mem p = some (.cells 52 [.os sid 0 len 5])) (m2 : M.mem sid = some (.cells 68 fl))
    (g4 : fl[0 + ((k : Nat) : Int).toNat * 5 + 4]? = some (.os w 0 size 1)) (m4 : M.mem w = some (.cells 4 ws)) (hBW : BW f size bs ws) {Q : AV × MM → Prop} :
    ∀ (r i n : Nat), i + r = at0 + n0 → r < n → (rdF f i r ≠ none → Wp (b13_5 call GK.nl lo (.ptr p 0) (.i at0) (.i n0) (.i k) M) Q) → (rdF f i r = none → Q (.tup [.nilsl, .i 24], M)) → Wp (b13_7 call GK.nl lo n (.ptr p 0) (.i at0) (.i n0) (.i k) (.i i) M) Q := by
  intro r
  induction r with
  | zero =>
    intro i n hi hn h1 h2
    obtain ⟨n, rfl⟩ : ∃ k, n = k + 1 := ⟨n - 1, by omega⟩
    unfold b13_7
    repeat (first | (with_reducible (first | refine rn_if_f ?_ | refine rn_nilc ?_ | refine rn_fad ?_)) | ((with_reducible refine rn_add64 ?_ ?_); focus omega) | ((with_reducible refine rn_lss_f ?_ ?_); focus omega))
    exact h1 (by simp [rdF])
  | succ r ih =>
    intro i n hi hn h1 h2
    obtain ⟨n, rfl⟩ : ∃ k, n = k + 1 := ⟨n - 1, by omega⟩
    have h4 := hBW.2.2 i (by omega)
    have e3 : 0 + ((i : Nat) : Int).toNat * 1 = i := by omega
    unfold b13_7
    repeat (first | ((with_reducible apply rn_ld); (focus exact ok_top.2 hp); (focus exact m1); (focus exact rfl)) | ((with_reducible apply rn_ld); (focus exact ok_top.2 hs); (focus exact m2); (focus exact g4)) | (with_reducible (first | refine rn_if_t ?_ | refine rn_nilc ?_ | refine rn_fad ?_)) | ((with_reducible refine rn_add64 ?_ ?_); focus omega) | ((with_reducible refine rn_lss_t ?_ ?_); focus omega) | ((with_reducible refine rn_ixs ?_ ?_); focus omega))
    rw [e3]
    cases hf : f i with
    | none =>
      rw [hf] at h4
      refine rn_ld (ok_top.2 hwn) m4 h4 ?_
      repeat (first | (with_reducible (first | refine rn_if_t ?_ | refine rn_not_f ?_)))
      exact rn_done (h2 (by simp [rdF, hf]))
    | some v =>
      rw [hf] at h4
      refine rn_ld (ok_top.2 hwn) m4 h4.2 ?_
      repeat (first | (with_reducible (first | refine rn_if_f ?_ | refine rn_not_t ?_)) | ((with_reducible refine rn_add64 ?_ ?_); focus omega))
      have := ih (i + 1) n (by omega) (by omega) (fun hh => h1 (by simp only [rdF, hf]; intro e; exact hh (by simpa using e))) (fun hh => h2 (by simp only [rdF, hf, hh]; rfl))
      exact this
variable (hc : Lim GK call) (h : RM L M p l sl bw) {a : Int} (ha : 0 ≤ a ∧ a ≤ 18446744073709551615) (hl : l.length ≤ 1000000)
include hc h ha hl
theorem rread_ok {at0 n : Int} (hat : -9223372036854775808 ≤ at0 ∧ at0 ≤ 9223372036854775807) (hn : -9223372036854775808 ≤ n ∧ n ≤ 9223372036854775807) (lo : Nat) :
    Wp (call 13 [.ptr p 0, .int .u64 a, .i at0, .i n] lo M) fun y => ∃ w, y.1 = .tup [w, .i (sRead l a at0 n).2] ∧ RO w (sRead l a at0 n).1 := by
  have hp := h.plt
  have hrt := h.root
  rw [q13 hc]; unfold s13
  refine rn_rfind hc h ha hl h.oks (fun e => ?_) (fun k o e hk hal hkl => ?_)
  · repeat (first | (with_reducible (first | refine rn_if_t ?_)) | ((with_reducible refine rn_lss_t ?_ ?_); focus omega))
    refine rn_done ?_
    simp only [sRead, e]
    exact ⟨_, rfl, .inl ⟨rfl, rfl⟩⟩
  · obtain ⟨b, sid, hb2, rfl, hsid, hsm, hLs, hsp, _, hget⟩ := h.at hk
    have g3 := h.cell (sid := sid) hal hget 3 (by omega)
    have g4 := h.cell (sid := sid) hal hget 4 (by omega)
    obtain ⟨q1, q2, q3, bs, ws, q4, q5, q6⟩ := h.obs k o b hk hb2 hal
    have bad : ¬ (0 ≤ at0 ∧ 0 ≤ n ∧ at0 ≤ o.size ∧ n ≤ o.size - at0) → Wp (some (AV.tup [.nilsl, .i 20], M)) (fun y => ∃ w, y.1 = .tup [w, .i (sRead l a at0 n).2] ∧ RO w (sRead l a at0 n).1) := fun c => by
      simp only [sRead, e, if_neg c]
      exact rn_done ⟨_, rfl, .inl ⟨rfl, rfl⟩⟩
    by_cases c1 : at0 < 0
    · repeat (first | (with_reducible (first | refine rn_if_t ?_ | refine rn_if_f ?_ | refine rn_gp_tf ?_ | refine rn_pt ?_)) | ((with_reducible refine rn_lss_t ?_ ?_); focus omega) | ((with_reducible refine rn_lss_f ?_ ?_); focus omega))
      exact bad (by omega)
    by_cases c1' : n < 0
    · repeat (first | (with_reducible (first | refine rn_some ?_ | refine rn_if_t ?_ | refine rn_if_f ?_ | refine rn_gp_ff ?_ | refine rn_gp_tf ?_ | refine rn_pt ?_ | refine rn_pf ?_)) | ((with_reducible refine rn_lss_t ?_ ?_); focus omega) | ((with_reducible refine rn_lss_f ?_ ?_); focus omega))
      exact bad (by omega)
    by_cases c2 : at0 > o.size
    · repeat (first | ((with_reducible apply rn_ld); (focus exact ok_top.2 hp); (focus exact hrt); (focus exact rfl)) | ((with_reducible apply rn_ld); (focus exact ok_top.2 hsid); (focus exact hsm); (focus exact g3)) | (with_reducible (first | refine rn_some ?_ | refine rn_if_t ?_ | refine rn_if_f ?_ | refine rn_gp_ff ?_ | refine rn_gp_tf ?_ | refine rn_pt ?_ | refine rn_pf ?_ | refine rn_len_os ?_ | refine rn_nilc ?_ | refine rn_fad ?_)) | ((with_reducible refine rn_lss_f ?_ ?_); focus omega) | ((with_reducible refine rn_gtr_t ?_ ?_); focus omega) | ((with_reducible refine rn_ixs ?_ ?_); focus omega))
      exact bad (by omega)
    by_cases c3 : n > o.size - at0
    · repeat (first | ((with_reducible apply rn_ld); (focus exact ok_top.2 hp); (focus exact hrt); (focus exact rfl)) | ((with_reducible apply rn_ld); (focus exact ok_top.2 hsid); (focus exact hsm); (focus exact g3)) | (with_reducible (first | refine rn_some ?_ | refine rn_if_t ?_ | refine rn_if_f ?_ | refine rn_gp_ff ?_ | refine rn_pf ?_ | refine rn_len_os ?_ | refine rn_nilc ?_ | refine rn_fad ?_)) | ((with_reducible refine rn_sub64 ?_ ?_); focus omega) | ((with_reducible refine rn_lss_f ?_ ?_); focus omega) | ((with_reducible refine rn_gtr_t ?_ ?_); focus omega) | ((with_reducible refine rn_gtr_f ?_ ?_); focus omega) | ((with_reducible refine rn_ixs ?_ ?_); focus omega))
      exact bad (by omega)
    repeat (first | ((with_reducible apply rn_ld); (focus exact ok_top.2 hp); (focus exact hrt); (focus exact rfl)) | ((with_reducible apply rn_ld); (focus exact ok_top.2 hsid); (focus exact hsm); (focus exact g3)) | (with_reducible (first | refine rn_some ?_ | refine rn_if_f ?_ | refine rn_gp_ff ?_ | refine rn_pf ?_ | refine rn_len_os ?_ | refine rn_nilc ?_ | refine rn_fad ?_)) | ((with_reducible refine rn_sub64 ?_ ?_); focus omega) | ((with_reducible refine rn_lss_f ?_ ?_); focus omega) | ((with_reducible refine rn_gtr_f ?_ ?_); focus omega) | ((with_reducible refine rn_ixs ?_ ?_); focus omega))
    have c : 0 ≤ at0 ∧ 0 ≤ n ∧ at0 ≤ o.size ∧ n ≤ o.size - at0 := by omega
    simp only [sRead, e, if_pos c]
    obtain ⟨at0, rfl⟩ : ∃ m : Nat, at0 = m := ⟨at0.toNat, by omega⟩
    obtain ⟨n, rfl⟩ : ∃ m : Nat, n = m := ⟨n.toNat, by omega⟩
    have hbn := (h.dom _ (by rw [q2]; simp)).1
    have hsz := q6.1
    refine rread_loop lo sid k b.1 b.2 o.size l.length o.f at0 n (by omega) q1 _ bs ws hkl hp hsid (h.dom _ (by rw [q3]; simp)).1 hrt hsm g4 q5 q6 n at0 GK.nl rfl (by show _ < 18446744073709551616; omega) (fun hh => ?_) (fun hh => ?_)
    · cases hrd : rdF o.f at0 n with
      | none => exact absurd hrd hh
      | some xs =>
        obtain ⟨z1, z2⟩ := q6.read n at0 xs (by omega) hrd
        repeat (first | ((with_reducible apply rn_ld); (focus exact ok_top.2 hp); (focus exact hrt); (focus exact rfl)) | ((with_reducible apply rn_ld); (focus exact ok_top.2 hsid); (focus exact hsm); (focus exact g3)) | (with_reducible (first | refine rn_nilc ?_ | refine rn_fad ?_)) | ((with_reducible refine rn_add64 ?_ ?_); focus omega) | ((with_reducible refine rn_ixs ?_ ?_); focus omega))
        have hsl : ∃ x, slslA 1 (.os b.1 0 o.size 1) (some (.i at0)) (some (.i ((at0 : Int) + n))) = some x ∧ sliceCells M.mem (.top M.nx) 1 x = some (xs.length, (dB xs).map .d) := by
          simp only [slslA, hiA, loA, asI]
          rw [if_pos ⟨by omega, by omega, by omega, by first | rfl | trivial⟩]
          by_cases a0 : (at0 : Int) = 0
          · rw [if_pos a0]
            refine ⟨_, rfl, ?_⟩
            have e0 : at0 = 0 := by omega
            subst e0
            have e1 : (((0 : Nat) : Int) + (n : Int)).toNat = n := by omega
            simp only [sliceCells, look_ok (ok_top.2 hbn), q4, e1]
            rw [if_pos ⟨trivial, by omega⟩, Nat.mul_one, z1, z2]
          · rw [if_neg a0]
            by_cases a1 : (at0 : Int) = (at0 : Int) + n
            · rw [if_pos a1]
              refine ⟨_, rfl, ?_⟩
              have e0 : n = 0 := by omega
              subst e0
              have : xs = [] := List.eq_nil_of_length_eq_zero z2
              subst this
              rfl
            · rw [if_neg a1]
              refine ⟨_, rfl, ?_⟩
              have e1 : ((at0 : Int) + (n : Int) - (at0 : Int)).toNat = n := by omega
              have e2 : 0 + ((at0 : Nat) : Int).toNat * 1 = at0 := by omega
              simp only [sliceCells, look_ok (ok_top.2 hbn), q4, e1, e2]
              rw [if_pos ⟨trivial, by omega⟩, Nat.mul_one, z1, z2]
        obtain ⟨x, x1, x2⟩ := hsl
        refine rn_opt x1 ?_
        refine rn_vapp0 x2 (by omega) fun w M1 hw => ?_
        refine rn_done ?_
        simp only [Int.toNat_natCast, hrd]
        exact ⟨w, rfl, hw⟩
    · simp only [Int.toNat_natCast, hh]
      exact ⟨_, rfl, .inl ⟨rfl, rfl⟩⟩
theorem rn_rread {R : Type} {r : R → Prop} {lim : Lm} {k : AV → Option R} (hlim : ∀ id, L id ≠ none → lim.ok id = true) {at0 n : Int} (hat : -9223372036854775808 ≤ at0 ∧ at0 ≤ 9223372036854775807) (hn : -9223372036854775808 ≤ n ∧ n ≤ 9223372036854775807)
    (hk : Wp (k (.tup [RB (sRead l a at0 n).1, .i (sRead l a at0 n).2])) r) : Wp (opt (roA call lim 13 [.ptr p 0, .int .u64 a, .i at0, .i n] M) k) r := by
  obtain ⟨⟨v, M'⟩, e, w, e1, e2⟩ := rread_ok hc (h.look hlim) ha hl hat hn M.nx
  simp only at e1; subst e1
  rcases e2 with ⟨rfl, e3⟩ | ⟨id, rfl⟩
  · refine rn_opt (v := .tup [RB (sRead l a at0 n).1, .i (sRead l a at0 n).2]) ?_ hk
    simp only [roA]
    rw [e, RB, e3]
    simp only [dB, List.map_nil, List.length_nil, freeze, List.mapM_cons, List.mapM_nil, freezeA, freeze1, freezeD, Option.pure_def, Option.bind_eq_bind, Option.bind_some, Option.map_some, normD]
  · refine rn_opt (v := .tup [RB (sRead l a at0 n).1, .i (sRead l a at0 n).2]) ?_ hk
    simp only [roA]
    rw [e, RB]
    simp only [freeze, List.mapM_cons, List.mapM_nil, freezeA, freeze1, freezeD, Option.pure_def, Option.bind_eq_bind, Option.bind_some, Option.map_some, normD]
end
end Go.Proofs.Ytegkhdflmboljaa.Sx
