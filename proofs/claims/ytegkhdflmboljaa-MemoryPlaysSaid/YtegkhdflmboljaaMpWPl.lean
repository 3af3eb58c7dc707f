/- MEMORY: New, Make. -/
import Derived.Test.YtegkhdflmboljaaMpTPl
namespace Go.Proofs.Ytegkhdflmboljaa.Sx
open Go
set_option maxRecDepth 1000000
set_option linter.unusedSimpArgs false
set_option linter.unusedVariables false
section
variable {R : Type} {r : R → Prop} {call : CallT} {mode : FuncId → Mode} {draw : Bool} {lo : Nat} {lim : Lm} {fresh : Nat} {ρ : List AV} {M : MM} {k : AV → MM → Option R}
theorem rn_app0 {t : TypeId} {sz bytes : Nat} {zero news : List AV} {x : AV} {n : Nat} {M1 : MM} (e : M.alloc fresh (.cells t news) = M1) (h1 : sliceCells M.mem (.top M.nx) sz x = some (n, news)) (h2 : news.all AV.one = true) (h3 : n ≠ 0 ∧ n * bytes ≤ 140737488355328 ∧ n ≤ 9223372036854775807 ∧ zero.length = sz)
    (hk : Wp (k (.os fresh 0 n sz) M1) r) : Wp (bnd (istep call mode draw lo lim fresh (.app t sz bytes zero (.k .nilsl) (.k x)) ρ M) k) r := by
  subst e
  refine rn_bnd (v := .os fresh 0 n sz) (M := M.alloc fresh (.cells t news)) ?_ hk
  simp only [istep, ev, h1, h2, h3.1, h3.2, if_true, if_false, and_self]
theorem rn_app {t : TypeId} {sz bytes : Nat} {zero news cs : List AV} {x : AV} {n id len : Nat} {M1 : MM} (e : ({ nx := max M.nx (fresh + 1), mem := upd (upd M.mem id none) fresh (some (.cells t (cs ++ news))) } : MM) = M1) (h1 : sliceCells M.mem (.top M.nx) sz x = some (n, news)) (h2 : news.all AV.one = true) (h4 : id < M.nx) (h5 : M.mem id = some (.cells t cs))
    (h3 : lo ≤ id ∧ cs.length = len * sz ∧ (len + n) * bytes ≤ 140737488355328 ∧ len + n ≤ 9223372036854775807 ∧ zero.length = sz)
    (hk : Wp (k (.os fresh 0 (len + n) sz) M1) r) :
    Wp (bnd (istep call mode draw lo lim fresh (.app t sz bytes zero (.k (.os id 0 len sz)) (.k x)) ρ M) k) r := by
  subst e
  refine rn_bnd (v := .os fresh 0 (len + n) sz) (M := { nx := max M.nx (fresh + 1), mem := upd (upd M.mem id none) fresh (some (.cells t (cs ++ news))) }) ?_ hk
  obtain ⟨a1, a2, a3, a4, a5⟩ := h3
  simp only [istep, ev, h1, h2, look_ok (ok_top.2 h4), h5, a1, a3, a4, a5, if_true, and_self, true_and, ← a2, Nat.le_refl, List.take_length]
end
theorem alloc_same (M : MM) (i : Nat) (b : Blk) : (M.alloc i b).mem i = some b := by simp [MM.alloc, upd]
theorem alloc_ne (M : MM) (i x : Nat) (b : Blk) (h : x ≠ i) : (M.alloc i b).mem x = M.mem x := by simp only [MM.alloc, upd]; rw [if_neg h]
theorem alloc_nx (M : MM) (b : Blk) : (M.alloc M.nx b).nx = M.nx + 1 := by simp only [MM.alloc]; omega
def newOb (size : Nat) (count : Int) : Ob := ⟨true, size, count, 1, fun _ => none⟩
def sMake (l : List Ob) (size count : Int) : Int × Int × List Ob :=
  if size < 0 ∨ size > 4194304 ∨ count < 0 ∨ count > 4096 then (0, 20, l) else (8 * ((l.length : Int) + 1), 0, l ++ [newOb size.toNat count])
def tagN (L : Nat → Option Tag) (n k : Nat) (sl : AV) : Nat → Option Tag := fun id =>
  if id = n + 3 then some .sl else if id = n + 1 then some (.ob k) else if id = n then some (.ck k) else if n ≤ id then none else if aidOf sl = some id then none else L id
section
variable {L : Nat → Option Tag} {M : MM} {p : Nat} {l : List Ob} {sl : AV} {ps : List Nat}
theorem IM.sid (h : IM L M p l sl ps) {id : Nat} (e : aidOf sl = some id) : L id = some .sl := by
  rcases h.sli with ⟨rfl, _⟩ | ⟨sid, rfl, h2, _⟩
  · cases e
  · injection e with e; subst e; exact h2
theorem IM.grow (h : IM L M p l sl ps) {M' : MM} {size : Nat} {count : Int} (hs : size ≤ 4194304) (hn : M'.nx = M.nx + 4) (m1 : M'.mem p = some (.cells 49 [.os (M.nx + 3) 0 (l.length + 1) 1, .i ((liveN l : Int) + 1)]))
    (m2 : M'.mem (M.nx + 3) = some (.cells 53 ((ps.map fun q => .ptr q 0) ++ [.ptr (M.nx + 1) 0]))) (m3 : M'.mem (M.nx + 1) = some (.cells 60 [.bool true, .i size, .i count, .i 1, .mp M.nx])) (m4 : M'.mem M.nx = some (.map (.int .i64) []))
    (m5 : ∀ id, id < M.nx → id ≠ p → aidOf sl ≠ some id → M'.mem id = M.mem id) :
    IM (tagN L M.nx l.length sl) M' p (l ++ [newOb size count]) (.os (M.nx + 3) 0 (l.length + 1) 1) (ps ++ [M.nx + 1]) ∧ Gr L (tagN L M.nx l.length sl) M M' := by
  have hp := h.plt
  have hpa : aidOf sl ≠ some p := fun e => by have := h.sid e; rw [h.rl] at this; cases this
  have hlow : ∀ id, id < M.nx → tagN L M.nx l.length sl id = if aidOf sl = some id then none else L id := fun id hid => by
    simp only [tagN]; rw [if_neg (by omega), if_neg (by omega), if_neg (by omega), if_neg (by omega)]
  have hkeep : ∀ id t i, L id = some t → t.at = some i → tagN L M.nx l.length sl id = some t ∧ M'.mem id = M.mem id := fun id t i ht hi => by
    have hd := (h.dom id (by rw [ht]; simp)).1
    have ha : aidOf sl ≠ some id := fun e => by rw [h.sid e] at ht; injection ht with ht; subst ht; cases hi
    refine ⟨by rw [hlow id hd, if_neg ha]; exact ht, m5 id hd (fun e => ?_) ha⟩
    rw [e, h.rl] at ht; injection ht with ht; subst ht; cases hi
  have hll := h.len
  refine ⟨⟨fun id hid => ?_, by simp [hll], by rw [hlow p hp, if_neg hpa]; exact h.rl, ?_, .inr ⟨M.nx + 3, by simp [hll], by simp [tagN], by simpa using m2⟩, fun i q o hq ho => ?_⟩, ⟨by omega, fun id hid => ?_, fun id hid hL => m5 id hid (fun e => ?_) fun e => ?_⟩⟩
  · simp only [tagN] at hid
    by_cases e1 : id = M.nx + 3
    · rw [e1, m2]; exact ⟨by omega, by simp⟩
    · rw [if_neg e1] at hid
      by_cases e2 : id = M.nx + 1
      · rw [e2, m3]; exact ⟨by omega, by simp⟩
      · rw [if_neg e2] at hid
        by_cases e3 : id = M.nx
        · rw [e3, m4]; exact ⟨by omega, by simp⟩
        · rw [if_neg e3] at hid
          by_cases e4 : M.nx ≤ id
          · rw [if_pos e4] at hid; exact absurd rfl hid
          · rw [if_neg e4] at hid
            by_cases e5 : aidOf sl = some id
            · rw [if_pos e5] at hid; exact absurd rfl hid
            · rw [if_neg e5] at hid
              obtain ⟨d1, d2⟩ := h.dom id hid
              refine ⟨by omega, ?_⟩
              by_cases e6 : id = p
              · rw [e6, m1]; simp
              · rw [m5 id d1 e6 e5]; exact d2
  · rw [m1, liveN_append]
    have : liveN [newOb size count] = 1 := rfl
    rw [this]; rfl
  · by_cases e : i < ps.length
    · rw [List.getElem?_append_left e] at hq
      rw [List.getElem?_append_left (by omega)] at ho
      obtain ⟨h3, h4⟩ := h.obs i q o hq ho
      exact ⟨(hkeep q _ i h3 rfl).1, h4.mono h3 (by omega) fun id t ht hi => hkeep id t i ht hi⟩
    · have hi : i = ps.length := by
        have hlt : i < (ps ++ [M.nx + 1]).length := by
          rcases Nat.lt_or_ge i (ps ++ [M.nx + 1]).length with e | e
          · exact e
          · rw [List.getElem?_eq_none e] at hq; cases hq
        simp at hlt; omega
      subst hi
      rw [List.getElem?_append_right (by omega), Nat.sub_self] at hq
      rw [List.getElem?_append_right (by omega), hll, Nat.sub_self] at ho
      simp only [List.getElem?_cons_zero, Option.some.injEq] at hq ho
      subst hq ho
      refine ⟨by simp [tagN, hll], .inl ⟨rfl, hs, M.nx, [], m3, ⟨List.Pairwise.nil, fun q hq => by cases hq⟩, ⟨m4, by omega, by simp [tagN, hll], fun q _ r _ => rfl, fun q a ha => by simp [findM] at ha, fun q q' c hc => by simp [findM] at hc⟩⟩⟩
  · by_cases e : M.nx ≤ id
    · exact .inr e
    · rw [hlow id (by omega)] at hid
      by_cases e5 : aidOf sl = some id
      · rw [if_pos e5] at hid; exact absurd rfl hid
      · rw [if_neg e5] at hid; exact .inl hid
  · rw [e, h.rl] at hL; cases hL
  · rw [h.sid e] at hL; cases hL
variable {call : CallT} (hc : Lim GK call)
include hc
theorem make_ok (h : IM L M p l sl ps) (hl : l.length ≤ 100000) {size count : Int} (h1 : -9223372036854775808 ≤ size ∧ size ≤ 9223372036854775807) (h2 : -9223372036854775808 ≤ count ∧ count ≤ 9223372036854775807) :
    Wp (call 25 [.ptr p 0, .i size, .i count] 0 M) (Pst L M p (.tup [.int .u64 (sMake l size count).1, .i (sMake l size count).2.1]) (sMake l size count).2.2) := by
  rw [q25 hc]; unfold s25
  have bad : ∀ {M' : MM}, M' = M → (size < 0 ∨ size > 4194304 ∨ count < 0 ∨ count > 4096) → Wp (some (AV.tup [.int .u64 0, .i 20], M')) (Pst L M p (.tup [.int .u64 (sMake l size count).1, .i (sMake l size count).2.1]) (sMake l size count).2.2) := fun e hb => by
    subst e
    simp only [sMake, if_pos hb]
    exact rn_done (Pst.same h rfl (Nat.le_refl _))
  by_cases b1 : size < 0
  · repeat (first | (with_reducible (first | refine rn_if_t ?_ | refine rn_gp_tf ?_ | refine rn_pt ?_)) | ((with_reducible refine rn_lss_t ?_ ?_); focus omega))
    exact bad rfl (.inl b1)
  by_cases b2 : size > 4194304
  · repeat (first | (with_reducible (first | refine rn_some ?_ | refine rn_if_t ?_ | refine rn_gp_ff ?_ | refine rn_gp_tf ?_ | refine rn_pt ?_ | refine rn_pf ?_)) | ((with_reducible refine rn_lss_f ?_ ?_); focus omega) | ((with_reducible refine rn_gtr_t ?_ ?_); focus omega))
    exact bad rfl (.inr (.inl b2))
  by_cases b3 : count < 0
  · repeat (first | (with_reducible (first | refine rn_some ?_ | refine rn_if_t ?_ | refine rn_gp_ff ?_ | refine rn_gp_tf ?_ | refine rn_pt ?_ | refine rn_pf ?_)) | ((with_reducible refine rn_lss_t ?_ ?_); focus omega) | ((with_reducible refine rn_lss_f ?_ ?_); focus omega) | ((with_reducible refine rn_gtr_f ?_ ?_); focus omega))
    exact bad rfl (.inr (.inr (.inl b3)))
  by_cases b4 : count > 4096
  · repeat (first | (with_reducible (first | refine rn_some ?_ | refine rn_if_t ?_ | refine rn_gp_ff ?_ | refine rn_pf ?_)) | ((with_reducible refine rn_lss_f ?_ ?_); focus omega) | ((with_reducible refine rn_gtr_t ?_ ?_); focus omega) | ((with_reducible refine rn_gtr_f ?_ ?_); focus omega))
    exact bad rfl (.inr (.inr (.inr b4)))
  have hp := h.plt
  have hsz : ((size.toNat : Nat) : Int) = size := by omega
  have e0 : sMake l size count = (8 * ((l.length : Int) + 1), 0, l ++ [newOb size.toNat count]) := by simp only [sMake]; rw [if_neg (by omega)]
  rw [e0]
  have hlv := liveN_le l
  obtain ⟨M1, e1⟩ : ∃ x, M.alloc M.nx (.map (.int .i64) []) = x := ⟨_, rfl⟩
  have n1 : M1.nx = M.nx + 1 := by rw [← e1]; exact alloc_nx ..
  obtain ⟨M2, e2⟩ : ∃ x, M1.alloc M1.nx (.cells 60 [.bool true, .i size, .i count, .i 1, .mp M.nx]) = x := ⟨_, rfl⟩
  have n2 : M2.nx = M.nx + 2 := by rw [← e2, alloc_nx, n1]
  obtain ⟨M3, e3⟩ : ∃ x, M2.alloc M2.nx (.cells 53 [.ptr M1.nx 0]) = x := ⟨_, rfl⟩
  have n3 : M3.nx = M.nx + 3 := by rw [← e3, alloc_nx, n2]
  have lit : sliceCells M3.mem (.top M3.nx) 1 (.os M2.nx 0 1 1) = some (1, [.ptr M1.nx 0]) := by
    have : M3.mem M2.nx = some (.cells 53 [.ptr M1.nx 0]) := by rw [← e3]; exact alloc_same ..
    simp only [sliceCells, look_ok (ok_top.2 (show M2.nx < M3.nx by omega)), this]; rfl
  have hbox : M3.mem (M.nx + 1) = some (.cells 60 [.bool true, .i size, .i count, .i 1, .mp M.nx]) := by
    rw [← e3, alloc_ne _ _ _ _ (by omega), ← e2, ← n1]; exact alloc_same ..
  have hmap : M3.mem M.nx = some (.map (.int .i64) []) := by
    rw [← e3, alloc_ne _ _ _ _ (by omega), ← e2, alloc_ne _ _ _ _ (by omega), ← e1]; exact alloc_same ..
  have x3 : ∀ x, x < M.nx → M3.mem x = M.mem x := fun x hx => by
    rw [← e3, alloc_ne _ _ _ _ (by omega), ← e2, alloc_ne _ _ _ _ (by omega), ← e1, alloc_ne _ _ _ _ (by omega)]
  repeat (first | ((with_reducible apply rn_ld (ok_top.2 hp) h.root); focus exact rfl) | (with_reducible (first | refine rn_mkmap e1 ?_)) | ((with_reducible refine rn_opt (v := .agg [.bool true, .i size, .i count, .i 1, .mp M.nx]) ?_ ?_); focus exact rfl) | (with_reducible (first | refine rn_box e2 ?_)) | ((with_reducible refine rn_mksl (cs := [.ptr M1.nx 0]) e3 ?_ ?_); focus exact rfl) | (with_reducible (first | refine rn_some ?_ | refine rn_if_f ?_ | refine rn_gp_ff ?_ | refine rn_pf ?_ | refine rn_nilc ?_ | refine rn_fad ?_)) | ((with_reducible refine rn_lss_f ?_ ?_); focus omega) | ((with_reducible refine rn_gtr_f ?_ ?_); focus omega))
  -- behind the append
  have fin : ∀ (M4 : MM) (n : Nat), M4.nx = M.nx + 4 → n = l.length + 1 → M4.mem (M.nx + 3) = some (.cells 53 ((ps.map fun q => .ptr q 0) ++ [.ptr (M.nx + 1) 0])) → (∀ id, id < M.nx + 3 → aidOf sl ≠ some id → M4.mem id = M3.mem id) →
      Wp (opt (nilcA (.ptr p 0)) fun v36 => opt (fadA 0 v36) fun v37 => bnd (istep call modeF false 0 (.top M4.nx) M4.nx (.st 1 (.k v37) (.k (.os M3.nx 0 n 1))) [] M4) fun v38 M39 =>
        opt (nilcA (.ptr p 0)) fun v41 => opt (fadA 1 v41) fun v42 => opt (ld1A (lk M39) v42) fun v43 => opt (binA .add .none v43 (.i 1)) fun v44 => opt (nilcA (.ptr p 0)) fun v45 => opt (fadA 1 v45) fun v46 =>
        bnd (istep call modeF false 0 (.top M39.nx) M39.nx (.st 1 (.k v46) (.k v44)) [] M39) fun v47 M48 => opt (nilcA (.ptr p 0)) fun v50 => opt (fadA 0 v50) fun v51 => opt (ld1A (lk M48) v51) fun v52 => opt (lenA v52) fun v53 =>
        opt (binA .mul .none (.i 8) v53) fun v54 => opt (cviA .u64 v54) fun v55 => some (.tup [v55, (.i 0)], M48)) (Pst L M p (.tup [.int .u64 (8 * ((l.length : Int) + 1)), .i 0]) (l ++ [newOb size.toNat count])) := by
    intro M4 n hn4 en m2 mo
    subst en
    have hpa : aidOf sl ≠ some p := fun e => by have := h.sid e; rw [h.rl] at this; cases this
    have r4 : M4.mem p = some (.cells 49 [sl, .i (liveN l)]) := by rw [mo p (by omega) hpa, x3 p hp]; exact h.root
    have hp4 : p < M4.nx := by omega
    repeat (first | (with_reducible (first | refine rn_nilc ?_ | refine rn_fad ?_)))
    refine rn_st1 rfl (ok_top.2 hp4) r4 ⟨Nat.zero_le _, rfl, rfl⟩ (by simp) rfl ?_
    repeat (first | (with_reducible (first | refine rn_nilc ?_ | refine rn_fad ?_)))
    refine rn_ld (ok_top.2 hp4) (put_same _ _ _) rfl ?_
    repeat (first | (with_reducible (first | refine rn_nilc ?_ | refine rn_fad ?_)) | ((with_reducible refine rn_add64 ?_ ?_); focus omega))
    refine rn_st1 rfl (ok_top.2 hp4) (put_same _ _ _) ⟨Nat.zero_le _, rfl, rfl⟩ (by simp) rfl ?_
    repeat (first | (with_reducible (first | refine rn_nilc ?_ | refine rn_fad ?_)))
    refine rn_ld (ok_top.2 hp4) (put_same _ _ _) rfl ?_
    repeat (first | (with_reducible (first | refine rn_len_os ?_)) | ((with_reducible refine rn_mul64 ?_ ?_); focus omega) | ((with_reducible refine rn_cviu ?_ ?_); focus omega))
    refine rn_done ?_
    generalize hM' : MM.put _ p _ = M'
    have m1 : M'.mem p = some (.cells 49 [.os (M.nx + 3) 0 (l.length + 1) 1, .i ((liveN l : Int) + 1)]) := by subst hM'; rw [put_same, ← n3]; rfl
    have m6 : ∀ id, id ≠ p → M'.mem id = M4.mem id := fun id i1 => by subst hM'; rw [put_ne _ _ _ _ i1, put_ne _ _ _ _ i1]
    have m7 : M'.nx = M.nx + 4 := by subst hM'; exact hn4
    clear hM'
    have old : ∀ id, M.nx ≤ id → aidOf sl ≠ some id := fun id hid e => by have := (h.dom id (by rw [h.sid e]; simp)).1; omega
    obtain ⟨g1, g2⟩ := h.grow (M' := M') (size := size.toNat) (count := count) (by omega) m7 m1 (by rw [m6 _ (by omega)]; exact m2) (by rw [m6 _ (by omega), mo _ (by omega) (old _ (by omega)), hbox, hsz]) (by rw [m6 _ (by omega), mo _ (by omega) (old _ (by omega))]; exact hmap) (fun id i1 i2 i3 => by rw [m6 id i2, mo id (by omega) i3, x3 id i1])
    have e9 : (8 : Int) * ((l.length + 1 : Nat) : Int) = 8 * ((l.length : Int) + 1) := by omega
    rw [e9]
    exact ⟨rfl, _, _, _, g1, g2⟩
  have hll := h.len
  rcases h.sli with ⟨es1, es2⟩ | ⟨sid, es1, es2, es3⟩
  · subst es1 es2
    have hl0 : l.length = 0 := hll.symm
    refine rn_app0 (news := [.ptr M1.nx 0]) (n := 1) rfl lit rfl (by simp) ?_
    refine fin _ 1 (by rw [alloc_nx, n3]) (by omega) ?_ fun id hid _ => alloc_ne _ _ _ _ (by omega)
    rw [← n3, alloc_same, n1]; rfl
  · subst es1
    have hsid := (h.dom sid (by rw [es2]; simp)).1
    have hs3 : M3.mem sid = some (.cells 53 (ps.map fun q => .ptr q 0)) := by rw [x3 sid hsid]; exact es3
    refine rn_app (news := [.ptr M1.nx 0]) (n := 1) (cs := ps.map fun q => .ptr q 0) rfl lit rfl (by omega) hs3 ⟨Nat.zero_le _, by simp, by omega, by omega, rfl⟩ ?_
    refine fin _ (ps.length + 1) (by show max M3.nx (M3.nx + 1) = _; omega) (by omega) ?_ fun id hid hne => ?_
    · show upd _ M3.nx _ _ = _
      rw [← n3, upd_same, n1]
    · show upd _ M3.nx _ _ = _
      rw [upd_ne _ _ _ _ (by omega), upd_ne _ _ _ _ (fun e => hne (by rw [e]; rfl))]
end
end Go.Proofs.Ytegkhdflmboljaa.Sx

namespace Go.Proofs.Ytegkhdflmboljaa.Sx
open Go
set_option maxRecDepth 1000000
set_option linter.unusedSimpArgs false
set_option linter.unusedVariables false
def wrF (f : Nat → Option Int) (at0 : Nat) : List Int → Nat → Option Int
  | [] => f
  | b :: r => wrF (setF f at0 b) (at0 + 1) r
def BX (x : AV) (bs : List Int) : Prop :=
  lenA x = some (.i bs.length) ∧ ∀ j (h : j < bs.length), ∃ v, ixsA 1 x (.i (j : Int)) = some v ∧ ∀ lk, ld1A lk v = some (.int .u8 bs[j])
def sWrite (l : List Ob) (a at0 : Int) (bs : List Int) : Int × List Ob := match fnd l a with
  | none => (23, l)
  | some (k, o) => if 0 ≤ at0 ∧ at0 ≤ o.size ∧ (bs.length : Int) ≤ o.size - at0 then (0, l.set k { o with f := wrF o.f at0.toNat bs }) else (20, l)
section
variable {call : CallT} (hc : Lim GK call)
include hc
theorem within_ok {oid : Nat} {M : MM} {cs : List AV} (size at0 n : Int) (h1 : oid < M.nx) (h2 : M.mem oid = some (.cells 60 cs)) (h3 : cs[1]? = some (.i size)) (hs : 0 ≤ size ∧ size ≤ 4194304) (ha : -9223372036854775808 ≤ at0 ∧ at0 ≤ 9223372036854775807) (hn : -9223372036854775808 ≤ n ∧ n ≤ 9223372036854775807) (lo : Nat) :
    Wp (call 30 [.ptr oid 0, .i at0, .i n] lo M) (Ans (.bool (decide (0 ≤ at0 ∧ 0 ≤ n ∧ at0 ≤ size ∧ n ≤ size - at0))) M) := by
  rw [q30 hc]; unfold s30
  by_cases c1 : 0 ≤ at0
  · by_cases c2 : 0 ≤ n
    · by_cases c3 : at0 ≤ size
      · by_cases c4 : n ≤ size - at0
        · repeat (first | ((with_reducible apply rn_ld (ok_top.2 h1) h2); focus exact h3) | (with_reducible (first | refine rn_some ?_ | refine rn_gp_tt ?_ | refine rn_pt ?_ | refine rn_nilc ?_ | refine rn_fad ?_)) | ((with_reducible refine rn_sub64 ?_ ?_); focus omega) | ((with_reducible refine rn_leq_t ?_ ?_); focus omega) | ((with_reducible refine rn_geq_t ?_ ?_); focus omega))
          exact rn_ans' (by simp [c1, c2, c3, c4])
        · repeat (first | ((with_reducible apply rn_ld (ok_top.2 h1) h2); focus exact h3) | (with_reducible (first | refine rn_some ?_ | refine rn_gp_tt ?_ | refine rn_pt ?_ | refine rn_nilc ?_ | refine rn_fad ?_)) | ((with_reducible refine rn_sub64 ?_ ?_); focus omega) | ((with_reducible refine rn_leq_t ?_ ?_); focus omega) | ((with_reducible refine rn_leq_f ?_ ?_); focus omega) | ((with_reducible refine rn_geq_t ?_ ?_); focus omega))
          exact rn_ans' (by simp [c4])
      · repeat (first | ((with_reducible apply rn_ld (ok_top.2 h1) h2); focus exact h3) | (with_reducible (first | refine rn_some ?_ | refine rn_gp_tt ?_ | refine rn_gp_ft ?_ | refine rn_pt ?_ | refine rn_pf ?_ | refine rn_nilc ?_ | refine rn_fad ?_)) | ((with_reducible refine rn_leq_f ?_ ?_); focus omega) | ((with_reducible refine rn_geq_t ?_ ?_); focus omega))
        exact rn_ans' (by simp [c3])
    · repeat (first | (with_reducible (first | refine rn_some ?_ | refine rn_gp_tt ?_ | refine rn_gp_ft ?_ | refine rn_pt ?_ | refine rn_pf ?_)) | ((with_reducible refine rn_geq_t ?_ ?_); focus omega) | ((with_reducible refine rn_geq_f ?_ ?_); focus omega))
      exact rn_ans' (by simp [c2])
  · repeat (first | (with_reducible (first | refine rn_gp_ft ?_ | refine rn_pf ?_)) | ((with_reducible refine rn_geq_f ?_ ?_); focus omega))
    exact rn_ans' (by simp [c1])
theorem rn_within {R : Type} {r : R → Prop} {k : AV → Option R} {oid : Nat} {M : MM} {cs : List AV} {size at0 n : Int} (h1 : oid < M.nx) (h2 : M.mem oid = some (.cells 60 cs)) (h3 : cs[1]? = some (.i size)) (hs : 0 ≤ size ∧ size ≤ 4194304) (ha : -9223372036854775808 ≤ at0 ∧ at0 ≤ 9223372036854775807) (hn : -9223372036854775808 ≤ n ∧ n ≤ 9223372036854775807)
    (hk : Wp (k (.bool (decide (0 ≤ at0 ∧ 0 ≤ n ∧ at0 ≤ size ∧ n ≤ size - at0)))) r) : Wp (opt (roA call (.top M.nx) 30 [.ptr oid 0, .i at0, .i n] M) k) r := by
  have e : (⟨M.nx, look M.mem (.top M.nx)⟩ : MM).mem oid = some (.cells 60 cs) := by simp only [look_ok (ok_top.2 h1), h2]
  exact rn_roE (within_ok hc (M := ⟨M.nx, look M.mem (.top M.nx)⟩) size at0 n h1 e h3 hs ha hn M.nx) (fun x hx => hx.1) (fun m => rfl) hk
omit hc
theorem write_loop (oid m : Nat) (x : AV) (bs : List Int) (hb : ∀ b ∈ bs, 0 ≤ b ∧ b ≤ 255) (at0 : Nat) (hat : at0 + bs.length ≤ 4194304) (hx : BX x bs) (ocs : List AV) (ho4 : ocs[4]? = some (.mp m)) :
    ∀ (r j n : Nat) (M : MM) (f : Nat → Option Int) (own : Nat → Prop) (es : List (Value × AV)), j + r = bs.length → r < n → CK M m f own es → EKy es → oid < M.nx → ¬ own oid → M.mem oid = some (.cells 60 ocs) →
      Wp (b9_7 call GK.nl 0 n (.i at0) (.ptr oid 0) x (.i bs.length) (.i j) M) fun y => y.1 = .i 0 ∧ M.nx ≤ y.2.nx ∧ ∃ es', EKy es' ∧ CK y.2 m (wrF f (at0 + j) (bs.drop j)) (fun z => own z ∨ M.nx ≤ z) es' ∧ ∀ z, z < M.nx → ¬ own z → y.2.mem z = M.mem z := by
  have hnl : bs.length ≤ 4194304 := by omega
  intro r
  induction r with
  | zero =>
    intro j n M f own es hj hn hk hek ho hoo hoc
    obtain ⟨n, rfl⟩ : ∃ k, n = k + 1 := ⟨n - 1, by omega⟩
    unfold b9_7
    repeat (first | (with_reducible (first | refine rn_if_f ?_)) | ((with_reducible refine rn_lss_f ?_ ?_); focus omega))
    refine rn_done ⟨rfl, Nat.le_refl _, es, hek, ?_, fun _ _ _ => rfl⟩
    have : bs.drop j = [] := List.drop_of_length_le (by omega)
    rw [this]
    exact hk.own fun z _ _ hz => .inl hz
  | succ r ih =>
    intro j n M f own es hj hn hk hek ho hoo hoc
    obtain ⟨n, rfl⟩ : ∃ k, n = k + 1 := ⟨n - 1, by omega⟩
    have hjl : j < bs.length := by omega
    obtain ⟨v, hv1, hv2⟩ := hx.2 j hjl
    have hv2' := hv2 (lk M)
    have hbj := hb _ (List.getElem_mem hjl)
    have e1 : ((at0 : Int) + (j : Int)) / 256 = (((at0 + j) / 256 : Nat) : Int) := by omega
    have e2 : ((at0 : Int) + (j : Int)).tmod 256 = (((at0 + j) % 256 : Nat) : Int) := by rw [Int.tmod_eq_emod_of_nonneg (by omega)]; omega
    have hm1 := hk.mlt
    have hq256 : (at0 + j) % 256 < 256 := Nat.mod_lt _ (by omega)
    have hdm : 256 * ((at0 + j) / 256) + (at0 + j) % 256 = at0 + j := Nat.div_add_mod _ _
    have hdrop : bs.drop j = bs[j] :: bs.drop (j + 1) := List.drop_eq_getElem_cons hjl
    have hwr : wrF f (at0 + j) (bs.drop j) = wrF (setF f (at0 + j) bs[j]) (at0 + (j + 1)) (bs.drop (j + 1)) := by rw [hdrop]; rfl
    unfold b9_7
    repeat (first | (with_reducible (first | refine rn_opt hv1 ?_ | refine rn_opt hv2' ?_)) | ((with_reducible apply rn_ld (ok_top.2 ho) hoc); focus exact ho4) | rw [e1] | (with_reducible (first | refine rn_if_t ?_ | refine rn_nilc ?_ | refine rn_fad ?_)) | ((with_reducible refine rn_add64 ?_ ?_); focus omega) | ((with_reducible refine rn_quo64 ?_ ?_); focus omega) | ((with_reducible refine rn_lss_t ?_ ?_); focus omega))
    refine rn_lkp rfl (ok_top.2 hm1) hk.map ?_
    cases hq : findM (.int .i64 (((at0 + j) / 256 : Nat) : Int)) es with
    | some a =>
      obtain ⟨c, cs, rfl, o1, n1, l1, m1, h1⟩ := hk.some' _ a hq
      have hcl := h1.1.1
      simp only [Option.getD_some]
      repeat (first | (with_reducible (first | refine rn_bumpk ?_)) | rw [e2] | ((with_reducible refine rn_ixp ?_ ?_); focus omega) | (with_reducible (first | refine rn_if_f ?_ | refine rn_eqp1 ?_ | refine rn_nilc ?_ | refine rn_fad ?_)) | ((with_reducible refine rn_rem ?_ ?_); focus omega))
      refine rn_st1 rfl (ok_lt l1) m1 ⟨Nat.zero_le _, rfl, rfl⟩ (by omega) rfl ?_
      repeat (first | ((with_reducible refine rn_ixp ?_ ?_); focus omega) | (with_reducible (first | refine rn_nilc ?_ | refine rn_fad ?_)))
      refine rn_st1 rfl (ok_lt l1) (put_same _ _ _) ⟨Nat.zero_le _, rfl, rfl⟩ (by simp only [List.length_set]; omega) rfl ?_
      repeat (first | ((with_reducible refine rn_add64 ?_ ?_); focus omega))
      generalize hM2 : MM.put _ c _ = M2
      have n2 : M2.nx = M.nx + 15 := by subst hM2; rfl
      have c2 : M2.mem c = some (.cells 64 ((cs.set ((at0 + j) % 256) (.int .u8 bs[j])).set (256 + (at0 + j) % 256) (.bool true))) := by
        subst hM2
        rw [put_same]
        simp only [Int.toNat_natCast, Nat.mul_one, Nat.zero_add]
      have x2 : ∀ y, y ≠ c → M2.mem y = M.mem y := fun y hy => by subst hM2; rw [put_ne _ _ _ _ hy, put_ne _ _ _ _ hy]; rfl
      clear hM2
      have k2 : CK M2 m (setF f (at0 + j) bs[j]) own es := by
        have := hk.write ((at0 + j) / 256) ((at0 + j) % 256) hq256 bs[j] c cs hq m1 M2 (by omega) c2 (fun y hy _ => x2 y hy)
        rwa [hdm] at this
      have hco : oid ≠ c := fun e => hoo (e ▸ o1)
      refine (ih (j + 1) n M2 _ own es (by omega) (by omega) k2 hek (by omega) hoo (by rw [x2 _ hco]; exact hoc)).mono fun y hy => ?_
      obtain ⟨q1, q2, es', q3, q4, q5⟩ := hy
      refine ⟨q1, by omega, es', q3, ?_, fun z h1 h2 => by rw [q5 z (by omega) h2, x2 z (fun e => h2 (e ▸ o1))]⟩
      rw [hwr]
      exact q4.own fun z _ _ hz => hz.imp id fun h => by omega
    | none =>
      simp only [Option.getD_none]
      repeat (first | ((with_reducible refine rn_opt (v := .agg ch0) ?_ ?_); focus exact rfl) | (with_reducible (first | refine rn_box rfl ?_ | refine rn_if_t ?_ | refine rn_eqp2 ?_ | refine rn_nilc ?_ | refine rn_fad ?_)))
      have a1 : (M.alloc M.nx (.cells 64 ch0)).nx = M.nx + 1 := alloc_nx ..
      have a2 : (M.alloc M.nx (.cells 64 ch0)).mem m = some (.map (.int .i64) es) := by rw [alloc_ne _ _ _ _ (by omega)]; exact hk.map
      have a3 : (M.alloc M.nx (.cells 64 ch0)).mem oid = some (.cells 60 ocs) := by rw [alloc_ne _ _ _ _ (by omega)]; exact hoc
      refine rn_ld (ok_top.2 (by omega)) a3 ho4 ?_
      repeat (first | rw [e1] | ((with_reducible refine rn_quo64 ?_ ?_); focus omega))
      refine rn_mset rfl rfl (ok_top.2 (by omega)) a2 (Nat.zero_le _) ?_
      generalize hM2 : MM.put _ m _ = M2
      have n2 : M2.nx = M.nx + 1 := by subst hM2; exact a1
      have c2 : M2.mem M.nx = some (.cells 64 ch0) := by subst hM2; rw [put_ne _ _ _ _ (by omega)]; exact alloc_same ..
      have mM2 : M2.mem m = some (.map (.int .i64) (putM (.int .i64 (((at0 + j) / 256 : Nat) : Int)) (.ptr M.nx 0) es)) := by subst hM2; exact put_same ..
      have x2 : ∀ y, y ≠ m → y < M.nx → M2.mem y = M.mem y := fun y hy hl => by subst hM2; rw [put_ne _ _ _ _ hy, alloc_ne _ _ _ _ (by omega)]
      clear hM2
      have k2 := hk.grow ((at0 + j) / 256) M.nx hq (Nat.le_refl _) M2 (fun y => own y ∨ M.nx ≤ y) (by omega) c2 mM2 x2 (fun _ _ h => .inl h) (.inr (Nat.le_refl _))
      repeat (first | (with_reducible (first | refine rn_bumpk ?_)) | rw [e2] | ((with_reducible refine rn_ixp ?_ ?_); focus omega) | (with_reducible (first | refine rn_nilc ?_ | refine rn_fad ?_)) | ((with_reducible refine rn_rem ?_ ?_); focus omega))
      have hcl : ch0.length = 512 := rfl
      refine rn_st1 rfl (ok_lt (show M.nx < M2.nx by omega)) c2 ⟨Nat.zero_le _, rfl, rfl⟩ (by omega) rfl ?_
      repeat (first | ((with_reducible refine rn_ixp ?_ ?_); focus omega) | (with_reducible (first | refine rn_nilc ?_ | refine rn_fad ?_)))
      refine rn_st1 rfl (ok_lt (show M.nx < M2.nx by omega)) (put_same _ _ _) ⟨Nat.zero_le _, rfl, rfl⟩ (by simp only [List.length_set]; omega) rfl ?_
      repeat (first | ((with_reducible refine rn_add64 ?_ ?_); focus omega))
      generalize hM4 : MM.put _ M.nx _ = M4
      have n4 : M4.nx = M.nx + 16 := by subst hM4; show M2.nx + 15 = _; omega
      have c4 : M4.mem M.nx = some (.cells 64 ((ch0.set ((at0 + j) % 256) (.int .u8 bs[j])).set (256 + (at0 + j) % 256) (.bool true))) := by
        subst hM4
        rw [put_same]
        simp only [Int.toNat_natCast, Nat.mul_one, Nat.zero_add]
      have x4 : ∀ y, y ≠ M.nx → M4.mem y = M2.mem y := fun y hy => by subst hM4; rw [put_ne _ _ _ _ hy, put_ne _ _ _ _ hy]; rfl
      clear hM4
      have hfind : findM (.int .i64 (((at0 + j) / 256 : Nat) : Int)) (putM (.int .i64 (((at0 + j) / 256 : Nat) : Int)) (.ptr M.nx 0) es) = some (.ptr M.nx 0) := findM_put_same _ (by rw [sameK_int]; simp) es
      have k4 : CK M4 m (setF f (at0 + j) bs[j]) (fun y => own y ∨ M.nx ≤ y) (putM (.int .i64 (((at0 + j) / 256 : Nat) : Int)) (.ptr M.nx 0) es) := by
        have := k2.write ((at0 + j) / 256) ((at0 + j) % 256) hq256 bs[j] M.nx _ hfind c2 M4 (by omega) c4 (fun y hy _ => x4 y hy)
        rwa [hdm] at this
      have hom : oid ≠ m := fun e => hoo (e ▸ hk.mown)
      refine (ih (j + 1) n M4 _ _ _ (by omega) (by omega) k4 (hek.put _ _) (by omega) (fun h => h.elim hoo (by omega)) (by rw [x4 _ (by omega), x2 _ hom ho]; exact hoc)).mono fun y hy => ?_
      obtain ⟨q1, q2, es', q3, q4, q5⟩ := hy
      refine ⟨q1, by omega, es', q3, ?_, fun z h1 h2 => by rw [q5 z (by omega) (fun h => h.elim h2 (by omega)), x4 z (by omega), x2 z (fun e => h2 (e ▸ hk.mown)) h1]⟩
      rw [hwr]
      exact q4.own fun z _ _ hz => hz.elim id fun h => .inr (by omega)
end
end Go.Proofs.Ytegkhdflmboljaa.Sx

namespace Go.Proofs.Ytegkhdflmboljaa.Sx
open Go
set_option maxRecDepth 1000000
set_option linter.unusedSimpArgs false
set_option linter.unusedVariables false
set_option linter.unusedSectionVars false
def rdF (f : Nat → Option Int) (i : Nat) : Nat → Option (List Int)
  | 0 => some []
  | n + 1 => match f i with
    | none => none
    | some b => (rdF f (i + 1) n).map (b :: ·)
def sRead (l : List Ob) (a at0 n : Int) : List Int × Int := match fnd l a with
  | none => ([], 23)
  | some (_, o) => if 0 ≤ at0 ∧ 0 ≤ n ∧ at0 ≤ o.size ∧ n ≤ o.size - at0 then (match rdF o.f at0.toNat n.toNat with | none => ([], 24) | some bs => (bs, 0)) else ([], 20)
def dB (bs : List Int) : List D := bs.map fun b => .v (.int .u8 b)
def RB (bs : List Int) : AV := .d (.sl (dB bs) bs.length)
def RO (w : AV) (bs : List Int) : Prop := (w = .nilsl ∧ bs = []) ∨ ∃ id, w = .ov id (dB bs) bs.length 1
def OV (M : MM) (lo : Nat) (x : AV) (bs : List Int) : Prop := (x = .nilsl ∧ bs = []) ∨ ∃ id, x = .ov id (dB bs) bs.length 1 ∧ lo ≤ id ∧ id < M.nx ∧ M.mem id = some (.tok 5 bs.length)
section
variable {R : Type} {r : R → Prop} {call : CallT} {mode : FuncId → Mode} {draw : Bool} {lo : Nat} {lim : Lm} {fresh : Nat} {ρ : List AV} {M : MM} {k : AV → MM → Option R}
theorem rn_vslb {b : Int} (hk : Wp (k (.ov fresh (dB [b]) 1 1) (M.alloc fresh (.tok 5 1))) r) : Wp (bnd (istep call mode draw lo lim fresh (.vsl 5 1 1 [.int .u8 0] [(0, 1, .k (.int .u8 b))]) ρ M) k) r := by
  refine rn_bnd (v := .ov fresh (dB [b]) 1 1) (M := M.alloc fresh (.tok 5 1)) ?_ hk
  rfl
theorem rn_vappb {x : AV} {bs cs : List Int} {id2 : Nat} (hx : OV M lo x bs) (hl : bs.length ≤ 1000000000) (hn : 1 ≤ cs.length ∧ cs.length ≤ 1000000000) (hlim : ∀ id, id < M.nx → lim.ok id = true)
    (hk : ∀ M1, M1.nx = max M.nx (fresh + 1) → M1.mem fresh = some (.tok 5 (bs ++ cs).length) → (∀ z, z ≠ fresh → z < lo → M1.mem z = M.mem z) → Wp (k (.ov fresh (dB (bs ++ cs)) (bs ++ cs).length 1) M1) r) :
    Wp (bnd (istep call mode draw lo lim fresh (.vapp 5 1 1 [.int .u8 0] (.k x) (.k (.ov id2 (dB cs) cs.length 1))) ρ M) k) r := by
  have hd : (dB cs).length = cs.length := by simp [dB]
  have e1 : sliceCells M.mem lim 1 (.ov id2 (dB cs) cs.length 1) = some (cs.length, (dB cs).map .d) := by
    simp only [sliceCells, Nat.mul_one]; rw [if_pos (by omega), List.take_of_length_le (by omega)]
  rcases hx with ⟨rfl, rfl⟩ | ⟨id, rfl, h1, h2, h3⟩
  · refine rn_bnd (v := .ov fresh (dB cs) cs.length 1) (M := M.alloc fresh (.tok 5 cs.length)) ?_ (hk _ rfl (upd_same _ _ _) fun z hz _ => upd_ne _ _ _ _ hz)
    simp only [istep, ev, e1, mapM_toD]
    rw [if_neg (by omega), if_pos ⟨by omega, by omega, rfl⟩, Nat.mul_one]
  · have hla : (bs ++ cs).length = bs.length + cs.length := List.length_append
    have hda : dB (bs ++ cs) = dB bs ++ dB cs := List.map_append
    rw [hla, hda] at hk
    refine rn_bnd (v := .ov fresh (dB bs ++ dB cs) (bs.length + cs.length) 1) (M := { nx := max M.nx (fresh + 1), mem := upd (upd M.mem id none) fresh (some (.tok 5 (bs.length + cs.length))) }) ?_
      (hk _ rfl (upd_same _ _ _) fun z hz hzl => by show upd _ _ _ _ = _; rw [upd_ne _ _ _ _ hz, upd_ne _ _ _ _ (by omega)])
    simp only [istep, ev, e1, mapM_toD, look_ok (hlim id h2), h3]
    rw [if_pos ⟨h1, trivial, trivial, by omega, by omega, by omega, rfl⟩, Nat.mul_one]
end
section
variable {L : Nat → Option Tag} {M : MM} {p : Nat} {l : List Ob} {sl : AV} {ps : List Nat}
def tagW (L : Nat → Option Tag) (n k : Nat) (M' : MM) : Nat → Option Tag := fun id =>
  if n ≤ id ∨ L id = some (.ck k) then (if id < M'.nx ∧ (M'.mem id).isSome = true then some (.ck k) else none) else L id
theorem IM.wrote (h : IM L M p l sl ps) {k q m : Nat} {o : Ob} {g : Nat → Option Int} {es : List (Value × AV)} (hk : l[k]? = some o) (hq : ps[k]? = some q) (hLq : L q = some (.ob k)) (hqp : q ≠ p) (ha : o.alive = true) (hs : o.size ≤ 4194304)
    (h3 : M.mem q = some (.cells 60 [.bool true, .i o.size, .i o.count, .i o.refs, .mp m])) (h4 : EKy es) {M' : MM} (hn : M.nx ≤ M'.nx) (h5 : CK M' m g (fun z => L z = some (.ck k) ∨ M.nx ≤ z) es) (hold : ∀ z, z < M.nx → ¬ L z = some (.ck k) → M'.mem z = M.mem z) :
    IM (tagW L M.nx k M') M' p (l.set k { o with f := g }) sl ps ∧ Gr L (tagW L M.nx k M') M M' := by
  have hkeep : ∀ id t, L id = some t → t ≠ .ck k → tagW L M.nx k M' id = some t ∧ M'.mem id = M.mem id := fun id t ht hne => by
    have hd := (h.dom id (by rw [ht]; simp)).1
    have h1 : ¬ L id = some (.ck k) := fun e => by rw [ht] at e; injection e with e; exact hne e
    refine ⟨?_, hold id hd h1⟩
    simp only [tagW]; rw [if_neg (fun e => e.elim (by omega) h1)]; exact ht
  have hp := hkeep p _ h.rl (fun e => by cases e)
  have hqk := hkeep q _ hLq (fun e => by cases e)
  refine ⟨h.upd hk hq hn (fun id hid => ?_) ?_ hp.1 (fun id t ht hi => ?_) hqk.1 (.inl ⟨ha, hs, m, es, hqk.2.trans h3, h4, h5.own fun z h1 h2 h3 => ?_⟩), ⟨hn, fun id hid => ?_, fun id hid hL => hold id hid fun e => by rw [hL] at e; cases e⟩⟩
  · simp only [tagW] at hid
    by_cases e : M.nx ≤ id ∨ L id = some (.ck k)
    · rw [if_pos e] at hid
      by_cases e2 : id < M'.nx ∧ (M'.mem id).isSome = true
      · exact ⟨e2.1, fun e3 => by rw [e3] at e2; exact absurd e2.2 (by simp)⟩
      · rw [if_neg e2] at hid; exact absurd rfl hid
    · rw [if_neg e] at hid
      obtain ⟨d1, d2⟩ := h.dom id hid
      exact ⟨by omega, by rw [hold id d1 fun e2 => e (.inr e2)]; exact d2⟩
  · rw [hp.2, h.root]
    have := liveN_set l k o { o with f := g } hk
    have e2 : liveN (l.set k { o with f := g }) = liveN l := by simp only at this; omega
    rw [e2]
  · obtain ⟨g1, g2⟩ := hkeep id t ht fun e => hi (by rw [e]; rfl)
    exact ⟨g1, fun _ => g2⟩
  · simp only [tagW]
    rw [if_pos h3.symm, if_pos ⟨h1, by rw [Option.isSome_iff_ne_none]; exact h2⟩]
  · by_cases e : M.nx ≤ id
    · exact .inr e
    · left
      simp only [tagW] at hid
      by_cases e2 : L id = some (.ck k)
      · rw [e2]; simp
      · rw [if_neg (fun e3 => e3.elim e e2)] at hid; exact hid
variable {call : CallT} (hc : Lim GK call) (h : IM L M p l sl ps) {a : Int} (ha : 0 ≤ a ∧ a ≤ 18446744073709551615) (hl : l.length ≤ 1000000)
include hc h ha hl
theorem write_ok {x : AV} {bs : List Int} (hx : BX x bs) (hb : ∀ b ∈ bs, 0 ≤ b ∧ b ≤ 255) (hbl : bs.length ≤ 1000) {at0 : Int} (hat : -9223372036854775808 ≤ at0 ∧ at0 ≤ 9223372036854775807) :
    Wp (call 9 [.ptr p 0, .int .u64 a, .i at0, x] 0 M) (Pst L M p (.i (sWrite l a at0 bs).1) (sWrite l a at0 bs).2) := by
  have hx1 : lenA x = some (.i bs.length) := hx.1
  rw [q9 hc]; unfold s9
  refine rn_find hc h ha hl h.oks (fun e => ?_) (fun k o q e hk hal hq => ?_)
  · repeat (first | (with_reducible (first | refine rn_if_t ?_ | refine rn_ext0 ?_ | refine rn_ext1 ?_)) | ((with_reducible refine rn_neq_t ?_ ?_); focus omega))
    refine rn_done ?_
    simp only [sWrite, e]
    exact Pst.same h rfl (Nat.le_refl _)
  · obtain ⟨q', sid, hq', hql, _, _, _, hLq, hio, hqp⟩ := h.at hk
    rw [hq] at hq'; injection hq' with hq'; subst hq'
    rcases hio with ⟨h1, h2, m, es, h3, h4, h5⟩ | ⟨h1, _⟩
    · repeat (first | (with_reducible (first | refine rn_opt hx1 ?_ | refine rn_if_f ?_ | refine rn_ext0 ?_ | refine rn_ext1 ?_)) | ((with_reducible refine rn_neq_f ?_ ?_); focus omega))
      refine rn_within hc hql h3 rfl (by omega) hat (by omega) ?_
      by_cases c : 0 ≤ at0 ∧ at0 ≤ o.size ∧ (bs.length : Int) ≤ o.size - at0
      · rw [decide_eq_true (by omega)]
        repeat (first | (with_reducible (first | refine rn_opt hx1 ?_ | refine rn_if_f ?_ | refine rn_not_t ?_)))
        have hat2 : ((at0.toNat : Nat) : Int) = at0 := by omega
        have hlp := write_loop (call := call) q m x bs hb at0.toNat (by omega) hx _ rfl bs.length 0 GK.nl M o.f _ es (by omega) (by show _ < 18446744073709551616; omega) h5 h4 hql (fun e => by rw [hLq] at e; cases e) h3
        rw [hat2] at hlp
        refine hlp.mono fun y hy => ?_
        obtain ⟨q1, q2, es', q3, q4, q5⟩ := hy
        simp only [sWrite, e, if_pos c]
        obtain ⟨g1, g2⟩ := h.wrote hk hq hLq hqp h1 h2 h3 q3 q2 q4 q5
        exact ⟨q1, _, _, _, g1, g2⟩
      · rw [decide_eq_false (by omega)]
        repeat (first | (with_reducible (first | refine rn_if_t ?_ | refine rn_not_f ?_)))
        refine rn_done ?_
        simp only [sWrite, e, if_neg c]
        exact Pst.same h rfl (Nat.le_refl _)
    · rw [h1] at hal; cases hal
end
section
variable {call : CallT}
theorem read_loop (oid m : Nat) (f : Nat → Option Int) (es : List (Value × AV)) (own : Nat → Prop) (M0 : MM) (ocs : List AV) (ho4 : ocs[4]? = some (.mp m)) (hk : CK M0 m f own es) (ho : oid < M0.nx) (hoc : M0.mem oid = some (.cells 60 ocs)) (at0 n : Nat) (hat : at0 + n ≤ 4194304) :
    ∀ (r i fuel : Nat) (M : MM) (x : AV) (bs : List Int), i + r = at0 + n → at0 ≤ i → r < fuel → M0.nx ≤ M.nx → (∀ z, z < M0.nx → M.mem z = M0.mem z) → OV M M0.nx x bs → bs.length + r ≤ 10000000 →
      Wp (b12_8 call GK.nl M0.nx fuel (.i at0) (.i n) (.ptr oid 0) x (.i i) M) fun y => match rdF f i r with
        | none => y.1 = .tup [.nilsl, .i 24]
        | some cs => ∃ w, y.1 = .tup [w, .i 0] ∧ RO w (bs ++ cs) := by
  intro r
  induction r with
  | zero =>
    intro i fuel M x bs hi hai hf hn hm hx hbs
    obtain ⟨fuel, rfl⟩ : ∃ k, fuel = k + 1 := ⟨fuel - 1, by omega⟩
    unfold b12_8
    repeat (first | (with_reducible (first | refine rn_if_f ?_)) | ((with_reducible refine rn_add64 ?_ ?_); focus omega) | ((with_reducible refine rn_lss_f ?_ ?_); focus omega))
    refine rn_done ?_
    simp only [rdF, List.append_nil]
    refine ⟨x, rfl, ?_⟩
    rcases hx with h | ⟨id, h1, _⟩
    · exact .inl h
    · exact .inr ⟨id, h1⟩
  | succ r ih =>
    intro i fuel M x bs hi hai hf hn hm hx hbs
    obtain ⟨fuel, rfl⟩ : ∃ k, fuel = k + 1 := ⟨fuel - 1, by omega⟩
    have e1 : (i : Int) / 256 = ((i / 256 : Nat) : Int) := by omega
    have e2 : (i : Int).tmod 256 = ((i % 256 : Nat) : Int) := by rw [Int.tmod_eq_emod_of_nonneg (by omega)]; omega
    have hm1 := hk.mlt
    have hq256 : i % 256 < 256 := Nat.mod_lt _ (by omega)
    have hdm : 256 * (i / 256) + i % 256 = i := Nat.div_add_mod _ _
    have hoM : M.mem oid = some (.cells 60 ocs) := by rw [hm oid ho]; exact hoc
    have hmM : M.mem m = some (.map (.int .i64) es) := by rw [hm m hm1]; exact hk.map
    unfold b12_8
    repeat (first | ((with_reducible apply rn_ld (ok_top.2 (Nat.lt_of_lt_of_le ho hn)) hoM); focus exact ho4) | rw [e1] | (with_reducible (first | refine rn_if_t ?_ | refine rn_nilc ?_ | refine rn_fad ?_)) | ((with_reducible refine rn_add64 ?_ ?_); focus omega) | ((with_reducible refine rn_quo64 ?_ ?_); focus omega) | ((with_reducible refine rn_lss_t ?_ ?_); focus omega))
    refine rn_lkp rfl (ok_top.2 (by omega)) hmM ?_
    cases hq : findM (.int .i64 ((i / 256 : Nat) : Int)) es with
    | none =>
      have hfn := hk.none' _ hq _ hq256
      rw [hdm] at hfn
      simp only [Option.getD_none]
      repeat (first | (with_reducible (first | refine rn_if_t ?_ | refine rn_gp_tf ?_ | refine rn_pt ?_ | refine rn_eqp2 ?_)))
      refine rn_done ?_
      simp only [rdF, hfn]
    | some a =>
      obtain ⟨c, cs, rfl, o1, n1, l1, m1, h1, h2⟩ := hk.some' _ a hq
      have hcM : M.mem c = some (.cells 64 cs) := by rw [hm c l1]; exact m1
      have h3 := h2 _ hq256
      simp only [hdm] at h3
      simp only [Option.getD_some]
      have x1 : 0 + 256 + (((i % 256 : Nat) : Int)).toNat * 1 = 256 + i % 256 := by omega
      have x2 : 0 + 0 + (((i % 256 : Nat) : Int)).toNat * 1 = i % 256 := by omega
      cases hfi : f i with
      | none =>
        rw [hfi] at h3
        simp only at h3
        repeat (first | rw [e2] | rw [x1] | ((with_reducible refine rn_gp_ff ?_); with_reducible refine rn_ixp ?_ ?_; focus omega) | (with_reducible (first | apply rn_ld (ok_top.2 (Nat.lt_of_lt_of_le l1 hn)) hcM h3 ?_ | refine rn_some ?_ | refine rn_if_t ?_ | refine rn_gp_ff ?_ | refine rn_pf ?_ | refine rn_not_f ?_ | refine rn_eqp1 ?_ | refine rn_nilc ?_ | refine rn_fad ?_)) | ((with_reducible refine rn_rem ?_ ?_); focus omega))
        refine rn_done ?_
        simp only [rdF, hfi]
      | some b =>
        rw [hfi] at h3
        simp only at h3
        obtain ⟨h3, h4⟩ := h3
        repeat (first | rw [e2] | rw [x1] | rw [x2] | ((with_reducible refine rn_ixp ?_ ?_); focus omega) | (with_reducible (first | apply rn_ld (ok_top.2 (Nat.lt_of_lt_of_le l1 hn)) hcM h4 ?_ | apply rn_ld (ok_top.2 (Nat.lt_of_lt_of_le l1 hn)) hcM h3 ?_ | refine rn_some ?_ | refine rn_if_f ?_ | refine rn_gp_ff ?_ | refine rn_pf ?_ | refine rn_not_t ?_ | refine rn_eqp1 ?_ | refine rn_nilc ?_ | refine rn_fad ?_)) | ((with_reducible refine rn_rem ?_ ?_); focus omega))
        refine rn_vslb ?_
        have a1 : (M.alloc M.nx (.tok 5 1)).nx = M.nx + 1 := alloc_nx ..
        have a2 : ∀ z, z < M.nx → (M.alloc M.nx (.tok 5 1)).mem z = M.mem z := fun z hz => alloc_ne _ _ _ _ (by omega)
        have hx' : OV (M.alloc M.nx (.tok 5 1)) M0.nx x bs := by
          rcases hx with h | ⟨id, g1, g2, g3, g4⟩
          · exact .inl h
          · exact .inr ⟨id, g1, g2, by omega, by rw [a2 id g3]; exact g4⟩
        refine rn_vappb (cs := [b]) hx' (by omega) ⟨by simp, by simp⟩ (fun id hid => ok_top.2 hid) fun M1 b1 b2 b3 => ?_
        rw [a1] at b1 b2 b3 ⊢
        repeat (first | ((with_reducible refine rn_add64 ?_ ?_); focus omega))
        have n1 : M1.nx = M.nx + 2 := by omega
        have := ih (i + 1) fuel M1 (.ov (M.nx + 1) (dB (bs ++ [b])) (bs ++ [b]).length 1) (bs ++ [b]) (by omega) (by omega) (by omega) (by omega) (fun z hz => by rw [b3 z (by omega) hz, a2 z (by omega), hm z hz]) (.inr ⟨_, rfl, by omega, by omega, b2⟩) (by simp; omega)
        refine Wp.mono (o := b12_8 call GK.nl M0.nx fuel (.i at0) (.i n) (.ptr oid 0) (.ov (M.nx + 1) (dB (bs ++ [b])) (bs ++ [b]).length 1) (.i ((i : Int) + 1)) M1) this fun y hy => ?_
        simp only [rdF, hfi]
        cases hrd : rdF f (i + 1) r with
        | none => rw [hrd] at hy; exact hy
        | some cs' =>
          rw [hrd] at hy
          obtain ⟨w, w1, w2⟩ := hy
          refine ⟨w, w1, ?_⟩
          rw [List.append_assoc] at w2; exact w2
variable {L : Nat → Option Tag} {M : MM} {p : Nat} {l : List Ob} {sl : AV} {ps : List Nat} (hc : Lim GK call) (h : IM L M p l sl ps) {a : Int} (ha : 0 ≤ a ∧ a ≤ 18446744073709551615) (hl : l.length ≤ 1000000)
include hc h ha hl
theorem read_ok {at0 n : Int} (hat : -9223372036854775808 ≤ at0 ∧ at0 ≤ 9223372036854775807) (hn : -9223372036854775808 ≤ n ∧ n ≤ 9223372036854775807) :
    Wp (call 12 [.ptr p 0, .int .u64 a, .i at0, .i n] M.nx M) fun y => ∃ w, y.1 = .tup [w, .i (sRead l a at0 n).2] ∧ RO w (sRead l a at0 n).1 := by
  rw [q12 hc]; unfold s12
  refine rn_find hc h ha hl h.oks (fun e => ?_) (fun k o q e hk hal hq => ?_)
  · repeat (first | (with_reducible (first | refine rn_if_t ?_ | refine rn_ext0 ?_ | refine rn_ext1 ?_)) | ((with_reducible refine rn_neq_t ?_ ?_); focus omega))
    refine rn_done ?_
    simp only [sRead, e]
    exact ⟨_, rfl, .inl ⟨rfl, rfl⟩⟩
  · obtain ⟨q', sid, hq', hql, _, _, _, hLq, hio, hqp⟩ := h.at hk
    rw [hq] at hq'; injection hq' with hq'; subst hq'
    rcases hio with ⟨h1, h2, m, es, h3, h4, h5⟩ | ⟨h1, _⟩
    · repeat (first | (with_reducible (first | refine rn_if_f ?_ | refine rn_ext0 ?_ | refine rn_ext1 ?_)) | ((with_reducible refine rn_neq_f ?_ ?_); focus omega))
      refine rn_within hc hql h3 rfl (by omega) hat hn ?_
      by_cases c : 0 ≤ at0 ∧ 0 ≤ n ∧ at0 ≤ o.size ∧ n ≤ o.size - at0
      · rw [decide_eq_true c]
        repeat (first | (with_reducible (first | refine rn_if_f ?_ | refine rn_not_t ?_)))
        have e1 : ((at0.toNat : Nat) : Int) = at0 := by omega
        have e2 : ((n.toNat : Nat) : Int) = n := by omega
        have hlp := read_loop (call := call) q m o.f es _ M _ rfl h5 hql h3 at0.toNat n.toNat (by omega) n.toNat at0.toNat GK.nl M .nilsl [] rfl (Nat.le_refl _) (by show _ < 18446744073709551616; omega) (Nat.le_refl _) (fun _ _ => rfl) (.inl ⟨rfl, rfl⟩) (by simp; omega)
        rw [e1, e2] at hlp
        refine hlp.mono fun y hy => ?_
        simp only [sRead, e, if_pos c]
        cases hrd : rdF o.f at0.toNat n.toNat with
        | none => rw [hrd] at hy; exact ⟨_, hy, .inl ⟨rfl, rfl⟩⟩
        | some cs => rw [hrd] at hy; simpa using hy
      · rw [decide_eq_false c]
        repeat (first | (with_reducible (first | refine rn_if_t ?_ | refine rn_not_f ?_)))
        refine rn_done ?_
        simp only [sRead, e, if_neg c]
        exact ⟨_, rfl, .inl ⟨rfl, rfl⟩⟩
    · rw [h1] at hal; cases hal
theorem rn_read {R : Type} {r : R → Prop} {lim : Lm} {k : AV → Option R} (hlim : ∀ id, L id ≠ none → lim.ok id = true) {at0 n : Int} (hat : -9223372036854775808 ≤ at0 ∧ at0 ≤ 9223372036854775807) (hn : -9223372036854775808 ≤ n ∧ n ≤ 9223372036854775807)
    (hk : Wp (k (.tup [RB (sRead l a at0 n).1, .i (sRead l a at0 n).2])) r) : Wp (opt (roA call lim 12 [.ptr p 0, .int .u64 a, .i at0, .i n] M) k) r := by
  obtain ⟨⟨v, M'⟩, e, w, e1, e2⟩ := read_ok hc (h.look hlim) ha hl hat hn
  simp only at e1; subst e1
  rcases e2 with ⟨rfl, e3⟩ | ⟨id, rfl⟩
  · refine rn_opt (v := .tup [RB (sRead l a at0 n).1, .i (sRead l a at0 n).2]) ?_ hk
    simp only [roA]
    rw [show (⟨M.nx, look M.mem lim⟩ : MM).nx = M.nx from rfl] at e
    rw [e, RB, e3]
    simp only [dB, List.map_nil, List.length_nil, freeze, List.mapM_cons, List.mapM_nil, freezeA, freeze1, freezeD, Option.pure_def, Option.bind_eq_bind, Option.bind_some, Option.map_some, normD]
  · refine rn_opt (v := .tup [RB (sRead l a at0 n).1, .i (sRead l a at0 n).2]) ?_ hk
    simp only [roA]
    rw [show (⟨M.nx, look M.mem lim⟩ : MM).nx = M.nx from rfl] at e
    rw [e, RB]
    simp only [freeze, List.mapM_cons, List.mapM_nil, freezeA, freeze1, freezeD, Option.pure_def, Option.bind_eq_bind, Option.bind_some, Option.map_some, normD]
end
end Go.Proofs.Ytegkhdflmboljaa.Sx
