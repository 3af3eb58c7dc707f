/- TYPES: dice, and made types. -/
import Derived.Test.YtcoagkfjdpdohaaTyILo
namespace Go.Proofs.Ytcoagkfjdpdohaa.Sx
open Go
set_option maxRecDepth 1000000
set_option linter.unusedSimpArgs false
set_option linter.unusedVariables false

def modI (x n : Int) : Int := if n < 1 then 0 else if x.tmod n < 0 then x.tmod n + n else x.tmod n
theorem modI_lt (x n : Int) (h : 1 ≤ n) : 0 ≤ modI x n ∧ modI x n < n := by
  have h1 := Int.tmod_lt_of_pos x (show 0 < n by omega)
  have h2 := Int.lt_tmod_of_pos x (show 0 < n by omega)
  unfold modI
  rw [if_neg (by omega)]
  split <;> omega
/-- What Next answers, and what is left. -/
def nextI (n : Int) : List Int → Int × List Int
  | [] => (0, [])
  | x :: r => (modI x n, r)
theorem nextI_lt (n : Int) (h : 1 ≤ n) (r : List Int) : ∃ i : Nat, (nextI n r).1 = (i : Int) ∧ (i : Int) < n := by
  cases r with
  | nil => exact ⟨0, rfl, by omega⟩
  | cons x r =>
    have := modI_lt x n h
    exact ⟨(modI x n).toNat, by simp only [nextI]; omega, by omega⟩

def encZ (l : List Int) : List D := l.map fun n => .v (.int .i64 n)
abbrev avZ (l : List Int) : AV := .d (.sl (encZ l) l.length)
theorem ClZ (l : List Int) : Cl (avZ l) := ⟨rfl, rfl⟩
/-- Dice with these numbers left lie at id. -/
def DI (M : MM) (id : Nat) (r : List Int) : Prop := ∃ (l : List Int) (a : Nat), l.drop a = r ∧ a ≤ l.length ∧ l.length ≤ 1000000000000 ∧ M.mem id = some (.cells 56 [avZ l, .i (a : Int)]) ∧ id < M.nx
/-- Nothing but the object id has changed. -/
def FrD (id : Nat) (M M1 : MM) : Prop := M.nx ≤ M1.nx ∧ ∀ j, j < M.nx → j ≠ id → M1.mem j = M.mem j
theorem FrD.refl (id : Nat) (M : MM) : FrD id M M := ⟨Nat.le_refl _, fun _ _ _ => rfl⟩
theorem FrD.trans {id : Nat} {M M1 M2 : MM} (h : FrD id M M1) (g : FrD id M1 M2) : FrD id M M2 := ⟨Nat.le_trans h.1 g.1, fun j hj hn => (g.2 j (Nat.lt_of_lt_of_le hj h.1) hn).trans (h.2 j hj hn)⟩
theorem FrD.same {id : Nat} {M M1 : MM} (h : M1.mem = M.mem) (hn : M.nx ≤ M1.nx) : FrD id M M1 := ⟨hn, fun j _ _ => by rw [h]⟩
theorem DI.same {id : Nat} {M M1 : MM} {r : List Int} (d : DI M id r) (h : M1.mem = M.mem) (hn : M.nx ≤ M1.nx) : DI M1 id r := by
  obtain ⟨l, a, h1, h2, h3, h4, h5⟩ := d
  exact ⟨l, a, h1, h2, h3, by rw [h]; exact h4, Nat.lt_of_lt_of_le h5 hn⟩
theorem DI.up {id f : Nat} {M : MM} {r : List Int} (d : DI M id r) : DI (M.up f) id r := d.same rfl (Nat.le_max_left _ _)
theorem DI.bump {id f : Nat} {M : MM} {r : List Int} (d : DI M id r) : DI (M.bump f) id r := d.same rfl (Nat.le_add_right _ _)
/-- The answer v, behind which the dice at id have r left, and all else is as it was. -/
def DAns (id : Nat) (v : AV) (r : List Int) (M : MM) : AV × MM → Prop := fun x => x.1 = v ∧ DI x.2 id r ∧ FrD id M x.2
theorem rn_fr {id : Nat} {M M1 : MM} {v : AV} {r : List Int} {o : Option (AV × MM)} (h : FrD id M M1) (hk : Wp o (DAns id v r M1)) : Wp o (DAns id v r M) := hk.mono fun _ q => ⟨q.1, q.2.1, h.trans q.2.2⟩
section
variable {id : Nat} {M : MM} {v : AV} {r : List Int}
theorem rn_dans (h : DI M id r) : Wp (some (v, M)) (DAns id v r M) := rn_done ⟨rfl, h, FrD.refl _ _⟩
theorem rn_dup {f : Nat} {k : MM → Option (AV × MM)} (hk : Wp (k (M.up f)) (DAns id v r (M.up f))) : Wp (upK M f k) (DAns id v r M) :=
  rn_fr (M1 := M.up f) (o := k (M.up f)) (FrD.same rfl (Nat.le_max_left _ _)) hk
theorem rn_dbump {f : Nat} {k : MM → Option (AV × MM)} (hk : Wp (k (M.bump f)) (DAns id v r (M.bump f))) : Wp (bumpK M f k) (DAns id v r M) :=
  rn_fr (M1 := M.bump f) (o := k (M.bump f)) (FrD.same rfl (Nat.le_add_right _ _)) hk
/-- A call that rolls the dice. -/
theorem rn_dcall {call : CallT} {f : FuncId} {args : List AV} {lo : Nat} {v' : AV} {r' : List Int} {k : AV → MM → Option (AV × MM)} (h : Wp (call f args lo M) (DAns id v' r' M)) (hk : ∀ M', DI M' id r' → Wp (k v' M') (DAns id v r M')) : Wp (bnd (call f args lo M) k) (DAns id v r M) := by
  refine rn_wp h fun w M' hh => ?_
  obtain ⟨h1, h2, h3⟩ := hh
  simp only at h1 h2 h3
  subst h1
  exact rn_fr h3 (hk M' h2)
theorem rn_callk {R : Type} {Q' : R → Prop} {call : CallT} {mode : FuncId → Mode} {lo : Nat} {lim : Lm} {fresh : Nat} {ρ : List AV} {f : FuncId} {args roots : List X} {Q : AV × MM → Prop} {k : AV → MM → Option R}
    (hm : mode f = .rw) (h : Wp (call f (args.map (ev ρ)) lo M) Q) (hn : ∀ x, Q x → M.nx ≤ x.2.nx) (hr : ∀ x, Q x → roots.all (fun y => kept M.mem x.2.mem (ev ρ y)) = true) (hk : ∀ v M', Q (v, M') → Wp (k v M') Q') : Wp (bnd (istep call mode true lo lim fresh (.callk f args roots) ρ M) k) Q' := by
  obtain ⟨⟨w, M'⟩, e, q⟩ := h
  refine rn_bnd (v := w) (M := M') ?_ (hk w M' q)
  have h1 := hr _ q
  simp only at h1
  simp only [istep, docall, hm, if_true, rwD_ok e (hn _ q), h1]
end
section
variable {R : Type} {r : R → Prop} {k : AV → Option R}
theorem rn_ixZ {l : List Int} {i : Nat} {t : Int} {s : List Int} (h : l.drop i = t :: s) (hk : Wp (k (.ip (.v (.int .i64 t) :: encZ s))) r) : Wp (opt (ixsA 1 (avZ l) (.i (i : Int))) k) r := by
  obtain ⟨hi, _⟩ := drop_cons h
  refine rn_opt (v := .ip (.v (.int .i64 t) :: encZ s)) ?_ hk
  rw [ixsA_sl _ _ _ _ _ (by omega), Int.toNat_natCast, Nat.mul_one, encZ, ← List.map_drop, h]; rfl
end

/-- The names of made types. -/
def nms : List ByteArray := [⟨⟨[73, 110, 116]⟩⟩, ⟨⟨[66, 111, 111, 108]⟩⟩, ⟨⟨[84]⟩⟩, ⟨⟨[85]⟩⟩, ⟨⟨[83, 101, 108, 102]⟩⟩, ⟨⟨[65, 114, 114, 97, 121]⟩⟩, ⟨⟨[103, 101, 111, 46, 80]⟩⟩, ⟨⟨[103, 101, 111, 46, 81]⟩⟩, ⟨⟨[98, 97, 115, 101, 46, 82]⟩⟩]
def nmAt (i : Nat) : ByteArray := nms.getD i ⟨⟨[]⟩⟩
def opens (f : List Int → Ty × List Int) : Nat → List Int → List Ty × List Int
  | 0, r => ([], r)
  | n + 1, r => ((f r).1 :: (opens f n (f r).2).1, (opens f n (f r).2).2)
def openB (f : List Int → Ty × List Int) (nm : ByteArray) (n : Nat) (r : List Int) : Ty × List Int := (.mk nm (opens f n r).1, (opens f n r).2)
/-- What open makes, of depth k - 1. -/
def openT : Nat → List Int → Ty × List Int
  | 0, r => if (nextI 9 r).1 = 5 then (.mk (nmAt 0) [], (nextI 9 r).2) else (.mk (nmAt (nextI 9 r).1.toNat) [], (nextI 9 r).2)
  | k + 1, r =>
    if (nextI 9 r).1 = 5 then openB (openT k) (nmAt 5) 1 (nextI 9 r).2
    else if 6 ≤ (nextI 9 r).1 ∧ 0 < k then openB (openT k) (nmAt (nextI 9 r).1.toNat) (nextI 4 (nextI 9 r).2).1.toNat (nextI 4 (nextI 9 r).2).2
    else (.mk (nmAt (nextI 9 r).1.toNat) [], (nextI 9 r).2)

section
variable {call : CallT} (hc : Lim G call)
include hc

theorem mod_cc (x n : Int) (hn : n ≤ 9223372036854775807) : CC call 44 [.i x, .i n] (.i (modI x n)) := by
  intro lo M
  rw [q44 hc]
  unfold s44 modI
  by_cases h : n < 1
  · rw [if_pos h]
    repeat (first | (with_reducible (first | exact rn_ans | refine rn_if_t ?_)) | ((with_reducible refine rn_lss_t ?_ ?_); focus omega))
  · have h1 := Int.tmod_lt_of_pos x (show 0 < n by omega)
    have h2 := Int.lt_tmod_of_pos x (show 0 < n by omega)
    rw [if_neg h]
    by_cases h3 : x.tmod n < 0
    · rw [if_pos h3]
      repeat (first | (with_reducible (first | exact rn_ans | refine rn_if_t ?_ | refine rn_if_f ?_)) | ((with_reducible refine rn_add64 ?_ ?_); focus omega) | ((with_reducible refine rn_rem ?_ ?_); focus omega) | ((with_reducible refine rn_lss_t ?_ ?_); focus omega) | ((with_reducible refine rn_lss_f ?_ ?_); focus omega))
    · rw [if_neg h3]
      repeat (first | (with_reducible (first | exact rn_ans | refine rn_if_f ?_)) | ((with_reducible refine rn_rem ?_ ?_); focus omega) | ((with_reducible refine rn_lss_f ?_ ?_); focus omega))

theorem left_d {id : Nat} {r : List Int} (lo : Nat) (M : MM) (h : DI M id r) : Wp (call 43 [.ptr id 0] lo M) (Ans (.bool (!r.isEmpty)) M) := by
  obtain ⟨l, a, h1, h2, h3, h4, h5⟩ := h
  rw [q43 hc]
  unfold s43
  repeat (first | (with_reducible (first | refine rn_bumpa ?_ | refine rn_nilc ?_ | refine rn_fad ?_)))
  refine rn_ld (ok_lt h5) h4 rfl ?_
  repeat (first | (with_reducible (first | refine rn_nilc ?_ | refine rn_fad ?_)))
  refine rn_ld (ok_lt h5) h4 rfl ?_
  repeat (first | (with_reducible (first | refine rn_len_sl ?_)))
  refine rn_lss ?_
  refine rn_ans' ?_
  congr 3
  subst h1
  cases h : l.drop a with
  | nil =>
    have := drop_nil h
    simp only [List.isEmpty_nil, Bool.not_true, decide_eq_false_iff_not]; omega
  | cons x s =>
    have := drop_cons h
    simp only [List.isEmpty_cons, Bool.not_false, decide_eq_true_eq]; omega

theorem next_d {id : Nat} {r : List Int} (n : Int) (hn : n ≤ 9223372036854775807) (M : MM) (h : DI M id r) : Wp (call 17 [.ptr id 0, .i n] 0 M) (DAns id (.i (nextI n r).1) (nextI n r).2 M) := by
  rw [q17 hc]
  unfold s17
  refine rn_wp (left_d hc 0 M h) fun v M4 hh => ?_
  obtain ⟨e1, e2, e3⟩ := hh
  simp only at e1 e2 e3
  subst e1
  refine rn_fr (FrD.same e2 e3) ?_
  have h := h.same e2 e3
  clear e2 e3
  refine rn_not ?_
  cases r with
  | nil =>
    refine rn_if_t ?_
    exact rn_dans h
  | cons x s =>
    refine rn_if_f ?_
    obtain ⟨l, a, h1, h2, h3, h4, h5⟩ := h
    obtain ⟨ha, h1'⟩ := drop_cons h1
    repeat (first | (with_reducible (first | refine rn_nilc ?_ | refine rn_fad ?_)))
    refine rn_ld (ok_lt h5) h4 rfl ?_
    repeat (first | (with_reducible (first | refine rn_nilc ?_ | refine rn_fad ?_)) | ((with_reducible refine rn_add64 ?_ ?_); focus omega))
    refine rn_st1 rfl (ok_lt h5) h4 ⟨Nat.zero_le _, rfl, rfl⟩ (by simp) rfl ?_
    have hmem : (M4.put id (.cells 56 [avZ l, .i ((a + 1 : Nat) : Int)])).mem id = some (.cells 56 [avZ l, .i ((a + 1 : Nat) : Int)]) := upd_same _ _ _
    have e : ((a : Int) + 1) = ((a + 1 : Nat) : Int) := by omega
    refine rn_fr (M1 := M4.put id (.cells 56 [avZ l, .i ((a + 1 : Nat) : Int)])) ⟨Nat.le_refl _, fun j _ hj => upd_ne _ _ _ _ hj⟩ ?_
    show Wp (bumpK (M4.put id (.cells 56 [avZ l, .i ((a : Int) + 1)])) _ _) _
    rw [e]
    have hcl : ∀ y ∈ [AV.i x, .i n], Cl y := by simp [Cl, closedA, closedC, normA, normC, normD]
    refine rn_dbump ?_
    repeat (first | (with_reducible (first | refine rn_nilc ?_ | refine rn_fad ?_)))
    refine rn_ld (ok_lt h5) hmem rfl ?_
    repeat (first | (with_reducible (first | refine rn_nilc ?_ | refine rn_fad ?_)))
    refine rn_ld (ok_lt h5) hmem rfl ?_
    refine rn_sub64 (by omega) ?_
    rw [show (((a + 1 : Nat) : Int) - 1) = ((a : Nat) : Int) by omega]
    repeat (first | (with_reducible (first | refine rn_ixZ h1 ?_ | refine rn_pcc (mod_cc hc x n hn) (fz_i _) hcl ?_ | refine rn_ldi ?_)))
    refine rn_dans ?_
    exact ⟨l, a + 1, h1', ha, h3, upd_same _ _ _, Nat.lt_of_lt_of_le h5 (Nat.le_add_right _ _)⟩

theorem roll_d (l : List Int) (hl : l.length ≤ 1000000000000) (lo : Nat) (M : MM) : Wp (call 12 [avZ l] lo M) (fun x => x.1 = .ptr M.nx 0 ∧ DI x.2 M.nx l ∧ FrD M.nx M x.2) := by
  rw [q12 hc]
  unfold s12
  repeat (first | (with_reducible (first | refine rn_mke ?_)) | ((with_reducible refine rn_mk0 ?_ ?_); focus exact ⟨rfl, rfl⟩))
  refine rn_box rfl ?_
  refine rn_done ⟨rfl, ⟨l, 0, rfl, Nat.zero_le _, hl, upd_same _ _ _, Nat.lt_of_lt_of_le (Nat.lt_succ_self _) (Nat.le_max_right _ _)⟩, Nat.le_max_left _ _, fun j _ hj => upd_ne _ _ _ _ hj⟩

theorem light_cc (l : List Int) : CC call 9 [avZ l] (.bool (decide (l.length ≤ 700))) := by
  intro lo M
  rw [q9 hc]
  unfold s9
  repeat (first | (with_reducible (first | refine rn_len_sl ?_)))
  refine rn_leq ?_
  have e : decide ((l.length : Int) ≤ 700) = decide (l.length ≤ 700) := by rw [decide_eq_decide]; omega
  exact rn_ans' (by rw [e])

end

theorem nm_arr : ∀ i, i < 9 → decide (nmAt i = ⟨⟨[65, 114, 114, 97, 121]⟩⟩) = decide (i = 5) := by decide
theorem nm_low : ∀ i, i < 9 → ∃ b : UInt8, (nmAt i).data[0]? = some b ∧ decide ((97 : Int) ≤ b.toNat) = decide (6 ≤ i) := by
  intro i h
  match i, h with
  | 0, _ => exact ⟨73, rfl, rfl⟩
  | 1, _ => exact ⟨66, rfl, rfl⟩
  | 2, _ => exact ⟨84, rfl, rfl⟩
  | 3, _ => exact ⟨85, rfl, rfl⟩
  | 4, _ => exact ⟨83, rfl, rfl⟩
  | 5, _ => exact ⟨65, rfl, rfl⟩
  | 6, _ => exact ⟨103, rfl, rfl⟩
  | 7, _ => exact ⟨103, rfl, rfl⟩
  | 8, _ => exact ⟨98, rfl, rfl⟩
theorem nm_drop : ∀ i, i < 9 → nms.drop i = nmAt i :: nms.drop (i + 1) := by
  intro i h
  rw [List.drop_eq_getElem_cons (by exact h)]
  unfold nmAt
  rw [List.getD_eq_getElem?_getD, List.getElem?_eq_getElem (by exact h)]; rfl
theorem rn_setNm {t : Ty} {n : ByteArray} {R : Type} {r : R → Prop} {k : AV → Option R} (hk : Wp (k (avT (.mk n t.args))) r) : Wp (opt (setcA 0 1 (avT t) (.str n)) k) r := hk

theorem eqDs_app : ∀ {a a' b b' : List D}, eqDs a a' = true → eqDs b b' = true → eqDs (a ++ b) (a' ++ b') = true
  | [], [], _, _, _, h => h
  | x :: a, y :: a', b, b', h, h2 => by
    simp only [eqDs, Bool.and_eq_true, List.cons_append] at h ⊢
    exact ⟨h.1, eqDs_app h.2 h2⟩
  | [], _ :: _, _, _, h, _ => by simp [eqDs] at h
  | _ :: _, [], _, _, h, _ => by simp [eqDs] at h
mutual
theorem eqDs_T : ∀ t : Ty, eqDs (encT t) (encT t) = true
  | .mk n l => by simp [encT, eqDs, eqD, eqV, eqDs_Ts l]
theorem eqDs_Ts : ∀ l : List Ty, eqDs (encTs l) (encTs l) = true
  | [] => rfl
  | t :: r => by rw [encTs]; exact eqDs_app (eqDs_T t) (eqDs_Ts r)
end
theorem kept_T (m m' : Mem) (t : Ty) : kept m m' (avT t) = true := by
  have h := eqDs_T t
  rw [encT_eq] at h
  simp only [eqDs, Bool.and_eq_true] at h
  simp only [kept, avT, eqAs, eqA, h.1, h.2.1, Bool.and_self]

section
variable {call : CallT}

theorem open_none {id : Nat} {r : List Int} {t : Ty} (nl lo f : Nat) (x0 x1 : AV) (M : MM) (h : DI M id r) (hf : 0 < f) : Wp (b11_9 call nl lo f x0 x1 (avT ty0) (avT t) (.i 0) M) (DAns id (avT t) r M) := by
  obtain ⟨f, rfl⟩ : ∃ k, f = k + 1 := ⟨f - 1, by omega⟩
  unfold b11_9
  refine rn_gtr_f (by decide) (rn_if_f ?_)
  repeat (first | (with_reducible (first | refine rn_setTT ?_ | refine rn_allT ?_ | refine rn_locT ?_)))
  exact rn_dans h

theorem open_loop {id : Nat} (nl : Nat) (k : Nat) (hk : k ≤ 1000) (nm : ByteArray) (ih : ∀ (r : List Int) (M : MM), DI M id r → Wp (call 11 [.ptr id 0, .i ((k : Int) - 1)] 0 M) (DAns id (avT (openT k r).1) (openT k r).2 M)) :
    ∀ (n : Nat) (d : List Ty) (f : Nat) (r : List Int) (M : MM), DI M id r → n < f → d.length + n ≤ 1000 →
      Wp (b11_9 call nl 0 f (.ptr id 0) (.i (k : Int)) (avT ty0) (avT (.mk nm d)) (.i (n : Int)) M) (DAns id (avT (.mk nm (d ++ (opens (openT k) n r).1))) (opens (openT k) n r).2 M) := by
  intro n
  induction n with
  | zero =>
    intro d f r M h hf hd
    simp only [opens, List.append_nil]
    exact open_none nl 0 f _ _ M h hf
  | succ n ihn =>
    intro d f r M h hf hd
    obtain ⟨f, rfl⟩ : ∃ k, f = k + 1 := ⟨f - 1, by omega⟩
    have hbb : ((Ty.mk nm d).args.length + 1) * 40 ≤ 140737488355328 ∧ (Ty.mk nm d).args.length + 1 ≤ 9223372036854775807 := by simp only [Ty.args]; omega
    unfold b11_9
    repeat (first | (with_reducible (first | refine rn_if_t ?_)) | ((with_reducible refine rn_gtr_t ?_ ?_); focus omega))
    refine rn_dbump ?_
    repeat (first | (with_reducible (first | refine rn_noT ?_ | refine rn_argsT ?_)) | ((with_reducible refine rn_sub64 ?_ ?_); focus omega))
    refine rn_callk rfl (ih r (M.bump 10) h.bump) (fun x hx => hx.2.2.1) (fun x hx => ?_) (fun w M1 hh => ?_)
    · show ([X.k (avT (.mk nm d))].all fun y => kept _ _ (ev [] y)) = true
      simp only [List.all_cons, List.all_nil, ev, kept_T, Bool.and_self]
    · obtain ⟨e1, h1, h2⟩ := hh
      simp only at e1 h1 h2
      subst e1
      refine rn_fr h2 ?_
      repeat (first | (with_reducible (first | refine rn_noT ?_ | refine rn_wslT ?_ | refine rn_setA ?_ | refine rn_dup ?_ | refine rn_appT hbb ?_)) | ((with_reducible refine rn_sub64 ?_ ?_); focus omega))
      rw [show (((n + 1 : Nat) : Int) - 1) = (n : Int) by omega]
      have e : d ++ (opens (openT k) (n + 1) r).1 = (d ++ [(openT k r).1]) ++ (opens (openT k) n (openT k r).2).1 := by simp only [opens, List.append_assoc, List.cons_append, List.nil_append]
      have e2 : (opens (openT k) (n + 1) r).2 = (opens (openT k) n (openT k r).2).2 := rfl
      rw [e, e2]
      exact ihn (d ++ [(openT k r).1]) f (openT k r).2 _ h1.up.up (by omega) (by simp only [List.length_append, List.length_cons, List.length_nil]; omega)

theorem open_head (hc : Lim G call) {id : Nat} {r r' : List Int} {v x1 : AV} (nl : Nat) (M : MM) (h : DI M id r) (hk : ∀ i : Nat, i < 9 → (nextI 9 r).1 = (i : Int) → ∀ M', DI M' id (nextI 9 r).2 → Wp (b11_11 call nl 0 (.ptr id 0) x1 (avT ty0) (avT (.mk (nmAt i) [])) (.i 0) M') (DAns id v r' M')) : Wp (s11 call nl 0 (.ptr id 0) x1 M) (DAns id v r' M) := by
  obtain ⟨i, e, hi⟩ := nextI_lt 9 (by decide) r
  have hi : i < 9 := by omega
  unfold s11
  refine rn_dup ?_
  refine rn_wsl (ds := encS nms) rfl ?_
  refine rn_dup ?_
  repeat (first | (with_reducible (first | refine rn_len_sl ?_)))
  refine rn_dcall (next_d hc 9 (by decide) _ h.up.up) (fun M1 h1 => ?_)
  rw [e]
  refine rn_ixS (l := nms) (nm_drop i hi) ?_
  repeat (first | (with_reducible (first | refine rn_dup ?_ | refine rn_mke ?_)) | ((with_reducible refine rn_mk0 ?_ ?_); focus exact ⟨rfl, rfl⟩) | (with_reducible (first | refine rn_ldi ?_)))
  exact hk i hi e _ h1.up

theorem open_d (hc : Lim G call) {id : Nat} : ∀ (k : Nat) (r : List Int) (M : MM), k ≤ 1000 → DI M id r → Wp (call 11 [.ptr id 0, .i ((k : Int) - 1)] 0 M) (DAns id (avT (openT k r).1) (openT k r).2 M) := by
  intro k
  induction k with
  | zero =>
    intro r M hk h
    obtain ⟨nl, hG, hN⟩ : ∃ nl, G.nl = nl ∧ nl = 18446744073709551616 := ⟨_, rfl, rfl⟩
    rw [q11 hc, hG]
    clear hG
    refine open_head hc nl M h (fun i hi e M1 h1 => ?_)
    rw [openT, e]
    refine rn_gtr_f (by decide) (rn_gp_ft (rn_gp_ft (rn_gp_ft (rn_gp_ft (rn_pf (rn_if_f ?_))))))
    repeat (first | (with_reducible (first | refine rn_noT ?_ | refine rn_nameT ?_ | refine rn_eqS ?_)))
    rw [Ty.name, nm_arr i hi]
    refine rn_if (fun h5 => ?_) (fun h5 => ?_)
    · subst h5
      rw [if_pos (show ((5 : Nat) : Int) = 5 from rfl)]
      repeat (first | (with_reducible (first | refine rn_noT ?_ | refine rn_setNm ?_ | refine rn_if_t ?_)) | ((with_reducible refine rn_lss_t ?_ ?_); focus omega))
      exact open_none nl 0 nl _ _ M1 h1 (by omega)
    · rw [if_neg (by omega), Int.toNat_natCast]
      exact open_none nl 0 nl _ _ M1 h1 (by omega)
  | succ k ih =>
    intro r M hk h
    obtain ⟨nl, hG, hN⟩ : ∃ nl, G.nl = nl ∧ nl = 18446744073709551616 := ⟨_, rfl, rfl⟩
    rw [q11 hc, hG]
    clear hG
    rw [show (((k + 1 : Nat) : Int) - 1) = (k : Int) by omega]
    have loop := open_loop (call := call) (id := id) nl k (by omega)
    refine open_head hc nl M h (fun i hi e M1 h1 => ?_)
    rw [openT, e]
    have tail : ∀ M1, DI M1 id (nextI 9 r).2 → ¬ (6 ≤ i ∧ 0 < k) → Wp (b11_5 call nl 0 (.ptr id 0) (.i (k : Int)) (avT ty0) (avT (.mk (nmAt i) [])) (.i 0) M1) (DAns id (avT (if ((i : Nat) : Int) = 5 then openB (openT k) (nmAt 5) 1 (nextI 9 r).2 else if 6 ≤ ((i : Nat) : Int) ∧ 0 < k then openB (openT k) (nmAt ((i : Nat) : Int).toNat) (nextI 4 (nextI 9 r).2).1.toNat (nextI 4 (nextI 9 r).2).2 else (.mk (nmAt ((i : Nat) : Int).toNat) [], (nextI 9 r).2)).1) (if ((i : Nat) : Int) = 5 then openB (openT k) (nmAt 5) 1 (nextI 9 r).2 else if 6 ≤ ((i : Nat) : Int) ∧ 0 < k then openB (openT k) (nmAt ((i : Nat) : Int).toNat) (nextI 4 (nextI 9 r).2).1.toNat (nextI 4 (nextI 9 r).2).2 else (.mk (nmAt ((i : Nat) : Int).toNat) [], (nextI 9 r).2)).2 M1) := fun M1 h1 hn => by
      repeat (first | (with_reducible (first | refine rn_noT ?_ | refine rn_nameT ?_ | refine rn_eqS ?_)))
      rw [Ty.name, nm_arr i hi]
      refine rn_if (fun h5 => ?_) (fun h5 => ?_)
      · subst h5
        rw [if_pos (show ((5 : Nat) : Int) = 5 from rfl)]
        repeat (first | (with_reducible (first | refine rn_if_f ?_)) | ((with_reducible refine rn_lss_f ?_ ?_); focus omega))
        exact loop (nmAt 5) (fun r M h => ih r M (by omega) h) 1 [] nl _ _ h1 (by omega) (by decide)
      · rw [if_neg (by omega), if_neg (fun hh => hn ⟨by omega, hh.2⟩), Int.toNat_natCast]
        exact open_none nl 0 nl _ _ M1 h1 (by omega)
    by_cases hk0 : 0 < k
    · refine rn_gtr_t (by omega) ?_
      obtain ⟨b, hb, hbl⟩ := nm_low i hi
      repeat (first | (with_reducible (first | refine rn_noT ?_ | refine rn_nameT ?_ | refine rn_gp_tt ?_)))
      refine rn_ixc (by decide) hb ?_
      refine rn_gp_tt ?_
      refine rn_geq ?_
      rw [hbl]
      refine rn_pt ?_
      refine rn_if (fun h6 => ?_) (fun h6 => ?_)
      · obtain ⟨m, em, hm⟩ := nextI_lt 4 (by decide) (nextI 9 r).2
        refine rn_dcall (next_d hc 4 (by decide) _ h1) (fun M2 h2 => ?_)
        repeat (first | (with_reducible (first | refine rn_noT ?_ | refine rn_nameT ?_ | refine rn_eqS ?_)))
        rw [Ty.name, nm_arr i hi, decide_eq_false (by omega), em]
        refine rn_if_f ?_
        rw [if_neg (by omega), if_pos ⟨by omega, hk0⟩, Int.toNat_natCast, Int.toNat_natCast]
        exact loop (nmAt i) (fun r M h => ih r M (by omega) h) m [] nl _ _ h2 (by omega) (by simp only [List.length_nil]; omega)
      · exact tail M1 h1 (fun hh => h6 hh.1)
    · refine rn_gtr_f (by omega) (rn_gp_ft (rn_gp_ft (rn_gp_ft (rn_gp_ft (rn_pf (rn_if_f ?_))))))
      exact tail M1 h1 (fun hh => hk0 hh.2)
end
end Go.Proofs.Ytcoagkfjdpdohaa.Sx
