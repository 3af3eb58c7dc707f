/- TYPES: the law TypetermLooks on the abstract machine, where the text of the first type is not too long. -/
import Derived.Test.YtcoagkfjdpdohaaTyVLo
import Derived.Test.YtcoagkfjdpdohaaSxUp
import Derived.Test.YtcoagkfjdpdohaaTyVaLo
namespace Go.Proofs.Ytcoagkfjdpdohaa.Sx
open Go
set_option maxRecDepth 1000000
set_option linter.unusedSimpArgs false
set_option linter.unusedVariables false

section
variable {R : Type} {r : R → Prop} {k : AV → Option R}
theorem rn_nebb {b : Bool} (hk : Wp (k (.bool false)) r) : Wp (opt (binA .neq .bool (.bool b) (.bool b)) k) r := rn_neb (by rw [show (!(b == b)) = false by simp]; exact hk)
theorem rn_ness {e : EK} {s : ByteArray} (hk : Wp (k (.bool false)) r) : Wp (opt (binA .neq e (.str s) (.str s)) k) r := rn_neS (by rw [decide_eq_true rfl]; exact hk)
end
theorem encP_drop : ∀ (l : List (Ty × Ty)) (i : Nat), ((l.map fun p => encT p.1 ++ encT p.2).flatten).drop (i * 4) = ((l.drop i).map fun p => encT p.1 ++ encT p.2).flatten
  | [], i => by simp
  | p :: l, 0 => by simp
  | p :: l, i + 1 => by
    have e2 : (encT p.1 ++ encT p.2).length = 4 := by rw [List.length_append, encT_len, encT_len]
    rw [List.map_cons, List.flatten_cons, show (i + 1) * 4 = (encT p.1 ++ encT p.2).length + i * 4 by rw [e2]; omega, ← List.drop_drop, List.drop_left, encP_drop l i, List.drop_succ_cons]
/-- Pairs of types in a list. -/
def encP (l : List (Ty × Ty)) : List D := (l.map fun p => encT p.1 ++ encT p.2).flatten
abbrev avP (l : List (Ty × Ty)) : AV := .d (.sl (encP l) l.length)
def pairA (p : Ty × Ty) : AV := .agg [.d (.v (.string p.1.name)), .d (.sl (encTs p.1.args) p.1.args.length), .d (.v (.string p.2.name)), .d (.sl (encTs p.2.args) p.2.args.length)]
theorem rn_ixP {l : List (Ty × Ty)} {i : Nat} {p : Ty × Ty} {s : List (Ty × Ty)} {R : Type} {r : R → Prop} {k : AV → Option R} (h : l.drop i = p :: s) (hk : Wp (k (.ip ((encT p.1 ++ encT p.2) ++ encP s))) r) : Wp (opt (ixsA 4 (avP l) (.i (i : Int))) k) r := by
  obtain ⟨hi, _⟩ := drop_cons h
  refine rn_opt (v := .ip ((encT p.1 ++ encT p.2) ++ encP s)) ?_ hk
  have e : (encP l).drop (i * 4) = (encT p.1 ++ encT p.2) ++ encP s := by rw [encP, encP_drop, h]; simp [encP]
  rw [ixsA_sl _ _ _ _ _ (by omega), Int.toNat_natCast, e]
theorem rn_ldP {p : Ty × Ty} {l : List D} {lk : Nat → Option Blk} {R : Type} {r : R → Prop} {k : AV → Option R} (hk : Wp (k (pairA p)) r) : Wp (opt (ldnA lk 4 (.ip ((encT p.1 ++ encT p.2) ++ l))) k) r := by
  rw [encT_eq, encT_eq]; exact hk
theorem rn_mkP {t u : Ty} {a b c d : AV} {R : Type} {r : R → Prop} {k : AV → Option R} (hk : Wp (k (pairA (t, u))) r) : Wp (opt ((fill [a, b, c, d] [(0, 2, avT t), (2, 2, avT u)]).map .agg) k) r := hk
theorem rn_wslP4 {p q s o : Ty × Ty} {zs : List AV} (hz : zs.length = 16) {R : Type} {r : R → Prop} {k : AV → Option R} (hk : Wp (k (avP [p, q, s, o])) r) : Wp (opt (wslA 4 (fill zs [(0, 4, pairA p), (4, 4, pairA q), (8, 4, pairA s), (12, 4, pairA o)])) k) r := by
  match zs, hz with
  | [_, _, _, _, _, _, _, _, _, _, _, _, _, _, _, _], _ =>
    refine rn_wsl (ds := encP [p, q, s, o]) ?_ hk
    simp only [encP, List.map_cons, List.map_nil, List.flatten_cons, List.flatten_nil, List.append_nil, encT_eq, List.cons_append, List.nil_append]; rfl

mutual
/-- How many values and letters a type has. -/
def Ty.letters : Ty → Nat
  | .mk n l => n.size + 2 + letterss l
def letterss : List Ty → Nat
  | [] => 0
  | t :: r => t.letters + letterss r
end
mutual
theorem Ty.text_letters : ∀ t : Ty, t.textL.length + 2 ≤ 2 * t.letters
  | .mk n l => by
    have h1 := texts_letters l
    have hn : n.data.toList.length = n.size := by rw [Array.length_toList]; rfl
    rw [Ty.textL, Ty.letters, List.length_append]
    cases l with
    | nil => simp only [List.isEmpty_nil, if_true, List.length_nil]; omega
    | cons u r =>
      simp only [List.isEmpty_cons, Bool.false_eq_true, if_false, textLs, Lib.join_cons, List.length_cons, List.length_append, List.length_nil]
      have e : (Lib.joinTail [44, 32] (textLs (u :: r))).length = 2 + u.textL.length + (Lib.joinTail [44, 32] (textLs r)).length := by simp [textLs, Lib.joinTail]; omega
      rw [e] at h1
      omega
theorem texts_letters : ∀ l : List Ty, (Lib.joinTail [44, 32] (textLs l)).length ≤ 2 * letterss l
  | [] => by simp [textLs, Lib.joinTail]
  | t :: r => by
    have h1 := Ty.text_letters t
    have h2 := texts_letters r
    have e : (Lib.joinTail [44, 32] (textLs (t :: r))).length = 2 + t.textL.length + (Lib.joinTail [44, 32] (textLs r)).length := by simp [textLs, Lib.joinTail]; omega
    rw [e, letterss]
    omega
end
theorem letters_short : ∀ (k : Nat) (r : List Int), (openT k r).1.letters ≤ 8 * (openT k r).1.size := by
  have mk : ∀ (n : ByteArray) (l : List Ty), n.size ≤ 6 → letterss l ≤ 8 * sizes l → (Ty.mk n l).letters ≤ 8 * (Ty.mk n l).size := fun n l h1 h2 => by rw [Ty.letters, Ty.size]; omega
  have ops : ∀ (f : List Int → Ty × List Int), (∀ r, (f r).1.letters ≤ 8 * (f r).1.size) → ∀ (n : Nat) (r : List Int), letterss (opens f n r).1 ≤ 8 * sizes (opens f n r).1 := by
    intro f h n
    induction n with
    | zero => intro r; exact Nat.le_refl _
    | succ n ih =>
      intro r
      have h1 := h r
      have h2 := ih (f r).2
      simp only [opens, letterss, sizes]; omega
  intro k
  induction k with
  | zero =>
    intro r
    obtain ⟨i, e, hi⟩ := nextI_lt 9 (by decide) r
    rw [openT]
    split
    · exact mk _ _ (nm_wf 0 (by decide)) (Nat.le_refl _)
    · rw [e, Int.toNat_natCast]; exact mk _ _ (nm_wf i (by omega)) (Nat.le_refl _)
  | succ k ih =>
    intro r
    obtain ⟨i, e, hi⟩ := nextI_lt 9 (by decide) r
    rw [openT]
    split
    · exact mk _ _ (nm_wf 5 (by decide)) (ops _ ih _ _)
    · split
      · rw [e, Int.toNat_natCast]; exact mk _ _ (nm_wf i (by omega)) (ops _ ih _ _)
      · rw [e, Int.toNat_natCast]; exact mk _ _ (nm_wf i (by omega)) (Nat.le_refl _)

section
variable {call : CallT} (hc : Lim G call)
include hc

theorem looks_run (t u : Ty) (nam : ByteArray) (l : List Int) (wt : t.wf) (hnam : nam.size ≤ 9223372036854775807) (htx : t.letters ≤ 100000000000) (M : MM) : Wp (call 8 [avT t, avT u, .str nam, avZ l] 0 M) (Av (.bool true)) := by
  obtain ⟨nl, hG, hN⟩ : ∃ nl, G.nl = nl ∧ nl = 18446744073709551616 := ⟨_, rfl, rfl⟩
  rw [q8 hc, hG]
  clear hG
  have haw : ∀ M : MM, Wp (opt (puA call (lk M) 10 []) fun v19 => some (v19, M)) (Av (.bool true)) := fun M => by
    refine rn_puc (awake_pc hc) (by simp) ?_
    exact rn_av
  have bulk6 : bulk 6 = 9331 := by decide
  -- names
  have strs : ∀ (L : List ByteArray), L.length ≤ 10 → (∀ s ∈ L, s.size ≤ 9223372036854775807) → ∀ (s : List ByteArray) (i f : Nat) (M : MM), L.drop i = s → s.length < f →
      Wp (b8_8 call nl 0 f (avS L) (.i (L.length : Nat)) (.i (i : Int)) M) (Av (.bool true)) := by
    intro L hL hsz s
    induction s with
    | nil =>
      intro i f M hd hf
      obtain ⟨f, rfl⟩ : ∃ k, f = k + 1 := ⟨f - 1, by simp only [List.length_nil] at hf; omega⟩
      have := drop_nil hd
      unfold b8_8
      refine rn_lss_f (by omega) (rn_if_f ?_)
      exact haw M
    | cons x s ih =>
      intro i f M hd hf
      simp only [List.length_cons] at hf
      obtain ⟨f, rfl⟩ : ∃ k, f = k + 1 := ⟨f - 1, by omega⟩
      obtain ⟨hi, hd'⟩ := drop_cons hd
      have hx := hsz x (List.drop_subset i L (by rw [hd]; simp))
      have c1 : ∀ y ∈ [AV.str x], Cl y := by simp [ClStr]
      unfold b8_8
      refine rn_lss_t (by omega) (rn_if_t ?_)
      repeat (first | (with_reducible (first | refine rn_ixS hd ?_ | refine rn_pcc (split_cc hc x hx) (fz_split x) c1 ?_ | refine rn_pcc (rsplit_cc hc x hx) (fz_split x) c1 ?_ | refine rn_ness ?_ | refine rn_nebb ?_ | refine rn_pcc (Builtin_cc hc x) (fz_b _) c1 ?_ | refine rn_pcc (RBuiltin_cc hc x) (fz_b _) c1 ?_ | refine rn_some ?_ | refine rn_if_f ?_ | refine rn_gp_ff ?_ | refine rn_pf ?_ | refine rn_ext0 ?_ | refine rn_ext1 ?_ | refine rn_ext2 ?_ | refine rn_ldi ?_)) | ((with_reducible refine rn_add64 ?_ ?_); focus omega))
      exact ih (i + 1) f M hd' (by omega)
  -- pairs of types
  have pairs : ∀ (x4 x10 : Ty) (PL : List (Ty × Ty)), x4.wf → x10.wf → PL.length ≤ 4 → (∀ p ∈ PL, p.1.size ≤ 1000000 ∧ p.1.wf ∧ p.1.textL.length ≤ 1000000000000) → ∀ (s : List (Ty × Ty)) (k f : Nat) (M : MM), PL.drop k = s → s.length < f →
      Wp (b8_10 call nl 0 f (.str nam) (avT x4) (avT x10) (avP PL) (.i (PL.length : Nat)) (.i (k : Int)) M) (Av (.bool true)) := by
    intro x4 x10 PL w4 w10 hPL hP s
    induction s with
    | nil =>
      intro k f M hd hf
      obtain ⟨f, rfl⟩ : ∃ k, f = k + 1 := ⟨f - 1, by simp only [List.length_nil] at hf; omega⟩
      have := drop_nil hd
      unfold b8_10
      refine rn_lss_f (by omega) (rn_if_f ?_)
      refine rn_noT (rn_nameT (rn_noT (rn_nameT ?_)))
      refine rn_wsl (ds := encS [nam, x4.name, x10.name, ⟨⟨[97, 46, 98, 46, 99]⟩⟩, ⟨⟨[46, 97]⟩⟩, ⟨⟨[97, 46]⟩⟩]) rfl (rn_upk ?_)
      exact strs [nam, x4.name, x10.name, ⟨⟨[97, 46, 98, 46, 99]⟩⟩, ⟨⟨[46, 97]⟩⟩, ⟨⟨[97, 46]⟩⟩] (by simp) (fun s hs => by
        simp only [List.mem_cons, List.not_mem_nil, or_false] at hs
        rcases hs with rfl | rfl | rfl | rfl | rfl | rfl
        · exact hnam
        · exact w4.name
        · exact w10.name
        · decide
        · decide
        · decide) _ 0 nl _ rfl (by simp only [List.drop_zero, List.length_cons, List.length_nil]; omega)
    | cons p s ih =>
      intro k f M hd hf
      simp only [List.length_cons] at hf
      obtain ⟨f, rfl⟩ : ∃ k, f = k + 1 := ⟨f - 1, by omega⟩
      obtain ⟨hk, hd'⟩ := drop_cons hd
      obtain ⟨hp1, hpw, hpt⟩ := hP p (List.drop_subset k PL (by rw [hd]; simp))
      have big : ∀ (id : Nat) (M : MM), id < M.nx → M.mem id = some (.cells 42 [.d (.v (.string p.1.name)), .d (.sl (encTs p.1.args) p.1.args.length), .d (.v (.string p.2.name)), .d (.sl (encTs p.2.args) p.2.args.length)]) →
          Wp (b8_18 call nl 0 (b8_10 call nl 0 f) (.str nam) (avT x4) (avT x10) (.ptr id 0) (avP PL) (.i (PL.length : Nat)) (.i (k : Int)) M) (Av (.bool true)) := by
        intro id M hid hm
        have L0 : ∀ {lim : Lm} {k : AV → Option (AV × MM)}, lim.ok id = true → Wp (k (avT p.1)) (Av (.bool true)) → Wp (opt (ldnA (look (M.bump 69).mem lim) 2 (.ptr id (0 + (0 : Int).toNat * 2))) k) (Av (.bool true)) := fun h1 h2 => rn_ldTc (M := M.bump 69) (u := p.1) h1 hm (by simp) rfl h2
        have L1 : ∀ {lim : Lm} {k : AV → Option (AV × MM)}, lim.ok id = true → Wp (k (avT p.2)) (Av (.bool true)) → Wp (opt (ldnA (look (M.bump 69).mem lim) 2 (.ptr id (0 + (1 : Int).toNat * 2))) k) (Av (.bool true)) := fun h1 h2 => rn_ldTc (M := M.bump 69) (u := p.2) h1 hm (by simp) rfl h2
        have k1 := valid_cc hc _ p.1 (Nat.le_refl _) (by omega) hpw
        have k2 := rvalid_cc hc _ p.1 (Nat.le_refl _) (by omega) hpw
        have k3 := same_cc hc _ p.1 p.2 (Nat.le_refl _) (by omega)
        have k4 := rsame_cc hc p.1 p.2 (by omega)
        have k5 := compare_cc hc _ p.1 p.2 (Nat.le_refl _) (by omega)
        have k6 := rcompare_cc hc _ p.1 p.2 (Nat.le_refl _) (by omega)
        have k7 := depth_cc hc _ p.1 (Nat.le_refl _) (by omega)
        have k8 := rdepth_cc hc _ p.1 (Nat.le_refl _) (by omega)
        have k9 := size_cc hc _ p.1 (Nat.le_refl _) (by omega)
        have k10 := rsize_cc hc _ p.1 (Nat.le_refl _) (by omega)
        have k11 := closed_cc hc _ p.1 (Nat.le_refl _) (by omega)
        have k12 := rclosed_cc hc p.1 (by omega) hpw
        have k13 := text_cc hc _ p.1 (Nat.le_refl _) (by omega) hpt
        have k14 := rtext_cc hc p.1 (by omega) hpt
        refine rn_bumpk ?_
        repeat (first | ((with_reducible refine rn_ixp ?_ ?_); focus decide) | ((with_reducible refine L0 ?_ ?_); focus exact ok_lt hid) | ((with_reducible refine L1 ?_ ?_); focus exact ok_lt hid) | (with_reducible (first | refine rn_pcc k1 (fz_b _) (ClT1 _) ?_ | refine rn_pcc k2 (fz_b _) (ClT1 _) ?_ | refine rn_pcc k3 (fz_b _) (ClT2 _ _) ?_ | refine rn_pcc k4 (fz_b _) (ClT2 _ _) ?_ | refine rn_pcc k5 (fz_i _) (ClT2 _ _) ?_ | refine rn_pcc k6 (fz_i _) (ClT2 _ _) ?_ | refine rn_pcc k7 (fz_i _) (ClT1 _) ?_ | refine rn_pcc k8 (fz_i _) (ClT1 _) ?_ | refine rn_pcc k9 (fz_i _) (ClT1 _) ?_ | refine rn_pcc k10 (fz_i _) (ClT1 _) ?_ | refine rn_pcc k11 (fz_b _) (ClT1 _) ?_ | refine rn_pcc k12 (fz_b _) (ClT1 _) ?_ | refine rn_pcc k13 (fz_s _) (ClT1 _) ?_ | refine rn_pcc k14 (fz_s _) (ClT1 _) ?_ | refine rn_nebb ?_ | refine rn_ness ?_ | refine rn_if_f ?_ | refine rn_gp_ff ?_ | refine rn_pf ?_)) | ((with_reducible refine rn_add64 ?_ ?_); focus omega) | ((with_reducible refine rn_neq_f ?_ ?_); focus omega))
        exact ih (k + 1) f _ hd' (by omega)
      have names : ∀ (id : Nat) (ps : List ByteArray) (s : List ByteArray) (i f2 : Nat) (M : MM), ps.length ≤ 1000000000 → ps.drop i = s → s.length < f2 → id < M.nx → M.mem id = some (.cells 42 [.d (.v (.string p.1.name)), .d (.sl (encTs p.1.args) p.1.args.length), .d (.v (.string p.2.name)), .d (.sl (encTs p.2.args) p.2.args.length)]) →
          Wp (b8_20 call nl 0 (b8_10 call nl 0 f) f2 (.str nam) (avT x4) (avT x10) (.ptr id 0) (avS ps) (avS ps) (avP PL) (.i (PL.length : Nat)) (.i (k : Int)) (.i (ps.length : Nat)) (.i (i : Int)) M) (Av (.bool true)) := by
        intro id ps s
        induction s with
        | nil =>
          intro i f2 M hps hd hf hid hm
          obtain ⟨f2, rfl⟩ : ∃ k, f2 = k + 1 := ⟨f2 - 1, by simp only [List.length_nil] at hf; omega⟩
          have := drop_nil hd
          unfold b8_20
          refine rn_lss_f (by omega) (rn_if_f ?_)
          exact big id M hid hm
        | cons n s ihs =>
          intro i f2 M hps hd hf hid hm
          simp only [List.length_cons] at hf
          obtain ⟨f2, rfl⟩ : ∃ k, f2 = k + 1 := ⟨f2 - 1, by omega⟩
          obtain ⟨hi, hd2⟩ := drop_cons hd
          unfold b8_20
          refine rn_lss_t (by omega) (rn_if_t ?_)
          repeat (first | (with_reducible (first | refine rn_bumpk ?_ | refine rn_ixS hd ?_ | refine rn_ness ?_ | refine rn_if_f ?_ | refine rn_ldi ?_)) | ((with_reducible refine rn_add64 ?_ ?_); focus omega))
          exact ihs (i + 1) f2 _ hps hd2 (by omega) (Nat.lt_of_lt_of_le hid (Nat.le_add_right _ _)) hm
      have hcl := p.1.coll_len []
      simp only [List.length_nil, Nat.zero_add] at hcl
      have pc1 := Params_cc hc p.1 (by omega)
      have pc2 := RParams_cc hc p.1 (by omega) hpw
      unfold b8_10
      refine rn_lss_t (by omega) (rn_if_t ?_)
      refine rn_ixP hd ?_
      refine rn_ldP ?_
      refine rn_new rfl ?_
      refine rn_stn (xs := [.d (.v (.string p.1.name)), .d (.sl (encTs p.1.args) p.1.args.length), .d (.v (.string p.2.name)), .d (.sl (encTs p.2.args) p.2.args.length)]) rfl (ok_lt (Nat.lt_of_lt_of_le (Nat.lt_succ_self _) (Nat.le_max_right _ _))) (upd_same _ _ _) ⟨Nat.zero_le _, rfl, rfl⟩ (by decide) rfl ?_
      have hid : M.nx < (M.alloc M.nx (.cells 42 [.str ⟨⟨[]⟩⟩, .d (.sl [] 0), .str ⟨⟨[]⟩⟩, .d (.sl [] 0)])).nx := Nat.lt_of_lt_of_le (Nat.lt_succ_self _) (Nat.le_max_right _ _)
      have hmm : ∀ X : Blk, ((M.alloc M.nx (.cells 42 [.str ⟨⟨[]⟩⟩, .d (.sl [] 0), .str ⟨⟨[]⟩⟩, .d (.sl [] 0)])).put M.nx X).mem M.nx = some X := fun X => upd_same _ _ _
      have hid2 : ∀ X : Blk, M.nx < ((M.alloc M.nx (.cells 42 [.str ⟨⟨[]⟩⟩, .d (.sl [] 0), .str ⟨⟨[]⟩⟩, .d (.sl [] 0)])).put M.nx X).nx := fun X => hid
      refine rn_bumpk ?_
      refine rn_ixp (by decide) ?_
      refine rn_ldTc (u := p.1) (ok_lt hid) (hmm _) (by simp [setAt]) rfl ?_
      refine rn_pcc pc1 (fz_S _) (ClT1 _) ?_
      refine rn_ixp (by decide) ?_
      refine rn_ldTc (u := p.1) (ok_lt hid) (hmm _) (by simp [setAt]) rfl ?_
      refine rn_pcc pc2 (fz_S _) (ClT1 _) ?_
      repeat (first | (with_reducible (first | refine rn_if_f ?_ | refine rn_len_sl ?_)) | ((with_reducible refine rn_neq_f ?_ ?_); focus omega))
      exact names M.nx (p.1.coll []) _ 0 nl _ (by omega) rfl (by rw [List.drop_zero]; omega) (Nat.lt_of_lt_of_le hid (Nat.le_add_right _ _)) (hmm _)
  -- the guards
  unfold s8
  have lt := lightT_cc hc 6 t (by decide)
  have lu := lightT_cc hc 6 u (by decide)
  have cI : ∀ t : Ty, ∀ y ∈ [avT t, .i ((6 : Nat) : Int)], Cl y := by simp [ClT, ClInt]
  repeat (first | (with_reducible (first | refine rn_upk ?_ | refine rn_aggT ?_ | refine rn_allT ?_)))
  refine rn_pcc lt (fz_b _) (cI t) ?_
  cases h1 : lightT 6 t
  · repeat (first | (with_reducible (first | refine rn_if_t ?_ | refine rn_gp_tf ?_ | refine rn_pt ?_ | refine rn_not_f ?_)))
    exact haw _
  repeat (first | (with_reducible (first | refine rn_allT ?_ | refine rn_gp_ff ?_ | refine rn_not_t ?_)))
  refine rn_pcc lu (fz_b _) (cI u) ?_
  cases h2 : lightT 6 u
  · repeat (first | (with_reducible (first | refine rn_if_t ?_ | refine rn_gp_ff ?_ | refine rn_gp_tf ?_ | refine rn_pt ?_ | refine rn_pf ?_ | refine rn_not_f ?_)))
    exact haw _
  repeat (first | (with_reducible (first | refine rn_some ?_ | refine rn_gp_ff ?_ | refine rn_pf ?_ | refine rn_not_t ?_)))
  refine rn_pcc (light_cc hc l) (fz_b _) (by simp [ClZ]) ?_
  cases h5 : decide (l.length ≤ 700)
  · repeat (first | (with_reducible (first | refine rn_if_t ?_ | refine rn_gp_ff ?_ | refine rn_pf ?_ | refine rn_not_f ?_)))
    exact haw _
  rw [decide_eq_true_eq] at h5
  repeat (first | (with_reducible (first | refine rn_if_f ?_ | refine rn_gp_ff ?_ | refine rn_pf ?_ | refine rn_not_t ?_)))
  have st := light_size 6 t h1
  rw [bulk6] at st
  have tt := t.text_letters
  refine rn_wp (roll_d hc l (by omega) 0 _) fun v M1 hh => ?_
  obtain ⟨e1, hd1, _⟩ := hh
  simp only at e1 hd1
  subst e1
  refine rn_open hc 4 rfl (by decide) hd1 (fun M2 hd2 _ => ?_)
  refine rn_open hc 4 rfl (by decide) hd2 (fun M3 hd3 _ => ?_)
  have s0 := openT_size4 l
  have w0 := openT_wf 4 l
  have q0 := letters_short 4 l
  generalize (openT 4 (openT 4 l).2).1 = y
  generalize (openT 4 l).1 = x at s0 w0 q0
  have tx := x.text_letters
  refine rn_upk (rn_upk (rn_setT (rn_setT ?_)))
  refine rn_allT (rn_allT (rn_mkP ?_))
  refine rn_allT (rn_allT (rn_mkP ?_))
  refine rn_allT (rn_allT (rn_mkP ?_))
  refine rn_allT (rn_allT (rn_mkP ?_))
  refine rn_wslP4 rfl (rn_upk ?_)
  exact pairs t x [(t, u), (x, y), (x, t), (x, x)] wt w0 (by simp) (fun p hp => by
    have h0 : t.size ≤ 1000000 ∧ t.wf ∧ t.textL.length ≤ 1000000000000 := ⟨by omega, wt, by omega⟩
    have h1 : x.size ≤ 1000000 ∧ x.wf ∧ x.textL.length ≤ 1000000000000 := ⟨by omega, w0, by omega⟩
    simp only [List.mem_cons, List.not_mem_nil, or_false] at hp
    rcases hp with rfl | rfl | rfl | rfl
    · exact h0
    · exact h1
    · exact h1
    · exact h1) _ 0 nl _ rfl (by simp only [List.drop_zero, List.length_cons, List.length_nil]; omega)
end

mutual
theorem letters_bulk : ∀ t : Ty, bulkDs (encT t) = t.letters
  | .mk n l => by
    rw [encT, Ty.letters, ← letterss_bulk l]
    simp only [bulkDs, bulkD]; omega
theorem letterss_bulk : ∀ l : List Ty, bulkDs (encTs l) = letterss l
  | [] => rfl
  | t :: r => by rw [encTs, bulkDs_app, letters_bulk t, letterss_bulk r, letterss]
end
theorem looks_law (cs0 : List D) (h0 : TD Try.prog 27 cs0) (b0 : bulkDs cs0 ≤ 1048576) (cs1 : List D) (h1 : TD Try.prog 27 cs1) (b1 : bulkDs cs1 ≤ 1048576) (e2 : D) (h2 : TD Try.prog 9 [e2]) (b2 : bulkDs [e2] ≤ 1048576) (e3 : D) (h3 : TD Try.prog 22 [e3]) (b3 : bulkDs [e3] ≤ 1048576) :
    ∃ N M', acall G N 8 [.agg (cs0.map .d), .agg (cs1.map .d), .d e2, .d e3] 0 ⟨0, fun _ => none⟩ = some (.bool true, M') := by
  obtain ⟨t, rfl, wt⟩ := h0.ty_inv2
  obtain ⟨u, rfl, _⟩ := h1.ty_inv2
  obtain ⟨s, hn2, hs⟩ := h2.str_inv Try.underlying9
  obtain ⟨ns, hn3, _, _⟩ := h3.ints_inv Try.underlying22 Try.underlying3
  cases hn2
  cases hn3
  rw [letters_bulk] at b0
  have hmax : maxLen ≤ 9223372036854775807 := by decide
  rw [avT_eq, avT_eq]
  refine Lim.law fun call hc => ?_
  obtain ⟨⟨v, M'⟩, h1, h2⟩ := looks_run hc t u s ns wt (Nat.le_trans hs hmax) (by omega) ⟨0, fun _ => none⟩
  have h2 : v = .bool true := h2
  subst h2
  exact ⟨M', h1⟩
end Go.Proofs.Ytcoagkfjdpdohaa.Sx
