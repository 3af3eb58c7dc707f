/- TYPES: the law TypetermReplaces on the abstract machine. -/
import Derived.Test.YtcoagkfjdpdohaaTyVRe
import Derived.Test.YtcoagkfjdpdohaaTySRe
namespace Go.Proofs.Ytcoagkfjdpdohaa.Sx
open Go
set_option maxRecDepth 1000000
set_option linter.unusedSimpArgs false
set_option linter.unusedVariables false

theorem substT_size (ns : List ByteArray) (bs : List Ty) (t : Ty) (B : Nat) (hB : 1 ≤ B) (h : ∀ x ∈ bs, x.size ≤ B) : (substT ns bs t).1.size ≤ B * t.size := by
  have h1 := putT_size ns bs B hB h t
  have h2 : B * 1 ≤ B * t.size := Nat.mul_le_mul_left _ t.size_pos
  have h0 : ty0.size = 1 := rfl
  unfold substT
  split
  · show ty0.size ≤ _; omega
  · split
    · show ty0.size ≤ _; omega
    · split
      · show ty0.size ≤ _; omega
      · exact h1

/-- Lists of strings in a list. -/
def encL (l : List (List ByteArray)) : List D := l.map fun x => .sl (encS x) x.length
abbrev avL (l : List (List ByteArray)) : AV := .d (.sl (encL l) l.length)
theorem rn_ixL {l : List (List ByteArray)} {i : Nat} {x : List ByteArray} {s : List (List ByteArray)} {R : Type} {r : R → Prop} {k : AV → Option R} (h : l.drop i = x :: s) (hk : Wp (k (.ip (.sl (encS x) x.length :: encL s))) r) : Wp (opt (ixsA 1 (avL l) (.i (i : Int))) k) r := by
  obtain ⟨hi, _⟩ := drop_cons h
  refine rn_opt (v := .ip (.sl (encS x) x.length :: encL s)) ?_ hk
  rw [ixsA_sl _ _ _ _ _ (by omega), Int.toNat_natCast, Nat.mul_one, encL, ← List.map_drop, h]; rfl
/-- Pairs of types in a list. -/
def encP (l : List (Ty × Ty)) : List D := (l.map fun p => encT p.1 ++ encT p.2).flatten
abbrev avP (l : List (Ty × Ty)) : AV := .d (.sl (encP l) l.length)
def pairA (p : Ty × Ty) : AV := .agg [.d (.v (.string p.1.name)), .d (.sl (encTs p.1.args) p.1.args.length), .d (.v (.string p.2.name)), .d (.sl (encTs p.2.args) p.2.args.length)]
theorem encP_drop : ∀ (l : List (Ty × Ty)) (i : Nat), (encP l).drop (i * 4) = encP (l.drop i)
  | [], i => by simp [encP]
  | p :: l, 0 => by simp
  | p :: l, i + 1 => by
    have e : encP (p :: l) = (encT p.1 ++ encT p.2) ++ encP l := by simp [encP]
    have e2 : (encT p.1 ++ encT p.2).length = 4 := by rw [List.length_append, encT_len, encT_len]
    rw [e, show (i + 1) * 4 = (encT p.1 ++ encT p.2).length + i * 4 by rw [e2]; omega, ← List.drop_drop, List.drop_left, encP_drop l i, List.drop_succ_cons]
theorem rn_ixP {l : List (Ty × Ty)} {i : Nat} {p : Ty × Ty} {s : List (Ty × Ty)} {R : Type} {r : R → Prop} {k : AV → Option R} (h : l.drop i = p :: s) (hk : Wp (k (.ip ((encT p.1 ++ encT p.2) ++ encP s))) r) : Wp (opt (ixsA 4 (avP l) (.i (i : Int))) k) r := by
  obtain ⟨hi, _⟩ := drop_cons h
  refine rn_opt (v := .ip ((encT p.1 ++ encT p.2) ++ encP s)) ?_ hk
  have e : encP (p :: s) = (encT p.1 ++ encT p.2) ++ encP s := by simp [encP]
  rw [ixsA_sl _ _ _ _ _ (by omega), Int.toNat_natCast, encP_drop, h, e]
theorem rn_ldP {p : Ty × Ty} {l : List D} {lk : Nat → Option Blk} {R : Type} {r : R → Prop} {k : AV → Option R} (hk : Wp (k (pairA p)) r) : Wp (opt (ldnA lk 4 (.ip ((encT p.1 ++ encT p.2) ++ l))) k) r := by
  rw [encT_eq, encT_eq]; exact hk
theorem rn_mkP {t u : Ty} {a b c d : AV} {R : Type} {r : R → Prop} {k : AV → Option R} (hk : Wp (k (pairA (t, u))) r) : Wp (opt ((fill [a, b, c, d] [(0, 2, avT t), (2, 2, avT u)]).map .agg) k) r := hk
theorem rn_wslP3 {p q s : Ty × Ty} {a b c d e f g h i j k' l : AV} {R : Type} {r : R → Prop} {k : AV → Option R} (hk : Wp (k (avP [p, q, s])) r) : Wp (opt (wslA 3 (fill [a, b, c, d, e, f, g, h, i, j, k', l] [(0, 4, pairA p), (4, 4, pairA q), (8, 4, pairA s)])) k) r := by
  refine rn_wsl (ds := encP [p, q, s]) ?_ hk
  simp only [encP, List.map_cons, List.map_nil, List.flatten_cons, List.flatten_nil, List.append_nil, encT_eq, List.cons_append, List.nil_append]; rfl

section
variable {call : CallT} (hc : Lim G call)
include hc

theorem replaces_run (t u : Ty) (names : List ByteArray) (by_ : List Ty) (l : List Int) (wt : t.wf) (M : MM) : Wp (call 4 [avT t, avT u, avS names, avTs by_, avZ l] 0 M) (Av (.bool true)) := by
  obtain ⟨nl, hG, hN⟩ : ∃ nl, G.nl = nl ∧ nl = 18446744073709551616 := ⟨_, rfl, rfl⟩
  rw [q4 hc, hG]
  clear hG
  have haw : ∀ M : MM, Wp (opt (puA call (lk M) 10 []) fun v19 => some (v19, M)) (Av (.bool true)) := fun M => by
    refine rn_puc (awake_pc hc) (by simp) ?_
    exact rn_av
  have clI : ∀ (t : Ty) (n : Int), ∀ y ∈ [avT t, .i n], Cl y := by simp [ClT, ClInt]
  have bulk5 : bulk 5 = 1555 := by decide
  have bulk4 : bulk 4 = 259 := by decide
  -- what is said of a pair of types and one list of names
  have one : ∀ (p q : Ty) (ns : List ByteArray) (id : Nat) (j1 : AV → AV → AV → AV → MM → Option (AV × MM)) (j2 : AV → AV → AV → AV → AV → AV → AV → AV → MM → Option (AV × MM)) (x16 x144 x145 x146 x155 x156 : AV) (i : Nat) (L : List (List ByteArray)) (s : List (List ByteArray)) (M : MM),
      p.size ≤ 1000000000 → q.size ≤ 1000000000 → ns.length ≤ 1000000000 → id < M.nx → M.mem id = some (.cells 42 [.d (.v (.string p.name)), .d (.sl (encTs p.args) p.args.length), .d (.v (.string q.name)), .d (.sl (encTs q.args) q.args.length)]) → i ≤ 10 → L.drop i = ns :: s →
      (∀ M', M'.mem = M.mem → M.nx ≤ M'.nx → Wp (j2 x16 (.ptr id 0) x144 x145 x146 (avL L) x156 (.i ((i + 1 : Nat) : Int)) M') (Av (.bool true))) →
      Wp (b4_22 call nl 0 j1 j2 x16 (.ptr id 0) x144 x145 x146 (avL L) x156 (.i (i : Int)) M) (Av (.bool true)) := by
    intro p q ns id j1 j2 x16 x144 x145 x146 x155 x156 i L s M hp hq hns hid hm hi hd hj
    have m1 := Match_pc hc ns p q (by omega) (by omega) (by omega)
    have m2 := RMatch_pc hc ns p q (by omega) (by omega) (by omega)
    have c1 : ∀ v ∈ [avT p, avT q, avS ns], Cl v := by simp [ClT, ClS]
    have hus : ∀ v ∈ (matchAll ns p q).getD [], v.size ≤ q.size := by
      cases hma : matchAll ns p q with
      | none => simp
      | some us => exact (matchAll_put hma).2.2.2
    have hul : ((matchAll ns p q).getD []).length ≤ 1000000000 := by
      cases hma : matchAll ns p q with
      | none => simp
      | some us => have := (matchAll_put hma).2.1; simp only [Option.getD_some]; omega
    have cmp : ∀ (s : List Ty) (k f : Nat) (M' : MM), ((matchAll ns p q).getD []).drop k = s → s.length < f → M'.mem = M.mem → M.nx ≤ M'.nx →
        Wp (b4_23 call nl 0 j1 j2 f x16 (.ptr id 0) (avTs ((matchAll ns p q).getD [])) (avTs ((matchAll ns p q).getD [])) x144 x145 x146 (avL L) x156 (.i (i : Int)) (.i (((matchAll ns p q).getD []).length : Nat)) (.i (k : Int)) M') (Av (.bool true)) := by
      generalize (matchAll ns p q).getD [] = us at hus hul
      intro s
      induction s with
      | nil =>
        intro k f M' hd hf hm' hn'
        obtain ⟨f, rfl⟩ : ∃ k, f = k + 1 := ⟨f - 1, by simp only [List.length_nil] at hf; omega⟩
        have := drop_nil hd
        unfold b4_23
        refine rn_lss_f (by omega) (rn_if_f ?_)
        refine rn_add64 (by omega) ?_
        exact hj M' hm' hn'
      | cons v s ih =>
        intro k f M' hd hf hm' hn'
        simp only [List.length_cons] at hf
        obtain ⟨f, rfl⟩ : ∃ k, f = k + 1 := ⟨f - 1, by omega⟩
        obtain ⟨hi', hd'⟩ := drop_cons hd
        have hv := hus v (List.drop_subset k us (by rw [hd]; simp))
        have hsm := rsame_cc hc v v (by omega)
        rw [(v.same_iff v).2 rfl] at hsm
        unfold b4_23
        refine rn_lss_t (by omega) (rn_if_t ?_)
        repeat (first | (with_reducible (first | refine rn_bumpk ?_ | refine rn_ldT ?_ | refine rn_ixD hd ?_ | refine rn_pcc hsm (fz_b _) (ClT2 _ _) ?_ | refine rn_if_f ?_ | refine rn_not_t ?_)) | ((with_reducible refine rn_add64 ?_ ?_); focus omega))
        exact ih (k + 1) f _ hd' (by omega) hm' (Nat.le_trans hn' (Nat.le_add_right _ _))
    refine rn_ixL hd ?_
    refine rn_ldi ?_
    refine rn_ixp (by decide) ?_
    refine rn_ldTc (u := p) (ok_lt hid) hm (by simp) rfl ?_
    refine rn_ixp (by decide) ?_
    refine rn_ldTc (u := q) (ok_lt hid) hm (by simp) rfl ?_
    refine rn_puc m1 c1 ?_
    refine rn_ext0 (rn_ext1 ?_)
    refine rn_ixp (by decide) ?_
    refine rn_ldTc (u := p) (ok_lt hid) hm (by simp) rfl ?_
    refine rn_ixp (by decide) ?_
    refine rn_ldTc (u := q) (ok_lt hid) hm (by simp) rfl ?_
    refine rn_puc m2 c1 ?_
    refine rn_ext0 (rn_ext1 ?_)
    refine rn_neb ?_
    rw [show (!((matchAll ns p q).isSome == (matchAll ns p q).isSome)) = false by simp]
    repeat (first | (with_reducible (first | refine rn_lenT ?_ | refine rn_some ?_ | refine rn_if_f ?_ | refine rn_gp_ff ?_ | refine rn_pf ?_)) | ((with_reducible refine rn_neq_f ?_ ?_); focus omega))
    exact cmp _ 0 nl M rfl (by rw [List.drop_zero]; omega) rfl (Nat.le_refl _)
  -- all pairs, all lists of names
  have pairs : ∀ (made : List ByteArray) (PL : List (Ty × Ty)), made.length ≤ 8 → PL.length ≤ 3 → (∀ p ∈ PL, p.1.size ≤ 1000000000 ∧ p.2.size ≤ 1000000000 ∧ p.1.wf) → ∀ (s : List (Ty × Ty)) (k f : Nat) (M : MM), PL.drop k = s → s.length < f →
      Wp (b4_13 call nl 0 f (avS made) (avP PL) (.i (PL.length : Nat)) (.i (k : Int)) M) (Av (.bool true)) := by
    intro made PL hmade hPL hP s
    induction s with
    | nil =>
      intro k f M hd hf
      obtain ⟨f, rfl⟩ : ∃ k, f = k + 1 := ⟨f - 1, by simp only [List.length_nil] at hf; omega⟩
      have := drop_nil hd
      unfold b4_13
      refine rn_lss_f (by omega) (rn_if_f ?_)
      exact haw M
    | cons p s ih =>
      intro k f M hd hf
      simp only [List.length_cons] at hf
      obtain ⟨f, rfl⟩ : ∃ k, f = k + 1 := ⟨f - 1, by omega⟩
      obtain ⟨hk, hd'⟩ := drop_cons hd
      obtain ⟨hp1, hp2, hpw⟩ := hP p (List.drop_subset k PL (by rw [hd]; simp))
      have hcl := p.1.coll_len []
      simp only [List.length_nil, Nat.zero_add] at hcl
      have lists : ∀ (id : Nat) (s : List (List ByteArray)) (i f2 : Nat) (M : MM), [made, [nmT, nmU], p.1.coll []].drop i = s → s.length < f2 → id < M.nx → M.mem id = some (.cells 42 [.d (.v (.string p.1.name)), .d (.sl (encTs p.1.args) p.1.args.length), .d (.v (.string p.2.name)), .d (.sl (encTs p.2.args) p.2.args.length)]) →
          Wp (b4_18 call nl 0 (b4_13 call nl 0 f) f2 (avS made) (.ptr id 0) (avP PL) (.i (PL.length : Nat)) (.i (k : Int)) (avL [made, [nmT, nmU], p.1.coll []]) (.i (3 : Nat)) (.i (i : Int)) M) (Av (.bool true)) := by
        intro id s
        induction s with
        | nil =>
          intro i f2 M hd hf hid hm
          obtain ⟨f2, rfl⟩ : ∃ k, f2 = k + 1 := ⟨f2 - 1, by simp only [List.length_nil] at hf; omega⟩
          have := drop_nil hd
          simp only [List.length_cons, List.length_nil] at this
          unfold b4_18
          refine rn_lss_f (by omega) (rn_if_f ?_)
          refine rn_add64 (by omega) ?_
          exact ih (k + 1) f M hd' (by omega)
        | cons ns s ihs =>
          intro i f2 M hd hf hid hm
          simp only [List.length_cons] at hf
          obtain ⟨f2, rfl⟩ : ∃ k, f2 = k + 1 := ⟨f2 - 1, by omega⟩
          obtain ⟨hi, hd2⟩ := drop_cons hd
          simp only [List.length_cons, List.length_nil] at hi
          have hns : ns.length ≤ 1000000000 := by
            have : ns ∈ [made, [nmT, nmU], p.1.coll []] := List.drop_subset i _ (by rw [hd]; simp)
            simp only [List.mem_cons, List.not_mem_nil, or_false] at this
            rcases this with rfl | rfl | rfl
            · omega
            · simp
            · omega
          unfold b4_18
          refine rn_lss_t (by omega) (rn_if_t ?_)
          exact one p.1 p.2 ns id _ _ _ _ _ _ (.i 0) _ i _ s M hp1 hp2 hns hid hm (by omega) hd (fun M' e1 e2 => ihs (i + 1) f2 M' hd2 (by omega) (Nat.lt_of_lt_of_le hid e2) (by rw [e1]; exact hm))
      unfold b4_13
      refine rn_lss_t (by omega) (rn_if_t ?_)
      refine rn_ixP hd ?_
      refine rn_ldP ?_
      refine rn_new rfl ?_
      refine rn_stn (xs := [.d (.v (.string p.1.name)), .d (.sl (encTs p.1.args) p.1.args.length), .d (.v (.string p.2.name)), .d (.sl (encTs p.2.args) p.2.args.length)]) rfl (ok_lt (Nat.lt_of_lt_of_le (Nat.lt_succ_self _) (Nat.le_max_right _ _))) (upd_same _ _ _) ⟨Nat.zero_le _, rfl, rfl⟩ (by decide) rfl ?_
      have hid : M.nx < (M.alloc M.nx (.cells 42 [.str ⟨⟨[]⟩⟩, .d (.sl [] 0), .str ⟨⟨[]⟩⟩, .d (.sl [] 0)])).nx := Nat.lt_of_lt_of_le (Nat.lt_succ_self _) (Nat.le_max_right _ _)
      have hmm : ∀ X : Blk, ((M.alloc M.nx (.cells 42 [.str ⟨⟨[]⟩⟩, .d (.sl [] 0), .str ⟨⟨[]⟩⟩, .d (.sl [] 0)])).put M.nx X).mem M.nx = some X := fun X => upd_same _ _ _
      have hid2 : ∀ X : Blk, M.nx < ((M.alloc M.nx (.cells 42 [.str ⟨⟨[]⟩⟩, .d (.sl [] 0), .str ⟨⟨[]⟩⟩, .d (.sl [] 0)])).put M.nx X).nx := fun X => hid
      refine rn_wslS2 (rn_upk ?_)
      refine rn_ixp (by decide) ?_
      refine rn_ldTc (u := p.1) (ok_lt (Nat.lt_of_lt_of_le (hid2 _) (Nat.le_max_left _ _))) (hmm _) (by simp [setAt]) rfl ?_
      refine rn_pcc (RParams_cc hc p.1 (by omega) hpw) (fz_S _) (ClT1 _) ?_
      refine rn_wsl (ds := encL [made, [nmT, nmU], p.1.coll []]) rfl ?_
      refine rn_upk ?_
      exact lists M.nx [made, [nmT, nmU], p.1.coll []] 0 nl _ rfl (by simp only [List.length_cons, List.length_nil]; omega) (Nat.lt_of_lt_of_le (Nat.lt_of_lt_of_le (hid2 _) (Nat.le_max_left _ _)) (Nat.le_max_left _ _)) (hmm _)
  -- replacing, and the pairs
  have fin : ∀ (x y : Ty) (made : List ByteArray) (list : List Ty) (M : MM), t.size ≤ 1555 → u.size ≤ 1555 → x.size ≤ 67 → y.size ≤ 67 → x.wf → made.length ≤ 8 → list.length ≤ 8 → (∀ z ∈ list, z.size ≤ 259) →
      Wp (b4_8 call nl 0 (avT t) (avT u) (avT x) (avT y) (avS made) (avTs list) M) (Av (.bool true)) := by
    intro x y made list M ht hu hx hy wx hmade hlist hsz
    have both : ∀ (s : List Ty) (i f : Nat) (M : MM), [t, x].drop i = s → s.length < f →
        Wp (b4_30 call nl 0 f (avT t) (avT u) (avT x) (avT y) (avS made) (avTs list) (avTs [t, x]) (.i (2 : Nat)) (.i (i : Int)) M) (Av (.bool true)) := by
      intro s
      induction s with
      | nil =>
        intro i f M hd hf
        obtain ⟨f, rfl⟩ : ∃ k, f = k + 1 := ⟨f - 1, by simp only [List.length_nil] at hf; omega⟩
        have := drop_nil hd
        simp only [List.length_cons, List.length_nil] at this
        unfold b4_30
        refine rn_lss_f (by omega) (rn_if_f ?_)
        -- the third pair
        have pz := rsubst_cc hc [nmT, nmU] [y, u] x (by simp) (by simp) (fun z hz => by
          simp only [List.mem_cons, List.not_mem_nil, or_false] at hz
          rcases hz with rfl | rfl <;> omega) (by omega)
        have hz := substT_size [nmT, nmU] [y, u] x 1555 (by decide) (fun z hz => by
          simp only [List.mem_cons, List.not_mem_nil, or_false] at hz
          rcases hz with rfl | rfl <;> omega)
        have cz : ∀ v ∈ [avT x, avS [nmT, nmU], avTs [y, u]], Cl v := by simp [ClT, ClS, ClTs]
        refine rn_allT ?_
        refine rn_wslS2 (rn_upk ?_)
        refine rn_allT (rn_allT (rn_wslT2 (rn_upk ?_)))
        refine rn_pcc pz (fz_E _) cz ?_
        refine rn_ext0 (rn_ext1 (rn_upk (rn_setT ?_)))
        generalize (substT [nmT, nmU] [y, u] x).1 = z at hz
        refine rn_allT (rn_allT (rn_mkP ?_))
        refine rn_allT (rn_allT (rn_mkP ?_))
        refine rn_allT (rn_allT (rn_mkP ?_))
        refine rn_wslP3 (rn_upk ?_)
        have hxz : 1555 * x.size ≤ 1555 * 67 := Nat.mul_le_mul_left _ hx
        exact pairs made [(t, u), (x, y), (x, z)] hmade (by simp) (fun p hp => by
          simp only [List.mem_cons, List.not_mem_nil, or_false] at hp
          rcases hp with rfl | rfl | rfl
          · exact ⟨by show t.size ≤ _; omega, by show u.size ≤ _; omega, wt⟩
          · exact ⟨by show x.size ≤ _; omega, by show y.size ≤ _; omega, wx⟩
          · exact ⟨by show x.size ≤ _; omega, by show z.size ≤ _; omega, wx⟩) _ 0 nl _ rfl (by simp only [List.drop_zero, List.length_cons, List.length_nil]; omega)
      | cons p s ih =>
        intro i f M hd hf
        simp only [List.length_cons] at hf
        obtain ⟨f, rfl⟩ : ∃ k, f = k + 1 := ⟨f - 1, by omega⟩
        obtain ⟨hi, hd'⟩ := drop_cons hd
        simp only [List.length_cons, List.length_nil] at hi
        have hp : p.size ≤ 1555 := by
          have : p ∈ [t, x] := List.drop_subset i _ (by rw [hd]; simp)
          simp only [List.mem_cons, List.not_mem_nil, or_false] at this
          rcases this with rfl | rfl <;> omega
        have s1 := subst_pc hc made list p (by omega) (by omega) (fun z hz => by have := hsz z hz; omega) (by omega)
        have s2 := rsubst_cc hc made list p (by omega) (by omega) (fun z hz => by have := hsz z hz; omega) (by omega)
        have hsz2 := substT_size made list p 259 (by decide) hsz
        have cz : ∀ v ∈ [avT p, avS made, avTs list], Cl v := by simp [ClT, ClS, ClTs]
        have hpp : 259 * p.size ≤ 259 * 1555 := Nat.mul_le_mul_left _ hp
        have q := rsame_cc hc (substT made list p).1 (substT made list p).1 (by omega)
        rw [(Ty.same_iff _ _).2 rfl] at q
        unfold b4_30
        refine rn_lss_t (by omega) (rn_if_t ?_)
        refine rn_ixD hd (rn_ldT (rn_upk (rn_setT (rn_allT ?_))))
        refine rn_puc s1 cz ?_
        refine rn_ext0 (rn_ext1 (rn_upk (rn_setT (rn_allT ?_))))
        refine rn_pcc s2 (fz_E _) cz ?_
        refine rn_ext0 (rn_ext1 (rn_upk (rn_setT ?_)))
        refine rn_neq_f rfl ?_
        repeat (first | (with_reducible (first | refine rn_allT ?_ | refine rn_pcc q (fz_b _) (ClT2 _ _) ?_ | refine rn_if_f ?_ | refine rn_gp_ff ?_ | refine rn_pf ?_ | refine rn_not_t ?_)) | ((with_reducible refine rn_add64 ?_ ?_); focus omega))
        exact ih (i + 1) f _ hd' (by omega)
    refine rn_allT (rn_allT (rn_wslT2 (rn_upk ?_)))
    exact both [t, x] 0 nl _ rfl (by simp only [List.length_cons, List.length_nil]; omega)
  -- the dice
  have dice : (∀ z ∈ by_, lightT 4 z = true) → names.length ≤ 8 → by_.length ≤ 8 → l.length ≤ 700 → t.size ≤ 1555 → u.size ≤ 1555 → ∀ M, Wp (b4_3 call nl 0 (avS names) (avTs by_) (avZ l) (avT t) (avT u) M) (Av (.bool true)) := by
    intro hby hnm hbl hl ht hu M
    have hbs : ∀ z ∈ by_, z.size ≤ 259 := fun z hz => by have := light_size 4 z (hby z hz); rw [bulk4] at this; exact this
    refine rn_wp (roll_d hc l (by omega) 0 M) fun v M1 hh => ?_
    obtain ⟨e1, h1, _⟩ := hh
    simp only at e1 h1
    subst e1
    generalize M.nx = id at h1
    refine rn_open hc 4 rfl (by decide) h1 (fun M2 h2 _ => ?_)
    refine rn_open hc 4 rfl (by decide) h2 (fun M3 h3 _ => ?_)
    have s0 := openT_size4 l
    have w0 := openT_wf 4 l
    have s1 := openT_size4 (openT 4 l).2
    generalize (openT 4 (openT 4 l).2).2 = r at h3
    generalize (openT 4 (openT 4 l).2).1 = y at s1
    generalize (openT 4 l).1 = x at s0 w0
    clear h1 h2
    refine rn_upk (rn_upk (rn_setT (rn_setT ?_)))
    have h4 : DI ((M3.up M3.nx).up (M3.up M3.nx).nx) id r := h3.up.up
    generalize (M3.up M3.nx).up (M3.up M3.nx).nx = M4 at h4
    refine rn_wslS2 (rn_upk (rn_wslS1 (rn_upk (rn_wslS2 (rn_upk ?_)))))
    refine rn_wsl (ds := encL [names, [nmT, nmU], [nmT], [nmT, nmT], []]) rfl (rn_upk ?_)
    refine rn_wp (next_d hc 5 (by decide) _ h4.up.up.up.up) (fun v M12 hh => ?_)
    obtain ⟨e1, h6, _⟩ := hh
    simp only at e1 h6
    subst e1
    obtain ⟨k, ek, hk⟩ := nextI_lt 5 (by decide) r
    rw [ek]
    generalize (nextI 5 r).2 = r2 at h6
    have hkl : k < [names, [nmT, nmU], [nmT], [nmT, nmT], []].length := by simp only [List.length_cons, List.length_nil]; omega
    refine rn_ixL (l := [names, [nmT, nmU], [nmT], [nmT, nmT], []]) (List.drop_eq_getElem_cons hkl) (rn_ldi ?_)
    have hmade : ([names, [nmT, nmU], [nmT], [nmT, nmT], []][k]).length ≤ 8 := by
      have := List.getElem_mem hkl
      simp only [List.mem_cons, List.not_mem_nil, or_false] at this
      rcases this with e | e | e | e | e <;> rw [e] <;> first | exact hnm | simp
    generalize [names, [nmT, nmU], [nmT], [nmT, nmT], []][k] = made at hmade
    refine rn_wp (next_d hc 4 (by decide) _ h6) (fun v M13 hh => ?_)
    obtain ⟨e1, h7, _⟩ := hh
    simp only at e1 h7
    subst e1
    generalize (nextI 4 r2).2 = r3 at h7
    by_cases hm : 0 < (nextI 4 r2).1
    · refine rn_gtr_t hm (rn_if_t ?_)
      refine rn_open hc 3 rfl (by decide) h7 (fun M14 h8 _ => ?_)
      refine rn_open hc 3 rfl (by decide) h8 (fun M15 h9 _ => ?_)
      refine rn_wslT2 (rn_upk ?_)
      exact fin x y made _ _ ht hu s0 s1 w0 hmade (by simp) (fun z hz => by
        simp only [List.mem_cons, List.not_mem_nil, or_false] at hz
        rcases hz with rfl | rfl
        · have := openT_size3 r3; omega
        · have := openT_size3 (openT 3 r3).2; omega)
    · refine rn_gtr_f hm (rn_if_f ?_)
      exact fin x y made by_ _ ht hu s0 s1 w0 hmade hbl hbs
  -- the guards
  unfold s4
  have lt := lightT_cc hc 5 t (by decide)
  have lu := lightT_cc hc 5 u (by decide)
  have cI : ∀ t : Ty, ∀ y ∈ [avT t, .i ((5 : Nat) : Int)], Cl y := by simp [ClT, ClInt]
  repeat (first | (with_reducible (first | refine rn_upk ?_ | refine rn_aggT ?_ | refine rn_allT ?_)))
  refine rn_pcc lt (fz_b _) (cI t) ?_
  cases h1 : lightT 5 t
  · repeat (first | (with_reducible (first | refine rn_if_t ?_ | refine rn_gp_tf ?_ | refine rn_pt ?_ | refine rn_not_f ?_)))
    exact haw _
  repeat (first | (with_reducible (first | refine rn_allT ?_ | refine rn_gp_ff ?_ | refine rn_not_t ?_)))
  refine rn_pcc lu (fz_b _) (cI u) ?_
  cases h2 : lightT 5 u
  · repeat (first | (with_reducible (first | refine rn_if_t ?_ | refine rn_gp_ff ?_ | refine rn_gp_tf ?_ | refine rn_pt ?_ | refine rn_pf ?_ | refine rn_not_f ?_)))
    exact haw _
  repeat (first | (with_reducible (first | refine rn_some ?_ | refine rn_gp_ff ?_ | refine rn_pf ?_ | refine rn_not_t ?_ | refine rn_len_sl ?_)))
  by_cases h3 : 8 < names.length
  · repeat (first | (with_reducible (first | refine rn_if_t ?_ | refine rn_gp_tf ?_ | refine rn_pt ?_ | refine rn_pf ?_)) | ((with_reducible refine rn_gtr_t ?_ ?_); focus omega))
    exact haw _
  repeat (first | (with_reducible (first | refine rn_lenT ?_ | refine rn_some ?_ | refine rn_gp_ff ?_ | refine rn_pf ?_)) | ((with_reducible refine rn_gtr_f ?_ ?_); focus omega))
  by_cases h4 : 8 < by_.length
  · repeat (first | (with_reducible (first | refine rn_if_t ?_ | refine rn_gp_tf ?_ | refine rn_pt ?_ | refine rn_pf ?_)) | ((with_reducible refine rn_gtr_t ?_ ?_); focus omega))
    exact haw _
  repeat (first | (with_reducible (first | refine rn_some ?_ | refine rn_gp_ff ?_ | refine rn_pf ?_)) | ((with_reducible refine rn_gtr_f ?_ ?_); focus omega))
  refine rn_pcc (light_cc hc l) (fz_b _) (by simp [ClZ]) ?_
  cases h5 : decide (l.length ≤ 700)
  · repeat (first | (with_reducible (first | refine rn_if_t ?_ | refine rn_gp_ff ?_ | refine rn_pf ?_ | refine rn_not_f ?_)))
    exact haw _
  rw [decide_eq_true_eq] at h5
  repeat (first | (with_reducible (first | refine rn_lenT ?_ | refine rn_if_f ?_ | refine rn_gp_ff ?_ | refine rn_pf ?_ | refine rn_not_t ?_)))
  have st := light_size 5 t h1
  have su := light_size 5 u h2
  rw [bulk5] at st su
  have loop : ∀ (s : List Ty) (i f : Nat) (M : MM), by_.drop i = s → s.length < f → (∀ z ∈ by_.take i, lightT 4 z = true) →
      Wp (b4_37 call nl 0 f (avS names) (avTs by_) (avZ l) (avT t) (avT u) (avTs by_) (.i by_.length) (.i (i : Int)) M) (Av (.bool true)) := by
    intro s
    induction s with
    | nil =>
      intro i f M hd hf hz
      obtain ⟨f, rfl⟩ : ∃ k, f = k + 1 := ⟨f - 1, by simp only [List.length_nil] at hf; omega⟩
      have hil := drop_nil hd
      unfold b4_37
      refine rn_lss_f (by omega) (rn_if_f ?_)
      rw [List.take_of_length_le hil] at hz
      exact dice hz (by omega) (by omega) h5 st su M
    | cons x s ih =>
      intro i f M hd hf hz
      simp only [List.length_cons] at hf
      obtain ⟨f, rfl⟩ : ∃ k, f = k + 1 := ⟨f - 1, by omega⟩
      obtain ⟨hi, hd'⟩ := drop_cons hd
      have lx := lightT_cc hc 4 x (by decide)
      have cx : ∀ y ∈ [avT x, .i ((4 : Nat) : Int)], Cl y := by simp [ClT, ClInt]
      unfold b4_37
      refine rn_lss_t (by omega) (rn_if_t ?_)
      refine rn_ixD hd (rn_ldT (rn_upk (rn_setT (rn_allT ?_))))
      refine rn_pcc lx (fz_b _) cx ?_
      cases hx : lightT 4 x
      · repeat (first | (with_reducible (first | refine rn_if_t ?_ | refine rn_not_f ?_)))
        exact haw _
      · repeat (first | (with_reducible (first | refine rn_if_f ?_ | refine rn_not_t ?_)) | ((with_reducible refine rn_add64 ?_ ?_); focus omega))
        refine ih (i + 1) f _ hd' (by omega) (fun z hzz => ?_)
        have hxe : by_[i]? = some x := by have := congrArg List.head? hd; simpa [List.head?_drop] using this
        rw [List.take_add_one, hxe] at hzz
        rcases List.mem_append.1 hzz with h | h
        · exact hz z h
        · have : z = x := by simpa using h
          rw [this]; exact hx
  exact loop by_ 0 nl _ rfl (by omega) (by simp)
end

theorem replaces_law (cs0 : List D) (h0 : TD Try.prog 27 cs0) (cs1 : List D) (h1 : TD Try.prog 27 cs1) (e2 : D) (h2 : TD Try.prog 35 [e2]) (e3 : D) (h3 : TD Try.prog 25 [e3]) (e4 : D) (h4 : TD Try.prog 22 [e4]) :
    ∃ N M', acall G N 4 [.agg (cs0.map .d), .agg (cs1.map .d), .d e2, .d e3, .d e4] 0 ⟨0, fun _ => none⟩ = some (.bool true, M') := by
  obtain ⟨t, rfl, wt⟩ := h0.ty_inv2
  obtain ⟨u, rfl, _⟩ := h1.ty_inv2
  obtain ⟨ns, hn2, _⟩ := h2.strs_inv
  obtain ⟨bs, hn3, _⟩ := h3.tys_inv2
  obtain ⟨ns4, hn4, _, _⟩ := h4.ints_inv Try.underlying22 Try.underlying3
  cases hn2
  cases hn3
  cases hn4
  rw [avT_eq, avT_eq]
  refine Lim.law fun call hc => ?_
  obtain ⟨⟨v, M'⟩, h1, h2⟩ := replaces_run hc t u ns bs ns4 wt ⟨0, fun _ => none⟩
  have h2 : v = .bool true := h2
  subst h2
  exact ⟨M', h1⟩
end Go.Proofs.Ytcoagkfjdpdohaa.Sx
