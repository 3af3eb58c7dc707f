/- TYPES: the law TypetermOrder on the abstract machine. -/
import Derived.Test.YtcoagkfjdpdohaaTyNOr
import Derived.Test.YtcoagkfjdpdohaaTyMOr
namespace Go.Proofs.Ytcoagkfjdpdohaa.Sx
open Go
set_option maxRecDepth 1000000
set_option linter.unusedSimpArgs false
set_option linter.unusedVariables false

/-! ### The order of types -/
theorem cb_range : ∀ a b : List UInt8, -1 ≤ Lib.compareBytes a b ∧ Lib.compareBytes a b ≤ 1
  | [], [] => by simp [Lib.compareBytes]
  | [], _ :: _ => by simp [Lib.compareBytes]
  | _ :: _, [] => by simp [Lib.compareBytes]
  | x :: a, y :: b => by
    have := cb_range a b
    simp only [Lib.compareBytes]
    split
    · omega
    · split <;> omega
theorem cb_swap : ∀ a b : List UInt8, Lib.compareBytes b a = - Lib.compareBytes a b
  | [], [] => by simp [Lib.compareBytes]
  | [], _ :: _ => by simp [Lib.compareBytes]
  | _ :: _, [] => by simp [Lib.compareBytes]
  | x :: a, y :: b => by
    have := cb_swap a b
    simp only [Lib.compareBytes, UInt8.lt_iff_toNat_lt]
    split
    · rw [if_neg (by omega)]
    · split
      · rfl
      · exact this
theorem cb_zero : ∀ a b : List UInt8, Lib.compareBytes a b = 0 ↔ a = b
  | [], [] => by simp [Lib.compareBytes]
  | [], _ :: _ => by simp [Lib.compareBytes]
  | _ :: _, [] => by simp [Lib.compareBytes]
  | x :: a, y :: b => by
    have := cb_zero a b
    simp only [Lib.compareBytes, UInt8.lt_iff_toNat_lt, List.cons.injEq]
    split
    · rename_i h
      constructor
      · intro h; omega
      · rintro ⟨rfl, _⟩; omega
    · split
      · rename_i h
        constructor
        · intro h; omega
        · rintro ⟨rfl, _⟩; omega
      · rename_i h1 h2
        have : x = y := UInt8.toNat_inj.1 (by omega)
        subst this
        simp [cb_zero a b]
/-- What transitivity asks of three answers. -/
def Tr (x y z : Int) : Prop := x ≤ 0 → y ≤ 0 → z ≤ 0 ∧ (z = 0 → x = 0 ∧ y = 0)
theorem cb_trans : ∀ a b c : List UInt8, Tr (Lib.compareBytes a b) (Lib.compareBytes b c) (Lib.compareBytes a c)
  | [], [], [] => by simp [Tr, Lib.compareBytes]
  | [], [], _ :: _ => by simp [Tr, Lib.compareBytes]
  | [], _ :: _, [] => by simp [Tr, Lib.compareBytes]
  | [], _ :: _, _ :: _ => by simp [Tr, Lib.compareBytes]
  | _ :: _, [], _ => by simp [Tr, Lib.compareBytes]
  | _ :: _, _ :: _, [] => by simp [Tr, Lib.compareBytes]
  | x :: a, y :: b, z :: c => by
    have h := cb_trans a b c
    unfold Tr at h ⊢
    simp only [Lib.compareBytes, UInt8.lt_iff_toNat_lt]
    intro h1 h2
    by_cases p1 : x.toNat < y.toNat
    · rw [if_pos p1] at h1 ⊢
      by_cases p2 : y.toNat < z.toNat
      · rw [if_pos (by omega)]; exact ⟨by omega, fun h => by omega⟩
      · rw [if_neg p2] at h2
        by_cases p3 : z.toNat < y.toNat
        · rw [if_pos p3] at h2; omega
        · rw [if_pos (by omega)]; exact ⟨by omega, fun h => by omega⟩
    · rw [if_neg p1] at h1 ⊢
      by_cases p2 : y.toNat < x.toNat
      · rw [if_pos p2] at h1; omega
      · rw [if_neg p2] at h1 ⊢
        by_cases p3 : y.toNat < z.toNat
        · rw [if_pos (by omega)]; exact ⟨by omega, fun h => by omega⟩
        · rw [if_neg p3] at h2 ⊢
          by_cases p4 : z.toNat < y.toNat
          · rw [if_pos p4] at h2; omega
          · rw [if_neg p4] at h2 ⊢
            rw [if_neg (by omega), if_neg (by omega)]
            exact h h1 h2

mutual
theorem Ty.cmp_range : ∀ t u : Ty, -1 ≤ t.cmp u ∧ t.cmp u ≤ 1
  | .mk n l, .mk m k => by
    have h1 := cb_range n.data.toList m.data.toList
    have h2 := cmps_range l k
    simp only [Ty.cmp, cB]
    split <;> omega
theorem cmps_range : ∀ l k : List Ty, -1 ≤ cmps l k ∧ cmps l k ≤ 1
  | [], [] => by simp [cmps]
  | [], _ :: _ => by simp [cmps]
  | _ :: _, [] => by simp [cmps]
  | t :: r, u :: s => by
    have h1 := Ty.cmp_range t u
    have h2 := cmps_range r s
    simp only [cmps]
    split <;> omega
end
mutual
theorem Ty.cmp_swap : ∀ t u : Ty, u.cmp t = - t.cmp u
  | .mk n l, .mk m k => by
    have h1 := cb_swap n.data.toList m.data.toList
    have h2 := cmps_swap l k
    simp only [Ty.cmp, cB]
    rw [h1, h2]
    by_cases h : Lib.compareBytes n.data.toList m.data.toList = 0
    · rw [if_neg (by omega), if_neg (by omega)]
    · rw [if_pos (by omega), if_pos (by omega)]
theorem cmps_swap : ∀ l k : List Ty, cmps k l = - cmps l k
  | [], [] => by simp [cmps]
  | [], _ :: _ => by simp [cmps]
  | _ :: _, [] => by simp [cmps]
  | t :: r, u :: s => by
    have h1 := Ty.cmp_swap t u
    have h2 := cmps_swap r s
    simp only [cmps]
    rw [h1, h2]
    by_cases h : t.cmp u = 0
    · rw [if_neg (by omega), if_neg (by omega)]
    · rw [if_pos (by omega), if_pos (by omega)]
end
theorem toList_inj {a b : ByteArray} (h : a.data.toList = b.data.toList) : a = b := by
  obtain ⟨⟨x⟩⟩ := a
  obtain ⟨⟨y⟩⟩ := b
  simp only at h
  rw [h]
mutual
theorem Ty.cmp_zero : ∀ t u : Ty, t.cmp u = 0 ↔ t = u
  | .mk n l, .mk m k => by
    have h1 := cb_zero n.data.toList m.data.toList
    have h2 := cmps_zero l k
    simp only [Ty.cmp, cB, Ty.mk.injEq]
    by_cases h : Lib.compareBytes n.data.toList m.data.toList = 0
    · rw [if_neg (by omega), h2]
      have := toList_inj (h1.1 h)
      simp [this]
    · rw [if_pos (by omega)]
      constructor
      · intro hh; omega
      · rintro ⟨rfl, _⟩; exact absurd (h1.2 rfl) h
theorem cmps_zero : ∀ l k : List Ty, cmps l k = 0 ↔ l = k
  | [], [] => by simp [cmps]
  | [], _ :: _ => by simp [cmps]
  | _ :: _, [] => by simp [cmps]
  | t :: r, u :: s => by
    have h1 := Ty.cmp_zero t u
    have h2 := cmps_zero r s
    simp only [cmps, List.cons.injEq]
    by_cases h : t.cmp u = 0
    · rw [if_neg (by omega), h2]; simp [h1.1 h]
    · rw [if_pos (by omega)]
      constructor
      · intro hh; omega
      · rintro ⟨rfl, _⟩; exact absurd (h1.2 rfl) h
end
theorem Tr.lex {p q s x y z : Int} (h : Tr p q s) (g : Tr x y z) : Tr (if p ≠ 0 then p else x) (if q ≠ 0 then q else y) (if s ≠ 0 then s else z) := by
  unfold Tr at h g ⊢
  intro h1 h2
  have hp : p ≤ 0 := by
    by_cases e : p = 0
    · omega
    · rw [if_pos e] at h1; exact h1
  have hq : q ≤ 0 := by
    by_cases e : q = 0
    · omega
    · rw [if_pos e] at h2; exact h2
  obtain ⟨h3, h4⟩ := h hp hq
  by_cases hs : s = 0
  · obtain ⟨e1, e2⟩ := h4 hs
    rw [if_neg (by omega)] at h1 h2 ⊢
    rw [if_neg (by omega), if_neg (by omega)]
    exact g h1 h2
  · rw [if_pos hs]
    exact ⟨h3, fun h => absurd h hs⟩
mutual
theorem Ty.cmp_trans : ∀ t u v : Ty, Tr (t.cmp u) (u.cmp v) (t.cmp v)
  | .mk n l, .mk m k, .mk o j => by
    simp only [Ty.cmp, cB]
    exact (cb_trans _ _ _).lex (cmps_trans l k j)
theorem cmps_trans : ∀ l k j : List Ty, Tr (cmps l k) (cmps k j) (cmps l j)
  | [], [], [] => by simp [Tr, cmps]
  | [], [], _ :: _ => by simp [Tr, cmps]
  | [], _ :: _, [] => by simp [Tr, cmps]
  | [], _ :: _, _ :: _ => by simp [Tr, cmps]
  | _ :: _, [], _ => by simp [Tr, cmps]
  | _ :: _, _ :: _, [] => by simp [Tr, cmps]
  | t :: r, u :: s, v :: w => by
    simp only [cmps]
    exact (Ty.cmp_trans t u v).lex (cmps_trans r s w)
end

/-! ### Texts -/
/-- A byte that no name bears. -/
def mark (b : UInt8) : Bool := b == 91 || b == 44 || b == 93
def plainN (n : ByteArray) : Bool := (n.data.toList.all fun b => !mark b) && decide (n.data.toList.length ≤ 6)
mutual
def Ty.good : Ty → Bool
  | .mk n l => plainN n && goods l
def goods : List Ty → Bool
  | [] => true
  | t :: r => t.good && goods r
end
/-- It is empty, or begins with a mark. -/
def ends : List UInt8 → Bool
  | [] => true
  | b :: _ => mark b
theorem span_eq : ∀ {a b x y : List UInt8}, a.all (fun c => !mark c) = true → b.all (fun c => !mark c) = true → ends x = true → ends y = true → a ++ x = b ++ y → a = b ∧ x = y
  | [], [], _, _, _, _, _, _, h => ⟨rfl, h⟩
  | [], c :: b, x, y, _, hb, hx, _, h => by
    rw [List.nil_append] at h
    subst h
    simp only [List.cons_append, ends] at hx
    rw [List.all_cons, hx] at hb
    simp at hb
  | c :: a, [], x, y, ha, _, _, hy, h => by
    rw [List.nil_append] at h
    subst h
    simp only [List.cons_append, ends] at hy
    rw [List.all_cons, hy] at ha
    simp at ha
  | c :: a, d :: b, x, y, ha, hb, hx, hy, h => by
    rw [List.cons_append, List.cons_append, List.cons.injEq] at h
    rw [List.all_cons, Bool.and_eq_true] at ha hb
    obtain ⟨e1, e2⟩ := span_eq ha.2 hb.2 hx hy h.2
    exact ⟨by rw [h.1, e1], e2⟩
theorem ends_tail (l : List Ty) (r : List UInt8) : ends (Lib.joinTail [44, 32] (textLs l) ++ 93 :: r) = true := by
  cases l with
  | nil => rfl
  | cons t l => simp [textLs, Lib.joinTail, ends, mark]
theorem joinTail_cons (x : List UInt8) (r : List (List UInt8)) : Lib.joinTail [44, 32] (x :: r) = 44 :: 32 :: (x ++ Lib.joinTail [44, 32] r) := by simp [Lib.joinTail]
mutual
theorem Ty.text_inj : ∀ (t u : Ty) (x y : List UInt8), t.good = true → u.good = true → ends x = true → (∀ z, x ≠ 91 :: z) → ends y = true → (∀ z, y ≠ 91 :: z) → t.textL ++ x = u.textL ++ y → t = u ∧ x = y
  | .mk n l, .mk m k, x, y, ht, hu, hx, hx1, hy, hy1, h => by
    rw [Ty.good, Bool.and_eq_true] at ht hu
    rw [Ty.textL, Ty.textL, List.append_assoc, List.append_assoc] at h
    have hxx : ends ((if l.isEmpty then [] else 91 :: (Lib.join (textLs l) [44, 32] ++ [93])) ++ x) = true := by split <;> first | exact hx | rfl
    have hyy : ends ((if k.isEmpty then [] else 91 :: (Lib.join (textLs k) [44, 32] ++ [93])) ++ y) = true := by split <;> first | exact hy | rfl
    obtain ⟨e1, e2⟩ := span_eq (by have := ht.1; rw [plainN, Bool.and_eq_true] at this; exact this.1) (by have := hu.1; rw [plainN, Bool.and_eq_true] at this; exact this.1) hxx hyy h
    have e1 := toList_inj e1
    match l, k with
    | [], [] => exact ⟨by rw [e1], by simpa using e2⟩
    | [], u :: s => exact absurd (by simpa using e2) (hx1 _)
    | t :: r, [] => exact absurd (by simpa using e2.symm) (hy1 _)
    | t :: r, u :: s =>
      simp only [List.isEmpty_cons, Bool.false_eq_true, if_false, textLs, Lib.join_cons, List.cons_append, List.append_assoc, List.nil_append, List.cons.injEq, true_and] at e2
      rw [goods, Bool.and_eq_true] at ht hu
      obtain ⟨e3, e4⟩ := Ty.text_inj t u _ _ ht.2.1 hu.2.1 (ends_tail r x) (by intro z hz; cases r <;> simp [textLs, Lib.joinTail] at hz) (ends_tail s y) (by intro z hz; cases s <;> simp [textLs, Lib.joinTail] at hz) e2
      obtain ⟨e5, e6⟩ := texts_inj r s x y ht.2.2 hu.2.2 e4
      exact ⟨by rw [e1, e3, e5], e6⟩
theorem texts_inj : ∀ (l k : List Ty) (x y : List UInt8), goods l = true → goods k = true → Lib.joinTail [44, 32] (textLs l) ++ 93 :: x = Lib.joinTail [44, 32] (textLs k) ++ 93 :: y → l = k ∧ x = y
  | [], [], x, y, _, _, h => ⟨rfl, by simpa [textLs, Lib.joinTail] using h⟩
  | [], u :: s, x, y, _, _, h => by simp [textLs, Lib.joinTail] at h
  | t :: r, [], x, y, _, _, h => by simp [textLs, Lib.joinTail] at h
  | t :: r, u :: s, x, y, hl, hk, h => by
    rw [goods, Bool.and_eq_true] at hl hk
    rw [textLs, textLs, joinTail_cons, joinTail_cons] at h
    simp only [List.cons_append, List.append_assoc, List.cons.injEq, true_and] at h
    obtain ⟨e3, e4⟩ := Ty.text_inj t u _ _ hl.1 hk.1 (ends_tail r x) (by intro z hz; cases r <;> simp [textLs, Lib.joinTail] at hz) (ends_tail s y) (by intro z hz; cases s <;> simp [textLs, Lib.joinTail] at hz) h
    obtain ⟨e5, e6⟩ := texts_inj r s x y hl.2 hk.2 e4
    exact ⟨by rw [e3, e5], e6⟩
end
theorem text_eq {t u : Ty} (ht : t.good = true) (hu : u.good = true) (h : t.text = u.text) : t = u := by
  have h : t.textL = u.textL := by
    have := congrArg (fun b : ByteArray => b.data.toList) h
    simpa [Ty.text] using this
  exact (Ty.text_inj t u [] [] ht hu rfl (by simp) rfl (by simp) (by rw [h])).1

theorem nm_plain : ∀ i, i < 9 → plainN (nmAt i) = true := by decide
mutual
theorem Ty.text_len : ∀ t : Ty, t.good = true → t.textL.length + 2 ≤ 10 * t.size
  | .mk n l, h => by
    rw [Ty.good, Bool.and_eq_true, plainN, Bool.and_eq_true, decide_eq_true_eq] at h
    have h1 := texts_len l h.2
    have h2 := h.1.2
    rw [Ty.textL, Ty.size, List.length_append]
    cases l with
    | nil => simp only [List.isEmpty_nil, if_true, List.length_nil]; omega
    | cons u r =>
      simp only [List.isEmpty_cons, Bool.false_eq_true, if_false, textLs, Lib.join_cons, List.length_cons, List.length_append, List.length_nil]
      rw [textLs, joinTail_cons] at h1
      simp only [List.length_cons, List.length_append] at h1
      omega
theorem texts_len : ∀ l : List Ty, goods l = true → (Lib.joinTail [44, 32] (textLs l)).length ≤ 10 * sizes l
  | [], _ => by simp [textLs, Lib.joinTail]
  | t :: r, h => by
    rw [goods, Bool.and_eq_true] at h
    have h1 := Ty.text_len t h.1
    have h2 := texts_len r h.2
    rw [textLs, joinTail_cons, sizes]
    simp only [List.length_cons, List.length_append]
    omega
end
theorem rn_neg64 {a : Int} {R : Type} {r : R → Prop} {k : AV → Option R} (h : -9223372036854775807 ≤ a ∧ a ≤ 9223372036854775807) (hk : Wp (k (.i (-a))) r) : Wp (opt (unA .neg (.i a)) k) r := by
  refine rn_opt (v := .i (-a)) ?_ hk
  rw [unA_neg, IntWalk.i64_in _ (by omega), Int.zero_sub]
theorem opens_good {f : List Int → Ty × List Int} (h : ∀ r, (f r).1.good = true) : ∀ (n : Nat) (r : List Int), goods (opens f n r).1 = true
  | 0, _ => rfl
  | n + 1, r => by simp only [opens, goods, h r, opens_good h n, Bool.and_self]
theorem good_mk {n : ByteArray} {l : List Ty} (hn : plainN n = true) (hl : goods l = true) : (Ty.mk n l).good = true := by rw [Ty.good, hn, hl]; rfl
theorem openT_good : ∀ (k : Nat) (r : List Int), (openT k r).1.good = true := by
  intro k
  induction k with
  | zero =>
    intro r
    obtain ⟨i, e, hi⟩ := nextI_lt 9 (by decide) r
    rw [openT]
    split
    · exact good_mk (nm_plain 0 (by decide)) rfl
    · rw [e, Int.toNat_natCast]; exact good_mk (nm_plain i (by omega)) rfl
  | succ k ih =>
    intro r
    obtain ⟨i, e, hi⟩ := nextI_lt 9 (by decide) r
    rw [openT]
    split
    · exact good_mk (nm_plain 5 (by decide)) (opens_good ih _ _)
    · split
      · rw [e, Int.toNat_natCast]; exact good_mk (nm_plain i (by omega)) (opens_good ih _ _)
      · rw [e, Int.toNat_natCast]; exact good_mk (nm_plain i (by omega)) rfl

section
variable {call : CallT} (hc : Lim G call)
include hc

theorem order_run (l m n : List Int) (M : MM) : Wp (call 3 [avZ l, avZ m, avZ n] 0 M) (Av (.bool true)) := by
  rw [q3 hc]
  have cl1 : ∀ l : List Int, ∀ y ∈ [avZ l], Cl y := by simp [ClZ]
  have haw : ∀ M : MM, Wp (opt (puA call (lk M) 10 []) fun v19 => some (v19, M)) (Av (.bool true)) := fun M => by
    refine rn_puc (awake_pc hc) (by simp) ?_
    exact rn_av
  have l1 := light_cc hc l
  have l2 := light_cc hc m
  have l3 := light_cc hc n
  unfold s3
  refine rn_pcc l1 (fz_b _) (cl1 l) ?_
  cases e1 : decide (l.length ≤ 700)
  · repeat (first | (with_reducible (first | exact rn_ans | refine rn_upa ?_ | refine rn_bumpa ?_ | refine rn_bsome ?_ | refine rn_some ?_ | refine rn_if_t ?_ | refine rn_if_f ?_ | refine rn_gtt ?_ | refine rn_gff ?_ | refine rn_gtf ?_ | refine rn_gft ?_ | refine rn_gun ?_ | refine rn_gp_tt ?_ | refine rn_gp_ff ?_ | refine rn_gp_tf ?_ | refine rn_gp_ft ?_ | refine rn_gp_un ?_ | refine rn_agg ?_ | refine rn_aggd ?_ | refine rn_aggo ?_ | refine rn_fld00 ?_ | refine rn_mke ?_)) | ((with_reducible refine rn_fld ?_ ?_); focus exact rfl) | ((with_reducible refine rn_fldall ?_ ?_); focus exact rfl) | ((with_reducible refine rn_setcall ?_ ?_ ?_ ?_); focus exact rfl; focus exact rfl; focus exact rfl) | ((with_reducible refine rn_loc ?_ ?_); focus exact rfl) | ((with_reducible refine rn_set0 ?_ ?_); focus exact ⟨rfl, rfl⟩) | ((with_reducible refine rn_set1 ?_ ?_); focus exact ⟨rfl, rfl⟩) | ((with_reducible refine rn_mk0 ?_ ?_); focus exact ⟨rfl, rfl⟩) | ((with_reducible refine rn_mk1 ?_ ?_); focus exact ⟨rfl, rfl⟩) | ((with_reducible refine rn_res2 ?_ ?_ ?_); focus (first | exact locA_all rfl | exact rfl); focus (first | exact locA_all rfl | exact rfl)) | (with_reducible (first | refine rn_mmax ?_ | refine rn_pt ?_ | refine rn_pf ?_ | refine rn_eqb_tt ?_ | refine rn_eqb_ff ?_ | refine rn_eqb_tf ?_ | refine rn_eqb_ft ?_ | refine rn_neb_tt ?_ | refine rn_neb_ff ?_ | refine rn_neb_tf ?_ | refine rn_neb_ft ?_ | refine rn_not_t ?_ | refine rn_not_f ?_ | refine rn_ext0 ?_ | refine rn_ext1 ?_ | refine rn_ext2 ?_ | refine rn_len_sl ?_ | refine rn_len_nil ?_ | refine rn_len_os ?_ | refine rn_lens ?_ | refine rn_nilc ?_ | refine rn_nilci ?_ | refine rn_fad ?_ | refine rn_fadi ?_ | refine rn_ldi ?_)) | ((with_reducible refine rn_add64 ?_ ?_); focus omega) | ((with_reducible refine rn_sub64 ?_ ?_); focus omega) | ((with_reducible refine rn_rem ?_ ?_); focus omega) | ((with_reducible refine rn_eql_t ?_ ?_); focus omega) | ((with_reducible refine rn_eql_f ?_ ?_); focus omega) | ((with_reducible refine rn_neq_t ?_ ?_); focus omega) | ((with_reducible refine rn_neq_f ?_ ?_); focus omega) | ((with_reducible refine rn_lss_t ?_ ?_); focus omega) | ((with_reducible refine rn_lss_f ?_ ?_); focus omega) | ((with_reducible refine rn_leq_t ?_ ?_); focus omega) | ((with_reducible refine rn_leq_f ?_ ?_); focus omega) | ((with_reducible refine rn_gtr_t ?_ ?_); focus omega) | ((with_reducible refine rn_gtr_f ?_ ?_); focus omega) | ((with_reducible refine rn_geq_t ?_ ?_); focus omega) | ((with_reducible refine rn_geq_f ?_ ?_); focus omega) | ((with_reducible refine rn_cvi64 ?_ ?_); focus omega) | ((with_reducible refine rn_ixs ?_ ?_); focus omega) | ((with_reducible refine rn_ixsl ?_ ?_); focus omega))
    exact haw _
  rw [decide_eq_true_eq] at e1
  repeat (first | (with_reducible (first | refine rn_pcc l2 (fz_b _) (cl1 m) ?_ | exact rn_ans | refine rn_upa ?_ | refine rn_bumpa ?_ | refine rn_bsome ?_ | refine rn_some ?_ | refine rn_if_t ?_ | refine rn_if_f ?_ | refine rn_gtt ?_ | refine rn_gff ?_ | refine rn_gtf ?_ | refine rn_gft ?_ | refine rn_gun ?_ | refine rn_gp_tt ?_ | refine rn_gp_ff ?_ | refine rn_gp_tf ?_ | refine rn_gp_ft ?_ | refine rn_gp_un ?_ | refine rn_agg ?_ | refine rn_aggd ?_ | refine rn_aggo ?_ | refine rn_fld00 ?_ | refine rn_mke ?_)) | ((with_reducible refine rn_fld ?_ ?_); focus exact rfl) | ((with_reducible refine rn_fldall ?_ ?_); focus exact rfl) | ((with_reducible refine rn_setcall ?_ ?_ ?_ ?_); focus exact rfl; focus exact rfl; focus exact rfl) | ((with_reducible refine rn_loc ?_ ?_); focus exact rfl) | ((with_reducible refine rn_set0 ?_ ?_); focus exact ⟨rfl, rfl⟩) | ((with_reducible refine rn_set1 ?_ ?_); focus exact ⟨rfl, rfl⟩) | ((with_reducible refine rn_mk0 ?_ ?_); focus exact ⟨rfl, rfl⟩) | ((with_reducible refine rn_mk1 ?_ ?_); focus exact ⟨rfl, rfl⟩) | ((with_reducible refine rn_res2 ?_ ?_ ?_); focus (first | exact locA_all rfl | exact rfl); focus (first | exact locA_all rfl | exact rfl)) | (with_reducible (first | refine rn_mmax ?_ | refine rn_pt ?_ | refine rn_pf ?_ | refine rn_eqb_tt ?_ | refine rn_eqb_ff ?_ | refine rn_eqb_tf ?_ | refine rn_eqb_ft ?_ | refine rn_neb_tt ?_ | refine rn_neb_ff ?_ | refine rn_neb_tf ?_ | refine rn_neb_ft ?_ | refine rn_not_t ?_ | refine rn_not_f ?_ | refine rn_ext0 ?_ | refine rn_ext1 ?_ | refine rn_ext2 ?_ | refine rn_len_sl ?_ | refine rn_len_nil ?_ | refine rn_len_os ?_ | refine rn_lens ?_ | refine rn_nilc ?_ | refine rn_nilci ?_ | refine rn_fad ?_ | refine rn_fadi ?_ | refine rn_ldi ?_)) | ((with_reducible refine rn_add64 ?_ ?_); focus omega) | ((with_reducible refine rn_sub64 ?_ ?_); focus omega) | ((with_reducible refine rn_rem ?_ ?_); focus omega) | ((with_reducible refine rn_eql_t ?_ ?_); focus omega) | ((with_reducible refine rn_eql_f ?_ ?_); focus omega) | ((with_reducible refine rn_neq_t ?_ ?_); focus omega) | ((with_reducible refine rn_neq_f ?_ ?_); focus omega) | ((with_reducible refine rn_lss_t ?_ ?_); focus omega) | ((with_reducible refine rn_lss_f ?_ ?_); focus omega) | ((with_reducible refine rn_leq_t ?_ ?_); focus omega) | ((with_reducible refine rn_leq_f ?_ ?_); focus omega) | ((with_reducible refine rn_gtr_t ?_ ?_); focus omega) | ((with_reducible refine rn_gtr_f ?_ ?_); focus omega) | ((with_reducible refine rn_geq_t ?_ ?_); focus omega) | ((with_reducible refine rn_geq_f ?_ ?_); focus omega) | ((with_reducible refine rn_cvi64 ?_ ?_); focus omega) | ((with_reducible refine rn_ixs ?_ ?_); focus omega) | ((with_reducible refine rn_ixsl ?_ ?_); focus omega))
  cases e2 : decide (m.length ≤ 700)
  · repeat (first | (with_reducible (first | exact rn_ans | refine rn_upa ?_ | refine rn_bumpa ?_ | refine rn_bsome ?_ | refine rn_some ?_ | refine rn_if_t ?_ | refine rn_if_f ?_ | refine rn_gtt ?_ | refine rn_gff ?_ | refine rn_gtf ?_ | refine rn_gft ?_ | refine rn_gun ?_ | refine rn_gp_tt ?_ | refine rn_gp_ff ?_ | refine rn_gp_tf ?_ | refine rn_gp_ft ?_ | refine rn_gp_un ?_ | refine rn_agg ?_ | refine rn_aggd ?_ | refine rn_aggo ?_ | refine rn_fld00 ?_ | refine rn_mke ?_)) | ((with_reducible refine rn_fld ?_ ?_); focus exact rfl) | ((with_reducible refine rn_fldall ?_ ?_); focus exact rfl) | ((with_reducible refine rn_setcall ?_ ?_ ?_ ?_); focus exact rfl; focus exact rfl; focus exact rfl) | ((with_reducible refine rn_loc ?_ ?_); focus exact rfl) | ((with_reducible refine rn_set0 ?_ ?_); focus exact ⟨rfl, rfl⟩) | ((with_reducible refine rn_set1 ?_ ?_); focus exact ⟨rfl, rfl⟩) | ((with_reducible refine rn_mk0 ?_ ?_); focus exact ⟨rfl, rfl⟩) | ((with_reducible refine rn_mk1 ?_ ?_); focus exact ⟨rfl, rfl⟩) | ((with_reducible refine rn_res2 ?_ ?_ ?_); focus (first | exact locA_all rfl | exact rfl); focus (first | exact locA_all rfl | exact rfl)) | (with_reducible (first | refine rn_mmax ?_ | refine rn_pt ?_ | refine rn_pf ?_ | refine rn_eqb_tt ?_ | refine rn_eqb_ff ?_ | refine rn_eqb_tf ?_ | refine rn_eqb_ft ?_ | refine rn_neb_tt ?_ | refine rn_neb_ff ?_ | refine rn_neb_tf ?_ | refine rn_neb_ft ?_ | refine rn_not_t ?_ | refine rn_not_f ?_ | refine rn_ext0 ?_ | refine rn_ext1 ?_ | refine rn_ext2 ?_ | refine rn_len_sl ?_ | refine rn_len_nil ?_ | refine rn_len_os ?_ | refine rn_lens ?_ | refine rn_nilc ?_ | refine rn_nilci ?_ | refine rn_fad ?_ | refine rn_fadi ?_ | refine rn_ldi ?_)) | ((with_reducible refine rn_add64 ?_ ?_); focus omega) | ((with_reducible refine rn_sub64 ?_ ?_); focus omega) | ((with_reducible refine rn_rem ?_ ?_); focus omega) | ((with_reducible refine rn_eql_t ?_ ?_); focus omega) | ((with_reducible refine rn_eql_f ?_ ?_); focus omega) | ((with_reducible refine rn_neq_t ?_ ?_); focus omega) | ((with_reducible refine rn_neq_f ?_ ?_); focus omega) | ((with_reducible refine rn_lss_t ?_ ?_); focus omega) | ((with_reducible refine rn_lss_f ?_ ?_); focus omega) | ((with_reducible refine rn_leq_t ?_ ?_); focus omega) | ((with_reducible refine rn_leq_f ?_ ?_); focus omega) | ((with_reducible refine rn_gtr_t ?_ ?_); focus omega) | ((with_reducible refine rn_gtr_f ?_ ?_); focus omega) | ((with_reducible refine rn_geq_t ?_ ?_); focus omega) | ((with_reducible refine rn_geq_f ?_ ?_); focus omega) | ((with_reducible refine rn_cvi64 ?_ ?_); focus omega) | ((with_reducible refine rn_ixs ?_ ?_); focus omega) | ((with_reducible refine rn_ixsl ?_ ?_); focus omega))
    exact haw _
  rw [decide_eq_true_eq] at e2
  repeat (first | (with_reducible (first | refine rn_pcc l3 (fz_b _) (cl1 n) ?_ | exact rn_ans | refine rn_upa ?_ | refine rn_bumpa ?_ | refine rn_bsome ?_ | refine rn_some ?_ | refine rn_if_t ?_ | refine rn_if_f ?_ | refine rn_gtt ?_ | refine rn_gff ?_ | refine rn_gtf ?_ | refine rn_gft ?_ | refine rn_gun ?_ | refine rn_gp_tt ?_ | refine rn_gp_ff ?_ | refine rn_gp_tf ?_ | refine rn_gp_ft ?_ | refine rn_gp_un ?_ | refine rn_agg ?_ | refine rn_aggd ?_ | refine rn_aggo ?_ | refine rn_fld00 ?_ | refine rn_mke ?_)) | ((with_reducible refine rn_fld ?_ ?_); focus exact rfl) | ((with_reducible refine rn_fldall ?_ ?_); focus exact rfl) | ((with_reducible refine rn_setcall ?_ ?_ ?_ ?_); focus exact rfl; focus exact rfl; focus exact rfl) | ((with_reducible refine rn_loc ?_ ?_); focus exact rfl) | ((with_reducible refine rn_set0 ?_ ?_); focus exact ⟨rfl, rfl⟩) | ((with_reducible refine rn_set1 ?_ ?_); focus exact ⟨rfl, rfl⟩) | ((with_reducible refine rn_mk0 ?_ ?_); focus exact ⟨rfl, rfl⟩) | ((with_reducible refine rn_mk1 ?_ ?_); focus exact ⟨rfl, rfl⟩) | ((with_reducible refine rn_res2 ?_ ?_ ?_); focus (first | exact locA_all rfl | exact rfl); focus (first | exact locA_all rfl | exact rfl)) | (with_reducible (first | refine rn_mmax ?_ | refine rn_pt ?_ | refine rn_pf ?_ | refine rn_eqb_tt ?_ | refine rn_eqb_ff ?_ | refine rn_eqb_tf ?_ | refine rn_eqb_ft ?_ | refine rn_neb_tt ?_ | refine rn_neb_ff ?_ | refine rn_neb_tf ?_ | refine rn_neb_ft ?_ | refine rn_not_t ?_ | refine rn_not_f ?_ | refine rn_ext0 ?_ | refine rn_ext1 ?_ | refine rn_ext2 ?_ | refine rn_len_sl ?_ | refine rn_len_nil ?_ | refine rn_len_os ?_ | refine rn_lens ?_ | refine rn_nilc ?_ | refine rn_nilci ?_ | refine rn_fad ?_ | refine rn_fadi ?_ | refine rn_ldi ?_)) | ((with_reducible refine rn_add64 ?_ ?_); focus omega) | ((with_reducible refine rn_sub64 ?_ ?_); focus omega) | ((with_reducible refine rn_rem ?_ ?_); focus omega) | ((with_reducible refine rn_eql_t ?_ ?_); focus omega) | ((with_reducible refine rn_eql_f ?_ ?_); focus omega) | ((with_reducible refine rn_neq_t ?_ ?_); focus omega) | ((with_reducible refine rn_neq_f ?_ ?_); focus omega) | ((with_reducible refine rn_lss_t ?_ ?_); focus omega) | ((with_reducible refine rn_lss_f ?_ ?_); focus omega) | ((with_reducible refine rn_leq_t ?_ ?_); focus omega) | ((with_reducible refine rn_leq_f ?_ ?_); focus omega) | ((with_reducible refine rn_gtr_t ?_ ?_); focus omega) | ((with_reducible refine rn_gtr_f ?_ ?_); focus omega) | ((with_reducible refine rn_geq_t ?_ ?_); focus omega) | ((with_reducible refine rn_geq_f ?_ ?_); focus omega) | ((with_reducible refine rn_cvi64 ?_ ?_); focus omega) | ((with_reducible refine rn_ixs ?_ ?_); focus omega) | ((with_reducible refine rn_ixsl ?_ ?_); focus omega))
  cases e3 : decide (n.length ≤ 700)
  · repeat (first | (with_reducible (first | exact rn_ans | refine rn_upa ?_ | refine rn_bumpa ?_ | refine rn_bsome ?_ | refine rn_some ?_ | refine rn_if_t ?_ | refine rn_if_f ?_ | refine rn_gtt ?_ | refine rn_gff ?_ | refine rn_gtf ?_ | refine rn_gft ?_ | refine rn_gun ?_ | refine rn_gp_tt ?_ | refine rn_gp_ff ?_ | refine rn_gp_tf ?_ | refine rn_gp_ft ?_ | refine rn_gp_un ?_ | refine rn_agg ?_ | refine rn_aggd ?_ | refine rn_aggo ?_ | refine rn_fld00 ?_ | refine rn_mke ?_)) | ((with_reducible refine rn_fld ?_ ?_); focus exact rfl) | ((with_reducible refine rn_fldall ?_ ?_); focus exact rfl) | ((with_reducible refine rn_setcall ?_ ?_ ?_ ?_); focus exact rfl; focus exact rfl; focus exact rfl) | ((with_reducible refine rn_loc ?_ ?_); focus exact rfl) | ((with_reducible refine rn_set0 ?_ ?_); focus exact ⟨rfl, rfl⟩) | ((with_reducible refine rn_set1 ?_ ?_); focus exact ⟨rfl, rfl⟩) | ((with_reducible refine rn_mk0 ?_ ?_); focus exact ⟨rfl, rfl⟩) | ((with_reducible refine rn_mk1 ?_ ?_); focus exact ⟨rfl, rfl⟩) | ((with_reducible refine rn_res2 ?_ ?_ ?_); focus (first | exact locA_all rfl | exact rfl); focus (first | exact locA_all rfl | exact rfl)) | (with_reducible (first | refine rn_mmax ?_ | refine rn_pt ?_ | refine rn_pf ?_ | refine rn_eqb_tt ?_ | refine rn_eqb_ff ?_ | refine rn_eqb_tf ?_ | refine rn_eqb_ft ?_ | refine rn_neb_tt ?_ | refine rn_neb_ff ?_ | refine rn_neb_tf ?_ | refine rn_neb_ft ?_ | refine rn_not_t ?_ | refine rn_not_f ?_ | refine rn_ext0 ?_ | refine rn_ext1 ?_ | refine rn_ext2 ?_ | refine rn_len_sl ?_ | refine rn_len_nil ?_ | refine rn_len_os ?_ | refine rn_lens ?_ | refine rn_nilc ?_ | refine rn_nilci ?_ | refine rn_fad ?_ | refine rn_fadi ?_ | refine rn_ldi ?_)) | ((with_reducible refine rn_add64 ?_ ?_); focus omega) | ((with_reducible refine rn_sub64 ?_ ?_); focus omega) | ((with_reducible refine rn_rem ?_ ?_); focus omega) | ((with_reducible refine rn_eql_t ?_ ?_); focus omega) | ((with_reducible refine rn_eql_f ?_ ?_); focus omega) | ((with_reducible refine rn_neq_t ?_ ?_); focus omega) | ((with_reducible refine rn_neq_f ?_ ?_); focus omega) | ((with_reducible refine rn_lss_t ?_ ?_); focus omega) | ((with_reducible refine rn_lss_f ?_ ?_); focus omega) | ((with_reducible refine rn_leq_t ?_ ?_); focus omega) | ((with_reducible refine rn_leq_f ?_ ?_); focus omega) | ((with_reducible refine rn_gtr_t ?_ ?_); focus omega) | ((with_reducible refine rn_gtr_f ?_ ?_); focus omega) | ((with_reducible refine rn_geq_t ?_ ?_); focus omega) | ((with_reducible refine rn_geq_f ?_ ?_); focus omega) | ((with_reducible refine rn_cvi64 ?_ ?_); focus omega) | ((with_reducible refine rn_ixs ?_ ?_); focus omega) | ((with_reducible refine rn_ixsl ?_ ?_); focus omega))
    exact haw _
  rw [decide_eq_true_eq] at e3
  repeat (first | (with_reducible (first | exact rn_ans | refine rn_upa ?_ | refine rn_bumpa ?_ | refine rn_bsome ?_ | refine rn_some ?_ | refine rn_if_t ?_ | refine rn_if_f ?_ | refine rn_gtt ?_ | refine rn_gff ?_ | refine rn_gtf ?_ | refine rn_gft ?_ | refine rn_gun ?_ | refine rn_gp_tt ?_ | refine rn_gp_ff ?_ | refine rn_gp_tf ?_ | refine rn_gp_ft ?_ | refine rn_gp_un ?_ | refine rn_agg ?_ | refine rn_aggd ?_ | refine rn_aggo ?_ | refine rn_fld00 ?_ | refine rn_mke ?_)) | ((with_reducible refine rn_fld ?_ ?_); focus exact rfl) | ((with_reducible refine rn_fldall ?_ ?_); focus exact rfl) | ((with_reducible refine rn_setcall ?_ ?_ ?_ ?_); focus exact rfl; focus exact rfl; focus exact rfl) | ((with_reducible refine rn_loc ?_ ?_); focus exact rfl) | ((with_reducible refine rn_set0 ?_ ?_); focus exact ⟨rfl, rfl⟩) | ((with_reducible refine rn_set1 ?_ ?_); focus exact ⟨rfl, rfl⟩) | ((with_reducible refine rn_mk0 ?_ ?_); focus exact ⟨rfl, rfl⟩) | ((with_reducible refine rn_mk1 ?_ ?_); focus exact ⟨rfl, rfl⟩) | ((with_reducible refine rn_res2 ?_ ?_ ?_); focus (first | exact locA_all rfl | exact rfl); focus (first | exact locA_all rfl | exact rfl)) | (with_reducible (first | refine rn_mmax ?_ | refine rn_pt ?_ | refine rn_pf ?_ | refine rn_eqb_tt ?_ | refine rn_eqb_ff ?_ | refine rn_eqb_tf ?_ | refine rn_eqb_ft ?_ | refine rn_neb_tt ?_ | refine rn_neb_ff ?_ | refine rn_neb_tf ?_ | refine rn_neb_ft ?_ | refine rn_not_t ?_ | refine rn_not_f ?_ | refine rn_ext0 ?_ | refine rn_ext1 ?_ | refine rn_ext2 ?_ | refine rn_len_sl ?_ | refine rn_len_nil ?_ | refine rn_len_os ?_ | refine rn_lens ?_ | refine rn_nilc ?_ | refine rn_nilci ?_ | refine rn_fad ?_ | refine rn_fadi ?_ | refine rn_ldi ?_)) | ((with_reducible refine rn_add64 ?_ ?_); focus omega) | ((with_reducible refine rn_sub64 ?_ ?_); focus omega) | ((with_reducible refine rn_rem ?_ ?_); focus omega) | ((with_reducible refine rn_eql_t ?_ ?_); focus omega) | ((with_reducible refine rn_eql_f ?_ ?_); focus omega) | ((with_reducible refine rn_neq_t ?_ ?_); focus omega) | ((with_reducible refine rn_neq_f ?_ ?_); focus omega) | ((with_reducible refine rn_lss_t ?_ ?_); focus omega) | ((with_reducible refine rn_lss_f ?_ ?_); focus omega) | ((with_reducible refine rn_leq_t ?_ ?_); focus omega) | ((with_reducible refine rn_leq_f ?_ ?_); focus omega) | ((with_reducible refine rn_gtr_t ?_ ?_); focus omega) | ((with_reducible refine rn_gtr_f ?_ ?_); focus omega) | ((with_reducible refine rn_geq_t ?_ ?_); focus omega) | ((with_reducible refine rn_geq_f ?_ ?_); focus omega) | ((with_reducible refine rn_cvi64 ?_ ?_); focus omega) | ((with_reducible refine rn_ixs ?_ ?_); focus omega) | ((with_reducible refine rn_ixsl ?_ ?_); focus omega))
  have one : ∀ (l : List Int), l.length ≤ 700 → ∀ (M : MM) (k : AV → MM → Option (AV × MM)), (∀ M', Wp (k (avT (openT 4 l).1) M') (Av (.bool true))) → Wp (bnd (call 12 [avZ l] 0 M) fun v22 M23 => bnd (call 11 [v22, (.i 3)] 0 M23) k) (Av (.bool true)) := fun l hl M k hk => by
    refine rn_wp (roll_d hc l (by omega) 0 M) fun v M1 hh => ?_
    obtain ⟨e1, h1, _⟩ := hh
    simp only at e1 h1
    subst e1
    exact rn_open hc 4 rfl (by decide) h1 (fun M2 h2 _ => hk M2)
  refine one l e1 _ _ (fun M1 => ?_)
  refine one m e2 _ _ (fun M2 => ?_)
  refine one n e3 _ _ (fun M3 => ?_)
  have za := openT_size4 l
  have zb := openT_size4 m
  have zc := openT_size4 n
  have ga := openT_good 4 l
  have gb := openT_good 4 m
  generalize (openT 4 l).1 = a at za ga
  generalize (openT 4 m).1 = b at zb gb
  generalize (openT 4 n).1 = c at zc
  have ta := a.text_len ga
  have tb := b.text_len gb
  have cab := compare_cc hc _ a b (Nat.le_refl _) (by omega)
  have cbc := compare_cc hc _ b c (Nat.le_refl _) (by omega)
  have cac := compare_cc hc _ a c (Nat.le_refl _) (by omega)
  have cba := compare_cc hc _ b a (Nat.le_refl _) (by omega)
  rw [a.cmp_swap b] at cba
  have sab := same_cc hc _ a b (Nat.le_refl _) (by omega)
  have xa := text_cc hc _ a (Nat.le_refl _) (by omega) (by omega)
  have xb := text_cc hc _ b (Nat.le_refl _) (by omega) (by omega)
  have rab := a.cmp_range b
  have rbc := b.cmp_range c
  have rac := a.cmp_range c
  have hT := a.cmp_trans b c
  have hS : a.same b = decide (a.cmp b = 0) := by rw [Bool.eq_iff_iff, a.same_iff b, decide_eq_true_eq, a.cmp_zero b]
  have hX : decide (a.text = b.text) = decide (a.cmp b = 0) := by
    rw [decide_eq_decide, a.cmp_zero b]
    exact ⟨text_eq ga gb, fun h => by rw [h]⟩
  rw [hS] at sab
  generalize a.cmp b = x at *
  generalize b.cmp c = y at *
  generalize a.cmp c = z at *
  repeat (first | (with_reducible (first | refine rn_upk ?_ | refine rn_bumpk ?_)) | ((with_reducible refine rn_neg64 ?_ ?_); focus omega) | (with_reducible (first | refine rn_aggT ?_ | refine rn_setT ?_ | refine rn_allT ?_ | refine rn_pcc cab (fz_i _) (ClT2 _ _) ?_ | refine rn_pcc cbc (fz_i _) (ClT2 _ _) ?_ | refine rn_pcc cac (fz_i _) (ClT2 _ _) ?_ | refine rn_pcc cba (fz_i _) (ClT2 _ _) ?_ | exact rn_ans | refine rn_upa ?_ | refine rn_bumpa ?_ | refine rn_bsome ?_ | refine rn_some ?_ | refine rn_if_t ?_ | refine rn_if_f ?_ | refine rn_gtt ?_ | refine rn_gff ?_ | refine rn_gtf ?_ | refine rn_gft ?_ | refine rn_gun ?_ | refine rn_gp_tt ?_ | refine rn_gp_ff ?_ | refine rn_gp_tf ?_ | refine rn_gp_ft ?_ | refine rn_gp_un ?_ | refine rn_agg ?_ | refine rn_aggd ?_ | refine rn_aggo ?_ | refine rn_fld00 ?_ | refine rn_mke ?_)) | ((with_reducible refine rn_fld ?_ ?_); focus exact rfl) | ((with_reducible refine rn_fldall ?_ ?_); focus exact rfl) | ((with_reducible refine rn_setcall ?_ ?_ ?_ ?_); focus exact rfl; focus exact rfl; focus exact rfl) | ((with_reducible refine rn_loc ?_ ?_); focus exact rfl) | ((with_reducible refine rn_set0 ?_ ?_); focus exact ⟨rfl, rfl⟩) | ((with_reducible refine rn_set1 ?_ ?_); focus exact ⟨rfl, rfl⟩) | ((with_reducible refine rn_mk0 ?_ ?_); focus exact ⟨rfl, rfl⟩) | ((with_reducible refine rn_mk1 ?_ ?_); focus exact ⟨rfl, rfl⟩) | ((with_reducible refine rn_res2 ?_ ?_ ?_); focus (first | exact locA_all rfl | exact rfl); focus (first | exact locA_all rfl | exact rfl)) | (with_reducible (first | refine rn_mmax ?_ | refine rn_pt ?_ | refine rn_pf ?_ | refine rn_eqb_tt ?_ | refine rn_eqb_ff ?_ | refine rn_eqb_tf ?_ | refine rn_eqb_ft ?_ | refine rn_neb_tt ?_ | refine rn_neb_ff ?_ | refine rn_neb_tf ?_ | refine rn_neb_ft ?_ | refine rn_not_t ?_ | refine rn_not_f ?_ | refine rn_ext0 ?_ | refine rn_ext1 ?_ | refine rn_ext2 ?_ | refine rn_len_sl ?_ | refine rn_len_nil ?_ | refine rn_len_os ?_ | refine rn_lens ?_ | refine rn_nilc ?_ | refine rn_nilci ?_ | refine rn_fad ?_ | refine rn_fadi ?_ | refine rn_ldi ?_)) | ((with_reducible refine rn_add64 ?_ ?_); focus omega) | ((with_reducible refine rn_sub64 ?_ ?_); focus omega) | ((with_reducible refine rn_rem ?_ ?_); focus omega) | ((with_reducible refine rn_eql_t ?_ ?_); focus omega) | ((with_reducible refine rn_eql_f ?_ ?_); focus omega) | ((with_reducible refine rn_neq_t ?_ ?_); focus omega) | ((with_reducible refine rn_neq_f ?_ ?_); focus omega) | ((with_reducible refine rn_lss_t ?_ ?_); focus omega) | ((with_reducible refine rn_lss_f ?_ ?_); focus omega) | ((with_reducible refine rn_leq_t ?_ ?_); focus omega) | ((with_reducible refine rn_leq_f ?_ ?_); focus omega) | ((with_reducible refine rn_gtr_t ?_ ?_); focus omega) | ((with_reducible refine rn_gtr_f ?_ ?_); focus omega) | ((with_reducible refine rn_geq_t ?_ ?_); focus omega) | ((with_reducible refine rn_geq_f ?_ ?_); focus omega) | ((with_reducible refine rn_cvi64 ?_ ?_); focus omega) | ((with_reducible refine rn_ixs ?_ ?_); focus omega) | ((with_reducible refine rn_ixsl ?_ ?_); focus omega))
  by_cases hx : x = 0
  · rw [decide_eq_true hx] at sab hX
    repeat (first | (with_reducible (first | refine rn_allT ?_ | refine rn_pcc sab (fz_b _) (ClT2 _ _) ?_ | refine rn_pcc xa (fz_s _) (ClT1 _) ?_ | refine rn_pcc xb (fz_s _) (ClT1 _) ?_ | exact rn_ans | refine rn_upa ?_ | refine rn_bumpa ?_ | refine rn_bsome ?_ | refine rn_some ?_ | refine rn_if_t ?_ | refine rn_if_f ?_ | refine rn_gtt ?_ | refine rn_gff ?_ | refine rn_gtf ?_ | refine rn_gft ?_ | refine rn_gun ?_ | refine rn_gp_tt ?_ | refine rn_gp_ff ?_ | refine rn_gp_tf ?_ | refine rn_gp_ft ?_ | refine rn_gp_un ?_ | refine rn_agg ?_ | refine rn_aggd ?_ | refine rn_aggo ?_ | refine rn_fld00 ?_ | refine rn_mke ?_)) | ((with_reducible refine rn_fld ?_ ?_); focus exact rfl) | ((with_reducible refine rn_fldall ?_ ?_); focus exact rfl) | ((with_reducible refine rn_setcall ?_ ?_ ?_ ?_); focus exact rfl; focus exact rfl; focus exact rfl) | ((with_reducible refine rn_loc ?_ ?_); focus exact rfl) | ((with_reducible refine rn_set0 ?_ ?_); focus exact ⟨rfl, rfl⟩) | ((with_reducible refine rn_set1 ?_ ?_); focus exact ⟨rfl, rfl⟩) | ((with_reducible refine rn_mk0 ?_ ?_); focus exact ⟨rfl, rfl⟩) | ((with_reducible refine rn_mk1 ?_ ?_); focus exact ⟨rfl, rfl⟩) | ((with_reducible refine rn_res2 ?_ ?_ ?_); focus (first | exact locA_all rfl | exact rfl); focus (first | exact locA_all rfl | exact rfl)) | (with_reducible (first | refine rn_mmax ?_ | refine rn_pt ?_ | refine rn_pf ?_ | refine rn_eqb_tt ?_ | refine rn_eqb_ff ?_ | refine rn_eqb_tf ?_ | refine rn_eqb_ft ?_ | refine rn_neb_tt ?_ | refine rn_neb_ff ?_ | refine rn_neb_tf ?_ | refine rn_neb_ft ?_ | refine rn_not_t ?_ | refine rn_not_f ?_ | refine rn_ext0 ?_ | refine rn_ext1 ?_ | refine rn_ext2 ?_ | refine rn_len_sl ?_ | refine rn_len_nil ?_ | refine rn_len_os ?_ | refine rn_lens ?_ | refine rn_nilc ?_ | refine rn_nilci ?_ | refine rn_fad ?_ | refine rn_fadi ?_ | refine rn_ldi ?_)) | ((with_reducible refine rn_add64 ?_ ?_); focus omega) | ((with_reducible refine rn_sub64 ?_ ?_); focus omega) | ((with_reducible refine rn_rem ?_ ?_); focus omega) | ((with_reducible refine rn_eql_t ?_ ?_); focus omega) | ((with_reducible refine rn_eql_f ?_ ?_); focus omega) | ((with_reducible refine rn_neq_t ?_ ?_); focus omega) | ((with_reducible refine rn_neq_f ?_ ?_); focus omega) | ((with_reducible refine rn_lss_t ?_ ?_); focus omega) | ((with_reducible refine rn_lss_f ?_ ?_); focus omega) | ((with_reducible refine rn_leq_t ?_ ?_); focus omega) | ((with_reducible refine rn_leq_f ?_ ?_); focus omega) | ((with_reducible refine rn_gtr_t ?_ ?_); focus omega) | ((with_reducible refine rn_gtr_f ?_ ?_); focus omega) | ((with_reducible refine rn_geq_t ?_ ?_); focus omega) | ((with_reducible refine rn_geq_f ?_ ?_); focus omega) | ((with_reducible refine rn_cvi64 ?_ ?_); focus omega) | ((with_reducible refine rn_ixs ?_ ?_); focus omega) | ((with_reducible refine rn_ixsl ?_ ?_); focus omega))
    refine rn_eqS ?_
    rw [hX]
    repeat (first | (with_reducible (first | exact rn_ans | refine rn_upa ?_ | refine rn_bumpa ?_ | refine rn_bsome ?_ | refine rn_some ?_ | refine rn_if_t ?_ | refine rn_if_f ?_ | refine rn_gtt ?_ | refine rn_gff ?_ | refine rn_gtf ?_ | refine rn_gft ?_ | refine rn_gun ?_ | refine rn_gp_tt ?_ | refine rn_gp_ff ?_ | refine rn_gp_tf ?_ | refine rn_gp_ft ?_ | refine rn_gp_un ?_ | refine rn_agg ?_ | refine rn_aggd ?_ | refine rn_aggo ?_ | refine rn_fld00 ?_ | refine rn_mke ?_)) | ((with_reducible refine rn_fld ?_ ?_); focus exact rfl) | ((with_reducible refine rn_fldall ?_ ?_); focus exact rfl) | ((with_reducible refine rn_setcall ?_ ?_ ?_ ?_); focus exact rfl; focus exact rfl; focus exact rfl) | ((with_reducible refine rn_loc ?_ ?_); focus exact rfl) | ((with_reducible refine rn_set0 ?_ ?_); focus exact ⟨rfl, rfl⟩) | ((with_reducible refine rn_set1 ?_ ?_); focus exact ⟨rfl, rfl⟩) | ((with_reducible refine rn_mk0 ?_ ?_); focus exact ⟨rfl, rfl⟩) | ((with_reducible refine rn_mk1 ?_ ?_); focus exact ⟨rfl, rfl⟩) | ((with_reducible refine rn_res2 ?_ ?_ ?_); focus (first | exact locA_all rfl | exact rfl); focus (first | exact locA_all rfl | exact rfl)) | (with_reducible (first | refine rn_mmax ?_ | refine rn_pt ?_ | refine rn_pf ?_ | refine rn_eqb_tt ?_ | refine rn_eqb_ff ?_ | refine rn_eqb_tf ?_ | refine rn_eqb_ft ?_ | refine rn_neb_tt ?_ | refine rn_neb_ff ?_ | refine rn_neb_tf ?_ | refine rn_neb_ft ?_ | refine rn_not_t ?_ | refine rn_not_f ?_ | refine rn_ext0 ?_ | refine rn_ext1 ?_ | refine rn_ext2 ?_ | refine rn_len_sl ?_ | refine rn_len_nil ?_ | refine rn_len_os ?_ | refine rn_lens ?_ | refine rn_nilc ?_ | refine rn_nilci ?_ | refine rn_fad ?_ | refine rn_fadi ?_ | refine rn_ldi ?_)) | ((with_reducible refine rn_add64 ?_ ?_); focus omega) | ((with_reducible refine rn_sub64 ?_ ?_); focus omega) | ((with_reducible refine rn_rem ?_ ?_); focus omega) | ((with_reducible refine rn_eql_t ?_ ?_); focus omega) | ((with_reducible refine rn_eql_f ?_ ?_); focus omega) | ((with_reducible refine rn_neq_t ?_ ?_); focus omega) | ((with_reducible refine rn_neq_f ?_ ?_); focus omega) | ((with_reducible refine rn_lss_t ?_ ?_); focus omega) | ((with_reducible refine rn_lss_f ?_ ?_); focus omega) | ((with_reducible refine rn_leq_t ?_ ?_); focus omega) | ((with_reducible refine rn_leq_f ?_ ?_); focus omega) | ((with_reducible refine rn_gtr_t ?_ ?_); focus omega) | ((with_reducible refine rn_gtr_f ?_ ?_); focus omega) | ((with_reducible refine rn_geq_t ?_ ?_); focus omega) | ((with_reducible refine rn_geq_f ?_ ?_); focus omega) | ((with_reducible refine rn_cvi64 ?_ ?_); focus omega) | ((with_reducible refine rn_ixs ?_ ?_); focus omega) | ((with_reducible refine rn_ixsl ?_ ?_); focus omega))
    by_cases hy : 0 < y
    · repeat (first | (with_reducible (first | exact rn_ans | refine rn_upa ?_ | refine rn_bumpa ?_ | refine rn_bsome ?_ | refine rn_some ?_ | refine rn_if_t ?_ | refine rn_if_f ?_ | refine rn_gtt ?_ | refine rn_gff ?_ | refine rn_gtf ?_ | refine rn_gft ?_ | refine rn_gun ?_ | refine rn_gp_tt ?_ | refine rn_gp_ff ?_ | refine rn_gp_tf ?_ | refine rn_gp_ft ?_ | refine rn_gp_un ?_ | refine rn_agg ?_ | refine rn_aggd ?_ | refine rn_aggo ?_ | refine rn_fld00 ?_ | refine rn_mke ?_)) | ((with_reducible refine rn_fld ?_ ?_); focus exact rfl) | ((with_reducible refine rn_fldall ?_ ?_); focus exact rfl) | ((with_reducible refine rn_setcall ?_ ?_ ?_ ?_); focus exact rfl; focus exact rfl; focus exact rfl) | ((with_reducible refine rn_loc ?_ ?_); focus exact rfl) | ((with_reducible refine rn_set0 ?_ ?_); focus exact ⟨rfl, rfl⟩) | ((with_reducible refine rn_set1 ?_ ?_); focus exact ⟨rfl, rfl⟩) | ((with_reducible refine rn_mk0 ?_ ?_); focus exact ⟨rfl, rfl⟩) | ((with_reducible refine rn_mk1 ?_ ?_); focus exact ⟨rfl, rfl⟩) | ((with_reducible refine rn_res2 ?_ ?_ ?_); focus (first | exact locA_all rfl | exact rfl); focus (first | exact locA_all rfl | exact rfl)) | (with_reducible (first | refine rn_mmax ?_ | refine rn_pt ?_ | refine rn_pf ?_ | refine rn_eqb_tt ?_ | refine rn_eqb_ff ?_ | refine rn_eqb_tf ?_ | refine rn_eqb_ft ?_ | refine rn_neb_tt ?_ | refine rn_neb_ff ?_ | refine rn_neb_tf ?_ | refine rn_neb_ft ?_ | refine rn_not_t ?_ | refine rn_not_f ?_ | refine rn_ext0 ?_ | refine rn_ext1 ?_ | refine rn_ext2 ?_ | refine rn_len_sl ?_ | refine rn_len_nil ?_ | refine rn_len_os ?_ | refine rn_lens ?_ | refine rn_nilc ?_ | refine rn_nilci ?_ | refine rn_fad ?_ | refine rn_fadi ?_ | refine rn_ldi ?_)) | ((with_reducible refine rn_add64 ?_ ?_); focus omega) | ((with_reducible refine rn_sub64 ?_ ?_); focus omega) | ((with_reducible refine rn_rem ?_ ?_); focus omega) | ((with_reducible refine rn_eql_t ?_ ?_); focus omega) | ((with_reducible refine rn_eql_f ?_ ?_); focus omega) | ((with_reducible refine rn_neq_t ?_ ?_); focus omega) | ((with_reducible refine rn_neq_f ?_ ?_); focus omega) | ((with_reducible refine rn_lss_t ?_ ?_); focus omega) | ((with_reducible refine rn_lss_f ?_ ?_); focus omega) | ((with_reducible refine rn_leq_t ?_ ?_); focus omega) | ((with_reducible refine rn_leq_f ?_ ?_); focus omega) | ((with_reducible refine rn_gtr_t ?_ ?_); focus omega) | ((with_reducible refine rn_gtr_f ?_ ?_); focus omega) | ((with_reducible refine rn_geq_t ?_ ?_); focus omega) | ((with_reducible refine rn_geq_f ?_ ?_); focus omega) | ((with_reducible refine rn_cvi64 ?_ ?_); focus omega) | ((with_reducible refine rn_ixs ?_ ?_); focus omega) | ((with_reducible refine rn_ixsl ?_ ?_); focus omega))
      exact haw _
    · obtain ⟨h1, h2⟩ := hT (by omega) (by omega)
      repeat (first | (with_reducible (first | exact rn_ans | refine rn_upa ?_ | refine rn_bumpa ?_ | refine rn_bsome ?_ | refine rn_some ?_ | refine rn_if_t ?_ | refine rn_if_f ?_ | refine rn_gtt ?_ | refine rn_gff ?_ | refine rn_gtf ?_ | refine rn_gft ?_ | refine rn_gun ?_ | refine rn_gp_tt ?_ | refine rn_gp_ff ?_ | refine rn_gp_tf ?_ | refine rn_gp_ft ?_ | refine rn_gp_un ?_ | refine rn_agg ?_ | refine rn_aggd ?_ | refine rn_aggo ?_ | refine rn_fld00 ?_ | refine rn_mke ?_)) | ((with_reducible refine rn_fld ?_ ?_); focus exact rfl) | ((with_reducible refine rn_fldall ?_ ?_); focus exact rfl) | ((with_reducible refine rn_setcall ?_ ?_ ?_ ?_); focus exact rfl; focus exact rfl; focus exact rfl) | ((with_reducible refine rn_loc ?_ ?_); focus exact rfl) | ((with_reducible refine rn_set0 ?_ ?_); focus exact ⟨rfl, rfl⟩) | ((with_reducible refine rn_set1 ?_ ?_); focus exact ⟨rfl, rfl⟩) | ((with_reducible refine rn_mk0 ?_ ?_); focus exact ⟨rfl, rfl⟩) | ((with_reducible refine rn_mk1 ?_ ?_); focus exact ⟨rfl, rfl⟩) | ((with_reducible refine rn_res2 ?_ ?_ ?_); focus (first | exact locA_all rfl | exact rfl); focus (first | exact locA_all rfl | exact rfl)) | (with_reducible (first | refine rn_mmax ?_ | refine rn_pt ?_ | refine rn_pf ?_ | refine rn_eqb_tt ?_ | refine rn_eqb_ff ?_ | refine rn_eqb_tf ?_ | refine rn_eqb_ft ?_ | refine rn_neb_tt ?_ | refine rn_neb_ff ?_ | refine rn_neb_tf ?_ | refine rn_neb_ft ?_ | refine rn_not_t ?_ | refine rn_not_f ?_ | refine rn_ext0 ?_ | refine rn_ext1 ?_ | refine rn_ext2 ?_ | refine rn_len_sl ?_ | refine rn_len_nil ?_ | refine rn_len_os ?_ | refine rn_lens ?_ | refine rn_nilc ?_ | refine rn_nilci ?_ | refine rn_fad ?_ | refine rn_fadi ?_ | refine rn_ldi ?_)) | ((with_reducible refine rn_add64 ?_ ?_); focus omega) | ((with_reducible refine rn_sub64 ?_ ?_); focus omega) | ((with_reducible refine rn_rem ?_ ?_); focus omega) | ((with_reducible refine rn_eql_t ?_ ?_); focus omega) | ((with_reducible refine rn_eql_f ?_ ?_); focus omega) | ((with_reducible refine rn_neq_t ?_ ?_); focus omega) | ((with_reducible refine rn_neq_f ?_ ?_); focus omega) | ((with_reducible refine rn_lss_t ?_ ?_); focus omega) | ((with_reducible refine rn_lss_f ?_ ?_); focus omega) | ((with_reducible refine rn_leq_t ?_ ?_); focus omega) | ((with_reducible refine rn_leq_f ?_ ?_); focus omega) | ((with_reducible refine rn_gtr_t ?_ ?_); focus omega) | ((with_reducible refine rn_gtr_f ?_ ?_); focus omega) | ((with_reducible refine rn_geq_t ?_ ?_); focus omega) | ((with_reducible refine rn_geq_f ?_ ?_); focus omega) | ((with_reducible refine rn_cvi64 ?_ ?_); focus omega) | ((with_reducible refine rn_ixs ?_ ?_); focus omega) | ((with_reducible refine rn_ixsl ?_ ?_); focus omega))
      by_cases hz : z < 0
      · repeat (first | (with_reducible (first | exact rn_ans | refine rn_upa ?_ | refine rn_bumpa ?_ | refine rn_bsome ?_ | refine rn_some ?_ | refine rn_if_t ?_ | refine rn_if_f ?_ | refine rn_gtt ?_ | refine rn_gff ?_ | refine rn_gtf ?_ | refine rn_gft ?_ | refine rn_gun ?_ | refine rn_gp_tt ?_ | refine rn_gp_ff ?_ | refine rn_gp_tf ?_ | refine rn_gp_ft ?_ | refine rn_gp_un ?_ | refine rn_agg ?_ | refine rn_aggd ?_ | refine rn_aggo ?_ | refine rn_fld00 ?_ | refine rn_mke ?_)) | ((with_reducible refine rn_fld ?_ ?_); focus exact rfl) | ((with_reducible refine rn_fldall ?_ ?_); focus exact rfl) | ((with_reducible refine rn_setcall ?_ ?_ ?_ ?_); focus exact rfl; focus exact rfl; focus exact rfl) | ((with_reducible refine rn_loc ?_ ?_); focus exact rfl) | ((with_reducible refine rn_set0 ?_ ?_); focus exact ⟨rfl, rfl⟩) | ((with_reducible refine rn_set1 ?_ ?_); focus exact ⟨rfl, rfl⟩) | ((with_reducible refine rn_mk0 ?_ ?_); focus exact ⟨rfl, rfl⟩) | ((with_reducible refine rn_mk1 ?_ ?_); focus exact ⟨rfl, rfl⟩) | ((with_reducible refine rn_res2 ?_ ?_ ?_); focus (first | exact locA_all rfl | exact rfl); focus (first | exact locA_all rfl | exact rfl)) | (with_reducible (first | refine rn_mmax ?_ | refine rn_pt ?_ | refine rn_pf ?_ | refine rn_eqb_tt ?_ | refine rn_eqb_ff ?_ | refine rn_eqb_tf ?_ | refine rn_eqb_ft ?_ | refine rn_neb_tt ?_ | refine rn_neb_ff ?_ | refine rn_neb_tf ?_ | refine rn_neb_ft ?_ | refine rn_not_t ?_ | refine rn_not_f ?_ | refine rn_ext0 ?_ | refine rn_ext1 ?_ | refine rn_ext2 ?_ | refine rn_len_sl ?_ | refine rn_len_nil ?_ | refine rn_len_os ?_ | refine rn_lens ?_ | refine rn_nilc ?_ | refine rn_nilci ?_ | refine rn_fad ?_ | refine rn_fadi ?_ | refine rn_ldi ?_)) | ((with_reducible refine rn_add64 ?_ ?_); focus omega) | ((with_reducible refine rn_sub64 ?_ ?_); focus omega) | ((with_reducible refine rn_rem ?_ ?_); focus omega) | ((with_reducible refine rn_eql_t ?_ ?_); focus omega) | ((with_reducible refine rn_eql_f ?_ ?_); focus omega) | ((with_reducible refine rn_neq_t ?_ ?_); focus omega) | ((with_reducible refine rn_neq_f ?_ ?_); focus omega) | ((with_reducible refine rn_lss_t ?_ ?_); focus omega) | ((with_reducible refine rn_lss_f ?_ ?_); focus omega) | ((with_reducible refine rn_leq_t ?_ ?_); focus omega) | ((with_reducible refine rn_leq_f ?_ ?_); focus omega) | ((with_reducible refine rn_gtr_t ?_ ?_); focus omega) | ((with_reducible refine rn_gtr_f ?_ ?_); focus omega) | ((with_reducible refine rn_geq_t ?_ ?_); focus omega) | ((with_reducible refine rn_geq_f ?_ ?_); focus omega) | ((with_reducible refine rn_cvi64 ?_ ?_); focus omega) | ((with_reducible refine rn_ixs ?_ ?_); focus omega) | ((with_reducible refine rn_ixsl ?_ ?_); focus omega))
        exact haw _
      · have h3 := h2 (by omega)
        repeat (first | (with_reducible (first | exact rn_ans | refine rn_upa ?_ | refine rn_bumpa ?_ | refine rn_bsome ?_ | refine rn_some ?_ | refine rn_if_t ?_ | refine rn_if_f ?_ | refine rn_gtt ?_ | refine rn_gff ?_ | refine rn_gtf ?_ | refine rn_gft ?_ | refine rn_gun ?_ | refine rn_gp_tt ?_ | refine rn_gp_ff ?_ | refine rn_gp_tf ?_ | refine rn_gp_ft ?_ | refine rn_gp_un ?_ | refine rn_agg ?_ | refine rn_aggd ?_ | refine rn_aggo ?_ | refine rn_fld00 ?_ | refine rn_mke ?_)) | ((with_reducible refine rn_fld ?_ ?_); focus exact rfl) | ((with_reducible refine rn_fldall ?_ ?_); focus exact rfl) | ((with_reducible refine rn_setcall ?_ ?_ ?_ ?_); focus exact rfl; focus exact rfl; focus exact rfl) | ((with_reducible refine rn_loc ?_ ?_); focus exact rfl) | ((with_reducible refine rn_set0 ?_ ?_); focus exact ⟨rfl, rfl⟩) | ((with_reducible refine rn_set1 ?_ ?_); focus exact ⟨rfl, rfl⟩) | ((with_reducible refine rn_mk0 ?_ ?_); focus exact ⟨rfl, rfl⟩) | ((with_reducible refine rn_mk1 ?_ ?_); focus exact ⟨rfl, rfl⟩) | ((with_reducible refine rn_res2 ?_ ?_ ?_); focus (first | exact locA_all rfl | exact rfl); focus (first | exact locA_all rfl | exact rfl)) | (with_reducible (first | refine rn_mmax ?_ | refine rn_pt ?_ | refine rn_pf ?_ | refine rn_eqb_tt ?_ | refine rn_eqb_ff ?_ | refine rn_eqb_tf ?_ | refine rn_eqb_ft ?_ | refine rn_neb_tt ?_ | refine rn_neb_ff ?_ | refine rn_neb_tf ?_ | refine rn_neb_ft ?_ | refine rn_not_t ?_ | refine rn_not_f ?_ | refine rn_ext0 ?_ | refine rn_ext1 ?_ | refine rn_ext2 ?_ | refine rn_len_sl ?_ | refine rn_len_nil ?_ | refine rn_len_os ?_ | refine rn_lens ?_ | refine rn_nilc ?_ | refine rn_nilci ?_ | refine rn_fad ?_ | refine rn_fadi ?_ | refine rn_ldi ?_)) | ((with_reducible refine rn_add64 ?_ ?_); focus omega) | ((with_reducible refine rn_sub64 ?_ ?_); focus omega) | ((with_reducible refine rn_rem ?_ ?_); focus omega) | ((with_reducible refine rn_eql_t ?_ ?_); focus omega) | ((with_reducible refine rn_eql_f ?_ ?_); focus omega) | ((with_reducible refine rn_neq_t ?_ ?_); focus omega) | ((with_reducible refine rn_neq_f ?_ ?_); focus omega) | ((with_reducible refine rn_lss_t ?_ ?_); focus omega) | ((with_reducible refine rn_lss_f ?_ ?_); focus omega) | ((with_reducible refine rn_leq_t ?_ ?_); focus omega) | ((with_reducible refine rn_leq_f ?_ ?_); focus omega) | ((with_reducible refine rn_gtr_t ?_ ?_); focus omega) | ((with_reducible refine rn_gtr_f ?_ ?_); focus omega) | ((with_reducible refine rn_geq_t ?_ ?_); focus omega) | ((with_reducible refine rn_geq_f ?_ ?_); focus omega) | ((with_reducible refine rn_cvi64 ?_ ?_); focus omega) | ((with_reducible refine rn_ixs ?_ ?_); focus omega) | ((with_reducible refine rn_ixsl ?_ ?_); focus omega))
        exact haw _
  · rw [decide_eq_false hx] at sab hX
    repeat (first | (with_reducible (first | refine rn_allT ?_ | refine rn_pcc sab (fz_b _) (ClT2 _ _) ?_ | refine rn_pcc xa (fz_s _) (ClT1 _) ?_ | refine rn_pcc xb (fz_s _) (ClT1 _) ?_ | exact rn_ans | refine rn_upa ?_ | refine rn_bumpa ?_ | refine rn_bsome ?_ | refine rn_some ?_ | refine rn_if_t ?_ | refine rn_if_f ?_ | refine rn_gtt ?_ | refine rn_gff ?_ | refine rn_gtf ?_ | refine rn_gft ?_ | refine rn_gun ?_ | refine rn_gp_tt ?_ | refine rn_gp_ff ?_ | refine rn_gp_tf ?_ | refine rn_gp_ft ?_ | refine rn_gp_un ?_ | refine rn_agg ?_ | refine rn_aggd ?_ | refine rn_aggo ?_ | refine rn_fld00 ?_ | refine rn_mke ?_)) | ((with_reducible refine rn_fld ?_ ?_); focus exact rfl) | ((with_reducible refine rn_fldall ?_ ?_); focus exact rfl) | ((with_reducible refine rn_setcall ?_ ?_ ?_ ?_); focus exact rfl; focus exact rfl; focus exact rfl) | ((with_reducible refine rn_loc ?_ ?_); focus exact rfl) | ((with_reducible refine rn_set0 ?_ ?_); focus exact ⟨rfl, rfl⟩) | ((with_reducible refine rn_set1 ?_ ?_); focus exact ⟨rfl, rfl⟩) | ((with_reducible refine rn_mk0 ?_ ?_); focus exact ⟨rfl, rfl⟩) | ((with_reducible refine rn_mk1 ?_ ?_); focus exact ⟨rfl, rfl⟩) | ((with_reducible refine rn_res2 ?_ ?_ ?_); focus (first | exact locA_all rfl | exact rfl); focus (first | exact locA_all rfl | exact rfl)) | (with_reducible (first | refine rn_mmax ?_ | refine rn_pt ?_ | refine rn_pf ?_ | refine rn_eqb_tt ?_ | refine rn_eqb_ff ?_ | refine rn_eqb_tf ?_ | refine rn_eqb_ft ?_ | refine rn_neb_tt ?_ | refine rn_neb_ff ?_ | refine rn_neb_tf ?_ | refine rn_neb_ft ?_ | refine rn_not_t ?_ | refine rn_not_f ?_ | refine rn_ext0 ?_ | refine rn_ext1 ?_ | refine rn_ext2 ?_ | refine rn_len_sl ?_ | refine rn_len_nil ?_ | refine rn_len_os ?_ | refine rn_lens ?_ | refine rn_nilc ?_ | refine rn_nilci ?_ | refine rn_fad ?_ | refine rn_fadi ?_ | refine rn_ldi ?_)) | ((with_reducible refine rn_add64 ?_ ?_); focus omega) | ((with_reducible refine rn_sub64 ?_ ?_); focus omega) | ((with_reducible refine rn_rem ?_ ?_); focus omega) | ((with_reducible refine rn_eql_t ?_ ?_); focus omega) | ((with_reducible refine rn_eql_f ?_ ?_); focus omega) | ((with_reducible refine rn_neq_t ?_ ?_); focus omega) | ((with_reducible refine rn_neq_f ?_ ?_); focus omega) | ((with_reducible refine rn_lss_t ?_ ?_); focus omega) | ((with_reducible refine rn_lss_f ?_ ?_); focus omega) | ((with_reducible refine rn_leq_t ?_ ?_); focus omega) | ((with_reducible refine rn_leq_f ?_ ?_); focus omega) | ((with_reducible refine rn_gtr_t ?_ ?_); focus omega) | ((with_reducible refine rn_gtr_f ?_ ?_); focus omega) | ((with_reducible refine rn_geq_t ?_ ?_); focus omega) | ((with_reducible refine rn_geq_f ?_ ?_); focus omega) | ((with_reducible refine rn_cvi64 ?_ ?_); focus omega) | ((with_reducible refine rn_ixs ?_ ?_); focus omega) | ((with_reducible refine rn_ixsl ?_ ?_); focus omega))
    refine rn_eqS ?_
    rw [hX]
    repeat (first | (with_reducible (first | exact rn_ans | refine rn_upa ?_ | refine rn_bumpa ?_ | refine rn_bsome ?_ | refine rn_some ?_ | refine rn_if_t ?_ | refine rn_if_f ?_ | refine rn_gtt ?_ | refine rn_gff ?_ | refine rn_gtf ?_ | refine rn_gft ?_ | refine rn_gun ?_ | refine rn_gp_tt ?_ | refine rn_gp_ff ?_ | refine rn_gp_tf ?_ | refine rn_gp_ft ?_ | refine rn_gp_un ?_ | refine rn_agg ?_ | refine rn_aggd ?_ | refine rn_aggo ?_ | refine rn_fld00 ?_ | refine rn_mke ?_)) | ((with_reducible refine rn_fld ?_ ?_); focus exact rfl) | ((with_reducible refine rn_fldall ?_ ?_); focus exact rfl) | ((with_reducible refine rn_setcall ?_ ?_ ?_ ?_); focus exact rfl; focus exact rfl; focus exact rfl) | ((with_reducible refine rn_loc ?_ ?_); focus exact rfl) | ((with_reducible refine rn_set0 ?_ ?_); focus exact ⟨rfl, rfl⟩) | ((with_reducible refine rn_set1 ?_ ?_); focus exact ⟨rfl, rfl⟩) | ((with_reducible refine rn_mk0 ?_ ?_); focus exact ⟨rfl, rfl⟩) | ((with_reducible refine rn_mk1 ?_ ?_); focus exact ⟨rfl, rfl⟩) | ((with_reducible refine rn_res2 ?_ ?_ ?_); focus (first | exact locA_all rfl | exact rfl); focus (first | exact locA_all rfl | exact rfl)) | (with_reducible (first | refine rn_mmax ?_ | refine rn_pt ?_ | refine rn_pf ?_ | refine rn_eqb_tt ?_ | refine rn_eqb_ff ?_ | refine rn_eqb_tf ?_ | refine rn_eqb_ft ?_ | refine rn_neb_tt ?_ | refine rn_neb_ff ?_ | refine rn_neb_tf ?_ | refine rn_neb_ft ?_ | refine rn_not_t ?_ | refine rn_not_f ?_ | refine rn_ext0 ?_ | refine rn_ext1 ?_ | refine rn_ext2 ?_ | refine rn_len_sl ?_ | refine rn_len_nil ?_ | refine rn_len_os ?_ | refine rn_lens ?_ | refine rn_nilc ?_ | refine rn_nilci ?_ | refine rn_fad ?_ | refine rn_fadi ?_ | refine rn_ldi ?_)) | ((with_reducible refine rn_add64 ?_ ?_); focus omega) | ((with_reducible refine rn_sub64 ?_ ?_); focus omega) | ((with_reducible refine rn_rem ?_ ?_); focus omega) | ((with_reducible refine rn_eql_t ?_ ?_); focus omega) | ((with_reducible refine rn_eql_f ?_ ?_); focus omega) | ((with_reducible refine rn_neq_t ?_ ?_); focus omega) | ((with_reducible refine rn_neq_f ?_ ?_); focus omega) | ((with_reducible refine rn_lss_t ?_ ?_); focus omega) | ((with_reducible refine rn_lss_f ?_ ?_); focus omega) | ((with_reducible refine rn_leq_t ?_ ?_); focus omega) | ((with_reducible refine rn_leq_f ?_ ?_); focus omega) | ((with_reducible refine rn_gtr_t ?_ ?_); focus omega) | ((with_reducible refine rn_gtr_f ?_ ?_); focus omega) | ((with_reducible refine rn_geq_t ?_ ?_); focus omega) | ((with_reducible refine rn_geq_f ?_ ?_); focus omega) | ((with_reducible refine rn_cvi64 ?_ ?_); focus omega) | ((with_reducible refine rn_ixs ?_ ?_); focus omega) | ((with_reducible refine rn_ixsl ?_ ?_); focus omega))
    by_cases hx0 : 0 < x
    · repeat (first | (with_reducible (first | exact rn_ans | refine rn_upa ?_ | refine rn_bumpa ?_ | refine rn_bsome ?_ | refine rn_some ?_ | refine rn_if_t ?_ | refine rn_if_f ?_ | refine rn_gtt ?_ | refine rn_gff ?_ | refine rn_gtf ?_ | refine rn_gft ?_ | refine rn_gun ?_ | refine rn_gp_tt ?_ | refine rn_gp_ff ?_ | refine rn_gp_tf ?_ | refine rn_gp_ft ?_ | refine rn_gp_un ?_ | refine rn_agg ?_ | refine rn_aggd ?_ | refine rn_aggo ?_ | refine rn_fld00 ?_ | refine rn_mke ?_)) | ((with_reducible refine rn_fld ?_ ?_); focus exact rfl) | ((with_reducible refine rn_fldall ?_ ?_); focus exact rfl) | ((with_reducible refine rn_setcall ?_ ?_ ?_ ?_); focus exact rfl; focus exact rfl; focus exact rfl) | ((with_reducible refine rn_loc ?_ ?_); focus exact rfl) | ((with_reducible refine rn_set0 ?_ ?_); focus exact ⟨rfl, rfl⟩) | ((with_reducible refine rn_set1 ?_ ?_); focus exact ⟨rfl, rfl⟩) | ((with_reducible refine rn_mk0 ?_ ?_); focus exact ⟨rfl, rfl⟩) | ((with_reducible refine rn_mk1 ?_ ?_); focus exact ⟨rfl, rfl⟩) | ((with_reducible refine rn_res2 ?_ ?_ ?_); focus (first | exact locA_all rfl | exact rfl); focus (first | exact locA_all rfl | exact rfl)) | (with_reducible (first | refine rn_mmax ?_ | refine rn_pt ?_ | refine rn_pf ?_ | refine rn_eqb_tt ?_ | refine rn_eqb_ff ?_ | refine rn_eqb_tf ?_ | refine rn_eqb_ft ?_ | refine rn_neb_tt ?_ | refine rn_neb_ff ?_ | refine rn_neb_tf ?_ | refine rn_neb_ft ?_ | refine rn_not_t ?_ | refine rn_not_f ?_ | refine rn_ext0 ?_ | refine rn_ext1 ?_ | refine rn_ext2 ?_ | refine rn_len_sl ?_ | refine rn_len_nil ?_ | refine rn_len_os ?_ | refine rn_lens ?_ | refine rn_nilc ?_ | refine rn_nilci ?_ | refine rn_fad ?_ | refine rn_fadi ?_ | refine rn_ldi ?_)) | ((with_reducible refine rn_add64 ?_ ?_); focus omega) | ((with_reducible refine rn_sub64 ?_ ?_); focus omega) | ((with_reducible refine rn_rem ?_ ?_); focus omega) | ((with_reducible refine rn_eql_t ?_ ?_); focus omega) | ((with_reducible refine rn_eql_f ?_ ?_); focus omega) | ((with_reducible refine rn_neq_t ?_ ?_); focus omega) | ((with_reducible refine rn_neq_f ?_ ?_); focus omega) | ((with_reducible refine rn_lss_t ?_ ?_); focus omega) | ((with_reducible refine rn_lss_f ?_ ?_); focus omega) | ((with_reducible refine rn_leq_t ?_ ?_); focus omega) | ((with_reducible refine rn_leq_f ?_ ?_); focus omega) | ((with_reducible refine rn_gtr_t ?_ ?_); focus omega) | ((with_reducible refine rn_gtr_f ?_ ?_); focus omega) | ((with_reducible refine rn_geq_t ?_ ?_); focus omega) | ((with_reducible refine rn_geq_f ?_ ?_); focus omega) | ((with_reducible refine rn_cvi64 ?_ ?_); focus omega) | ((with_reducible refine rn_ixs ?_ ?_); focus omega) | ((with_reducible refine rn_ixsl ?_ ?_); focus omega))
      exact haw _
    · repeat (first | (with_reducible (first | exact rn_ans | refine rn_upa ?_ | refine rn_bumpa ?_ | refine rn_bsome ?_ | refine rn_some ?_ | refine rn_if_t ?_ | refine rn_if_f ?_ | refine rn_gtt ?_ | refine rn_gff ?_ | refine rn_gtf ?_ | refine rn_gft ?_ | refine rn_gun ?_ | refine rn_gp_tt ?_ | refine rn_gp_ff ?_ | refine rn_gp_tf ?_ | refine rn_gp_ft ?_ | refine rn_gp_un ?_ | refine rn_agg ?_ | refine rn_aggd ?_ | refine rn_aggo ?_ | refine rn_fld00 ?_ | refine rn_mke ?_)) | ((with_reducible refine rn_fld ?_ ?_); focus exact rfl) | ((with_reducible refine rn_fldall ?_ ?_); focus exact rfl) | ((with_reducible refine rn_setcall ?_ ?_ ?_ ?_); focus exact rfl; focus exact rfl; focus exact rfl) | ((with_reducible refine rn_loc ?_ ?_); focus exact rfl) | ((with_reducible refine rn_set0 ?_ ?_); focus exact ⟨rfl, rfl⟩) | ((with_reducible refine rn_set1 ?_ ?_); focus exact ⟨rfl, rfl⟩) | ((with_reducible refine rn_mk0 ?_ ?_); focus exact ⟨rfl, rfl⟩) | ((with_reducible refine rn_mk1 ?_ ?_); focus exact ⟨rfl, rfl⟩) | ((with_reducible refine rn_res2 ?_ ?_ ?_); focus (first | exact locA_all rfl | exact rfl); focus (first | exact locA_all rfl | exact rfl)) | (with_reducible (first | refine rn_mmax ?_ | refine rn_pt ?_ | refine rn_pf ?_ | refine rn_eqb_tt ?_ | refine rn_eqb_ff ?_ | refine rn_eqb_tf ?_ | refine rn_eqb_ft ?_ | refine rn_neb_tt ?_ | refine rn_neb_ff ?_ | refine rn_neb_tf ?_ | refine rn_neb_ft ?_ | refine rn_not_t ?_ | refine rn_not_f ?_ | refine rn_ext0 ?_ | refine rn_ext1 ?_ | refine rn_ext2 ?_ | refine rn_len_sl ?_ | refine rn_len_nil ?_ | refine rn_len_os ?_ | refine rn_lens ?_ | refine rn_nilc ?_ | refine rn_nilci ?_ | refine rn_fad ?_ | refine rn_fadi ?_ | refine rn_ldi ?_)) | ((with_reducible refine rn_add64 ?_ ?_); focus omega) | ((with_reducible refine rn_sub64 ?_ ?_); focus omega) | ((with_reducible refine rn_rem ?_ ?_); focus omega) | ((with_reducible refine rn_eql_t ?_ ?_); focus omega) | ((with_reducible refine rn_eql_f ?_ ?_); focus omega) | ((with_reducible refine rn_neq_t ?_ ?_); focus omega) | ((with_reducible refine rn_neq_f ?_ ?_); focus omega) | ((with_reducible refine rn_lss_t ?_ ?_); focus omega) | ((with_reducible refine rn_lss_f ?_ ?_); focus omega) | ((with_reducible refine rn_leq_t ?_ ?_); focus omega) | ((with_reducible refine rn_leq_f ?_ ?_); focus omega) | ((with_reducible refine rn_gtr_t ?_ ?_); focus omega) | ((with_reducible refine rn_gtr_f ?_ ?_); focus omega) | ((with_reducible refine rn_geq_t ?_ ?_); focus omega) | ((with_reducible refine rn_geq_f ?_ ?_); focus omega) | ((with_reducible refine rn_cvi64 ?_ ?_); focus omega) | ((with_reducible refine rn_ixs ?_ ?_); focus omega) | ((with_reducible refine rn_ixsl ?_ ?_); focus omega))
      by_cases hy : 0 < y
      · repeat (first | (with_reducible (first | exact rn_ans | refine rn_upa ?_ | refine rn_bumpa ?_ | refine rn_bsome ?_ | refine rn_some ?_ | refine rn_if_t ?_ | refine rn_if_f ?_ | refine rn_gtt ?_ | refine rn_gff ?_ | refine rn_gtf ?_ | refine rn_gft ?_ | refine rn_gun ?_ | refine rn_gp_tt ?_ | refine rn_gp_ff ?_ | refine rn_gp_tf ?_ | refine rn_gp_ft ?_ | refine rn_gp_un ?_ | refine rn_agg ?_ | refine rn_aggd ?_ | refine rn_aggo ?_ | refine rn_fld00 ?_ | refine rn_mke ?_)) | ((with_reducible refine rn_fld ?_ ?_); focus exact rfl) | ((with_reducible refine rn_fldall ?_ ?_); focus exact rfl) | ((with_reducible refine rn_setcall ?_ ?_ ?_ ?_); focus exact rfl; focus exact rfl; focus exact rfl) | ((with_reducible refine rn_loc ?_ ?_); focus exact rfl) | ((with_reducible refine rn_set0 ?_ ?_); focus exact ⟨rfl, rfl⟩) | ((with_reducible refine rn_set1 ?_ ?_); focus exact ⟨rfl, rfl⟩) | ((with_reducible refine rn_mk0 ?_ ?_); focus exact ⟨rfl, rfl⟩) | ((with_reducible refine rn_mk1 ?_ ?_); focus exact ⟨rfl, rfl⟩) | ((with_reducible refine rn_res2 ?_ ?_ ?_); focus (first | exact locA_all rfl | exact rfl); focus (first | exact locA_all rfl | exact rfl)) | (with_reducible (first | refine rn_mmax ?_ | refine rn_pt ?_ | refine rn_pf ?_ | refine rn_eqb_tt ?_ | refine rn_eqb_ff ?_ | refine rn_eqb_tf ?_ | refine rn_eqb_ft ?_ | refine rn_neb_tt ?_ | refine rn_neb_ff ?_ | refine rn_neb_tf ?_ | refine rn_neb_ft ?_ | refine rn_not_t ?_ | refine rn_not_f ?_ | refine rn_ext0 ?_ | refine rn_ext1 ?_ | refine rn_ext2 ?_ | refine rn_len_sl ?_ | refine rn_len_nil ?_ | refine rn_len_os ?_ | refine rn_lens ?_ | refine rn_nilc ?_ | refine rn_nilci ?_ | refine rn_fad ?_ | refine rn_fadi ?_ | refine rn_ldi ?_)) | ((with_reducible refine rn_add64 ?_ ?_); focus omega) | ((with_reducible refine rn_sub64 ?_ ?_); focus omega) | ((with_reducible refine rn_rem ?_ ?_); focus omega) | ((with_reducible refine rn_eql_t ?_ ?_); focus omega) | ((with_reducible refine rn_eql_f ?_ ?_); focus omega) | ((with_reducible refine rn_neq_t ?_ ?_); focus omega) | ((with_reducible refine rn_neq_f ?_ ?_); focus omega) | ((with_reducible refine rn_lss_t ?_ ?_); focus omega) | ((with_reducible refine rn_lss_f ?_ ?_); focus omega) | ((with_reducible refine rn_leq_t ?_ ?_); focus omega) | ((with_reducible refine rn_leq_f ?_ ?_); focus omega) | ((with_reducible refine rn_gtr_t ?_ ?_); focus omega) | ((with_reducible refine rn_gtr_f ?_ ?_); focus omega) | ((with_reducible refine rn_geq_t ?_ ?_); focus omega) | ((with_reducible refine rn_geq_f ?_ ?_); focus omega) | ((with_reducible refine rn_cvi64 ?_ ?_); focus omega) | ((with_reducible refine rn_ixs ?_ ?_); focus omega) | ((with_reducible refine rn_ixsl ?_ ?_); focus omega))
        exact haw _
      · obtain ⟨h1, h2⟩ := hT (by omega) (by omega)
        have h3 : z < 0 := by
          by_cases hz : z = 0
          · exact absurd (h2 hz).1 hx
          · omega
        repeat (first | (with_reducible (first | exact rn_ans | refine rn_upa ?_ | refine rn_bumpa ?_ | refine rn_bsome ?_ | refine rn_some ?_ | refine rn_if_t ?_ | refine rn_if_f ?_ | refine rn_gtt ?_ | refine rn_gff ?_ | refine rn_gtf ?_ | refine rn_gft ?_ | refine rn_gun ?_ | refine rn_gp_tt ?_ | refine rn_gp_ff ?_ | refine rn_gp_tf ?_ | refine rn_gp_ft ?_ | refine rn_gp_un ?_ | refine rn_agg ?_ | refine rn_aggd ?_ | refine rn_aggo ?_ | refine rn_fld00 ?_ | refine rn_mke ?_)) | ((with_reducible refine rn_fld ?_ ?_); focus exact rfl) | ((with_reducible refine rn_fldall ?_ ?_); focus exact rfl) | ((with_reducible refine rn_setcall ?_ ?_ ?_ ?_); focus exact rfl; focus exact rfl; focus exact rfl) | ((with_reducible refine rn_loc ?_ ?_); focus exact rfl) | ((with_reducible refine rn_set0 ?_ ?_); focus exact ⟨rfl, rfl⟩) | ((with_reducible refine rn_set1 ?_ ?_); focus exact ⟨rfl, rfl⟩) | ((with_reducible refine rn_mk0 ?_ ?_); focus exact ⟨rfl, rfl⟩) | ((with_reducible refine rn_mk1 ?_ ?_); focus exact ⟨rfl, rfl⟩) | ((with_reducible refine rn_res2 ?_ ?_ ?_); focus (first | exact locA_all rfl | exact rfl); focus (first | exact locA_all rfl | exact rfl)) | (with_reducible (first | refine rn_mmax ?_ | refine rn_pt ?_ | refine rn_pf ?_ | refine rn_eqb_tt ?_ | refine rn_eqb_ff ?_ | refine rn_eqb_tf ?_ | refine rn_eqb_ft ?_ | refine rn_neb_tt ?_ | refine rn_neb_ff ?_ | refine rn_neb_tf ?_ | refine rn_neb_ft ?_ | refine rn_not_t ?_ | refine rn_not_f ?_ | refine rn_ext0 ?_ | refine rn_ext1 ?_ | refine rn_ext2 ?_ | refine rn_len_sl ?_ | refine rn_len_nil ?_ | refine rn_len_os ?_ | refine rn_lens ?_ | refine rn_nilc ?_ | refine rn_nilci ?_ | refine rn_fad ?_ | refine rn_fadi ?_ | refine rn_ldi ?_)) | ((with_reducible refine rn_add64 ?_ ?_); focus omega) | ((with_reducible refine rn_sub64 ?_ ?_); focus omega) | ((with_reducible refine rn_rem ?_ ?_); focus omega) | ((with_reducible refine rn_eql_t ?_ ?_); focus omega) | ((with_reducible refine rn_eql_f ?_ ?_); focus omega) | ((with_reducible refine rn_neq_t ?_ ?_); focus omega) | ((with_reducible refine rn_neq_f ?_ ?_); focus omega) | ((with_reducible refine rn_lss_t ?_ ?_); focus omega) | ((with_reducible refine rn_lss_f ?_ ?_); focus omega) | ((with_reducible refine rn_leq_t ?_ ?_); focus omega) | ((with_reducible refine rn_leq_f ?_ ?_); focus omega) | ((with_reducible refine rn_gtr_t ?_ ?_); focus omega) | ((with_reducible refine rn_gtr_f ?_ ?_); focus omega) | ((with_reducible refine rn_geq_t ?_ ?_); focus omega) | ((with_reducible refine rn_geq_f ?_ ?_); focus omega) | ((with_reducible refine rn_cvi64 ?_ ?_); focus omega) | ((with_reducible refine rn_ixs ?_ ?_); focus omega) | ((with_reducible refine rn_ixsl ?_ ?_); focus omega))
        exact haw _
end

theorem order_law (e0 : D) (h0 : TD Try.prog 22 [e0]) (e1 : D) (h1 : TD Try.prog 22 [e1]) (e2 : D) (h2 : TD Try.prog 22 [e2]) : ∃ N M', acall G N 3 [.d e0, .d e1, .d e2] 0 ⟨0, fun _ => none⟩ = some (.bool true, M') := by
  obtain ⟨n0, hn0, _, _⟩ := h0.ints_inv Try.underlying22 Try.underlying3
  obtain ⟨n1, hn1, _, _⟩ := h1.ints_inv Try.underlying22 Try.underlying3
  obtain ⟨n2, hn2, _, _⟩ := h2.ints_inv Try.underlying22 Try.underlying3
  cases hn0
  cases hn1
  cases hn2
  refine Lim.law fun call hc => ?_
  obtain ⟨⟨v, M'⟩, h1, h2⟩ := order_run hc n0 n1 n2 ⟨0, fun _ => none⟩
  have h2 : v = .bool true := h2
  subst h2
  exact ⟨M', h1⟩
end Go.Proofs.Ytcoagkfjdpdohaa.Sx
