/-
  SX, PART J: SLICES AS VALUES: code and calls: 'law_v': what the machine answers where slices are values, the machine with tokens answers.
-/
import Derived.Test.YtnbhmlflbbddcaaSxDDg
namespace Go.Proofs.Ytnbhmlflbbddcaa.Sx
open Go
set_option linter.unusedSimpArgs false
set_option linter.unusedVariables false

theorem getP_set_ne {ρ : List AV} {d r : Nat} {p : Pt} {v : AV} (h : r ≠ d) : getP (ρ.set d v) r p = getP ρ r p := by
  simp only [getP, List.getElem?_set_ne (Ne.symm h)]
theorem getP_set {ρ : List AV} {d : Nat} {p : Pt} {v : AV} (h : d < ρ.length) : getP (ρ.set d v) d p = getR v p := by
  simp only [getP, List.getElem?_set_self h, Option.bind_some]
theorem getP_some {ρ : List AV} {r : Nat} {p : Pt} {x : AV} (h : getP ρ r p = some x) : ∃ y, ρ[r]? = some y ∧ getR y p = some x ∧ ev ρ (.t r) = y := by
  simp only [getP] at h
  obtain ⟨y, h1, h2⟩ := Option.bind_eq_some_iff.1 h
  exact ⟨y, h1, h2, by simp only [ev, List.getD_eq_getElem?_getD, h1, Option.getD_some]⟩

theorem copyX_mem {σ : List Tk} {d r : Nat} {f : Pt → Option Pt} {e : Tk} (h : e ∈ copyX σ d r f) : ∃ e0 ∈ σ, e0.r = r ∧ e.r = d ∧ e.k = e0.k ∧ e.ty = e0.ty ∧ f e0.p = some e.p := by
  simp only [copyX, List.mem_filterMap] at h
  obtain ⟨e0, h1, h2⟩ := h
  split at h2
  · rename_i hr
    obtain ⟨p, hp, rfl⟩ := Option.map_eq_some_iff.1 h2
    exact ⟨e0, h1, Nat.eq_of_beq_eq_true hr, rfl, rfl, rfl, hp⟩
  · cases h2

theorem nilC_mem {d k : Nat} : ∀ {off : Nat} {cs : List AV} {e : Tk}, e ∈ nilC d k off cs → e.r = d ∧ e.ty = none ∧ ∃ j, e.p = .c (off + j) ∧ e.k = k + (off + j) ∧ cs[j]? = some .nilsl
  | off, [], e, h => by simp [nilC] at h
  | off, a :: cs, e, h => by
    have rest : e ∈ nilC d k (off + 1) cs → e.r = d ∧ e.ty = none ∧ ∃ j, e.p = .c (off + j) ∧ e.k = k + (off + j) ∧ (a :: cs)[j]? = some .nilsl := fun h => by
      obtain ⟨h1, h2, j, h3, h4, h5⟩ := nilC_mem h
      exact ⟨h1, h2, j + 1, by rw [h3]; congr 1; omega, by rw [h4]; omega, by simpa using h5⟩
    simp only [nilC] at h
    split at h
    · rename_i hn
      rcases List.mem_cons.1 h with rfl | h
      · exact ⟨rfl, rfl, 0, rfl, rfl, by rw [nilAt_eq hn]; rfl⟩
      · exact rest h
    · exact rest h

def Src (k : Nat) (σ : List Tk) (ρ : List AV) (d : Nat) (r : AV) (e : Tk) : Prop :=
  e.r = d ∧ ((∃ e0 ∈ σ, e0.k = e.k ∧ e0.ty = e.ty ∧ getR r e.p = getP ρ e0.r e0.p) ∨ (getR r e.p = some .nilsl ∧ k ≤ e.k ∧ e.ty = none))

section
variable {own : Nat → Prop} {σ : List Tk} {ρ : List AV} {M0 : MM} {lo : Nat} (hT : TInv own σ ρ M0 lo)
include hT

omit hT in
theorem cells_one {x : AV} {ty : Option (TypeId × Nat)} (h : TokIn M0 lo x ty) : x.cells = [x] := by
  rcases h with rfl | rfl | ⟨id, ds, len, t, sz, rfl, _⟩ <;> rfl

theorem cellsE_src {d k off : Nat} {x : X} {e : Tk} (h : e ∈ cellsE σ d k off x) : e.r = d ∧ ∃ j, e.p = .c (off + j) ∧ ((∃ e0 ∈ σ, e0.k = e.k ∧ e0.ty = e.ty ∧ (ev ρ x).cells[j]? = getP ρ e0.r e0.p ∧ ∃ y, getP ρ e0.r e0.p = some y) ∨ ((ev ρ x).cells[j]? = some .nilsl ∧ k ≤ e.k ∧ e.ty = none)) := by
  cases x with
  | k a =>
    simp only [cellsE] at h
    obtain ⟨h1, h2, j, h3, h4, h5⟩ := nilC_mem h
    exact ⟨h1, j, h3, .inr ⟨h5, by rw [h4]; omega, h2⟩⟩
  | t r =>
    simp only [cellsE] at h
    obtain ⟨e0, h1, rfl, h3, h4, h5, h6⟩ := copyX_mem h
    obtain ⟨y, hy, hk, _⟩ := hT.each e0 h1
    obtain ⟨z, hz1, hz2, hz3⟩ := getP_some hy
    cases hp : e0.p with
    | w =>
      rw [hp] at h6 hz2
      simp only [Option.some.injEq] at h6
      simp only [getR, Option.some.injEq] at hz2; subst hz2
      refine ⟨h3, 0, by rw [← h6]; rfl, .inl ⟨e0, h1, h4.symm, h5.symm, ?_, z, hy⟩⟩
      rw [hz3, cells_one hk, hy]; rfl
    | c j =>
      rw [hp] at h6 hz2
      simp only [Option.some.injEq] at h6
      simp only [getR] at hz2
      split at hz2
      · rename_i cs
        refine ⟨h3, j, h6.symm, .inl ⟨e0, h1, h4.symm, h5.symm, ?_, y, hy⟩⟩
        rw [hz3, hy]; exact hz2
      · cases hz2
    | t j => rw [hp] at h6; cases h6

omit hT in
theorem setAt_out {cs vs : List AV} {o j : Nat} (h : o + vs.length ≤ cs.length) (hj : j < o ∨ o + vs.length ≤ j) : (setAt cs o vs)[j]? = cs[j]? := by
  simp only [setAt]
  rcases hj with hj | hj
  · rw [List.append_assoc, List.getElem?_append_left (by simp; omega), List.getElem?_take_of_lt hj]
  · rw [List.getElem?_append_right (by simp; omega), List.getElem?_drop]
    congr 1; simp; omega
omit hT in
theorem setAt_in {cs vs : List AV} {o j : Nat} (h : o + vs.length ≤ cs.length) (hj : j < vs.length) : (setAt cs o vs)[o + j]? = vs[j]? := by
  simp only [setAt]
  rw [List.append_assoc, List.getElem?_append_right (by simp; omega)]
  have : o + j - (cs.take o).length = j := by simp; omega
  rw [this, List.getElem?_append_left hj]

def SrcC (k : Nat) (σ : List Tk) (ρ : List AV) (d : Nat) (cs : List AV) (e : Tk) : Prop :=
  e.r = d ∧ ∃ j, e.p = .c j ∧ ((∃ e0 ∈ σ, e0.k = e.k ∧ e0.ty = e.ty ∧ cs[j]? = getP ρ e0.r e0.p) ∨ (cs[j]? = some .nilsl ∧ k ≤ e.k ∧ e.ty = none))

theorem cellsE_in {d k off : Nat} {x : X} {e : Tk} {cs : List AV} (h : e ∈ cellsE σ d k off x) (hl : off + (ev ρ x).cells.length ≤ cs.length) : SrcC k σ ρ d (setAt cs off (ev ρ x).cells) e := by
  obtain ⟨h1, j, h2, h3⟩ := cellsE_src hT h
  refine ⟨h1, off + j, h2, ?_⟩
  rcases h3 with ⟨e0, g1, g2, g3, g4, y, g5⟩ | ⟨g1, g2⟩
  · have hj : j < (ev ρ x).cells.length := by
      rw [g5] at g4; exact (List.getElem?_eq_some_iff.1 g4).1
    exact .inl ⟨e0, g1, g2, g3, by rw [setAt_in hl hj, g4]⟩
  · have hj : j < (ev ρ x).cells.length := (List.getElem?_eq_some_iff.1 g1).1
    exact .inr ⟨by rw [setAt_in hl hj, g1], g2⟩

theorem fillE_src {d k : Nat} : ∀ {ps : List (Nat × Nat × X)} {acc : List Tk} {cs cs' : List AV}, (∀ e ∈ acc, SrcC k σ ρ d cs e) → fill cs (ps.map fun p => (p.1, p.2.1, ev ρ p.2.2)) = some cs' → ∀ e ∈ fillE σ d k ps acc, SrcC k σ ρ d cs' e
  | [], acc, cs, cs', ha, hf, e, he => by
    simp only [List.map_nil, fill, Option.some.injEq] at hf; subst hf
    exact ha e he
  | q :: ps, acc, cs, cs', ha, hf, e, he => by
    simp only [List.map_cons, fill] at hf
    split at hf
    · rename_i hc
      refine fillE_src (acc := _) (fun f hf' => ?_) hf e he
      rcases List.mem_append.1 hf' with hf' | hf'
      · obtain ⟨hf1, hf2⟩ := List.mem_filter.1 hf'
        obtain ⟨g1, j, g2, g3⟩ := ha f hf1
        rw [g2] at hf2
        simp only [Bool.or_eq_true, Nat.blt_eq, Nat.ble_eq] at hf2
        have e1 : (setAt cs q.1 (ev ρ q.2.2).cells)[j]? = cs[j]? := setAt_out (by omega) (by omega)
        exact ⟨g1, j, g2, by rw [e1]; exact g3⟩
      · exact cellsE_in hT hf' (by omega)
    · cases hf

omit hT in
theorem nilC_src {d k : Nat} {cs : List AV} {e : Tk} (h : e ∈ nilC d k 0 cs) : SrcC k σ ρ d cs e := by
  obtain ⟨h1, h2, j, h3, h4, h5⟩ := nilC_mem h
  exact ⟨h1, j, by rw [h3]; congr 1; omega, .inr ⟨h5, by omega, h2⟩⟩

omit hT in
theorem SrcC.src {k d : Nat} {cs : List AV} {e : Tk} (h : SrcC k σ ρ d cs e) : Src k σ ρ d (.agg cs) e := by
  obtain ⟨h1, j, h2, h3⟩ := h
  refine ⟨h1, ?_⟩
  rw [h2]
  exact h3

theorem genE_src {k d : Nat} {i : I} {e : Tk} (h : e ∈ genE k σ d i) {call : CallT} {mode : FuncId → Mode} {draw : Bool} {lim : Lm} {fresh : Nat} {M M' : MM} {r : AV} (hs : istep call mode draw lo lim fresh i ρ M = some (r, M')) : Src k σ ρ d r e := by
  cases i <;> try (simp [genE] at h; done)
  case mov x =>
    simp only [istep, Option.some.injEq, Prod.mk.injEq] at hs
    obtain ⟨rfl, rfl⟩ := hs
    cases x with
    | t q =>
      obtain ⟨e0, h1, rfl, h3, h4, h5, h6⟩ := copyX_mem h
      injection h6 with h6
      obtain ⟨y, hy, hk, _⟩ := hT.each e0 h1
      obtain ⟨z, hz1, hz2, hz3⟩ := getP_some hy
      exact ⟨h3, .inl ⟨e0, h1, h4.symm, h5.symm, by rw [hz3, ← h6, hz2, hy]⟩⟩
    | k a =>
      simp only [genE] at h
      split at h
      · rename_i hn
        simp only [List.mem_singleton] at h; subst h
        exact ⟨rfl, .inr ⟨by simp only [getR, ev, nilAt_eq hn], Nat.le_refl _, rfl⟩⟩
      · split at h
        · exact (nilC_src h).src
        · simp at h
  case mk z ps =>
    simp only [istep] at hs
    obtain ⟨cs, hf, hh⟩ := Option.map_eq_some_iff.1 hs
    simp only [Prod.mk.injEq] at hh
    obtain ⟨rfl, rfl⟩ := hh
    exact (fillE_src hT (fun f hf => nilC_src hf) hf e h).src
  case fld off n agg x =>
    cases x with
    | k a => simp [genE] at h
    | t q =>
      simp only [genE] at h
      obtain ⟨e0, h1, rfl, h3, h4, h5, h6⟩ := copyX_mem h
      obtain ⟨y, hy, hk, _⟩ := hT.each e0 h1
      obtain ⟨z, hz1, hz2, hz3⟩ := getP_some hy
      cases hp : e0.p with
      | w => rw [hp] at h6; cases h6
      | t j => rw [hp] at h6; cases h6
      | c j =>
        rw [hp] at h6 hz2
        simp only at h6
        simp only [getR] at hz2
        split at hz2
        · rename_i cs
          simp only [istep, hz3] at hs
          cases agg
          · simp only [Bool.false_eq_true, if_false] at h6 hs
            split at h6
            · rename_i hj
              injection h6 with h6
              have : j = off := Nat.eq_of_beq_eq_true hj
              subst this
              obtain ⟨w, hw, hh⟩ := Option.map_eq_some_iff.1 hs
              simp only [Prod.mk.injEq] at hh
              obtain ⟨rfl, rfl⟩ := hh
              exact ⟨h3, .inl ⟨e0, h1, h4.symm, h5.symm, by rw [← h6, hy]; simp only [getR]; rw [← hw]; exact hz2⟩⟩
            · cases h6
          · simp only [if_true] at h6 hs
            split at h6
            · rename_i hj
              simp only [Bool.and_eq_true, Nat.ble_eq, Nat.blt_eq] at hj
              injection h6 with h6
              split at hs
              · simp only [Option.some.injEq, Prod.mk.injEq] at hs
                obtain ⟨rfl, rfl⟩ := hs
                refine ⟨h3, .inl ⟨e0, h1, h4.symm, h5.symm, ?_⟩⟩
                rw [← h6, hy]
                simp only [getR]
                rw [List.getElem?_take_of_lt (by omega), List.getElem?_drop]
                have : off + (j - off) = j := by omega
                rw [this]; exact hz2
              · cases hs
            · cases h6
        · cases hz2
  case ext x j0 =>
    cases x with
    | k a => simp [genE] at h
    | t q =>
      simp only [genE] at h
      obtain ⟨e0, h1, rfl, h3, h4, h5, h6⟩ := copyX_mem h
      obtain ⟨y, hy, hk, _⟩ := hT.each e0 h1
      obtain ⟨z, hz1, hz2, hz3⟩ := getP_some hy
      cases hp : e0.p with
      | w => rw [hp] at h6; cases h6
      | c j => rw [hp] at h6; cases h6
      | t j =>
        rw [hp] at h6 hz2
        simp only at h6
        split at h6
        · rename_i hj
          injection h6 with h6
          have : j = j0 := Nat.eq_of_beq_eq_true hj
          subst this
          simp only [getR] at hz2
          split at hz2
          · rename_i cs
            simp only [istep, hz3] at hs
            obtain ⟨w, hw, hh⟩ := Option.map_eq_some_iff.1 hs
            simp only [Prod.mk.injEq] at hh
            obtain ⟨rfl, rfl⟩ := hh
            exact ⟨h3, .inl ⟨e0, h1, h4.symm, h5.symm, by rw [← h6, hy]; simp only [getR]; rw [← hw]; exact hz2⟩⟩
          · cases hz2
        · cases h6
  case lnew cs =>
    simp only [istep, Option.some.injEq, Prod.mk.injEq] at hs
    obtain ⟨rfl, rfl⟩ := hs
    exact (nilC_src h).src
  case lbox x =>
    simp only [istep] at hs
    split at hs
    · cases hs
    · simp only [Option.some.injEq, Prod.mk.injEq] at hs
      obtain ⟨rfl, rfl⟩ := hs
      obtain ⟨h1, j, h2, h3⟩ := cellsE_src hT h
      refine ⟨h1, ?_⟩
      rw [h2, Nat.zero_add]
      rcases h3 with ⟨e0, g1, g2, g3, g4, _⟩ | ⟨g1, g2⟩
      · exact .inl ⟨e0, g1, g2, g3, g4⟩
      · exact .inr ⟨g1, g2⟩
  case setc off n l x =>
    cases l with
    | k a => simp [genE] at h
    | t L =>
      simp only [istep] at hs
      split at hs
      · rename_i cs hcs
        split at hs
        · rename_i hc
          simp only [Option.some.injEq, Prod.mk.injEq] at hs
          obtain ⟨rfl, rfl⟩ := hs
          simp only [genE] at h
          rcases List.mem_append.1 h with h | h
          · obtain ⟨e0, h1, rfl, h3, h4, h5, h6⟩ := copyX_mem h
            obtain ⟨y, hy, hk, _⟩ := hT.each e0 h1
            obtain ⟨z, hz1, hz2, hz3⟩ := getP_some hy
            rw [hz3] at hcs; subst hcs
            cases hp : e0.p with
            | w => rw [hp] at h6; cases h6
            | t j => rw [hp] at h6; cases h6
            | c j =>
              rw [hp] at h6 hz2
              simp only at h6
              split at h6
              · rename_i hj
                simp only [Bool.or_eq_true, Nat.blt_eq, Nat.ble_eq] at hj
                injection h6 with h6
                refine ⟨h3, .inl ⟨e0, h1, h4.symm, h5.symm, ?_⟩⟩
                rw [← h6, hy]
                simp only [getR]
                rw [setAt_out (by omega) (by omega)]
                exact hz2
              · cases h6
          · exact (cellsE_in hT h (by omega)).src
        · cases hs
      · cases hs
end

theorem newE_mem {d k : Nat} : ∀ {j : Nat} {l : List (Pt × (TypeId × Nat))} {e : Tk}, e ∈ newE d k j l → ∃ n q, l[n]? = some q ∧ e.r = d ∧ e.p = q.1 ∧ e.k = k + (j + n) ∧ e.ty = some q.2
  | j, [], e, h => by simp [newE] at h
  | j, q :: l, e, h => by
    rcases List.mem_cons.1 h with rfl | h
    · exact ⟨0, q, rfl, rfl, rfl, rfl, rfl⟩
    · obtain ⟨n, q', h1, h2, h3, h4, h5⟩ := newE_mem h
      exact ⟨n + 1, q', by simpa using h1, h2, h3, by rw [h4]; omega, h5⟩

theorem newG_w {i : I} : ∀ q ∈ newG i, q.1 = .w := by
  intro q hq
  cases i <;> simp only [newG, List.not_mem_nil, List.mem_singleton] at hq
  all_goals (subst hq; rfl)
theorem newG_sub (S : Sig) {d k : Nat} {i : I} {e : Tk} (h : e ∈ newE d k 0 (newG i)) : e ∈ newE d k 0 (newT S i) := by
  cases i <;> simp only [newG, newE, List.not_mem_nil] at h
  all_goals exact h
theorem gen_or_new {S : Sig} {i : I} (h : newT S i ≠ []) (k : Nat) (σ : List Tk) (d : Nat) : genE k σ d i = [] := by
  cases i <;> first | rfl | (simp [newT] at h)

/-- What is known of a state. -/
structure SInv (own : Nat → Prop) (n : Nat) (σ : Sg) (ρ : List AV) (M : MM) (lo : Nat) : Prop where
  len : n ≤ ρ.length
  tok : TInv own σ.es ρ M lo
  ag : AInv σ.ag ρ

theorem want_vv (g : Option (Nat × Bool)) (ρ : List AV) : want g (vvs ρ) = want g ρ := by
  cases g with
  | none => rfl
  | some p =>
    obtain ⟨s, b⟩ := p
    simp only [want, vvs_get]
    cases ρ[s]? with
    | none => rfl
    | some x =>
      simp only [Option.map_some]
      rcases dv_cases x with ⟨v, rfl, e⟩ | ⟨rfl, e⟩ | ⟨h1, h2⟩
      · rw [e]
      · rfl
      · cases x with
        | tup cs => cases cs <;> rfl
        | d d => cases d with
          | sl => rfl
          | v v => exact absurd rfl (h1 v)
        | _ => rfl

theorem setO_vv (ρ : List AV) (d : Option Nat) (v : AV) : vvs (setO ρ d v) = setO (vvs ρ) d (vv v) := by
  cases d with
  | none => rfl
  | some d => exact vvs_set ρ d v

theorem useI_sub {S : Sig} {own : Nat → Prop} {σ σ' : List Tk} {ρ : List AV} {M : MM} {lo : Nat} {i : I} (h : useI S σ i = some σ') (hT : TInv own σ ρ M lo) : ∀ e ∈ σ', e ∈ σ := by
  cases i <;> simp only [useI, Option.some.injEq] at h
  case vapp => exact (useX_ok h hT).1
  case vext => exact (useX_ok h hT).1
  case call => exact (useArgs_ok h hT).1
  case callk => exact (useArgs_ok h hT).1
  all_goals (subst h; exact fun _ h => h)

theorem TokIn.fr {used : Nat → Prop} {fresh : Nat} {M M' : MM} (hf : Fr used fresh M M') {lo : Nat} {x : AV} {ty : Option (TypeId × Nat)} (h : TokIn M lo x ty) (hn : ∀ id, idV x = some id → ¬ used id) : TokIn M' lo x ty := by
  rcases h with rfl | rfl | ⟨id, ds, len, t, sz, rfl, h1, h2, h3⟩
  · exact .inl rfl
  · exact .inr (.inl rfl)
  · exact .inr (.inr ⟨id, ds, len, t, sz, rfl, h1, h2, hf.tok id _ _ (hn id rfl) h3⟩)

theorem TokIn.mem {M : MM} {lo : Nat} {x : AV} {ty : Option (TypeId × Nat)} (h : TokIn M lo x ty) {id : Nat} (hid : idV x = some id) : ∃ t u, M.mem id = some (.tok t u) := by
  rcases h with rfl | rfl | ⟨id', ds, len, t, sz, rfl, h1, h2, h3⟩
  · simp [idV] at hid
  · simp [idV] at hid
  · simp only [idV, Option.some.injEq] at hid; subst hid; exact ⟨_, _, h3⟩

theorem AInv.set {ag : List Nat} {ρ : List AV} (h : AInv ag ρ) (d : Nat) (v : AV) : AInv (ag.filter fun L => !(Nat.beq L d)) (ρ.set d v) := by
  intro L hL
  obtain ⟨h1, h2⟩ := List.mem_filter.1 hL
  have hne : L ≠ d := fun e => by subst e; have : Nat.beq L L = true := by rw [Nat.beq_eq]
                                  rw [this] at h2; cases h2
  rw [List.getElem?_set_ne (Ne.symm hne)]
  exact h L h1

theorem AInv.set_ag {ag : List Nat} {ρ : List AV} (h : AInv ag ρ) {d : Nat} (hd : d < ρ.length) {v : AV} (hv : AgOK v) : AInv (d :: ag) (ρ.set d v) := by
  intro L hL
  by_cases e : L = d
  · subst e; exact ⟨v, List.getElem?_set_self hd, hv⟩
  · rw [List.getElem?_set_ne (Ne.symm e)]
    exact h L ((List.mem_cons.1 hL).resolve_left e)

theorem aggI_ok {i : I} (h : aggI i = true) {call : CallT} {mode : FuncId → Mode} {draw : Bool} {lo : Nat} {lim : Lm} {fresh : Nat} {ρ : List AV} {M M' : MM} {r : AV} (hs : istep call mode draw lo lim fresh i ρ M = some (r, M')) : AgOK r := by
  cases i <;> simp only [aggI, Bool.false_eq_true] at h
  case mov x =>
    simp only [istep, Option.some.injEq, Prod.mk.injEq] at hs
    obtain ⟨rfl, rfl⟩ := hs
    cases x with
    | t q => simp at h
    | k a =>
      cases a with
      | tup cs =>
        cases cs with
        | nil => exact .inr rfl
        | cons => simp at h
      | _ => simp at h
  case lnew cs =>
    simp only [istep, Option.some.injEq, Prod.mk.injEq] at hs
    obtain ⟨rfl, rfl⟩ := hs; exact .inl ⟨_, rfl⟩
  case lbox x =>
    simp only [istep] at hs
    split at hs
    · cases hs
    · simp only [Option.some.injEq, Prod.mk.injEq] at hs
      obtain ⟨rfl, rfl⟩ := hs; exact .inl ⟨_, rfl⟩
  case setc o n l x =>
    simp only [istep] at hs
    split at hs
    · split at hs
      · simp only [Option.some.injEq, Prod.mk.injEq] at hs
        obtain ⟨rfl, rfl⟩ := hs; exact .inl ⟨_, rfl⟩
      · cases hs
    · cases hs

section
variable {c1 c2 : CallT} {S : Sig} (hc : CSV S c1 c2) {mode : FuncId → Mode} (hS : SigOK S mode) {draw : Bool} {lo : Nat} {lim : Lm} {fresh n : Nat} {own : Nat → Prop}

theorem killE_inv {σ : List Tk} {ρ : List AV} {M M' : MM} {d : Nat} {v : AV} {used : Nat → Prop} (hT : TInv own σ ρ M lo) (hf : Fr used fresh M M') (hu : ∀ id, used id → ∀ e ∈ σ, ∀ y, getP ρ e.r e.p = some y → idV y ≠ some id) : TInv own (killE d σ) (ρ.set d v) M' lo := by
  have mem : ∀ e ∈ killE d σ, e ∈ σ ∧ getP (ρ.set d v) e.r e.p = getP ρ e.r e.p := fun e he => by
    obtain ⟨h1, h2⟩ := List.mem_filter.1 he
    refine ⟨h1, getP_set_ne fun h => ?_⟩
    rw [h] at h2
    have : Nat.beq d d = true := by rw [Nat.beq_eq]
    rw [this] at h2; cases h2
  refine ⟨fun e he => ?_, fun e he f hf' hk => ?_, fun e he f hf' hk x y id hx hy hid => ?_⟩
  · obtain ⟨h1, h2⟩ := mem e he
    obtain ⟨x, g1, g2, g3⟩ := hT.each e h1
    exact ⟨x, by rw [h2]; exact g1, g2.fr hf (fun id hid hus => hu id hus e h1 x g1 hid), g3⟩
  · rw [(mem e he).2, (mem f hf').2]; exact hT.same e (mem e he).1 f (mem f hf').1 hk
  · rw [(mem e he).2] at hx; rw [(mem f hf').2] at hy
    exact hT.diff e (mem e he).1 f (mem f hf').1 hk x y id hx hy hid

theorem keep_inv {σ : List Tk} {ρ : List AV} {M M' : MM} {used : Nat → Prop} (hT : TInv own σ ρ M lo) (hf : Fr used fresh M M') (hu : ∀ id, used id → ∀ e ∈ σ, ∀ y, getP ρ e.r e.p = some y → idV y ≠ some id) : TInv own σ ρ M' lo :=
  ⟨fun e he => by
    obtain ⟨x, g1, g2, g3⟩ := hT.each e he
    exact ⟨x, g1, g2.fr hf (fun id hid hus => hu id hus e he x g1 hid), g3⟩, hT.same, hT.diff⟩

include hc hS in
/-- One operation. -/
theorem step1_v {σ σ' : Sg} {o : Op1} {s : St} {s2 : St} (hV : step1 c2 mode draw lo lim fresh (vOp S.no o) ⟨vvs s.ρ, vm s.M⟩ = some s2) (hk : chkOp S n σ o = some σ') (hI : SInv own n σ s.ρ s.M lo) (hlo : lo ≤ s.M.nx) (hwf : WF s.M) (hfr : s.M.mem fresh = none)
    (hlof : lo ≤ fresh) (hown : ∀ id, s.M.nx ≤ id → own id) (hownf : own fresh) (hL : lim.b + lim.n ≤ s.M.nx)
    (hlm : ∀ es, useI S σ.es o.i = some es → ∀ e ∈ σ.es, (∀ f ∈ es, f.k ≠ e.k) → ∀ x id, getP s.ρ e.r e.p = some x → idV x = some id → lim.ok id = true) :
    ∃ s', step1 c1 mode draw lo lim fresh o s = some s' ∧ vvs s'.ρ = s2.ρ ∧ vm s'.M = s2.M ∧ SInv own n σ' s'.ρ s'.M lo ∧ Fr own fresh s.M s'.M ∧
      (∀ e ∈ σ'.es, ∀ x id, getP s'.ρ e.r e.p = some x → idV x = some id → (∃ e0 ∈ σ.es, e0.k = e.k ∧ getP s.ρ e0.r e0.p = some x) ∨
        (top σ.es ≤ e.k ∧ e.k < top σ.es + (newT S o.i).length ∧ (s.M.nx ≤ id ∨ id = fresh ∨ lim.ok id = true))) := by
  obtain ⟨ρ, M⟩ := s
  simp only at hI hlo hwf hfr hown hV hL hlm
  unfold chkOp at hk
  split at hk
  · cases hk
  · rename_i es hu
    have hsub := useI_sub hu hI.tok
    have hT0 := useX_sub hsub hI.tok
    have killOld : ∀ (d : Nat) (v : AV), ∀ e ∈ killE d es, ∀ x id, getP (ρ.set d v) e.r e.p = some x → idV x = some id → ∃ e0 ∈ σ.es, e0.k = e.k ∧ getP ρ e0.r e0.p = some x := fun d v e he x id hx _ => by
      obtain ⟨h1, h2⟩ := List.mem_filter.1 he
      refine ⟨e, hsub e h1, rfl, ?_⟩
      rw [← hx]
      refine (getP_set_ne fun h => ?_).symm
      rw [h] at h2
      have : Nat.beq d d = true := by rw [Nat.beq_eq]
      rw [this] at h2; cases h2
    split at hk
    · rename_i hroots
      unfold step1 at hV ⊢
      simp only [vOp, want_vv] at hV
      split at hV
      · cases hV
      · -- not carried out
        rename_i hw
        simp only [Option.some.injEq] at hV; subst hV
        suffices hh : SInv own n σ' (setO ρ o.dst .undef) M lo ∧ (∀ e ∈ σ'.es, ∀ x id, getP (setO ρ o.dst .undef) e.r e.p = some x → idV x = some id → ∃ e0 ∈ σ.es, e0.k = e.k ∧ getP ρ e0.r e0.p = some x) from
          ⟨⟨setO ρ o.dst .undef, M⟩, by rw [hw], by simp only [setO_vv]; rfl, rfl, hh.1, .refl hwf, fun e he x id hx hid => .inl (hh.2 e he x id hx hid)⟩
        cases hd : o.dst with
        | none =>
          rw [hd] at hk
          simp only [Option.some.injEq] at hk; subst hk
          exact ⟨⟨hI.len, hT0, hI.ag⟩, fun e he x id hx _ => ⟨e, hsub e he, rfl, hx⟩⟩
        | some d =>
          rw [hd] at hk
          simp only at hk
          split at hk
          · cases hg : o.g with
            | none => rw [hg] at hw; cases hw
            | some g =>
              rw [hg] at hk
              simp only [Option.some.injEq] at hk; subst hk
              have hdl : d < ρ.length := by have h1 : d < n := by simpa using ‹Nat.blt d n = true›
                                            have := hI.len; omega
              have hTk : TInv own (killE d es) (ρ.set d .undef) M lo := killE_inv (used := fun _ => False) hT0 (.refl (fresh := 0) hwf) (fun _ h => h.elim)
              have hnew : ∀ e ∈ newE d (top σ.es) 0 (newG o.i), getP (ρ.set d .undef) e.r e.p = some .undef ∧ top σ.es ≤ e.k := fun e he => by
                obtain ⟨j, q, h1, h2, h3, h4, h5⟩ := newE_mem he
                have hq : q.1 = .w := newG_w q (List.mem_of_getElem? h1)
                rw [h2, h3, hq, getP_set hdl]
                exact ⟨rfl, by omega⟩
              refine ⟨⟨by simp only [setO, List.length_set]; exact hI.len, ⟨fun e he => ?_, fun e he f hf hkk => ?_, fun e he f hf hkk x y id hx hy hid => ?_⟩, hI.ag.set d .undef⟩, fun e he x id hx hid => ?_⟩
              · rcases List.mem_append.1 he with he | he
                · exact hTk.each e he
                · exact ⟨.undef, (hnew e he).1, .inr (.inl rfl), fun id h => by simp [idV] at h⟩
              · have small : ∀ e0 ∈ killE d es, e0.k < top σ.es := fun e0 h => top_gt (hsub e0 (List.mem_filter.1 h).1)
                rcases List.mem_append.1 he with he | he <;> rcases List.mem_append.1 hf with hf | hf
                · exact hTk.same e he f hf hkk
                · have h1 := small e he; have h2 := (hnew f hf).2; omega
                · have h1 := small f hf; have h2 := (hnew e he).2; omega
                · show getP (ρ.set d .undef) e.r e.p = getP (ρ.set d .undef) f.r f.p
                  rw [(hnew e he).1, (hnew f hf).1]
              · simp only [setO] at hx hy
                rcases List.mem_append.1 he with he | he
                · rcases List.mem_append.1 hf with hf | hf
                  · exact hTk.diff e he f hf hkk x y id hx hy hid
                  · rw [(hnew f hf).1] at hy; injection hy with hy; subst hy; simp [idV]
                · rw [(hnew e he).1] at hx; injection hx with hx; subst hx; simp [idV] at hid
              · rcases List.mem_append.1 he with he | he
                · exact killOld d .undef e he x id hx hid
                · rw [show getP (setO ρ (some d) .undef) e.r e.p = some .undef from (hnew e he).1] at hx; injection hx with hx; subst hx; simp [idV] at hid
          · cases hk
      · rename_i hw
        cases hi : istep c2 mode draw lo lim fresh (vI S.no o.i) (vvs ρ) (vm M) with
        | none => rw [hi] at hV; cases hV
        | some p =>
          obtain ⟨rv, V'⟩ := p
          rw [hi] at hV
          simp only [Option.some.injEq] at hV; subst hV
          obtain ⟨r, M', used, q1, rfl, rfl, q4, q5, q6⟩ := istep_v hc hS hi hlo hwf hfr hlof hI.tok hI.ag hu hroots hown hownf hL (hlm es hu)
          suffices hh : SInv own n σ' (setO ρ o.dst r) M' lo ∧ (∀ e ∈ σ'.es, ∀ x id, getP (setO ρ o.dst r) e.r e.p = some x → idV x = some id → (∃ e0 ∈ σ.es, e0.k = e.k ∧ getP ρ e0.r e0.p = some x) ∨
              (top σ.es ≤ e.k ∧ e.k < top σ.es + (newT S o.i).length ∧ (M.nx ≤ id ∨ id = fresh ∨ lim.ok id = true))) from
            ⟨⟨setO ρ o.dst r, M'⟩, by rw [hw]; simp only [q1], by simp only [setO_vv], rfl, hh.1, q4.mono (fun id h => (q5 id h).1) (.inr rfl), hh.2⟩
          have hT1 : TInv own es ρ M' lo := keep_inv hT0 q4 (fun id h => (q5 id h).2)
          cases hd : o.dst with
          | none =>
            rw [hd] at hk
            simp only [Option.some.injEq] at hk; subst hk
            exact ⟨⟨hI.len, hT1, hI.ag⟩, fun e he x id hx _ => .inl ⟨e, hsub e he, rfl, hx⟩⟩
          | some d =>
            rw [hd] at hk
            simp only at hk
            split at hk
            · rename_i hdn
              have hdl : d < ρ.length := by have h1 : d < n := by simpa using hdn
                                            have := hI.len; omega
              have main : SInv own n ⟨killE d es ++ genE (top σ.es) es d o.i ++ newE d (top σ.es) 0 (newT S o.i), if aggI o.i then d :: σ.ag else σ.ag.filter (fun L => !(Nat.beq L d))⟩ (setO ρ (some d) r) M' lo ∧
                  (∀ e ∈ killE d es ++ genE (top σ.es) es d o.i ++ newE d (top σ.es) 0 (newT S o.i), ∀ x id, getP (setO ρ (some d) r) e.r e.p = some x → idV x = some id → (∃ e0 ∈ σ.es, e0.k = e.k ∧ getP ρ e0.r e0.p = some x) ∨
                    (top σ.es ≤ e.k ∧ e.k < top σ.es + (newT S o.i).length ∧ (M.nx ≤ id ∨ id = fresh ∨ lim.ok id = true))) := by
                have kind : ∀ e ∈ killE d es ++ genE (top σ.es) es d o.i ++ newE d (top σ.es) 0 (newT S o.i),
                    (∃ e0 ∈ es, e0.k = e.k ∧ e0.ty = e.ty ∧ getP (ρ.set d r) e.r e.p = getP ρ e0.r e0.p) ∨ (getP (ρ.set d r) e.r e.p = some .nilsl ∧ top σ.es ≤ e.k ∧ newT S o.i = []) ∨
                    (∃ j q, (newT S o.i)[j]? = some q ∧ e.k = top σ.es + j ∧ e.ty = some q.2 ∧ getP (ρ.set d r) e.r e.p = getR r q.1) := by
                  intro e he
                  rcases List.mem_append.1 he with he | he
                  · rcases List.mem_append.1 he with he | he
                    · obtain ⟨h1, h2⟩ := List.mem_filter.1 he
                      refine .inl ⟨e, h1, rfl, rfl, getP_set_ne fun h => ?_⟩
                      rw [h] at h2
                      have : Nat.beq d d = true := by rw [Nat.beq_eq]
                      rw [this] at h2; cases h2
                    · obtain ⟨h1, h2⟩ := genE_src hT0 he q1
                      rw [h1, getP_set hdl]
                      rcases h2 with ⟨e0, g1, g2, g3, g4⟩ | ⟨g1, g2, g3⟩
                      · exact .inl ⟨e0, g1, g2, g3, g4⟩
                      · refine .inr (.inl ⟨g1, g2, ?_⟩)
                        by_cases hn : newT S o.i = []
                        · exact hn
                        · rw [gen_or_new hn] at he; simp at he
                  · obtain ⟨j, q, h1, h2, h3, h4, h5⟩ := newE_mem he
                    exact .inr (.inr ⟨j, q, h1, by rw [h4]; omega, h5, by rw [h2, h3, getP_set hdl]⟩)
                refine ⟨⟨by simp only [setO, List.length_set]; exact hI.len, ?_, ?_⟩, fun e he x id hx hid => ?_⟩
                rotate_left 2
                · simp only [setO] at hx
                  rcases kind e he with ⟨e0, g1, g2, g3, g4⟩ | ⟨g1, g2, g3⟩ | ⟨j, q, g1, g2, g3, g4⟩
                  · exact .inl ⟨e0, hsub e0 g1, g2, by rw [← g4]; exact hx⟩
                  · rw [g1] at hx; injection hx with hx; subst hx; simp [idV] at hid
                  · refine .inr ⟨by omega, by have := (List.getElem?_eq_some_iff.1 g1).1; omega, ?_⟩
                    obtain ⟨x', k1, k2, k3⟩ := q6.each q (List.mem_of_getElem? g1)
                    rw [g4, k1] at hx; injection hx with hx; subst hx
                    rcases (k3 id hid).2 with h | h | h
                    · exact .inl h
                    · exact .inr (.inl h)
                    · exact .inr (.inr h.2)
                · simp only [setO]
                  have small : ∀ e0 ∈ es, e0.k < top σ.es := fun e0 h => top_gt (hsub e0 h)
                  have idOld : ∀ e0 ∈ es, ∀ x id, getP ρ e0.r e0.p = some x → idV x = some id → id < M.nx ∧ id ≠ fresh ∧ ¬ used id := fun e0 h x id hx hid => by
                    obtain ⟨x', g1, g2, g3⟩ := hT0.each e0 h
                    rw [hx] at g1; injection g1 with g1; subst g1
                    obtain ⟨t, u, hm⟩ := g2.mem hid
                    exact ⟨hwf id (by rw [hm]; simp), fun e => (by rw [e, hfr] at hm; cases hm), fun hus => (q5 id hus).2 e0 h x hx hid⟩
                  have newId : ∀ (j : Nat) (q : Pt × (TypeId × Nat)), (newT S o.i)[j]? = some q → ∀ x id, getR r q.1 = some x → idV x = some id → own id ∧ (M.nx ≤ id ∨ id = fresh ∨ used id) := fun j q hq x id hx hid => by
                    obtain ⟨x', g1, g2, g3⟩ := q6.each q (List.mem_of_getElem? hq)
                    rw [hx] at g1; injection g1 with g1; subst g1
                    exact ⟨(g3 id hid).1, (g3 id hid).2.imp (fun h => h) (fun h => h.imp (fun h => h) (fun h => h.1))⟩
                  refine ⟨fun e he => ?_, fun e he f hf hkk => ?_, fun e he f hf hkk x y id hx hy hid => ?_⟩
                  · rcases kind e he with ⟨e0, g1, g2, g3, g4⟩ | ⟨g1, g2, g3⟩ | ⟨j, q, g1, g2, g3, g4⟩
                    · obtain ⟨x, k1, k2, k3⟩ := hT1.each e0 g1
                      exact ⟨x, by rw [g4]; exact k1, by rw [← g3]; exact k2, k3⟩
                    · exact ⟨_, g1, .inl rfl, fun id h => by simp [idV] at h⟩
                    · obtain ⟨x, k1, k2, k3⟩ := q6.each q (List.mem_of_getElem? g1)
                      exact ⟨x, by rw [g4]; exact k1, by rw [g3]; exact k2, fun id h => (k3 id h).1⟩
                  · rcases kind e he with ⟨e0, g1, g2, g3, g4⟩ | ⟨g1, g2, g3⟩ | ⟨j, q, g1, g2, g3, g4⟩ <;> rcases kind f hf with ⟨e0', g1', g2', g3', g4'⟩ | ⟨g1', g2', g3'⟩ | ⟨j', q', g1', g2', g3', g4'⟩
                    · rw [g4, g4']; exact hT0.same e0 g1 e0' g1' (by rw [g2, g2', hkk])
                    · have := small e0 g1; omega
                    · have := small e0 g1; omega
                    · have := small e0' g1'; omega
                    · rw [g1, g1']
                    · rw [g3] at g1'; simp at g1'
                    · have := small e0' g1'; omega
                    · rw [g3'] at g1; simp at g1
                    · have : j = j' := by omega
                      subst this; rw [g1] at g1'; injection g1' with g1'; subst g1'
                      rw [g4, g4']
                  · rcases kind e he with ⟨e0, g1, g2, g3, g4⟩ | ⟨g1, g2, g3⟩ | ⟨j, q, g1, g2, g3, g4⟩ <;> rcases kind f hf with ⟨e0', g1', g2', g3', g4'⟩ | ⟨g1', g2', g3'⟩ | ⟨j', q', g1', g2', g3', g4'⟩
                    · rw [g4] at hx; rw [g4'] at hy
                      exact hT0.diff e0 g1 e0' g1' (by rw [g2, g2']; exact hkk) x y id hx hy hid
                    · rw [g1'] at hy; injection hy with hy; subst hy; simp [idV]
                    · rw [g4] at hx; rw [g4'] at hy
                      intro hidy
                      have h1 := idOld e0 g1 x id hx hid
                      have h2 := (newId j' q' g1' y id hy hidy).2
                      rcases h2 with h2 | h2 | h2
                      · omega
                      · exact h1.2.1 h2
                      · exact h1.2.2 h2
                    · rw [g1] at hx; injection hx with hx; subst hx; simp [idV] at hid
                    · rw [g1] at hx; injection hx with hx; subst hx; simp [idV] at hid
                    · rw [g1] at hx; injection hx with hx; subst hx; simp [idV] at hid
                    · rw [g4] at hx; rw [g4'] at hy
                      intro hidy
                      have h1 := idOld e0' g1' y id hy hidy
                      have h2 := (newId j q g1 x id hx hid).2
                      rcases h2 with h2 | h2 | h2
                      · omega
                      · exact h1.2.1 h2
                      · exact h1.2.2 h2
                    · rw [g1'] at hy; injection hy with hy; subst hy; simp [idV]
                    · rw [g4] at hx; rw [g4'] at hy
                      have hjj : j ≠ j' := fun e => hkk (by omega)
                      have hp := List.pairwise_iff_getElem.1 q6.diff
                      obtain ⟨hj1, hj2⟩ := List.getElem?_eq_some_iff.1 g1
                      obtain ⟨hj1', hj2'⟩ := List.getElem?_eq_some_iff.1 g1'
                      by_cases hlt : j < j'
                      · exact hp j j' hj1 hj1' hlt x y id (by rw [hj2]; exact hx) (by rw [hj2']; exact hy) hid
                      · intro hidy
                        exact hp j' j hj1' hj1 (by omega) y x id (by rw [hj2']; exact hy) (by rw [hj2]; exact hx) hidy hid
                · simp only [setO]
                  split
                  · rename_i hag; exact hI.ag.set_ag hdl (aggI_ok hag q1)
                  · exact hI.ag.set d r
              cases hg : o.g with
              | some g =>
                rw [hg] at hk
                simp only [Option.some.injEq] at hk; subst hk
                have hin : ∀ e ∈ killE d es ++ newE d (top σ.es) 0 (newG o.i), e ∈ killE d es ++ genE (top σ.es) es d o.i ++ newE d (top σ.es) 0 (newT S o.i) := fun e he => by
                  rcases List.mem_append.1 he with he | he
                  · exact List.mem_append.2 (.inl (List.mem_append.2 (.inl he)))
                  · exact List.mem_append.2 (.inr (newG_sub S he))
                exact ⟨⟨main.1.len, useX_sub hin main.1.tok, hI.ag.set d r⟩, fun e he x id hx hid => main.2 e (hin e he) x id hx hid⟩
              | none =>
                rw [hg] at hk
                simp only [Option.some.injEq] at hk; subst hk
                exact main
            · cases hk
    · cases hk

structure FrE (own : Nat → Prop) (M M' : MM) : Prop where
  nx : M.nx ≤ M'.nx
  wf : WF M'
  tok : ∀ id t u, ¬ own id → M.mem id = some (.tok t u) → M'.mem id = some (.tok t u)
  keep : ∀ id, id < M.nx → M.mem id = none → M'.mem id = none
  kv : ∀ id, id < M.nx → vmem M.mem id = none → vmem M'.mem id = none

theorem FrE.refl {M : MM} (h : WF M) : FrE own M M := ⟨Nat.le_refl _, h, fun _ _ _ _ h => h, fun _ _ h => h, fun _ _ h => h⟩
theorem FrE.trans {M M1 M2 : MM} (h : FrE own M M1) (k : FrE own M1 M2) : FrE own M M2 :=
  ⟨Nat.le_trans h.nx k.nx, k.wf, fun id t u hn hm => k.tok id t u hn (h.tok id t u hn hm), fun id hl hm => k.keep id (Nat.lt_of_lt_of_le hl h.nx) (h.keep id hl hm), fun id hl hm => k.kv id (Nat.lt_of_lt_of_le hl h.nx) (h.kv id hl hm)⟩
theorem Fr.toE {M M' : MM} {fresh : Nat} (h : Fr own fresh M M') (hf : M.nx ≤ fresh) : FrE own M M' :=
  ⟨h.nx, h.wf, h.tok, fun id hl hm => h.keep id hl (by omega) hm, fun id hl hm => h.kv id hl (by omega) hm⟩

theorem WF.nx {M : MM} (h : WF M) : M.mem M.nx = none := by
  cases hm : M.mem M.nx with
  | none => rfl
  | some b => have := h M.nx (by rw [hm]; simp); omega

include hc hS in
theorem regN_v : ∀ {ops : List Op1} {σ σ' : Sg} {s s2 : St}, chkOps S n σ ops = some σ' → SInv own n σ s.ρ s.M lo → WF s.M → lo ≤ s.M.nx → (∀ id, s.M.nx ≤ id → own id) → regN c2 mode lo (ops.map (vOp S.no)) ⟨vvs s.ρ, vm s.M⟩ = some s2 →
    ∃ s', regN c1 mode lo ops s = some s' ∧ vvs s'.ρ = s2.ρ ∧ vm s'.M = s2.M ∧ SInv own n σ' s'.ρ s'.M lo ∧ FrE own s.M s'.M
  | [], σ, σ', s, s2, hk, hI, hwf, hlo, hown, hr => by
    simp only [chkOps, Option.some.injEq] at hk; subst hk
    simp only [List.map_nil, regN, Option.some.injEq] at hr; subst hr
    exact ⟨s, rfl, rfl, rfl, hI, .refl hwf⟩
  | o :: ops, σ, σ', s, s2, hk, hI, hwf, hlo, hown, hr => by
    simp only [chkOps] at hk
    split at hk
    · rename_i σ1 hk1
      simp only [List.map_cons, regN] at hr ⊢
      split at hr
      · rename_i t2 hst
        obtain ⟨t1, q1, q2, q3, q4, q5, _⟩ := step1_v hc hS hst hk1 hI hlo hwf hwf.nx hlo hown (hown _ (Nat.le_refl _)) (Nat.le_refl _) (fun es _ e he _ x id hx hid => by
          obtain ⟨x', g1, g2, g3⟩ := hI.tok.each e he
          rw [hx] at g1; injection g1 with g1; subst g1
          obtain ⟨t, u, hm⟩ := g2.mem hid
          exact ok_top.2 (hwf id (by rw [hm]; simp)))
        rw [show step1 c1 mode false lo (.top s.M.nx) s.M.nx o s = some t1 from q1]
        have e : t2 = ⟨vvs t1.ρ, vm t1.M⟩ := by rw [q2, q3]
        rw [e] at hr
        have q6 := q5.toE (Nat.le_refl _)
        obtain ⟨s', r1, r2, r3, r4, r5⟩ := regN_v hk q4 q6.wf (Nat.le_trans hlo q6.nx) (fun id h => hown id (Nat.le_trans q6.nx h)) hr
        exact ⟨s', r1, r2, r3, r4, q6.trans r5⟩
      · cases hr
    · cases hk

def Born (bs : List (Nat × Nat)) (base N : Nat) (σ : List Tk) (ρ : List AV) : Prop := ∀ e ∈ σ, ∀ x id, getP ρ e.r e.p = some x → idV x = some id →
  match bornOf bs e.k with
  | none => id < base
  | some m => (⟨base, N, m, true⟩ : Lm).ok id = true

theorem bornOf_new {m k k' : Nat} {bs : List (Nat × Nat)} : ∀ n, bornOf (newB m k n bs) k' = if k ≤ k' ∧ k' < k + n then some m else bornOf bs k'
  | 0 => by rw [if_neg (by omega)]; rfl
  | n + 1 => by
    simp only [newB, bornOf]
    split
    · rename_i h
      have : k + n = k' := Nat.eq_of_beq_eq_true h
      rw [if_pos (by omega)]
    · rename_i h
      have hne : k + n ≠ k' := fun e => h (by rw [e, Nat.beq_eq])
      rw [bornOf_new n]
      by_cases h1 : k ≤ k' ∧ k' < k + n
      · rw [if_pos h1, if_pos (by omega)]
      · rw [if_neg h1, if_neg (by omega)]

theorem lm_mono {base N m m' id : Nat} {w : Bool} (hm : m &&& m' = m) (h : (⟨base, N, m, w⟩ : Lm).ok id = true) : (⟨base, N, m', true⟩ : Lm).ok id = true := by
  simp only [Lm.ok, Bool.or_eq_true, Bool.and_eq_true] at h ⊢
  rcases h with (h | ⟨h1, h2⟩) | ⟨h1, h2⟩
  · exact .inl (.inl h)
  · refine .inl (.inr ⟨h1, ?_⟩)
    rw [← hm, Nat.testBit_and] at h2
    exact (Bool.and_eq_true _ _ ▸ h2).2
  · exact .inr ⟨trivial, h2⟩

include hc hS in
theorem regD_v {base N : Nat} (hlb : lo ≤ base) (hob : ∀ id, base ≤ id → own id) : ∀ {ops : List Op1} {i : Nat} {σ σ' : Sg} {bs : List (Nat × Nat)} {s s2 : St}, chkOpsD S n σ bs i ops = some σ' → SInv own n σ s.ρ s.M lo → Born bs base N σ.es s.ρ → WF s.M → i + ops.length = N → base + N ≤ s.M.nx →
    (∀ j, i ≤ j → j < N → s.M.mem (base + j) = none) → regD c2 mode lo base N (ops.map (vOp S.no)) i ⟨vvs s.ρ, vm s.M⟩ = some s2 →
    ∃ s', regD c1 mode lo base N ops i s = some s' ∧ vvs s'.ρ = s2.ρ ∧ vm s'.M = s2.M ∧ SInv own n σ' s'.ρ s'.M lo ∧ s.M.nx ≤ s'.M.nx ∧ WF s'.M ∧ (∀ id t u, ¬ own id → s.M.mem id = some (.tok t u) → s'.M.mem id = some (.tok t u)) ∧ (∀ id, id < base → s.M.mem id = none → s'.M.mem id = none) ∧
      (∀ id, id < base → vmem s.M.mem id = none → vmem s'.M.mem id = none)
  | [], i, σ, σ', bs, s, s2, hk, hI, hB, hwf, hi, hN, hfree, hr => by
    simp only [chkOpsD, Option.some.injEq] at hk; subst hk
    simp only [List.map_nil, regD, Option.some.injEq] at hr; subst hr
    exact ⟨s, rfl, rfl, rfl, hI, Nat.le_refl _, hwf, fun _ _ _ _ h => h, fun _ _ h => h, fun _ _ h => h⟩
  | o :: ops, i, σ, σ', bs, s, s2, hk, hI, hB, hwf, hi, hN, hfree, hr => by
    simp only [List.length_cons] at hi
    simp only [chkOpsD] at hk
    split at hk
    · rename_i huse
      split at hk
      · rename_i σ1 hk1
        simp only [List.map_cons, regD] at hr ⊢
        split at hr
        · rename_i t2 hst
          obtain ⟨t1, q1, q2, q3, q4, q5, q6⟩ := step1_v (lim := ⟨base, N, o.m, o.w⟩) hc hS hst hk1 hI (by omega) hwf (hfree i (Nat.le_refl _) (by omega)) (by omega) (fun id h => hob id (by omega)) (hob _ (by omega)) hN (fun es hes e he hno x id hx hid => by
            simp only [usesOK, hes] at huse
            have h1 := List.all_eq_true.1 huse e he
            simp only [Bool.or_eq_true] at h1
            rcases h1 with h1 | h1
            · obtain ⟨f, hf, hfk⟩ := List.any_eq_true.1 h1
              exact absurd (Nat.eq_of_beq_eq_true hfk) (hno f hf)
            · have h2 := hB e he x id hx hid
              unfold bornOK at h1
              split at h1
              · rename_i hb
                rw [hb] at h2
                exact ok_lt h2
              · rename_i m hb
                rw [hb] at h2
                simp only [Bool.and_eq_true] at h1
                have := lm_mono (Nat.eq_of_beq_eq_true h1.2) h2
                rw [h1.1]; exact this)
          rw [show step1 c1 mode true lo ⟨base, N, o.m, o.w⟩ (base + i) o s = some t1 from q1]
          have e : t2 = ⟨vvs t1.ρ, vm t1.M⟩ := by rw [q2, q3]
          rw [e] at hr
          have hB1 : Born (newB (o.m ||| 2 ^ i) (top σ.es) (newT S o.i).length bs) base N σ1.es t1.ρ := fun e he x id hx hid => by
            rw [bornOf_new]
            rcases q6 e he x id hx hid with ⟨e0, g1, g2, g3⟩ | ⟨g1, g2, g3⟩
            · have hlt := top_gt g1
              rw [if_neg (by omega), ← g2]
              exact hB e0 g1 x id g3 hid
            · rw [if_pos ⟨g1, g2⟩]
              show (⟨base, N, o.m ||| 2 ^ i, true⟩ : Lm).ok id = true
              rcases g3 with g3 | g3 | g3
              · have : Nat.ble (base + N) id = true := by rw [Nat.ble_eq]; omega
                simp only [Lm.ok, this, Bool.and_self, Bool.or_true]
              · subst g3
                have h1 : Nat.blt (base + i) (base + N) = true := by rw [Nat.blt_eq]; omega
                have h2 : base + i - base = i := by omega
                simp only [Lm.ok, h1, h2, Nat.testBit_or, Nat.testBit_two_pow_self, Bool.or_true, Bool.and_self, Bool.true_or]
              · refine lm_mono (m := o.m) (w := o.w) ?_ g3
                refine Nat.eq_of_testBit_eq fun j => ?_
                rw [Nat.testBit_and, Nat.testBit_or]
                cases o.m.testBit j <;> simp
          obtain ⟨s', r1, r2, r3, r4, r5, r6, r7, r8, r9⟩ := regD_v hlb hob hk q4 hB1 q5.wf (by omega) (Nat.le_trans hN q5.nx) (fun j hj hjN => q5.keep _ (by omega) (by omega) (hfree j (by omega) hjN)) hr
          exact ⟨s', r1, r2, r3, r4, Nat.le_trans q5.nx r5, r6, fun id t u hn hm => r7 id t u hn (q5.tok id t u hn hm), fun id hl hm => r8 id hl (q5.keep id (by omega) (by omega) hm), fun id hl hm => r9 id hl (q5.kv id (by omega) (by omega) hm)⟩
        · cases hr
      · cases hk
    · cases hk

include hc hS in
theorem regX_v {base N : Nat} (hlb : lo ≤ base) (hob : ∀ id, base ≤ id → own id) : ∀ {ops : List (Option Nat × Op1)} {nxt : Nat} {σ σ' : Sg} {bs : List (Nat × Nat)} {s s2 : St}, chkOpsX S n σ bs nxt ops = some σ' → idxB N ops = true → SInv own n σ s.ρ s.M lo → Born bs base N σ.es s.ρ → WF s.M → base + N ≤ s.M.nx →
    (∀ j, nxt ≤ j → j < N → s.M.mem (base + j) = none) → regX c2 mode lo base N (ops.map fun q => (q.1, vOp S.no q.2)) ⟨vvs s.ρ, vm s.M⟩ = some s2 →
    ∃ s', regX c1 mode lo base N ops s = some s' ∧ vvs s'.ρ = s2.ρ ∧ vm s'.M = s2.M ∧ SInv own n σ' s'.ρ s'.M lo ∧ s.M.nx ≤ s'.M.nx ∧ WF s'.M ∧ (∀ id t u, ¬ own id → s.M.mem id = some (.tok t u) → s'.M.mem id = some (.tok t u)) ∧ (∀ id, id < base → s.M.mem id = none → s'.M.mem id = none) ∧
      (∀ id, id < base → vmem s.M.mem id = none → vmem s'.M.mem id = none)
  | [], nxt, σ, σ', bs, s, s2, hk, _, hI, hB, hwf, hN, hfree, hr => by
    simp only [chkOpsX, Option.some.injEq] at hk; subst hk
    simp only [List.map_nil, regX, Option.some.injEq] at hr; subst hr
    exact ⟨s, rfl, rfl, rfl, hI, Nat.le_refl _, hwf, fun _ _ _ _ h => h, fun _ _ h => h, fun _ _ h => h⟩
  | (io, o) :: ops, nxt, σ, σ', bs, s, s2, hk, hx, hI, hB, hwf, hN, hfree, hr => by
    simp only [idxB, List.all_cons, Bool.and_eq_true] at hx
    obtain ⟨hx1, hx2⟩ := hx
    have hlm : usesOK S σ.es bs o = true → ∀ es, useI S σ.es o.i = some es → ∀ e ∈ σ.es, (∀ f ∈ es, f.k ≠ e.k) → ∀ x id, getP s.ρ e.r e.p = some x → idV x = some id → (⟨base, N, o.m, o.w⟩ : Lm).ok id = true := fun huse es hes e he hno x id hx hid => by
      simp only [usesOK, hes] at huse
      have h1 := List.all_eq_true.1 huse e he
      simp only [Bool.or_eq_true] at h1
      rcases h1 with h1 | h1
      · obtain ⟨f, hf, hfk⟩ := List.any_eq_true.1 h1
        exact absurd (Nat.eq_of_beq_eq_true hfk) (hno f hf)
      · have h2 := hB e he x id hx hid
        unfold bornOK at h1
        split at h1
        · rename_i hb
          rw [hb] at h2
          exact ok_lt h2
        · rename_i m hb
          rw [hb] at h2
          simp only [Bool.and_eq_true] at h1
          have := lm_mono (Nat.eq_of_beq_eq_true h1.2) h2
          rw [h1.1]; exact this
    have hnx : s.M.mem s.M.nx = none := by
      cases hm : s.M.mem s.M.nx with
      | none => rfl
      | some b => have := hwf s.M.nx (by rw [hm]; simp); omega
    cases io with
    | some i =>
      simp only [chkOpsX] at hk
      split at hk
      · rename_i hcond
        simp only [Bool.and_eq_true, Nat.ble_eq] at hcond
        obtain ⟨hni, huse⟩ := hcond
        have hiN : i < N := by simpa [Nat.blt_eq] using hx1
        split at hk
        · rename_i σ1 hk1
          simp only [List.map_cons, regX, idX] at hr ⊢
          split at hr
          · rename_i t2 hst
            obtain ⟨t1, q1, q2, q3, q4, q5, q6⟩ := step1_v (lim := ⟨base, N, o.m, o.w⟩) hc hS hst hk1 hI (by omega) hwf (hfree i hni hiN) (by omega) (fun id h => hob id (by omega)) (hob _ (by omega)) hN (hlm huse)
            rw [show step1 c1 mode true lo ⟨base, N, o.m, o.w⟩ (base + i) o s = some t1 from q1]
            have e : t2 = ⟨vvs t1.ρ, vm t1.M⟩ := by rw [q2, q3]
            rw [e] at hr
            have hB1 : Born (newB (o.m ||| 2 ^ i) (top σ.es) (newT S o.i).length bs) base N σ1.es t1.ρ := fun e he x id hx hid => by
              rw [bornOf_new]
              rcases q6 e he x id hx hid with ⟨e0, g1, g2, g3⟩ | ⟨g1, g2, g3⟩
              · have hlt := top_gt g1
                rw [if_neg (by omega), ← g2]
                exact hB e0 g1 x id g3 hid
              · rw [if_pos ⟨g1, g2⟩]
                show (⟨base, N, o.m ||| 2 ^ i, true⟩ : Lm).ok id = true
                rcases g3 with g3 | g3 | g3
                · have : Nat.ble (base + N) id = true := by rw [Nat.ble_eq]; omega
                  simp only [Lm.ok, this, Bool.and_self, Bool.or_true]
                · subst g3
                  have h1 : Nat.blt (base + i) (base + N) = true := by rw [Nat.blt_eq]; omega
                  have h2 : base + i - base = i := by omega
                  simp only [Lm.ok, h1, h2, Nat.testBit_or, Nat.testBit_two_pow_self, Bool.or_true, Bool.and_self, Bool.true_or]
                · refine lm_mono (m := o.m) (w := o.w) ?_ g3
                  refine Nat.eq_of_testBit_eq fun j => ?_
                  rw [Nat.testBit_and, Nat.testBit_or]
                  cases o.m.testBit j <;> simp
            obtain ⟨s', r1, r2, r3, r4, r5, r6, r7, r8, r9⟩ := regX_v hlb hob hk hx2 q4 hB1 q5.wf (Nat.le_trans hN q5.nx) (fun j hj hjN => q5.keep _ (by omega) (by omega) (hfree j (by omega) hjN)) hr
            exact ⟨s', r1, r2, r3, r4, Nat.le_trans q5.nx r5, r6, fun id t u hn hm => r7 id t u hn (q5.tok id t u hn hm), fun id hl hm => r8 id hl (q5.keep id (by omega) (by omega) hm), fun id hl hm => r9 id hl (q5.kv id (by omega) (by omega) hm)⟩
          · cases hr
        · cases hk
      · cases hk
    | none =>
      simp only [chkOpsX] at hk
      split at hk
      · rename_i hcond
        simp only [Bool.and_eq_true] at hcond
        obtain ⟨hnt, huse⟩ := hcond
        have hnt' : (newT S o.i).length = 0 := by rw [List.isEmpty_iff.1 hnt]; rfl
        split at hk
        · rename_i σ1 hk1
          simp only [List.map_cons, regX, idX] at hr ⊢
          split at hr
          · rename_i t2 hst
            obtain ⟨t1, q1, q2, q3, q4, q5, q6⟩ := step1_v (fresh := s.M.nx) (lim := ⟨base, N, o.m, o.w⟩) hc hS hst hk1 hI (by omega) hwf hnx (by omega) (fun id h => hob id (by omega)) (hob _ (by omega)) hN (hlm huse)
            rw [show step1 c1 mode true lo ⟨base, N, o.m, o.w⟩ s.M.nx o s = some t1 from q1]
            have e : t2 = ⟨vvs t1.ρ, vm t1.M⟩ := by rw [q2, q3]
            rw [e] at hr
            have hB1 : Born bs base N σ1.es t1.ρ := fun e he x id hx hid => by
              rcases q6 e he x id hx hid with ⟨e0, g1, g2, g3⟩ | ⟨g1, g2, g3⟩
              · rw [← g2]
                exact hB e0 g1 x id g3 hid
              · omega
            obtain ⟨s', r1, r2, r3, r4, r5, r6, r7, r8, r9⟩ := regX_v hlb hob hk hx2 q4 hB1 q5.wf (Nat.le_trans hN q5.nx) (fun j hj hjN => q5.keep _ (by omega) (by omega) (hfree j hj hjN)) hr
            exact ⟨s', r1, r2, r3, r4, Nat.le_trans q5.nx r5, r6, fun id t u hn hm => r7 id t u hn (q5.tok id t u hn hm), fun id hl hm => r8 id hl (q5.keep id (by omega) (by omega) hm), fun id hl hm => r9 id hl (q5.kv id (by omega) (by omega) hm)⟩
          · cases hr
        · cases hk
      · cases hk

theorem findP_ok {e : Tk} : ∀ {σ : List Tk} {f : Tk}, findP σ e = some f → f ∈ σ ∧ f.r = e.r ∧ f.p = e.p
  | g :: σ, f, h => by
    simp only [findP] at h
    split at h
    · rename_i hc
      simp only [Bool.and_eq_true, Nat.beq_eq] at hc
      injection h with h; subst h
      exact ⟨by simp, hc.1, Pt.eq_of_beq hc.2⟩
    · obtain ⟨h1, h2⟩ := findP_ok h
      exact ⟨List.mem_cons_of_mem _ h1, h2⟩

theorem leE_ok {τ σ : List Tk} {ρ : List AV} {M : MM} (h : leE τ σ = true) (hT : TInv own σ ρ M lo) : TInv own τ ρ M lo := by
  simp only [leE, Bool.and_eq_true] at h
  obtain ⟨h1, h2⟩ := h
  have get : ∀ e ∈ τ, ∃ f, findP σ e = some f ∧ f ∈ σ ∧ getP ρ f.r f.p = getP ρ e.r e.p ∧ tyLe f.ty e.ty = true := fun e he => by
    have := List.all_eq_true.1 h1 e he
    split at this
    · rename_i f hf
      obtain ⟨g1, g2, g3⟩ := findP_ok hf
      exact ⟨f, hf, g1, by rw [g2, g3], this⟩
    · cases this
  have pair : ∀ e ∈ τ, ∀ f ∈ τ, ∀ a b, findP σ e = some a → findP σ f = some b → (e.k = f.k ↔ a.k = b.k) := fun e he f hf a b ha hb => by
    have := List.all_eq_true.1 (List.all_eq_true.1 h2 e he) f hf
    rw [ha, hb] at this
    have hb : Nat.beq e.k f.k = Nat.beq a.k b.k := beq_iff_eq.1 this
    exact ⟨fun h => Nat.eq_of_beq_eq_true (by rw [← hb, h, Nat.beq_eq]), fun h => Nat.eq_of_beq_eq_true (by rw [hb, h, Nat.beq_eq])⟩
  refine ⟨fun e he => ?_, fun e he f hf hk => ?_, fun e he f hf hk x y id hx hy hid => ?_⟩
  · obtain ⟨f, g1, g2, g3, g4⟩ := get e he
    obtain ⟨x, k1, k2, k3⟩ := hT.each f g2
    refine ⟨x, by rw [← g3]; exact k1, ?_, k3⟩
    rcases k2 with rfl | rfl | ⟨id, ds, len, t, sz, rfl, m1, m2, m3⟩
    · exact .inl rfl
    · exact .inr (.inl rfl)
    · refine .inr (.inr ⟨id, ds, len, t, sz, rfl, ?_, m2, m3⟩)
      rw [m1] at g4
      simp only [tyLe] at g4
      split at g4
      · rename_i heq; cases heq
      · rename_i a b heq hb
        injection heq with heq; subst heq
        simp only [Bool.and_eq_true, beq_iff_eq] at g4
        rw [hb]; congr 1
        exact Prod.ext g4.1.symm g4.2.symm
      · cases g4
  · obtain ⟨a, g1, g2, g3, g4⟩ := get e he
    obtain ⟨b, g1', g2', g3', g4'⟩ := get f hf
    rw [← g3, ← g3']
    exact hT.same a g2 b g2' ((pair e he f hf a b g1 g1').1 hk)
  · obtain ⟨a, g1, g2, g3, g4⟩ := get e he
    obtain ⟨b, g1', g2', g3', g4'⟩ := get f hf
    rw [← g3] at hx; rw [← g3'] at hy
    exact hT.diff a g2 b g2' (fun h => hk ((pair e he f hf a b g1 g1').2 h)) x y id hx hy hid

theorem leS_ok {τ σ : Sg} {ρ : List AV} {M : MM} (h : leS τ σ = true) (hI : SInv own n σ ρ M lo) : SInv own n τ ρ M lo := by
  simp only [leS, Bool.and_eq_true] at h
  refine ⟨hI.len, leE_ok h.1 hI.tok, fun L hL => ?_⟩
  obtain ⟨L', h1, h2⟩ := List.any_eq_true.1 (List.all_eq_true.1 h.2 L hL)
  have : L = L' := Nat.eq_of_beq_eq_true h2
  subst this
  exact hI.ag L h1

theorem join_ok {l : List Sg} {τ : Option Sg} (h : join l = some τ) {σ : Sg} (hσ : σ ∈ l) : ∃ t, τ = some t ∧ leS t σ = true := by
  cases l with
  | nil => simp at hσ
  | cons a r =>
    simp only [join] at h
    split at h
    · rename_i hall
      injection h with h
      exact ⟨_, h.symm, List.all_eq_true.1 hall σ hσ⟩
    · cases h

theorem fixS_ok {f : Sg → Option Rs} : ∀ {m : Nat} {σ τ : Sg} {r : Rs}, fixS f m σ = some (τ, r) → f τ = some r ∧ ∀ σ', r.nrm = some σ' → leS τ σ' = true
  | 0, σ, τ, r, h => by simp [fixS] at h
  | m + 1, σ, τ, r, h => by
    simp only [fixS] at h
    split at h
    · rename_i r' hr
      split at h
      · rename_i hn
        simp only [Option.some.injEq, Prod.mk.injEq] at h
        obtain ⟨rfl, rfl⟩ := h
        exact ⟨hr, fun σ' h => by rw [hn] at h; cases h⟩
      · rename_i σ1 hn
        split at h
        · rename_i hle
          simp only [Option.some.injEq, Prod.mk.injEq] at h
          obtain ⟨rfl, rfl⟩ := h
          exact ⟨hr, fun σ' h => by rw [hn] at h; injection h with h; subst h; exact hle⟩
        · exact fixS_ok h
    · cases h

def Post (own : Nat → Prop) (n lo : Nat) (r : Rs) (ex : Ex) (s : St) : Prop :=
  match ex with
  | .normal => ∃ τ, r.nrm = some τ ∧ SInv own n τ s.ρ s.M lo
  | .exit i => ∃ q ∈ r.exits, q.1 = i ∧ SInv own n q.2 s.ρ s.M lo
  | .ret => ∃ τ ∈ r.rets, SInv own n τ s.ρ s.M lo

include hc hS in
theorem exec_v {nl : Nat} : ∀ (k : K) {σ : Sg} {r : Rs} {s : St} {ex : Ex} {s2 : St}, chkK S n k σ = some r → SInv own n σ s.ρ s.M lo → WF s.M → lo ≤ s.M.nx → (∀ id, s.M.nx ≤ id → own id) → exec c2 mode lo nl (vK S.no k) ⟨vvs s.ρ, vm s.M⟩ = some (ex, s2) →
    ∃ s', exec c1 mode lo nl k s = some (ex, s') ∧ vvs s'.ρ = s2.ρ ∧ vm s'.M = s2.M ∧ Post own n lo r ex s' ∧ FrE own s.M s'.M := by
  intro k
  induction k with
  | skip =>
    intro σ r s ex s2 hk hI hwf hlo hown he
    simp only [chkK, Option.some.injEq] at hk; subst hk
    simp only [vK, exec, Option.some.injEq, Prod.mk.injEq] at he
    obtain ⟨rfl, rfl⟩ := he
    exact ⟨s, rfl, rfl, rfl, ⟨σ, rfl, hI⟩, .refl hwf⟩
  | reg ops =>
    intro σ r s ex s2 hk hI hwf hlo hown he
    simp only [chkK] at hk
    obtain ⟨τ, hτ, rfl⟩ := Option.map_eq_some_iff.1 hk
    simp only [vK, exec] at he
    obtain ⟨t2, ht, hh⟩ := Option.map_eq_some_iff.1 he
    simp only [Prod.mk.injEq] at hh
    obtain ⟨rfl, rfl⟩ := hh
    obtain ⟨s', q1, q2, q3, q4, q5⟩ := regN_v hc hS hτ hI hwf hlo hown ht
    exact ⟨s', by simp only [exec, q1, Option.map_some], q2, q3, ⟨τ, rfl, q4⟩, q5⟩
  | drg ops =>
    intro σ r s ex s2 hk hI hwf hlo hown he
    simp only [chkK] at hk
    obtain ⟨τ, hτ, rfl⟩ := Option.map_eq_some_iff.1 hk
    simp only [vK, exec, List.length_map] at he
    obtain ⟨t2, ht, hh⟩ := Option.map_eq_some_iff.1 he
    simp only [Prod.mk.injEq] at hh
    obtain ⟨rfl, rfl⟩ := hh
    have hwf1 : WF ⟨s.M.nx + ops.length, s.M.mem⟩ := fun id h => by have := hwf id h; show id < s.M.nx + ops.length; omega
    obtain ⟨s', q1, q2, q3, q4, q5, q6, q7, q8, q9⟩ := regD_v (base := s.M.nx) (N := ops.length) (i := 0) (s := ⟨s.ρ, ⟨s.M.nx + ops.length, s.M.mem⟩⟩) hc hS hlo hown hτ
      ⟨hI.len, ⟨hI.tok.each, hI.tok.same, hI.tok.diff⟩, hI.ag⟩ (fun e he x id hx hid => by
        obtain ⟨x', g1, g2, g3⟩ := hI.tok.each e he
        have hx' : getP s.ρ e.r e.p = some x := hx
        rw [hx'] at g1; injection g1 with g1; subst g1
        obtain ⟨t, u, hm⟩ := g2.mem hid
        exact hwf id (by rw [hm]; simp)) hwf1 (by omega) (Nat.le_refl _) (fun j _ _ => by
        cases hm : s.M.mem (s.M.nx + j) with
        | none => rfl
        | some b => have := hwf (s.M.nx + j) (by rw [hm]; simp); omega) ht
    exact ⟨s', by simp only [exec, q1, Option.map_some], q2, q3, ⟨τ, rfl, q4⟩, ⟨Nat.le_trans (Nat.le_add_right _ _) q5, q6, q7, q8, q9⟩⟩
  | drx N ops =>
    intro σ r s ex s2 hk hI hwf hlo hown he
    simp only [chkK] at hk
    split at hk
    rotate_left
    · cases hk
    rename_i hix
    obtain ⟨τ, hτ, rfl⟩ := Option.map_eq_some_iff.1 hk
    simp only [vK, exec] at he
    obtain ⟨t2, ht, hh⟩ := Option.map_eq_some_iff.1 he
    simp only [Prod.mk.injEq] at hh
    obtain ⟨rfl, rfl⟩ := hh
    have hwf1 : WF ⟨s.M.nx + N, s.M.mem⟩ := fun id h => by have := hwf id h; show id < s.M.nx + N; omega
    obtain ⟨s', q1, q2, q3, q4, q5, q6, q7, q8, q9⟩ := regX_v (base := s.M.nx) (N := N) (nxt := 0) (s := ⟨s.ρ, ⟨s.M.nx + N, s.M.mem⟩⟩) hc hS hlo hown hτ hix
      ⟨hI.len, ⟨hI.tok.each, hI.tok.same, hI.tok.diff⟩, hI.ag⟩ (fun e he x id hx hid => by
        obtain ⟨x', g1, g2, g3⟩ := hI.tok.each e he
        have hx' : getP s.ρ e.r e.p = some x := hx
        rw [hx'] at g1; injection g1 with g1; subst g1
        obtain ⟨t, u, hm⟩ := g2.mem hid
        exact hwf id (by rw [hm]; simp)) hwf1 (Nat.le_refl _) (fun j _ _ => by
        cases hm : s.M.mem (s.M.nx + j) with
        | none => rfl
        | some b => have := hwf (s.M.nx + j) (by rw [hm]; simp); omega) ht
    exact ⟨s', by simp only [exec, q1, Option.map_some], q2, q3, ⟨τ, rfl, q4⟩, ⟨Nat.le_trans (Nat.le_add_right _ _) q5, q6, q7, q8, q9⟩⟩
  | seq a b iha ihb =>
    intro σ r s ex s2 hk hI hwf hlo hown he
    simp only [chkK] at hk
    split at hk
    · rename_i ra hka
      simp only [vK, exec] at he
      cases hea : exec c2 mode lo nl (vK S.no a) ⟨vvs s.ρ, vm s.M⟩ with
      | none => rw [hea] at he; cases he
      | some p =>
        obtain ⟨exa, sa2⟩ := p
        rw [hea] at he
        obtain ⟨sa, q1, q2, q3, q4, q5⟩ := iha hka hI hwf hlo hown hea
        cases exa with
        | normal =>
          obtain ⟨τ, hτ, hIτ⟩ := q4
          rw [hτ] at hk
          simp only at hk he
          split at hk
          · rename_i q hkb
            injection hk with hk; subst hk
            have e : sa2 = ⟨vvs sa.ρ, vm sa.M⟩ := by rw [q2, q3]
            rw [e] at he
            obtain ⟨s', r1, r2, r3, r4, r5⟩ := ihb hkb hIτ q5.wf (Nat.le_trans hlo q5.nx) (fun id h => hown id (Nat.le_trans q5.nx h)) he
            refine ⟨s', by simp only [exec, q1]; exact r1, r2, r3, ?_, q5.trans r5⟩
            cases ex with
            | normal => exact r4
            | exit i => obtain ⟨w, w1, w2⟩ := r4; exact ⟨w, List.mem_append_right _ w1, w2⟩
            | ret => obtain ⟨w, w1, w2⟩ := r4; exact ⟨w, List.mem_append_right _ w1, w2⟩
          · cases hk
        | exit i =>
          simp only [Option.some.injEq, Prod.mk.injEq] at he
          obtain ⟨rfl, rfl⟩ := he
          refine ⟨sa, by simp only [exec, q1], q2, q3, ?_, q5⟩
          obtain ⟨w, w1, w2⟩ := q4
          cases hn : ra.nrm with
          | none => rw [hn] at hk; simp only [Option.some.injEq] at hk; subst hk; exact ⟨w, w1, w2⟩
          | some τ =>
            rw [hn] at hk
            simp only at hk
            split at hk
            · injection hk with hk; subst hk; exact ⟨w, List.mem_append_left _ w1, w2⟩
            · cases hk
        | ret =>
          simp only [Option.some.injEq, Prod.mk.injEq] at he
          obtain ⟨rfl, rfl⟩ := he
          refine ⟨sa, by simp only [exec, q1], q2, q3, ?_, q5⟩
          obtain ⟨w, w1, w2⟩ := q4
          cases hn : ra.nrm with
          | none => rw [hn] at hk; simp only [Option.some.injEq] at hk; subst hk; exact ⟨w, w1, w2⟩
          | some τ =>
            rw [hn] at hk
            simp only at hk
            split at hk
            · injection hk with hk; subst hk; exact ⟨w, List.mem_append_left _ w1, w2⟩
            · cases hk
    · cases hk
  | cond x a b iha ihb =>
    intro σ r s ex s2 hk hI hwf hlo hown he
    simp only [chkK] at hk
    split at hk
    · rename_i ra rb hka hkb
      obtain ⟨τ, hτ, rfl⟩ := Option.map_eq_some_iff.1 hk
      simp only [vK, exec, ev_vv] at he
      have up : ∀ {rr : Rs} {s' : St}, (∀ σ ∈ rr.nrm.toList, σ ∈ ra.nrm.toList ++ rb.nrm.toList) → (∀ q ∈ rr.exits, q ∈ ra.exits ++ rb.exits) → (∀ q ∈ rr.rets, q ∈ ra.rets ++ rb.rets) → Post own n lo rr ex s' → Post own n lo ⟨τ, ra.exits ++ rb.exits, ra.rets ++ rb.rets⟩ ex s' := fun h1 h2 h3 hp => by
        cases ex with
        | normal =>
          obtain ⟨t, ht, hIt⟩ := hp
          obtain ⟨u, hu, hle⟩ := join_ok hτ (h1 t (by rw [ht]; simp))
          exact ⟨u, hu, leS_ok hle hIt⟩
        | exit i => obtain ⟨w, w1, w2⟩ := hp; exact ⟨w, h2 w w1, w2⟩
        | ret => obtain ⟨w, w1, w2⟩ := hp; exact ⟨w, h3 w w1, w2⟩
      split at he
      · rename_i hb
        have hb' := vv_key hb
        obtain ⟨s', q1, q2, q3, q4, q5⟩ := iha hka hI hwf hlo hown he
        exact ⟨s', by simp only [exec, hb']; exact q1, q2, q3, up (fun _ h => List.mem_append_left _ h) (fun _ h => List.mem_append_left _ h) (fun _ h => List.mem_append_left _ h) q4, q5⟩
      · rename_i hb
        have hb' := vv_key hb
        obtain ⟨s', q1, q2, q3, q4, q5⟩ := ihb hkb hI hwf hlo hown he
        exact ⟨s', by simp only [exec, hb']; exact q1, q2, q3, up (fun _ h => List.mem_append_right _ h) (fun _ h => List.mem_append_right _ h) (fun _ h => List.mem_append_right _ h) q4, q5⟩
      · cases he
    · cases hk
  | block id a iha =>
    intro σ r s ex s2 hk hI hwf hlo hown he
    simp only [chkK] at hk
    split at hk
    · rename_i ra hka
      obtain ⟨τ, hτ, rfl⟩ := Option.map_eq_some_iff.1 hk
      simp only [vK, exec] at he
      cases hea : exec c2 mode lo nl (vK S.no a) ⟨vvs s.ρ, vm s.M⟩ with
      | none => rw [hea] at he; cases he
      | some p =>
        obtain ⟨exa, sa2⟩ := p
        rw [hea] at he
        obtain ⟨sa, q1, q2, q3, q4, q5⟩ := iha hka hI hwf hlo hown hea
        cases exa with
        | normal =>
          simp only [Option.some.injEq, Prod.mk.injEq] at he
          obtain ⟨rfl, rfl⟩ := he
          obtain ⟨t, ht, hIt⟩ := q4
          obtain ⟨u, hu, hle⟩ := join_ok (σ := t) hτ (List.mem_append_left _ (by rw [ht]; simp))
          exact ⟨sa, by simp only [exec, q1], q2, q3, ⟨u, hu, leS_ok hle hIt⟩, q5⟩
        | exit i =>
          simp only at he
          obtain ⟨w, w1, rfl, w3⟩ := q4
          split at he
          · rename_i hi
            simp only [Option.some.injEq, Prod.mk.injEq] at he
            obtain ⟨rfl, rfl⟩ := he
            obtain ⟨u, hu, hle⟩ := join_ok hτ (List.mem_append_right _ (List.mem_map.2 ⟨w, List.mem_filter.2 ⟨w1, by show Nat.beq w.1 id = true; rw [hi, Nat.beq_eq]⟩, rfl⟩))
            exact ⟨sa, by simp only [exec, q1]; rw [if_pos hi], q2, q3, ⟨u, hu, leS_ok hle w3⟩, q5⟩
          · rename_i hi
            simp only [Option.some.injEq, Prod.mk.injEq] at he
            obtain ⟨rfl, rfl⟩ := he
            refine ⟨sa, by simp only [exec, q1]; rw [if_neg hi], q2, q3, ⟨w, List.mem_filter.2 ⟨w1, ?_⟩, rfl, w3⟩, q5⟩
            have : Nat.beq w.1 id = false := by
              cases hb : Nat.beq w.1 id with
              | false => rfl
              | true => exact absurd (Nat.eq_of_beq_eq_true hb) hi
            rw [this]; rfl
        | ret =>
          simp only [Option.some.injEq, Prod.mk.injEq] at he
          obtain ⟨rfl, rfl⟩ := he
          exact ⟨sa, by simp only [exec, q1], q2, q3, q4, q5⟩
    · cases hk
  | loop a iha =>
    intro σ r s ex s2 hk hI hwf hlo hown he
    simp only [chkK] at hk
    split at hk
    · rename_i τ ra hfix
      split at hk
      · rename_i hle
        injection hk with hk; subst hk
        obtain ⟨hka, hback⟩ := fixS_ok hfix
        simp only [vK, exec] at he
        have key : ∀ (m : Nat) (s : St) (ex : Ex) (s2 : St), SInv own n τ s.ρ s.M lo → WF s.M → lo ≤ s.M.nx → (∀ id, s.M.nx ≤ id → own id) → iter (exec c2 mode lo nl (vK S.no a)) m ⟨vvs s.ρ, vm s.M⟩ = some (ex, s2) →
            ∃ s', iter (exec c1 mode lo nl a) m s = some (ex, s') ∧ vvs s'.ρ = s2.ρ ∧ vm s'.M = s2.M ∧ Post own n lo ⟨none, ra.exits, ra.rets⟩ ex s' ∧ FrE own s.M s'.M := by
          intro m
          induction m with
          | zero => intro s ex s2 _ _ _ _ h; simp [iter] at h
          | succ m ihm =>
            intro s ex s2 hI hwf hlo hown h
            simp only [iter] at h
            cases hea : exec c2 mode lo nl (vK S.no a) ⟨vvs s.ρ, vm s.M⟩ with
            | none => rw [hea] at h; cases h
            | some p =>
              obtain ⟨exa, sa2⟩ := p
              rw [hea] at h
              obtain ⟨sa, q1, q2, q3, q4, q5⟩ := iha hka hI hwf hlo hown hea
              cases exa with
              | normal =>
                simp only at h
                obtain ⟨t, ht, hIt⟩ := q4
                have e : sa2 = ⟨vvs sa.ρ, vm sa.M⟩ := by rw [q2, q3]
                rw [e] at h
                obtain ⟨s', r1, r2, r3, r4, r5⟩ := ihm sa ex s2 (leS_ok (hback t ht) hIt) q5.wf (Nat.le_trans hlo q5.nx) (fun id h => hown id (Nat.le_trans q5.nx h)) h
                exact ⟨s', by simp only [iter, q1]; exact r1, r2, r3, r4, q5.trans r5⟩
              | exit i =>
                simp only [Option.some.injEq, Prod.mk.injEq] at h
                obtain ⟨rfl, rfl⟩ := h
                exact ⟨sa, by simp only [iter, q1], q2, q3, q4, q5⟩
              | ret =>
                simp only [Option.some.injEq, Prod.mk.injEq] at h
                obtain ⟨rfl, rfl⟩ := h
                exact ⟨sa, by simp only [iter, q1], q2, q3, q4, q5⟩
        obtain ⟨s', q1, q2, q3, q4, q5⟩ := key nl s ex s2 (leS_ok hle hI) hwf hlo hown he
        exact ⟨s', by simp only [exec]; exact q1, q2, q3, q4, q5⟩
      · cases hk
    · cases hk
  | exit id =>
    intro σ r s ex s2 hk hI hwf hlo hown he
    simp only [chkK, Option.some.injEq] at hk; subst hk
    simp only [vK, exec, Option.some.injEq, Prod.mk.injEq] at he
    obtain ⟨rfl, rfl⟩ := he
    exact ⟨s, rfl, rfl, rfl, ⟨(id, σ), by simp, rfl, hI⟩, .refl hwf⟩
  | ret =>
    intro σ r s ex s2 hk hI hwf hlo hown he
    simp only [chkK, Option.some.injEq] at hk; subst hk
    simp only [vK, exec, Option.some.injEq, Prod.mk.injEq] at he
    obtain ⟨rfl, rfl⟩ := he
    exact ⟨s, rfl, rfl, rfl, ⟨_, by simp, hI⟩, .refl hwf⟩
end

/-! ### Calls -/
theorem entryE_mem : ∀ {k : Nat} {l : List (Nat × (TypeId × Nat))} {e : Tk}, e ∈ entryE k l → ∃ j q, l[j]? = some q ∧ e.r = q.1 ∧ e.p = .w ∧ e.k = k + j ∧ e.ty = some q.2
  | k, [], e, h => by simp [entryE] at h
  | k, q :: l, e, h => by
    rcases List.mem_cons.1 h with rfl | h
    · exact ⟨0, q, rfl, rfl, rfl, rfl, rfl⟩
    · obtain ⟨j, q', h1, h2, h3, h4, h5⟩ := entryE_mem h
      exact ⟨j + 1, q', by simpa using h1, h2, h3, by rw [h4]; omega, h5⟩

theorem entry_inv {S : Sig} {f : FuncId} {args : List AV} {lo : Nat} {M : MM} (hin : Tin S f args lo M) (m : Nat) : TInv (fun id => M.nx ≤ id ∨ usedA S f args id) (entryE 0 (S.ps f)) (args ++ List.replicate m .undef) M lo := by
  have get : ∀ e ∈ entryE 0 (S.ps f), ∃ j q x, (S.ps f)[j]? = some q ∧ e.k = j ∧ e.ty = some q.2 ∧ args[q.1]? = some x ∧ getP (args ++ List.replicate m .undef) e.r e.p = some x ∧ TokIn M lo x (some q.2) := fun e he => by
    obtain ⟨j, q, h1, h2, h3, h4, h5⟩ := entryE_mem he
    obtain ⟨x, g1, g2⟩ := hin.each q (List.mem_of_getElem? h1)
    have hl : q.1 < args.length := (List.getElem?_eq_some_iff.1 g1).1
    exact ⟨j, q, x, h1, by omega, h5, g1, by rw [h2, h3]; simp only [getP, getR, List.getElem?_append_left hl, g1]; rfl, g2⟩
  refine ⟨fun e he => ?_, fun e he e' he' hk => ?_, fun e he e' he' hk x y id hx hy hid => ?_⟩
  · obtain ⟨j, q, x, h1, h2, h3, h4, h5, h6⟩ := get e he
    exact ⟨x, h5, by rw [h3]; exact h6, fun id hid => .inr ⟨q, List.mem_of_getElem? h1, x, h4, hid⟩⟩
  · obtain ⟨j, q, x, h1, h2, h3, h4, h5, h6⟩ := get e he
    obtain ⟨j', q', x', h1', h2', h3', h4', h5', h6'⟩ := get e' he'
    have : j = j' := by omega
    subst this
    rw [h1] at h1'; injection h1' with h1'; subst h1'
    rw [h4] at h4'; injection h4' with h4'; subst h4'
    rw [h5, h5']
  · obtain ⟨j, q, x0, h1, h2, h3, h4, h5, h6⟩ := get e he
    obtain ⟨j', q', x', h1', h2', h3', h4', h5', h6'⟩ := get e' he'
    rw [h5] at hx; injection hx with hx; subst hx
    rw [h5'] at hy; injection hy with hy; subst hy
    have hne : j ≠ j' := by omega
    have hp := List.pairwise_iff_getElem.1 hin.diff
    obtain ⟨k1, k2⟩ := List.getElem?_eq_some_iff.1 h1
    obtain ⟨k1', k2'⟩ := List.getElem?_eq_some_iff.1 h1'
    by_cases hlt : j < j'
    · exact hp j j' k1 k1' hlt x0 x' id (by rw [k2]; exact h4) (by rw [k2']; exact h4') hid
    · intro hidy
      exact hp j' j k1' k1 (by omega) x' x0 id (by rw [k2']; exact h4') (by rw [k2]; exact h4) hidy hid

theorem resOf_vv (s : St) (x : RV) : resOf ⟨vvs s.ρ, vm s.M⟩ x = (resOf s x).map vv := by
  have hg : ∀ a, (vvs s.ρ).getD a .undef = vv (s.ρ.getD a .undef) := fun a => ev_vv s.ρ (.t a)
  cases x with
  | tmp t => simp only [resOf, hg, Option.map_some]
  | cell a n agg =>
    simp only [resOf, hg]
    generalize s.ρ.getD a .undef = y
    cases y with
    | ptr id off =>
      simp only [vv, vm, vmem]
      cases s.M.mem id with
      | none => rfl
      | some B => cases B with
        | cells t cs =>
          simp only [Option.bind_some, vmB, vvs_len, vvs_get]
          cases agg
          · rfl
          · simp only [if_true]; split
            · simp only [Option.map_some, vv, vvs_take, vvs_drop]
            · rfl
        | _ => rfl
    | d d => cases d <;> rfl
    | _ => rfl
  | loc a n agg =>
    simp only [resOf, hg]
    generalize s.ρ.getD a .undef = y
    cases y with
    | agg cs =>
      simp only [vv, vvs_len, vvs_get]
      cases agg
      · rfl
      · simp only [if_true]; split
        · simp only [Option.map_some, vv, vvs_take]
        · rfl
    | d d => cases d <;> rfl
    | _ => rfl

theorem resAll_vv (s : St) (res : List RV) : resAll ⟨vvs s.ρ, vm s.M⟩ res = (resAll s res).map vv := by
  have e : res.mapM (resOf ⟨vvs s.ρ, vm s.M⟩) = (res.mapM (resOf s)).map vvs := by
    have := mapM_map_opt (resOf ⟨vvs s.ρ, vm s.M⟩) (resOf s) id vv (resOf_vv s) res
    rw [List.map_id] at this
    rw [this]; congr 1; funext x; rw [vvs_eq]
  simp only [resAll, e]
  cases res.mapM (resOf s) with
  | none => rfl
  | some vs =>
    cases vs with
    | nil => rfl
    | cons a r => cases r with
      | nil => rfl
      | cons b r => rfl

theorem outOK_ok {own : Nat → Prop} {n lo : Nat} {σ : Sg} {s : St} {res : List RV} {r : AV} (hI : SInv own n σ s.ρ s.M lo) (hr : resAll s res = some r) : ∀ {l : List (Pt × (TypeId × Nat))} {ks : List Nat}, outOK res σ l ks = true →
    (∀ q ∈ l, ∃ e ∈ σ.es, ∃ x, getR r q.1 = some x ∧ getP s.ρ e.r e.p = some x ∧ TokIn s.M lo x (some q.2) ∧ (∀ id, idV x = some id → own id) ∧ e.k ∉ ks) ∧
    l.Pairwise fun p q => ∀ x y id, getR r p.1 = some x → getR r q.1 = some y → idV x = some id → idV y ≠ some id
  | [], ks, _ => ⟨fun q hq => by simp at hq, .nil⟩
  | q :: l, ks, h => by
    simp only [outOK] at h
    split at h
    · rename_i t ht
      split at h
      · rename_i e he
        simp only [Bool.and_eq_true, Bool.not_eq_true'] at h
        obtain ⟨⟨h1, h2⟩, h3⟩ := h
        obtain ⟨g1, g2, g3⟩ := findT_ok he
        obtain ⟨x, k1, k2, k3⟩ := hI.tok.each e g1
        have hx : s.ρ.getD t .undef = x := by
          rw [g2, g3] at k1
          obtain ⟨y, m1, m2, _⟩ := getP_some k1
          simp only [getR, Option.some.injEq] at m2; subst m2
          simp only [List.getD_eq_getElem?_getD, m1, Option.getD_some]
        have hget : getR r q.1 = some x := by
          cases hq : q.1 with
          | w =>
            rw [hq] at ht
            simp only at ht
            split at ht
            · rename_i y
              injection ht with ht; subst ht
              simp only [resAll, List.mapM_cons, List.mapM_nil, resOf, Option.pure_def, Option.bind_eq_bind, Option.bind_some, Option.some.injEq] at hr
              rw [← hr, hx]; rfl
            · cases ht
          | c j => rw [hq] at ht; cases ht
          | t j =>
            rw [hq] at ht
            simp only at ht
            split at ht
            · cases ht
            · rename_i hn
              simp only [resAll] at hr
              cases hm : res.mapM (resOf s) with
              | none => rw [hm] at hr; cases hr
              | some vs =>
                rw [hm] at hr
                obtain ⟨l1, l2⟩ := mapM_get hm
                have hjl : j < res.length := (List.getElem?_eq_some_iff.1 ht).1
                have hne : ∀ v, vs ≠ [v] := fun v hv => by
                  rw [hv] at l1
                  match res, l1, hn with
                  | [y], _, hn => exact hn y rfl
                have hrr : r = .tup vs := by
                  match vs, hne, hr with
                  | [], _, hr => exact (Option.some.inj hr).symm
                  | [v], hne, _ => exact absurd rfl (hne v)
                  | a :: b :: c, _, hr => exact (Option.some.inj hr).symm
                subst hrr
                have hj := l2 j hjl (by omega)
                have hre : res[j] = .tmp t := by
                  have := ht; rw [List.getElem?_eq_getElem hjl] at this; exact Option.some.inj this
                rw [hre] at hj
                simp only [resOf, Option.some.injEq] at hj
                simp only [getR]
                rw [List.getElem?_eq_getElem (by omega), ← hj, hx]
        have htok : TokIn s.M lo x (some q.2) := by
          rcases k2 with rfl | rfl | ⟨id, ds, len, a, sz, rfl, m1, m2, m3⟩
          · exact .inl rfl
          · exact .inr (.inl rfl)
          · refine .inr (.inr ⟨id, ds, len, a, sz, rfl, ?_, m2, m3⟩)
            rw [m1] at h1
            simp only [tyOK, Bool.and_eq_true, beq_iff_eq] at h1
            congr 1
            exact Prod.ext h1.1.symm h1.2.symm
        have hks : e.k ∉ ks := fun hm => by
          have : (ks.any (Nat.beq e.k)) = true := List.any_eq_true.2 ⟨e.k, hm, by rw [Nat.beq_eq]⟩
          rw [this] at h2; cases h2
        obtain ⟨r1, r2⟩ := outOK_ok hI hr h3
        refine ⟨fun p hp => ?_, List.pairwise_cons.2 ⟨fun p hp x' y id hx' hy hid => ?_, r2⟩⟩
        · rcases List.mem_cons.1 hp with rfl | hp
          · exact ⟨e, g1, x, hget, k1, htok, k3, hks⟩
          · obtain ⟨e', w1, y, w2, w3, w4, w5, w6⟩ := r1 p hp
            exact ⟨e', w1, y, w2, w3, w4, w5, fun hm => w6 (List.mem_cons_of_mem _ hm)⟩
        · obtain ⟨e', w1, y', w2, w3, w4, w5, w6⟩ := r1 p hp
          rw [hget] at hx'; injection hx' with hx'; subst hx'
          rw [w2] at hy; injection hy with hy; subst hy
          exact hI.tok.diff e g1 e' w1 (fun hk => w6 (by rw [← hk]; simp)) x y' id k1 w3 hid
      · cases h
    · cases h

def PrimV (S : Sig) (f : FuncId) (p : List AV → Nat → MM → Option (AV × MM)) : Prop := ∀ args lo M rv V', p (vvs args) lo (vm M) = some (rv, V') → lo ≤ M.nx → WF M → Tin S f args lo M →
  ∃ r M', p args lo M = some (r, M') ∧ vv r = rv ∧ vm M' = V' ∧ Fr (usedA S f args) M.nx M M' ∧ Tout (S.rs f) (fun id => M.nx ≤ id ∨ usedA S f args id) r lo M'

theorem PrimV.of {S : Sig} {f : FuncId} {q : List AV → Option AV} (h : ∀ args r, q (vvs args) = some r → ∃ r', q args = some r' ∧ vv r' = r) (hr : S.rs f = []) : PrimV S f (fun args _ M => (q args).map (·, M)) := by
  intro args lo M rv V' hV hlo hwf hin
  obtain ⟨x, hx, hh⟩ := Option.map_eq_some_iff.1 hV
  simp only [Prod.mk.injEq] at hh
  obtain ⟨rfl, rfl⟩ := hh
  obtain ⟨r, h1, h2⟩ := h args x hx
  exact ⟨r, M, by show (q args).map (·, M) = some (r, M); rw [h1]; rfl, h2, rfl, .refl hwf, by rw [hr]; exact .nil⟩

structure VOK (S : Sig) (G GV : Prog) : Prop where
  mode : GV.mode = G.mode
  nl : GV.nl = G.nl
  sig : SigOK S G.mode
  code : ∀ f cv, GV.fns f = some (.code cv) → ∃ cf, G.fns f = some (.code cf) ∧ vCF S.no cf = cv ∧ chkV S f cf = true
  prim : ∀ f p, GV.fns f = some (.prim p) → G.fns f = some (.prim p) ∧ PrimV S f p

theorem acall_v {S : Sig} {G GV : Prog} (h : VOK S G GV) : ∀ N, CSV S (acall G N) (acall GV N)
  | 0 => fun f args lo M rv V' hV => by simp [acall] at hV
  | N + 1 => fun f args lo M rv V' hV hlo hwf hin => by
    have ih := acall_v h N
    unfold acall at hV
    cases hf : GV.fns f with
    | none => rw [hf] at hV; cases hV
    | some k =>
      rw [hf] at hV
      cases k with
      | prim p =>
        obtain ⟨h1, h2⟩ := h.prim f p hf
        obtain ⟨r, M', q⟩ := h2 args lo M rv V' hV hlo hwf hin
        exact ⟨r, M', by simp only [acall, h1]; exact q.1, q.2⟩
      | code cv =>
        obtain ⟨cf, h1, rfl, h3⟩ := h.code f cv hf
        simp only [vCF, h.mode, h.nl] at hV
        have einit : vvs args ++ List.replicate (cf.nt - (vvs args).length) .undef = vvs (args ++ List.replicate (cf.nt - args.length) .undef) := by
          rw [vvs_append, vvs_replicate, vvs_len]; rfl
        rw [einit] at hV
        simp only [chkV] at h3
        split at h3
        · rename_i rs hchk
          simp only [Bool.and_eq_true] at h3
          have hI : SInv (fun id => M.nx ≤ id ∨ usedA S f args id) cf.nt ⟨entryE 0 (S.ps f), []⟩ (args ++ List.replicate (cf.nt - args.length) .undef) M lo :=
            ⟨by simp; omega, entry_inv hin _, fun L hL => by simp at hL⟩
          cases hex : exec (acall GV N) G.mode lo G.nl (vK S.no cf.body) ⟨vvs (args ++ List.replicate (cf.nt - args.length) .undef), vm M⟩ with
          | none => rw [hex] at hV; cases hV
          | some p =>
            obtain ⟨ex, s2⟩ := p
            rw [hex] at hV
            obtain ⟨s', q1, q2, q3, q4, q5⟩ := exec_v (own := fun id => M.nx ≤ id ∨ usedA S f args id) (s := ⟨args ++ List.replicate (cf.nt - args.length) .undef, M⟩) ih h.sig cf.body hchk hI hwf hlo (fun id h => .inl h) hex
            have fin : ∀ σ : Sg, outOK cf.res σ (S.rs f) [] = true → SInv (fun id => M.nx ≤ id ∨ usedA S f args id) cf.nt σ s'.ρ s'.M lo → (resAll s2 cf.res).map (·, s2.M) = some (rv, V') →
                ∃ r M', (resAll s' cf.res).map (·, s'.M) = some (r, M') ∧ vv r = rv ∧ vm M' = V' ∧ Fr (usedA S f args) M.nx M M' ∧ Tout (S.rs f) (fun id => M.nx ≤ id ∨ usedA S f args id) r lo M' := by
              intro σ hout hIσ hres
              have e : s2 = ⟨vvs s'.ρ, vm s'.M⟩ := by rw [q2, q3]
              rw [e, resAll_vv] at hres
              obtain ⟨x, hx, hh⟩ := Option.map_eq_some_iff.1 hres
              simp only [Prod.mk.injEq] at hh
              obtain ⟨rfl, rfl⟩ := hh
              obtain ⟨r, hr, rfl⟩ := Option.map_eq_some_iff.1 hx
              obtain ⟨o1, o2⟩ := outOK_ok hIσ hr hout
              refine ⟨r, s'.M, by rw [hr]; rfl, rfl, rfl, ⟨q5.nx, q5.wf, fun id t u hn hm => q5.tok id t u (fun ho => ?_) hm, fun id hl _ hm => q5.keep id hl hm, fun id hl _ hm => q5.kv id hl hm⟩, ⟨fun q hq => ?_, o2⟩⟩
              · rcases ho with ho | ho
                · have hlt : id < M.nx := hwf id (by rw [hm]; simp)
                  omega
                · exact hn ho
              · obtain ⟨e, w1, x, w2, w3, w4, w5, w6⟩ := o1 q hq
                exact ⟨x, w2, w4, w5⟩
            cases ex with
            | normal =>
              obtain ⟨τ, t1, t2⟩ := q4
              obtain ⟨r, M', w⟩ := fin τ (List.all_eq_true.1 h3.1 τ (by rw [t1]; simp)) t2 hV
              exact ⟨r, M', by simp only [acall, h1, q1]; exact w.1, w.2⟩
            | exit i => cases hV
            | ret =>
              obtain ⟨τ, t1, t2⟩ := q4
              obtain ⟨r, M', w⟩ := fin τ (List.all_eq_true.1 h3.2 τ t1) t2 hV
              exact ⟨r, M', by simp only [acall, h1, q1]; exact w.1, w.2⟩
        · cases h3

/-! ### A function of the model's program, turned; what the program's tables have to say -/
def vComp (P : Program) (mode : FuncId → Mode) (os : List TypeId) (hs : List Hint) (pm : Pm) (S : Sig) (f : FuncId) (fn : Func) : Option CF :=
  match promComp P mode os hs pm fn with
  | some cf => if chkV S f cf then some (vCF S.no cf) else none
  | none => none

theorem vComp_ok {P : Program} {mode : FuncId → Mode} {os : List TypeId} {hs : List Hint} {pm : Pm} {S : Sig} {f : FuncId} {fn : Func} {cv : CF} (h : vComp P mode os hs pm S f fn = some cv) :
    promComp P mode os hs pm fn = some ((promComp P mode os hs pm fn).getD cf0) ∧ vCF S.no ((promComp P mode os hs pm fn).getD cf0) = cv ∧ chkV S f ((promComp P mode os hs pm fn).getD cf0) = true := by
  unfold vComp at h
  split at h
  · rename_i cf hcf
    split at h
    · rename_i hk
      injection h with h
      rw [hcf]; exact ⟨rfl, h, hk⟩
    · cases h
  · cases h

abbrev SigL := List (Nat × (List (Nat × (TypeId × Nat)) × List (Pt × (TypeId × Nat))))
def lookS (f : Nat) : SigL → List (Nat × (TypeId × Nat)) × List (Pt × (TypeId × Nat))
  | [] => ([], [])
  | q :: r => if f = q.1 then q.2 else lookS f r
def sigOf (L : SigL) : Sig := ⟨fun f => (lookS f L).1, fun f => (lookS f L).2, L.map (·.1)⟩

theorem lookS_none {f : Nat} : ∀ {L : SigL}, (∀ q ∈ L, f ≠ q.1) → lookS f L = ([], [])
  | [], _ => rfl
  | q :: r, h => by
    simp only [lookS]
    rw [if_neg (h q (by simp))]
    exact lookS_none fun p hp => h p (by simp [hp])

theorem sigOf_ok {L : SigL} {mode : FuncId → Mode} (h : L.all (fun q => decide (mode q.1 = .rw)) = true) : SigOK (sigOf L) mode := by
  constructor
  · intro f hf
    have : lookS f L = ([], []) := lookS_none fun q hq e => by
      subst e
      exact hf (of_decide_eq_true (List.all_eq_true.1 h q hq))
    simp only [sigOf, this, and_self]
  · intro f hf
    have : lookS f L = ([], []) := lookS_none fun q hq e => by
      subst e
      have : ((L.map (·.1)).contains q.1) = true := by
        rw [List.contains_iff_mem]; exact List.mem_map.2 ⟨q, hq, rfl⟩
      simp only [sigOf] at hf
      rw [this] at hf; cases hf
    simp only [sigOf, this]

end Go.Proofs.Ytnbhmlflbbddcaa.Sx
