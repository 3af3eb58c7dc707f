/-
  SX, PART J: SLICES AS VALUES: code and calls: 'law_v': what the machine answers where slices are values, the machine with tokens answers.
-/
import Derived.Test.YtegkhdflmboljaaSxDPl
namespace Go.Proofs.Ytegkhdflmboljaa.Sx
open Go
set_option linter.unusedSimpArgs false
set_option linter.unusedVariables false

theorem getP_set_ne {ρ : List AV} {d r : Nat} {p : Pt} {v : AV} (h : r ≠ d) : getP (ρ.set d v) r p = getP ρ r p := by
  simp only [getP, List.getElem?_set_ne (Ne.symm h)]
theorem getP_set {ρ : List AV} {d : Nat} {p : Pt} {v : AV} (h : d < ρ.length) : getP (ρ.set d v) d p = getR v p := by
  simp only [getP, List.getElem?_set_self h, Option.bind_some]
theorem getP_some {ρ : List AV} {r : Nat} {p : Pt} {x : AV} (h : getP ρ r p = some x) : ∃ y, ρ[r]? = some y ∧ getR y p = some x ∧ ev ρ (.t r) = y := by
  simp only [getP] at h
  obtain ⟨y, h1, h2⟩ := Option.bind_eq_some_iff.1 h
  exact ⟨y, h1, h2, by simp only [ev, List.getD_eq_getElem?_getD, h1, Option.getD_some]⟩

theorem copyX_mem {σ : List Tk} {d r : Nat} {f : Pt → Option Pt} {e : Tk} (h : e ∈ copyX σ d r f) : ∃ e0 ∈ σ, e0.r = r ∧ e.r = d ∧ e.k = e0.k ∧ e.ty = e0.ty ∧ f e0.p = some e.p := by
  simp only [copyX, List.mem_filterMap] at h
  obtain ⟨e0, h1, h2⟩ := h
  split at h2
  · rename_i hr
    obtain ⟨p, hp, rfl⟩ := Option.map_eq_some_iff.1 h2
    exact ⟨e0, h1, Nat.eq_of_beq_eq_true hr, rfl, rfl, rfl, hp⟩
  · cases h2

theorem nilC_mem {d k : Nat} : ∀ {off : Nat} {cs : List AV} {e : Tk}, e ∈ nilC d k off cs → e.r = d ∧ e.ty = none ∧ ∃ j, e.p = .c (off + j) ∧ e.k = k + (off + j) ∧ cs[j]? = some .nilsl
  | off, [], e, h => by simp [nilC] at h
  | off, a :: cs, e, h => by
    have rest : e ∈ nilC d k (off + 1) cs → e.r = d ∧ e.ty = none ∧ ∃ j, e.p = .c (off + j) ∧ e.k = k + (off + j) ∧ (a :: cs)[j]? = some .nilsl := fun h => by
      obtain ⟨h1, h2, j, h3, h4, h5⟩ := nilC_mem h
      exact ⟨h1, h2, j + 1, by rw [h3]; congr 1; omega, by rw [h4]; omega, by simpa using h5⟩
    simp only [nilC] at h
    split at h
    · rename_i hn
      rcases List.mem_cons.1 h with rfl | h
      · exact ⟨rfl, rfl, 0, rfl, rfl, by rw [nilAt_eq hn]; rfl⟩
      · exact rest h
    · exact rest h

def Src (k : Nat) (σ : List Tk) (ρ : List AV) (d : Nat) (r : AV) (e : Tk) : Prop :=
  e.r = d ∧ ((∃ e0 ∈ σ, e0.k = e.k ∧ e0.ty = e.ty ∧ getR r e.p = getP ρ e0.r e0.p) ∨ (getR r e.p = some .nilsl ∧ k ≤ e.k ∧ e.ty = none))

section
variable {own : Nat → Prop} {σ : List Tk} {ρ : List AV} {M0 : MM} {lo : Nat} (hT : TInv own σ ρ M0 lo)
include hT

omit hT in
theorem cells_one {x : AV} {ty : Option (TypeId × Nat)} (h : TokIn M0 lo x ty) : x.cells = [x] := by
  rcases h with rfl | rfl | ⟨id, ds, len, t, sz, rfl, _⟩ <;> rfl

theorem cellsE_src {d k off : Nat} {x : X} {e : Tk} (h : e ∈ cellsE σ d k off x) : e.r = d ∧ ∃ j, e.p = .c (off + j) ∧ ((∃ e0 ∈ σ, e0.k = e.k ∧ e0.ty = e.ty ∧ (ev ρ x).cells[j]? = getP ρ e0.r e0.p ∧ ∃ y, getP ρ e0.r e0.p = some y) ∨ ((ev ρ x).cells[j]? = some .nilsl ∧ k ≤ e.k ∧ e.ty = none)) := by
  cases x with
  | k a =>
    simp only [cellsE] at h
    obtain ⟨h1, h2, j, h3, h4, h5⟩ := nilC_mem h
    exact ⟨h1, j, h3, .inr ⟨h5, by rw [h4]; omega, h2⟩⟩
  | t r =>
    simp only [cellsE] at h
    obtain ⟨e0, h1, rfl, h3, h4, h5, h6⟩ := copyX_mem h
    obtain ⟨y, hy, hk, _⟩ := hT.each e0 h1
    obtain ⟨z, hz1, hz2, hz3⟩ := getP_some hy
    cases hp : e0.p with
    | w =>
      rw [hp] at h6 hz2
      simp only [Option.some.injEq] at h6
      simp only [getR, Option.some.injEq] at hz2; subst hz2
      refine ⟨h3, 0, by rw [← h6]; rfl, .inl ⟨e0, h1, h4.symm, h5.symm, ?_, z, hy⟩⟩
      rw [hz3, cells_one hk, hy]; rfl
    | c j =>
      rw [hp] at h6 hz2
      simp only [Option.some.injEq] at h6
      simp only [getR] at hz2
      split at hz2
      · rename_i cs
        refine ⟨h3, j, h6.symm, .inl ⟨e0, h1, h4.symm, h5.symm, ?_, y, hy⟩⟩
        rw [hz3, hy]; exact hz2
      · cases hz2
    | t j => rw [hp] at h6; cases h6

omit hT in
theorem setAt_out {cs vs : List AV} {o j : Nat} (h : o + vs.length ≤ cs.length) (hj : j < o ∨ o + vs.length ≤ j) : (setAt cs o vs)[j]? = cs[j]? := by
  simp only [setAt]
  rcases hj with hj | hj
  · rw [List.append_assoc, List.getElem?_append_left (by simp; omega), List.getElem?_take_of_lt hj]
  · rw [List.getElem?_append_right (by simp; omega), List.getElem?_drop]
    congr 1; simp; omega
omit hT in
theorem setAt_in {cs vs : List AV} {o j : Nat} (h : o + vs.length ≤ cs.length) (hj : j < vs.length) : (setAt cs o vs)[o + j]? = vs[j]? := by
  simp only [setAt]
  rw [List.append_assoc, List.getElem?_append_right (by simp; omega)]
  have : o + j - (cs.take o).length = j := by simp; omega
  rw [this, List.getElem?_append_left hj]

def SrcC (k : Nat) (σ : List Tk) (ρ : List AV) (d : Nat) (cs : List AV) (e : Tk) : Prop :=
  e.r = d ∧ ∃ j, e.p = .c j ∧ ((∃ e0 ∈ σ, e0.k = e.k ∧ e0.ty = e.ty ∧ cs[j]? = getP ρ e0.r e0.p) ∨ (cs[j]? = some .nilsl ∧ k ≤ e.k ∧ e.ty = none))

theorem cellsE_in {d k off : Nat} {x : X} {e : Tk} {cs : List AV} (h : e ∈ cellsE σ d k off x) (hl : off + (ev ρ x).cells.length ≤ cs.length) : SrcC k σ ρ d (setAt cs off (ev ρ x).cells) e := by
  obtain ⟨h1, j, h2, h3⟩ := cellsE_src hT h
  refine ⟨h1, off + j, h2, ?_⟩
  rcases h3 with ⟨e0, g1, g2, g3, g4, y, g5⟩ | ⟨g1, g2⟩
  · have hj : j < (ev ρ x).cells.length := by
      rw [g5] at g4; exact (List.getElem?_eq_some_iff.1 g4).1
    exact .inl ⟨e0, g1, g2, g3, by rw [setAt_in hl hj, g4]⟩
  · have hj : j < (ev ρ x).cells.length := (List.getElem?_eq_some_iff.1 g1).1
    exact .inr ⟨by rw [setAt_in hl hj, g1], g2⟩

theorem fillE_src {d k : Nat} : ∀ {ps : List (Nat × Nat × X)} {acc : List Tk} {cs cs' : List AV}, (∀ e ∈ acc, SrcC k σ ρ d cs e) → fill cs (ps.map fun p => (p.1, p.2.1, ev ρ p.2.2)) = some cs' → ∀ e ∈ fillE σ d k ps acc, SrcC k σ ρ d cs' e
  | [], acc, cs, cs', ha, hf, e, he => by
    simp only [List.map_nil, fill, Option.some.injEq] at hf; subst hf
    exact ha e he
  | q :: ps, acc, cs, cs', ha, hf, e, he => by
    simp only [List.map_cons, fill] at hf
    split at hf
    · rename_i hc
      refine fillE_src (acc := _) (fun f hf' => ?_) hf e he
      rcases List.mem_append.1 hf' with hf' | hf'
      · obtain ⟨hf1, hf2⟩ := List.mem_filter.1 hf'
        obtain ⟨g1, j, g2, g3⟩ := ha f hf1
        rw [g2] at hf2
        simp only [Bool.or_eq_true, Nat.blt_eq, Nat.ble_eq] at hf2
        have e1 : (setAt cs q.1 (ev ρ q.2.2).cells)[j]? = cs[j]? := setAt_out (by omega) (by omega)
        exact ⟨g1, j, g2, by rw [e1]; exact g3⟩
      · exact cellsE_in hT hf' (by omega)
    · cases hf

omit hT in
theorem nilC_src {d k : Nat} {cs : List AV} {e : Tk} (h : e ∈ nilC d k 0 cs) : SrcC k σ ρ d cs e := by
  obtain ⟨h1, h2, j, h3, h4, h5⟩ := nilC_mem h
  exact ⟨h1, j, by rw [h3]; congr 1; omega, .inr ⟨h5, by omega, h2⟩⟩

omit hT in
theorem SrcC.src {k d : Nat} {cs : List AV} {e : Tk} (h : SrcC k σ ρ d cs e) : Src k σ ρ d (.agg cs) e := by
  obtain ⟨h1, j, h2, h3⟩ := h
  refine ⟨h1, ?_⟩
  rw [h2]
  exact h3

theorem genE_src {k d : Nat} {i : I} {e : Tk} (h : e ∈ genE k σ d i) {call : CallT} {mode : FuncId → Mode} {draw : Bool} {lim : Lm} {fresh : Nat} {M M' : MM} {r : AV} (hs : istep call mode draw lo lim fresh i ρ M = some (r, M')) : Src k σ ρ d r e := by
  cases i <;> try (simp [genE] at h; done)
  case mov x =>
    simp only [istep, Option.some.injEq, Prod.mk.injEq] at hs
    obtain ⟨rfl, rfl⟩ := hs
    cases x with
    | t q =>
      obtain ⟨e0, h1, rfl, h3, h4, h5, h6⟩ := copyX_mem h
      injection h6 with h6
      obtain ⟨y, hy, hk, _⟩ := hT.each e0 h1
      obtain ⟨z, hz1, hz2, hz3⟩ := getP_some hy
      exact ⟨h3, .inl ⟨e0, h1, h4.symm, h5.symm, by rw [hz3, ← h6, hz2, hy]⟩⟩
    | k a =>
      simp only [genE] at h
      split at h
      · rename_i hn
        simp only [List.mem_singleton] at h; subst h
        exact ⟨rfl, .inr ⟨by simp only [getR, ev, nilAt_eq hn], Nat.le_refl _, rfl⟩⟩
      · split at h
        · exact (nilC_src h).src
        · simp at h
  case mk z ps =>
    simp only [istep] at hs
    obtain ⟨cs, hf, hh⟩ := Option.map_eq_some_iff.1 hs
    simp only [Prod.mk.injEq] at hh
    obtain ⟨rfl, rfl⟩ := hh
    exact (fillE_src hT (fun f hf => nilC_src hf) hf e h).src
  case fld off n agg x =>
    cases x with
    | k a => simp [genE] at h
    | t q =>
      simp only [genE] at h
      obtain ⟨e0, h1, rfl, h3, h4, h5, h6⟩ := copyX_mem h
      obtain ⟨y, hy, hk, _⟩ := hT.each e0 h1
      obtain ⟨z, hz1, hz2, hz3⟩ := getP_some hy
      cases hp : e0.p with
      | w => rw [hp] at h6; cases h6
      | t j => rw [hp] at h6; cases h6
      | c j =>
        rw [hp] at h6 hz2
        simp only at h6
        simp only [getR] at hz2
        split at hz2
        · rename_i cs
          simp only [istep, hz3] at hs
          cases agg
          · simp only [Bool.false_eq_true, if_false] at h6 hs
            split at h6
            · rename_i hj
              injection h6 with h6
              have : j = off := Nat.eq_of_beq_eq_true hj
              subst this
              obtain ⟨w, hw, hh⟩ := Option.map_eq_some_iff.1 hs
              simp only [Prod.mk.injEq] at hh
              obtain ⟨rfl, rfl⟩ := hh
              exact ⟨h3, .inl ⟨e0, h1, h4.symm, h5.symm, by rw [← h6, hy]; simp only [getR]; rw [← hw]; exact hz2⟩⟩
            · cases h6
          · simp only [if_true] at h6 hs
            split at h6
            · rename_i hj
              simp only [Bool.and_eq_true, Nat.ble_eq, Nat.blt_eq] at hj
              injection h6 with h6
              split at hs
              · simp only [Option.some.injEq, Prod.mk.injEq] at hs
                obtain ⟨rfl, rfl⟩ := hs
                refine ⟨h3, .inl ⟨e0, h1, h4.symm, h5.symm, ?_⟩⟩
                rw [← h6, hy]
                simp only [getR]
                rw [List.getElem?_take_of_lt (by omega), List.getElem?_drop]
                have : off + (j - off) = j := by omega
                rw [this]; exact hz2
              · cases hs
            · cases h6
        · cases hz2
  case ext x j0 =>
    cases x with
    | k a => simp [genE] at h
    | t q =>
      simp only [genE] at h
      obtain ⟨e0, h1, rfl, h3, h4, h5, h6⟩ := copyX_mem h
      obtain ⟨y, hy, hk, _⟩ := hT.each e0 h1
      obtain ⟨z, hz1, hz2, hz3⟩ := getP_some hy
      cases hp : e0.p with
      | w => rw [hp] at h6; cases h6
      | c j => rw [hp] at h6; cases h6
      | t j =>
        rw [hp] at h6 hz2
        simp only at h6
        split at h6
        · rename_i hj
          injection h6 with h6
          have : j = j0 := Nat.eq_of_beq_eq_true hj
          subst this
          simp only [getR] at hz2
          split at hz2
          · rename_i cs
            simp only [istep, hz3] at hs
            obtain ⟨w, hw, hh⟩ := Option.map_eq_some_iff.1 hs
            simp only [Prod.mk.injEq] at hh
            obtain ⟨rfl, rfl⟩ := hh
            exact ⟨h3, .inl ⟨e0, h1, h4.symm, h5.symm, by rw [← h6, hy]; simp only [getR]; rw [← hw]; exact hz2⟩⟩
          · cases hz2
        · cases h6
  case lnew cs =>
    simp only [istep, Option.some.injEq, Prod.mk.injEq] at hs
    obtain ⟨rfl, rfl⟩ := hs
    exact (nilC_src h).src
  case lbox x =>
    simp only [istep] at hs
    split at hs
    · cases hs
    · simp only [Option.some.injEq, Prod.mk.injEq] at hs
      obtain ⟨rfl, rfl⟩ := hs
      obtain ⟨h1, j, h2, h3⟩ := cellsE_src hT h
      refine ⟨h1, ?_⟩
      rw [h2, Nat.zero_add]
      rcases h3 with ⟨e0, g1, g2, g3, g4, _⟩ | ⟨g1, g2⟩
      · exact .inl ⟨e0, g1, g2, g3, g4⟩
      · exact .inr ⟨g1, g2⟩
  case setc off n l x =>
    cases l with
    | k a => simp [genE] at h
    | t L =>
      simp only [istep] at hs
      split at hs
      · rename_i cs hcs
        split at hs
        · rename_i hc
          simp only [Option.some.injEq, Prod.mk.injEq] at hs
          obtain ⟨rfl, rfl⟩ := hs
          simp only [genE] at h
          rcases List.mem_append.1 h with h | h
          · obtain ⟨e0, h1, rfl, h3, h4, h5, h6⟩ := copyX_mem h
            obtain ⟨y, hy, hk, _⟩ := hT.each e0 h1
            obtain ⟨z, hz1, hz2, hz3⟩ := getP_some hy
            rw [hz3] at hcs; subst hcs
            cases hp : e0.p with
            | w => rw [hp] at h6; cases h6
            | t j => rw [hp] at h6; cases h6
            | c j =>
              rw [hp] at h6 hz2
              simp only at h6
              split at h6
              · rename_i hj
                simp only [Bool.or_eq_true, Nat.blt_eq, Nat.ble_eq] at hj
                injection h6 with h6
                refine ⟨h3, .inl ⟨e0, h1, h4.symm, h5.symm, ?_⟩⟩
                rw [← h6, hy]
                simp only [getR]
                rw [setAt_out (by omega) (by omega)]
                exact hz2
              · cases h6
          · exact (cellsE_in hT h (by omega)).src
        · cases hs
      · cases hs
end

theorem newE_mem {d k : Nat} : ∀ {j : Nat} {l : List (Pt × (TypeId × Nat))} {e : Tk}, e ∈ newE d k j l → ∃ n q, l[n]? = some q ∧ e.r = d ∧ e.p = q.1 ∧ e.k = k + (j + n) ∧ e.ty = some q.2
  | j, [], e, h => by simp [newE] at h
  | j, q :: l, e, h => by
    rcases List.mem_cons.1 h with rfl | h
    · exact ⟨0, q, rfl, rfl, rfl, rfl, rfl⟩
    · obtain ⟨n, q', h1, h2, h3, h4, h5⟩ := newE_mem h
      exact ⟨n + 1, q', by simpa using h1, h2, h3, by rw [h4]; omega, h5⟩

theorem newG_w {i : I} : ∀ q ∈ newG i, q.1 = .w := by
  intro q hq
  cases i <;> simp only [newG, List.not_mem_nil, List.mem_singleton] at hq
  all_goals (subst hq; rfl)
theorem newG_sub (S : Sig) {d k : Nat} {i : I} {e : Tk} (h : e ∈ newE d k 0 (newG i)) : e ∈ newE d k 0 (newT S i) := by
  cases i <;> simp only [newG, newE, List.not_mem_nil] at h
  all_goals exact h
theorem gen_or_new {S : Sig} {i : I} (h : newT S i ≠ []) (k : Nat) (σ : List Tk) (d : Nat) : genE k σ d i = [] := by
  cases i <;> first | rfl | (simp [newT] at h)

/-- What is known of a state. -/
structure SInv (own : Nat → Prop) (n : Nat) (σ : Sg) (ρ : List AV) (M : MM) (lo : Nat) : Prop where
  len : n ≤ ρ.length
  tok : TInv own σ.es ρ M lo
  ag : AInv σ.ag ρ

theorem want_vv (g : Option (Nat × Bool)) (ρ : List AV) : want g (vvs ρ) = want g ρ := by
  cases g with
  | none => rfl
  | some p =>
    obtain ⟨s, b⟩ := p
    simp only [want, vvs_get]
    cases ρ[s]? with
    | none => rfl
    | some x =>
      simp only [Option.map_some]
      rcases dv_cases x with ⟨v, rfl, e⟩ | ⟨rfl, e⟩ | ⟨h1, h2⟩
      · rw [e]
      · rfl
      · cases x with
        | tup cs => cases cs <;> rfl
        | d d => cases d with
          | sl => rfl
          | v v => exact absurd rfl (h1 v)
        | _ => rfl

theorem setO_vv (ρ : List AV) (d : Option Nat) (v : AV) : vvs (setO ρ d v) = setO (vvs ρ) d (vv v) := by
  cases d with
  | none => rfl
  | some d => exact vvs_set ρ d v

theorem useI_sub {S : Sig} {own : Nat → Prop} {σ σ' : List Tk} {ρ : List AV} {M : MM} {lo : Nat} {i : I} (h : useI S σ i = some σ') (hT : TInv own σ ρ M lo) : ∀ e ∈ σ', e ∈ σ := by
  cases i <;> simp only [useI, Option.some.injEq] at h
  case vapp => exact (useX_ok h hT).1
  case vext => exact (useX_ok h hT).1
  case call => exact (useArgs_ok h hT).1
  case callk => exact (useArgs_ok h hT).1
  all_goals (subst h; exact fun _ h => h)

theorem TokIn.fr {used : Nat → Prop} {fresh : Nat} {M M' : MM} (hf : Fr used fresh M M') {lo : Nat} {x : AV} {ty : Option (TypeId × Nat)} (h : TokIn M lo x ty) (hn : ∀ id, idV x = some id → ¬ used id) : TokIn M' lo x ty := by
  rcases h with rfl | rfl | ⟨id, ds, len, t, sz, rfl, h1, h2, h3⟩
  · exact .inl rfl
  · exact .inr (.inl rfl)
  · exact .inr (.inr ⟨id, ds, len, t, sz, rfl, h1, h2, hf.tok id _ _ (hn id rfl) h3⟩)

theorem TokIn.mem {M : MM} {lo : Nat} {x : AV} {ty : Option (TypeId × Nat)} (h : TokIn M lo x ty) {id : Nat} (hid : idV x = some id) : ∃ t u, M.mem id = some (.tok t u) := by
  rcases h with rfl | rfl | ⟨id', ds, len, t, sz, rfl, h1, h2, h3⟩
  · simp [idV] at hid
  · simp [idV] at hid
  · simp only [idV, Option.some.injEq] at hid; subst hid; exact ⟨_, _, h3⟩

theorem AInv.set {ag : List Nat} {ρ : List AV} (h : AInv ag ρ) (d : Nat) (v : AV) : AInv (ag.filter fun L => !(Nat.beq L d)) (ρ.set d v) := by
  intro L hL
  obtain ⟨h1, h2⟩ := List.mem_filter.1 hL
  have hne : L ≠ d := fun e => by subst e; have : Nat.beq L L = true := by rw [Nat.beq_eq]
                                  rw [this] at h2; cases h2
  rw [List.getElem?_set_ne (Ne.symm hne)]
  exact h L h1

theorem AInv.set_ag {ag : List Nat} {ρ : List AV} (h : AInv ag ρ) {d : Nat} (hd : d < ρ.length) {v : AV} (hv : AgOK v) : AInv (d :: ag) (ρ.set d v) := by
  intro L hL
  by_cases e : L = d
  · subst e; exact ⟨v, List.getElem?_set_self hd, hv⟩
  · rw [List.getElem?_set_ne (Ne.symm e)]
    exact h L ((List.mem_cons.1 hL).resolve_left e)

theorem aggI_ok {i : I} (h : aggI i = true) {call : CallT} {mode : FuncId → Mode} {draw : Bool} {lo : Nat} {lim : Lm} {fresh : Nat} {ρ : List AV} {M M' : MM} {r : AV} (hs : istep call mode draw lo lim fresh i ρ M = some (r, M')) : AgOK r := by
  cases i <;> simp only [aggI, Bool.false_eq_true] at h
  case mov x =>
    simp only [istep, Option.some.injEq, Prod.mk.injEq] at hs
    obtain ⟨rfl, rfl⟩ := hs
    cases x with
    | t q => simp at h
    | k a =>
      cases a with
      | tup cs =>
        cases cs with
        | nil => exact .inr rfl
        | cons => simp at h
      | _ => simp at h
  case lnew cs =>
    simp only [istep, Option.some.injEq, Prod.mk.injEq] at hs
    obtain ⟨rfl, rfl⟩ := hs; exact .inl ⟨_, rfl⟩
  case lbox x =>
    simp only [istep] at hs
    split at hs
    · cases hs
    · simp only [Option.some.injEq, Prod.mk.injEq] at hs
      obtain ⟨rfl, rfl⟩ := hs; exact .inl ⟨_, rfl⟩
  case setc o n l x =>
    simp only [istep] at hs
    split at hs
    · split at hs
      · simp only [Option.some.injEq, Prod.mk.injEq] at hs
        obtain ⟨rfl, rfl⟩ := hs; exact .inl ⟨_, rfl⟩
      · cases hs
    · cases hs

section
variable {c1 c2 : CallT} {S : Sig} (hc : CSV S c1 c2) {mode : FuncId → Mode} (hS : SigOK S mode) {draw : Bool} {lo : Nat} {lim : Lm} {fresh n : Nat} {own : Nat → Prop}

theorem killE_inv {σ : List Tk} {ρ : List AV} {M M' : MM} {d : Nat} {v : AV} {used : Nat → Prop} (hT : TInv own σ ρ M lo) (hf : Fr used fresh M M') (hu : ∀ id, used id → ∀ e ∈ σ, ∀ y, getP ρ e.r e.p = some y → idV y ≠ some id) : TInv own (killE d σ) (ρ.set d v) M' lo := by
  have mem : ∀ e ∈ killE d σ, e ∈ σ ∧ getP (ρ.set d v) e.r e.p = getP ρ e.r e.p := fun e he => by
    obtain ⟨h1, h2⟩ := List.mem_filter.1 he
    refine ⟨h1, getP_set_ne fun h => ?_⟩
    rw [h] at h2
    have : Nat.beq d d = true := by rw [Nat.beq_eq]
    rw [this] at h2; cases h2
  refine ⟨fun e he => ?_, fun e he f hf' hk => ?_, fun e he f hf' hk x y id hx hy hid => ?_⟩
  · obtain ⟨h1, h2⟩ := mem e he
    obtain ⟨x, g1, g2, g3⟩ := hT.each e h1
    exact ⟨x, by rw [h2]; exact g1, g2.fr hf (fun id hid hus => hu id hus e h1 x g1 hid), g3⟩
  · rw [(mem e he).2, (mem f hf').2]; exact hT.same e (mem e he).1 f (mem f hf').1 hk
  · rw [(mem e he).2] at hx; rw [(mem f hf').2] at hy
    exact hT.diff e (mem e he).1 f (mem f hf').1 hk x y id hx hy hid

theorem keep_inv {σ : List Tk} {ρ : List AV} {M M' : MM} {used : Nat → Prop} (hT : TInv own σ ρ M lo) (hf : Fr used fresh M M') (hu : ∀ id, used id → ∀ e ∈ σ, ∀ y, getP ρ e.r e.p = some y → idV y ≠ some id) : TInv own σ ρ M' lo :=
  ⟨fun e he => by
    obtain ⟨x, g1, g2, g3⟩ := hT.each e he
    exact ⟨x, g1, g2.fr hf (fun id hid hus => hu id hus e he x g1 hid), g3⟩, hT.same, hT.diff⟩

include hc hS in
/-- One operation. -/
theorem step1_v {σ σ' : Sg} {o : Op1} {s : St} {s2 : St} (hV : step1 c2 mode draw lo lim fresh (vOp S.no o) ⟨vvs s.ρ, vm s.M⟩ = some s2) (hk : chkOp S n σ o = some σ') (hI : SInv own n σ s.ρ s.M lo) (hlo : lo ≤ s.M.nx) (hwf : WF s.M) (hfr : s.M.mem fresh = none)
    (hlof : lo ≤ fresh) (hown : ∀ id, s.M.nx ≤ id → own id) (hownf : own fresh) (hL : lim.b + lim.n ≤ s.M.nx)
    (hlm : ∀ es, useI S σ.es o.i = some es → ∀ e ∈ σ.es, (∀ f ∈ es, f.k ≠ e.k) → ∀ x id, getP s.ρ e.r e.p = some x → idV x = some id → lim.ok id = true) :
    ∃ s', step1 c1 mode draw lo lim fresh o s = some s' ∧ vvs s'.ρ = s2.ρ ∧ vm s'.M = s2.M ∧ SInv own n σ' s'.ρ s'.M lo ∧ Fr own fresh s.M s'.M ∧
      (∀ e ∈ σ'.es, ∀ x id, getP s'.ρ e.r e.p = some x → idV x = some id → (∃ e0 ∈ σ.es, e0.k = e.k ∧ getP s.ρ e0.r e0.p = some x) ∨
        (top σ.es ≤ e.k ∧ e.k < top σ.es + (newT S o.i).length ∧ (s.M.nx ≤ id ∨ id = fresh ∨ lim.ok id = true))) := by
  obtain ⟨ρ, M⟩ := s
  simp only at hI hlo hwf hfr hown hV hL hlm
  unfold chkOp at hk
  split at hk
  · cases hk
  · rename_i es hu
    have hsub := useI_sub hu hI.tok
    have hT0 := useX_sub hsub hI.tok
    have killOld : ∀ (d : Nat) (v : AV), ∀ e ∈ killE d es, ∀ x id, getP (ρ.set d v) e.r e.p = some x → idV x = some id → ∃ e0 ∈ σ.es, e0.k = e.k ∧ getP ρ e0.r e0.p = some x := fun d v e he x id hx _ => by
      obtain ⟨h1, h2⟩ := List.mem_filter.1 he
      refine ⟨e, hsub e h1, rfl, ?_⟩
      rw [← hx]
      refine (getP_set_ne fun h => ?_).symm
      rw [h] at h2
      have : Nat.beq d d = true := by rw [Nat.beq_eq]
      rw [this] at h2; cases h2
    split at hk
    · rename_i hroots
      unfold step1 at hV ⊢
      simp only [vOp, want_vv] at hV
      split at hV
      · cases hV
      · -- not carried out
        rename_i hw
        simp only [Option.some.injEq] at hV; subst hV
        suffices hh : SInv own n σ' (setO ρ o.dst .undef) M lo ∧ (∀ e ∈ σ'.es, ∀ x id, getP (setO ρ o.dst .undef) e.r e.p = some x → idV x = some id → ∃ e0 ∈ σ.es, e0.k = e.k ∧ getP ρ e0.r e0.p = some x) from
          ⟨⟨setO ρ o.dst .undef, M⟩, by rw [hw], by simp only [setO_vv]; rfl, rfl, hh.1, .refl hwf, fun e he x id hx hid => .inl (hh.2 e he x id hx hid)⟩
        cases hd : o.dst with
        | none =>
          rw [hd] at hk
          simp only [Option.some.injEq] at hk; subst hk
          exact ⟨⟨hI.len, hT0, hI.ag⟩, fun e he x id hx _ => ⟨e, hsub e he, rfl, hx⟩⟩
        | some d =>
          rw [hd] at hk
          simp only at hk
          split at hk
          · cases hg : o.g with
            | none => rw [hg] at hw; cases hw
            | some g =>
              rw [hg] at hk
              simp only [Option.some.injEq] at hk; subst hk
              have hdl : d < ρ.length := by have h1 : d < n := by simpa using ‹Nat.blt d n = true›
                                            have := hI.len; omega
              have hTk : TInv own (killE d es) (ρ.set d .undef) M lo := killE_inv (used := fun _ => False) hT0 (.refl (fresh := 0) hwf) (fun _ h => h.elim)
              have hnew : ∀ e ∈ newE d (top σ.es) 0 (newG o.i), getP (ρ.set d .undef) e.r e.p = some .undef ∧ top σ.es ≤ e.k := fun e he => by
                obtain ⟨j, q, h1, h2, h3, h4, h5⟩ := newE_mem he
                have hq : q.1 = .w := newG_w q (List.mem_of_getElem? h1)
                rw [h2, h3, hq, getP_set hdl]
                exact ⟨rfl, by omega⟩
              refine ⟨⟨by simp only [setO, List.length_set]; exact hI.len, ⟨fun e he => ?_, fun e he f hf hkk => ?_, fun e he f hf hkk x y id hx hy hid => ?_⟩, hI.ag.set d .undef⟩, fun e he x id hx hid => ?_⟩
              · rcases List.mem_append.1 he with he | he
                · exact hTk.each e he
                · exact ⟨.undef, (hnew e he).1, .inr (.inl rfl), fun id h => by simp [idV] at h⟩
              · have small : ∀ e0 ∈ killE d es, e0.k < top σ.es := fun e0 h => top_gt (hsub e0 (List.mem_filter.1 h).1)
                rcases List.mem_append.1 he with he | he <;> rcases List.mem_append.1 hf with hf | hf
                · exact hTk.same e he f hf hkk
                · have h1 := small e he; have h2 := (hnew f hf).2; omega
                · have h1 := small f hf; have h2 := (hnew e he).2; omega
                · show getP (ρ.set d .undef) e.r e.p = getP (ρ.set d .undef) f.r f.p
                  rw [(hnew e he).1, (hnew f hf).1]
              · simp only [setO] at hx hy
                rcases List.mem_append.1 he with he | he
                · rcases List.mem_append.1 hf with hf | hf
                  · exact hTk.diff e he f hf hkk x y id hx hy hid
                  · rw [(hnew f hf).1] at hy; injection hy with hy; subst hy; simp [idV]
                · rw [(hnew e he).1] at hx; injection hx with hx; subst hx; simp [idV] at hid
              · rcases List.mem_append.1 he with he | he
                · exact killOld d .undef e he x id hx hid
                · rw [show getP (setO ρ (some d) .undef) e.r e.p = some .undef from (hnew e he).1] at hx; injection hx with hx; subst hx; simp [idV] at hid
          · cases hk
      · rename_i hw
        cases hi : istep c2 mode draw lo lim fresh (vI S.no o.i) (vvs ρ) (vm M) with
        | none => rw [hi] at hV; cases hV
        | some p =>
          obtain ⟨rv, V'⟩ := p
          rw [hi] at hV
          simp only [Option.some.injEq] at hV; subst hV
          obtain ⟨r, M', used, q1, rfl, rfl, q4, q5, q6⟩ := istep_v hc hS hi hlo hwf hfr hlof hI.tok hI.ag hu hroots hown hownf hL (hlm es hu)
          suffices hh : SInv own n σ' (setO ρ o.dst r) M' lo ∧ (∀ e ∈ σ'.es, ∀ x id, getP (setO ρ o.dst r) e.r e.p = some x → idV x = some id → (∃ e0 ∈ σ.es, e0.k = e.k ∧ getP ρ e0.r e0.p = some x) ∨
              (top σ.es ≤ e.k ∧ e.k < top σ.es + (newT S o.i).length ∧ (M.nx ≤ id ∨ id = fresh ∨ lim.ok id = true))) from
            ⟨⟨setO ρ o.dst r, M'⟩, by rw [hw]; simp only [q1], by simp only [setO_vv], rfl, hh.1, q4.mono (fun id h => (q5 id h).1) (.inr rfl), hh.2⟩
          have hT1 : TInv own es ρ M' lo := keep_inv hT0 q4 (fun id h => (q5 id h).2)
          cases hd : o.dst with
          | none =>
            rw [hd] at hk
            simp only [Option.some.injEq] at hk; subst hk
            exact ⟨⟨hI.len, hT1, hI.ag⟩, fun e he x id hx _ => .inl ⟨e, hsub e he, rfl, hx⟩⟩
          | some d =>
            rw [hd] at hk
            simp only at hk
            split at hk
            · rename_i hdn
              have hdl : d < ρ.length := by have h1 : d < n := by simpa using hdn
                                            have := hI.len; omega
              have main : SInv own n ⟨killE d es ++ genE (top σ.es) es d o.i ++ newE d (top σ.es) 0 (newT S o.i), if aggI o.i then d :: σ.ag else σ.ag.filter (fun L => !(Nat.beq L d))⟩ (setO ρ (some d) r) M' lo ∧
                  (∀ e ∈ killE d es ++ genE (top σ.es) es d o.i ++ newE d (top σ.es) 0 (newT S o.i), ∀ x id, getP (setO ρ (some d) r) e.r e.p = some x → idV x = some id → (∃ e0 ∈ σ.es, e0.k = e.k ∧ getP ρ e0.r e0.p = some x) ∨
                    (top σ.es ≤ e.k ∧ e.k < top σ.es + (newT S o.i).length ∧ (M.nx ≤ id ∨ id = fresh ∨ lim.ok id = true))) := by
                have kind : ∀ e ∈ killE d es ++ genE (top σ.es) es d o.i ++ newE d (top σ.es) 0 (newT S o.i),
                    (∃ e0 ∈ es, e0.k = e.k ∧ e0.ty = e.ty ∧ getP (ρ.set d r) e.r e.p = getP ρ e0.r e0.p) ∨ (getP (ρ.set d r) e.r e.p = some .nilsl ∧ top σ.es ≤ e.k ∧ newT S o.i = []) ∨
                    (∃ j q, (newT S o.i)[j]? = some q ∧ e.k = top σ.es + j ∧ e.ty = some q.2 ∧ getP (ρ.set d r) e.r e.p = getR r q.1) := by
                  intro e he
                  rcases List.mem_append.1 he with he | he
                  · rcases List.mem_append.1 he with he | he
                    · obtain ⟨h1, h2⟩ := List.mem_filter.1 he
                      refine .inl ⟨e, h1, rfl, rfl, getP_set_ne fun h => ?_⟩
                      rw [h] at h2
                      have : Nat.beq d d = true := by rw [Nat.beq_eq]
                      rw [this] at h2; cases h2
                    · obtain ⟨h1, h2⟩ := genE_src hT0 he q1
                      rw [h1, getP_set hdl]
                      rcases h2 with ⟨e0, g1, g2, g3, g4⟩ | ⟨g1, g2, g3⟩
                      · exact .inl ⟨e0, g1, g2, g3, g4⟩
                      · refine .inr (.inl ⟨g1, g2, ?_⟩)
                        by_cases hn : newT S o.i = []
                        · exact hn
                        · rw [gen_or_new hn] at he; simp at he
                  · obtain ⟨j, q, h1, h2, h3, h4, h5⟩ := newE_mem he
                    exact .inr (.inr ⟨j, q, h1, by rw [h4]; omega, h5, by rw [h2, h3, getP_set hdl]⟩)
                refine ⟨⟨by simp only [setO, List.length_set]; exact hI.len, ?_, ?_⟩, fun e he x id hx hid => ?_⟩
                rotate_left 2
                · simp only [setO] at hx
                  rcases kind e he with ⟨e0, g1, g2, g3, g4⟩ | ⟨g1, g2, g3⟩ | ⟨j, q, g1, g2, g3, g4⟩
                  · exact .inl ⟨e0, hsub e0 g1, g2, by rw [← g4]; exact hx⟩
                  · rw [g1] at hx; injection hx with hx; subst hx; simp [idV] at hid
                  · refine .inr ⟨by omega, by have := (List.getElem?_eq_some_iff.1 g1).1; omega, ?_⟩
                    obtain ⟨x', k1, k2, k3⟩ := q6.each q (List.mem_of_getElem? g1)
                    rw [g4, k1] at hx; injection hx with hx; subst hx
                    rcases (k3 id hid).2 with h | h | h
                    · exact .inl h
                    · exact .inr (.inl h)
                    · exact .inr (.inr h.2)
                · simp only [setO]
                  have small : ∀ e0 ∈ es, e0.k < top σ.es := fun e0 h => top_gt (hsub e0 h)
                  have idOld : ∀ e0 ∈ es, ∀ x id, getP ρ e0.r e0.p = some x → idV x = some id → id < M.nx ∧ id ≠ fresh ∧ ¬ used id := fun e0 h x id hx hid => by
                    obtain ⟨x', g1, g2, g3⟩ := hT0.each e0 h
                    rw [hx] at g1; injection g1 with g1; subst g1
                    obtain ⟨t, u, hm⟩ := g2.mem hid
                    exact ⟨hwf id (by rw [hm]; simp), fun e => (by rw [e, hfr] at hm; cases hm), fun hus => (q5 id hus).2 e0 h x hx hid⟩
                  have newId : ∀ (j : Nat) (q : Pt × (TypeId × Nat)), (newT S o.i)[j]? = some q → ∀ x id, getR r q.1 = some x → idV x = some id → own id ∧ (M.nx ≤ id ∨ id = fresh ∨ used id) := fun j q hq x id hx hid => by
                    obtain ⟨x', g1, g2, g3⟩ := q6.each q (List.mem_of_getElem? hq)
                    rw [hx] at g1; injection g1 with g1; subst g1
                    exact ⟨(g3 id hid).1, (g3 id hid).2.imp (fun h => h) (fun h => h.imp (fun h => h) (fun h => h.1))⟩
                  refine ⟨fun e he => ?_, fun e he f hf hkk => ?_, fun e he f hf hkk x y id hx hy hid => ?_⟩
                  · rcases kind e he with ⟨e0, g1, g2, g3, g4⟩ | ⟨g1, g2, g3⟩ | ⟨j, q, g1, g2, g3, g4⟩
                    · obtain ⟨x, k1, k2, k3⟩ := hT1.each e0 g1
                      exact ⟨x, by rw [g4]; exact k1, by rw [← g3]; exact k2, k3⟩
                    · exact ⟨_, g1, .inl rfl, fun id h => by simp [idV] at h⟩
                    · obtain ⟨x, k1, k2, k3⟩ := q6.each q (List.mem_of_getElem? g1)
                      exact ⟨x, by rw [g4]; exact k1, by rw [g3]; exact k2, fun id h => (k3 id h).1⟩
                  · rcases kind e he with ⟨e0, g1, g2, g3, g4⟩ | ⟨g1, g2, g3⟩ | ⟨j, q, g1, g2, g3, g4⟩ <;> rcases kind f hf with ⟨e0', g1', g2', g3', g4'⟩ | ⟨g1', g2', g3'⟩ | ⟨j', q', g1', g2', g3', g4'⟩
                    · rw [g4, g4']; exact hT0.same e0 g1 e0' g1' (by rw [g2, g2', hkk])
                    · have := small e0 g1; omega
                    · have := small e0 g1; omega
                    · have := small e0' g1'; omega
                    · rw [g1, g1']
                    · rw [g3] at g1'; simp at g1'
                    · have := small e0' g1'; omega
                    · rw [g3'] at g1; simp at g1
                    · have : j = j' := by omega
                      subst this; rw [g1] at g1'; injection g1' with g1'; subst g1'
                      rw [g4, g4']
                  · rcases kind e he with ⟨e0, g1, g2, g3, g4⟩ | ⟨g1, g2, g3⟩ | ⟨j, q, g1, g2, g3, g4⟩ <;> rcases kind f hf with ⟨e0', g1', g2', g3', g4'⟩ | ⟨g1', g2', g3'⟩ | ⟨j', q', g1', g2', g3', g4'⟩
                    · rw [g4] at hx; rw [g4'] at hy
                      exact hT0.diff e0 g1 e0' g1' (by rw [g2, g2']; exact hkk) x y id hx hy hid
                    · rw [g1'] at hy; injection hy with hy; subst hy; simp [idV]
                    · rw [g4] at hx; rw [g4'] at hy
                      intro hidy
                      have h1 := idOld e0 g1 x id hx hid
                      have h2 := (newId j' q' g1' y id hy hidy).2
                      rcases h2 with h2 | h2 | h2
                      · omega
                      · exact h1.2.1 h2
                      · exact h1.2.2 h2
                    · rw [g1] at hx; injection hx with hx; subst hx; simp [idV] at hid
                    · rw [g1] at hx; injection hx with hx; subst hx; simp [idV] at hid
                    · rw [g1] at hx; injection hx with hx; subst hx; simp [idV] at hid
                    · rw [g4] at hx; rw [g4'] at hy
                      intro hidy
                      have h1 := idOld e0' g1' y id hy hidy
                      have h2 := (newId j q g1 x id hx hid).2
                      rcases h2 with h2 | h2 | h2
                      · omega
                      · exact h1.2.1 h2
                      · exact h1.2.2 h2
                    · rw [g1'] at hy; injection hy with hy; subst hy; simp [idV]
                    · rw [g4] at hx; rw [g4'] at hy
                      have hjj : j ≠ j' := fun e => hkk (by omega)
                      have hp := List.pairwise_iff_getElem.1 q6.diff
                      obtain ⟨hj1, hj2⟩ := List.getElem?_eq_some_iff.1 g1
                      obtain ⟨hj1', hj2'⟩ := List.getElem?_eq_some_iff.1 g1'
                      by_cases hlt : j < j'
                      · exact hp j j' hj1 hj1' hlt x y id (by rw [hj2]; exact hx) (by rw [hj2']; exact hy) hid
                      · intro hidy
                        exact hp j' j hj1' hj1 (by omega) y x id (by rw [hj2']; exact hy) (by rw [hj2]; exact hx) hidy hid
                · simp only [setO]
                  split
                  · rename_i hag; exact hI.ag.set_ag hdl (aggI_ok hag q1)
                  · exact hI.ag.set d r
              cases hg : o.g with
              | some g =>
                rw [hg] at hk
                simp only [Option.some.injEq] at hk; subst hk
                have hin : ∀ e ∈ killE d es ++ newE d (top σ.es) 0 (newG o.i), e ∈ killE d es ++ genE (top σ.es) es d o.i ++ newE d (top σ.es) 0 (newT S o.i) := fun e he => by
                  rcases List.mem_append.1 he with he | he
                  · exact List.mem_append.2 (.inl (List.mem_append.2 (.inl he)))
                  · exact List.mem_append.2 (.inr (newG_sub S he))
                exact ⟨⟨main.1.len, useX_sub hin main.1.tok, hI.ag.set d r⟩, fun e he x id hx hid => main.2 e (hin e he) x id hx hid⟩
              | none =>
                rw [hg] at hk
                simp only [Option.some.injEq] at hk; subst hk
                exact main
            · cases hk
    · cases hk

structure FrE (own : Nat → Prop) (M M' : MM) : Prop where
  nx : M.nx ≤ M'.nx
  wf : WF M'
  tok : ∀ id t u, ¬ own id → M.mem id = some (.tok t u) → M'.mem id = some (.tok t u)
  keep : ∀ id, id < M.nx → M.mem id = none → M'.mem id = none
  kv : ∀ id, id < M.nx → vmem M.mem id = none → vmem M'.mem id = none

theorem FrE.refl {M : MM} (h : WF M) : FrE own M M := ⟨Nat.le_refl _, h, fun _ _ _ _ h => h, fun _ _ h => h, fun _ _ h => h⟩
theorem FrE.trans {M M1 M2 : MM} (h : FrE own M M1) (k : FrE own M1 M2) : FrE own M M2 :=
  ⟨Nat.le_trans h.nx k.nx, k.wf, fun id t u hn hm => k.tok id t u hn (h.tok id t u hn hm), fun id hl hm => k.keep id (Nat.lt_of_lt_of_le hl h.nx) (h.keep id hl hm), fun id hl hm => k.kv id (Nat.lt_of_lt_of_le hl h.nx) (h.kv id hl hm)⟩
theorem WF.nx {M : MM} (h : WF M) : M.mem M.nx = none := by
  cases hm : M.mem M.nx with
  | none => rfl
  | some b => have := h M.nx (by rw [hm]; simp); omega

end

/-! ### Calls -/
def PrimV (S : Sig) (f : FuncId) (p : List AV → Nat → MM → Option (AV × MM)) : Prop := ∀ args lo M rv V', p (vvs args) lo (vm M) = some (rv, V') → lo ≤ M.nx → WF M → Tin S f args lo M →
  ∃ r M', p args lo M = some (r, M') ∧ vv r = rv ∧ vm M' = V' ∧ Fr (usedA S f args) M.nx M M' ∧ Tout (S.rs f) (fun id => M.nx ≤ id ∨ usedA S f args id) r lo M'

theorem PrimV.of {S : Sig} {f : FuncId} {q : List AV → Option AV} (h : ∀ args r, q (vvs args) = some r → ∃ r', q args = some r' ∧ vv r' = r) (hr : S.rs f = []) : PrimV S f (fun args _ M => (q args).map (·, M)) := by
  intro args lo M rv V' hV hlo hwf hin
  obtain ⟨x, hx, hh⟩ := Option.map_eq_some_iff.1 hV
  simp only [Prod.mk.injEq] at hh
  obtain ⟨rfl, rfl⟩ := hh
  obtain ⟨r, h1, h2⟩ := h args x hx
  exact ⟨r, M, by show (q args).map (·, M) = some (r, M); rw [h1]; rfl, h2, rfl, .refl hwf, by rw [hr]; exact .nil⟩

structure VOK (S : Sig) (G GV : Prog) : Prop where
  mode : GV.mode = G.mode
  nl : GV.nl = G.nl
  sig : SigOK S G.mode
  code : ∀ f cv, GV.fns f = some (.code cv) → ∃ cf, G.fns f = some (.code cf) ∧ vCF S.no cf = cv ∧ chkV S f cf = true
  prim : ∀ f p, GV.fns f = some (.prim p) → G.fns f = some (.prim p) ∧ PrimV S f p

/-! ### A function of the model's program, turned; what the program's tables have to say -/
abbrev SigL := List (Nat × (List (Nat × (TypeId × Nat)) × List (Pt × (TypeId × Nat))))
def lookS (f : Nat) : SigL → List (Nat × (TypeId × Nat)) × List (Pt × (TypeId × Nat))
  | [] => ([], [])
  | q :: r => if f = q.1 then q.2 else lookS f r
def sigOf (L : SigL) : Sig := ⟨fun f => (lookS f L).1, fun f => (lookS f L).2, L.map (·.1)⟩

end Go.Proofs.Ytegkhdflmboljaa.Sx
