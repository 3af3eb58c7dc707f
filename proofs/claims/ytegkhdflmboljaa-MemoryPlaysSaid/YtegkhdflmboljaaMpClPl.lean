/- MEMORY: Clone makes a memory of the same objects. -/
import Derived.Test.YtegkhdflmboljaaMpZrPl
namespace Go.Proofs.Ytegkhdflmboljaa.Sx
open Go
set_option maxRecDepth 1000000
set_option linter.unusedSimpArgs false
set_option linter.unusedVariables false
set_option linter.unusedSectionVars false
theorem findM_map2 (g : AV → AV) (k : Value) : ∀ es : List (Value × AV), findM k (es.map fun q => (q.1, g q.2)) = (findM k es).map g
  | [] => rfl
  | e :: r => by
    simp only [List.map_cons, findM]
    split
    · rfl
    · exact findM_map2 g k r
def OXR (L : Nat → Option Tag) (M : MM) (i q : Nat) (o : Ob) (x : OX) : Prop :=
  x.oid = q ∧ M.mem q = some (.cells 60 [x.al, x.sz, x.co, x.re, x.mpv]) ∧
  ((o.alive = true ∧ o.size ≤ 4194304 ∧ x.al = .bool true ∧ x.sz = .i o.size ∧ x.co = .i o.count ∧ x.re = .i o.refs ∧ ∃ mid, x.mpv = .mp mid ∧ EKy x.es ∧ CK M mid o.f (fun id => L id = some (.ck i)) x.es) ∨
   (o.alive = false ∧ x.es = [] ∧ (∃ a b c : Int, x.al = .bool false ∧ x.sz = .i a ∧ x.co = .i b ∧ x.re = .i c) ∧ (x.mpv = .d (.v (.map none)) ∨ ∃ mid, x.mpv = .mp mid ∧ mid < M.nx ∧ M.mem mid = some (.map (.int .i64) []))))
theorem IO.ox {L : Nat → Option Tag} {M : MM} {i q : Nat} {o : Ob} (h : IO L M i q o) : ∃ x, OXR L M i q o x := by
  rcases h with ⟨h1, h2, mid, es, h3, h4, h5⟩ | ⟨h1, a, b, c, v, h2, h3⟩
  · exact ⟨⟨q, _, _, _, _, _, es⟩, rfl, h3, .inl ⟨h1, h2, rfl, rfl, rfl, rfl, mid, rfl, h4, h5⟩⟩
  · refine ⟨⟨q, _, _, _, _, _, []⟩, rfl, h2, .inr ⟨h1, rfl, ⟨a, b, c, rfl, rfl, rfl, rfl⟩, ?_⟩⟩
    rcases h3 with h3 | ⟨mid, h3, _, h5, h6⟩
    · exact .inl h3
    · exact .inr ⟨mid, h3, h5, h6⟩
theorem EKy.find {es : List (Value × AV)} (h : EKy es) {q : Value × AV} (hq : q ∈ es) : ∃ k : Nat, q.1 = .int .i64 k ∧ findM (.int .i64 k) es = some q.2 := by
  obtain ⟨k, hk⟩ := h.2 q hq
  exact ⟨k, hk, (findM_some h.1).2 ⟨q, hq, by rw [hk, sameK_int]; simp, rfl⟩⟩
theorem OXR.ook {L : Nat → Option Tag} {M : MM} {i q : Nat} {o : Ob} {x : OX} (h : OXR L M i q o x) (hq : q < M.nx) : OOK 60 64 M M.nx x.oid x.al x.sz x.co x.re x.mpv x.es := by
  obtain ⟨h1, h2, h3⟩ := h
  refine ⟨by rw [h1]; exact h2, by rw [h1]; exact hq, ?_, ?_⟩
  · rcases h3 with ⟨_, _, e1, e2, e3, e4, mid, e5, _⟩ | ⟨_, _, ⟨a, b, c, e1, e2, e3, e4⟩, e5⟩
    · rw [e1, e2, e3, e4, e5]; rfl
    · rw [e1, e2, e3, e4]
      rcases e5 with e5 | ⟨mid, e5, _⟩ <;> rw [e5] <;> rfl
  · rcases h3 with ⟨_, _, e1, e2, e3, e4, mid, e5, e6, e7⟩ | ⟨_, e0, _, e5⟩
    · refine .inr ⟨mid, e5, e7.mlt, e7.map, fun y hy => ?_, fun y hy y' hy' he => ?_⟩
      · obtain ⟨k, hk, hf⟩ := e6.find hy
        obtain ⟨c, cs, g1, _, _, g4, g5, g6⟩ := e7.some' k _ hf
        exact ⟨c, cs, g1, g5, g6.1.1, g6.1.2, g4⟩
      · obtain ⟨k, hk, hf⟩ := e6.find hy
        obtain ⟨k', hk', hf'⟩ := e6.find hy'
        obtain ⟨c, cs, g1, _⟩ := e7.some' k _ hf
        have := e7.inj k k' c (by rw [hf, g1]) (by rw [hf', ← he, g1])
        exact Prod.ext (by rw [hk, hk', this]) he
    · rcases e5 with e5 | ⟨mid, e5, e6, e7⟩
      · exact .inl ⟨e5, e0⟩
      · exact .inr ⟨mid, e5, e6, by rw [e0]; exact e7, fun y hy => by rw [e0] at hy; simp at hy, fun y hy => by rw [e0] at hy; simp at hy⟩
def tagC (Lc : Nat → Option Tag) (n i lo : Nat) (es : List (Value × AV)) : Nat → Option Tag := fun id =>
  if id = n then some (.ob i) else if id = n + 1 ∨ (es.any fun q => id == n + 3 + cidOf (some q.2)) = true then some (.ck i) else if n ≤ id then none else Lc id
/-- What has been copied. -/
structure CpC (l : List Ob) (lo : Nat) (Lc : Nat → Option Tag) (s : CpS) (ps : List Nat) (i : Nat) : Prop where
  dom : ∀ id, Lc id ≠ none → id < s.M.nx ∧ s.M.mem id ≠ none ∧ lo < id ∧ aidOf s.sl ≠ some id
  at' : ∀ id t, Lc id = some t → t.at ≠ none
  len : ps.length = i
  ptrs : s.ptrs = ps.map fun q => .ptr q 0
  obs : ∀ j q o, ps[j]? = some q → l[j]? = some o → Lc q = some (.ob j) ∧ IO Lc s.M j q o
theorem CpC.step {l : List Ob} {L Lc : Nat → Option Tag} {M0 : MM} {s : CpS} {ps : List Nat} {i q : Nat} {o : Ob} {x : OX} {live : AV} (hC : CpC l M0.nx Lc s ps i) (hI : CSI 49 53 M0.nx M0.nx live M0 s i) (ho : l[i]? = some o) (hx : OXR L M0 i q o x) (hlow : ∀ q ∈ x.es, cidOf (some q.2) < M0.nx) :
    CpC l M0.nx (tagC Lc s.M.nx i M0.nx x.es) (cstep 49 60 53 M0.nx M0.nx live s x) (ps ++ [s.M.nx]) (i + 1) := by
  have hn := hI.n
  have hPn := hI.Pn
  have hal := hI.al
  have hany : ∀ id, id < s.M.nx + 3 → (x.es.any fun q => id == s.M.nx + 3 + cidOf (some q.2)) = false := fun id hid => by
    rw [List.any_eq_false]
    intro y hy e
    have : id = s.M.nx + 3 + cidOf (some y.2) := by simpa using e
    omega
  have haid : aidOf (cstep 49 60 53 M0.nx M0.nx live s x).sl = some (s.M.nx + 3 + M0.nx + 1) := rfl
  -- memory of the step
  have mlow : ∀ id, id < s.M.nx → id ≠ M0.nx → aidOf s.sl ≠ some id → (cstep 49 60 53 M0.nx M0.nx live s x).M.mem id = s.M.mem id := fun id h1 h2 h3 => by
    show appMem _ _ _ _ _ _ _ _ _ id = _
    simp only [appMem]
    rw [if_neg h2, if_neg (by omega), if_neg (by omega), if_neg h3]
    simp only [midMem]
    rw [if_neg (by omega), if_neg (by rw [hany id (by omega)]; simp)]
    simp only [preMem]
    rw [if_neg (by omega), if_neg (by omega)]
  have naid : ∀ id, s.M.nx ≤ id → aidOf s.sl ≠ some id := fun id h1 e => by have := (hal id e).2; omega
  have mX : (cstep 49 60 53 M0.nx M0.nx live s x).M.mem s.M.nx = some (.cells 60 [x.al, x.sz, x.co, x.re, .mp (s.M.nx + 1)]) := by
    show appMem _ _ _ _ _ _ _ _ _ _ = _
    simp only [appMem]
    rw [if_neg (by omega), if_neg (by omega), if_neg (by omega), if_neg (naid _ (Nat.le_refl _))]
    simp only [midMem]
    rw [if_neg (by omega), if_neg (by rw [hany _ (by omega)]; simp)]
    simp [preMem]
  have mY : (cstep 49 60 53 M0.nx M0.nx live s x).M.mem (s.M.nx + 1) = some (.map (.int .i64) (x.es.map fun q => (q.1, cp (s.M.nx + 3) (some q.2)))) := by
    show appMem _ _ _ _ _ _ _ _ _ _ = _
    simp only [appMem]
    rw [if_neg (by omega), if_neg (by omega), if_neg (by omega), if_neg (naid _ (by omega))]
    simp [midMem]
  have mC : ∀ y ∈ x.es, (cstep 49 60 53 M0.nx M0.nx live s x).M.mem (s.M.nx + 3 + cidOf (some y.2)) = M0.mem (cidOf (some y.2)) := fun y hy => by
    have hlt := hlow y hy
    show appMem _ _ _ _ _ _ _ _ _ _ = _
    simp only [appMem]
    rw [if_neg (by omega), if_neg (by omega), if_neg (by omega), if_neg (naid _ (by omega))]
    simp only [midMem]
    rw [if_neg (by omega), if_pos (List.any_eq_true.2 ⟨y, hy, by simp⟩), Nat.add_sub_cancel_left]
    simp only [preMem]
    rw [if_neg (by omega), if_neg (by omega)]
    exact hI.old _ hlt
  have hnx : (cstep 49 60 53 M0.nx M0.nx live s x).M.nx = s.M.nx + 3 + M0.nx + 2 := rfl
  have hold : ∀ id t, Lc id = some t → tagC Lc s.M.nx i M0.nx x.es id = some t ∧ (cstep 49 60 53 M0.nx M0.nx live s x).M.mem id = s.M.mem id := fun id t ht => by
    obtain ⟨d1, d2, d3, d4⟩ := hC.dom id (by rw [ht]; simp)
    refine ⟨?_, mlow id d1 (by omega) d4⟩
    simp only [tagC]
    rw [if_neg (by omega), if_neg (by rw [hany id (by omega)]; simp; omega), if_neg (by omega)]
    exact ht
  have hXt : tagC Lc s.M.nx i M0.nx x.es s.M.nx = some (.ob i) := by simp [tagC]
  have hYt : tagC Lc s.M.nx i M0.nx x.es (s.M.nx + 1) = some (.ck i) := by simp [tagC]
  have hCt : ∀ y ∈ x.es, tagC Lc s.M.nx i M0.nx x.es (s.M.nx + 3 + cidOf (some y.2)) = some (.ck i) := fun y hy => by
    simp only [tagC]
    rw [if_neg (by omega), if_pos (.inr (List.any_eq_true.2 ⟨y, hy, by simp⟩))]
  have hlen := hC.len
  have hio : IO (tagC Lc s.M.nx i M0.nx x.es) (cstep 49 60 53 M0.nx M0.nx live s x).M i s.M.nx o := by
    rcases hx.2.2 with ⟨a1, a2, a3, a4, a5, a6, mid, a7, a8, a9⟩ | ⟨a1, a0, ⟨a, b, c, a3, a4, a5, a6⟩, a7⟩
    · rw [a3, a4, a5, a6] at mX
      refine .inl ⟨a1, a2, s.M.nx + 1, _, mX, ⟨?_, fun y hy => ?_⟩, ⟨mY, by omega, hYt, fun k hk r hr => ?_, fun k y hy => ?_, fun k k' c h1 h2 => ?_⟩⟩
      · have : (x.es.map fun q => (q.1, cp (s.M.nx + 3) (some q.2))).map Prod.fst = x.es.map Prod.fst := by rw [List.map_map]; rfl
        rw [this]; exact a8.1
      · obtain ⟨z, hz, rfl⟩ := List.mem_map.1 hy
        exact a8.2 z hz
      · rw [findM_map2 (fun v => cp (s.M.nx + 3) (some v))] at hk
        exact a9.none' k (Option.map_eq_none_iff.1 hk) r hr
      · rw [findM_map2 (fun v => cp (s.M.nx + 3) (some v))] at hy
        obtain ⟨v, hv, rfl⟩ := Option.map_eq_some_iff.1 hy
        obtain ⟨c, cs, g1, g2, g3, g4, g5, g6⟩ := a9.some' k v hv
        obtain ⟨y, hyes, _, hy2⟩ := (findM_some a8.1).1 hv
        have hyc : cidOf (some y.2) = c := by rw [hy2, g1]; rfl
        refine ⟨s.M.nx + 3 + c, cs, by rw [g1]; rfl, by rw [← hyc]; exact hCt y hyes, by omega, by omega, ?_, g6⟩
        rw [← hyc, mC y hyes, hyc]; exact g5
      · rw [findM_map2 (fun v => cp (s.M.nx + 3) (some v))] at h1 h2
        obtain ⟨v, hv, e1⟩ := Option.map_eq_some_iff.1 h1
        obtain ⟨v', hv', e2⟩ := Option.map_eq_some_iff.1 h2
        obtain ⟨d, cs, g1, _⟩ := a9.some' k v hv
        obtain ⟨d', cs', g1', _⟩ := a9.some' k' v' hv'
        rw [g1] at e1 hv
        rw [g1'] at e2 hv'
        simp only [cp, AV.ptr.injEq] at e1 e2
        have : d = d' := by omega
        subst this
        exact a9.inj k k' d hv hv'
    · rw [a3, a4, a5, a6] at mX
      rw [a0] at mY
      exact .inr ⟨a1, a, b, c, _, mX, .inr ⟨s.M.nx + 1, rfl, hYt, by omega, mY⟩⟩
  refine ⟨fun id hid => ?_, fun id t ht => ?_, by simp [hlen], ?_, fun j q' o' hq' ho' => ?_⟩
  · rw [hnx, haid]
    have hd : (id = s.M.nx ∨ id = s.M.nx + 1 ∨ ∃ y ∈ x.es, id = s.M.nx + 3 + cidOf (some y.2)) ∨ (id < s.M.nx ∧ Lc id ≠ none) := by
      simp only [tagC] at hid
      by_cases e1 : id = s.M.nx
      · exact .inl (.inl e1)
      · rw [if_neg e1] at hid
        by_cases e2 : id = s.M.nx + 1 ∨ (x.es.any fun q => id == s.M.nx + 3 + cidOf (some q.2)) = true
        · rcases e2 with e2 | e2
          · exact .inl (.inr (.inl e2))
          · obtain ⟨y, hy, he⟩ := List.any_eq_true.1 e2
            exact .inl (.inr (.inr ⟨y, hy, by simpa using he⟩))
        · rw [if_neg e2] at hid
          by_cases e3 : s.M.nx ≤ id
          · rw [if_pos e3] at hid; exact absurd rfl hid
          · rw [if_neg e3] at hid; exact .inr ⟨by omega, hid⟩
    rcases hd with (rfl | rfl | ⟨y, hy, rfl⟩) | ⟨d0, d1⟩
    · exact ⟨by omega, by rw [mX]; simp, by omega, fun e => by injection e with e; omega⟩
    · exact ⟨by omega, by rw [mY]; simp, by omega, fun e => by injection e with e; omega⟩
    · have hlt := hlow y hy
      refine ⟨by omega, ?_, by omega, fun e => by injection e with e; omega⟩
      rw [mC y hy]
      rcases hx.2.2 with ⟨a1, a2, a3, a4, a5, a6, mid, a7, a8, a9⟩ | ⟨a1, a0, _⟩
      · obtain ⟨k, hk, hf⟩ := a8.find hy
        obtain ⟨c, cs, g1, g2, g3, g4, g5, g6⟩ := a9.some' k _ hf
        rw [g1]
        show M0.mem c ≠ none
        rw [g5]; simp
      · rw [a0] at hy; simp at hy
    · obtain ⟨t, ht⟩ := Option.ne_none_iff_exists'.1 d1
      obtain ⟨d2, d3, d4, d5⟩ := hC.dom id d1
      exact ⟨by omega, by rw [(hold id t ht).2]; exact d3, d4, fun e => by injection e with e; omega⟩
  · simp only [tagC] at ht
    by_cases e1 : id = s.M.nx
    · rw [if_pos e1] at ht; injection ht with ht; subst ht; simp [Tag.at]
    · rw [if_neg e1] at ht
      by_cases e2 : id = s.M.nx + 1 ∨ (x.es.any fun q => id == s.M.nx + 3 + cidOf (some q.2)) = true
      · rw [if_pos e2] at ht; injection ht with ht; subst ht; simp [Tag.at]
      · rw [if_neg e2] at ht
        by_cases e3 : s.M.nx ≤ id
        · rw [if_pos e3] at ht; cases ht
        · rw [if_neg e3] at ht; exact hC.at' id t ht
  · show s.ptrs ++ [.ptr s.M.nx 0] = _
    rw [hC.ptrs, List.map_append]; rfl
  · by_cases e : j < ps.length
    · rw [List.getElem?_append_left e] at hq'
      obtain ⟨g1, g2⟩ := hC.obs j q' o' hq' ho'
      exact ⟨(hold q' _ g1).1, g2.mono g1 (by omega) fun id t ht _ => hold id t ht⟩
    · have hj : j = ps.length := by
        have hlt : j < (ps ++ [s.M.nx]).length := by
          rcases Nat.lt_or_ge j (ps ++ [s.M.nx]).length with e | e
          · exact e
          · rw [List.getElem?_eq_none e] at hq'; cases hq'
        simp at hlt; omega
      subst hj
      rw [List.getElem?_append_right (Nat.le_refl _), Nat.sub_self] at hq'
      simp only [List.getElem?_cons_zero, Option.some.injEq] at hq'
      subst hq'
      rw [hlen] at ho' ⊢
      rw [ho] at ho'; injection ho' with ho'; subst ho'
      exact ⟨hXt, hio⟩
theorem CpC.all {l : List Ob} {L : Nat → Option Tag} {M0 : MM} {live : AV} : ∀ (xs : List OX) (i : Nat) (s : CpS) (Lc : Nat → Option Tag) (ps : List Nat), i + xs.length = l.length → (∀ j x, xs[j]? = some x → ∃ q o, l[i + j]? = some o ∧ OXR L M0 (i + j) q o x ∧ ∀ y ∈ x.es, cidOf (some y.2) < M0.nx) →
    CpC l M0.nx Lc s ps i → CSI 49 53 M0.nx M0.nx live M0 s i → ∃ Lc' ps', CpC l M0.nx Lc' (xs.foldl (cstep 49 60 53 M0.nx M0.nx live) s) ps' l.length
  | [], i, s, Lc, ps, hi, hx, hC, hI => ⟨Lc, ps, by
    have : i = l.length := by simpa using hi
    rw [← this]; exact hC⟩
  | x :: xs, i, s, Lc, ps, hi, hx, hC, hI => by
    obtain ⟨q, o, h1, h2, h3⟩ := hx 0 x rfl
    have hs := hC.step hI h1 h2 h3
    have hI' := hI.step (tO := 60) x h3
    exact CpC.all xs (i + 1) _ _ _ (by simp at hi; omega) (fun j y hy => by
      obtain ⟨q', o', g1, g2, g3⟩ := hx (j + 1) y (by simpa using hy)
      have e : i + (j + 1) = i + 1 + j := by omega
      rw [e] at g1 g2
      exact ⟨q', o', g1, g2, g3⟩) hs hI'
theorem IM.oxs {L : Nat → Option Tag} {M : MM} {p : Nat} {l : List Ob} {sl : AV} {ps : List Nat} (h : IM L M p l sl ps) : ∀ n, n ≤ l.length → ∃ xs : List OX, xs.length = n ∧ ∀ j x, xs[j]? = some x → ∃ q o, ps[j]? = some q ∧ l[j]? = some o ∧ OXR L M j q o x ∧ q < M.nx
  | 0, _ => ⟨[], rfl, fun j x hx => by simp at hx⟩
  | n + 1, hn => by
    obtain ⟨xs, h1, h2⟩ := h.oxs n (by omega)
    have hll := h.len
    have ho : l[n]? = some (l[n]'(by omega)) := List.getElem?_eq_getElem _
    have hq : ps[n]? = some (ps[n]'(by omega)) := List.getElem?_eq_getElem _
    obtain ⟨g1, g2⟩ := h.obs n _ _ hq ho
    obtain ⟨x, hx⟩ := g2.ox
    refine ⟨xs ++ [x], by simp [h1], fun j y hy => ?_⟩
    by_cases e : j < xs.length
    · rw [List.getElem?_append_left e] at hy; exact h2 j y hy
    · have hj : j = n := by
        have hlt : j < (xs ++ [x]).length := by
          rcases Nat.lt_or_ge j (xs ++ [x]).length with e | e
          · exact e
          · rw [List.getElem?_eq_none e] at hy; cases hy
        simp [h1] at hlt; omega
      subst hj
      rw [List.getElem?_append_right (by omega), h1, Nat.sub_self] at hy
      simp only [List.getElem?_cons_zero, Option.some.injEq] at hy
      subst hy
      exact ⟨_, _, hq, ho, hx, (h.dom _ (by rw [g1]; simp)).1⟩
theorem clone_ok {call : CallT} (hc : Lim GK call) {L : Nat → Option Tag} {M : MM} {p : Nat} {l : List Ob} {sl : AV} {ps : List Nat} (h : IM L M p l sl ps) (hl : l.length ≤ 1000000) (lo : Nat) :
    Wp (call 24 [.ptr p 0] lo M) fun x => x.1 = .ptr M.nx 0 ∧ M.nx ≤ x.2.nx ∧ (∀ id, id < M.nx → x.2.mem id = M.mem id) ∧ ∃ L' sl' ps', IM L' x.2 M.nx l sl' ps' ∧ ∀ id, L' id ≠ none → M.nx ≤ id := by
  obtain ⟨xs, h1, h2⟩ := h.oxs l.length (Nat.le_refl _)
  have hll := h.len
  have hA : CArg 60 64 M p sl (.i (liveN l)) xs := by
    refine ⟨⟨_, h.root⟩, ⟨rfl, rfl⟩, by omega, ?_⟩
    rcases h.sli with ⟨e1, e2⟩ | ⟨sid, e1, e2, e3⟩
    · refine .inl ⟨e1, List.eq_nil_of_length_eq_zero ?_⟩
      rw [h1, ← hll, e2]; rfl
    · refine .inr ⟨sid, _, _, by rw [e1, h1, hll], (h.dom sid (by rw [e2]; simp)).1, e3, fun j hj => ?_⟩
      obtain ⟨q, o, g1, g2, g3, g4⟩ := h2 j xs[j] (List.getElem?_eq_getElem hj)
      exact ⟨by rw [List.getElem?_map, g1, g3.1]; rfl, g3.ook g4⟩
  have hlow := hA.low
  have hI := hA.csi (tM := 49) (tP := 53)
  obtain ⟨Lc, ps', hC⟩ := CpC.all (l := l) (L := L) (M0 := M) (live := .i (liveN l)) xs 0 (cst0 49 M (.i (liveN l))) (fun _ => none) [] (by omega) (fun j x hx => by
    obtain ⟨q, o, g1, g2, g3, g4⟩ := h2 j x hx
    rw [Nat.zero_add]
    exact ⟨q, o, g2, g3, hlow x (List.mem_of_getElem? hx)⟩) ⟨fun id hid => absurd rfl hid, (fun id t ht => by cases ht), rfl, rfl, fun j q o hq => by simp at hq⟩ (cst0_ok 49 53 M _)
  refine ⟨_, (hc.prim (p := primClone) rfl [.ptr p 0] lo M).trans (cloneMem_def rfl hA), rfl, hI.n, hI.old, ?_⟩
  have hfold : cres 49 60 53 M (.i (liveN l)) xs = xs.foldl (cstep 49 60 53 M.nx M.nx (.i (liveN l))) (cst0 49 M (.i (liveN l))) := rfl
  rw [← hfold] at hC
  generalize cres 49 60 53 M (.i (liveN l)) xs = s at hI hC
  have hsl := hI.sl
  have hal := hI.al
  let L' : Nat → Option Tag := fun id => if id = M.nx then some .root else if aidOf s.sl = some id then some .sl else Lc id
  have keep : ∀ id t, Lc id = some t → L' id = some t := fun id t ht => by
    obtain ⟨d1, d2, d3, d4⟩ := hC.dom id (by rw [ht]; simp)
    show (if _ then _ else if _ then _ else _) = _
    rw [if_neg (by omega), if_neg d4]; exact ht
  have hdom : ∀ id, L' id ≠ none → id < s.M.nx ∧ s.M.mem id ≠ none ∧ M.nx ≤ id := fun id hid => by
    by_cases e1 : id = M.nx
    · rw [e1]; exact ⟨hI.Pn, by rw [hI.P]; simp, Nat.le_refl _⟩
    · by_cases e2 : aidOf s.sl = some id
      · obtain ⟨a1, a2⟩ := hal id e2
        refine ⟨a2, ?_, a1⟩
        rcases hsl with ⟨b1, _⟩ | ⟨aid, b1, b2⟩
        · rw [b1] at e2; cases e2
        · rw [b1] at e2; injection e2 with e2; subst e2; rw [b2]; simp
      · have : L' id = Lc id := by
          show (if _ then _ else if _ then _ else _) = _
          rw [if_neg e1, if_neg e2]
        rw [this] at hid
        obtain ⟨d1, d2, d3, d4⟩ := hC.dom id hid
        exact ⟨d1, d2, by omega⟩
  refine ⟨L', s.sl, ps', ⟨fun id hid => ⟨(hdom id hid).1, (hdom id hid).2.1⟩, hC.len, by simp [L'], hI.P, ?_, fun i q o hq ho => ?_⟩, fun id hid => (hdom id hid).2.2⟩
  · rcases hsl with ⟨b1, b2⟩ | ⟨aid, b1, b2⟩
    · refine .inl ⟨b1, ?_⟩
      rw [hC.ptrs] at b2; exact List.map_eq_nil_iff.1 b2
    · refine .inr ⟨aid, by rw [b1, hC.ptrs, List.length_map], ?_, by rw [b2, hC.ptrs]⟩
      have hne : aid ≠ M.nx := fun e => hI.ne (by rw [b1, e]; rfl)
      show (if _ then _ else if _ then _ else _) = _
      rw [if_neg hne, if_pos (by rw [b1]; rfl)]
  · obtain ⟨g1, g2⟩ := hC.obs i q o hq ho
    exact ⟨keep q _ g1, g2.mono g1 (Nat.le_refl _) fun id t ht _ => ⟨keep id t ht, rfl⟩⟩
end Go.Proofs.Ytegkhdflmboljaa.Sx
