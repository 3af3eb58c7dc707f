/-
  SX, PART U: ARGUMENTS, AND HOW MANY VALUES AND LETTERS THEY HAVE: for statements that speak of inputs of a bounded size.
-/
import Derived.Test.YtcoagkfjdpdohaaSxI
namespace Go.Proofs.Ytcoagkfjdpdohaa.Sx
open Go
mutual
def bulkD : D → Nat
  | .v (.string s) => s.size + 1
  | .v _ => 1
  | .sl cs _ => bulkDs cs + 1
def bulkDs : List D → Nat
  | [] => 0
  | d :: r => bulkD d + bulkDs r
end
theorem bulkDs_app : ∀ a b : List D, bulkDs (a ++ b) = bulkDs a + bulkDs b
  | [], b => by simp [bulkDs]
  | d :: a, b => by rw [List.cons_append, bulkDs, bulkDs, bulkDs_app a b]; omega
theorem sum_le {H : Type} {F : DataW H → Nat} {FA : List (DataW H) → Nat} (a0 : FA [] = 0) (a1 : ∀ d r, FA (d :: r) = F d + FA r) : ∀ (rows : List (List D)) (es : List (DataW H)), rows.length = es.length →
    (∀ (i : Nat) (r : List D) (y : DataW H), rows[i]? = some r → es[i]? = some y → bulkDs r ≤ F y) → bulkDs rows.flatten ≤ FA es
  | [], [], _, _ => by rw [a0]; exact Nat.le_refl _
  | r :: rows, y :: es, h, hh => by
    have h1 := hh 0 r y rfl rfl
    have h2 := sum_le a0 a1 rows es (by simpa using h) (fun i r y hr hy => hh (i + 1) r y (by simpa using hr) (by simpa using hy))
    rw [List.flatten_cons, bulkDs_app, a1]; omega
  | [], _ :: _, h, _ => by simp at h
  | _ :: _, [], h, _ => by simp at h

/-- The parts of a row of cells that a tiling cuts. -/
theorem struct_parts2 {P : Program} {w : World} : ∀ (X : Nat → TypeId → List D → Prop) (fs : List Field) (o n : Nat) (cs : List Value), tile P o fs = some n → cs.length = n →
    (∀ i (h : i < fs.length), ∃ ds, X i (fs[i]).type ds ∧ RD w ds ((cs.drop (fs[i]).offset).take (P.cellsOf (fs[i]).type))) →
    ∃ parts : List (List D), parts.length = fs.length ∧ (∀ i (h : i < parts.length) (h' : i < fs.length), parts[i].length = P.cellsOf (fs[i]).type) ∧ (∀ i (h : i < parts.length) (h' : i < fs.length), X i (fs[i]).type parts[i]) ∧ RD w parts.flatten (cs.drop o)
  | X, [], o, n, cs, ht, hl, _ => by
    simp only [tile, Option.some.injEq] at ht
    refine ⟨[], rfl, fun i h => by simp at h, fun i h => by simp at h, ?_⟩
    rw [List.drop_of_length_le (by omega)]; exact RD.nil w
  | X, f :: r, o, n, cs, ht, hl, hx => by
    simp only [tile] at ht
    split at ht
    · rename_i ho
      obtain ⟨ds, h1, h2⟩ := hx 0 (by simp)
      obtain ⟨parts, p1, p2, p3, p4⟩ := struct_parts2 (fun i => X (i + 1)) r (o + P.cellsOf f.type) n cs ht hl (fun i h => hx (i + 1) (by simpa using h))
      simp only [List.getElem_cons_zero] at h1 h2
      have hlen : ds.length = P.cellsOf f.type := by
        have := h2.1; have := wrap_len ht; simp only [List.length_take, List.length_drop] at *; omega
      refine ⟨ds :: parts, by simp [p1], fun i h h' => ?_, fun i h h' => ?_, ?_⟩
      · cases i with
        | zero => exact hlen
        | succ i => exact p2 i (by simpa using h) (by simpa using h')
      · cases i with
        | zero => exact h1
        | succ i => exact p3 i (by simpa using h) (by simpa using h')
      · rw [List.flatten_cons]
        have e : cs.drop o = (cs.drop o).take (P.cellsOf f.type) ++ cs.drop (o + P.cellsOf f.type) := by
          rw [← List.drop_drop, List.take_append_drop]
        rw [e]; rw [ho] at h2
        exact h2.append p4
    · cases ht

section
variable {H : Type} {enc : TypeId × Value → H} {P : Program} {w : World} {spare : Nat → Bool} {held : Bool}
/-- As 'trod_td2', and no more values and letters than the reading has (F, FA). -/
theorem trod_td3 {F : DataW H → Nat} {FA : List (DataW H) → Nat} (f0 : ∀ d, 1 ≤ F d) (f1 : ∀ b : List UInt8, b.length + 1 ≤ F (.lit (.string b))) (f2 : ∀ e s, FA e + 1 ≤ F (.slice e s)) (f3 : ∀ p, FA p + 1 ≤ F (.agg p)) (a0 : FA [] = 0) (a1 : ∀ d r, FA (d :: r) = F d + FA r) {S : List TypeId} (hS : okS P S = true) : ∀ (fuel : Nat) (t : TypeId) (vs : List Value) (x : DataW H × List MemPlace), S.contains t = true → DataW.trod enc P w 0 spare held fuel t vs = some x →
    ∃ cs : List D, TD P t cs ∧ RD w cs vs ∧ bulkDs cs ≤ F x.1 := by
  intro fuel
  induction fuel with
  | zero => intro t vs x _ h; simp [DataW.trod] at h
  | succ fuel ihf =>
    intro t vs x hc h
    have ok := List.all_eq_true.1 hS t (by simpa using hc)
    unfold okS1 at ok
    split at ok
    · rename_i hu
      obtain ⟨b, rfl, rfl⟩ := DataW.trod_bool hu h
      exact ⟨_, .bool t b hu, .one (.v _ rfl), f0 _⟩
    · rename_i k hu
      obtain ⟨m, rfl, rfl, hw⟩ := DataW.trod_int hu h
      exact ⟨_, .int t k m hu hw, .one (.v _ rfl), f0 _⟩
    · rename_i hu
      obtain ⟨s, rfl, rfl, hs⟩ := DataW.trod_string hu h
      exact ⟨_, .str t s hu hs, .one (.v _ rfl), by
        have := f1 s.data.toList
        rw [Array.length_toList] at this
        simp only [bulkDs, bulkD]; exact this⟩
    · rename_i e hu
      simp only [Bool.and_eq_true, decide_eq_true_eq, beq_iff_eq] at ok
      obtain ⟨⟨h1, hpos⟩, he⟩ := ok
      rcases DataW.trod_slice hu h with ⟨rfl, _⟩ | ⟨a, len, cap, elems, rest, m, hm, rfl, hx, _, hlc, hcm, hel, e2, _, _⟩
      · exact ⟨_, .sl t e [] hu (by simp) (fun r h => by simp at h) (fun r h => by simp at h), .one (.sl0 none 0), f0 _⟩
      · have e1 := hel
        by_cases hz : len = 0
        · subst hz
          exact ⟨_, .sl t e [] hu (by simp) (fun r h => by simp at h) (fun r h => by simp at h), .one (.sl0 (some a) cap), f0 _⟩
        · have key : ∀ i, i < len → ∃ vs, w.cells? 0 (a.add (i * P.cellsOf e)) (P.cellsOf e) = some vs ∧ ∃ cs, TD P e cs ∧ RD w cs vs ∧ ∃ y, elems[i]? = some y ∧ bulkDs cs ≤ F y.1 := by
            intro i hi
            have := e2 i hi
            rw [List.getElem?_eq_getElem (by omega), Option.bind_eq_some_iff] at this
            obtain ⟨vs, hv, ht⟩ := this
            obtain rfl : fuel = m := by omega
            obtain ⟨cs, c1, c2, c3⟩ := ihf e vs _ he ht
            exact ⟨vs, hv, cs, c1, c2, _, List.getElem?_eq_getElem (by omega), c3⟩
          have h0 := key 0 (by omega)
          obtain ⟨v0, hv0, _⟩ := h0
          obtain ⟨l0, g0⟩ := cells?_get hv0
          have hsp := cell_spot (g0 0 (by omega))
          simp only [Nat.zero_mul] at hsp
          have hadd0 : (a.add 0).add 0 = a := by unfold Addr.add; simp
          rw [hadd0] at hsp
          have kk : ∃ rows : List (List D), rows.length = len ∧ ∀ i (h : i < rows.length), TD P e rows[i] ∧ rows[i].length = P.cellsOf e ∧ ∃ vs, w.cells? 0 (a.add (i * P.cellsOf e)) (P.cellsOf e) = some vs ∧ RD w rows[i] vs ∧ ∃ y, elems[i]? = some y ∧ bulkDs rows[i] ≤ F y.1 := by
            have : ∀ k, k ≤ len → ∃ rows : List (List D), rows.length = k ∧ ∀ i (h : i < rows.length), TD P e rows[i] ∧ rows[i].length = P.cellsOf e ∧ ∃ vs, w.cells? 0 (a.add (i * P.cellsOf e)) (P.cellsOf e) = some vs ∧ RD w rows[i] vs ∧ ∃ y, elems[i]? = some y ∧ bulkDs rows[i] ≤ F y.1 := by
              intro k
              induction k with
              | zero => intro _; exact ⟨[], rfl, fun i h => by simp at h⟩
              | succ k ih =>
                intro hk
                obtain ⟨rows, r1, r2⟩ := ih (by omega)
                obtain ⟨vs, hv, cs, c1, c2, c3⟩ := key k (by omega)
                refine ⟨rows ++ [cs], by simp [r1], fun i hi => ?_⟩
                by_cases hik : i < rows.length
                · rw [List.getElem_append_left hik]; exact r2 i hik
                · have : i = k := by simp at hi; omega
                  subst this
                  rw [List.getElem_append_right (by omega)]
                  simp only [r1, Nat.sub_self, List.getElem_cons_zero]
                  exact ⟨c1, by rw [c2.1, (cells?_get hv).1], vs, hv, c2, c3⟩
            exact this len (Nat.le_refl _)
          obtain ⟨rows, r1, r2⟩ := kk
          have hrl : ∀ r ∈ rows, r.length = P.cellsOf e := fun r hr => by
            obtain ⟨i, hi, rfl⟩ := List.getElem_of_mem hr; exact (r2 i hi).2.1
          have hrt : ∀ r ∈ rows, TD P e r := fun r hr => by
            obtain ⟨i, hi, rfl⟩ := List.getElem_of_mem hr; exact (r2 i hi).1
          refine ⟨[.sl rows.flatten rows.length], .sl t e rows hu (by omega) hrl hrt, .one ?_, ?_⟩
          case refine_2 =>
            have hsum := sum_le (F := F) a0 a1 rows (elems.map (·.1)) (by rw [r1, List.length_map, hel]) (fun i r y hr hy => by
              have hi := (List.getElem?_eq_some_iff.1 hr).1
              have e := (List.getElem?_eq_some_iff.1 hr).2
              obtain ⟨_, _, _, _, _, y', hy', hb⟩ := r2 i hi
              rw [List.getElem?_map, hy'] at hy
              rw [← e]
              cases hy
              exact hb)
            have := f2 (elems.map (·.1)) (rest.map (·.1))
            rw [hx]
            show bulkDs rows.flatten + 1 + 0 ≤ _
            exact Nat.le_trans (Nat.add_le_add_right hsum 1) this
          rw [r1]
          have cellOf : ∀ j (h : j < rows.flatten.length), ∃ v, w.cell? (a.add j) = some v ∧ DR (fun _ _ => False) w rows.flatten[j] v := by
            intro j hj
            obtain ⟨q1, q2, q3⟩ := getElem_flatten_rows (P.cellsOf e) rows hrl j hj hpos
            obtain ⟨_, _, vs, hv, hrd, _⟩ := r2 (j / P.cellsOf e) q1
            obtain ⟨g1, g2⟩ := cells?_get hv
            have hm : j % P.cellsOf e < vs.length := by rw [g1]; exact Nat.mod_lt _ hpos
            refine ⟨vs[j % P.cellsOf e], ?_, ?_⟩
            · have := g2 _ hm
              rw [add_add hsp.1] at this
              have e3 : j / P.cellsOf e * P.cellsOf e + j % P.cellsOf e = j := Nat.div_add_mod' _ _
              rw [e3] at this; exact this
            · rw [q3]; exact hrd.2 _ q2 hm
          refine .sl a len cap _ (fun j => (w.cell? (a.add j)).getD (.bool false)) (by omega) hlc hsp.1 hsp.2 (fun _ _ h => h) (fun j hj => ?_) (fun j hj => ?_)
          · obtain ⟨v, hv, _⟩ := cellOf j hj; rw [hv]; rfl
          · obtain ⟨v, hv, hd⟩ := cellOf j hj; rw [hv]; exact hd
    · rename_i fs hu
      simp only [Bool.and_eq_true, beq_iff_eq, List.all_eq_true] at ok
      obtain ⟨htile, hall⟩ := ok
      obtain ⟨xs, m, hm, rfl, hlen, hxs, m2⟩ := DataW.trod_struct hu h
      obtain rfl : fuel = m := by omega
      obtain ⟨parts, p1, p2, p3, p4⟩ := struct_parts2 (w := w) (fun i ty ds => TD P ty ds ∧ ∃ y, xs[i]? = some y ∧ bulkDs ds ≤ F y.1) fs.toList 0 _ vs htile hlen (fun i hi => by
        have := m2 i (fs.toList[i]) (by rw [Array.getElem?_eq_getElem (by simpa using hi)]; simp)
        rw [List.getElem?_eq_getElem (by rw [hxs]; simpa using hi)] at this
        obtain ⟨ds, d1, d2, d3⟩ := ihf _ _ _ (hall _ (List.getElem_mem hi)) this
        exact ⟨ds, ⟨d1, _, List.getElem?_eq_getElem (by rw [hxs]; simpa using hi), d3⟩, d2⟩)
      refine ⟨parts.flatten, .struct t fs parts hu p1 p2 (fun i h h' => (p3 i h h').1), by simpa using p4, ?_⟩
      have hsum := sum_le (F := F) a0 a1 parts (xs.map (·.1)) (by rw [p1, List.length_map, hxs]; simp) (fun i r y hr hy => by
        have hi := (List.getElem?_eq_some_iff.1 hr).1
        have e := (List.getElem?_eq_some_iff.1 hr).2
        obtain ⟨_, y', hy', hb⟩ := p3 i hi (by omega)
        rw [List.getElem?_map, hy'] at hy
        rw [← e]
        cases hy
        exact hb)
      exact Nat.le_trans hsum (Nat.le_of_succ_le (f3 _))
    · cases ok


/-- One argument, and its bulk. -/
theorem arg_in3 {F : DataW H → Nat} {FA : List (DataW H) → Nat} (f0 : ∀ d, 1 ≤ F d) (f1 : ∀ b : List UInt8, b.length + 1 ≤ F (.lit (.string b))) (f2 : ∀ e s, FA e + 1 ≤ F (.slice e s)) (f3 : ∀ p, FA p + 1 ≤ F (.agg p)) (a0 : FA [] = 0) (a1 : ∀ d r, FA (d :: r) = F d + FA r)
    {S : List TypeId} (hS : okS P S = true) {t : TypeId} {v : Value} {d : DataW H} {ps : List MemPlace} (hc : S.contains t = true) (h : DataW.Trod enc P w 0 spare held t v d ps) :
    ∃ cs : List D, TD P t cs ∧ RD w cs v.cells.toList ∧ bulkDs cs ≤ F d := by
  obtain ⟨fuel, hf⟩ := h
  exact trod_td3 f0 f1 f2 f3 a0 a1 hS fuel t _ _ hc hf
end
end Go.Proofs.Ytcoagkfjdpdohaa.Sx
