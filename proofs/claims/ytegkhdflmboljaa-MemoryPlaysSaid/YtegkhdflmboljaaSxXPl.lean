/-
  SX, PART X: ORDERS. A region's operations, in whatever order its edges allow, come to what they come to in the text's order.
-/
import Derived.Test.YtegkhdflmboljaaSxWPl
namespace Go.Proofs.Ytegkhdflmboljaa.Sx
open Go

/-! ### Lists of what is still to come -/
def rem (n : Nat) (done : List Nat) : List Nat := (List.range n).filter fun k => !done.contains k

theorem mem_rem {n : Nat} {done : List Nat} {k : Nat} : k ∈ rem n done ↔ k < n ∧ k ∉ done := by
  simp [rem, List.mem_filter]

theorem rem_split {n i : Nat} {done : List Nat} (hi : i < n) (hd : i ∉ done) :
    ∃ A B, rem n done = A ++ i :: B ∧ rem n (i :: done) = A ++ B ∧ ∀ k ∈ A, k < i ∧ k ∉ done := by
  have hr : List.range n = List.range i ++ i :: List.range' (i + 1) (n - i - 1) := by
    have e : n = i + (1 + (n - i - 1)) := by omega
    rw [List.range_eq_range', List.range_eq_range']
    conv => lhs; rw [e]
    rw [← List.range'_append_1]
    simp [List.range'_succ, Nat.add_comm 1]
  refine ⟨(List.range i).filter fun k => !done.contains k, (List.range' (i + 1) (n - i - 1)).filter fun k => !done.contains k, ?_, ?_, ?_⟩
  · unfold rem
    rw [hr, List.filter_append, List.filter_cons]
    simp [hd]
  · unfold rem
    rw [hr, List.filter_append, List.filter_cons]
    simp only [List.contains_cons, BEq.rfl, Bool.true_or, Bool.not_true, Bool.false_eq_true, if_false]
    congr 1
    · apply List.filter_congr
      intro k hk
      have : ¬ k = i := by have := List.mem_range.1 hk; omega
      simp [this]
    · apply List.filter_congr
      intro k hk
      have : ¬ k = i := by have := List.mem_range'_1.1 hk; omega
      simp [this]
  · intro k hk
    simp only [List.mem_filter, List.mem_range] at hk
    exact ⟨hk.1, by simpa using hk.2⟩

/-! ### Orders that the edges allow -/
def Topo (pre : Nat → List Nat) : List Nat → List Nat → Prop
  | _, [] => True
  | done, i :: l => i ∉ done ∧ (∀ k ∈ pre i, k ∈ done) ∧ Topo pre (i :: done) l

def preOf (ops : Array Oper) (i : Nat) : List Nat := ((ops[i]?).map edgesOf).getD []

def EdgesOK (ops : Array Oper) : Prop := ∀ i o, ops[i]? = some o → edgeOK o i = true

theorem edge_lt {ops : Array Oper} (h : EdgesOK ops) {i k : Nat} (hk : k ∈ preOf ops i) : k < i := by
  unfold preOf at hk
  cases ho : ops[i]? with
  | none => simp [ho] at hk
  | some o =>
    simp only [ho, Option.map_some, Option.getD_some] at hk
    have := h i o ho
    simp only [edgeOK, List.all_eq_true] at this
    exact Nat.le_of_ble_eq_true (this k hk)

theorem mem_edges {o : Oper} {k : Nat} : k ∈ edgesOf o ↔ ∃ e ∈ o.after.toList, Region.binds .any e = true ∧ e.on = k := by
  simp only [edgesOf, List.mem_map, List.mem_filter]
  constructor
  · rintro ⟨e, ⟨h1, h2⟩, h3⟩; exact ⟨e, h1, h2, h3⟩
  · rintro ⟨e, h1, h2, h3⟩; exact ⟨e, ⟨h1, h2⟩, h3⟩

theorem linearise_go {ops : Array Oper} (h : EdgesOK ops) : ∀ (fuel t : Nat) (listed : Array Bool) (acc : List Nat), listed.size = ops.size → (∀ i, i < ops.size → (listed.getD i true = true ↔ i ∈ acc)) →
    (∀ i, i < ops.size → (listed.getD i false = true ↔ i ∈ acc)) → fuel = (rem ops.size acc).length →
    ∃ l, Region.linearise.go .any ops fuel t listed acc = acc.reverse ++ l ∧ Topo (preOf ops) acc l ∧ (∀ i, i < ops.size → i ∈ acc ∨ i ∈ l) ∧ ∀ i ∈ l, i < ops.size
  | 0, t, listed, acc, hsz, h1, h2, hf => by
    refine ⟨[], by simp [Region.linearise.go], trivial, fun i hi => ?_, by simp⟩
    refine .inl ?_
    have : rem ops.size acc = [] := List.eq_nil_of_length_eq_zero hf.symm
    refine Decidable.byContradiction fun hn => ?_
    have : i ∈ rem ops.size acc := mem_rem.2 ⟨hi, hn⟩
    simp_all
  | fuel + 1, t, listed, acc, hsz, h1, h2, hf => by
    -- what is ready
    have ready : ∀ i, i ∈ ((List.range ops.size).filter fun i => !listed.getD i true && ((ops[i]?).map (·.after.all fun e => !Region.binds .any e || listed.getD e.on false)).getD false) ↔
        i < ops.size ∧ i ∉ acc ∧ ∀ k ∈ preOf ops i, k ∈ acc := by
      intro i
      simp only [List.mem_filter, List.mem_range, Bool.and_eq_true, Bool.not_eq_true']
      constructor
      · rintro ⟨hi, hl, hr⟩
        refine ⟨hi, (fun hm => (by rw [(h1 i hi).2 hm] at hl; cases hl)), fun k hk => ?_⟩
        unfold preOf at hk
        cases ho : ops[i]? with
        | none => simp [ho] at hk
        | some o =>
          have hlt : k < ops.size := by
            have : k ∈ preOf ops i := by unfold preOf; exact hk
            have := edge_lt h this; omega
          simp only [ho, Option.map_some, Option.getD_some] at hk hr
          obtain ⟨e, he, hb, rfl⟩ := mem_edges.1 hk
          rw [Array.all_eq_true] at hr
          obtain ⟨j, hj, rfl⟩ := List.getElem_of_mem he
          have := hr j (by simpa using hj)
          simp only [Array.getElem_toList] at hb this hlt ⊢
          rw [hb] at this
          simp only [Bool.not_true, Bool.false_or] at this
          exact (h2 _ hlt).1 this
      · rintro ⟨hi, hn, hp⟩
        have hl : listed.getD i true = false := by
          cases hb : listed.getD i true with
          | false => rfl
          | true => exact absurd ((h1 i hi).1 hb) hn
        refine ⟨hi, hl, ?_⟩
        have ho : ops[i]? = some ops[i] := Array.getElem?_eq_getElem hi
        rw [ho]
        simp only [Option.map_some, Option.getD_some, Array.all_eq_true]
        intro j hj
        cases hb : Region.binds .any ops[i].after[j] with
        | false => rfl
        | true =>
          have hin : (ops[i].after[j]).on ∈ preOf ops i := by
            unfold preOf; rw [ho]; simp only [Option.map_some, Option.getD_some]
            exact mem_edges.2 ⟨_, by rw [Array.mem_toList_iff]; exact Array.getElem_mem hj, hb, rfl⟩
          have hlt := edge_lt h hin
          simp only [Bool.not_true, Bool.false_or]
          exact (h2 _ (by omega)).2 (hp _ hin)
    unfold Region.linearise.go
    simp only
    generalize hrs : ((List.range ops.size).filter fun i => !listed.getD i true && ((ops[i]?).map (·.after.all fun e => !Region.binds .any e || listed.getD e.on false)).getD false) = rs at ready
    -- the least that is left is ready
    have hne : rs ≠ [] := by
      have hpos : rem ops.size acc ≠ [] := fun e => by rw [e] at hf; simp at hf
      have hleast : ∀ n : Nat, ∀ i, i ≤ n → i ∈ rem ops.size acc → ∃ k, k ∈ rs := by
        intro n
        induction n with
        | zero =>
          intro i hi hm
          have hm' := mem_rem.1 hm
          refine ⟨i, (ready i).2 ⟨hm'.1, hm'.2, fun k hk => ?_⟩⟩
          have := edge_lt h hk; omega
        | succ n ih =>
          intro i hi hm
          have hm' := mem_rem.1 hm
          by_cases hall : ∀ k ∈ preOf ops i, k ∈ acc
          · exact ⟨i, (ready i).2 ⟨hm'.1, hm'.2, hall⟩⟩
          · have ⟨k, hk⟩ := Classical.not_forall.1 hall
            have ⟨hk1, hk2⟩ := Classical.not_imp.1 hk
            have := edge_lt h hk1
            exact ih k (by omega) (mem_rem.2 ⟨by omega, hk2⟩)
      cases hq : rem ops.size acc with
      | nil => exact absurd hq hpos
      | cons i r =>
        obtain ⟨k, hk⟩ := hleast i i (Nat.le_refl _) (by rw [hq]; simp)
        intro e; rw [e] at hk; simp at hk
    have hlen : 0 < rs.length := List.length_pos_iff.2 hne
    have hmod : t % rs.length < rs.length := Nat.mod_lt _ hlen
    rw [List.getElem?_eq_getElem hmod]
    simp only
    generalize hi : rs[t % rs.length] = i
    have him : i ∈ rs := by rw [← hi]; exact List.getElem_mem hmod
    obtain ⟨g1, g2, g3⟩ := (ready i).1 him
    obtain ⟨A, B, e1, e2, e3⟩ := rem_split g1 g2
    obtain ⟨l, q1, q2, q3, q4⟩ := linearise_go h fuel (t / rs.length) (listed.setIfInBounds i true) (i :: acc) (by simp [hsz])
      (fun k hk => by
        by_cases hki : k = i
        · subst hki; simp [Array.getD, hsz, hk]
        · have := h1 k hk
          simp only [List.mem_cons, hki, false_or]
          rw [← this]
          simp [Array.getD, hsz, hk, Ne.symm hki])
      (fun k hk => by
        by_cases hki : k = i
        · subst hki; simp [Array.getD, hsz, hk]
        · have := h2 k hk
          simp only [List.mem_cons, hki, false_or]
          rw [← this]
          simp [Array.getD, hsz, hk, Ne.symm hki])
      (by rw [e2]; rw [e1] at hf; simp at hf ⊢; omega)
    refine ⟨i :: l, by rw [q1]; simp, ⟨g2, g3, q2⟩, fun k hk => ?_, fun k hk => ?_⟩
    · rcases q3 k hk with hq | hq
      · simp only [List.mem_cons] at hq
        rcases hq with rfl | hq
        · exact .inr (by simp)
        · exact .inl hq
      · exact .inr (by simp [hq])
    · simp only [List.mem_cons] at hk
      rcases hk with rfl | hk
      · exact g1
      · exact q4 k hk

theorem linearise_topo {ops : Array Oper} (h : EdgesOK ops) (t : Nat) : Topo (preOf ops) [] (Region.linearise .any ops t) ∧ (∀ i, i < ops.size → i ∈ Region.linearise .any ops t) ∧ ∀ i ∈ Region.linearise .any ops t, i < ops.size := by
  obtain ⟨l, q1, q2, q3, q4⟩ := linearise_go h ops.size t (Array.replicate ops.size false) [] (by simp) (fun i hi => by simp [Array.getD, hi]) (fun i hi => by simp [Array.getD]) (by unfold rem; rw [List.filter_eq_self.2 (by simp)]; simp)
  unfold Region.linearise
  rw [q1]
  exact ⟨by simpa using q2, fun i hi => by simpa using q3 i hi, fun i hi => q4 i (by simpa using hi)⟩

theorem schedule_topo {ops : Array Oper} (h : EdgesOK ops) (mixed : Bool) (hm : (mixed || !Region.departs ops) = true) (t : Nat) : Topo (preOf ops) [] (Region.schedule mixed ops t) ∧ (∀ i, i < ops.size → i ∈ Region.schedule mixed ops t) ∧ ∀ i ∈ Region.schedule mixed ops t, i < ops.size := by
  unfold Region.schedule
  rw [if_pos hm]
  exact linearise_topo h t
end Go.Proofs.Ytegkhdflmboljaa.Sx
