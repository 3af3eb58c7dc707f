/-
  SX, PART I: WHAT COMES IN. A law's argument, as the statement's reader reads it, is closed data: 'TD' says of which form, by its type.
-/
import Derived.Test.YtegkhdflmboljaaSxBPl
import Derived.ChangeArms
import Derived.Carry
namespace Go.Proofs.Ytegkhdflmboljaa.Sx
open Go
set_option linter.unusedVariables false

def tile (P : Program) : Nat → List Field → Option Nat
  | o, [] => some o
  | o, f :: r => if f.offset = o then tile P (o + P.cellsOf f.type) r else none

/-- Closed data of a type. -/
inductive TD (P : Program) : TypeId → List D → Prop
  | bool (t : TypeId) (b : Bool) (ht : P.underlying t = some .bool) : TD P t [.v (.bool b)]
  | int (t : TypeId) (k : IntKind) (n : Int) (ht : P.underlying t = some (.int k)) (hn : (Lit.int k n).wf = true) : TD P t [.v (.int k n)]
  | str (t : TypeId) (s : ByteArray) (ht : P.underlying t = some .string) (hs : s.size ≤ maxLen) : TD P t [.v (.string s)]
  | sl (t e : TypeId) (rows : List (List D)) (ht : P.underlying t = some (.slice e)) (hm : rows.length ≤ maxLen) (hl : ∀ r ∈ rows, r.length = P.cellsOf e) (hr : ∀ r ∈ rows, TD P e r) : TD P t [.sl rows.flatten rows.length]
  | struct (t : TypeId) (fs : Array Field) (parts : List (List D)) (ht : P.underlying t = some (.struct fs)) (hn : parts.length = fs.toList.length)
      (hl : ∀ i (h : i < parts.length) (h' : i < fs.toList.length), parts[i].length = P.cellsOf (fs.toList[i]).type) (hr : ∀ i (h : i < parts.length) (h' : i < fs.toList.length), TD P (fs.toList[i]).type parts[i]) : TD P t parts.flatten

def RD (w : World) (cs : List D) (vs : List Value) : Prop := cs.length = vs.length ∧ ∀ j (h : j < cs.length) (h' : j < vs.length), DR (fun _ _ => False) w cs[j] vs[j]

theorem RD.one {w : World} {d : D} {v : Value} (h : DR (fun _ _ => False) w d v) : RD w [d] [v] :=
  ⟨rfl, fun j h1 _ => by
    have : j = 0 := by simpa using h1
    subst this; exact h⟩

theorem RD.nil (w : World) : RD w [] [] := ⟨rfl, fun j h => by simp at h⟩

theorem RD.append {w : World} {as bs : List D} {us vs : List Value} (h : RD w as us) (k : RD w bs vs) : RD w (as ++ bs) (us ++ vs) := by
  refine ⟨by simp [h.1, k.1], fun i hi hi' => ?_⟩
  by_cases hl : i < as.length
  · rw [List.getElem_append_left hl, List.getElem_append_left (by rw [← h.1]; exact hl)]
    exact h.2 i hl _
  · rw [List.getElem_append_right (by omega), List.getElem_append_right (by rw [← h.1]; omega)]
    simp only [← h.1]
    exact k.2 _ _ _

theorem wrap_len {P : Program} {o : Nat} : ∀ {fs : List Field} {n : Nat}, tile P o fs = some n → o ≤ n
  | [], n, h => by simp only [tile, Option.some.injEq] at h; omega
  | f :: r, n, h => by
    simp only [tile] at h
    split at h
    · have := wrap_len h; omega
    · cases h

theorem struct_parts {P : Program} {w : World} {X : TypeId → List D → Prop} : ∀ (fs : List Field) (o n : Nat) (cs : List Value), tile P o fs = some n → cs.length = n →
    (∀ i (h : i < fs.length), ∃ ds, X (fs[i]).type ds ∧ RD w ds ((cs.drop (fs[i]).offset).take (P.cellsOf (fs[i]).type))) →
    ∃ parts : List (List D), parts.length = fs.length ∧ (∀ i (h : i < parts.length) (h' : i < fs.length), parts[i].length = P.cellsOf (fs[i]).type) ∧ (∀ i (h : i < parts.length) (h' : i < fs.length), X (fs[i]).type parts[i]) ∧ RD w parts.flatten (cs.drop o)
  | [], o, n, cs, ht, hl, _ => by
    simp only [tile, Option.some.injEq] at ht
    refine ⟨[], rfl, fun i h => by simp at h, fun i h => by simp at h, ?_⟩
    rw [List.drop_of_length_le (by omega)]; exact RD.nil w
  | f :: r, o, n, cs, ht, hl, hx => by
    simp only [tile] at ht
    split at ht
    · rename_i ho
      obtain ⟨ds, h1, h2⟩ := hx 0 (by simp)
      obtain ⟨parts, p1, p2, p3, p4⟩ := struct_parts r (o + P.cellsOf f.type) n cs ht hl (fun i h => hx (i + 1) (by simpa using h))
      simp only [List.getElem_cons_zero] at h1 h2
      have hlen : ds.length = P.cellsOf f.type := by
        have := h2.1; have := wrap_len ht; simp only [List.length_take, List.length_drop] at *; omega
      refine ⟨ds :: parts, by simp [p1], fun i h h' => ?_, fun i h h' => ?_, ?_⟩
      · cases i with
        | zero => exact hlen
        | succ i => exact p2 i (by simpa using h) (by simpa using h')
      · cases i with
        | zero => exact h1
        | succ i => exact p3 i (by simpa using h) (by simpa using h')
      · rw [List.flatten_cons]
        have e : cs.drop o = (cs.drop o).take (P.cellsOf f.type) ++ cs.drop (o + P.cellsOf f.type) := by
          rw [← List.drop_drop, List.take_append_drop]
        rw [e]; rw [ho] at h2
        exact h2.append p4
    · cases ht

theorem getElem_flatten_rows {α : Type} (sz : Nat) : ∀ (rows : List (List α)) (_ : ∀ r ∈ rows, r.length = sz) (j : Nat) (h : j < rows.flatten.length) (hs : 0 < sz),
    ∃ (h1 : j / sz < rows.length) (h2 : j % sz < rows[j / sz].length), rows.flatten[j] = rows[j / sz][j % sz]
  | [], _, j, h, _ => by simp at h
  | r :: rows, hl, j, h, hs => by
    have hr : r.length = sz := hl r (by simp)
    by_cases hj : j < sz
    · have e1 : j / sz = 0 := Nat.div_eq_of_lt hj
      have e2 : j % sz = j := Nat.mod_eq_of_lt hj
      refine ⟨by simp [e1], by simp [e1, e2, hr, hj], ?_⟩
      simp only [List.flatten_cons, e1, e2, List.getElem_cons_zero]
      rw [List.getElem_append_left (by omega)]
    · have hjs : sz ≤ j := Nat.le_of_not_lt hj
      simp only [List.flatten_cons, List.length_append, hr] at h
      obtain ⟨h1, h2, h3⟩ := getElem_flatten_rows sz rows (fun r hr => hl r (by simp [hr])) (j - sz) (by omega) hs
      have e1 : j / sz = (j - sz) / sz + 1 := by rw [Nat.div_eq_sub_div hs hjs]
      have e2 : j % sz = (j - sz) % sz := Nat.mod_eq_sub_mod hjs
      refine ⟨by simp only [List.length_cons, e1]; omega, ?_, ?_⟩
      · simp only [e1, e2, List.getElem_cons_succ]; exact h2
      · simp only [List.flatten_cons, e1, e2, List.getElem_cons_succ]
        rw [List.getElem_append_right (by omega)]
        simp only [hr]; exact h3

section
variable {H : Type} {enc : TypeId × Value → H} {P : Program} {w : World} {spare : Nat → Bool} {held : Bool}

theorem cells?_get {a : Addr} {n : Nat} {vs : List Value} (h : w.cells? 0 a n = some vs) : vs.length = n ∧ ∀ j (hj : j < vs.length), w.cell? (a.add j) = some vs[j] := by
  unfold World.cells? at h
  rw [if_pos (Nat.zero_le _)] at h
  obtain ⟨h1, h2⟩ := mapM_get h
  simp only [List.length_range] at h1
  refine ⟨h1.symm, fun j hj => ?_⟩
  have := h2 j (by simpa [h1] using hj) hj
  simpa using this

theorem add_add {a : Addr} (h : a.spot = none) (i j : Nat) : (a.add i).add j = a.add (i + j) := by
  rw [add_none h, add_none h, add_blk]; simp only [Nat.add_assoc]

theorem cell_spot {a : Addr} {v : Value} (h : w.cell? a = some v) : a.spot = none ∧ a.block < w.heap.size := by
  unfold World.cell? at h
  split at h
  · rename_i c x y hb
    refine ⟨?_, (Array.getElem?_eq_some_iff.1 hb).1⟩
    split at h
    · cases h
    · rename_i hs; simpa using hs
  · cases h

def okS1 (P : Program) (S : List TypeId) (t : TypeId) : Bool :=
  match P.underlying t with
  | some .bool | some (.int _) | some .string => P.cellsOf t == 1
  | some (.slice e) => P.cellsOf t == 1 && decide (0 < P.cellsOf e) && S.contains e
  | some (.struct fs) => tile P 0 fs.toList == some (P.cellsOf t) && fs.toList.all fun f => S.contains f.type
  | _ => false
def okS (P : Program) (S : List TypeId) : Bool := S.all (okS1 P S)
theorem trod_td2 {S : List TypeId} (hS : okS P S = true) : ∀ (fuel : Nat) (t : TypeId) (vs : List Value) (x : DataW H × List MemPlace), S.contains t = true → DataW.trod enc P w 0 spare held fuel t vs = some x →
    ∃ cs : List D, TD P t cs ∧ RD w cs vs := by
  intro fuel
  induction fuel with
  | zero => intro t vs x _ h; simp [DataW.trod] at h
  | succ fuel ihf =>
    intro t vs x hc h
    have ok := List.all_eq_true.1 hS t (by simpa using hc)
    unfold okS1 at ok
    split at ok
    · rename_i hu
      obtain ⟨b, rfl, rfl⟩ := DataW.trod_bool hu h
      exact ⟨_, .bool t b hu, .one (.v _ rfl)⟩
    · rename_i k hu
      obtain ⟨m, rfl, rfl, hw⟩ := DataW.trod_int hu h
      exact ⟨_, .int t k m hu hw, .one (.v _ rfl)⟩
    · rename_i hu
      obtain ⟨s, rfl, rfl, hs⟩ := DataW.trod_string hu h
      exact ⟨_, .str t s hu hs, .one (.v _ rfl)⟩
    · rename_i e hu
      simp only [Bool.and_eq_true, decide_eq_true_eq, beq_iff_eq] at ok
      obtain ⟨⟨h1, hpos⟩, he⟩ := ok
      rcases DataW.trod_slice hu h with ⟨rfl, _⟩ | ⟨a, len, cap, elems, rest, m, hm, rfl, _, _, hlc, hcm, hel, e2, _, _⟩
      · exact ⟨_, .sl t e [] hu (by simp) (fun r h => by simp at h) (fun r h => by simp at h), .one (.sl0 none 0)⟩
      · have e1 := hel
        by_cases hz : len = 0
        · subst hz
          exact ⟨_, .sl t e [] hu (by simp) (fun r h => by simp at h) (fun r h => by simp at h), .one (.sl0 (some a) cap)⟩
        · have key : ∀ i, i < len → ∃ vs, w.cells? 0 (a.add (i * P.cellsOf e)) (P.cellsOf e) = some vs ∧ ∃ cs, TD P e cs ∧ RD w cs vs := by
            intro i hi
            have := e2 i hi
            rw [List.getElem?_eq_getElem (by omega), Option.bind_eq_some_iff] at this
            obtain ⟨vs, hv, ht⟩ := this
            obtain rfl : fuel = m := by omega
            obtain ⟨cs, c1, c2⟩ := ihf e vs _ he ht
            exact ⟨vs, hv, cs, c1, c2⟩
          have h0 := key 0 (by omega)
          obtain ⟨v0, hv0, _⟩ := h0
          obtain ⟨l0, g0⟩ := cells?_get hv0
          have hsp := cell_spot (g0 0 (by omega))
          simp only [Nat.zero_mul] at hsp
          have hadd0 : (a.add 0).add 0 = a := by unfold Addr.add; simp
          rw [hadd0] at hsp
          have kk : ∃ rows : List (List D), rows.length = len ∧ ∀ i (h : i < rows.length), TD P e rows[i] ∧ rows[i].length = P.cellsOf e ∧ ∃ vs, w.cells? 0 (a.add (i * P.cellsOf e)) (P.cellsOf e) = some vs ∧ RD w rows[i] vs := by
            have : ∀ k, k ≤ len → ∃ rows : List (List D), rows.length = k ∧ ∀ i (h : i < rows.length), TD P e rows[i] ∧ rows[i].length = P.cellsOf e ∧ ∃ vs, w.cells? 0 (a.add (i * P.cellsOf e)) (P.cellsOf e) = some vs ∧ RD w rows[i] vs := by
              intro k
              induction k with
              | zero => intro _; exact ⟨[], rfl, fun i h => by simp at h⟩
              | succ k ih =>
                intro hk
                obtain ⟨rows, r1, r2⟩ := ih (by omega)
                obtain ⟨vs, hv, cs, c1, c2⟩ := key k (by omega)
                refine ⟨rows ++ [cs], by simp [r1], fun i hi => ?_⟩
                by_cases hik : i < rows.length
                · rw [List.getElem_append_left hik]; exact r2 i hik
                · have : i = k := by simp at hi; omega
                  subst this
                  rw [List.getElem_append_right (by omega)]
                  simp only [r1, Nat.sub_self, List.getElem_cons_zero]
                  exact ⟨c1, by rw [c2.1, (cells?_get hv).1], vs, hv, c2⟩
            exact this len (Nat.le_refl _)
          obtain ⟨rows, r1, r2⟩ := kk
          have hrl : ∀ r ∈ rows, r.length = P.cellsOf e := fun r hr => by
            obtain ⟨i, hi, rfl⟩ := List.getElem_of_mem hr; exact (r2 i hi).2.1
          have hrt : ∀ r ∈ rows, TD P e r := fun r hr => by
            obtain ⟨i, hi, rfl⟩ := List.getElem_of_mem hr; exact (r2 i hi).1
          refine ⟨[.sl rows.flatten rows.length], .sl t e rows hu (by omega) hrl hrt, .one ?_⟩
          rw [r1]
          have cellOf : ∀ j (h : j < rows.flatten.length), ∃ v, w.cell? (a.add j) = some v ∧ DR (fun _ _ => False) w rows.flatten[j] v := by
            intro j hj
            obtain ⟨q1, q2, q3⟩ := getElem_flatten_rows (P.cellsOf e) rows hrl j hj hpos
            obtain ⟨_, _, vs, hv, hrd⟩ := r2 (j / P.cellsOf e) q1
            obtain ⟨g1, g2⟩ := cells?_get hv
            have hm : j % P.cellsOf e < vs.length := by rw [g1]; exact Nat.mod_lt _ hpos
            refine ⟨vs[j % P.cellsOf e], ?_, ?_⟩
            · have := g2 _ hm
              rw [add_add hsp.1] at this
              have e3 : j / P.cellsOf e * P.cellsOf e + j % P.cellsOf e = j := Nat.div_add_mod' _ _
              rw [e3] at this; exact this
            · rw [q3]; exact hrd.2 _ q2 hm
          refine .sl a len cap _ (fun j => (w.cell? (a.add j)).getD (.bool false)) (by omega) hlc hsp.1 hsp.2 (fun _ _ h => h) (fun j hj => ?_) (fun j hj => ?_)
          · obtain ⟨v, hv, _⟩ := cellOf j hj; rw [hv]; rfl
          · obtain ⟨v, hv, hd⟩ := cellOf j hj; rw [hv]; exact hd
    · rename_i fs hu
      simp only [Bool.and_eq_true, beq_iff_eq, List.all_eq_true] at ok
      obtain ⟨htile, hall⟩ := ok
      obtain ⟨xs, m, hm, _, hlen, hxs, m2⟩ := DataW.trod_struct hu h
      obtain rfl : fuel = m := by omega
      obtain ⟨parts, p1, p2, p3, p4⟩ := struct_parts (w := w) (X := TD P) fs.toList 0 _ vs htile hlen (fun i hi => by
        have := m2 i (fs.toList[i]) (by rw [Array.getElem?_eq_getElem (by simpa using hi)]; simp)
        rw [List.getElem?_eq_getElem (by rw [hxs]; simpa using hi)] at this
        exact ihf _ _ _ (hall _ (List.getElem_mem hi)) this)
      exact ⟨parts.flatten, .struct t fs parts hu p1 p2 p3, by simpa using p4⟩
    · cases ok

theorem arg_in2 {S : List TypeId} (hS : okS P S = true) {t : TypeId} {v : Value} {d : DataW H} {ps : List MemPlace} (hc : S.contains t = true) (h : DataW.Trod enc P w 0 spare held t v d ps) :
    ∃ cs : List D, TD P t cs ∧ RD w cs v.cells.toList := by
  obtain ⟨fuel, hf⟩ := h
  exact trod_td2 hS fuel t _ _ hc hf

end

section
variable {P : Program} {t : TypeId} {cs : List D}
theorem TD.bool_inv (h : TD P t cs) (hu : P.underlying t = some .bool) : ∃ b, cs = [.v (.bool b)] := by
  cases h with
  | bool _ b ht => exact ⟨b, rfl⟩
  | int _ k n ht hn => rw [hu] at ht; cases ht
  | str _ s ht hs => rw [hu] at ht; cases ht
  | sl _ e rows ht hm hl hr => rw [hu] at ht; cases ht
  | struct _ fs parts ht hn hl hr => rw [hu] at ht; cases ht
theorem TD.int_inv {k : IntKind} (h : TD P t cs) (hu : P.underlying t = some (.int k)) : ∃ n, cs = [.v (.int k n)] ∧ (Lit.int k n).wf = true := by
  cases h with
  | bool _ b ht => rw [hu] at ht; cases ht
  | int _ k n ht hn => rw [hu] at ht; cases ht; exact ⟨n, rfl, hn⟩
  | str _ s ht hs => rw [hu] at ht; cases ht
  | sl _ e rows ht hm hl hr => rw [hu] at ht; cases ht
  | struct _ fs parts ht hn hl hr => rw [hu] at ht; cases ht
theorem TD.sl_inv {e : TypeId} (h : TD P t cs) (hu : P.underlying t = some (.slice e)) :
    ∃ rows : List (List D), cs = [.sl rows.flatten rows.length] ∧ rows.length ≤ maxLen ∧ (∀ r ∈ rows, r.length = P.cellsOf e) ∧ ∀ r ∈ rows, TD P e r := by
  cases h with
  | bool _ b ht => rw [hu] at ht; cases ht
  | int _ k n ht hn => rw [hu] at ht; cases ht
  | str _ s ht hs => rw [hu] at ht; cases ht
  | sl _ e rows ht hm hl hr => rw [hu] at ht; cases ht; exact ⟨rows, rfl, hm, hl, hr⟩
  | struct _ fs parts ht hn hl hr => rw [hu] at ht; cases ht
theorem TD.struct_inv {fs : Array Field} (h : TD P t cs) (hu : P.underlying t = some (.struct fs)) :
    ∃ parts : List (List D), cs = parts.flatten ∧ parts.length = fs.toList.length ∧ (∀ i (h : i < parts.length) (h' : i < fs.toList.length), parts[i].length = P.cellsOf (fs.toList[i]).type) ∧
      ∀ i (h : i < parts.length) (h' : i < fs.toList.length), TD P (fs.toList[i]).type parts[i] := by
  cases h with
  | bool _ b ht => rw [hu] at ht; cases ht
  | int _ k n ht hn => rw [hu] at ht; cases ht
  | str _ s ht hs => rw [hu] at ht; cases ht
  | sl _ e rows ht hm hl hr => rw [hu] at ht; cases ht
  | struct _ fs parts ht hn hl hr => rw [hu] at ht; cases ht; exact ⟨parts, rfl, hn, hl, hr⟩
end

theorem TD.ints_inv {P : Program} {t e : TypeId} {k : IntKind} {cs : List D} (h : TD P t cs) (hu : P.underlying t = some (.slice e)) (he : P.underlying e = some (.int k)) :
    ∃ ns : List Int, cs = [.sl (ns.map fun n => .v (.int k n)) ns.length] ∧ ns.length ≤ maxLen ∧ ∀ n ∈ ns, (Lit.int k n).wf = true := by
  obtain ⟨rows, rfl, hm, _, hr⟩ := h.sl_inv hu
  have key : ∀ rows : List (List D), (∀ r ∈ rows, TD P e r) → ∃ ns : List Int, rows.flatten = ns.map (fun n => .v (.int k n)) ∧ ns.length = rows.length ∧ ∀ n ∈ ns, (Lit.int k n).wf = true := by
    intro rows
    induction rows with
    | nil => intro _; exact ⟨[], rfl, rfl, fun n h => by simp at h⟩
    | cons r rows ih =>
      intro hr
      obtain ⟨n, rfl, hn⟩ := (hr r (by simp)).int_inv he
      obtain ⟨ns, h1, h2, h3⟩ := ih fun r h => hr r (by simp [h])
      refine ⟨n :: ns, by simp [h1], by simp [h2], fun m hm => ?_⟩
      rcases List.mem_cons.1 hm with rfl | hm
      · exact hn
      · exact h3 m hm
  obtain ⟨ns, h1, h2, h3⟩ := key rows hr
  exact ⟨ns, by rw [h1, h2], by omega, h3⟩

theorem RD.single {w : World} {cs : List D} {v : Value} (h : RD w cs [v]) : ∃ d, cs = [d] := by
  match cs, h.1 with
  | [d], _ => exact ⟨d, rfl⟩

theorem wf_int {k : IntKind} {n : Int} (h : (Lit.int k n).wf = true) : k.min ≤ n ∧ n ≤ k.max := by
  simpa [Lit.wf] using h
theorem wf_u8 {n : Int} (h : (Lit.int .u8 n).wf = true) : 0 ≤ n ∧ n ≤ 255 := wf_int h
theorem wf_i64 {n : Int} (h : (Lit.int .i64 n).wf = true) : -9223372036854775808 ≤ n ∧ n ≤ 9223372036854775807 := wf_int h
theorem RD.rel1 {w : World} {d : D} {v : Value} (h : RD w [d] [v]) : Rel (Cx.out w) (.d d) v := .d _ _ (DR.weaken (L := fun _ _ => False) (fun _ _ h => h.1) (h.2 0 (by simp) (by simp)))

end Go.Proofs.Ytegkhdflmboljaa.Sx
