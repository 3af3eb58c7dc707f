/-
  SX, PART P: AN OPERATION OF THE MODEL DOES WHAT THE ABSTRACT MACHINE'S INSTRUCTION SAYS: memory: what a new block, a store leave; loads, slices, indexes.
-/
import Derived.Test.YtegkhdflmboljaaSxOPl
namespace Go.Proofs.Ytegkhdflmboljaa.Sx
open Go

/-! ### A new block -/
structure Pushed (w w' : World) (o : Obj) : Prop where
  heap : w'.heap = w.heap.push o
  os : w'.os = w.os
  tape : w'.tape = w.tape
  output : w'.output = w.output

theorem Pushed.alloc (w : World) (o : Obj) : Pushed w (w.alloc o) o := ⟨rfl, rfl, rfl, rfl⟩
theorem Pushed.drew (w : World) (o : Obj) : Pushed w (w.drew.alloc o) o := ⟨rfl, rfl, rfl, rfl⟩
theorem Pushed.old {w w' : World} {o : Obj} (h : Pushed w w' o) {b : Nat} (hb : b < w.heap.size) : w'.heap[b]? = w.heap[b]? := by
  rw [h.heap, Array.getElem?_push, if_neg (by omega)]
theorem Pushed.new {w w' : World} {o : Obj} (h : Pushed w w' o) : w'.heap[w.heap.size]? = some o := by
  rw [h.heap, Array.getElem?_push, if_pos rfl]
theorem Pushed.size {w w' : World} {o : Obj} (h : Pushed w w' o) : w'.heap.size = w.heap.size + 1 := by rw [h.heap, Array.size_push]

def Cx.make (c : Cx) (id tot : Nat) (w' : World) (u : Nat := 0) : Cx :=
  { S := fun k => c.S k ∨ k = id
    E := { blk := fun k => if k = id then c.w.heap.size else c.E.blk k, tot := fun k => if k = id then tot else c.E.tot k }
    L := fun b => c.L b ∨ b = c.w.heap.size
    W := fun b => c.W b ∨ b = c.w.heap.size
    F := fun b o => c.F b o ∨ (b = c.w.heap.size ∧ o < u)
    w := w' }

theorem ne_of_S {c : Cx} {id k : Nat} (hf : ¬ c.S id) (hk : c.S k) : k ≠ id := fun e => hf (e ▸ hk)

theorem ext_make {c : Cx} {id tot u : Nat} {w' : World} {o : Obj} (hf : ¬ c.S id) (hp : Pushed c.w w' o) : Ext c (c.make id tot w' u) where
  S k h := .inl h
  blk k h := by simp [Cx.make, ne_of_S hf h]
  tot k h := by simp [Cx.make, ne_of_S hf h]
  size := by show c.w.heap.size ≤ w'.heap.size; rw [hp.size]; omega
  L b hb := ⟨fun h => h.resolve_right (by omega), .inl⟩
  W b hb h := h.resolve_right (by omega)
  keep b hb _ := hp.old hb
  new k h := by
    rcases h with h | h
    · exact .inl h
    · exact .inr (.inl (by subst h; simp [Cx.make]))
  F b o h := .inl h
  keepF b o _ hb := World.cell?_of_block (hp.old hb)
  newF b o h := h.imp_right (fun h => .inl (by omega))
  os := hp.os
  tape := hp.tape
  output := hp.output

theorem after_make {lo : Nat} {M : MM} {c : Cx} {id tot : Nat} {w' : World} {o : Obj} {B : Blk} {u : Nat} (hS : Sim lo M c) (hf : ¬ c.S id) (hp : Pushed c.w w' o) (hB : BRel (c.make id tot w' u) id B) (hu : B.isTok = false → u = 0 := by intros; rfl) :
    After lo id M c (M.alloc id B) (c.make id tot w' u) where
  ext := ext_make hf hp
  nx := Nat.le_max_left _ _
  ids k h := h.imp_right .inl
  sim :=
    { dom := fun k h => by
        by_cases hk : k = id
        · exact .inr hk
        · exact .inl (hS.dom k (by simpa [MM.alloc, upd, hk] using h))
      nx := fun k h => by
        show k < max M.nx (id + 1)
        rcases h with h | h
        · have := hS.nx k h; omega
        · omega
      lt := fun k h => by
        show _ < w'.heap.size
        rw [hp.size]
        by_cases hk : k = id
        · simp [Cx.make, hk]
        · have := hS.lt k (h.resolve_right hk)
          simp only [Cx.make, hk, if_false]; omega
      live := fun k h => by
        by_cases hk : k = id
        · exact .inr (by simp [Cx.make, hk])
        · exact .inl (by simpa [Cx.make, hk] using hS.live k (by simpa [MM.alloc, upd, hk] using h))
      wlive := fun k h hl => by
        by_cases hk : k = id
        · exact .inr (by simp [Cx.make, hk])
        · exact .inl (by simpa [Cx.make, hk] using hS.wlive k (by simpa [MM.alloc, upd, hk] using h) hl)
      WL := fun b h => h.imp_left (hS.WL b)
      Llt := fun b h => by
        show b < w'.heap.size
        rw [hp.size]
        rcases h with h | h
        · have := hS.Llt b h; omega
        · omega
      inj := fun i j hi hj he => by
        by_cases h1 : i = id <;> by_cases h2 : j = id
        · rw [h1, h2]
        · exfalso
          have hj' := hS.lt j (hS.dom j (by simpa [MM.alloc, upd, h2] using hj))
          simp only [Cx.make, h1, h2, if_true, if_false] at he; omega
        · exfalso
          have hi' := hS.lt i (hS.dom i (by simpa [MM.alloc, upd, h1] using hi))
          simp only [Cx.make, h1, h2, if_true, if_false] at he; omega
        · exact hS.inj i j (by simpa [MM.alloc, upd, h1] using hi) (by simpa [MM.alloc, upd, h2] using hj) (by simpa [Cx.make, h1, h2] using he)
      blk := fun k B' h => by
        by_cases hk : k = id
        · subst hk
          simp only [MM.alloc, upd, if_true, Option.some.injEq] at h
          subst h; exact hB
        · simp only [MM.alloc, upd, hk, if_false] at h
          have hs := hS.dom k (by rw [h]; simp)
          exact (hS.blk k B' h).ext hS.WL (ext_make hf hp) hs (hp.old (hS.lt k hs)) (fun o ho => ho.resolve_right (fun e => by have := hS.lt k hs; omega))
      flt := fun b o h => by
        show b < w'.heap.size
        rw [hp.size]
        rcases h with h | h
        · have := hS.flt b o h; omega
        · omega
      frz := fun k B' h ht o ho => by
        by_cases hk : k = id
        · subst hk
          simp only [MM.alloc, upd, if_true, Option.some.injEq] at h
          subst h
          simp only [Cx.make, if_true] at ho
          rcases ho with ho | ho
          · have := hS.flt _ _ ho; omega
          · have := hu ht; omega
        · simp only [MM.alloc, upd, hk, if_false] at h
          have hs := hS.dom k (by rw [h]; simp)
          simp only [Cx.make, hk, if_false] at ho
          rcases ho with ho | ho
          · exact hS.frz k B' h ht o ho
          · have := hS.lt k hs; omega }

theorem after_cells {lo : Nat} {M : MM} {c : Cx} {id : Nat} {w' : World} {t : TypeId} {vs : Array Value} {cs : List AV} (hS : Sim lo M c) (hf : ¬ c.S id) (hp : Pushed c.w w' (.cells vs t))
    (hlen : cs.length ≤ vs.size) (hr : ∀ j (h : j < cs.length) (h' : j < vs.size), Rel c cs[j] vs[j]) :
    After lo id M c (M.alloc id (.cells t cs)) (c.make id vs.size w') :=
  after_make hS hf hp ⟨vs, by simp only [Cx.make, if_true]; exact hp.new, by simp [Cx.make], hlen, fun j h h' => (hr j h h').ext hS.WL (ext_make hf hp)⟩

theorem mapM_get {α β : Type} {f : α → Option β} : ∀ {l : List α} {r : List β}, l.mapM f = some r → l.length = r.length ∧ ∀ j (h : j < l.length) (h' : j < r.length), f l[j] = some r[j]
  | [], r, h => by simp at h; subst h; exact ⟨rfl, fun j h => by simp at h⟩
  | x :: l, r, h => by
    simp only [List.mapM_cons, Option.bind_eq_bind, Option.bind_eq_some_iff, Option.pure_def, Option.some.injEq] at h
    obtain ⟨y, hy, r', hr, rfl⟩ := h
    obtain ⟨ih1, ih2⟩ := mapM_get hr
    refine ⟨by simp [ih1], fun j hj hj' => ?_⟩
    cases j with
    | zero => exact hy
    | succ j => exact ih2 j (by simpa using hj) (by simpa using hj')

theorem after_tok {lo : Nat} {M : MM} {c : Cx} {id n sz k : Nat} {w' : World} {t : TypeId} {vs : Array Value} {cs : List AV} {ds : List D} (hS : Sim lo M c) (hf : ¬ c.S id) (hp : Pushed c.w w' (.cells vs t)) (hds : cs.mapM toD = some ds)
    (hlen : cs.length ≤ vs.size) (hr : ∀ j (h : j < cs.length) (h' : j < vs.size), Rel c cs[j] vs[j]) (hn : cs.length = n * sz) (hk : k * sz = vs.size) (hl : n ≤ k) :
    After lo id M c (M.alloc id (.tok t (n * sz))) (c.make id vs.size w' (n * sz)) ∧ Rel (c.make id vs.size w' (n * sz)) (.ov id ds n sz) (.slice (some ⟨c.w.heap.size, 0, none⟩) n k) := by
  have ha := after_make (B := .tok t (n * sz)) (u := n * sz) (tot := vs.size) hS hf hp ⟨vs, by simp only [Cx.make, if_true]; exact hp.new, by simp [Cx.make], by omega, fun o ho => by
    simp only [Cx.make, if_true] at ho
    rcases ho with ho | ho
    · have := hS.flt _ _ ho; omega
    · exact ho.2⟩ (by simp [Blk.isTok])
  obtain ⟨h1, h2⟩ := mapM_get hds
  refine ⟨ha, ?_⟩
  have := Rel.ov (c := c.make id vs.size w' (n * sz)) id ds n sz k (fun j => vs.getD j undef) (.inr rfl) (by simp only [Cx.make, if_true]; rw [hp.size]; omega) (fun j hj => .inr ⟨by simp [Cx.make], by omega⟩) (by simp [Cx.make, hk]) hl (by omega)
    (fun j hj => by
      simp only [Cx.make, if_true]
      have hj' : j < vs.size := by omega
      rw [cell_of_row w' _ _ vs t (0, 0) hp.new]
      simp [Array.getD, hj'])
    (fun j hj => by
      have hj' : j < vs.size := by omega
      have e : vs.getD j undef = vs[j] := by simp [Array.getD, hj']
      rw [e]
      exact toD_rel (h2 j (by omega) hj) ((hr j (by omega) hj').ext hS.WL (ext_make hf hp)))
  simpa [Cx.make] using this

/-! ### A block that was written -/
structure Turned (w w' : World) (b : Nat) : Prop where
  size : w'.heap.size = w.heap.size
  other : ∀ k, k ≠ b → w'.heap[k]? = w.heap[k]?
  os : w'.os = w.os
  tape : w'.tape = w.tape
  output : w'.output = w.output

def Cx.at_ (c : Cx) (w' : World) : Cx := { c with w := w' }

theorem ext_at {c : Cx} {w' : World} {b : Nat} (hb : c.W b) (hn : ∀ o, ¬ c.F b o) (ht : Turned c.w w' b) : Ext c (c.at_ w') where
  S _ h := h
  blk _ _ := rfl
  tot _ _ := rfl
  size := by show c.w.heap.size ≤ w'.heap.size; rw [ht.size]; exact Nat.le_refl _
  L _ _ := Iff.rfl
  W _ _ h := h
  keep k _ hw := ht.other k (fun e => hw (e ▸ hb))
  new _ h := .inl h
  F _ _ h := h
  keepF k o h _ := World.cell?_of_block (ht.other k (fun e => hn o (e ▸ h)))
  newF _ _ h := .inl h
  os := ht.os
  tape := ht.tape
  output := ht.output

theorem after_put {lo fresh : Nat} {M : MM} {c : Cx} {id : Nat} {w' : World} {B : Blk} (hS : Sim lo M c) (hid : M.mem id ≠ none) (hlo : lo ≤ id) (hn : ∀ o, ¬ c.F (c.E.blk id) o) (ht : Turned c.w w' (c.E.blk id)) (hB : BRel (c.at_ w') id B) :
    After lo fresh M c (M.put id B) (c.at_ w') where
  ext := ext_at (hS.wlive id hid hlo) hn ht
  nx := Nat.le_refl _
  ids _ h := .inl h
  sim :=
    have hm : ∀ k, (M.put id B).mem k ≠ none → M.mem k ≠ none := fun k h => by
      by_cases hk : k = id
      · subst hk; exact hid
      · simpa [MM.put, upd, hk] using h
    { dom := fun k h => hS.dom k (hm k h)
      nx := fun k h => hS.nx k h
      lt := fun k h => by show _ < w'.heap.size; rw [ht.size]; exact hS.lt k h
      live := fun k h => hS.live k (hm k h)
      wlive := fun k h hl => hS.wlive k (hm k h) hl
      WL := hS.WL
      Llt := fun b h => by show b < w'.heap.size; rw [ht.size]; exact hS.Llt b h
      inj := fun i j hi hj he => hS.inj i j (hm i hi) (hm j hj) he
      blk := fun k B' h => by
        by_cases hk : k = id
        · subst hk
          simp only [MM.put, upd, if_true, Option.some.injEq] at h
          subst h; exact hB
        · simp only [MM.put, upd, hk, if_false] at h
          have hs := hS.dom k (by rw [h]; simp)
          exact (hS.blk k B' h).ext hS.WL (ext_at (hS.wlive id hid hlo) hn ht) hs (ht.other _ (fun e => hk (hS.inj k id (by rw [h]; simp) hid e))) (fun _ h => h)
      flt := fun b o h => by show b < w'.heap.size; rw [ht.size]; exact hS.flt b o h
      frz := fun k B' h hB' o ho => by
        by_cases hk : k = id
        · subst hk; exact hn o ho
        · simp only [MM.put, upd, hk, if_false] at h
          exact hS.frz k B' h hB' o ho }

theorem turned_setRow (w : World) (g : Nat) (cs : Array Value) : Turned w (w.setRow g cs) g := ⟨by simp, fun k hk => setRow_other w g k cs hk, rfl, rfl, rfl⟩

theorem RelL.arr {c : Cx} {cs : List AV} {vs : Array Value} (h : RelL c cs vs.toList) : cs.length = vs.size ∧ ∀ j (h : j < cs.length) (h' : j < vs.size), Rel c cs[j] vs[j] :=
  ⟨by simpa using h.1, fun j h1 h2 => by have := h.2 j h1 (by simpa using h2); rwa [Array.getElem_toList] at this⟩

/-! ### The instructions that touch no memory, or make a block of known cells -/
section
variable {P : Program} {call : CallT} {mode : FuncId → Mode} {o : Oper}

theorem sim_mov {x : Operand} (ho : o.op = .move x ∨ o.op = .assign x) {i : I} (hc : (opX x).map I.mov = some i) : OpSim P call mode i o := by
  obtain ⟨y, hy, rfl⟩ := Option.map_eq_some_iff.1 hc
  intro draw lo lim fresh ρ M r M' a c hst hS hF hf _ _ K Q hK
  simp only [istep, Option.some.injEq, Prod.mk.injEq] at hst
  obtain ⟨rfl, rfl⟩ := hst
  refine wp_value (v := a.eval x) (w' := c.w) ?_ (hK _ c (.refl hS) (ev_rel hF hy))
  rcases ho with ho | ho <;> simp [execOp, ho]

theorem sim_pick {x y z : Operand} (ho : o.op = .pick x y z) {x' y' z' : X} (hx : opX x = some x') (hy : opX y = some y') (hz : opX z = some z') : OpSim P call mode (.pick x' y' z') o := by
  intro draw lo lim fresh ρ M r M' a c hst hS hF hf _ _ K Q hK
  have rx := ev_rel hF hx
  simp only [istep] at hst
  split at hst
  · rename_i t ht
    rw [ht] at rx
    have hb := rx.bool_inv
    simp only [Option.some.injEq, Prod.mk.injEq] at hst
    obtain ⟨rfl, rfl⟩ := hst
    refine wp_value (v := if t then a.eval y else a.eval z) (w' := c.w) (by cases t <;> simp [execOp, ho, hb, asBool]) (hK _ c (.refl hS) ?_)
    cases t
    · exact ev_rel hF hz
    · exact ev_rel hF hy
  · cases hst

theorem sim_new {e : TypeId} (ho : o.op = .alloc e) {ti : TypeInfo} {z : Value} (hi : P.info? e = some ti) (hz : ti.zero = some z) {cs : List AV} (hc : constCells z = some cs) : OpSim P call mode (.new e cs) o := by
  intro draw lo lim fresh ρ M r M' a c hst hS hF hf _ _ K Q hK
  simp only [istep, Option.some.injEq, Prod.mk.injEq] at hst
  obtain ⟨rfl, rfl⟩ := hst
  have hr := constCells_rel (c := c) hc
  have hlen : cs.length ≤ z.cells.size := by have := hr.1; simp at this; omega
  refine wp_value (v := .pointer (some ⟨c.w.heap.size, 0, none⟩)) (w' := c.w.alloc (.cells z.cells e)) ?_
    (hK _ _ (after_cells hS hf (.alloc _ _) hlen hr.arr.2) ?_)
  · simp [execOp, ho, Instr.alloc, run_zero hi hz, newVar, newRow]
  · have := Rel.ptr (c := c.make fresh z.cells.size (c.w.alloc (.cells z.cells e))) fresh 0 (.inr rfl)
    simpa [Cx.make] using this

theorem sim_box {e : TypeId} {x : Operand} (ho : o.op = .box e x) {x' : X} (hx : opX x = some x') : OpSim P call mode (.box e x') o := by
  intro draw lo lim fresh ρ M r M' a c hst hS hF hf _ _ K Q hK
  have rx := ev_rel hF hx
  simp only [istep] at hst
  split at hst
  · cases hst
  · simp only [Option.some.injEq, Prod.mk.injEq] at hst
    obtain ⟨rfl, rfl⟩ := hst
    have hr := rx.cells
    have hlen : (ev ρ x').cells.length ≤ (a.eval x).cells.size := by have := hr.1; simp at this; omega
    refine wp_value (v := .pointer (some ⟨c.w.heap.size, 0, none⟩)) (w' := c.w.alloc (.cells (a.eval x).cells e)) ?_
      (hK _ _ (after_cells hS hf (.alloc _ _) hlen hr.arr.2) ?_)
    · simp [execOp, ho, Instr.box, newVar, newRow]
    · have := Rel.ptr (c := c.make fresh (a.eval x).cells.size (c.w.alloc (.cells (a.eval x).cells e))) fresh 0 (.inr rfl)
      simpa [Cx.make] using this

/-! ### Structs and arrays that are put together -/
theorem foldl_set (l : List Value) : ∀ (vs : List Value) (off k : Nat), off + k + vs.length ≤ l.length →
    (vs.zipIdx k).foldl (fun cs (p : Value × Nat) => cs.set (off + p.2) p.1) l = l.take (off + k) ++ vs ++ l.drop (off + k + vs.length)
  | [], off, k, h => by simp
  | v :: vs, off, k, h => by
    simp only [List.length_cons] at h
    have ih := foldl_set (l.set (off + k) v) vs off (k + 1) (by simp; omega)
    simp only [List.zipIdx_cons, List.foldl_cons]
    rw [ih]
    have := list_seg_step l (off + k) v vs (by omega)
    simpa [Nat.add_assoc] using this

theorem foldl_setIf (cs : Array Value) (vs : Array Value) (off : Nat) (h : off + vs.size ≤ cs.size) :
    vs.zipIdx.foldl (fun cs (p : Value × Nat) => cs.setIfInBounds (off + p.2) p.1) cs = (cs.toList.take off ++ vs.toList ++ cs.toList.drop (off + vs.size)).toArray := by
  apply Array.ext'
  rw [← Array.foldl_toList]
  have e : ∀ (ps : List (Value × Nat)) (cs : Array Value), (ps.foldl (fun cs (p : Value × Nat) => cs.setIfInBounds (off + p.2) p.1) cs).toList = ps.foldl (fun cs (p : Value × Nat) => cs.set (off + p.2) p.1) cs.toList := by
    intro ps
    induction ps with
    | nil => intro cs; rfl
    | cons p ps ih => intro cs; simp only [List.foldl_cons]; rw [ih]; simp
  rw [e]
  have := foldl_set cs.toList vs.toList off 0 (by simpa using h)
  simpa using this

theorem fill_rel {c : Cx} {place : Nat → Option (Nat × Nat)} {ρ : List AV} {a : Act} (hF : RelL c ρ a.tmps.toList) :
    ∀ {parts : List (Nat × Operand)} {ps : List (Nat × Nat × X)} {cs cs' : List AV} {vs : Array Value}, compParts place parts = some ps → RelL c cs vs.toList →
      fill cs (ps.map fun p => (p.1, p.2.1, ev ρ p.2.2)) = some cs' → ∃ vs', Instr.fill place vs (parts.map fun p => (p.1, a.eval p.2)) = some vs' ∧ RelL c cs' vs'.toList
  | [], ps, cs, cs', vs, hp, hr, hf => by
    simp [compParts] at hp; subst hp
    simp [fill] at hf; subst hf
    exact ⟨vs, rfl, hr⟩
  | p :: parts, ps, cs, cs', vs, hp, hr, hf => by
    simp only [compParts, List.mapM_cons, Option.bind_eq_bind, Option.bind_eq_some_iff, Option.pure_def, Option.some.injEq] at hp
    obtain ⟨q, hq, ps', hps, rfl⟩ := hp
    split at hq
    · rename_i off s x hpl hx
      simp only [Option.some.injEq] at hq; subst hq
      have rx := ev_rel hF hx
      simp only [List.map_cons, fill] at hf
      split at hf
      · rename_i hcond
        obtain ⟨h1, h2⟩ := hcond
        have hcl := rx.cells
        have hsz : (a.eval p.2).cells.size = s := by have := hcl.1; simp at this; omega
        have hvl : vs.size = cs.length := by have := hr.1; simp at this; omega
        have hr' : RelL c (setAt cs off (ev ρ x).cells) ((a.eval p.2).cells.zipIdx.foldl (fun cs (q : Value × Nat) => cs.setIfInBounds (off + q.2) q.1) vs).toList := by
          rw [foldl_setIf vs _ off (by omega)]
          simp only [setAt]
          have e1 : (ev ρ x).cells.length = (a.eval p.2).cells.size := by omega
          rw [e1]
          exact ((hr.take off).append hcl).append (hr.drop _)
        obtain ⟨vs', hv, hr2⟩ := fill_rel hF (by exact hps) hr' hf
        refine ⟨vs', ?_, hr2⟩
        simp only [List.map_cons, Instr.fill, hpl]
        rw [if_neg (by simp; omega)]
        exact hv
      · cases hf
    · cases hq

theorem mapM_toArray {α β : Type} (P : Program) (w : World) (f : α → Sem β) (g : α → Option β) (h : ∀ x y, g x = some y → (f x).run P w = .ok y w) :
    ∀ (l : List α) (ys : List β), l.mapM g = some ys → (l.toArray.mapM f).run P w = .ok ys.toArray w := by
  intro l ys hl
  rw [List.mapM_toArray]
  have key : ∀ (l : List α) (ys : List β), l.mapM g = some ys → (l.mapM f).run P w = .ok ys w := by
    intro l
    induction l with
    | nil => intro ys h; simp at h; subst h; simp
    | cons x l ih =>
      intro ys h
      simp only [List.mapM_cons, Option.bind_eq_bind, Option.bind_eq_some_iff, Option.pure_def, Option.some.injEq] at h
      obtain ⟨y, hy, ys', hys, rfl⟩ := h
      simp only [List.mapM_cons, Sem.run_bind, h x y hy, Result.andThen_ok, ih ys' hys, Sem.run_pure]
  simp [key l ys hl]

theorem fieldPlaces_run {w : World} {fs : Array Field} {pl : List (Nat × Nat)} (h : fieldPlaces P fs.toList = some pl) :
    (fs.mapM fun f => do pure (f.offset, ← sizeOf f.type) : Sem (Array (Nat × Nat))).run P w = .ok pl.toArray w := by
  have := mapM_toArray P w (fun f : Field => (do pure (f.offset, ← sizeOf f.type) : Sem (Nat × Nat))) (fun f : Field => (P.info? f.type).map fun i : TypeInfo => (f.offset, i.size)) (fun f y hy => by
    obtain ⟨i, hi, rfl⟩ := Option.map_eq_some_iff.1 hy
    simp [run_size hi]) fs.toList pl h
  simpa using this

theorem parts_toList (a : Act) (parts : Array (Nat × Operand)) : (parts.map fun (i, x) => (i, a.eval x)).toList = parts.toList.map fun p => (p.1, a.eval p.2) := by
  simp

theorem sim_mk_struct {t : TypeId} {parts : Array (Nat × Operand)} (ho : o.op = .build t parts) {ti : TypeInfo} {fs : Array Field} {z : Value} {pl : List (Nat × Nat)} {cs : List AV} {ps : List (Nat × Nat × X)}
    (hi : P.info? t = some ti) (hu : P.underlying t = some (.struct fs)) (hz : ti.zero = some z) (hpl : fieldPlaces P fs.toList = some pl) (hc : constCells z = some cs) (hps : compParts (pl[·]?) parts.toList = some ps) :
    OpSim P call mode (.mk cs ps) o := by
  intro draw lo lim fresh ρ M r M' a c hst hS hF hf _ _ K Q hK
  simp only [istep] at hst
  obtain ⟨cs', hfl, hh⟩ := Option.map_eq_some_iff.1 hst
  simp only [Prod.mk.injEq] at hh
  obtain ⟨rfl, rfl⟩ := hh
  obtain ⟨vs', hv, hr⟩ := fill_rel hF hps (constCells_rel (c := c) hc) hfl
  refine wp_value (v := .agg vs') (w' := c.w) ?_ (hK _ c (.refl hS) (.agg _ _ hr.1 hr.2))
  have e : (fun i : Nat => pl.toArray[i]?) = (fun i : Nat => pl[i]?) := by funext i; simp
  simp only [execOp, ho, Instr.build, Sem.run_bind, run_zero hi hz, Result.andThen_ok, run_und hu, fieldPlaces_run hpl, parts_toList, e, hv, Sem.run_pure]

theorem sim_mk_array {t e : TypeId} {n : Nat} {parts : Array (Nat × Operand)} (ho : o.op = .build t parts) {ti ie : TypeInfo} {z : Value} {cs : List AV} {ps : List (Nat × Nat × X)}
    (hi : P.info? t = some ti) (hu : P.underlying t = some (.array n e)) (hz : ti.zero = some z) (hie : P.info? e = some ie) (hc : constCells z = some cs) (hps : compParts (fun k => some (k * ie.size, ie.size)) parts.toList = some ps) :
    OpSim P call mode (.mk cs ps) o := by
  intro draw lo lim fresh ρ M r M' a c hst hS hF hf _ _ K Q hK
  simp only [istep] at hst
  obtain ⟨cs', hfl, hh⟩ := Option.map_eq_some_iff.1 hst
  simp only [Prod.mk.injEq] at hh
  obtain ⟨rfl, rfl⟩ := hh
  obtain ⟨vs', hv, hr⟩ := fill_rel hF hps (constCells_rel (c := c) hc) hfl
  refine wp_value (v := .agg vs') (w' := c.w) ?_ (hK _ c (.refl hS) (.agg _ _ hr.1 hr.2))
  simp only [execOp, ho, Instr.build, Sem.run_bind, run_zero hi hz, Result.andThen_ok, run_und hu, run_size hie, parts_toList, hv, Sem.run_pure]

theorem replicate_cells (z : Array Value) (hz : 0 < z.size) : ∀ n, ((Array.range (n * z.size)).map (z[· % z.size]!)).toList = (List.replicate n z.toList).flatten := by
  intro n
  apply List.ext_getElem?
  intro j
  have hl : ((List.replicate n z.toList).flatten).length = n * z.size := by simp
  by_cases hj : j < n * z.size
  · have hm : j % z.size < z.size := Nat.mod_lt _ hz
    have hd : j / z.size < n := by rw [Nat.div_lt_iff_lt_mul hz]; exact hj
    have e : ((List.replicate n z.toList).flatten)[j]? = some z[j % z.size] := by
      clear hl
      induction n generalizing j with
      | zero => omega
      | succ n ih =>
        simp only [List.replicate_succ, List.flatten_cons]
        by_cases h1 : j < z.size
        · rw [List.getElem?_append_left (by simpa using h1)]
          have : j % z.size = j := Nat.mod_eq_of_lt h1
          simp [this, h1]
        · have h2 : j = (j - z.size) + z.size := by omega
          have h3 : j - z.size < n * z.size := by rw [Nat.add_mul] at hj; omega
          have hm' : (j - z.size) % z.size < z.size := Nat.mod_lt _ hz
          have h4 : j % z.size = (j - z.size) % z.size := by rw [Nat.mod_eq_sub_mod (by omega)]
          rw [List.getElem?_append_right (by simp; omega)]
          have hd' : (j - z.size) / z.size < n := by rw [Nat.div_lt_iff_lt_mul hz]; exact h3
          have := ih (j := j - z.size) h3 hm' hd'
          simp only [Array.length_toList] at this ⊢
          rw [this]
          simp [h4]
    rw [e]
    simp [hj, hm]
  · rw [List.getElem?_eq_none (by simp; omega), List.getElem?_eq_none (by omega)]

theorem RelL.flatten_replicate {c : Cx} {cs : List AV} {vs : List Value} (h : RelL c cs vs) : ∀ n, RelL c ((List.replicate n cs).flatten) ((List.replicate n vs).flatten)
  | 0 => .nil c
  | n + 1 => by simp only [List.replicate_succ, List.flatten_cons]; exact h.append (RelL.flatten_replicate h n)

theorem sim_mksl {t e : TypeId} {len : Nat} {parts : Array (Nat × Operand)} (ho : o.op = .buildSlice t len parts) {ie : TypeInfo} {z : Value} {cs : List AV} {ps : List (Nat × Nat × X)}
    (hu : P.underlying t = some (.slice e)) (hie : P.info? e = some ie) (hz : ie.zero = some z) (hc : constCells z = some cs) (hps : compParts (fun k => some (k * ie.size, ie.size)) parts.toList = some ps)
    (h24 : len * ie.size ≤ 16777216) (hcs : cs.length = ie.size) (hpos : 0 < ie.size) :
    OpSim P call mode (.mksl e len ie.size ((List.replicate len cs).flatten) ps) o := by
  intro draw lo lim fresh ρ M r M' a c hst hS hF hf _ _ K Q hK
  simp only [istep] at hst
  obtain ⟨cs', hfl, hh⟩ := Option.map_eq_some_iff.1 hst
  simp only [Prod.mk.injEq] at hh
  obtain ⟨rfl, rfl⟩ := hh
  have hcr := constCells_rel (c := c) hc
  have hzs : z.cells.size = ie.size := by have := hcr.1; simp at this; omega
  have hinit : RelL c ((List.replicate len cs).flatten) (((Array.range (len * z.cells.size)).map (z.cells[· % z.cells.size]!))).toList := by
    rw [replicate_cells z.cells (by omega)]
    exact hcr.flatten_replicate len
  obtain ⟨vs', hv, hr⟩ := fill_rel hF hps hinit hfl
  have hlen : cs'.length ≤ vs'.size := by have := hr.1; simp at this; omega
  have hfill : ∀ {cs cs' : List AV} {ps : List (Nat × Nat × AV)}, fill cs ps = some cs' → cs'.length = cs.length := by
    intro cs cs' ps
    induction ps generalizing cs with
    | nil => intro h; simp [fill] at h; rw [h]
    | cons p ps ih =>
      intro h
      obtain ⟨off, s, v⟩ := p
      simp only [fill] at h
      split at h
      · rename_i hc
        rw [ih h]
        simp [setAt]; omega
      · cases h
  have hL : vs'.size = len * ie.size := by
    have h1 := hfill hfl
    have h2 := hr.1
    simp [hcs] at h1 h2; omega
  refine wp_value (v := .slice (some ⟨c.w.heap.size, 0, none⟩) len len) (w' := c.w.alloc (.cells vs' e)) ?_
    (hK _ _ (after_cells hS hf (.alloc _ _) hlen hr.arr.2) ?_)
  · have h24' : ¬ (len * ie.size > 2 ^ 24) := by omega
    by_cases h0 : len * ie.size = 0
    · have e0 : ∀ f : Nat → Value, (Array.range (len * ie.size)).map f = #[] := fun f => by simp [h0]
      have hv' : Instr.fill (fun i => some (i * ie.size, ie.size)) #[] (parts.toList.map fun p => (p.1, a.eval p.2)) = some vs' := by
        rw [hzs, e0] at hv; exact hv
      simp only [execOp, ho, Instr.buildSlice, Sem.run_bind, run_und hu, Result.andThen_ok, run_size hie, if_neg h24', if_pos h0, Sem.run_pure, e0, parts_toList, hv', newRow, run_newObj]
      rfl
    · have hv' : Instr.fill (fun i => some (i * ie.size, ie.size)) ((Array.range (len * ie.size)).map (z.cells[· % z.cells.size]!)) (parts.toList.map fun p => (p.1, a.eval p.2)) = some vs' := by
        rw [hzs] at hv ⊢; exact hv
      simp only [execOp, ho, Instr.buildSlice, Sem.run_bind, run_und hu, Result.andThen_ok, run_size hie, if_neg h24', if_neg h0, run_zero hie hz, Sem.run_pure, parts_toList, hv', newRow, run_newObj]
      rfl
  · have := Rel.os (c := c.make fresh vs'.size (c.w.alloc (.cells vs' e))) fresh 0 len ie.size len (.inr rfl) (by simp [Cx.make, hL]) (Nat.le_refl _)
    simpa [Cx.make] using this
theorem sim_vsl {t e : TypeId} {len : Nat} {parts : Array (Nat × Operand)} (ho : o.op = .buildSlice t len parts) {ie : TypeInfo} {z : Value} {cs : List AV} {ps : List (Nat × Nat × X)}
    (hu : P.underlying t = some (.slice e)) (hie : P.info? e = some ie) (hz : ie.zero = some z) (hc : constCells z = some cs) (hps : compParts (fun k => some (k * ie.size, ie.size)) parts.toList = some ps)
    (h24 : len * ie.size ≤ 16777216) (hcs : cs.length = ie.size) (hpos : 0 < ie.size) :
    OpSim P call mode (.vsl e len ie.size ((List.replicate len cs).flatten) ps) o := by
  intro draw lo lim fresh ρ M r M' a c hst hS hF hf _ _ K Q hK
  simp only [istep] at hst
  split at hst
  case h_2 => cases hst
  rename_i cs' hfl
  obtain ⟨ds, hds, hh⟩ := Option.map_eq_some_iff.1 hst
  simp only [Prod.mk.injEq] at hh
  obtain ⟨rfl, rfl⟩ := hh
  have hcr := constCells_rel (c := c) hc
  have hzs : z.cells.size = ie.size := by have := hcr.1; simp at this; omega
  have hinit : RelL c ((List.replicate len cs).flatten) (((Array.range (len * z.cells.size)).map (z.cells[· % z.cells.size]!))).toList := by
    rw [replicate_cells z.cells (by omega)]
    exact hcr.flatten_replicate len
  obtain ⟨vs', hv, hr⟩ := fill_rel hF hps hinit hfl
  have hlen : cs'.length ≤ vs'.size := by have := hr.1; simp at this; omega
  have hfill : ∀ {cs cs' : List AV} {ps : List (Nat × Nat × AV)}, fill cs ps = some cs' → cs'.length = cs.length := by
    intro cs cs' ps
    induction ps generalizing cs with
    | nil => intro h; simp [fill] at h; rw [h]
    | cons p ps ih =>
      intro h
      obtain ⟨off, s, v⟩ := p
      simp only [fill] at h
      split at h
      · rename_i hc
        rw [ih h]
        simp [setAt]; omega
      · cases h
  have hL : vs'.size = len * ie.size := by
    have h1 := hfill hfl
    have h2 := hr.1
    simp [hcs] at h1 h2; omega
  have hcl : cs'.length = len * ie.size := by have := hr.1; simp at this; omega
  obtain ⟨ha, hrel⟩ := after_tok (n := len) (sz := ie.size) (k := len) hS hf (.alloc c.w (.cells vs' e)) hds hlen hr.arr.2 hcl hL.symm (Nat.le_refl _)
  refine wp_value (v := .slice (some ⟨c.w.heap.size, 0, none⟩) len len) (w' := c.w.alloc (.cells vs' e)) ?_ (hK _ _ ha hrel)
  · have h24' : ¬ (len * ie.size > 2 ^ 24) := by omega
    by_cases h0 : len * ie.size = 0
    · have e0 : ∀ f : Nat → Value, (Array.range (len * ie.size)).map f = #[] := fun f => by simp [h0]
      have hv' : Instr.fill (fun i => some (i * ie.size, ie.size)) #[] (parts.toList.map fun p => (p.1, a.eval p.2)) = some vs' := by
        rw [hzs, e0] at hv; exact hv
      simp only [execOp, ho, Instr.buildSlice, Sem.run_bind, run_und hu, Result.andThen_ok, run_size hie, if_neg h24', if_pos h0, Sem.run_pure, e0, parts_toList, hv', newRow, run_newObj]
      rfl
    · have hv' : Instr.fill (fun i => some (i * ie.size, ie.size)) ((Array.range (len * ie.size)).map (z.cells[· % z.cells.size]!)) (parts.toList.map fun p => (p.1, a.eval p.2)) = some vs' := by
        rw [hzs] at hv ⊢; exact hv
      simp only [execOp, ho, Instr.buildSlice, Sem.run_bind, run_und hu, Result.andThen_ok, run_size hie, if_neg h24', if_neg h0, run_zero hie hz, Sem.run_pure, parts_toList, hv', newRow, run_newObj]
      rfl
end
end Go.Proofs.Ytegkhdflmboljaa.Sx
