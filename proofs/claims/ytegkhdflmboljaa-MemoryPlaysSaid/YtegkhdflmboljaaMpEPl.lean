/- MEMORY, CLONES: a world that turns where nothing of the abstract memory lies (an iterator). -/
import Derived.Test.YtegkhdflmboljaaSxZPl
import Derived.Maps.RangeRun
import Derived.Test.YtegkhdflmboljaaSxClPl
import Derived.KernelRfl
namespace Go.Proofs.Ytegkhdflmboljaa.Sx
open Go
set_option linter.unusedSimpArgs false
set_option linter.unusedVariables false

def Cx.inW (c : Cx) (w : World) : Cx := { c with w := w }
/-- Another world: all cells as they were. -/
structure CW (w w' : World) : Prop where
  size : w.heap.size ≤ w'.heap.size
  cell : ∀ b o, b < w.heap.size → w'.cell? ⟨b, o, none⟩ = w.cell? ⟨b, o, none⟩
  os : w'.os = w.os
  tape : w'.tape = w.tape
  output : w'.output = w.output
theorem CW.refl (w : World) : CW w w := ⟨Nat.le_refl _, fun _ _ _ => rfl, rfl, rfl, rfl⟩
theorem CW.trans {a b c : World} (h : CW a b) (k : CW b c) : CW a c := ⟨Nat.le_trans h.size k.size, fun x o hx => (k.cell x o (Nat.lt_of_lt_of_le hx h.size)).trans (h.cell x o hx), k.os.trans h.os, k.tape.trans h.tape, k.output.trans h.output⟩

theorem Rel.inW {c : Cx} {w' : World} (h : CW c.w w') {x : AV} {v : Value} (r : Rel c x v) : Rel (c.inW w') x v := by
  have k2 : ∀ b o, b < c.w.heap.size → ¬ c.O b o → w'.cell? ⟨b, o, none⟩ = c.w.cell? ⟨b, o, none⟩ := fun b o hb _ => h.cell b o hb
  have kd : ∀ {d : D} {v : Value}, DR c.O c.w d v → DR (c.inW w').O (c.inW w').w d v := fun hd => hd.keep h.size (fun _ _ _ h => h) k2
  induction r with
  | d x v hd => exact .d x v (kd hd)
  | ptr id off hs => exact Rel.ptr (c := c.inW w') id off hs
  | ip ad cells f hs hb hL hc hr =>
    refine .ip (c := c.inW w') ad cells f hs (Nat.lt_of_lt_of_le hb h.size) hL (fun j hj => ?_) (fun j hj => kd (hr j hj))
    rw [← hc j hj, add_none hs]
    exact h.cell _ _ hb
  | os id off len sz k hs hk hl => exact Rel.os (c := c.inW w') id off len sz k hs hk hl
  | ov id cells n sz k f hs hb hF hk hl hn hc hr =>
    refine Rel.ov (c := c.inW w') id cells n sz k f hs (Nat.lt_of_lt_of_le hb h.size) hF hk hl hn (fun j hj => ?_) (fun j hj => kd (hr j hj))
    rw [← hc j hj]
    exact h.cell _ _ hb
  | mp id hs => exact Rel.mp (c := c.inW w') id hs
  | fn f as bs us vs h1 h2 r1 r2 i1 i2 => exact .fn f as bs us vs h1 h2 i1 i2
  | agg as us h1 r1 i1 => exact .agg as us h1 i1
  | tup as us h1 r1 i1 => exact .tup as us h1 i1
theorem RelL.inW {c : Cx} {w' : World} (h : CW c.w w') {as : List AV} {vs : List Value} (r : RelL c as vs) : RelL (c.inW w') as vs := ⟨r.1, fun i hi hi' => (r.2 i hi hi').inW h⟩

theorem Sim.inW {lo : Nat} {M : MM} {c : Cx} {w' : World} (h : CW c.w w') (hb : ∀ id, M.mem id ≠ none → w'.heap[c.E.blk id]? = c.w.heap[c.E.blk id]?) (hS : Sim lo M c) : Sim lo M (c.inW w') where
  dom := hS.dom
  nx := hS.nx
  lt id hs := Nat.lt_of_lt_of_le (hS.lt id hs) h.size
  live := hS.live
  wlive := hS.wlive
  WL := hS.WL
  Llt b hl := Nat.lt_of_lt_of_le (hS.Llt b hl) h.size
  inj := hS.inj
  blk id B hB := by
    have hbb := hb id (by rw [hB]; simp)
    have r := hS.blk id B hB
    cases B with
    | cells t cs =>
      obtain ⟨vs, h1, h2, h3, h4⟩ := r
      exact ⟨vs, hbb.trans h1, h2, h3, fun j hj hj' => (h4 j hj hj').inW h⟩
    | map kk es =>
      obtain ⟨ces, clock, h1, m1, m2, es', p1, h2, h3⟩ := r
      exact ⟨ces, clock, hbb.trans h1, m1, m2, es', p1, h2, fun j hj hj' => ⟨(h3 j hj hj').1, (h3 j hj hj').2.1, (h3 j hj hj').2.2.inW h⟩⟩
    | siter s pos => exact hbb.trans r
    | tok t u =>
      obtain ⟨vs, h1, h2, h3, h4⟩ := r
      exact ⟨vs, hbb.trans h1, h2, h3, h4⟩
  flt b o hf := Nat.lt_of_lt_of_le (hS.flt b o hf) h.size
  frz := hS.frz
theorem Ext.inW {c0 c : Cx} {w' : World} (h : CW c.w w') (hb : ∀ b, b < c0.w.heap.size → ¬ c0.W b → w'.heap[b]? = c.w.heap[b]?) (hE : Ext c0 c) : Ext c0 (c.inW w') where
  S := hE.S
  blk := hE.blk
  tot := hE.tot
  size := Nat.le_trans hE.size h.size
  L := hE.L
  W := hE.W
  keep b hbb hw := (hb b hbb hw).trans (hE.keep b hbb hw)
  new := hE.new
  F := hE.F
  keepF b o hf hbb := (h.cell b o (Nat.lt_of_lt_of_le hbb hE.size)).trans (hE.keepF b o hf hbb)
  newF := hE.newF
  os := h.os.trans hE.os
  tape := h.tape.trans hE.tape
  output := h.output.trans hE.output
/-- .. and no id below lo is new. -/
structure XI (lo : Nat) (c c' : Cx) : Prop extends Ext c c' where
  low : ∀ id, c'.S id → c.S id ∨ lo ≤ id
theorem XI.refl (lo : Nat) (c : Cx) : XI lo c c := ⟨.refl c, fun _ h => .inl h⟩
theorem XI.trans {lo : Nat} {a b c : Cx} (h : XI lo a b) (k : XI lo b c) : XI lo a c := ⟨h.toExt.trans k.toExt, fun id hs => (k.low id hs).elim (h.low id) .inr⟩
theorem XI.inW {lo : Nat} {c0 c : Cx} {w' : World} (h : CW c.w w') (hb : ∀ b, b < c0.w.heap.size → ¬ c0.W b → w'.heap[b]? = c.w.heap[b]?) (hE : XI lo c0 c) : XI lo c0 (c.inW w') := ⟨hE.toExt.inW h hb, hE.low⟩
/-- Steps of the machine, no id below lo made. -/
structure AftL (lo : Nat) (M : MM) (c : Cx) (M' : MM) (c' : Cx) : Prop where
  ext : XI lo c c'
  nx : M.nx ≤ M'.nx
  ids : ∀ id, c'.S id → c.S id ∨ M.nx ≤ id
theorem AftL.trans {lo : Nat} {M M' M'' : MM} {c c' c'' : Cx} (h : AftL lo M c M' c') (k : AftL lo M' c' M'' c'') : AftL lo M c M'' c'' :=
  ⟨h.ext.trans k.ext, Nat.le_trans h.nx k.nx, fun id hs => by
    rcases k.ids id hs with h1 | h1
    · exact h.ids id h1
    · exact .inr (Nat.le_trans h.nx h1)⟩
structure AftF (lo fresh : Nat) (M : MM) (c : Cx) (M' : MM) (c' : Cx) : Prop where
  ext : XI lo c c'
  nx : M.nx ≤ M'.nx
  ids : ∀ id, c'.S id → c.S id ∨ id = fresh ∨ M.nx ≤ id
end Go.Proofs.Ytegkhdflmboljaa.Sx

namespace Go.Proofs.Ytegkhdflmboljaa.Sx
open Go
open Go.ChangeMaps (setBlock)
set_option linter.unusedSimpArgs false
set_option linter.unusedVariables false

/-- An iterator at r, beside the abstract memory. -/
structure It (c : Cx) (r : Nat) (o : Obj) : Prop where
  heap : c.w.heap[r]? = some o
  notL : ¬ c.L r
theorem It.lt {c : Cx} {r : Nat} {o : Obj} (h : It c r o) : r < c.w.heap.size := by
  rcases Nat.lt_or_ge r c.w.heap.size with e | e
  · exact e
  · have := h.heap; rw [Array.getElem?_eq_none e] at this; cases this
theorem It.ext {lo : Nat} {M : MM} {c c' : Cx} {r : Nat} {o : Obj} (h : It c r o) (hS : Sim lo M c) (hE : Ext c c') : It c' r o :=
  ⟨(hE.keep r h.lt fun hw => h.notL (hS.WL r hw)).trans h.heap, fun hl => h.notL ((hE.L r h.lt).1 hl)⟩

theorem CW.drew (w : World) : CW w w.drew := ⟨Nat.le_refl _, fun _ _ _ => rfl, rfl, rfl, rfl⟩
theorem CW.alloc (w : World) (o : Obj) : CW w (w.alloc o) where
  size := by show _ ≤ (w.heap.push o).size; rw [Array.size_push]; omega
  cell b k hb := World.cell?_of_block (heap_alloc_old w o hb)
  os := rfl
  tape := rfl
  output := rfl
theorem CW.set {w : World} {r : Nat} {m m' : Option Nat} {s s' : Nat} {q q' : Array Nat} {l l' : Nat} (h : w.heap[r]? = some (.mapIter m s q l)) : CW w (setBlock w r (.mapIter m' s' q' l')) where
  size := by show _ ≤ (w.heap.setIfInBounds r _).size; rw [Array.size_setIfInBounds]; exact Nat.le_refl _
  cell b k hb := by
    by_cases e : b = r
    · subst e
      have h2 : (setBlock w b (.mapIter m' s' q' l')).heap[b]? = some (.mapIter m' s' q' l') := by
        show (w.heap.setIfInBounds b _)[b]? = _
        rw [Array.getElem?_setIfInBounds]; simp [hb]
      simp only [World.cell?, h, h2]
    · exact World.cell?_of_block (by
        show (w.heap.setIfInBounds r _)[b]? = _
        rw [Array.getElem?_setIfInBounds, if_neg (fun e2 => e e2.symm)])
  os := rfl
  tape := rfl
  output := rfl
theorem heap_set_same {w : World} {r : Nat} {o o' : Obj} (h : w.heap[r]? = some o) : (setBlock w r o').heap[r]? = some o' := by
  have hlt : r < w.heap.size := by
    rcases Nat.lt_or_ge r w.heap.size with e | e
    · exact e
    · rw [Array.getElem?_eq_none e] at h; cases h
  show (w.heap.setIfInBounds r _)[r]? = _
  rw [Array.getElem?_setIfInBounds]; simp [hlt]
theorem heap_set_ne {w : World} {r b : Nat} {o' : Obj} (h : b ≠ r) : (setBlock w r o').heap[b]? = w.heap[b]? := by
  show (w.heap.setIfInBounds r _)[b]? = _
  rw [Array.getElem?_setIfInBounds, if_neg (fun e => h e.symm)]

/-- The state of a loop over a map, beside the abstract memory: 'seen': the stamps of what came out. -/
structure Lp (lo : Nat) (c0 : Cx) (s : St) (a : Act) (c : Cx) (r : Nat) (o : Obj) : Prop where
  sim : SimS lo s a c
  ext : XI lo c0 c
  it : It c r o
  rge : c0.w.heap.size ≤ r
theorem Lp.turn {lo : Nat} {c0 : Cx} {s : St} {a : Act} {c : Cx} {r : Nat} {m : Option Nat} {since last : Nat} {seen : Array Nat} (h : Lp lo c0 s a c r (.mapIter m since seen last)) {w1 : World} (hw : w1 = c.w ∨ w1 = c.w.drew) (seen' : Array Nat) (last' : Nat) :
    Lp lo c0 s a (c.inW (setBlock w1 r (.mapIter m since seen' last'))) r (.mapIter m since seen' last') := by
  have h1 : w1.heap = c.w.heap := by rcases hw with rfl | rfl <;> rfl
  have hr : w1.heap[r]? = some (.mapIter m since seen last) := by rw [h1]; exact h.it.heap
  have hcw : CW c.w (setBlock w1 r (.mapIter m since seen' last')) := CW.trans (b := w1) (by rcases hw with rfl | rfl; exact .refl _; exact .drew _) (.set hr)
  refine ⟨⟨Sim.inW hcw (fun id hid => ?_) h.sim.sim, h.sim.fr.inW hcw, h.sim.df⟩, XI.inW hcw (fun b hb _ => ?_) h.ext, ⟨heap_set_same hr, h.it.notL⟩, h.rge⟩
  · rw [heap_set_ne (fun e => h.it.notL (by rw [← e]; exact h.sim.sim.live id hid)), h1]
  · rw [heap_set_ne (fun e => by have := h.rge; omega), h1]
theorem Lp.step {lo : Nat} {c0 : Cx} {s s' : St} {a a' : Act} {c c' : Cx} {r : Nat} {o : Obj} (h : Lp lo c0 s a c r o) (hS : SimS lo s' a' c') (hE : XI lo c c') : Lp lo c0 s' a' c' r o :=
  ⟨hS, h.ext.trans hE, h.it.ext h.sim.sim hE.toExt, h.rge⟩
end Go.Proofs.Ytegkhdflmboljaa.Sx

namespace Go.Proofs.Ytegkhdflmboljaa.Sx
open Go
set_option linter.unusedSimpArgs false
set_option linter.unusedVariables false
set_option maxRecDepth 100000

abbrev rg (ρ : Nat → AV) : List AV := (List.range 57).map ρ
def sO (ρ : Nat → AV) : Option Nat → AV → Nat → AV
  | none, _ => ρ
  | some d, v => fun i => if i = d then v else ρ i
theorem rg_get (ρ : Nat → AV) {i : Nat} (h : i < 57) : (rg ρ).getD i .undef = ρ i := by simp [rg, h]
theorem ev_rg (ρ : Nat → AV) {i : Nat} (h : i < 57) : ev (rg ρ) (.t i) = ρ i := rg_get ρ h
theorem setO_rg (ρ : Nat → AV) (d : Option Nat) (v : AV) : setO (rg ρ) d v = rg (sO ρ d v) := by
  cases d with
  | none => rfl
  | some d =>
    apply List.ext_getElem?
    intro i
    simp only [setO, rg, sO, List.getElem?_set, List.getElem?_map, List.length_map, List.length_range]
    by_cases h : d = i
    · subst h
      by_cases hl : d < 57
      · simp [hl]
      · rw [if_pos rfl, if_neg hl, List.getElem?_eq_none (by simp; omega)]; rfl
    · rw [if_neg h]
      by_cases hl : i < 57
      · simp [hl, Ne.symm h]
      · rw [List.getElem?_eq_none (by simp; omega)]; rfl

section
variable {P : Program}
abbrev noCall : CallT := fun _ _ _ _ => none
abbrev noMode : FuncId → Mode := fun _ => .pure
theorem seqF {os : List TypeId} {ops : Array Oper} {o : Oper} {l : List Oper} {d : Option Nat} {i : I} {mm : Nat} {ww : Bool} {Q : Exit → Act → World → Prop} {draw : Bool} {lo : Nat} {lim : Lm} {fresh : Nat} {ρ : Nat → AV} {M M' : MM} {v : AV} {a : Act} {c : Cx}
    (hc : compOper P os ops o = some ⟨d, none, i, mm, ww⟩) (hst : istep noCall noMode draw lo lim fresh i (rg ρ) M = some (v, M')) (hS : SimS lo ⟨rg ρ, M⟩ a c) (hf : ¬ c.S fresh) (hlo : lo ≤ M.nx) (hd : draw = false → fresh = M.nx) (hfl : lo ≤ fresh)
    (hk : ∀ a' c', SimS lo ⟨rg (sO ρ d v), M'⟩ a' c' → AftF lo fresh M c M' c' → wpList P ops Q l a' c'.w) : wpList P ops Q (o :: l) a c.w := by
  refine wpList_step fun K hK => ?_
  refine sim_step (call := noCall) (mode := noMode) (draw := draw) (lim := lim) (fresh := fresh) (s' := ⟨rg (sO ρ d v), M'⟩) (sok_of_comp (CallOK.none P) hc) ?_ hS hf hlo hd fun a' c' h1 h2 => hK _ _ (hk a' c' h1 ⟨⟨h2.ext, fun id hs => ?_⟩, h2.nx, h2.ids⟩)
  · simp only [step1, want, hst]
    rw [← setO_rg]
  · rcases h2.ids id hs with h | h | h
    · exact .inl h
    · exact .inr (by omega)
    · exact .inr (Nat.le_trans hlo h)
theorem seqN {os : List TypeId} {ops : Array Oper} {o : Oper} {l : List Oper} {d : Option Nat} {i : I} {mm : Nat} {ww : Bool} {Q : Exit → Act → World → Prop} {lo : Nat} {ρ : Nat → AV} {M M' : MM} {v : AV} {a : Act} {c : Cx}
    (hc : compOper P os ops o = some ⟨d, none, i, mm, ww⟩) (hS : SimS lo ⟨rg ρ, M⟩ a c) (hlo : lo ≤ M.nx) (hst : istep noCall noMode false lo (.top M.nx) M.nx i (rg ρ) M = some (v, M'))
    (hk : ∀ a' c', SimS lo ⟨rg (sO ρ d v), M'⟩ a' c' → AftL lo M c M' c' → wpList P ops Q l a' c'.w) : wpList P ops Q (o :: l) a c.w :=
  seqF hc hst hS (fun h => Nat.lt_irrefl _ (hS.sim.nx _ h)) hlo (fun _ => rfl) hlo fun a' c' h1 h2 => hk a' c' h1 ⟨h2.ext, h2.nx, fun id hs => by
    rcases h2.ids id hs with h | h | h
    · exact .inl h
    · exact .inr (Nat.le_of_eq h.symm)
    · exact .inr h⟩
end
end Go.Proofs.Ytegkhdflmboljaa.Sx

namespace Go.Proofs.Ytegkhdflmboljaa.Sx
open Go
open Go.ChangeMaps (setBlock)
set_option linter.unusedSimpArgs false
set_option linter.unusedVariables false

section
variable {P : Program}
theorem eval_rg {c : Cx} {ρ : Nat → AV} {a : Act} (h : RelL c (rg ρ) a.tmps.toList) {i : Nat} (hi : i < 57) : Rel c (ρ i) (a.eval (.tmp i)) := by
  have := ev_rel h (o := .tmp i) (x := .t i) rfl
  rwa [ev_rg ρ hi] at this
def Cx.spot (c : Cx) (id : Nat) (o : Obj) : Cx :=
  { S := fun k => c.S k ∨ k = id, E := { blk := fun k => if k = id then c.w.heap.size else c.E.blk k, tot := fun k => if k = id then 0 else c.E.tot k }, L := c.L, W := c.W, F := c.F, w := c.w.alloc o }
theorem ext_spot {c : Cx} {id : Nat} {o : Obj} (hf : ¬ c.S id) : Ext c (c.spot id o) where
  S k h := .inl h
  blk k h := by simp [Cx.spot, ne_of_S hf h]
  tot k h := by simp [Cx.spot, ne_of_S hf h]
  size := (CW.alloc c.w o).size
  L b hb := Iff.rfl
  W b hb h := h
  keep b hb _ := heap_alloc_old _ _ hb
  new k h := by
    rcases h with h | h
    · exact .inl h
    · exact .inr (.inl (by subst h; simp [Cx.spot]))
  F b o h := h
  keepF b k _ hb := World.cell?_of_block (heap_alloc_old _ _ hb)
  newF b o h := .inl h
  os := rfl
  tape := rfl
  output := rfl
theorem sim_spot {lo : Nat} {M : MM} {c : Cx} {id : Nat} {o : Obj} (hS : Sim lo M c) (hf : ¬ c.S id) : Sim lo (M.up id) (c.spot id o) where
  dom k h := .inl (hS.dom k h)
  nx k h := by
    show k < max M.nx (id + 1)
    rcases h with h | h
    · have := hS.nx k h; omega
    · omega
  lt k h := by
    show (if k = id then c.w.heap.size else c.E.blk k) < (c.w.heap.push o).size
    rw [Array.size_push]
    rcases h with h | h
    · rw [if_neg (ne_of_S hf h)]; have := hS.lt k h; omega
    · rw [if_pos h]; omega
  live k h := by
    show c.L (if k = id then c.w.heap.size else c.E.blk k)
    rw [if_neg (ne_of_S hf (hS.dom k h))]; exact hS.live k h
  wlive k h hl := by
    show c.W (if k = id then c.w.heap.size else c.E.blk k)
    rw [if_neg (ne_of_S hf (hS.dom k h))]; exact hS.wlive k h hl
  WL := hS.WL
  Llt b h := Nat.lt_of_lt_of_le (hS.Llt b h) (CW.alloc c.w o).size
  inj i j hi hj he := by
    have e1 : (c.spot id o).E.blk i = c.E.blk i := if_neg (ne_of_S hf (hS.dom i hi))
    have e2 : (c.spot id o).E.blk j = c.E.blk j := if_neg (ne_of_S hf (hS.dom j hj))
    rw [e1, e2] at he
    exact hS.inj i j hi hj he
  blk k B hB := by
    have hB : M.mem k = some B := hB
    have hk := hS.dom k (by rw [hB]; simp)
    exact BRel.ext hS.WL (ext_spot hf) hk (heap_alloc_old _ _ (hS.lt k hk)) (fun _ h => h) (hS.blk k B hB)
  flt b k h := Nat.lt_of_lt_of_le (hS.flt b k h) (CW.alloc c.w o).size
  frz k B hB ht k' := by
    have hB : M.mem k = some B := hB
    have hk := hS.dom k (by rw [hB]; simp)
    have e1 : (c.spot id o).E.blk k = c.E.blk k := if_neg (ne_of_S hf hk)
    rw [e1]; exact hS.frz k B hB ht k'

theorem spot_op {ops : Array Oper} {o : Oper} {l : List Oper} {d : Nat} {ob : Obj} {Q : Exit → Act → World → Prop} {lo : Nat} {ρ : Nat → AV} {M : MM} {a : Act} {c c0 : Cx}
    (hg : o.guard = none) (hd : o.dst = some d) (hrun : (execOp a.eval o).run P c.w = .ok (.value (.pointer (some ⟨c.w.heap.size, 0, none⟩))) (c.w.alloc ob))
    (hS : SimS lo ⟨rg ρ, M⟩ a c) (hlo : lo ≤ M.nx) (hE : XI lo c0 c)
    (hk : ∀ a', Lp lo c0 ⟨rg (sO ρ (some d) (.ptr M.nx 0)), M.up M.nx⟩ a' (c.spot M.nx ob) c.w.heap.size ob → wpList P ops Q l a' (c.spot M.nx ob).w) : wpList P ops Q (o :: l) a c.w := by
  have hf : ¬ c.S M.nx := fun h => Nat.lt_irrefl _ (hS.sim.nx _ h)
  refine wpList_step fun K hK => ?_
  have hw : Region.wanted o (yielded ops a.tmps) = true := by simp [Region.wanted, hg]
  rw [if_pos hw]
  refine wp_value hrun (hK _ _ (hk _ ⟨⟨sim_spot hS.sim hf, ?_, by rw [put_defers]; exact hS.df⟩, hE.trans ⟨ext_spot hf, fun id hs => hs.elim .inl fun e => .inr (by rw [e]; exact hlo)⟩, ⟨heap_alloc_new _ _, fun hl => Nat.lt_irrefl _ (hS.sim.Llt _ hl)⟩, hE.size⟩))
  rw [hd]
  have hx : Rel (c.spot M.nx ob) (.ptr M.nx 0) (.pointer (some ⟨c.w.heap.size, 0, none⟩)) := by
    have := Rel.ptr (c := c.spot M.nx ob) M.nx 0 (.inr rfl)
    simpa [Cx.spot] using this
  have := put_rel (dst := some d) (hS.fr.ext hS.sim.WL (ext_spot hf)) hx
  rwa [setO_rg] at this
theorem range_op {ops : Array Oper} {o : Oper} {l : List Oper} {d j : Nat} {t kt et : TypeId} {mid : Nat} {Q : Exit → Act → World → Prop} {lo : Nat} {ρ : Nat → AV} {M : MM} {a : Act} {c c0 : Cx} {ces : Array MapEntry} {clock : Nat}
    (hg : o.guard = none) (hd : o.dst = some d) (ho : o.op = .range t (.tmp j)) (hu : P.underlying t = some (.map kt et)) (hj : j < 57) (hm : ρ j = .mp mid) (hh : c.w.heap[c.E.blk mid]? = some (.map ces clock))
    (hS : SimS lo ⟨rg ρ, M⟩ a c) (hlo : lo ≤ M.nx) (hE : XI lo c0 c)
    (hk : ∀ a', Lp lo c0 ⟨rg (sO ρ (some d) (.ptr M.nx 0)), M.up M.nx⟩ a' (c.spot M.nx (.mapIter (some (c.E.blk mid)) clock #[] clock)) c.w.heap.size (.mapIter (some (c.E.blk mid)) clock #[] clock) →
      wpList P ops Q l a' (c.spot M.nx (.mapIter (some (c.E.blk mid)) clock #[] clock)).w) : wpList P ops Q (o :: l) a c.w := by
  have hv : a.eval (.tmp j) = .map (some (c.E.blk mid)) := by
    have := eval_rg hS.fr hj
    rw [hm] at this; exact this.mp_inv.1
  refine spot_op hg hd ?_ hS hlo hE hk
  simp only [execOp, ho, hv, Sem.run_bind, run_range_map c.w t kt et _ ces clock hu hh, Result.andThen_ok, Sem.run_pure]
theorem range_nil {ops : Array Oper} {o : Oper} {l : List Oper} {d j : Nat} {t kt et : TypeId} {Q : Exit → Act → World → Prop} {lo : Nat} {ρ : Nat → AV} {M : MM} {a : Act} {c c0 : Cx}
    (hg : o.guard = none) (hd : o.dst = some d) (ho : o.op = .range t (.tmp j)) (hu : P.underlying t = some (.map kt et)) (hj : j < 57) (hm : ρ j = .d (.v (.map none)))
    (hS : SimS lo ⟨rg ρ, M⟩ a c) (hlo : lo ≤ M.nx) (hE : XI lo c0 c)
    (hk : ∀ a', Lp lo c0 ⟨rg (sO ρ (some d) (.ptr M.nx 0)), M.up M.nx⟩ a' (c.spot M.nx (.mapIter none 0 #[] 0)) c.w.heap.size (.mapIter none 0 #[] 0) → wpList P ops Q l a' (c.spot M.nx (.mapIter none 0 #[] 0)).w) : wpList P ops Q (o :: l) a c.w := by
  have hv : a.eval (.tmp j) = .map none := by
    have := eval_rg hS.fr hj
    rw [hm] at this; exact this.v_inv.1
  refine spot_op hg hd ?_ hS hlo hE hk
  simp only [execOp, ho, hv, Sem.run_bind, run_range_nilMap c.w t kt et hu, Result.andThen_ok, Sem.run_pure]
end
end Go.Proofs.Ytegkhdflmboljaa.Sx

namespace Go.Proofs.Ytegkhdflmboljaa.Sx
open Go
open Go.ChangeMaps (setBlock)
set_option linter.unusedSimpArgs false
set_option linter.unusedVariables false

section
variable {P : Program}
theorem fits_scal {kk : KK} {v : Value} (h : kk.fits v = true) : scal v = true := by
  cases kk <;> cases v <;> first | rfl | (simp [KK.fits] at h)
theorem valOp {ops : Array Oper} {o : Oper} {l : List Oper} {d : Nat} {v : Value} {x : AV} {Q : Exit → Act → World → Prop} {lo : Nat} {ρ : Nat → AV} {M : MM} {a : Act} {c c0 c' : Cx} {r : Nat} {ob : Obj} (hg : o.guard = none) (hd : o.dst = some d)
    (hrun : (execOp a.eval o).run P c.w = .ok (.value v) c'.w) (hS : Lp lo c0 ⟨rg ρ, M⟩ a c' r ob) (hx : Rel c' x v)
    (hk : ∀ a', Lp lo c0 ⟨rg (sO ρ (some d) x), M⟩ a' c' r ob → wpList P ops Q l a' c'.w) : wpList P ops Q (o :: l) a c.w := by
  refine wpList_step fun K hK => ?_
  have hw : Region.wanted o (yielded ops a.tmps) = true := by simp [Region.wanted, hg]
  rw [if_pos hw]
  refine wp_value hrun (hK _ _ (hk _ ⟨⟨hS.sim.sim, ?_, by rw [put_defers]; exact hS.sim.df⟩, hS.ext, hS.it, hS.rge⟩))
  rw [hd]
  have := put_rel (dst := some d) hS.sim.fr hx
  rwa [setO_rg] at this
theorem Lp.ptr {lo : Nat} {c0 : Cx} {ρ : Nat → AV} {M : MM} {a : Act} {c : Cx} {r rid j : Nat} {ob : Obj} (h : Lp lo c0 ⟨rg ρ, M⟩ a c r ob) (hj : j < 57) (hr : ρ j = .ptr rid 0) (hb : c.E.blk rid = r) : a.eval (.tmp j) = .pointer (some ⟨r, 0, none⟩) := by
  have := eval_rg h.sim.fr hj
  rw [hr] at this
  generalize a.eval (.tmp j) = v at this
  cases this with
  | ptr _ _ hs => rw [hb]

theorem next_op {ops : Array Oper} {o : Oper} {l : List Oper} {d j rid bm clock : Nat} {seen : Array Nat} {Q : Exit → Act → World → Prop} {lo : Nat} {ρ : Nat → AV} {M : MM} {a : Act} {c c0 : Cx} {r : Nat} {ces : Array MapEntry}
    (hg : o.guard = none) (hd : o.dst = some d) (ho : o.op = .next (.tmp j) false) (hj : j < 57) (hr : ρ j = .ptr rid 0) (hb : c.E.blk rid = r) (hS : Lp lo c0 ⟨rg ρ, M⟩ a c r (.mapIter (some bm) clock seen clock))
    (hm : c.w.heap[bm]? = some (.map ces clock)) (hmo : MO ces.toList clock) (hks : ∀ e ∈ ces.toList, scal e.key = true) (xv : MapEntry → AV) (hrel : ∀ e ∈ ces.toList, Rel c (xv e) e.val)
    (h0 : (leftOf ces seen).size = 0 → ∀ a', Lp lo c0 ⟨rg (sO ρ (some d) (.tup [.bool false])), M⟩ a' c r (.mapIter (some bm) clock seen clock) → wpList P ops Q l a' c.w)
    (h1 : ∀ e ∈ (leftOf ces seen).toList, ∀ w1, (w1 = c.w ∨ w1 = c.w.drew) → ∀ a', Lp lo c0 ⟨rg (sO ρ (some d) (.tup [.bool true, .d (.v e.key), xv e])), M⟩ a' (c.inW (setBlock w1 r (.mapIter (some bm) clock (seen.push e.born) clock))) r (.mapIter (some bm) clock (seen.push e.born) clock) →
      wpList P ops Q l a' (setBlock w1 r (.mapIter (some bm) clock (seen.push e.born) clock))) : wpList P ops Q (o :: l) a c.w := by
  have hv := hS.ptr hj hr hb
  rcases run_next_at (P := P) c.w o.type r bm clock clock seen ces clock hS.it.heap hm hmo.2 (Nat.le_refl _) with ⟨e0, hrun⟩ | ⟨e, he, w1, hw, hrun⟩
  · refine valOp (c' := c) (x := .tup [.bool false]) (v := .tuple #[.bool false]) hg hd ?_ hS ?_ (h0 e0)
    · simp only [execOp, ho, hv, Sem.run_bind, hrun, Result.andThen_ok, Sem.run_pure]
    · exact .tup [.bool false] [.bool false] rfl fun i hi hi' => by
        have : i = 0 := by simpa using hi
        subst this; exact .bool c false
  · have hmem := (mem_left he).1
    have hx := hrel e hmem
    have hT := hS.turn hw (seen.push e.born) clock
    have hx2 : Rel (c.inW (setBlock w1 r (.mapIter (some bm) clock (seen.push e.born) clock))) (xv e) e.val := by
      have h1 : w1.heap = c.w.heap := by rcases hw with rfl | rfl <;> rfl
      refine hx.inW (CW.trans (b := w1) ?_ (.set (by rw [h1]; exact hS.it.heap)))
      rcases hw with rfl | rfl
      · exact .refl _
      · exact .drew _
    refine valOp (c' := c.inW (setBlock w1 r (.mapIter (some bm) clock (seen.push e.born) clock))) (x := .tup [.bool true, .d (.v e.key), xv e]) (v := .tuple #[.bool true, e.key, e.val]) hg hd ?_ hT ?_ (fun a' hL => h1 e he w1 hw a' hL)
    · simp only [execOp, ho, hv, Sem.run_bind, hrun, Result.andThen_ok, Sem.run_pure]; rfl
    · refine .tup [.bool true, .d (.v e.key), xv e] [.bool true, e.key, e.val] rfl fun i hi hi' => ?_
      match i, hi with
      | 0, _ => exact .bool _ true
      | 1, _ => exact .scal _ (hks e hmem)
      | 2, _ => exact hx2

theorem entry_op {ops : Array Oper} {o : Oper} {l : List Oper} {d j rid bm since clock : Nat} {seen : Array Nat} {Q : Exit → Act → World → Prop} {lo : Nat} {ρ : Nat → AV} {M : MM} {a : Act} {c c0 : Cx} {r : Nat} {ces : Array MapEntry} {e : MapEntry} {x : AV}
    (hg : o.guard = none) (hd : o.dst = some d) (ho : o.op = .entry (.tmp j)) (hj : j < 57) (hr : ρ j = .ptr rid 0) (hb : c.E.blk rid = r) (hS : Lp lo c0 ⟨rg ρ, M⟩ a c r (.mapIter (some bm) since (seen.push e.born) clock))
    (hm : c.w.heap[bm]? = some (.map ces clock)) (hmo : MO ces.toList clock) (he : e ∈ ces.toList) (hks : scal e.key = true) (hx : Rel c x e.val)
    (hk : ∀ a', Lp lo c0 ⟨rg (sO ρ (some d) (.tup [.d (.v e.key), x])), M⟩ a' c r (.mapIter (some bm) since (seen.push e.born) clock) → wpList P ops Q l a' c.w) : wpList P ops Q (o :: l) a c.w := by
  have hv := hS.ptr hj hr hb
  have hrun := run_entry_at (P := P) c.w r bm since seen ces clock e hS.it.heap hm he (hmo.1.imp fun {a b} h => Nat.ne_of_lt h)
  refine valOp (c' := c) (x := .tup [.d (.v e.key), x]) (v := .tuple #[e.key, e.val]) hg hd ?_ hS ?_ hk
  · simp only [execOp, ho, hv, Sem.run_bind, hrun, Result.andThen_ok, Sem.run_pure]
  · refine .tup [.d (.v e.key), x] [e.key, e.val] rfl fun i hi hi' => ?_
    match i, hi with
    | 0, _ => exact .scal _ hks
    | 1, _ => exact hx
end
end Go.Proofs.Ytegkhdflmboljaa.Sx
