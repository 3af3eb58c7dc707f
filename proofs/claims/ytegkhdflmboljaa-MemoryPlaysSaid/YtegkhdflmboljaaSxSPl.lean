/-
  SX, PART S: AN OPERATION OF THE MODEL DOES WHAT THE ABSTRACT MACHINE'S INSTRUCTION SAYS: operators, conversions, functions, slices, fields, indexes, lengths.
-/
import Derived.Test.YtegkhdflmboljaaSxQPl
namespace Go.Proofs.Ytegkhdflmboljaa.Sx
open Go

section
variable {P : Program} {call : CallT} {mode : FuncId → Mode} {o : Oper}

theorem sim_nilc {x : Operand} (ho : o.op = .nilCheck x) {x' : X} (hx : opX x = some x') : OpSim P call mode (.nilc x') o := by
  intro draw lo lim fresh ρ M r M' a c hst hS hF hf _ _ K Q hK
  have rx := ev_rel hF hx
  simp only [istep] at hst
  split at hst
  · rename_i id off heq
    rw [heq] at rx
    simp only [Option.some.injEq, Prod.mk.injEq] at hst
    obtain ⟨rfl, rfl⟩ := hst
    have hv := rx.ptr_inv.1
    exact wp_value (v := a.eval x) (w' := c.w) (by simp only [execOp, ho, hv, Sem.run_pure]) (hK _ c (.refl hS) rx)
  · rename_i ds heq
    rw [heq] at rx
    simp only [Option.some.injEq, Prod.mk.injEq] at hst
    obtain ⟨rfl, rfl⟩ := hst
    obtain ⟨ad, us, hv, -, -, -⟩ := read_ip (n := 0) rx (Nat.zero_le _)
    exact wp_value (v := a.eval x) (w' := c.w) (by simp only [execOp, ho, hv, Sem.run_pure]) (hK _ c (.refl hS) rx)
  · rename_i f fa fb heq
    rw [heq] at rx
    simp only [Option.some.injEq, Prod.mk.injEq] at hst
    obtain ⟨rfl, rfl⟩ := hst
    have hv : ∃ us vs, a.eval x = .func (.func f) us vs := by
      generalize a.eval x = v at rx
      cases rx with | fn _ _ _ us vs => exact ⟨_, _, rfl⟩
    obtain ⟨us, vs, hv⟩ := hv
    exact wp_value (v := a.eval x) (w' := c.w) (by simp only [execOp, ho, hv, Sem.run_pure]) (hK _ c (.refl hS) rx)
  · cases hst

theorem sim_bin {op : BinOp} {t u : TypeId} {x y : Operand} (ho : o.op = .binOp op t x y u) {x' y' : X} (hx : opX x = some x') (hy : opX y = some y') : OpSim P call mode (.bin op (ekOf P t) x' y') o := by
  intro draw lo lim fresh ρ M r M' a c hst hS hF hf _ _ K Q hK
  simp only [istep] at hst
  obtain ⟨z, hz, hh⟩ := Option.map_eq_some_iff.1 hst
  simp only [Prod.mk.injEq] at hh
  obtain ⟨rfl, rfl⟩ := hh
  obtain ⟨v, hv, hr⟩ := bin_run (P := P) (w := c.w) (ox := x) (oy := y) hz (ev_rel hF hx) (ev_rel hF hy)
  refine wp_value (v := v) (w' := c.w) ?_ (hK _ c (.refl hS) hr)
  simp only [Sem.run_bind] at hv
  simp only [execOp, ho, Sem.run_bind, hv, Result.andThen_ok, Sem.run_pure]

theorem sim_un {op : UnOp} {t : TypeId} {x : Operand} (ho : o.op = .unOp op t x) {x' : X} (hx : opX x = some x') : OpSim P call mode (.un op x') o := by
  intro draw lo lim fresh ρ M r M' a c hst hS hF hf _ _ K Q hK
  simp only [istep] at hst
  obtain ⟨z, hz, hh⟩ := Option.map_eq_some_iff.1 hst
  simp only [Prod.mk.injEq] at hh
  obtain ⟨rfl, rfl⟩ := hh
  obtain ⟨v, hv, hr⟩ := un_run (P := P) (w := c.w) hz (ev_rel hF hx)
  exact wp_value (v := v) (w' := c.w) (by simp only [execOp, ho, Sem.run_bind, hv, Result.andThen_ok, Sem.run_pure]) (hK _ c (.refl hS) hr)

theorem sim_cvi {s t : TypeId} {x : Operand} (ho : o.op = .convert s t x) {d : TypeDesc} {k : IntKind} (hs : P.underlying s = some d) (ht : P.underlying t = some (.int k)) {x' : X} (hx : opX x = some x') :
    OpSim P call mode (.cvi k x') o := by
  intro draw lo lim fresh ρ M r M' a c hst hS hF hf _ _ K Q hK
  have rx := ev_rel hF hx
  simp only [istep] at hst
  split at hst
  · rename_i k0 n heq
    rw [heq] at rx
    simp only [Option.some.injEq, Prod.mk.injEq] at hst
    obtain ⟨rfl, rfl⟩ := hst
    have hv := rx.int_inv
    refine wp_value (v := .int k (k.wrap n)) (w' := c.w) ?_ (hK _ c (.refl hS) (.int c _ _))
    simp only [execOp, ho, hv, convert, Sem.run_bind, run_und hs, run_und ht, Result.andThen_ok, Conv.intToInt, Sem.run_pure]
  · cases hst

theorem sim_cvs {s t : TypeId} {x : Operand} (ho : o.op = .convert s t x) (hs : P.underlying s = some .string) (ht : P.underlying t = some .string) {x' : X} (hx : opX x = some x') : OpSim P call mode (.cvs x') o := by
  intro draw lo lim fresh ρ M r M' a c hst hS hF hf _ _ K Q hK
  have rx := ev_rel hF hx
  simp only [istep] at hst
  split at hst
  · rename_i s0 heq
    rw [heq] at rx
    simp only [Option.some.injEq, Prod.mk.injEq] at hst
    obtain ⟨rfl, rfl⟩ := hst
    have hv := rx.v_inv.1
    refine wp_value (v := .string s0) (w' := c.w) ?_ (hK _ c (.refl hS) (.str c _))
    simp only [execOp, ho, hv, convert, Sem.run_bind, run_und hs, run_und ht, Result.andThen_ok, Sem.run_pure]
  · cases hst

theorem sim_mkf {f : FuncId} {first cap : Array Operand} (ho : o.op = .makeFunc (.func f) first cap) {as bs : List X} (ha : first.toList.mapM opX = some as) (hb : cap.toList.mapM opX = some bs) :
    OpSim P call mode (.mkf f as bs) o := by
  intro draw lo lim fresh ρ M r M' a c hst hS hF hf _ _ K Q hK
  simp only [istep, Option.some.injEq, Prod.mk.injEq] at hst
  obtain ⟨rfl, rfl⟩ := hst
  have r1 := evs_rel hF ha
  have r2 := evs_rel hF hb
  refine wp_value (v := .func (.func f) (first.map a.eval) (cap.map a.eval)) (w' := c.w) (by simp only [execOp, ho, Instr.makeFunc, Sem.run_bind, Sem.run_pure, Result.andThen_ok]) (hK _ c (.refl hS) ?_)
  have e1 : first.map a.eval = (first.toList.map a.eval).toArray := by apply Array.ext'; simp
  have e2 : cap.map a.eval = (cap.toList.map a.eval).toArray := by apply Array.ext'; simp
  rw [e1, e2]
  exact .fn f _ _ _ _ r1.1 r2.1 r1.2 r2.2

theorem sim_mkmap {t : TypeId} (ho : o.op = .makeMap t none) (kk : KK) : OpSim P call mode (.mkmap kk) o := by
  intro draw lo lim fresh ρ M r M' a c hst hS hF hf _ _ K Q hK
  simp only [istep, Option.some.injEq, Prod.mk.injEq] at hst
  obtain ⟨rfl, rfl⟩ := hst
  refine wp_value (v := .map (some c.w.heap.size)) (w' := c.w.alloc (.map #[] 0)) ?_
    (hK _ (c.make fresh 0 (c.w.alloc (.map #[] 0))) (after_make hS hf (.alloc _ _) ⟨#[], 0, by simp only [Cx.make, if_true]; exact (Pushed.alloc c.w (.map #[] 0)).new, ⟨.nil, fun e h => by simp at h⟩, .nil, [], .nil, rfl, fun j h => by simp at h⟩) ?_)
  · simp [execOp, ho, Instr.makeMap]
  · have := Rel.mp (c := c.make fresh 0 (c.w.alloc (.map #[] 0))) fresh (.inr rfl)
    simpa [Cx.make] using this

theorem sim_mkslice {t e : TypeId} {l k : Operand} (ho : o.op = .makeSlice t l k) {ie : TypeInfo} {z : Value} {cs : List AV} {l' k' : X} (hu : P.underlying t = some (.slice e)) (hi : P.info? e = some ie)
    (hl : opX l = some l') (hk : opX k = some k') (hz : ie.zero = some z) (hc : constCells z = some cs) (hcs : cs.length = ie.size) (hpos : 0 < ie.size) :
    OpSim P call mode (.mkslice e ie.size ie.bytes cs l' k') o := by
  intro draw lo lim fresh ρ M r M' a c hst hS hF hf _ _ K Q hK
  have rl := ev_rel hF hl
  have rk := ev_rel hF hk
  simp only [istep] at hst
  split at hst
  · rename_i p q hp hq
    split at hst
    · rename_i hcond
      obtain ⟨h1, h2, h3, h4⟩ := hcond
      simp only [Option.some.injEq, Prod.mk.injEq] at hst
      obtain ⟨rfl, rfl⟩ := hst
      obtain ⟨kl, hvl⟩ := asI_inv hp rl
      obtain ⟨kk, hvk⟩ := asI_inv hq rk
      have hcr := constCells_rel (c := c) hc
      have hzs : z.cells.size = ie.size := by have := hcr.arr.1; omega
      have hrun := run_make (P := P) c.w t e ie z hu hi hz kl kk p q h1 h2 h4 h3
      have hsz : (madeCells z.cells (q.toNat * ie.size)).size = q.toNat * ie.size := size_madeCells _ _
      have hle : p.toNat ≤ q.toNat := by omega
      have hmade : (madeCells z.cells (q.toNat * ie.size)).toList = (List.replicate q.toNat z.cells.toList).flatten := by
        unfold madeCells
        rw [← hzs]
        exact replicate_cells z.cells (by omega) q.toNat
      have hrl : RelL c ((List.replicate q.toNat cs).flatten) (madeCells z.cells (q.toNat * ie.size)).toList := by rw [hmade]; exact hcr.flatten_replicate _
      have hpre : (List.replicate p.toNat cs).flatten = ((List.replicate q.toNat cs).flatten).take (p.toNat * ie.size) := by
        have e : q.toNat = p.toNat + (q.toNat - p.toNat) := by omega
        rw [e, ← List.replicate_append_replicate, List.flatten_append, List.take_left' (by simp [hcs])]
      have hlen : ((List.replicate p.toNat cs).flatten).length ≤ (madeCells z.cells (q.toNat * ie.size)).size := by
        rw [hsz]; simp [hcs]; exact Nat.mul_le_mul_right _ hle
      refine wp_value (v := .slice (some ⟨c.w.heap.size, 0, none⟩) p.toNat q.toNat) (w' := c.w.alloc (.cells (madeCells z.cells (q.toNat * ie.size)) e)) ?_
        (hK _ _ (after_cells hS hf (.alloc _ _) hlen (fun j h h' => ?_)) ?_)
      · simp only [execOp, ho, hvl, hvk, Sem.run_bind, hrun, Result.andThen_ok, Sem.run_pure]
      · have := hrl.arr.2 j (by have := hrl.arr.1; omega) h'
        simp only [hpre, List.getElem_take]
        exact this
      · have := Rel.os (c := c.make fresh (madeCells z.cells (q.toNat * ie.size)).size (c.w.alloc (.cells (madeCells z.cells (q.toNat * ie.size)) e))) fresh 0 p.toNat ie.size q.toNat (.inr rfl) (by simp [Cx.make, hsz]) hle
        simpa [Cx.make] using this
    · cases hst
  · cases hst

theorem sim_vmk {t e : TypeId} {l k : Operand} (ho : o.op = .makeSlice t l k) {ie : TypeInfo} {z : Value} {cs : List AV} {l' k' : X} (hu : P.underlying t = some (.slice e)) (hi : P.info? e = some ie)
    (hl : opX l = some l') (hk : opX k = some k') (hz : ie.zero = some z) (hc : constCells z = some cs) (hcs : cs.length = ie.size) (hpos : 0 < ie.size) :
    OpSim P call mode (.vmk e ie.size ie.bytes cs l' k') o := by
  intro draw lo lim fresh ρ M r M' a c hst hS hF hf _ _ K Q hK
  have rl := ev_rel hF hl
  have rk := ev_rel hF hk
  simp only [istep] at hst
  split at hst
  · rename_i p q hp hq
    split at hst
    · rename_i hcond
      obtain ⟨h1, h2, h3, h4⟩ := hcond
      obtain ⟨ds, hds, hh⟩ := Option.map_eq_some_iff.1 hst
      simp only [Prod.mk.injEq] at hh
      obtain ⟨rfl, rfl⟩ := hh
      obtain ⟨kl, hvl⟩ := asI_inv hp rl
      obtain ⟨kk, hvk⟩ := asI_inv hq rk
      have hcr := constCells_rel (c := c) hc
      have hzs : z.cells.size = ie.size := by have := hcr.arr.1; omega
      have hrun := run_make (P := P) c.w t e ie z hu hi hz kl kk p q h1 h2 h4 h3
      have hsz : (madeCells z.cells (q.toNat * ie.size)).size = q.toNat * ie.size := size_madeCells _ _
      have hle : p.toNat ≤ q.toNat := by omega
      have hmade : (madeCells z.cells (q.toNat * ie.size)).toList = (List.replicate q.toNat z.cells.toList).flatten := by
        unfold madeCells
        rw [← hzs]
        exact replicate_cells z.cells (by omega) q.toNat
      have hrl : RelL c ((List.replicate q.toNat cs).flatten) (madeCells z.cells (q.toNat * ie.size)).toList := by rw [hmade]; exact hcr.flatten_replicate _
      have hpre : (List.replicate p.toNat cs).flatten = ((List.replicate q.toNat cs).flatten).take (p.toNat * ie.size) := by
        have e : q.toNat = p.toNat + (q.toNat - p.toNat) := by omega
        rw [e, ← List.replicate_append_replicate, List.flatten_append, List.take_left' (by simp [hcs])]
      have hlen : ((List.replicate p.toNat cs).flatten).length ≤ (madeCells z.cells (q.toNat * ie.size)).size := by
        rw [hsz]; simp [hcs]; exact Nat.mul_le_mul_right _ hle
      obtain ⟨ha, hrel⟩ := after_tok (n := p.toNat) (sz := ie.size) (k := q.toNat) hS hf (.alloc c.w (.cells (madeCells z.cells (q.toNat * ie.size)) e)) hds hlen (fun j h h' => by
        have := hrl.arr.2 j (by have := hrl.arr.1; omega) h'
        simp only [hpre, List.getElem_take]
        exact this) (by simp [hcs]) hsz.symm hle
      refine wp_value (v := .slice (some ⟨c.w.heap.size, 0, none⟩) p.toNat q.toNat) (w' := c.w.alloc (.cells (madeCells z.cells (q.toNat * ie.size)) e)) ?_ (hK _ _ ha hrel)
      simp only [execOp, ho, hvl, hvk, Sem.run_bind, hrun, Result.andThen_ok, Sem.run_pure]
    · cases hst
  · cases hst

/-! ### Strings and slices cut -/
theorem sliceBound_run {w : World} {v : Value} {k : IntKind} {n : Int} {y : Nat} (code : BoundsCode) (hv : v = .int k n) (h0 : 0 ≤ n) (h1 : n ≤ (y : Int)) : (Instr.sliceBound v y code).run P w = .ok n.toNat w := by
  subst hv
  simp only [Instr.sliceBound, asIntOf, Sem.run_bind, Sem.run_pure, Result.andThen_ok, if_pos (And.intro h0 h1)]

theorem extract_data (s : ByteArray) (l h : Nat) : s.extract l h = ⟨s.data.extract l h⟩ := by
  apply ByteArray.ext
  simp

theorem optX_some {x : Option Operand} {x' : Option X} (h : optX x = some x') : (x = none ∧ x' = none) ∨ ∃ y y', x = some y ∧ x' = some y' ∧ opX y = some y' := by
  cases x with
  | none => simp only [optX, Option.some.injEq] at h; exact .inl ⟨rfl, h.symm⟩
  | some y =>
    simp only [optX] at h
    obtain ⟨y', hy, rfl⟩ := Option.map_eq_some_iff.1 h
    exact .inr ⟨y, y', rfl, rfl, hy⟩

theorem bounds_run {w : World} {c : Cx} {ρ : List AV} {a : Act} (hF : RelL c ρ a.tmps.toList) {isSl : Bool} {len cap : Nat} {lo hi : Option Operand} {lo' hi' : Option X} (hlo : optX lo = some lo') (hhi : optX hi = some hi') {l h : Int}
    (eh : hiOf ρ len hi' = some h) (el : loOf ρ lo' = some l) (h0 : 0 ≤ l) (h1 : l ≤ h) (h2 : h ≤ (len : Int)) (h3 : len ≤ cap) :
    (Instr.sliceBounds isSl len cap (lo.map a.eval) (hi.map a.eval) none).run P w = .ok (l.toNat, h.toNat, cap) w := by
  rcases optX_some hhi with ⟨rfl, rfl⟩ | ⟨y, y', rfl, rfl, hy⟩ <;> rcases optX_some hlo with ⟨rfl, rfl⟩ | ⟨z, z', rfl, rfl, hz⟩ <;> simp only [hiOf, loOf, Option.some.injEq] at eh el
  · subst eh; subst el
    simp [Instr.sliceBounds]
  · subst eh
    obtain ⟨k, hv⟩ := asI_inv el (ev_rel hF hz)
    simp only [Instr.sliceBounds, Option.map_none, Option.map_some, Sem.run_bind, Sem.run_pure, Result.andThen_ok, Int.toNat_natCast, Option.isSome_none, Bool.false_eq_true, if_false, sliceBound_run _ hv h0 (show l ≤ ((len : Nat) : Int) by omega)]
  · subst el
    obtain ⟨k, hv⟩ := asI_inv eh (ev_rel hF hy)
    simp only [Instr.sliceBounds, Option.map_none, Option.map_some, Sem.run_bind, Sem.run_pure, Result.andThen_ok, sliceBound_run _ hv (show (0 : Int) ≤ h by omega) (show h ≤ ((cap : Nat) : Int) by omega)]
    rfl
  · obtain ⟨k, hv⟩ := asI_inv eh (ev_rel hF hy)
    obtain ⟨k', hv'⟩ := asI_inv el (ev_rel hF hz)
    simp only [Instr.sliceBounds, Option.map_some, Sem.run_bind, Sem.run_pure, Result.andThen_ok, Option.isSome_none, Bool.false_eq_true, if_false, sliceBound_run _ hv (show (0 : Int) ≤ h by omega) (show h ≤ ((cap : Nat) : Int) by omega),
      sliceBound_run _ hv' h0 (show l ≤ ((h.toNat : Nat) : Int) by omega)]

theorem sim_slstr {t : TypeId} {x : Operand} {lo hi : Option Operand} (ho : o.op = .slice t x lo hi none) {x' : X} {lo' hi' : Option X} (hu : P.underlying t = some .string) (hx : opX x = some x') (hlo : optX lo = some lo') (hhi : optX hi = some hi') :
    OpSim P call mode (.slstr x' lo' hi') o := by
  intro draw lo0 lim fresh ρ M r M' a c hst hS hF hf _ _ K Q hK
  have rx := ev_rel hF hx
  simp only [istep] at hst
  split at hst
  · rename_i s heq
    rw [heq] at rx
    have hv := rx.v_inv.1
    split at hst
    · rename_i h l eh el
      split at hst
      · rename_i hc
        simp only [Option.some.injEq, Prod.mk.injEq] at hst
        obtain ⟨rfl, rfl⟩ := hst
        have hb := bounds_run (P := P) (w := c.w) (isSl := false) (len := s.size) (cap := s.size) hF hlo hhi eh el hc.1 hc.2.1 hc.2.2 (Nat.le_refl _)
        refine wp_value (v := .string ⟨s.data.extract l.toNat h.toNat⟩) (w' := c.w) ?_ (hK _ c (.refl hS) (.str c _))
        simp only [execOp, ho, hv, Instr.sliceAt, Sem.run_bind, run_und hu, Result.andThen_ok, Instr.slice, Option.map_none, Option.isSome_none, Bool.false_eq_true, if_false, hb, Sem.run_pure, extract_data]
      · cases hst
    · cases hst
  · cases hst

theorem sim_slsl {t e : TypeId} {x : Operand} {lo hi : Option Operand} (ho : o.op = .slice t x lo hi none) {ie : TypeInfo} {x' : X} {lo' hi' : Option X} (hu : P.underlying t = some (.slice e)) (hie : P.info? e = some ie) (hx : opX x = some x')
    (hlo : optX lo = some lo') (hhi : optX hi = some hi') : OpSim P call mode (.slsl ie.size x' lo' hi') o := by
  intro draw lo0 lim fresh ρ M r M' a c hst hS hF hf _ _ K Q hK
  have rx := ev_rel hF hx
  have run : ∀ (ad : Option Addr) (len cap : Nat) (l h : Int), a.eval x = .slice ad len cap →
      hiOf ρ len hi' = some h → loOf ρ lo' = some l → 0 ≤ l → l ≤ h → h ≤ (len : Int) → len ≤ cap →
      (execOp a.eval o).run P c.w = .ok (.value (.slice (if cap = l.toNat then ad else ad.map (·.add (l.toNat * ie.size))) (h.toNat - l.toNat) (cap - l.toNat))) c.w := by
    intro ad len cap l h hv eh el h0 h1 h2 h3
    have hb := bounds_run (P := P) (w := c.w) (isSl := true) hF hlo hhi eh el h0 h1 h2 h3
    simp only [execOp, ho, hv, Instr.sliceAt, Sem.run_bind, run_und hu, Result.andThen_ok, Instr.slice, Option.map_none, hb, run_size hie, Sem.run_pure]
  have closed : ∀ (ds : List D) (len : Nat), Rel c (.d (.sl ds len)) (a.eval x) → (match hiOf ρ len hi', loOf ρ lo' with
      | some h, some l => if 0 ≤ l ∧ l ≤ h ∧ h ≤ (len : Int) ∧ len * ie.size ≤ ds.length then
          (if l = h then some (AV.d (.sl [] 0), M) else some (AV.d (.sl ((ds.drop (l.toNat * ie.size)).take ((h - l).toNat * ie.size)) (h - l).toNat), M)) else none
      | _, _ => none) = some (r, M') → o.wp P a c.w K Q := by
    intro ds len rx hst
    split at hst
    · rename_i h l eh el
      split at hst
      · rename_i hc
        obtain ⟨h0, h1, h2, h3⟩ := hc
        have hval : ∃ ad cap, a.eval x = .slice ad len cap ∧ len ≤ cap ∧ (0 < len → ∃ ad', ad = some ad' ∧ ad'.spot = none ∧ ad'.block < c.w.heap.size ∧ (∀ j, j < ds.length → ¬ c.O ad'.block (ad'.off + j)) ∧ ∃ f : Nat → Value, (∀ j, j < ds.length → c.w.cell? (ad'.add j) = some (f j)) ∧ ∀ j (h : j < ds.length), DR c.O c.w ds[j] (f j)) := by
          generalize a.eval x = v at rx
          cases rx with
          | d _ _ hd => cases hd with
            | sl0 ad cap => exact ⟨ad, cap, rfl, Nat.zero_le _, fun h => absurd h (Nat.lt_irrefl 0)⟩
            | sl ad _ cap _ f hn hnk hs hb hL hc hr => exact ⟨_, cap, rfl, hnk, fun _ => ⟨ad, rfl, hs, hb, hL, f, hc, hr⟩⟩
        obtain ⟨ad, cap, hv, hcap, hin⟩ := hval
        have hrun := run _ len cap l h hv eh el h0 h1 h2 hcap
        split at hst
        · rename_i hlh
          simp only [Option.some.injEq, Prod.mk.injEq] at hst
          obtain ⟨rfl, rfl⟩ := hst
          refine wp_value (w' := c.w) hrun (hK _ c (.refl hS) ?_)
          have e : h.toNat - l.toNat = 0 := by omega
          rw [e]
          exact .d _ _ (.sl0 _ _)
        · rename_i hlh
          simp only [Option.some.injEq, Prod.mk.injEq] at hst
          obtain ⟨rfl, rfl⟩ := hst
          have hpos : 0 < len := by omega
          have n1 : 0 < h.toNat - l.toNat := by omega
          have n2 : h.toNat - l.toNat ≤ cap - l.toNat := by omega
          have e0 : ¬ cap = l.toNat := by omega
          obtain ⟨ad', had, hs, hb, hL, f, hcf, hrf⟩ := hin hpos
          clear hin
          subst had
          refine wp_value (w' := c.w) hrun (hK _ c (.refl hS) ?_)
          rw [if_neg e0]
          simp only [Option.map_some, add_none hs]
          have e : (h - l).toNat = h.toNat - l.toNat := by omega
          rw [e]
          refine .d _ _ (.sl _ _ _ _ (fun j => f (l.toNat * ie.size + j)) n1 n2 rfl hb (fun j hj => ?_) (fun j hj => ?_) (fun j hj => ?_))
          · simp only [List.length_take, List.length_drop] at hj
            have := hL (l.toNat * ie.size + j) (by omega)
            simpa [Nat.add_assoc] using this
          · simp only [List.length_take, List.length_drop] at hj
            rw [add_blk, ← hcf (l.toNat * ie.size + j) (by omega), add_none hs]
            simp [Nat.add_assoc]
          · simp only [List.length_take, List.length_drop] at hj
            simp only [List.getElem_take, List.getElem_drop]
            exact hrf _ _
      · cases hst
    · cases hst
  simp only [istep] at hst
  split at hst
  · rename_i id off len s heq
    rw [heq] at rx
    obtain ⟨k, hv, hs, hk, hlk⟩ := rx.os_inv
    split at hst
    · rename_i h l eh el
      split at hst
      · rename_i hc
        obtain ⟨h0, h1, h2, rfl⟩ := hc
        have hrun := run _ len k l h hv eh el h0 h1 h2 hlk
        split at hst
        · rename_i hl0
          simp only [Option.some.injEq, Prod.mk.injEq] at hst
          obtain ⟨rfl, rfl⟩ := hst
          subst hl0
          refine wp_value (v := .slice (some ⟨c.E.blk id, off, none⟩) h.toNat k) (w' := c.w) ?_ (hK _ c (.refl hS) (.os id off _ _ k hs hk (by omega)))
          rw [hrun]
          have e1 : (if k = Int.toNat 0 then some (⟨c.E.blk id, off, none⟩ : Addr) else (some (⟨c.E.blk id, off, none⟩ : Addr)).map (·.add (Int.toNat 0 * ie.size))) = some ⟨c.E.blk id, off, none⟩ := by
            split <;> simp [Addr.add]
          rw [e1]; simp
        · rename_i hl0
          split at hst
          · rename_i hlh
            simp only [Option.some.injEq, Prod.mk.injEq] at hst
            obtain ⟨rfl, rfl⟩ := hst
            refine wp_value (w' := c.w) hrun (hK _ c (.refl hS) ?_)
            have e : h.toNat - l.toNat = 0 := by omega
            rw [e]
            exact .d _ _ (.sl0 _ _)
          · rename_i hlh
            simp only [Option.some.injEq, Prod.mk.injEq] at hst
            obtain ⟨rfl, rfl⟩ := hst
            refine wp_value (w' := c.w) hrun (hK _ c (.refl hS) ?_)
            have e0 : ¬ k = l.toNat := by omega
            rw [if_neg e0]
            simp only [Option.map_some, add_blk]
            have e : (h - l).toNat = h.toNat - l.toNat := by omega
            rw [e]
            refine .os id _ _ _ (k - l.toNat) hs ?_ (by omega)
            rw [← hk, Nat.sub_mul]
            have : l.toNat * ie.size ≤ k * ie.size := Nat.mul_le_mul_right _ (by omega)
            omega
      · cases hst
    · cases hst
  · rename_i ds len heq
    rw [heq] at rx
    exact closed _ _ rx hst
  · rename_i heq
    rw [heq] at rx
    have hv := rx.v_inv.1
    split at hst
    · rename_i h l eh el
      split at hst
      · rename_i hc
        obtain ⟨rfl, rfl⟩ := hc
        simp only [Option.some.injEq, Prod.mk.injEq] at hst
        obtain ⟨rfl, rfl⟩ := hst
        have hrun := run none 0 0 0 0 hv eh el (by omega) (by omega) (by omega) (by omega)
        refine wp_value (w' := c.w) hrun (hK _ c (.refl hS) ?_)
        exact .scal c rfl
      · cases hst
    · cases hst
  · rename_i ds len s heq
    rw [heq] at rx
    exact closed _ _ (.d _ _ rx.ov_closed) hst
  · cases hst
end
end Go.Proofs.Ytegkhdflmboljaa.Sx
