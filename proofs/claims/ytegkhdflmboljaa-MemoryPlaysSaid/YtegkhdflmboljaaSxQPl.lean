/-
  SX, PART Q: AN OPERATION OF THE MODEL DOES WHAT THE ABSTRACT MACHINE'S INSTRUCTION SAYS: loads, stores, operators, slices, fields, indexes.
-/
import Derived.Test.YtegkhdflmboljaaSxPPl
namespace Go.Proofs.Ytegkhdflmboljaa.Sx
open Go

section
variable {P : Program} {call : CallT} {mode : FuncId → Mode} {o : Oper}

theorem Rel.ptr_inv {c : Cx} {id off : Nat} {v : Value} (h : Rel c (.ptr id off) v) : v = .pointer (some ⟨c.E.blk id, off, none⟩) ∧ c.S id := by
  cases h with | ptr _ _ hs => exact ⟨rfl, hs⟩
theorem Rel.mp_inv {c : Cx} {id : Nat} {v : Value} (h : Rel c (.mp id) v) : v = .map (some (c.E.blk id)) ∧ c.S id := by
  cases h with | mp _ hs => exact ⟨rfl, hs⟩
theorem Rel.os_inv {c : Cx} {id off len sz : Nat} {v : Value} (h : Rel c (.os id off len sz) v) : ∃ k, v = .slice (some ⟨c.E.blk id, off, none⟩) len k ∧ c.S id ∧ off + k * sz = c.E.tot id ∧ len ≤ k := by
  cases h with | os _ _ _ _ k hs hk hl => exact ⟨k, rfl, hs, hk, hl⟩
theorem Rel.agg_inv {c : Cx} {as : List AV} {v : Value} (h : Rel c (.agg as) v) : ∃ us : List Value, v = .agg us.toArray ∧ RelL c as us := by
  cases h with | agg _ us h1 r1 => exact ⟨us, rfl, h1, r1⟩
theorem Rel.tup_inv {c : Cx} {as : List AV} {v : Value} (h : Rel c (.tup as) v) : ∃ us : List Value, v = .tuple us.toArray ∧ RelL c as us := by
  cases h with | tup _ us h1 r1 => exact ⟨us, rfl, h1, r1⟩

theorem look_some {m : Mem} {lim : Lm} {id : Nat} {b : Blk} (h : look m lim id = some b) : m id = some b ∧ lim.ok id = true := by
  unfold look at h; split at h
  · rename_i hl; exact ⟨h, hl⟩
  · cases h

theorem live_cells {lo : Nat} {M : MM} {c : Cx} (hS : Sim lo M c) {id : Nat} {t : TypeId} {cs : List AV} (h : M.mem id = some (.cells t cs)) :
    ∃ vs : Array Value, c.w.heap[c.E.blk id]? = some (.cells vs t (0, 0)) ∧ vs.size = c.E.tot id ∧ cs.length ≤ vs.size ∧ RelL c cs (vs.toList.take cs.length) := by
  obtain ⟨vs, h1, h2, h3, h4⟩ := hS.blk id _ h
  refine ⟨vs, h1, h2, h3, by simp; omega, fun j hj hj' => ?_⟩
  have := h4 j hj (by omega)
  simpa using this

theorem take_cells {w : World} {b off n : Nat} {t : TypeId} {vs : Array Value} (hg : w.heap[b]? = some (.cells vs t (0, 0))) :
    ∀ j v, ((vs.toList.drop off).take n)[j]? = some v → w.cell? ((⟨b, off, none⟩ : Addr).add j) = some v := by
  intro j v h
  rw [add_blk, cell_of_row w b (off + j) vs t (0, 0) hg]
  rw [List.getElem?_take] at h
  split at h
  · rw [List.getElem?_drop] at h
    simpa using h
  · cases h

theorem read_ptr {lo : Nat} {lim : Lm} {M : MM} {c : Cx} (hS : Sim lo M c) {id off n : Nat} {v : Value} {t : TypeId} {cs : List AV} (hr : Rel c (.ptr id off) v) (hl : look M.mem lim id = some (.cells t cs)) (hn : off + n ≤ cs.length) :
    ∃ (ad : Addr) (us : List Value), v = .pointer (some ad) ∧ us.length = n ∧ (∀ j u, us[j]? = some u → c.w.cell? (ad.add j) = some u) ∧ RelL c ((cs.drop off).take n) us := by
  cases hr with
  | ptr _ _ hs =>
    obtain ⟨vs, h1, h2, h3, h4⟩ := live_cells hS (look_some hl).1
    have hrel : RelL c ((cs.drop off).take n) ((vs.toList.drop off).take n) := by
      have := (h4.drop off).take n
      rw [List.drop_take, List.take_take] at this
      rwa [show min n (cs.length - off) = n by omega] at this
    exact ⟨_, _, rfl, by have := hrel.1; simp at this ⊢; omega, take_cells h1, hrel⟩

theorem DR.list {L : Nat → Nat → Prop} {w : World} {c : Cx} (hL : c.O = L) (hw : c.w = w) {ds : List D} {f : Nat → Value} (hr : ∀ j (h : j < ds.length), DR L w ds[j] (f j)) (n : Nat) (hn : n ≤ ds.length) :
    RelL c ((ds.take n).map .d) ((List.range n).map f) := by
  refine ⟨by simp; omega, fun i h h' => ?_⟩
  simp only [List.length_map, List.length_range] at h'
  simp only [List.getElem_map, List.getElem_take, List.getElem_range]
  subst hL; subst hw
  exact .d _ _ (hr i (by omega))

theorem read_ip {c : Cx} {n : Nat} {v : Value} {ds : List D} (hr : Rel c (.ip ds) v) (hn : n ≤ ds.length) :
    ∃ (ad : Addr) (us : List Value), v = .pointer (some ad) ∧ us.length = n ∧ (∀ j u, us[j]? = some u → c.w.cell? (ad.add j) = some u) ∧ RelL c ((ds.take n).map .d) us := by
  cases hr with
  | ip ad _ f hs hb hL hc hr =>
    refine ⟨ad, (List.range n).map f, rfl, by simp, fun j u hu => ?_, DR.list rfl rfl hr n hn⟩
    simp only [List.getElem?_map, Option.map_eq_some_iff] at hu
    obtain ⟨k, hk, rfl⟩ := hu
    obtain ⟨hj, e⟩ := List.getElem?_eq_some_iff.1 hk
    simp at e hj
    subst e
    exact hc _ (by omega)

theorem run_loadAt_agg {w : World} {t : TypeId} {d : TypeDesc} {ti : TypeInfo} (hu : P.underlying t = some d) (hi : P.info? t = some ti) (hagg : aggB d = true) {ad : Addr} {us : List Value} (hl : us.length = ti.size)
    (h : ∀ j u, us[j]? = some u → w.cell? (ad.add j) = some u) : (Instr.loadAt t (.pointer (some ad))).run P w = .ok (.agg us.toArray) w := by
  have hl' := run_loadCells_list (P := P) w ad us h
  rw [hl] at hl'
  simp only [Instr.loadAt, Instr.sureAddr, loadVar, Sem.run_bind, Sem.run_pure, Result.andThen_ok, run_agg hu, hagg, if_true, run_size hi, hl']

theorem run_loadAt_one {w : World} {t : TypeId} {d : TypeDesc} (hu : P.underlying t = some d) (hagg : aggB d = false) {ad : Addr} {u : Value} (h : w.cell? ad = some u) :
    (Instr.loadAt t (.pointer (some ad))).run P w = .ok u w := by
  simp only [Instr.loadAt, Instr.sureAddr, loadVar, Sem.run_bind, Sem.run_pure, Result.andThen_ok, run_agg hu, hagg, Bool.false_eq_true, if_false, run_load, h]

theorem sim_load {t : TypeId} {x : Operand} (ho : o.op = .load t x) {d : TypeDesc} {ti : TypeInfo} {x' : X} (hu : P.underlying t = some d) (hi : P.info? t = some ti) (hx : opX x = some x') :
    OpSim P call mode (if aggB d then .ldn ti.size x' else .ld1 x') o := by
  intro draw lo lim fresh ρ M r M' a c hst hS hF hf _ _ K Q hK
  have rx := ev_rel hF hx
  by_cases hagg : aggB d = true
  · have fin : ∀ (l : List AV) (us : List Value) (ad : Addr), a.eval x = .pointer (some ad) → us.length = ti.size → (∀ j u, us[j]? = some u → c.w.cell? (ad.add j) = some u) → RelL c l us → some (AV.agg l, M) = some (r, M') → o.wp P a c.w K Q := by
      intro l us ad hv hl h hr hst
      simp only [Option.some.injEq, Prod.mk.injEq] at hst
      obtain ⟨rfl, rfl⟩ := hst
      refine wp_value (v := .agg us.toArray) (w' := c.w) ?_ (hK _ c (.refl hS) (.agg _ _ hr.1 hr.2))
      simp only [execOp, ho, hv, Sem.run_bind, run_loadAt_agg hu hi hagg hl h, Result.andThen_ok, Sem.run_pure]
    simp only [hagg, if_true, istep] at hst
    split at hst
    · rename_i id off heq
      rw [heq] at rx
      split at hst
      · rename_i t' cs hlk
        split at hst
        · rename_i hle
          obtain ⟨ad, us, hv, hl, h, hr⟩ := read_ptr hS rx hlk hle
          exact fin _ us ad hv hl h hr hst
        · cases hst
      · cases hst
    · rename_i ds heq
      rw [heq] at rx
      split at hst
      · rename_i hle
        obtain ⟨ad, us, hv, hl, h, hr⟩ := read_ip rx hle
        exact fin _ us ad hv hl h hr hst
      · cases hst
    · cases hst
  · have hagg' : aggB d = false := by simpa using hagg
    have fin : ∀ (y : AV) (us : List Value) (ad : Addr), a.eval x = .pointer (some ad) → us.length = 1 → (∀ j u, us[j]? = some u → c.w.cell? (ad.add j) = some u) → RelL c [y] us → some (y, M) = some (r, M') → o.wp P a c.w K Q := by
      intro y us ad hv hl h hr hst
      simp only [Option.some.injEq, Prod.mk.injEq] at hst
      obtain ⟨rfl, rfl⟩ := hst
      match us, hl with
      | [u], _ =>
        have hc := h 0 u rfl
        have e : ad.add 0 = ad := by unfold Addr.add; simp
        rw [e] at hc
        refine wp_value (v := u) (w' := c.w) ?_ (hK _ c (.refl hS) hr.tail.1)
        simp only [execOp, ho, hv, Sem.run_bind, run_loadAt_one hu hagg' hc, Result.andThen_ok, Sem.run_pure]
    simp only [hagg', Bool.false_eq_true, if_false, istep] at hst
    split at hst
    · rename_i id off heq
      rw [heq] at rx
      split at hst
      · rename_i t' cs hlk
        obtain ⟨y, hy, hst'⟩ := Option.map_eq_some_iff.1 hst
        obtain ⟨hlt, hy'⟩ := List.getElem?_eq_some_iff.1 hy
        obtain ⟨ad, us, hv, hl, h, hr⟩ := read_ptr (n := 1) hS rx hlk (by omega)
        have e : (cs.drop off).take 1 = [y] := by rw [List.take_one, List.head?_drop, hy]; rfl
        rw [e] at hr
        exact fin _ us ad hv hl h hr (by rw [hst'])
      · cases hst
    · rename_i ds heq
      rw [heq] at rx
      obtain ⟨y, hy, hst'⟩ := Option.map_eq_some_iff.1 hst
      obtain ⟨hlt, hy'⟩ := List.getElem?_eq_some_iff.1 hy
      obtain ⟨ad, us, hv, hl, h, hr⟩ := read_ip (n := 1) rx (by omega)
      have e : (ds.take 1).map AV.d = [.d y] := by rw [List.take_one, List.head?_eq_getElem?, hy]; rfl
      rw [e] at hr
      exact fin _ us ad hv hl h hr (by rw [hst'])
    · cases hst

theorem sim_store {t : TypeId} {x y : Operand} (ho : o.op = .store t x y) {ti : TypeInfo} {x' y' : X} (hi : P.info? t = some ti) (hx : opX x = some x') (hy : opX y = some y') :
    OpSim P call mode (.st ti.size x' y') o := by
  intro draw lo lim fresh ρ M r M' a c hst hS hF hf _ _ K Q hK
  have rx := ev_rel hF hx
  have ry := ev_rel hF hy
  simp only [istep] at hst
  split at hst
  · rename_i id off heq
    rw [heq] at rx
    split at hst
    · rename_i t' cs hlk
      split at hst
      · rename_i hcond
        obtain ⟨h1, h2, h3, h4⟩ := hcond
        simp only [Option.some.injEq, Prod.mk.injEq] at hst
        obtain ⟨rfl, rfl⟩ := hst
        have hm := (look_some hlk).1
        obtain ⟨vs, g1, g2, g3, g4⟩ := live_cells hS hm
        have hid : M.mem id ≠ none := by rw [hm]; simp
        have hnf := hS.frz id _ hm rfl
        have hcl := ry.cells
        have hlen : (a.eval y).cells.size = ti.size := by have := hcl.arr.1; omega
        have hv := rx.ptr_inv.1
        have hone : ∀ v ∈ (a.eval y).cells.toList, v.oneCell' = true := by
          intro v hv
          obtain ⟨j, hj, rfl⟩ := List.getElem_of_mem hv
          have hj' : j < (ev ρ y').cells.length := by rw [hcl.1]; exact hj
          have := (hcl.2 j hj' hj).one (List.all_eq_true.1 h4 _ (List.getElem_mem hj'))
          cases hq : (a.eval y).cells.toList[j] <;> rw [hq] at this <;> first | rfl | (cases this; done)
        have hst := run_storeCells_at P (c.E.blk id) off t' (a.eval y).cells.toList 0 vs c.w g1 (by simp; omega) hone
        simp only [Nat.add_zero] at hst
        have hsz : ¬ ((a.eval y).cells.size ≠ ti.size) := by omega
        refine wp_skip' (w' := c.w.setRow (c.E.blk id) (vs.toList.take off ++ (a.eval y).cells.toList ++ vs.toList.drop (off + (a.eval y).cells.toList.length)).toArray) ?_ ?_
        · simp only [execOp, ho, hv, Instr.storeAt, Instr.sureAddr, storeVar, Sem.run_bind, Sem.run_pure, Result.andThen_ok, run_size hi, if_neg hsz, hst]
        · refine hK undef (c.at_ _) (after_put hS hid h1 hnf (turned_setRow _ _ _) ?_) (.undef _)
          have hext : Ext c (c.at_ (c.w.setRow (c.E.blk id) (vs.toList.take off ++ (a.eval y).cells.toList ++ vs.toList.drop (off + (a.eval y).cells.toList.length)).toArray)) := ext_at (hS.wlive id hid h1) hnf (turned_setRow _ _ _)
          refine ⟨_, setRow_heap _ _ _ _ _ _ g1, ?_, ?_, ?_⟩
          · show _ = c.E.tot id
            rw [← g2]; simp; omega
          · simp [setAt]; omega
          · intro j hj hj'
            have key : RelL c (setAt cs off (ev ρ y').cells) (((vs.toList.take cs.length).take off) ++ (a.eval y).cells.toList ++ ((vs.toList.take cs.length).drop (off + (a.eval y).cells.toList.length))) := by
              unfold setAt
              have e1 : (ev ρ y').cells.length = (a.eval y).cells.toList.length := hcl.1
              rw [e1]
              exact ((g4.take off).append hcl).append (g4.drop _)
            have hj2 : j < (((vs.toList.take cs.length).take off) ++ (a.eval y).cells.toList ++ ((vs.toList.take cs.length).drop (off + (a.eval y).cells.toList.length))).length := by rw [← key.1]; exact hj
            have := (key.2 j hj hj2).ext hS.WL hext
            have e2 : (vs.toList.take off ++ (a.eval y).cells.toList ++ vs.toList.drop (off + (a.eval y).cells.toList.length)).toArray[j] =
                (((vs.toList.take cs.length).take off) ++ (a.eval y).cells.toList ++ ((vs.toList.take cs.length).drop (off + (a.eval y).cells.toList.length)))[j] := by
              have hm1 : min off (min cs.length vs.size) = min off vs.size := by omega
              simp only [List.getElem_toArray, List.getElem_append, List.length_append, List.length_take, Array.length_toList, List.getElem_take, List.getElem_drop, hm1]
            rw [e2]
            exact this
      · cases hst
    · cases hst
  · cases hst
end
end Go.Proofs.Ytegkhdflmboljaa.Sx
