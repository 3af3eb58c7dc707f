/-
  SX, PART V: calls; what a call without memory is handed and hands back.
-/
import Derived.Test.YtegkhdflmboljaaSxUPl
namespace Go.Proofs.Ytegkhdflmboljaa.Sx
open Go

theorem DR.weaken {L L' : Nat → Nat → Prop} {w : World} (h : ∀ b o, L' b o → L b o) {x : D} {v : Value} (r : DR L w x v) : DR L' w x v :=
  r.keep (Nat.le_refl _) (fun b o _ hn hl => hn (h b o hl)) (fun _ _ _ _ => rfl)

theorem DR.norm {L : Nat → Nat → Prop} {w : World} {x : D} {v : Value} (r : DR L w x v) : DR L w (normD x) v := by
  cases r with
  | v x h =>
    unfold normD
    split
    · rename_i n k heq
      injection heq with heq
      subst heq
      simp [Sx.scal] at h
      obtain ⟨rfl, rfl⟩ := h
      exact .sl0 _ _
    · exact .v _ h
  | sl0 a k => exact .sl0 a k
  | sl ad n k cells f hn hnk hs hb hL hc hr => exact .sl ad n k cells f hn hnk hs hb hL hc hr

/-- From the callee's context c1 to the caller's c: ids from lo on are given up. -/
structure Fz (lo : Nat) (M1 : MM) (c1 c : Cx) : Prop where
  blk : ∀ id t cs, M1.mem id = some (.cells t cs) → BRel c1 id (.cells t cs)
  w : c.w = c1.w
  O : ∀ b o, c.O b o → c1.O b o
  fresh : ∀ id, lo ≤ id → c1.S id → ¬ c.L (c1.E.blk id)
  lt : ∀ id, c1.S id → c1.E.blk id < c1.w.heap.size
  ids : ∀ id, id < lo → c1.S id → c.S id
  eblk : ∀ id, id < lo → c1.S id → c1.E.blk id = c.E.blk id
  etot : ∀ id, id < lo → c1.S id → c1.E.tot id = c.E.tot id

theorem freezeD_rel {lo : Nat} {M1 : MM} {c1 c : Cx} (F : Fz lo M1 c1 c) : ∀ (n : Nat) {x : AV} {v : Value} {d : D}, Rel c1 x v → freezeD M1.mem lo n x = some d → DR c.O c.w d v
  | n, .d x, v, d, hr, hf => by
    have hf' : normD x = d := by cases n <;> simpa [freezeD] using hf
    subst hf'
    cases hr with | d _ _ h => rw [F.w]; exact (h.weaken F.O).norm
  | n, .ov id cs len sz, v, d, hr, hf => by
    have hf' : D.sl cs len = d := by cases n <;> simpa [freezeD] using hf
    subst hf'
    rw [F.w]; exact hr.ov_closed.weaken F.O
  | n + 1, .os id off len sz, v, d, hr, hf => by
    obtain ⟨k, rfl, hs, hk, hlk⟩ := hr.os_inv
    simp only [freezeD] at hf
    split at hf
    · cases hf
    · rename_i hlo
      split at hf
      · rename_i t cs hm
        split at hf
        · rename_i hle
          obtain ⟨ds, hds, rfl⟩ := Option.map_eq_some_iff.1 hf
          obtain ⟨h1, h2⟩ := mapM_get hds
          obtain ⟨vs, g1, g2, g3, g4⟩ := F.blk id t cs hm
          have hlen : ((cs.drop off).take (len * sz)).length = len * sz := by simp; omega
          rcases Nat.eq_zero_or_pos len with h0 | hpos
          · subst h0
            have : ds = [] := List.eq_nil_of_length_eq_zero (by rw [← h1]; simp)
            subst this
            exact .sl0 _ _
          · refine .sl _ _ _ _ (fun j => vs.getD (off + j) undef) hpos hlk rfl (by rw [F.w]; exact F.lt id hs) (fun _ _ hO => F.fresh id (Nat.le_of_not_lt hlo) hs hO.1) (fun j hj => ?_) (fun j hj => ?_)
            · have hj' : off + j < vs.size := by rw [← h1, hlen] at hj; omega
              rw [F.w, add_blk, cell_of_row c1.w _ _ vs t (0, 0) g1]
              simp [Array.getD, hj']
            · have hj0 : j < len * sz := by rw [← h1, hlen] at hj; exact hj
              have hj' : off + j < vs.size := by omega
              have hrel := g4 (off + j) (by omega) hj'
              have hfz := h2 j (by rw [hlen]; exact hj0) hj
              simp only [List.getElem_take, List.getElem_drop] at hfz
              have e : vs.getD (off + j) undef = vs[off + j] := by simp [Array.getD, hj']
              rw [e]
              exact freezeD_rel F n hrel hfz
        · cases hf
      · cases hf
  | 0, .os .., v, d, hr, hf => by simp [freezeD] at hf
  | _, .ptr .., v, d, hr, hf => by simp [freezeD] at hf
  | _, .ip .., v, d, hr, hf => by simp [freezeD] at hf
  | _, .mp .., v, d, hr, hf => by simp [freezeD] at hf
  | _, .fn .., v, d, hr, hf => by simp [freezeD] at hf
  | _, .agg .., v, d, hr, hf => by simp [freezeD] at hf
  | _, .tup .., v, d, hr, hf => by simp [freezeD] at hf

theorem Rel.ip_weaken {c1 c : Cx} (hw : c.w = c1.w) (hL : ∀ b o, c.O b o → c1.O b o) {ds : List D} {v : Value} (h : Rel c1 (.ip ds) v) : Rel c (.ip ds) v := by
  cases h with
  | ip ad _ f hs hb hL' hc hr => exact .ip ad _ f hs (by rw [hw]; exact hb) (fun j hj h => hL' j hj (hL _ _ h)) (by rw [hw]; exact hc) (fun j hj => by rw [hw]; exact (hr j hj).weaken hL)

theorem freeze1_rel {lo : Nat} {M1 : MM} {c1 c : Cx} (F : Fz lo M1 c1 c) {x y : AV} {v : Value} (hr : Rel c1 x v) (hf : freeze1 M1.mem lo x = some y) : Rel c y v := by
  unfold freeze1 at hf
  split at hf
  · rename_i id off
    split at hf
    · rename_i hlt
      simp only [Option.some.injEq] at hf; subst hf
      obtain ⟨rfl, hs⟩ := hr.ptr_inv
      rw [F.eblk id hlt hs]; exact .ptr _ _ (F.ids id hlt hs)
    · cases hf
  · rename_i id
    split at hf
    · rename_i hlt
      simp only [Option.some.injEq] at hf; subst hf
      obtain ⟨rfl, hs⟩ := hr.mp_inv
      rw [F.eblk id hlt hs]; exact .mp _ (F.ids id hlt hs)
    · cases hf
  · simp only [Option.some.injEq] at hf; subst hf
    exact hr.ip_weaken F.w F.O
  · rename_i id off len sz
    split at hf
    · rename_i hlt
      simp only [Option.some.injEq] at hf; subst hf
      obtain ⟨k, rfl, hs, hk, hlk⟩ := hr.os_inv
      rw [F.eblk id hlt hs]; exact .os _ _ _ _ k (F.ids id hlt hs) (by rw [← F.etot id hlt hs]; exact hk) hlk
    · obtain ⟨d, hd, rfl⟩ := Option.map_eq_some_iff.1 hf
      exact .d _ _ (freezeD_rel F 64 hr hd)
  · simp only [Option.some.injEq] at hf; subst hf
    exact .d _ _ (by rw [F.w]; exact hr.ov_closed.weaken F.O)
  · obtain ⟨d, hd, rfl⟩ := Option.map_eq_some_iff.1 hf
    exact .d _ _ (freezeD_rel F 64 hr hd)
  · cases hf

theorem mapM_rel {c1 c : Cx} {f : AV → Option AV} (h : ∀ x y v, Rel c1 x v → f x = some y → Rel c y v) {as bs : List AV} {us : List Value} (hr : RelL c1 as us) (hf : as.mapM f = some bs) : RelL c bs us := by
  obtain ⟨h1, h2⟩ := mapM_get hf
  exact ⟨by rw [← h1]; exact hr.1, fun j hj hj' => h _ _ _ (hr.2 j (by omega) hj') (h2 j (by omega) hj)⟩

theorem freezeA_rel {lo : Nat} {M1 : MM} {c1 c : Cx} (F : Fz lo M1 c1 c) {x y : AV} {v : Value} (hr : Rel c1 x v) (hf : freezeA M1.mem lo x = some y) : Rel c y v := by
  unfold freezeA at hf
  split at hf
  · obtain ⟨bs, hb, rfl⟩ := Option.map_eq_some_iff.1 hf
    obtain ⟨us, rfl, hus⟩ := hr.agg_inv
    have := mapM_rel (fun x y v hx hy => freeze1_rel F hx hy) hus hb
    exact .agg _ _ this.1 this.2
  · exact freeze1_rel F hr hf

theorem freeze_rel {lo : Nat} {M1 : MM} {c1 c : Cx} (F : Fz lo M1 c1 c) {x y : AV} {v : Value} (hr : Rel c1 x v) (hf : freeze M1.mem lo x = some y) : Rel c y v := by
  unfold freeze at hf
  split at hf
  · obtain ⟨bs, hb, rfl⟩ := Option.map_eq_some_iff.1 hf
    obtain ⟨us, rfl, hus⟩ := hr.tup_inv
    have := mapM_rel (fun x y v hx hy => freezeA_rel F hx hy) hus hb
    exact .tup _ _ this.1 this.2
  · exact freezeA_rel F hr hf

/-! ### Values that no context is needed for -/
theorem scalC_rel {c1 c : Cx} {x : AV} {v : Value} (h : scalC x = true) (hr : Rel c1 x v) : Rel c x v := by
  unfold scalC at h
  split at h
  · obtain ⟨rfl, hs⟩ := hr.v_inv; exact .scal c hs
  · cases h

theorem scalA_rel {c1 c : Cx} {x : AV} {v : Value} (h : scalA x = true) (hr : Rel c1 x v) : Rel c x v := by
  unfold scalA at h
  split at h
  · obtain ⟨us, rfl, hus⟩ := hr.agg_inv
    exact .agg _ _ hus.1 (fun i hi hi' => scalC_rel (List.all_eq_true.1 h _ (List.getElem_mem hi)) (hus.2 i hi hi'))
  · exact scalC_rel h hr

theorem scalT_rel {c1 c : Cx} {x : AV} {v : Value} (h : scalT x = true) (hr : Rel c1 x v) : Rel c x v := by
  unfold scalT at h
  split at h
  · obtain ⟨us, rfl, hus⟩ := hr.tup_inv
    exact .tup _ _ hus.1 (fun i hi hi' => scalA_rel (List.all_eq_true.1 h _ (List.getElem_mem hi)) (hus.2 i hi hi'))
  · exact scalA_rel h hr

theorem isD_rel {c1 c : Cx} (hw : c.w = c1.w) (hL : ∀ b o, c.O b o → c1.O b o) {x : AV} {v : Value} (h : x.isD = true) (hr : Rel c1 x v) : Rel c (stripC x) v := by
  unfold AV.isD at h
  split at h
  · cases hr with | d _ _ hd => exact .d _ _ (by rw [hw]; exact hd.weaken hL)
  · exact .d _ _ (by rw [hw]; exact hr.ov_closed.weaken hL)
  · cases h

theorem closedC_rel {c1 c : Cx} (hw : c.w = c1.w) (hL : ∀ b o, c.O b o → c1.O b o) {x : AV} {v : Value} (h : closedC x = true) (hr : Rel c1 x v) : Rel c (normC x) v := by
  unfold closedC at h
  split at h
  · cases hr with | d _ _ hd => exact .d _ _ (by rw [hw]; exact (hd.weaken hL).norm)
  · exact hr.ip_weaken hw hL
  · exact .d _ _ (by rw [hw]; exact hr.ov_closed.weaken hL)
  · simp only [Bool.and_eq_true] at h
    cases hr with
    | fn _ _ _ us vs h1 h2 r1 r2 =>
      refine .fn _ _ _ us vs (by simpa using h1) (by simpa using h2) (fun i hi hi' => ?_) (fun i hi hi' => ?_)
      · simp only [List.length_map] at hi
        simp only [List.getElem_map]
        exact isD_rel hw hL (List.all_eq_true.1 h.1 _ (List.getElem_mem hi)) (r1 i hi hi')
      · simp only [List.length_map] at hi
        simp only [List.getElem_map]
        exact isD_rel hw hL (List.all_eq_true.1 h.2 _ (List.getElem_mem hi)) (r2 i hi hi')
  · cases h

theorem closedA_rel {c1 c : Cx} (hw : c.w = c1.w) (hL : ∀ b o, c.O b o → c1.O b o) {x : AV} {v : Value} (h : closedA x = true) (hr : Rel c1 x v) : Rel c (normA x) v := by
  unfold closedA at h
  split at h
  · obtain ⟨us, rfl, hus⟩ := hr.agg_inv
    unfold normA
    refine .agg _ _ (by simpa using hus.1) (fun i hi hi' => ?_)
    simp only [List.length_map] at hi
    simp only [List.getElem_map]
    exact closedC_rel hw hL (List.all_eq_true.1 h _ (List.getElem_mem hi)) (hus.2 i hi hi')
  · rename_i hna
    have : normA x = normC x := by unfold normA; split <;> first | rfl | (exact absurd rfl (hna _))
    rw [this]
    exact closedC_rel hw hL h hr

/-! ### The world behind a call that wrote nothing that was there -/
structure Same (w w' : World) : Prop where
  size : w.heap.size ≤ w'.heap.size
  old : ∀ b, b < w.heap.size → w'.heap[b]? = w.heap[b]?
  os : w'.os = w.os
  tape : w'.tape = w.tape
  output : w'.output = w.output

theorem ext_same {c : Cx} {w' : World} (h : Same c.w w') : Ext c (c.at_ w') :=
  ⟨fun _ h => h, fun _ _ => rfl, fun _ _ => rfl, h.size, fun _ _ => Iff.rfl, fun _ _ h => h, fun b hb _ => h.old b hb, fun _ h => .inl h, fun _ _ h => h, fun b _ _ hb => World.cell?_of_block (h.old b hb), fun _ _ h => .inl h, h.os, h.tape, h.output⟩

theorem after_same {lo fresh : Nat} {M : MM} {c : Cx} {w' : World} (hS : Sim lo M c) (h : Same c.w w') : After lo fresh M c M (c.at_ w') where
  ext := ext_same h
  nx := Nat.le_refl _
  ids _ h := .inl h
  sim :=
    { dom := hS.dom
      nx := hS.nx
      lt := fun id hs => Nat.lt_of_lt_of_le (hS.lt id hs) h.size
      live := hS.live
      wlive := hS.wlive
      WL := hS.WL
      Llt := fun b hb => Nat.lt_of_lt_of_le (hS.Llt b hb) h.size
      inj := hS.inj
      blk := fun id B hB => (hS.blk id B hB).ext hS.WL (ext_same h) (hS.dom id (by rw [hB]; simp)) (h.old _ (hS.lt id (hS.dom id (by rw [hB]; simp)))) (fun _ h => h)
      flt := fun b o hb => Nat.lt_of_lt_of_le (hS.flt b o hb) h.size
      frz := hS.frz }

theorem same_of_ext {c c' : Cx} (h : Ext c c') (hW : ∀ b, ¬ c.W b) : Same c.w c'.w := ⟨h.size, fun b hb => h.keep b hb (hW b), h.os, h.tape, h.output⟩

theorem open_of_ext {c c0 c1 : Cx} (hlt : ∀ b, c.L b → b < c.w.heap.size) (h : Ext c0 c1) (hW : ∀ b, ¬ c0.W b) {b o : Nat} (hb : c.O b o) (hL : c0.L = c.L := by rfl) (hF : c0.F = c.F := by rfl) (hs : c0.w = c.w := by rfl) : c1.O b o := by
  have hl := hlt b hb.1
  refine ⟨(h.L b (by rw [hs]; exact hl)).2 (by rw [hL]; exact hb.1), fun hf => ?_⟩
  rcases h.newF b o hf with h1 | h1 | h1
  · exact hb.2 (by rw [← hF]; exact h1)
  · rw [hs] at h1; omega
  · exact hW b h1

section
variable {P : Program} {call : CallT} {mode : FuncId → Mode} {o : Oper}

theorem snap_rel {lo : Nat} {lim : Lm} {M : MM} {c : Cx} (hS : Sim lo M c) {x y : AV} {v : Value} (hr : Rel c x v) (h : snap (look M.mem lim) x = some y) :
    Rel { c with L := fun _ => False, S := fun _ => False } y v ∧ (closedA x = true → Rel { c with S := fun _ => False } y v) := by
  unfold snap at h
  split at h
  · rename_i hc
    simp only [Option.some.injEq] at h; subst h
    exact ⟨closedA_rel (c1 := c) (c := { c with L := fun _ => False, S := fun _ => False }) rfl (fun _ _ h => h.1.elim) hc hr, fun _ => closedA_rel (c1 := c) (c := { c with S := fun _ => False }) rfl (fun _ _ h => h) hc hr⟩
  · rename_i hc
    refine ⟨freezeA_rel (lo := 0) (M1 := ⟨M.nx, look M.mem lim⟩) (c1 := c) (c := { c with L := fun _ => False, S := fun _ => False }) ⟨?_, rfl, fun _ _ h => h.1.elim, fun _ _ _ (h : False) => h.elim, hS.lt, fun _ h => absurd h (Nat.not_lt_zero _), fun _ h => absurd h (Nat.not_lt_zero _), fun _ h => absurd h (Nat.not_lt_zero _)⟩ hr h, fun h' => absurd h' hc⟩
    intro id t cs hm
    exact hS.blk id _ (look_some hm).1

theorem sim_docall (hcall : CallOK P call) {draw : Bool} {lo : Nat} {lim : Lm} {fresh : Nat} {f : FuncId} {args : List AV} {M M' : MM} {r : AV} {c : Cx} {vs : List Value} (hd : docall call mode draw lo lim f args M = some (r, M')) (hS : Sim lo M c)
    (hargs : RelL c args vs) (hloM : lo ≤ M.nx) :
    (∃ fn, P.funcs[f]? = some fn ∧ fn.body.isNone = false ∧ (fn.name == "runtime.NumGoroutine") = false) ∧
      Calls P f vs.toArray c.w fun e w' => ∃ v c', e = .returned v ∧ c'.w = w' ∧ After lo fresh M c M' c' ∧ Rel c' r v := by
  unfold docall at hd
  split at hd
  · -- no memory
    split at hd
    · rename_i args' hsn
      split at hd
      · rename_i r0 M1 hrun
        split at hd
        · rename_i r' hfr
          split at hd
          · rename_i hok
            simp only [Option.some.injEq, Prod.mk.injEq] at hd
            obtain ⟨rfl, rfl⟩ := hd
            obtain ⟨hfn, hk⟩ := hcall _ _ _ _ _ _ hrun
            refine ⟨hfn, ?_⟩
            obtain ⟨hl, hget⟩ := mapM_get hsn
            by_cases hcl : args.all closedA = true
            · -- all that is handed over is closed
              let c0 : Cx := { c with S := fun _ => False, W := fun _ => False }
              have hS0 : Sim 0 ⟨0, fun _ => none⟩ c0 := ⟨fun _ h => absurd rfl h, fun _ h => h.elim, fun _ h => h.elim, fun _ h => absurd rfl h, fun _ h => absurd rfl h, fun _ h => h.elim, hS.Llt, fun _ _ h => absurd rfl h, fun _ _ h => (by cases h), hS.flt, fun _ _ h => (by cases h)⟩
              have hr0 : RelL c0 args' vs := ⟨by rw [← hl]; exact hargs.1, fun j hj hj' => by
                have := (snap_rel hS (hargs.2 j (by omega) hj') (hget j (by omega) hj)).2 (List.all_eq_true.1 hcl _ (List.getElem_mem (by omega)))
                exact Rel.ext (c := { c with S := fun _ => False }) (c' := c0) hS.WL ⟨fun _ h => h, fun _ _ => rfl, fun _ _ => rfl, Nat.le_refl _, fun _ _ => Iff.rfl, fun _ _ h => h.elim, fun _ _ _ => rfl, fun _ h => .inl h, fun _ _ h => h, fun _ _ _ _ => rfl, fun _ _ h => .inl h, rfl, rfl, rfl⟩ this⟩
              refine (hk c0 vs hS0 hr0 (Nat.le_refl _)).mono ?_
              rintro e w' ⟨v, c1, rfl, rfl, ha, hrr⟩
              have hsame : Same c.w c1.w := same_of_ext (c := c0) ha.ext (fun _ h => h)
              refine ⟨v, c.at_ c1.w, rfl, rfl, after_same hS hsame, freeze_rel (lo := 0) (M1 := M1) (c1 := c1) (c := c.at_ c1.w) ⟨fun id t cs hm => ha.sim.blk id _ hm, rfl, fun b o hb => open_of_ext hS.Llt ha.ext (fun _ h => h) hb, fun id _ hs => ?_, ha.sim.lt, fun _ h => by omega, fun _ h => by omega, fun _ h => by omega⟩ hrr hfr⟩
              rcases ha.ext.new id hs with h | h | h
              · exact h.elim
              · exact fun hb => by have := hS.Llt _ hb; have h' : c.w.heap.size ≤ c1.E.blk id := h; omega
              · exact h.elim
            · -- something was read out of memory: what comes back is plain
              have hsc : scalT r' = true := by
                rcases Bool.or_eq_true _ _ ▸ hok with h | h
                · exact absurd h hcl
                · exact h
              let c0 : Cx := { c with S := fun _ => False, L := fun _ => False, W := fun _ => False }
              have hS0 : Sim 0 ⟨0, fun _ => none⟩ c0 := ⟨fun _ h => absurd rfl h, fun _ h => h.elim, fun _ h => h.elim, fun _ h => absurd rfl h, fun _ h => absurd rfl h, fun _ h => h.elim, fun _ h => h.elim, fun _ _ h => absurd rfl h, fun _ _ h => (by cases h), hS.flt, fun _ _ h => (by cases h)⟩
              have hr0 : RelL c0 args' vs := ⟨by rw [← hl]; exact hargs.1, fun j hj hj' => by
                have := (snap_rel hS (hargs.2 j (by omega) hj') (hget j (by omega) hj)).1
                have hd : ∀ {x : AV} {v : Value}, Rel { c with L := fun _ => False, S := fun _ => False } x v → Rel c0 x v := by
                  intro x v h
                  induction h with
                  | d x v h => exact .d x v h
                  | ptr id off h => exact h.elim
                  | ip ad cells f hs hb hL hc hr => exact .ip ad cells f hs hb hL hc hr
                  | os id off len sz k h => exact h.elim
                  | ov id cells n sz k f h => exact h.elim
                  | mp id h => exact h.elim
                  | fn f as bs us vs h1 h2 _ _ i1 i2 => exact .fn f as bs us vs h1 h2 i1 i2
                  | agg as us h1 _ i1 => exact .agg as us h1 i1
                  | tup as us h1 _ i1 => exact .tup as us h1 i1
                exact hd this⟩
              refine (hk c0 vs hS0 hr0 (Nat.le_refl _)).mono ?_
              rintro e w' ⟨v, c1, rfl, rfl, ha, hrr⟩
              have hsame : Same c.w c1.w := same_of_ext (c := c0) ha.ext (fun _ h => h)
              refine ⟨v, c.at_ c1.w, rfl, rfl, after_same hS hsame, ?_⟩
              have hfz : Rel { c0 with w := c1.w } r' v := freeze_rel (lo := 0) (M1 := M1) (c1 := c1) (c := { c0 with w := c1.w }) ⟨fun id t cs hm => ha.sim.blk id _ hm, rfl, fun b o hb => hb.1.elim, fun id _ hs (h : False) => h.elim, ha.sim.lt, fun _ h => by omega, fun _ h => by omega, fun _ h => by omega⟩ hrr hfr
              exact scalT_rel hsc hfz
          · cases hd
        · cases hd
      · cases hd
    · cases hd
  · -- memory that is read alone
    split at hd
    · rename_i r0 M1 hrun
      obtain ⟨r', hfr, hh⟩ := Option.map_eq_some_iff.1 hd
      simp only [Prod.mk.injEq] at hh
      obtain ⟨rfl, rfl⟩ := hh
      obtain ⟨hfn, hk⟩ := hcall _ _ _ _ _ _ hrun
      refine ⟨hfn, ?_⟩
      let c0 : Cx := { c with W := fun _ => False }
      have hsub : ∀ id, look M.mem lim id ≠ none → M.mem id ≠ none := fun id h => by
        unfold look at h; split at h
        · exact h
        · exact absurd rfl h
      have conv : ∀ {x : AV} {v : Value}, Rel c x v → Rel c0 x v := fun h => h.ext (c' := c0) hS.WL ⟨fun _ h => h, fun _ _ => rfl, fun _ _ => rfl, Nat.le_refl _, fun _ _ => Iff.rfl, fun _ _ h => h.elim, fun _ _ _ => rfl, fun _ h => .inl h, fun _ _ h => h, fun _ _ _ _ => rfl, fun _ _ h => .inl h, rfl, rfl, rfl⟩
      have hS0 : Sim M.nx ⟨M.nx, look M.mem lim⟩ c0 :=
        ⟨fun id h => hS.dom id (hsub id h), hS.nx, hS.lt, fun id h => hS.live id (hsub id h), fun id h hl => by have := hS.nx id (hS.dom id (hsub id h)); omega, fun _ h => h.elim, hS.Llt, fun i j hi hj => hS.inj i j (hsub i hi) (hsub j hj),
          fun id B hB => (hS.blk id B (look_some hB).1).ext (c' := c0) hS.WL ⟨fun _ h => h, fun _ _ => rfl, fun _ _ => rfl, Nat.le_refl _, fun _ _ => Iff.rfl, fun _ _ h => h.elim, fun _ _ _ => rfl, fun _ h => .inl h, fun _ _ h => h, fun _ _ _ _ => rfl, fun _ _ h => .inl h, rfl, rfl, rfl⟩ (hS.dom id (by rw [(look_some hB).1]; simp)) rfl (fun _ h => h), hS.flt, fun id B hB => hS.frz id B (look_some hB).1⟩
      have hr0 : RelL c0 args vs := ⟨hargs.1, fun j hj hj' => conv (hargs.2 j hj hj')⟩
      refine (hk c0 vs hS0 hr0 (Nat.le_refl _)).mono ?_
      rintro e w' ⟨v, c1, rfl, rfl, ha, hrr⟩
      have hsame : Same c.w c1.w := same_of_ext (c := c0) ha.ext (fun _ h => h)
      have hold : ∀ id, id < M.nx → c1.S id → c.S id := fun id hlt hs => by
        rcases ha.ids id hs with h | h | h
        · exact h
        · have h' : id = M.nx := h; omega
        · have h' : M.nx ≤ id := h; omega
      refine ⟨v, c.at_ c1.w, rfl, rfl, after_same hS hsame, freeze_rel (lo := M.nx) (M1 := M1) (c1 := c1) (c := c.at_ c1.w) ⟨fun id t cs hm => ha.sim.blk id _ hm, rfl, fun b o hb => open_of_ext hS.Llt ha.ext (fun _ h => h) hb, fun id hid hs => ?_, ha.sim.lt, hold, fun id hlt hs => ha.ext.blk id (hold id hlt hs), fun id hlt hs => ha.ext.tot id (hold id hlt hs)⟩ hrr hfr⟩
      rcases ha.ext.new id hs with h | h | h
      · have := hS.nx id h; omega
      · exact fun hb => by have := hS.Llt _ hb; have h' : c.w.heap.size ≤ c1.E.blk id := h; omega
      · exact h.elim
    · cases hd
  · -- the caller's own memory
    have plain : ∀ {M' : MM}, call f args lo M = some (r, M') → (∃ fn, P.funcs[f]? = some fn ∧ fn.body.isNone = false ∧ (fn.name == "runtime.NumGoroutine") = false) ∧
        Calls P f vs.toArray c.w fun e w' => ∃ v c', e = .returned v ∧ c'.w = w' ∧ After lo fresh M c M' c' ∧ Rel c' r v := fun hd' => by
      obtain ⟨hfn, hk⟩ := hcall _ _ _ _ _ _ hd'
      refine ⟨hfn, (hk c vs hS hargs hloM).mono ?_⟩
      rintro e w' ⟨v, c1, rfl, rfl, ha, hrr⟩
      exact ⟨v, c1, rfl, rfl, ⟨ha.sim, ha.ext, ha.nx, fun id hs => by
        rcases ha.ids id hs with h | h | h
        · exact .inl h
        · exact .inr (.inr (by omega))
        · exact .inr (.inr h)⟩, hrr⟩
    split at hd
    · unfold rwD at hd
      split at hd
      · rename_i r0 M0 h0
        split at hd
        · rename_i hle
          simp only [Option.some.injEq, Prod.mk.injEq] at hd
          obtain ⟨rfl, rfl⟩ := hd
          obtain ⟨hfn, hk⟩ := hcall _ _ _ _ _ _ h0
          let c0 : Cx := { c with W := fun b => c.W b ∧ ∀ id, hid lim id = true → M.mem id ≠ none → c.E.blk id ≠ b }
          have e0 : Ext c c0 := ⟨fun _ h => h, fun _ _ => rfl, fun _ _ => rfl, Nat.le_refl _, fun _ _ => Iff.rfl, fun _ _ h => h.1, fun _ _ _ => rfl, fun _ h => .inl h, fun _ _ h => h, fun _ _ _ _ => rfl, fun _ _ h => .inl h, rfl, rfl, rfl⟩
          have hh : ∀ id, hideM lim M.mem id ≠ none → hid lim id = false ∧ M.mem id ≠ none := fun id h => by
            unfold hideM at h
            split at h
            · exact absurd rfl h
            · rename_i h1; exact ⟨by simpa using h1, h⟩
          have hmem : ∀ id B, hideM lim M.mem id = some B → M.mem id = some B := fun id B h => by
            unfold hideM at h
            split at h
            · cases h
            · exact h
          have hS0 : Sim lo ⟨M.nx, hideM lim M.mem⟩ c0 :=
            { dom := fun id h => hS.dom id (hh id h).2
              nx := hS.nx
              lt := hS.lt
              live := fun id h => hS.live id (hh id h).2
              wlive := fun id h hl => ⟨hS.wlive id (hh id h).2 hl, fun i hi hm e => by
                have := hS.inj i id hm (hh id h).2 e
                subst this
                rw [(hh i h).1] at hi; cases hi⟩
              WL := fun b h => hS.WL b h.1
              Llt := hS.Llt
              inj := fun i j hi hj => hS.inj i j (hh i hi).2 (hh j hj).2
              blk := fun id B h => BRel.ext hS.WL e0 (hS.dom id (by rw [hmem id B h]; simp)) rfl (fun _ h => h) (hS.blk id B (hmem id B h))
              flt := hS.flt
              frz := fun id B h => hS.frz id B (hmem id B h) }
          refine ⟨hfn, (hk c0 vs hS0 (hargs.ext hS.WL e0) hloM).mono ?_⟩
          rintro e w' ⟨v, c1, rfl, rfl, ha, hrr⟩
          have hE := ha.ext
          let c2 : Cx := { c1 with W := fun b => c1.W b ∨ ∃ id, hid lim id = true ∧ M.mem id ≠ none ∧ c.E.blk id = b ∧ c.W b }
          have eR : ∀ {x : AV} {u : Value}, Rel c1 x u → Rel c2 x u := fun h => by
            induction h with
            | d x v h => exact .d _ _ h
            | ptr id off h => exact .ptr (c := c2) id off h
            | ip ad cells f hs hb hL hc hr => exact .ip ad cells f hs hb hL hc hr
            | os id off len sz k h hk hl => exact .os (c := c2) id off len sz k h hk hl
            | ov id cells n sz k f h hb hF hk hl hn hc hr => exact .ov (c := c2) id cells n sz k f h hb hF hk hl hn hc hr
            | mp id h => exact .mp (c := c2) id h
            | fn f as bs us vs h1 h2 r1 r2 i1 i2 => exact .fn f as bs us vs h1 h2 i1 i2
            | agg as us h1 r1 i1 => exact .agg as us h1 i1
            | tup as us h1 r1 i1 => exact .tup as us h1 i1
          have eB : ∀ {id : Nat} {B : Blk}, BRel c1 id B → BRel c2 id B := fun {id B} h => by
            cases B with
            | cells t cs =>
              obtain ⟨vs, h1, h2, h3, h4⟩ := h
              exact ⟨vs, h1, h2, h3, fun j hj hj' => eR (h4 j hj hj')⟩
            | map kk es =>
              obtain ⟨ces, ck, h1, m1, m2, es', p1, h2, h3⟩ := h
              exact ⟨ces, ck, h1, m1, m2, es', p1, h2, fun j hj hj' => ⟨(h3 j hj hj').1, (h3 j hj hj').2.1, eR (h3 j hj hj').2.2⟩⟩
            | siter s pos => exact h
            | tok t u => exact h
          -- what the call did not see is as it was
          have blkE : ∀ id, c.S id → c1.E.blk id = c.E.blk id := fun id h => hE.blk id h
          have noW : ∀ id, hid lim id = true → M.mem id ≠ none → ¬ c0.W (c.E.blk id) := fun id h1 h2 hw => hw.2 id h1 h2 rfl
          have hold : ∀ id B, hid lim id = true → M.mem id = some B → BRel c2 id B ∧ (B.isTok = false → ∀ o, ¬ c1.F (c1.E.blk id) o) := fun id B h1 h2 => by
            have hm : M.mem id ≠ none := by rw [h2]; simp
            have hs := hS.dom id hm
            have hlt := hS.lt id hs
            have nF : ∀ o, c1.F (c.E.blk id) o → c.F (c.E.blk id) o := fun o ho => by
              rcases hE.newF _ _ ho with h | h | h
              · exact h
              · have h' : c.w.heap.size ≤ c.E.blk id := h; omega
              · exact absurd h (noW id h1 hm)
            have b0 : BRel c0 id B := BRel.ext hS.WL e0 hs rfl (fun _ h => h) (hS.blk id B h2)
            have b1 : BRel c1 id B := BRel.ext (c := c0) (fun b h => hS.WL b h.1) hE hs (hE.keep _ hlt (noW id h1 hm)) nF b0
            exact ⟨eB b1, fun ht o ho => hS.frz id B h2 ht o (nF o (by rw [← blkE id hs]; exact ho))⟩
          have new_ : ∀ id, backM lim M.nx M.mem M0.mem id ≠ none → (hid lim id = true ∧ M.mem id ≠ none) ∨ (hid lim id = false ∧ M0.mem id ≠ none ∧ (M.nx ≤ id ∨ M.mem id ≠ none)) := fun id h => by
            unfold backM at h
            split at h
            · rename_i h1; exact .inl ⟨h1, h⟩
            · rename_i h1
              split at h
              · exact absurd rfl h
              · rename_i h2
                refine .inr ⟨by simpa using h1, h, ?_⟩
                simp only [Bool.and_eq_true, Nat.blt_eq, Option.isNone_iff_eq_none, not_and] at h2
                by_cases hl : id < M.nx
                · exact .inr (h2 hl)
                · exact .inl (by omega)
          have val : ∀ id B, backM lim M.nx M.mem M0.mem id = some B → (hid lim id = true ∧ M.mem id = some B) ∨ (hid lim id = false ∧ M0.mem id = some B) := fun id B h => by
            have h0 := h
            unfold backM at h
            split at h
            · rename_i h1; exact .inl ⟨h1, h⟩
            · rename_i h1
              split at h
              · cases h
              · exact .inr ⟨by simpa using h1, h⟩
          -- two blocks, one hidden, one not
          have apart : ∀ i j, hid lim i = true → M.mem i ≠ none → M0.mem j ≠ none → hid lim j = false → (M.nx ≤ j ∨ M.mem j ≠ none) → c1.E.blk i = c1.E.blk j → False := fun i j hi hm hj hjn hjm e => by
            have hs := hS.dom i hm
            rw [blkE i hs] at e
            have hlt := hS.lt i hs
            have hs1 := ha.sim.dom j hj
            rcases hE.new j hs1 with h | h | h
            · have h' : c.S j := h
              rcases hjm with hjm | hjm
              · have := hS.nx j h'; omega
              · rw [blkE j h'] at e
                have := hS.inj i j hm hjm e
                subst this
                rw [hjn] at hi; cases hi
            · have h' : c.w.heap.size ≤ c1.E.blk j := h; omega
            · rw [← e] at h; exact noW i hi hm h
          refine ⟨v, c2, rfl, rfl, ⟨?_, ?_, hle, fun id hs => ?_⟩, eR hrr⟩
          · exact
              { dom := fun id h => by
                  rcases new_ id h with h | h
                  · exact hE.S id (hS.dom id h.2)
                  · exact ha.sim.dom id h.2.1
                nx := fun id h => ha.sim.nx id h
                lt := ha.sim.lt
                live := fun id h => by
                  rcases new_ id h with h | h
                  · have hs := hS.dom id h.2
                    show c1.L (c1.E.blk id)
                    rw [blkE id hs]
                    exact (hE.L _ (hS.lt id hs)).2 (hS.live id h.2)
                  · exact ha.sim.live id h.2.1
                wlive := fun id h hl => by
                  rcases new_ id h with h | h
                  · have hs := hS.dom id h.2
                    refine .inr ⟨id, h.1, h.2, ?_, ?_⟩
                    · exact (blkE id hs).symm
                    · show c.W (c1.E.blk id)
                      rw [blkE id hs]; exact hS.wlive id h.2 hl
                  · exact .inl (ha.sim.wlive id h.2.1 hl)
                WL := fun b h => by
                  rcases h with h | ⟨id, h1, h2, rfl, h4⟩
                  · exact ha.sim.WL b h
                  · exact (hE.L _ (hS.lt id (hS.dom id h2))).2 (hS.WL _ h4)
                Llt := ha.sim.Llt
                inj := fun i j hi hj e => by
                  rcases new_ i hi with hi | hi <;> rcases new_ j hj with hj | hj
                  · have e' : c1.E.blk i = c1.E.blk j := e
                    rw [blkE i (hS.dom i hi.2), blkE j (hS.dom j hj.2)] at e'
                    exact hS.inj i j hi.2 hj.2 e'
                  · exact (apart i j hi.1 hi.2 hj.2.1 hj.1 hj.2.2 e).elim
                  · exact (apart j i hj.1 hj.2 hi.2.1 hi.1 hi.2.2 e.symm).elim
                  · exact ha.sim.inj i j hi.2.1 hj.2.1 e
                blk := fun id B h => by
                  rcases val id B h with h | h
                  · exact (hold id B h.1 h.2).1
                  · exact eB (ha.sim.blk id B h.2)
                flt := ha.sim.flt
                frz := fun id B h => by
                  rcases val id B h with h | h
                  · exact (hold id B h.1 h.2).2
                  · exact ha.sim.frz id B h.2 }
          · exact
              { S := hE.S, blk := hE.blk, tot := hE.tot, size := hE.size, L := hE.L
                W := fun b hb h => by
                  rcases h with h | ⟨_, _, _, _, h⟩
                  · exact (hE.W b hb h).1
                  · exact h
                keep := fun b hb h => hE.keep b hb fun hw => h hw.1
                new := fun i h => (hE.new i h).imp (fun x => x) (Or.imp (fun x => x) And.left)
                F := hE.F, keepF := hE.keepF
                newF := fun b o h => (hE.newF b o h).imp (fun x => x) (Or.imp (fun x => x) And.left)
                os := hE.os, tape := hE.tape, output := hE.output }
          · rcases ha.ids id hs with h | h | h
            · exact .inl h
            · exact .inr (.inr (by have h' : id = M.nx := h; omega))
            · exact .inr (.inr h)
        · cases hd
      · cases hd
    · exact plain hd

theorem callFunc_run {w : World} {f : FuncId} {args : Array Value} {fn : Func} (h1 : P.funcs[f]? = some fn) (h2 : fn.body.isNone = false) (h3 : (fn.name == "runtime.NumGoroutine") = false) : (callFunc f args).run P w = .ok (.enter f args) w := by
  simp only [callFunc, Sem.run_bind, run_program, Result.andThen_ok, h1, h2, h3, Bool.false_eq_true, if_false, Sem.run_pure]

theorem sim_call (hcall : CallOK P call) {cl : Call} (ho : o.op = .call cl) {f : FuncId} (hf : cl.callee = .value (.func f)) {xs : List X} (hx : cl.args.toList.mapM opX = some xs) : OpSim P call mode (.call f xs) o := by
  intro draw lo lim fresh ρ M r M' a c hst hS hF hfr hloM hdraw K Q hK
  have ra := evs_rel hF hx
  simp only [istep] at hst
  obtain ⟨⟨fn, h1, h2, h3⟩, hc⟩ := sim_docall (fresh := fresh) hcall hst hS ra hloM
  have e : (cl.args.map a.eval) = (cl.args.toList.map a.eval).toArray := by apply Array.ext'; simp
  refine wp_enter (f := f) (args := (cl.args.toList.map a.eval).toArray) (w' := c.w) ?_ (hc.mono ?_)
  · have hev : a.eval (.func f) = .func (.func f) #[] #[] := rfl
    simp only [execOp, ho, resolve, hf, hev, Deferred.ofValue, Sem.run_bind, Sem.run_pure, Result.andThen_ok, invoke, Array.empty_append, Array.append_empty, callFunc_run h1 h2 h3, e]
  · rintro e w' ⟨v, c', rfl, rfl, ha, hr⟩
    exact ⟨v, rfl, hK v c' ha hr⟩

theorem sim_callv (hcall : CallOK P call) {cl : Call} (ho : o.op = .call cl) {y : Operand} (hf : cl.callee = .value y) {y' : X} (hy : opX y = some y') {xs : List X} (hx : cl.args.toList.mapM opX = some xs) : OpSim P call mode (.callv y' xs) o := by
  intro draw lo lim fresh ρ M r M' a c hst hS hF hfr hloM hdraw K Q hK
  have ra := evs_rel hF hx
  have ry := ev_rel hF hy
  simp only [istep] at hst
  split at hst
  · rename_i f first cap heq
    rw [heq] at ry
    have hval : ∃ us vs : List Value, a.eval y = .func (.func f) us.toArray vs.toArray ∧ RelL c first us ∧ RelL c cap vs := by
      generalize a.eval y = v at ry
      cases ry with | fn _ _ _ us vs h1 h2 r1 r2 => exact ⟨us, vs, rfl, ⟨h1, r1⟩, ⟨h2, r2⟩⟩
    obtain ⟨us, vs, hv, ru, rv⟩ := hval
    obtain ⟨⟨fn, h1, h2, h3⟩, hc⟩ := sim_docall (fresh := fresh) hcall hst hS ((ru.append ra).append rv) hloM
    have e : us.toArray ++ cl.args.map a.eval ++ vs.toArray = (us ++ cl.args.toList.map a.eval ++ vs).toArray := by apply Array.ext'; simp
    refine wp_enter (f := f) (args := (us ++ cl.args.toList.map a.eval ++ vs).toArray) (w' := c.w) ?_ (hc.mono ?_)
    · simp only [execOp, ho, resolve, hf, hv, Deferred.ofValue, Sem.run_bind, Sem.run_pure, Result.andThen_ok, invoke, callFunc_run h1 h2 h3, e]
    · rintro e w' ⟨v, c', rfl, rfl, ha, hr⟩
      exact ⟨v, rfl, hK v c' ha hr⟩
  · cases hst
end
end Go.Proofs.Ytegkhdflmboljaa.Sx
