/-
  SX, PART Y: OPERATIONS THAT CHANGE PLACES.
-/
import Derived.Test.YtfkjeopbkmoajaaDoorSxX
namespace Go.Proofs.YtfkjeopbkmoajaaDoor.Sx
open Go

section
variable {call : CallT} {mode : FuncId → Mode} {draw : Bool} {lo : Nat} {lim : Lm} {fresh : Nat}

/-! ### A slot that is not read -/
theorem ev_set {ρ : List AV} {d : Nat} {v : AV} {x : X} (h : d ∉ x.slots) : ev (ρ.set d v) x = ev ρ x := by
  cases x with
  | t i =>
    have : d ≠ i := by simpa [X.slots] using h
    simp [ev, List.getD, this]
  | k a => rfl

theorem evs_set {ρ : List AV} {d : Nat} {v : AV} {xs : List X} (h : d ∉ xs.flatMap X.slots) : xs.map (ev (ρ.set d v)) = xs.map (ev ρ) := by
  apply List.map_congr_left
  intro x hx
  exact ev_set (fun hm => h (List.mem_flatMap.2 ⟨x, hx, hm⟩))

theorem parts_set {ρ : List AV} {d : Nat} {v : AV} {ps : List (Nat × Nat × X)} (h : d ∉ ps.flatMap (·.2.2.slots)) : (ps.map fun p => (p.1, p.2.1, ev (ρ.set d v) p.2.2)) = ps.map fun p => (p.1, p.2.1, ev ρ p.2.2) := by
  apply List.map_congr_left
  intro x hx
  rw [ev_set (fun hm => h (List.mem_flatMap.2 ⟨x, hx, hm⟩))]

theorem hi_set {ρ : List AV} {d n : Nat} {v : AV} {x : Option X} (h : d ∉ x.toList.flatMap X.slots) : hiOf (ρ.set d v) n x = hiOf ρ n x := by
  cases x with
  | none => rfl
  | some x => simp only [hiOf]; rw [ev_set (by simpa using h)]

theorem lo_set {ρ : List AV} {d : Nat} {v : AV} {x : Option X} (h : d ∉ x.toList.flatMap X.slots) : loOf (ρ.set d v) x = loOf ρ x := by
  cases x with
  | none => rfl
  | some x => simp only [loOf]; rw [ev_set (by simpa using h)]

theorem istep_set {i : I} {ρ : List AV} {M : MM} {d : Nat} {v : AV} (h : d ∉ i.slots) : istep call mode draw lo lim fresh i (ρ.set d v) M = istep call mode draw lo lim fresh i ρ M := by
  cases i with
  | mov x | box t x | ld1 x | ldn n x | nilc x | un op x | cvi k x | cvs x | b2s x | fad o x | fld o n g x | ext x j | lens x | len x | lenm x => simp only [I.slots] at h; simp only [istep, ev_set h]
  | st n a b | bin op e a b | mkslice t s y z a b | ixs s a b | ixp s l a b | ixv s l g a b | ixc a b | lkp kk cm z a b | mdel kk a b | mmax mx a b | app t s y z a b | vmk t s y z a b | vapp t s y z a b | wmk y z a b | wapp s y a b =>
    simp only [I.slots, List.mem_append, not_or] at h; simp only [istep, ev_set h.1, ev_set h.2]
  | pick a b c | mset kk a b c => simp only [I.slots, List.mem_append, not_or] at h; simp only [istep, ev_set h.1.1, ev_set h.1.2, ev_set h.2]
  | new t cs => rfl
  | mkmap kk => rfl
  | mk z ps => simp only [I.slots] at h; simp only [istep, parts_set h]
  | mksl t n s z ps => simp only [I.slots] at h; simp only [istep, parts_set h]
  | vsl t n s z ps => simp only [I.slots] at h; simp only [istep, parts_set h]
  | wsl n z ps => simp only [I.slots] at h; simp only [istep, parts_set h]
  | mkf f as bs => simp only [I.slots, List.mem_append, not_or] at h; simp only [istep, evs_set h.1, evs_set h.2]
  | slstr x l u => simp only [I.slots, List.mem_append, not_or] at h; simp only [istep, ev_set h.1.1, lo_set h.1.2, hi_set h.2]
  | slsl s x l u => simp only [I.slots, List.mem_append, not_or] at h; simp only [istep, ev_set h.1.1, lo_set h.1.2, hi_set h.2]
  | call f as => simp only [I.slots] at h; simp only [istep, evs_set h]
  | callv x as | callw no x as => simp only [I.slots, List.mem_append, not_or] at h; simp only [istep, ev_set h.1, evs_set h.2]
  | lnew cs => rfl
  | lbox x => simp only [I.slots] at h; simp only [istep, ev_set h]
  | setc o n a b | ld1r a b | ldnr n a b => simp only [I.slots, List.mem_append, not_or] at h; simp only [istep, ev_set h.1, ev_set h.2]
  | callk f as rs =>
    simp only [I.slots, List.mem_append, not_or] at h
    have e : ∀ (m m' : Mem), (rs.all fun x => kept m m' (ev (ρ.set d v) x)) = rs.all fun x => kept m m' (ev ρ x) := fun m m' => by
      rw [Bool.eq_iff_iff, List.all_eq_true, List.all_eq_true]
      refine ⟨fun hh x hx => ?_, fun hh x hx => ?_⟩
      · have := hh x hx; rwa [ev_set (fun hm => h.2 (List.mem_flatMap.2 ⟨x, hx, hm⟩))] at this
      · rw [ev_set (fun hm => h.2 (List.mem_flatMap.2 ⟨x, hx, hm⟩))]; exact hh x hx
    simp only [istep, evs_set h.1, e]
  | bad => rfl

theorem istep_setO {o : Op1} {ρ : List AV} {M : MM} {d : Option Nat} {v : AV} (h : dstFree d o = true) : istep call mode draw lo lim fresh o.i (setO ρ d v) M = istep call mode draw lo lim fresh o.i ρ M := by
  cases d with
  | none => rfl
  | some d =>
    simp only [dstFree, Op1.reads, Bool.and_eq_true, Bool.not_eq_true'] at h
    have : d ∉ o.i.slots := fun hm => by
      have := h.2
      simp [hm] at this
    exact istep_set this

theorem want_setO {o : Op1} {ρ : List AV} {d : Option Nat} {v : AV} (h : dstFree d o = true) : want o.g (setO ρ d v) = want o.g ρ := by
  cases d with
  | none => rfl
  | some d =>
    simp only [dstFree, Op1.reads, Bool.and_eq_true, Bool.not_eq_true'] at h
    cases hg : o.g with
    | none => rfl
    | some g =>
      obtain ⟨s, b⟩ := g
      have hne : d ≠ s := fun e => by
        subst e
        have := h.2
        simp [hg] at this
      simp only [want, setO, List.getElem?_set, hne, if_false]

theorem setO_comm {o : Op1} {ρ : List AV} {d : Option Nat} {v u : AV} (h : dstFree d o = true) : setO (setO ρ d v) o.dst u = setO (setO ρ o.dst u) d v := by
  cases d with
  | none => rfl
  | some d =>
    cases ho : o.dst with
    | none => rfl
    | some e =>
      simp only [dstFree, ho, Bool.and_eq_true] at h
      have hne : e ≠ d := fun e' => by subst e'; simp at h
      simp only [setO]
      rw [List.set_comm _ _ (Ne.symm hne)]

/-! ### What each kind of instruction asks and leaves -/
theorem map_map_fst {α β γ : Type} (x : Option (α × β)) (c : γ) : x.map (fun p => (p.1, c)) = (x.map (·.1)).map (·, c) := by cases x <;> rfl

theorem pure_istep {i : I} (h : kindI mode i = .pure) (ρ : List AV) (M M2 : MM) : istep call mode draw lo lim fresh i ρ M2 = (istep call mode draw lo lim fresh i ρ M).map fun p => (p.1, M2) := by
  cases i <;> simp only [kindI, reduceCtorEq] at h <;> simp only [istep]
  case call f as => cases hm : mode f <;> rw [hm] at h <;> simp only [reduceCtorEq] at h
  all_goals (repeat' split)
  all_goals (try rfl)
  all_goals (simp only [Option.map_map]; rfl)

theorem read_istep {i : I} (h : kindI mode i = .read) (ρ : List AV) (M M2 : MM) (hl : look M2.mem lim = look M.mem lim) (hn : M2.nx = M.nx) :
    istep call mode draw lo lim fresh i ρ M2 = (istep call mode draw lo lim fresh i ρ M).map fun p => (p.1, M2) := by
  have hl' : ∀ id, look M2.mem lim id = look M.mem lim id := fun id => congrFun hl id
  cases i <;> simp only [kindI, reduceCtorEq] at h <;> simp only [istep, hl']
  case ld1r r a =>
    have e : ld1I M2.mem lim (ev ρ a) = ld1I M.mem lim (ev ρ a) := by
      generalize ev ρ a = y
      cases y <;> simp only [ld1I, hl']
    rw [e]; split
    · rw [Option.map_map]; rfl
    · rfl
  case ldnr n r a =>
    have e : ldnI M2.mem lim n (ev ρ a) = ldnI M.mem lim n (ev ρ a) := by
      generalize ev ρ a = y
      cases y <;> simp only [ldnI, hl']
    rw [e]; split
    · rw [Option.map_map]; rfl
    · rfl
  case b2s x =>
    have e : sliceCells M2.mem lim 1 (ev ρ x) = sliceCells M.mem lim 1 (ev ρ x) := by
      generalize ev ρ x = y
      cases y <;> simp only [sliceCells, hl']
    rw [e]
    split
    · simp only [Option.map_map]; rfl
    · rfl
  case call f as =>
    cases hm : mode f <;> rw [hm] at h <;> simp only [reduceCtorEq] at h <;> simp only [docall, hm, hl, hn]
    all_goals (repeat' split)
    all_goals (try rfl)
    all_goals (simp_all [Function.comp_def])
  all_goals (repeat' split)
  all_goals (try rfl)
  all_goals (simp_all [Function.comp_def])

theorem make_istep {i : I} (h : kindI mode i = .make) (ρ : List AV) : ∃ q : Option (AV × Blk), ∀ M, istep call mode draw lo lim fresh i ρ M = q.map fun p => (p.1, M.alloc fresh p.2) := by
  cases i <;> simp only [kindI, reduceCtorEq] at h <;> simp only [istep]
  case new t cs => exact ⟨some (.ptr fresh 0, .cells t cs), fun M => rfl⟩
  case box t x =>
    split
    · exact ⟨none, fun M => rfl⟩
    · rename_i a _; exact ⟨some (.ptr fresh 0, .cells t (ev ρ x).cells), fun M => rfl⟩
  case mksl t n s z ps => exact ⟨(fill z (ps.map fun p => (p.1, p.2.1, ev ρ p.2.2))).map fun cs => (.os fresh 0 n s, .cells t cs), fun M => by rw [Option.map_map]; rfl⟩
  case mkmap kk => exact ⟨some (.mp fresh, .map kk []), fun M => rfl⟩
  case mkslice t s b z l c =>
    split
    · rename_i l' c' _ _
      split
      · exact ⟨some (.os fresh 0 l'.toNat s, .cells t ((List.replicate l'.toNat z).flatten)), fun M => rfl⟩
      · exact ⟨none, fun M => rfl⟩
    · exact ⟨none, fun M => rfl⟩
  case vsl t n s z ps =>
    cases fill z (ps.map fun p => (p.1, p.2.1, ev ρ p.2.2)) with
    | none => exact ⟨none, fun M => rfl⟩
    | some cs => exact ⟨(cs.mapM toD).map fun ds => (.ov fresh ds n s, .tok t (n * s)), fun M => by rw [Option.map_map]; rfl⟩
  case vmk t s b z l c =>
    split
    · rename_i l' c' _ _
      split
      · exact ⟨(((List.replicate l'.toNat z).flatten).mapM toD).map fun ds => (.ov fresh ds l'.toNat s, .tok t (l'.toNat * s)), fun M => by rw [Option.map_map]; rfl⟩
      · exact ⟨none, fun M => rfl⟩
    · exact ⟨none, fun M => rfl⟩
  case call f as => cases hm : mode f <;> rw [hm] at h <;> simp only [reduceCtorEq] at h

theorem store_istep {i : I} (h : kindI mode i = .store) {ρ : List AV} {M M' : MM} {r : AV} (hs : istep call mode draw lo lim fresh i ρ M = some (r, M')) :
    ∃ id b, lim.ok id = true ∧ M' = M.put id b ∧ ∀ M2, look M2.mem lim id = look M.mem lim id → istep call mode draw lo lim fresh i ρ M2 = some (r, M2.put id b) := by
  cases i <;> simp only [kindI, reduceCtorEq] at h
  case st n a x =>
    simp only [istep] at hs
    split at hs
    · rename_i id off heq
      split at hs
      · rename_i t cs hlk
        split at hs
        · rename_i hc
          simp only [Option.some.injEq, Prod.mk.injEq] at hs
          obtain ⟨rfl, rfl⟩ := hs
          refine ⟨id, _, (look_some hlk).2, rfl, fun M2 h2 => ?_⟩
          simp only [istep, heq, h2, hlk, if_pos hc]
        · cases hs
      · cases hs
    · cases hs
  case call f as => cases hm : mode f <;> rw [hm] at h <;> simp only [reduceCtorEq] at h

theorem upd_comm {m : Mem} {i j : Nat} {a b : Option Blk} (h : i ≠ j) : upd (upd m i a) j b = upd (upd m j b) i a := by
  funext k
  simp only [upd]
  by_cases h1 : k = j <;> by_cases h2 : k = i <;> simp_all

theorem look_upd {m : Mem} {lim : Lm} {f : Nat} {b : Option Blk} (h : lim.ok f = false) : look (upd m f b) lim = look m lim := by
  funext k
  unfold look upd
  split
  · rename_i hk
    rw [if_neg (fun e => by rw [e, h] at hk; cases hk)]
  · rfl

theorem eqV_eq {x y : Value} (h : eqV x y = true) : x = y := by
  unfold eqV at h
  split at h <;> simp_all
  exact ByteArray.ext h

mutual
theorem eqD_eq : ∀ (x y : D), eqD x y = true → x = y
  | .v x, .v y, h => by simp only [eqD] at h; rw [eqV_eq h]
  | .sl cs n, .sl ds m, h => by
    simp only [eqD, Bool.and_eq_true, beq_iff_eq] at h
    rw [eqDs_eq cs ds h.1, h.2]
  | .v _, .sl _ _, h => by simp [eqD] at h
  | .sl _ _, .v _, h => by simp [eqD] at h
theorem eqDs_eq : ∀ (xs ys : List D), eqDs xs ys = true → xs = ys
  | [], [], _ => rfl
  | x :: xs, y :: ys, h => by
    simp only [eqDs, Bool.and_eq_true] at h
    rw [eqD_eq x y h.1, eqDs_eq xs ys h.2]
  | [], _ :: _, h => by simp [eqDs] at h
  | _ :: _, [], h => by simp [eqDs] at h
end

mutual
theorem eqA_eq : ∀ (x y : AV), eqA x y = true → x = y
  | .d x, y, h => by cases y <;> simp [eqA] at h; rw [eqD_eq _ _ h]
  | .ptr a b, y, h => by cases y <;> simp_all [eqA]
  | .ip xs, y, h => by cases y <;> simp [eqA] at h; rw [eqDs_eq _ _ h]
  | .os a b c d, y, h => by cases y <;> simp_all [eqA]
  | .ov a xs n s, y, h => by
    cases y <;> simp only [eqA, Bool.false_eq_true, Bool.and_eq_true, beq_iff_eq] at h
    rw [h.1.1.1, eqDs_eq _ _ h.1.1.2, h.1.2, h.2]
  | .mp a, y, h => by cases y <;> simp_all [eqA]
  | .fn f as bs, y, h => by
    cases y <;> simp only [eqA, Bool.false_eq_true, Bool.and_eq_true, beq_iff_eq] at h
    rw [h.1.1, eqAs_eq _ _ h.1.2, eqAs_eq _ _ h.2]
  | .agg xs, y, h => by cases y <;> simp only [eqA, Bool.false_eq_true] at h; rw [eqAs_eq _ _ h]
  | .tup xs, y, h => by cases y <;> simp only [eqA, Bool.false_eq_true] at h; rw [eqAs_eq _ _ h]
theorem eqAs_eq : ∀ (xs ys : List AV), eqAs xs ys = true → xs = ys
  | [], [], _ => rfl
  | x :: xs, y :: ys, h => by
    simp only [eqAs, Bool.and_eq_true] at h
    rw [eqA_eq x y h.1, eqAs_eq xs ys h.2]
  | [], _ :: _, h => by simp [eqAs] at h
  | _ :: _, [], h => by simp [eqAs] at h
end

theorem eqB_eq {x y : Option Blk} (h : eqB x y = true) : x = y := by
  unfold eqB at h
  split at h
  · simp only [Bool.and_eq_true, beq_iff_eq] at h
    rw [h.1, eqAs_eq _ _ h.2]
  · cases h

theorem kept_eq {m m' : Mem} {r : AV} {i : Nat} (h : kept m m' r = true) (hi : idOf r = some i) : m' i = m i := by
  unfold kept at h
  split at h
  · simp [idOf] at hi
  · cases h
  · rw [hi] at h; exact (eqB_eq h).symm

theorem hasT_mem {n : Nat} : ∀ {l : List X}, hasT n l = true → X.t n ∈ l
  | [], h => by simp [hasT] at h
  | .t m :: l, h => by
    simp only [hasT, Bool.or_eq_true, Nat.beq_eq] at h
    rcases h with h | h
    · rw [h]; simp
    · exact List.mem_cons_of_mem _ (hasT_mem h)
  | .k _ :: l, h => List.mem_cons_of_mem _ (hasT_mem (by simpa [hasT] using h))

theorem root_ld1 {m m' : Mem} {r a : AV} {lim : Lm} (h : okRoot r a = true) (hk : ∀ i, idOf r = some i → m' i = m i) : ld1I m' lim a = ld1I m lim a := by
  cases a with
  | ptr j off =>
    have := hk j (by simpa [okRoot] using h)
    simp only [ld1I, look, this]
  | _ => rfl
theorem root_ldn {m m' : Mem} {r a : AV} {lim : Lm} {n : Nat} (h : okRoot r a = true) (hk : ∀ i, idOf r = some i → m' i = m i) : ldnI m' lim n a = ldnI m lim n a := by
  cases a with
  | ptr j off =>
    have := hk j (by simpa [okRoot] using h)
    simp only [ldnI, look, this]
  | _ => rfl

/-- A load that leads to what 'r' leads to. -/
theorem rload_istep {i : I} {n : Nat} {ρ : List AV} {M M' : MM} {v : AV} {f1 : Nat} (hi : (∃ a, i = .ld1r (.t n) a) ∨ ∃ m a, i = .ldnr m (.t n) a) (h : istep call mode draw lo lim f1 i ρ M = some (v, M')) :
    M' = M ∧ ∀ M2 : MM, (∀ j, idOf (ev ρ (.t n)) = some j → M2.mem j = M.mem j) → istep call mode draw lo lim f1 i ρ M2 = some (v, M2) := by
  rcases hi with ⟨a, rfl⟩ | ⟨m, a, rfl⟩
  · simp only [istep] at h
    split at h
    · rename_i hr
      obtain ⟨x, hx, he⟩ := Option.map_eq_some_iff.1 h
      simp only [Prod.mk.injEq] at he
      refine ⟨he.2.symm, fun M2 hk => ?_⟩
      simp only [istep, hr, if_true, root_ld1 hr hk, hx, Option.map_some, he.1]
    · cases h
  · simp only [istep] at h
    split at h
    · rename_i hr
      obtain ⟨x, hx, he⟩ := Option.map_eq_some_iff.1 h
      simp only [Prod.mk.injEq] at he
      refine ⟨he.2.symm, fun M2 hk => ?_⟩
      simp only [istep, hr, if_true, root_ldn hr hk, hx, Option.map_some, he.1]
    · cases h

theorem callk_istep {f : FuncId} {args roots : List X} {n : Nat} {ρ : List AV} {M M' : MM} {v : AV} {f1 : Nat} (h : istep call mode draw lo lim f1 (.callk f args roots) ρ M = some (v, M')) (hn : hasT n roots = true) :
    ∀ j, idOf (ev ρ (.t n)) = some j → M'.mem j = M.mem j := by
  intro j hj
  simp only [istep] at h
  split at h
  · split at h
    · rename_i hk
      simp only [Option.some.injEq, Prod.mk.injEq] at h
      obtain ⟨-, rfl⟩ := h
      exact kept_eq (List.all_eq_true.1 hk _ (hasT_mem hn)) hj
    · cases h
  · cases h

theorem swap_roots {ia ib : I} {ρ : List AV} {M Ma Mab : MM} {va vb : AV} {f1 f2 : Nat} {l1 l2 : Lm} (hk : rootsOK ia ib = true)
    (ha : istep call mode draw lo l1 f1 ia ρ M = some (va, Ma)) (hb : istep call mode draw lo l2 f2 ib ρ Ma = some (vb, Mab)) :
    ∃ Mb, istep call mode draw lo l2 f2 ib ρ M = some (vb, Mb) ∧ istep call mode draw lo l1 f1 ia ρ Mb = some (va, Mab) := by
  unfold rootsOK at hk
  split at hk
  · obtain ⟨rfl, h⟩ := rload_istep (.inl ⟨_, rfl⟩) ha
    exact ⟨Mab, hb, h Mab (callk_istep hb hk)⟩
  · obtain ⟨rfl, h⟩ := rload_istep (.inr ⟨_, _, rfl⟩) ha
    exact ⟨Mab, hb, h Mab (callk_istep hb hk)⟩
  · obtain ⟨rfl, h⟩ := rload_istep (.inl ⟨_, rfl⟩) hb
    exact ⟨M, h M (fun j hj => (callk_istep ha hk j hj).symm), ha⟩
  · obtain ⟨rfl, h⟩ := rload_istep (.inr ⟨_, _, rfl⟩) hb
    exact ⟨M, h M (fun j hj => (callk_istep ha hk j hj).symm), ha⟩
  · cases hk

/-- Two instructions that may change places: memory. -/
theorem swap_mem {ia ib : I} {ρ : List AV} {M Ma Mab : MM} {va vb : AV} {f1 f2 : Nat} (hk : kindsOK (kindI mode ia) (kindI mode ib) = true) {l1 l2 : Lm} (h1 : kindI mode ia = .make → l2.ok f1 = false) (h1' : f1 < M.nx) (h2 : kindI mode ib = .make → l1.ok f2 = false) (h2' : f2 < M.nx) (hne : f1 ≠ f2)
    (ha : istep call mode draw lo l1 f1 ia ρ M = some (va, Ma)) (hb : istep call mode draw lo l2 f2 ib ρ Ma = some (vb, Mab)) :
    ∃ Mb, istep call mode draw lo l2 f2 ib ρ M = some (vb, Mb) ∧ istep call mode draw lo l1 f1 ia ρ Mb = some (va, Mab) := by
  have pureA : kindI mode ia = .pure → Ma = M ∧ ∀ M2, istep call mode draw lo l1 f1 ia ρ M2 = some (va, M2) := fun h => by
    have e := pure_istep (call := call) (draw := draw) (lo := lo) (lim := l1) (fresh := f1) h ρ M M
    rw [ha] at e
    simp only [Option.map_some, Option.some.injEq, Prod.mk.injEq, true_and] at e
    exact ⟨e, fun M2 => by rw [pure_istep h ρ M M2, ha]; rfl⟩
  have readA : kindI mode ia = .read → Ma = M ∧ ∀ M2, look M2.mem l1 = look M.mem l1 → M2.nx = M.nx → istep call mode draw lo l1 f1 ia ρ M2 = some (va, M2) := fun h => by
    have e := read_istep (call := call) (draw := draw) (lo := lo) (lim := l1) (fresh := f1) h ρ M M rfl rfl
    rw [ha] at e
    simp only [Option.map_some, Option.some.injEq, Prod.mk.injEq, true_and] at e
    exact ⟨e, fun M2 q1 q2 => by rw [read_istep h ρ M M2 q1 q2, ha]; rfl⟩
  have makeA : kindI mode ia = .make → ∃ b, Ma = M.alloc f1 b ∧ ∀ M2, istep call mode draw lo l1 f1 ia ρ M2 = some (va, M2.alloc f1 b) := fun h => by
    obtain ⟨q, hq⟩ := make_istep (call := call) (draw := draw) (lo := lo) (lim := l1) (fresh := f1) h ρ
    rw [hq M] at ha
    obtain ⟨p, rfl, hp⟩ := Option.map_eq_some_iff.1 ha
    simp only [Prod.mk.injEq] at hp
    obtain ⟨rfl, rfl⟩ := hp
    exact ⟨p.2, rfl, fun M2 => by rw [hq M2]; rfl⟩
  have nxalloc : ∀ (M : MM) (f : Nat) b, f < M.nx → (M.alloc f b).nx = M.nx := fun M f b h => by simp only [MM.alloc]; omega
  cases hka : kindI mode ia with
  | pure =>
    obtain ⟨rfl, e⟩ := pureA hka
    exact ⟨Mab, hb, e _⟩
  | read =>
    obtain ⟨rfl, e⟩ := readA hka
    cases hkb : kindI mode ib with
    | pure =>
      have q := pure_istep (call := call) (draw := draw) (lo := lo) (lim := l2) (fresh := f2) hkb ρ Ma Ma
      rw [hb] at q
      simp only [Option.map_some, Option.some.injEq, Prod.mk.injEq, true_and] at q
      subst q
      exact ⟨_, hb, ha⟩
    | read =>
      have q := read_istep (call := call) (draw := draw) (lo := lo) (lim := l2) (fresh := f2) hkb ρ Ma Ma rfl rfl
      rw [hb] at q
      simp only [Option.map_some, Option.some.injEq, Prod.mk.injEq, true_and] at q
      subst q
      exact ⟨_, hb, ha⟩
    | make =>
      obtain ⟨q, hq⟩ := make_istep (call := call) (draw := draw) (lo := lo) (lim := l2) (fresh := f2) hkb ρ
      have hb' := hb
      rw [hq Ma] at hb'
      obtain ⟨p, rfl, hp⟩ := Option.map_eq_some_iff.1 hb'
      simp only [Prod.mk.injEq] at hp
      obtain ⟨rfl, rfl⟩ := hp
      exact ⟨_, hb, e _ (look_upd (h2 hkb)) (nxalloc _ _ _ h2')⟩
    | store => rw [hka, hkb] at hk; cases hk
    | write => rw [hka, hkb] at hk; cases hk
  | make =>
    obtain ⟨b1, rfl, e⟩ := makeA hka
    cases hkb : kindI mode ib with
    | pure =>
      have q := pure_istep (call := call) (draw := draw) (lo := lo) (lim := l2) (fresh := f2) hkb ρ (M.alloc f1 b1)
      have q1 := q (M.alloc f1 b1)
      rw [hb] at q1
      simp only [Option.map_some, Option.some.injEq, Prod.mk.injEq, true_and] at q1
      have q2 := q M
      rw [hb] at q2
      exact ⟨M, q2, by rw [e M, q1]⟩
    | read =>
      have hl : look M.mem l2 = look (M.alloc f1 b1).mem l2 := (look_upd (h1 hka)).symm
      have q2 := read_istep (call := call) (draw := draw) (lo := lo) (lim := l2) (fresh := f2) hkb ρ (M.alloc f1 b1) M hl (nxalloc _ _ _ h1').symm
      have q1 := read_istep (call := call) (draw := draw) (lo := lo) (lim := l2) (fresh := f2) hkb ρ (M.alloc f1 b1) (M.alloc f1 b1) rfl rfl
      rw [hb] at q1 q2
      simp only [Option.map_some, Option.some.injEq, Prod.mk.injEq, true_and] at q1
      exact ⟨M, q2, by rw [e M, q1]⟩
    | make =>
      obtain ⟨q, hq⟩ := make_istep (call := call) (draw := draw) (lo := lo) (lim := l2) (fresh := f2) hkb ρ
      rw [hq] at hb
      obtain ⟨p, rfl, hp⟩ := Option.map_eq_some_iff.1 hb
      simp only [Prod.mk.injEq] at hp
      obtain ⟨rfl, rfl⟩ := hp
      refine ⟨M.alloc f2 p.2, by rw [hq]; rfl, ?_⟩
      rw [e]
      simp only [MM.alloc, upd_comm hne, Option.some.injEq, Prod.mk.injEq, MM.mk.injEq, true_and, and_true]
      omega
    | store =>
      obtain ⟨id, b2, g1, rfl, g3⟩ := store_istep hkb hb
      have hid : id ≠ f1 := fun e => by rw [e, h1 hka] at g1; cases g1
      refine ⟨M.put id b2, g3 M ?_, ?_⟩
      · exact congrFun (look_upd (h1 hka)).symm id
      · rw [e]
        simp only [MM.alloc, MM.put, upd_comm hid]
    | write => rw [hka, hkb] at hk; cases hk
  | store =>
    obtain ⟨id, b1, g1, rfl, g3⟩ := store_istep hka ha
    cases hkb : kindI mode ib with
    | pure =>
      have q := pure_istep (call := call) (draw := draw) (lo := lo) (lim := l2) (fresh := f2) hkb ρ (M.put id b1)
      have q1 := q (M.put id b1)
      rw [hb] at q1
      simp only [Option.map_some, Option.some.injEq, Prod.mk.injEq, true_and] at q1
      have q2 := q M
      rw [hb] at q2
      exact ⟨M, q2, by rw [ha, q1]⟩
    | make =>
      obtain ⟨q, hq⟩ := make_istep (call := call) (draw := draw) (lo := lo) (lim := l2) (fresh := f2) hkb ρ
      rw [hq] at hb
      obtain ⟨p, rfl, hp⟩ := Option.map_eq_some_iff.1 hb
      simp only [Prod.mk.injEq] at hp
      obtain ⟨rfl, rfl⟩ := hp
      have hid : id ≠ f2 := fun e => by rw [e, h2 hkb] at g1; cases g1
      refine ⟨M.alloc f2 p.2, by rw [hq]; rfl, ?_⟩
      rw [g3 _ (congrFun (look_upd (h2 hkb)) id)]
      simp only [MM.alloc, MM.put, upd_comm hid]
    | read => rw [hka, hkb] at hk; cases hk
    | store => rw [hka, hkb] at hk; cases hk
    | write => rw [hka, hkb] at hk; cases hk
  | write =>
    cases hkb : kindI mode ib with
    | pure =>
      have q := pure_istep (call := call) (draw := draw) (lo := lo) (lim := l2) (fresh := f2) hkb ρ Ma
      have q1 := q Ma
      rw [hb] at q1
      simp only [Option.map_some, Option.some.injEq, Prod.mk.injEq, true_and] at q1
      have q2 := q M
      rw [hb] at q2
      exact ⟨M, q2, by rw [ha, q1]⟩
    | read => rw [hka, hkb] at hk; cases hk
    | make => rw [hka, hkb] at hk; cases hk
    | store => rw [hka, hkb] at hk; cases hk
    | write => rw [hka, hkb] at hk; cases hk

/-- .. and frames. -/
theorem swap_step {a b : Op1} {s s1 s2 : St} {f1 f2 : Nat} (hab : swapOK mode a b = true) {l1 l2 : Lm} (h1 : kindI mode a.i = .make → l2.ok f1 = false) (h1' : f1 < s.M.nx) (h2 : kindI mode b.i = .make → l1.ok f2 = false) (h2' : f2 < s.M.nx) (hne : f1 ≠ f2)
    (ha : step1 call mode draw lo l1 f1 a s = some s1) (hb : step1 call mode draw lo l2 f2 b s1 = some s2) :
    ∃ s1', step1 call mode draw lo l2 f2 b s = some s1' ∧ step1 call mode draw lo l1 f1 a s1' = some s2 := by
  simp only [swapOK, Bool.and_eq_true] at hab
  obtain ⟨⟨hda, hdb⟩, hk⟩ := hab
  obtain ⟨ρ, M⟩ := s
  unfold step1 at ha
  split at ha
  · cases ha
  · rename_i hwa
    simp only [Option.some.injEq] at ha; subst ha
    unfold step1 at hb
    simp only [want_setO hda] at hb
    split at hb
    · cases hb
    · rename_i hwb
      simp only [Option.some.injEq] at hb; subst hb
      refine ⟨⟨setO ρ b.dst .undef, M⟩, by simp only [step1, hwb], ?_⟩
      simp only [step1, want_setO hdb, hwa, setO_comm hda]
    · rename_i hwb
      simp only [istep_setO hda] at hb
      split at hb
      · rename_i v M' hi
        simp only [Option.some.injEq] at hb; subst hb
        refine ⟨⟨setO ρ b.dst v, M'⟩, by simp only [step1, hwb, hi], ?_⟩
        simp only [step1, want_setO hdb, hwa, setO_comm hda]
      · cases hb
  · rename_i hwa
    split at ha
    · rename_i va Ma hia
      simp only [Option.some.injEq] at ha; subst ha
      unfold step1 at hb
      simp only [want_setO hda] at hb
      split at hb
      · cases hb
      · rename_i hwb
        simp only [Option.some.injEq] at hb; subst hb
        refine ⟨⟨setO ρ b.dst .undef, M⟩, by simp only [step1, hwb], ?_⟩
        simp only [step1, want_setO hdb, hwa, istep_setO hdb, hia, setO_comm hda]
      · rename_i hwb
        simp only [istep_setO hda] at hb
        split at hb
        · rename_i vb Mab hib
          simp only [Option.some.injEq] at hb; subst hb
          have hsw : ∃ Mb, istep call mode draw lo l2 f2 b.i ρ M = some (vb, Mb) ∧ istep call mode draw lo l1 f1 a.i ρ Mb = some (va, Mab) := by
            rcases Bool.or_eq_true _ _ ▸ hk with hk | hk
            · exact swap_mem hk h1 h1' h2 h2' hne hia hib
            · exact swap_roots hk hia hib
          obtain ⟨Mb, q1, q2⟩ := hsw
          refine ⟨⟨setO ρ b.dst vb, Mb⟩, by simp only [step1, hwb, q1], ?_⟩
          simp only [step1, want_setO hdb, hwa, istep_setO hdb, q2, setO_comm hda]
        · cases hb
    · cases ha
end
end Go.Proofs.YtfkjeopbkmoajaaDoor.Sx
