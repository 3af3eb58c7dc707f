/-
  SX, PART Y: OPERATIONS THAT CHANGE PLACES.
-/
import Derived.Test.YtegkhdflmboljaaSxXPl
namespace Go.Proofs.Ytegkhdflmboljaa.Sx
open Go
set_option linter.unusedSimpArgs false

section
variable {call : CallT} {mode : FuncId → Mode} {draw : Bool} {lo : Nat} {lim : Lm} {fresh : Nat}

/-! ### A slot that is not read -/
theorem ev_set {ρ : List AV} {d : Nat} {v : AV} {x : X} (h : d ∉ x.slots) : ev (ρ.set d v) x = ev ρ x := by
  cases x with
  | t i =>
    have : d ≠ i := by simpa [X.slots] using h
    simp [ev, List.getD, this]
  | k a => rfl

theorem evs_set {ρ : List AV} {d : Nat} {v : AV} {xs : List X} (h : d ∉ xs.flatMap X.slots) : xs.map (ev (ρ.set d v)) = xs.map (ev ρ) := by
  apply List.map_congr_left
  intro x hx
  exact ev_set (fun hm => h (List.mem_flatMap.2 ⟨x, hx, hm⟩))

theorem parts_set {ρ : List AV} {d : Nat} {v : AV} {ps : List (Nat × Nat × X)} (h : d ∉ ps.flatMap (·.2.2.slots)) : (ps.map fun p => (p.1, p.2.1, ev (ρ.set d v) p.2.2)) = ps.map fun p => (p.1, p.2.1, ev ρ p.2.2) := by
  apply List.map_congr_left
  intro x hx
  rw [ev_set (fun hm => h (List.mem_flatMap.2 ⟨x, hx, hm⟩))]

theorem hi_set {ρ : List AV} {d n : Nat} {v : AV} {x : Option X} (h : d ∉ x.toList.flatMap X.slots) : hiOf (ρ.set d v) n x = hiOf ρ n x := by
  cases x with
  | none => rfl
  | some x => simp only [hiOf]; rw [ev_set (by simpa using h)]

theorem lo_set {ρ : List AV} {d : Nat} {v : AV} {x : Option X} (h : d ∉ x.toList.flatMap X.slots) : loOf (ρ.set d v) x = loOf ρ x := by
  cases x with
  | none => rfl
  | some x => simp only [loOf]; rw [ev_set (by simpa using h)]

theorem istep_set {i : I} {ρ : List AV} {M : MM} {d : Nat} {v : AV} (h : d ∉ i.slots) : istep call mode draw lo lim fresh i (ρ.set d v) M = istep call mode draw lo lim fresh i ρ M := by
  cases i with
  | mov x | appn t s y z x | box t x | ld1 x | ldn n x | nilc x | un op x | cvi k x | cvs x | b2s x | fad o x | fld o n g x | ext x j | tk x j | lens x | len x | lenm x => simp only [I.slots] at h; simp only [istep, ev_set h]
  | st n a b | bin op e a b | mkslice t s y z a b | ixs s a b | ixp s l a b | ixv s l g a b | ixc a b | lkp kk cm z a b | mdel kk a b | mmax mx a b | app t s y z a b | vmk t s y z a b | vapp t s y z a b | vext t s y z a b | wext s y z a b | wmk y z a b | wapp s y a b =>
    simp only [I.slots, List.mem_append, not_or] at h; simp only [istep, ev_set h.1, ev_set h.2]
  | pick a b c | mset kk a b c => simp only [I.slots, List.mem_append, not_or] at h; simp only [istep, ev_set h.1.1, ev_set h.1.2, ev_set h.2]
  | new t cs => rfl
  | mkmap kk => rfl
  | mk z ps => simp only [I.slots] at h; simp only [istep, parts_set h]
  | mksl t n s z ps => simp only [I.slots] at h; simp only [istep, parts_set h]
  | vsl t n s z ps => simp only [I.slots] at h; simp only [istep, parts_set h]
  | wsl n z ps => simp only [I.slots] at h; simp only [istep, parts_set h]
  | mkf f as bs => simp only [I.slots, List.mem_append, not_or] at h; simp only [istep, evs_set h.1, evs_set h.2]
  | slstr x l u => simp only [I.slots, List.mem_append, not_or] at h; simp only [istep, ev_set h.1.1, lo_set h.1.2, hi_set h.2]
  | slsl s x l u => simp only [I.slots, List.mem_append, not_or] at h; simp only [istep, ev_set h.1.1, lo_set h.1.2, hi_set h.2]
  | call f as => simp only [I.slots] at h; simp only [istep, evs_set h]
  | callv x as | callw no x as => simp only [I.slots, List.mem_append, not_or] at h; simp only [istep, ev_set h.1, evs_set h.2]
  | lnew cs => rfl
  | lbox x => simp only [I.slots] at h; simp only [istep, ev_set h]
  | setc o n a b | ld1r a b | ldnr n a b => simp only [I.slots, List.mem_append, not_or] at h; simp only [istep, ev_set h.1, ev_set h.2]
  | str n r ns a x =>
    simp only [I.slots, List.mem_append, not_or] at h
    simp only [istep, ev_set h.1.1.1, ev_set h.1.2, ev_set h.2, evs_set h.1.1.2]
  | callk f as rs =>
    simp only [I.slots, List.mem_append, not_or] at h
    have e : ∀ (m m' : Mem), (rs.all fun x => kept m m' (ev (ρ.set d v) x)) = rs.all fun x => kept m m' (ev ρ x) := fun m m' => by
      rw [Bool.eq_iff_iff, List.all_eq_true, List.all_eq_true]
      refine ⟨fun hh x hx => ?_, fun hh x hx => ?_⟩
      · have := hh x hx; rwa [ev_set (fun hm => h.2 (List.mem_flatMap.2 ⟨x, hx, hm⟩))] at this
      · rw [ev_set (fun hm => h.2 (List.mem_flatMap.2 ⟨x, hx, hm⟩))]; exact hh x hx
    simp only [istep, evs_set h.1, e]
  | bad => rfl

theorem istep_setO {o : Op1} {ρ : List AV} {M : MM} {d : Option Nat} {v : AV} (h : dstFree d o = true) : istep call mode draw lo lim fresh o.i (setO ρ d v) M = istep call mode draw lo lim fresh o.i ρ M := by
  cases d with
  | none => rfl
  | some d =>
    simp only [dstFree, Op1.reads, Bool.and_eq_true, Bool.not_eq_true'] at h
    have : d ∉ o.i.slots := fun hm => by
      have := h.2
      simp [hm] at this
    exact istep_set this

theorem want_setO {o : Op1} {ρ : List AV} {d : Option Nat} {v : AV} (h : dstFree d o = true) : want o.g (setO ρ d v) = want o.g ρ := by
  cases d with
  | none => rfl
  | some d =>
    simp only [dstFree, Op1.reads, Bool.and_eq_true, Bool.not_eq_true'] at h
    cases hg : o.g with
    | none => rfl
    | some g =>
      obtain ⟨s, b⟩ := g
      have hne : d ≠ s := fun e => by
        subst e
        have := h.2
        simp [hg] at this
      simp only [want, setO, List.getElem?_set, hne, if_false]

theorem setO_comm {o : Op1} {ρ : List AV} {d : Option Nat} {v u : AV} (h : dstFree d o = true) : setO (setO ρ d v) o.dst u = setO (setO ρ o.dst u) d v := by
  cases d with
  | none => rfl
  | some d =>
    cases ho : o.dst with
    | none => rfl
    | some e =>
      simp only [dstFree, ho, Bool.and_eq_true] at h
      have hne : e ≠ d := fun e' => by subst e'; simp at h
      simp only [setO]
      rw [List.set_comm _ _ (Ne.symm hne)]

/-! ### What each kind of instruction asks and leaves -/
theorem pure_istep {i : I} (h : kindI mode i = .pure) (ρ : List AV) (M M2 : MM) : istep call mode draw lo lim fresh i ρ M2 = (istep call mode draw lo lim fresh i ρ M).map fun p => (p.1, M2) := by
  cases i <;> simp only [kindI, reduceCtorEq] at h <;> simp only [istep]
  case call f as => cases hm : mode f <;> rw [hm] at h <;> simp only [reduceCtorEq] at h
  case callk f as rs => cases hm : mode f <;> rw [hm] at h <;> simp only [reduceCtorEq] at h
  all_goals (repeat' split)
  all_goals (try rfl)
  all_goals (simp only [Option.map_map]; rfl)

theorem read_istep {i : I} (h : isRead (kindI mode i) = true) (ρ : List AV) (M M2 : MM) (hl : look M2.mem lim = look M.mem lim) (hn : M2.nx = M.nx) :
    istep call mode draw lo lim fresh i ρ M2 = (istep call mode draw lo lim fresh i ρ M).map fun p => (p.1, M2) := by
  have hl' : ∀ id, look M2.mem lim id = look M.mem lim id := fun id => congrFun hl id
  cases i <;> simp only [kindI, isRead, Bool.false_eq_true] at h <;> simp only [istep, hl']
  case ld1r r a =>
    have e : ld1I M2.mem lim (ev ρ a) = ld1I M.mem lim (ev ρ a) := by
      generalize ev ρ a = y
      cases y <;> simp only [ld1I, hl']
    rw [e]; split
    · rw [Option.map_map]; rfl
    · rfl
  case ldnr n r a =>
    have e : ldnI M2.mem lim n (ev ρ a) = ldnI M.mem lim n (ev ρ a) := by
      generalize ev ρ a = y
      cases y <;> simp only [ldnI, hl']
    rw [e]; split
    · rw [Option.map_map]; rfl
    · rfl
  case b2s x =>
    have e : sliceCells M2.mem lim 1 (ev ρ x) = sliceCells M.mem lim 1 (ev ρ x) := by
      generalize ev ρ x = y
      cases y <;> simp only [sliceCells, hl']
    rw [e]
    split
    · simp only [Option.map_map]; rfl
    · rfl
  case call f as =>
    cases hm : mode f <;> rw [hm] at h <;> simp only [isRead, Bool.false_eq_true] at h <;> simp only [docall, hm, hl, hn]
    all_goals (repeat' split)
    all_goals (try rfl)
    all_goals (simp_all [Function.comp_def])
  case callk f as rs => cases hm : mode f <;> rw [hm] at h <;> simp only [isRead, Bool.false_eq_true] at h
  all_goals (repeat' split)
  all_goals (try rfl)
  all_goals (simp_all [Function.comp_def])

theorem make_istep {i : I} (h : kindI mode i = .make) (ρ : List AV) : ∃ q : Option (AV × Blk), ∀ M, istep call mode draw lo lim fresh i ρ M = q.map fun p => (p.1, M.alloc fresh p.2) := by
  cases i <;> simp only [kindI, reduceCtorEq] at h <;> simp only [istep]
  case new t cs => exact ⟨some (.ptr fresh 0, .cells t cs), fun M => rfl⟩
  case box t x =>
    split
    · exact ⟨none, fun M => rfl⟩
    · rename_i a _; exact ⟨some (.ptr fresh 0, .cells t (ev ρ x).cells), fun M => rfl⟩
  case mksl t n s z ps => exact ⟨(fill z (ps.map fun p => (p.1, p.2.1, ev ρ p.2.2))).map fun cs => (.os fresh 0 n s, .cells t cs), fun M => by rw [Option.map_map]; rfl⟩
  case mkmap kk => exact ⟨some (.mp fresh, .map kk []), fun M => rfl⟩
  case mkslice t s b z l c =>
    split
    · rename_i l' c' _ _
      split
      · exact ⟨some (.os fresh 0 l'.toNat s, .cells t ((List.replicate l'.toNat z).flatten)), fun M => rfl⟩
      · exact ⟨none, fun M => rfl⟩
    · exact ⟨none, fun M => rfl⟩
  case vsl t n s z ps =>
    cases fill z (ps.map fun p => (p.1, p.2.1, ev ρ p.2.2)) with
    | none => exact ⟨none, fun M => rfl⟩
    | some cs => exact ⟨(cs.mapM toD).map fun ds => (.ov fresh ds n s, .tok t (n * s)), fun M => by rw [Option.map_map]; rfl⟩
  case vmk t s b z l c =>
    split
    · rename_i l' c' _ _
      split
      · exact ⟨(((List.replicate l'.toNat z).flatten).mapM toD).map fun ds => (.ov fresh ds l'.toNat s, .tok t (l'.toNat * s)), fun M => by rw [Option.map_map]; rfl⟩
      · exact ⟨none, fun M => rfl⟩
    · exact ⟨none, fun M => rfl⟩
  case call f as => cases hm : mode f <;> rw [hm] at h <;> simp only [reduceCtorEq] at h
  case callk f as rs => cases hm : mode f <;> rw [hm] at h <;> simp only [reduceCtorEq] at h

theorem store_istep {i : I} (h : kindI mode i = .store) {ρ : List AV} {M M' : MM} {r : AV} (hs : istep call mode draw lo lim fresh i ρ M = some (r, M')) :
    ∃ id b, lim.ok id = true ∧ M' = M.put id b ∧ ∀ M2, look M2.mem lim id = look M.mem lim id → istep call mode draw lo lim fresh i ρ M2 = some (r, M2.put id b) := by
  cases i <;> simp only [kindI, reduceCtorEq] at h
  case str n r ns a x =>
    simp only [istep] at hs
    split at hs
    · rename_i hok
      split at hs
      · rename_i id off heq
        split at hs
        · rename_i t cs hlk
          split at hs
          · rename_i hc
            simp only [Option.some.injEq, Prod.mk.injEq] at hs
            obtain ⟨rfl, rfl⟩ := hs
            refine ⟨id, _, (look_some hlk).2, rfl, fun M2 h2 => ?_⟩
            rw [heq] at hok
            simp only [istep, heq, if_pos hok, h2, hlk, if_pos hc]
          · cases hs
        · cases hs
      · cases hs
    · cases hs
  case st n a x =>
    simp only [istep] at hs
    split at hs
    · rename_i id off heq
      split at hs
      · rename_i t cs hlk
        split at hs
        · rename_i hc
          simp only [Option.some.injEq, Prod.mk.injEq] at hs
          obtain ⟨rfl, rfl⟩ := hs
          refine ⟨id, _, (look_some hlk).2, rfl, fun M2 h2 => ?_⟩
          simp only [istep, heq, h2, hlk, if_pos hc]
        · cases hs
      · cases hs
    · cases hs
  case call f as => cases hm : mode f <;> rw [hm] at h <;> simp only [reduceCtorEq] at h
  case callk f as rs => cases hm : mode f <;> rw [hm] at h <;> simp only [reduceCtorEq] at h

theorem upd_comm {m : Mem} {i j : Nat} {a b : Option Blk} (h : i ≠ j) : upd (upd m i a) j b = upd (upd m j b) i a := by
  funext k
  simp only [upd]
  by_cases h1 : k = j <;> by_cases h2 : k = i <;> simp_all

theorem look_upd {m : Mem} {lim : Lm} {f : Nat} {b : Option Blk} (h : lim.ok f = false) : look (upd m f b) lim = look m lim := by
  funext k
  unfold look upd
  split
  · rename_i hk
    rw [if_neg (fun e => by rw [e, h] at hk; cases hk)]
  · rfl

theorem eqV_eq {x y : Value} (h : eqV x y = true) : x = y := by
  unfold eqV at h
  split at h <;> simp_all
  exact ByteArray.ext h

mutual
theorem eqD_eq : ∀ (x y : D), eqD x y = true → x = y
  | .v x, .v y, h => by simp only [eqD] at h; rw [eqV_eq h]
  | .sl cs n, .sl ds m, h => by
    simp only [eqD, Bool.and_eq_true, beq_iff_eq] at h
    rw [eqDs_eq cs ds h.1, h.2]
  | .v _, .sl _ _, h => by simp [eqD] at h
  | .sl _ _, .v _, h => by simp [eqD] at h
theorem eqDs_eq : ∀ (xs ys : List D), eqDs xs ys = true → xs = ys
  | [], [], _ => rfl
  | x :: xs, y :: ys, h => by
    simp only [eqDs, Bool.and_eq_true] at h
    rw [eqD_eq x y h.1, eqDs_eq xs ys h.2]
  | [], _ :: _, h => by simp [eqDs] at h
  | _ :: _, [], h => by simp [eqDs] at h
end

mutual
theorem eqA_eq : ∀ (x y : AV), eqA x y = true → x = y
  | .d x, y, h => by cases y <;> simp [eqA] at h; rw [eqD_eq _ _ h]
  | .ptr a b, y, h => by cases y <;> simp_all [eqA]
  | .ip xs, y, h => by cases y <;> simp [eqA] at h; rw [eqDs_eq _ _ h]
  | .os a b c d, y, h => by cases y <;> simp_all [eqA]
  | .ov a xs n s, y, h => by
    cases y <;> simp only [eqA, Bool.false_eq_true, Bool.and_eq_true, beq_iff_eq] at h
    rw [h.1.1.1, eqDs_eq _ _ h.1.1.2, h.1.2, h.2]
  | .mp a, y, h => by cases y <;> simp_all [eqA]
  | .fn f as bs, y, h => by
    cases y <;> simp only [eqA, Bool.false_eq_true, Bool.and_eq_true, beq_iff_eq] at h
    rw [h.1.1, eqAs_eq _ _ h.1.2, eqAs_eq _ _ h.2]
  | .agg xs, y, h => by cases y <;> simp only [eqA, Bool.false_eq_true] at h; rw [eqAs_eq _ _ h]
  | .tup xs, y, h => by cases y <;> simp only [eqA, Bool.false_eq_true] at h; rw [eqAs_eq _ _ h]
theorem eqAs_eq : ∀ (xs ys : List AV), eqAs xs ys = true → xs = ys
  | [], [], _ => rfl
  | x :: xs, y :: ys, h => by
    simp only [eqAs, Bool.and_eq_true] at h
    rw [eqA_eq x y h.1, eqAs_eq xs ys h.2]
  | [], _ :: _, h => by simp [eqAs] at h
  | _ :: _, [], h => by simp [eqAs] at h
end

theorem eqB_eq {x y : Option Blk} (h : eqB x y = true) : x = y := by
  unfold eqB at h
  split at h
  · simp only [Bool.and_eq_true, beq_iff_eq] at h
    rw [h.1, eqAs_eq _ _ h.2]
  · cases h

theorem kept_eq {m m' : Mem} {r : AV} {i : Nat} (h : kept m m' r = true) (hi : idOf r = some i) : m' i = m i := by
  unfold kept at h
  split at h
  · simp [idOf] at hi
  · cases h
  · rw [hi] at h; exact (eqB_eq h).symm

theorem hasT_mem {n : Nat} : ∀ {l : List X}, hasT n l = true → X.t n ∈ l
  | [], h => by simp [hasT] at h
  | .t m :: l, h => by
    simp only [hasT, Bool.or_eq_true, Nat.beq_eq] at h
    rcases h with h | h
    · rw [h]; simp
    · exact List.mem_cons_of_mem _ (hasT_mem h)
  | .k _ :: l, h => List.mem_cons_of_mem _ (hasT_mem (by simpa [hasT] using h))

theorem root_ld1 {m m' : Mem} {r a : AV} {lim : Lm} (h : okRoot r a = true) (hk : ∀ i, idOf r = some i → m' i = m i) : ld1I m' lim a = ld1I m lim a := by
  cases a with
  | ptr j off =>
    have := hk j (by simpa [okRoot] using h)
    simp only [ld1I, look, this]
  | _ => rfl
theorem root_ldn {m m' : Mem} {r a : AV} {lim : Lm} {n : Nat} (h : okRoot r a = true) (hk : ∀ i, idOf r = some i → m' i = m i) : ldnI m' lim n a = ldnI m lim n a := by
  cases a with
  | ptr j off =>
    have := hk j (by simpa [okRoot] using h)
    simp only [ldnI, look, this]
  | _ => rfl

theorem rload_istep {i : I} {n : Nat} {ρ : List AV} {M M' : MM} {v : AV} {f1 : Nat} (hi : (∃ a, i = .ld1r (.t n) a) ∨ ∃ m a, i = .ldnr m (.t n) a) (h : istep call mode draw lo lim f1 i ρ M = some (v, M')) :
    M' = M ∧ ∀ M2 : MM, (∀ j, idOf (ev ρ (.t n)) = some j → M2.mem j = M.mem j) → istep call mode draw lo lim f1 i ρ M2 = some (v, M2) := by
  rcases hi with ⟨a, rfl⟩ | ⟨m, a, rfl⟩
  · simp only [istep] at h
    split at h
    · rename_i hr
      obtain ⟨x, hx, he⟩ := Option.map_eq_some_iff.1 h
      simp only [Prod.mk.injEq] at he
      refine ⟨he.2.symm, fun M2 hk => ?_⟩
      simp only [istep, hr, if_true, root_ld1 hr hk, hx, Option.map_some, he.1]
    · cases h
  · simp only [istep] at h
    split at h
    · rename_i hr
      obtain ⟨x, hx, he⟩ := Option.map_eq_some_iff.1 h
      simp only [Prod.mk.injEq] at he
      refine ⟨he.2.symm, fun M2 hk => ?_⟩
      simp only [istep, hr, if_true, root_ldn hr hk, hx, Option.map_some, he.1]
    · cases h

theorem eqB_some {x y : Option Blk} (h : eqB x y = true) : x ≠ none := by
  unfold eqB at h
  split at h
  · simp
  · cases h
theorem kept_hide {L : Lm} {m m' : Mem} {r : AV} {i : Nat} (h : kept (hideM L m) (hideM L m') r = true) (hi : idOf r = some i) : m' i = m i := by
  have e := kept_eq h hi
  unfold kept at h
  split at h
  · simp [idOf] at hi
  · cases h
  · rw [hi] at h
    have hn := eqB_some h
    unfold hideM at hn e
    split at hn
    · exact absurd rfl hn
    · rename_i hh
      rw [if_neg hh, if_neg hh] at e; exact e

theorem callk_istep {f : FuncId} {args roots : List X} {n : Nat} {ρ : List AV} {M M' : MM} {v : AV} {f1 : Nat} (h : istep call mode draw lo lim f1 (.callk f args roots) ρ M = some (v, M')) (hn : hasT n roots = true) :
    ∀ j, idOf (ev ρ (.t n)) = some j → M'.mem j = M.mem j := by
  intro j hj
  simp only [istep] at h
  split at h
  · split at h
    · rename_i hk
      simp only [Option.some.injEq, Prod.mk.injEq] at h
      obtain ⟨-, rfl⟩ := h
      exact kept_hide (List.all_eq_true.1 hk _ (hasT_mem hn)) hj
    · cases h
  · cases h

theorem str_istep {n : Nat} {r : X} {ns : List X} {a x : X} {ρ : List AV} {M M' : MM} {v : AV} {f1 : Nat} (h : istep call mode draw lo lim f1 (.str n r ns a x) ρ M = some (v, M')) :
    ∃ id b, idOf (ev ρ r) = some id ∧ (∀ y ∈ ns, idOf (ev ρ y) ≠ some id) ∧ M' = M.put id b ∧ ∀ M2 : MM, M2.mem id = M.mem id → istep call mode draw lo lim f1 (.str n r ns a x) ρ M2 = some (v, M2.put id b) := by
  simp only [istep] at h
  split at h
  · rename_i hok
    split at h
    · rename_i id off heq
      split at h
      · rename_i t cs hlk
        split at h
        · rename_i hc
          simp only [Option.some.injEq, Prod.mk.injEq] at h
          obtain ⟨rfl, rfl⟩ := h
          have hok' := hok
          rw [heq] at hok'
          simp only [okStr, Bool.and_eq_true, beq_iff_eq, List.all_eq_true, List.mem_map, forall_exists_index, and_imp, forall_apply_eq_imp_iff₂, Bool.not_eq_true', beq_eq_false_iff_ne, ne_eq] at hok'
          refine ⟨id, _, hok'.1, hok'.2, rfl, fun M2 h2 => ?_⟩
          have hl2 : look M2.mem lim id = some (.cells t cs) := by
            unfold look at hlk ⊢
            rw [h2]; exact hlk
          rw [heq] at hok
          simp only [istep, heq, if_pos hok, hl2, if_pos hc]
        · cases h
      · cases h
    · cases h
  · cases h
theorem put_at (M : MM) (i j : Nat) (b : Blk) (h : j ≠ i) : (M.put i b).mem j = M.mem j := by simp [MM.put, upd, h]

theorem swap_roots {ia ib : I} {ρ : List AV} {M Ma Mab : MM} {va vb : AV} {f1 f2 : Nat} {l1 l2 : Lm} (hk : rootsOK ia ib = true)
    (ha : istep call mode draw lo l1 f1 ia ρ M = some (va, Ma)) (hb : istep call mode draw lo l2 f2 ib ρ Ma = some (vb, Mab)) :
    ∃ Mb, istep call mode draw lo l2 f2 ib ρ M = some (vb, Mb) ∧ istep call mode draw lo l1 f1 ia ρ Mb = some (va, Mab) := by
  unfold rootsOK at hk
  split at hk
  · obtain ⟨rfl, h⟩ := rload_istep (.inl ⟨_, rfl⟩) ha
    exact ⟨Mab, hb, h Mab (callk_istep hb hk)⟩
  · obtain ⟨rfl, h⟩ := rload_istep (.inr ⟨_, _, rfl⟩) ha
    exact ⟨Mab, hb, h Mab (callk_istep hb hk)⟩
  · obtain ⟨rfl, h⟩ := rload_istep (.inl ⟨_, rfl⟩) hb
    exact ⟨M, h M (fun j hj => (callk_istep ha hk j hj).symm), ha⟩
  · obtain ⟨rfl, h⟩ := rload_istep (.inr ⟨_, _, rfl⟩) hb
    exact ⟨M, h M (fun j hj => (callk_istep ha hk j hj).symm), ha⟩
  · obtain ⟨id, b, h1, h2, rfl, h3⟩ := str_istep ha
    obtain ⟨rfl, h⟩ := rload_istep (.inl ⟨_, rfl⟩) hb
    exact ⟨M, h M (fun j hj => (put_at _ _ _ _ (fun e => h2 _ (hasT_mem hk) (by rw [← e]; exact hj))).symm), ha⟩
  · obtain ⟨id, b, h1, h2, rfl, h3⟩ := str_istep ha
    obtain ⟨rfl, h⟩ := rload_istep (.inr ⟨_, _, rfl⟩) hb
    exact ⟨M, h M (fun j hj => (put_at _ _ _ _ (fun e => h2 _ (hasT_mem hk) (by rw [← e]; exact hj))).symm), ha⟩
  · obtain ⟨rfl, h⟩ := rload_istep (.inl ⟨_, rfl⟩) ha
    obtain ⟨id, b, h1, h2, rfl, h3⟩ := str_istep hb
    exact ⟨_, hb, h _ (fun j hj => put_at _ _ _ _ (fun e => h2 _ (hasT_mem hk) (by rw [← e]; exact hj)))⟩
  · obtain ⟨rfl, h⟩ := rload_istep (.inr ⟨_, _, rfl⟩) ha
    obtain ⟨id, b, h1, h2, rfl, h3⟩ := str_istep hb
    exact ⟨_, hb, h _ (fun j hj => put_at _ _ _ _ (fun e => h2 _ (hasT_mem hk) (by rw [← e]; exact hj)))⟩
  · obtain ⟨i1, b1, h1, h2, rfl, h3⟩ := str_istep ha
    obtain ⟨i2, b2, g1, g2, rfl, g3⟩ := str_istep hb
    have hne : i1 ≠ i2 := fun e => by
      subst e
      simp only [Bool.or_eq_true] at hk
      rcases hk with hk | hk
      · split at hk
        · exact h2 _ (hasT_mem hk) g1
        · cases hk
      · split at hk
        · exact g2 _ (hasT_mem hk) h1
        · cases hk
    refine ⟨M.put i2 b2, g3 M (put_at _ _ _ _ (Ne.symm hne)).symm, ?_⟩
    rw [h3 (M.put i2 b2) (put_at _ _ _ _ hne)]
    simp only [MM.put, upd_comm hne]
  · cases hk

/-! ### Tokens: what an append does, and that loads do not see it -/
def tokEff (fresh : Nat) (kill : Option Nat) (nb : Option Blk) (M : MM) : MM :=
  ⟨max M.nx (fresh + 1), match nb with
    | some b => upd (match kill with | some id => upd M.mem id none | none => M.mem) fresh (some b)
    | none => match kill with | some id => upd M.mem id none | none => M.mem⟩
theorem look_agree {m m2 : Mem} {lim : Lm} (h : ∀ id, lim.ok id = true → m2 id = m id) : look m2 lim = look m lim := by
  funext id
  unfold look
  split
  · rename_i hk; exact h id hk
  · rfl
theorem tokw_istep {i : I} (h : kindI mode i = .tokw) {ρ : List AV} {M M' : MM} {r : AV} (hs : istep call mode draw lo lim fresh i ρ M = some (r, M')) :
    ∃ (kill : Option Nat) (nb : Option Blk), M' = tokEff fresh kill nb M ∧ (∀ id, kill = some id → lim.ok id = true ∧ ∃ t u, M.mem id = some (.tok t u)) ∧
      ∀ M2 : MM, (∀ id, lim.ok id = true → M2.mem id = M.mem id) → istep call mode draw lo lim fresh i ρ M2 = some (r, tokEff fresh kill nb M2) := by
  cases i <;> simp only [kindI, reduceCtorEq] at h
  case vapp t sz bytes zero s x =>
    have sc : ∀ M2 : MM, (∀ id, lim.ok id = true → M2.mem id = M.mem id) → sliceCells M2.mem lim sz (ev ρ x) = sliceCells M.mem lim sz (ev ρ x) := fun M2 h2 => by
      have hl := look_agree h2
      generalize ev ρ x = y
      cases y <;> simp only [sliceCells, hl]
    simp only [istep] at hs
    split at hs
    · rename_i n cs hsc
      split at hs
      · rename_i news hnw
        split at hs
        · rename_i hev
          split at hs
          · rename_i hn
            simp only [Option.some.injEq, Prod.mk.injEq] at hs
            obtain ⟨rfl, rfl⟩ := hs
            exact ⟨none, none, rfl, fun _ h => (by cases h), fun M2 h2 => by simp only [istep, sc M2 h2, hsc, hnw, hev, if_pos hn]; rfl⟩
          · rename_i hn
            split at hs
            · rename_i hc
              simp only [Option.some.injEq, Prod.mk.injEq] at hs
              obtain ⟨rfl, rfl⟩ := hs
              exact ⟨none, some (.tok t (n * sz)), rfl, fun _ h => (by cases h), fun M2 h2 => by simp only [istep, sc M2 h2, hsc, hnw, hev, if_neg hn, if_pos hc]; rfl⟩
            · cases hs
        · rename_i id ds len s' hev
          split at hs
          · rename_i t' u hlk
            split at hs
            · rename_i hc
              simp only [Option.some.injEq, Prod.mk.injEq] at hs
              obtain ⟨rfl, rfl⟩ := hs
              refine ⟨some id, some (.tok t ((len + n) * sz)), rfl, fun j h => (by cases h; exact ⟨(look_some hlk).2, _, _, (look_some hlk).1⟩), fun M2 h2 => ?_⟩
              have hl : look M2.mem lim id = some (.tok t' u) := by rw [look_agree h2]; exact hlk
              simp only [istep, sc M2 h2, hsc, hnw, hev, hl, if_pos hc]; rfl
            · cases hs
          · cases hs
        · cases hs
      · cases hs
    · cases hs
  case vext t sz bytes zero s x =>
    simp only [istep] at hs
    split at hs
    · rename_i n news hnw
      split at hs
      · rename_i hzl
        split at hs
        · rename_i hev
          split at hs
          · rename_i hn
            simp only [Option.some.injEq, Prod.mk.injEq] at hs
            obtain ⟨rfl, rfl⟩ := hs
            exact ⟨none, none, rfl, fun _ h => (by cases h), fun M2 h2 => by simp only [istep, hnw, if_pos hzl, hev, if_pos hn]; rfl⟩
          · rename_i hn
            split at hs
            · rename_i hc
              simp only [Option.some.injEq, Prod.mk.injEq] at hs
              obtain ⟨rfl, rfl⟩ := hs
              exact ⟨none, some (.tok t (n * sz)), rfl, fun _ h => (by cases h), fun M2 h2 => by simp only [istep, hnw, if_pos hzl, hev, if_neg hn, if_pos hc]; rfl⟩
            · cases hs
        · rename_i id ds len s' hev
          split at hs
          · rename_i t' u hlk
            split at hs
            · rename_i hc
              simp only [Option.some.injEq, Prod.mk.injEq] at hs
              obtain ⟨rfl, rfl⟩ := hs
              refine ⟨some id, some (.tok t ((len + n) * sz)), rfl, fun j h => (by cases h; exact ⟨(look_some hlk).2, _, _, (look_some hlk).1⟩), fun M2 h2 => ?_⟩
              have hl : look M2.mem lim id = some (.tok t' u) := by rw [look_agree h2]; exact hlk
              simp only [istep, hnw, if_pos hzl, hev, hl, if_pos hc]; rfl
            · cases hs
          · cases hs
        · cases hs
      · cases hs
    · cases hs
  case appn t sz bytes zero x =>
    have sc : ∀ M2 : MM, (∀ id, lim.ok id = true → M2.mem id = M.mem id) → sliceCells M2.mem lim sz (ev ρ x) = sliceCells M.mem lim sz (ev ρ x) := fun M2 h2 => by
      have hl := look_agree h2
      generalize ev ρ x = y
      cases y <;> simp only [sliceCells, hl]
    simp only [istep] at hs
    split at hs
    · rename_i n cs hsc
      split at hs
      · rename_i h1
        split at hs
        · rename_i hn
          simp only [Option.some.injEq, Prod.mk.injEq] at hs
          obtain ⟨rfl, rfl⟩ := hs
          exact ⟨none, none, rfl, fun _ h => (by cases h), fun M2 h2 => by simp only [istep, sc M2 h2, hsc, if_pos h1, if_pos hn]; rfl⟩
        · rename_i hn
          split at hs
          · rename_i hc
            simp only [Option.some.injEq, Prod.mk.injEq] at hs
            obtain ⟨rfl, rfl⟩ := hs
            exact ⟨none, some (.cells t cs), rfl, fun _ h => (by cases h), fun M2 h2 => by simp only [istep, sc M2 h2, hsc, if_pos h1, if_neg hn, if_pos hc]; rfl⟩
          · cases hs
      · cases hs
    · cases hs
  case call f as => cases hm : mode f <;> rw [hm] at h <;> simp only [reduceCtorEq] at h
  case callk f as rs => cases hm : mode f <;> rw [hm] at h <;> simp only [reduceCtorEq] at h

def nt : Option Blk → Option Blk
  | some (.tok _ _) => none
  | b => b
theorem freezeD_nt (m : Mem) (lo : Nat) : ∀ (n : Nat) (x : AV), freezeD m lo n x = freezeD (fun id => nt (m id)) lo n x
  | 0, x => by cases x <;> rfl
  | n + 1, x => by
    have ih : freezeD m lo n = freezeD (fun id => nt (m id)) lo n := funext (freezeD_nt m lo n)
    cases x with
    | os id off len sz =>
      simp only [freezeD]
      rw [ih]
      split
      · rfl
      · cases m id with
        | none => rfl
        | some b => cases b <;> rfl
    | _ => rfl
theorem snap_nt (m : Mem) : snap m = snap fun id => nt (m id) := by
  funext x
  have f1 : freeze1 m 0 = freeze1 (fun id => nt (m id)) 0 := by
    funext y
    cases y <;> simp only [freeze1, freezeD_nt m 0]
  unfold snap
  split
  · rfl
  · cases x <;> simp only [freezeA, f1]
theorem readE_istep {i : I} (h : kindI mode i = .read) (ρ : List AV) (M M2 : MM) (hl : ∀ id, nt (look M2.mem lim id) = nt (look M.mem lim id)) (hn : M2.nx = M.nx) :
    istep call mode draw lo lim fresh i ρ M2 = (istep call mode draw lo lim fresh i ρ M).map fun p => (p.1, M2) := by
  -- the memory without tokens
  have key : ∀ (M : MM), istep call mode draw lo lim fresh i ρ M = (istep call mode draw lo lim fresh i ρ ⟨M.nx, fun id => nt (M.mem id)⟩).map fun p => (p.1, M) := fun M => by
    have hlk : ∀ id, look (fun id => nt (M.mem id)) lim id = nt (look M.mem lim id) := fun id => by unfold look; split <;> rfl
    have hlf : look (fun id => nt (M.mem id)) lim = fun id => nt (look M.mem lim id) := funext hlk
    cases i <;> simp only [kindI, reduceCtorEq] at h <;> simp only [istep]
    case ld1 a =>
      generalize ev ρ a = y
      cases y with
      | ptr id off =>
        dsimp only
        rw [hlk]
        cases look M.mem lim id with
        | none => rfl
        | some b => cases b <;> first | rfl | (dsimp only [nt]; rw [Option.map_map]; rfl)
      | ip cs => dsimp only; rw [Option.map_map]; rfl
      | _ => rfl
    case ldn n a =>
      generalize ev ρ a = y
      cases y with
      | ptr id off =>
        dsimp only
        rw [hlk]
        cases look M.mem lim id with
        | none => rfl
        | some b => cases b with
          | cells t cs => dsimp only [nt]; split <;> rfl
          | _ => rfl
      | ip cs => dsimp only; split <;> rfl
      | _ => rfl
    case ld1r r a =>
      split
      · generalize ev ρ a = y
        cases y with
        | ptr id off =>
          simp only [ld1I]
          rw [hlk]
          cases look M.mem lim id with
          | none => rfl
          | some b => cases b <;> first | rfl | (dsimp only [nt]; rw [Option.map_map]; rfl)
        | ip cs => simp only [ld1I]; cases cs[0]? <;> rfl
        | _ => rfl
      · rfl
    case ldnr n r a =>
      split
      · generalize ev ρ a = y
        cases y with
        | ptr id off =>
          simp only [ldnI]
          rw [hlk]
          cases look M.mem lim id with
          | none => rfl
          | some b => cases b with
            | cells t cs => dsimp only [nt]; split <;> rfl
            | _ => rfl
        | ip cs => simp only [ldnI]; split <;> rfl
        | _ => rfl
      · rfl
    case lkp kk cm z m k =>
      generalize ev ρ k = y
      generalize ev ρ m = x
      split
      · split
        · split
          · rfl
          · rename_i id
            rw [hlk]
            cases look M.mem lim id with
            | none => rfl
            | some b => cases b with
              | map kk' es => dsimp only [nt]; split
                              · split <;> rfl
                              · rfl
              | _ => rfl
          · rfl
        · rfl
      · rfl
    case lenm x =>
      generalize ev ρ x = y
      split
      · rfl
      · rename_i id
        rw [hlk]
        cases look M.mem lim id with
        | none => rfl
        | some b => cases b <;> rfl
      · rfl
    case b2s x =>
      have e : sliceCells (fun id => nt (M.mem id)) lim 1 (ev ρ x) = sliceCells M.mem lim 1 (ev ρ x) := by
        generalize ev ρ x = y
        cases y with
        | os id off len s =>
          simp only [sliceCells]
          rw [hlk]
          cases look M.mem lim id with
          | none => rfl
          | some b => cases b <;> rfl
        | d x => unfold sliceCells; split <;> first | rfl | simp_all
        | _ => rfl
      rw [e]
      split
      · rw [Option.map_map]; rfl
      · rfl
    case call f as =>
      cases hm : mode f <;> rw [hm] at h <;> simp only [reduceCtorEq] at h
      simp only [docall, hm]
      rw [hlf, snap_nt (look M.mem lim)]
      cases (as.map (ev ρ)).mapM (snap fun id => nt (look M.mem lim id)) with
      | none => rfl
      | some a =>
        dsimp only
        cases call f a 0 ⟨0, fun _ => none⟩ with
        | none => rfl
        | some p =>
          dsimp only
          cases freeze p.2.mem 0 p.1 with
          | none => rfl
          | some r' => dsimp only; split <;> rfl
    case callk f as rs => cases hm : mode f <;> rw [hm] at h <;> simp only [reduceCtorEq] at h
  have e : (⟨M2.nx, fun id => nt (M2.mem id)⟩ : MM) = ⟨M.nx, fun id => nt (M2.mem id)⟩ := by rw [hn]
  rw [key M2, key M, e, read_istep (by rw [h]; rfl) ρ ⟨M.nx, fun id => nt (M.mem id)⟩ ⟨M.nx, fun id => nt (M2.mem id)⟩ (by
    funext id
    have := hl id
    unfold look at this ⊢
    split
    · rename_i hk; rw [if_pos hk, if_pos hk] at this; exact this
    · rfl) rfl]
  rw [Option.map_map, Option.map_map]; rfl

/-! ### Calls that may write: they do not see what is hidden -/
theorem hideM_upd {L : Lm} {m : Mem} {f : Nat} {b : Option Blk} (h : hid L f = true) : hideM L (upd m f b) = hideM L m := by
  funext id
  unfold hideM upd
  by_cases e : id = f
  · subst e; rw [if_pos h, if_pos h]
  · rw [if_neg e]
theorem backM_upd {L : Lm} {nx : Nat} {m m' : Mem} {f : Nat} {b : Option Blk} (h : hid L f = true) : backM L nx (upd m f b) m' = upd (backM L nx m m') f b := by
  funext id
  unfold backM upd
  by_cases e : id = f
  · subst e; simp only [h, if_true]
  · simp only [e, if_false]
theorem hide_back {L : Lm} {nx : Nat} {m m2 m' : Mem} (h : hideM L m = hideM L m2) : hideM L (backM L nx m m') = hideM L (backM L nx m2 m') := by
  funext id
  have := congrFun h id
  unfold hideM at this ⊢
  split
  · rfl
  · rename_i hh
    rw [if_neg hh, if_neg hh] at this
    unfold backM
    rw [if_neg hh, if_neg hh, this]
theorem callw_istep {i : I} (h : kindI mode i = .callw) {ρ : List AV} {M M' : MM} {r : AV} (hs : istep call mode true lo lim fresh i ρ M = some (r, M')) :
    ∃ nx' m', M.nx ≤ nx' ∧ M' = ⟨nx', backM lim M.nx M.mem m'⟩ ∧ ∀ M2 : MM, hideM lim M2.mem = hideM lim M.mem → M2.nx = M.nx → istep call mode true lo lim fresh i ρ M2 = some (r, ⟨nx', backM lim M.nx M2.mem m'⟩) := by
  have dc : ∀ {f : FuncId} {args : List AV} {M' : MM}, mode f = .rw → docall call mode true lo lim f args M = some (r, M') → ∃ nx' m', M.nx ≤ nx' ∧ M' = ⟨nx', backM lim M.nx M.mem m'⟩ ∧ ∀ M2 : MM, hideM lim M2.mem = hideM lim M.mem → M2.nx = M.nx → docall call mode true lo lim f args M2 = some (r, ⟨nx', backM lim M.nx M2.mem m'⟩) := by
    intro f args M' hm hd
    simp only [docall, hm, if_true, rwD] at hd ⊢
    split at hd
    · rename_i r0 M0 h0
      split at hd
      · rename_i hle
        simp only [Option.some.injEq, Prod.mk.injEq] at hd
        obtain ⟨rfl, rfl⟩ := hd
        exact ⟨M0.nx, M0.mem, hle, rfl, fun M2 h2 hn => by simp only [h2, hn, h0, if_pos hle]⟩
      · cases hd
    · cases hd
  cases i <;> simp only [kindI, reduceCtorEq] at h
  case call f as =>
    cases hm : mode f <;> rw [hm] at h <;> simp only [reduceCtorEq] at h
    simp only [istep] at hs ⊢
    exact dc hm hs
  case callk f as rs =>
    cases hm : mode f <;> rw [hm] at h <;> simp only [reduceCtorEq] at h
    simp only [istep] at hs ⊢
    split at hs
    · rename_i r0 M0 h0
      split at hs
      · rename_i hk
        simp only [Option.some.injEq, Prod.mk.injEq] at hs
        obtain ⟨rfl, rfl⟩ := hs
        obtain ⟨nx', m', h1, rfl, h3⟩ := dc hm h0
        refine ⟨nx', m', h1, rfl, fun M2 h2 hn => ?_⟩
        rw [h3 M2 h2 hn]
        have e : hideM lim (backM lim M.nx M2.mem m') = hideM lim (backM lim M.nx M.mem m') := hide_back h2
        simp only [h2, e]
        rw [if_pos hk]
      · cases hs
    · cases hs

theorem swap_mem {ia ib : I} {ρ : List AV} {M Ma Mab : MM} {va vb : AV} {f1 f2 : Nat} (hk : kindsOK (kindI mode ia) (kindI mode ib) = true) {l1 l2 : Lm} (h1 : l2.ok f1 = false) (o1 : l2.own f1 = true) (h1' : f1 < M.nx) (h2 : l1.ok f2 = false) (o2 : l1.own f2 = true) (h2' : f2 < M.nx) (hne : f1 ≠ f2)
    (ha : istep call mode true lo l1 f1 ia ρ M = some (va, Ma)) (hb : istep call mode true lo l2 f2 ib ρ Ma = some (vb, Mab)) :
    ∃ Mb, istep call mode true lo l2 f2 ib ρ M = some (vb, Mb) ∧ istep call mode true lo l1 f1 ia ρ Mb = some (va, Mab) := by
  have g1 : hid l2 f1 = true := by simp [hid, o1, h1]
  have g2 : hid l1 f2 = true := by simp [hid, o2, h2]
  have pureA : kindI mode ia = .pure → Ma = M ∧ ∀ M2, istep call mode true lo l1 f1 ia ρ M2 = some (va, M2) := fun h => by
    have e := pure_istep (call := call) (draw := true) (lo := lo) (lim := l1) (fresh := f1) h ρ M M
    rw [ha] at e
    simp only [Option.map_some, Option.some.injEq, Prod.mk.injEq, true_and] at e
    exact ⟨e, fun M2 => by rw [pure_istep h ρ M M2, ha]; rfl⟩
  have pureB : kindI mode ib = .pure → Mab = Ma ∧ ∀ M2, istep call mode true lo l2 f2 ib ρ M2 = some (vb, M2) := fun h => by
    have e := pure_istep (call := call) (draw := true) (lo := lo) (lim := l2) (fresh := f2) h ρ Ma Ma
    rw [hb] at e
    simp only [Option.map_some, Option.some.injEq, Prod.mk.injEq, true_and] at e
    exact ⟨e, fun M2 => by rw [pure_istep h ρ Ma M2, hb]; rfl⟩
  have readA : isRead (kindI mode ia) = true → Ma = M ∧ ∀ M2, look M2.mem l1 = look M.mem l1 → M2.nx = M.nx → istep call mode true lo l1 f1 ia ρ M2 = some (va, M2) := fun h => by
    have e := read_istep (call := call) (draw := true) (lo := lo) (lim := l1) (fresh := f1) h ρ M M rfl rfl
    rw [ha] at e
    simp only [Option.map_some, Option.some.injEq, Prod.mk.injEq, true_and] at e
    exact ⟨e, fun M2 q1 q2 => by rw [read_istep h ρ M M2 q1 q2, ha]; rfl⟩
  have readB : isRead (kindI mode ib) = true → Mab = Ma ∧ ∀ M2, look M2.mem l2 = look Ma.mem l2 → M2.nx = Ma.nx → istep call mode true lo l2 f2 ib ρ M2 = some (vb, M2) := fun h => by
    have e := read_istep (call := call) (draw := true) (lo := lo) (lim := l2) (fresh := f2) h ρ Ma Ma rfl rfl
    rw [hb] at e
    simp only [Option.map_some, Option.some.injEq, Prod.mk.injEq, true_and] at e
    exact ⟨e, fun M2 q1 q2 => by rw [read_istep h ρ Ma M2 q1 q2, hb]; rfl⟩
  have makeA : kindI mode ia = .make → ∃ b, Ma = M.alloc f1 b ∧ ∀ M2, istep call mode true lo l1 f1 ia ρ M2 = some (va, M2.alloc f1 b) := fun h => by
    obtain ⟨q, hq⟩ := make_istep (call := call) (draw := true) (lo := lo) (lim := l1) (fresh := f1) h ρ
    rw [hq M] at ha
    obtain ⟨p, rfl, hp⟩ := Option.map_eq_some_iff.1 ha
    simp only [Prod.mk.injEq] at hp
    obtain ⟨rfl, rfl⟩ := hp
    exact ⟨p.2, rfl, fun M2 => by rw [hq M2]; rfl⟩
  have makeB : kindI mode ib = .make → ∃ b, Mab = Ma.alloc f2 b ∧ ∀ M2, istep call mode true lo l2 f2 ib ρ M2 = some (vb, M2.alloc f2 b) := fun h => by
    obtain ⟨q, hq⟩ := make_istep (call := call) (draw := true) (lo := lo) (lim := l2) (fresh := f2) h ρ
    rw [hq Ma] at hb
    obtain ⟨p, rfl, hp⟩ := Option.map_eq_some_iff.1 hb
    simp only [Prod.mk.injEq] at hp
    obtain ⟨rfl, rfl⟩ := hp
    exact ⟨p.2, rfl, fun M2 => by rw [hq M2]; rfl⟩
  have nxalloc : ∀ (M : MM) (f : Nat) b, f < M.nx → (M.alloc f b).nx = M.nx := fun M f b h => by simp only [MM.alloc]; omega
  -- either of them is pure
  by_cases pa : kindI mode ia = .pure
  · obtain ⟨rfl, e⟩ := pureA pa
    exact ⟨Mab, hb, e _⟩
  by_cases pb : kindI mode ib = .pure
  · obtain ⟨rfl, e⟩ := pureB pb
    exact ⟨M, e M, ha⟩
  -- the first one makes
  by_cases ma : kindI mode ia = .make
  · obtain ⟨b1, rfl, e⟩ := makeA ma
    by_cases rb : isRead (kindI mode ib) = true
    · obtain ⟨rfl, q⟩ := readB rb
      exact ⟨M, q M (look_upd h1).symm (nxalloc _ _ _ h1').symm, e M⟩
    cases hkb : kindI mode ib with
    | make =>
      obtain ⟨b2, rfl, q⟩ := makeB hkb
      refine ⟨M.alloc f2 b2, q M, ?_⟩
      rw [e]
      simp only [MM.alloc, upd_comm hne, Option.some.injEq, Prod.mk.injEq, MM.mk.injEq, true_and, and_true]
      omega
    | store =>
      obtain ⟨id, b2, q1, rfl, q3⟩ := store_istep hkb hb
      have hid : id ≠ f1 := fun e => by rw [e, h1] at q1; cases q1
      refine ⟨M.put id b2, q3 M ?_, ?_⟩
      · exact congrFun (look_upd h1).symm id
      · rw [e]
        simp only [MM.alloc, MM.put, upd_comm hid]
    | tokw =>
      obtain ⟨kill, nb, rfl, q2, q4⟩ := tokw_istep hkb hb
      refine ⟨_, q4 M (fun id hi => ?_), ?_⟩
      · have : id ≠ f1 := fun e => by rw [e, h1] at hi; cases hi
        simp only [MM.alloc, upd, this, if_false]
      · rw [e]
        have hkl : ∀ id, kill = some id → id ≠ f1 := fun id h e => by have := (q2 id h).1; rw [e, h1] at this; cases this
        simp only [tokEff, MM.alloc, Option.some.injEq, Prod.mk.injEq, MM.mk.injEq, true_and]
        refine ⟨by omega, ?_⟩
        cases nb <;> cases kill <;> dsimp only
        · rw [upd_comm (hkl _ rfl)]
        · rw [upd_comm (Ne.symm hne)]
        · rw [upd_comm (Ne.symm hne), upd_comm (hkl _ rfl)]
    | callw =>
      obtain ⟨nx', m', q1, rfl, q3⟩ := callw_istep hkb hb
      have en := nxalloc M f1 b1 h1'
      refine ⟨_, q3 M (hideM_upd g1).symm en.symm, ?_⟩
      rw [e]
      simp only [MM.alloc, Option.some.injEq, Prod.mk.injEq, MM.mk.injEq, true_and]
      simp only [MM.alloc] at en q1
      refine ⟨by omega, ?_⟩
      rw [en, backM_upd g1]
    | pure => exact absurd hkb pb
    | read => rw [hkb] at rb; exact absurd rfl rb
    | readm => rw [hkb] at rb; exact absurd rfl rb
    | write => rw [ma, hkb] at hk; cases hk
  by_cases mb : kindI mode ib = .make
  · obtain ⟨b2, rfl, q⟩ := makeB mb
    by_cases ra : isRead (kindI mode ia) = true
    · obtain ⟨rfl, e⟩ := readA ra
      exact ⟨_, q _, e _ (look_upd h2) (nxalloc _ _ _ h2')⟩
    cases hka : kindI mode ia with
    | store =>
      obtain ⟨id, b1, q1, rfl, q3⟩ := store_istep hka ha
      have hid : id ≠ f2 := fun e => by rw [e, h2] at q1; cases q1
      refine ⟨M.alloc f2 b2, q M, ?_⟩
      rw [q3 _ (congrFun (look_upd h2) id)]
      simp only [MM.alloc, MM.put, upd_comm hid]
    | tokw =>
      obtain ⟨kill, nb, rfl, q2, q4⟩ := tokw_istep hka ha
      refine ⟨M.alloc f2 b2, q M, ?_⟩
      rw [q4 (M.alloc f2 b2) (fun id hi => by
        have : id ≠ f2 := fun e => by rw [e, h2] at hi; cases hi
        simp only [MM.alloc, upd, this, if_false])]
      have hkl : ∀ id, kill = some id → id ≠ f2 := fun id h e => by have := (q2 id h).1; rw [e, h2] at this; cases this
      simp only [tokEff, MM.alloc, Option.some.injEq, Prod.mk.injEq, MM.mk.injEq, true_and]
      refine ⟨by omega, ?_⟩
      cases nb <;> cases kill <;> dsimp only
      · rw [upd_comm (Ne.symm (hkl _ rfl))]
      · rw [upd_comm (Ne.symm hne)]
      · rw [upd_comm (Ne.symm (hkl _ rfl)), upd_comm (Ne.symm hne)]
    | callw =>
      obtain ⟨nx', m', q1, rfl, q3⟩ := callw_istep hka ha
      have en := nxalloc M f2 b2 h2'
      refine ⟨M.alloc f2 b2, q M, ?_⟩
      rw [q3 (M.alloc f2 b2) (hideM_upd g2) en]
      simp only [MM.alloc, Option.some.injEq, Prod.mk.injEq, MM.mk.injEq, true_and]
      refine ⟨by omega, ?_⟩
      rw [backM_upd g2]
    | make => exact absurd hka ma
    | pure => exact absurd hka pa
    | read => rw [hka] at ra; exact absurd rfl ra
    | readm => rw [hka] at ra; exact absurd rfl ra
    | write => rw [mb, hka] at hk; cases hk
  -- both read
  by_cases rr : isRead (kindI mode ia) = true ∧ isRead (kindI mode ib) = true
  · obtain ⟨rfl, e⟩ := readA rr.1
    obtain ⟨rfl, q⟩ := readB rr.2
    exact ⟨_, hb, ha⟩
  -- a token and a load
  have ntk : ∀ {l : Lm} {f : Nat} {kill : Option Nat} {nb : Option Blk}, l.ok f = false → (∀ id, kill = some id → ∃ t u, M.mem id = some (.tok t u)) → ∀ id, nt (look (tokEff f kill nb M).mem l id) = nt (look M.mem l id) := fun {l f kill nb} hf hkl id => by
    unfold look
    split
    · rename_i hi
      have hn : id ≠ f := fun e => by rw [e, hf] at hi; cases hi
      have e0 : (tokEff f kill nb M).mem id = (match kill with | some id => upd M.mem id none | none => M.mem) id := by
        unfold tokEff
        cases nb with
        | none => rfl
        | some b => simp only [upd, hn, if_false]
      rw [e0]
      cases kill with
      | none => rfl
      | some j =>
        simp only [upd]
        split
        · rename_i e
          obtain ⟨t, u, hm⟩ := hkl j rfl
          rw [e, hm]; rfl
        · rfl
    · rfl
  by_cases ta : kindI mode ia = .tokw ∧ kindI mode ib = .read
  · obtain ⟨kill, nb, rfl, q2, q4⟩ := tokw_istep ta.1 ha
    have hl := ntk (nb := nb) h1 (fun id h => (q2 id h).2)
    have hn : (tokEff f1 kill nb M).nx = M.nx := by simp only [tokEff]; omega
    have eb := readE_istep (call := call) (draw := true) (lo := lo) (lim := l2) (fresh := f2) ta.2 ρ M (tokEff f1 kill nb M) hl hn
    rw [hb] at eb
    obtain ⟨p, hp, he⟩ := Option.map_eq_some_iff.1 eb.symm
    simp only [Prod.mk.injEq] at he
    have e2 := readE_istep (call := call) (draw := true) (lo := lo) (lim := l2) (fresh := f2) ta.2 ρ M M (fun _ => rfl) rfl
    rw [hp] at e2
    simp only [Option.map_some, Option.some.injEq] at e2
    have e3 : p = (vb, M) := by rw [e2, he.1]
    exact ⟨M, by rw [hp, e3], by rw [ha, ← he.2]⟩
  by_cases tb : kindI mode ia = .read ∧ kindI mode ib = .tokw
  · obtain ⟨rfl, e⟩ := readA (by rw [tb.1]; rfl)
    obtain ⟨kill, nb, rfl, q2, q4⟩ := tokw_istep tb.2 hb
    have hl := ntk (nb := nb) h2 (fun id h => (q2 id h).2)
    have hn : (tokEff f2 kill nb Ma).nx = Ma.nx := by simp only [tokEff]; omega
    refine ⟨_, hb, ?_⟩
    rw [readE_istep tb.1 ρ Ma (tokEff f2 kill nb Ma) hl hn, ha]; rfl
  exfalso
  generalize kindI mode ia = ka at *
  generalize kindI mode ib = kb at *
  cases ka <;> cases kb <;> simp_all [kindsOK, isRead]

theorem swap_step {a b : Op1} {s s1 s2 : St} {f1 f2 : Nat} (hab : swapOK mode a b = true) {l1 l2 : Lm} (h1 : l2.ok f1 = false) (o1 : l2.own f1 = true) (h1' : f1 < s.M.nx) (h2 : l1.ok f2 = false) (o2 : l1.own f2 = true) (h2' : f2 < s.M.nx) (hne : f1 ≠ f2)
    (ha : step1 call mode true lo l1 f1 a s = some s1) (hb : step1 call mode true lo l2 f2 b s1 = some s2) :
    ∃ s1', step1 call mode true lo l2 f2 b s = some s1' ∧ step1 call mode true lo l1 f1 a s1' = some s2 := by
  simp only [swapOK, Bool.and_eq_true] at hab
  obtain ⟨⟨hda, hdb⟩, hk⟩ := hab
  obtain ⟨ρ, M⟩ := s
  unfold step1 at ha
  split at ha
  · cases ha
  · rename_i hwa
    simp only [Option.some.injEq] at ha; subst ha
    unfold step1 at hb
    simp only [want_setO hda] at hb
    split at hb
    · cases hb
    · rename_i hwb
      simp only [Option.some.injEq] at hb; subst hb
      refine ⟨⟨setO ρ b.dst .undef, M⟩, by simp only [step1, hwb], ?_⟩
      simp only [step1, want_setO hdb, hwa, setO_comm hda]
    · rename_i hwb
      simp only [istep_setO hda] at hb
      split at hb
      · rename_i v M' hi
        simp only [Option.some.injEq] at hb; subst hb
        refine ⟨⟨setO ρ b.dst v, M'⟩, by simp only [step1, hwb, hi], ?_⟩
        simp only [step1, want_setO hdb, hwa, setO_comm hda]
      · cases hb
  · rename_i hwa
    split at ha
    · rename_i va Ma hia
      simp only [Option.some.injEq] at ha; subst ha
      unfold step1 at hb
      simp only [want_setO hda] at hb
      split at hb
      · cases hb
      · rename_i hwb
        simp only [Option.some.injEq] at hb; subst hb
        refine ⟨⟨setO ρ b.dst .undef, M⟩, by simp only [step1, hwb], ?_⟩
        simp only [step1, want_setO hdb, hwa, istep_setO hdb, hia, setO_comm hda]
      · rename_i hwb
        simp only [istep_setO hda] at hb
        split at hb
        · rename_i vb Mab hib
          simp only [Option.some.injEq] at hb; subst hb
          have hsw : ∃ Mb, istep call mode true lo l2 f2 b.i ρ M = some (vb, Mb) ∧ istep call mode true lo l1 f1 a.i ρ Mb = some (va, Mab) := by
            rcases Bool.or_eq_true _ _ ▸ hk with hk | hk
            · exact swap_mem hk h1 o1 h1' h2 o2 h2' hne hia hib
            · exact swap_roots hk hia hib
          obtain ⟨Mb, q1, q2⟩ := hsw
          refine ⟨⟨setO ρ b.dst vb, Mb⟩, by simp only [step1, hwb, q1], ?_⟩
          simp only [step1, want_setO hdb, hwa, istep_setO hdb, q2, setO_comm hda]
        · cases hb
    · cases ha
end
end Go.Proofs.Ytegkhdflmboljaa.Sx
