/-
  SX, PART Y: OPERATIONS THAT CHANGE PLACES.
-/
import Derived.Test.YtabhppamkhldeaaSxX
namespace Go.Proofs.Ytabhppamkhldeaa.Sx
open Go

section
variable {call : CallT} {mode : FuncId → Mode} {draw : Bool} {lo lim fresh : Nat}

/-! ### A slot that is not read -/
theorem ev_set {ρ : List AV} {d : Nat} {v : AV} {x : X} (h : d ∉ x.slots) : ev (ρ.set d v) x = ev ρ x := by
  cases x with
  | t i =>
    have : d ≠ i := by simpa [X.slots] using h
    simp [ev, List.getD, this]
  | k a => rfl

theorem evs_set {ρ : List AV} {d : Nat} {v : AV} {xs : List X} (h : d ∉ xs.flatMap X.slots) : xs.map (ev (ρ.set d v)) = xs.map (ev ρ) := by
  apply List.map_congr_left
  intro x hx
  exact ev_set (fun hm => h (List.mem_flatMap.2 ⟨x, hx, hm⟩))

theorem parts_set {ρ : List AV} {d : Nat} {v : AV} {ps : List (Nat × Nat × X)} (h : d ∉ ps.flatMap (·.2.2.slots)) : (ps.map fun p => (p.1, p.2.1, ev (ρ.set d v) p.2.2)) = ps.map fun p => (p.1, p.2.1, ev ρ p.2.2) := by
  apply List.map_congr_left
  intro x hx
  rw [ev_set (fun hm => h (List.mem_flatMap.2 ⟨x, hx, hm⟩))]

theorem hi_set {ρ : List AV} {d n : Nat} {v : AV} {x : Option X} (h : d ∉ x.toList.flatMap X.slots) : hiOf (ρ.set d v) n x = hiOf ρ n x := by
  cases x with
  | none => rfl
  | some x => simp only [hiOf]; rw [ev_set (by simpa using h)]

theorem lo_set {ρ : List AV} {d : Nat} {v : AV} {x : Option X} (h : d ∉ x.toList.flatMap X.slots) : loOf (ρ.set d v) x = loOf ρ x := by
  cases x with
  | none => rfl
  | some x => simp only [loOf]; rw [ev_set (by simpa using h)]

theorem istep_set {i : I} {ρ : List AV} {M : MM} {d : Nat} {v : AV} (h : d ∉ i.slots) : istep call mode draw lo lim fresh i (ρ.set d v) M = istep call mode draw lo lim fresh i ρ M := by
  cases i with
  | mov x | box t x | ld1 x | ldn n x | nilc x | un op x | cvi k x | cvs x | b2s x | fad o x | fld o n g x | ext x j | lens x | len x | lenm x => simp only [I.slots] at h; simp only [istep, ev_set h]
  | st n a b | bin op e a b | mkslice t s y z a b | ixs s a b | ixp s l a b | ixv s l g a b | ixc a b | lkp kk cm z a b | mdel kk a b | mmax mx a b | app t s y z a b =>
    simp only [I.slots, List.mem_append, not_or] at h; simp only [istep, ev_set h.1, ev_set h.2]
  | pick a b c | mset kk a b c => simp only [I.slots, List.mem_append, not_or] at h; simp only [istep, ev_set h.1.1, ev_set h.1.2, ev_set h.2]
  | new t cs => rfl
  | mkmap kk => rfl
  | mk z ps => simp only [I.slots] at h; simp only [istep, parts_set h]
  | mksl t n s z ps => simp only [I.slots] at h; simp only [istep, parts_set h]
  | mkf f as bs => simp only [I.slots, List.mem_append, not_or] at h; simp only [istep, evs_set h.1, evs_set h.2]
  | slstr x l u => simp only [I.slots, List.mem_append, not_or] at h; simp only [istep, ev_set h.1.1, lo_set h.1.2, hi_set h.2]
  | slsl s x l u => simp only [I.slots, List.mem_append, not_or] at h; simp only [istep, ev_set h.1.1, lo_set h.1.2, hi_set h.2]
  | call f as => simp only [I.slots] at h; simp only [istep, evs_set h]
  | callv x as => simp only [I.slots, List.mem_append, not_or] at h; simp only [istep, ev_set h.1, evs_set h.2]

theorem istep_setO {o : Op1} {ρ : List AV} {M : MM} {d : Option Nat} {v : AV} (h : dstFree d o = true) : istep call mode draw lo lim fresh o.i (setO ρ d v) M = istep call mode draw lo lim fresh o.i ρ M := by
  cases d with
  | none => rfl
  | some d =>
    simp only [dstFree, Op1.reads, Bool.and_eq_true, Bool.not_eq_true'] at h
    have : d ∉ o.i.slots := fun hm => by
      have := h.2
      simp [hm] at this
    exact istep_set this

theorem want_setO {o : Op1} {ρ : List AV} {d : Option Nat} {v : AV} (h : dstFree d o = true) : want o.g (setO ρ d v) = want o.g ρ := by
  cases d with
  | none => rfl
  | some d =>
    simp only [dstFree, Op1.reads, Bool.and_eq_true, Bool.not_eq_true'] at h
    cases hg : o.g with
    | none => rfl
    | some g =>
      obtain ⟨s, b⟩ := g
      have hne : d ≠ s := fun e => by
        subst e
        have := h.2
        simp [hg] at this
      simp only [want, setO, List.getElem?_set, hne, if_false]

theorem setO_comm {o : Op1} {ρ : List AV} {d : Option Nat} {v u : AV} (h : dstFree d o = true) : setO (setO ρ d v) o.dst u = setO (setO ρ o.dst u) d v := by
  cases d with
  | none => rfl
  | some d =>
    cases ho : o.dst with
    | none => rfl
    | some e =>
      simp only [dstFree, ho, Bool.and_eq_true] at h
      have hne : e ≠ d := fun e' => by subst e'; simp at h
      simp only [setO]
      rw [List.set_comm _ _ (Ne.symm hne)]

/-! ### What each kind of instruction asks and leaves -/
theorem map_map_fst {α β γ : Type} (x : Option (α × β)) (c : γ) : x.map (fun p => (p.1, c)) = (x.map (·.1)).map (·, c) := by cases x <;> rfl

theorem pure_istep {i : I} (h : kindI mode i = .pure) (ρ : List AV) (M M2 : MM) : istep call mode draw lo lim fresh i ρ M2 = (istep call mode draw lo lim fresh i ρ M).map fun p => (p.1, M2) := by
  cases i <;> simp only [kindI, reduceCtorEq] at h <;> simp only [istep]
  case call f as => cases hm : mode f <;> rw [hm] at h <;> simp only [reduceCtorEq] at h
  all_goals (repeat' split)
  all_goals (try rfl)
  all_goals (simp only [Option.map_map]; rfl)

theorem read_istep {i : I} (h : kindI mode i = .read) (ρ : List AV) (M M2 : MM) (hl : look M2.mem lim = look M.mem lim) (hn : M2.nx = M.nx) :
    istep call mode draw lo lim fresh i ρ M2 = (istep call mode draw lo lim fresh i ρ M).map fun p => (p.1, M2) := by
  have hl' : ∀ id, look M2.mem lim id = look M.mem lim id := fun id => congrFun hl id
  cases i <;> simp only [kindI, reduceCtorEq] at h <;> simp only [istep, hl']
  case b2s x =>
    have e : sliceCells M2.mem lim 1 (ev ρ x) = sliceCells M.mem lim 1 (ev ρ x) := by
      generalize ev ρ x = y
      cases y <;> simp only [sliceCells, hl']
    rw [e]
    split
    · simp only [Option.map_map]; rfl
    · rfl
  case call f as =>
    cases hm : mode f <;> rw [hm] at h <;> simp only [reduceCtorEq] at h <;> simp only [docall, hm, hl, hn]
    all_goals (repeat' split)
    all_goals (try rfl)
    all_goals (simp_all [Function.comp_def])
  all_goals (repeat' split)
  all_goals (try rfl)
  all_goals (simp_all [Function.comp_def])

theorem make_istep {i : I} (h : kindI mode i = .make) (ρ : List AV) : ∃ q : Option (AV × Blk), ∀ M, istep call mode draw lo lim fresh i ρ M = q.map fun p => (p.1, M.alloc fresh p.2) := by
  cases i <;> simp only [kindI, reduceCtorEq] at h <;> simp only [istep]
  case new t cs => exact ⟨some (.ptr fresh 0, .cells t cs), fun M => rfl⟩
  case box t x =>
    split
    · exact ⟨none, fun M => rfl⟩
    · rename_i a _; exact ⟨some (.ptr fresh 0, .cells t (ev ρ x).cells), fun M => rfl⟩
  case mksl t n s z ps => exact ⟨(fill z (ps.map fun p => (p.1, p.2.1, ev ρ p.2.2))).map fun cs => (.os fresh 0 n s, .cells t cs), fun M => by rw [Option.map_map]; rfl⟩
  case mkmap kk => exact ⟨some (.mp fresh, .map kk []), fun M => rfl⟩
  case mkslice t s b z l c =>
    split
    · rename_i l' c' _ _
      split
      · exact ⟨some (.os fresh 0 l'.toNat s, .cells t ((List.replicate l'.toNat z).flatten)), fun M => rfl⟩
      · exact ⟨none, fun M => rfl⟩
    · exact ⟨none, fun M => rfl⟩
  case call f as => cases hm : mode f <;> rw [hm] at h <;> simp only [reduceCtorEq] at h

theorem store_istep {i : I} (h : kindI mode i = .store) {ρ : List AV} {M M' : MM} {r : AV} (hs : istep call mode draw lo lim fresh i ρ M = some (r, M')) :
    ∃ id b, id < lim ∧ M' = M.put id b ∧ ∀ M2, look M2.mem lim id = look M.mem lim id → istep call mode draw lo lim fresh i ρ M2 = some (r, M2.put id b) := by
  cases i <;> simp only [kindI, reduceCtorEq] at h
  case st n a x =>
    simp only [istep] at hs
    split at hs
    · rename_i id off heq
      split at hs
      · rename_i t cs hlk
        split at hs
        · rename_i hc
          simp only [Option.some.injEq, Prod.mk.injEq] at hs
          obtain ⟨rfl, rfl⟩ := hs
          refine ⟨id, _, (look_some hlk).2, rfl, fun M2 h2 => ?_⟩
          simp only [istep, heq, h2, hlk, if_pos hc]
        · cases hs
      · cases hs
    · cases hs
  case call f as => cases hm : mode f <;> rw [hm] at h <;> simp only [reduceCtorEq] at h

theorem upd_comm {m : Mem} {i j : Nat} {a b : Option Blk} (h : i ≠ j) : upd (upd m i a) j b = upd (upd m j b) i a := by
  funext k
  simp only [upd]
  by_cases h1 : k = j <;> by_cases h2 : k = i <;> simp_all

theorem look_upd {m : Mem} {lim f : Nat} {b : Option Blk} (h : lim ≤ f) : look (upd m f b) lim = look m lim := by
  funext k
  unfold look upd
  split
  · rw [if_neg (by omega)]
  · rfl

/-- Two instructions that may change places: memory. -/
theorem swap_mem {ia ib : I} {ρ : List AV} {M Ma Mab : MM} {va vb : AV} {f1 f2 : Nat} (hk : kindsOK (kindI mode ia) (kindI mode ib) = true) (h1 : lim ≤ f1) (h1' : f1 < M.nx) (h2 : lim ≤ f2) (h2' : f2 < M.nx) (hne : f1 ≠ f2)
    (ha : istep call mode draw lo lim f1 ia ρ M = some (va, Ma)) (hb : istep call mode draw lo lim f2 ib ρ Ma = some (vb, Mab)) :
    ∃ Mb, istep call mode draw lo lim f2 ib ρ M = some (vb, Mb) ∧ istep call mode draw lo lim f1 ia ρ Mb = some (va, Mab) := by
  have pureA : kindI mode ia = .pure → Ma = M ∧ ∀ M2, istep call mode draw lo lim f1 ia ρ M2 = some (va, M2) := fun h => by
    have e := pure_istep (call := call) (draw := draw) (lo := lo) (lim := lim) (fresh := f1) h ρ M M
    rw [ha] at e
    simp only [Option.map_some, Option.some.injEq, Prod.mk.injEq, true_and] at e
    exact ⟨e, fun M2 => by rw [pure_istep h ρ M M2, ha]; rfl⟩
  have readA : kindI mode ia = .read → Ma = M ∧ ∀ M2, look M2.mem lim = look M.mem lim → M2.nx = M.nx → istep call mode draw lo lim f1 ia ρ M2 = some (va, M2) := fun h => by
    have e := read_istep (call := call) (draw := draw) (lo := lo) (lim := lim) (fresh := f1) h ρ M M rfl rfl
    rw [ha] at e
    simp only [Option.map_some, Option.some.injEq, Prod.mk.injEq, true_and] at e
    exact ⟨e, fun M2 q1 q2 => by rw [read_istep h ρ M M2 q1 q2, ha]; rfl⟩
  have makeA : kindI mode ia = .make → ∃ b, Ma = M.alloc f1 b ∧ ∀ M2, istep call mode draw lo lim f1 ia ρ M2 = some (va, M2.alloc f1 b) := fun h => by
    obtain ⟨q, hq⟩ := make_istep (call := call) (draw := draw) (lo := lo) (lim := lim) (fresh := f1) h ρ
    rw [hq M] at ha
    obtain ⟨p, rfl, hp⟩ := Option.map_eq_some_iff.1 ha
    simp only [Prod.mk.injEq] at hp
    obtain ⟨rfl, rfl⟩ := hp
    exact ⟨p.2, rfl, fun M2 => by rw [hq M2]; rfl⟩
  have nxalloc : ∀ (M : MM) (f : Nat) b, f < M.nx → (M.alloc f b).nx = M.nx := fun M f b h => by simp only [MM.alloc]; omega
  cases hka : kindI mode ia with
  | pure =>
    obtain ⟨rfl, e⟩ := pureA hka
    exact ⟨Mab, hb, e _⟩
  | read =>
    obtain ⟨rfl, e⟩ := readA hka
    cases hkb : kindI mode ib with
    | pure =>
      have q := pure_istep (call := call) (draw := draw) (lo := lo) (lim := lim) (fresh := f2) hkb ρ Ma Ma
      rw [hb] at q
      simp only [Option.map_some, Option.some.injEq, Prod.mk.injEq, true_and] at q
      subst q
      exact ⟨_, hb, ha⟩
    | read =>
      have q := read_istep (call := call) (draw := draw) (lo := lo) (lim := lim) (fresh := f2) hkb ρ Ma Ma rfl rfl
      rw [hb] at q
      simp only [Option.map_some, Option.some.injEq, Prod.mk.injEq, true_and] at q
      subst q
      exact ⟨_, hb, ha⟩
    | make =>
      obtain ⟨q, hq⟩ := make_istep (call := call) (draw := draw) (lo := lo) (lim := lim) (fresh := f2) hkb ρ
      have hb' := hb
      rw [hq Ma] at hb'
      obtain ⟨p, rfl, hp⟩ := Option.map_eq_some_iff.1 hb'
      simp only [Prod.mk.injEq] at hp
      obtain ⟨rfl, rfl⟩ := hp
      exact ⟨_, hb, e _ (look_upd h2) (nxalloc _ _ _ h2')⟩
    | store => rw [hka, hkb] at hk; cases hk
    | write => rw [hka, hkb] at hk; cases hk
  | make =>
    obtain ⟨b1, rfl, e⟩ := makeA hka
    cases hkb : kindI mode ib with
    | pure =>
      have q := pure_istep (call := call) (draw := draw) (lo := lo) (lim := lim) (fresh := f2) hkb ρ (M.alloc f1 b1)
      have q1 := q (M.alloc f1 b1)
      rw [hb] at q1
      simp only [Option.map_some, Option.some.injEq, Prod.mk.injEq, true_and] at q1
      have q2 := q M
      rw [hb] at q2
      exact ⟨M, q2, by rw [e M, q1]⟩
    | read =>
      have hl : look M.mem lim = look (M.alloc f1 b1).mem lim := (look_upd h1).symm
      have q2 := read_istep (call := call) (draw := draw) (lo := lo) (lim := lim) (fresh := f2) hkb ρ (M.alloc f1 b1) M hl (nxalloc _ _ _ h1').symm
      have q1 := read_istep (call := call) (draw := draw) (lo := lo) (lim := lim) (fresh := f2) hkb ρ (M.alloc f1 b1) (M.alloc f1 b1) rfl rfl
      rw [hb] at q1 q2
      simp only [Option.map_some, Option.some.injEq, Prod.mk.injEq, true_and] at q1
      exact ⟨M, q2, by rw [e M, q1]⟩
    | make =>
      obtain ⟨q, hq⟩ := make_istep (call := call) (draw := draw) (lo := lo) (lim := lim) (fresh := f2) hkb ρ
      rw [hq] at hb
      obtain ⟨p, rfl, hp⟩ := Option.map_eq_some_iff.1 hb
      simp only [Prod.mk.injEq] at hp
      obtain ⟨rfl, rfl⟩ := hp
      refine ⟨M.alloc f2 p.2, by rw [hq]; rfl, ?_⟩
      rw [e]
      simp only [MM.alloc, upd_comm hne, Option.some.injEq, Prod.mk.injEq, MM.mk.injEq, true_and, and_true]
      omega
    | store =>
      obtain ⟨id, b2, g1, rfl, g3⟩ := store_istep hkb hb
      have hid : id ≠ f1 := by omega
      refine ⟨M.put id b2, g3 M ?_, ?_⟩
      · exact congrFun (look_upd h1).symm id
      · rw [e]
        simp only [MM.alloc, MM.put, upd_comm hid]
    | write => rw [hka, hkb] at hk; cases hk
  | store =>
    obtain ⟨id, b1, g1, rfl, g3⟩ := store_istep hka ha
    cases hkb : kindI mode ib with
    | pure =>
      have q := pure_istep (call := call) (draw := draw) (lo := lo) (lim := lim) (fresh := f2) hkb ρ (M.put id b1)
      have q1 := q (M.put id b1)
      rw [hb] at q1
      simp only [Option.map_some, Option.some.injEq, Prod.mk.injEq, true_and] at q1
      have q2 := q M
      rw [hb] at q2
      exact ⟨M, q2, by rw [ha, q1]⟩
    | make =>
      obtain ⟨q, hq⟩ := make_istep (call := call) (draw := draw) (lo := lo) (lim := lim) (fresh := f2) hkb ρ
      rw [hq] at hb
      obtain ⟨p, rfl, hp⟩ := Option.map_eq_some_iff.1 hb
      simp only [Prod.mk.injEq] at hp
      obtain ⟨rfl, rfl⟩ := hp
      have hid : id ≠ f2 := by omega
      refine ⟨M.alloc f2 p.2, by rw [hq]; rfl, ?_⟩
      rw [g3 _ (congrFun (look_upd h2) id)]
      simp only [MM.alloc, MM.put, upd_comm hid]
    | read => rw [hka, hkb] at hk; cases hk
    | store => rw [hka, hkb] at hk; cases hk
    | write => rw [hka, hkb] at hk; cases hk
  | write =>
    cases hkb : kindI mode ib with
    | pure =>
      have q := pure_istep (call := call) (draw := draw) (lo := lo) (lim := lim) (fresh := f2) hkb ρ Ma
      have q1 := q Ma
      rw [hb] at q1
      simp only [Option.map_some, Option.some.injEq, Prod.mk.injEq, true_and] at q1
      have q2 := q M
      rw [hb] at q2
      exact ⟨M, q2, by rw [ha, q1]⟩
    | read => rw [hka, hkb] at hk; cases hk
    | make => rw [hka, hkb] at hk; cases hk
    | store => rw [hka, hkb] at hk; cases hk
    | write => rw [hka, hkb] at hk; cases hk

/-- .. and frames. -/
theorem swap_step {a b : Op1} {s s1 s2 : St} {f1 f2 : Nat} (hab : swapOK mode a b = true) (h1 : lim ≤ f1) (h1' : f1 < s.M.nx) (h2 : lim ≤ f2) (h2' : f2 < s.M.nx) (hne : f1 ≠ f2)
    (ha : step1 call mode draw lo lim f1 a s = some s1) (hb : step1 call mode draw lo lim f2 b s1 = some s2) :
    ∃ s1', step1 call mode draw lo lim f2 b s = some s1' ∧ step1 call mode draw lo lim f1 a s1' = some s2 := by
  simp only [swapOK, Bool.and_eq_true] at hab
  obtain ⟨⟨hda, hdb⟩, hk⟩ := hab
  obtain ⟨ρ, M⟩ := s
  unfold step1 at ha
  split at ha
  · cases ha
  · rename_i hwa
    simp only [Option.some.injEq] at ha; subst ha
    unfold step1 at hb
    simp only [want_setO hda] at hb
    split at hb
    · cases hb
    · rename_i hwb
      simp only [Option.some.injEq] at hb; subst hb
      refine ⟨⟨setO ρ b.dst .undef, M⟩, by simp only [step1, hwb], ?_⟩
      simp only [step1, want_setO hdb, hwa, setO_comm hda]
    · rename_i hwb
      simp only [istep_setO hda] at hb
      split at hb
      · rename_i v M' hi
        simp only [Option.some.injEq] at hb; subst hb
        refine ⟨⟨setO ρ b.dst v, M'⟩, by simp only [step1, hwb, hi], ?_⟩
        simp only [step1, want_setO hdb, hwa, setO_comm hda]
      · cases hb
  · rename_i hwa
    split at ha
    · rename_i va Ma hia
      simp only [Option.some.injEq] at ha; subst ha
      unfold step1 at hb
      simp only [want_setO hda] at hb
      split at hb
      · cases hb
      · rename_i hwb
        simp only [Option.some.injEq] at hb; subst hb
        refine ⟨⟨setO ρ b.dst .undef, M⟩, by simp only [step1, hwb], ?_⟩
        simp only [step1, want_setO hdb, hwa, istep_setO hdb, hia, setO_comm hda]
      · rename_i hwb
        simp only [istep_setO hda] at hb
        split at hb
        · rename_i vb Mab hib
          simp only [Option.some.injEq] at hb; subst hb
          obtain ⟨Mb, q1, q2⟩ := swap_mem hk h1 h1' h2 h2' hne hia hib
          refine ⟨⟨setO ρ b.dst vb, Mb⟩, by simp only [step1, hwb, q1], ?_⟩
          simp only [step1, want_setO hdb, hwa, istep_setO hdb, q2, setO_comm hda]
        · cases hb
    · cases ha
end
end Go.Proofs.Ytabhppamkhldeaa.Sx
