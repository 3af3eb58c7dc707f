/-
  SX, PART Z0: REGIONS.
-/
import Derived.Test.YtegkhdflmboljaaSxYPl
import Derived.Below
import Derived.LoopN
namespace Go.Proofs.Ytegkhdflmboljaa.Sx
open Go

section
variable {P : Program} {call : CallT} {mode : FuncId → Mode}

/-! ### A region in some order, on the abstract side -/
def runL (call : CallT) (mode : FuncId → Mode) (lo base n : Nat) (cs : List Op1) : List Nat → St → Option St
  | [], s => some s
  | i :: l, s => match cs[i]? with
    | some o => match step1 call mode true lo ⟨base, n, o.m, o.w⟩ (base + i) o s with
      | some s' => runL call mode lo base n cs l s'
      | none => none
    | none => none

theorem regD_runL (lo base n : Nat) (cs : List Op1) : ∀ (r : List Op1) (i : Nat) (s : St), (∀ j, r[j]? = cs[i + j]?) → regD call mode lo base n r i s = runL call mode lo base n cs (List.range' i r.length) s
  | [], i, s, h => by simp [regD, runL]
  | o :: r, i, s, h => by
    have h0 : cs[i]? = some o := by simpa using (h 0).symm
    simp only [regD, List.length_cons, List.range'_succ, runL, h0]
    cases step1 call mode true lo ⟨base, n, o.m, o.w⟩ (base + i) o s with
    | none => rfl
    | some s' => exact regD_runL lo base n cs r (i + 1) s' (fun j => by have := h (j + 1); simpa [Nat.add_assoc, Nat.add_comm 1 j] using this)

theorem istep_nx {lo : Nat} {lim : Lm} {fresh : Nat} {i : I} {ρ : List AV} {M M' : MM} {r : AV} (h : istep call mode true lo lim fresh i ρ M = some (r, M')) (hf : fresh < M.nx) : M.nx ≤ M'.nx := by
  have dc : ∀ {f : FuncId} {args : List AV} {r : AV} {M' : MM}, docall call mode true lo lim f args M = some (r, M') → M.nx ≤ M'.nx := by
    intro f args r M' h
    unfold docall at h
    split at h
    · repeat' split at h
      all_goals first | (simp only [Option.some.injEq, Prod.mk.injEq] at h; rw [← h.2]; exact Nat.le_refl _) | cases h
    · split at h
      · obtain ⟨_, _, hh⟩ := Option.map_eq_some_iff.1 h
        simp only [Prod.mk.injEq] at hh
        rw [← hh.2]; exact Nat.le_refl _
      · cases h
    · simp only [if_true] at h
      unfold rwD at h
      split at h
      · split at h
        · rename_i hle
          simp only [Option.some.injEq, Prod.mk.injEq] at h; rw [← h.2]; exact hle
        · cases h
      · cases h
  cases hk : kindI mode i with
  | pure =>
    have e := pure_istep (call := call) (draw := true) (lo := lo) (lim := lim) (fresh := fresh) hk ρ M M
    rw [h] at e
    simp only [Option.map_some, Option.some.injEq, Prod.mk.injEq, true_and] at e
    rw [e]; exact Nat.le_refl _
  | read =>
    have e := read_istep (call := call) (draw := true) (lo := lo) (lim := lim) (fresh := fresh) (by rw [hk]; rfl) ρ M M rfl rfl
    rw [h] at e
    simp only [Option.map_some, Option.some.injEq, Prod.mk.injEq, true_and] at e
    rw [e]; exact Nat.le_refl _
  | readm =>
    have e := read_istep (call := call) (draw := true) (lo := lo) (lim := lim) (fresh := fresh) (by rw [hk]; rfl) ρ M M rfl rfl
    rw [h] at e
    simp only [Option.map_some, Option.some.injEq, Prod.mk.injEq, true_and] at e
    rw [e]; exact Nat.le_refl _
  | tokw =>
    obtain ⟨kill, nb, rfl, _⟩ := tokw_istep hk h
    simp only [tokEff]; omega
  | callw =>
    obtain ⟨nx', m', h1, rfl, _⟩ := callw_istep hk h
    exact h1
  | make =>
    obtain ⟨q, hq⟩ := make_istep (call := call) (draw := true) (lo := lo) (lim := lim) (fresh := fresh) hk ρ
    rw [hq] at h
    obtain ⟨p, _, hp⟩ := Option.map_eq_some_iff.1 h
    simp only [Prod.mk.injEq] at hp
    rw [← hp.2]
    simp only [MM.alloc]; omega
  | store =>
    obtain ⟨id, b, _, rfl, _⟩ := store_istep hk h
    exact Nat.le_refl _
  | write =>
    cases i <;> simp only [kindI, reduceCtorEq] at hk
    case call f as => cases hm : mode f <;> rw [hm] at hk <;> simp only [reduceCtorEq] at hk
    case callv x as =>
      simp only [istep] at h
      split at h
      · exact dc h
      · cases h
    case callw no x as =>
      simp only [istep] at h
      split at h
      · split at h
        · cases h
        · exact dc h
      · cases h
    case callk f as rs =>
      simp only [istep] at h
      split at h
      · rename_i r0 M0 h0
        split at h
        · simp only [Option.some.injEq, Prod.mk.injEq] at h
          rw [← h.2]; exact dc h0
        · cases h
      · cases h
    case lnew cs =>
      simp only [istep, Option.some.injEq, Prod.mk.injEq] at h
      rw [← h.2]; simp only [MM.up]; omega
    case lbox x =>
      simp only [istep] at h
      split at h
      · cases h
      · simp only [Option.some.injEq, Prod.mk.injEq] at h
        rw [← h.2]; simp only [MM.up]; omega
    case mset kk m k x =>
      simp only [istep] at h
      repeat' split at h
      all_goals first | (simp only [Option.some.injEq, Prod.mk.injEq] at h; rw [← h.2]; exact Nat.le_refl _) | cases h
    case mdel kk m k =>
      simp only [istep] at h
      repeat' split at h
      all_goals first | (simp only [Option.some.injEq, Prod.mk.injEq] at h; rw [← h.2]; exact Nat.le_refl _) | cases h
    case wapp sz b s x =>
      simp only [istep] at h
      repeat' split at h
      all_goals first | (simp only [Option.some.injEq, Prod.mk.injEq] at h; rw [← h.2]; simp only [MM.up]; omega) | cases h
    case wext sz b z s x =>
      simp only [istep] at h
      repeat' split at h
      all_goals first | (simp only [Option.some.injEq, Prod.mk.injEq] at h; rw [← h.2]; simp only [MM.up]; omega) | cases h
    case wsl n z ps =>
      simp only [istep] at h
      split at h
      · obtain ⟨ds, _, hh⟩ := Option.map_eq_some_iff.1 h
        simp only [Prod.mk.injEq] at hh
        rw [← hh.2]; simp only [MM.up]; omega
      · cases h
    case wmk b z l c =>
      simp only [istep] at h
      split at h
      · split at h
        · obtain ⟨ds, _, hh⟩ := Option.map_eq_some_iff.1 h
          simp only [Prod.mk.injEq] at hh
          rw [← hh.2]; simp only [MM.up]; omega
        · cases h
      · cases h
    case app t sz b z s x =>
      simp only [istep] at h
      repeat' split at h
      all_goals first | (simp only [Option.some.injEq, Prod.mk.injEq] at h; rw [← h.2]; exact Nat.le_refl _) | (simp only [Option.some.injEq, Prod.mk.injEq] at h; rw [← h.2]; simp only [MM.alloc]; omega) | cases h

theorem step1_nx {lo : Nat} {lim : Lm} {fresh : Nat} {o : Op1} {s s' : St} (h : step1 call mode true lo lim fresh o s = some s') (hf : fresh < s.M.nx) : s.M.nx ≤ s'.M.nx := by
  unfold step1 at h
  split at h
  · cases h
  · simp only [Option.some.injEq] at h; subst h; exact Nat.le_refl _
  · split at h
    · rename_i v M' hi
      simp only [Option.some.injEq] at h; subst h
      exact istep_nx hi hf
    · cases h

theorem ok_own {base n m k : Nat} {w : Bool} (hk : k < n) (h : m.testBit k = false) : (Lm.mk base n m w).ok (base + k) = false := by
  simp only [Lm.ok, Bool.or_eq_false_iff, Bool.and_eq_false_iff]
  refine ⟨⟨?_, .inr ?_⟩, .inr ?_⟩
  · rw [Bool.eq_false_iff]; intro h; simp only [Nat.blt_eq] at h; omega
  · rw [Nat.add_sub_cancel_left]; exact h
  · rw [Bool.eq_false_iff]; intro h; simp only [Nat.ble_eq] at h; omega

theorem own_in {base n m k : Nat} {w : Bool} (hk : k < n) : (Lm.mk base n m w).own (base + k) = true := by
  simp only [Lm.own, Bool.and_eq_true, Nat.ble_eq, Nat.blt_eq]; omega

theorem runL_front {lo base n : Nat} {cs : List Op1} {i : Nat} {b : Op1} (hb : cs[i]? = some b) (hi : i < n) : ∀ (A B : List Nat) (s s' : St), (∀ k ∈ A, k < i ∧ ∃ a, cs[k]? = some a ∧ swapOK mode a b = true ∧ a.m.testBit i = false ∧ b.m.testBit k = false) → base + n ≤ s.M.nx →
    runL call mode lo base n cs (A ++ i :: B) s = some s' → runL call mode lo base n cs (i :: (A ++ B)) s = some s'
  | [], B, s, s', _, _, h => h
  | k :: A, B, s, s', hA, hnx, h => by
    obtain ⟨hki, a, ha, hab, hm1, hm2⟩ := hA k (by simp)
    simp only [List.cons_append, runL, ha] at h
    split at h
    · rename_i s1 h1
      have hn1 := step1_nx h1 (by omega)
      have ih := runL_front hb hi A B s1 s' (fun k hk => hA k (by simp [hk])) (by omega) h
      simp only [runL, hb] at ih
      split at ih
      · rename_i s2 h2
        obtain ⟨s1', q1, q2⟩ := swap_step hab (ok_own (by omega) hm2) (own_in (by omega)) (by omega) (ok_own hi hm1) (own_in hi) (by omega) (by omega) h1 h2
        simp only [List.cons_append, runL, hb, q1, ha, q2]
        exact ih
      · cases ih
    · cases h

/-! ### What stands ahead of each operation -/
theorem chkF_ok {m : Nat} {c : Op1} : ∀ (k : Nat) (prev : List (Nat × Op1)), chkF mode m c k prev = true → prev.length = k ∧ ∀ j (h : j < prev.length), m.testBit j = true ∨ swapOK mode (prev.reverse[j]'(by simpa using h)).2 c = true
  | 0, [], _ => ⟨rfl, fun j h => by simp at h⟩
  | 0, _ :: _, h => by simp [chkF] at h
  | k + 1, [], h => by simp [chkF] at h
  | k + 1, (x, a) :: prev, h => by
    simp only [chkF, Bool.and_eq_true, Bool.or_eq_true] at h
    obtain ⟨h1, h2⟩ := chkF_ok k prev h.2
    refine ⟨by simp [h1], fun j hj => ?_⟩
    by_cases hjk : j < prev.length
    · have := h2 j hjk
      simp only [List.reverse_cons]
      rw [List.getElem_append_left (by simpa using hjk)]
      exact this
    · have e : j = k := by simp at hj; omega
      subst e
      simp only [List.reverse_cons]
      rw [List.getElem_append_right (by simp; omega)]
      simpa [h1] using h.1

theorem getD_rev {prev r : List (Nat × Op1)} {e : Nat} (he : e < prev.length) : ((prev[prev.length - 1 - e]?).map (·.1)).getD 0 = (((prev.reverse ++ r)[e]?).map (·.1)).getD 0 := by
  rw [List.getElem?_append_left (by simpa using he), List.getElem?_reverse he]

theorem aheadOf_congr {f g : Nat → Nat} {o : Oper} (h : ∀ e ∈ edgesOf o, f e = g e) : aheadOf f o = aheadOf g o := by
  unfold aheadOf
  revert h
  induction edgesOf o with
  | nil => intro _; rfl
  | cons e l ih => intro h; simp only [List.foldr_cons]; rw [ih (fun e he => h e (by simp [he])), h e (by simp)]

theorem aheadOf_bit {f : Nat → Nat} {o : Oper} {k : Nat} (h : (aheadOf f o).testBit k = true) : k ∈ edgesOf o ∨ ∃ e ∈ edgesOf o, (f e).testBit k = true := by
  unfold aheadOf at h
  revert h
  induction edgesOf o with
  | nil => intro h; simp at h
  | cons e l ih =>
    intro h
    simp only [List.foldr_cons, Nat.testBit_or, Nat.testBit_two_pow, Bool.or_eq_true, decide_eq_true_eq] at h
    rcases h with h | h | h
    · rcases ih h with h | ⟨e', h1, h2⟩
      · exact .inl (by simp [h])
      · exact .inr ⟨e', by simp [h1], h2⟩
    · exact .inl (by simp [h])
    · exact .inr ⟨e, by simp, h⟩

theorem freeGo_ok : ∀ (os : List Oper) (cs : List Op1) (i : Nat) (prev : List (Nat × Op1)) (out : List Op1), prev.length = i → freeGo mode os cs i prev = some out →
    ∃ r : List (Nat × Op1), r.map (·.2) = cs ∧ r.length = os.length ∧ out.length = os.length ∧ ∀ j (h : j < os.length) (h' : j < r.length) (h'' : j < out.length), edgeOK os[j] (i + j) = true ∧
      r[j].1 = aheadOf (fun e => (((prev.reverse ++ r)[e]?).map (·.1)).getD 0) os[j] ∧ (∀ k, k < i + j → r[j].1.testBit k = true ∨ ∃ a, (prev.reverse ++ r)[k]? = some a ∧ swapOK mode a.2 r[j].2 = true) ∧
      out[j].dst = r[j].2.dst ∧ out[j].g = r[j].2.g ∧ out[j].i = r[j].2.i ∧ out[j].m = r[j].1
  | [], [], i, prev, out, _, h => by
    simp only [freeGo, Option.some.injEq] at h; subst h
    exact ⟨[], rfl, rfl, rfl, fun j h => by simp at h⟩
  | [], _ :: _, _, _, _, _, h => by simp [freeGo] at h
  | _ :: _, [], _, _, _, _, h => by simp [freeGo] at h
  | o :: os, c :: cs, i, prev, out, hi, h => by
    simp only [freeGo] at h
    split at h
    · rename_i hc
      obtain ⟨out', h3, rfl⟩ := Option.map_eq_some_iff.1 h
      simp only [Bool.and_eq_true] at hc
      obtain ⟨h1, h2⟩ := hc
      obtain ⟨r, r1, r2, r2', r3⟩ := freeGo_ok os cs (i + 1) _ out' (by simp [hi]) h3
      refine ⟨(aheadOf (fun e => ((prev[i - 1 - e]?).map (·.1)).getD 0) o, c) :: r, by simp [r1], by simp [r2], by simp [r2'], fun j hj hj' hj'' => ?_⟩
      have eall : ∀ x : Nat × Op1, (x :: prev).reverse ++ r = prev.reverse ++ x :: r := fun x => by simp
      cases j with
      | zero =>
        refine ⟨by simpa using h1, ?_, ?_, rfl, rfl, rfl, rfl⟩
        · simp only [List.getElem_cons_zero]
          refine aheadOf_congr fun e he => ?_
          have hlt : e < i := by
            have := List.all_eq_true.1 h1 e he
            simpa using this
          rw [← hi]
          exact getD_rev (by omega)
        · intro k hk
          obtain ⟨q1, q2⟩ := chkF_ok _ _ h2
          simp only [List.getElem_cons_zero]
          rcases q2 k (by omega) with q | q
          · exact .inl q
          · refine .inr ⟨_, ?_, q⟩
            rw [List.getElem?_append_left (by simp; omega), List.getElem?_eq_getElem]
      | succ j =>
        obtain ⟨q1, q2, q3, q4⟩ := r3 j (by simpa using hj) (by simpa using hj') (by simpa using hj'')
        have e : i + 1 + j = i + (j + 1) := by omega
        rw [e] at q1 q3
        rw [eall] at q2 q3
        simp only [List.getElem_cons_succ]
        exact ⟨q1, q2, q3, q4⟩
    · cases h

/-- A region that may be carried out in whatever order. -/
structure Free (mode : FuncId → Mode) (ops : Array Oper) (cs : List Op1) (bs : Nat → Nat → Prop) : Prop where
  edges : EdgesOK ops
  ahead : ∀ i, i < ops.size → ∀ k, bs i k → k ∈ preOf ops i ∨ ∃ e ∈ preOf ops i, bs e k
  swap : ∀ i, i < ops.size → ∀ k, k < i → bs i k ∨ ∃ a b, cs[k]? = some a ∧ cs[i]? = some b ∧ swapOK mode a b = true
  mask : ∀ i o, cs[i]? = some o → ∀ k, o.m.testBit k = true → bs i k

theorem Free.lt {ops : Array Oper} {cs : List Op1} {bs : Nat → Nat → Prop} (F : Free mode ops cs bs) : ∀ i, i < ops.size → ∀ k, bs i k → k < i := by
  intro i
  induction i using Nat.strongRecOn with
  | _ i ih =>
    intro hi k hk
    have hlt : ∀ e ∈ preOf ops i, e < i := fun e he => by
      have ho : ops[i]? = some ops[i] := Array.getElem?_eq_getElem hi
      have hpre : preOf ops i = edgesOf ops[i] := by unfold preOf; rw [ho]; rfl
      rw [hpre] at he
      have := List.all_eq_true.1 (F.edges i _ ho) e he
      simpa using this
    rcases F.ahead i hi k hk with h | ⟨e, he, h⟩
    · exact hlt k h
    · have h1 := hlt e he
      have h2 := ih e h1 (by omega) k h
      omega

theorem swapOK_congr {a a' b b' : Op1} (h1 : a'.dst = a.dst) (h2 : a'.g = a.g) (h3 : a'.i = a.i) (k1 : b'.dst = b.dst) (k2 : b'.g = b.g) (k3 : b'.i = b.i) : swapOK mode a' b' = swapOK mode a b := by
  obtain ⟨d, g, i, m, w⟩ := a; obtain ⟨d', g', i', m', w'⟩ := a'
  obtain ⟨e, f, j, n, v⟩ := b; obtain ⟨e', f', j', n', v'⟩ := b'
  simp only at h1 h2 h3 k1 k2 k3
  subst h1 h2 h3 k1 k2 k3
  rfl

theorem free_of_check {ops : Array Oper} {cs out : List Op1} (h : freeGo mode ops.toList cs 0 [] = some out) : out.length = cs.length ∧ (∀ j (h : j < out.length) (h' : j < cs.length), out[j].dst = cs[j].dst ∧ out[j].g = cs[j].g ∧ out[j].i = cs[j].i) ∧ ∃ bs, Free mode ops out bs := by
  obtain ⟨r, r1, r2, r2', r3⟩ := freeGo_ok ops.toList cs 0 [] out rfl h
  have hrc : ∀ j (h : j < r.length) (h' : j < cs.length), r[j].2 = cs[j] := fun j h h' => by
    have : cs[j]? = (r[j]?).map (·.2) := by rw [← r1, List.getElem?_map]
    rw [List.getElem?_eq_getElem h, List.getElem?_eq_getElem h'] at this
    simpa using this.symm
  have hcl : cs.length = r.length := by rw [← r1]; simp
  have hedge : EdgesOK ops := fun i o ho => by
    have hi : i < ops.toList.length := by
      have := (Array.getElem?_eq_some_iff.1 ho).1; simpa using this
    have := (r3 i hi (by omega) (by omega)).1
    have e : ops.toList[i] = o := by
      have := (Array.getElem?_eq_some_iff.1 ho).2; simpa using this
    rw [e, Nat.zero_add] at this; exact this
  refine ⟨by omega, fun j hj hj' => ?_, fun i k => (((r[i]?).map Prod.fst).getD 0).testBit k = true, hedge, fun i hi k hk => ?_, fun i hi k hk => ?_, fun i o ho k hk => ?_⟩
  · obtain ⟨_, _, _, q1, q2, q3, _⟩ := r3 j (by omega) (by omega) hj
    rw [hrc j (by omega) hj'] at q1 q2 q3
    exact ⟨q1, q2, q3⟩
  · have hil : i < ops.toList.length := by simpa using hi
    have hir : i < r.length := by omega
    have ho' : ops[i]? = some ops[i] := Array.getElem?_eq_getElem hi
    have hpre : preOf ops i = edgesOf ops[i] := by unfold preOf; rw [ho']; rfl
    obtain ⟨_, q2, _⟩ := r3 i hil hir (by omega)
    rw [List.getElem?_eq_getElem hir, Option.map_some, Option.getD_some, q2] at hk
    have e : ops.toList[i] = ops[i] := by simp
    rw [e] at hk
    rcases aheadOf_bit hk with h | ⟨e', h1, h2⟩
    · exact .inl (by rw [hpre]; exact h)
    · exact .inr ⟨e', by rw [hpre]; exact h1, by simpa using h2⟩
  · have hil : i < ops.toList.length := by simpa using hi
    have hir : i < r.length := by omega
    obtain ⟨_, _, q3, q4, q5, q6, _⟩ := r3 i hil hir (by omega)
    rcases q3 k (by omega) with h | ⟨a, h1, h2⟩
    · exact .inl (by rw [List.getElem?_eq_getElem hir, Option.map_some, Option.getD_some]; exact h)
    · simp only [List.reverse_nil, List.nil_append] at h1
      obtain ⟨hkr, ha⟩ := List.getElem?_eq_some_iff.1 h1
      obtain ⟨_, _, _, p4, p5, p6, _⟩ := r3 k (by omega) hkr (by omega)
      refine .inr ⟨out[k]'(by omega), out[i]'(by omega), List.getElem?_eq_getElem _, List.getElem?_eq_getElem _, ?_⟩
      rw [swapOK_congr p4 p5 p6 q4 q5 q6, ha]
      exact h2
  · obtain ⟨hio, rfl⟩ := List.getElem?_eq_some_iff.1 ho
    obtain ⟨_, _, _, _, _, _, q⟩ := r3 i (by omega) (by omega) hio
    rw [q] at hk
    show (((r[i]?).map Prod.fst).getD 0).testBit k = true
    rw [List.getElem?_eq_getElem (show i < r.length by omega)]
    exact hk

theorem runL_topo {lo base : Nat} {ops : Array Oper} {cs : List Op1} {bs : Nat → Nat → Prop} (F : Free mode ops cs bs) (hcs : cs.length = ops.size) : ∀ (l done : List Nat) (s s' : St), Topo (preOf ops) done l → (∀ i ∈ l, i < ops.size) →
    (∀ i, i < ops.size → i ∈ done ∨ i ∈ l) → (∀ j ∈ done, ∀ k, bs j k → k ∈ done) → base + ops.size ≤ s.M.nx → runL call mode lo base ops.size cs (rem ops.size done) s = some s' → runL call mode lo base ops.size cs l s = some s'
  | [], done, s, s', _, _, hall, _, _, h => by
    have : rem ops.size done = [] := by
      apply List.eq_nil_iff_forall_not_mem.2
      intro k hk
      have := mem_rem.1 hk
      rcases hall k this.1 with h | h
      · exact this.2 h
      · simp at h
    rw [this] at h; exact h
  | i :: l, done, s, s', ht, hlt, hall, hdc, hnx, h => by
    obtain ⟨hnd, hpre, ht'⟩ := ht
    have hi := hlt i (by simp)
    obtain ⟨A, B, e1, e2, e3⟩ := rem_split hi hnd
    have hbs : ∀ k, bs i k → k ∈ done := fun k hk => by
      rcases F.ahead i hi k hk with h | ⟨e, he, h⟩
      · exact hpre k h
      · exact hdc e (hpre e he) k h
    have hb : ∃ b, cs[i]? = some b := ⟨cs[i]'(by omega), List.getElem?_eq_getElem (by omega)⟩
    obtain ⟨b, hb⟩ := hb
    rw [e1] at h
    have hfront := runL_front (call := call) hb hi A B s s' (fun k hk => by
      obtain ⟨h1, h2⟩ := e3 k hk
      refine ⟨h1, ?_⟩
      rcases F.swap i hi k h1 with h | ⟨a, b', ha, hb', hs⟩
      · exact absurd (hbs k h) h2
      · rw [hb] at hb'; injection hb' with hb'; subst hb'
        refine ⟨a, ha, hs, ?_, ?_⟩
        · rw [Bool.eq_false_iff]; intro hbit
          have := F.lt k (by omega) i (F.mask k a ha i hbit); omega
        · rw [Bool.eq_false_iff]; intro hbit
          exact h2 (hbs k (F.mask i b hb k hbit))) hnx h
    simp only [runL, hb] at hfront ⊢
    split at hfront
    · rename_i s1 h1
      have hn1 := step1_nx h1 (by omega)
      refine runL_topo F hcs l (i :: done) s1 s' ht' (fun k hk => hlt k (by simp [hk])) (fun k hk => ?_) (fun j hj k hk => ?_) (by omega) (by rw [e2]; exact hfront)
      · rcases hall k hk with h | h
        · exact .inl (by simp [h])
        · simp only [List.mem_cons] at h
          rcases h with rfl | h
          · exact .inl (by simp)
          · exact .inr h
      · simp only [List.mem_cons] at hj ⊢
        rcases hj with rfl | hj
        · exact .inr (hbs k hk)
        · exact .inr (hdc j hj k hk)
    · cases hfront

/-! ### The model's region -/
structure SimS (lo : Nat) (s : St) (a : Act) (c : Cx) : Prop where
  sim : Sim lo s.M c
  fr : RelL c s.ρ a.tmps.toList
  df : a.defers = []

theorem put_rel {c : Cx} {ρ : List AV} {a : Act} {dst : Option Tmp} {x : AV} {v : Value} (h : RelL c ρ a.tmps.toList) (hx : Rel c x v) : RelL c (setO ρ dst x) (a.put dst v).tmps.toList := by
  cases dst with
  | none => exact h
  | some d =>
    simp only [setO, Act.put, Array.toList_setIfInBounds]
    exact h.set d hx

theorem put_defers (a : Act) (dst : Option Tmp) (v : Value) : (a.put dst v).defers = a.defers := by cases dst <;> rfl

theorem want_rel {c : Cx} {ρ : List AV} {a : Act} {ops : Array Oper} {o : Oper} {g : Option (Nat × Bool)} {b : Bool} (h : RelL c ρ a.tmps.toList) (hg : compGuard ops o.guard = some g) (hw : want g ρ = some b) :
    Region.wanted o (yielded ops a.tmps) = b := by
  unfold compGuard at hg
  split at hg
  · rename_i hgd
    simp only [Option.some.injEq] at hg; subst hg
    simp only [want, Option.some.injEq] at hw; subst hw
    simp [Region.wanted, hgd]
  · rename_i j b0 hgd
    split at hg
    · rename_i d hd
      simp only [Option.some.injEq] at hg; subst hg
      simp only [want] at hw
      split at hw
      · rename_i t ht
        obtain ⟨v, hv, hr⟩ := h.get ht
        have hv' : a.tmps[d]? = some v := by simpa using hv
        have := hr.bool_inv
        subst this
        simp only [Option.some.injEq] at hw; subst hw
        simp only [Region.wanted, hgd, yielded, hd, Option.bind_some, hv']
        cases t <;> cases b0 <;> rfl
      · rename_i ht
        obtain ⟨v, hv, hr⟩ := h.get ht
        have hv' : a.tmps[d]? = some v := by simpa using hv
        obtain ⟨us, rfl, -⟩ := hr.tup_inv
        simp only [Option.some.injEq] at hw; subst hw
        simp only [Region.wanted, hgd, yielded, hd, Option.bind_some, hv']
        rfl
      · cases hw
    · cases hg

def SOK (P : Program) (call : CallT) (mode : FuncId → Mode) (ops : Array Oper) (o : Oper) (o1 : Op1) : Prop := o1.dst = o.dst ∧ compGuard ops o.guard = some o1.g ∧ OpSim P call mode o1.i o

theorem sok_of_comp (hcall : CallOK P call) {os : List TypeId} {ops : Array Oper} {o : Oper} {o1 : Op1} (ho : compOper P os ops o = some o1) : SOK P call mode ops o o1 := by
  unfold compOper at ho
  split at ho
  · rename_i i g hi hg
    simp only [Option.some.injEq] at ho; subst ho
    exact ⟨rfl, hg, sim_op hcall hi⟩
  · cases ho

theorem hintGo_get (hs : List Hint) (id : Nat) : ∀ (l : List Op1) (i : Nat), (hintGo hs id i l).length = l.length ∧ ∀ j (h : j < (hintGo hs id i l).length) (h' : j < l.length), (hintGo hs id i l)[j].dst = l[j].dst ∧ (hintGo hs id i l)[j].g = l[j].g ∧ (hintGo hs id i l)[j].i = hintI hs id (i + j) l[j].i
  | [], i => ⟨rfl, fun j h => by simp [hintGo] at h⟩
  | o :: r, i => by
    obtain ⟨h1, h2⟩ := hintGo_get hs id r (i + 1)
    refine ⟨by simp [hintGo, h1], fun j h h' => ?_⟩
    cases j with
    | zero => simp [hintGo]
    | succ j =>
      simp only [hintGo, List.getElem_cons_succ]
      have := h2 j (by simpa [hintGo] using h) (by simpa using h')
      rw [show i + 1 + j = i + (j + 1) by omega] at this
      exact this

theorem sok_all (hcall : CallOK P call) {ops : Array Oper} {cs : List Op1} {os : List TypeId} (hcs : ops.toList.mapM (compOper P os ops) = some cs) (hs : List Hint) (id : Nat) :
    (hintAll hs id cs).length = ops.size ∧ ∀ i (h : i < ops.size) (h' : i < (hintAll hs id cs).length), SOK P call mode ops ops[i] (hintAll hs id cs)[i] := by
  obtain ⟨hlen, hget⟩ := mapM_get hcs
  have base : ∀ i (h : i < ops.size) (h' : i < cs.length), SOK P call mode ops ops[i] cs[i] := fun i h h' => by
    have := hget i (by simpa using h) h'
    exact sok_of_comp hcall (by simpa using this)
  cases hs with
  | nil => exact ⟨by rw [← show ops.toList.length = ops.size by simp]; exact hlen.symm, base⟩
  | cons x xs =>
    obtain ⟨h1, h2⟩ := hintGo_get (x :: xs) id cs 0
    refine ⟨by show (hintGo (x :: xs) id 0 cs).length = _; rw [h1]; simpa using hlen.symm, fun i h h' => ?_⟩
    obtain ⟨q1, q2, q3⟩ := base i h (by rw [← hlen]; simpa using h)
    obtain ⟨e1, e2, e3⟩ := h2 i h' (by rw [← hlen]; simpa using h)
    exact ⟨e1.trans q1, by rw [q2]; exact congrArg some e2.symm, by show OpSim P call mode (hintGo (x :: xs) id 0 cs)[i].i _; rw [e3]; exact sim_hint q3 _ _ _⟩

theorem sim_step {ops : Array Oper} {o : Oper} {o1 : Op1} (ho : SOK P call mode ops o o1) {draw : Bool} {lo : Nat} {lim : Lm} {fresh : Nat} {s s' : St} {a : Act} {c : Cx} (hst : step1 call mode draw lo lim fresh o1 s = some s') (hS : SimS lo s a c)
    (hf : ¬ c.S fresh) (hlo : lo ≤ s.M.nx) (hd : draw = false → fresh = s.M.nx) {K : Act → World → Prop} {Q : Exit → Act → World → Prop} (hK : ∀ a' c', SimS lo s' a' c' → After lo fresh s.M c s'.M c' → K a' c'.w) :
    if Region.wanted o (yielded ops a.tmps) then o.wp P a c.w K Q else K (a.put o.dst undef) c.w := by
  obtain ⟨o1d, o1g, o1i⟩ := o1
  obtain ⟨rfl, hg, hi⟩ := ho
  unfold step1 at hst
  split at hst
  · cases hst
  · rename_i hw
    simp only [Option.some.injEq] at hst; subst hst
    rw [want_rel hS.fr hg hw]
    simp only [Bool.false_eq_true, if_false]
    exact hK _ c ⟨hS.sim, put_rel hS.fr (.undef c), by rw [put_defers]; exact hS.df⟩ (.refl hS.sim)
  · rename_i hw
    rw [want_rel hS.fr hg hw]
    simp only [if_true]
    split at hst
    · rename_i v M' hi'
      simp only [Option.some.injEq] at hst; subst hst
      refine hi draw lo lim fresh s.ρ s.M v M' a c hi' hS.sim hS.fr hf hlo hd K Q (fun u c' ha hr => ?_)
      exact hK _ c' ⟨ha.sim, put_rel (hS.fr.ext hS.sim.WL ha.ext) hr, by rw [put_defers]; exact hS.df⟩ ha
    · cases hst

/-- What a piece of code leaves. -/
structure Aft (M : MM) (c : Cx) (M' : MM) (c' : Cx) : Prop where
  ext : Ext c c'
  nx : M.nx ≤ M'.nx
  ids : ∀ id, c'.S id → c.S id ∨ M.nx ≤ id

theorem Aft.refl (M : MM) (c : Cx) : Aft M c M c := ⟨.refl c, Nat.le_refl _, fun _ h => .inl h⟩
theorem Aft.trans {M M' M'' : MM} {c c' c'' : Cx} (h : Aft M c M' c') (k : Aft M' c' M'' c'') : Aft M c M'' c'' :=
  ⟨h.ext.trans k.ext, Nat.le_trans h.nx k.nx, fun id hs => by
    rcases k.ids id hs with h1 | h1
    · exact h.ids id h1
    · exact .inr (Nat.le_trans h.nx h1)⟩

theorem sim_list (hcall : CallOK P call) {os : List TypeId} {ops : Array Oper} {lo : Nat} {Q : Exit → Act → World → Prop} : ∀ (l : List Oper) (cs : List Op1) (s s' : St) (a : Act) (c : Cx), l.mapM (compOper P os ops) = some cs → regN call mode lo cs s = some s' → SimS lo s a c → lo ≤ s.M.nx →
    (∀ a' c', SimS lo s' a' c' → Aft s.M c s'.M c' → Q .normal a' c'.w) → wpList P ops Q l a c.w
  | [], cs, s, s', a, c, hl, hr, hS, hlo, hQ => by
    simp at hl; subst hl
    simp only [regN, Option.some.injEq] at hr; subst hr
    exact hQ a c hS (.refl _ _)
  | o :: l, cs, s, s', a, c, hl, hr, hS, hlo, hQ => by
    simp only [List.mapM_cons, Option.bind_eq_bind, Option.bind_eq_some_iff, Option.pure_def, Option.some.injEq] at hl
    obtain ⟨o1, ho, cs', hl', rfl⟩ := hl
    simp only [regN] at hr
    split at hr
    · rename_i s1 hst
      refine wpList_step (fun K hK => ?_)
      refine sim_step (sok_of_comp hcall ho) hst hS (fun h => by have := hS.sim.nx _ h; omega) hlo (fun _ => rfl) (fun a' c' hS' ha => hK _ _ ?_)
      have haft : Aft s.M c s1.M c' := ⟨ha.ext, ha.nx, fun id hs => by
        rcases ha.ids id hs with h | h | h
        · exact .inl h
        · exact .inr (by omega)
        · exact .inr h⟩
      exact sim_list hcall l cs' s1 s' a' c' hl' hr hS' (by have := ha.nx; omega) (fun a2 c2 h2 hb => hQ a2 c2 h2 (haft.trans hb))
    · cases hr

theorem sim_runL {ops : Array Oper} {cs : List Op1} (hcs : cs.length = ops.size ∧ ∀ i (h : i < ops.size) (h' : i < cs.length), SOK P call mode ops ops[i] cs[i]) {lo base : Nat} {Q : Exit → Act → World → Prop} : ∀ (l done : List Nat) (s s' : St) (a : Act) (c : Cx), Topo (preOf ops) done l → (∀ i ∈ l, i < ops.size) →
    runL call mode lo base ops.size cs l s = some s' → SimS lo s a c → lo ≤ s.M.nx → base + ops.size ≤ s.M.nx → (∀ id, c.S id → id < base ∨ (∃ j ∈ done, id = base + j) ∨ base + ops.size ≤ id) →
    (∀ a' c', SimS lo s' a' c' → Ext c c' → (∀ id, c'.S id → c.S id ∨ base ≤ id) → s.M.nx ≤ s'.M.nx → Q .normal a' c'.w) → wpOps P ops Q l a c.w
  | [], done, s, s', a, c, _, _, hr, hS, _, _, _, hQ => by
    simp only [runL, Option.some.injEq] at hr; subst hr
    exact hQ a c hS (.refl c) (fun _ h => .inl h) (Nat.le_refl _)
  | i :: l, done, s, s', a, c, ht, hlt, hr, hS, hlo, hnx, hids, hQ => by
    obtain ⟨hnd, hpre, ht'⟩ := ht
    have hi := hlt i (by simp)
    have hci : cs[i]? = some (cs[i]'(by rw [hcs.1]; exact hi)) := List.getElem?_eq_getElem _
    have hoi : ops[i]? = some ops[i] := Array.getElem?_eq_getElem hi
    have hco : SOK P call mode ops ops[i] (cs[i]'(by rw [hcs.1]; exact hi)) := hcs.2 i hi _
    simp only [runL, hci] at hr
    split at hr
    · rename_i s1 hst
      have hn1 := step1_nx hst (by omega)
      simp only [wpOps, hoi]
      have hfresh : ¬ c.S (base + i) := fun h => by
        rcases hids _ h with h | ⟨j, hj, h⟩ | h
        · omega
        · have : j = i := by omega
          subst this; exact hnd hj
        · omega
      have main := sim_step (K := wpOps P ops Q l) (Q := Q) hco hst hS hfresh hlo (fun h => by cases h) (fun a' c' hS' ha => by
        have hids' : ∀ id, c'.S id → c.S id ∨ id = base + i ∨ base + ops.size ≤ id := fun id hs => by
          rcases ha.ids id hs with h | h | h
          · exact .inl h
          · exact .inr (.inl h)
          · exact .inr (.inr (by omega))
        refine sim_runL hcs l (i :: done) s1 s' a' c' ht' (fun k hk => hlt k (by simp [hk])) hr hS' (by omega) (by omega) (fun id hs => ?_) (fun a2 c2 h2 hb hc hd => ?_)
        · rcases hids' id hs with h | h | h
          · rcases hids id h with h | ⟨j, hj, h⟩ | h
            · exact .inl h
            · exact .inr (.inl ⟨j, by simp [hj], h⟩)
            · exact .inr (.inr h)
          · exact .inr (.inl ⟨i, by simp, h⟩)
          · exact .inr (.inr h)
        · refine hQ a2 c2 h2 (ha.ext.trans hb) (fun id hs => ?_) (by omega)
          rcases hc id hs with h | h
          · rcases hids' id h with h | h | h
            · exact .inl h
            · exact .inr (by omega)
            · exact .inr (by omega)
          · exact .inr h)
      by_cases hw : Region.wanted ops[i] (yielded ops a.tmps) = true
      · rw [if_pos hw] at main ⊢
        exact .inl main
      · rw [if_neg hw] at main ⊢
        exact main
    · cases hr

def conc : Ex → Exit
  | .normal => .normal
  | .exit id => .exit id
  | .ret => .ret

theorem sim_reg (hcall : CallOK P call) {os : List TypeId} {hs : List Hint} {lo nl : Nat} {id : Nat} {ops : Array Oper} {draw : Bool} {k : K} {s s' : St} {ex : Ex} {a : Act} {c : Cx} {Q : Exit → Act → World → Prop} (hc : compReg P mode os hs id ops draw = some k)
    (he : exec call mode lo nl k s = some (ex, s')) (hS : SimS lo s a c) (hlo : lo ≤ s.M.nx) (hQ : ∀ a' c', SimS lo s' a' c' → Aft s.M c s'.M c' → Q (conc ex) a' c'.w) : (Code.region id ops draw).wp P Q a c.w := by
  unfold compReg at hc
  split at hc
  · rename_i cs hcs
    cases draw with
    | false =>
      simp only [Bool.false_eq_true, if_false, Option.some.injEq] at hc; subst hc
      simp only [exec] at he
      obtain ⟨s1, hs1, hh⟩ := Option.map_eq_some_iff.1 he
      simp only [Prod.mk.injEq] at hh
      obtain ⟨rfl, rfl⟩ := hh
      exact wp_region_list (sim_list hcall ops.toList cs s s1 a c hcs hs1 hS hlo hQ)
    | true =>
      simp only [if_true] at hc
      split at hc
      · rename_i hfree
        obtain ⟨out, hgo, rfl⟩ := Option.map_eq_some_iff.1 hc
        simp only [exec] at he
        obtain ⟨s1, hs1, hh⟩ := Option.map_eq_some_iff.1 he
        simp only [Prod.mk.injEq] at hh
        obtain ⟨rfl, rfl⟩ := hh
        obtain ⟨hol, hoeq, bs, F⟩ := free_of_check hgo
        have hsok0 := sok_all (mode := mode) hcall hcs hs id
        have hlen : out.length = ops.size := hol.trans hsok0.1
        have hsok : out.length = ops.size ∧ ∀ i (h : i < ops.size) (h' : i < out.length), SOK P call mode ops ops[i] out[i] := ⟨hlen, fun i h h' => by
          obtain ⟨q1, q2, q3⟩ := hsok0.2 i h (by omega)
          obtain ⟨e1, e2, e3⟩ := hoeq i h' (by omega)
          exact ⟨e1.trans q1, by rw [q2, e2], by rw [e3]; exact q3⟩⟩
        refine wp_region_draw (fun t => ?_)
        obtain ⟨t1, t2, t3⟩ := schedule_topo F.edges (P.follows .mixedOrders) hfree t
        rw [regD_runL lo s.M.nx out.length out out 0 _ (fun j => by simp)] at hs1
        have hrange : List.range' 0 out.length = rem ops.size [] := by
          unfold rem
          rw [List.filter_eq_self.2 (by simp), hlen, List.range_eq_range']
        rw [hrange, hlen] at hs1
        have hrun := runL_topo F hlen _ [] _ s1 t1 t3 (fun i hi => .inr (t2 i hi)) (fun j hj => by simp at hj) (by show s.M.nx + ops.size ≤ s.M.nx + ops.size; omega) hs1
        -- the world behind the draw
        have hsame : Same c.w { c.w with drawn := c.w.drawn + 1 } := ⟨Nat.le_refl _, fun _ _ => rfl, rfl, rfl, rfl⟩
        have hafter := after_same (fresh := 0) hS.sim hsame
        have hS1 : SimS lo ⟨s.ρ, ⟨s.M.nx + ops.size, s.M.mem⟩⟩ a (c.at_ { c.w with drawn := c.w.drawn + 1 }) :=
          ⟨⟨hafter.sim.dom, fun j hj => by have := hafter.sim.nx j hj; exact Nat.lt_of_lt_of_le this (Nat.le_add_right _ _), hafter.sim.lt, hafter.sim.live, hafter.sim.wlive, hafter.sim.WL, hafter.sim.Llt, hafter.sim.inj, hafter.sim.blk, hafter.sim.flt, hafter.sim.frz⟩, hS.fr.ext hS.sim.WL hafter.ext, hS.df⟩
        refine sim_runL hsok _ [] _ s1 a (c.at_ { c.w with drawn := c.w.drawn + 1 }) t1 t3 hrun hS1 (by show lo ≤ s.M.nx + ops.size; omega) (by show s.M.nx + ops.size ≤ s.M.nx + ops.size; omega) (fun id hs => .inl (hS.sim.nx id hs)) (fun a' c' hS' hext hids hnx => ?_)
        exact hQ a' c' hS' ⟨hafter.ext.trans hext, Nat.le_trans (show s.M.nx ≤ s.M.nx + ops.size by omega) hnx, hids⟩
      · cases hc
  · cases hc
end
end Go.Proofs.Ytegkhdflmboljaa.Sx
