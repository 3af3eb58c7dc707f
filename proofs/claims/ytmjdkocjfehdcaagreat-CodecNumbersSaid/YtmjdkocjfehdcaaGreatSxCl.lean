/-
  SX, PART CL: 'slices.Clone', whatever its elements are: the same elements, for slices that are nil too.
-/
import Derived.Test.YtmjdkocjfehdcaaGreatSxZ
namespace Go.Proofs.YtmjdkocjfehdcaaGreat.Sx
open Go
set_option linter.unusedSimpArgs false

section
variable {P : Program}
theorem run_nileq {o : Oper} {a : Act} {w : World} {t t2 e : TypeId} {x : Operand} {ad : Option Addr} {n k : Nat} (ho : o.op = .binOp .eql t x (.const (.slice none 0 0)) t2) (hu : P.underlying t = some (.slice e)) (hx : a.eval x = .slice ad n k) :
    (execOp a.eval o).run P w = .ok (.value (.bool ad.isNone)) w := by
  have hd : ∀ w : World, (underlying t).run P w = .ok (.slice e) w := run_underlying hu
  have hc : a.eval (.const (.slice none 0 0)) = .slice none 0 0 := rfl
  simp only [execOp, ho, hx, hc, Sem.run_bind, eqGuard_run .eql t x (.const (.slice none 0 0)) (.slice ad n k) (.slice none 0 0) rfl, Result.andThen_ok]
  have h2 : (binOp .eql t (.slice ad n k) (.slice none 0 0)).run P w = .ok (.bool ad.isNone) w := by
    show (do let e ← Op.equal t (.slice ad n k) (.slice none 0 0); pure (.bool e) : Sem Value).run P w = _
    have h4 : ∀ m, (Op.equalIn (m + 1) t (.slice ad n k) (.slice none 0 0)).run P w = .ok ad.isNone w := fun m => by
      cases ad <;> simp only [Op.equalIn, Sem.run_bind, hd, Result.andThen_ok, Sem.run_pure, Option.isNone]
    have h3 : (Op.equal t (.slice ad n k) (.slice none 0 0)).run P w = .ok ad.isNone w := h4 9999
    simp only [Sem.run_bind, h3, Result.andThen_ok, Sem.run_pure]
  rw [h2]; rfl
/-- Closed data, and what it was without a token. -/
def cloneP (sz bytes : Nat) (args : List AV) (_ : Nat) (M : MM) : Option (AV × MM) :=
  match args with
  | [x] => match x with
    | .d (.v (.slice none 0 0)) => some (.d (.sl [] 0), ⟨M.nx + 2, M.mem⟩)
    | .d (.sl cs n) => if cs.length = n * sz ∧ n * bytes ≤ 140737488355328 ∧ n ≤ 9223372036854775807 then some (.d (.sl cs n), ⟨M.nx + 2, M.mem⟩) else none
    | .ov _ cs n _ => if cs.length = n * sz ∧ n * bytes ≤ 140737488355328 ∧ n ≤ 9223372036854775807 then some (.d (.sl cs n), ⟨M.nx + 2, M.mem⟩) else none
    | _ => none
  | _ => none

theorem cloneP_src {sz bytes lo : Nat} {M M' : MM} {args : List AV} {r : AV} (h : cloneP sz bytes args lo M = some (r, M')) :
    ∃ x cs n, args = [x] ∧ r = .d (.sl cs n) ∧ M' = ⟨M.nx + 2, M.mem⟩ ∧ cs.length = n * sz ∧ n * bytes ≤ 140737488355328 ∧ n ≤ 9223372036854775807 ∧
      (∀ c v, Rel c x v → ∃ ad k, v = .slice ad n k ∧ (ad = none → cs = [] ∧ n = 0)) ∧ ∀ m lim, sliceCells m lim sz x = some (n, cs.map .d) := by
  unfold cloneP at h
  split at h
  · rename_i x
    split at h
    · simp only [Option.some.injEq, Prod.mk.injEq] at h
      obtain ⟨rfl, rfl⟩ := h
      exact ⟨_, [], 0, rfl, rfl, rfl, by simp, by omega, by omega, fun c v hr => ⟨none, 0, hr.v_inv.1, fun _ => ⟨rfl, rfl⟩⟩, fun m lim => rfl⟩
    · rename_i cs n
      split at h
      · rename_i hc
        simp only [Option.some.injEq, Prod.mk.injEq] at h
        obtain ⟨rfl, rfl⟩ := h
        refine ⟨_, cs, n, rfl, rfl, rfl, hc.1, hc.2.1, hc.2.2, fun c v hr => ?_, fun m lim => ?_⟩
        · cases hr with
          | d _ _ hd => cases hd with
            | sl0 a k => exact ⟨a, k, rfl, fun _ => ⟨rfl, rfl⟩⟩
            | sl ad n k cells f hn hnk hs hb hL hc hr => exact ⟨_, k, rfl, fun h => by cases h⟩
        · simp only [sliceCells]; rw [if_pos (by omega), List.take_of_length_le (by omega)]
      · cases h
    · rename_i id cs n sz'
      split at h
      · rename_i hc
        simp only [Option.some.injEq, Prod.mk.injEq] at h
        obtain ⟨rfl, rfl⟩ := h
        refine ⟨_, cs, n, rfl, rfl, rfl, hc.1, hc.2.1, hc.2.2, fun c v hr => ?_, fun m lim => ?_⟩
        · cases hr with
          | ov _ _ _ _ k f h hb hF hk hl hn hc hr => exact ⟨_, k, rfl, fun h => by cases h⟩
        · simp only [sliceCells]; rw [if_pos (by omega), List.take_of_length_le (by omega)]
      · cases h
    · cases h
  · cases h

/-- The shape of 'slices.Clone'. -/
structure CloneShape (P : Program) (f : FuncId) (sz bytes : Nat) where
  fn : Func
  hf : P.funcs[f]? = some fn
  nm : (fn.name == "runtime.NumGoroutine") = false
  i0 : Nat
  i1 : Nat
  i2 : Nat
  i3 : Nat
  r0 : Array Oper
  o1 : Oper
  o2 : Oper
  r2 : Array Oper
  r3 : Array Oper
  body : fn.body = some (.seq (.region i0 r0 false) (.seq (.seq (.region i1 #[o1, o2] false) (.cond (.tmp 4) (.seq (.region i2 r2 false) .ret) .skip)) (.seq (.region i3 r3 false) .ret)))
  nt : fn.ntmps = 8
  res : fn.results = #[.tmp 2]
  zero : List AV
  hz : zero.length = sz
  e : TypeId
  t : TypeId
  t2 : TypeId
  hu : P.underlying t = some (.slice e)
  c0 : r0.toList.mapM (compOper P [] r0) = some [⟨some 2, none, .mov (.k .nilsl), 0, false⟩]
  c1 : compOper P [] #[o1, o2] o1 = some ⟨some 3, none, .mov (.t 0), 0, false⟩
  d2 : o2.dst = some 4
  g2 : o2.guard = none
  p2 : o2.op = .binOp .eql t (.tmp 3) (.const (.slice none 0 0)) t2
  c2 : r2.toList.mapM (compOper P [] r2) = some [⟨some 2, none, .mov (.k .nilsl), 0, false⟩]
  c3 : r3.toList.mapM (compOper P [] r3) = some [⟨some 5, none, .vsl e 0 sz [] [], 0, false⟩, ⟨some 6, none, .mov (.t 0), 0, false⟩, ⟨some 7, none, .vapp e sz bytes zero (.t 5) (.t 6), 0, false⟩, ⟨some 2, none, .mov (.t 7), 0, false⟩]

theorem CallOK.none (P : Program) : CallOK P (fun _ _ _ _ => none) := fun _ _ _ _ _ _ h => by cases h

theorem cloneP_ok {f : FuncId} {sz bytes : Nat} (S : CloneShape P f sz bytes) : PrimOK P f (cloneP sz bytes) := by
  refine ⟨⟨S.fn, S.hf, by rw [S.body]; rfl, S.nm⟩, fun args lo M r M' hp c vs hS hargs hlo => ?_⟩
  obtain ⟨x, cs, n, rfl, rfl, rfl, hlen, hb, h63, hsl, hsc⟩ := cloneP_src hp
  refine calls_of_wp S.hf S.body ?_
  have hv1 : vs.length = 1 := hargs.1.symm
  have hfr : RelL c [x, .undef, .undef, .undef, .undef, .undef, .undef, .undef] (vs.toArray ++ Array.replicate (S.fn.ntmps - vs.toArray.size) undef).toList := by
    have := hargs.append (RelL.replicate (c := c) (.undef c) 7)
    rw [S.nt]
    simpa [hv1] using this
  have hS0 : SimS lo ⟨[x, .undef, .undef, .undef, .undef, .undef, .undef, .undef], M⟩ { tmps := vs.toArray ++ Array.replicate (S.fn.ntmps - vs.toArray.size) undef, defers := [] } c := ⟨hS, hfr, rfl⟩
  have hres : S.fn.results.toList.mapM (compRes P) = some [.tmp 2] := by rw [S.res]; rfl
  -- the end
  have fin : ∀ (s : St) (a' : Act) (c' : Cx), SimS lo s a' c' → Aft M c s.M c' → s.M.nx ≤ M.nx + 2 → (∀ id, M.mem id = none ∨ M.mem id = s.M.mem id) → (∀ v, Rel c' (s.ρ.getD 2 .undef) v → Rel c' (.d (.sl cs n)) v) →
      bodyPost P S.fn (fun e w' => ∃ v c', e = .returned v ∧ c'.w = w' ∧ After lo M.nx M c ⟨M.nx + 2, M.mem⟩ c' ∧ Rel c' (.d (.sl cs n)) v) .ret a' c'.w := by
    intro s a' c' hS' ha hn hm hr
    obtain ⟨v, hv, hrel⟩ := results_run (rs := [.tmp 2]) (x := s.ρ.getD 2 .undef) hS' hres (by simp [resAll, resOf])
    refine ⟨hS'.df, v, hv, v, c', rfl, rfl, ⟨hS'.sim.weak hn fun id => ?_, ha.ext, Nat.le_add_right _ _, fun id hs => ?_⟩, hr v hrel⟩
    · rcases hm id with h | h
      · exact .inl h
      · exact .inr (.inl h)
    · rcases ha.ids id hs with h | h
      · exact .inl h
      · exact .inr (.inr h)
  refine wp_seq (wp_region_list (sim_list (mode := fun _ => .pure) (CallOK.none P) S.r0.toList _ _ ⟨[x, .undef, .nilsl, .undef, .undef, .undef, .undef, .undef], M⟩ _ c S.c0 rfl hS0 hlo fun a1 c1 hS1 ha1 => ?_))
  refine wp_seq (wp_seq (wp_region_list ?_))
  refine wpList_step fun K hK => ?_
  refine sim_step (call := fun _ _ _ _ => none) (mode := fun _ => .pure) (draw := true) (lim := .top M.nx) (fresh := M.nx) (s' := ⟨[x, .undef, .nilsl, x, .undef, .undef, .undef, .undef], M⟩) (sok_of_comp (CallOK.none P) S.c1) rfl hS1 (fun h => Nat.lt_irrefl _ (hS1.sim.nx _ h)) hlo (fun h => by cases h) fun a2 c2 hS2 ha2 => hK _ _ ?_
  refine wpList_step fun K hK => ?_
  have hw : Region.wanted S.o2 (yielded #[S.o1, S.o2] a2.tmps) = true := by simp [Region.wanted, S.g2]
  rw [if_pos hw]
  have r3 := getD_rel hS2.fr 3
  obtain ⟨ad, k, hv3, hnil⟩ := hsl c2 _ r3
  refine wp_value (w' := c2.w) (run_nileq S.p2 S.hu (x := .tmp 3) hv3) (hK _ _ ?_)
  rw [S.d2]
  have hS3 : SimS lo ⟨[x, .undef, .nilsl, x, .bool ad.isNone, .undef, .undef, .undef], M⟩ (a2.put (some 4) (.bool ad.isNone)) c2 := ⟨hS2.sim, put_rel (dst := some 4) hS2.fr (.bool c2 _), by rw [put_defers]; exact hS2.df⟩
  have rx := ev_rel hS3.fr (o := .tmp 4) (x := .t 4) rfl
  have ha12 : Aft M c M c2 := ha1.trans ⟨ha2.ext, Nat.le_refl _, fun id hs => by
    rcases ha2.ids id hs with h | h | h
    · exact .inl h
    · exact .inr (Nat.le_of_eq h.symm)
    · exact .inr h⟩
  cases ad with
  | none =>
    obtain ⟨rfl, rfl⟩ := hnil rfl
    refine wp_cond (t := true) rx.bool_inv ?_
    refine wp_seq (wp_region_list (sim_list (mode := fun _ => .pure) (CallOK.none P) S.r2.toList _ _ ⟨[x, .undef, .nilsl, x, .bool true, .undef, .undef, .undef], M⟩ _ c2 S.c2 rfl hS3 hlo fun a3 c3 hS4 ha3 => ?_))
    refine wp_ret ?_
    refine fin _ a3 c3 hS4 (ha12.trans ha3) (Nat.le_add_right _ _) (fun id => .inr rfl) fun v hr => ?_
    have hv : v = .slice none 0 0 := hr.v_inv.1
    subst hv
    exact .d _ _ (.sl0 none 0)
  | some ad =>
    refine wp_cond (t := false) rx.bool_inv (wp_skip ?_)
    have hrun : regN (fun _ _ _ _ => none) (fun _ => .pure) lo [⟨some 5, none, .vsl S.e 0 sz [] [], 0, false⟩, ⟨some 6, none, .mov (.t 0), 0, false⟩, ⟨some 7, none, .vapp S.e sz bytes S.zero (.t 5) (.t 6), 0, false⟩, ⟨some 2, none, .mov (.t 7), 0, false⟩]
        ⟨[x, .undef, .nilsl, x, .bool false, .undef, .undef, .undef], M⟩ = some ⟨[x, .undef, .ov (M.nx + 1) cs n sz, x, .bool false, .ov M.nx [] 0 sz, x, .ov (M.nx + 1) cs n sz],
          ⟨M.nx + 2, upd (upd (upd M.mem M.nx (some (.tok S.e 0))) M.nx none) (M.nx + 1) (some (.tok S.e (n * sz)))⟩⟩ := by
      simp only [regN, step1, want, istep, setO, ev, fill, List.map_nil, List.mapM_nil, Option.pure_def, Option.map_some, List.getD_eq_getElem?_getD, MM.alloc]
      simp [hsc, look, ok_top, upd, hlo, S.hz, hb, h63, ev]
      have e : cs.mapM (toD ∘ AV.d) = some cs := by have := mapM_d cs; rwa [List.mapM_map] at this
      rw [e]
      rfl
    refine wp_seq (wp_region_list (sim_list (mode := fun _ => .pure) (CallOK.none P) S.r3.toList _ _ _ _ c2 S.c3 hrun hS3 hlo fun a3 c3 hS4 ha3 => ?_))
    refine wp_ret ?_
    have hnone : M.mem M.nx = none := by
      cases h : M.mem M.nx with
      | none => rfl
      | some B => exact absurd (hS.nx _ (hS.dom _ (by rw [h]; simp))) (Nat.lt_irrefl _)
    have hnone2 : M.mem (M.nx + 1) = none := by
      cases h : M.mem (M.nx + 1) with
      | none => rfl
      | some B => exact absurd (hS.nx _ (hS.dom _ (by rw [h]; simp))) (by omega)
    refine fin _ a3 c3 hS4 (ha12.trans ha3) (Nat.le_refl _) (fun id => ?_) fun v hr => .d _ _ (show Rel c3 (.ov (M.nx + 1) cs n sz) v from hr).ov_closed
    by_cases h1 : id = M.nx
    · subst h1; exact .inl hnone
    · by_cases h2 : id = M.nx + 1
      · subst h2; exact .inl hnone2
      · right; simp only [upd, if_neg h1, if_neg h2]

/-! ### A closed call, reckoned: true -/
def trueQ : List AV → Option Value
  | [] => some (.bool true)
  | _ => none
def trueP : List AV → Nat → MM → Option (AV × MM) := fun args _ M => (trueQ args).map fun v => (.d (.v v), M)

theorem trueP_ok {G : Prog} (hG : ProgOK P G) {N : Nat} {f : FuncId} (h : (acall G N f [] 0 ⟨0, fun _ => none⟩).map Prod.fst = some (.bool true)) : PrimOK P f trueP := by
  obtain ⟨⟨r, M'⟩, h1, h2⟩ := Option.map_eq_some_iff.1 h
  simp only at h2; subst h2
  refine ⟨(acall_ok hG N f [] 0 _ _ _ h1).1, fun args lo M r M2 hp c vs hS hargs hlo => ?_⟩
  unfold trueP trueQ at hp
  split at hp
  · simp only [Option.map_some, Option.some.injEq, Prod.mk.injEq] at hp
    obtain ⟨rfl, rfl⟩ := hp
    have hd : docall (acall G N) (fun _ => .pure) false lo (.top M.nx) f [] M = some (.bool true, M) := by
      unfold docall
      simp only [List.mapM_nil, Option.pure_def, h1]
      rfl
    exact (sim_docall (acall_ok hG N) hd hS hargs hlo).2
  · cases hp
end
end Go.Proofs.YtmjdkocjfehdcaaGreat.Sx
