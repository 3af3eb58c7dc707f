/-
  SX, PART Z: CODE, CALLS: what the abstract machine answers is what the model's run comes to: 'acall_ok', 'law_calls'.
-/
import Derived.Test.YtegkhdflmboljaaSxZcPl
import Derived.Below
import Derived.LoopN
namespace Go.Proofs.Ytegkhdflmboljaa.Sx
open Go

section
variable {P : Program} {call : CallT} {mode : FuncId → Mode}

/-! ### Code -/
theorem sim_execD (hcall : CallOK P call) {os : List TypeId} {hs : List Hint} {lo nl : Nat} {ds : List Nat} : ∀ (code : Code) (k : K) (s s' : St) (ex : Ex) (a : Act) (c : Cx) (Q : Exit → Act → World → Prop), compCode P mode os hs code = some k → okD ds k = true → (∀ d ∈ chsOf k, d ∈ ds) →
    exec call mode lo nl k s = some (ex, s') → SimSD ds lo s a c → lo ≤ s.M.nx → (∀ a' c', SimSD ds lo s' a' c' → Aft s.M c s'.M c' → Q (conc ex) a' c'.w) → code.wp P Q a c.w := by
  intro code
  induction code with
  | skip =>
    intro k s s' ex a c Q hc hok hsub he hS hlo hQ
    simp only [compCode, Option.some.injEq] at hc; subst hc
    simp only [exec, Option.some.injEq, Prod.mk.injEq] at he
    obtain ⟨rfl, rfl⟩ := he
    exact wp_skip (hQ a c hS (.refl _ _))
  | region id ops draw =>
    intro k s s' ex a c Q hc hok hsub he hS hlo hQ
    exact sim_regD hcall hc hok he hS hlo hQ
  | seq x y ihx ihy =>
    intro k s s' ex a c Q hc hok hsub he hS hlo hQ
    simp only [compCode] at hc
    split at hc
    · rename_i k' hz
      simp only [Option.some.injEq] at hc; subst hc
      exact sim_ch hcall hz hok hsub he hS hlo hQ
    · split at hc
      · rename_i kx ky hx hy
        simp only [Option.some.injEq] at hc; subst hc
        simp only [okD, Bool.and_eq_true] at hok
        simp only [chsOf, List.mem_append] at hsub
        simp only [exec] at he
        split at he
        · rename_i s1 h1
          refine wp_seq (ihx kx s s1 .normal a c _ hx hok.1 (fun d h => hsub d (.inl h)) h1 hS hlo (fun a' c' hS' ha => ?_))
          exact ihy ky s1 s' ex a' c' Q hy hok.2 (fun d h => hsub d (.inr h)) he hS' (by have := ha.nx; omega) (fun a2 c2 h2 hb => hQ a2 c2 h2 (ha.trans hb))
        · rename_i hne
          refine wp_seq (ihx kx s s' ex a c _ hx hok.1 (fun d h => hsub d (.inl h)) he hS hlo (fun a' c' hS' ha => ?_))
          cases ex with
          | normal => exact absurd he (hne s')
          | exit id => exact hQ a' c' hS' ha
          | ret => exact hQ a' c' hS' ha
      · cases hc
  | cond cnd x y ihx ihy =>
    intro k s s' ex a c Q hc hok hsub he hS hlo hQ
    simp only [compCode] at hc
    split at hc
    · rename_i cx kx ky hcx hx hy
      simp only [Option.some.injEq] at hc; subst hc
      simp only [okD, Bool.and_eq_true] at hok
      simp only [chsOf, List.mem_append] at hsub
      have hev : ∀ ρ, Ag ds s ⟨ρ, s.M⟩ → ev ρ cx = ev s.ρ cx := fun ρ h => ev_cg fun i hi => h.eq i (by simpa using List.all_eq_true.1 hok.1.1 i hi)
      obtain ⟨ρ, hag, hS0⟩ := hS
      have rx := ev_rel hS0.fr hcx
      rw [hev ρ hag] at rx
      simp only [exec] at he
      split at he
      · rename_i ht
        rw [ht] at rx
        exact wp_cond (t := true) rx.bool_inv (ihx kx s s' ex a c Q hx hok.1.2 (fun d h => hsub d (.inl h)) he ⟨ρ, hag, hS0⟩ hlo hQ)
      · rename_i ht
        rw [ht] at rx
        exact wp_cond (t := false) rx.bool_inv (ihy ky s s' ex a c Q hy hok.2 (fun d h => hsub d (.inr h)) he ⟨ρ, hag, hS0⟩ hlo hQ)
      · cases he
    · cases hc
  | block id x ihx =>
    intro k s s' ex a c Q hc hok hsub he hS hlo hQ
    simp only [compCode] at hc
    split at hc
    · cases hc
    rename_i hid
    obtain ⟨kx, hx, rfl⟩ := Option.map_eq_some_iff.1 hc
    simp only [okD, if_neg hid] at hok
    simp only [chsOf, if_neg hid] at hsub
    simp only [exec] at he
    split at he
    · rename_i i s1 h1
      split at he
      · rename_i hi
        simp only [Option.some.injEq, Prod.mk.injEq] at he
        obtain ⟨rfl, rfl⟩ := he
        refine wp_block (ihx kx s s1 (.exit i) a c _ hx hok hsub h1 hS hlo (fun a' c' hS' ha => ?_))
        simp only [conc, Exit.inBlock, hi, if_true]
        exact hQ a' c' hS' ha
      · rename_i hi
        simp only [Option.some.injEq, Prod.mk.injEq] at he
        obtain ⟨rfl, rfl⟩ := he
        refine wp_block (ihx kx s s1 (.exit i) a c _ hx hok hsub h1 hS hlo (fun a' c' hS' ha => ?_))
        simp only [conc, Exit.inBlock, hi, if_false]
        exact hQ a' c' hS' ha
    · rename_i hne
      refine wp_block (ihx kx s s' ex a c _ hx hok hsub he hS hlo (fun a' c' hS' ha => ?_))
      cases ex with
      | normal => exact hQ a' c' hS' ha
      | exit i => exact absurd he (hne i s')
      | ret => exact hQ a' c' hS' ha
  | loop x ihx =>
    intro k s s' ex a c Q hc hok hsub he hS hlo hQ
    simp only [compCode] at hc
    obtain ⟨kx, hx, rfl⟩ := Option.map_eq_some_iff.1 hc
    simp only [okD] at hok
    simp only [chsOf] at hsub
    simp only [exec] at he
    have key : ∀ (m : Nat) (s : St) (a : Act) (c : Cx), iter (exec call mode lo nl kx) m s = some (ex, s') → SimSD ds lo s a c → lo ≤ s.M.nx → (∀ a' c', SimSD ds lo s' a' c' → Aft s.M c s'.M c' → Q (conc ex) a' c'.w) → Code.rounds P x Q m a c.w := by
      intro m
      induction m with
      | zero => intro s a c he; simp [iter] at he
      | succ m ihm =>
        intro s a c he hS hlo hQ
        rw [rounds_succ]
        simp only [iter] at he
        split at he
        · rename_i s1 h1
          refine ihx kx s s1 .normal a c _ hx hok hsub h1 hS hlo (fun a' c' hS' ha => ?_)
          exact ihm s1 a' c' he hS' (by have := ha.nx; omega) (fun a2 c2 h2 hb => hQ a2 c2 h2 (ha.trans hb))
        · rename_i hne
          refine ihx kx s s' ex a c _ hx hok hsub he hS hlo (fun a' c' hS' ha => ?_)
          cases ex with
          | normal => exact absurd he (hne s')
          | exit id => exact hQ a' c' hS' ha
          | ret => exact hQ a' c' hS' ha
    exact wp_loop_rounds nl (key nl s a c he hS hlo hQ)
  | exit id =>
    intro k s s' ex a c Q hc hok hsub he hS hlo hQ
    simp only [compCode, Option.some.injEq] at hc; subst hc
    simp only [exec, Option.some.injEq, Prod.mk.injEq] at he
    obtain ⟨rfl, rfl⟩ := he
    exact wp_exit (hQ a c hS (.refl _ _))
  | ret =>
    intro k s s' ex a c Q hc hok hsub he hS hlo hQ
    simp only [compCode, Option.some.injEq] at hc; subst hc
    simp only [exec, Option.some.injEq, Prod.mk.injEq] at he
    obtain ⟨rfl, rfl⟩ := he
    exact wp_ret (hQ a c hS (.refl _ _))
  | _ => intro k s s' ex a c Q hc; simp [compCode] at hc

theorem res_cg {ds : List Nat} {s t : St} {rs : List RV} (h : Ag ds s t) (hr : rs.all (resD ds) = true) : resAll t rs = resAll s rs := by
  have e : rs.mapM (resOf t) = rs.mapM (resOf s) := by
    induction rs with
    | nil => rfl
    | cons r rs ih =>
      simp only [List.all_cons, Bool.and_eq_true] at hr
      have h1 : resOf t r = resOf s r := by
        have hM := h.M
        cases r with
        | tmp i => simp only [resD, Bool.not_eq_true'] at hr; simp only [resOf, h.eq i hr.1]
        | cell i n g => simp only [resD, Bool.not_eq_true'] at hr; simp only [resOf, h.eq i hr.1, hM]
        | loc i n g => simp only [resD, Bool.not_eq_true'] at hr; simp only [resOf, h.eq i hr.1]
      simp only [List.mapM_cons, h1, ih hr.2]
  unfold resAll; rw [e]

/-! ### Calls -/
theorem res_run {lo : Nat} {s : St} {a : Act} {c : Cx} (hS : SimS lo s a c) {rv : ResultVar} {r1 : RV} {x : AV} (hr : compRes P rv = some r1) (hx : resOf s r1 = some x) :
    ∃ v, (match rv with | .tmp t => pure (a.tmps.getD t undef) | .cell p t => do loadVar t (← asAddr (a.tmps.getD p undef)) : Sem Value).run P c.w = .ok v c.w ∧ Rel c x v := by
  cases rv with
  | tmp t =>
    simp only [compRes, Option.some.injEq] at hr; subst hr
    simp only [resOf, Option.some.injEq] at hx; subst hx
    exact ⟨_, rfl, getD_rel hS.fr t⟩
  | cell p t =>
    simp only [compRes] at hr
    split at hr
    · rename_i d i hu hi
      simp only [Option.some.injEq] at hr; subst hr
      have rp := getD_rel hS.fr p
      simp only [resOf] at hx
      split at hx
      · rename_i id off heq
        rw [heq] at rp
        obtain ⟨hv, hs⟩ := rp.ptr_inv
        split at hx
        · rename_i t' cs hm
          have hlk : look s.M.mem (.top s.M.nx) id = some (.cells t' cs) := by
            unfold look; rw [if_pos (ok_top.2 (hS.sim.nx id hs))]; exact hm
          by_cases hagg : aggB d = true
          · simp only [hagg, if_true] at hx
            split at hx
            · rename_i hle
              simp only [Option.some.injEq] at hx; subst hx
              obtain ⟨ad, us, he, hl, hcell, hrel⟩ := read_ptr hS.sim rp hlk hle
              have hrun := run_loadAt_agg (P := P) (w := c.w) hu hi hagg hl hcell
              simp only [Instr.loadAt, Instr.sureAddr, Sem.run_bind, Sem.run_pure, Result.andThen_ok] at hrun
              refine ⟨.agg us.toArray, ?_, .agg _ _ hrel.1 hrel.2⟩
              simp only [Sem.run_bind, he, asAddr, Sem.run_pure, Result.andThen_ok, hrun]
            · cases hx
          · have hagg' : aggB d = false := by simpa using hagg
            simp only [hagg', Bool.false_eq_true, if_false] at hx
            obtain ⟨hlt, hx'⟩ := List.getElem?_eq_some_iff.1 hx
            obtain ⟨ad, us, he, hl, hcell, hrel⟩ := read_ptr (n := 1) hS.sim rp hlk (by omega)
            have e1 : (cs.drop off).take 1 = [x] := by rw [List.take_one, List.head?_drop, hx]; rfl
            rw [e1] at hrel
            match us, hl with
            | [u], _ =>
              have hc0 := hcell 0 u rfl
              have e0 : ad.add 0 = ad := by unfold Addr.add; simp
              rw [e0] at hc0
              have hrun := run_loadAt_one (P := P) (w := c.w) hu hagg' hc0
              simp only [Instr.loadAt, Instr.sureAddr, Sem.run_bind, Sem.run_pure, Result.andThen_ok] at hrun
              exact ⟨u, by simp only [Sem.run_bind, he, asAddr, Sem.run_pure, Result.andThen_ok, hrun], hrel.tail.1⟩
        · cases hx
      · cases hx
    · cases hr

theorem results_run {lo : Nat} {s : St} {a : Act} {c : Cx} (hS : SimS lo s a c) {fn : Func} {rs : List RV} {x : AV} (hr : fn.results.toList.mapM (compRes P) = some rs) (hx : resAll s rs = some x) :
    ∃ v, (results fn a.tmps).run P c.w = .ok v c.w ∧ Rel c x v := by
  have key : ∀ (l : List ResultVar) (rs : List RV) (xs : List AV), l.mapM (compRes P) = some rs → rs.mapM (resOf s) = some xs →
      ∃ vs : List Value, (l.mapM fun rv => (match rv with | .tmp t => pure (a.tmps.getD t undef) | .cell p t => do loadVar t (← asAddr (a.tmps.getD p undef)) : Sem Value)).run P c.w = .ok vs c.w ∧ RelL c xs vs := by
    intro l
    induction l with
    | nil =>
      intro rs xs h1 h2
      simp at h1; subst h1
      simp at h2; subst h2
      exact ⟨[], by simp, .nil c⟩
    | cons rv l ih =>
      intro rs xs h1 h2
      simp only [List.mapM_cons, Option.bind_eq_bind, Option.bind_eq_some_iff, Option.pure_def, Option.some.injEq] at h1
      obtain ⟨r1, hr1, rs', hrs', rfl⟩ := h1
      simp only [List.mapM_cons, Option.bind_eq_bind, Option.bind_eq_some_iff, Option.pure_def, Option.some.injEq] at h2
      obtain ⟨x1, hx1, xs', hxs', rfl⟩ := h2
      obtain ⟨v, hv, hrel⟩ := res_run hS hr1 hx1
      obtain ⟨vs, hvs, hrels⟩ := ih rs' xs' hrs' hxs'
      refine ⟨v :: vs, ?_, .cons hrel hrels⟩
      simp only [List.mapM_cons, Sem.run_bind, hv, Result.andThen_ok, hvs, Sem.run_pure]
  unfold resAll at hx
  have arr : ∀ (vs : List Value), (fn.results.toList.mapM fun rv => (match rv with | .tmp t => pure (a.tmps.getD t undef) | .cell p t => do loadVar t (← asAddr (a.tmps.getD p undef)) : Sem Value)).run P c.w = .ok vs c.w →
      (results fn a.tmps).run P c.w = .ok (if h : vs.toArray.size = 1 then vs.toArray[0] else .tuple vs.toArray) c.w := by
    intro vs h
    unfold results
    have e : fn.results = fn.results.toList.toArray := by simp
    rw [e, List.mapM_toArray]
    simp only [Sem.run_bind, Sem.run_map, Sem.run_pure]
    exact congrArg (fun q : Result (List Value) => (q.andThen fun a w' => Result.ok a.toArray w').andThen fun a w' => Result.ok (if h : a.size = 1 then a[0] else Value.tuple a) w') h
  split at hx
  · rename_i v hm
    simp only [Option.some.injEq] at hx; subst hx
    obtain ⟨vs, hrun, hrel⟩ := key _ _ _ hr hm
    have hlen := hrel.1
    match vs, hlen with
    | [u], _ => exact ⟨u, by rw [arr _ hrun]; simp, hrel.tail.1⟩
  · rename_i xs hne hm
    simp only [Option.some.injEq] at hx; subst hx
    obtain ⟨vs, hrun, hrel⟩ := key _ _ _ hr hm
    refine ⟨.tuple vs.toArray, ?_, .tup _ _ hrel.1 hrel.2⟩
    rw [arr _ hrun, dif_neg]
    intro h1
    have : xs.length = 1 := by rw [hrel.1]; simpa using h1
    match xs, this with
    | [v], _ => exact hne v rfl
  · cases hx

def PrimOK (P : Program) (f : FuncId) (p : List AV → Nat → MM → Option (AV × MM)) : Prop := (∃ fn, P.funcs[f]? = some fn ∧ fn.body.isNone = false ∧ (fn.name == "runtime.NumGoroutine") = false) ∧
    ∀ args lo M r M', p args lo M = some (r, M') → ∀ c vs, Sim lo M c → RelL c args vs → lo ≤ M.nx → Calls P f vs.toArray c.w fun e w' => ∃ v c', e = .returned v ∧ c'.w = w' ∧ After lo M.nx M c M' c' ∧ Rel c' r v

def ProgOK (P : Program) (G : Prog) : Prop :=
  (∀ f cf, G.fns f = some (.code cf) → ∃ fn, P.funcs[f]? = some fn ∧ ∃ os hs, comp P G.mode os hs fn = some cf) ∧
  ∀ f p, G.fns f = some (.prim p) → PrimOK P f p

theorem acall_ok {G : Prog} (hG : ProgOK P G) : ∀ N, CallOK P (acall G N)
  | 0 => fun f args lo M r M' h => by simp [acall] at h
  | N + 1 => fun f args lo M r M' h => by
    simp only [acall] at h
    split at h
    · rename_i cf hf
      obtain ⟨fn, hfn, os, hs, hcomp⟩ := hG.1 f cf hf
      unfold comp at hcomp
      split at hcomp
      · rename_i code hbody
        split at hcomp
        · rename_i k rs hk hrs
          split at hcomp
          · cases hcomp
          · rename_i hname
            split at hcomp
            case isFalse => cases hcomp
            rename_i hds
            simp only [Option.some.injEq] at hcomp; subst hcomp
            obtain ⟨hok, hrd⟩ := hds
            refine ⟨⟨fn, hfn, by rw [hbody]; rfl, by simpa using hname⟩, fun c vs hS hargs hlo => ?_⟩
            refine calls_of_wp hfn hbody ?_
            have hfr : RelL c (args ++ List.replicate (fn.ntmps - args.length) .undef) (vs.toArray ++ Array.replicate (fn.ntmps - vs.toArray.size) undef).toList := by
              have := hargs.append (RelL.replicate (c := c) (.undef c) (fn.ntmps - args.length))
              have hl := hargs.1
              simpa [hl] using this
            have hS0 : SimS lo ⟨args ++ List.replicate (fn.ntmps - args.length) .undef, M⟩ { tmps := vs.toArray ++ Array.replicate (fn.ntmps - vs.toArray.size) undef, defers := [] } c := ⟨hS, hfr, rfl⟩
            have fin : ∀ (ex : Ex) (s : St), (ex = .normal ∨ ex = .ret) → exec (acall G N) G.mode lo G.nl k ⟨args ++ List.replicate (fn.ntmps - args.length) .undef, M⟩ = some (ex, s) → (resAll s rs).map (·, s.M) = some (r, M') →
                code.wp P (bodyPost P fn fun e w' => ∃ v c', e = .returned v ∧ c'.w = w' ∧ After lo M.nx M c M' c' ∧ Rel c' r v) { tmps := vs.toArray ++ Array.replicate (fn.ntmps - vs.toArray.size) undef, defers := [] } c.w := by
              intro ex s hex hrun hres
              obtain ⟨x, hx, hh⟩ := Option.map_eq_some_iff.1 hres
              simp only [Prod.mk.injEq] at hh
              obtain ⟨rfl, rfl⟩ := hh
              refine sim_execD (acall_ok hG N) code k _ s ex _ c _ hk hok (fun _ h => h) hrun (.of hS0) hlo (fun a' c' ⟨ρ', hag, hS'⟩ ha => ?_)
              replace hx : resAll ⟨ρ', s.M⟩ rs = some x := by rw [← hx]; exact res_cg hag hrd
              obtain ⟨v, hv, hrel⟩ := results_run hS' hrs hx
              have hpost : a'.defers = [] ∧ ∃ v, (results fn a'.tmps).run P c'.w = .ok v c'.w ∧ ∃ v' c'', Ending.returned v = .returned v' ∧ c''.w = c'.w ∧ After lo M.nx M c s.M c'' ∧ Rel c'' x v' :=
                ⟨hS'.df, v, hv, v, c', rfl, rfl, ⟨hS'.sim, ha.ext, ha.nx, fun id hs => by
                  rcases ha.ids id hs with h | h
                  · exact .inl h
                  · exact .inr (.inr h)⟩, hrel⟩
              rcases hex with rfl | rfl
              · exact hpost
              · exact hpost
            split at h
            · rename_i s hrun; exact fin .normal s (.inl rfl) hrun h
            · rename_i s hrun; exact fin .ret s (.inr rfl) hrun h
            · cases h
        · cases hcomp
      · cases hcomp
    · rename_i p hf
      obtain ⟨hfn, hp⟩ := hG.2 f p hf
      exact ⟨hfn, fun c vs hS hargs hlo => hp args lo M r M' h c vs hS hargs hlo⟩
    · cases h

def Cx.out (w : World) : Cx := { S := fun _ => False, E := ⟨fun _ => 0, fun _ => 0⟩, L := fun _ => False, W := fun _ => False, F := fun _ _ => False, w := w }

theorem law_calls {G : Prog} (hG : ProgOK P G) {N : Nat} {f : FuncId} {args : List AV} {r : AV} {M' : MM} (h : acall G N f args 0 ⟨0, fun _ => none⟩ = some (r, M')) (w : World) {vs : List Value} (hargs : RelL (Cx.out w) args vs) :
    Calls P f vs.toArray w fun e w' => ∃ v c', e = .returned v ∧ c'.w = w' ∧ Go.RowKit.Below w.heap.size w w' ∧ Rel c' r v := by
  obtain ⟨_, hk⟩ := acall_ok hG N f args 0 _ r M' h
  refine (hk (Cx.out w) vs ⟨fun _ h => absurd rfl h, fun _ h => h.elim, fun _ h => h.elim, fun _ h => absurd rfl h, fun _ h => absurd rfl h, fun _ h => h.elim, fun _ h => h.elim, fun _ _ h => absurd rfl h, fun _ _ h => (by cases h), fun _ _ h => h.elim, fun _ _ h => (by cases h)⟩ hargs (Nat.le_refl _)).mono ?_
  rintro e w' ⟨v, c', rfl, rfl, ha, hr⟩
  exact ⟨v, c', rfl, rfl, ⟨ha.ext.os, ha.ext.tape, ha.ext.output, ha.ext.size, fun k hk => ha.ext.keep k hk (fun h => h)⟩, hr⟩

theorem law_true {G : Prog} (hG : ProgOK P G) {N : Nat} {f : FuncId} {args : List AV} {M' : MM} (h : acall G N f args 0 ⟨0, fun _ => none⟩ = some (.bool true, M')) (w : World) {vs : List Value} (hargs : RelL (Cx.out w) args vs) :
    Calls P f vs.toArray w fun e w' => e = .returned (.bool true) ∧ Go.RowKit.Below w.heap.size w w' :=
  (law_calls hG h w hargs).mono fun _ _ ⟨_, _, he, _, hb, hr⟩ => ⟨by rw [he, hr.bool_inv], hb⟩
end
end Go.Proofs.Ytegkhdflmboljaa.Sx
