/-
  SX, PART O: AN OPERATION OF THE MODEL DOES WHAT THE ABSTRACT MACHINE'S INSTRUCTION SAYS: the frame of the proof, the operations without memory.
-/
import Derived.Test.YtegkhdflmboljaaSxRPl
import Derived.Laws.Sem
import Derived.Laws.Cells
import Derived.Laws.Strings
import Derived.Laws.Entries
import Derived.Laws.CopyRow
import Derived.Laws.MakeOwn
namespace Go.Proofs.Ytegkhdflmboljaa.Sx
open Go

/-- What a step leaves: memory and context behind it. -/
structure After (lo fresh : Nat) (M : MM) (c : Cx) (M' : MM) (c' : Cx) : Prop where
  sim : Sim lo M' c'
  ext : Ext c c'
  nx : M.nx ≤ M'.nx
  ids : ∀ id, c'.S id → c.S id ∨ id = fresh ∨ M.nx ≤ id

theorem After.refl {lo fresh : Nat} {M : MM} {c : Cx} (h : Sim lo M c) : After lo fresh M c M c := ⟨h, .refl c, Nat.le_refl _, fun _ h => .inl h⟩

theorem After.up {lo fresh : Nat} {M : MM} {c : Cx} (h : Sim lo M c) : After lo fresh M c (M.up fresh) c :=
  ⟨⟨h.dom, fun id hs => by have := h.nx id hs; show id < max M.nx (fresh + 1); omega, h.lt, h.live, h.wlive, h.WL, h.Llt, h.inj, h.blk, h.flt, h.frz⟩, .refl c, Nat.le_max_left _ _, fun _ h => .inl h⟩

def CallOK (P : Program) (call : CallT) : Prop :=
  ∀ f args lo M r M', call f args lo M = some (r, M') → (∃ fn, P.funcs[f]? = some fn ∧ fn.body.isNone = false ∧ (fn.name == "runtime.NumGoroutine") = false) ∧
    ∀ c vs, Sim lo M c → RelL c args vs → lo ≤ M.nx → Calls P f vs.toArray c.w fun e w' => ∃ v c', e = .returned v ∧ c'.w = w' ∧ After lo M.nx M c M' c' ∧ Rel c' r v

def OpSim (P : Program) (call : CallT) (mode : FuncId → Mode) (i : I) (o : Oper) : Prop :=
  ∀ draw lo lim fresh ρ M r M' a c, istep call mode draw lo lim fresh i ρ M = some (r, M') → Sim lo M c → RelL c ρ a.tmps.toList → ¬ c.S fresh → lo ≤ M.nx → (draw = false → fresh = M.nx) →
    ∀ (K : Act → World → Prop) (Q : Exit → Act → World → Prop), (∀ v c', After lo fresh M c M' c' → Rel c' r v → K (a.put o.dst v) c'.w) → o.wp P a c.w K Q

section
variable {P : Program} {o : Oper} {a : Act} {w w' : World} {K : Act → World → Prop} {Q : Exit → Act → World → Prop}

theorem wp_value {v : Value} (h : (execOp a.eval o).run P w = .ok (.value v) w') (k : K (a.put o.dst v) w') : o.wp P a w K Q := by
  unfold Oper.wp; rw [h]; exact k
theorem wp_skip' (h : (execOp a.eval o).run P w = .ok .skip w') (k : K (a.put o.dst undef) w') : o.wp P a w K Q := by
  unfold Oper.wp; rw [h]; exact k
theorem wp_enter {f : FuncId} {args : Array Value} (h : (execOp a.eval o).run P w = .ok (.enter f args) w')
    (k : Calls P f args w' fun e w'' => ∃ v, e = .returned v ∧ K (a.put o.dst v) w'') : o.wp P a w K Q := by
  unfold Oper.wp; rw [h]
  exact k.mono fun e w'' ⟨v, he, hk⟩ => by subst he; exact hk
end

/-! ### Operands -/
theorem constD_rel {L : Nat → Nat → Prop} {w : World} {v : Value} {d : D} (h : constD v = some d) : DR L w d v := by
  unfold constD at h
  split at h
  · rename_i hs; injection h with h; subst h; exact .v v hs
  · cases h

theorem mapM_constD_rel {c : Cx} : ∀ {vs : List Value} {ds : List D}, vs.mapM constD = some ds → RelL c (ds.map .d) vs
  | [], ds, h => by simp at h; subst h; exact .nil c
  | v :: vs, ds, h => by
    simp only [List.mapM_cons, Option.bind_eq_bind, Option.bind_eq_some_iff, Option.pure_def, Option.some.injEq] at h
    obtain ⟨d, hd, ds', hds, rfl⟩ := h
    exact .cons (.d _ _ (constD_rel hd)) (mapM_constD_rel hds)

theorem constAV_rel {c : Cx} {v : Value} {x : AV} (h : constAV v = some x) : Rel c x v := by
  have plain : ∀ v, (constD v).map AV.d = some x → Rel c x v := fun v h => by
    obtain ⟨d, hd, rfl⟩ := Option.map_eq_some_iff.1 h
    exact .d _ _ (constD_rel hd)
  unfold constAV at h
  split at h
  · rename_i cs
    obtain ⟨ds, hds, rfl⟩ := Option.map_eq_some_iff.1 h
    have := mapM_constD_rel (c := c) hds
    exact .agg _ cs.toList this.1 this.2
  · rename_i vs
    split at h
    · rename_i hs
      injection h with h; subst h
      have : vs = #[] := Array.eq_empty_of_size_eq_zero hs
      subst this
      exact .undef c
    · cases h
  · rename_i f first cap
    split at h
    · rename_i hs
      injection h with h; subst h
      have e1 : first = #[] := Array.eq_empty_of_size_eq_zero hs.1
      have e2 : cap = #[] := Array.eq_empty_of_size_eq_zero hs.2
      subst e1; subst e2
      exact .fn f [] [] [] [] rfl rfl (fun i h => by simp at h) (fun i h => by simp at h)
    · cases h
  · exact plain _ h

theorem constCells_rel {c : Cx} {v : Value} {cs : List AV} (h : constCells v = some cs) : RelL c cs v.cells.toList := by
  obtain ⟨ds, hds, rfl⟩ := Option.map_eq_some_iff.1 h
  exact mapM_constD_rel hds

theorem getD_rel {c : Cx} {ρ : List AV} {tm : Array Value} (h : RelL c ρ tm.toList) (i : Nat) : Rel c (ρ.getD i .undef) (tm.getD i undef) := by
  by_cases hi : i < ρ.length
  · have hi' : i < tm.size := by have := h.1; simp at this; omega
    have := h.2 i hi (by simpa using hi')
    simpa [List.getD, List.getElem?_eq_getElem hi, Array.getD, hi'] using this
  · have hi' : ¬ i < tm.size := by have := h.1; simp at this; omega
    have e1 : ρ.getD i .undef = .undef := by simp [List.getD, List.getElem?_eq_none (Nat.le_of_not_lt hi)]
    have e2 : tm.getD i Go.undef = Go.undef := by simp [Array.getD, hi']
    rw [e1, e2]; exact .undef c

theorem ev_rel {c : Cx} {ρ : List AV} {a : Act} (h : RelL c ρ a.tmps.toList) {o : Operand} {x : X} (hx : opX o = some x) : Rel c (ev ρ x) (a.eval o) := by
  cases o with
  | tmp t => simp only [opX, Option.some.injEq] at hx; subst hx; exact getD_rel h t
  | const v =>
    simp only [opX] at hx
    obtain ⟨y, hy, rfl⟩ := Option.map_eq_some_iff.1 hx
    exact constAV_rel hy
  | func f =>
    simp only [opX, Option.some.injEq] at hx; subst hx
    exact .fn f [] [] [] [] rfl rfl (fun i h => by simp at h) (fun i h => by simp at h)
  | global g => simp [opX] at hx

theorem evs_rel {c : Cx} {ρ : List AV} {a : Act} (h : RelL c ρ a.tmps.toList) : ∀ {os : List Operand} {xs : List X}, os.mapM opX = some xs → RelL c (xs.map (ev ρ)) (os.map a.eval)
  | [], xs, hx => by simp at hx; subst hx; exact .nil c
  | o :: os, xs, hx => by
    simp only [List.mapM_cons, Option.bind_eq_bind, Option.bind_eq_some_iff, Option.pure_def, Option.some.injEq] at hx
    obtain ⟨x, h1, xs', h2, rfl⟩ := hx
    exact .cons (ev_rel h h1) (evs_rel h h2)

/-! ### What a related value must be -/
theorem Rel.bool_inv {c : Cx} {b : Bool} {v : Value} (h : Rel c (.bool b) v) : v = .bool b := h.v_inv.1
theorem Rel.int_inv {c : Cx} {k : IntKind} {n : Int} {v : Value} (h : Rel c (.int k n) v) : v = .int k n := h.v_inv.1
theorem asI_inv {c : Cx} {x : AV} {n : Int} {v : Value} (hx : asI x = some n) (h : Rel c x v) : ∃ k, v = .int k n := by
  unfold asI at hx
  split at hx
  · injection hx with hx; subst hx; exact ⟨_, h.v_inv.1⟩
  · cases hx

/-! ### The laws of the model's own words -/
section
variable {P : Program} {w : World}
theorem run_und {t : TypeId} {d : TypeDesc} (h : P.underlying t = some d) : (underlying t).run P w = .ok d w := run_underlying h w
theorem run_info {t : TypeId} {i : TypeInfo} (h : P.info? t = some i) : (typeInfo t).run P w = .ok i w := by simp [typeInfo, h]
theorem run_size {t : TypeId} {i : TypeInfo} (h : P.info? t = some i) : (sizeOf t).run P w = .ok i.size w := by simp [sizeOf, run_info h]
theorem run_zero {t : TypeId} {i : TypeInfo} {z : Value} (h : P.info? t = some i) (hz : i.zero = some z) : (zeroValue t).run P w = .ok z w := by simp [zeroValue, run_info h, hz]
theorem run_agg {t : TypeId} {d : TypeDesc} (h : P.underlying t = some d) : (isAgg t).run P w = .ok (aggB d) w := by
  simp only [isAgg, Sem.run_bind, run_und h, Result.andThen_ok]
  unfold aggB
  cases d <;> rfl
end

def plainV : Value → Bool
  | .nilIface | .agg _ => false
  | _ => true

theorem eqGuard_run {P : Program} {w : World} (op : BinOp) (t : TypeId) (x y : Operand) (u v : Value) (h : plainV u = true) : (eqGuard op t x y u v).run P w = .ok () w := by
  cases op <;> cases u <;> first | rfl | (cases h; done)

theorem toList_data (x : ByteArray) : x.toList = x.data.toList := ByteArray.toList_eq x

theorem append_data (x y : ByteArray) : x ++ y = ⟨x.data ++ y.data⟩ := by
  apply ByteArray.ext
  simp

theorem eqk_run {P : Program} {w : World} {c : Cx} {t : TypeId} {x y : AV} {u v : Value} {b : Bool} (n : Nat) (h : eqk (ekOf P t) x y = some b) (hu : Rel c x u) (hv : Rel c y v) :
    plainV u = true ∧ (Op.equalIn (n + 1) t u v).run P w = .ok b w ∧ (∀ op, (op = .eql ∨ op = .neq) → binOp op t u v = (do let e ← Op.equal t u v; pure (.bool (if op = .eql then e else !e)))) := by
  unfold eqk at h
  split at h <;> simp only [Option.some.injEq, reduceCtorEq] at h <;> subst h <;> rename_i hk <;> (unfold ekOf at hk; split at hk <;> first | (cases hk; done) | skip) <;> rename_i hd
  all_goals have hd' := run_und (w := w) hd
  · obtain ⟨rfl, _⟩ := hu.v_inv; obtain ⟨rfl, _⟩ := hv.v_inv
    exact ⟨rfl, by simp only [Op.equalIn, Sem.run_bind, hd', Result.andThen_ok, Sem.run_pure], fun op ho => by rcases ho with rfl | rfl <;> rfl⟩
  · obtain ⟨rfl, _⟩ := hu.v_inv; obtain ⟨rfl, _⟩ := hv.v_inv
    exact ⟨rfl, by simp only [Op.equalIn, Sem.run_bind, hd', Result.andThen_ok, Sem.run_pure, Option.isNone], fun op ho => by rcases ho with rfl | rfl <;> rfl⟩
  · obtain ⟨rfl, _⟩ := hu.v_inv; cases hv
    exact ⟨rfl, by simp only [Op.equalIn, Sem.run_bind, hd', Result.andThen_ok, Sem.run_pure, Option.isNone], fun op ho => by rcases ho with rfl | rfl <;> rfl⟩
  · obtain ⟨rfl, _⟩ := hv.v_inv; cases hu
    exact ⟨rfl, by simp only [Op.equalIn, Sem.run_bind, hd', Result.andThen_ok, Sem.run_pure], fun op ho => by rcases ho with rfl | rfl <;> rfl⟩
  · obtain ⟨rfl, _⟩ := hu.v_inv; cases hv
    exact ⟨rfl, by simp only [Op.equalIn, Sem.run_bind, hd', Result.andThen_ok, Sem.run_pure, Option.isNone], fun op ho => by rcases ho with rfl | rfl <;> rfl⟩
  · obtain ⟨rfl, _⟩ := hv.v_inv; cases hu
    exact ⟨rfl, by simp only [Op.equalIn, Sem.run_bind, hd', Result.andThen_ok, Sem.run_pure], fun op ho => by rcases ho with rfl | rfl <;> rfl⟩
  · obtain ⟨rfl, _⟩ := hu.v_inv; obtain ⟨rfl, _⟩ := hv.v_inv
    exact ⟨rfl, by simp only [Op.equalIn, Sem.run_bind, hd', Result.andThen_ok, Sem.run_pure, Option.isNone], fun op ho => by rcases ho with rfl | rfl <;> rfl⟩
  · obtain ⟨rfl, _⟩ := hv.v_inv; cases hu
    exact ⟨rfl, by simp only [Op.equalIn, Sem.run_bind, hd', Result.andThen_ok, Sem.run_pure], fun op ho => by rcases ho with rfl | rfl <;> rfl⟩
  · obtain ⟨rfl, _⟩ := hu.v_inv; obtain ⟨rfl, _⟩ := hv.v_inv
    exact ⟨rfl, by simp only [Op.equalIn, Sem.run_bind, hd', Result.andThen_ok, Sem.run_pure], fun op ho => by rcases ho with rfl | rfl <;> rfl⟩
  · obtain ⟨rfl, _⟩ := hv.v_inv; cases hu
    exact ⟨rfl, by simp only [Op.equalIn, Sem.run_bind, hd', Result.andThen_ok, Sem.run_pure], fun op ho => by rcases ho with rfl | rfl <;> rfl⟩

theorem bin_run {P : Program} {w : World} {c : Cx} {op : BinOp} {t : TypeId} {ox oy : Operand} {x y r : AV} {u v : Value} (h : binA op (ekOf P t) x y = some r) (hu : Rel c x u) (hv : Rel c y v) :
    ∃ z, (do eqGuard op t ox oy u v; binOp op t u v : Sem Value).run P w = .ok z w ∧ Rel c r z := by
  unfold binA at h
  split at h
  · -- two integers
    rename_i k p k' q
    obtain ⟨rfl, _⟩ := hu.v_inv
    obtain ⟨rfl, _⟩ := hv.v_inv
    simp only [Sem.run_bind, eqGuard_run op t ox oy (.int k p) (.int k' q) rfl, Result.andThen_ok]
    split at h
    · rename_i hop
      obtain ⟨z, hz, rfl⟩ := Option.map_eq_some_iff.1 h
      unfold ishift at hz
      split at hz
      · cases hz
      · rename_i hq
        rcases hop with rfl | rfl
        · simp only [Option.some.injEq] at hz; subst hz
          exact ⟨_, by simp [binOp, Op.shift, hq], .int c _ _⟩
        · simp only [Option.some.injEq] at hz; subst hz
          exact ⟨_, by simp [binOp, Op.shift, hq], .int c _ _⟩
    · rename_i hop
      split at h
      · rename_i hk
        subst hk
        obtain ⟨z, hz, rfl⟩ := Option.map_eq_some_iff.1 h
        unfold ibin at hz
        cases op with
        | shl => exact absurd (Or.inl rfl) hop
        | shr => exact absurd (Or.inr rfl) hop
        | quo =>
          simp only at hz
          split at hz
          · cases hz
          · rename_i hq
            simp only [Option.some.injEq] at hz; subst hz
            exact ⟨_, by simp [binOp, Op.intDiv, hq], .int c _ _⟩
        | rem =>
          simp only at hz
          split at hz
          · cases hz
          · rename_i hq
            simp only [Option.some.injEq] at hz; subst hz
            exact ⟨_, by simp [binOp, Op.intDiv, hq], .int c _ _⟩
        | add | sub | mul => simp only [Option.some.injEq] at hz; subst hz; exact ⟨_, by simp [binOp, Op.intArith], .int c _ _⟩
        | and | or | xor | andNot => simp only [Option.some.injEq] at hz; subst hz; exact ⟨_, by simp [binOp, Op.intBits, bitsOf], .int c _ _⟩
        | eql | neq | lss | leq | gtr | geq => simp only [Option.some.injEq] at hz; subst hz; exact ⟨_, by simp [binOp, Op.intCmp], .bool c _⟩
      · cases h
  · -- two strings
    rename_i p q
    obtain ⟨rfl, _⟩ := hu.v_inv
    obtain ⟨rfl, _⟩ := hv.v_inv
    simp only [Sem.run_bind, eqGuard_run op t ox oy (.string p) (.string q) rfl, Result.andThen_ok]
    obtain ⟨z, hz, rfl⟩ := Option.map_eq_some_iff.1 h
    unfold sbin at hz
    cases op with
    | add =>
      simp only at hz
      split at hz
      · cases hz
      · rename_i hq
        simp only [Option.some.injEq] at hz; subst hz
        have hq' : ¬ (((p.size + q.size : Nat) : Int) > IntKind.i64.max) := by
          have e : IntKind.i64.max = 9223372036854775807 := by decide
          rw [e]; exact hq
        exact ⟨_, by simp only [binOp, Op.stringOp, if_neg hq', Sem.run_pure, append_data], .str c _⟩
    | eql | neq | lss | leq | gtr | geq => simp only [Option.some.injEq] at hz; subst hz; exact ⟨_, by simp only [binOp, Op.stringOp, toList_data, Sem.run_pure], .bool c _⟩
    | _ => cases hz
  · -- '==' of other kinds
    rename_i hni hns
    split at h
    · obtain ⟨b, hb, rfl⟩ := Option.map_eq_some_iff.1 h
      obtain ⟨h1, h2, h3⟩ := eqk_run (w := w) 9999 hb hu hv
      refine ⟨.bool b, ?_, .bool c b⟩
      rw [h3 .eql (.inl rfl)]
      have h2' : (Op.equal t u v).run P w = .ok b w := h2
      simp only [Sem.run_bind, eqGuard_run _ t ox oy u v h1, Result.andThen_ok, h2', Sem.run_pure, if_true]
    · obtain ⟨b, hb, rfl⟩ := Option.map_eq_some_iff.1 h
      obtain ⟨h1, h2, h3⟩ := eqk_run (w := w) 9999 hb hu hv
      refine ⟨.bool !b, ?_, .bool c _⟩
      rw [h3 .neq (.inr rfl)]
      have h2' : (Op.equal t u v).run P w = .ok b w := h2
      simp only [Sem.run_bind, eqGuard_run _ t ox oy u v h1, Result.andThen_ok, h2', Sem.run_pure]
      rfl
    · cases h

theorem un_run {P : Program} {w : World} {c : Cx} {op : UnOp} {x r : AV} {u : Value} (h : unA op x = some r) (hu : Rel c x u) : ∃ z, (Op.unary op u).run P w = .ok z w ∧ Rel c r z := by
  unfold unA at h
  split at h
  · obtain ⟨rfl, _⟩ := hu.v_inv
    split at h
    · simp only [Option.some.injEq] at h; subst h
      exact ⟨_, by simp [Op.unary, Op.intArith], .int c _ _⟩
    · simp only [Option.some.injEq] at h; subst h
      exact ⟨_, by simp [Op.unary, Op.intBits, bitsOf], .int c _ _⟩
    · cases h
  · obtain ⟨rfl, _⟩ := hu.v_inv
    split at h
    · simp only [Option.some.injEq] at h; subst h
      exact ⟨_, by simp [Op.unary], .bool c _⟩
    · cases h
  · cases h
end Go.Proofs.Ytegkhdflmboljaa.Sx
