/-
  SX, PART T: AN OPERATION OF THE MODEL DOES WHAT THE ABSTRACT MACHINE'S INSTRUCTION SAYS: fields, indexes, parts of tuples, lengths, maps.
-/
import Derived.Test.YtegkhdflmboljaaSxSPl
namespace Go.Proofs.Ytegkhdflmboljaa.Sx
open Go

section
variable {P : Program} {call : CallT} {mode : FuncId → Mode} {o : Oper}

theorem Rel.ip_drop {c : Cx} {ds : List D} {v : Value} (h : Rel c (.ip ds) v) (k : Nat) : ∃ ad, v = .pointer (some ad) ∧ Rel c (.ip (ds.drop k)) (.pointer (some (ad.add k))) := by
  cases h with
  | ip ad _ f hs hb hL hc hr =>
    refine ⟨ad, rfl, .ip _ _ (fun j => f (k + j)) (by rw [add_none hs]) (by rw [add_none hs]; exact hb) (fun j hj => ?_) (fun j hj => ?_) (fun j hj => ?_)⟩
    · simp only [List.length_drop] at hj
      have := hL (k + j) (by omega)
      rw [add_none hs]
      simpa [Nat.add_assoc] using this
    · simp only [List.length_drop] at hj
      rw [add_none hs, add_blk, ← hc (k + j) (by omega), add_none hs]
      simp [Nat.add_assoc]
    · simp only [List.getElem_drop]
      exact hr _ _

theorem sim_fad {s : TypeId} {x : Operand} {fl : Nat} (ho : o.op = .fieldAddr s x fl) {fs : Array Field} {fd : Field} {ti : TypeInfo} {x' : X} (hu : P.underlying s = some (.struct fs)) (hx : opX x = some x') (hfd : fs[fl]? = some fd)
    (hi : P.info? fd.type = some ti) (hsz : ¬ ti.size = 0) : OpSim P call mode (.fad fd.offset x') o := by
  intro draw lo lim fresh ρ M r M' a c hst hS hF hf _ _ K Q hK
  have rx := ev_rel hF hx
  have run : ∀ ad, a.eval x = .pointer (some ad) → (execOp a.eval o).run P c.w = .ok (.value (.pointer (some (ad.add fd.offset)))) c.w := by
    intro ad hv
    simp only [execOp, ho, hv, Instr.fieldAt, Sem.run_bind, run_und hu, Result.andThen_ok, hfd, Instr.sureAddr, Sem.run_pure, fieldPlace, run_size hi, if_neg hsz]
  simp only [istep] at hst
  split at hst
  · rename_i id off heq
    rw [heq] at rx
    simp only [Option.some.injEq, Prod.mk.injEq] at hst
    obtain ⟨rfl, rfl⟩ := hst
    refine wp_value (w' := c.w) (run _ rx.ptr_inv.1) (hK _ c (.refl hS) ?_)
    rw [add_blk]
    exact .ptr _ _ rx.ptr_inv.2
  · rename_i ds heq
    rw [heq] at rx
    simp only [Option.some.injEq, Prod.mk.injEq] at hst
    obtain ⟨rfl, rfl⟩ := hst
    obtain ⟨ad, hv, hr⟩ := rx.ip_drop fd.offset
    exact wp_value (w' := c.w) (run _ hv) (hK _ c (.refl hS) hr)
  · cases hst

theorem part_run {w : World} {t : TypeId} {d : TypeDesc} {ti : TypeInfo} {c : Cx} (hu : P.underlying t = some d) (hi : P.info? t = some ti) {cs : List AV} {us : List Value} (hr : RelL c cs us) {off : Nat} {r : AV}
    (h : (if aggB d then (if off + ti.size ≤ cs.length then some (AV.agg ((cs.drop off).take ti.size)) else none) else cs[off]?) = some r) : ∃ v, (part t us.toArray off).run P w = .ok v w ∧ Rel c r v := by
  by_cases hagg : aggB d = true
  · simp only [hagg, if_true] at h
    split at h
    · rename_i hle
      simp only [Option.some.injEq] at h; subst h
      have hd := (hr.drop off).take ti.size
      refine ⟨.agg ((us.drop off).take ti.size).toArray, ?_, .agg _ _ hd.1 hd.2⟩
      simp only [part, Sem.run_bind, run_agg hu, Result.andThen_ok, hagg, if_true, run_size hi, Sem.run_pure]
      congr 2
      apply Array.ext'
      simp
    · cases h
  · have hagg' : aggB d = false := by simpa using hagg
    simp only [hagg', Bool.false_eq_true, if_false] at h
    obtain ⟨v, hv, hrv⟩ := hr.get h
    refine ⟨v, ?_, hrv⟩
    have hv' : us.toArray[off]? = some v := by simpa using hv
    simp only [part, Sem.run_bind, run_agg hu, Result.andThen_ok, hagg', Bool.false_eq_true, if_false, hv', Sem.run_pure]

theorem sim_fld {s : TypeId} {x : Operand} {fl : Nat} (ho : o.op = .field s x fl) {fs : Array Field} {fd : Field} {ti : TypeInfo} {d : TypeDesc} {x' : X} (hu : P.underlying s = some (.struct fs)) (hx : opX x = some x') (hfd : fs[fl]? = some fd)
    (hi : P.info? fd.type = some ti) (hud : P.underlying fd.type = some d) : OpSim P call mode (.fld fd.offset ti.size (aggB d) x') o := by
  intro draw lo lim fresh ρ M r M' a c hst hS hF hf _ _ K Q hK
  have rx := ev_rel hF hx
  simp only [istep] at hst
  split at hst
  · rename_i cs heq
    rw [heq] at rx
    obtain ⟨us, hv, hr⟩ := rx.agg_inv
    have hst' : (if aggB d then (if fd.offset + ti.size ≤ cs.length then some (AV.agg ((cs.drop fd.offset).take ti.size)) else none) else cs[fd.offset]?) = some r ∧ M = M' := by
      by_cases hagg : aggB d = true
      · simp only [hagg, if_true] at hst ⊢
        split at hst
        · rename_i hle
          simp only [Option.some.injEq, Prod.mk.injEq] at hst
          simp only [if_pos hle, Option.some.injEq]; exact hst
        · cases hst
      · have hagg' : aggB d = false := by simpa using hagg
        simp only [hagg', Bool.false_eq_true, if_false] at hst ⊢
        obtain ⟨y, hy, hh⟩ := Option.map_eq_some_iff.1 hst
        simp only [Prod.mk.injEq] at hh
        exact ⟨by rw [hy, hh.1], hh.2⟩
    obtain ⟨h1, rfl⟩ := hst'
    obtain ⟨v, hrun, hrv⟩ := part_run (w := c.w) hud hi hr h1
    refine wp_value (v := v) (w' := c.w) ?_ (hK _ c (.refl hS) hrv)
    simp only [execOp, ho, hv, Instr.field, Sem.run_bind, run_und hu, Result.andThen_ok, hfd, asAgg, Sem.run_pure, hrun]
  · cases hst

theorem sim_ixs {t e : TypeId} {x y : Operand} (ho : o.op = .indexAddr t x y) {ie : TypeInfo} {x' y' : X} (hu : P.underlying t = some (.slice e)) (hi : P.info? e = some ie) (hx : opX x = some x') (hy : opX y = some y') :
    OpSim P call mode (.ixs ie.size x' y') o := by
  intro draw lo lim fresh ρ M r M' a c hst hS hF hf _ _ K Q hK
  have rx := ev_rel hF hx
  have ry := ev_rel hF hy
  have run : ∀ (k : IntKind) (n : Int) ad (len cap : Nat), a.eval y = .int k n → a.eval x = .slice (some ad) len cap → 0 ≤ n → n < (len : Int) →
      (execOp a.eval o).run P c.w = .ok (.value (.pointer (some (ad.add (n.toNat * ie.size))))) c.w := by
    intro k n ad len cap hvy hvx h0 h1
    simp only [execOp, ho, hvy, hvx, Instr.indexAt, asIntOf, Sem.run_bind, Sem.run_pure, run_und hu, Result.andThen_ok, if_pos (And.intro h0 h1), run_size hi]
  simp only [istep] at hst
  split at hst
  · rename_i n hn
    obtain ⟨k, hvy⟩ := asI_inv hn ry
    have closed : ∀ (ds : List D) (len : Nat), Rel c (.d (.sl ds len)) (a.eval x) → (if 0 ≤ n ∧ n < (len : Int) then some (AV.ip (ds.drop (n.toNat * ie.size)), M) else none) = some (r, M') → o.wp P a c.w K Q := by
      intro ds len rx hst
      split at hst
      · rename_i hc
        simp only [Option.some.injEq, Prod.mk.injEq] at hst
        obtain ⟨rfl, rfl⟩ := hst
        have hlen : 0 < len := by omega
        have hval : ∃ ad cap, a.eval x = .slice (some ad) len cap ∧ Rel c (.ip ds) (.pointer (some ad)) := by
          generalize a.eval x = v at rx
          cases rx with
          | d _ _ hd => cases hd with
            | sl0 ad cap => exact absurd hlen (Nat.lt_irrefl 0)
            | sl ad _ cap _ f hn hnk hs hb hL hc hr => exact ⟨ad, cap, rfl, .ip ad _ f hs hb hL hc hr⟩
        obtain ⟨ad, cap, hv, hip⟩ := hval
        obtain ⟨ad', he, hr⟩ := hip.ip_drop (n.toNat * ie.size)
        simp only [Value.pointer.injEq, Option.some.injEq] at he
        subst he
        exact wp_value (w' := c.w) (run k n _ len cap hvy hv hc.1 hc.2) (hK _ c (.refl hS) hr)
      · cases hst
    split at hst
    · rename_i id off len s heq
      rw [heq] at rx
      split at hst
      · rename_i hc
        simp only [Option.some.injEq, Prod.mk.injEq] at hst
        obtain ⟨rfl, rfl⟩ := hst
        obtain ⟨cap, hv, hs, -, -⟩ := rx.os_inv
        refine wp_value (w' := c.w) (run k n _ len cap hvy hv hc.1 hc.2) (hK _ c (.refl hS) ?_)
        rw [add_blk]
        exact .ptr _ _ hs
      · cases hst
    · rename_i ds len heq
      rw [heq] at rx
      exact closed _ _ rx hst
    · rename_i ds len s heq
      rw [heq] at rx
      exact closed _ _ (.d _ _ rx.ov_closed) hst
    · cases hst
  · cases hst

theorem sim_ixp {t e : TypeId} {len : Nat} {x y : Operand} (ho : o.op = .indexAddr t x y) {ie : TypeInfo} {x' y' : X} (hu : P.underlying t = some (.array len e)) (hi : P.info? e = some ie) (hx : opX x = some x') (hy : opX y = some y') :
    OpSim P call mode (.ixp ie.size len x' y') o := by
  intro draw lo lim fresh ρ M r M' a c hst hS hF hf _ _ K Q hK
  have rx := ev_rel hF hx
  have ry := ev_rel hF hy
  have run : ∀ (k : IntKind) (n : Int) ad, a.eval y = .int k n → a.eval x = .pointer (some ad) → 0 ≤ n → n < (len : Int) →
      (execOp a.eval o).run P c.w = .ok (.value (.pointer (some (ad.add (n.toNat * ie.size))))) c.w := by
    intro k n ad hvy hvx h0 h1
    simp only [execOp, ho, hvy, hvx, Instr.indexAt, Instr.sureAddr, asIntOf, Sem.run_bind, Sem.run_pure, run_und hu, Result.andThen_ok, if_pos (And.intro h0 h1), run_size hi]
  simp only [istep] at hst
  split at hst
  · rename_i n hn
    obtain ⟨k, hvy⟩ := asI_inv hn ry
    split at hst
    · rename_i hc
      split at hst
      · rename_i id off heq
        rw [heq] at rx
        simp only [Option.some.injEq, Prod.mk.injEq] at hst
        obtain ⟨rfl, rfl⟩ := hst
        refine wp_value (w' := c.w) (run k n _ hvy rx.ptr_inv.1 hc.1 hc.2) (hK _ c (.refl hS) ?_)
        rw [add_blk]
        exact .ptr _ _ rx.ptr_inv.2
      · rename_i ds heq
        rw [heq] at rx
        simp only [Option.some.injEq, Prod.mk.injEq] at hst
        obtain ⟨rfl, rfl⟩ := hst
        obtain ⟨ad, hv, hr⟩ := rx.ip_drop (n.toNat * ie.size)
        exact wp_value (w' := c.w) (run k n _ hvy hv hc.1 hc.2) (hK _ c (.refl hS) hr)
      · cases hst
    · cases hst
  · cases hst

theorem sim_ixv {t e : TypeId} {len : Nat} {x y : Operand} (ho : o.op = .index t x y) {ie : TypeInfo} {d : TypeDesc} {x' y' : X} (hu : P.underlying t = some (.array len e)) (hi : P.info? e = some ie) (hud : P.underlying e = some d)
    (hx : opX x = some x') (hy : opX y = some y') : OpSim P call mode (.ixv ie.size len (aggB d) x' y') o := by
  intro draw lo lim fresh ρ M r M' a c hst hS hF hf _ _ K Q hK
  have rx := ev_rel hF hx
  have ry := ev_rel hF hy
  simp only [istep] at hst
  split at hst
  · rename_i n cs hn heq
    rw [heq] at rx
    obtain ⟨k, hvy⟩ := asI_inv hn ry
    obtain ⟨us, hv, hr⟩ := rx.agg_inv
    split at hst
    · rename_i hc
      have hst' : (if aggB d then (if n.toNat * ie.size + ie.size ≤ cs.length then some (AV.agg ((cs.drop (n.toNat * ie.size)).take ie.size)) else none) else cs[n.toNat * ie.size]?) = some r ∧ M = M' := by
        by_cases hagg : aggB d = true
        · simp only [hagg, if_true] at hst ⊢
          split at hst
          · rename_i hle
            simp only [Option.some.injEq, Prod.mk.injEq] at hst
            simp only [if_pos hle, Option.some.injEq]; exact hst
          · cases hst
        · have hagg' : aggB d = false := by simpa using hagg
          simp only [hagg', Bool.false_eq_true, if_false] at hst ⊢
          obtain ⟨y, hy, hh⟩ := Option.map_eq_some_iff.1 hst
          simp only [Prod.mk.injEq] at hh
          exact ⟨by rw [hy, hh.1], hh.2⟩
      obtain ⟨h1, rfl⟩ := hst'
      obtain ⟨v, hrun, hrv⟩ := part_run (w := c.w) hud hi hr h1
      refine wp_value (v := v) (w' := c.w) ?_ (hK _ c (.refl hS) hrv)
      simp only [execOp, ho, hvy, hv, Instr.index, asIntOf, Sem.run_bind, Sem.run_pure, run_und hu, Result.andThen_ok, if_pos hc, run_size hi, hrun]
    · cases hst
  · cases hst

theorem sim_ixc {t : TypeId} {x y : Operand} (ho : o.op = .index t x y) {x' y' : X} (hu : P.underlying t = some .string) (hx : opX x = some x') (hy : opX y = some y') : OpSim P call mode (.ixc x' y') o := by
  intro draw lo lim fresh ρ M r M' a c hst hS hF hf _ _ K Q hK
  have rx := ev_rel hF hx
  have ry := ev_rel hF hy
  simp only [istep] at hst
  split at hst
  · rename_i s n heq hn
    rw [heq] at rx
    obtain ⟨k, hvy⟩ := asI_inv hn ry
    have hv := rx.v_inv.1
    split at hst
    · rename_i hc
      obtain ⟨b, hb, hh⟩ := Option.map_eq_some_iff.1 hst
      simp only [Prod.mk.injEq] at hh
      obtain ⟨rfl, rfl⟩ := hh
      have hb' : s[n.toNat]? = some b := by
        obtain ⟨h1, h2⟩ := Array.getElem?_eq_some_iff.1 hb
        rw [ByteArray.getElem?_lt' s n.toNat h1]
        exact congrArg some h2
      refine wp_value (v := .int .u8 b.toNat) (w' := c.w) ?_ (hK _ c (.refl hS) (.int c _ _))
      simp only [execOp, ho, hvy, hv, Instr.index, asIntOf, Sem.run_bind, Sem.run_pure, run_und hu, Result.andThen_ok, if_pos hc, hb']
    · cases hst
  · cases hst

theorem sim_ext {x : Operand} {i : Nat} (ho : o.op = .extract x i) {x' : X} (hx : opX x = some x') : OpSim P call mode (.ext x' i) o := by
  intro draw lo lim fresh ρ M r M' a c hst hS hF hf _ _ K Q hK
  have rx := ev_rel hF hx
  simp only [istep] at hst
  split at hst
  · rename_i vs heq
    rw [heq] at rx
    obtain ⟨us, hv, hr⟩ := rx.tup_inv
    obtain ⟨y, hy, hh⟩ := Option.map_eq_some_iff.1 hst
    simp only [Prod.mk.injEq] at hh
    obtain ⟨rfl, rfl⟩ := hh
    obtain ⟨v, hv', hrv⟩ := hr.get hy
    have hv2 : us.toArray[i]? = some v := by simpa using hv'
    refine wp_value (v := v) (w' := c.w) ?_ (hK _ c (.refl hS) hrv)
    simp only [execOp, ho, hv, Instr.extract, hv2, Sem.run_bind, Sem.run_pure, Result.andThen_ok]
  · cases hst

/-! ### Builtin functions that only look -/
theorem builtin_run {w : World} {b : Builtin} {cl : Call} (ho : o.op = .call cl) (hb : cl.callee = .builtin b) {a : Act} {n : Next} {w' : World}
    (h : (builtin b cl.argTypes o.type (cl.args.map fun | .const _ => true | _ => false) (cl.args.map a.eval)).run P w = .ok n w') : (execOp a.eval o).run P w = .ok n w' := by
  simp only [execOp, ho, resolve, hb, invoke, Sem.run_bind, Sem.run_pure, Result.andThen_ok]
  exact h

theorem args_one {cl : Call} {x : Operand} (ha : cl.args.toList = [x]) (a : Act) : (cl.args.map a.eval)[0]? = some (a.eval x) := by
  have hargs : cl.args = #[x] := by rw [← Array.toArray_toList (xs := cl.args), ha]
  rw [hargs]; simp

theorem sim_lens {cl : Call} (ho : o.op = .call cl) (hb : cl.callee = .builtin .len) {x : Operand} {t : TypeId} {ts : List TypeId} (ha : cl.args.toList = [x]) (hts : cl.argTypes.toList = t :: ts) (hu : P.underlying t = some .string)
    {x' : X} (hx : opX x = some x') : OpSim P call mode (.lens x') o := by
  intro draw lo lim fresh ρ M r M' a c hst hS hF hf _ _ K Q hK
  have rx := ev_rel hF hx
  have ht0 : cl.argTypes[0]? = some t := by rw [← Array.getElem?_toList, hts]; rfl
  simp only [istep] at hst
  split at hst
  · rename_i s heq
    rw [heq] at rx
    have hv := rx.v_inv.1
    simp only [Option.some.injEq, Prod.mk.injEq] at hst
    obtain ⟨rfl, rfl⟩ := hst
    refine wp_value (v := goInt s.data.size) (w' := c.w) (builtin_run ho hb ?_) (hK _ c (.refl hS) (.int c _ _))
    simp only [builtin, Builtin.len_, ht0, args_one ha, hv, Sem.run_bind, run_und hu, Result.andThen_ok, Sem.run_pure]
    rfl
  · cases hst

theorem sl_inv {c : Cx} {ds : List D} {n : Nat} {v : Value} (h : Rel c (.d (.sl ds n)) v) : ∃ ad cap, v = .slice ad n cap := by
  cases h with
  | d _ _ hd => cases hd with
    | sl0 ad cap => exact ⟨ad, cap, rfl⟩
    | sl ad _ cap => exact ⟨_, cap, rfl⟩

theorem sim_len {cl : Call} (ho : o.op = .call cl) (hb : cl.callee = .builtin .len) {x : Operand} {t : TypeId} {ts : List TypeId} (ha : cl.args.toList = [x]) (hts : cl.argTypes.toList = t :: ts) {e : TypeId} (hu : P.underlying t = some (.slice e))
    {x' : X} (hx : opX x = some x') : OpSim P call mode (.len x') o := by
  intro draw lo lim fresh ρ M r M' a c hst hS hF hf _ _ K Q hK
  have rx := ev_rel hF hx
  have ht0 : cl.argTypes[0]? = some t := by rw [← Array.getElem?_toList, hts]; rfl
  have fin : ∀ (n : Nat) ad cap, a.eval x = .slice ad n cap → some (AV.i n, M) = some (r, M') → o.wp P a c.w K Q := by
    intro n ad cap hv hst
    simp only [Option.some.injEq, Prod.mk.injEq] at hst
    obtain ⟨rfl, rfl⟩ := hst
    refine wp_value (v := goInt n) (w' := c.w) (builtin_run ho hb ?_) (hK _ c (.refl hS) (.int c _ _))
    simp only [builtin, Builtin.len_, ht0, args_one ha, hv, Sem.run_bind, run_und hu, Result.andThen_ok, Sem.run_pure]
  simp only [istep] at hst
  split at hst
  · rename_i ds n heq
    rw [heq] at rx
    obtain ⟨ad, cap, hv⟩ := sl_inv rx
    exact fin n ad cap hv hst
  · rename_i heq
    rw [heq] at rx
    exact fin 0 none 0 rx.v_inv.1 hst
  · rename_i id off len s heq
    rw [heq] at rx
    obtain ⟨k, hv, -, -, -⟩ := rx.os_inv
    exact fin len _ k hv hst
  · rename_i id ds len s heq
    rw [heq] at rx
    obtain ⟨ad, cap, hv⟩ := sl_inv (.d _ _ rx.ov_closed)
    exact fin len ad cap hv hst
  · cases hst

theorem sim_mmax {cl : Call} (ho : o.op = .call cl) (mx : Bool) (hb : cl.callee = .builtin (if mx then .max else .min)) {x y : Operand} (ha : cl.args.toList = [x, y]) {x' y' : X} (hx : opX x = some x') (hy : opX y = some y') :
    OpSim P call mode (.mmax mx x' y') o := by
  intro draw lo lim fresh ρ M r M' a c hst hS hF hf _ _ K Q hK
  have rx := ev_rel hF hx
  have ry := ev_rel hF hy
  have hargs : cl.args = #[x, y] := by rw [← Array.toArray_toList (xs := cl.args), ha]
  simp only [istep] at hst
  split at hst
  · rename_i k p k' q h1 h2
    rw [h1] at rx
    rw [h2] at ry
    simp only [Option.some.injEq, Prod.mk.injEq] at hst
    obtain ⟨rfl, rfl⟩ := hst
    have v1 := rx.int_inv
    have v2 := ry.int_inv
    refine wp_value (v := .int k (if mx then (if q > p then q else p) else (if q < p then q else p))) (w' := c.w) (builtin_run ho hb ?_) (hK _ c (.refl hS) (.int c _ _))
    cases mx
    · simp [builtin, hargs, v1, v2, Builtin.min_, Builtin.min2]
    · simp [builtin, hargs, v1, v2, Builtin.max_, Builtin.max2]
  · cases hst

/-! ### Maps -/
theorem kk_und {t : TypeId} {kk : KK} (h : kkOf P t = some kk) : P.underlying t = some (match kk with | .int k => .int k | .string => .string | .bool => .bool) := by
  unfold kkOf at h
  split at h <;> simp only [Option.some.injEq, reduceCtorEq] at h <;> subst h <;> assumption

def kkDesc : KK → TypeDesc
  | .int k => .int k
  | .string => .string
  | .bool => .bool

theorem kk_desc {t : TypeId} {kk : KK} (h : kkOf P t = some kk) : P.underlying t = some (kkDesc kk) := by
  rw [kk_und h]; cases kk <;> rfl

theorem beq_bytes (a b : ByteArray) : (a == b) = (a.data.toList == b.data.toList) := by
  rw [show (a == b) = (a.data == b.data) from rfl, Bool.eq_iff_iff]
  simp

theorem sameNow_eq {kk : KK} {x y : Value} (h1 : kk.fits x = true) (h2 : kk.fits y = true) : Instr.sameNow (kkDesc kk) x y = some (sameK x y) := by
  cases kk <;> cases x <;> simp only [KK.fits, Bool.false_eq_true] at h1 <;> cases y <;> simp only [KK.fits, Bool.false_eq_true] at h2
  · have e1 := beq_iff_eq.1 h1
    have e2 := beq_iff_eq.1 h2
    subst e1; subst e2
    simp [Instr.sameNow, sameK, kkDesc]
  · simp [Instr.sameNow, sameK, kkDesc, beq_bytes]
  · simp [Instr.sameNow, sameK, kkDesc]

theorem sameK_eq {x y : Value} (h : sameK x y = true) : x = y := by
  unfold sameK at h
  split at h
  · simp at h; obtain ⟨rfl, rfl⟩ := h; rfl
  · simp only [beq_iff_eq, Array.toList_inj] at h; rw [ByteArray.ext h]
  · simp at h; subst h; rfl
  · cases h

theorem sameBits_self {kk : KK} {x : Value} (h : kk.fits x = true) : Instr.sameBits 10000 x x = true := by
  cases kk <;> cases x <;> simp only [KK.fits, Bool.false_eq_true] at h <;> simp [Instr.sameBits, beq_bytes]

theorem modify_at {ces : Array MapEntry} {j : Nat} {e : MapEntry} (f : MapEntry → MapEntry) (h : ces[j]? = some e) : (ces.modify j f).toList = ces.toList.set j (f e) := by
  obtain ⟨hlt, he⟩ := Array.getElem?_eq_some_iff.1 h
  apply List.ext_getElem?
  intro i
  simp only [Array.toList_modify, List.getElem?_modify, List.getElem?_set]
  by_cases hij : j = i
  · subst hij
    simp [hlt, he]
  · simp [hij]

def RelE (c : Cx) (kk : KK) (es : List (Value × AV)) (ces : List MapEntry) : Prop :=
  es.length = ces.length ∧ ∀ j (h : j < es.length) (h' : j < ces.length), (es[j]).1 = (ces[j]).key ∧ kk.fits (es[j]).1 = true ∧ Rel c (es[j]).2 (ces[j]).val

theorem RelE.nil (c : Cx) (kk : KK) : RelE c kk [] [] := ⟨rfl, fun j h => by simp at h⟩

theorem RelE.cons {c : Cx} {kk : KK} {e : Value × AV} {f : MapEntry} {es : List (Value × AV)} {ces : List MapEntry} (h1 : e.1 = f.key) (h2 : kk.fits e.1 = true) (h3 : Rel c e.2 f.val) (h : RelE c kk es ces) : RelE c kk (e :: es) (f :: ces) := by
  refine ⟨by simp [h.1], fun j hj hj' => ?_⟩
  cases j with
  | zero => exact ⟨h1, h2, h3⟩
  | succ j => exact h.2 j (by simpa using hj) (by simpa using hj')

theorem RelE.tail {c : Cx} {kk : KK} {e : Value × AV} {f : MapEntry} {es : List (Value × AV)} {ces : List MapEntry} (h : RelE c kk (e :: es) (f :: ces)) : (e.1 = f.key ∧ kk.fits e.1 = true ∧ Rel c e.2 f.val) ∧ RelE c kk es ces :=
  ⟨h.2 0 (by simp) (by simp), by simpa using h.1, fun j hj hj' => h.2 (j + 1) (by simpa using hj) (by simpa using hj')⟩

theorem find_rel {c : Cx} {kk : KK} {key : Value} (hk : kk.fits key = true) : ∀ {es : List (Value × AV)} {ces : List MapEntry} (i : Nat), RelE c kk es ces →
    (∀ x, findM key es = some x → ∃ j e, Instr.findNow (kkDesc kk) key ces i = some (some (i + j, e.val)) ∧ ces[j]? = some e ∧ e.key = key ∧ Rel c x e.val ∧
      ∀ y vy, Rel c y vy → RelE c kk (putM key y es) (ces.set j { e with key := key, val := vy })) ∧
    (findM key es = none → Instr.findNow (kkDesc kk) key ces i = some none ∧ ∀ y vy born, Rel c y vy → RelE c kk (putM key y es) (ces ++ [{ key := key, val := vy, born := born }]))
  | [], ces, i, h => by
    have : ces = [] := List.eq_nil_of_length_eq_zero (by simpa using h.1.symm)
    subst this
    exact ⟨fun x hx => by simp [findM] at hx, fun _ => ⟨rfl, fun y vy born hy => .cons rfl hk hy (.nil c kk)⟩⟩
  | e :: es, [], i, h => by simp [RelE] at h
  | e :: es, f :: ces, i, h => by
    obtain ⟨⟨h1, h2, h3⟩, ht⟩ := h.tail
    obtain ⟨ih1, ih2⟩ := find_rel hk (i + 1) ht
    have hs : Instr.sameNow (kkDesc kk) key f.key = some (sameK key e.1) := by rw [← h1]; exact sameNow_eq hk h2
    by_cases hb : sameK key e.1 = true
    · rw [hb] at hs
      have hkey : key = f.key := by rw [← h1]; exact sameK_eq hb
      refine ⟨fun x hx => ?_, fun hx => by simp [findM, hb] at hx⟩
      simp only [findM, hb, if_true, Option.some.injEq] at hx
      subst hx
      refine ⟨0, f, by simp [Instr.findNow, hs], rfl, hkey.symm, h3, fun y vy hy => ?_⟩
      simp only [putM, hb, if_true, List.set_cons_zero]
      exact .cons rfl hk hy ht
    · have hb' : sameK key e.1 = false := by simpa using hb
      rw [hb'] at hs
      refine ⟨fun x hx => ?_, fun hx => ?_⟩
      · simp only [findM, hb', Bool.false_eq_true, if_false] at hx
        obtain ⟨j, g, g1, g2, g3, g4, g5⟩ := ih1 x hx
        refine ⟨j + 1, g, by simp only [Instr.findNow, hs, g1]; congr 3; omega, g2, g3, g4, fun y vy hy => ?_⟩
        simp only [putM, hb', Bool.false_eq_true, if_false, List.set_cons_succ]
        exact .cons h1 h2 h3 (g5 y vy hy)
      · simp only [findM, hb', Bool.false_eq_true, if_false] at hx
        obtain ⟨g1, g2⟩ := ih2 hx
        refine ⟨by simp only [Instr.findNow, hs, g1], fun y vy born hy => ?_⟩
        simp only [putM, hb', Bool.false_eq_true, if_false, List.cons_append]
        exact .cons h1 h2 h3 (g2 y vy born hy)

/-! Keys that differ: the order of entries does not matter. -/
theorem sameK_comm (a b : Value) : sameK a b = sameK b a := by
  cases a <;> cases b <;> simp only [sameK]
  · exact Bool.beq_comm ..
  · rw [Bool.beq_comm (a := _) (b := _)]; congr 1; exact Bool.beq_comm ..
  · exact Bool.beq_comm ..
theorem findM_none {k : Value} : ∀ {es : List (Value × AV)}, findM k es = none ↔ ∀ e ∈ es, sameK k e.1 = false
  | [] => by simp [findM]
  | e :: r => by
    have ih := findM_none (k := k) (es := r)
    simp only [findM]
    by_cases h : sameK k e.1 = true
    · rw [if_pos h]; simp [h]
    · rw [if_neg h, ih]; simp [h]
theorem findM_some {k : Value} {x : AV} : ∀ {es : List (Value × AV)}, DK (es.map Prod.fst) → (findM k es = some x ↔ ∃ e ∈ es, sameK k e.1 = true ∧ e.2 = x)
  | [], _ => by simp [findM]
  | e :: r, hd => by
    simp only [List.map_cons, DK, List.pairwise_cons] at hd
    have ih := findM_some (k := k) (x := x) (es := r) hd.2
    simp only [findM]
    by_cases h : sameK k e.1 = true
    · rw [if_pos h]
      constructor
      · intro hx; injection hx with hx; exact ⟨e, by simp, h, hx⟩
      · rintro ⟨f, hf, h1, h2⟩
        rcases List.mem_cons.1 hf with rfl | hf
        · rw [h2]
        · have := hd.1 f.1 (List.mem_map_of_mem hf)
          have e1 := sameK_eq h
          rw [← e1, h1] at this; cases this
    · rw [if_neg h, ih]
      constructor
      · rintro ⟨f, hf, q⟩; exact ⟨f, List.mem_cons_of_mem _ hf, q⟩
      · rintro ⟨f, hf, h1, h2⟩
        rcases List.mem_cons.1 hf with rfl | hf
        · exact absurd h1 h
        · exact ⟨f, hf, h1, h2⟩
theorem DK.perm {es es' : List (Value × AV)} (hp : es'.Perm es) (h : DK (es.map Prod.fst)) : DK (es'.map Prod.fst) :=
  ((hp.map Prod.fst).symm.pairwise_iff (fun {a b} e => by rw [sameK_comm]; exact e)).1 h
theorem findM_perm {k : Value} {es es' : List (Value × AV)} (hp : es'.Perm es) (h : DK (es.map Prod.fst)) : findM k es' = findM k es := by
  cases e : findM k es with
  | none => rw [findM_none] at e ⊢; exact fun x hx => e x (hp.subset hx)
  | some x =>
    obtain ⟨f, hf, q⟩ := (findM_some h).1 e
    exact (findM_some (h.perm hp)).2 ⟨f, hp.symm.subset hf, q⟩
theorem putM_none {k : Value} {y : AV} : ∀ {es : List (Value × AV)}, findM k es = none → putM k y es = es ++ [(k, y)]
  | [], _ => rfl
  | e :: r, h => by
    simp only [findM] at h
    by_cases hb : sameK k e.1 = true
    · rw [if_pos hb] at h; cases h
    · rw [if_neg hb] at h
      simp only [putM, if_neg hb, putM_none h, List.cons_append]
theorem putM_map {k : Value} {y : AV} : ∀ {es : List (Value × AV)}, DK (es.map Prod.fst) → findM k es ≠ none → putM k y es = es.map fun e => if sameK k e.1 then (k, y) else e
  | [], _, h => absurd rfl h
  | e :: r, hd, h => by
    simp only [List.map_cons, DK, List.pairwise_cons] at hd
    by_cases hb : sameK k e.1 = true
    · simp only [putM, if_pos hb, List.map_cons]
      congr 1
      have e3 : r.map (fun e => if sameK k e.1 then (k, y) else e) = r.map id := List.map_congr_left fun x hx => by
        have := hd.1 x.1 (List.mem_map_of_mem hx)
        rw [← sameK_eq hb] at this
        rw [if_neg (by rw [this]; simp)]; rfl
      rw [e3, List.map_id]
    · simp only [findM, if_neg hb] at h
      simp only [putM, if_neg hb, List.map_cons, putM_map hd.2 h]
theorem putM_keys {k : Value} {y : AV} {es : List (Value × AV)} (hd : DK (es.map Prod.fst)) : DK ((putM k y es).map Prod.fst) := by
  cases e : findM k es with
  | none =>
    rw [putM_none e, List.map_append]
    refine List.pairwise_append.2 ⟨hd, by simp, fun a ha b hb => ?_⟩
    obtain ⟨f, hf, rfl⟩ := List.mem_map.1 ha
    rw [List.map_cons, List.map_nil, List.mem_singleton] at hb
    subst hb
    rw [sameK_comm]; exact findM_none.1 e f hf
  | some x =>
    rw [putM_map hd (by rw [e]; simp), List.map_map]
    have : es.map (Prod.fst ∘ fun e => if sameK k e.1 then (k, y) else e) = es.map Prod.fst := by
      refine List.map_congr_left fun f hf => ?_
      simp only [Function.comp]
      split
      · rename_i h; exact sameK_eq h
      · rfl
    rw [this]; exact hd
theorem putM_perm {k : Value} {y : AV} {es es' : List (Value × AV)} (hp : es'.Perm es) (hd : DK (es.map Prod.fst)) : (putM k y es').Perm (putM k y es) := by
  have e1 := findM_perm (k := k) hp hd
  cases e : findM k es with
  | none => rw [putM_none e, putM_none (e1.trans e)]; exact hp.append_right _
  | some x => rw [putM_map hd (by rw [e]; simp), putM_map (hd.perm hp) (by rw [e1, e]; simp)]; exact hp.map _

theorem live_map {lo : Nat} {M : MM} {c : Cx} (hS : Sim lo M c) {id : Nat} {kk : KK} {es : List (Value × AV)} (h : M.mem id = some (.map kk es)) :
    ∃ (ces : Array MapEntry) (clock : Nat), c.w.heap[c.E.blk id]? = some (.map ces clock) ∧ MO ces.toList clock ∧ DK (es.map Prod.fst) ∧ ∃ es' : List (Value × AV), es'.Perm es ∧ RelE c kk es' ces.toList := by
  obtain ⟨ces, clock, h1, m1, m2, es', p1, h2, h3⟩ := hS.blk id _ h
  exact ⟨ces, clock, h1, m1, m2, es', p1, by simpa using h2, fun j hj hj' => by simpa using h3 j hj (by simpa using hj')⟩

theorem checkKey_step {w : World} {t : TypeId} {kk : KK} (h : kkOf P t = some kk) (em : Bool) (v : Value) (n : Nat) : (Instr.checkKey em (n + 1) t v).run P w = .ok () w := by
  have hd := run_und (w := w) (kk_desc h)
  cases kk <;> simp only [Instr.checkKey, Sem.run_bind, hd, Result.andThen_ok, kkDesc] <;> rfl

theorem checkKey_run {w : World} {t : TypeId} {kk : KK} (h : kkOf P t = some kk) (em : Bool) (v : Value) : (Instr.checkKey em 10000 t v).run P w = .ok () w := checkKey_step h em v 9999

theorem findKey_run {w : World} {t : TypeId} {kk : KK} (h : kkOf P t = some kk) {key : Value} {es : List MapEntry} {res : Option (Nat × Value)} (hf : Instr.findNow (kkDesc kk) key es 0 = some res) : (Instr.findKey t key es).run P w = .ok res w := by
  simp only [Instr.findKey, Sem.run_bind, run_und (kk_desc h), Result.andThen_ok, hf, Sem.run_pure]

theorem run_getObj_map {w : World} {b : Nat} {es : Array MapEntry} {clock : Nat} (h : w.heap[b]? = some (.map es clock)) : (getObj b).run P w = .ok (.map es clock) w := by
  simp [getObj, Sem.run, h]
theorem run_setObj_map {w : World} {b : Nat} {es : Array MapEntry} {clock : Nat} (o' : Obj) (h : w.heap[b]? = some (.map es clock)) : (setObj b o').run P w = .ok () { w with heap := w.heap.setIfInBounds b o' } := by
  simp [setObj, Sem.run, h]

theorem turned_set (w : World) (b : Nat) (o' : Obj) : Turned w { w with heap := w.heap.setIfInBounds b o' } b :=
  ⟨by simp, fun k hk => by simp [Ne.symm hk], rfl, rfl, rfl⟩

theorem sim_lkp {t kt et : TypeId} {x y : Operand} {ok : Bool} (ho : o.op = .lookup t x y ok) {kk : KK} {ie : TypeInfo} {z : Value} {za : AV} {x' y' : X} (hu : P.underlying t = some (.map kt et)) (hx : opX x = some x') (hy : opX y = some y')
    (hkk : kkOf P kt = some kk) (hi : P.info? et = some ie) (hz : ie.zero = some z) (hza : constAV z = some za) : OpSim P call mode (.lkp kk ok za x' y') o := by
  intro draw lo lim fresh ρ M r M' a c hst hS hF hf _ _ K Q hK
  have rx := ev_rel hF hx
  have ry := ev_rel hF hy
  have rz : Rel c za z := constAV_rel hza
  have pack : ∀ (x : AV) (v : Value) (b : Bool), Rel c x v → Rel c (if ok then .tup [x, .bool b] else x) (if ok then .tuple #[v, .bool b] else v) := by
    intro x v b h
    cases ok
    · exact h
    · have hl : RelL c [x, .bool b] [v, .bool b] := .cons h (.cons (.bool c b) (.nil c))
      exact .tup _ _ hl.1 hl.2
  simp only [istep] at hst
  split at hst
  · rename_i key hkey
    rw [hkey] at ry
    have hvk := ry.v_inv.1
    split at hst
    · rename_i hfit
      split at hst
      · rename_i hm
        rw [hm] at rx
        have hvm := rx.v_inv.1
        simp only [Option.some.injEq, Prod.mk.injEq] at hst
        obtain ⟨rfl, rfl⟩ := hst
        refine wp_value (w' := c.w) ?_ (hK _ c (.refl hS) (pack za z false rz))
        have hfk := findKey_run (P := P) (w := c.w) hkk (key := key) (es := []) (res := none) rfl
        simp only [execOp, ho, hvm, hvk, Instr.lookup, Sem.run_bind, run_und hu, Result.andThen_ok, Sem.run_pure, checkKey_run hkk, hfk, run_zero hi hz]
      · rename_i id hm
        rw [hm] at rx
        have hvm := rx.mp_inv.1
        split at hst
        · rename_i kk' es hlk
          split at hst
          · rename_i hkke
            subst hkke
            obtain ⟨ces, clock, g1, _, m2, es', p1, g2⟩ := live_map hS (look_some hlk).1
            obtain ⟨f1, f2⟩ := find_rel hfit 0 g2
            rw [findM_perm p1 m2] at f1 f2
            have hget := run_getObj_map (P := P) g1
            split at hst
            · rename_i v hfm
              simp only [Option.some.injEq, Prod.mk.injEq] at hst
              obtain ⟨rfl, rfl⟩ := hst
              obtain ⟨j, e, k1, k2, k3, k4, k5⟩ := f1 v hfm
              refine wp_value (w' := c.w) ?_ (hK _ c (.refl hS) (pack v e.val true k4))
              have hfk := findKey_run (P := P) (w := c.w) hkk k1
              simp only [execOp, ho, hvm, hvk, Instr.lookup, Sem.run_bind, run_und hu, Result.andThen_ok, Sem.run_pure, hget, checkKey_run hkk, hfk]
            · rename_i hfm
              simp only [Option.some.injEq, Prod.mk.injEq] at hst
              obtain ⟨rfl, rfl⟩ := hst
              obtain ⟨k1, k2⟩ := f2 hfm
              refine wp_value (w' := c.w) ?_ (hK _ c (.refl hS) (pack za z false rz))
              have hfk := findKey_run (P := P) (w := c.w) hkk k1
              simp only [execOp, ho, hvm, hvk, Instr.lookup, Sem.run_bind, run_und hu, Result.andThen_ok, Sem.run_pure, hget, checkKey_run hkk, hfk, run_zero hi hz]
          · cases hst
        · cases hst
      · cases hst
    · cases hst
  · cases hst

theorem sim_mset {t kt et : TypeId} {x y z : Operand} (ho : o.op = .mapUpdate t x y z ∨ o.op = .insert t x y z) {kk : KK} {x' y' z' : X} (hu : P.underlying t = some (.map kt et)) (hx : opX x = some x') (hy : opX y = some y') (hz : opX z = some z')
    (hkk : kkOf P kt = some kk) : OpSim P call mode (.mset kk x' y' z') o := by
  intro draw lo lim fresh ρ M r M' a c hst hS hF hf _ _ K Q hK
  have rx := ev_rel hF hx
  have ry := ev_rel hF hy
  have rz := ev_rel hF hz
  have hop : execOp a.eval o = (do Instr.mapUpdate t (a.eval x) (a.eval y) (a.eval z); pure .skip) := by
    rcases ho with ho | ho <;> simp only [execOp, ho]
  simp only [istep] at hst
  split at hst
  · rename_i key id hkey hm
    rw [hkey] at ry
    rw [hm] at rx
    have hvk := ry.v_inv.1
    have hvm := rx.mp_inv.1
    split at hst
    · rename_i kk' es hlk
      split at hst
      · rename_i hcond
        obtain ⟨rfl, hfit, hlo⟩ := hcond
        simp only [Option.some.injEq, Prod.mk.injEq] at hst
        obtain ⟨rfl, rfl⟩ := hst
        have hmem := (look_some hlk).1
        have hid : M.mem id ≠ none := by rw [hmem]; simp
        obtain ⟨ces, clock, g1, m1, m2, es', p1, g2⟩ := live_map hS hmem
        obtain ⟨f1, f2⟩ := find_rel hfit 0 g2
        rw [findM_perm p1 m2] at f1 f2
        have hget := run_getObj_map (P := P) g1
        have done : ∀ (ces' : Array MapEntry) (clock' : Nat), MO ces'.toList clock' → RelE c kk' (putM key (ev ρ z') es') ces'.toList → (execOp a.eval o).run P c.w = .ok .skip { c.w with heap := c.w.heap.setIfInBounds (c.E.blk id) (.map ces' clock') } → o.wp P a c.w K Q := by
          intro ces' clock' hmo hrel hrun
          have ht := turned_set c.w (c.E.blk id) (.map ces' clock')
          have hnf := hS.frz id _ hmem rfl
          have hext := ext_at (hS.wlive id hid hlo) hnf ht
          refine wp_skip' hrun (hK undef (c.at_ _) (after_put hS hid hlo hnf ht ⟨ces', clock', ?_, hmo, putM_keys m2, _, putM_perm p1 m2, by simpa using hrel.1, fun j hj hj' => ?_⟩) (.undef _))
          · have hlt := hS.lt id (hS.dom id hid)
            show (c.w.heap.setIfInBounds (c.E.blk id) (.map ces' clock'))[c.E.blk id]? = _
            simp [hlt]
          · obtain ⟨q1, q2, q3⟩ := hrel.2 j hj (by simpa using hj')
            simp only [Array.getElem_toList] at q1 q3
            exact ⟨q1, q2, q3.ext hS.WL hext⟩
        cases hfm : findM key es with
        | some v =>
          obtain ⟨j, e, k1, k2, k3, k4, k5⟩ := f1 v hfm
          have hfk := findKey_run (P := P) (w := c.w) hkk k1
          simp only [Nat.zero_add] at hfk
          have hj : ces[j]? = some e := by simpa using k2
          have hstay : (Instr.keyThatStays (((ces[j]?).map (·.key)).getD key) key).run P c.w = .ok key c.w := by
            rw [hj]
            simp only [Option.map_some, Option.getD_some, k3, Instr.keyThatStays, sameBits_self hfit, if_true, Sem.run_pure]
          have hset := run_setObj_map (P := P) (.map (ces.modify j fun e => { e with key := key, val := a.eval z }) clock) g1
          refine done (ces.modify j fun e => { e with key := key, val := a.eval z }) clock ?_ ?_ ?_
          · have e1 := modify_at (fun e => { e with key := key, val := a.eval z }) hj
            rw [e1]
            have eb : (ces.toList.set j { e with key := key, val := a.eval z }).map (·.born) = ces.toList.map (·.born) := by
              rw [List.map_set]
              apply List.ext_getElem?
              intro i
              rw [List.getElem?_set]
              by_cases hi : j = i
              · subst hi
                have hlt : j < (ces.toList.map (·.born)).length := by
                  obtain ⟨hlt, _⟩ := List.getElem?_eq_some_iff.1 k2
                  simpa using hlt
                rw [if_pos rfl, if_pos hlt, List.getElem?_map, k2]; rfl
              · rw [if_neg hi]
            refine ⟨by rw [eb]; exact m1.1, fun x hx => ?_⟩
            have hx' : x.born ∈ ces.toList.map (·.born) := by rw [← eb]; exact List.mem_map_of_mem hx
            obtain ⟨y, hy, hyx⟩ := List.mem_map.1 hx'
            rw [← hyx]; exact m1.2 y hy
          · have := k5 _ _ rz
            have e1 := modify_at (fun e => { e with key := key, val := a.eval z }) hj
            rw [e1]; exact this
          · rw [hop]
            simp only [hvm, hvk, Instr.mapUpdate, Sem.run_bind, run_und hu, Result.andThen_ok, hget, checkKey_run hkk, hfk, hstay, hset, Sem.run_pure]
        | none =>
          obtain ⟨k1, k2⟩ := f2 hfm
          have hfk := findKey_run (P := P) (w := c.w) hkk k1
          have hset := run_setObj_map (P := P) (.map (ces.push { key := key, val := a.eval z, born := clock }) (clock + 1)) g1
          refine done (ces.push { key := key, val := a.eval z, born := clock }) (clock + 1) ?_ ?_ ?_
          · refine ⟨?_, fun x hx => ?_⟩
            · simp only [Array.toList_push, List.map_append, List.map_cons, List.map_nil]
              refine List.pairwise_append.2 ⟨m1.1, by simp, fun x hx y hy => ?_⟩
              obtain ⟨e, he, rfl⟩ := List.mem_map.1 hx
              rw [List.mem_singleton.1 hy]; exact m1.2 e he
            · simp only [Array.toList_push, List.mem_append, List.mem_singleton] at hx
              rcases hx with hx | rfl
              · exact Nat.lt_succ_of_lt (m1.2 x hx)
              · exact Nat.lt_succ_self _
          · have := k2 _ _ clock rz
            simpa using this
          · rw [hop]
            simp only [hvm, hvk, Instr.mapUpdate, Sem.run_bind, run_und hu, Result.andThen_ok, hget, checkKey_run hkk, hfk, hset, Sem.run_pure]
      · cases hst
    · cases hst
  · cases hst

theorem sim_lenm {cl : Call} (ho : o.op = .call cl) (hb : cl.callee = .builtin .len) {x : Operand} {t : TypeId} {ts : List TypeId} (ha : cl.args.toList = [x]) (hts : cl.argTypes.toList = t :: ts) {kt e : TypeId} (hu : P.underlying t = some (.map kt e))
    {x' : X} (hx : opX x = some x') : OpSim P call mode (.lenm x') o := by
  intro draw lo lim fresh ρ M r M' a c hst hS hF hf _ _ K Q hK
  have rx := ev_rel hF hx
  have ht0 : cl.argTypes[0]? = some t := by rw [← Array.getElem?_toList, hts]; rfl
  simp only [istep] at hst
  split at hst
  · rename_i heq
    rw [heq] at rx
    have hv := rx.v_inv.1
    simp only [Option.some.injEq, Prod.mk.injEq] at hst
    obtain ⟨rfl, rfl⟩ := hst
    refine wp_value (v := goInt 0) (w' := c.w) (builtin_run ho hb ?_) (hK _ c (.refl hS) (.int c _ _))
    simp only [builtin, Builtin.len_, ht0, args_one ha, hv, Sem.run_bind, run_und hu, Result.andThen_ok, Sem.run_pure]
  · rename_i id heq
    rw [heq] at rx
    have hv := rx.mp_inv.1
    split at hst
    · rename_i kk es hlk
      simp only [Option.some.injEq, Prod.mk.injEq] at hst
      obtain ⟨rfl, rfl⟩ := hst
      obtain ⟨ces, clock, g1, _, m2, es', p1, g2⟩ := live_map hS (look_some hlk).1
      have hl : es.length = ces.size := by rw [← p1.length_eq]; simpa using g2.1
      refine wp_value (v := goInt ces.size) (w' := c.w) (builtin_run ho hb ?_) (hK _ c (.refl hS) (by rw [← hl]; exact .int c _ _))
      simp only [builtin, Builtin.len_, ht0, args_one ha, hv, Sem.run_bind, run_und hu, Result.andThen_ok, run_getObj_map g1, Sem.run_pure]
    · cases hst
  · cases hst
end
end Go.Proofs.Ytegkhdflmboljaa.Sx
