/-
  SX, PART K: LOCAL VARIABLES THAT NOBODY ELSE SEES, IN REGISTERS. 'promCF': a function's code, turned; 'acall_prom': what the turned code answers, the code answers.
-/
import Derived.Test.YtegkhdflmboljaaSxMPl
namespace Go.Proofs.Ytegkhdflmboljaa.Sx
open Go

structure Pm where
  prom : List Nat
  ex : List Nat

structure De where
  v : Nat
  L : Nat
  off : Nat
  g : Option (Nat × Bool)

def hasN (n : Nat) : List Nat → Bool
  | [] => false
  | m :: l => Nat.beq n m || hasN n l

def findDe (r : Nat) : List De → Option De
  | [] => none
  | e :: l => if Nat.beq e.v r then some e else findDe r l

def whereD (pm : Pm) (der : List De) (r : Nat) : Option (Nat × Nat × Option (Nat × Bool)) :=
  if hasN r pm.prom then some (r, 0, none) else (findDe r der).map fun e => (e.L, e.off, e.g)

def guardOK : Option (Nat × Bool) → Option (Nat × Bool) → Bool
  | none, _ => true
  | some (s, b), some (s', b') => Nat.beq s s' && (b == b')
  | some _, none => false

def gReg (g : Option (Nat × Bool)) (d : Nat) : Bool :=
  match g with
  | some (s, _) => Nat.beq s d
  | none => false

def killD (d : Option Nat) (der : List De) : List De :=
  match d with
  | none => der
  | some d => der.filter fun e => !(Nat.beq e.v d || Nat.beq e.L d || gReg e.g d)

def plainR (pm : Pm) (r : Nat) : Bool := !(hasN r pm.prom) && !(hasN r pm.ex)
def plainX (pm : Pm) (l : List Nat) : Bool := l.all (plainR pm)
def plainG (pm : Pm) (g : Option (Nat × Bool)) : Bool := match g with | some (s, _) => plainR pm s | none => true
def plainD (pm : Pm) (d : Option Nat) : Bool := match d with | some d => plainR pm d | none => true

def plainO (pm : Pm) (o : Op1) : Bool := plainX pm o.i.slots && plainG pm o.g && plainD pm o.dst

def plain (pm : Pm) (der : List De) (o : Op1) : Option (Op1 × List De) := if plainO pm o then some (o, killD o.dst der) else none

def promLd (pm : Pm) (der : List De) (o : Op1) (p n : Nat) (agg : Bool) : Option (Op1 × List De) :=
  match whereD pm der p with
  | some (L, off, g0) => if guardOK g0 o.g && plainG pm o.g && plainD pm o.dst && hasN L pm.prom then some (⟨o.dst, o.g, .fld off n agg (.t L), 0, false⟩, killD o.dst der) else none
  | none => plain pm der o

def promOp (pm : Pm) (draw : Bool) (der : List De) (o : Op1) : Option (Op1 × List De) :=
  match o with
  | ⟨some d, none, .new _ cs, _, _⟩ => if hasN d pm.prom && !draw then some (⟨some d, none, .lnew cs, 0, false⟩, killD (some d) der) else plain pm der o
  | ⟨some d, none, .box _ x, _, _⟩ => if hasN d pm.prom && !draw && plainX pm x.slots then some (⟨some d, none, .lbox x, 0, false⟩, killD (some d) der) else plain pm der o
  | ⟨some v, g, .fad off (.t p), _, _⟩ => match whereD pm der p with
    | some (L, o0, g0) => if guardOK g0 g && plainG pm g && hasN v pm.ex && !hasN v pm.prom && hasN L pm.prom then some (⟨some v, g, .fld 0 0 true (.t L), 0, false⟩, ⟨v, L, o0 + off, g⟩ :: killD (some v) der) else none
    | none => plain pm der o
  | ⟨_, _, .ld1 (.t p), _, _⟩ => promLd pm der o p 1 false
  | ⟨_, _, .ldn n (.t p), _, _⟩ => promLd pm der o p n true
  | ⟨_, _, .ld1r (.t q) (.t p), _, _⟩ => match whereD pm der p with
    | some (L, _, _) => if Nat.beq q L then promLd pm der o p 1 false else none
    | none => plain pm der o
  | ⟨_, _, .ldnr n (.t q) (.t p), _, _⟩ => match whereD pm der p with
    | some (L, _, _) => if Nat.beq q L then promLd pm der o p n true else none
    | none => plain pm der o
  | ⟨none, none, .st n (.t p) x, _, _⟩ => match whereD pm der p with
    | some (L, o0, none) => if hasN L pm.prom && plainX pm x.slots then some (⟨some L, none, .setc o0 n (.t L) x, 0, false⟩, der) else none
    | some _ => none
    | none => plain pm der o
  | ⟨dst, g, .callk _ args roots, _, _⟩ => if plainX pm (args.flatMap X.slots) && plainX pm ((roots.flatMap X.slots).filter fun r => !hasN r pm.prom) && plainG pm g && plainD pm dst then some (o, killD dst der) else none
  | _ => plain pm der o

def promX (pm : Pm) (draw : Bool) (der : List De) (o : Op1) : Option (Op1 × List Op1 × List De) := (promOp pm draw der o).map fun q => (q.1, [], q.2)

def promOps (pm : Pm) (draw : Bool) : Nat → List De → List Op1 → Option (List (Option Nat × Op1))
  | _, _, [] => some []
  | i, der, o :: r => match promX pm draw der ⟨o.dst, o.g, o.i, 0, false⟩ with
    | some (o', es, der') => (promOps pm draw (i + 1) der' r).map fun l => (some i, ⟨o'.dst, o'.g, o'.i, o.m, o.w⟩) :: (es.map fun e => (none, e)) ++ l
    | none => none

def promK (pm : Pm) : K → Option K
  | .skip => some .skip
  | .reg ops => (promOps pm false 0 [] ops).map fun l => .reg (l.map Prod.snd)
  | .drg ops => (promOps pm true 0 [] ops).map fun l => .drx ops.length l
  | .drx _ _ => none
  | .seq a b => match promK pm a, promK pm b with
    | some a, some b => some (.seq a b)
    | _, _ => none
  | .cond c a b => match plainX pm c.slots, promK pm a, promK pm b with
    | true, some a, some b => some (.cond c a b)
    | _, _, _ => none
  | .block id a => (promK pm a).map (.block id)
  | .loop a => (promK pm a).map .loop
  | .exit id => some (.exit id)
  | .ret => some .ret

def promR (pm : Pm) : RV → Option RV
  | .tmp t => if plainR pm t then some (.tmp t) else none
  | .cell a n agg => if hasN a pm.prom then some (.loc a n agg) else if plainR pm a then some (.cell a n agg) else none
  | .loc _ _ _ => none

def clearOps (l : List Nat) : List Op1 := l.map fun L => ⟨some L, none, .mov (.k .undef), 0, false⟩

def promCF (pm : Pm) (cf : CF) : Option CF :=
  match promK pm cf.body, cf.res.mapM (promR pm) with
  | some k, some rs => some ⟨cf.nt, .seq (.reg (clearOps pm.prom)) k, rs⟩
  | _, _ => none

abbrev lk (M : MM) : Nat → Option Blk := look M.mem (.top M.nx)

def promComp (P : Program) (mode : FuncId → Mode) (os : List TypeId) (hs : List Hint) (pm : Pm) (fn : Func) : Option CF :=
  match comp P mode os hs fn with
  | some cf => if pm.ex.all (fun v => Nat.blt v cf.nt) then promCF pm cf else none
  | none => none

/-! ### Memory with more in it -/
structure ME (M2 M1 : MM) : Prop where
  nx : M1.nx = M2.nx
  wf : ∀ id, M2.mem id ≠ none → id < M2.nx
  ext : ∀ id, M2.mem id ≠ none → M1.mem id = M2.mem id

structure MS (fresh : Nat) (M2 M1 M2' M1' : MM) : Prop where
  me : ME M2' M1'
  nx : M2.nx ≤ M2'.nx
  keep : ∀ id, id < M2.nx → id ≠ fresh → M2.mem id = none → M2'.mem id = none ∧ M1'.mem id = M1.mem id

theorem ME.up {M2 M1 : MM} (h : ME M2 M1) (fresh : Nat) : MS fresh M2 M1 (M2.up fresh) (M1.up fresh) :=
  ⟨⟨by simp only [MM.up, h.nx], fun id hid => by have := h.wf id hid; simp only [MM.up]; omega, h.ext⟩, by simp only [MM.up]; omega, fun _ _ _ h => ⟨h, rfl⟩⟩

theorem MS.refl {fresh : Nat} {M2 M1 : MM} (h : ME M2 M1) : MS fresh M2 M1 M2 M1 := ⟨h, Nat.le_refl _, fun _ _ _ h => ⟨h, rfl⟩⟩

theorem ME.look {M2 M1 : MM} (h : ME M2 M1) {lim : Lm} {id : Nat} {b : Blk} (hl : look M2.mem lim id = some b) : look M1.mem lim id = some b := by
  obtain ⟨h1, h2⟩ := look_some hl
  rw [look_ok h2, h.ext id (by rw [h1]; simp)]; exact h1

theorem ME.got {M2 M1 : MM} (h : ME M2 M1) {id : Nat} {b : Blk} (hl : M2.mem id = some b) : M1.mem id = some b := by
  rw [h.ext id (by rw [hl]; simp)]; exact hl

theorem ME.alloc {M2 M1 : MM} (h : ME M2 M1) (fresh : Nat) (b : Blk) : MS fresh M2 M1 (M2.alloc fresh b) (M1.alloc fresh b) where
  me := by
    refine ⟨by simp only [MM.alloc, h.nx], fun id hid => ?_, fun id hid => ?_⟩
    · simp only [MM.alloc, upd] at hid ⊢
      by_cases e : id = fresh
      · omega
      · rw [if_neg e] at hid; have := h.wf id hid; omega
    · simp only [MM.alloc, upd] at hid ⊢
      by_cases e : id = fresh
      · simp [e]
      · rw [if_neg e] at hid ⊢; rw [if_neg e]; exact h.ext id hid
  nx := by simp only [MM.alloc]; omega
  keep id hid hne hn := by simp only [MM.alloc, upd, if_neg hne]; exact ⟨hn, trivial⟩

theorem ME.put {M2 M1 : MM} (h : ME M2 M1) {fresh id : Nat} {b b' : Blk} (hid : M2.mem id = some b) : MS fresh M2 M1 (M2.put id b') (M1.put id b') where
  me := by
    refine ⟨h.nx, fun k hk => ?_, fun k hk => ?_⟩
    · simp only [MM.put, upd] at hk ⊢
      by_cases e : k = id
      · subst e; exact h.wf k (by rw [hid]; simp)
      · rw [if_neg e] at hk; exact h.wf k hk
    · simp only [MM.put, upd] at hk ⊢
      by_cases e : k = id
      · simp [e]
      · rw [if_neg e] at hk ⊢; rw [if_neg e]; exact h.ext k hk
  nx := Nat.le_refl _
  keep k hk hne hn := by
    have e : k ≠ id := fun e => by subst e; rw [hid] at hn; cases hn
    simp only [MM.put, upd, if_neg e]; exact ⟨hn, trivial⟩

theorem mapM_mono {α β : Type} {f g : α → Option β} (h : ∀ x y, f x = some y → g x = some y) : ∀ {l : List α} {r : List β}, l.mapM f = some r → l.mapM g = some r
  | [], r, e => by simpa using e
  | x :: l, r, e => by
    simp only [List.mapM_cons, Option.bind_eq_bind, Option.bind_eq_some_iff, Option.pure_def, Option.some.injEq] at e ⊢
    obtain ⟨y, hy, ys, hys, rfl⟩ := e
    exact ⟨y, h x y hy, ys, mapM_mono h hys, rfl⟩

theorem freezeD_ext {m2 m1 : Mem} (h : ∀ id b, m2 id = some b → m1 id = some b) {lo : Nat} : ∀ (n : Nat) (x : AV) (d : D), freezeD m2 lo n x = some d → freezeD m1 lo n x = some d
  | n, .d x, d, e => by cases n <;> exact e
  | n, .ov _ _ _ _, d, e => by cases n <;> exact e
  | 0, .os _ _ _ _, d, e => by simp [freezeD] at e
  | n + 1, .os id off len sz, d, e => by
    simp only [freezeD] at e ⊢
    split at e
    · cases e
    · rename_i hlo
      split at e
      · rename_i t cs hm
        rw [if_neg hlo, h _ _ hm]
        simp only
        split at e
        · rename_i hle
          rw [if_pos hle]
          obtain ⟨ds, hds, rfl⟩ := Option.map_eq_some_iff.1 e
          rw [mapM_mono (freezeD_ext h n) hds]; rfl
        · cases e
      · cases e
  | 0, .ptr _ _, d, e => by simp [freezeD] at e
  | n + 1, .ptr _ _, d, e => by simp [freezeD] at e
  | 0, .ip _, d, e => by simp [freezeD] at e
  | n + 1, .ip _, d, e => by simp [freezeD] at e
  | 0, .mp _, d, e => by simp [freezeD] at e
  | n + 1, .mp _, d, e => by simp [freezeD] at e
  | 0, .fn _ _ _, d, e => by simp [freezeD] at e
  | n + 1, .fn _ _ _, d, e => by simp [freezeD] at e
  | 0, .agg _, d, e => by simp [freezeD] at e
  | n + 1, .agg _, d, e => by simp [freezeD] at e
  | 0, .tup _, d, e => by simp [freezeD] at e
  | n + 1, .tup _, d, e => by simp [freezeD] at e

theorem freeze1_ext {m2 m1 : Mem} (h : ∀ id b, m2 id = some b → m1 id = some b) {lo : Nat} (x y : AV) (e : freeze1 m2 lo x = some y) : freeze1 m1 lo x = some y := by
  cases x with
  | d d => simp only [freeze1] at e ⊢; obtain ⟨z, hz, rfl⟩ := Option.map_eq_some_iff.1 e; rw [freezeD_ext h _ _ _ hz]; rfl
  | os id off len sz =>
    simp only [freeze1] at e ⊢
    split at e
    · rename_i hc; rw [if_pos hc]; exact e
    · rename_i hc; rw [if_neg hc]; obtain ⟨z, hz, rfl⟩ := Option.map_eq_some_iff.1 e; rw [freezeD_ext h _ _ _ hz]; rfl
  | _ => exact e

theorem freezeA_ext {m2 m1 : Mem} (h : ∀ id b, m2 id = some b → m1 id = some b) {lo : Nat} (x y : AV) (e : freezeA m2 lo x = some y) : freezeA m1 lo x = some y := by
  cases x with
  | agg cs => simp only [freezeA] at e ⊢; obtain ⟨z, hz, rfl⟩ := Option.map_eq_some_iff.1 e; rw [mapM_mono (freeze1_ext h) hz]; rfl
  | d d => exact freeze1_ext (lo := lo) h (.d d) y e
  | ptr a b => exact freeze1_ext (lo := lo) h (.ptr a b) y e
  | ip a => exact freeze1_ext (lo := lo) h (.ip a) y e
  | os a b c d => exact freeze1_ext (lo := lo) h (.os a b c d) y e
  | ov a b c d => exact freeze1_ext (lo := lo) h (.ov a b c d) y e
  | mp a => exact freeze1_ext (lo := lo) h (.mp a) y e
  | fn a b c => exact freeze1_ext (lo := lo) h (.fn a b c) y e
  | tup a => exact freeze1_ext (lo := lo) h (.tup a) y e

theorem freeze_ext {m2 m1 : Mem} (h : ∀ id b, m2 id = some b → m1 id = some b) {lo : Nat} (x y : AV) (e : freeze m2 lo x = some y) : freeze m1 lo x = some y := by
  cases x with
  | tup cs => simp only [freeze] at e ⊢; obtain ⟨z, hz, rfl⟩ := Option.map_eq_some_iff.1 e; rw [mapM_mono (freezeA_ext h) hz]; rfl
  | d d => exact freezeA_ext (lo := lo) h (.d d) y e
  | ptr a b => exact freezeA_ext (lo := lo) h (.ptr a b) y e
  | ip a => exact freezeA_ext (lo := lo) h (.ip a) y e
  | os a b c d => exact freezeA_ext (lo := lo) h (.os a b c d) y e
  | ov a b c d => exact freezeA_ext (lo := lo) h (.ov a b c d) y e
  | mp a => exact freezeA_ext (lo := lo) h (.mp a) y e
  | fn a b c => exact freezeA_ext (lo := lo) h (.fn a b c) y e
  | agg a => exact freezeA_ext (lo := lo) h (.agg a) y e

theorem snap_ext {m2 m1 : Mem} (h : ∀ id b, m2 id = some b → m1 id = some b) (x y : AV) (e : snap m2 x = some y) : snap m1 x = some y := by
  unfold snap at e ⊢
  split at e
  · rename_i hc; rw [if_pos hc]; exact e
  · rename_i hc; rw [if_neg hc]; exact freezeA_ext h _ _ e

theorem ME.hide {M2 M1 : MM} (h : ME M2 M1) (L : Lm) : ME ⟨M2.nx, hideM L M2.mem⟩ ⟨M1.nx, hideM L M1.mem⟩ := by
  refine ⟨h.nx, fun id hid => ?_, fun id hid => ?_⟩
  · show id < M2.nx
    simp only [hideM] at hid
    split at hid
    · exact absurd rfl hid
    · exact h.wf id hid
  · simp only [hideM] at hid ⊢
    split at hid
    · exact absurd rfl hid
    · rename_i hn; rw [if_neg hn, if_neg hn]; exact h.ext id hid
theorem MS.back {M2 M1 M2' M1' : MM} (h : ME M2 M1) (L : Lm) (q : ∀ fresh, MS fresh ⟨M2.nx, hideM L M2.mem⟩ ⟨M1.nx, hideM L M1.mem⟩ M2' M1') (fresh : Nat) :
    MS fresh M2 M1 ⟨M2'.nx, backM L M2.nx M2.mem M2'.mem⟩ ⟨M1'.nx, backM L M1.nx M1.mem M1'.mem⟩ := by
  have hnx : M2.nx ≤ M2'.nx := (q 0).nx
  have hme := (q 0).me
  refine ⟨⟨hme.nx, fun id hid => ?_, fun id hid => ?_⟩, hnx, fun id hl hne hn => ?_⟩
  · show id < M2'.nx
    simp only [backM] at hid
    split at hid
    · have := h.wf id hid; omega
    · split at hid
      · exact absurd rfl hid
      · exact hme.wf id hid
  · simp only [backM] at hid ⊢
    split at hid
    · rename_i hh; rw [if_pos hh, if_pos hh]; exact h.ext id hid
    · rename_i hh
      rw [if_neg hh, if_neg hh]
      split at hid
      · exact absurd rfl hid
      · rename_i hc
        rw [if_neg hc]
        have hc1 : ¬ ((Nat.blt id M1.nx && (M1.mem id).isNone) = true) := fun e => by
          simp only [Bool.and_eq_true, Option.isNone_iff_eq_none, Nat.blt_eq] at e hc
          have e2 : id < M2.nx := by rw [← h.nx]; exact e.1
          refine hc ⟨e2, ?_⟩
          cases hm : M2.mem id with
          | none => rfl
          | some b => rw [h.got hm] at e; cases e.2
        rw [if_neg hc1]; exact hme.ext id hid
  · simp only [backM]
    split
    · exact ⟨hn, rfl⟩
    · rename_i hh
      have e1 : (Nat.blt id M2.nx && (M2.mem id).isNone) = true := by simp [hn, hl]
      rw [if_pos e1]
      refine ⟨rfl, ?_⟩
      split
      · rename_i e; simp only [Bool.and_eq_true, Option.isNone_iff_eq_none] at e; exact e.2.symm
      · have hk := (q (id + 1)).keep id hl (by omega) (by simp only [hideM]; rw [if_neg hh]; exact hn)
        have hk2 := hk.2
        simp only [hideM] at hk2
        rw [if_neg hh] at hk2; exact hk2

def CS (c1 c2 : CallT) : Prop := ∀ f args lo M2 r M2' M1, c2 f args lo M2 = some (r, M2') → lo ≤ M2.nx → ME M2 M1 → ∃ M1', c1 f args lo M1 = some (r, M1') ∧ ∀ fresh, MS fresh M2 M1 M2' M1'

theorem ME.empty : ME ⟨0, fun _ => none⟩ ⟨0, fun _ => none⟩ := ⟨rfl, fun _ h => absurd rfl h, fun _ _ => rfl⟩

section
variable {c1 c2 : CallT} (hc : CS c1 c2) {mode : FuncId → Mode} {draw : Bool} {lo : Nat} {lim : Lm} {fresh : Nat}
include hc

theorem docall_sim {f : FuncId} {args : List AV} {M2 M1 M2' : MM} {r : AV} (h : docall c2 mode draw lo lim f args M2 = some (r, M2')) (hlo : lo ≤ M2.nx) (hM : ME M2 M1) : ∃ M1', docall c1 mode draw lo lim f args M1 = some (r, M1') ∧ ∀ fresh, MS fresh M2 M1 M2' M1' := by
  have hl : ∀ id b, look M2.mem lim id = some b → look M1.mem lim id = some b := fun id b => hM.look
  unfold docall at h ⊢
  cases hm : mode f with
  | pure =>
    simp only [hm] at h ⊢
    split at h
    · rename_i args' ha
      rw [mapM_mono (snap_ext hl) ha]
      simp only
      split at h
      · rename_i r0 M' hr
        obtain ⟨M1', q1, q2⟩ := hc _ _ _ _ _ _ _ hr (Nat.le_refl _) ME.empty
        rw [q1]
        simp only
        split at h
        · rename_i r' hf
          rw [freeze_ext (fun id b hb => (q2 0).me.got hb) _ _ hf]
          simp only
          split at h
          · rename_i hcl
            simp only [Option.some.injEq, Prod.mk.injEq] at h
            obtain ⟨rfl, rfl⟩ := h
            rw [if_pos hcl]
            exact ⟨M1, rfl, fun _ => .refl hM⟩
          · cases h
        · cases h
      · cases h
    · cases h
  | ro =>
    simp only [hm] at h ⊢
    split at h
    · rename_i r0 M' hr
      have hM' : ME ⟨M2.nx, look M2.mem lim⟩ ⟨M1.nx, look M1.mem lim⟩ := ⟨hM.nx, fun id hid => by
        cases hb : look M2.mem lim id with
        | none => exact absurd hb hid
        | some b => exact hM.wf id (by rw [(look_some hb).1]; simp), fun id hid => by
        cases hb : look M2.mem lim id with
        | none => exact absurd hb hid
        | some b => exact (hl id b hb).trans hb.symm⟩
      rw [hM.nx] at hM'
      rw [hM.nx]
      obtain ⟨M1', q1, q2⟩ := hc _ _ _ _ _ _ _ hr (Nat.le_refl _) hM'
      rw [q1]
      obtain ⟨r', hf, hh⟩ := Option.map_eq_some_iff.1 h
      simp only [Prod.mk.injEq] at hh
      obtain ⟨rfl, rfl⟩ := hh
      simp only
      rw [freeze_ext (fun id b hb => (q2 0).me.got hb) _ _ hf]
      exact ⟨M1, rfl, fun _ => .refl hM⟩
    · cases h
  | rw =>
    simp only [hm] at h ⊢
    split at h
    · rename_i hd
      rw [if_pos hd]
      unfold rwD at h ⊢
      split at h
      · rename_i r0 M' hr
        split at h
        · rename_i hle
          simp only [Option.some.injEq, Prod.mk.injEq] at h
          obtain ⟨rfl, rfl⟩ := h
          obtain ⟨M1', q1, q2⟩ := hc _ _ _ _ _ _ _ hr hlo (hM.hide lim)
          refine ⟨⟨M1'.nx, backM lim M1.nx M1.mem M1'.mem⟩, ?_, MS.back hM lim q2⟩
          rw [q1]
          simp only
          rw [if_pos (by rw [hM.nx, (q2 0).me.nx]; exact hle)]
        · cases h
      · cases h
    · rename_i hd
      rw [if_neg hd]
      exact hc _ _ _ _ _ _ _ h hlo hM

theorem istep_sim {i : I} {ρ : List AV} {M2 M1 M2' : MM} {r : AV} (h : istep c2 mode draw lo lim fresh i ρ M2 = some (r, M2')) (hlo : lo ≤ M2.nx) (hM : ME M2 M1) : ∃ M1', istep c1 mode draw lo lim fresh i ρ M1 = some (r, M1') ∧ MS fresh M2 M1 M2' M1' := by
  have hl : ∀ {id b}, look M2.mem lim id = some b → look M1.mem lim id = some b := hM.look
  have hsl : ∀ {lim : Lm} {sz x y}, sliceCells M2.mem lim sz x = some y → sliceCells M1.mem lim sz x = some y := fun {lim sz x y} e => by
    cases x with
    | os id off len s =>
      simp only [sliceCells] at e ⊢
      split at e
      · rename_i t cs hb; rw [hM.look hb]; exact e
      · cases e
    | ov id cs len s => exact e
    | d d => cases d with
      | sl cs n => exact e
      | v v => cases v with
        | slice a n k =>
          cases a <;> cases n <;> cases k <;> first | exact e | (simp [sliceCells] at e)
        | _ => simp [sliceCells] at e
    | _ => simp [sliceCells] at e
  have pure : ∀ {j : I}, (∀ (c : CallT) (M : MM), istep c mode draw lo lim fresh j ρ M = (istep c2 mode draw lo lim fresh j ρ M2).map fun p => (p.1, M)) → istep c2 mode draw lo lim fresh j ρ M2 = some (r, M2') → ∃ M1', istep c1 mode draw lo lim fresh j ρ M1 = some (r, M1') ∧ MS fresh M2 M1 M2' M1' := fun {j} hp e => by
    have e2 := hp c2 M2
    rw [e] at e2
    simp only [Option.map_some, Option.some.injEq, Prod.mk.injEq, true_and] at e2
    subst e2
    exact ⟨M1, by rw [hp c1 M1, e]; rfl, .refl hM⟩
  cases i
  case ld1 a =>
    rw [ld1I_eq] at h ⊢
    obtain ⟨x, hx, hh⟩ := Option.map_eq_some_iff.1 h
    simp only [Prod.mk.injEq] at hh
    obtain ⟨rfl, rfl⟩ := hh
    refine ⟨M1, ?_, .refl hM⟩
    have : ld1I M1.mem lim (ev ρ a) = some x := by
      revert hx
      generalize ev ρ a = y
      intro hx
      cases y with
      | ptr id off =>
        simp only [ld1I] at hx ⊢
        split at hx
        · rename_i t cs hb; rw [hl hb]; exact hx
        · cases hx
      | _ => exact hx
    rw [this]; rfl
  case ldn n a =>
    rw [ldnI_eq] at h ⊢
    obtain ⟨x, hx, hh⟩ := Option.map_eq_some_iff.1 h
    simp only [Prod.mk.injEq] at hh
    obtain ⟨rfl, rfl⟩ := hh
    refine ⟨M1, ?_, .refl hM⟩
    have : ldnI M1.mem lim n (ev ρ a) = some x := by
      revert hx
      generalize ev ρ a = y
      intro hx
      cases y with
      | ptr id off =>
        simp only [ldnI] at hx ⊢
        split at hx
        · rename_i t cs hb; rw [hl hb]; exact hx
        · cases hx
      | _ => exact hx
    rw [this]; rfl
  case ld1r q a =>
    simp only [istep] at h ⊢
    split at h
    · rename_i hq
      rw [if_pos hq]
      obtain ⟨x, hx, hh⟩ := Option.map_eq_some_iff.1 h
      simp only [Prod.mk.injEq] at hh
      obtain ⟨rfl, rfl⟩ := hh
      refine ⟨M1, ?_, .refl hM⟩
      have : ld1I M1.mem lim (ev ρ a) = some x := by
        revert hx
        generalize ev ρ a = y
        intro hx
        cases y with
        | ptr id off =>
          simp only [ld1I] at hx ⊢
          split at hx
          · rename_i t cs hb; rw [hl hb]; exact hx
          · cases hx
        | _ => exact hx
      rw [this]; rfl
    · cases h
  case ldnr n q a =>
    simp only [istep] at h ⊢
    split at h
    · rename_i hq
      rw [if_pos hq]
      obtain ⟨x, hx, hh⟩ := Option.map_eq_some_iff.1 h
      simp only [Prod.mk.injEq] at hh
      obtain ⟨rfl, rfl⟩ := hh
      refine ⟨M1, ?_, .refl hM⟩
      have : ldnI M1.mem lim n (ev ρ a) = some x := by
        revert hx
        generalize ev ρ a = y
        intro hx
        cases y with
        | ptr id off =>
          simp only [ldnI] at hx ⊢
          split at hx
          · rename_i t cs hb; rw [hl hb]; exact hx
          · cases hx
        | _ => exact hx
      rw [this]; rfl
    · cases h
  case str n r ns a x =>
    simp only [istep] at h ⊢
    split at h
    · rename_i hok
      rw [if_pos hok]
      split at h
      · rename_i id off ha
        split at h
        · rename_i t cs hb
          split at h
          · rename_i hcond
            simp only [Option.some.injEq, Prod.mk.injEq] at h
            obtain ⟨rfl, rfl⟩ := h
            rw [hl hb]
            simp only
            rw [if_pos hcond]
            exact ⟨_, rfl, hM.put (look_some hb).1⟩
          · cases h
        · cases h
      · cases h
    · cases h
  case st n a x =>
    simp only [istep] at h ⊢
    split at h
    · rename_i id off ha
      split at h
      · rename_i t cs hb
        split at h
        · rename_i hcond
          simp only [Option.some.injEq, Prod.mk.injEq] at h
          obtain ⟨rfl, rfl⟩ := h
          rw [hl hb]
          simp only
          rw [if_pos hcond]
          exact ⟨_, rfl, hM.put (look_some hb).1⟩
        · cases h
      · cases h
    · cases h
  case lkp kk cm z m k =>
    simp only [istep] at h ⊢
    split at h
    · rename_i key hk
      split at h
      · rename_i hfit
        simp only [hfit, if_true]
        split at h
        · rename_i hmv
          simp only [Option.some.injEq, Prod.mk.injEq] at h
          obtain ⟨rfl, rfl⟩ := h
          exact ⟨M1, rfl, .refl hM⟩
        · rename_i id hmv
          split at h
          · rename_i kk' es hb
            rw [hl hb]
            simp only
            split at h
            · rename_i hkk
              rw [if_pos hkk]
              split at h
              · rename_i x hf
                simp only [Option.some.injEq, Prod.mk.injEq] at h
                obtain ⟨rfl, rfl⟩ := h
                exact ⟨M1, rfl, .refl hM⟩
              · rename_i hf
                simp only [Option.some.injEq, Prod.mk.injEq] at h
                obtain ⟨rfl, rfl⟩ := h
                exact ⟨M1, rfl, .refl hM⟩
            · cases h
          · cases h
        · cases h
      · cases h
    · cases h
  case lenm x =>
    simp only [istep] at h ⊢
    split at h
    · simp only [Option.some.injEq, Prod.mk.injEq] at h
      obtain ⟨rfl, rfl⟩ := h
      exact ⟨M1, rfl, .refl hM⟩
    · rename_i id hx
      split at h
      · rename_i kk es hb
        rw [hl hb]
        simp only [Option.some.injEq, Prod.mk.injEq] at h
        obtain ⟨rfl, rfl⟩ := h
        exact ⟨M1, rfl, .refl hM⟩
      · cases h
    · cases h
  case b2s x =>
    simp only [istep] at h ⊢
    split at h
    · rename_i n cs hs
      rw [hsl hs]
      obtain ⟨l, hb, hh⟩ := Option.map_eq_some_iff.1 h
      simp only [Prod.mk.injEq] at hh
      obtain ⟨rfl, rfl⟩ := hh
      exact ⟨M1, by simp only [hb, Option.map_some], .refl hM⟩
    · cases h
  case mset kk m k x =>
    simp only [istep] at h ⊢
    split at h
    · rename_i key id hk hm
      split at h
      · rename_i kk' es hb
        split at h
        · rename_i hcond
          simp only [Option.some.injEq, Prod.mk.injEq] at h
          obtain ⟨rfl, rfl⟩ := h
          rw [hl hb]
          simp only
          rw [if_pos hcond]
          exact ⟨_, rfl, hM.put (look_some hb).1⟩
        · cases h
      · cases h
    · cases h
  case mdel kk m k =>
    simp only [istep] at h ⊢
    split at h
    · rename_i key id hk hm
      split at h
      · rename_i kk' es hb
        split at h
        · rename_i hcond
          simp only [Option.some.injEq, Prod.mk.injEq] at h
          obtain ⟨rfl, rfl⟩ := h
          rw [hl hb]
          simp only
          rw [if_pos hcond]
          exact ⟨_, rfl, hM.put (look_some hb).1⟩
        · cases h
      · cases h
    · cases h
  case vapp t sz bytes zero s x =>
    simp only [istep] at h ⊢
    split at h
    · rename_i n news hs
      rw [hM.nx, hsl hs]
      simp only
      split at h
      · rename_i news2 hone
        try rw [hone]
        try simp only
        split at h
        · split at h
          · rename_i hn
            rw [if_pos hn]
            simp only [Option.some.injEq, Prod.mk.injEq] at h
            obtain ⟨rfl, rfl⟩ := h
            exact ⟨_, rfl, hM.up fresh⟩
          · rename_i hn
            rw [if_neg hn]
            split at h
            · rename_i hcond
              rw [if_pos hcond]
              simp only [Option.some.injEq, Prod.mk.injEq] at h
              obtain ⟨rfl, rfl⟩ := h
              exact ⟨_, rfl, hM.alloc fresh _⟩
            · cases h
        · rename_i id ds len s' heq
          split at h
          · rename_i t' u hb
            split at h
            · rename_i hcond
              simp only [Option.some.injEq, Prod.mk.injEq] at h
              obtain ⟨rfl, rfl⟩ := h
              rw [hM.look hb]
              simp only
              rw [if_pos hcond]
              have hbb := (look_some hb).1
              refine ⟨_, rfl, ⟨⟨by first | rfl | simp only [hM.nx], fun k hk => ?_, fun k hk => ?_⟩, ?_, fun k hk hne hn => ?_⟩⟩
              · simp only [upd] at hk ⊢
                by_cases e : k = fresh
                · omega
                · rw [if_neg e] at hk
                  by_cases e2 : k = id
                  · rw [if_pos e2] at hk; exact absurd rfl hk
                  · rw [if_neg e2] at hk; have := hM.wf k hk; omega
              · simp only [upd] at hk ⊢
                by_cases e : k = fresh
                · simp [e]
                · rw [if_neg e] at hk ⊢; rw [if_neg e]
                  by_cases e2 : k = id
                  · simp [e2]
                  · rw [if_neg e2] at hk ⊢; rw [if_neg e2]; exact hM.ext k hk
              · show M2.nx ≤ max M2.nx (fresh + 1); omega
              · have e2 : k ≠ id := fun e => by subst e; rw [hbb] at hn; cases hn
                simp only [upd, if_neg hne, if_neg e2]; exact ⟨hn, trivial⟩
            · cases h
          · cases h
        · cases h
      · cases h
    · cases h
  case wapp sz bytes s x =>
    simp only [istep] at h ⊢
    split at h
    · rename_i n news hs
      rw [hsl hs]
      simp only
      split at h
      · rename_i news2 hone
        try rw [hone]
        try simp only
        split at h
        · split at h
          · rename_i hn
            rw [if_pos hn]
            simp only [Option.some.injEq, Prod.mk.injEq] at h
            obtain ⟨rfl, rfl⟩ := h
            exact ⟨_, rfl, hM.up fresh⟩
          · cases h
        · cases h
      · cases h
    · cases h
  case vext t sz bytes zero s x =>
    simp only [istep] at h ⊢
    split at h
    · rename_i n news2 hs
      split at h
      · rename_i hone
        rw [if_pos hone, hM.nx]
        split at h
        · split at h
          · rename_i hn
            rw [if_pos hn]
            simp only [Option.some.injEq, Prod.mk.injEq] at h
            obtain ⟨rfl, rfl⟩ := h
            exact ⟨_, rfl, hM.up fresh⟩
          · rename_i hn
            rw [if_neg hn]
            split at h
            · rename_i hcond
              rw [if_pos hcond]
              simp only [Option.some.injEq, Prod.mk.injEq] at h
              obtain ⟨rfl, rfl⟩ := h
              exact ⟨_, rfl, hM.alloc fresh _⟩
            · cases h
        · rename_i id ds len s' heq
          split at h
          · rename_i t' u hb
            split at h
            · rename_i hcond
              simp only [Option.some.injEq, Prod.mk.injEq] at h
              obtain ⟨rfl, rfl⟩ := h
              rw [hM.look hb]
              simp only
              rw [if_pos hcond]
              have hbb := (look_some hb).1
              refine ⟨_, rfl, ⟨⟨by first | rfl | simp only [hM.nx], fun k hk => ?_, fun k hk => ?_⟩, ?_, fun k hk hne hn => ?_⟩⟩
              · simp only [upd] at hk ⊢
                by_cases e : k = fresh
                · omega
                · rw [if_neg e] at hk
                  by_cases e2 : k = id
                  · rw [if_pos e2] at hk; exact absurd rfl hk
                  · rw [if_neg e2] at hk; have := hM.wf k hk; omega
              · simp only [upd] at hk ⊢
                by_cases e : k = fresh
                · simp [e]
                · rw [if_neg e] at hk ⊢; rw [if_neg e]
                  by_cases e2 : k = id
                  · simp [e2]
                  · rw [if_neg e2] at hk ⊢; rw [if_neg e2]; exact hM.ext k hk
              · show M2.nx ≤ max M2.nx (fresh + 1); omega
              · have e2 : k ≠ id := fun e => by subst e; rw [hbb] at hn; cases hn
                simp only [upd, if_neg hne, if_neg e2]; exact ⟨hn, trivial⟩
            · cases h
          · cases h
        · cases h
      · cases h
    · cases h
  case wext sz bytes zero s x =>
    simp only [istep] at h ⊢
    split at h
    · rename_i n news2 hs
      split at h
      · rename_i hone
        rw [if_pos hone]
        split at h
        · split at h
          · rename_i hn
            rw [if_pos hn]
            simp only [Option.some.injEq, Prod.mk.injEq] at h
            obtain ⟨rfl, rfl⟩ := h
            exact ⟨_, rfl, hM.up fresh⟩
          · cases h
        · cases h
      · cases h
    · cases h
  case wsl n z ps =>
    simp only [istep] at h ⊢
    split at h
    · rename_i cs hf
      obtain ⟨ds, hd, hh⟩ := Option.map_eq_some_iff.1 h
      simp only [Prod.mk.injEq] at hh
      obtain ⟨rfl, rfl⟩ := hh
      try rw [hf]
      exact ⟨_, by simp only [hd, Option.map_some], hM.up fresh⟩
    · cases h
  case wmk b z l c =>
    simp only [istep] at h ⊢
    split at h
    · rename_i l' c' hl' hc'
      split at h
      · rename_i hcond
        obtain ⟨ds, hd, hh⟩ := Option.map_eq_some_iff.1 h
        simp only [Prod.mk.injEq] at hh
        obtain ⟨rfl, rfl⟩ := hh
        rw [if_pos hcond]
        exact ⟨_, by simp only [hd, Option.map_some], hM.up fresh⟩
      · cases h
    · cases h
  case appn t sz bytes zero x =>
    simp only [istep] at h ⊢
    split at h
    · rename_i n news hs
      rw [hsl hs]
      simp only
      split at h
      · rename_i hone
        rw [if_pos hone]
        split at h
        · rename_i hn
          rw [if_pos hn]
          simp only [Option.some.injEq, Prod.mk.injEq] at h
          obtain ⟨rfl, rfl⟩ := h
          exact ⟨_, rfl, hM.up fresh⟩
        · rename_i hn
          rw [if_neg hn]
          split at h
          · rename_i hcond
            rw [if_pos hcond]
            simp only [Option.some.injEq, Prod.mk.injEq] at h
            obtain ⟨rfl, rfl⟩ := h
            exact ⟨_, rfl, hM.alloc fresh _⟩
          · cases h
      · cases h
    · cases h
  case app t sz bytes zero s x =>
    simp only [istep] at h ⊢
    split at h
    · rename_i n news hs
      rw [hM.nx, hsl hs]
      simp only
      split at h
      · rename_i hone
        rw [if_pos hone]
        split at h
        · split at h
          · rename_i hn
            rw [if_pos hn]
            simp only [Option.some.injEq, Prod.mk.injEq] at h
            obtain ⟨rfl, rfl⟩ := h
            exact ⟨M1, rfl, .refl hM⟩
          · rename_i hn
            rw [if_neg hn]
            split at h
            · rename_i hcond
              rw [if_pos hcond]
              simp only [Option.some.injEq, Prod.mk.injEq] at h
              obtain ⟨rfl, rfl⟩ := h
              exact ⟨_, rfl, hM.alloc fresh _⟩
            · cases h
        · rename_i id len s' heq
          split at h
          · rename_i t' cs hb
            split at h
            · rename_i hcond
              simp only [Option.some.injEq, Prod.mk.injEq] at h
              obtain ⟨rfl, rfl⟩ := h
              rw [hM.look hb]
              simp only
              rw [if_pos hcond]
              have hbb := (look_some hb).1
              refine ⟨_, rfl, ⟨⟨by first | rfl | simp only [hM.nx], fun k hk => ?_, fun k hk => ?_⟩, ?_, fun k hk hne hn => ?_⟩⟩
              · simp only [upd] at hk ⊢
                by_cases e : k = fresh
                · omega
                · rw [if_neg e] at hk
                  by_cases e2 : k = id
                  · rw [if_pos e2] at hk; exact absurd rfl hk
                  · rw [if_neg e2] at hk; have := hM.wf k hk; omega
              · simp only [upd] at hk ⊢
                by_cases e : k = fresh
                · simp [e]
                · rw [if_neg e] at hk ⊢; rw [if_neg e]
                  by_cases e2 : k = id
                  · simp [e2]
                  · rw [if_neg e2] at hk ⊢; rw [if_neg e2]; exact hM.ext k hk
              · show M2.nx ≤ max M2.nx (fresh + 1); omega
              · have e2 : k ≠ id := fun e => by subst e; rw [hbb] at hn; cases hn
                simp only [upd, if_neg hne, if_neg e2]; exact ⟨hn, trivial⟩
            · cases h
          · cases h
        · cases h
      · cases h
    · cases h
  case new t cs => simp only [istep, Option.some.injEq, Prod.mk.injEq] at h ⊢; obtain ⟨rfl, rfl⟩ := h; exact ⟨_, ⟨rfl, rfl⟩, hM.alloc fresh _⟩
  case box t x =>
    simp only [istep] at h ⊢
    split at h
    · cases h
    · simp only [Option.some.injEq, Prod.mk.injEq] at h ⊢; obtain ⟨rfl, rfl⟩ := h; exact ⟨_, ⟨rfl, rfl⟩, hM.alloc fresh _⟩
  case mksl t n sz z ps =>
    simp only [istep] at h ⊢
    obtain ⟨cs, hf, hh⟩ := Option.map_eq_some_iff.1 h
    simp only [Prod.mk.injEq] at hh
    obtain ⟨rfl, rfl⟩ := hh
    exact ⟨_, by rw [hf]; rfl, hM.alloc fresh _⟩
  case mkmap kk => simp only [istep, Option.some.injEq, Prod.mk.injEq] at h ⊢; obtain ⟨rfl, rfl⟩ := h; exact ⟨_, ⟨rfl, rfl⟩, hM.alloc fresh _⟩
  case vsl t n sz z ps =>
    simp only [istep] at h ⊢
    split at h
    · rename_i cs hf
      obtain ⟨ds, hd, hh⟩ := Option.map_eq_some_iff.1 h
      simp only [Prod.mk.injEq] at hh
      obtain ⟨rfl, rfl⟩ := hh
      try rw [hf]
      exact ⟨_, by simp only [hd, Option.map_some], hM.alloc fresh _⟩
    · cases h
  case vmk t sz b z l c =>
    simp only [istep] at h ⊢
    split at h
    · rename_i l' c' hl' hc'
      split at h
      · rename_i hcond
        obtain ⟨ds, hd, hh⟩ := Option.map_eq_some_iff.1 h
        simp only [Prod.mk.injEq] at hh
        obtain ⟨rfl, rfl⟩ := hh
        rw [if_pos hcond]
        exact ⟨_, by simp only [hd, Option.map_some], hM.alloc fresh _⟩
      · cases h
    · cases h
  case mkslice t sz b z l c =>
    simp only [istep] at h ⊢
    split at h
    · split at h
      · rename_i hcond
        rw [if_pos hcond]
        simp only [Option.some.injEq, Prod.mk.injEq] at h ⊢; obtain ⟨rfl, rfl⟩ := h; exact ⟨_, ⟨rfl, rfl⟩, hM.alloc fresh _⟩
      · cases h
    · cases h
  case call f args =>
    obtain ⟨M1', q1, q2⟩ := docall_sim hc h hlo hM
    exact ⟨M1', q1, q2 _⟩
  case callv x args =>
    simp only [istep] at h ⊢
    split at h
    · obtain ⟨M1', q1, q2⟩ := docall_sim hc h hlo hM
      exact ⟨M1', q1, q2 _⟩
    · cases h
  case callw no x args =>
    simp only [istep] at h ⊢
    split at h
    · split at h
      · cases h
      · rename_i hno
        rw [if_neg hno]
        obtain ⟨M1', q1, q2⟩ := docall_sim hc h hlo hM
        exact ⟨M1', q1, q2 _⟩
    · cases h
  case callk f args roots =>
    simp only [istep] at h ⊢
    split at h
    · rename_i r0 M0 hd
      split at h
      · rename_i hk
        simp only [Option.some.injEq, Prod.mk.injEq] at h
        obtain ⟨rfl, rfl⟩ := h
        obtain ⟨M1', q1, q2⟩ := docall_sim hc hd hlo hM
        refine ⟨M1', ?_, q2 _⟩
        rw [q1]
        simp only
        rw [if_pos]
        rw [List.all_eq_true] at hk ⊢
        intro x hx
        have := hk x hx
        revert this
        generalize ev ρ x = y
        intro this
        have main : ∀ i, eqB (hideM lim M2.mem i) (hideM lim M0.mem i) = true → eqB (hideM lim M1.mem i) (hideM lim M1'.mem i) = true := fun i e => by
          simp only [hideM] at e ⊢
          split at e
          · simp [eqB] at e
          rename_i hh
          rw [if_neg hh, if_neg hh]
          cases h2 : M2.mem i with
          | none => rw [h2] at e; simp [eqB] at e
          | some b2 => cases h3 : M0.mem i with
            | none => rw [h2, h3] at e; cases b2 <;> simp [eqB] at e
            | some b3 => rw [hM.got h2, (q2 0).me.got h3]; rw [h2, h3] at e; exact e
        cases y with
        | ptr i o => exact main i this
        | os i o l s => exact main i this
        | _ => exact this
      · cases h
    · cases h
  case lnew cs =>
    simp only [istep, Option.some.injEq, Prod.mk.injEq] at h ⊢
    obtain ⟨rfl, rfl⟩ := h
    exact ⟨M1.up fresh, ⟨rfl, rfl⟩, ⟨⟨by simp only [MM.up, hM.nx], fun id hid => by have := hM.wf id hid; simp only [MM.up]; omega, hM.ext⟩, by simp only [MM.up]; omega, fun _ _ _ h => ⟨h, rfl⟩⟩⟩
  case lbox x =>
    simp only [istep] at h ⊢
    split at h
    · cases h
    · simp only [Option.some.injEq, Prod.mk.injEq] at h ⊢
      obtain ⟨rfl, rfl⟩ := h
      exact ⟨M1.up fresh, ⟨rfl, rfl⟩, ⟨⟨by simp only [MM.up, hM.nx], fun id hid => by have := hM.wf id hid; simp only [MM.up]; omega, hM.ext⟩, by simp only [MM.up]; omega, fun _ _ _ h => ⟨h, rfl⟩⟩⟩
  all_goals
    refine pure (fun c M => ?_) h
    simp only [istep]
    repeat' split
    all_goals first | rfl | (simp only [Option.map_map]; rfl)
end

/-! ### Frames -/
theorem hasN_mem {n : Nat} : ∀ {l : List Nat}, hasN n l = true ↔ n ∈ l
  | [] => by simp [hasN]
  | m :: l => by simp only [hasN, Bool.or_eq_true, Nat.beq_eq, List.mem_cons, hasN_mem]

def plainP (pm : Pm) (r : Nat) : Prop := r ∉ pm.prom ∧ r ∉ pm.ex
theorem plainR_iff {pm : Pm} {r : Nat} : plainR pm r = true ↔ plainP pm r := by
  simp only [plainR, plainP, Bool.and_eq_true, Bool.not_eq_true', ← Bool.not_eq_true, hasN_mem]
theorem plainX_iff {pm : Pm} {l : List Nat} : plainX pm l = true ↔ ∀ r ∈ l, plainP pm r := by
  simp only [plainX, List.all_eq_true, plainR_iff]

/-- How the frames stand to each other. 'M0', 'M10': the memories as the function began; 'B': the ids of the locals lie below. -/
structure PRel (pm : Pm) (lo B : Nat) (M0 M10 : MM) (der : List De) (s1 s2 : St) : Prop where
  me : ME s2.M s1.M
  nx0 : M0.nx ≤ s2.M.nx
  bnx : B ≤ s2.M.nx
  lo0 : lo ≤ M0.nx
  old : ∀ id, id < M0.nx → M0.mem id = none → s2.M.mem id = none ∧ s1.M.mem id = M10.mem id
  len : s1.ρ.length = s2.ρ.length
  exl : ∀ v ∈ pm.ex, v < s2.ρ.length
  reg : ∀ r, plainP pm r → s1.ρ[r]? = s2.ρ[r]?
  pro : ∀ L, L ∈ pm.prom → ∀ cs, s2.ρ[L]? = some (.agg cs) → ∃ id t, s1.ρ[L]? = some (.ptr id 0) ∧ s1.M.mem id = some (.cells t cs) ∧ s2.M.mem id = none ∧ M0.nx ≤ id ∧ id < B
  inj : ∀ L L' cs cs' id, L ∈ pm.prom → L' ∈ pm.prom → s2.ρ[L]? = some (.agg cs) → s2.ρ[L']? = some (.agg cs') → s1.ρ[L]? = some (.ptr id 0) → s1.ρ[L']? = some (.ptr id 0) → L = L'
  shp : ∀ L, L ∈ pm.prom → ∀ x, s2.ρ[L]? = some x → x = .undef ∨ ∃ cs, x = .agg cs
  der : ∀ e ∈ der, e.L ∈ pm.prom ∧ e.v ∈ pm.ex ∧ e.v ∉ pm.prom ∧ plainG pm e.g = true ∧ (want e.g s2.ρ = some true → ∀ cs id, s2.ρ[e.L]? = some (.agg cs) → s1.ρ[e.L]? = some (.ptr id 0) → s1.ρ[e.v]? = some (.ptr id e.off))

section
variable {pm : Pm} {lo B : Nat} {M0 M10 : MM} {der : List De} {s1 s2 : St} (h : PRel pm lo B M0 M10 der s1 s2)
include h

theorem PRel.getD {r : Nat} (hr : plainP pm r) : s1.ρ.getD r .undef = s2.ρ.getD r .undef := by
  simp only [List.getD_eq_getElem?_getD, h.reg r hr]

theorem PRel.ev {x : X} (hx : ∀ r ∈ x.slots, plainP pm r) : ev s1.ρ x = ev s2.ρ x := by
  cases x with
  | t i => exact h.getD (hx i (by simp [X.slots]))
  | k a => rfl

theorem PRel.want {g : Option (Nat × Bool)} (hg : plainG pm g = true) : want g s1.ρ = want g s2.ρ := by
  cases g with
  | none => rfl
  | some p => simp only [Sx.want, h.reg _ (plainR_iff.1 hg)]

theorem PRel.set {d : Nat} (hd : plainP pm d) (v : AV) : PRel pm lo B M0 M10 (killD (some d) der) ⟨s1.ρ.set d v, s1.M⟩ ⟨s2.ρ.set d v, s2.M⟩ := by
  have hne : ∀ {L}, L ∈ pm.prom → L ≠ d := fun hL e => hd.1 (e ▸ hL)
  refine ⟨h.me, h.nx0, h.bnx, h.lo0, h.old, by simp [h.len], fun v hv => by simpa using h.exl v hv, fun r hr => ?_, fun L hL cs hcs => ?_, fun L L' cs cs' id hL hL' h1 h2 h3 h4 => ?_, fun L hL x hx => ?_, fun e he => ?_⟩
  · by_cases e : d = r
    · subst e
      by_cases hlt : d < s2.ρ.length
      · rw [List.getElem?_set_self (by rw [h.len]; exact hlt), List.getElem?_set_self hlt]
      · rw [List.set_eq_of_length_le (by rw [h.len]; omega), List.set_eq_of_length_le (by omega)]; exact h.reg d hr
    · rw [List.getElem?_set_ne e, List.getElem?_set_ne e]; exact h.reg r hr
  · rw [List.getElem?_set_ne (hne hL).symm] at hcs ⊢; exact h.pro L hL cs hcs
  · rw [List.getElem?_set_ne (hne hL).symm] at h1 h3
    rw [List.getElem?_set_ne (hne hL').symm] at h2 h4
    exact h.inj L L' cs cs' id hL hL' h1 h2 h3 h4
  · rw [List.getElem?_set_ne (hne hL).symm] at hx; exact h.shp L hL x hx
  · simp only [killD, List.mem_filter, Bool.not_eq_true', Bool.or_eq_false_iff] at he
    obtain ⟨hm, ⟨hv, hL⟩, hg⟩ := he
    obtain ⟨q1, q2, q3, q4, q5⟩ := h.der e hm
    have hvd : e.v ≠ d := fun e' => by rw [e', Nat.beq_refl] at hv; cases hv
    refine ⟨q1, q2, q3, q4, fun hw cs id h1 h2 => ?_⟩
    rw [List.getElem?_set_ne (hne q1).symm] at h1 h2
    rw [List.getElem?_set_ne hvd.symm]
    refine q5 ?_ cs id h1 h2
    have hgg : Sx.want e.g (s2.ρ.set d v) = Sx.want e.g s2.ρ := by
      cases hgv : e.g with
      | none => rfl
      | some p =>
        rw [hgv] at hg
        have : p.1 ≠ d := fun e' => by simp only [gReg] at hg; rw [e', Nat.beq_refl] at hg; cases hg
        simp only [Sx.want, List.getElem?_set_ne this.symm]
    rw [← hgg]; exact hw

theorem PRel.setO {d : Option Nat} (hd : plainD pm d = true) (v : AV) : PRel pm lo B M0 M10 (killD d der) ⟨setO s1.ρ d v, s1.M⟩ ⟨setO s2.ρ d v, s2.M⟩ := by
  cases d with
  | none => exact h
  | some d => exact h.set (plainR_iff.1 hd) v

theorem PRel.mem {fresh : Nat} {M1' M2' : MM} (hs : MS fresh s2.M s1.M M2' M1') (hf : B ≤ fresh ∧ M0.nx ≤ fresh) : PRel pm lo B M0 M10 der ⟨s1.ρ, M1'⟩ ⟨s2.ρ, M2'⟩ := by
  refine ⟨hs.me, Nat.le_trans h.nx0 hs.nx, Nat.le_trans h.bnx hs.nx, h.lo0, fun id h1 h2 => ?_, h.len, h.exl, h.reg, fun L hL cs hcs => ?_, h.inj, h.shp, h.der⟩
  · obtain ⟨q1, q2⟩ := h.old id h1 h2
    have hnx := h.nx0
    obtain ⟨q3, q4⟩ := hs.keep id (by omega) (by omega) q1
    exact ⟨q3, by rw [q4, q2]⟩
  · obtain ⟨id, t, q1, q2, q3, q4, q5⟩ := h.pro L hL cs hcs
    have hb := h.bnx
    obtain ⟨q6, q7⟩ := hs.keep id (by omega) (by omega) q3
    exact ⟨id, t, q1, by rw [q7]; exact q2, q6, q4, q5⟩

theorem PRel.up {B' : Nat} (hB : B ≤ B') (hB' : B' ≤ s2.M.nx) : PRel pm lo B' M0 M10 der s1 s2 :=
  ⟨h.me, h.nx0, hB', h.lo0, h.old, h.len, h.exl, h.reg, fun L hL cs hcs => by
    obtain ⟨id, t, q1, q2, q3, q4, q5⟩ := h.pro L hL cs hcs
    exact ⟨id, t, q1, q2, q3, q4, by omega⟩, h.inj, h.shp, h.der⟩

theorem PRel.less {der' : List De} (hd : ∀ e ∈ der', e ∈ der) : PRel pm lo B M0 M10 der' s1 s2 :=
  ⟨h.me, h.nx0, h.bnx, h.lo0, h.old, h.len, h.exl, h.reg, h.pro, h.inj, h.shp, fun e he => h.der e (hd e he)⟩
end

section
variable {c1 c2 : CallT} (hc : CS c1 c2) {mode : FuncId → Mode} {draw : Bool} {pm : Pm} {lo B : Nat} {lim : Lm} {fresh : Nat} {M0 M10 : MM} {der : List De} {s1 s2 s2' : St}

theorem PRel.where_ (h : PRel pm lo B M0 M10 der s1 s2) {p L off : Nat} {g0 g : Option (Nat × Bool)} (hw : whereD pm der p = some (L, off, g0)) (hg : guardOK g0 g = true) (hwt : Sx.want g s2.ρ = some true) {cs : List AV} (hcs : s2.ρ[L]? = some (.agg cs)) :
    ∃ id t, s1.ρ[L]? = some (.ptr id 0) ∧ s1.ρ[p]? = some (.ptr id off) ∧ s1.M.mem id = some (.cells t cs) ∧ s2.M.mem id = none ∧ M0.nx ≤ id ∧ id < B := by
  unfold whereD at hw
  split at hw
  · rename_i hp
    simp only [Option.some.injEq, Prod.mk.injEq] at hw
    obtain ⟨rfl, rfl, rfl⟩ := hw
    obtain ⟨id, t, q1, q2, q3, q4, q5⟩ := h.pro p (hasN_mem.1 hp) cs hcs
    exact ⟨id, t, q1, q1, q2, q3, q4, q5⟩
  · obtain ⟨e, he, hh⟩ := Option.map_eq_some_iff.1 hw
    simp only [Prod.mk.injEq] at hh
    obtain ⟨rfl, rfl, rfl⟩ := hh
    have hm : ∀ {l : List De} {e : De}, findDe p l = some e → e ∈ l ∧ e.v = p := by
      intro l
      induction l with
      | nil => intro e h; simp [findDe] at h
      | cons a l ih =>
        intro e h
        simp only [findDe] at h
        split at h
        · rename_i ha
          simp only [Option.some.injEq] at h; subst h
          exact ⟨by simp, Nat.eq_of_beq_eq_true ha⟩
        · obtain ⟨q1, q2⟩ := ih h; exact ⟨by simp [q1], q2⟩
    obtain ⟨he1, rfl⟩ := hm he
    obtain ⟨q1, q2, q3, q4, q5⟩ := h.der e he1
    obtain ⟨id, t, r1, r2, r3, r4, r5⟩ := h.pro e.L q1 cs hcs
    have hwe : Sx.want e.g s2.ρ = some true := by
      have main : ∀ a b : Option (Nat × Bool), guardOK a b = true → Sx.want b s2.ρ = some true → Sx.want a s2.ρ = some true := by
        intro a b
        cases a with
        | none => intro _ _; rfl
        | some a => cases b with
          | none => intro hg; simp [guardOK] at hg
          | some b =>
            intro hg hwt
            simp only [guardOK, Bool.and_eq_true, beq_iff_eq] at hg
            have e1 : a = b := Prod.ext (Nat.eq_of_beq_eq_true hg.1) hg.2
            rw [e1]; exact hwt
      exact main _ _ hg hwt
    exact ⟨id, t, r1, q5 hwe cs id hcs r1, r2, r3, r4, r5⟩

theorem istep_ev {call : CallT} {i : I} {ρ1 ρ2 : List AV} {M : MM} (h : ∀ x : X, (∀ r ∈ x.slots, r ∈ i.slots) → ev ρ1 x = ev ρ2 x) : istep call mode draw lo lim fresh i ρ1 M = istep call mode draw lo lim fresh i ρ2 M := by
  have hl : ∀ xs : List X, (∀ x ∈ xs, ∀ r ∈ x.slots, r ∈ i.slots) → xs.map (ev ρ1) = xs.map (ev ρ2) := fun xs hx => List.map_congr_left fun x hm => h x (hx x hm)
  have hp : ∀ ps : List (Nat × Nat × X), (∀ p ∈ ps, ∀ r ∈ p.2.2.slots, r ∈ i.slots) → (ps.map fun p => (p.1, p.2.1, ev ρ1 p.2.2)) = ps.map fun p => (p.1, p.2.1, ev ρ2 p.2.2) := fun ps hx => List.map_congr_left fun p hm => by rw [h p.2.2 (hx p hm)]
  have ho : ∀ (n : Nat) (x : Option X), (∀ r ∈ x.toList.flatMap X.slots, r ∈ i.slots) → hiOf ρ1 n x = hiOf ρ2 n x ∧ loOf ρ1 x = loOf ρ2 x := fun n x hx => by
    cases x with
    | none => exact ⟨rfl, rfl⟩
    | some x => simp only [hiOf, loOf]; rw [h x (by simpa using hx)]; exact ⟨rfl, rfl⟩
  cases i with
  | mov x | appn t s y z x | box t x | ld1 x | ldn n x | nilc x | un op x | cvi k x | cvs x | b2s x | fad o x | fld o n g x | ext x j | tk x j | lens x | len x | lenm x | lbox x => simp only [istep, h x (by simp [I.slots])]
  | st n a b | bin op e a b | mkslice t s y z a b | ixs s a b | ixp s l a b | ixv s l g a b | ixc a b | lkp kk cm z a b | mdel kk a b | mmax mx a b | app t s y z a b | vmk t s y z a b | vapp t s y z a b | vext t s y z a b | wext s y z a b | wmk y z a b | wapp s y a b | setc o n a b | ld1r a b | ldnr n a b =>
    simp only [istep, h a (by simp +contextual [I.slots]), h b (by simp +contextual [I.slots])]
  | pick a b c | mset kk a b c => simp only [istep, h a (by simp +contextual [I.slots]), h b (by simp +contextual [I.slots]), h c (by simp +contextual [I.slots])]
  | new t cs => rfl
  | mkmap kk => rfl
  | lnew cs => rfl
  | bad => rfl
  | mk z ps => simp only [istep]; rw [hp ps (fun p hm r hr => by simp only [I.slots, List.mem_flatMap]; exact ⟨p, hm, hr⟩)]
  | mksl t n s z ps => simp only [istep]; rw [hp ps (fun p hm r hr => by simp only [I.slots, List.mem_flatMap]; exact ⟨p, hm, hr⟩)]
  | vsl t n s z ps => simp only [istep]; rw [hp ps (fun p hm r hr => by simp only [I.slots, List.mem_flatMap]; exact ⟨p, hm, hr⟩)]
  | wsl n z ps => simp only [istep]; rw [hp ps (fun p hm r hr => by simp only [I.slots, List.mem_flatMap]; exact ⟨p, hm, hr⟩)]
  | mkf f as bs => simp only [istep]; rw [hl as (fun x hm r hr => by simp only [I.slots, List.mem_append, List.mem_flatMap]; exact .inl ⟨x, hm, hr⟩), hl bs (fun x hm r hr => by simp only [I.slots, List.mem_append, List.mem_flatMap]; exact .inr ⟨x, hm, hr⟩)]
  | slstr x l u =>
    have e1 := fun n => (ho n l (fun r hr => by simp only [I.slots, List.mem_append]; exact .inl (.inr hr)))
    have e2 := fun n => (ho n u (fun r hr => by simp only [I.slots, List.mem_append]; exact .inr hr))
    simp only [istep, h x (by simp +contextual [I.slots]), (e1 0).2, fun n => (e2 n).1]
  | slsl s x l u =>
    have e1 := fun n => (ho n l (fun r hr => by simp only [I.slots, List.mem_append]; exact .inl (.inr hr)))
    have e2 := fun n => (ho n u (fun r hr => by simp only [I.slots, List.mem_append]; exact .inr hr))
    simp only [istep, h x (by simp +contextual [I.slots]), (e1 0).2, fun n => (e2 n).1]
  | call f as => simp only [istep]; rw [hl as (fun x hm r hr => by simp only [I.slots, List.mem_flatMap]; exact ⟨x, hm, hr⟩)]
  | callv x as | callw no x as => simp only [istep, h x (by simp +contextual [I.slots])]; rw [hl as (fun y hm r hr => by simp only [I.slots, List.mem_append, List.mem_flatMap]; exact .inr ⟨y, hm, hr⟩)]
  | callk f as rs =>
    have e : ∀ (m m' : Mem), (rs.all fun x => kept m m' (ev ρ1 x)) = rs.all fun x => kept m m' (ev ρ2 x) := fun m m' => by
      rw [Bool.eq_iff_iff, List.all_eq_true, List.all_eq_true]
      have q : ∀ x ∈ rs, ev ρ1 x = ev ρ2 x := fun x hm => h x (fun r hr => by simp only [I.slots, List.mem_append, List.mem_flatMap]; exact .inr ⟨x, hm, hr⟩)
      exact ⟨fun hh x hx => by rw [← q x hx]; exact hh x hx, fun hh x hx => by rw [q x hx]; exact hh x hx⟩
    simp only [istep, e]; rw [hl as (fun x hm r hr => by simp only [I.slots, List.mem_append, List.mem_flatMap]; exact .inl ⟨x, hm, hr⟩)]
  | str n r ns a x =>
    simp only [istep, h r (by simp +contextual [I.slots]), h a (by simp +contextual [I.slots]), h x (by simp +contextual [I.slots])]
    rw [hl ns (fun y hm r hr => by simp only [I.slots, List.mem_append, List.mem_flatMap]; exact .inl (.inl (.inr ⟨y, hm, hr⟩)))]

variable (h : PRel pm lo B M0 M10 der s1 s2) (hlim : B ≤ lim.b) (hfr : B ≤ fresh ∧ M0.nx ≤ fresh)
include hc h hlim hfr

omit hlim in
/-- An operation on neither. -/
theorem step_plain {o : Op1} (ho : plainO pm o = true) (hst : step1 c2 mode draw lo lim fresh o s2 = some s2') :
    ∃ s1', step1 c1 mode draw lo lim fresh o s1 = some s1' ∧ PRel pm lo B M0 M10 (killD o.dst der) s1' s2' ∧ s2.M.nx ≤ s2'.M.nx := by
  simp only [plainO, Bool.and_eq_true] at ho
  obtain ⟨⟨hx, hg⟩, hd⟩ := ho
  unfold step1 at hst ⊢
  rw [h.want hg]
  split at hst
  · cases hst
  · simp only [Option.some.injEq] at hst; subst hst
    exact ⟨_, rfl, h.setO hd .undef, Nat.le_refl _⟩
  · split at hst
    · rename_i v M2' hi
      simp only [Option.some.injEq] at hst; subst hst
      obtain ⟨M1', q1, q2⟩ := istep_sim hc hi (Nat.le_trans h.lo0 h.nx0) h.me
      have e : istep c1 mode draw lo lim fresh o.i s1.ρ s1.M = istep c1 mode draw lo lim fresh o.i s2.ρ s1.M := istep_ev fun x hr => h.ev fun r hm => plainX_iff.1 hx r (hr r hm)
      rw [e, q1]
      exact ⟨_, rfl, (h.mem q2 hfr).setO hd v, q2.nx⟩
    · cases hst

theorem step_ld {o : Op1} {p n : Nat} {agg : Bool} {o' : Op1} {der' : List De} (ho : promLd pm der o p n agg = some (o', der'))
    (hi : ∀ {c : CallT} {ρ : List AV} {M : MM} {x : AV × MM} {id off L : Nat} {g0 : Option (Nat × Bool)} {t : TypeId} {cs : List AV}, whereD pm der p = some (L, off, g0) → ρ.getD L .undef = .ptr id 0 → ρ.getD p .undef = .ptr id off → lim.ok id = true → M.mem id = some (.cells t cs) → (if agg then (if off + n ≤ cs.length then some (AV.agg ((cs.drop off).take n)) else none) else cs[off]?).map (·, M) = some x → istep c mode draw lo lim fresh o.i ρ M = some x)
    (hst : step1 c2 mode draw lo lim fresh o' s2 = some s2') :
    ∃ s1', step1 c1 mode draw lo lim fresh o s1 = some s1' ∧ PRel pm lo B M0 M10 der' s1' s2' ∧ s2.M.nx ≤ s2'.M.nx := by
  unfold promLd at ho
  split at ho
  · rename_i L off g0 hw
    split at ho
    · rename_i hcond
      simp only [Bool.and_eq_true] at hcond
      obtain ⟨⟨⟨hg0, hg⟩, hd⟩, hL⟩ := hcond
      simp only [Option.some.injEq, Prod.mk.injEq] at ho
      obtain ⟨rfl, rfl⟩ := ho
      unfold step1 at hst ⊢
      simp only at hst
      rw [h.want hg]
      split at hst
      · cases hst
      · rename_i hwt
        simp only [Option.some.injEq] at hst; subst hst
        exact ⟨_, rfl, h.setO hd .undef, Nat.le_refl _⟩
      · rename_i hwt
        split at hst
        · rename_i v M2' his
          simp only [Option.some.injEq] at hst; subst hst
          simp only [istep] at his
          split at his
          · rename_i cs hcs
            have hcs' : s2.ρ[L]? = some (.agg cs) := by
              simp only [ev, List.getD_eq_getElem?_getD] at hcs
              cases hq : s2.ρ[L]? with
              | none => rw [hq] at hcs; cases hcs
              | some y => rw [hq] at hcs; simp only [Option.getD_some] at hcs; rw [hcs]
            obtain ⟨id, t, r1, r2, r3, r4, r5, r6⟩ := h.where_ hw hg0 hwt hcs'
            have hp : s1.ρ.getD p .undef = .ptr id off := by simp only [List.getD_eq_getElem?_getD, r2, Option.getD_some]
            have hM : M2' = s2.M ∧ (if agg then (if off + n ≤ cs.length then some (AV.agg ((cs.drop off).take n)) else none) else cs[off]?).map (·, s1.M) = some (v, s1.M) := by
              cases agg
              · simp only [Bool.false_eq_true, if_false] at his ⊢
                obtain ⟨y, hy, hh⟩ := Option.map_eq_some_iff.1 his
                simp only [Prod.mk.injEq] at hh
                obtain ⟨rfl, rfl⟩ := hh
                exact ⟨rfl, by rw [hy]; rfl⟩
              · simp only [if_true] at his ⊢
                split at his
                · rename_i hle
                  simp only [Option.some.injEq, Prod.mk.injEq] at his
                  obtain ⟨rfl, rfl⟩ := his
                  exact ⟨rfl, by rw [if_pos hle]; rfl⟩
                · cases his
            obtain ⟨rfl, hM2⟩ := hM
            have hp0 : s1.ρ.getD L .undef = .ptr id 0 := by simp only [List.getD_eq_getElem?_getD, r1, Option.getD_some]
            rw [hi (c := c1) (ρ := s1.ρ) (M := s1.M) (x := (v, s1.M)) hw hp0 hp (ok_lt (by omega)) r3 hM2]
            exact ⟨_, rfl, h.setO hd v, Nat.le_refl _⟩
          · cases his
        · cases hst
    · cases ho
  · unfold plain at ho
    split at ho
    · rename_i hpl
      simp only [Option.some.injEq, Prod.mk.injEq] at ho
      obtain ⟨rfl, rfl⟩ := ho
      exact step_plain hc h hfr hpl hst
    · cases ho

omit hc hlim hfr in
/-- A local is born. -/
theorem PRel.born {d : Nat} (hd : d ∈ pm.prom) (t : TypeId) (cs : List AV) (hf : fresh = s2.M.nx) :
    PRel pm lo (fresh + 1) M0 M10 (killD (some d) der) ⟨s1.ρ.set d (.ptr fresh 0), s1.M.alloc fresh (.cells t cs)⟩ ⟨s2.ρ.set d (.agg cs), s2.M.up fresh⟩ := by
  have hB := h.bnx
  have h0 := h.nx0
  have hup : (s2.M.up fresh).nx = fresh + 1 := by simp only [MM.up]; omega
  have hal : ∀ id, id ≠ fresh → (s1.M.alloc fresh (.cells t cs)).mem id = s1.M.mem id := fun id hne => by simp only [MM.alloc, upd, if_neg hne]
  have hn2 : s2.M.mem fresh = none := by
    cases hq : s2.M.mem fresh with
    | none => rfl
    | some b => have := h.me.wf fresh (by rw [hq]; simp); omega
  refine ⟨⟨by rw [hup]; simp only [MM.alloc, h.me.nx]; omega, fun id hid => by have := h.me.wf id hid; show id < (s2.M.up fresh).nx; omega, fun id hid => by rw [hal id (by have := h.me.wf id hid; omega)]; exact h.me.ext id hid⟩, by show M0.nx ≤ (s2.M.up fresh).nx; omega, by show fresh + 1 ≤ (s2.M.up fresh).nx; omega, h.lo0, fun id h1 h2 => ?_, by simp [h.len], fun v hv => by simpa using h.exl v hv, fun r hr => ?_, fun L hL cs' hcs => ?_, fun L L' cs1 cs2 id hL hL' h1 h2 h3 h4 => ?_, fun L hL x hx => ?_, fun e he => ?_⟩
  · obtain ⟨q1, q2⟩ := h.old id h1 h2
    exact ⟨q1, by rw [hal id (by omega)]; exact q2⟩
  · have e : d ≠ r := fun e => hr.1 (e ▸ hd)
    simp only [List.getElem?_set_ne e]; exact h.reg r hr
  · simp only at hcs ⊢
    by_cases e : d = L
    · subst e
      have hlt : d < s2.ρ.length := by
        have := (List.getElem?_eq_some_iff.1 hcs).1; simpa using this
      rw [List.getElem?_set_self hlt] at hcs
      simp only [Option.some.injEq, AV.agg.injEq] at hcs; subst hcs
      exact ⟨fresh, t, List.getElem?_set_self (by rw [h.len]; exact hlt), by simp only [MM.alloc]; exact upd_same .., hn2, by omega, by omega⟩
    · rw [List.getElem?_set_ne e] at hcs ⊢
      obtain ⟨id, t', q1, q2, q3, q4, q5⟩ := h.pro L hL cs' hcs
      exact ⟨id, t', q1, by rw [hal id (by omega)]; exact q2, q3, q4, by omega⟩
  · simp only at h1 h2 h3 h4
    by_cases e : d = L
    · by_cases e' : d = L'
      · rw [← e, ← e']
      · subst e
        rw [List.getElem?_set_ne e'] at h2 h4
        have hlt : d < s1.ρ.length := by
          have := (List.getElem?_eq_some_iff.1 h3).1; simpa using this
        rw [List.getElem?_set_self hlt] at h3
        simp only [Option.some.injEq, AV.ptr.injEq, and_true] at h3; subst h3
        obtain ⟨id, t', q1, _, _, _, q5⟩ := h.pro L' hL' cs2 h2
        rw [h4] at q1
        simp only [Option.some.injEq, AV.ptr.injEq, and_true] at q1
        omega
    · rw [List.getElem?_set_ne e] at h1 h3
      by_cases e' : d = L'
      · subst e'
        have hlt : d < s1.ρ.length := by
          have := (List.getElem?_eq_some_iff.1 h4).1; simpa using this
        rw [List.getElem?_set_self hlt] at h4
        simp only [Option.some.injEq, AV.ptr.injEq, and_true] at h4; subst h4
        obtain ⟨id, t', q1, _, _, _, q5⟩ := h.pro L hL cs1 h1
        rw [h3] at q1
        simp only [Option.some.injEq, AV.ptr.injEq, and_true] at q1
        omega
      · rw [List.getElem?_set_ne e'] at h2 h4
        exact h.inj L L' cs1 cs2 id hL hL' h1 h2 h3 h4
  · simp only at hx
    by_cases e : d = L
    · subst e
      have hlt : d < s2.ρ.length := by
        have := (List.getElem?_eq_some_iff.1 hx).1; simpa using this
      rw [List.getElem?_set_self hlt] at hx
      simp only [Option.some.injEq] at hx; subst hx
      exact .inr ⟨cs, rfl⟩
    · rw [List.getElem?_set_ne e] at hx; exact h.shp L hL x hx
  · simp only [killD, List.mem_filter, Bool.not_eq_true', Bool.or_eq_false_iff] at he
    obtain ⟨hm, ⟨hv, hL⟩, hg⟩ := he
    obtain ⟨q1, q2, q3, q4, q5⟩ := h.der e hm
    have hvd : d ≠ e.v := fun e' => q3 (e' ▸ hd)
    have hLd : d ≠ e.L := fun e' => by rw [e', Nat.beq_refl] at hL; cases hL
    refine ⟨q1, q2, q3, q4, fun hw cs' id h1 h2 => ?_⟩
    simp only at hw h1 h2 ⊢
    rw [List.getElem?_set_ne hLd] at h1 h2
    rw [List.getElem?_set_ne hvd]
    refine q5 ?_ cs' id h1 h2
    have hgg : Sx.want e.g (s2.ρ.set d (.agg cs)) = Sx.want e.g s2.ρ := by
      cases hgv : e.g with
      | none => rfl
      | some p =>
        rw [hgv] at hg
        have : d ≠ p.1 := fun e' => by simp only [gReg] at hg; rw [e', Nat.beq_refl] at hg; cases hg
        simp only [Sx.want, List.getElem?_set_ne this]
    rw [← hgg]; exact hw

theorem step_prom {o o' : Op1} {der' : List De} (ho : promOp pm draw der o = some (o', der')) (hst : step1 c2 mode draw lo lim fresh o' s2 = some s2') (hnd : draw = false → fresh = s2.M.nx) :
    ∃ s1' B', step1 c1 mode draw lo lim fresh o s1 = some s1' ∧ PRel pm lo B' M0 M10 der' s1' s2' ∧ s2.M.nx ≤ s2'.M.nx ∧ (draw = true → B' = B) := by
  have hplain : ∀ {o : Op1}, plain pm der o = some (o', der') → ∃ s1' B', step1 c1 mode draw lo lim fresh o s1 = some s1' ∧ PRel pm lo B' M0 M10 der' s1' s2' ∧ s2.M.nx ≤ s2'.M.nx ∧ (draw = true → B' = B) := by
    intro o ho
    unfold plain at ho
    split at ho
    · rename_i hpl
      simp only [Option.some.injEq, Prod.mk.injEq] at ho
      obtain ⟨rfl, rfl⟩ := ho
      obtain ⟨s1', q1, q2, q3⟩ := step_plain hc h hfr hpl hst
      exact ⟨s1', B, q1, q2, q3, fun _ => rfl⟩
    · cases ho
  have hld1 : ∀ {d : Option Nat} {g : Option (Nat × Bool)} {p m : Nat} {w : Bool}, promLd pm der ⟨d, g, .ld1 (.t p), m, w⟩ p 1 false = some (o', der') → ∃ s1' B', step1 c1 mode draw lo lim fresh ⟨d, g, .ld1 (.t p), m, w⟩ s1 = some s1' ∧ PRel pm lo B' M0 M10 der' s1' s2' ∧ s2.M.nx ≤ s2'.M.nx ∧ (draw = true → B' = B) := by
    intro d g p m w ho
    obtain ⟨s1', q1, q2, q3⟩ := step_ld hc h hlim hfr ho (fun {c ρ M x id off L g0 t cs} _ _ hp hlt hm hx => by
      rw [ld1I_eq]
      simp only [ev, hp, ld1I, look_ok hlt, hm]
      simpa using hx) hst
    exact ⟨s1', B, q1, q2, q3, fun _ => rfl⟩
  have hldn : ∀ {d : Option Nat} {g : Option (Nat × Bool)} {p n m : Nat} {w : Bool}, promLd pm der ⟨d, g, .ldn n (.t p), m, w⟩ p n true = some (o', der') → ∃ s1' B', step1 c1 mode draw lo lim fresh ⟨d, g, .ldn n (.t p), m, w⟩ s1 = some s1' ∧ PRel pm lo B' M0 M10 der' s1' s2' ∧ s2.M.nx ≤ s2'.M.nx ∧ (draw = true → B' = B) := by
    intro d g p n m w ho
    obtain ⟨s1', q1, q2, q3⟩ := step_ld hc h hlim hfr ho (fun {c ρ M x id off L g0 t cs} _ _ hp hlt hm hx => by
      rw [ldnI_eq]
      simp only [ev, hp, ldnI, look_ok hlt, hm]
      simpa using hx) hst
    exact ⟨s1', B, q1, q2, q3, fun _ => rfl⟩
  unfold promOp at ho
  split at ho
  · -- new
    rename_i d t cs mm0 ww0
    split at ho
    · rename_i hcond
      simp only [Bool.and_eq_true, Bool.not_eq_true'] at hcond
      simp only [Option.some.injEq, Prod.mk.injEq] at ho
      obtain ⟨rfl, rfl⟩ := ho
      simp only [step1, want, istep, Option.some.injEq] at hst ⊢
      subst hst
      refine ⟨_, fresh + 1, rfl, h.born (hasN_mem.1 hcond.1) t cs (hnd hcond.2), by simp only [MM.up]; omega, fun e => by rw [e] at hcond; exact absurd hcond.2 (by simp)⟩
    · exact hplain ho
  · -- box
    rename_i d t x mm0 ww0
    split at ho
    · rename_i hcond
      simp only [Bool.and_eq_true, Bool.not_eq_true'] at hcond
      simp only [Option.some.injEq, Prod.mk.injEq] at ho
      obtain ⟨rfl, rfl⟩ := ho
      have he : ev s1.ρ x = ev s2.ρ x := h.ev (plainX_iff.1 hcond.2)
      simp only [step1, want, istep, he] at hst ⊢
      generalize ev s2.ρ x = y at hst ⊢
      have main : ∀ cs, s2' = ⟨s2.ρ.set d (.agg cs), s2.M.up fresh⟩ → ∃ s1' B', (some (⟨setO s1.ρ (some d) (.ptr fresh 0), s1.M.alloc fresh (.cells t cs)⟩ : St)) = some s1' ∧ PRel pm lo B' M0 M10 (killD (some d) der) s1' s2' ∧ s2.M.nx ≤ s2'.M.nx ∧ (draw = true → B' = B) := by
        rintro cs rfl
        exact ⟨_, fresh + 1, rfl, h.born (hasN_mem.1 hcond.1.1) t cs (hnd hcond.1.2), by simp only [MM.up]; omega, fun e => by rw [e] at hcond; exact absurd hcond.1.2 (by simp)⟩
      cases y with
      | tup vs => cases hst
      | _ => simp only [Option.some.injEq] at hst; exact main _ hst.symm
    · exact hplain ho
  · -- fad
    rename_i v g off p mm0 ww0
    split at ho
    · rename_i L o0 g0 hw
      split at ho
      · rename_i hcond
        simp only [Bool.and_eq_true, Bool.not_eq_true'] at hcond
        obtain ⟨⟨⟨⟨hg0, hg⟩, hv⟩, hvp⟩, hL⟩ := hcond
        have hvp' : v ∉ pm.prom := fun hm => by rw [hasN_mem.2 hm] at hvp; cases hvp
        simp only [Option.some.injEq, Prod.mk.injEq] at ho
        obtain ⟨rfl, rfl⟩ := ho
        -- the registers of addresses are free
        have key : ∀ (a b : AV), (∀ cs id, Sx.want g s2.ρ = some true → s2.ρ[L]? = some (.agg cs) → s1.ρ[L]? = some (.ptr id 0) → a = .ptr id (o0 + off)) → PRel pm lo B M0 M10 (⟨v, L, o0 + off, g⟩ :: killD (some v) der) ⟨s1.ρ.set v a, s1.M⟩ ⟨s2.ρ.set v b, s2.M⟩ := by
          intro a b hab
          have hne : ∀ {L}, L ∈ pm.prom → v ≠ L := fun hL e => hvp' (e ▸ hL)
          have hgv : ∀ {gg : Option (Nat × Bool)}, plainG pm gg = true → Sx.want gg (s2.ρ.set v b) = Sx.want gg s2.ρ := fun {gg} hgg => by
            cases gg with
            | none => rfl
            | some q =>
              have : v ≠ q.1 := fun e => (plainR_iff.1 hgg).2 (e ▸ hasN_mem.1 hv)
              simp only [Sx.want, List.getElem?_set_ne this]
          refine ⟨h.me, h.nx0, h.bnx, h.lo0, h.old, by simp [h.len], fun v hv => by simpa using h.exl v hv, fun r hr => ?_, fun L hL cs hcs => ?_, fun L L' cs cs' id hL hL' h1 h2 h3 h4 => ?_, fun L hL x hx => ?_, fun e he => ?_⟩
          · have e : v ≠ r := fun e => hr.2 (e ▸ hasN_mem.1 hv)
            rw [List.getElem?_set_ne e, List.getElem?_set_ne e]; exact h.reg r hr
          · rw [List.getElem?_set_ne (hne hL)] at hcs ⊢; exact h.pro L hL cs hcs
          · rw [List.getElem?_set_ne (hne hL)] at h1 h3
            rw [List.getElem?_set_ne (hne hL')] at h2 h4
            exact h.inj L L' cs cs' id hL hL' h1 h2 h3 h4
          · rw [List.getElem?_set_ne (hne hL)] at hx; exact h.shp L hL x hx
          · rcases List.mem_cons.1 he with rfl | he
            · refine ⟨hasN_mem.1 hL, hasN_mem.1 hv, hvp', hg, fun hw2 cs id h1 h2 => ?_⟩
              simp only at hw2 h1 h2 ⊢
              rw [List.getElem?_set_ne (hne (hasN_mem.1 hL))] at h1 h2
              rw [hgv hg] at hw2
              have ha := hab cs id hw2 h1 h2
              rw [← ha]
              have hlt : v < s1.ρ.length := by rw [h.len]; exact h.exl v (hasN_mem.1 hv)
              exact List.getElem?_set_self hlt
            · simp only [killD, List.mem_filter, Bool.not_eq_true', Bool.or_eq_false_iff] at he
              obtain ⟨hm, ⟨hvv, hLL⟩, hgg⟩ := he
              obtain ⟨q1, q2, q3, q4, q5⟩ := h.der e hm
              have hvd : v ≠ e.v := fun e' => by rw [e', Nat.beq_refl] at hvv; cases hvv
              refine ⟨q1, q2, q3, q4, fun hw cs id h1 h2 => ?_⟩
              simp only at hw h1 h2 ⊢
              rw [List.getElem?_set_ne (hne q1)] at h1 h2
              rw [List.getElem?_set_ne hvd]
              rw [hgv q4] at hw
              exact q5 hw cs id h1 h2
        unfold step1 at hst ⊢
        simp only at hst ⊢
        rw [h.want hg]
        split at hst
        · cases hst
        · rename_i hwt
          simp only [Option.some.injEq] at hst; subst hst
          exact ⟨_, B, rfl, key _ _ (fun cs id hw2 => by rw [hwt] at hw2; cases hw2), Nat.le_refl _, fun _ => rfl⟩
        · rename_i hwt
          split at hst
          · rename_i x M2' his
            simp only [Option.some.injEq] at hst; subst hst
            simp only [istep, ev] at his ⊢
            split at his
            · rename_i cs hcs
              simp only [if_true] at his
              split at his
              · simp only [Option.some.injEq, Prod.mk.injEq] at his
                obtain ⟨rfl, rfl⟩ := his
                have hcs' : s2.ρ[L]? = some (.agg cs) := by
                  simp only [List.getD_eq_getElem?_getD] at hcs
                  cases hq : s2.ρ[L]? with
                  | none => rw [hq] at hcs; cases hcs
                  | some y => rw [hq] at hcs; simp only [Option.getD_some] at hcs; rw [hcs]
                obtain ⟨id, t, r1, r2, r3, r4, r5, r6⟩ := h.where_ hw hg0 hwt hcs'
                simp only [List.getD_eq_getElem?_getD, r2, Option.getD_some]
                exact ⟨_, B, rfl, key _ _ (fun cs2 id2 _ _ h2 => by rw [r1] at h2; simp only [Option.some.injEq, AV.ptr.injEq, and_true] at h2; rw [h2]), Nat.le_refl _, fun _ => rfl⟩
              · cases his
            · cases his
          · cases hst
      · cases ho
    · exact hplain ho
  · exact hld1 ho
  · exact hldn ho
  · -- ld1r
    rename_i d g q p mm0 ww0
    split at ho
    · rename_i L off g0 hw
      split at ho
      · rename_i hq
        have hq' : q = L := Nat.eq_of_beq_eq_true hq
        subst hq'
        obtain ⟨s1', q1, q2, q3⟩ := step_ld hc h hlim hfr ho (fun {c ρ M x id off L g0 t cs} hw2 hL hp hlt hm hx => by
          rw [hw] at hw2
          simp only [Option.some.injEq, Prod.mk.injEq] at hw2
          obtain ⟨rfl, rfl, rfl⟩ := hw2
          simp only [istep, ev, hL, hp, okRoot, idOf, beq_self_eq_true, if_true, ld1I, look_ok hlt, hm]
          simpa using hx) hst
        exact ⟨s1', B, q1, q2, q3, fun _ => rfl⟩
      · cases ho
    · exact hplain ho
  · -- ldnr
    rename_i d g n q p mm0 ww0
    split at ho
    · rename_i L off g0 hw
      split at ho
      · rename_i hq
        have hq' : q = L := Nat.eq_of_beq_eq_true hq
        subst hq'
        obtain ⟨s1', q1, q2, q3⟩ := step_ld hc h hlim hfr ho (fun {c ρ M x id off L g0 t cs} hw2 hL hp hlt hm hx => by
          rw [hw] at hw2
          simp only [Option.some.injEq, Prod.mk.injEq] at hw2
          obtain ⟨rfl, rfl, rfl⟩ := hw2
          simp only [istep, ev, hL, hp, okRoot, idOf, beq_self_eq_true, if_true, ldnI, look_ok hlt, hm]
          simpa using hx) hst
        exact ⟨s1', B, q1, q2, q3, fun _ => rfl⟩
      · cases ho
    · exact hplain ho
  · -- st
    rename_i n p x mm0 ww0
    split at ho
    · rename_i L o0 hw
      split at ho
      · rename_i hcond
        simp only [Bool.and_eq_true] at hcond
        obtain ⟨hL, hx⟩ := hcond
        have hLm := hasN_mem.1 hL
        simp only [Option.some.injEq, Prod.mk.injEq] at ho
        obtain ⟨rfl, rfl⟩ := ho
        have he : ev s1.ρ x = ev s2.ρ x := h.ev (plainX_iff.1 hx)
        simp only [step1, want, istep, he] at hst ⊢
        generalize ev s2.ρ x = y at hst ⊢
        split at hst
        · rename_i v M2' his
          split at his
          · rename_i cs hcs
            split at his
            · rename_i hfit
              simp only [Option.some.injEq, Prod.mk.injEq] at his
              obtain ⟨rfl, rfl⟩ := his
              simp only [Option.some.injEq] at hst; subst hst
              have hcs' : s2.ρ[L]? = some (.agg cs) := by
                simp only [ev, List.getD_eq_getElem?_getD] at hcs
                cases hq : s2.ρ[L]? with
                | none => rw [hq] at hcs; cases hcs
                | some y => rw [hq] at hcs; simp only [Option.getD_some] at hcs; rw [hcs]
              obtain ⟨id, t, r1, r2, r3, r4, r5, r6⟩ := h.where_ (g := none) hw rfl rfl hcs'
              have hlo := h.lo0
              simp only [ev, List.getD_eq_getElem?_getD, r2, Option.getD_some, look_lt (show id < lim.b by omega), r3]
              rw [if_pos ⟨by omega, hfit.1, hfit.2.1, hfit.2.2⟩]
              refine ⟨_, B, rfl, ?_, Nat.le_refl _, fun _ => rfl⟩
              have hput : ∀ k, k ≠ id → (s1.M.put id (.cells t (setAt cs o0 y.cells))).mem k = s1.M.mem k := fun k hk => by simp only [MM.put, upd, if_neg hk]
              have hset : ∀ {d : Nat}, L ≠ d → (setO s2.ρ (some L) (.agg (setAt cs o0 y.cells)))[d]? = s2.ρ[d]? := fun hd => List.getElem?_set_ne hd
              have hlt : L < s2.ρ.length := (List.getElem?_eq_some_iff.1 hcs').1
              have hsame : (setO s2.ρ (some L) (.agg (setAt cs o0 y.cells)))[L]? = some (.agg (setAt cs o0 y.cells)) := List.getElem?_set_self hlt
              have hold : ∀ {L2 : Nat} {cs2 : List AV}, (setO s2.ρ (some L) (.agg (setAt cs o0 y.cells)))[L2]? = some (.agg cs2) → ∃ cs3, s2.ρ[L2]? = some (.agg cs3) := fun {L2 cs2} hh => by
                by_cases e : L = L2
                · subst e; exact ⟨cs, hcs'⟩
                · rw [hset e] at hh; exact ⟨cs2, hh⟩
              refine ⟨⟨h.me.nx, h.me.wf, fun k hk => by rw [hput k (fun e => by subst e; exact hk r4)]; exact h.me.ext k hk⟩, h.nx0, h.bnx, h.lo0, fun k h1 h2 => ?_, by simp [setO, h.len], fun v hv => by simpa [setO] using h.exl v hv, fun r hr => ?_, fun L2 hL2 cs2 hcs2 => ?_, fun L1 L2 cs1 cs2 id' hL1 hL2 h1 h2 h3 h4 => ?_, fun L2 hL2 z hz => ?_, fun e he => ?_⟩
              · obtain ⟨q1, q2⟩ := h.old k h1 h2
                exact ⟨q1, by rw [hput k (by omega)]; exact q2⟩
              · have e : L ≠ r := fun e => hr.1 (e ▸ hLm)
                show s1.ρ[r]? = _
                rw [hset e]; exact h.reg r hr
              · by_cases e : L = L2
                · subst e
                  rw [hsame] at hcs2
                  simp only [Option.some.injEq, AV.agg.injEq] at hcs2; subst hcs2
                  exact ⟨id, t, r1, by simp only [MM.put]; exact upd_same .., r4, r5, r6⟩
                · rw [hset e] at hcs2
                  obtain ⟨id2, t2, q1, q2, q3, q4, q5⟩ := h.pro L2 hL2 cs2 hcs2
                  have hne : id2 ≠ id := fun e2 => by subst e2; exact e (h.inj L L2 cs cs2 id2 hLm hL2 hcs' hcs2 r1 q1)
                  exact ⟨id2, t2, q1, by rw [hput id2 hne]; exact q2, q3, q4, q5⟩
              · obtain ⟨c1', k1⟩ := hold h1
                obtain ⟨c2', k2⟩ := hold h2
                exact h.inj L1 L2 c1' c2' id' hL1 hL2 k1 k2 h3 h4
              · by_cases e : L = L2
                · subst e
                  rw [hsame] at hz
                  simp only [Option.some.injEq] at hz; subst hz
                  exact .inr ⟨_, rfl⟩
                · rw [hset e] at hz; exact h.shp L2 hL2 z hz
              · obtain ⟨q1, q2, q3, q4, q5⟩ := h.der e he
                refine ⟨q1, q2, q3, q4, fun hw2 cs2 id2 h1 h2 => ?_⟩
                obtain ⟨c1', k1⟩ := hold h1
                refine q5 ?_ c1' id2 k1 h2
                have hgg : Sx.want e.g (setO s2.ρ (some L) (.agg (setAt cs o0 y.cells))) = Sx.want e.g s2.ρ := by
                  revert q4
                  cases e.g with
                  | none => intro _; rfl
                  | some gq =>
                    intro q4
                    have : L ≠ gq.1 := fun e' => (plainR_iff.1 q4).1 (e' ▸ hLm)
                    simp only [Sx.want, hset this]
                rw [← hgg]; exact hw2
            · cases his
          · cases his
        · cases hst
      · cases ho
    · cases ho
    · exact hplain ho
  · -- callk
    rename_i d g f args roots mm0 ww0
    split at ho
    · rename_i hcond
      simp only [Bool.and_eq_true] at hcond
      obtain ⟨⟨⟨ha, hr⟩, hg⟩, hd⟩ := hcond
      simp only [Option.some.injEq, Prod.mk.injEq] at ho
      obtain ⟨rfl, rfl⟩ := ho
      unfold step1 at hst ⊢
      simp only at hst ⊢
      rw [h.want hg]
      split at hst
      · cases hst
      · simp only [Option.some.injEq] at hst; subst hst
        exact ⟨_, B, rfl, h.setO hd .undef, Nat.le_refl _, fun _ => rfl⟩
      · split at hst
        · rename_i v M2' his
          simp only [Option.some.injEq] at hst; subst hst
          simp only [istep] at his ⊢
          split at his
          · rename_i r0 Mr hdoc
            split at his
            · rename_i hk
              simp only [Option.some.injEq, Prod.mk.injEq] at his
              obtain ⟨rfl, rfl⟩ := his
              obtain ⟨M1', q1, q2⟩ := docall_sim hc hdoc (Nat.le_trans h.lo0 h.nx0) h.me
              have hargs : args.map (ev s1.ρ) = args.map (ev s2.ρ) := List.map_congr_left fun x hx => h.ev fun r hr => plainX_iff.1 ha r (List.mem_flatMap.2 ⟨x, hx, hr⟩)
              rw [hargs, q1]
              simp only
              have hroots : (roots.all fun x => kept (hideM lim s1.M.mem) (hideM lim M1'.mem) (ev s1.ρ x)) = true := by
                rw [List.all_eq_true] at hk ⊢
                intro x hx
                have hkx := hk x hx
                have main : ∀ i, eqB (hideM lim s2.M.mem i) (hideM lim Mr.mem i) = true → eqB (hideM lim s1.M.mem i) (hideM lim M1'.mem i) = true := fun i e => by
                  simp only [hideM] at e ⊢
                  split at e
                  · simp [eqB] at e
                  rename_i hh
                  rw [if_neg hh, if_neg hh]
                  cases h2 : s2.M.mem i with
                  | none => rw [h2] at e; simp [eqB] at e
                  | some b2 => cases h3 : Mr.mem i with
                    | none => rw [h2, h3] at e; cases b2 <;> simp [eqB] at e
                    | some b3 => rw [h.me.got h2, (q2 0).me.got h3]; rw [h2, h3] at e; exact e
                have same : ∀ y, kept (hideM lim s2.M.mem) (hideM lim Mr.mem) y = true → kept (hideM lim s1.M.mem) (hideM lim M1'.mem) y = true := fun y hy => by
                  cases y with
                  | ptr i o => exact main i hy
                  | os i o l s => exact main i hy
                  | _ => exact hy
                cases x with
                | k a => exact same _ hkx
                | t r =>
                  by_cases hrp : r ∈ pm.prom
                  · simp only [ev, List.getD_eq_getElem?_getD] at hkx ⊢
                    cases hq : s2.ρ[r]? with
                    | none => rw [hq] at hkx; simp [kept] at hkx
                    | some y =>
                      rw [hq] at hkx
                      simp only [Option.getD_some] at hkx
                      rcases h.shp r hrp y hq with rfl | ⟨cs, rfl⟩
                      · simp [kept] at hkx
                      · obtain ⟨id, t, p1, p2, p3, p4, p5⟩ := h.pro r hrp cs hq
                        have hb := h.bnx
                        obtain ⟨_, p7⟩ := (q2 s2.M.nx).keep id (by omega) (by omega) p3
                        rw [p1]
                        have hnh : ¬ hid lim id = true := fun e => by
                          simp only [hid, Lm.own, Bool.and_eq_true, Nat.ble_eq] at e
                          omega
                        simp only [Option.getD_some, kept, idOf, hideM, if_neg hnh, p7, p2, eqB, beq_self_eq_true, Bool.true_and]
                        exact hkx
                  · have : ev s1.ρ (.t r) = ev s2.ρ (.t r) := h.ev fun r' hr' => by
                      simp only [X.slots, List.mem_singleton] at hr'
                      subst hr'
                      refine plainX_iff.1 hr r' (List.mem_filter.2 ⟨List.mem_flatMap.2 ⟨_, hx, by simp [X.slots]⟩, ?_⟩)
                      rw [Bool.not_eq_true', ← Bool.not_eq_true]; exact fun hh => hrp (hasN_mem.1 hh)
                    rw [this]; exact same _ hkx
              rw [if_pos hroots]
              exact ⟨_, B, rfl, (h.mem (q2 fresh) hfr).setO hd _, (q2 0).nx, fun _ => rfl⟩
            · cases his
          · cases his
        · cases hst
    · cases ho
  · exact hplain ho
end

section
variable {c1 c2 : CallT} (hc : CS c1 c2) {mode : FuncId → Mode} {pm : Pm} {lo : Nat} {M0 M10 : MM}
include hc

def runE (mode : FuncId → Mode) : List Op1 → St → Option St
  | [], s => some s
  | e :: r, s => match step1 (fun _ _ _ _ => none) mode false 0 (.top 0) 0 e s with
    | some s' => runE mode r s'
    | none => none
def exI : I → Bool
  | .ext _ _ | .tk _ _ | .mov _ => true
  | _ => false
def exO (e : Op1) : Bool := e.g.isNone && exI e.i

omit hc in
theorem step1_ex {e : Op1} (he : exO e = true) (call call' : CallT) (draw draw' : Bool) (lo lo' : Nat) (lim lim' : Lm) (fresh fresh' : Nat) (s : St) : step1 call mode draw lo lim fresh e s = step1 call' mode draw' lo' lim' fresh' e s := by
  obtain ⟨d, g, i, m, w⟩ := e
  simp only [exO, Bool.and_eq_true] at he
  obtain ⟨h1, h2⟩ := he
  unfold step1
  cases g with
  | some g => cases h1
  | none => cases i with
    | ext x j => rfl
    | tk x j => rfl
    | mov x => rfl
    | _ => cases h2

omit hc in
theorem regN_ex {call : CallT} : ∀ (es : List Op1), es.all exO = true → ∀ (r : List Op1) (s : St), regN call mode lo (es ++ r) s = (runE mode es s).bind (regN call mode lo r)
  | [], _, r, s => rfl
  | e :: es, he, r, s => by
    simp only [List.all_cons, Bool.and_eq_true] at he
    simp only [List.cons_append, regN, runE]
    rw [step1_ex he.1 call (fun _ _ _ _ => none) false false lo 0 (.top s.M.nx) (.top 0) s.M.nx 0 s]
    cases step1 (fun _ _ _ _ => none) mode false 0 (.top 0) 0 e s with
    | none => rfl
    | some s' => exact regN_ex es he.2 r s'

omit hc in
theorem regX_ex {call : CallT} {base n : Nat} : ∀ (es : List Op1), es.all exO = true → ∀ (r : List (Option Nat × Op1)) (s : St), regX call mode lo base n ((es.map fun e => (none, e)) ++ r) s = (runE mode es s).bind (regX call mode lo base n r)
  | [], _, r, s => rfl
  | e :: es, he, r, s => by
    simp only [List.all_cons, Bool.and_eq_true] at he
    simp only [List.map_cons, List.cons_append, regX, runE]
    rw [step1_ex he.1 call (fun _ _ _ _ => none) true false lo 0 ⟨base, n, e.m, e.w⟩ (.top 0) (idX base none s.M) 0 s]
    cases step1 (fun _ _ _ _ => none) mode false 0 (.top 0) 0 e s with
    | none => rfl
    | some s' => exact regX_ex es he.2 r s'

omit hc in
theorem promX_ex {draw : Bool} {der der' : List De} {o o' : Op1} {es : List Op1} (h : promX pm draw der o = some (o', es, der')) : es.all exO = true := by
  unfold promX at h
  obtain ⟨q, hq, hh⟩ := Option.map_eq_some_iff.1 h
  simp only [Prod.mk.injEq] at hh
  obtain ⟨_, rfl, _⟩ := hh
  rfl

theorem step_promX {draw : Bool} {B : Nat} {lim : Lm} {fresh : Nat} {der der' : List De} {s1 s2 t2 s2' : St} {o o' : Op1} {es : List Op1} (h : PRel pm lo B M0 M10 der s1 s2) (hlim : B ≤ lim.b) (hfr : B ≤ fresh ∧ M0.nx ≤ fresh)
    (ho : promX pm draw der o = some (o', es, der')) (hst : step1 c2 mode draw lo lim fresh o' s2 = some t2) (hes : runE mode es t2 = some s2') (hnd : draw = false → fresh = s2.M.nx) :
    ∃ s1' B', step1 c1 mode draw lo lim fresh o s1 = some s1' ∧ PRel pm lo B' M0 M10 der' s1' s2' ∧ s2.M.nx ≤ s2'.M.nx ∧ (draw = true → B' = B) := by
  unfold promX at ho
  obtain ⟨q, hq, hh⟩ := Option.map_eq_some_iff.1 ho
  simp only [Prod.mk.injEq] at hh
  obtain ⟨rfl, rfl, rfl⟩ := hh
  simp only [runE, Option.some.injEq] at hes; subst hes
  exact step_prom hc h hlim hfr hq hst hnd

theorem regN_prom : ∀ (ops : List Op1) (l : List (Option Nat × Op1)) (i : Nat) (der : List De) (B : Nat) (s1 s2 s2' : St), promOps pm false i der ops = some l → PRel pm lo B M0 M10 der s1 s2 → regN c2 mode lo (l.map Prod.snd) s2 = some s2' →
    ∃ s1' B', regN c1 mode lo ops s1 = some s1' ∧ PRel pm lo B' M0 M10 [] s1' s2' ∧ s2.M.nx ≤ s2'.M.nx
  | [], l, i, der, B, s1, s2, s2', ho, h, hr => by
    simp only [promOps, Option.some.injEq] at ho; subst ho
    simp only [List.map_nil, regN, Option.some.injEq] at hr; subst hr
    exact ⟨s1, B, rfl, h.less (fun e he => by simp at he), Nat.le_refl _⟩
  | o :: ops, l, i, der, B, s1, s2, s2', ho, h, hr => by
    simp only [promOps] at ho
    split at ho
    · rename_i o' es der' hp
      obtain ⟨l', hl, rfl⟩ := Option.map_eq_some_iff.1 ho
      have em : (es.map fun e => ((none : Option Nat), e)).map Prod.snd = es := by rw [List.map_map]; exact (List.map_congr_left (fun _ _ => rfl)).trans (List.map_id _)
      rw [List.map_append, List.map_cons, em, List.cons_append] at hr
      simp only [regN] at hr ⊢
      split at hr
      · rename_i t2 hst
        rw [regN_ex es (promX_ex hp)] at hr
        obtain ⟨u2, hu, hr⟩ := Option.bind_eq_some_iff.1 hr
        have hb := h.bnx
        have h0 := h.nx0
        obtain ⟨t1, B', q1', q2, q3, _⟩ := step_promX (lim := .top s2.M.nx) hc h (show B ≤ s2.M.nx by omega) ⟨by omega, by omega⟩ hp hst hu (fun _ => rfl)
        have q1 : step1 c1 mode false lo (.top s2.M.nx) s2.M.nx o s1 = some t1 := q1'
        rw [h.me.nx, q1]
        obtain ⟨s1', B2, r1, r2, r3⟩ := regN_prom ops l' (i + 1) der' B' t1 u2 s2' hl q2 hr
        exact ⟨s1', B2, r1, r2, by omega⟩
      · cases hr
    · cases ho

theorem regD_prom (base n : Nat) (hM : M0.nx ≤ base) : ∀ (ops : List Op1) (l : List (Option Nat × Op1)) (der : List De) (B i : Nat) (s1 s2 s2' : St), promOps pm true i der ops = some l → PRel pm lo B M0 M10 der s1 s2 → B ≤ base → regX c2 mode lo base n l s2 = some s2' →
    ∃ s1', regD c1 mode lo base n ops i s1 = some s1' ∧ PRel pm lo B M0 M10 [] s1' s2' ∧ s2.M.nx ≤ s2'.M.nx
  | [], l, der, B, i, s1, s2, s2', ho, h, hB, hr => by
    simp only [promOps, Option.some.injEq] at ho; subst ho
    simp only [regX, Option.some.injEq] at hr; subst hr
    exact ⟨s1, rfl, h.less (fun e he => by simp at he), Nat.le_refl _⟩
  | o :: ops, l, der, B, i, s1, s2, s2', ho, h, hB, hr => by
    simp only [promOps] at ho
    split at ho
    · rename_i o' es der' hp
      obtain ⟨l', hl, rfl⟩ := Option.map_eq_some_iff.1 ho
      simp only [List.cons_append, regX, idX, regD] at hr ⊢
      split at hr
      · rename_i t2 hst
        rw [regX_ex es (promX_ex hp)] at hr
        obtain ⟨u2, hu, hr⟩ := Option.bind_eq_some_iff.1 hr
        obtain ⟨t1, B', q1', q2, q3, q4⟩ := step_promX (lim := ⟨base, n, o.m, o.w⟩) hc h hB ⟨by omega, by omega⟩ hp hst hu (fun e => by cases e)
        have q1 : step1 c1 mode true lo ⟨base, n, o.m, o.w⟩ (base + i) o s1 = some t1 := q1'
        rw [q1]
        rw [q4 rfl] at q2
        obtain ⟨s1', r1, r2, r3⟩ := regD_prom base n hM ops l' der' B (i + 1) t1 u2 s2' hl q2 hB hr
        exact ⟨s1', r1, r2, by omega⟩
      · cases hr
    · cases ho

omit hc in
/-- More ids are used up. -/
theorem PRel.bump {B : Nat} {der : List De} {s1 s2 : St} (h : PRel pm lo B M0 M10 der s1 s2) (k : Nat) : PRel pm lo B M0 M10 der ⟨s1.ρ, ⟨s1.M.nx + k, s1.M.mem⟩⟩ ⟨s2.ρ, ⟨s2.M.nx + k, s2.M.mem⟩⟩ :=
  ⟨⟨by simp only [h.me.nx], fun id hid => by have := h.me.wf id hid; exact Nat.lt_of_lt_of_le this (Nat.le_add_right _ _), h.me.ext⟩, Nat.le_trans h.nx0 (Nat.le_add_right _ _), Nat.le_trans h.bnx (Nat.le_add_right _ _), h.lo0, h.old, h.len, h.exl, h.reg, h.pro, h.inj, h.shp, h.der⟩

theorem exec_prom {nl : Nat} : ∀ (k k' : K), promK pm k = some k' → ∀ (B : Nat) (s1 s2 s2' : St) (ex : Ex), PRel pm lo B M0 M10 [] s1 s2 → exec c2 mode lo nl k' s2 = some (ex, s2') →
    ∃ s1' B', exec c1 mode lo nl k s1 = some (ex, s1') ∧ PRel pm lo B' M0 M10 [] s1' s2' ∧ s2.M.nx ≤ s2'.M.nx := by
  intro k
  induction k with
  | skip =>
    intro k' hk B s1 s2 s2' ex h he
    simp only [promK, Option.some.injEq] at hk; subst hk
    simp only [exec, Option.some.injEq, Prod.mk.injEq] at he
    obtain ⟨rfl, rfl⟩ := he
    exact ⟨s1, B, rfl, h, Nat.le_refl _⟩
  | ret =>
    intro k' hk B s1 s2 s2' ex h he
    simp only [promK, Option.some.injEq] at hk; subst hk
    simp only [exec, Option.some.injEq, Prod.mk.injEq] at he
    obtain ⟨rfl, rfl⟩ := he
    exact ⟨s1, B, rfl, h, Nat.le_refl _⟩
  | exit id =>
    intro k' hk B s1 s2 s2' ex h he
    simp only [promK, Option.some.injEq] at hk; subst hk
    simp only [exec, Option.some.injEq, Prod.mk.injEq] at he
    obtain ⟨rfl, rfl⟩ := he
    exact ⟨s1, B, rfl, h, Nat.le_refl _⟩
  | reg ops =>
    intro k' hk B s1 s2 s2' ex h he
    simp only [promK] at hk
    obtain ⟨ops', ho, rfl⟩ := Option.map_eq_some_iff.1 hk
    simp only [exec] at he ⊢
    obtain ⟨t2, hr, hh⟩ := Option.map_eq_some_iff.1 he
    simp only [Prod.mk.injEq] at hh
    obtain ⟨rfl, rfl⟩ := hh
    obtain ⟨s1', B', q1, q2, q3⟩ := regN_prom hc ops ops' 0 [] B s1 s2 t2 ho h hr
    exact ⟨s1', B', by rw [q1]; rfl, q2, q3⟩
  | drg ops =>
    intro k' hk B s1 s2 s2' ex h he
    simp only [promK] at hk
    obtain ⟨ops', ho, rfl⟩ := Option.map_eq_some_iff.1 hk
    simp only [exec] at he ⊢
    obtain ⟨t2, hr, hh⟩ := Option.map_eq_some_iff.1 he
    simp only [Prod.mk.injEq] at hh
    obtain ⟨rfl, rfl⟩ := hh
    obtain ⟨s1', q1, q2, q3⟩ := regD_prom hc s2.M.nx ops.length h.nx0 ops ops' [] B 0 _ _ t2 ho (h.bump ops.length) h.bnx hr
    rw [h.me.nx] at q1 ⊢
    exact ⟨s1', B, by rw [q1]; rfl, q2, Nat.le_trans (Nat.le_add_right _ _) q3⟩
  | drx n ops => intro k' hk; simp [promK] at hk
  | seq a b iha ihb =>
    intro k' hk B s1 s2 s2' ex h he
    simp only [promK] at hk
    split at hk
    · rename_i a' b' ha hb
      simp only [Option.some.injEq] at hk; subst hk
      simp only [exec] at he ⊢
      split at he
      · rename_i t2 h1
        obtain ⟨t1, B1, q1, q2, q3⟩ := iha a' ha B s1 s2 t2 .normal h h1
        rw [q1]
        obtain ⟨s1', B', r1, r2, r3⟩ := ihb b' hb B1 t1 t2 s2' ex q2 he
        exact ⟨s1', B', r1, r2, by omega⟩
      · rename_i hne
        obtain ⟨t1, B1, q1, q2, q3⟩ := iha a' ha B s1 s2 s2' ex h he
        cases ex with
        | normal => exact absurd he (hne s2')
        | exit i => rw [q1]; exact ⟨t1, B1, rfl, q2, q3⟩
        | ret => rw [q1]; exact ⟨t1, B1, rfl, q2, q3⟩
    · cases hk
  | cond x a b iha ihb =>
    intro k' hk B s1 s2 s2' ex h he
    simp only [promK] at hk
    split at hk
    · rename_i a' b' hx ha hb
      simp only [Option.some.injEq] at hk; subst hk
      have hev : ev s1.ρ x = ev s2.ρ x := h.ev (plainX_iff.1 hx)
      simp only [exec, hev] at he ⊢
      split at he
      · rename_i ht
        obtain ⟨s1', B', q1, q2, q3⟩ := iha a' ha B s1 s2 s2' ex h he
        exact ⟨s1', B', q1, q2, q3⟩
      · rename_i ht
        obtain ⟨s1', B', q1, q2, q3⟩ := ihb b' hb B s1 s2 s2' ex h he
        exact ⟨s1', B', q1, q2, q3⟩
      · cases he
    · cases hk
  | block id a iha =>
    intro k' hk B s1 s2 s2' ex h he
    simp only [promK] at hk
    obtain ⟨a', ha, rfl⟩ := Option.map_eq_some_iff.1 hk
    simp only [exec] at he ⊢
    split at he
    · rename_i i t2 h1
      obtain ⟨t1, B1, q1, q2, q3⟩ := iha a' ha B s1 s2 t2 (.exit i) h h1
      rw [q1]
      split at he
      · rename_i hi
        simp only [Option.some.injEq, Prod.mk.injEq] at he
        obtain ⟨rfl, rfl⟩ := he
        exact ⟨t1, B1, by simp only [if_pos hi], q2, q3⟩
      · rename_i hi
        simp only [Option.some.injEq, Prod.mk.injEq] at he
        obtain ⟨rfl, rfl⟩ := he
        exact ⟨t1, B1, by simp only [if_neg hi], q2, q3⟩
    · rename_i hne
      obtain ⟨t1, B1, q1, q2, q3⟩ := iha a' ha B s1 s2 s2' ex h he
      cases ex with
      | exit i => exact absurd he (hne i s2')
      | normal => rw [q1]; exact ⟨t1, B1, rfl, q2, q3⟩
      | ret => rw [q1]; exact ⟨t1, B1, rfl, q2, q3⟩
  | loop a iha =>
    intro k' hk B s1 s2 s2' ex h he
    simp only [promK] at hk
    obtain ⟨a', ha, rfl⟩ := Option.map_eq_some_iff.1 hk
    simp only [exec] at he ⊢
    have main : ∀ (n : Nat) (B : Nat) (s1 s2 : St), PRel pm lo B M0 M10 [] s1 s2 → iter (exec c2 mode lo nl a') n s2 = some (ex, s2') → ∃ s1' B', iter (exec c1 mode lo nl a) n s1 = some (ex, s1') ∧ PRel pm lo B' M0 M10 [] s1' s2' ∧ s2.M.nx ≤ s2'.M.nx := by
      intro n
      induction n with
      | zero => intro B s1 s2 h he; simp [iter] at he
      | succ n ih =>
        intro B s1 s2 h he
        simp only [iter] at he ⊢
        split at he
        · rename_i t2 h1
          obtain ⟨t1, B1, q1, q2, q3⟩ := iha a' ha B s1 s2 t2 .normal h h1
          rw [q1]
          obtain ⟨s1', B', r1, r2, r3⟩ := ih B1 t1 t2 q2 he
          exact ⟨s1', B', r1, r2, by omega⟩
        · rename_i hne
          obtain ⟨t1, B1, q1, q2, q3⟩ := iha a' ha B s1 s2 s2' ex h he
          cases ex with
          | normal => exact absurd he (hne s2')
          | exit i => rw [q1]; exact ⟨t1, B1, rfl, q2, q3⟩
          | ret => rw [q1]; exact ⟨t1, B1, rfl, q2, q3⟩
    exact main nl B s1 s2 h he
end

theorem resOf_prom {pm : Pm} {lo B : Nat} {M0 M10 : MM} {der : List De} {s1 s2 : St} (h : PRel pm lo B M0 M10 der s1 s2) {r r' : RV} (hr : promR pm r = some r') {x : AV} (hx : resOf s2 r' = some x) : resOf s1 r = some x := by
  cases r with
  | tmp t =>
    simp only [promR] at hr
    split at hr
    · rename_i ht
      simp only [Option.some.injEq] at hr; subst hr
      simp only [resOf] at hx ⊢
      rw [h.getD (plainR_iff.1 ht)]; exact hx
    · cases hr
  | cell a n agg =>
    simp only [promR] at hr
    split at hr
    · rename_i ha
      simp only [Option.some.injEq] at hr; subst hr
      simp only [resOf] at hx ⊢
      split at hx
      · rename_i cs hcs
        have hcs' : s2.ρ[a]? = some (.agg cs) := by
          simp only [List.getD_eq_getElem?_getD] at hcs
          cases hq : s2.ρ[a]? with
          | none => rw [hq] at hcs; cases hcs
          | some y => rw [hq] at hcs; simp only [Option.getD_some] at hcs; rw [hcs]
        obtain ⟨id, t, p1, p2, p3, p4, p5⟩ := h.pro a (hasN_mem.1 ha) cs hcs'
        simp only [List.getD_eq_getElem?_getD, p1, Option.getD_some, p2, Nat.zero_add, List.drop_zero]
        exact hx
      · cases hx
    · split at hr
      · rename_i ha
        simp only [Option.some.injEq] at hr; subst hr
        simp only [resOf] at hx ⊢
        rw [h.getD (plainR_iff.1 ha)]
        split at hx
        · rename_i id off heq
          split at hx
          · rename_i t cs hm
            rw [h.me.got hm]; exact hx
          · cases hx
        · cases hx
      · cases hr
  | loc a n agg => simp [promR] at hr

theorem resAll_prom {pm : Pm} {lo B : Nat} {M0 M10 : MM} {der : List De} {s1 s2 : St} (h : PRel pm lo B M0 M10 der s1 s2) {rs rs' : List RV} (hr : rs.mapM (promR pm) = some rs') {x : AV} (hx : resAll s2 rs' = some x) : resAll s1 rs = some x := by
  have main : ∀ (rs rs' : List RV) (xs : List AV), rs.mapM (promR pm) = some rs' → rs'.mapM (resOf s2) = some xs → rs.mapM (resOf s1) = some xs := by
    intro rs
    induction rs with
    | nil => intro rs' xs h1 h2; simp at h1; subst h1; exact h2
    | cons r rs ih =>
      intro rs' xs h1 h2
      simp only [List.mapM_cons, Option.bind_eq_bind, Option.bind_eq_some_iff, Option.pure_def, Option.some.injEq] at h1
      obtain ⟨r', hr', rs'', hrs, rfl⟩ := h1
      simp only [List.mapM_cons, Option.bind_eq_bind, Option.bind_eq_some_iff, Option.pure_def, Option.some.injEq] at h2 ⊢
      obtain ⟨y, hy, ys, hys, rfl⟩ := h2
      exact ⟨y, resOf_prom h hr' hy, ys, ih rs'' ys hrs hys, rfl⟩
  unfold resAll at hx ⊢
  cases hm : rs'.mapM (resOf s2) with
  | none => rw [hm] at hx; cases hx
  | some xs => rw [hm] at hx; rw [main rs rs' xs hr hm]; exact hx

theorem clear_run {call : CallT} {mode : FuncId → Mode} {lo : Nat} : ∀ (l : List Nat) (s s' : St), regN call mode lo (clearOps l) s = some s' → s'.M = s.M ∧ s'.ρ.length = s.ρ.length ∧ (∀ r, r ∉ l → s'.ρ[r]? = s.ρ[r]?) ∧ ∀ r, r ∈ l ∨ s.ρ[r]? = some .undef → ∀ x, s'.ρ[r]? = some x → x = .undef
  | [], s, s', h => by
    simp only [clearOps, List.map_nil, regN, Option.some.injEq] at h; subst h
    exact ⟨rfl, rfl, fun _ _ => rfl, fun r hr x hx => by
      rcases hr with hr | hr
      · simp at hr
      · rw [hr] at hx; simp only [Option.some.injEq] at hx; exact hx.symm⟩
  | L :: l, s, s', h => by
    simp only [clearOps, List.map_cons, regN, step1, want, istep, ev] at h
    obtain ⟨q1, q2, q3, q4⟩ := clear_run l _ s' h
    refine ⟨q1, by rw [q2]; simp [setO], fun r hr => ?_, fun r hr x hx => ?_⟩
    · simp only [List.mem_cons, not_or] at hr
      rw [q3 r hr.2]
      show (s.ρ.set L .undef)[r]? = _
      rw [List.getElem?_set_ne (fun e => hr.1 e.symm)]
    · by_cases hrl : r ∈ l
      · exact q4 r (.inl hrl) x hx
      · by_cases e : L = r
        · subst e
          by_cases hlt : L < s.ρ.length
          · exact q4 L (.inr (List.getElem?_set_self hlt)) x hx
          · have := (List.getElem?_eq_some_iff.1 hx).1
            rw [q2] at this
            simp only [setO, List.length_set] at this
            omega
        · refine q4 r (.inr ?_) x hx
          show (s.ρ.set L .undef)[r]? = _
          rw [List.getElem?_set_ne e]
          rcases hr with hr | hr
          · simp only [List.mem_cons] at hr
            rcases hr with hr | hr
            · exact absurd hr.symm e
            · exact absurd hr hrl
          · exact hr

def PrimExt (p : List AV → Nat → MM → Option (AV × MM)) : Prop := ∀ args lo M2 r M2' M1, p args lo M2 = some (r, M2') → ME M2 M1 → ∃ M1', p args lo M1 = some (r, M1') ∧ ∀ fresh, MS fresh M2 M1 M2' M1'

/-- The turned program. -/
structure PromOK (G G2 : Prog) : Prop where
  mode : G2.mode = G.mode
  nl : G2.nl = G.nl
  code : ∀ f cg, G2.fns f = some (.code cg) → ∃ cf pm, G.fns f = some (.code cf) ∧ promCF pm cf = some cg ∧ pm.ex.all (fun v => Nat.blt v cf.nt) = true
  prim : ∀ f p, G2.fns f = some (.prim p) → G.fns f = some (.prim p) ∧ PrimExt p

theorem acall_prom {G G2 : Prog} (hG : PromOK G G2) : ∀ N, CS (acall G N) (acall G2 N)
  | 0, f, args, lo, M2, r, M2', M1, h, _, _ => by simp [acall] at h
  | N + 1, f, args, lo, M2, r, M2', M1, h, hlo, hM => by
    simp only [acall] at h ⊢
    split at h
    · rename_i cg hf
      obtain ⟨cf, pm, hf1, hp, hex⟩ := hG.code f cg hf
      rw [hf1]
      simp only
      unfold promCF at hp
      split at hp
      · rename_i k rs hk hrs
        simp only [Option.some.injEq] at hp; subst hp
        simp only [exec, hG.mode, hG.nl] at h
        cases hcl : regN (acall G2 N) G.mode lo (clearOps pm.prom) ⟨args ++ List.replicate (cf.nt - args.length) .undef, M2⟩ with
        | none => rw [hcl] at h; simp at h
        | some s0 =>
          rw [hcl] at h
          simp only [Option.map_some] at h
          obtain ⟨p1, p2, p3, p4⟩ := clear_run _ _ _ hcl
          have hP : PRel pm lo M2.nx M2 M1 [] ⟨args ++ List.replicate (cf.nt - args.length) .undef, M1⟩ s0 := by
            refine ⟨by rw [p1]; exact hM, by rw [p1]; exact Nat.le_refl _, by rw [p1]; exact Nat.le_refl _, hlo, fun id h1 h2 => ⟨by rw [p1]; exact h2, rfl⟩, p2.symm, fun v hv => ?_, fun r hr => (p3 r hr.1).symm, fun L hL cs hcs => ?_, fun L L' cs cs' id hL hL' h1 => ?_, fun L hL x hx => .inl (p4 L (.inl hL) x hx), fun e he => by simp at he⟩
            · rw [p2]
              have := List.all_eq_true.1 hex v hv
              have : v < cf.nt := Nat.le_of_ble_eq_true this
              simp; omega
            · have := p4 L (.inl hL) _ hcs; cases this
            · have := p4 L (.inl hL) _ h1; cases this
          have fin : ∀ (ex : Ex) (s2 : St), exec (acall G2 N) G.mode lo G.nl k s0 = some (ex, s2) → (resAll s2 rs).map (·, s2.M) = some (r, M2') →
              ∃ s1, exec (acall G N) G.mode lo G.nl cf.body ⟨args ++ List.replicate (cf.nt - args.length) .undef, M1⟩ = some (ex, s1) ∧ (resAll s1 cf.res).map (·, s1.M) = some (r, s1.M) ∧ ∀ fresh, MS fresh M2 M1 M2' s1.M := by
            intro ex s2 he hres
            obtain ⟨s1, B', q1, q2, q3⟩ := exec_prom (acall_prom hG N) cf.body k hk _ _ s0 s2 ex hP he
            obtain ⟨x, hx, hh⟩ := Option.map_eq_some_iff.1 hres
            simp only [Prod.mk.injEq] at hh
            obtain ⟨rfl, rfl⟩ := hh
            refine ⟨s1, q1, by rw [resAll_prom q2 hrs hx]; rfl, fun fresh => ⟨q2.me, by rw [p1] at q3; exact q3, fun id h1 _ h2 => q2.old id h1 h2⟩⟩
          split at h
          · rename_i s2 he
            obtain ⟨s1, q1, q2, q3⟩ := fin .normal s2 he h
            rw [q1]; exact ⟨s1.M, q2, q3⟩
          · rename_i s2 he
            obtain ⟨s1, q1, q2, q3⟩ := fin .ret s2 he h
            rw [q1]; exact ⟨s1.M, q2, q3⟩
          · cases h
      · cases hp
    · rename_i p hf
      obtain ⟨q1, q2⟩ := hG.prim f p hf
      rw [q1]
      exact q2 _ _ _ _ _ _ h hM
    · cases h

def cf0 : CF := ⟨0, .skip, []⟩
theorem promComp_ok {P : Program} {mode : FuncId → Mode} {os : List TypeId} {hs : List Hint} {pm : Pm} {fn : Func} {cg : CF} (h : promComp P mode os hs pm fn = some cg) :
    comp P mode os hs fn = some ((comp P mode os hs fn).getD cf0) ∧ promCF pm ((comp P mode os hs fn).getD cf0) = some cg ∧ pm.ex.all (fun v => Nat.blt v ((comp P mode os hs fn).getD cf0).nt) = true := by
  unfold promComp at h
  cases hc : comp P mode os hs fn with
  | none => rw [hc] at h; cases h
  | some cf =>
    rw [hc] at h
    simp only at h
    split at h
    · rename_i hx; exact ⟨rfl, h, hx⟩
    · cases h

theorem law_prom {G G2 : Prog} (hG : PromOK G G2) {N : Nat} {f : FuncId} {args : List AV} {r : AV} {M' : MM} (h : acall G2 N f args 0 ⟨0, fun _ => none⟩ = some (r, M')) : ∃ M'', acall G N f args 0 ⟨0, fun _ => none⟩ = some (r, M'') := by
  obtain ⟨M'', h1, _⟩ := acall_prom hG N _ _ _ _ _ _ _ h (Nat.le_refl _) ME.empty
  exact ⟨M'', h1⟩
end Go.Proofs.Ytegkhdflmboljaa.Sx
