/-
  SX, PART D: SLICES AS VALUES: where the tokens are ('Sg'), what each operation leaves of that ('chkOp', 'chkK'); that the machine with tokens follows.
-/
import Derived.Test.YtegkhdflmboljaaSxBPl
namespace Go.Proofs.Ytegkhdflmboljaa.Sx
open Go
set_option linter.unusedSimpArgs false
set_option linter.unusedVariables false

inductive Pt where
  | w | c (j : Nat) | t (j : Nat)

def Pt.beq : Pt → Pt → Bool
  | .w, .w => true
  | .c i, .c j => Nat.beq i j
  | .t i, .t j => Nat.beq i j
  | _, _ => false

theorem Pt.eq_of_beq {p q : Pt} (h : p.beq q = true) : p = q := by
  cases p <;> cases q <;> simp_all [Pt.beq]

/-- A place (a register, or a cell of it) that holds nil or a slice with its token; places with the same k hold the same. -/
structure Tk where
  r : Nat
  p : Pt
  k : Nat
  ty : Option (TypeId × Nat)

def getR (x : AV) : Pt → Option AV
  | .w => some x
  | .c j => match x with | .agg cs => cs[j]? | _ => none
  | .t j => match x with | .tup cs => cs[j]? | _ => none

def getP (ρ : List AV) (r : Nat) (p : Pt) : Option AV := (ρ[r]?).bind (getR · p)

structure Sg where
  es : List Tk
  ag : List Nat

/-- What functions want with a token, and give with one; the functions that want tokens. -/
structure Sig where
  ps : FuncId → List (Nat × (TypeId × Nat))
  rs : FuncId → List (Pt × (TypeId × Nat))
  no : List FuncId

def nilAt : AV → Bool
  | .d (.v (.slice none 0 0)) => true
  | _ => false
theorem nilAt_eq {a : AV} (h : nilAt a = true) : a = .nilsl := by
  unfold nilAt at h; split at h
  · rfl
  · cases h

def top (σ : List Tk) : Nat := σ.foldr (fun e n => max (e.k + 1) n) 0
theorem top_gt : ∀ {σ : List Tk} {e : Tk}, e ∈ σ → e.k < top σ
  | e0 :: σ, e, h => by
    simp only [top, List.foldr_cons]
    rcases List.mem_cons.1 h with rfl | h
    · omega
    · have := top_gt h; simp only [top] at this; omega

def findT (r : Nat) : List Tk → Option Tk
  | [] => none
  | e :: σ => if Nat.beq e.r r && e.p.beq .w then some e else findT r σ
theorem findT_ok {r : Nat} : ∀ {σ : List Tk} {e : Tk}, findT r σ = some e → e ∈ σ ∧ e.r = r ∧ e.p = .w
  | e0 :: σ, e, h => by
    simp only [findT] at h
    split at h
    · rename_i hc
      simp only [Bool.and_eq_true, Nat.beq_eq] at hc
      injection h with h; subst h
      exact ⟨by simp, hc.1, Pt.eq_of_beq hc.2⟩
    · obtain ⟨h1, h2⟩ := findT_ok h
      exact ⟨List.mem_cons_of_mem _ h1, h2⟩

def tyOK (e : Option (TypeId × Nat)) (t : TypeId × Nat) : Bool :=
  match e with
  | none => true
  | some a => a.1 == t.1 && a.2 == t.2

def useX (t : TypeId × Nat) (σ : List Tk) : X → Option (List Tk)
  | .k a => if nilAt a then some σ else none
  | .t r => match findT r σ with
    | some e => if tyOK e.ty t then some (σ.filter fun f => !(Nat.beq f.k e.k)) else none
    | none => none

def useArgs (args : List X) : List (Nat × (TypeId × Nat)) → List Tk → Option (List Tk)
  | [], σ => some σ
  | q :: r, σ => match args[q.1]? with
    | some x => match useX q.2 σ x with
      | some σ' => useArgs args r σ'
      | none => none
    | none => none

def useI (S : Sig) (σ : List Tk) : I → Option (List Tk)
  | .vapp t sz _ _ s _ => useX (t, sz) σ s
  | .vext t sz _ _ s _ => useX (t, sz) σ s
  | .call f args => useArgs args (S.ps f) σ
  | .callk f args _ => useArgs args (S.ps f) σ
  | _ => some σ

def newT (S : Sig) : I → List (Pt × (TypeId × Nat))
  | .vsl t _ sz _ _ => [(.w, (t, sz))]
  | .vmk t sz _ _ _ _ => [(.w, (t, sz))]
  | .vapp t sz _ _ _ _ => [(.w, (t, sz))]
  | .vext t sz _ _ _ _ => [(.w, (t, sz))]
  | .call f _ => S.rs f
  | .callk f _ _ => S.rs f
  | _ => []

def newG : I → List (Pt × (TypeId × Nat))
  | .vapp t sz _ _ _ _ => [(.w, (t, sz))]
  | .vext t sz _ _ _ _ => [(.w, (t, sz))]
  | _ => []

def copyX (σ : List Tk) (d r : Nat) (f : Pt → Option Pt) : List Tk := σ.filterMap fun e => if Nat.beq e.r r then (f e.p).map fun p => ⟨d, p, e.k, e.ty⟩ else none

def nilC (d k : Nat) : Nat → List AV → List Tk
  | _, [] => []
  | off, a :: r => if nilAt a then ⟨d, .c off, k + off, none⟩ :: nilC d k (off + 1) r else nilC d k (off + 1) r

def cellsE (σ : List Tk) (d k off : Nat) : X → List Tk
  | .t r => copyX σ d r fun p => match p with | .w => some (.c off) | .c j => some (.c (off + j)) | .t _ => none
  | .k a => nilC d k off a.cells

def fillE (σ : List Tk) (d k : Nat) : List (Nat × Nat × X) → List Tk → List Tk
  | [], acc => acc
  | q :: r, acc => fillE σ d k r (acc.filter (fun e => match e.p with | .c j => Nat.blt j q.1 || Nat.ble (q.1 + q.2.1) j | _ => false) ++ cellsE σ d k q.1 q.2.2)

def genE (k : Nat) (σ : List Tk) (d : Nat) : I → List Tk
  | .mov (.t r) => copyX σ d r some
  | .mov (.k a) => if nilAt a then [⟨d, .w, k, none⟩] else (match a with | .agg cs => nilC d k 0 cs | _ => [])
  | .fld off n agg (.t r) => copyX σ d r fun p => match p with
    | .c j => if agg then (if Nat.ble off j && Nat.blt j (off + n) then some (.c (j - off)) else none) else (if Nat.beq j off then some .w else none)
    | _ => none
  | .ext (.t r) i => copyX σ d r fun p => match p with | .t j => if Nat.beq j i then some .w else none | _ => none
  | .lnew cs => nilC d k 0 cs
  | .lbox x => cellsE σ d k 0 x
  | .setc off n (.t L) x => (copyX σ d L fun p => match p with | .c j => if Nat.blt j off || Nat.ble (off + n) j then some (.c j) else none | _ => none) ++ cellsE σ d k off x
  | .mk z ps => fillE σ d k ps (nilC d k 0 z)
  | _ => []

def newE (d k : Nat) : Nat → List (Pt × (TypeId × Nat)) → List Tk
  | _, [] => []
  | j, q :: r => ⟨d, q.1, k + j, some q.2⟩ :: newE d k (j + 1) r

def aggI : I → Bool
  | .lnew _ | .lbox _ | .setc _ _ _ _ => true
  | .mov (.k (.tup [])) => true
  | _ => false

def rootsAg (ag : List Nat) (σ : List Tk) : I → Bool
  | .callk _ _ roots => roots.all fun x => match x with | .t L => ag.any (Nat.beq L) || (findT L σ).isSome | .k _ => false
  | _ => true

def killE (d : Nat) (σ : List Tk) : List Tk := σ.filter fun e => !(Nat.beq e.r d)

def chkOp (S : Sig) (n : Nat) (σ : Sg) (o : Op1) : Option Sg :=
  match useI S σ.es o.i with
  | none => none
  | some es =>
    if rootsAg σ.ag σ.es o.i then
      match o.dst with
      | none => some ⟨es, σ.ag⟩
      | some d => if Nat.blt d n then
          (match o.g with
          | none => some ⟨killE d es ++ genE (top σ.es) es d o.i ++ newE d (top σ.es) 0 (newT S o.i), if aggI o.i then d :: σ.ag else σ.ag.filter (fun L => !(Nat.beq L d))⟩
          | some _ => some ⟨killE d es ++ newE d (top σ.es) 0 (newG o.i), σ.ag.filter (fun L => !(Nat.beq L d))⟩)
        else none
    else none

def chkOps (S : Sig) (n : Nat) : Sg → List Op1 → Option Sg
  | σ, [] => some σ
  | σ, o :: r => match chkOp S n σ o with
    | some σ' => chkOps S n σ' r
    | none => none

def bornOf (bs : List (Nat × Nat)) (k : Nat) : Option Nat :=
  match bs with
  | [] => none
  | b :: r => if Nat.beq b.1 k then some b.2 else bornOf r k
def bornOK (bs : List (Nat × Nat)) (o : Op1) (k : Nat) : Bool :=
  match bornOf bs k with
  | none => true
  | some m => o.w && Nat.beq (m &&& o.m) m
def usesOK (S : Sig) (σ : List Tk) (bs : List (Nat × Nat)) (o : Op1) : Bool :=
  match useI S σ o.i with
  | none => false
  | some es => σ.all fun e => es.any (fun f => Nat.beq f.k e.k) || bornOK bs o e.k
def newB (m k : Nat) : Nat → List (Nat × Nat) → List (Nat × Nat)
  | 0, bs => bs
  | n + 1, bs => (k + n, m) :: newB m k n bs

def chkOpsD (S : Sig) (n : Nat) : Sg → List (Nat × Nat) → Nat → List Op1 → Option Sg
  | σ, _, _, [] => some σ
  | σ, bs, i, o :: r => if usesOK S σ.es bs o then (match chkOp S n σ o with
    | some σ' => chkOpsD S n σ' (newB (o.m ||| 2 ^ i) (top σ.es) (newT S o.i).length bs) (i + 1) r
    | none => none) else none

def chkOpsX (S : Sig) (n : Nat) : Sg → List (Nat × Nat) → Nat → List (Option Nat × Op1) → Option Sg
  | σ, _, _, [] => some σ
  | σ, bs, nxt, (some i, o) :: r => if Nat.ble nxt i && usesOK S σ.es bs o then (match chkOp S n σ o with
    | some σ' => chkOpsX S n σ' (newB (o.m ||| 2 ^ i) (top σ.es) (newT S o.i).length bs) (i + 1) r
    | none => none) else none
  | σ, bs, nxt, (none, o) :: r => if (newT S o.i).isEmpty && usesOK S σ.es bs o then (match chkOp S n σ o with
    | some σ' => chkOpsX S n σ' bs nxt r
    | none => none) else none
def idxB (n : Nat) : List (Option Nat × Op1) → Bool := fun l => l.all fun q => match q.1 with | some i => Nat.blt i n | none => true

/-! ### Less is known -/
def findP (σ : List Tk) (e : Tk) : Option Tk :=
  match σ with
  | [] => none
  | f :: σ => if Nat.beq f.r e.r && f.p.beq e.p then some f else findP σ e

def tyLe (a b : Option (TypeId × Nat)) : Bool :=
  match a, b with
  | none, _ => true
  | some a, some b => a.1 == b.1 && a.2 == b.2
  | some _, none => false

def leE (τ σ : List Tk) : Bool :=
  τ.all (fun e => match findP σ e with | some f => tyLe f.ty e.ty | none => false) &&
  τ.all (fun e => τ.all fun f => match findP σ e, findP σ f with | some a, some b => (Nat.beq e.k f.k) == (Nat.beq a.k b.k) | _, _ => false)

def leS (τ σ : Sg) : Bool := leE τ.es σ.es && τ.ag.all (fun L => σ.ag.any (Nat.beq L))

def meetE (σ : List Tk) : List Tk → List (Tk × Nat) → List (Tk × Nat)
  | [], acc => acc
  | e :: r, acc => match findP σ e with
    | some f => if acc.all (fun q => (Nat.beq q.1.k e.k) == (Nat.beq q.2 f.k)) then meetE σ r ((⟨e.r, e.p, e.k, if e.ty.isSome then e.ty else f.ty⟩, f.k) :: acc) else meetE σ r acc
    | none => meetE σ r acc

def meetS (a b : Sg) : Sg := ⟨(meetE b.es a.es []).map (·.1), a.ag.filter fun L => b.ag.any (Nat.beq L)⟩

structure Rs where
  nrm : Option Sg
  exits : List (Nat × Sg)
  rets : List Sg

def join : List Sg → Option (Option Sg)
  | [] => some none
  | σ :: r => if (σ :: r).all (leS (r.foldl meetS σ)) then some (some (r.foldl meetS σ)) else none

def fixS (f : Sg → Option Rs) : Nat → Sg → Option (Sg × Rs)
  | 0, _ => none
  | n + 1, σ => match f σ with
    | some r => match r.nrm with
      | none => some (σ, r)
      | some σ' => if leS σ σ' then some (σ, r) else fixS f n (meetS σ σ')
    | none => none

def chkK (S : Sig) (n : Nat) : K → Sg → Option Rs
  | .skip, σ => some ⟨some σ, [], []⟩
  | .reg ops, σ => (chkOps S n σ ops).map fun τ => ⟨some τ, [], []⟩
  | .drg ops, σ => (chkOpsD S n σ [] 0 ops).map fun τ => ⟨some τ, [], []⟩
  | .drx m ops, σ => if idxB m ops then (chkOpsX S n σ [] 0 ops).map fun τ => ⟨some τ, [], []⟩ else none
  | .seq a b, σ => match chkK S n a σ with
    | some r => match r.nrm with
      | some τ => match chkK S n b τ with
        | some q => some ⟨q.nrm, r.exits ++ q.exits, r.rets ++ q.rets⟩
        | none => none
      | none => some r
    | none => none
  | .cond _ a b, σ => match chkK S n a σ, chkK S n b σ with
    | some r, some q => (join (r.nrm.toList ++ q.nrm.toList)).map fun τ => ⟨τ, r.exits ++ q.exits, r.rets ++ q.rets⟩
    | _, _ => none
  | .block id a, σ => match chkK S n a σ with
    | some r => (join (r.nrm.toList ++ (r.exits.filter fun q => Nat.beq q.1 id).map (·.2))).map fun τ => ⟨τ, r.exits.filter fun q => !(Nat.beq q.1 id), r.rets⟩
    | none => none
  | .loop a, σ => match fixS (chkK S n a) 8 σ with
    | some (τ, r) => if leS τ σ then some ⟨none, r.exits, r.rets⟩ else none
    | none => none
  | .exit id, σ => some ⟨none, [(id, σ)], []⟩
  | .ret, σ => some ⟨none, [], [σ]⟩

/-! ### The code -/
def vOp (no : List FuncId) (o : Op1) : Op1 := ⟨o.dst, o.g, vI no o.i, o.m, o.w⟩

def vK (no : List FuncId) : K → K
  | .skip => .skip
  | .reg ops => .reg (ops.map (vOp no))
  | .drg ops => .drg (ops.map (vOp no))
  | .drx n ops => .drx n (ops.map fun q => (q.1, vOp no q.2))
  | .seq a b => .seq (vK no a) (vK no b)
  | .cond c a b => .cond (vX c) (vK no a) (vK no b)
  | .block id a => .block id (vK no a)
  | .loop a => .loop (vK no a)
  | .exit id => .exit id
  | .ret => .ret

def vCF (no : List FuncId) (cf : CF) : CF := ⟨cf.nt, vK no cf.body, cf.res⟩

def entryE : Nat → List (Nat × (TypeId × Nat)) → List Tk
  | _, [] => []
  | k, q :: r => ⟨q.1, .w, k, some q.2⟩ :: entryE (k + 1) r

def outOK (res : List RV) (σ : Sg) : List (Pt × (TypeId × Nat)) → List Nat → Bool
  | [], _ => true
  | q :: r, ks => match (match q.1 with | .w => (match res with | [x] => some x | _ => none) | .t j => (match res with | [_] => none | _ => res[j]?) | .c _ => none) with
    | some (.tmp t) => (match findT t σ.es with
      | some e => tyOK e.ty q.2 && !(ks.any (Nat.beq e.k)) && outOK res σ r (e.k :: ks)
      | none => false)
    | _ => false

def chkV (S : Sig) (f : FuncId) (cf : CF) : Bool :=
  match chkK S cf.nt cf.body ⟨entryE 0 (S.ps f), []⟩ with
  | some r => r.nrm.toList.all (fun σ => outOK cf.res σ (S.rs f) []) && r.rets.all (fun σ => outOK cf.res σ (S.rs f) [])
  | none => false

/-! ### What the check says of a state -/
def TokIn (M : MM) (lo : Nat) (x : AV) (ty : Option (TypeId × Nat)) : Prop :=
  x = .nilsl ∨ x = .undef ∨ ∃ id ds len t sz, x = .ov id ds len sz ∧ ty = some (t, sz) ∧ lo ≤ id ∧ M.mem id = some (.tok t (len * sz))

def idV : AV → Option Nat
  | .ov id _ _ _ => some id
  | _ => none

structure TInv (own : Nat → Prop) (σ : List Tk) (ρ : List AV) (M : MM) (lo : Nat) : Prop where
  each : ∀ e ∈ σ, ∃ x, getP ρ e.r e.p = some x ∧ TokIn M lo x e.ty ∧ ∀ id, idV x = some id → own id
  same : ∀ e ∈ σ, ∀ f ∈ σ, e.k = f.k → getP ρ e.r e.p = getP ρ f.r f.p
  diff : ∀ e ∈ σ, ∀ f ∈ σ, e.k ≠ f.k → ∀ x y id, getP ρ e.r e.p = some x → getP ρ f.r f.p = some y → idV x = some id → idV y ≠ some id

def AgOK (x : AV) : Prop := (∃ cs, x = .agg cs) ∨ x = .tup []
def AInv (ag : List Nat) (ρ : List AV) : Prop := ∀ L ∈ ag, ∃ x, ρ[L]? = some x ∧ AgOK x

/-- What a step leaves of memory. -/
structure Fr (used : Nat → Prop) (fresh : Nat) (M M' : MM) : Prop where
  nx : M.nx ≤ M'.nx
  wf : ∀ id, M'.mem id ≠ none → id < M'.nx
  tok : ∀ id t u, ¬ used id → M.mem id = some (.tok t u) → M'.mem id = some (.tok t u)
  keep : ∀ id, id < M.nx → id ≠ fresh → M.mem id = none → M'.mem id = none
  kv : ∀ id, id < M.nx → id ≠ fresh → vmem M.mem id = none → vmem M'.mem id = none

def WF (M : MM) : Prop := ∀ id, M.mem id ≠ none → id < M.nx

def usedA (S : Sig) (f : FuncId) (args : List AV) (id : Nat) : Prop := ∃ q ∈ S.ps f, ∃ x, args[q.1]? = some x ∧ idV x = some id

structure Tin (S : Sig) (f : FuncId) (args : List AV) (lo : Nat) (M : MM) : Prop where
  each : ∀ q ∈ S.ps f, ∃ x, args[q.1]? = some x ∧ TokIn M lo x (some q.2)
  diff : (S.ps f).Pairwise fun p q => ∀ x y id, args[p.1]? = some x → args[q.1]? = some y → idV x = some id → idV y ≠ some id

structure Tout (new : List (Pt × (TypeId × Nat))) (okId : Nat → Prop) (r : AV) (lo : Nat) (M' : MM) : Prop where
  each : ∀ q ∈ new, ∃ x, getR r q.1 = some x ∧ TokIn M' lo x (some q.2) ∧ ∀ id, idV x = some id → okId id
  diff : new.Pairwise fun p q => ∀ x y id, getR r p.1 = some x → getR r q.1 = some y → idV x = some id → idV y ≠ some id

theorem Tout.nil {okId : Nat → Prop} {r : AV} {lo : Nat} {M' : MM} : Tout [] okId r lo M' := ⟨fun q h => by simp at h, .nil⟩
theorem Tout.one {okId : Nat → Prop} {r : AV} {lo : Nat} {M' : MM} {t : TypeId × Nat} (h : TokIn M' lo r (some t)) (hi : ∀ id, idV r = some id → okId id) : Tout [(.w, t)] okId r lo M' :=
  ⟨fun q hq => by simp only [List.mem_singleton] at hq; subst hq; exact ⟨r, rfl, h, hi⟩, by simp⟩

def CSV (S : Sig) (c1 c2 : CallT) : Prop := ∀ f args lo M rv V', c2 f (vvs args) lo (vm M) = some (rv, V') → lo ≤ M.nx → WF M → Tin S f args lo M →
  ∃ r M', c1 f args lo M = some (r, M') ∧ vv r = rv ∧ vm M' = V' ∧ Fr (usedA S f args) M.nx M M' ∧ Tout (S.rs f) (fun id => M.nx ≤ id ∨ usedA S f args id) r lo M'

structure SigOK (S : Sig) (mode : FuncId → Mode) : Prop where
  rw : ∀ f, mode f ≠ .rw → S.ps f = [] ∧ S.rs f = []
  no : ∀ f, S.no.contains f = false → S.ps f = []

theorem Fr.refl {used : Nat → Prop} {fresh : Nat} {M : MM} (h : WF M) : Fr used fresh M M := ⟨Nat.le_refl _, h, fun _ _ _ _ h => h, fun _ _ _ h => h, fun _ _ _ h => h⟩
theorem Fr.up {used : Nat → Prop} {fresh : Nat} {M : MM} (h : WF M) : Fr used fresh M (M.up fresh) :=
  ⟨Nat.le_max_left _ _, fun id hid => by have := h id hid; simp only [MM.up]; omega, fun _ _ _ _ h => h, fun _ _ _ h => h, fun _ _ _ h => h⟩
theorem Fr.alloc {used : Nat → Prop} {fresh : Nat} {M : MM} (h : WF M) (hf : M.mem fresh = none) (B : Blk) : Fr used fresh M (M.alloc fresh B) :=
  ⟨Nat.le_max_left _ _, fun id hid => by
    simp only [MM.alloc, upd] at hid ⊢
    split at hid
    · omega
    · have := h id hid; omega, fun id t u _ hm => by
    simp only [MM.alloc, upd]
    rw [if_neg (fun e => by subst e; rw [hf] at hm; cases hm)]; exact hm, fun id _ hne hm => by
    simp only [MM.alloc, upd]; rw [if_neg hne]; exact hm, fun id _ hne hm => by
    simp only [MM.alloc, vmem, upd] at hm ⊢; rw [if_neg hne]; exact hm⟩
theorem Fr.put {used : Nat → Prop} {fresh : Nat} {M : MM} (h : WF M) {id : Nat} {B0 B : Blk} (hm : M.mem id = some B0) (ht : ∀ t u, B0 ≠ .tok t u) : Fr used fresh M (M.put id B) :=
  ⟨Nat.le_refl _, fun k hk => by
    simp only [MM.put, upd] at hk ⊢
    split at hk
    · rename_i e; subst e; exact h _ (by rw [hm]; simp)
    · exact h k hk, fun k t u _ hk => by
    simp only [MM.put, upd]
    split
    · rename_i e; subst e; rw [hm] at hk; injection hk with hk; exact absurd hk (ht t u)
    · exact hk, fun k _ _ hk => by
    simp only [MM.put, upd]; split
    · rename_i e; subst e; rw [hm] at hk; cases hk
    · exact hk, fun k _ _ hk => by
    simp only [MM.put, vmem, upd] at hk ⊢; split
    · rename_i e; subst e; rw [hm] at hk
      cases B0 with
      | tok t u => exact absurd rfl (ht t u)
      | _ => simp [vmB] at hk
    · exact hk⟩
theorem Fr.mono {used used' : Nat → Prop} {fresh fresh' : Nat} {M M' : MM} (h : Fr used fresh M M') (hu : ∀ id, used id → used' id) (hf : M.nx ≤ fresh ∨ fresh' = fresh) : Fr used' fresh' M M' :=
  ⟨h.nx, h.wf, fun id t u hn hm => h.tok id t u (fun h => hn (hu id h)) hm, fun id hlt hne hm => h.keep id hlt (fun e => hf.elim (fun hf => absurd hlt (by omega)) (fun hf => hne (by rw [hf]; exact e))) hm, fun id hlt hne hm => h.kv id hlt (fun e => hf.elim (fun hf => absurd hlt (by omega)) (fun hf => hne (by rw [hf]; exact e))) hm⟩

theorem vm_alloc (M : MM) (f : Nat) {B B' : Blk} (h : vmB B = some B') : vm (M.alloc f B) = (vm M).alloc f B' := by
  simp only [vm, MM.alloc, vmem_upd, h]
theorem vm_put (M : MM) (f : Nat) {B B' : Blk} (h : vmB B = some B') : vm (M.put f B) = (vm M).put f B' := by
  simp only [vm, MM.put, vmem_upd, h]
theorem vm_up (M : MM) (f : Nat) : vm (M.up f) = (vm M).up f := rfl
theorem vm_tok (M : MM) (f : Nat) (hf : M.mem f = none) (t : TypeId) (u : Nat) : vm (M.alloc f (.tok t u)) = (vm M).up f := by
  simp only [vm, MM.alloc, MM.up, vmem_upd, vmB]
  congr 1
  funext k
  simp only [upd, vmem]
  split
  · rename_i e; subst e; rw [hf]; rfl
  · rfl
theorem vm_move (M : MM) (f id : Nat) (hf : M.mem f = none) {t : TypeId} {u : Nat} (hid : M.mem id = some (.tok t u)) (t' : TypeId) (u' : Nat) :
    vm { nx := max M.nx (f + 1), mem := upd (upd M.mem id none) f (some (.tok t' u')) } = (vm M).up f := by
  simp only [vm, MM.up, vmem_upd, vmB]
  congr 1
  funext k
  simp only [upd, vmem]
  split
  · rename_i e; subst e; rw [hf]; rfl
  · split
    · rename_i e; subst e; rw [hid]; rfl
    · rfl

theorem hide_vm (L : Lm) (m : Mem) : hideM L (vmem m) = vmem (hideM L m) := by
  funext id
  simp only [hideM, vmem]
  split <;> rfl

theorem Tin.none {S : Sig} {f : FuncId} (h : S.ps f = []) (args : List AV) (lo : Nat) (M : MM) : Tin S f args lo M := ⟨fun q hq => by rw [h] at hq; simp at hq, by rw [h]; exact .nil⟩

theorem sliceCells_len {m : Mem} {lim : Lm} {sz n : Nat} {x : AV} {cs : List AV} (h : sliceCells m lim sz x = some (n, cs)) : cs.length = n * sz := by
  unfold sliceCells at h
  split at h
  · split at h
    · simp only [Option.some.injEq, Prod.mk.injEq] at h; obtain ⟨rfl, rfl⟩ := h; simp; omega
    · cases h
  · split at h
    · simp only [Option.some.injEq, Prod.mk.injEq] at h; obtain ⟨rfl, rfl⟩ := h; simp; omega
    · cases h
  · simp only [Option.some.injEq, Prod.mk.injEq] at h; obtain ⟨rfl, rfl⟩ := h; simp
  · split at h
    · split at h
      · simp only [Option.some.injEq, Prod.mk.injEq] at h; obtain ⟨rfl, rfl⟩ := h; simp; omega
      · cases h
    · cases h
  · cases h

section
variable {c1 c2 : CallT} {S : Sig} (hc : CSV S c1 c2) {mode : FuncId → Mode} (hS : SigOK S mode) {draw : Bool} {lo : Nat} {lim : Lm} {fresh : Nat}
include hc hS

theorem docall_v {f : FuncId} {args : List AV} {M : MM} {rv : AV} {V' : MM} (h : docall c2 mode draw lo lim f (vvs args) (vm M) = some (rv, V')) (hlo : lo ≤ M.nx) (hwf : WF M) (hT : Tin S f args lo M) (hL : lim.b + lim.n ≤ M.nx) (hlm : ∀ id, usedA S f args id → lim.ok id = true) :
    ∃ r M', docall c1 mode draw lo lim f args M = some (r, M') ∧ vv r = rv ∧ vm M' = V' ∧ Fr (usedA S f args) M.nx M M' ∧ (mode f = .rw → Tout (S.rs f) (fun id => M.nx ≤ id ∨ usedA S f args id) r lo M') := by
  unfold docall at h ⊢
  cases hm : mode f with
  | pure =>
    simp only [hm] at h ⊢
    have hsn : (vvs args).mapM (snap (look (vm M).mem lim)) = (args.mapM (snap (look M.mem lim))).map vvs := by
      show (vvs args).mapM (snap (look (vmem M.mem) lim)) = _
      rw [look_vm]; exact snaps_vv _ _
    rw [hsn] at h
    cases ha : args.mapM (snap (look M.mem lim)) with
    | none => rw [ha] at h; simp at h
    | some args' =>
      rw [ha] at h
      simp only [Option.map_some] at h
      cases hcl : c2 f (vvs args') 0 ⟨0, fun _ => none⟩ with
      | none => rw [hcl] at h; cases h
      | some p =>
        obtain ⟨r0v, V1⟩ := p
        rw [hcl] at h
        have e0 : (⟨0, fun _ => none⟩ : MM) = vm ⟨0, fun _ => none⟩ := rfl
        rw [e0] at hcl
        have hp := (hS.rw f (by rw [hm]; simp)).1
        obtain ⟨r0, M1, q1, q2, q3, _, _⟩ := hc _ _ _ _ _ _ hcl (Nat.le_refl _) (fun id h => absurd rfl h) (Tin.none hp _ _ _)
        simp only [q1]
        dsimp only at h
        have hfz : freeze V1.mem 0 r0v = (freeze M1.mem 0 r0).map vv := by rw [← q3, ← q2]; exact freeze_vv _ _ _
        rw [hfz] at h
        cases hf : freeze M1.mem 0 r0 with
        | none => rw [hf] at h; cases h
        | some r' =>
          rw [hf] at h
          simp only [Option.map_some] at h
          split at h
          · rename_i hok
            simp only [Option.some.injEq, Prod.mk.injEq] at h
            obtain ⟨rfl, rfl⟩ := h
            have hok' : (args.all closedA || scalT r') = true := by
              simp only [Bool.or_eq_true] at hok ⊢
              refine hok.imp (fun h => ?_) scalT_vv
              rw [vvs_eq, List.all_map] at h
              rw [List.all_eq_true] at h ⊢
              exact fun x hx => by have := h x hx; simpa only [Function.comp, closedA_vv] using this
            exact ⟨r', M, by simp only [hok', if_true], rfl, rfl, .refl hwf, fun h => by cases h⟩
          · cases h
  | ro =>
    simp only [hm] at h ⊢
    have e0 : (⟨(vm M).nx, look (vm M).mem lim⟩ : MM) = vm ⟨M.nx, look M.mem lim⟩ := by
      show (⟨M.nx, look (vmem M.mem) lim⟩ : MM) = _
      rw [look_vm]; rfl
    have e1 : (vm M).nx = M.nx := rfl
    rw [e0, e1] at h
    cases hcl : c2 f (vvs args) M.nx (vm ⟨M.nx, look M.mem lim⟩) with
    | none => rw [hcl] at h; cases h
    | some p =>
      obtain ⟨r0v, V1⟩ := p
      rw [hcl] at h
      have hp := (hS.rw f (by rw [hm]; simp)).1
      have hwf' : WF ⟨M.nx, look M.mem lim⟩ := fun id hid => hwf id (by
        simp only [look] at hid
        split at hid
        · exact hid
        · exact absurd rfl hid)
      obtain ⟨r0, M1, q1, q2, q3, _, _⟩ := hc _ _ _ _ _ _ hcl (Nat.le_refl _) hwf' (Tin.none hp _ _ _)
      simp only [q1]
      obtain ⟨y, hy, hh⟩ := Option.map_eq_some_iff.1 h
      simp only [Prod.mk.injEq] at hh
      obtain ⟨rfl, rfl⟩ := hh
      have hfz : freeze V1.mem M.nx r0v = (freeze M1.mem M.nx r0).map vv := by rw [← q3, ← q2]; exact freeze_vv _ _ _
      rw [hfz] at hy
      obtain ⟨r', hf, rfl⟩ := Option.map_eq_some_iff.1 hy
      exact ⟨r', M, by rw [hf]; rfl, rfl, rfl, .refl hwf, fun h => by cases h⟩
  | rw =>
    simp only [hm] at h ⊢
    cases draw
    · simp only [Bool.false_eq_true, if_false] at h ⊢
      obtain ⟨r, M', q1, q2, q3, q4, q5⟩ := hc _ _ _ _ _ _ h hlo hwf hT
      exact ⟨r, M', q1, q2, q3, q4, fun _ => q5⟩
    · simp only [if_true] at h ⊢
      unfold rwD at h ⊢
      have eh : (⟨(vm M).nx, hideM lim (vm M).mem⟩ : MM) = vm ⟨M.nx, hideM lim M.mem⟩ := by
        show (⟨M.nx, hideM lim (vmem M.mem)⟩ : MM) = ⟨M.nx, vmem (hideM lim M.mem)⟩
        rw [hide_vm]
      rw [eh] at h
      cases hcl : c2 f (vvs args) lo (vm ⟨M.nx, hideM lim M.mem⟩) with
      | none => rw [hcl] at h; cases h
      | some p =>
        obtain ⟨r0v, V1⟩ := p
        rw [hcl] at h
        simp only at h
        split at h
        · simp only [Option.some.injEq, Prod.mk.injEq] at h
          obtain ⟨rfl, rfl⟩ := h
          have hnh : ∀ id, usedA S f args id → hid lim id = false := fun id hu => by simp only [hid, hlm id hu, Bool.not_true, Bool.and_false]
          have hwf' : WF ⟨M.nx, hideM lim M.mem⟩ := fun id hid' => hwf id (by
            simp only [hideM] at hid'
            split at hid'
            · exact absurd rfl hid'
            · exact hid')
          have hin : Tin S f args lo ⟨M.nx, hideM lim M.mem⟩ := ⟨fun q hq => by
            obtain ⟨x, hx, hk⟩ := hT.each q hq
            refine ⟨x, hx, ?_⟩
            rcases hk with rfl | rfl | ⟨id, ds, len, t, sz, rfl, h1, h2, h3⟩
            · exact .inl rfl
            · exact .inr (.inl rfl)
            · exact .inr (.inr ⟨id, ds, len, t, sz, rfl, h1, h2, by simp only [hideM, hnh id ⟨q, hq, _, hx, rfl⟩, Bool.false_eq_true, if_false]; exact h3⟩), hT.diff⟩
          obtain ⟨r, M', q1, q2, q3, q4, q5⟩ := hc _ _ _ _ _ _ hcl hlo hwf' hin
          have hn : M.nx ≤ M'.nx := q4.nx
          have hhid : ∀ id, hid lim id = true → id < M.nx := fun id h => by
            simp only [hid, Lm.own, Bool.and_eq_true, Nat.blt_eq] at h
            omega
          have hkv : ∀ id, id < M.nx → hid lim id = false → vmem M.mem id = none → vmem M'.mem id = none := fun id hlt hh hm =>
            q4.kv id hlt (by show id ≠ M.nx; omega) (by simp only [vmem, hideM, hh, Bool.false_eq_true, if_false] at hm ⊢; exact hm)
          refine ⟨r, ⟨M'.nx, backM lim M.nx M.mem M'.mem⟩, by rw [q1]; simp only [hn, if_true], q2, ?_, ⟨hn, fun id hm => ?_, fun id t u hu hm => ?_, fun id hlt hne hm => ?_, fun id hlt hne hm => ?_⟩, fun _ => ⟨fun q hq => ?_, q5.diff⟩⟩
          · subst q3
            show (⟨M'.nx, vmem (backM lim M.nx M.mem M'.mem)⟩ : MM) = ⟨M'.nx, backM lim M.nx (vmem M.mem) (vmem M'.mem)⟩
            congr 1
            funext id
            simp only [vmem, backM]
            cases hh : hid lim id with
            | true => simp only [if_true]
            | false =>
              simp only [Bool.false_eq_true, if_false]
              cases hb : Nat.blt id M.nx with
              | false => simp only [Bool.false_and, Bool.false_eq_true, if_false]
              | true =>
                have hlt : id < M.nx := by simpa using hb
                have hz := hkv id hlt hh
                simp only [vmem] at hz
                rcases Option.eq_none_or_eq_some (M.mem id) with hm | ⟨B, hm⟩
                · simp [hm]
                · rw [hm] at hz
                  simp only [Option.bind_some] at hz
                  cases hB : vmB B with
                  | none => simp [hm, hB, hz hB]
                  | some B' => simp [hm, hB]
          · simp only [backM] at hm
            split at hm
            · have := hwf id hm; show id < M'.nx; omega
            · split at hm
              · exact absurd rfl hm
              · exact q4.wf id hm
          · simp only [backM]
            cases hh : hid lim id with
            | true => simp only [if_true]; exact hm
            | false =>
              have h1 := q4.tok id t u hu (by simp only [hideM, hh, Bool.false_eq_true, if_false]; exact hm)
              simp only [hm, Option.isNone_some, Bool.and_false, Bool.false_eq_true, if_false]; exact h1
          · simp only [backM]
            split
            · exact hm
            · have : Nat.blt id M.nx = true := by simpa using hlt
              simp only [this, hm, Option.isNone_none, Bool.and_self, if_true]
          · simp only [vmem, backM] at hm ⊢
            cases hh : hid lim id with
            | true => simp only [if_true]; exact hm
            | false =>
              simp only [Bool.false_eq_true, if_false]
              split
              · rfl
              · exact hkv id hlt hh hm
          · obtain ⟨x, g1, g2, g3⟩ := q5.each q hq
            refine ⟨x, g1, ?_, g3⟩
            rcases g2 with rfl | rfl | ⟨id, ds, len, t, sz, rfl, h1, h2, h3⟩
            · exact .inl rfl
            · exact .inr (.inl rfl)
            · refine .inr (.inr ⟨id, ds, len, t, sz, rfl, h1, h2, ?_⟩)
              have hh : hid lim id = false := by
                rcases g3 id rfl with hge | hu
                · cases hh : hid lim id with
                  | false => rfl
                  | true => have := hhid id hh; exact absurd hge (by show ¬ M.nx ≤ id; omega)
                · exact hnh id hu
              have hnn : (Nat.blt id M.nx && (M.mem id).isNone) = false := by
                rcases g3 id rfl with hge | ⟨p, hp, y, hy, hyi⟩
                · have hge' : M.nx ≤ id := hge
                  have : Nat.blt id M.nx = false := by
                    cases hb : Nat.blt id M.nx with
                    | false => rfl
                    | true => rw [Nat.blt_eq] at hb; omega
                  rw [this]; rfl
                · obtain ⟨x', hx', hk'⟩ := hT.each p hp
                  rw [hy] at hx'; injection hx' with hx'; subst hx'
                  rcases hk' with rfl | rfl | ⟨id', ds', len', t', sz', rfl, _, _, hm'⟩
                  · simp [idV] at hyi
                  · simp [idV] at hyi
                  · simp only [idV, Option.some.injEq] at hyi; subst hyi
                    rw [hm']; simp
              simp only [backM, hh, hnn, Bool.false_eq_true, if_false]; exact h3
        · cases h

omit hc hS in
theorem pureI_v {no : List FuncId} {M : MM} {ρ : List AV} {i : I} {o : Option AV} (h : pureI c1 mode M lim ρ i = some o) (hi : ∀ f as, i ≠ .call f as) : pureI c2 mode (vm M) lim (vvs ρ) (vI no i) = some (o.map vv) := by
  cases i <;> simp only [pureI, Option.some.injEq, reduceCtorEq] at h
  case call f as => exact absurd rfl (hi f as)
  all_goals subst h
  case mov x => simp only [vI, pureI, ev_vv, Option.map_some]
  case pick c a b => simp only [vI, pureI, ev_vv, pickA_vv]
  case mk z ps => simp only [vI, pureI, vP_ev, fill_vv, Option.map_map]; rfl
  case ld1 a => simp only [vI, pureI, ev_vv]; exact congrArg some (ld1A_vv M.mem lim (ev ρ a))
  case ldn n a => simp only [vI, pureI, ev_vv]; exact congrArg some (ldnA_vv M.mem lim (ev ρ a) n)
  case nilc x => simp only [vI, pureI, ev_vv, nilcA_vv]
  case bin op e x y => simp only [vI, pureI, ev_vv, binA_vv]
  case un op x => simp only [vI, pureI, ev_vv, unA_vv]
  case cvi k x => simp only [vI, pureI, ev_vv, cviA_vv]
  case cvs x => simp only [vI, pureI, ev_vv, cvsA_vv]
  case b2s x => simp only [vI, pureI, ev_vv]; exact congrArg some (b2sA_vv M.mem lim (ev ρ x))
  case mkf f as bs => simp only [vI, pureI, evs_vv, Option.map_some, vv]
  case slstr x l u => simp only [vI, pureI, ev_vv]; exact congrArg some (slstrA_vv _ _ _ _ _ (lo_vv ρ l) (fun n => hi_vv ρ n u))
  case slsl s x l u => simp only [vI, pureI, ev_vv]; exact congrArg some (slslA_vv _ _ _ _ _ _ (lo_vv ρ l) (fun n => hi_vv ρ n u))
  case fad o x => simp only [vI, pureI, ev_vv, fadA_vv]
  case fld o n g x => simp only [vI, pureI, ev_vv, fldA_vv]
  case ixs s x y => simp only [vI, pureI, ev_vv, ixsA_vv]
  case ixp s l x y => simp only [vI, pureI, ev_vv, ixpA_vv]
  case ixv s l g x y => simp only [vI, pureI, ev_vv, ixvA_vv]
  case ixc x y => simp only [vI, pureI, ev_vv, ixcA_vv]
  case lkp kk cm z m k => simp only [vI, pureI, ev_vv]; exact congrArg some (lkpA_vv M.mem lim _ _ kk cm z)
  case ext x j => simp only [vI, pureI, ev_vv, extA_vv]
  case tk x j => simp only [vI, pureI, ev_vv, tkA_vv]
  case lens x => simp only [vI, pureI, ev_vv, lensA_vv]
  case len x => simp only [vI, pureI, ev_vv, lenA_vv]
  case lenm x => simp only [vI, pureI, ev_vv]; exact congrArg some (lenmA_vv M.mem lim (ev ρ x))
  case mmax mx x y => simp only [vI, pureI, ev_vv, mmaxA_vv]
  case setc o n l x => simp only [vI, pureI, ev_vv, setcA_vv]

omit hc hS in
theorem pure_v {M : MM} {ρ : List AV} {i : I} {o : Option AV} (h : pureI c1 mode M lim ρ i = some o) (hi : ∀ f as, i ≠ .call f as) {rv : AV} {V' : MM} (hV : istep c2 mode draw lo lim fresh (vI S.no i) (vvs ρ) (vm M) = some (rv, V')) :
    ∃ r, istep c1 mode draw lo lim fresh i ρ M = some (r, M) ∧ vv r = rv ∧ vm M = V' := by
  rw [pureI_eq (pureI_v h hi)] at hV
  obtain ⟨x, hx, hh⟩ := Option.map_eq_some_iff.1 hV
  obtain ⟨r, rfl, rfl⟩ := Option.map_eq_some_iff.1 hx
  simp only [Prod.mk.injEq] at hh
  exact ⟨r, by rw [pureI_eq h]; rfl, hh.1, hh.2⟩

omit hc hS in
/-- What is used up: its places are no longer known, and its tokens are no one else's. -/
theorem useX_ok {own : Nat → Prop} {σ σ' : List Tk} {ρ : List AV} {M : MM} {t : TypeId × Nat} {x : X} (h : useX t σ x = some σ') (hT : TInv own σ ρ M lo) :
    (∀ e ∈ σ', e ∈ σ) ∧ TokIn M lo (ev ρ x) (some t) ∧ (∀ id, idV (ev ρ x) = some id → own id) ∧ (∀ id, idV (ev ρ x) = some id → ∀ e ∈ σ', ∀ y, getP ρ e.r e.p = some y → idV y ≠ some id) ∧
      (∀ id, idV (ev ρ x) = some id → ∃ e ∈ σ, (∀ f ∈ σ', f.k ≠ e.k) ∧ getP ρ e.r e.p = some (ev ρ x)) := by
  cases x with
  | k a =>
    simp only [useX] at h
    split at h
    · rename_i hn
      injection h with h; subst h
      have e : a = .nilsl := nilAt_eq hn
      subst e
      exact ⟨fun _ h => h, .inl rfl, fun id h => by simp [ev, idV] at h, fun id h => by simp [ev, idV] at h, fun id h => by simp [ev, idV] at h⟩
    · cases h
  | t r =>
    simp only [useX] at h
    split at h
    · rename_i e he
      split at h
      · rename_i ht
        injection h with h; subst h
        obtain ⟨h1, rfl, h3⟩ := findT_ok he
        obtain ⟨x, hx, hk, ho⟩ := hT.each e h1
        have hx' : ρ[e.r]? = some x := by
          rw [h3] at hx
          simp only [getP, getR] at hx
          cases hr : ρ[e.r]? with
          | none => rw [hr] at hx; cases hx
          | some y => rw [hr] at hx; exact hx
        have hev : ev ρ (.t e.r) = x := by simp only [ev, List.getD_eq_getElem?_getD, hx', Option.getD_some]
        rw [hev]
        refine ⟨fun f hf => (List.mem_filter.1 hf).1, ?_, ho, fun id hid f hf y hy => ?_, fun id hid => ⟨e, h1, fun f hf hfk => ?_, hx⟩⟩
        · rcases hk with rfl | rfl | ⟨id, ds, len, a, sz, rfl, hty, h4, h5⟩
          · exact .inl rfl
          · exact .inr (.inl rfl)
          · refine .inr (.inr ⟨id, ds, len, a, sz, rfl, ?_, h4, h5⟩)
            rw [hty] at ht
            simp only [tyOK, Bool.and_eq_true, beq_iff_eq] at ht
            obtain ⟨t1, t2⟩ := t
            simp only at ht
            rw [ht.1, ht.2]
        · obtain ⟨hf1, hf2⟩ := List.mem_filter.1 hf
          have hne : e.k ≠ f.k := fun h => by
            rw [h] at hf2
            have hbb : Nat.beq f.k f.k = true := by rw [Nat.beq_eq]
            rw [hbb] at hf2; cases hf2
          exact hT.diff e h1 f hf1 hne x y id hx hy hid
        · obtain ⟨_, hf2⟩ := List.mem_filter.1 hf
          rw [hfk] at hf2
          have hbb : Nat.beq e.k e.k = true := by rw [Nat.beq_eq]
          rw [hbb] at hf2; cases hf2
      · cases h
    · cases h

omit hc hS in
theorem useX_sub {own : Nat → Prop} {σ σ' : List Tk} {ρ : List AV} {M : MM} (h : ∀ e ∈ σ', e ∈ σ) (hT : TInv own σ ρ M lo) : TInv own σ' ρ M lo :=
  ⟨fun e he => hT.each e (h e he), fun e he f hf => hT.same e (h e he) f (h f hf), fun e he f hf => hT.diff e (h e he) f (h f hf)⟩

omit hc hS in
theorem useArgs_ok {own : Nat → Prop} {ρ : List AV} {M : MM} {args : List X} : ∀ {ps : List (Nat × (TypeId × Nat))} {σ σ' : List Tk}, useArgs args ps σ = some σ' → TInv own σ ρ M lo →
    (∀ e ∈ σ', e ∈ σ) ∧ (∀ q ∈ ps, ∃ x, (args.map (ev ρ))[q.1]? = some x ∧ TokIn M lo x (some q.2)) ∧
    (ps.Pairwise fun p q => ∀ x y id, (args.map (ev ρ))[p.1]? = some x → (args.map (ev ρ))[q.1]? = some y → idV x = some id → idV y ≠ some id) ∧
    (∀ q ∈ ps, ∀ x id, (args.map (ev ρ))[q.1]? = some x → idV x = some id → own id ∧ ∀ e ∈ σ', ∀ y, getP ρ e.r e.p = some y → idV y ≠ some id) ∧
    (∀ q ∈ ps, ∀ x id, (args.map (ev ρ))[q.1]? = some x → idV x = some id → ∃ e ∈ σ, (∀ f ∈ σ', f.k ≠ e.k) ∧ getP ρ e.r e.p = some x)
  | [], σ, σ', h, hT => by
    simp only [useArgs, Option.some.injEq] at h; subst h
    exact ⟨fun _ h => h, fun q hq => by simp at hq, .nil, fun q hq => by simp at hq, fun q hq => by simp at hq⟩
  | q :: ps, σ, σ', h, hT => by
    simp only [useArgs] at h
    split at h
    · rename_i x hx
      split at h
      · rename_i σ1 h1
        obtain ⟨s1, s2, s3, s4, s5⟩ := useX_ok h1 hT
        have hT1 := useX_sub s1 hT
        obtain ⟨r1, r2, r3, r4, r5⟩ := useArgs_ok h hT1
        have hget : (args.map (ev ρ))[q.1]? = some (ev ρ x) := by rw [List.getElem?_map, hx]; rfl
        refine ⟨fun e he => s1 e (r1 e he), fun p hp => ?_, ?_, fun p hp y id hy hid => ?_, fun p hp y id hy hid => ?_⟩
        · rcases List.mem_cons.1 hp with rfl | hp
          · exact ⟨_, hget, s2⟩
          · exact r2 p hp
        · refine List.pairwise_cons.2 ⟨fun p hp y z id hy hz hid hidz => ?_, r3⟩
          rw [hget] at hy; injection hy with hy; subst hy
          -- the second one is known behind the first one
          obtain ⟨xp, hxp, _⟩ := r2 p hp
          exact useArgs_fresh h hT1 hp (s4 id hid) hz hidz
        · rcases List.mem_cons.1 hp with rfl | hp
          · rw [hget] at hy; injection hy with hy; subst hy
            exact ⟨s3 id hid, fun e he => s4 id hid e (r1 e he)⟩
          · exact r4 p hp y id hy hid
        · rcases List.mem_cons.1 hp with rfl | hp
          · rw [hget] at hy; injection hy with hy; subst hy
            obtain ⟨e, g1, g2, g3⟩ := s5 id hid
            exact ⟨e, g1, fun f hf => g2 f (r1 f hf), g3⟩
          · obtain ⟨e, g1, g2, g3⟩ := r5 p hp y id hy hid
            exact ⟨e, s1 e g1, g2, g3⟩
      · cases h
    · cases h
where
  useArgs_fresh {own : Nat → Prop} {ρ : List AV} {M : MM} {args : List X} : ∀ {ps : List (Nat × (TypeId × Nat))} {σ σ' : List Tk}, useArgs args ps σ = some σ' → TInv own σ ρ M lo → ∀ {p : Nat × (TypeId × Nat)}, p ∈ ps → ∀ {id : Nat},
      (∀ e ∈ σ, ∀ y, getP ρ e.r e.p = some y → idV y ≠ some id) → ∀ {z : AV}, (args.map (ev ρ))[p.1]? = some z → idV z = some id → False
  | [], _, _, _, _, p, hp, _, _, _, _, _ => by simp at hp
  | q :: ps, σ, σ', h, hT, p, hp, id, hno, z, hz, hid => by
    simp only [useArgs] at h
    split at h
    · rename_i x hx
      split at h
      · rename_i σ1 h1
        obtain ⟨s1, _, _, _, _⟩ := useX_ok h1 hT
        rcases List.mem_cons.1 hp with rfl | hp
        · rw [List.getElem?_map, hx] at hz
          simp only [Option.map_some, Option.some.injEq] at hz; subst hz
          cases x with
          | k a =>
            simp only [useX] at h1
            split at h1
            · rename_i hn
              rw [show ev ρ (.k a) = a from rfl, nilAt_eq hn] at hid; simp [idV] at hid
            · cases h1
          | t r =>
            simp only [useX] at h1
            split at h1
            · rename_i e he
              obtain ⟨g1, rfl, g3⟩ := findT_ok he
              obtain ⟨x, hx', _, _⟩ := hT.each e g1
              have hx2 : ρ[e.r]? = some x := by
                rw [g3] at hx'
                simp only [getP, getR] at hx'
                cases hr : ρ[e.r]? with
                | none => rw [hr] at hx'; cases hx'
                | some y => rw [hr] at hx'; exact hx'
              have hev : ev ρ (.t e.r) = x := by simp only [ev, List.getD_eq_getElem?_getD, hx2, Option.getD_some]
              rw [hev] at hid
              exact hno e g1 x hx' hid
            · cases h1
        · exact useArgs_fresh h (useX_sub s1 hT) hp (fun e he => hno e (s1 e he)) hz hid
      · cases h
    · cases h

omit hc hS in
theorem vv_ptr {x : AV} {a b : Nat} (h : vv x = .ptr a b) : x = .ptr a b := by
  cases x with
  | d d => simp [vv] at h
  | ptr => simpa only [vv] using h
  | _ => simp [vv] at h
omit hc hS in
theorem vv_os {x : AV} {a b c d : Nat} (h : vv x = .os a b c d) : x = .os a b c d := by
  cases x with
  | d d => simp [vv] at h
  | os => simpa only [vv] using h
  | _ => simp [vv] at h
omit hc hS in
theorem vv_mp {x : AV} {a : Nat} (h : vv x = .mp a) : x = .mp a := by
  cases x with
  | d d => simp [vv] at h
  | mp => simpa only [vv] using h
  | _ => simp [vv] at h
omit hc hS in
theorem vv_fn {x : AV} {f : FuncId} {as bs : List AV} (h : vv x = .fn f as bs) : ∃ as' bs', x = .fn f as' bs' ∧ as = vvs as' ∧ bs = vvs bs' := by
  cases x with
  | d d => simp [vv] at h
  | fn f' as' bs' =>
    simp only [vv, AV.fn.injEq] at h
    exact ⟨as', bs', by rw [h.1], h.2.1.symm, h.2.2.symm⟩
  | _ => simp [vv] at h
omit hc hS in
theorem look_cells {m : Mem} {id : Nat} {t : TypeId} {vcs : List AV} (h : look (vmem m) lim id = some (.cells t vcs)) : ∃ cs, look m lim id = some (.cells t cs) ∧ vcs = vvs cs := by
  rw [look_vm] at h
  simp only [vmem] at h
  cases hb : look m lim id with
  | none => rw [hb] at h; cases h
  | some B =>
    rw [hb] at h
    cases B with
    | cells t' cs =>
      simp only [Option.bind_some, vmB, Option.some.injEq, Blk.cells.injEq] at h
      obtain ⟨rfl, rfl⟩ := h
      exact ⟨cs, rfl, rfl⟩
    | map => simp [vmB] at h
    | siter => simp [vmB] at h
    | tok => simp [vmB] at h
omit hc hS in
theorem look_map {m : Mem} {id : Nat} {kk : KK} {ves : List (Value × AV)} (h : look (vmem m) lim id = some (.map kk ves)) : ∃ es, look m lim id = some (.map kk es) ∧ ves = es.map fun e => (e.1, vv e.2) := by
  rw [look_vm] at h
  simp only [vmem] at h
  cases hb : look m lim id with
  | none => rw [hb] at h; cases h
  | some B =>
    rw [hb] at h
    cases B with
    | map kk' es =>
      simp only [Option.bind_some, vmB, Option.some.injEq, Blk.map.injEq] at h
      obtain ⟨rfl, rfl⟩ := h
      exact ⟨es, rfl, rfl⟩
    | cells => simp [vmB] at h
    | siter => simp [vmB] at h
    | tok => simp [vmB] at h
omit hc hS in
theorem putM_vv (q : Value) (x : AV) : ∀ es : List (Value × AV), putM q (vv x) (es.map fun e => (e.1, vv e.2)) = (putM q x es).map fun e => (e.1, vv e.2)
  | [] => rfl
  | e :: r => by
    simp only [List.map_cons, putM]
    split
    · rfl
    · rw [putM_vv q x r]; rfl
omit hc hS in
theorem delM_vv (q : Value) : ∀ es : List (Value × AV), delM q (es.map fun e => (e.1, vv e.2)) = (delM q es).map fun e => (e.1, vv e.2)
  | [] => rfl
  | e :: r => by
    simp only [List.map_cons, delM]
    split
    · rfl
    · rw [delM_vv q r]; rfl
omit hc hS in
theorem vv_key {x : AV} {q : Value} (h : vv x = .d (.v q)) : x = .d (.v q) := by
  rcases dv_cases x with ⟨v, rfl, e⟩ | ⟨rfl, e⟩ | ⟨_, h2⟩
  · rw [e] at h; exact h
  · rw [e] at h; cases h
  · exact absurd h (h2 q)
omit hc hS in
theorem okRoot_vv (r a : AV) : okRoot (vv r) (vv a) = okRoot r a := by
  have hi : idOf (vv r) = idOf r := by cases r <;> rfl
  cases a <;> simp only [vv, okRoot, hi]
omit hc hS in
theorem okStr_vv (r a : AV) (ns : List AV) : okStr (vv r) (vv a) (vvs ns) = okStr r a ns := by
  have hi : ∀ r : AV, idOf (vv r) = idOf r := fun r => by cases r <;> rfl
  have hl : ∀ j : Nat, (vvs ns).all (fun y => !(idOf y == some j)) = ns.all fun y => !(idOf y == some j) := fun j => by
    rw [vvs_eq, List.all_map]
    congr 1
    funext y
    simp only [Function.comp, hi]
  cases a <;> simp only [vv, okStr, hi, hl]
theorem istep_v {own : Nat → Prop} {σ σ' : List Tk} {ag : List Nat} {ρ : List AV} {M : MM} {i : I} {rv : AV} {V' : MM} (hV : istep c2 mode draw lo lim fresh (vI S.no i) (vvs ρ) (vm M) = some (rv, V')) (hlo : lo ≤ M.nx) (hwf : WF M) (hfr : M.mem fresh = none)
    (hlof : lo ≤ fresh) (hT : TInv own σ ρ M lo) (hA : AInv ag ρ) (hu : useI S σ i = some σ') (hr : rootsAg ag σ i = true) (hown : ∀ id, M.nx ≤ id → own id) (hownf : own fresh) (hL : lim.b + lim.n ≤ M.nx)
    (hlm : ∀ e ∈ σ, (∀ f ∈ σ', f.k ≠ e.k) → ∀ x id, getP ρ e.r e.p = some x → idV x = some id → lim.ok id = true) :
    ∃ r M' used, istep c1 mode draw lo lim fresh i ρ M = some (r, M') ∧ vv r = rv ∧ vm M' = V' ∧ Fr used fresh M M' ∧ (∀ id, used id → own id ∧ ∀ e ∈ σ', ∀ y, getP ρ e.r e.p = some y → idV y ≠ some id) ∧
      Tout (newT S i) (fun id => own id ∧ (M.nx ≤ id ∨ id = fresh ∨ used id ∧ lim.ok id = true)) r lo M' := by
  have pure : ∀ {o : Option AV}, pureI c1 mode M lim ρ i = some o → (∀ f as, i ≠ .call f as) → newT S i = [] → ∃ r M' used, istep c1 mode draw lo lim fresh i ρ M = some (r, M') ∧ vv r = rv ∧ vm M' = V' ∧ Fr used fresh M M' ∧ (∀ id, used id → own id ∧ ∀ e ∈ σ', ∀ y, getP ρ e.r e.p = some y → idV y ≠ some id) ∧
      Tout (newT S i) (fun id => own id ∧ (M.nx ≤ id ∨ id = fresh ∨ used id ∧ lim.ok id = true)) r lo M' := fun h hi hn => by
    obtain ⟨r, q1, q2, q3⟩ := pure_v h hi hV
    exact ⟨r, M, fun _ => False, q1, q2, q3, .refl hwf, fun _ h => h.elim, by rw [hn]; exact .nil⟩
  have docallC : ∀ {f : FuncId} {args : List AV} {used : Nat → Prop}, docall c2 mode draw lo lim f (vvs args) (vm M) = some (rv, V') → Tin S f args lo M → (∀ id, usedA S f args id → own id ∧ ∀ e ∈ σ', ∀ y, getP ρ e.r e.p = some y → idV y ≠ some id) → (∀ id, usedA S f args id → lim.ok id = true) →
      ∃ r M', docall c1 mode draw lo lim f args M = some (r, M') ∧ vv r = rv ∧ vm M' = V' ∧ Fr (usedA S f args) fresh M M' ∧ (∀ id, usedA S f args id → own id ∧ ∀ e ∈ σ', ∀ y, getP ρ e.r e.p = some y → idV y ≠ some id) ∧
        Tout (S.rs f) (fun id => own id ∧ (M.nx ≤ id ∨ id = fresh ∨ usedA S f args id ∧ lim.ok id = true)) r lo M' := fun {f args used} hd hin hus hlu => by
    obtain ⟨r, M', q1, q2, q3, q4, q5⟩ := docall_v hc hS hd hlo hwf hin hL hlu
    refine ⟨r, M', q1, q2, q3, q4.mono (fun _ h => h) (.inl (Nat.le_refl _)), hus, ?_⟩
    cases hm : mode f with
    | rw =>
      obtain ⟨o1, o2⟩ := q5 hm
      exact ⟨fun q hq => by
        obtain ⟨x, g1, g2, g3⟩ := o1 q hq
        exact ⟨x, g1, g2, fun id hid => by
          rcases g3 id hid with h | h
          · exact ⟨hown id h, .inl h⟩
          · exact ⟨(hus id h).1, .inr (.inr ⟨h, hlu id h⟩)⟩⟩, o2⟩
    | pure => rw [(hS.rw f (by rw [hm]; simp)).2]; exact .nil
    | ro => rw [(hS.rw f (by rw [hm]; simp)).2]; exact .nil
  have noUse : ∀ {f : FuncId} {args : List AV}, S.ps f = [] → ∀ id, usedA S f args id → False := fun h id ⟨q, hq, _⟩ => by rw [h] at hq; simp at hq
  cases i
  case mov x => exact pure rfl (fun _ _ h => by cases h) rfl
  case pick a b c => exact pure rfl (fun _ _ h => by cases h) rfl
  case mk z ps => exact pure rfl (fun _ _ h => by cases h) rfl
  case ld1 a => exact pure rfl (fun _ _ h => by cases h) rfl
  case ldn n a => exact pure rfl (fun _ _ h => by cases h) rfl
  case nilc a => exact pure rfl (fun _ _ h => by cases h) rfl
  case bin op e x y => exact pure rfl (fun _ _ h => by cases h) rfl
  case un op x => exact pure rfl (fun _ _ h => by cases h) rfl
  case cvi k x => exact pure rfl (fun _ _ h => by cases h) rfl
  case cvs x => exact pure rfl (fun _ _ h => by cases h) rfl
  case b2s x => exact pure rfl (fun _ _ h => by cases h) rfl
  case mkf f as bs => exact pure rfl (fun _ _ h => by cases h) rfl
  case slstr x l u => exact pure rfl (fun _ _ h => by cases h) rfl
  case slsl s x l u => exact pure rfl (fun _ _ h => by cases h) rfl
  case fad o x => exact pure rfl (fun _ _ h => by cases h) rfl
  case fld o n g x => exact pure rfl (fun _ _ h => by cases h) rfl
  case ixs s x y => exact pure rfl (fun _ _ h => by cases h) rfl
  case ixp s l x y => exact pure rfl (fun _ _ h => by cases h) rfl
  case ixv s l g x y => exact pure rfl (fun _ _ h => by cases h) rfl
  case ixc x y => exact pure rfl (fun _ _ h => by cases h) rfl
  case lkp kk cm z m k => exact pure rfl (fun _ _ h => by cases h) rfl
  case ext x j => exact pure rfl (fun _ _ h => by cases h) rfl
  case tk x j => exact pure rfl (fun _ _ h => by cases h) rfl
  case lens x => exact pure rfl (fun _ _ h => by cases h) rfl
  case len x => exact pure rfl (fun _ _ h => by cases h) rfl
  case lenm x => exact pure rfl (fun _ _ h => by cases h) rfl
  case mmax mx x y => exact pure rfl (fun _ _ h => by cases h) rfl
  case setc o n l x => exact pure rfl (fun _ _ h => by cases h) rfl
  case new t cs =>
    simp only [vI, istep, Option.some.injEq, Prod.mk.injEq] at hV
    obtain ⟨rfl, rfl⟩ := hV
    exact ⟨_, _, fun _ => False, rfl, rfl, vm_alloc M fresh rfl, .alloc hwf hfr _, fun _ h => h.elim, .nil⟩
  case box t x =>
    simp only [vI, istep, ev_vv] at hV
    have key : ∀ y : AV, (∀ vs, y ≠ .tup vs) → (match y with | .tup _ => none | a => some (AV.ptr fresh 0, M.alloc fresh (.cells t a.cells))) = some (AV.ptr fresh 0, M.alloc fresh (.cells t y.cells)) := fun y hy => by
      split
      · exact absurd rfl (hy _)
      · rfl
    split at hV
    · cases hV
    · rename_i hnt
      simp only [Option.some.injEq, Prod.mk.injEq] at hV
      obtain ⟨rfl, rfl⟩ := hV
      have hnt' : ∀ vs, ev ρ x ≠ .tup vs := fun vs h => hnt (vvs vs) (by rw [h]; rfl)
      exact ⟨.ptr fresh 0, M.alloc fresh (.cells t (ev ρ x).cells), fun _ => False, by simp only [istep] <;> exact key _ hnt', rfl, by rw [vv_cells]; exact vm_alloc M fresh rfl, .alloc hwf hfr _, fun _ h => h.elim, .nil⟩
  case mksl t n sz z ps =>
    simp only [vI, istep, vP_ev, fill_vv, Option.map_map] at hV
    obtain ⟨cs, hf, hh⟩ := Option.map_eq_some_iff.1 hV
    simp only [Function.comp, Prod.mk.injEq] at hh
    obtain ⟨rfl, rfl⟩ := hh
    exact ⟨.os fresh 0 n sz, M.alloc fresh (.cells t cs), fun _ => False, by simp only [istep, hf, Option.map_some], rfl, vm_alloc M fresh rfl, .alloc hwf hfr _, fun _ h => h.elim, .nil⟩
  case mkmap kk =>
    simp only [vI, istep, Option.some.injEq, Prod.mk.injEq] at hV
    obtain ⟨rfl, rfl⟩ := hV
    exact ⟨_, _, fun _ => False, rfl, rfl, vm_alloc M fresh rfl, .alloc hwf hfr _, fun _ h => h.elim, .nil⟩
  case mkslice t sz b z l c =>
    simp only [vI, istep, ev_vv, vv_asI] at hV
    split at hV
    · rename_i l' c' hl hc'
      split at hV
      · rename_i hcond
        simp only [Option.some.injEq, Prod.mk.injEq] at hV
        obtain ⟨rfl, rfl⟩ := hV
        have e : vvs ((List.replicate l'.toNat z).flatten) = (List.replicate l'.toNat (vvs z)).flatten := by rw [vvs_flatten, List.map_replicate]
        exact ⟨.os fresh 0 l'.toNat sz, M.alloc fresh (.cells t ((List.replicate l'.toNat z).flatten)), fun _ => False, by simp only [istep, hl, hc', if_pos hcond], rfl, by rw [← e]; exact vm_alloc M fresh rfl, .alloc hwf hfr _, fun _ h => h.elim, .nil⟩
      · cases hV
    · cases hV
  case st n a x =>
    simp only [vI, istep, ev_vv] at hV
    split at hV
    · rename_i id off hp
      have hp' := vv_ptr hp
      split at hV
      · rename_i t vcs hlk
        obtain ⟨cs, hlk', rfl⟩ := look_cells hlk
        split at hV
        · rename_i hcond
          simp only [Option.some.injEq, Prod.mk.injEq] at hV
          obtain ⟨rfl, rfl⟩ := hV
          rw [vv_cells, vvs_len, vvs_len, vvs_one] at hcond
          refine ⟨.undef, M.put id (.cells t (setAt cs off (ev ρ x).cells)), fun _ => False, by simp only [istep, hp', hlk', if_pos hcond], rfl, ?_, .put hwf (look_some hlk').1 (fun _ _ h => by cases h), fun _ h => h.elim, .nil⟩
          rw [vv_cells, ← setAt_vv]; exact vm_put M id rfl
        · cases hV
      · cases hV
    · cases hV
  case str n r ns a x =>
    simp only [vI, istep, ev_vv, evs_vv, okStr_vv] at hV
    split at hV
    · rename_i hos
      split at hV
      · rename_i id off hp
        have hp' := vv_ptr hp
        split at hV
        · rename_i t vcs hlk
          obtain ⟨cs, hlk', rfl⟩ := look_cells hlk
          split at hV
          · rename_i hcond
            simp only [Option.some.injEq, Prod.mk.injEq] at hV
            obtain ⟨rfl, rfl⟩ := hV
            rw [vv_cells, vvs_len, vvs_len, vvs_one] at hcond
            refine ⟨.undef, M.put id (.cells t (setAt cs off (ev ρ x).cells)), fun _ => False, by simp only [istep, if_pos hos]; simp only [hp', hlk', if_pos hcond], rfl, ?_, .put hwf (look_some hlk').1 (fun _ _ h => by cases h), fun _ h => h.elim, .nil⟩
            rw [vv_cells, ← setAt_vv]; exact vm_put M id rfl
          · cases hV
        · cases hV
      · cases hV
    · cases hV
  case mset kk m k x =>
    simp only [vI, istep, ev_vv] at hV
    split at hV
    · rename_i key id hk hm
      have hk' := vv_key hk
      have hm' := vv_mp hm
      split at hV
      · rename_i kk' ves hlk
        obtain ⟨es, hlk', rfl⟩ := look_map hlk
        split at hV
        · rename_i hcond
          simp only [Option.some.injEq, Prod.mk.injEq] at hV
          obtain ⟨rfl, rfl⟩ := hV
          refine ⟨.undef, M.put id (.map kk (putM key (ev ρ x) es)), fun _ => False, by simp only [istep, hk', hm', hlk', if_pos hcond], rfl, ?_, .put hwf (look_some hlk').1 (fun _ _ h => by cases h), fun _ h => h.elim, .nil⟩
          rw [putM_vv]; exact vm_put M id rfl
        · cases hV
      · cases hV
    · cases hV
  case mdel kk m k =>
    simp only [vI, istep, ev_vv] at hV
    split at hV
    · rename_i key id hk hm
      have hk' := vv_key hk
      have hm' := vv_mp hm
      split at hV
      · rename_i kk' ves hlk
        obtain ⟨es, hlk', rfl⟩ := look_map hlk
        split at hV
        · rename_i hcond
          simp only [Option.some.injEq, Prod.mk.injEq] at hV
          obtain ⟨rfl, rfl⟩ := hV
          refine ⟨.undef, M.put id (.map kk (delM key es)), fun _ => False, by simp only [istep, hk', hm', hlk', if_pos hcond], rfl, ?_, .put hwf (look_some hlk').1 (fun _ _ h => by cases h), fun _ h => h.elim, .nil⟩
          rw [delM_vv]; exact vm_put M id rfl
        · cases hV
      · cases hV
    · cases hV
  case app t sz b z s x =>
    simp only [vI, istep, ev_vv] at hV
    have hsl : sliceCells (vm M).mem (.top (vm M).nx) sz (vv (ev ρ x)) = (sliceCells M.mem (.top M.nx) sz (ev ρ x)).map fun p => (p.1, vvs p.2) := sliceCells_vv _ _ _ _
    rw [hsl] at hV
    cases hs : sliceCells M.mem (.top M.nx) sz (ev ρ x) with
    | none => rw [hs] at hV; cases hV
    | some p =>
      obtain ⟨n, news⟩ := p
      rw [hs] at hV
      simp only [Option.map_some, vvs_one] at hV
      split at hV
      · rename_i hone
        split at hV
        · rename_i hn
          rcases dv_cases (ev ρ s) with ⟨v, e1, e2⟩ | ⟨_, e2⟩ | ⟨_, h2⟩
          · rw [e2] at hn
            rename_i hq
            have : v = .slice none 0 0 := by injection hn with hn; injection hn
            subst this
            rw [e1] at e2; simp [vv, nrm, nrmV] at e2
          · rw [e2] at hn; cases hn
          · exact absurd hn (h2 _)
        · rename_i id len s' hos
          have hos' := vv_os hos
          split at hV
          · rename_i t' vcs hlk
            obtain ⟨cs, hlk', rfl⟩ := look_cells hlk
            split at hV
            · rename_i hcond
              simp only [Option.some.injEq, Prod.mk.injEq] at hV
              obtain ⟨rfl, rfl⟩ := hV
              rw [vvs_len, vvs_len] at hcond
              have hm := (look_some hlk').1
              refine ⟨.os fresh 0 (len + n) sz, { nx := max M.nx (fresh + 1), mem := upd (upd M.mem id none) fresh (some (.cells t (cs.take (len * sz) ++ news))) }, fun _ => False, ?_, rfl, ?_, ?_, fun _ h => h.elim, .nil⟩
              · have hlk2 : look M.mem (.top M.nx) id = some (.cells t' cs) := hlk'
                simp only [istep, hs, hone, if_true, hos', hlk2, if_pos hcond]
              · simp only [vm, vmem_upd, vmB, vvs_append, vvs_take]
                congr 1
                funext k
                simp only [upd]
                split
                · rfl
                · simp only [vmem, upd]; split <;> rfl
              · refine ⟨Nat.le_max_left _ _, fun k hk => ?_, fun k t0 u _ hk => ?_, fun k _ hne hk => ?_, fun k _ hne hk => ?_⟩
                · simp only [upd] at hk ⊢
                  split at hk
                  · omega
                  · split at hk
                    · exact absurd rfl hk
                    · have := hwf k hk; omega
                · simp only [upd]
                  rw [if_neg (fun e => by subst e; rw [hfr] at hk; cases hk), if_neg (fun e => by subst e; rw [hm] at hk; cases hk)]
                  exact hk
                · simp only [upd]; rw [if_neg hne]; split
                  · rfl
                  · exact hk
                · simp only [vmem, upd] at hk ⊢; rw [if_neg hne]; split
                  · rfl
                  · exact hk
            · cases hV
          · cases hV
        · cases hV
      · cases hV
  case vsl t n sz z ps =>
    simp only [vI, istep, vP_ev, fill_vv] at hV
    cases hf : fill z (ps.map fun p => (p.1, p.2.1, ev ρ p.2.2)) with
    | none => rw [hf] at hV; cases hV
    | some cs =>
      rw [hf] at hV
      simp only [Option.map_some, toDs_vv, Option.map_map] at hV
      obtain ⟨ds, hds, hh⟩ := Option.map_eq_some_iff.1 hV
      simp only [Function.comp, Prod.mk.injEq] at hh
      obtain ⟨rfl, rfl⟩ := hh
      refine ⟨.ov fresh ds n sz, M.alloc fresh (.tok t (n * sz)), fun _ => False, by simp only [istep, hf, hds, Option.map_some], by simp only [vv, nrm], vm_tok M fresh hfr _ _, .alloc hwf hfr _, fun _ h => h.elim,
        .one (.inr (.inr ⟨fresh, ds, n, t, sz, rfl, rfl, hlof, by simp [MM.alloc, upd]⟩)) (fun id hid => ?_)⟩
      simp only [idV, Option.some.injEq] at hid; subst hid; exact ⟨hownf, .inr (.inl rfl)⟩
  case wsl n z ps =>
    simp only [vI, istep, vP_ev, fill_vv] at hV
    cases hf : fill z (ps.map fun p => (p.1, p.2.1, ev ρ p.2.2)) with
    | none => rw [hf] at hV; cases hV
    | some cs =>
      rw [hf] at hV
      simp only [Option.map_some, toDs_vv, Option.map_map] at hV
      obtain ⟨ds, hds, hh⟩ := Option.map_eq_some_iff.1 hV
      simp only [Function.comp, Prod.mk.injEq] at hh
      obtain ⟨rfl, rfl⟩ := hh
      exact ⟨.d (.sl ds n), M.up fresh, fun _ => False, by simp only [istep, hf, hds, Option.map_some], by simp only [vv, nrm], vm_up M fresh, .up hwf, fun _ h => h.elim, .nil⟩
  case vmk t sz b z l c =>
    simp only [vI, istep, ev_vv, vv_asI] at hV
    split at hV
    · rename_i l' c' hl hc'
      split at hV
      · rename_i hcond
        have e : (List.replicate l'.toNat (vvs z)).flatten = vvs ((List.replicate l'.toNat z).flatten) := by rw [vvs_flatten, List.map_replicate]
        rw [e, toDs_vv, Option.map_map] at hV
        obtain ⟨ds, hds, hh⟩ := Option.map_eq_some_iff.1 hV
        simp only [Function.comp, Prod.mk.injEq] at hh
        obtain ⟨rfl, rfl⟩ := hh
        refine ⟨.ov fresh ds l'.toNat sz, M.alloc fresh (.tok t (l'.toNat * sz)), fun _ => False, by simp only [istep, hl, hc', if_pos hcond, hds, Option.map_some], by simp only [vv, nrm], vm_tok M fresh hfr _ _, .alloc hwf hfr _, fun _ h => h.elim,
          .one (.inr (.inr ⟨fresh, ds, l'.toNat, t, sz, rfl, rfl, hlof, by simp [MM.alloc, upd]⟩)) (fun id hid => ?_)⟩
        simp only [idV, Option.some.injEq] at hid; subst hid; exact ⟨hownf, .inr (.inl rfl)⟩
      · cases hV
    · cases hV
  case vapp t sz b z s x =>
    simp only [useI] at hu
    obtain ⟨_, hk, hko, hkd, hkl⟩ := useX_ok hu hT
    simp only [vI] at hV
    split at hV
    · rename_i hz
      simp only [istep, ev_vv] at hV
      have hsl : sliceCells (vm M).mem lim sz (vv (ev ρ x)) = (sliceCells M.mem lim sz (ev ρ x)).map fun p => (p.1, vvs p.2) := sliceCells_vv _ _ _ _
      rw [hsl] at hV
      cases hs : sliceCells M.mem lim sz (ev ρ x) with
      | none => rw [hs] at hV; cases hV
      | some p =>
        obtain ⟨n, ncs⟩ := p
        rw [hs] at hV
        simp only [Option.map_some, toDs_vv] at hV
        cases hn : ncs.mapM toD with
        | none => rw [hn] at hV; cases hV
        | some news =>
          rw [hn] at hV
          simp only [Option.map_some] at hV
          rcases hk with he | he | ⟨id, ds, len, a, sz', he, hty, hlo', hm⟩
          · rw [he] at hV
            have evn : vv .nilsl = .d (.sl [] 0) := rfl
            rw [evn] at hV
            simp only at hV
            split at hV
            · rename_i hcond
              simp only [Option.some.injEq, Prod.mk.injEq] at hV
              obtain ⟨rfl, rfl⟩ := hV
              simp only [Nat.zero_add] at hcond
              by_cases h0 : n = 0
              · have hnl : news = [] := by
                  have h1 := sliceCells_len hs
                  have h2 := (mapM_get hn).1
                  exact List.eq_nil_of_length_eq_zero (by rw [← h2, h1, h0, Nat.zero_mul])
                subst h0; subst hnl
                exact ⟨.nilsl, M.up fresh, fun _ => False, by simp only [istep, hs, hn, he, if_true], rfl, vm_up M fresh, .up hwf, fun _ h => h.elim, .one (.inl rfl) (fun id hid => by simp [idV] at hid)⟩
              · refine ⟨.ov fresh news n sz, M.alloc fresh (.tok t (n * sz)), fun _ => False, ?_, by simp only [vv, nrm, List.nil_append, Nat.zero_add], vm_tok M fresh hfr _ _, .alloc hwf hfr _, fun _ h => h.elim,
                  .one (.inr (.inr ⟨fresh, news, n, t, sz, rfl, rfl, hlof, by simp [MM.alloc, upd]⟩)) (fun id hid => ?_)⟩
                · simp only [istep, hs, hn, he, if_neg h0]; rw [if_pos ⟨hcond.1, hcond.2, hz⟩]
                · simp only [idV, Option.some.injEq] at hid; subst hid; exact ⟨hownf, .inr (.inl rfl)⟩
            · cases hV
          · rw [he, vv_undef] at hV; cases hV
          · simp only [Option.some.injEq, Prod.mk.injEq] at hty
            obtain ⟨rfl, rfl⟩ := hty
            rw [he] at hV hko hkd
            have evo : vv (.ov id ds len sz) = .d (.sl (nrms ds) len) := rfl
            rw [evo] at hV
            simp only at hV
            split at hV
            · rename_i hcond
              simp only [Option.some.injEq, Prod.mk.injEq] at hV
              obtain ⟨rfl, rfl⟩ := hV
              have hidlt := hwf id (by rw [hm]; simp)
              have hne : id ≠ fresh := fun e => by rw [e, hfr] at hm; cases hm
              have hlk : look M.mem lim id = some (.tok t (len * sz)) := by
                rw [look_ok]
                · exact hm
                · obtain ⟨e, g1, g2, g3⟩ := hkl id (by rw [he]; rfl)
                  exact hlm e g1 g2 _ id g3 (by rw [he]; rfl)
              refine ⟨.ov fresh (ds ++ news) (len + n) sz, { nx := max M.nx (fresh + 1), mem := upd (upd M.mem id none) fresh (some (.tok t ((len + n) * sz))) }, fun k => k = id, ?_, by simp only [vv, nrm, nrms_append], vm_move M fresh id hfr hm _ _, ?_,
                fun k hk => ?_, .one (.inr (.inr ⟨fresh, ds ++ news, len + n, t, sz, rfl, rfl, hlof, by simp [upd]⟩)) (fun k hk => ?_)⟩
              · simp only [istep, hs, hn, he, hlk]; rw [if_pos (by refine ⟨hlo', ?_, ?_, ?_, hcond.1, hcond.2, hz⟩ <;> trivial)]
              · refine ⟨Nat.le_max_left _ _, fun k hk => ?_, fun k t0 u hnk hk => ?_, fun k _ hnf hk => ?_, fun k _ hnf hk => ?_⟩
                · simp only [upd] at hk ⊢
                  split at hk
                  · omega
                  · split at hk
                    · exact absurd rfl hk
                    · have := hwf k hk; omega
                · simp only [upd]
                  rw [if_neg (fun e => by subst e; rw [hfr] at hk; cases hk), if_neg hnk]
                  exact hk
                · simp only [upd]; rw [if_neg hnf]; split
                  · rfl
                  · exact hk
                · simp only [vmem, upd] at hk ⊢; rw [if_neg hnf]; split
                  · rfl
                  · exact hk
              · subst hk; exact ⟨hko k rfl, hkd k rfl⟩
              · simp only [idV, Option.some.injEq] at hk; subst hk; exact ⟨hownf, .inr (.inl rfl)⟩
            · cases hV
    · simp only [istep] at hV; cases hV
  case vext t sz b z s x =>
    simp only [useI] at hu
    obtain ⟨_, hk, hko, hkd, hkl⟩ := useX_ok hu hT
    simp only [vI, istep, ev_vv, zrep_vv] at hV
    cases hn : zrep z (ev ρ x) with
    | none => rw [hn] at hV; cases hV
    | some p =>
      obtain ⟨n, news⟩ := p
      rw [hn] at hV
      simp only [Option.map_some, vvs_len] at hV
      split at hV
      · rename_i hz
        rcases hk with he | he | ⟨id, ds, len, a, sz', he, hty, hlo', hm⟩
        · rw [he] at hV
          have evn : vv .nilsl = .d (.sl [] 0) := rfl
          rw [evn] at hV
          simp only at hV
          split at hV
          · rename_i hcond
            simp only [Option.some.injEq, Prod.mk.injEq] at hV
            obtain ⟨rfl, rfl⟩ := hV
            simp only [Nat.zero_add] at hcond
            by_cases h0 : n = 0
            · have hnl : news = [] := by subst h0; exact zrep_zero hn
              subst h0; subst hnl
              exact ⟨.nilsl, M.up fresh, fun _ => False, by simp only [istep, hn, he, if_pos hz, if_true], rfl, vm_up M fresh, .up hwf, fun _ h => h.elim, .one (.inl rfl) (fun id hid => by simp [idV] at hid)⟩
            · refine ⟨.ov fresh news n sz, M.alloc fresh (.tok t (n * sz)), fun _ => False, ?_, by simp only [vv, nrm, List.nil_append, Nat.zero_add], vm_tok M fresh hfr _ _, .alloc hwf hfr _, fun _ h => h.elim,
                .one (.inr (.inr ⟨fresh, news, n, t, sz, rfl, rfl, hlof, by simp [MM.alloc, upd]⟩)) (fun id hid => ?_)⟩
              · simp only [istep, hn, he, if_pos hz, if_neg h0]; rw [if_pos ⟨hcond.1, hcond.2, hz⟩]
              · simp only [idV, Option.some.injEq] at hid; subst hid; exact ⟨hownf, .inr (.inl rfl)⟩
          · cases hV
        · rw [he, vv_undef] at hV; cases hV
        · simp only [Option.some.injEq, Prod.mk.injEq] at hty
          obtain ⟨rfl, rfl⟩ := hty
          rw [he] at hV hko hkd
          have evo : vv (.ov id ds len sz) = .d (.sl (nrms ds) len) := rfl
          rw [evo] at hV
          simp only at hV
          split at hV
          · rename_i hcond
            simp only [Option.some.injEq, Prod.mk.injEq] at hV
            obtain ⟨rfl, rfl⟩ := hV
            have hidlt := hwf id (by rw [hm]; simp)
            have hne : id ≠ fresh := fun e => by rw [e, hfr] at hm; cases hm
            have hlk : look M.mem lim id = some (.tok t (len * sz)) := by
              rw [look_ok]
              · exact hm
              · obtain ⟨e, g1, g2, g3⟩ := hkl id (by rw [he]; rfl)
                exact hlm e g1 g2 _ id g3 (by rw [he]; rfl)
            refine ⟨.ov fresh (ds ++ news) (len + n) sz, { nx := max M.nx (fresh + 1), mem := upd (upd M.mem id none) fresh (some (.tok t ((len + n) * sz))) }, fun k => k = id, ?_, by simp only [vv, nrm, nrms_append], vm_move M fresh id hfr hm _ _, ?_,
              fun k hk => ?_, .one (.inr (.inr ⟨fresh, ds ++ news, len + n, t, sz, rfl, rfl, hlof, by simp [upd]⟩)) (fun k hk => ?_)⟩
            · simp only [istep, hn, he, if_pos hz, hlk]; rw [if_pos (by refine ⟨hlo', ?_, ?_, ?_, hcond.1, hcond.2, hz⟩ <;> trivial)]
            · refine ⟨Nat.le_max_left _ _, fun k hk => ?_, fun k t0 u hnk hk => ?_, fun k _ hnf hk => ?_, fun k _ hnf hk => ?_⟩
              · simp only [upd] at hk ⊢
                split at hk
                · omega
                · split at hk
                  · exact absurd rfl hk
                  · have := hwf k hk; omega
              · simp only [upd]
                rw [if_neg (fun e => by subst e; rw [hfr] at hk; cases hk), if_neg hnk]
                exact hk
              · simp only [upd]; rw [if_neg hnf]; split
                · rfl
                · exact hk
              · simp only [vmem, upd] at hk ⊢; rw [if_neg hnf]; split
                · rfl
                · exact hk
            · subst hk; exact ⟨hko k rfl, hkd k rfl⟩
            · simp only [idV, Option.some.injEq] at hk; subst hk; exact ⟨hownf, .inr (.inl rfl)⟩
          · cases hV
      · cases hV
  case lnew cs =>
    simp only [vI, istep, Option.some.injEq, Prod.mk.injEq] at hV
    obtain ⟨rfl, rfl⟩ := hV
    exact ⟨_, _, fun _ => False, rfl, rfl, vm_up M fresh, .up hwf, fun _ h => h.elim, .nil⟩
  case lbox x =>
    simp only [vI, istep, ev_vv] at hV
    split at hV
    · cases hV
    · rename_i hnt
      simp only [Option.some.injEq, Prod.mk.injEq] at hV
      obtain ⟨rfl, rfl⟩ := hV
      have hnt' : ∀ vs, ev ρ x ≠ .tup vs := fun vs h => hnt (vvs vs) (by rw [h]; rfl)
      have key : ∀ y : AV, (∀ vs, y ≠ .tup vs) → (match y with | .tup _ => none | a => some (AV.agg a.cells, M.up fresh)) = some (AV.agg y.cells, M.up fresh) := fun y hy => by
        split
        · exact absurd rfl (hy _)
        · rfl
      exact ⟨.agg (ev ρ x).cells, M.up fresh, fun _ => False, by simp only [istep] <;> exact key _ hnt', by simp only [vv, vv_cells], vm_up M fresh, .up hwf, fun _ h => h.elim, .nil⟩
  case ld1r r a =>
    simp only [vI, istep, ev_vv, okRoot_vv] at hV
    split at hV
    · rename_i ho
      obtain ⟨y, hy, hh⟩ := Option.map_eq_some_iff.1 hV
      simp only [Prod.mk.injEq] at hh
      obtain ⟨rfl, rfl⟩ := hh
      have e : ld1I (vm M).mem lim (vv (ev ρ a)) = (ld1I M.mem lim (ev ρ a)).map vv := by rw [ld1I_eqA, ld1I_eqA]; exact ld1A_vv _ _ _
      rw [e] at hy
      obtain ⟨x, hx, rfl⟩ := Option.map_eq_some_iff.1 hy
      exact ⟨x, M, fun _ => False, by simp only [istep, ho, if_true, hx, Option.map_some], rfl, rfl, .refl hwf, fun _ h => h.elim, .nil⟩
    · cases hV
  case ldnr n r a =>
    simp only [vI, istep, ev_vv, okRoot_vv] at hV
    split at hV
    · rename_i ho
      obtain ⟨y, hy, hh⟩ := Option.map_eq_some_iff.1 hV
      simp only [Prod.mk.injEq] at hh
      obtain ⟨rfl, rfl⟩ := hh
      have e : ldnI (vm M).mem lim n (vv (ev ρ a)) = (ldnI M.mem lim n (ev ρ a)).map vv := by rw [ldnI_eqA, ldnI_eqA]; exact ldnA_vv _ _ _ _
      rw [e] at hy
      obtain ⟨x, hx, rfl⟩ := Option.map_eq_some_iff.1 hy
      exact ⟨x, M, fun _ => False, by simp only [istep, ho, if_true, hx, Option.map_some], rfl, rfl, .refl hwf, fun _ h => h.elim, .nil⟩
    · cases hV
  case call f args =>
    simp only [useI] at hu
    obtain ⟨u1, u2, u3, u4, u5⟩ := useArgs_ok hu hT
    have hlu : ∀ id, usedA S f (args.map (ev ρ)) id → lim.ok id = true := fun id ⟨q, hq, x, hx, hid⟩ => by
      obtain ⟨e, g1, g2, g3⟩ := u5 q hq x id hx hid
      exact hlm e g1 g2 x id g3 hid
    simp only [vI, istep, evs_vv] at hV
    obtain ⟨r, M', q1, q2, q3, q4, q5, q6⟩ := docallC (used := fun _ => False) hV ⟨u2, u3⟩ (fun id ⟨q, hq, x, hx, hid⟩ => u4 q hq x id hx hid) hlu
    exact ⟨r, M', _, q1, q2, q3, q4, q5, q6⟩
  case callv x args =>
    simp only [vI, istep, ev_vv, evs_vv] at hV
    split at hV
    · rename_i f first cap hf
      obtain ⟨as', bs', hf', rfl, rfl⟩ := vv_fn hf
      split at hV
      · cases hV
      · rename_i hno
        have hps := hS.no f (by simpa using hno)
        rw [← vvs_append, ← vvs_append] at hV
        obtain ⟨r, M', q1, q2, q3, q4, q5, _⟩ := docallC (used := fun _ => False) hV (.none hps _ _ _) (fun id h => (noUse hps id h).elim) (fun id h => (noUse hps id h).elim)
        exact ⟨r, M', _, by simp only [istep, hf']; exact q1, q2, q3, q4, q5, .nil⟩
    · cases hV
  case callw nn x args =>
    simp only [vI, istep, ev_vv, evs_vv] at hV
    split at hV
    · rename_i f first cap hf
      obtain ⟨as', bs', hf', rfl, rfl⟩ := vv_fn hf
      split at hV
      · cases hV
      · rename_i hno
        have hn2 : S.no.contains f = false := Bool.eq_false_iff.2 fun h => hno (by rw [List.contains_iff_mem] at h ⊢; exact List.mem_append_right _ h)
        have hnn : ¬ nn.contains f = true := fun h => hno (by rw [List.contains_iff_mem] at h ⊢; exact List.mem_append_left _ h)
        have hps := hS.no f hn2
        rw [← vvs_append, ← vvs_append] at hV
        obtain ⟨r, M', q1, q2, q3, q4, q5, _⟩ := docallC (used := fun _ => False) hV (.none hps _ _ _) (fun id h => (noUse hps id h).elim) (fun id h => (noUse hps id h).elim)
        exact ⟨r, M', _, by simp only [istep, hf', if_neg hnn]; exact q1, q2, q3, q4, q5, .nil⟩
    · cases hV
  case callk f args roots =>
    simp only [useI] at hu
    obtain ⟨u1, u2, u3, u4, u5⟩ := useArgs_ok hu hT
    have hlu : ∀ id, usedA S f (args.map (ev ρ)) id → lim.ok id = true := fun id ⟨q, hq, x, hx, hid⟩ => by
      obtain ⟨e, g1, g2, g3⟩ := u5 q hq x id hx hid
      exact hlm e g1 g2 x id g3 hid
    simp only [vI, istep, evs_vv] at hV
    split at hV
    · rename_i r0 M0 hd
      split at hV
      · rename_i hk
        simp only [Option.some.injEq, Prod.mk.injEq] at hV
        obtain ⟨rfl, rfl⟩ := hV
        have hd' : ∃ r M', docall c1 mode draw lo lim f (args.map (ev ρ)) M = some (r, M') ∧ vv r = r0 ∧ vm M' = M0 ∧ Fr (usedA S f (args.map (ev ρ))) fresh M M' ∧ (∀ id, usedA S f (args.map (ev ρ)) id → own id ∧ ∀ e ∈ σ', ∀ y, getP ρ e.r e.p = some y → idV y ≠ some id) ∧
            Tout (S.rs f) (fun id => own id ∧ (M.nx ≤ id ∨ id = fresh ∨ usedA S f (args.map (ev ρ)) id ∧ lim.ok id = true)) r lo M' := docallC (used := fun _ => False) hd ⟨u2, u3⟩ (fun id ⟨q, hq, x, hx, hid⟩ => u4 q hq x id hx hid) hlu
        obtain ⟨r, M', q1, q2, q3, q4, q5, q6⟩ := hd'
        refine ⟨r, M', _, ?_, q2, q3, q4, q5, q6⟩
        simp only [istep, q1]
        rw [if_pos]
        rw [List.all_map] at hk
        rw [List.all_eq_true] at hk ⊢
        intro x hx
        have hk1 := hk x hx
        simp only [Function.comp, ev_vv] at hk1
        simp only [rootsAg] at hr
        have hr1 := List.all_eq_true.1 hr x hx
        cases x with
        | k a => cases hr1
        | t L =>
          simp only [Bool.or_eq_true] at hr1
          rcases hr1 with hr1 | hr1
          · obtain ⟨L', hL', he⟩ := List.any_eq_true.1 hr1
            have : L = L' := Nat.eq_of_beq_eq_true he
            subst this
            obtain ⟨y, hy, ho⟩ := hA L hL'
            have hev : ev ρ (.t L) = y := by simp only [ev, List.getD_eq_getElem?_getD, hy, Option.getD_some]
            rw [hev] at hk1 ⊢
            rcases ho with ⟨cs, rfl⟩ | rfl
            · simp only [vv, kept] at hk1 ⊢
              exact eqAs_vv cs hk1
            · simp [vv, kept] at hk1
          · obtain ⟨e, he⟩ := Option.isSome_iff_exists.1 hr1
            obtain ⟨g1, rfl, g3⟩ := findT_ok he
            obtain ⟨y, hy, hk, _⟩ := hT.each e g1
            have hy' : ρ[e.r]? = some y := by
              rw [g3] at hy
              simp only [getP, getR] at hy
              cases hq : ρ[e.r]? with
              | none => rw [hq] at hy; cases hy
              | some z => rw [hq] at hy; exact hy
            have hev : ev ρ (.t e.r) = y := by simp only [ev, List.getD_eq_getElem?_getD, hy', Option.getD_some]
            rcases hk with rfl | rfl | ⟨id, ds, len, t, sz, rfl, _⟩
            · rw [hev]; rfl
            · rw [hev] at hk1; simp [vv, vvs, kept] at hk1
            · rw [hev]; rfl
      · cases hV
    · cases hV
  all_goals (simp only [vI, istep] at hV; cases hV)
end
end Go.Proofs.Ytegkhdflmboljaa.Sx
