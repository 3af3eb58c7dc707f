/-
  SX, PART F: THE ABSTRACT MACHINE IN CONTINUATION FORM: what 'gen.py' prints each function as. 'execC_eq': it is 'exec'.
-/
import Derived.Test.YtabhppamkhldeaaSxE
namespace Go.Proofs.Ytabhppamkhldeaa.Sx
open Go
section
variable {R : Type}

def bnd (o : Option (AV × MM)) (k : AV → MM → Option R) : Option R :=
  match o with
  | some (v, M) => k v M
  | none => none

def opt {A : Type} (o : Option A) (k : A → Option R) : Option R :=
  match o with
  | some v => k v
  | none => none

def isB (x : AV) (k : Bool → Option R) : Option R :=
  match x with
  | .d (.v (.bool b)) => k b
  | _ => none

/-- A guarded operation. -/
def gd (x : AV) (b : Bool) (M : MM) (o : Option (AV × MM)) : Option (AV × MM) :=
  match x with
  | .d (.v (.bool t)) => if t == b then o else some (.undef, M)
  | .tup [] => some (.undef, M)
  | _ => none

def pickA (c a b : AV) : Option AV :=
  match c with
  | .d (.v (.bool t)) => some (if t then a else b)
  | _ => none

def boxA (t : TypeId) (fresh : Nat) (M : MM) (a : AV) : Option (AV × MM) :=
  match a with
  | .tup _ => none
  | a => some (.ptr fresh 0, M.alloc fresh (.cells t a.cells))

def ld1A (lk : Nat → Option Blk) (a : AV) : Option AV :=
  match a with
  | .ptr id off => match lk id with
    | some (.cells _ cs) => cs[off]?
    | _ => none
  | .ip ds => (ds[0]?).map .d
  | _ => none

def nilcA (a : AV) : Option AV :=
  match a with
  | .ptr id off => some (.ptr id off)
  | .ip ds => some (.ip ds)
  | .fn f a b => some (.fn f a b)
  | _ => none

def cviA (k : IntKind) (a : AV) : Option AV :=
  match a with
  | .d (.v (.int _ n)) => some (.int k (k.wrap n))
  | _ => none

def fadA (off : Nat) (a : AV) : Option AV :=
  match a with
  | .ptr id o => some (.ptr id (o + off))
  | .ip ds => some (.ip (ds.drop off))
  | _ => none

def extA (i : Nat) (a : AV) : Option AV :=
  match a with
  | .tup vs => vs[i]?
  | _ => none

def lensA (a : AV) : Option AV :=
  match a with
  | .d (.v (.string s)) => some (.i s.data.size)
  | _ => none

def lenA (a : AV) : Option AV :=
  match a with
  | .d (.sl _ n) => some (.i n)
  | .d (.v (.slice none 0 0)) => some (.i 0)
  | .os _ _ len _ => some (.i len)
  | _ => none

def ixsA (sz : Nat) (x i : AV) : Option AV :=
  match asI i with
  | some n => match x with
    | .os id off len _ => if 0 ≤ n ∧ n < (len : Int) then some (.ptr id (off + n.toNat * sz)) else none
    | .d (.sl ds len) => if 0 ≤ n ∧ n < (len : Int) then some (.ip (ds.drop (n.toNat * sz))) else none
    | _ => none
  | none => none

def ixcA (x i : AV) : Option AV :=
  match x, asI i with
  | .d (.v (.string s)), some n => if 0 ≤ n then (s.data[n.toNat]?).map fun b => .int .u8 b.toNat else none
  | _, _ => none

/-- A call without memory; a call that reads the caller's memory. -/
def puC (call : CallT) (lim : Nat) (f : FuncId) (args : List AV) (M : MM) : Option (AV × MM) :=
  match args.mapM (snap (look M.mem lim)) with
  | some args' =>
    match call f args' 0 ⟨0, fun _ => none⟩ with
    | some (r, M') =>
      match freeze M'.mem 0 r with
      | some r' => if args.all closedA || scalT r' then some (r', M) else none
      | none => none
    | none => none
  | none => none

def roC (call : CallT) (lim : Nat) (f : FuncId) (args : List AV) (M : MM) : Option (AV × MM) :=
  match call f args M.nx ⟨M.nx, look M.mem lim⟩ with
  | some (r, M') => (freeze M'.mem M.nx r).map (·, M)
  | none => none

/-- A result that lies in a cell. -/
def cellA (n : Nat) (agg : Bool) (x : AV) (M : MM) : Option AV :=
  match x with
  | .ptr id off => match M.mem id with
    | some (.cells _ cs) => if agg then (if off + n ≤ cs.length then some (.agg ((cs.drop off).take n)) else none) else cs[off]?
    | _ => none
  | _ => none

def resL (xs : List (Option AV)) : Option AV :=
  match xs.mapM id with
  | some [v] => some v
  | some vs => some (.tup vs)
  | none => none

/-- An instruction that turns no memory. -/
def pureI (lk : Nat → Option Blk) (ρ : List AV) : I → Option (Option AV)
  | .mov x => some (some (ev ρ x))
  | .pick c a b => some (pickA (ev ρ c) (ev ρ a) (ev ρ b))
  | .bin op e x y => some (binA op e (ev ρ x) (ev ρ y))
  | .un op x => some (unA op (ev ρ x))
  | .ld1 a => some (ld1A lk (ev ρ a))
  | .nilc a => some (nilcA (ev ρ a))
  | .cvi k x => some (cviA k (ev ρ x))
  | .fad off x => some (fadA off (ev ρ x))
  | .ext x i => some (extA i (ev ρ x))
  | .lens x => some (lensA (ev ρ x))
  | .len x => some (lenA (ev ρ x))
  | .ixs sz x i => some (ixsA sz (ev ρ x) (ev ρ i))
  | .ixc x i => some (ixcA (ev ρ x) (ev ρ i))
  | .mk zero parts => some ((fill zero (parts.map fun p => (p.1, p.2.1, ev ρ p.2.2))).map .agg)
  | _ => none

theorem pureI_eq {call : CallT} {mode : FuncId → Mode} {draw : Bool} {lo lim fresh : Nat} {i : I} {ρ : List AV} {M : MM} {o : Option AV}
    (h : pureI (look M.mem lim) ρ i = some o) : istep call mode draw lo lim fresh i ρ M = o.map (·, M) := by
  cases i <;> simp only [pureI, Option.some.injEq, reduceCtorEq] at h <;> subst h <;> simp only [istep, Option.map_some]
  all_goals first | rfl | skip
  case pick c a b => generalize ev ρ c = x; unfold pickA; split <;> first | rfl | (split <;> first | rfl | simp_all)
  case ld1 a =>
    generalize ev ρ a = x; unfold ld1A
    cases x with
    | ptr id off =>
      dsimp only
      cases look M.mem lim id with
      | none => rfl
      | some b => cases b <;> rfl
    | ip cs => simp only [Option.map_map]; rfl
    | _ => rfl
  case nilc a => generalize ev ρ a = x; cases x <;> rfl
  case cvi k a => generalize ev ρ a = x; unfold cviA; split <;> first | rfl | (split <;> first | rfl | simp_all)
  case fad o a => generalize ev ρ a = x; cases x <;> rfl
  case ext a i => generalize ev ρ a = x; cases x <;> rfl
  case lens a => generalize ev ρ a = x; unfold lensA; split <;> first | rfl | (split <;> first | rfl | simp_all)
  case len a =>
    generalize ev ρ a = x; unfold lenA
    cases x with
    | d d => cases d with
      | sl => rfl
      | v v => cases v <;> first | rfl | (split <;> first | rfl | (split <;> first | rfl | simp_all))
    | _ => rfl
  case ixs sz a i =>
    generalize ev ρ a = x; generalize ev ρ i = y; unfold ixsA
    cases asI y with
    | none => rfl
    | some n =>
      dsimp only
      cases x with
      | os id off len s => dsimp only; split <;> rfl
      | d d => cases d with
        | sl ds len => dsimp only; split <;> rfl
        | v v => rfl
      | _ => rfl
  case ixc a i =>
    generalize ev ρ a = x; generalize ev ρ i = y; unfold ixcA
    generalize asI y = z
    split
    · dsimp only; split
      · simp only [Option.map_map]; rfl
      · rfl
    · rename_i h
      split
      · exact absurd rfl (h _ _ rfl)
      · rfl
  case mk => simp only [Option.map_map]; rfl

/-- An operand, a register's new content: handed on. -/
def getK : List AV → Nat → (AV → Option R) → Option R
  | [], _, k => k .undef
  | a :: _, 0, k => k a
  | _ :: l, n + 1, k => getK l n k

theorem getK_eq (k : AV → Option R) : ∀ (l : List AV) (n : Nat), getK l n k = k (l.getD n .undef)
  | [], _ => rfl
  | _ :: _, 0 => rfl
  | _ :: l, n + 1 => by simp only [getK, getK_eq k l n, List.getD_cons_succ]

def evK (ρ : List AV) (x : X) (k : AV → Option R) : Option R :=
  match x with
  | .t i => getK ρ i k
  | .k a => k a

theorem evK_eq (ρ : List AV) (x : X) (k : AV → Option R) : evK ρ x k = k (ev ρ x) := by
  cases x with
  | t i => exact getK_eq k ρ i
  | k a => rfl

def setK : List AV → Nat → AV → (List AV → Option R) → Option R
  | [], _, _, k => k []
  | _ :: l, 0, v, k => k (v :: l)
  | a :: l, n + 1, v, k => setK l n v fun l' => k (a :: l')

theorem setK_eq : ∀ (l : List AV) (n : Nat) (v : AV) (k : List AV → Option R), setK l n v k = k (l.set n v)
  | [], _, _, _ => rfl
  | _ :: _, 0, _, _ => rfl
  | a :: l, n + 1, v, k => by simp only [setK, setK_eq l n v, List.set_cons_succ]

def putK (ρ : List AV) (dst : Option Nat) (v : AV) (k : List AV → Option R) : Option R :=
  match dst with
  | some d => setK ρ d v k
  | none => k ρ

theorem putK_eq (ρ : List AV) (dst : Option Nat) (v : AV) (k : List AV → Option R) : putK ρ dst v k = k (setO ρ dst v) := by
  cases dst with
  | none => rfl
  | some d => exact setK_eq ρ d v k

/-- What an instruction makes, handed to what follows. -/
def stepC (call : CallT) (mode : FuncId → Mode) (draw : Bool) (lo lim fresh : Nat) (i : I) (ρ : List AV) (M : MM) (k : AV → MM → Option R) : Option R :=
  match i with
  | .mov x => evK ρ x fun v => k v M
  | .pick c a b => opt (pickA (ev ρ c) (ev ρ a) (ev ρ b)) fun v => k v M
  | .bin op e x y => opt (binA op e (ev ρ x) (ev ρ y)) fun v => k v M
  | .un op x => opt (unA op (ev ρ x)) fun v => k v M
  | .ld1 a => opt (ld1A (look M.mem lim) (ev ρ a)) fun v => k v M
  | .nilc a => opt (nilcA (ev ρ a)) fun v => k v M
  | .cvi kk x => opt (cviA kk (ev ρ x)) fun v => k v M
  | .fad off x => opt (fadA off (ev ρ x)) fun v => k v M
  | .ext x i => opt (extA i (ev ρ x)) fun v => k v M
  | .lens x => opt (lensA (ev ρ x)) fun v => k v M
  | .len x => opt (lenA (ev ρ x)) fun v => k v M
  | .ixs sz x i => opt (ixsA sz (ev ρ x) (ev ρ i)) fun v => k v M
  | .ixc x i => opt (ixcA (ev ρ x) (ev ρ i)) fun v => k v M
  | .mk zero parts => opt ((fill zero (parts.map fun p => (p.1, p.2.1, ev ρ p.2.2))).map .agg) fun v => k v M
  | .call f args => bnd (docall call mode draw lo lim f (args.map (ev ρ)) M) k
  | i => bnd (istep call mode draw lo lim fresh i ρ M) k

theorem bnd_map (o : Option AV) (M : MM) (k : AV → MM → Option R) : bnd (o.map (·, M)) k = opt o fun v => k v M := by cases o <;> rfl

theorem stepC_eq (call : CallT) (mode : FuncId → Mode) (draw : Bool) (lo lim fresh : Nat) (i : I) (ρ : List AV) (M : MM) (k : AV → MM → Option R) :
    stepC call mode draw lo lim fresh i ρ M k = bnd (istep call mode draw lo lim fresh i ρ M) k := by
  cases i
  case mov x => exact evK_eq ρ x _
  all_goals first
    | rfl
    | (rw [pureI_eq (o := _) rfl, bnd_map]; rfl)

def step1C (call : CallT) (mode : FuncId → Mode) (draw : Bool) (lo lim fresh : Nat) (o : Op1) (k : List AV → MM → Option R) (ρ : List AV) (M : MM) : Option R :=
  match o.g with
  | none => stepC call mode draw lo lim fresh o.i ρ M fun v M => putK ρ o.dst v fun ρ => k ρ M
  | some (g, b) => bnd (gd (ρ.getD g (.agg [])) b M (istep call mode draw lo lim fresh o.i ρ M)) fun v M => putK ρ o.dst v fun ρ => k ρ M

theorem step1C_eq (call : CallT) (mode : FuncId → Mode) (draw : Bool) (lo lim fresh : Nat) (o : Op1) (k : List AV → MM → Option R) (ρ : List AV) (M : MM) :
    step1C call mode draw lo lim fresh o k ρ M = match step1 call mode draw lo lim fresh o ⟨ρ, M⟩ with | some s' => k s'.ρ s'.M | none => none := by
  unfold step1C step1
  simp only [putK_eq]
  cases hg : o.g with
  | none =>
    simp only [want, stepC_eq]
    cases istep call mode draw lo lim fresh o.i ρ M with
    | none => rfl
    | some p => rfl
  | some p =>
    obtain ⟨g, b⟩ := p
    simp only [want]
    rw [List.getD_eq_getElem?_getD]
    cases ρ[g]? with
    | none => rfl
    | some x =>
      simp only [Option.getD_some]
      unfold gd
      split
      · rename_i t
        by_cases ht : t == b
        · simp only [ht, if_true]
          cases istep call mode draw lo lim fresh o.i ρ M with
          | none => rfl
          | some p => rfl
        · have ht' : (t == b) = false := by simpa using ht
          simp only [ht', Bool.false_eq_true, if_false]; rfl
      · rfl
      · rename_i h1 h2
        cases x with
        | d d => cases d with
          | sl => rfl
          | v v => cases v <;> first | rfl | exact (h1 _ rfl).elim
        | tup vs => cases vs with
          | nil => exact (h2 rfl).elim
          | cons => rfl
        | _ => rfl

def regC (call : CallT) (mode : FuncId → Mode) (lo : Nat) : List Op1 → (List AV → MM → Option R) → List AV → MM → Option R
  | [], k, ρ, M => k ρ M
  | o :: r, k, ρ, M => step1C call mode false lo M.nx M.nx o (regC call mode lo r k) ρ M

theorem regC_eq (call : CallT) (mode : FuncId → Mode) (lo : Nat) (k : List AV → MM → Option R) : ∀ (ops : List Op1) (ρ : List AV) (M : MM),
    regC call mode lo ops k ρ M = match regN call mode lo ops ⟨ρ, M⟩ with | some s' => k s'.ρ s'.M | none => none
  | [], _, _ => rfl
  | o :: r, ρ, M => by
    simp only [regC, regN, step1C_eq]
    cases step1 call mode false lo M.nx M.nx o ⟨ρ, M⟩ with
    | none => rfl
    | some s' => exact regC_eq call mode lo k r s'.ρ s'.M

def regDC (call : CallT) (mode : FuncId → Mode) (lo base : Nat) : List Op1 → Nat → (List AV → MM → Option R) → List AV → MM → Option R
  | [], _, k, ρ, M => k ρ M
  | o :: r, i, k, ρ, M => step1C call mode true lo base (base + i) o (regDC call mode lo base r (i + 1) k) ρ M

theorem regDC_eq (call : CallT) (mode : FuncId → Mode) (lo base : Nat) (k : List AV → MM → Option R) : ∀ (ops : List Op1) (i : Nat) (ρ : List AV) (M : MM),
    regDC call mode lo base ops i k ρ M = match regD call mode lo base ops i ⟨ρ, M⟩ with | some s' => k s'.ρ s'.M | none => none
  | [], _, _, _ => rfl
  | o :: r, i, ρ, M => by
    simp only [regDC, regD, step1C_eq]
    cases step1 call mode true lo base (base + i) o ⟨ρ, M⟩ with
    | none => rfl
    | some s' => exact regDC_eq call mode lo base k r (i + 1) s'.ρ s'.M

def MM.bump (M : MM) (k : Nat) : MM := ⟨M.nx + k, M.mem⟩

def iterC (f : (List AV → MM → Option R) → List AV → MM → Option R) : Nat → List AV → MM → Option R
  | 0, _, _ => none
  | n + 1, ρ, M => f (iterC f n) ρ M

def execC (call : CallT) (mode : FuncId → Mode) (lo nl : Nat) : K → (List AV → MM → Option R) → (Nat → List AV → MM → Option R) → (List AV → MM → Option R) → List AV → MM → Option R
  | .skip, k, _, _, ρ, M => k ρ M
  | .reg ops, k, _, _, ρ, M => regC call mode lo ops k ρ M
  | .drg ops, k, _, _, ρ, M => regDC call mode lo M.nx ops 0 k ρ (M.bump ops.length)
  | .seq a b, k, e, r, ρ, M => execC call mode lo nl a (execC call mode lo nl b k e r) e r ρ M
  | .cond c a b, k, e, r, ρ, M => isB (ev ρ c) fun t => if t then execC call mode lo nl a k e r ρ M else execC call mode lo nl b k e r ρ M
  | .block id a, k, e, r, ρ, M => execC call mode lo nl a k (fun i ρ M => if i = id then k ρ M else e i ρ M) r ρ M
  | .loop a, _, e, r, ρ, M => iterC (fun k ρ M => execC call mode lo nl a k e r ρ M) nl ρ M
  | .exit id, _, e, _, ρ, M => e id ρ M
  | .ret, _, _, r, ρ, M => r ρ M

def fin (k : List AV → MM → Option R) (e : Nat → List AV → MM → Option R) (r : List AV → MM → Option R) : Option (Ex × St) → Option R
  | some (.normal, s) => k s.ρ s.M
  | some (.exit i, s) => e i s.ρ s.M
  | some (.ret, s) => r s.ρ s.M
  | none => none

theorem iterC_eq {f : St → Option (Ex × St)} {g : (List AV → MM → Option R) → List AV → MM → Option R} {e : Nat → List AV → MM → Option R} {r : List AV → MM → Option R}
    (h : ∀ k ρ M, g k ρ M = fin k e r (f ⟨ρ, M⟩)) (k : List AV → MM → Option R) : ∀ n ρ M, iterC g n ρ M = fin k e r (iter f n ⟨ρ, M⟩)
  | 0, _, _ => rfl
  | n + 1, ρ, M => by
    simp only [iterC, iter, h]
    cases f ⟨ρ, M⟩ with
    | none => rfl
    | some p =>
      obtain ⟨x, s'⟩ := p
      cases x with
      | normal => exact iterC_eq h k n s'.ρ s'.M
      | exit i => rfl
      | ret => rfl

theorem execC_eq (call : CallT) (mode : FuncId → Mode) (lo nl : Nat) : ∀ (c : K) (k : List AV → MM → Option R) (e : Nat → List AV → MM → Option R) (r : List AV → MM → Option R) (ρ : List AV) (M : MM),
    execC call mode lo nl c k e r ρ M = fin k e r (exec call mode lo nl c ⟨ρ, M⟩)
  | .skip, k, e, r, ρ, M => rfl
  | .reg ops, k, e, r, ρ, M => by
    simp only [execC, exec, regC_eq]
    cases regN call mode lo ops ⟨ρ, M⟩ <;> rfl
  | .drg ops, k, e, r, ρ, M => by
    simp only [execC, exec, regDC_eq, MM.bump]
    cases regD call mode lo M.nx ops 0 _ <;> rfl
  | .seq a b, k, e, r, ρ, M => by
    simp only [execC, exec]
    rw [execC_eq call mode lo nl a]
    cases h : exec call mode lo nl a ⟨ρ, M⟩ with
    | none => rfl
    | some p =>
      obtain ⟨x, s'⟩ := p
      cases x with
      | normal => exact execC_eq call mode lo nl b k e r s'.ρ s'.M
      | exit i => rfl
      | ret => rfl
  | .cond c a b, k, e, r, ρ, M => by
    simp only [execC, exec, isB]
    generalize ev ρ c = x
    have h1 := execC_eq call mode lo nl a k e r ρ M
    have h2 := execC_eq call mode lo nl b k e r ρ M
    cases x with
    | d d => cases d with
      | sl => rfl
      | v v => cases v with
        | bool t => cases t
                    · exact h2
                    · exact h1
        | _ => rfl
    | _ => rfl
  | .block id a, k, e, r, ρ, M => by
    simp only [execC, exec]
    rw [execC_eq call mode lo nl a]
    cases h : exec call mode lo nl a ⟨ρ, M⟩ with
    | none => rfl
    | some p =>
      obtain ⟨x, s'⟩ := p
      cases x with
      | normal => rfl
      | exit i => dsimp only [fin]; by_cases hi : i = id <;> simp [hi]
      | ret => rfl
  | .loop a, k, e, r, ρ, M => by
    simp only [execC, exec]
    exact iterC_eq (fun k ρ M => execC_eq call mode lo nl a k e r ρ M) k nl ρ M
  | .exit id, k, e, r, ρ, M => rfl
  | .ret, k, e, r, ρ, M => rfl
end

/-- A function's end. -/
def endK (res : List RV) (ρ : List AV) (M : MM) : Option (AV × MM) := opt (resAll ⟨ρ, M⟩ res) fun v => some (v, M)
def noE : Nat → List AV → MM → Option (AV × MM) := fun _ _ _ => none

theorem acall_flow {G : Prog} {f : FuncId} {cf : CF} (h : G.fns f = some (.code cf)) (N : Nat) (args : List AV) (lo : Nat) (M : MM) :
    acall G (N + 1) f args lo M = execC (acall G N) G.mode lo G.nl cf.body (endK cf.res) noE (endK cf.res) (args ++ List.replicate (cf.nt - args.length) .undef) M := by
  rw [acall_code h, execC_eq]
  cases exec (acall G N) G.mode lo G.nl cf.body ⟨args ++ List.replicate (cf.nt - args.length) .undef, M⟩ with
  | none => rfl
  | some p =>
    obtain ⟨x, s⟩ := p
    cases x with
    | normal => dsimp only [fin, endK]; cases resAll s cf.res <;> rfl
    | exit i => rfl
    | ret => dsimp only [fin, endK]; cases resAll s cf.res <;> rfl
end Go.Proofs.Ytabhppamkhldeaa.Sx
