/-
  SX, PART F: THE ABSTRACT MACHINE IN CONTINUATION FORM: what 'gen.py' prints each function as. 'execC_eq': it is 'exec'.
-/
import Derived.Test.YtegkhdflmboljaaSxEPl
namespace Go.Proofs.Ytegkhdflmboljaa.Sx
open Go
def MM.bump (M : MM) (k : Nat) : MM := ⟨M.nx + k, M.mem⟩

section
variable {R : Type}

def bnd (o : Option (AV × MM)) (k : AV → MM → Option R) : Option R :=
  match o with
  | some (v, M) => k v M
  | none => none

def opt {A : Type} (o : Option A) (k : A → Option R) : Option R :=
  match o with
  | some v => k v
  | none => none

def isB (x : AV) (k : Bool → Option R) : Option R :=
  match x with
  | .d (.v (.bool b)) => k b
  | _ => none

def gd (x : AV) (b : Bool) (M : MM) (o : Option (AV × MM)) : Option (AV × MM) :=
  match x with
  | .d (.v (.bool t)) => if t == b then o else some (.undef, M)
  | .tup [] => some (.undef, M)
  | _ => none

def pickA (c a b : AV) : Option AV :=
  match c with
  | .d (.v (.bool t)) => some (if t then a else b)
  | _ => none

def ld1A (lk : Nat → Option Blk) (a : AV) : Option AV :=
  match a with
  | .ptr id off => match lk id with
    | some (.cells _ cs) => cs[off]?
    | _ => none
  | .ip ds => (ds[0]?).map .d
  | _ => none

def nilcA (a : AV) : Option AV :=
  match a with
  | .ptr id off => some (.ptr id off)
  | .ip ds => some (.ip ds)
  | .fn f a b => some (.fn f a b)
  | _ => none

def cviA (k : IntKind) (a : AV) : Option AV :=
  match a with
  | .d (.v (.int _ n)) => some (.int k (k.wrap n))
  | _ => none

def fadA (off : Nat) (a : AV) : Option AV :=
  match a with
  | .ptr id o => some (.ptr id (o + off))
  | .ip ds => some (.ip (ds.drop off))
  | _ => none

def tkA (i : Nat) (a : AV) : Option AV :=
  match a with
  | .tup vs => some (.tup (vs.take i))
  | _ => none
def extA (i : Nat) (a : AV) : Option AV :=
  match a with
  | .tup vs => vs[i]?
  | _ => none

def lensA (a : AV) : Option AV :=
  match a with
  | .d (.v (.string s)) => some (.i s.data.size)
  | _ => none

def lenA (a : AV) : Option AV :=
  match a with
  | .d (.sl _ n) => some (.i n)
  | .d (.v (.slice none 0 0)) => some (.i 0)
  | .os _ _ len _ => some (.i len)
  | .ov _ _ len _ => some (.i len)
  | _ => none

def ixsA (sz : Nat) (x i : AV) : Option AV :=
  match asI i with
  | some n => match x with
    | .os id off len _ => if 0 ≤ n ∧ n < (len : Int) then some (.ptr id (off + n.toNat * sz)) else none
    | .d (.sl ds len) => if 0 ≤ n ∧ n < (len : Int) then some (.ip (ds.drop (n.toNat * sz))) else none
    | .ov _ ds len _ => if 0 ≤ n ∧ n < (len : Int) then some (.ip (ds.drop (n.toNat * sz))) else none
    | _ => none
  | none => none

def ixcA (x i : AV) : Option AV :=
  match x, asI i with
  | .d (.v (.string s)), some n => if 0 ≤ n then (s.data[n.toNat]?).map fun b => .int .u8 b.toNat else none
  | _, _ => none

def ldnA (lk : Nat → Option Blk) (n : Nat) (a : AV) : Option AV :=
  match a with
  | .ptr id off => match lk id with
    | some (.cells _ cs) => if off + n ≤ cs.length then some (.agg ((cs.drop off).take n)) else none
    | _ => none
  | .ip ds => if n ≤ ds.length then some (.agg ((ds.take n).map .d)) else none
  | _ => none

def fldA (off n : Nat) (agg : Bool) (x : AV) : Option AV :=
  match x with
  | .agg cs => if agg then (if off + n ≤ cs.length then some (.agg ((cs.drop off).take n)) else none) else cs[off]?
  | _ => none

def ixpA (sz len : Nat) (x i : AV) : Option AV :=
  match asI i with
  | some n => if 0 ≤ n ∧ n < (len : Int) then
    (match x with
    | .ptr id off => some (.ptr id (off + n.toNat * sz))
    | .ip ds => some (.ip (ds.drop (n.toNat * sz)))
    | _ => none) else none
  | none => none

def ixvA (sz len : Nat) (agg : Bool) (x i : AV) : Option AV :=
  match asI i, x with
  | some n, .agg cs => if 0 ≤ n ∧ n < (len : Int) then
      (if agg then (if n.toNat * sz + sz ≤ cs.length then some (.agg ((cs.drop (n.toNat * sz)).take sz)) else none) else cs[n.toNat * sz]?) else none
  | _, _ => none

def mmaxA (mx : Bool) (x y : AV) : Option AV :=
  match x, y with
  | .d (.v (.int k a)), .d (.v (.int _ b)) => some (.int k (if mx then (if b > a then b else a) else (if b < a then b else a)))
  | _, _ => none

def setcA (off n : Nat) (l x : AV) : Option AV :=
  match l with
  | .agg cs => if x.cells.length = n ∧ off + n ≤ cs.length ∧ x.cells.all AV.one then some (.agg (setAt cs off x.cells)) else none
  | _ => none

def aggA (x : AV) : Option AV :=
  match x with
  | .tup _ => none
  | a => some (.agg a.cells)

def cvsA (x : AV) : Option AV :=
  match x with
  | .d (.v (.string s)) => some (.str s)
  | _ => none

def hiA (len : Nat) : Option AV → Option Int
  | some h => asI h
  | none => some (len : Int)
def loA : Option AV → Option Int
  | some l => asI l
  | none => some 0

def slstrA (x : AV) (lo hi : Option AV) : Option AV :=
  match x with
  | .d (.v (.string s)) =>
    match hiA s.data.size hi, loA lo with
    | some h, some l => if 0 ≤ l ∧ l ≤ h ∧ h ≤ (s.data.size : Int) then some (.str ⟨s.data.extract l.toNat h.toNat⟩) else none
    | _, _ => none
  | _ => none

def slslA (sz : Nat) (x : AV) (lo hi : Option AV) : Option AV :=
  match x with
  | .os id off len s =>
    match hiA len hi, loA lo with
    | some h, some l =>
      if 0 ≤ l ∧ l ≤ h ∧ h ≤ (len : Int) ∧ s = sz then
        (if l = 0 then some (.os id off h.toNat sz) else if l = h then some (.d (.sl [] 0)) else some (.os id (off + l.toNat * sz) (h - l).toNat sz))
      else none
    | _, _ => none
  | .d (.sl ds len) =>
    match hiA len hi, loA lo with
    | some h, some l =>
      if 0 ≤ l ∧ l ≤ h ∧ h ≤ (len : Int) ∧ len * sz ≤ ds.length then
        (if l = h then some (.d (.sl [] 0)) else some (.d (.sl ((ds.drop (l.toNat * sz)).take ((h - l).toNat * sz)) (h - l).toNat)))
      else none
    | _, _ => none
  | .d (.v (.slice none 0 0)) =>
    match hiA 0 hi, loA lo with
    | some h, some l => if l = 0 ∧ h = 0 then some .nilsl else none
    | _, _ => none
  | .ov _ ds len _ =>
    match hiA len hi, loA lo with
    | some h, some l =>
      if 0 ≤ l ∧ l ≤ h ∧ h ≤ (len : Int) ∧ len * sz ≤ ds.length then
        (if l = h then some (.d (.sl [] 0)) else some (.d (.sl ((ds.drop (l.toNat * sz)).take ((h - l).toNat * sz)) (h - l).toNat)))
      else none
    | _, _ => none
  | _ => none

def lkpA (lk : Nat → Option Blk) (kk : KK) (comma : Bool) (zero m k : AV) : Option AV :=
  match k with
  | .d (.v key) => if kk.fits key then
    (match m with
    | .d (.v (.map none)) => some (if comma then .tup [zero, .bool false] else zero)
    | .mp id => match lk id with
      | some (.map kk' es) => if kk' = kk then
        (match findM key es with
        | some x => some (if comma then .tup [x, .bool true] else x)
        | none => some (if comma then .tup [zero, .bool false] else zero)) else none
      | _ => none
    | _ => none) else none
  | _ => none

def lenmA (lk : Nat → Option Blk) (x : AV) : Option AV :=
  match x with
  | .d (.v (.map none)) => some (.i 0)
  | .mp id => match lk id with
    | some (.map _ es) => some (.i es.length)
    | _ => none
  | _ => none

def b2sA (m : Mem) (lim : Lm) (x : AV) : Option AV :=
  match sliceCells m lim 1 x with
  | some (_, cs) => (bytesA cs).map fun l => .str ⟨l.toArray⟩
  | none => none

def wslA (n : Nat) (cs : Option (List AV)) : Option AV :=
  match cs with
  | some cs => (cs.mapM toD).map fun ds => .d (.sl ds n)
  | none => none

def wmkA (bytes : Nat) (zero : List AV) (l c : AV) : Option AV :=
  match asI l, asI c with
  | some l, some c =>
    if 0 ≤ l ∧ l ≤ c ∧ c ≤ 9223372036854775807 ∧ bytes * c ≤ 281474976710656 then (((List.replicate l.toNat zero).flatten).mapM toD).map fun ds => .d (.sl ds l.toNat) else none
  | _, _ => none

def wextA (sz bytes : Nat) (zero : List AV) (s x : AV) : Option AV :=
  match zrep zero x with
  | some (n, news) =>
    if zero.length = sz then
      (match s with
      | .d (.sl ds len) => if (len + n) * bytes ≤ 140737488355328 ∧ len + n ≤ 9223372036854775807 then some (.d (.sl (ds ++ news) (len + n))) else none
      | _ => none)
    else none
  | none => none

def wappA (m : Mem) (lim : Lm) (sz bytes : Nat) (s x : AV) : Option AV :=
  match sliceCells m lim sz x with
  | some (n, cs) =>
    match cs.mapM toD with
    | some news =>
      (match s with
      | .d (.sl ds len) => if (len + n) * bytes ≤ 140737488355328 ∧ len + n ≤ 9223372036854775807 then some (.d (.sl (ds ++ news) (len + n))) else none
      | _ => none)
    | none => none
  | none => none

def gdp (x : AV) (b : Bool) (o : Option AV) : Option AV :=
  match x with
  | .d (.v (.bool t)) => if t == b then o else some .undef
  | .tup [] => some .undef
  | _ => none

def puA (call : CallT) (lk : Nat → Option Blk) (f : FuncId) (args : List AV) : Option AV :=
  match args.mapM (snap lk) with
  | some args' =>
    match call f args' 0 ⟨0, fun _ => none⟩ with
    | some (r, M') =>
      match freeze M'.mem 0 r with
      | some r' => if args.all closedA || scalT r' then some r' else none
      | none => none
    | none => none
  | none => none

def roA (call : CallT) (lim : Lm) (f : FuncId) (args : List AV) (M : MM) : Option AV :=
  match call f args M.nx ⟨M.nx, look M.mem lim⟩ with
  | some (r, M') => freeze M'.mem M.nx r
  | none => none

theorem docall_pu {call : CallT} {mode : FuncId → Mode} {draw : Bool} {lo : Nat} {lim : Lm} {f : FuncId} {args : List AV} {M : MM} (h : mode f = .pure) : docall call mode draw lo lim f args M = (puA call (look M.mem lim) f args).map (·, M) := by
  simp only [docall, h, puA]
  cases args.mapM (snap (look M.mem lim)) with
  | none => rfl
  | some a =>
    dsimp only
    cases call f a 0 ⟨0, fun _ => none⟩ with
    | none => rfl
    | some p =>
      obtain ⟨r, M'⟩ := p
      dsimp only
      cases freeze M'.mem 0 r with
      | none => rfl
      | some r' => dsimp only; split <;> rfl

theorem docall_roA {call : CallT} {mode : FuncId → Mode} {draw : Bool} {lo : Nat} {lim : Lm} {f : FuncId} {args : List AV} {M : MM} (h : mode f = .ro) : docall call mode draw lo lim f args M = (roA call lim f args M).map (·, M) := by
  simp only [docall, h, roA]
  cases call f args M.nx ⟨M.nx, look M.mem lim⟩ <;> rfl

def cellA (n : Nat) (agg : Bool) (x : AV) (M : MM) : Option AV :=
  match x with
  | .ptr id off => match M.mem id with
    | some (.cells _ cs) => if agg then (if off + n ≤ cs.length then some (.agg ((cs.drop off).take n)) else none) else cs[off]?
    | _ => none
  | _ => none

def locA (n : Nat) (agg : Bool) (x : AV) : Option AV :=
  match x with
  | .agg cs => if agg then (if n ≤ cs.length then some (.agg (cs.take n)) else none) else cs[0]?
  | _ => none

def resB (s : St) : List RV → Option AV
  | [r] => resOf s r
  | rs => (rs.mapM (resOf s)).map .tup

theorem resB_eq (s : St) : ∀ rs : List RV, resB s rs = resAll s rs
  | [] => rfl
  | [r] => by
    simp only [resB, resAll, List.mapM_cons, List.mapM_nil, Option.pure_def, Option.bind_eq_bind]
    cases resOf s r <;> rfl
  | r1 :: r2 :: rs => by
    simp only [resB, resAll, List.mapM_cons, Option.pure_def, Option.bind_eq_bind]
    cases resOf s r1 with
    | none => rfl
    | some a => cases resOf s r2 with
      | none => rfl
      | some b => cases rs.mapM (resOf s) <;> rfl

def pureI (call : CallT) (mode : FuncId → Mode) (M : MM) (lim : Lm) (ρ : List AV) : I → Option (Option AV)
  | .mov x => some (some (ev ρ x))
  | .pick c a b => some (pickA (ev ρ c) (ev ρ a) (ev ρ b))
  | .bin op e x y => some (binA op e (ev ρ x) (ev ρ y))
  | .un op x => some (unA op (ev ρ x))
  | .ld1 a => some (ld1A (look M.mem lim) (ev ρ a))
  | .ldn n a => some (ldnA (look M.mem lim) n (ev ρ a))
  | .nilc a => some (nilcA (ev ρ a))
  | .cvi k x => some (cviA k (ev ρ x))
  | .cvs x => some (cvsA (ev ρ x))
  | .fad off x => some (fadA off (ev ρ x))
  | .fld off n agg x => some (fldA off n agg (ev ρ x))
  | .ext x i => some (extA i (ev ρ x))
  | .tk x i => some (tkA i (ev ρ x))
  | .lens x => some (lensA (ev ρ x))
  | .len x => some (lenA (ev ρ x))
  | .lenm x => some (lenmA (look M.mem lim) (ev ρ x))
  | .ixs sz x i => some (ixsA sz (ev ρ x) (ev ρ i))
  | .ixp sz n x i => some (ixpA sz n (ev ρ x) (ev ρ i))
  | .ixv sz n agg x i => some (ixvA sz n agg (ev ρ x) (ev ρ i))
  | .ixc x i => some (ixcA (ev ρ x) (ev ρ i))
  | .mmax mx x y => some (mmaxA mx (ev ρ x) (ev ρ y))
  | .setc off n l x => some (setcA off n (ev ρ l) (ev ρ x))
  | .slstr x lo hi => some (slstrA (ev ρ x) (lo.map (ev ρ)) (hi.map (ev ρ)))
  | .slsl sz x lo hi => some (slslA sz (ev ρ x) (lo.map (ev ρ)) (hi.map (ev ρ)))
  | .lkp kk cm z m k => some (lkpA (look M.mem lim) kk cm z (ev ρ m) (ev ρ k))
  | .b2s x => some (b2sA M.mem lim (ev ρ x))
  | .mkf f first cap => some (some (.fn f (first.map (ev ρ)) (cap.map (ev ρ))))
  | .mk zero parts => some ((fill zero (parts.map fun p => (p.1, p.2.1, ev ρ p.2.2))).map .agg)
  | .call f args => match mode f with
    | .pure => some (puA call (look M.mem lim) f (args.map (ev ρ)))
    | .ro => some (roA call lim f (args.map (ev ρ)) M)
    | .rw => none
  | _ => none

theorem hiA_eq (ρ : List AV) (n : Nat) (x : Option X) : hiOf ρ n x = hiA n (x.map (ev ρ)) := by cases x <;> rfl
theorem loA_eq (ρ : List AV) (x : Option X) : loOf ρ x = loA (x.map (ev ρ)) := by cases x <;> rfl

theorem pureI_eq {call : CallT} {mode : FuncId → Mode} {draw : Bool} {lo : Nat} {lim : Lm} {fresh : Nat} {i : I} {ρ : List AV} {M : MM} {o : Option AV}
    (h : pureI call mode M lim ρ i = some o) : istep call mode draw lo lim fresh i ρ M = o.map (·, M) := by
  cases i <;> simp only [pureI, Option.some.injEq, reduceCtorEq] at h
  case call f args =>
    simp only [istep]
    cases hm : mode f <;> rw [hm] at h <;> simp only [Option.some.injEq, reduceCtorEq] at h <;> subst h
    · exact docall_roA hm
    · exact docall_pu hm
  all_goals subst h
  all_goals simp only [istep, Option.map_some]
  all_goals first | rfl | skip
  case pick c a b => generalize ev ρ c = x; unfold pickA; split <;> first | rfl | (split <;> first | rfl | simp_all)
  case ld1 a =>
    generalize ev ρ a = x; unfold ld1A
    cases x with
    | ptr id off =>
      dsimp only
      cases look M.mem lim id with
      | none => rfl
      | some b => cases b <;> rfl
    | ip cs => simp only [Option.map_map]; rfl
    | _ => rfl
  case ldn n a =>
    generalize ev ρ a = x; unfold ldnA
    cases x with
    | ptr id off =>
      dsimp only
      cases look M.mem lim id with
      | none => rfl
      | some b => cases b with
        | cells t cs => dsimp only; split <;> rfl
        | _ => rfl
    | ip cs => dsimp only; split <;> rfl
    | _ => rfl
  case nilc a => generalize ev ρ a = x; cases x <;> rfl
  case cvi k a => generalize ev ρ a = x; unfold cviA; split <;> first | rfl | (split <;> first | rfl | simp_all)
  case cvs a => generalize ev ρ a = x; unfold cvsA; split <;> first | rfl | (split <;> first | rfl | simp_all)
  case fad o a => generalize ev ρ a = x; cases x <;> rfl
  case fld o n g a =>
    generalize ev ρ a = x; unfold fldA
    cases x with
    | agg cs => dsimp only; split
                · split <;> rfl
                · rfl
    | _ => rfl
  case ext a i => generalize ev ρ a = x; cases x <;> rfl
  case tk a i => generalize ev ρ a = x; cases x <;> rfl
  case lens a => generalize ev ρ a = x; unfold lensA; split <;> first | rfl | (split <;> first | rfl | simp_all)
  case len a =>
    generalize ev ρ a = x; unfold lenA
    cases x with
    | d d => cases d with
      | sl => rfl
      | v v => cases v <;> first | rfl | (split <;> first | rfl | (split <;> first | rfl | simp_all))
    | _ => rfl
  case lenm a =>
    generalize ev ρ a = x; unfold lenmA
    cases x with
    | d d => cases d with
      | sl => rfl
      | v v => cases v <;> first | rfl | (split <;> first | rfl | (split <;> first | rfl | simp_all))
    | mp id =>
      dsimp only
      cases look M.mem lim id with
      | none => rfl
      | some b => cases b <;> rfl
    | _ => rfl
  case ixs sz a i =>
    generalize ev ρ a = x; generalize ev ρ i = y; unfold ixsA
    cases asI y with
    | none => rfl
    | some n =>
      dsimp only
      cases x with
      | os id off len s => dsimp only; split <;> rfl
      | d d => cases d with
        | sl ds len => dsimp only; split <;> rfl
        | v v => rfl
      | ov id ds len s => dsimp only; split <;> rfl
      | _ => rfl
  case ixp sz n a i =>
    generalize ev ρ a = x; generalize ev ρ i = y; unfold ixpA
    cases asI y with
    | none => rfl
    | some n =>
      try dsimp only
      split
      · cases x <;> rfl
      · rfl
  case ixv sz n g a i =>
    generalize ev ρ a = x; generalize ev ρ i = y; unfold ixvA
    cases asI y with
    | none => rfl
    | some n =>
      try dsimp only
      cases x with
      | agg cs =>
        try dsimp only
        split
        · split
          · split <;> rfl
          · rfl
        · rfl
      | _ => rfl
  case ixc a i =>
    generalize ev ρ a = x; generalize ev ρ i = y; unfold ixcA
    generalize asI y = z
    split
    · dsimp only; split
      · simp only [Option.map_map]; rfl
      · rfl
    · rename_i h
      split
      · exact absurd rfl (h _ _ rfl)
      · rfl
  case mmax mx a b =>
    generalize ev ρ a = x; generalize ev ρ b = y; unfold mmaxA
    cases x with
    | d d => cases d with
      | sl => rfl
      | v v => cases v with
        | int k n => cases y with
          | d e => cases e with
            | sl => rfl
            | v w => cases w <;> rfl
          | _ => rfl
        | _ => rfl
    | _ => rfl
  case setc o n a b =>
    generalize ev ρ a = x; generalize ev ρ b = y; unfold setcA
    cases x with
    | agg cs => dsimp only; split <;> rfl
    | _ => rfl
  case slstr x lo hi =>
    simp only [hiA_eq, loA_eq]
    generalize ev ρ x = y; generalize lo.map (ev ρ) = l; generalize hi.map (ev ρ) = h
    cases y with
    | d d => cases d with
      | sl => rfl
      | v v => cases v with
        | string s =>
          simp only [slstrA]
          cases hiA s.data.size h with
          | none => rfl
          | some a => cases loA l with
            | none => rfl
            | some b => dsimp only; split <;> rfl
        | _ => rfl
    | _ => rfl
  case slsl sz x lo hi =>
    simp only [hiA_eq, loA_eq]
    generalize ev ρ x = y; generalize lo.map (ev ρ) = l; generalize hi.map (ev ρ) = h
    unfold slslA
    split
    · rename_i len s
      try dsimp only
      cases hiA len h with
      | none => rfl
      | some a => cases loA l with
        | none => rfl
        | some b =>
          try dsimp only
          split
          · split
            · rfl
            · split <;> rfl
          · rfl
    · rename_i len
      try dsimp only
      cases hiA len h with
      | none => rfl
      | some a => cases loA l with
        | none => rfl
        | some b =>
          try dsimp only
          split
          · split <;> rfl
          · rfl
    · try dsimp only
      cases hiA 0 h with
      | none => rfl
      | some a => cases loA l with
        | none => rfl
        | some b => dsimp only; split <;> rfl
    · rename_i ds len s
      try dsimp only
      cases hiA len h with
      | none => rfl
      | some a => cases loA l with
        | none => rfl
        | some b =>
          try dsimp only
          split
          · split <;> rfl
          · rfl
    · rename_i h1 h2 h3 h4
      split
      · exact (h1 _ _ _ _ rfl).elim
      · exact (h2 _ _ rfl).elim
      · exact (h3 rfl).elim
      · exact (h4 _ _ _ _ rfl).elim
      · rfl
  case lkp kk cm z m k =>
    generalize ev ρ m = x; generalize ev ρ k = y; unfold lkpA
    cases y with
    | d d => cases d with
      | sl => rfl
      | v v =>
        try dsimp only
        split
        · cases x with
          | mp id =>
            try dsimp only
            cases look M.mem lim id with
            | none => rfl
            | some b => cases b with
              | map kk' es =>
                try dsimp only
                split
                · cases findM v es <;> rfl
                · rfl
              | _ => rfl
          | d d => cases d with
            | sl => rfl
            | v w => cases w <;> first | rfl | (split <;> first | rfl | (split <;> first | rfl | simp_all))
          | _ => rfl
        · rfl
    | _ => rfl
  case b2s a =>
    unfold b2sA
    cases sliceCells M.mem lim 1 (ev ρ a) with
    | none => rfl
    | some p => simp only [Option.map_map]; rfl
  case mk => simp only [Option.map_map]; rfl

theorem bnd_map (o : Option AV) (M : MM) (k : AV → MM → Option R) : bnd (o.map (·, M)) k = opt o fun v => k v M := by cases o <;> rfl

def stepD (call : CallT) (mode : FuncId → Mode) (draw : Bool) (lo : Nat) (lim : Lm) (fresh : Nat) (i : I) (ρ : List AV) (M : MM) (k : AV → MM → Option R) : Option R :=
  match pureI call mode M lim ρ i with
  | some o => opt o fun v => k v M
  | none => bnd (istep call mode draw lo lim fresh i ρ M) k

theorem stepD_eq (call : CallT) (mode : FuncId → Mode) (draw : Bool) (lo : Nat) (lim : Lm) (fresh : Nat) (i : I) (ρ : List AV) (M : MM) (k : AV → MM → Option R) :
    stepD call mode draw lo lim fresh i ρ M k = bnd (istep call mode draw lo lim fresh i ρ M) k := by
  unfold stepD
  cases h : pureI call mode M lim ρ i with
  | none => rfl
  | some o => simp only; rw [pureI_eq h, bnd_map]

def upK (M : MM) (f : Nat) (k : MM → Option R) : Option R := k (M.up f)
def bumpK (M : MM) (n : Nat) (k : MM → Option R) : Option R := k (M.bump n)

def stepC (call : CallT) (mode : FuncId → Mode) (draw : Bool) (lo : Nat) (lim : Lm) (fresh : Nat) (i : I) (ρ : List AV) (M : MM) (k : AV → MM → Option R) : Option R :=
  match i with
  | .mov x => k (ev ρ x) M
  | .lnew cs => upK M fresh fun M => k (.agg cs) M
  | .lbox x => opt (aggA (ev ρ x)) fun v => upK M fresh fun M => k v M
  | .wsl n zero parts => opt (wslA n (fill zero (parts.map fun p => (p.1, p.2.1, ev ρ p.2.2)))) fun v => upK M fresh fun M => k v M
  | .wmk bytes zero l c => opt (wmkA bytes zero (ev ρ l) (ev ρ c)) fun v => upK M fresh fun M => k v M
  | .wapp sz bytes s x => opt (wappA M.mem lim sz bytes (ev ρ s) (ev ρ x)) fun v => upK M fresh fun M => k v M
  | .wext sz bytes zero s x => opt (wextA sz bytes zero (ev ρ s) (ev ρ x)) fun v => upK M fresh fun M => k v M
  | i => stepD call mode draw lo lim fresh i ρ M k

theorem stepC_eq (call : CallT) (mode : FuncId → Mode) (draw : Bool) (lo : Nat) (lim : Lm) (fresh : Nat) (i : I) (ρ : List AV) (M : MM) (k : AV → MM → Option R) :
    stepC call mode draw lo lim fresh i ρ M k = bnd (istep call mode draw lo lim fresh i ρ M) k := by
  cases i
  case mov x => rfl
  case lnew cs => rfl
  case lbox x =>
    simp only [stepC, istep]
    generalize ev ρ x = y
    cases y <;> rfl
  case wsl n zero parts =>
    simp only [stepC, istep, wslA, upK]
    cases fill zero (parts.map fun p => (p.1, p.2.1, ev ρ p.2.2)) with
    | none => rfl
    | some cs => dsimp only; cases cs.mapM toD <;> rfl
  case wmk bytes zero l c =>
    simp only [stepC, istep, wmkA, upK]
    cases asI (ev ρ l) with
    | none => rfl
    | some l => cases asI (ev ρ c) with
      | none => rfl
      | some c =>
        dsimp only
        split
        · cases ((List.replicate l.toNat zero).flatten).mapM toD <;> rfl
        · rfl
  case wext sz bytes zero s x =>
    simp only [stepC, istep, wextA, upK]
    cases zrep zero (ev ρ x) with
    | none => rfl
    | some p =>
      obtain ⟨n, news⟩ := p
      dsimp only
      split
      · generalize ev ρ s = y
        cases y with
        | d d => cases d with
          | sl cs m => dsimp only; split <;> rfl
          | v v => rfl
        | _ => rfl
      · rfl
  case wapp sz bytes s x =>
    simp only [stepC, istep, wappA, upK]
    cases sliceCells M.mem lim sz (ev ρ x) with
    | none => rfl
    | some p =>
      obtain ⟨n, cs⟩ := p
      dsimp only
      cases cs.mapM toD with
      | none => rfl
      | some news =>
        dsimp only
        generalize ev ρ s = y
        cases y with
        | d d => cases d with
          | sl ds len => dsimp only; split <;> rfl
          | v v => rfl
        | _ => rfl
  all_goals simp only [stepC, stepD_eq]

/-! ### Registers as a function: what 'gen.py' prints -/
abbrev Rg := Nat → AV
def sF (ρ : Rg) (d : Nat) (v : AV) : Rg := fun i => match Nat.beq i d with | true => v | false => ρ i
def sOF (ρ : Rg) (dst : Option Nat) (v : AV) : Rg := match dst with | some d => sF ρ d v | none => ρ
def aF (l : List AV) : Rg := fun i => l.getD i .undef

def iX (ρ : Rg) : X → X
  | .t i => .k (ρ i)
  | .k a => .k a
def iP (ρ : Rg) (ps : List (Nat × Nat × X)) : List (Nat × Nat × X) := ps.map fun p => (p.1, p.2.1, iX ρ p.2.2)

def instI (ρ : Rg) : I → I
  | .mov x => .mov (iX ρ x)
  | .pick c a b => .pick (iX ρ c) (iX ρ a) (iX ρ b)
  | .new t cs => .new t cs
  | .box t x => .box t (iX ρ x)
  | .mk z ps => .mk z (iP ρ ps)
  | .mksl t n sz z ps => .mksl t n sz z (iP ρ ps)
  | .ld1 a => .ld1 (iX ρ a)
  | .ldn n a => .ldn n (iX ρ a)
  | .st n a x => .st n (iX ρ a) (iX ρ x)
  | .nilc x => .nilc (iX ρ x)
  | .bin op e x y => .bin op e (iX ρ x) (iX ρ y)
  | .un op x => .un op (iX ρ x)
  | .cvi k x => .cvi k (iX ρ x)
  | .cvs x => .cvs (iX ρ x)
  | .b2s x => .b2s (iX ρ x)
  | .mkf f as bs => .mkf f (as.map (iX ρ)) (bs.map (iX ρ))
  | .mkmap kk => .mkmap kk
  | .mkslice t sz b z l c => .mkslice t sz b z (iX ρ l) (iX ρ c)
  | .slstr x lo hi => .slstr (iX ρ x) (lo.map (iX ρ)) (hi.map (iX ρ))
  | .slsl sz x lo hi => .slsl sz (iX ρ x) (lo.map (iX ρ)) (hi.map (iX ρ))
  | .fad o x => .fad o (iX ρ x)
  | .fld o n g x => .fld o n g (iX ρ x)
  | .ixs sz x i => .ixs sz (iX ρ x) (iX ρ i)
  | .ixp sz l x i => .ixp sz l (iX ρ x) (iX ρ i)
  | .ixv sz l g x i => .ixv sz l g (iX ρ x) (iX ρ i)
  | .ixc x i => .ixc (iX ρ x) (iX ρ i)
  | .lkp kk cm z m k => .lkp kk cm z (iX ρ m) (iX ρ k)
  | .mset kk m k x => .mset kk (iX ρ m) (iX ρ k) (iX ρ x)
  | .mdel kk m k => .mdel kk (iX ρ m) (iX ρ k)
  | .ext x i => .ext (iX ρ x) i
  | .tk x i => .tk (iX ρ x) i
  | .lens x => .lens (iX ρ x)
  | .len x => .len (iX ρ x)
  | .lenm x => .lenm (iX ρ x)
  | .mmax mx x y => .mmax mx (iX ρ x) (iX ρ y)
  | .app t sz b z s x => .app t sz b z (iX ρ s) (iX ρ x)
  | .appn t sz b z x => .appn t sz b z (iX ρ x)
  | .vsl t n sz z ps => .vsl t n sz z (iP ρ ps)
  | .vmk t sz b z l c => .vmk t sz b z (iX ρ l) (iX ρ c)
  | .vapp t sz b z s x => .vapp t sz b z (iX ρ s) (iX ρ x)
  | .vext t sz b z s x => .vext t sz b z (iX ρ s) (iX ρ x)
  | .wext sz b z s x => .wext sz b z (iX ρ s) (iX ρ x)
  | .wsl n z ps => .wsl n z (iP ρ ps)
  | .wmk b z l c => .wmk b z (iX ρ l) (iX ρ c)
  | .wapp sz b s x => .wapp sz b (iX ρ s) (iX ρ x)
  | .callw no x as => .callw no (iX ρ x) (as.map (iX ρ))
  | .call f as => .call f (as.map (iX ρ))
  | .callv x as => .callv (iX ρ x) (as.map (iX ρ))
  | .lnew cs => .lnew cs
  | .lbox x => .lbox (iX ρ x)
  | .setc o n l x => .setc o n (iX ρ l) (iX ρ x)
  | .ld1r r a => .ld1r (iX ρ r) (iX ρ a)
  | .ldnr n r a => .ldnr n (iX ρ r) (iX ρ a)
  | .callk f as rs => .callk f (as.map (iX ρ)) (rs.map (iX ρ))
  | .str n r ns a x => .str n (iX ρ r) (ns.map (iX ρ)) (iX ρ a) (iX ρ x)
  | .bad => .bad

structure RR (n : Nat) (l : List AV) (ρ : Rg) : Prop where
  len : n ≤ l.length
  at_ : ∀ i, l.getD i .undef = ρ i

theorem RR.set {n : Nat} {l : List AV} {ρ : Rg} (h : RR n l ρ) {d : Nat} (hd : d < n) (v : AV) : RR n (l.set d v) (sF ρ d v) := by
  refine ⟨by simpa using h.len, fun i => ?_⟩
  have hdl : d < l.length := Nat.lt_of_lt_of_le hd h.len
  by_cases e : i = d
  · subst e
    have : Nat.beq i i = true := by rw [Nat.beq_eq]
    simp only [sF, this, List.getD_eq_getElem?_getD, List.getElem?_set_self hdl, Option.getD_some]
  · have : Nat.beq i d = false := by
      cases hb : Nat.beq i d with
      | false => rfl
      | true => exact absurd (Nat.eq_of_beq_eq_true hb) e
    simp only [sF, this, List.getD_eq_getElem?_getD, List.getElem?_set_ne (Ne.symm e)]
    rw [← List.getD_eq_getElem?_getD]; exact h.at_ i

section
variable {l : List AV} {ρ : Rg} (h : ∀ i, l.getD i .undef = ρ i)
include h
theorem ev_inst (x : X) : ev [] (iX ρ x) = ev l x := by
  cases x with
  | t i => exact (h i).symm
  | k a => rfl
theorem evs_inst (xs : List X) : (xs.map (iX ρ)).map (ev []) = xs.map (ev l) := by
  rw [List.map_map]; apply List.map_congr_left; intro x _; exact ev_inst h x
theorem parts_inst (ps : List (Nat × Nat × X)) : ((iP ρ ps).map fun p => (p.1, p.2.1, ev [] p.2.2)) = ps.map fun p => (p.1, p.2.1, ev l p.2.2) := by
  simp only [iP, List.map_map]; apply List.map_congr_left; intro p _; simp only [Function.comp, ev_inst h]
theorem hi_inst (n : Nat) (x : Option X) : hiOf [] n (x.map (iX ρ)) = hiOf l n x := by
  cases x with
  | none => rfl
  | some x => simp only [Option.map_some, hiOf, ev_inst h]
theorem lo_inst (x : Option X) : loOf [] (x.map (iX ρ)) = loOf l x := by
  cases x with
  | none => rfl
  | some x => simp only [Option.map_some, loOf, ev_inst h]

theorem istep_inst {call : CallT} {mode : FuncId → Mode} {draw : Bool} {lo : Nat} {lim : Lm} {fresh : Nat} {M : MM} (i : I) : istep call mode draw lo lim fresh (instI ρ i) [] M = istep call mode draw lo lim fresh i l M := by
  cases i with
  | new | mkmap | lnew | bad => rfl
  | mk | mksl | vsl | wsl => simp only [instI, istep, parts_inst h]
  | mkf | call => simp only [instI, istep, evs_inst h]
  | callv | callw => simp only [instI, istep, ev_inst h, evs_inst h]
  | callk f as rs =>
    have e : ∀ m m' : Mem, ((rs.map (iX ρ)).all fun x => kept m m' (ev [] x)) = rs.all fun x => kept m m' (ev l x) := fun m m' => by
      rw [List.all_map]; congr 1; funext x; simp only [Function.comp, ev_inst h]
    simp only [instI, istep, evs_inst h, e]
  | slstr | slsl => simp only [instI, istep, ev_inst h, hi_inst h, lo_inst h]
  | str => simp only [instI, istep, ev_inst h, evs_inst h]
  | _ => simp only [instI, istep, ev_inst h]
end

def step1F (call : CallT) (mode : FuncId → Mode) (draw : Bool) (lo : Nat) (lim : Lm) (fresh : Nat) (o : Op1) (k : Rg → MM → Option R) (ρ : Rg) (M : MM) : Option R :=
  match o.g with
  | none => stepC call mode draw lo lim fresh (instI ρ o.i) [] M fun v M => k (sOF ρ o.dst v) M
  | some (g, b) => match pureI call mode M lim [] (instI ρ o.i) with
    | some w => opt (gdp (ρ g) b w) fun v => k (sOF ρ o.dst v) M
    | none => bnd (gd (ρ g) b M (istep call mode draw lo lim fresh (instI ρ o.i) [] M)) fun v M => k (sOF ρ o.dst v) M

def wfO (n : Nat) (o : Op1) : Bool := (match o.dst with | some d => Nat.blt d n | none => true) && (match o.g with | some (g, _) => Nat.blt g n | none => true)
def wfK (n : Nat) : K → Bool
  | .reg ops => ops.all (wfO n)
  | .drg ops => ops.all (wfO n)
  | .drx _ ops => ops.all fun q => wfO n q.2
  | .seq a b => wfK n a && wfK n b
  | .cond _ a b => wfK n a && wfK n b
  | .block _ a => wfK n a
  | .loop a => wfK n a
  | _ => true

theorem RR.setO {n : Nat} {l : List AV} {ρ : Rg} (h : RR n l ρ) {o : Op1} (hw : wfO n o = true) (v : AV) : RR n (setO l o.dst v) (sOF ρ o.dst v) := by
  cases hd : o.dst with
  | none => exact h
  | some d =>
    simp only [wfO, hd, Bool.and_eq_true] at hw
    exact h.set (by simpa using hw.1) v

theorem gdp_eq (x : AV) (b : Bool) (w : Option AV) (M : MM) : (gdp x b w).map (·, M) = gd x b M (w.map (·, M)) := by
  unfold gdp gd
  split
  · split <;> rfl
  · rfl
  · rfl

theorem step1F_eq {n : Nat} {l : List AV} {ρ : Rg} (h : RR n l ρ) (call : CallT) (mode : FuncId → Mode) (draw : Bool) (lo : Nat) (lim : Lm) (fresh : Nat) {o : Op1} (hw : wfO n o = true) {k : Rg → MM → Option R} {kL : List AV → MM → Option R} (hk : ∀ l ρ M, RR n l ρ → k ρ M = kL l M) (M : MM) :
    step1F call mode draw lo lim fresh o k ρ M = match step1 call mode draw lo lim fresh o ⟨l, M⟩ with | some s' => kL s'.ρ s'.M | none => none := by
  unfold step1F step1
  have hi := istep_inst (call := call) (mode := mode) (draw := draw) (lo := lo) (lim := lim) (fresh := fresh) (M := M) h.at_ o.i
  cases hg : o.g with
  | none =>
    simp only [want, stepC_eq]
    rw [hi]
    cases istep call mode draw lo lim fresh o.i l M with
    | none => rfl
    | some p => exact hk _ _ _ (h.setO hw _)
  | some p =>
    obtain ⟨g, b⟩ := p
    have hgn : g < l.length := by
      simp only [wfO, hg, Bool.and_eq_true] at hw
      have h2 : g < n := by simpa using hw.2
      exact Nat.lt_of_lt_of_le h2 h.len
    have hgl : l[g]? = some (ρ g) := by
      have := h.at_ g
      rw [List.getD_eq_getElem?_getD, List.getElem?_eq_getElem hgn, Option.getD_some] at this
      rw [List.getElem?_eq_getElem hgn, this]
    have main : bnd (gd (ρ g) b M (istep call mode draw lo lim fresh (instI ρ o.i) [] M)) (fun v M => k (sOF ρ o.dst v) M) =
        match (match want (some (g, b)) l with
          | none => none
          | some false => some { ρ := setO l o.dst .undef, M := M }
          | some true => match istep call mode draw lo lim fresh o.i l M with
            | some (v, M') => some ⟨setO l o.dst v, M'⟩
            | none => none : Option St) with | some s' => kL s'.ρ s'.M | none => none := by
      simp only [want, hgl, hi]
      generalize ρ g = x
      unfold gd
      split
      · rename_i t
        by_cases ht : t == b
        · simp only [ht, if_true]
          cases istep call mode draw lo lim fresh o.i l M with
          | none => rfl
          | some p => exact hk _ _ _ (h.setO hw _)
        · have ht' : (t == b) = false := by simpa using ht
          simp only [ht', Bool.false_eq_true, if_false]; exact hk _ _ _ (h.setO hw _)
      · exact hk _ _ _ (h.setO hw _)
      · rename_i h1 h2
        cases x with
        | d d => cases d with
          | sl => rfl
          | v v => cases v <;> first | rfl | exact (h1 _ rfl).elim
        | tup vs => cases vs with
          | nil => exact (h2 rfl).elim
          | cons => rfl
        | _ => rfl
    refine Eq.trans ?_ main
    dsimp only
    cases hp : pureI call mode M lim [] (instI ρ o.i) with
    | none => rfl
    | some w => simp only; rw [pureI_eq hp, ← gdp_eq, bnd_map]

def regF (call : CallT) (mode : FuncId → Mode) (lo : Nat) : List Op1 → (Rg → MM → Option R) → Rg → MM → Option R
  | [], k, ρ, M => k ρ M
  | o :: r, k, ρ, M => step1F call mode false lo (.top M.nx) M.nx o (regF call mode lo r k) ρ M

theorem regF_eq {n : Nat} (call : CallT) (mode : FuncId → Mode) (lo : Nat) {k : Rg → MM → Option R} {kL : List AV → MM → Option R} (hk : ∀ l ρ M, RR n l ρ → k ρ M = kL l M) : ∀ (ops : List Op1) (l : List AV) (ρ : Rg) (M : MM), ops.all (wfO n) = true → RR n l ρ →
    regF call mode lo ops k ρ M = match regN call mode lo ops ⟨l, M⟩ with | some s' => kL s'.ρ s'.M | none => none
  | [], l, ρ, M, _, h => hk l ρ M h
  | o :: r, l, ρ, M, hw, h => by
    simp only [List.all_cons, Bool.and_eq_true] at hw
    simp only [regF, regN]
    rw [step1F_eq h call mode false lo (.top M.nx) M.nx hw.1 (kL := fun l M => match regN call mode lo r ⟨l, M⟩ with | some s' => kL s'.ρ s'.M | none => none) (fun l ρ M h => regF_eq call mode lo hk r l ρ M hw.2 h) M]
    cases step1 call mode false lo (.top M.nx) M.nx o ⟨l, M⟩ with
    | none => rfl
    | some s' => rfl

def regDF (call : CallT) (mode : FuncId → Mode) (lo base n : Nat) : List Op1 → Nat → (Rg → MM → Option R) → Rg → MM → Option R
  | [], _, k, ρ, M => k ρ M
  | o :: r, i, k, ρ, M => step1F call mode true lo ⟨base, n, o.m, o.w⟩ (base + i) o (regDF call mode lo base n r (i + 1) k) ρ M

theorem regDF_eq {n : Nat} (call : CallT) (mode : FuncId → Mode) (lo base N : Nat) {k : Rg → MM → Option R} {kL : List AV → MM → Option R} (hk : ∀ l ρ M, RR n l ρ → k ρ M = kL l M) : ∀ (ops : List Op1) (i : Nat) (l : List AV) (ρ : Rg) (M : MM), ops.all (wfO n) = true → RR n l ρ →
    regDF call mode lo base N ops i k ρ M = match regD call mode lo base N ops i ⟨l, M⟩ with | some s' => kL s'.ρ s'.M | none => none
  | [], _, l, ρ, M, _, h => hk l ρ M h
  | o :: r, i, l, ρ, M, hw, h => by
    simp only [List.all_cons, Bool.and_eq_true] at hw
    simp only [regDF, regD]
    rw [step1F_eq h call mode true lo ⟨base, N, o.m, o.w⟩ (base + i) hw.1 (kL := fun l M => match regD call mode lo base N r (i + 1) ⟨l, M⟩ with | some s' => kL s'.ρ s'.M | none => none) (fun l ρ M h => regDF_eq call mode lo base N hk r (i + 1) l ρ M hw.2 h) M]
    cases step1 call mode true lo ⟨base, N, o.m, o.w⟩ (base + i) o ⟨l, M⟩ with
    | none => rfl
    | some s' => rfl

def regXF (call : CallT) (mode : FuncId → Mode) (lo base n : Nat) : List (Option Nat × Op1) → (Rg → MM → Option R) → Rg → MM → Option R
  | [], k, ρ, M => k ρ M
  | (some i, o) :: r, k, ρ, M => step1F call mode true lo ⟨base, n, o.m, o.w⟩ (base + i) o (regXF call mode lo base n r k) ρ M
  | (none, o) :: r, k, ρ, M => step1F call mode true lo ⟨base, n, o.m, o.w⟩ M.nx o (regXF call mode lo base n r k) ρ M

theorem regXF_eq {n : Nat} (call : CallT) (mode : FuncId → Mode) (lo base N : Nat) {k : Rg → MM → Option R} {kL : List AV → MM → Option R} (hk : ∀ l ρ M, RR n l ρ → k ρ M = kL l M) : ∀ (ops : List (Option Nat × Op1)) (l : List AV) (ρ : Rg) (M : MM), (ops.all fun q => wfO n q.2) = true → RR n l ρ →
    regXF call mode lo base N ops k ρ M = match regX call mode lo base N ops ⟨l, M⟩ with | some s' => kL s'.ρ s'.M | none => none
  | [], l, ρ, M, _, h => hk l ρ M h
  | (some i, o) :: r, l, ρ, M, hw, h => by
    simp only [List.all_cons, Bool.and_eq_true] at hw
    simp only [regXF, regX, idX]
    rw [step1F_eq h call mode true lo ⟨base, N, o.m, o.w⟩ (base + i) hw.1 (kL := fun l M => match regX call mode lo base N r ⟨l, M⟩ with | some s' => kL s'.ρ s'.M | none => none) (fun l ρ M h => regXF_eq call mode lo base N hk r l ρ M hw.2 h) M]
    cases step1 call mode true lo ⟨base, N, o.m, o.w⟩ (base + i) o ⟨l, M⟩ with
    | none => rfl
    | some s' => rfl
  | (none, o) :: r, l, ρ, M, hw, h => by
    simp only [List.all_cons, Bool.and_eq_true] at hw
    simp only [regXF, regX, idX]
    rw [step1F_eq h call mode true lo ⟨base, N, o.m, o.w⟩ M.nx hw.1 (kL := fun l M => match regX call mode lo base N r ⟨l, M⟩ with | some s' => kL s'.ρ s'.M | none => none) (fun l ρ M h => regXF_eq call mode lo base N hk r l ρ M hw.2 h) M]
    cases step1 call mode true lo ⟨base, N, o.m, o.w⟩ M.nx o ⟨l, M⟩ with
    | none => rfl
    | some s' => rfl

def iterC (f : (Rg → MM → Option R) → Rg → MM → Option R) : Nat → Rg → MM → Option R
  | 0, _, _ => none
  | n + 1, ρ, M => f (iterC f n) ρ M

def execC (call : CallT) (mode : FuncId → Mode) (lo nl : Nat) : K → (Rg → MM → Option R) → (Nat → Rg → MM → Option R) → (Rg → MM → Option R) → Rg → MM → Option R
  | .skip, k, _, _, ρ, M => k ρ M
  | .reg ops, k, _, _, ρ, M => regF call mode lo ops k ρ M
  | .drg ops, k, _, _, ρ, M => bumpK M ops.length fun M' => regDF call mode lo M.nx ops.length ops 0 k ρ M'
  | .drx n ops, k, _, _, ρ, M => bumpK M n fun M' => regXF call mode lo M.nx n ops k ρ M'
  | .seq a b, k, e, r, ρ, M => execC call mode lo nl a (execC call mode lo nl b k e r) e r ρ M
  | .cond c a b, k, e, r, ρ, M => isB (ev [] (iX ρ c)) fun t => if t then execC call mode lo nl a k e r ρ M else execC call mode lo nl b k e r ρ M
  | .block id a, k, e, r, ρ, M => execC call mode lo nl a k (fun i ρ M => if i = id then k ρ M else e i ρ M) r ρ M
  | .loop a, _, e, r, ρ, M => iterC (fun k ρ M => execC call mode lo nl a k e r ρ M) nl ρ M
  | .exit id, _, e, _, ρ, M => e id ρ M
  | .ret, _, _, r, ρ, M => r ρ M

def fin (k : List AV → MM → Option R) (e : Nat → List AV → MM → Option R) (r : List AV → MM → Option R) : Option (Ex × St) → Option R
  | some (.normal, s) => k s.ρ s.M
  | some (.exit i, s) => e i s.ρ s.M
  | some (.ret, s) => r s.ρ s.M
  | none => none

theorem iterC_eq {n : Nat} {f : St → Option (Ex × St)} {g : (Rg → MM → Option R) → Rg → MM → Option R} {e : Nat → List AV → MM → Option R} {r : List AV → MM → Option R}
    (h : ∀ (k : Rg → MM → Option R) (kL : List AV → MM → Option R), (∀ l ρ M, RR n l ρ → k ρ M = kL l M) → ∀ l ρ M, RR n l ρ → g k ρ M = fin kL e r (f ⟨l, M⟩)) (kL : List AV → MM → Option R) :
    ∀ m l ρ M, RR n l ρ → iterC g m ρ M = fin kL e r (iter f m ⟨l, M⟩)
  | 0, _, _, _, _ => rfl
  | m + 1, l, ρ, M, hr => by
    simp only [iterC, iter]
    rw [h (iterC g m) (fun l M => fin kL e r (iter f m ⟨l, M⟩)) (fun l ρ M hr => iterC_eq h kL m l ρ M hr) l ρ M hr]
    cases f ⟨l, M⟩ with
    | none => rfl
    | some p =>
      obtain ⟨x, s'⟩ := p
      cases x <;> rfl

theorem execC_eq {n : Nat} (call : CallT) (mode : FuncId → Mode) (lo nl : Nat) : ∀ (c : K) {k : Rg → MM → Option R} {e : Nat → Rg → MM → Option R} {r : Rg → MM → Option R} {kL : List AV → MM → Option R} {eL : Nat → List AV → MM → Option R} {rL : List AV → MM → Option R},
    wfK n c = true → (∀ l ρ M, RR n l ρ → k ρ M = kL l M) → (∀ i l ρ M, RR n l ρ → e i ρ M = eL i l M) → (∀ l ρ M, RR n l ρ → r ρ M = rL l M) → ∀ (l : List AV) (ρ : Rg) (M : MM), RR n l ρ →
    execC call mode lo nl c k e r ρ M = fin kL eL rL (exec call mode lo nl c ⟨l, M⟩) := by
  intro c
  induction c with
  | skip => intro k e r kL eL rL _ hk _ _ l ρ M h; exact hk l ρ M h
  | reg ops =>
    intro k e r kL eL rL hw hk _ _ l ρ M h
    simp only [execC, exec]
    rw [regF_eq call mode lo hk ops l ρ M hw h]
    cases regN call mode lo ops ⟨l, M⟩ <;> rfl
  | drg ops =>
    intro k e r kL eL rL hw hk _ _ l ρ M h
    simp only [execC, exec, bumpK]
    rw [regDF_eq call mode lo M.nx ops.length hk ops 0 l ρ _ hw h]
    simp only [MM.bump]
    cases regD call mode lo M.nx ops.length ops 0 ⟨l, ⟨M.nx + ops.length, M.mem⟩⟩ <;> rfl
  | drx N ops =>
    intro k e r kL eL rL hw hk _ _ l ρ M h
    simp only [execC, exec, bumpK]
    rw [regXF_eq call mode lo M.nx N hk ops l ρ _ hw h]
    simp only [MM.bump]
    cases regX call mode lo M.nx N ops ⟨l, ⟨M.nx + N, M.mem⟩⟩ <;> rfl
  | seq a b iha ihb =>
    intro k e r kL eL rL hw hk he hr l ρ M h
    simp only [wfK, Bool.and_eq_true] at hw
    simp only [execC, exec]
    rw [iha (kL := fun l M => fin kL eL rL (exec call mode lo nl b ⟨l, M⟩)) (eL := eL) (rL := rL) hw.1 (fun l ρ M h => ihb hw.2 hk he hr l ρ M h) he hr l ρ M h]
    cases exec call mode lo nl a ⟨l, M⟩ with
    | none => rfl
    | some p =>
      obtain ⟨x, s'⟩ := p
      cases x <;> rfl
  | cond c a b iha ihb =>
    intro k e r kL eL rL hw hk he hr l ρ M h
    simp only [wfK, Bool.and_eq_true] at hw
    simp only [execC, exec, isB, ev_inst h.at_]
    have h1 := iha hw.1 hk he hr l ρ M h
    have h2 := ihb hw.2 hk he hr l ρ M h
    generalize ev l c = x
    cases x with
    | d d => cases d with
      | sl => rfl
      | v v => cases v with
        | bool t => cases t
                    · exact h2
                    · exact h1
        | _ => rfl
    | _ => rfl
  | block id a iha =>
    intro k e r kL eL rL hw hk he hr l ρ M h
    simp only [execC, exec]
    rw [iha (kL := kL) (eL := fun i l M => if i = id then kL l M else eL i l M) (rL := rL) hw hk (fun i l ρ M h => by
      by_cases hi : i = id
      · simp only [hi, if_true]; exact hk l ρ M h
      · simp only [hi, if_false]; exact he i l ρ M h) hr l ρ M h]
    cases exec call mode lo nl a ⟨l, M⟩ with
    | none => rfl
    | some p =>
      obtain ⟨x, s'⟩ := p
      cases x with
      | normal => rfl
      | exit i => dsimp only [fin]; by_cases hi : i = id <;> simp [hi]
      | ret => rfl
  | loop a iha =>
    intro k e r kL eL rL hw hk he hr l ρ M h
    simp only [execC, exec]
    exact iterC_eq (fun k kL hk l ρ M h => iha hw hk he hr l ρ M h) kL nl l ρ M h
  | exit id => intro k e r kL eL rL _ _ he _ l ρ M h; exact he id l ρ M h
  | ret => intro k e r kL eL rL _ _ _ hr l ρ M h; exact hr l ρ M h
end

def resF (ρ : Rg) (M : MM) : RV → Option AV
  | .tmp t => some (ρ t)
  | .cell a n agg => cellA n agg (ρ a) M
  | .loc a n agg => locA n agg (ρ a)

def resBF (ρ : Rg) (M : MM) : List RV → Option AV
  | [r] => resF ρ M r
  | rs => (rs.mapM (resF ρ M)).map .tup

def endK (res : List RV) (ρ : Rg) (M : MM) : Option (AV × MM) := opt (resBF ρ M res) fun v => some (v, M)
def endL (res : List RV) (l : List AV) (M : MM) : Option (AV × MM) := (resAll ⟨l, M⟩ res).map (·, M)
def noE : Nat → Rg → MM → Option (AV × MM) := fun _ _ _ => none

theorem resF_eq {n : Nat} {l : List AV} {ρ : Rg} (h : RR n l ρ) (M : MM) (x : RV) : resF ρ M x = resOf ⟨l, M⟩ x := by
  cases x with
  | tmp t => simp only [resF, resOf, h.at_]
  | cell a n agg => simp only [resF, resOf, h.at_]; rfl
  | loc a n agg => simp only [resF, resOf, h.at_]; rfl

theorem endK_eq {n : Nat} (res : List RV) (l : List AV) (ρ : Rg) (M : MM) (h : RR n l ρ) : endK res ρ M = endL res l M := by
  have e : (fun x => resF ρ M x) = fun x => resOf ⟨l, M⟩ x := funext fun x => resF_eq h M x
  have e2 : resBF ρ M res = resB ⟨l, M⟩ res := by
    have e' : resF ρ M = resOf ⟨l, M⟩ := e
    cases res with
    | nil => rfl
    | cons a r => cases r with
      | nil => exact resF_eq h M a
      | cons b r => simp only [resBF, resB, e']
  unfold endK endL
  rw [e2, resB_eq]
  cases resAll ⟨l, M⟩ res <;> rfl

theorem aF_rr (args : List AV) (n : Nat) : RR n (args ++ List.replicate (n - args.length) .undef) (aF args) := by
  refine ⟨by simp; omega, fun i => ?_⟩
  simp only [aF, List.getD_eq_getElem?_getD]
  by_cases hi : i < args.length
  · rw [List.getElem?_append_left hi]
  · rw [List.getElem?_append_right (by omega), List.getElem?_eq_none (l := args) (by omega), List.getElem?_replicate]
    split <;> rfl

theorem exec_flow (call : CallT) (mode : FuncId → Mode) (lo nl : Nat) {cf : CF} (hw : wfK cf.nt cf.body = true) (args : List AV) (M : MM) :
    (match exec call mode lo nl cf.body ⟨args ++ List.replicate (cf.nt - args.length) .undef, M⟩ with
      | some (.normal, s) | some (.ret, s) => (resAll s cf.res).map (·, s.M)
      | _ => none) = execC call mode lo nl cf.body (endK cf.res) noE (endK cf.res) (aF args) M := by
  rw [execC_eq call mode lo nl cf.body (k := endK cf.res) (e := noE) (r := endK cf.res) (kL := endL cf.res) (eL := fun _ _ _ => none) (rL := endL cf.res) hw (fun l ρ M h => endK_eq cf.res l ρ M h) (fun _ _ _ _ _ => rfl) (fun l ρ M h => endK_eq cf.res l ρ M h) _ _ M (aF_rr args cf.nt)]
  cases exec call mode lo nl cf.body ⟨args ++ List.replicate (cf.nt - args.length) .undef, M⟩ with
  | none => rfl
  | some p =>
    obtain ⟨x, s⟩ := p
    cases x <;> rfl

theorem execC_seq {R : Type} (call : CallT) (mode : FuncId → Mode) (lo nl : Nat) (a b : K) (k : Rg → MM → Option R) (e : Nat → Rg → MM → Option R) (r : Rg → MM → Option R) (ρ : Rg) (M : MM) :
    execC call mode lo nl (.seq a b) k e r ρ M = execC call mode lo nl a (execC call mode lo nl b k e r) e r ρ M := rfl

end Go.Proofs.Ytegkhdflmboljaa.Sx
