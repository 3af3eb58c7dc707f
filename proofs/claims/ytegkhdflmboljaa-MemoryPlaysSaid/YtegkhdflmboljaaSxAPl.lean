/-
  SX, PART A: THE ABSTRACT MACHINE. Values without addresses (AV; closed data D), memory by ids, no draws: what a Go function does, as a plain Lean function ('acall').
  Nothing here says anything of the model: parts R, O, X prove that what it answers is what the model's run answers.
-/
import Derived.LoopN
import Derived.Calls
namespace Go.Proofs.Ytegkhdflmboljaa.Sx
open Go

/-- Closed data: one cell's content without any mutable memory behind it. 'sl cells n': a slice of n elements whose cells are these. -/
inductive D where
  | v (x : Value)
  | sl (cells : List D) (n : Nat)

/-- Values of the abstract machine. 'ptr', 'os', 'mp' lead to memory that may be written; 'ip' into closed data; 'ov': a slice of closed data that may be appended to as long as its id is there (a token). -/
inductive AV where
  | d (x : D)
  | ptr (id off : Nat)
  | ip (cells : List D)
  | os (id off len sz : Nat)
  | ov (id : Nat) (cells : List D) (len sz : Nat)
  | mp (id : Nat)
  | fn (f : FuncId) (first cap : List AV)
  | agg (cs : List AV)
  | tup (vs : List AV)

/-- The kinds of keys that a map may have here. -/
inductive KK where
  | int (k : IntKind) | string | bool
  deriving DecidableEq

def KK.fits : KK → Value → Bool
  | .int k, .int k' _ => k == k'
  | .string, .string _ => true
  | .bool, .bool _ => true
  | _, _ => false

inductive Blk where
  | cells (t : TypeId) (cs : List AV)
  | map (kk : KK) (es : List (Value × AV))
  | siter (s : ByteArray) (pos : Nat)
  | tok (t : TypeId) (used : Nat)

abbrev Mem := Nat → Option Blk

def upd (m : Mem) (i : Nat) (b : Option Blk) : Mem := fun k => if k = i then b else m k

structure MM where
  nx : Nat
  mem : Mem

def MM.alloc (M : MM) (fresh : Nat) (b : Blk) : MM := { nx := max M.nx (fresh + 1), mem := upd M.mem fresh (some b) }
def MM.up (M : MM) (fresh : Nat) : MM := { nx := max M.nx (fresh + 1), mem := M.mem }
def MM.put (M : MM) (id : Nat) (b : Blk) : MM := { nx := M.nx, mem := upd M.mem id (some b) }

/-- What may be read: ids below b; of a drawing region's own (b to b + n) those in the mask; those behind it if w. -/
structure Lm where
  b : Nat
  n : Nat
  mask : Nat
  w : Bool

def Lm.ok (L : Lm) (id : Nat) : Bool := Nat.blt id L.b || (Nat.blt id (L.b + L.n) && L.mask.testBit (id - L.b)) || (L.w && Nat.ble (L.b + L.n) id)
abbrev Lm.top (k : Nat) : Lm := ⟨k, 0, 0, false⟩
theorem ok_lt {L : Lm} {id : Nat} (h : id < L.b) : L.ok id = true := by
  have : Nat.blt id L.b = true := by rw [Nat.blt_eq]; exact h
  simp [Lm.ok, this]
theorem ok_top {id k : Nat} : (Lm.top k).ok id = true ↔ id < k := by
  simp [Lm.ok]

def Lm.own (L : Lm) (id : Nat) : Bool := Nat.ble L.b id && Nat.blt id (L.b + L.n)
def hid (L : Lm) (id : Nat) : Bool := L.own id && !L.ok id
def hideM (L : Lm) (m : Mem) : Mem := fun id => if hid L id then none else m id
def backM (L : Lm) (nx : Nat) (m m' : Mem) : Mem := fun id => if hid L id then m id else if Nat.blt id nx && (m id).isNone then none else m' id

def look (m : Mem) (lim : Lm) (id : Nat) : Option Blk := if lim.ok id then m id else none

abbrev AV.int (k : IntKind) (n : Int) : AV := .d (.v (.int k n))
abbrev AV.i (n : Int) : AV := .d (.v (.int .i64 n))
abbrev AV.bool (b : Bool) : AV := .d (.v (.bool b))
abbrev AV.str (s : ByteArray) : AV := .d (.v (.string s))
abbrev AV.nil : AV := .d (.v (.pointer none))
abbrev AV.nilsl : AV := .d (.v (.slice none 0 0))
abbrev AV.undef : AV := .tup []

def AV.cells : AV → List AV
  | .agg cs => cs
  | x => [x]

def AV.one : AV → Bool
  | .agg _ | .tup _ => false
  | _ => true

def scal : Value → Bool
  | .bool _ | .int _ _ | .float _ _ | .string _ | .pointer none | .map none | .nilFunc | .nilIface => true
  | .slice none n c => n == 0 && c == 0
  | _ => false

/-! ### Operands -/
inductive X where
  | t (i : Nat)
  | k (a : AV)

def ev (ρ : List AV) : X → AV
  | .t i => ρ.getD i .undef
  | .k a => a

/-! ### Plain operations -/
def bitsOf (op : BinOp) (k : IntKind) (a b : Int) : Int :=
  match op with
  | .and => k.wrap (BitVec.ofInt k.bits a &&& BitVec.ofInt k.bits b).toNat
  | .or => k.wrap (BitVec.ofInt k.bits a ||| BitVec.ofInt k.bits b).toNat
  | .xor => k.wrap (BitVec.ofInt k.bits a ^^^ BitVec.ofInt k.bits b).toNat
  | _ => k.wrap (BitVec.ofInt k.bits a &&& ~~~BitVec.ofInt k.bits b).toNat

def ibin (op : BinOp) (k : IntKind) (a b : Int) : Option Value :=
  match op with
  | .add => some (.int k (k.wrap (a + b)))
  | .sub => some (.int k (k.wrap (a - b)))
  | .mul => some (.int k (k.wrap (a * b)))
  | .quo => if b = 0 then none else some (.int k (k.wrap (a.tdiv b)))
  | .rem => if b = 0 then none else some (.int k (a.tmod b))
  | .and => some (.int k (bitsOf .and k a b))
  | .or => some (.int k (bitsOf .or k a b))
  | .xor => some (.int k (bitsOf .xor k a b))
  | .andNot => some (.int k (bitsOf .andNot k a b))
  | .eql => some (.bool (a == b))
  | .neq => some (.bool (a != b))
  | .lss => some (.bool (a < b))
  | .leq => some (.bool (a ≤ b))
  | .gtr => some (.bool (a > b))
  | .geq => some (.bool (a ≥ b))
  | _ => none

def ishift (op : BinOp) (k : IntKind) (a b : Int) : Option Value :=
  if b < 0 then none else
  match op with
  | .shl => some (.int k (k.wrap (a * 2 ^ (min b.toNat k.bits))))
  | .shr => some (.int k (a.fdiv (2 ^ (min b.toNat k.bits))))
  | _ => none

def sbin (op : BinOp) (x y : ByteArray) : Option Value :=
  match op with
  | .add => if ((x.data.size + y.data.size : Nat) : Int) > 9223372036854775807 then none else some (.string ⟨x.data ++ y.data⟩)
  | .eql => some (.bool (x.data.toList == y.data.toList))
  | .neq => some (.bool !(x.data.toList == y.data.toList))
  | .lss => some (.bool (Op.bytesLess x.data.toList y.data.toList))
  | .leq => some (.bool (Op.bytesLess x.data.toList y.data.toList || x.data.toList == y.data.toList))
  | .gtr => some (.bool !(Op.bytesLess x.data.toList y.data.toList || x.data.toList == y.data.toList))
  | .geq => some (.bool !(Op.bytesLess x.data.toList y.data.toList))
  | _ => none

/-- What '==' asks of the operands' type, where it is no number and no string. -/
inductive EK where
  | none | bool | ptr | slice | map | func
  deriving DecidableEq

def eqk : EK → AV → AV → Option Bool
  | .bool, .d (.v (.bool a)), .d (.v (.bool b)) => some (a == b)
  | .ptr, .d (.v (.pointer none)), .d (.v (.pointer none)) => some true
  | .ptr, .d (.v (.pointer none)), .ptr _ _ => some false
  | .ptr, .ptr _ _, .d (.v (.pointer none)) => some false
  | .ptr, .d (.v (.pointer none)), .ip _ => some false
  | .ptr, .ip _, .d (.v (.pointer none)) => some false
  | .map, .d (.v (.map none)), .d (.v (.map none)) => some true
  | .map, .mp _, .d (.v (.map none)) => some false
  | .func, .d (.v .nilFunc), .d (.v .nilFunc) => some true
  | .func, .fn _ _ _, .d (.v .nilFunc) => some false
  | _, _, _ => none

def binA (op : BinOp) (e : EK) : AV → AV → Option AV
  | .d (.v (.int k a)), .d (.v (.int k' b)) =>
    if op = .shl ∨ op = .shr then (ishift op k a b).map (fun v => .d (.v v))
    else if k = k' then (ibin op k a b).map (fun v => .d (.v v)) else none
  | .d (.v (.string a)), .d (.v (.string b)) => (sbin op a b).map (fun v => .d (.v v))
  | x, y =>
    match op with
    | .eql => (eqk e x y).map fun b => .bool b
    | .neq => (eqk e x y).map fun b => .bool !b
    | _ => none

def unA (op : UnOp) : AV → Option AV
  | .d (.v (.int k n)) =>
    match op with
    | .neg => some (.int k (k.wrap (0 - n)))
    | .xor => some (.int k (bitsOf .xor k (if k.signed then -1 else k.max) n))
    | _ => none
  | .d (.v (.bool b)) => match op with | .not => some (.bool !b) | _ => none
  | _ => none

def setAt (cs : List AV) (o : Nat) (vs : List AV) : List AV := cs.take o ++ vs ++ cs.drop (o + vs.length)

def fill : List AV → List (Nat × Nat × AV) → Option (List AV)
  | cs, [] => some cs
  | cs, (o, s, v) :: r => if v.cells.length = s ∧ o + s ≤ cs.length then fill (setAt cs o v.cells) r else none

def asI : AV → Option Int
  | .d (.v (.int _ n)) => some n
  | _ => none

def hiOf (ρ : List AV) (len : Nat) : Option X → Option Int
  | some h => asI (ev ρ h)
  | none => some (len : Int)
def loOf (ρ : List AV) : Option X → Option Int
  | some l => asI (ev ρ l)
  | none => some 0

def sameK : Value → Value → Bool
  | .int k a, .int k' b => k == k' && a == b
  | .string a, .string b => a.data.toList == b.data.toList
  | .bool a, .bool b => a == b
  | _, _ => false

def findM (k : Value) : List (Value × AV) → Option AV
  | [] => none
  | e :: r => if sameK k e.1 then some e.2 else findM k r

def putM (k : Value) (x : AV) : List (Value × AV) → List (Value × AV)
  | [] => [(k, x)]
  | e :: r => if sameK k e.1 then (k, x) :: r else e :: putM k x r

def delM (k : Value) : List (Value × AV) → List (Value × AV)
  | [] => []
  | e :: r => if sameK k e.1 then r else e :: delM k r

def sliceCells (m : Mem) (lim : Lm) (sz : Nat) : AV → Option (Nat × List AV)
  | .d (.sl cs n) => if n * sz ≤ cs.length then some (n, (cs.take (n * sz)).map .d) else none
  | .ov _ cs n _ => if n * sz ≤ cs.length then some (n, (cs.take (n * sz)).map .d) else none
  | .d (.v (.slice none 0 0)) => some (0, [])
  | .os id off len s =>
    match look m lim id with
    | some (.cells _ cs) => if s = sz ∧ off + len * sz ≤ cs.length then some (len, (cs.drop off).take (len * sz)) else none
    | _ => none
  | _ => none

def toD : AV → Option D
  | .d x => some x
  | .ov _ cs n _ => some (.sl cs n)
  | _ => none

def zrep (zero : List AV) : AV → Option (Nat × List D)
  | .d (.v (.int _ k)) => if 0 ≤ k ∧ k ≤ 140737488355328 then (((List.replicate k.toNat zero).flatten).mapM toD).map fun ds => (k.toNat, ds) else none
  | _ => none

def bytesA : List AV → Option (List UInt8)
  | [] => some []
  | .d (.v (.int .u8 n)) :: r => (bytesA r).map (UInt8.ofNat n.toNat :: ·)
  | _ => none

/-! ### Instructions -/
inductive I where
  | mov (x : X)
  | pick (c a b : X)
  | new (t : TypeId) (cs : List AV)
  | box (t : TypeId) (x : X)
  | mk (zero : List AV) (parts : List (Nat × Nat × X))
  | mksl (t : TypeId) (n sz : Nat) (zero : List AV) (parts : List (Nat × Nat × X))
  | ld1 (a : X)
  | ldn (n : Nat) (a : X)
  | st (n : Nat) (a x : X)
  | nilc (x : X)
  | bin (op : BinOp) (e : EK) (x y : X)
  | un (op : UnOp) (x : X)
  | cvi (k : IntKind) (x : X)
  | cvs (x : X)
  | b2s (x : X)
  | mkf (f : FuncId) (first cap : List X)
  | mkmap (kk : KK)
  | mkslice (t : TypeId) (sz bytes : Nat) (zero : List AV) (l c : X)
  | slstr (x : X) (lo hi : Option X)
  | slsl (sz : Nat) (x : X) (lo hi : Option X)
  | fad (off : Nat) (x : X)
  | fld (off n : Nat) (agg : Bool) (x : X)
  | ixs (sz : Nat) (x i : X)
  | ixp (sz len : Nat) (x i : X)
  | ixv (sz len : Nat) (agg : Bool) (x i : X)
  | ixc (x i : X)
  | lkp (kk : KK) (comma : Bool) (zero : AV) (m k : X)
  | mset (kk : KK) (m k x : X)
  | mdel (kk : KK) (m k : X)
  | ext (x : X) (i : Nat)
  | tk (x : X) (n : Nat)
  | lens (x : X)
  | len (x : X)
  | lenm (x : X)
  | mmax (mx : Bool) (x y : X)
  | app (t : TypeId) (sz bytes : Nat) (zero : List AV) (s x : X)
  | appn (t : TypeId) (sz bytes : Nat) (zero : List AV) (x : X)
  | vsl (t : TypeId) (n sz : Nat) (zero : List AV) (parts : List (Nat × Nat × X))
  | vmk (t : TypeId) (sz bytes : Nat) (zero : List AV) (l c : X)
  | vapp (t : TypeId) (sz bytes : Nat) (zero : List AV) (s x : X)
  | vext (t : TypeId) (sz bytes : Nat) (zero : List AV) (s x : X)
  | wsl (n : Nat) (zero : List AV) (parts : List (Nat × Nat × X))
  | wmk (bytes : Nat) (zero : List AV) (l c : X)
  | wapp (sz bytes : Nat) (s x : X)
  | wext (sz bytes : Nat) (zero : List AV) (s x : X)
  | callw (no : List FuncId) (f : X) (args : List X)
  | call (f : FuncId) (args : List X)
  | callv (f : X) (args : List X)
  | lnew (cs : List AV)
  | lbox (x : X)
  | setc (off n : Nat) (l x : X)
  | ld1r (r a : X)
  | ldnr (n : Nat) (r a : X)
  | callk (f : FuncId) (args roots : List X)
  | str (n : Nat) (r : X) (ns : List X) (a x : X)
  | bad

/-! ### Blocks that did not turn -/
def eqV : Value → Value → Bool
  | .bool a, .bool b => a == b
  | .int k a, .int k' b => k == k' && a == b
  | .string a, .string b => a.data.toList == b.data.toList
  | .pointer none, .pointer none => true
  | .map none, .map none => true
  | .nilFunc, .nilFunc => true
  | .nilIface, .nilIface => true
  | .slice none n c, .slice none n' c' => n == n' && c == c'
  | _, _ => false

mutual
def eqD : D → D → Bool
  | .v x, .v y => eqV x y
  | .sl cs n, .sl ds m => eqDs cs ds && n == m
  | _, _ => false
def eqDs : List D → List D → Bool
  | [], [] => true
  | x :: xs, y :: ys => eqD x y && eqDs xs ys
  | _, _ => false
end

mutual
def eqA : AV → AV → Bool
  | .d x, .d y => eqD x y
  | .ptr a b, .ptr a' b' => a == a' && b == b'
  | .ip xs, .ip ys => eqDs xs ys
  | .os a b c d, .os a' b' c' d' => a == a' && b == b' && c == c' && d == d'
  | .ov a xs n s, .ov a' ys n' s' => a == a' && eqDs xs ys && n == n' && s == s'
  | .mp a, .mp b => a == b
  | .fn f as bs, .fn f' as' bs' => f == f' && eqAs as as' && eqAs bs bs'
  | .agg xs, .agg ys => eqAs xs ys
  | .tup xs, .tup ys => eqAs xs ys
  | _, _ => false
def eqAs : List AV → List AV → Bool
  | [], [] => true
  | x :: xs, y :: ys => eqA x y && eqAs xs ys
  | _, _ => false
end

def eqB : Option Blk → Option Blk → Bool
  | some (.cells t cs), some (.cells t' cs') => t == t' && eqAs cs cs'
  | _, _ => false

def idOf : AV → Option Nat
  | .ptr i _ => some i
  | .os i _ _ _ => some i
  | _ => none

def okRoot (r a : AV) : Bool :=
  match a with
  | .ip _ => true
  | .ptr j _ => idOf r == some j
  | _ => false

def kept (m m' : Mem) (r : AV) : Bool :=
  match r with
  | .agg cs => eqAs cs cs
  | .tup _ => false
  | r => match idOf r with
    | some i => eqB (m i) (m' i)
    | none => true

def ld1I (m : Mem) (lim : Lm) : AV → Option AV
  | .ptr id off => match look m lim id with
    | some (.cells _ cs) => cs[off]?
    | _ => none
  | .ip ds => (ds[0]?).map .d
  | _ => none

def ldnI (m : Mem) (lim : Lm) (n : Nat) : AV → Option AV
  | .ptr id off => match look m lim id with
    | some (.cells _ cs) => if off + n ≤ cs.length then some (.agg ((cs.drop off).take n)) else none
    | _ => none
  | .ip ds => if n ≤ ds.length then some (.agg ((ds.take n).map .d)) else none
  | _ => none

/-- How a function is called: with the caller's memory ('rw'); with it, but not writing it, and what comes back is closed ('ro'); with no memory at all ('pure'). -/
inductive Mode where
  | rw | ro | pure
  deriving DecidableEq

def normD : D → D
  | .v (.slice none _ _) => .sl [] 0
  | x => x

def freezeD (m : Mem) (lo : Nat) : Nat → AV → Option D
  | _, .d x => some (normD x)
  | _, .ov _ cs n _ => some (.sl cs n)
  | n + 1, .os id off len sz =>
    if id < lo then none else
    match m id with
    | some (.cells _ cs) =>
      if off + len * sz ≤ cs.length then (((cs.drop off).take (len * sz)).mapM (freezeD m lo n)).map (fun ds => .sl ds len) else none
    | _ => none
  | _, _ => none

def freeze1 (m : Mem) (lo : Nat) : AV → Option AV
  | .ptr id off => if id < lo then some (.ptr id off) else none
  | .mp id => if id < lo then some (.mp id) else none
  | .ip cs => some (.ip cs)
  | .os id off len sz => if id < lo then some (.os id off len sz) else (freezeD m lo 64 (.os id off len sz)).map .d
  | .ov _ cs n _ => some (.d (.sl cs n))
  | .d x => (freezeD m lo 64 (.d x)).map .d
  | _ => none

def freezeA (m : Mem) (lo : Nat) : AV → Option AV
  | .agg cs => (cs.mapM (freeze1 m lo)).map .agg
  | x => freeze1 m lo x

def freeze (m : Mem) (lo : Nat) : AV → Option AV
  | .tup vs => (vs.mapM (freezeA m lo)).map .tup
  | x => freezeA m lo x

abbrev CallT := FuncId → List AV → Nat → MM → Option (AV × MM)

def AV.isD : AV → Bool
  | .d _ | .ov _ _ _ _ => true
  | _ => false

def closedC : AV → Bool
  | .d _ | .ip _ | .ov _ _ _ _ => true
  | .fn _ as bs => as.all AV.isD && bs.all AV.isD
  | _ => false

def closedA : AV → Bool
  | .agg cs => cs.all closedC
  | x => closedC x

def stripC : AV → AV
  | .ov _ cs n _ => .d (.sl cs n)
  | x => x

def normC : AV → AV
  | .d x => .d (normD x)
  | .ov _ cs n _ => .d (.sl cs n)
  | .fn f as bs => .fn f (as.map stripC) (bs.map stripC)
  | x => x

def normA : AV → AV
  | .agg cs => .agg (cs.map normC)
  | x => normC x

def snap (m : Mem) (x : AV) : Option AV := if closedA x then some (normA x) else freezeA m 0 x

def scalC : AV → Bool
  | .d (.v _) => true
  | _ => false

def scalA : AV → Bool
  | .agg cs => cs.all scalC
  | x => scalC x

def scalT : AV → Bool
  | .tup vs => vs.all scalA
  | x => scalA x

def rwD (call : CallT) (f : FuncId) (args : List AV) (lo : Nat) (L : Lm) (M : MM) : Option (AV × MM) :=
  match call f args lo ⟨M.nx, hideM L M.mem⟩ with
  | some (r, M') => if M.nx ≤ M'.nx then some (r, ⟨M'.nx, backM L M.nx M.mem M'.mem⟩) else none
  | none => none

def okStr (r a : AV) (ns : List AV) : Bool :=
  match a with
  | .ptr j _ => idOf r == some j && ns.all fun y => !(idOf y == some j)
  | _ => false

def docall (call : CallT) (mode : FuncId → Mode) (draw : Bool) (lo : Nat) (lim : Lm) (f : FuncId) (args : List AV) (M : MM) : Option (AV × MM) :=
  match mode f with
  | .pure =>
    match args.mapM (snap (look M.mem lim)) with
    | some args' =>
      match call f args' 0 ⟨0, fun _ => none⟩ with
      | some (r, M') =>
        match freeze M'.mem 0 r with
        | some r' => if args.all closedA || scalT r' then some (r', M) else none
        | none => none
      | none => none
    | none => none
  | .ro =>
    match call f args M.nx ⟨M.nx, look M.mem lim⟩ with
    | some (r, M') => (freeze M'.mem M.nx r).map (·, M)
    | none => none
  | .rw => if draw then rwD call f args lo lim M else call f args lo M

def istep (call : CallT) (mode : FuncId → Mode) (draw : Bool) (lo : Nat) (lim : Lm) (fresh : Nat) (i : I) (ρ : List AV) (M : MM) : Option (AV × MM) :=
  match i with
  | .mov x => some (ev ρ x, M)
  | .pick c a b => match ev ρ c with
    | .d (.v (.bool t)) => some (if t then ev ρ a else ev ρ b, M)
    | _ => none
  | .new t cs => some (.ptr fresh 0, M.alloc fresh (.cells t cs))
  | .box t x => match ev ρ x with
    | .tup _ => none
    | a => some (.ptr fresh 0, M.alloc fresh (.cells t a.cells))
  | .mk zero parts => (fill zero (parts.map fun p => (p.1, p.2.1, ev ρ p.2.2))).map fun cs => (.agg cs, M)
  | .mksl t n sz zero parts => (fill zero (parts.map fun p => (p.1, p.2.1, ev ρ p.2.2))).map fun cs => (.os fresh 0 n sz, M.alloc fresh (.cells t cs))
  | .ld1 a => match ev ρ a with
    | .ptr id off => match look M.mem lim id with
      | some (.cells _ cs) => (cs[off]?).map (·, M)
      | _ => none
    | .ip ds => (ds[0]?).map fun x => (.d x, M)
    | _ => none
  | .ldn n a => match ev ρ a with
    | .ptr id off => match look M.mem lim id with
      | some (.cells _ cs) => if off + n ≤ cs.length then some (.agg ((cs.drop off).take n), M) else none
      | _ => none
    | .ip ds => if n ≤ ds.length then some (.agg ((ds.take n).map .d), M) else none
    | _ => none
  | .st n a x => match ev ρ a with
    | .ptr id off => match look M.mem lim id with
      | some (.cells t cs) =>
        if lo ≤ id ∧ (ev ρ x).cells.length = n ∧ off + n ≤ cs.length ∧ (ev ρ x).cells.all AV.one then some (.undef, M.put id (.cells t (setAt cs off (ev ρ x).cells))) else none
      | _ => none
    | _ => none
  | .nilc x => match ev ρ x with
    | .ptr id off => some (.ptr id off, M)
    | .ip ds => some (.ip ds, M)
    | .fn f a b => some (.fn f a b, M)
    | _ => none
  | .bin op e x y => (binA op e (ev ρ x) (ev ρ y)).map (·, M)
  | .un op x => (unA op (ev ρ x)).map (·, M)
  | .cvi k x => match ev ρ x with
    | .d (.v (.int _ n)) => some (.int k (k.wrap n), M)
    | _ => none
  | .cvs x => match ev ρ x with
    | .d (.v (.string s)) => some (.str s, M)
    | _ => none
  | .b2s x => match sliceCells M.mem lim 1 (ev ρ x) with
    | some (_, cs) => (bytesA cs).map fun l => (.str ⟨l.toArray⟩, M)
    | none => none
  | .mkf f first cap => some (.fn f (first.map (ev ρ)) (cap.map (ev ρ)), M)
  | .mkmap kk => some (.mp fresh, M.alloc fresh (.map kk []))
  | .mkslice t sz bytes zero l c => match asI (ev ρ l), asI (ev ρ c) with
    | some l, some c =>
      if 0 ≤ l ∧ l ≤ c ∧ c ≤ 9223372036854775807 ∧ bytes * c ≤ 281474976710656 then
        some (.os fresh 0 l.toNat sz, M.alloc fresh (.cells t ((List.replicate l.toNat zero).flatten)))
      else none
    | _, _ => none
  | .slstr x lo hi => match ev ρ x with
    | .d (.v (.string s)) =>
      match hiOf ρ s.data.size hi, loOf ρ lo with
      | some h, some l => if 0 ≤ l ∧ l ≤ h ∧ h ≤ (s.data.size : Int) then some (.str ⟨s.data.extract l.toNat h.toNat⟩, M) else none
      | _, _ => none
    | _ => none
  | .slsl sz x lo hi =>
    match ev ρ x with
    | .os id off len s =>
      match hiOf ρ len hi, loOf ρ lo with
      | some h, some l =>
        if 0 ≤ l ∧ l ≤ h ∧ h ≤ (len : Int) ∧ s = sz then
          (if l = 0 then some (.os id off h.toNat sz, M) else if l = h then some (.d (.sl [] 0), M) else some (.os id (off + l.toNat * sz) (h - l).toNat sz, M))
        else none
      | _, _ => none
    | .d (.sl ds len) =>
      match hiOf ρ len hi, loOf ρ lo with
      | some h, some l =>
        if 0 ≤ l ∧ l ≤ h ∧ h ≤ (len : Int) ∧ len * sz ≤ ds.length then
          (if l = h then some (.d (.sl [] 0), M) else some (.d (.sl ((ds.drop (l.toNat * sz)).take ((h - l).toNat * sz)) (h - l).toNat), M))
        else none
      | _, _ => none
    | .d (.v (.slice none 0 0)) =>
      match hiOf ρ 0 hi, loOf ρ lo with
      | some h, some l => if l = 0 ∧ h = 0 then some (.nilsl, M) else none
      | _, _ => none
    | .ov _ ds len _ =>
      match hiOf ρ len hi, loOf ρ lo with
      | some h, some l =>
        if 0 ≤ l ∧ l ≤ h ∧ h ≤ (len : Int) ∧ len * sz ≤ ds.length then
          (if l = h then some (.d (.sl [] 0), M) else some (.d (.sl ((ds.drop (l.toNat * sz)).take ((h - l).toNat * sz)) (h - l).toNat), M))
        else none
      | _, _ => none
    | _ => none
  | .fad off x => match ev ρ x with
    | .ptr id o => some (.ptr id (o + off), M)
    | .ip ds => some (.ip (ds.drop off), M)
    | _ => none
  | .fld off n agg x => match ev ρ x with
    | .agg cs => if agg then (if off + n ≤ cs.length then some (.agg ((cs.drop off).take n), M) else none) else (cs[off]?).map (·, M)
    | _ => none
  | .ixs sz x i => match asI (ev ρ i) with
    | some n => match ev ρ x with
      | .os id off len _ => if 0 ≤ n ∧ n < (len : Int) then some (.ptr id (off + n.toNat * sz), M) else none
      | .d (.sl ds len) => if 0 ≤ n ∧ n < (len : Int) then some (.ip (ds.drop (n.toNat * sz)), M) else none
      | .ov _ ds len _ => if 0 ≤ n ∧ n < (len : Int) then some (.ip (ds.drop (n.toNat * sz)), M) else none
      | _ => none
    | none => none
  | .ixp sz len x i => match asI (ev ρ i) with
    | some n => if 0 ≤ n ∧ n < (len : Int) then
      (match ev ρ x with
      | .ptr id off => some (.ptr id (off + n.toNat * sz), M)
      | .ip ds => some (.ip (ds.drop (n.toNat * sz)), M)
      | _ => none) else none
    | none => none
  | .ixv sz len agg x i => match asI (ev ρ i), ev ρ x with
    | some n, .agg cs => if 0 ≤ n ∧ n < (len : Int) then
        (if agg then (if n.toNat * sz + sz ≤ cs.length then some (.agg ((cs.drop (n.toNat * sz)).take sz), M) else none) else (cs[n.toNat * sz]?).map (·, M)) else none
    | _, _ => none
  | .ixc x i => match ev ρ x, asI (ev ρ i) with
    | .d (.v (.string s)), some n => if 0 ≤ n then (s.data[n.toNat]?).map fun b => (.int .u8 b.toNat, M) else none
    | _, _ => none
  | .lkp kk comma zero m k => match ev ρ k with
    | .d (.v key) => if kk.fits key then
      (match ev ρ m with
      | .d (.v (.map none)) => some (if comma then .tup [zero, .bool false] else zero, M)
      | .mp id => match look M.mem lim id with
        | some (.map kk' es) => if kk' = kk then
          (match findM key es with
          | some x => some (if comma then .tup [x, .bool true] else x, M)
          | none => some (if comma then .tup [zero, .bool false] else zero, M)) else none
        | _ => none
      | _ => none) else none
    | _ => none
  | .mset kk m k x => match ev ρ k, ev ρ m with
    | .d (.v key), .mp id => match look M.mem lim id with
      | some (.map kk' es) => if kk' = kk ∧ kk.fits key ∧ lo ≤ id then some (.undef, M.put id (.map kk (putM key (ev ρ x) es))) else none
      | _ => none
    | _, _ => none
  | .mdel kk m k => match ev ρ k, ev ρ m with
    | .d (.v key), .mp id => match look M.mem lim id with
      | some (.map kk' es) => if kk' = kk ∧ kk.fits key ∧ lo ≤ id then some (.undef, M.put id (.map kk (delM key es))) else none
      | _ => none
    | _, _ => none
  | .ext x i => match ev ρ x with
    | .tup vs => (vs[i]?).map (·, M)
    | _ => none
  | .tk x n => match ev ρ x with
    | .tup vs => some (.tup (vs.take n), M)
    | _ => none
  | .lens x => match ev ρ x with
    | .d (.v (.string s)) => some (.i s.data.size, M)
    | _ => none
  | .len x => match ev ρ x with
    | .d (.sl _ n) => some (.i n, M)
    | .d (.v (.slice none 0 0)) => some (.i 0, M)
    | .os _ _ len _ => some (.i len, M)
    | .ov _ _ len _ => some (.i len, M)
    | _ => none
  | .lenm x => match ev ρ x with
    | .d (.v (.map none)) => some (.i 0, M)
    | .mp id => match look M.mem lim id with
      | some (.map _ es) => some (.i es.length, M)
      | _ => none
    | _ => none
  | .mmax mx x y => match ev ρ x, ev ρ y with
    | .d (.v (.int k a)), .d (.v (.int _ b)) => some (.int k (if mx then (if b > a then b else a) else (if b < a then b else a)), M)
    | _, _ => none
  | .app t sz bytes zero s x =>
    match sliceCells M.mem (.top M.nx) sz (ev ρ x) with
    | some (n, news) =>
      if news.all AV.one then
      (match ev ρ s with
      | .d (.v (.slice none 0 0)) =>
        if n = 0 then some (.nilsl, M) else
        if n * bytes ≤ 140737488355328 ∧ n ≤ 9223372036854775807 ∧ zero.length = sz then some (.os fresh 0 n sz, M.alloc fresh (.cells t news)) else none
      | .os id 0 len s =>
        match look M.mem (.top M.nx) id with
        | some (.cells t' cs) =>
          if lo ≤ id ∧ t' = t ∧ s = sz ∧ len * sz ≤ cs.length ∧ (len + n) * bytes ≤ 140737488355328 ∧ len + n ≤ 9223372036854775807 ∧ zero.length = sz then
            some (.os fresh 0 (len + n) sz, { nx := max M.nx (fresh + 1), mem := upd (upd M.mem id none) fresh (some (.cells t (cs.take (len * sz) ++ news))) })
          else none
        | _ => none
      | _ => none) else none
    | none => none
  | .appn t sz bytes zero x =>
    match sliceCells M.mem lim sz (ev ρ x) with
    | some (n, news) =>
      if news.all AV.one then
        (if n = 0 then some (.nilsl, M.up fresh) else
        if n * bytes ≤ 140737488355328 ∧ n ≤ 9223372036854775807 ∧ zero.length = sz then some (.os fresh 0 n sz, M.alloc fresh (.cells t news)) else none) else none
    | none => none
  | .vsl t n sz zero parts => match fill zero (parts.map fun p => (p.1, p.2.1, ev ρ p.2.2)) with
    | some cs => (cs.mapM toD).map fun ds => (.ov fresh ds n sz, M.alloc fresh (.tok t (n * sz)))
    | none => none
  | .vmk t sz bytes zero l c => match asI (ev ρ l), asI (ev ρ c) with
    | some l, some c =>
      if 0 ≤ l ∧ l ≤ c ∧ c ≤ 9223372036854775807 ∧ bytes * c ≤ 281474976710656 then
        (((List.replicate l.toNat zero).flatten).mapM toD).map fun ds => (.ov fresh ds l.toNat sz, M.alloc fresh (.tok t (l.toNat * sz)))
      else none
    | _, _ => none
  | .vapp t sz bytes zero s x =>
    match sliceCells M.mem lim sz (ev ρ x) with
    | some (n, cs) =>
      match cs.mapM toD with
      | some news =>
        (match ev ρ s with
        | .d (.v (.slice none 0 0)) =>
          if n = 0 then some (.nilsl, M.up fresh) else
          if n * bytes ≤ 140737488355328 ∧ n ≤ 9223372036854775807 ∧ zero.length = sz then some (.ov fresh news n sz, M.alloc fresh (.tok t (n * sz))) else none
        | .ov id ds len s =>
          match look M.mem lim id with
          | some (.tok t' u) =>
            if lo ≤ id ∧ t' = t ∧ s = sz ∧ u = len * sz ∧ (len + n) * bytes ≤ 140737488355328 ∧ len + n ≤ 9223372036854775807 ∧ zero.length = sz then
              some (.ov fresh (ds ++ news) (len + n) sz, { nx := max M.nx (fresh + 1), mem := upd (upd M.mem id none) fresh (some (.tok t ((len + n) * sz))) })
            else none
          | _ => none
        | _ => none)
      | none => none
    | none => none
  | .vext t sz bytes zero s x =>
    match zrep zero (ev ρ x) with
    | some (n, news) =>
      if zero.length = sz then
        (match ev ρ s with
        | .d (.v (.slice none 0 0)) =>
          if n = 0 then some (.nilsl, M.up fresh) else
          if n * bytes ≤ 140737488355328 ∧ n ≤ 9223372036854775807 ∧ zero.length = sz then some (.ov fresh news n sz, M.alloc fresh (.tok t (n * sz))) else none
        | .ov id ds len s =>
          match look M.mem lim id with
          | some (.tok t' u) =>
            if lo ≤ id ∧ t' = t ∧ s = sz ∧ u = len * sz ∧ (len + n) * bytes ≤ 140737488355328 ∧ len + n ≤ 9223372036854775807 ∧ zero.length = sz then
              some (.ov fresh (ds ++ news) (len + n) sz, { nx := max M.nx (fresh + 1), mem := upd (upd M.mem id none) fresh (some (.tok t ((len + n) * sz))) })
            else none
          | _ => none
        | _ => none)
      else none
    | none => none
  | .wsl n zero parts => match fill zero (parts.map fun p => (p.1, p.2.1, ev ρ p.2.2)) with
    | some cs => (cs.mapM toD).map fun ds => (.d (.sl ds n), M.up fresh)
    | none => none
  | .wmk bytes zero l c => match asI (ev ρ l), asI (ev ρ c) with
    | some l, some c =>
      if 0 ≤ l ∧ l ≤ c ∧ c ≤ 9223372036854775807 ∧ bytes * c ≤ 281474976710656 then
        (((List.replicate l.toNat zero).flatten).mapM toD).map fun ds => (.d (.sl ds l.toNat), M.up fresh)
      else none
    | _, _ => none
  | .wapp sz bytes s x =>
    match sliceCells M.mem lim sz (ev ρ x) with
    | some (n, cs) =>
      match cs.mapM toD with
      | some news =>
        (match ev ρ s with
        | .d (.sl ds len) => if (len + n) * bytes ≤ 140737488355328 ∧ len + n ≤ 9223372036854775807 then some (.d (.sl (ds ++ news) (len + n)), M.up fresh) else none
        | _ => none)
      | none => none
    | none => none
  | .wext sz bytes zero s x =>
    match zrep zero (ev ρ x) with
    | some (n, news) =>
      if zero.length = sz then
        (match ev ρ s with
        | .d (.sl ds len) => if (len + n) * bytes ≤ 140737488355328 ∧ len + n ≤ 9223372036854775807 then some (.d (.sl (ds ++ news) (len + n)), M.up fresh) else none
        | _ => none)
      else none
    | none => none
  | .call f args => docall call mode draw lo lim f (args.map (ev ρ)) M
  | .callv x args => match ev ρ x with
    | .fn f first cap => docall call mode draw lo lim f (first ++ args.map (ev ρ) ++ cap) M
    | _ => none
  | .callw no x args => match ev ρ x with
    | .fn f first cap => if no.contains f then none else docall call mode draw lo lim f (first ++ args.map (ev ρ) ++ cap) M
    | _ => none
  | .lnew cs => some (.agg cs, M.up fresh)
  | .lbox x => match ev ρ x with
    | .tup _ => none
    | a => some (.agg a.cells, M.up fresh)
  | .setc off n l x => match ev ρ l with
    | .agg cs => if (ev ρ x).cells.length = n ∧ off + n ≤ cs.length ∧ (ev ρ x).cells.all AV.one then some (.agg (setAt cs off (ev ρ x).cells), M) else none
    | _ => none
  | .ld1r r a => if okRoot (ev ρ r) (ev ρ a) then (ld1I M.mem lim (ev ρ a)).map (·, M) else none
  | .ldnr n r a => if okRoot (ev ρ r) (ev ρ a) then (ldnI M.mem lim n (ev ρ a)).map (·, M) else none
  | .callk f args roots => match docall call mode draw lo lim f (args.map (ev ρ)) M with
    | some (r, M') => if roots.all (fun x => kept (hideM lim M.mem) (hideM lim M'.mem) (ev ρ x)) then some (r, M') else none
    | none => none
  | .str n r ns a x => if okStr (ev ρ r) (ev ρ a) (ns.map (ev ρ)) then
    (match ev ρ a with
    | .ptr id off => match look M.mem lim id with
      | some (.cells t cs) =>
        if lo ≤ id ∧ (ev ρ x).cells.length = n ∧ off + n ≤ cs.length ∧ (ev ρ x).cells.all AV.one then some (.undef, M.put id (.cells t (setAt cs off (ev ρ x).cells))) else none
      | _ => none
    | _ => none) else none
  | .bad => none

/-! ### Regions, code, calls -/
structure Op1 where
  dst : Option Nat
  g : Option (Nat × Bool)
  i : I
  m : Nat := 0
  w : Bool := false

structure St where
  ρ : List AV
  M : MM

def setO (ρ : List AV) (dst : Option Nat) (v : AV) : List AV :=
  match dst with
  | some d => ρ.set d v
  | none => ρ

def want (g : Option (Nat × Bool)) (ρ : List AV) : Option Bool :=
  match g with
  | none => some true
  | some (s, b) => match ρ[s]? with
    | some (.d (.v (.bool t))) => some (t == b)
    | some (.tup []) => some false
    | _ => none

def step1 (call : CallT) (mode : FuncId → Mode) (draw : Bool) (lo : Nat) (lim : Lm) (fresh : Nat) (o : Op1) (s : St) : Option St :=
  match want o.g s.ρ with
  | none => none
  | some false => some { s with ρ := setO s.ρ o.dst .undef }
  | some true => match istep call mode draw lo lim fresh o.i s.ρ s.M with
    | some (v, M') => some ⟨setO s.ρ o.dst v, M'⟩
    | none => none

def regN (call : CallT) (mode : FuncId → Mode) (lo : Nat) : List Op1 → St → Option St
  | [], s => some s
  | o :: r, s => match step1 call mode false lo (.top s.M.nx) s.M.nx o s with
    | some s' => regN call mode lo r s'
    | none => none

def regD (call : CallT) (mode : FuncId → Mode) (lo base n : Nat) : List Op1 → Nat → St → Option St
  | [], _, s => some s
  | o :: r, i, s => match step1 call mode true lo ⟨base, n, o.m, o.w⟩ (base + i) o s with
    | some s' => regD call mode lo base n r (i + 1) s'
    | none => none

def idX (base : Nat) (i : Option Nat) (M : MM) : Nat := match i with | some i => base + i | none => M.nx
def regX (call : CallT) (mode : FuncId → Mode) (lo base n : Nat) : List (Option Nat × Op1) → St → Option St
  | [], s => some s
  | (i, o) :: r, s => match step1 call mode true lo ⟨base, n, o.m, o.w⟩ (idX base i s.M) o s with
    | some s' => regX call mode lo base n r s'
    | none => none

inductive K where
  | skip
  | reg (ops : List Op1)
  | drg (ops : List Op1)
  | drx (n : Nat) (ops : List (Option Nat × Op1))
  | seq (a b : K)
  | cond (c : X) (a b : K)
  | block (id : Nat) (a : K)
  | loop (a : K)
  | exit (id : Nat)
  | ret

inductive Ex where
  | normal
  | exit (id : Nat)
  | ret

def iter (f : St → Option (Ex × St)) : Nat → St → Option (Ex × St)
  | 0, _ => none
  | n + 1, s => match f s with
    | some (.normal, s') => iter f n s'
    | r => r

def exec (call : CallT) (mode : FuncId → Mode) (lo nl : Nat) : K → St → Option (Ex × St)
  | .skip, s => some (.normal, s)
  | .reg ops, s => (regN call mode lo ops s).map (.normal, ·)
  | .drg ops, s => (regD call mode lo s.M.nx ops.length ops 0 ⟨s.ρ, ⟨s.M.nx + ops.length, s.M.mem⟩⟩).map (.normal, ·)
  | .drx n ops, s => (regX call mode lo s.M.nx n ops ⟨s.ρ, ⟨s.M.nx + n, s.M.mem⟩⟩).map (.normal, ·)
  | .seq a b, s => match exec call mode lo nl a s with
    | some (.normal, s') => exec call mode lo nl b s'
    | r => r
  | .cond c a b, s => match ev s.ρ c with
    | .d (.v (.bool true)) => exec call mode lo nl a s
    | .d (.v (.bool false)) => exec call mode lo nl b s
    | _ => none
  | .block id a, s => match exec call mode lo nl a s with
    | some (.exit i, s') => if i = id then some (.normal, s') else some (.exit i, s')
    | r => r
  | .loop a, s => iter (exec call mode lo nl a) nl s
  | .exit id, s => some (.exit id, s)
  | .ret, s => some (.ret, s)

inductive RV where
  | tmp (t : Nat)
  | cell (a n : Nat) (agg : Bool)
  | loc (a n : Nat) (agg : Bool)

structure CF where
  nt : Nat
  body : K
  res : List RV

def resOf (s : St) : RV → Option AV
  | .tmp t => some (s.ρ.getD t .undef)
  | .cell a n agg => match s.ρ.getD a .undef with
    | .ptr id off => match s.M.mem id with
      | some (.cells _ cs) => if agg then (if off + n ≤ cs.length then some (.agg ((cs.drop off).take n)) else none) else cs[off]?
      | _ => none
    | _ => none
  | .loc a n agg => match s.ρ.getD a .undef with
    | .agg cs => if agg then (if n ≤ cs.length then some (.agg (cs.take n)) else none) else cs[0]?
    | _ => none

def resAll (s : St) (res : List RV) : Option AV :=
  match res.mapM (resOf s) with
  | some [v] => some v
  | some vs => some (.tup vs)
  | none => none

/-- What is known of a function: its code; or a law of its own. -/
inductive Fk where
  | code (cf : CF)
  | prim (p : List AV → Nat → MM → Option (AV × MM))

/-- The program: the functions by number, how each is called, how many rounds a loop may go. -/
structure Prog where
  fns : FuncId → Option Fk
  mode : FuncId → Mode
  nl : Nat

def acall (G : Prog) : Nat → CallT
  | 0, _, _, _, _ => none
  | N + 1, f, args, lo, M =>
    match G.fns f with
    | some (.code cf) =>
      match exec (acall G N) G.mode lo G.nl cf.body ⟨args ++ List.replicate (cf.nt - args.length) .undef, M⟩ with
      | some (.normal, s) | some (.ret, s) => (resAll s cf.res).map (·, s.M)
      | _ => none
    | some (.prim p) => p args lo M
    | none => none

end Go.Proofs.Ytegkhdflmboljaa.Sx
