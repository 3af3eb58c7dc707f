/-
  SX, PART C: FROM A FUNCTION OF THE MODEL'S PROGRAM TO THE ABSTRACT MACHINE'S CODE: 'comp P fn = some cf'.
-/
import Derived.Test.YtegkhdflmboljaaSxAPl
namespace Go.Proofs.Ytegkhdflmboljaa.Sx
open Go

def constD (v : Value) : Option D := if scal v then some (.v v) else none

def constAV : Value → Option AV
  | .agg cs => (cs.toList.mapM constD).map fun ds => .agg (ds.map .d)
  | .tuple vs => if vs.size = 0 then some .undef else none
  | .func (.func f) first cap => if first.size = 0 ∧ cap.size = 0 then some (.fn f [] []) else none
  | v => (constD v).map .d

def constCells (v : Value) : Option (List AV) := (v.cells.toList.mapM constD).map fun ds => ds.map .d

def opX : Operand → Option X
  | .tmp t => some (.t t)
  | .const v => (constAV v).map .k
  | .func f => some (.k (.fn f [] []))
  | .global _ => none

def optX : Option Operand → Option (Option X)
  | none => some none
  | some o => (opX o).map some

def aggB (d : TypeDesc) : Bool :=
  match d with
  | .struct _ | .array _ _ => true
  | _ => false

def kkOf (P : Program) (t : TypeId) : Option KK :=
  match P.underlying t with
  | some (.int k) => some (.int k)
  | some .string => some .string
  | some .bool => some .bool
  | _ => none

def ekOf (P : Program) (t : TypeId) : EK :=
  match P.underlying t with
  | some .bool => .bool
  | some (.pointer _) => .ptr
  | some (.slice _) => .slice
  | some (.map _ _) => .map
  | some (.func _ _ _) => .func
  | _ => .none

def nilX : X → Bool
  | .k (.d (.v (.slice none 0 0))) => true
  | _ => false

def compParts (places : Nat → Option (Nat × Nat)) (parts : List (Nat × Operand)) : Option (List (Nat × Nat × X)) :=
  parts.mapM fun p => match places p.1, opX p.2 with
    | some (o, s), some x => some (o, s, x)
    | _, _ => none

def fieldPlaces (P : Program) (fs : List Field) : Option (List (Nat × Nat)) :=
  fs.mapM fun f => (P.info? f.type).map fun i => (f.offset, i.size)

def bytes1 (P : Program) (e : TypeId) : Bool :=
  match P.underlying e with
  | some (.int .u8) => true
  | _ => false

def intB (P : Program) (t : TypeId) : Bool :=
  match P.underlying t with
  | some (.int _) => true
  | _ => false

def compOp' (P : Program) (os : List TypeId) (o : Oper) : Option I :=
  match o.op with
  | .move x | .assign x => (opX x).map .mov
  | .pick c a b => match opX c, opX a, opX b with
    | some c, some a, some b => some (.pick c a b)
    | _, _, _ => none
  | .alloc e => match P.info? e with
    | some i => match i.zero with
      | some z => (constCells z).map (.new e)
      | none => none
    | none => none
  | .box e x => (opX x).map (.box e)
  | .build t parts => match P.info? t, P.underlying t with
    | some i, some (.struct fs) => match i.zero, fieldPlaces P fs.toList with
      | some z, some pl => match constCells z, compParts (pl[·]?) parts.toList with
        | some cs, some ps => some (.mk cs ps)
        | _, _ => none
      | _, _ => none
    | some i, some (.array _ e) => match i.zero, P.info? e with
      | some z, some ie => match constCells z, compParts (fun k => some (k * ie.size, ie.size)) parts.toList with
        | some cs, some ps => some (.mk cs ps)
        | _, _ => none
      | _, _ => none
    | _, _ => none
  | .buildSlice t len parts => match P.underlying t with
    | some (.slice e) => match P.info? e with
      | some ie => match ie.zero with
        | some z => match constCells z, compParts (fun k => some (k * ie.size, ie.size)) parts.toList with
          | some cs, some ps => if len * ie.size ≤ 16777216 ∧ cs.length = ie.size ∧ 0 < ie.size then some (if os.contains e then .mksl e len ie.size ((List.replicate len cs).flatten) ps else .vsl e len ie.size ((List.replicate len cs).flatten) ps) else none
          | _, _ => none
        | none => none
      | none => none
    | _ => none
  | .load t a => match P.underlying t, P.info? t, opX a with
    | some d, some i, some a => some (if aggB d then .ldn i.size a else .ld1 a)
    | _, _, _ => none
  | .store t a x => match P.info? t, opX a, opX x with
    | some i, some a, some x => some (.st i.size a x)
    | _, _, _ => none
  | .nilCheck x => (opX x).map .nilc
  | .binOp op t x y _ => match opX x, opX y with
    | some x, some y => some (.bin op (ekOf P t) x y)
    | _, _ => none
  | .unOp op _ x => (opX x).map (.un op)
  | .convert src dst x => match P.underlying src, P.underlying dst, opX x with
    | some _, some (.int k), some x => some (.cvi k x)
    | some .string, some .string, some x => some (.cvs x)
    | some (.slice e), some .string, some x => if bytes1 P e = true then some (.b2s x) else none
    | _, _, _ => none
  | .makeFunc (.func f) first cap => match first.toList.mapM opX, cap.toList.mapM opX with
    | some a, some b => some (.mkf f a b)
    | _, _ => none
  | .makeMap t none => match P.underlying t with
    | some (.map kt _) => (kkOf P kt).map .mkmap
    | _ => none
  | .makeSlice t l c => match P.underlying t with
    | some (.slice e) => match P.info? e, opX l, opX c with
      | some ie, some l, some c => match ie.zero with
        | some z => match constCells z with
          | some cs => if cs.length = ie.size ∧ 0 < ie.size then some (if os.contains e then .mkslice e ie.size ie.bytes cs l c else .vmk e ie.size ie.bytes cs l c) else none
          | none => none
        | none => none
      | _, _, _ => none
    | _ => none
  | .slice t x lo hi none => match P.underlying t, opX x, optX lo, optX hi with
    | some .string, some x, some lo, some hi => some (.slstr x lo hi)
    | some (.slice e), some x, some lo, some hi => (P.info? e).map fun ie => .slsl ie.size x lo hi
    | _, _, _, _ => none
  | .fieldAddr s x f => match P.underlying s, opX x with
    | some (.struct fs), some x => match fs[f]? with
      | some fl => match P.info? fl.type with
        | some i => if i.size = 0 then none else some (.fad fl.offset x)
        | none => none
      | none => none
    | _, _ => none
  | .field s x f => match P.underlying s, opX x with
    | some (.struct fs), some x => match fs[f]? with
      | some fl => match P.info? fl.type, P.underlying fl.type with
        | some i, some d => some (.fld fl.offset i.size (aggB d) x)
        | _, _ => none
      | none => none
    | _, _ => none
  | .indexAddr t x i => match P.underlying t, opX x, opX i with
    | some (.slice e), some x, some i => (P.info? e).map fun ie => .ixs ie.size x i
    | some (.array n e), some x, some i => (P.info? e).map fun ie => .ixp ie.size n x i
    | _, _, _ => none
  | .index t x i => match P.underlying t, opX x, opX i with
    | some .string, some x, some i => some (.ixc x i)
    | some (.array n e), some x, some i => match P.info? e, P.underlying e with
      | some ie, some d => some (.ixv ie.size n (aggB d) x i)
      | _, _ => none
    | _, _, _ => none
  | .lookup t m k ok => match P.underlying t, opX m, opX k with
    | some (.map kt et), some m, some k => match kkOf P kt, P.info? et with
      | some kk, some ie => match ie.zero with
        | some z => (constAV z).map fun z => .lkp kk ok z m k
        | none => none
      | _, _ => none
    | _, _, _ => none
  | .mapUpdate t m k x | .insert t m k x => match P.underlying t, opX m, opX k, opX x with
    | some (.map kt _), some m, some k, some x => (kkOf P kt).map fun kk => .mset kk m k x
    | _, _, _, _ => none
  | .extract x i => (opX x).map (.ext · i)
  | .call c => match c.callee with
    | .value (.func f) => (c.args.toList.mapM opX).map (.call f)
    | .value x => match opX x, c.args.toList.mapM opX with
      | some x, some as => some (.callv x as)
      | _, _ => none
    | .builtin .len => match c.args.toList, c.argTypes.toList with
      | [x], t :: _ => match P.underlying t, opX x with
        | some .string, some x => some (.lens x)
        | some (.slice _), some x => some (.len x)
        | some (.map _ _), some x => some (.lenm x)
        | _, _ => none
      | _, _ => none
    | .builtin .append => match c.args.toList, c.argTypes.toList with
      | [s, x], [t, u] => match P.underlying t, opX s, opX x with
        | some (.slice e), some s, some x => match P.info? e with
          | some ie => match ie.zero with
            | some z => match constCells z with
              | some cs => if t = u ∧ cs.length = ie.size ∧ 0 < ie.size then some (if os.contains e then (if nilX s then .appn e ie.size ie.bytes cs x else .app e ie.size ie.bytes cs s x) else .vapp e ie.size ie.bytes cs s x)
                else if intB P u = true ∧ cs.length = ie.size ∧ 0 < ie.size then some (.vext e ie.size ie.bytes cs s x) else none
              | none => none
            | none => none
          | none => none
        | _, _, _ => none
      | _, _ => none
    | .builtin .max => match c.args.toList with
      | [x, y] => match opX x, opX y with
        | some x, some y => some (.mmax true x y)
        | _, _ => none
      | _ => none
    | .builtin .min => match c.args.toList with
      | [x, y] => match opX x, opX y with
        | some x, some y => some (.mmax false x y)
        | _, _ => none
      | _ => none
    | _ => none
  | _ => none

def compOp (P : Program) (os : List TypeId) (o : Oper) : Option I := some ((compOp' P os o).getD .bad)

def compGuard (ops : Array Oper) : Option (Nat × Bool) → Option (Option (Nat × Bool))
  | none => some none
  | some (j, b) => match (ops[j]?).bind (·.dst) with
    | some d => some (some (d, b))
    | none => none

def compOper (P : Program) (os : List TypeId) (ops : Array Oper) (o : Oper) : Option Op1 :=
  match compOp P os o, compGuard ops o.guard with
  | some i, some g => some ⟨o.dst, g, i, 0, false⟩
  | _, _ => none

/-! ### A region that draws its order: may its operations change places? -/
inductive Kd where
  | pure | make | read | readm | store | tokw | callw | write
  deriving DecidableEq

def kindI (mode : FuncId → Mode) : I → Kd
  | .mov _ | .pick _ _ _ | .mk _ _ | .nilc _ | .bin _ _ _ _ | .un _ _ | .cvi _ _ | .cvs _ | .mkf _ _ _ | .slstr _ _ _ | .slsl _ _ _ _ | .fad _ _ | .fld _ _ _ _
  | .ixs _ _ _ | .ixp _ _ _ _ | .ixv _ _ _ _ _ | .ixc _ _ | .ext _ _ | .tk _ _ | .lens _ | .len _ | .mmax _ _ _ | .setc _ _ _ _ | .bad => .pure
  | .new _ _ | .box _ _ | .mksl _ _ _ _ _ | .mkmap _ | .mkslice _ _ _ _ _ _ | .vsl _ _ _ _ _ | .vmk _ _ _ _ _ _ => .make
  | .ld1 _ | .ldn _ _ | .lkp _ _ _ _ _ | .lenm _ | .b2s _ | .ld1r _ _ | .ldnr _ _ _ => .read
  | .call f _ => match mode f with | .pure => .read | .ro => .readm | .rw => .callw
  | .callk f _ _ => match mode f with | .rw => .callw | _ => .write
  | .st _ _ _ | .str _ _ _ _ _ => .store
  | .vapp _ _ _ _ _ _ | .vext _ _ _ _ _ _ | .appn _ _ _ _ _ => .tokw
  | _ => .write

def isRead : Kd → Bool
  | .read | .readm => true
  | _ => false
def kindsOK : Kd → Kd → Bool
  | .pure, _ | _, .pure => true
  | .make, .make | .store, .make | .make, .store | .tokw, .make | .make, .tokw | .callw, .make | .make, .callw | .read, .tokw | .tokw, .read => true
  | .make, k => isRead k
  | k, .make => isRead k
  | k, k' => isRead k && isRead k'

def X.slots : X → List Nat
  | .t i => [i]
  | .k _ => []

def I.slots : I → List Nat
  | .mov x | .appn _ _ _ _ x | .box _ x | .ld1 x | .ldn _ x | .nilc x | .un _ x | .cvi _ x | .cvs x | .b2s x | .fad _ x | .fld _ _ _ x | .ext x _ | .tk x _ | .lens x | .len x | .lenm x => x.slots
  | .pick a b c => a.slots ++ b.slots ++ c.slots
  | .new _ _ | .mkmap _ => []
  | .mk _ ps => ps.flatMap (·.2.2.slots)
  | .mksl _ _ _ _ ps | .vsl _ _ _ _ ps | .wsl _ _ ps => ps.flatMap (·.2.2.slots)
  | .st _ a b | .bin _ _ a b | .mkslice _ _ _ _ a b | .vmk _ _ _ _ a b | .vapp _ _ _ _ a b | .vext _ _ _ _ a b | .wext _ _ _ a b | .wmk _ _ a b | .wapp _ _ a b | .ixs _ a b | .ixp _ _ a b | .ixv _ _ _ a b | .ixc a b | .lkp _ _ _ a b | .mdel _ a b | .mmax _ a b | .app _ _ _ _ a b => a.slots ++ b.slots
  | .mkf _ as bs => as.flatMap X.slots ++ bs.flatMap X.slots
  | .slstr x lo hi => x.slots ++ (lo.toList.flatMap X.slots) ++ (hi.toList.flatMap X.slots)
  | .slsl _ x lo hi => x.slots ++ (lo.toList.flatMap X.slots) ++ (hi.toList.flatMap X.slots)
  | .mset _ a b c => a.slots ++ b.slots ++ c.slots
  | .call _ as => as.flatMap X.slots
  | .callv x as | .callw _ x as => x.slots ++ as.flatMap X.slots
  | .lnew _ => []
  | .lbox x => x.slots
  | .setc _ _ a b | .ld1r a b | .ldnr _ a b => a.slots ++ b.slots
  | .callk _ as rs => as.flatMap X.slots ++ rs.flatMap X.slots
  | .str _ r ns a x => r.slots ++ ns.flatMap X.slots ++ a.slots ++ x.slots
  | .bad => []

def Op1.reads (o : Op1) : List Nat := o.i.slots ++ (o.g.toList.map (·.1))

def dstFree (d : Option Nat) (o : Op1) : Bool :=
  match d with
  | none => true
  | some d => o.dst != some d && !o.reads.contains d

def hasT (n : Nat) : List X → Bool
  | [] => false
  | .t m :: l => Nat.beq n m || hasT n l
  | .k _ :: l => hasT n l

def rootsOK : I → I → Bool
  | .ld1r (.t n) _, .callk _ _ roots => hasT n roots
  | .ldnr _ (.t n) _, .callk _ _ roots => hasT n roots
  | .callk _ _ roots, .ld1r (.t n) _ => hasT n roots
  | .callk _ _ roots, .ldnr _ (.t n) _ => hasT n roots
  | .str _ _ ns _ _, .ld1r (.t n) _ => hasT n ns
  | .str _ _ ns _ _, .ldnr _ (.t n) _ => hasT n ns
  | .ld1r (.t n) _, .str _ _ ns _ _ => hasT n ns
  | .ldnr _ (.t n) _, .str _ _ ns _ _ => hasT n ns
  | .str _ r ns _ _, .str _ r' ns' _ _ => (match r' with | .t n => hasT n ns | .k _ => false) || (match r with | .t n => hasT n ns' | .k _ => false)
  | _, _ => false

def swapOK (mode : FuncId → Mode) (a b : Op1) : Bool :=
  dstFree a.dst b && dstFree b.dst a && (kindsOK (kindI mode a.i) (kindI mode b.i) || rootsOK a.i b.i)

def edgesOf (o : Oper) : List Nat := (o.after.toList.filter (Region.binds .any)).map (·.on)
def aheadOf (all : Nat → Nat) (o : Oper) : Nat := (edgesOf o).foldr (fun e acc => acc ||| (2 ^ e ||| all e)) 0
def edgeOK (o : Oper) (i : Nat) : Bool := (edgesOf o).all fun e => Nat.blt e i
def chkF (mode : FuncId → Mode) (m : Nat) (c : Op1) : Nat → List (Nat × Op1) → Bool
  | k + 1, (_, a) :: prev => (m.testBit k || swapOK mode a c) && chkF mode m c k prev
  | 0, [] => true
  | _, _ => false
def wOK (mode : FuncId → Mode) (m : Nat) : Nat → List (Nat × Op1) → Bool
  | k + 1, (_, a) :: prev => (m.testBit k || (match kindI mode a.i with | .write | .callw => false | _ => true)) && wOK mode m k prev
  | _, _ => true
def freeGo (mode : FuncId → Mode) : List Oper → List Op1 → Nat → List (Nat × Op1) → Option (List Op1)
  | o :: os, c :: cs, i, prev =>
    if edgeOK o i && chkF mode (aheadOf (fun e => ((prev[i - 1 - e]?).map (·.1)).getD 0) o) c i prev then
      (freeGo mode os cs (i + 1) ((aheadOf (fun e => ((prev[i - 1 - e]?).map (·.1)).getD 0) o, c) :: prev)).map
        (⟨c.dst, c.g, c.i, aheadOf (fun e => ((prev[i - 1 - e]?).map (·.1)).getD 0) o, wOK mode (aheadOf (fun e => ((prev[i - 1 - e]?).map (·.1)).getD 0) o) i prev⟩ :: ·)
    else none
  | [], [], _, _ => some []
  | _, _, _, _ => none

/-! ### Hints: (region, call, load, slot): the load leads to what the slot leads to, and the call leaves that as it is -/
abbrev Hint := Nat × Nat × Nat × Nat

def rootsOf (id idx : Nat) : List Hint → List X
  | [] => []
  | (r, k, _, s) :: l => if Nat.beq r id && Nat.beq k idx then .t s :: rootsOf id idx l else rootsOf id idx l

def rootOf (id idx : Nat) : List Hint → Option X
  | [] => none
  | (r, _, j, s) :: l => if Nat.beq r id && Nat.beq j idx then some (.t s) else rootOf id idx l

def hintI (hs : List Hint) (id idx : Nat) (i : I) : I :=
  match i with
  | .ld1 a => match rootOf id idx hs with
    | some r => .ld1r r a
    | none => .ld1 a
  | .ldn n a => match rootOf id idx hs with
    | some r => .ldnr n r a
    | none => .ldn n a
  | .call f args => match rootsOf id idx hs with
    | [] => .call f args
    | rs => .callk f args rs
  | .st n a x => match rootOf (id + 1000000) idx hs with
    | some r => .str n r (rootsOf (id + 1000000) idx hs) a x
    | none => .st n a x
  | i => i

def hintGo (hs : List Hint) (id : Nat) : Nat → List Op1 → List Op1
  | _, [] => []
  | idx, o :: r => ⟨o.dst, o.g, hintI hs id idx o.i, 0, false⟩ :: hintGo hs id (idx + 1) r

def hintAll (hs : List Hint) (id : Nat) (l : List Op1) : List Op1 :=
  match hs with
  | [] => l
  | hs => hintGo hs id 0 l

def compReg (P : Program) (mode : FuncId → Mode) (os : List TypeId) (hs : List Hint) (id : Nat) (ops : Array Oper) (draw : Bool) : Option K :=
  match ops.toList.mapM (compOper P os ops) with
  | some cs => if draw then (if (P.follows .mixedOrders || !Region.departs ops) = true then (freeGo mode ops.toList (hintAll hs id cs) 0 []).map .drg else none) else some (.reg cs)
  | none => none

/-! ### A choice that nobody sees: two ways to append an element to a slice in a field -/
structure ChA where
  w : Nat
  off : Nat
  x : Nat
  e : TypeId
  sz : Nat
  by_ : Nat
  z1 : List AV
  z2 : List AV

def chM2 : List Op1 → Option Nat
  | [⟨some a, none, .new _ [.d (.v (.bool _))], _, _⟩, ⟨none, none, .st 1 (.t a1) (.k (.d (.v (.bool _)))), _, _⟩, ⟨none, none, .st 1 (.t a2) (.k (.d (.v (.bool _)))), _, _⟩, ⟨some d, none, .ld1 (.t a3), _, _⟩] =>
    if [a1, a2, a3, d] = [a, a, a, a + 1] then some a else none
  | _ => none

def chM5 (d : Nat) : List Op1 → Option ChA
  | [⟨some b0, none, .mov (.t w), _, _⟩, ⟨some b1, none, .mov (.t w1), _, _⟩, ⟨some b2, none, .nilc (.t c1), _, _⟩, ⟨some b3, none, .fad off (.t c2), _, _⟩, ⟨some b4, none, .ld1 (.t c3), _, _⟩, ⟨some b5, none, .ldn sz (.t x), _, _⟩,
      ⟨some b6, none, .mksl e 1 s1 z1 [(0, s2, .t c5)], _, _⟩, ⟨some b7, none, .app e1 s3 by_ z2 (.t c4) (.t c6), _, _⟩, ⟨some b8, none, .nilc (.t c0), _, _⟩, ⟨some b9, none, .fad off1 (.t c8), _, _⟩, ⟨none, none, .st 1 (.t c9) (.t c7), _, _⟩] =>
    if [b0, b1, b2, b3, b4, b5, b6, b7, b8, b9] = [d + 13, d + 14, d + 15, d + 16, d + 17, d + 18, d + 19, d + 20, d + 21, d + 22] ∧
        [c0, c1, c2, c3, c4, c5, c6, c7, c8, c9] = [d + 13, d + 14, d + 15, d + 16, d + 17, d + 18, d + 19, d + 20, d + 21, d + 22] ∧ [w1, s1, s2, s3, e1, off1] = [w, sz, sz, sz, e, off] ∧ z1.length = sz ∧ 0 < sz ∧ w < d ∧ x < d then
      some ⟨w, off, x, e, sz, by_, z1, z2⟩ else none
  | _ => none

def chM3 (d : Nat) (q : ChA) : List Op1 → Bool
  | [⟨some b0, none, .mov (.t w), _, _⟩, ⟨some b1, none, .nilc (.t c0), _, _⟩, ⟨some b2, none, .fad off (.t c1), _, _⟩, ⟨some b3, none, .ld1 (.t c2), _, _⟩, ⟨some b4, none, .len (.t c3), _, _⟩,
      ⟨some b5, none, .mksl e 1 s1 z1 [(0, s2, .k (.agg zs))], _, _⟩, ⟨some b6, none, .app e1 s3 by_ z2 (.t c3') (.t c5), _, _⟩, ⟨some b7, none, .nilc (.t c0'), _, _⟩, ⟨some b8, none, .fad off1 (.t c7), _, _⟩, ⟨none, none, .st 1 (.t c8) (.t c6), _, _⟩] =>
    decide ([b0, b1, b2, b3, b4, b5, b6, b7, b8] = [d + 2, d + 3, d + 4, d + 5, d + 6, d + 7, d + 8, d + 9, d + 10] ∧ [c0, c0', c1, c2, c3, c3', c5, c6, c7, c8] = [d + 2, d + 2, d + 3, d + 4, d + 5, d + 5, d + 7, d + 8, d + 9, d + 10] ∧
      [w, off, off1, e, e1, s1, s2, s3, by_, zs.length, z1.length, z2.length] = [q.w, q.off, q.off, q.e, q.e, q.sz, q.sz, q.sz, q.by_, q.sz, q.sz, q.z2.length]) && zs.all AV.one
  | _ => false

def chM4 (d : Nat) (q : ChA) : List Op1 → Bool
  | [⟨some b0, none, .ldn s1 (.t x), _, _⟩, ⟨some b1, none, .ixs s2 (.t c8) (.t c6), _, _⟩, ⟨none, none, .st s3 (.t c12) (.t c11), _, _⟩] =>
    decide ([b0, b1, c8, c6, c12, c11, s1, s2, s3, x] = [d + 11, d + 12, d + 8, d + 6, d + 12, d + 11, q.sz, q.sz, q.sz, q.x])
  | _ => false

def chE (ops : List Oper) : Bool :=
  match ops with
  | [o0, o1, o2, o3] => edgeOK o0 0 && edgeOK o1 1 && edgeOK o2 2 && edgeOK o3 3 && (edgesOf o1).contains 0 && (edgesOf o2).contains 0 && (edgesOf o3).contains 1 && (edgesOf o3).contains 2
  | _ => false

def unds (d : Nat) : List Op1 := (List.range 23).map fun i => ⟨some (d + i), none, .mov (.k .undef), 0, false⟩
def toW : Op1 → Op1
  | ⟨d, g, .mksl _ n _ z ps, m, w⟩ => ⟨d, g, .wsl n z ps, m, w⟩
  | o => o
def chks (d : Nat) (q : ChA) : List Op1 := [⟨some d, none, .ldn q.sz (.t q.x), 0, false⟩, ⟨none, none, .str 1 (.t q.w) [.t q.x] (.t (d + 22)) (.t (d + 20)), 0, false⟩]
def chK (d : Nat) (q : ChA) (out : List Op1) : K := .block 1000000007 (.seq (.drg (unds d)) (.seq (.drg (out.map toW)) (.reg (chks d q ++ unds d))))

def chz (P : Program) (mode : FuncId → Mode) (os : List TypeId) (hs : List Hint) : Code → Code → Option K
  | .region _ r2 true, .cond (.tmp d1) (.seq (.region _ r3 false) (.region _ r4 false)) (.region i5 r5 true) =>
    match r2.toList.mapM (compOper P os r2), r3.toList.mapM (compOper P os r3), r4.toList.mapM (compOper P os r4), r5.toList.mapM (compOper P os r5) with
    | some c2, some c3, some c4, some c5 =>
      match chM2 c2 with
      | some d => match chM5 d (hintAll hs i5 c5), compReg P mode os hs i5 r5 true with
        | some q, some (.drg out) =>
          if d1 = d + 1 ∧ chM3 d q c3 = true ∧ chM4 d q c4 = true ∧ chE r2.toList = true ∧ (P.follows .mixedOrders || !Region.departs r2) = true then some (chK d q out) else none
        | _, _ => none
      | none => none
    | _, _, _, _ => none
  | _, _ => none

def compCode (P : Program) (mode : FuncId → Mode) (os : List TypeId) (hs : List Hint) : Code → Option K
  | .skip => some .skip
  | .region id ops draw => compReg P mode os hs id ops draw
  | .seq a b => match chz P mode os hs a b with
    | some k => some k
    | none => match compCode P mode os hs a, compCode P mode os hs b with
      | some a, some b => some (.seq a b)
      | _, _ => none
  | .cond c a b => match opX c, compCode P mode os hs a, compCode P mode os hs b with
    | some c, some a, some b => some (.cond c a b)
    | _, _, _ => none
  | .block id a => if id = 1000000007 then none else (compCode P mode os hs a).map (.block id)
  | .loop a => (compCode P mode os hs a).map .loop
  | .exit id => some (.exit id)
  | .ret => some .ret
  | _ => none

/-! ### Nobody reads the slots of a choice -/
def undOf : List Op1 → Option Nat
  | ⟨some d, _, _, _, _⟩ :: _ => some d
  | _ => none
def chOf : K → Option Nat
  | .seq (.drg l) _ => undOf l
  | _ => none
def chsOf : K → List Nat
  | .seq a b => chsOf a ++ chsOf b
  | .cond _ a b => chsOf a ++ chsOf b
  | .block id a => if id = 1000000007 then (chOf a).toList else chsOf a
  | .loop a => chsOf a
  | _ => []
def inD (ds : List Nat) (r : Nat) : Bool := ds.any fun d => Nat.ble d r && Nat.blt r (d + 23)
def offD (ds : List Nat) (o : Op1) : Bool := o.reads.all fun r => !inD ds r
def okD (ds : List Nat) : K → Bool
  | .block id a => if id = 1000000007 then (match a with
      | .seq (.drg _) (.seq (.drg out) (.reg _)) => (match chOf a with
        | some d => out.all (fun o => o.reads.all fun r => !inD (ds.filter (fun e => !Nat.beq e d)) r)
        | none => false)
      | _ => false) else okD ds a
  | .seq a b => okD ds a && okD ds b
  | .reg l => l.all (offD ds)
  | .drg l => l.all (offD ds)
  | .cond c a b => (c.slots.all fun r => !inD ds r) && okD ds a && okD ds b
  | .loop a => okD ds a
  | _ => true
def resD (ds : List Nat) : RV → Bool
  | .tmp r | .cell r _ _ | .loc r _ _ => !inD ds r

def compRes (P : Program) : ResultVar → Option RV
  | .tmp t => some (.tmp t)
  | .cell a t => match P.underlying t, P.info? t with
    | some d, some i => some (.cell a i.size (aggB d))
    | _, _ => none

def comp (P : Program) (mode : FuncId → Mode) (os : List TypeId) (hs : List Hint) (fn : Func) : Option CF :=
  match fn.body with
  | some c => match compCode P mode os hs c, fn.results.toList.mapM (compRes P) with
    | some k, some rs => if fn.name == "runtime.NumGoroutine" then none else if okD (chsOf k) k = true ∧ rs.all (resD (chsOf k)) = true then some ⟨fn.ntmps, k, rs⟩ else none
    | _, _ => none
  | none => none
end Go.Proofs.Ytegkhdflmboljaa.Sx
