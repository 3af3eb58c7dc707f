/-
  SX, PART CL: 'slices.Clone', whatever its elements are: the same elements, for slices that are nil too.
-/
import Derived.Test.YtnbhmlflbbddcaaSxZDg
import Derived.Shelf.LaysM
import Derived.Shelf.Strings.OnBuilder
import Derived.Shelf.Strings.Search2
import Derived.Test.YtnbhmlflbbddcaaProg
import Derived.Test.YtnbhmlflbbddcaaSxHDg
namespace Go.Proofs.Ytnbhmlflbbddcaa.Sx
open Go
set_option linter.unusedSimpArgs false

section
variable {P : Program}
/-- The shape of 'slices.Clone'. -/
structure CloneShape (P : Program) (f : FuncId) (sz bytes : Nat) where
  fn : Func
  hf : P.funcs[f]? = some fn
  nm : (fn.name == "runtime.NumGoroutine") = false
  i0 : Nat
  i1 : Nat
  i2 : Nat
  i3 : Nat
  r0 : Array Oper
  o1 : Oper
  o2 : Oper
  r2 : Array Oper
  r3 : Array Oper
  body : fn.body = some (.seq (.region i0 r0 false) (.seq (.seq (.region i1 #[o1, o2] false) (.cond (.tmp 4) (.seq (.region i2 r2 false) .ret) .skip)) (.seq (.region i3 r3 false) .ret)))
  nt : fn.ntmps = 8
  res : fn.results = #[.tmp 2]
  zero : List AV
  hz : zero.length = sz
  e : TypeId
  t : TypeId
  t2 : TypeId
  hu : P.underlying t = some (.slice e)
  c0 : r0.toList.mapM (compOper P [] r0) = some [⟨some 2, none, .mov (.k .nilsl), 0, false⟩]
  c1 : compOper P [] #[o1, o2] o1 = some ⟨some 3, none, .mov (.t 0), 0, false⟩
  d2 : o2.dst = some 4
  g2 : o2.guard = none
  p2 : o2.op = .binOp .eql t (.tmp 3) (.const (.slice none 0 0)) t2
  c2 : r2.toList.mapM (compOper P [] r2) = some [⟨some 2, none, .mov (.k .nilsl), 0, false⟩]
  c3 : r3.toList.mapM (compOper P [] r3) = some [⟨some 5, none, .vsl e 0 sz [] [], 0, false⟩, ⟨some 6, none, .mov (.t 0), 0, false⟩, ⟨some 7, none, .vapp e sz bytes zero (.t 5) (.t 6), 0, false⟩, ⟨some 2, none, .mov (.t 7), 0, false⟩]

theorem CallOK.none (P : Program) : CallOK P (fun _ _ _ _ => none) := fun _ _ _ _ _ _ h => by cases h

/-! ### A closed call, reckoned: true -/
def trueQ : List AV → Option Value
  | [] => some (.bool true)
  | _ => none
def trueP : List AV → Nat → MM → Option (AV × MM) := fun args _ M => (trueQ args).map fun v => (.d (.v v), M)

theorem trueP_ok {G : Prog} (hG : ProgOK P G) {N : Nat} {f : FuncId} (h : (acall G N f [] 0 ⟨0, fun _ => none⟩).map Prod.fst = some (.bool true)) : PrimOK P f trueP := by
  obtain ⟨⟨r, M'⟩, h1, h2⟩ := Option.map_eq_some_iff.1 h
  simp only at h2; subst h2
  refine ⟨(acall_ok hG N f [] 0 _ _ _ h1).1, fun args lo M r M2 hp c vs hS hargs hlo => ?_⟩
  unfold trueP trueQ at hp
  split at hp
  · simp only [Option.map_some, Option.some.injEq, Prod.mk.injEq] at hp
    obtain ⟨rfl, rfl⟩ := hp
    have hd : docall (acall G N) (fun _ => .pure) false lo (.top M.nx) f [] M = some (.bool true, M) := by
      unfold docall
      simp only [List.mapM_nil, Option.pure_def, h1]
      rfl
    exact (sim_docall (acall_ok hG N) hd hS hargs hlo).2
  · cases hp
end
end Go.Proofs.Ytnbhmlflbbddcaa.Sx

namespace Go.Proofs
open Go.Shelf

def Try.lays156_ren : Go.Shelf.Ren := ⟨fun | 156 => 28 | 165 => 40 | 166 => 41 | 169 => 42 | 240 => 48 | 241 => 49 | 276 => 53 | 277 => 54 | n => n, fun | 31 => 25 | 9 => 9 | 3 => 3 | 4 => 4 | 0 => 0 | 20 => 20 | 72 => 92 | 76 => 96 | 70 => 90 | 37 => 75 | 75 => 95 | 127 => 103 | 164 => 106 | 5 => 5 | 80 => 98 | n => n, fun | n => n⟩
theorem Try.lays156 : Go.Proofs.Lays.n156 Try.prog Try.lays156_ren := {
  mixed := by kernel_rfl
  f156 := Try.func28.trans (congrArg some (by kernel_rfl))
  f165 := Try.func40.trans (congrArg some (by kernel_rfl))
  f166 := Try.func41.trans (congrArg some (by kernel_rfl))
  f169 := Try.func42.trans (congrArg some (by kernel_rfl))
  f240 := Try.func48.trans (congrArg some (by kernel_rfl))
  f241 := Try.func49.trans (congrArg some (by kernel_rfl))
  f276 := Try.func53.trans (congrArg some (by kernel_rfl))
  f277 := Try.func54.trans (congrArg some (by kernel_rfl))
  t0 := Try.underlying0
  a0 := Try.isAgg0
  z0 := Try.sizeOf0
  v0 := Try.zeroValue0
  t3 := Try.underlying3
  a3 := Try.isAgg3
  z3 := Try.sizeOf3
  v3 := Try.zeroValue3
  t4 := Try.underlying4
  a4 := Try.isAgg4
  z4 := Try.sizeOf4
  v4 := Try.zeroValue4
  t9 := Try.underlying9
  a9 := Try.isAgg9
  z9 := Try.sizeOf9
  v9 := Try.zeroValue9
  t20 := Try.underlying20
  a20 := Try.isAgg20
  z20 := Try.sizeOf20
  v20 := Try.zeroValue20
  t31 := Try.underlying25
  a31 := Try.isAgg25
  z31 := Try.sizeOf25
  v31 := Try.zeroValue25
  t37 := Try.underlying75
  a37 := Try.isAgg75
  z37 := Try.sizeOf75
  v37 := Try.zeroValue75
  t70 := Try.underlying90
  a70 := Try.isAgg90
  z70 := Try.sizeOf90
  v70 := Try.zeroValue90
  t72 := Try.underlying92
  a72 := Try.isAgg92
  z72 := Try.sizeOf92
  v72 := Try.zeroValue92
  t75 := Try.underlying95
  a75 := Try.isAgg95
  z75 := Try.sizeOf95
  v75 := Try.zeroValue95
  t76 := Try.underlying96
  a76 := Try.isAgg96
  z76 := Try.sizeOf96
  v76 := Try.zeroValue96
  t127 := Try.underlying103
  a127 := Try.isAgg103
  z127 := Try.sizeOf103
  v127 := Try.zeroValue103
  t164 := Try.underlying106
  a164 := Try.isAgg106
  z164 := Try.sizeOf106
  v164 := Try.zeroValue106 }
theorem Try.Builder_Extra_156 : Builder.Extra Try.prog Try.lays156_ren := {
  sizeBuilder := by kernel_rfl
  liesBuilder := by kernel_rfl
  t5 := Try.underlying5
  a5 := Try.isAgg5
  z5 := Try.sizeOf5
  v5 := Try.zeroValue5
  infoByte := by kernel_rfl
  cellsByte := by kernel_rfl
  sizeByte := by kernel_rfl
  neB5 := by decide }
open Go.RowKit in
theorem Try.strings_Join_none (a : Option Addr) (c : Nat) (sep : ByteArray) (w : World) :
    Calls Try.prog 28 #[.slice a 0 c, .string sep] w fun e w' => e = .returned (.string ⟨#[]⟩) ∧ w' = w := Any.strings_Join_none Try.lays156 Try.Builder_Extra_156 a c sep w
open Go.RowKit in
theorem Try.strings_Join (bk o c : Nat) (xs : List ByteArray) (sep : ByteArray) (w : World) (hcells : ∀ (j : Nat) x, xs[j]? = some x → w.cell? ⟨bk, o + j, none⟩ = some (.string x)) (hbk : bk < w.heap.size) (hN : xs.length ≤ 140737488355328) (hcap : xs.length ≤ c) (hlen : (Lib.join (xs.map (·.data.toList)) sep.data.toList).length ≤ 140737488355328) :
    Calls Try.prog 28 #[.slice (some ⟨bk, o, none⟩) xs.length c, .string sep] w fun e w' => e = .returned (.string ⟨(Lib.join (xs.map (·.data.toList)) sep.data.toList).toArray⟩) ∧ Below w.heap.size w w' := Any.strings_Join Try.lays156 Try.Builder_Extra_156 bk o c xs sep w hcells hbk hN hcap hlen
def Try.lays219_ren : Go.Shelf.Ren := ⟨fun | 219 => 55 | 217 => 56 | 225 => 57 | 224 => 58 | 267 => 59 | 266 => 60 | 314 => 61 | n => n, fun | 9 => 9 | 3 => 3 | 4 => 4 | 5 => 5 | 46 => 111 | 146 => 113 | 51 => 112 | n => n, fun | 1 => 0 | n => n⟩
theorem Try.lays219 : Go.Proofs.Lays.n219 Try.prog Try.lays219_ren := {
  mixed := by kernel_rfl
  f217 := Try.func56.trans (congrArg some (by kernel_rfl))
  f219 := Try.func55.trans (congrArg some (by kernel_rfl))
  f224 := Try.func58.trans (congrArg some (by kernel_rfl))
  f225 := Try.func57.trans (congrArg some (by kernel_rfl))
  f266 := Try.func60.trans (congrArg some (by kernel_rfl))
  f267 := Try.func59.trans (congrArg some (by kernel_rfl))
  f314 := Try.func61.trans (congrArg some (by kernel_rfl))
  t3 := Try.underlying3
  a3 := Try.isAgg3
  z3 := Try.sizeOf3
  v3 := Try.zeroValue3
  t4 := Try.underlying4
  a4 := Try.isAgg4
  z4 := Try.sizeOf4
  v4 := Try.zeroValue4
  t5 := Try.underlying5
  a5 := Try.isAgg5
  z5 := Try.sizeOf5
  v5 := Try.zeroValue5
  t9 := Try.underlying9
  a9 := Try.isAgg9
  z9 := Try.sizeOf9
  v9 := Try.zeroValue9
  t46 := Try.underlying111
  a46 := Try.isAgg111
  z46 := Try.sizeOf111
  v46 := Try.zeroValue111
  t51 := Try.underlying112
  a51 := Try.isAgg112
  z51 := Try.sizeOf112
  v51 := Try.zeroValue112
  t146 := Try.underlying113
  a146 := Try.isAgg113
  z146 := Try.sizeOf113
  v146 := Try.zeroValue113
  g1 := by kernel_rfl }
open Go.RowKit Go.Lib in
theorem Try.stringslite_Index_one (s : ByteArray) (c : UInt8) (w : World) :
    Calls Try.prog 55 #[.string s, .string ⟨#[c]⟩] w fun e w' => e = .returned (.int .i64 (Lib.indexByte s.data.toList c)) ∧ w' = w := Any.stringslite_Index_one Try.lays219 s c w
namespace Ytnbhmlflbbddcaa
open Sx
def primJoin : List AV → Nat → MM → Option (AV × MM) := primOf joinQ
theorem primJoin_ok : PrimOK Try.prog 28 primJoin := primOf_ok ⟨_, Try.func28, rfl, by kernel_rfl⟩ (fun a v h => (join_scal a v h).1) (join_calls Try.strings_Join_none Try.strings_Join)
theorem primJoin_ext : PrimExt primJoin := primOf_ext _
theorem primJoin_v {S : Sig} {f : FuncId} (hr : S.rs f = []) : PrimV S f primJoin := primOf_v (fun a v h => (join_scal a v h).2) hr
def primIx : List AV → Nat → MM → Option (AV × MM) := primOf ixQ
theorem primIx_ok : PrimOK Try.prog 55 primIx := primOf_ok ⟨_, Try.func55, rfl, by kernel_rfl⟩ (fun a v h => (ix_scal a v h).1) (ix_calls Try.stringslite_Index_one)
theorem primIx_ext : PrimExt primIx := primOf_ext _
theorem primIx_v {S : Sig} {f : FuncId} (hr : S.rs f = []) : PrimV S f primIx := primOf_v (fun a v h => (ix_scal a v h).2) hr
end Ytnbhmlflbbddcaa
end Go.Proofs
