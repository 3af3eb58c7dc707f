/- FUNCTIONS OF GO'S LIBRARY: the kit's contracts, laid at this program by its tool; and as prims of my machine. -/
import Derived.Shelf.LaysM
import Derived.Shelf.Strings.OnBuilder
import Derived.Shelf.Strings.Search2
import Derived.Test.YtmjdkocjfehdcaaGreatProg
import Derived.Test.YtmjdkocjfehdcaaGreatSxH
namespace Go.Proofs
open Go.Shelf

def Tryz.lays156_ren : Go.Shelf.Ren := ⟨fun | 156 => 71 | 165 => 101 | 166 => 102 | 169 => 103 | 240 => 130 | 241 => 131 | 276 => 143 | 277 => 138 | n => n, fun | 31 => 95 | 9 => 9 | 3 => 3 | 4 => 4 | 0 => 0 | 20 => 20 | 72 => 187 | 76 => 191 | 70 => 185 | 37 => 23 | 75 => 190 | 127 => 233 | 164 => 244 | 5 => 5 | 80 => 193 | n => n, fun | n => n⟩
theorem Tryz.lays156 : Go.Proofs.Lays.n156 Tryz.prog Tryz.lays156_ren := {
  mixed := by kernel_rfl
  f156 := Tryz.func71.trans (congrArg some (by kernel_rfl))
  f165 := Tryz.func101.trans (congrArg some (by kernel_rfl))
  f166 := Tryz.func102.trans (congrArg some (by kernel_rfl))
  f169 := Tryz.func103.trans (congrArg some (by kernel_rfl))
  f240 := Tryz.func130.trans (congrArg some (by kernel_rfl))
  f241 := Tryz.func131.trans (congrArg some (by kernel_rfl))
  f276 := Tryz.func143.trans (congrArg some (by kernel_rfl))
  f277 := Tryz.func138.trans (congrArg some (by kernel_rfl))
  t0 := Tryz.underlying0
  a0 := Tryz.isAgg0
  z0 := Tryz.sizeOf0
  v0 := Tryz.zeroValue0
  t3 := Tryz.underlying3
  a3 := Tryz.isAgg3
  z3 := Tryz.sizeOf3
  v3 := Tryz.zeroValue3
  t4 := Tryz.underlying4
  a4 := Tryz.isAgg4
  z4 := Tryz.sizeOf4
  v4 := Tryz.zeroValue4
  t9 := Tryz.underlying9
  a9 := Tryz.isAgg9
  z9 := Tryz.sizeOf9
  v9 := Tryz.zeroValue9
  t20 := Tryz.underlying20
  a20 := Tryz.isAgg20
  z20 := Tryz.sizeOf20
  v20 := Tryz.zeroValue20
  t31 := Tryz.underlying95
  a31 := Tryz.isAgg95
  z31 := Tryz.sizeOf95
  v31 := Tryz.zeroValue95
  t37 := Tryz.underlying23
  a37 := Tryz.isAgg23
  z37 := Tryz.sizeOf23
  v37 := Tryz.zeroValue23
  t70 := Tryz.underlying185
  a70 := Tryz.isAgg185
  z70 := Tryz.sizeOf185
  v70 := Tryz.zeroValue185
  t72 := Tryz.underlying187
  a72 := Tryz.isAgg187
  z72 := Tryz.sizeOf187
  v72 := Tryz.zeroValue187
  t75 := Tryz.underlying190
  a75 := Tryz.isAgg190
  z75 := Tryz.sizeOf190
  v75 := Tryz.zeroValue190
  t76 := Tryz.underlying191
  a76 := Tryz.isAgg191
  z76 := Tryz.sizeOf191
  v76 := Tryz.zeroValue191
  t127 := Tryz.underlying233
  a127 := Tryz.isAgg233
  z127 := Tryz.sizeOf233
  v127 := Tryz.zeroValue233
  t164 := Tryz.underlying244
  a164 := Tryz.isAgg244
  z164 := Tryz.sizeOf244
  v164 := Tryz.zeroValue244 }
theorem Tryz.Builder_Extra_156 : Builder.Extra Tryz.prog Tryz.lays156_ren := {
  sizeBuilder := by kernel_rfl
  liesBuilder := by kernel_rfl
  t5 := Tryz.underlying5
  a5 := Tryz.isAgg5
  z5 := Tryz.sizeOf5
  v5 := Tryz.zeroValue5
  infoByte := by kernel_rfl
  cellsByte := by kernel_rfl
  sizeByte := by kernel_rfl
  neB5 := by decide }
open Go.RowKit in
theorem Tryz.strings_Join_none (a : Option Addr) (c : Nat) (sep : ByteArray) (w : World) :
    Calls Tryz.prog 71 #[.slice a 0 c, .string sep] w fun e w' => e = .returned (.string ⟨#[]⟩) ∧ w' = w := Any.strings_Join_none Tryz.lays156 Tryz.Builder_Extra_156 a c sep w
open Go.RowKit in
theorem Tryz.strings_Join (bk o c : Nat) (xs : List ByteArray) (sep : ByteArray) (w : World) (hcells : ∀ (j : Nat) x, xs[j]? = some x → w.cell? ⟨bk, o + j, none⟩ = some (.string x)) (hbk : bk < w.heap.size) (hN : xs.length ≤ 140737488355328) (hcap : xs.length ≤ c) (hlen : (Lib.join (xs.map (·.data.toList)) sep.data.toList).length ≤ 140737488355328) :
    Calls Tryz.prog 71 #[.slice (some ⟨bk, o, none⟩) xs.length c, .string sep] w fun e w' => e = .returned (.string ⟨(Lib.join (xs.map (·.data.toList)) sep.data.toList).toArray⟩) ∧ Below w.heap.size w w' := Any.strings_Join Tryz.lays156 Tryz.Builder_Extra_156 bk o c xs sep w hcells hbk hN hcap hlen
def Tryz.lays219_ren : Go.Shelf.Ren := ⟨fun | 219 => 139 | 217 => 153 | 225 => 154 | 224 => 155 | 267 => 156 | 266 => 160 | 314 => 161 | n => n, fun | 9 => 9 | 3 => 3 | 4 => 4 | 5 => 5 | 46 => 25 | 146 => 225 | 51 => 224 | n => n, fun | 1 => 0 | n => n⟩
theorem Tryz.lays219 : Go.Proofs.Lays.n219 Tryz.prog Tryz.lays219_ren := {
  mixed := by kernel_rfl
  f217 := Tryz.func153.trans (congrArg some (by kernel_rfl))
  f219 := Tryz.func139.trans (congrArg some (by kernel_rfl))
  f224 := Tryz.func155.trans (congrArg some (by kernel_rfl))
  f225 := Tryz.func154.trans (congrArg some (by kernel_rfl))
  f266 := Tryz.func160.trans (congrArg some (by kernel_rfl))
  f267 := Tryz.func156.trans (congrArg some (by kernel_rfl))
  f314 := Tryz.func161.trans (congrArg some (by kernel_rfl))
  t3 := Tryz.underlying3
  a3 := Tryz.isAgg3
  z3 := Tryz.sizeOf3
  v3 := Tryz.zeroValue3
  t4 := Tryz.underlying4
  a4 := Tryz.isAgg4
  z4 := Tryz.sizeOf4
  v4 := Tryz.zeroValue4
  t5 := Tryz.underlying5
  a5 := Tryz.isAgg5
  z5 := Tryz.sizeOf5
  v5 := Tryz.zeroValue5
  t9 := Tryz.underlying9
  a9 := Tryz.isAgg9
  z9 := Tryz.sizeOf9
  v9 := Tryz.zeroValue9
  t46 := Tryz.underlying25
  a46 := Tryz.isAgg25
  z46 := Tryz.sizeOf25
  v46 := Tryz.zeroValue25
  t51 := Tryz.underlying224
  a51 := Tryz.isAgg224
  z51 := Tryz.sizeOf224
  v51 := Tryz.zeroValue224
  t146 := Tryz.underlying225
  a146 := Tryz.isAgg225
  z146 := Tryz.sizeOf225
  v146 := Tryz.zeroValue225
  g1 := by kernel_rfl }
open Go.RowKit Go.Lib in
theorem Tryz.stringslite_Index_one (s : ByteArray) (c : UInt8) (w : World) :
    Calls Tryz.prog 139 #[.string s, .string ⟨#[c]⟩] w fun e w' => e = .returned (.int .i64 (Lib.indexByte s.data.toList c)) ∧ w' = w := Any.stringslite_Index_one Tryz.lays219 s c w
namespace YtmjdkocjfehdcaaGreat
open Sx
def primJoin : List AV → Nat → MM → Option (AV × MM) := primOf joinQ
theorem primJoin_ok : PrimOK Tryz.prog 71 primJoin := primOf_ok ⟨_, Tryz.func71, rfl, by kernel_rfl⟩ (fun a v h => (join_scal a v h).1) (join_calls Tryz.strings_Join_none Tryz.strings_Join)
theorem primJoin_ext : PrimExt primJoin := primOf_ext _
theorem primJoin_v {S : Sig} {f : FuncId} (hr : S.rs f = []) : PrimV S f primJoin := primOf_v (fun a v h => (join_scal a v h).2) hr
def primIx : List AV → Nat → MM → Option (AV × MM) := primOf ixQ
theorem primIx_ok : PrimOK Tryz.prog 139 primIx := primOf_ok ⟨_, Tryz.func139, rfl, by kernel_rfl⟩ (fun a v h => (ix_scal a v h).1) (ix_calls Tryz.stringslite_Index_one)
theorem primIx_ext : PrimExt primIx := primOf_ext _
theorem primIx_v {S : Sig} {f : FuncId} (hr : S.rs f = []) : PrimV S f primIx := primOf_v (fun a v h => (ix_scal a v h).2) hr
end YtmjdkocjfehdcaaGreat
end Go.Proofs
