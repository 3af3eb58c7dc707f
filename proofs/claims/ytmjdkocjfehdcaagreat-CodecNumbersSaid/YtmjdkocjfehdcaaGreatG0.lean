/- THE SEAT's FUNCTIONS AS THE ABSTRACT MACHINE'S CODE, printed by program; each is held against the program by the kernel. -/
import Derived.Test.YtmjdkocjfehdcaaGreatSxJ
import Derived.Test.YtmjdkocjfehdcaaGreatProg
import Derived.KernelRfl
import Derived.Test.YtmjdkocjfehdcaaGreatCoP
namespace Go.Proofs.YtmjdkocjfehdcaaGreat.Sx
open Go
set_option maxRecDepth 1000000
def lookM (f : Nat) : List (Nat × Mode) → Mode
  | [] => .pure
  | (g, m) :: r => if f = g then m else lookM f r
def modeL : List (Nat × Mode) := []
def modeF : FuncId → Mode := fun f => lookM f modeL
def sigL : SigL := []
def sigS : Sig := sigOf sigL
def p3_0 : K := .reg []
def p3_1 : K := .reg [⟨some 4, none, .mov (.k (.bool false)), 0, false⟩]
def p3_2 : K := .reg [⟨some 8, none, .mov (.t 0), 0, false⟩, ⟨some 9, none, .mov (.t 1), 0, false⟩, ⟨some 10, none, .call 4 [.t 8, .t 9], 0, false⟩, ⟨some 5, none, .mov (.t 10), 0, false⟩]
def p3_3 : K := .reg [⟨some 11, none, .mov (.t 1), 0, false⟩, ⟨some 12, none, .mmax false (.t 11) (.k (.i 8)), 0, false⟩, ⟨some 13, none, .mmax true (.k (.i 0)) (.t 12), 0, false⟩, ⟨some 6, none, .mov (.t 13), 0, false⟩]
def p3_4 : K := .reg [⟨some 14, none, .mov (.t 0), 0, false⟩, ⟨some 7, none, .mov (.t 14), 0, false⟩]
def p3_5 : K := .reg [⟨some 15, none, .mov (.t 6), 0, false⟩, ⟨some 16, none, .bin .lss .none (.t 15) (.k (.i 8)), 0, false⟩]
def p3_6 : K := .reg [⟨some 17, none, .mov (.t 0), 0, false⟩, ⟨some 18, none, .mov (.t 6), 0, false⟩, ⟨some 19, none, .bin .mul .none (.k (.i 8)) (.t 18), 0, false⟩, ⟨some 20, none, .cvi .u64 (.t 19), 0, false⟩, ⟨some 21, none, .bin .shl .none (.k (.int .u64 1)) (.t 20), 0, false⟩, ⟨some 22, none, .bin .sub .none (.t 21) (.k (.int .u64 1)), 0, false⟩, ⟨some 23, none, .bin .and .none (.t 17) (.t 22), 0, false⟩, ⟨some 7, none, .mov (.t 23), 0, false⟩]
def p3_7 : K := .cond (.t 16) p3_6 .skip
def p3_8 : K := .seq p3_5 p3_7
def p3_9 : K := .reg [⟨some 24, none, .mov (.t 5), 0, false⟩, ⟨some 25, none, .len (.t 24), 0, false⟩, ⟨some 26, none, .mov (.t 6), 0, false⟩, ⟨some 27, none, .bin .eql .none (.t 25) (.t 26), 0, false⟩, ⟨some 28, none, .mov (.t 27), 0, false⟩, ⟨some 29, some (28, true), .mov (.t 5), 0, false⟩, ⟨some 30, some (28, true), .call 5 [.t 29], 0, false⟩, ⟨some 31, some (28, true), .mov (.t 7), 0, false⟩, ⟨some 32, some (28, true), .bin .eql .none (.t 30) (.t 31), 0, false⟩, ⟨some 33, none, .pick (.t 28) (.t 32) (.k (.bool false)), 0, false⟩, ⟨some 34, none, .mov (.t 33), 0, false⟩, ⟨some 35, some (34, true), .mov (.t 5), 0, false⟩, ⟨some 36, some (34, true), .wapp 1 1 (.k (.d (.sl [] 0))) (.t 35), 0, false⟩, ⟨some 37, some (34, true), .wext 1 1 [.int .u8 0] (.t 36) (.k (.i 9)), 0, false⟩, ⟨some 38, some (34, true), .call 5 [.t 37], 0, false⟩, ⟨some 39, some (34, true), .mov (.t 7), 0, false⟩, ⟨some 40, some (34, true), .bin .eql .none (.t 38) (.t 39), 0, false⟩, ⟨some 41, none, .pick (.t 34) (.t 40) (.k (.bool false)), 0, false⟩, ⟨some 42, none, .mov (.t 41), 0, false⟩, ⟨some 43, some (42, true), .call 6 [], 0, false⟩, ⟨some 44, none, .pick (.t 42) (.t 43) (.k (.bool false)), 0, false⟩, ⟨some 4, none, .mov (.t 44), 0, false⟩]
def p3_10 : K := .seq p3_9 .ret
def p3_11 : K := .seq p3_8 p3_10
def p3_12 : K := .seq p3_4 p3_11
def p3_13 : K := .seq p3_3 p3_12
def p3_14 : K := .seq p3_2 p3_13
def p3_15 : K := .seq p3_1 p3_14
def p3_16 : K := .seq p3_0 p3_15
def cf3 : CF := { nt := 45, body := p3_16, res := [.tmp 4] }
def hi3 : List Hint := []
def pm3 : Pm := ⟨[], []⟩
def os3 : List TypeId := [1000]
theorem ok3 : vComp Tryz.prog modeF os3 hi3 pm3 sigS 3 Tryz.f3 = some cf3 := by kernel_rfl
def p4_0 : K := .reg []
def p4_1 : K := .reg [⟨some 4, none, .mov (.k (.d (.sl [] 0))), 0, false⟩]
def p4_2 : K := .reg [⟨some 7, none, .mov (.t 1), 0, false⟩, ⟨some 8, none, .mmax false (.t 7) (.k (.i 8)), 0, false⟩, ⟨some 9, none, .mmax true (.k (.i 0)) (.t 8), 0, false⟩, ⟨some 10, none, .mkslice 5 1 1 [.int .u8 0] (.t 9) (.t 9), 0, false⟩, ⟨some 5, none, .mov (.t 10), 0, false⟩]
def p4_3 : K := .reg [⟨some 11, none, .mov (.t 5), 0, false⟩, ⟨some 12, none, .len (.t 11), 0, false⟩, ⟨some 13, none, .mov (.k (.i 0)), 0, false⟩]
def p4_4 : K := .reg [⟨some 14, none, .bin .lss .none (.t 13) (.t 12), 0, false⟩]
def p4_5 : K := .cond (.t 14) .skip (.exit 0)
def p4_6 : K := .reg [⟨some 15, none, .mov (.t 13), 0, false⟩, ⟨some 6, none, .mov (.t 15), 0, false⟩]
def p4_7 : K := .reg [⟨some 16, none, .mov (.t 5), 0, false⟩, ⟨some 17, none, .mov (.t 6), 0, false⟩, ⟨some 18, none, .mov (.t 0), 0, false⟩, ⟨some 19, none, .mov (.t 6), 0, false⟩, ⟨some 20, none, .bin .mul .none (.k (.i 8)) (.t 19), 0, false⟩, ⟨some 21, none, .bin .shr .none (.t 18) (.t 20), 0, false⟩, ⟨some 22, none, .cvi .u8 (.t 21), 0, false⟩, ⟨some 23, none, .ixs 1 (.t 16) (.t 17), 0, false⟩, ⟨none, none, .st 1 (.t 23) (.t 22), 0, false⟩]
def p4_8 : K := .seq p4_6 p4_7
def p4_9 : K := .block 1 p4_8
def p4_10 : K := .reg [⟨some 24, none, .bin .add .none (.t 13) (.k (.i 1)), 0, false⟩, ⟨some 13, none, .mov (.t 24), 0, false⟩]
def p4_11 : K := .seq p4_9 p4_10
def p4_12 : K := .seq p4_5 p4_11
def p4_13 : K := .seq p4_4 p4_12
def p4_14 : K := .loop p4_13
def p4_15 : K := .block 0 p4_14
def p4_16 : K := .seq p4_3 p4_15
def p4_17 : K := .reg [⟨some 25, none, .mov (.t 5), 0, false⟩, ⟨some 4, none, .mov (.t 25), 0, false⟩]
def p4_18 : K := .seq p4_17 .ret
def p4_19 : K := .seq p4_16 p4_18
def p4_20 : K := .seq p4_2 p4_19
def p4_21 : K := .seq p4_1 p4_20
def p4_22 : K := .seq p4_0 p4_21
def cf4 : CF := { nt := 26, body := p4_22, res := [.tmp 4] }
def hi4 : List Hint := []
def pm4 : Pm := ⟨[], []⟩
def os4 : List TypeId := [5]
theorem ok4 : vComp Tryz.prog modeF os4 hi4 pm4 sigS 4 Tryz.f4 = some cf4 := by kernel_rfl
def p5_0 : K := .reg []
def p5_1 : K := .reg [⟨some 2, none, .mov (.k (.int .u64 0)), 0, false⟩]
def p5_2 : K := .reg [⟨some 3, none, .mov (.k (.int .u64 0)), 0, false⟩]
def p5_3 : K := .reg [⟨some 5, none, .mov (.t 0), 0, false⟩, ⟨some 6, none, .len (.t 5), 0, false⟩, ⟨some 7, none, .mmax false (.t 6) (.k (.i 8)), 0, false⟩, ⟨some 8, none, .mov (.k (.i 0)), 0, false⟩]
def p5_4 : K := .reg [⟨some 9, none, .bin .lss .none (.t 8) (.t 7), 0, false⟩]
def p5_5 : K := .cond (.t 9) .skip (.exit 0)
def p5_6 : K := .reg [⟨some 10, none, .mov (.t 8), 0, false⟩, ⟨some 4, none, .mov (.t 10), 0, false⟩]
def p5_7 : K := .reg [⟨some 11, none, .mov (.t 3), 0, false⟩, ⟨some 12, none, .mov (.t 0), 0, false⟩, ⟨some 13, none, .mov (.t 4), 0, false⟩, ⟨some 14, none, .ixs 1 (.t 12) (.t 13), 0, false⟩, ⟨some 15, none, .ld1 (.t 14), 0, false⟩, ⟨some 16, none, .cvi .u64 (.t 15), 0, false⟩, ⟨some 17, none, .mov (.t 4), 0, false⟩, ⟨some 18, none, .bin .mul .none (.k (.i 8)) (.t 17), 0, false⟩, ⟨some 19, none, .bin .shl .none (.t 16) (.t 18), 0, false⟩, ⟨some 20, none, .bin .or .none (.t 11) (.t 19), 0, false⟩, ⟨some 3, none, .mov (.t 20), 0, false⟩]
def p5_8 : K := .seq p5_6 p5_7
def p5_9 : K := .block 1 p5_8
def p5_10 : K := .reg [⟨some 21, none, .bin .add .none (.t 8) (.k (.i 1)), 0, false⟩, ⟨some 8, none, .mov (.t 21), 0, false⟩]
def p5_11 : K := .seq p5_9 p5_10
def p5_12 : K := .seq p5_5 p5_11
def p5_13 : K := .seq p5_4 p5_12
def p5_14 : K := .loop p5_13
def p5_15 : K := .block 0 p5_14
def p5_16 : K := .seq p5_3 p5_15
def p5_17 : K := .reg [⟨some 22, none, .mov (.t 3), 0, false⟩, ⟨some 2, none, .mov (.t 22), 0, false⟩]
def p5_18 : K := .seq p5_17 .ret
def p5_19 : K := .seq p5_16 p5_18
def p5_20 : K := .seq p5_2 p5_19
def p5_21 : K := .seq p5_1 p5_20
def p5_22 : K := .seq p5_0 p5_21
def cf5 : CF := { nt := 23, body := p5_22, res := [.tmp 2] }
def hi5 : List Hint := []
def pm5 : Pm := ⟨[], []⟩
def os5 : List TypeId := []
theorem ok5 : vComp Tryz.prog modeF os5 hi5 pm5 sigS 5 Tryz.f5 = some cf5 := by kernel_rfl
end Go.Proofs.YtmjdkocjfehdcaaGreat.Sx
