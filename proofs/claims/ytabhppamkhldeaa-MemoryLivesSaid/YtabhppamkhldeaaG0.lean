/- THE SEAT's FUNCTIONS AS THE ABSTRACT MACHINE'S CODE, printed by program; each is held against the program by the kernel. -/
import Derived.Test.YtabhppamkhldeaaSxZ
import Derived.Test.YtabhppamkhldeaaProg
import Derived.KernelRfl
namespace Go.Proofs.Ytabhppamkhldeaa.Sx
open Go
set_option maxRecDepth 1000000
def lookM (f : Nat) : List (Nat × Mode) → Mode
  | [] => .pure
  | (g, m) :: r => if f = g then m else lookM f r
def modeL : List (Nat × Mode) := [(9, .rw), (10, .rw), (11, .rw), (12, .ro), (13, .rw), (14, .rw), (15, .rw), (16, .ro), (17, .ro), (19, .rw), (22, .rw), (23, .ro), (24, .rw), (25, .rw), (26, .rw), (27, .ro), (28, .ro), (29, .ro), (30, .rw), (31, .rw), (32, .ro), (33, .ro), (34, .ro), (35, .ro)]
def modeF : FuncId → Mode := fun f => lookM f modeL
def p4_0 : K := .reg [⟨some 4, none, .mov (.k (.bool false))⟩]
def p4_1 : K := .reg [⟨some 15, none, .call 9 []⟩, ⟨some 5, none, .mov (.t 15)⟩]
def p4_2 : K := .reg [⟨some 16, none, .mov (.t 5)⟩, ⟨some 17, none, .bin .eql .ptr (.t 16) (.k .nil)⟩]
def p4_3 : K := .reg [⟨some 4, none, .mov (.k (.bool false))⟩]
def p4_4 : K := .seq p4_3 .ret
def p4_5 : K := .cond (.t 17) p4_4 .skip
def p4_6 : K := .seq p4_2 p4_5
def p4_7 : K := .reg [⟨some 18, none, .mov (.t 0)⟩, ⟨some 19, none, .bin .rem .none (.t 18) (.k (.int .u8 3))⟩, ⟨some 20, none, .cvi .i64 (.t 19)⟩, ⟨some 21, none, .bin .add .none (.k (.i 4194303)) (.t 20)⟩, ⟨some 22, none, .mov (.t 1)⟩, ⟨some 23, none, .bin .rem .none (.t 22) (.k (.int .u8 3))⟩, ⟨some 24, none, .cvi .i64 (.t 23)⟩, ⟨some 25, none, .bin .add .none (.k (.i 4095)) (.t 24)⟩, ⟨some 6, none, .mov (.t 21)⟩, ⟨some 7, none, .mov (.t 25)⟩]
def p4_8 : K := .reg [⟨some 27, none, .mov (.t 5)⟩, ⟨some 28, none, .mov (.t 6)⟩, ⟨some 29, none, .mov (.t 7)⟩, ⟨some 30, none, .call 10 [.t 27, .t 28, .t 29]⟩, ⟨some 26, none, .mov (.t 30)⟩, ⟨some 31, none, .ext (.t 26) 0⟩, ⟨some 32, none, .ext (.t 26) 1⟩, ⟨some 8, none, .mov (.t 31)⟩, ⟨some 9, none, .mov (.t 32)⟩]
def p4_9 : K := .reg [⟨some 34, none, .mov (.t 5)⟩, ⟨some 35, none, .mov (.t 0)⟩, ⟨some 36, none, .cvi .i64 (.t 35)⟩, ⟨some 37, none, .bin .sub .none (.k (.i (-1))) (.t 36)⟩, ⟨some 38, none, .call 10 [.t 34, .t 37, .k (.i 0)]⟩, ⟨some 33, none, .mov (.t 38)⟩, ⟨some 39, none, .ext (.t 33) 0⟩, ⟨some 40, none, .ext (.t 33) 1⟩, ⟨some 10, none, .mov (.t 39)⟩, ⟨some 11, none, .mov (.t 40)⟩]
def p4_10 : K := .reg [⟨some 42, none, .mov (.t 5)⟩, ⟨some 43, none, .mov (.t 1)⟩, ⟨some 44, none, .cvi .i64 (.t 43)⟩, ⟨some 45, none, .bin .sub .none (.k (.i (-1))) (.t 44)⟩, ⟨some 46, none, .call 10 [.t 42, .k (.i 0), .t 45]⟩, ⟨some 41, none, .mov (.t 46)⟩, ⟨some 47, none, .ext (.t 41) 0⟩, ⟨some 48, none, .ext (.t 41) 1⟩, ⟨some 12, none, .mov (.t 47)⟩, ⟨some 13, none, .mov (.t 48)⟩]
def p4_11 : K := .reg [⟨some 49, none, .mov (.t 6)⟩, ⟨some 50, none, .bin .leq .none (.t 49) (.k (.i 4194304))⟩, ⟨some 51, none, .mov (.t 50)⟩, ⟨some 52, some (51, true), .mov (.t 7)⟩, ⟨some 53, some (51, true), .bin .leq .none (.t 52) (.k (.i 4096))⟩, ⟨some 54, none, .pick (.t 51) (.t 53) (.k (.bool false))⟩, ⟨some 14, none, .mov (.t 54)⟩]
def p4_12 : K := .reg [⟨some 55, none, .mov (.t 9)⟩, ⟨some 56, none, .bin .eql .none (.t 55) (.k (.i 0))⟩, ⟨some 57, none, .mov (.t 14)⟩, ⟨some 58, none, .bin .eql .bool (.t 56) (.t 57)⟩, ⟨some 59, none, .mov (.t 58)⟩, ⟨some 60, some (59, true), .mov (.t 14)⟩, ⟨some 61, some (59, true), .mov (.t 60)⟩, ⟨some 62, some (61, true), .mov (.t 8)⟩, ⟨some 63, some (61, true), .bin .eql .none (.t 62) (.k (.int .u64 8))⟩, ⟨some 64, some (59, true), .pick (.t 61) (.t 63) (.k (.bool false))⟩, ⟨some 65, some (59, true), .mov (.t 64)⟩, ⟨some 66, some (65, false), .mov (.t 14)⟩, ⟨some 67, some (65, false), .un .not (.t 66)⟩, ⟨some 68, some (65, false), .mov (.t 67)⟩, ⟨some 69, some (68, true), .mov (.t 8)⟩, ⟨some 70, some (68, true), .bin .eql .none (.t 69) (.k (.int .u64 0))⟩, ⟨some 71, some (65, false), .pick (.t 68) (.t 70) (.k (.bool false))⟩, ⟨some 72, some (65, false), .mov (.t 71)⟩, ⟨some 73, some (72, true), .mov (.t 9)⟩, ⟨some 74, some (72, true), .bin .eql .none (.t 73) (.k (.i 20))⟩, ⟨some 75, some (65, false), .pick (.t 72) (.t 74) (.k (.bool false))⟩, ⟨some 76, some (59, true), .pick (.t 65) (.k (.bool true)) (.t 75)⟩, ⟨some 77, none, .pick (.t 59) (.t 76) (.k (.bool false))⟩, ⟨some 78, none, .mov (.t 77)⟩, ⟨some 79, some (78, true), .mov (.t 11)⟩, ⟨some 80, some (78, true), .bin .eql .none (.t 79) (.k (.i 20))⟩, ⟨some 81, none, .pick (.t 78) (.t 80) (.k (.bool false))⟩, ⟨some 82, none, .mov (.t 81)⟩, ⟨some 83, some (82, true), .mov (.t 13)⟩, ⟨some 84, some (82, true), .bin .eql .none (.t 83) (.k (.i 20))⟩, ⟨some 85, none, .pick (.t 82) (.t 84) (.k (.bool false))⟩, ⟨some 86, none, .mov (.t 85)⟩, ⟨some 87, some (86, true), .mov (.t 10)⟩, ⟨some 88, some (86, true), .bin .eql .none (.t 87) (.k (.int .u64 0))⟩, ⟨some 89, none, .pick (.t 86) (.t 88) (.k (.bool false))⟩, ⟨some 90, none, .mov (.t 89)⟩, ⟨some 91, some (90, true), .mov (.t 12)⟩, ⟨some 92, some (90, true), .bin .eql .none (.t 91) (.k (.int .u64 0))⟩, ⟨some 93, none, .pick (.t 90) (.t 92) (.k (.bool false))⟩, ⟨some 94, none, .mov (.t 93)⟩, ⟨some 95, some (94, true), .call 8 []⟩, ⟨some 96, none, .pick (.t 94) (.t 95) (.k (.bool false))⟩, ⟨some 4, none, .mov (.t 96)⟩]
def p4_13 : K := .seq p4_12 .ret
def p4_14 : K := .seq p4_11 p4_13
def p4_15 : K := .seq p4_10 p4_14
def p4_16 : K := .seq p4_9 p4_15
def p4_17 : K := .seq p4_8 p4_16
def p4_18 : K := .seq p4_7 p4_17
def p4_19 : K := .seq p4_6 p4_18
def p4_20 : K := .seq p4_1 p4_19
def p4_21 : K := .seq p4_0 p4_20
def cf4 : CF := { nt := 97, body := p4_21, res := [.tmp 4] }
theorem ok4 : comp Try.prog modeF Try.f4 = some cf4 := by kernel_rfl
def p5_0 : K := .reg [⟨some 4, none, .mov (.k (.bool false))⟩]
def p5_1 : K := .reg [⟨some 18, none, .call 9 []⟩, ⟨some 5, none, .mov (.t 18)⟩]
def p5_2 : K := .reg [⟨some 19, none, .mov (.t 5)⟩, ⟨some 20, none, .bin .eql .ptr (.t 19) (.k .nil)⟩]
def p5_3 : K := .reg [⟨some 4, none, .mov (.k (.bool false))⟩]
def p5_4 : K := .seq p5_3 .ret
def p5_5 : K := .cond (.t 20) p5_4 .skip
def p5_6 : K := .seq p5_2 p5_5
def p5_7 : K := .reg [⟨some 21, none, .mov (.t 0)⟩, ⟨some 22, none, .bin .rem .none (.t 21) (.k (.int .u8 50))⟩, ⟨some 23, none, .cvi .i64 (.t 22)⟩, ⟨some 6, none, .mov (.t 23)⟩]
def p5_8 : K := .reg [⟨some 25, none, .mov (.t 5)⟩, ⟨some 26, none, .call 10 [.t 25, .k (.i 1), .k (.i 0)]⟩, ⟨some 24, none, .mov (.t 26)⟩, ⟨some 27, none, .ext (.t 24) 0⟩, ⟨some 28, none, .ext (.t 24) 1⟩, ⟨some 7, none, .mov (.t 27)⟩, ⟨some 8, none, .mov (.t 28)⟩]
def p5_9 : K := .reg [⟨some 29, none, .mov (.t 8)⟩, ⟨some 30, none, .bin .neq .none (.t 29) (.k (.i 0))⟩]
def p5_10 : K := .reg [⟨some 4, none, .mov (.k (.bool false))⟩]
def p5_11 : K := .seq p5_10 .ret
def p5_12 : K := .cond (.t 30) p5_11 .skip
def p5_13 : K := .seq p5_9 p5_12
def p5_14 : K := .reg [⟨some 9, none, .mov (.k (.i 0))⟩]
def p5_15 : K := .reg [⟨some 31, none, .mov (.t 9)⟩, ⟨some 32, none, .mov (.t 6)⟩, ⟨some 33, none, .bin .lss .none (.t 31) (.t 32)⟩]
def p5_16 : K := .cond (.t 33) .skip (.exit 0)
def p5_17 : K := .seq p5_15 p5_16
def p5_18 : K := .reg [⟨some 36, none, .mov (.t 5)⟩, ⟨some 37, none, .mov (.t 7)⟩, ⟨some 38, none, .call 13 [.t 36, .t 37]⟩, ⟨some 39, none, .bin .neq .none (.t 38) (.k (.i 0))⟩]
def p5_19 : K := .reg [⟨some 4, none, .mov (.k (.bool false))⟩]
def p5_20 : K := .seq p5_19 .ret
def p5_21 : K := .cond (.t 39) p5_20 .skip
def p5_22 : K := .seq p5_18 p5_21
def p5_23 : K := .block 1 p5_22
def p5_24 : K := .reg [⟨some 34, none, .mov (.t 9)⟩, ⟨some 35, none, .bin .add .none (.t 34) (.k (.i 1))⟩, ⟨some 9, none, .mov (.t 35)⟩]
def p5_25 : K := .seq p5_23 p5_24
def p5_26 : K := .seq p5_17 p5_25
def p5_27 : K := .loop p5_26
def p5_28 : K := .block 0 p5_27
def p5_29 : K := .seq p5_14 p5_28
def p5_30 : K := .reg [⟨some 40, none, .mov (.t 6)⟩, ⟨some 10, none, .mov (.t 40)⟩]
def p5_31 : K := .reg [⟨some 41, none, .mov (.t 10)⟩, ⟨some 42, none, .bin .geq .none (.t 41) (.k (.i 0))⟩]
def p5_32 : K := .cond (.t 42) .skip (.exit 2)
def p5_33 : K := .seq p5_31 p5_32
def p5_34 : K := .reg [⟨some 45, none, .mov (.t 5)⟩, ⟨some 46, none, .mov (.t 7)⟩, ⟨some 47, none, .call 14 [.t 45, .t 46]⟩, ⟨some 48, none, .bin .neq .none (.t 47) (.k (.i 20))⟩]
def p5_35 : K := .reg [⟨some 4, none, .mov (.k (.bool false))⟩]
def p5_36 : K := .seq p5_35 .ret
def p5_37 : K := .cond (.t 48) p5_36 .skip
def p5_38 : K := .seq p5_34 p5_37
def p5_39 : K := .reg [⟨some 50, none, .mov (.t 5)⟩, ⟨some 51, none, .mov (.t 7)⟩, ⟨some 52, none, .call 15 [.t 50, .t 51]⟩, ⟨some 49, none, .mov (.t 52)⟩, ⟨some 53, none, .ext (.t 49) 0⟩, ⟨some 54, none, .ext (.t 49) 1⟩, ⟨some 11, none, .mov (.t 53)⟩, ⟨some 12, none, .mov (.t 54)⟩]
def p5_40 : K := .reg [⟨some 55, none, .mov (.t 12)⟩, ⟨some 56, none, .bin .neq .none (.t 55) (.k (.i 0))⟩, ⟨some 57, none, .mov (.t 56)⟩, ⟨some 58, some (57, false), .mov (.t 11)⟩, ⟨some 59, some (57, false), .mov (.t 10)⟩, ⟨some 60, some (57, false), .bin .neq .none (.t 58) (.t 59)⟩, ⟨some 61, none, .pick (.t 57) (.k (.bool true)) (.t 60)⟩]
def p5_41 : K := .reg [⟨some 4, none, .mov (.k (.bool false))⟩]
def p5_42 : K := .seq p5_41 .ret
def p5_43 : K := .cond (.t 61) p5_42 .skip
def p5_44 : K := .seq p5_40 p5_43
def p5_45 : K := .seq p5_39 p5_44
def p5_46 : K := .seq p5_38 p5_45
def p5_47 : K := .block 3 p5_46
def p5_48 : K := .reg [⟨some 43, none, .mov (.t 10)⟩, ⟨some 44, none, .bin .sub .none (.t 43) (.k (.i 1))⟩, ⟨some 10, none, .mov (.t 44)⟩]
def p5_49 : K := .seq p5_47 p5_48
def p5_50 : K := .seq p5_33 p5_49
def p5_51 : K := .loop p5_50
def p5_52 : K := .block 2 p5_51
def p5_53 : K := .seq p5_30 p5_52
def p5_54 : K := .reg [⟨some 63, none, .mov (.t 5)⟩, ⟨some 64, none, .mov (.t 7)⟩, ⟨some 65, none, .call 15 [.t 63, .t 64]⟩, ⟨some 62, none, .mov (.t 65)⟩, ⟨some 66, none, .ext (.t 62) 0⟩, ⟨some 67, none, .ext (.t 62) 1⟩, ⟨some 13, none, .mov (.t 66)⟩, ⟨some 14, none, .mov (.t 67)⟩]
def p5_55 : K := .reg [⟨some 68, none, .mov (.t 14)⟩, ⟨some 69, none, .bin .neq .none (.t 68) (.k (.i 20))⟩, ⟨some 70, none, .mov (.t 69)⟩, ⟨some 71, some (70, false), .mov (.t 5)⟩, ⟨some 72, some (70, false), .call 16 [.t 71]⟩, ⟨some 73, some (70, false), .bin .neq .none (.t 72) (.k (.i 1))⟩, ⟨some 74, none, .pick (.t 70) (.k (.bool true)) (.t 73)⟩, ⟨some 75, none, .mov (.t 74)⟩, ⟨some 76, some (75, false), .mov (.t 5)⟩, ⟨some 77, some (75, false), .mov (.t 7)⟩, ⟨some 78, some (75, false), .call 14 [.t 76, .t 77]⟩, ⟨some 79, some (75, false), .bin .neq .none (.t 78) (.k (.i 0))⟩, ⟨some 80, none, .pick (.t 75) (.k (.bool true)) (.t 79)⟩, ⟨some 81, none, .mov (.t 80)⟩, ⟨some 82, some (81, false), .mov (.t 5)⟩, ⟨some 83, some (81, false), .call 16 [.t 82]⟩, ⟨some 84, some (81, false), .bin .neq .none (.t 83) (.k (.i 0))⟩, ⟨some 85, none, .pick (.t 81) (.k (.bool true)) (.t 84)⟩]
def p5_56 : K := .reg [⟨some 4, none, .mov (.k (.bool false))⟩]
def p5_57 : K := .seq p5_56 .ret
def p5_58 : K := .cond (.t 85) p5_57 .skip
def p5_59 : K := .seq p5_55 p5_58
def p5_60 : K := .reg [⟨some 15, none, .mov (.k (.i 0))⟩]
def p5_61 : K := .reg [⟨some 86, none, .mov (.t 15)⟩, ⟨some 87, none, .mov (.t 1)⟩, ⟨some 88, none, .bin .rem .none (.t 87) (.k (.int .u8 20))⟩, ⟨some 89, none, .cvi .i64 (.t 88)⟩, ⟨some 90, none, .bin .lss .none (.t 86) (.t 89)⟩]
def p5_62 : K := .cond (.t 90) .skip (.exit 4)
def p5_63 : K := .seq p5_61 p5_62
def p5_64 : K := .reg [⟨some 94, none, .mov (.t 5)⟩, ⟨some 95, none, .call 10 [.t 94, .k (.i 1), .k (.i 0)]⟩, ⟨some 93, none, .mov (.t 95)⟩, ⟨some 96, none, .ext (.t 93) 0⟩, ⟨some 97, none, .ext (.t 93) 1⟩, ⟨some 16, none, .mov (.t 96)⟩, ⟨some 17, none, .mov (.t 97)⟩]
def p5_65 : K := .reg [⟨some 98, none, .mov (.t 17)⟩, ⟨some 99, none, .bin .neq .none (.t 98) (.k (.i 0))⟩, ⟨some 100, none, .mov (.t 99)⟩, ⟨some 101, some (100, false), .mov (.t 16)⟩, ⟨some 102, some (100, false), .mov (.t 7)⟩, ⟨some 103, some (100, false), .bin .eql .none (.t 101) (.t 102)⟩, ⟨some 104, none, .pick (.t 100) (.k (.bool true)) (.t 103)⟩, ⟨some 105, none, .mov (.t 104)⟩, ⟨some 106, some (105, false), .mov (.t 5)⟩, ⟨some 107, some (105, false), .mov (.t 7)⟩, ⟨some 108, some (105, false), .call 13 [.t 106, .t 107]⟩, ⟨some 109, some (105, false), .bin .neq .none (.t 108) (.k (.i 23))⟩, ⟨some 110, none, .pick (.t 105) (.k (.bool true)) (.t 109)⟩, ⟨some 111, none, .mov (.t 110)⟩, ⟨some 112, some (111, false), .mov (.t 5)⟩, ⟨some 113, some (111, false), .mov (.t 7)⟩, ⟨some 114, some (111, false), .call 14 [.t 112, .t 113]⟩, ⟨some 115, some (111, false), .bin .neq .none (.t 114) (.k (.i 23))⟩, ⟨some 116, none, .pick (.t 111) (.k (.bool true)) (.t 115)⟩]
def p5_66 : K := .reg [⟨some 4, none, .mov (.k (.bool false))⟩]
def p5_67 : K := .seq p5_66 .ret
def p5_68 : K := .cond (.t 116) p5_67 .skip
def p5_69 : K := .seq p5_65 p5_68
def p5_70 : K := .seq p5_64 p5_69
def p5_71 : K := .block 5 p5_70
def p5_72 : K := .reg [⟨some 91, none, .mov (.t 15)⟩, ⟨some 92, none, .bin .add .none (.t 91) (.k (.i 1))⟩, ⟨some 15, none, .mov (.t 92)⟩]
def p5_73 : K := .seq p5_71 p5_72
def p5_74 : K := .seq p5_63 p5_73
def p5_75 : K := .loop p5_74
def p5_76 : K := .block 4 p5_75
def p5_77 : K := .seq p5_60 p5_76
def p5_78 : K := .reg [⟨some 117, none, .call 8 []⟩, ⟨some 4, none, .mov (.t 117)⟩]
def p5_79 : K := .seq p5_78 .ret
def p5_80 : K := .seq p5_77 p5_79
def p5_81 : K := .seq p5_59 p5_80
def p5_82 : K := .seq p5_54 p5_81
def p5_83 : K := .seq p5_53 p5_82
def p5_84 : K := .seq p5_29 p5_83
def p5_85 : K := .seq p5_13 p5_84
def p5_86 : K := .seq p5_8 p5_85
def p5_87 : K := .seq p5_7 p5_86
def p5_88 : K := .seq p5_6 p5_87
def p5_89 : K := .seq p5_1 p5_88
def p5_90 : K := .seq p5_0 p5_89
def cf5 : CF := { nt := 118, body := p5_90, res := [.tmp 4] }
theorem ok5 : comp Try.prog modeF Try.f5 = some cf5 := by kernel_rfl
def p6_0 : K := .reg [⟨some 2, none, .mov (.k (.bool false))⟩]
def p6_1 : K := .reg [⟨some 12, none, .mov (.t 0)⟩, ⟨some 13, none, .len (.t 12)⟩, ⟨some 14, none, .bin .gtr .none (.t 13) (.k (.i 100))⟩]
def p6_2 : K := .reg [⟨some 15, none, .call 8 []⟩, ⟨some 2, none, .mov (.t 15)⟩]
def p6_3 : K := .seq p6_2 .ret
def p6_4 : K := .cond (.t 14) p6_3 .skip
def p6_5 : K := .seq p6_1 p6_4
def p6_6 : K := .reg [⟨some 16, none, .call 9 []⟩, ⟨some 3, none, .mov (.t 16)⟩]
def p6_7 : K := .reg [⟨some 17, none, .mov (.t 3)⟩, ⟨some 18, none, .bin .eql .ptr (.t 17) (.k .nil)⟩]
def p6_8 : K := .reg [⟨some 2, none, .mov (.k (.bool false))⟩]
def p6_9 : K := .seq p6_8 .ret
def p6_10 : K := .cond (.t 18) p6_9 .skip
def p6_11 : K := .seq p6_7 p6_10
def p6_12 : K := .reg [⟨some 4, none, .mov (.k (.int .u64 0))⟩]
def p6_13 : K := .reg [⟨some 19, none, .mov (.t 0)⟩, ⟨some 20, none, .len (.t 19)⟩, ⟨some 21, none, .mov (.k (.i 0))⟩]
def p6_14 : K := .reg [⟨some 22, none, .bin .lss .none (.t 21) (.t 20)⟩]
def p6_15 : K := .cond (.t 22) .skip (.exit 0)
def p6_16 : K := .reg [⟨some 23, none, .mov (.t 21)⟩, ⟨some 24, none, .ixs 1 (.t 19) (.t 21)⟩, ⟨some 25, none, .ld1 (.t 24)⟩, ⟨some 5, none, .mov (.t 23)⟩, ⟨some 6, none, .mov (.t 25)⟩]
def p6_17 : K := .reg [⟨some 27, none, .mov (.t 3)⟩, ⟨some 28, none, .mov (.t 6)⟩, ⟨some 29, none, .cvi .i64 (.t 28)⟩, ⟨some 30, none, .mov (.t 5)⟩, ⟨some 31, none, .call 10 [.t 27, .t 29, .t 30]⟩, ⟨some 26, none, .mov (.t 31)⟩, ⟨some 32, none, .ext (.t 26) 0⟩, ⟨some 33, none, .ext (.t 26) 1⟩, ⟨some 7, none, .mov (.t 32)⟩, ⟨some 8, none, .mov (.t 33)⟩]
def p6_18 : K := .reg [⟨some 35, none, .mov (.t 3)⟩, ⟨some 36, none, .mov (.t 7)⟩, ⟨some 37, none, .call 17 [.t 35, .t 36]⟩, ⟨some 34, none, .mov (.t 37)⟩, ⟨some 38, none, .ext (.t 34) 0⟩, ⟨some 39, none, .ext (.t 34) 1⟩, ⟨some 40, none, .ext (.t 34) 2⟩, ⟨some 9, none, .mov (.t 38)⟩, ⟨some 10, none, .mov (.t 39)⟩, ⟨some 11, none, .mov (.t 40)⟩]
def p6_19 : K := .reg [⟨some 41, none, .mov (.t 8)⟩, ⟨some 42, none, .bin .neq .none (.t 41) (.k (.i 0))⟩, ⟨some 43, none, .mov (.t 42)⟩, ⟨some 44, some (43, false), .mov (.t 11)⟩, ⟨some 45, some (43, false), .bin .neq .none (.t 44) (.k (.i 0))⟩, ⟨some 46, none, .pick (.t 43) (.k (.bool true)) (.t 45)⟩, ⟨some 47, none, .mov (.t 46)⟩, ⟨some 48, some (47, false), .mov (.t 7)⟩, ⟨some 49, some (47, false), .mov (.t 4)⟩, ⟨some 50, some (47, false), .bin .add .none (.t 49) (.k (.int .u64 8))⟩, ⟨some 51, some (47, false), .bin .neq .none (.t 48) (.t 50)⟩, ⟨some 52, none, .pick (.t 47) (.k (.bool true)) (.t 51)⟩, ⟨some 53, none, .mov (.t 52)⟩, ⟨some 54, some (53, false), .mov (.t 7)⟩, ⟨some 55, some (53, false), .bin .rem .none (.t 54) (.k (.int .u64 8))⟩, ⟨some 56, some (53, false), .bin .neq .none (.t 55) (.k (.int .u64 0))⟩, ⟨some 57, none, .pick (.t 53) (.k (.bool true)) (.t 56)⟩, ⟨some 58, none, .mov (.t 57)⟩, ⟨some 59, some (58, false), .mov (.t 7)⟩, ⟨some 60, some (58, false), .bin .shr .none (.t 59) (.k (.int .u64 48))⟩, ⟨some 61, some (58, false), .bin .neq .none (.t 60) (.k (.int .u64 0))⟩, ⟨some 62, none, .pick (.t 58) (.k (.bool true)) (.t 61)⟩, ⟨some 63, none, .mov (.t 62)⟩, ⟨some 64, some (63, false), .mov (.t 9)⟩, ⟨some 65, some (63, false), .mov (.t 6)⟩, ⟨some 66, some (63, false), .cvi .i64 (.t 65)⟩, ⟨some 67, some (63, false), .bin .neq .none (.t 64) (.t 66)⟩, ⟨some 68, none, .pick (.t 63) (.k (.bool true)) (.t 67)⟩, ⟨some 69, none, .mov (.t 68)⟩, ⟨some 70, some (69, false), .mov (.t 10)⟩, ⟨some 71, some (69, false), .mov (.t 5)⟩, ⟨some 72, some (69, false), .bin .neq .none (.t 70) (.t 71)⟩, ⟨some 73, none, .pick (.t 69) (.k (.bool true)) (.t 72)⟩, ⟨some 74, none, .mov (.t 73)⟩, ⟨some 75, some (74, false), .mov (.t 3)⟩, ⟨some 76, some (74, false), .call 16 [.t 75]⟩, ⟨some 77, some (74, false), .mov (.t 5)⟩, ⟨some 78, some (74, false), .bin .add .none (.t 77) (.k (.i 1))⟩, ⟨some 79, some (74, false), .bin .neq .none (.t 76) (.t 78)⟩, ⟨some 80, none, .pick (.t 74) (.k (.bool true)) (.t 79)⟩]
def p6_20 : K := .reg [⟨some 2, none, .mov (.k (.bool false))⟩]
def p6_21 : K := .seq p6_20 .ret
def p6_22 : K := .cond (.t 80) p6_21 .skip
def p6_23 : K := .seq p6_19 p6_22
def p6_24 : K := .reg [⟨some 81, none, .mov (.t 7)⟩, ⟨some 4, none, .mov (.t 81)⟩]
def p6_25 : K := .seq p6_23 p6_24
def p6_26 : K := .seq p6_18 p6_25
def p6_27 : K := .seq p6_17 p6_26
def p6_28 : K := .seq p6_16 p6_27
def p6_29 : K := .block 1 p6_28
def p6_30 : K := .reg [⟨some 82, none, .bin .add .none (.t 21) (.k (.i 1))⟩, ⟨some 21, none, .mov (.t 82)⟩]
def p6_31 : K := .seq p6_29 p6_30
def p6_32 : K := .seq p6_15 p6_31
def p6_33 : K := .seq p6_14 p6_32
def p6_34 : K := .loop p6_33
def p6_35 : K := .block 0 p6_34
def p6_36 : K := .seq p6_13 p6_35
def p6_37 : K := .reg [⟨some 83, none, .call 8 []⟩, ⟨some 2, none, .mov (.t 83)⟩]
def p6_38 : K := .seq p6_37 .ret
def p6_39 : K := .seq p6_36 p6_38
def p6_40 : K := .seq p6_12 p6_39
def p6_41 : K := .seq p6_11 p6_40
def p6_42 : K := .seq p6_6 p6_41
def p6_43 : K := .seq p6_5 p6_42
def p6_44 : K := .seq p6_0 p6_43
def cf6 : CF := { nt := 84, body := p6_44, res := [.tmp 2] }
theorem ok6 : comp Try.prog modeF Try.f6 = some cf6 := by kernel_rfl
def p8_0 : K := .reg [⟨some 0, none, .mov (.k (.bool false))⟩]
def p8_1 : K := .reg [⟨some 12, none, .call 9 []⟩, ⟨some 1, none, .mov (.t 12)⟩]
def p8_2 : K := .reg [⟨some 13, none, .mov (.t 1)⟩, ⟨some 14, none, .bin .eql .ptr (.t 13) (.k .nil)⟩]
def p8_3 : K := .reg [⟨some 0, none, .mov (.k (.bool false))⟩]
def p8_4 : K := .seq p8_3 .ret
def p8_5 : K := .cond (.t 14) p8_4 .skip
def p8_6 : K := .seq p8_2 p8_5
def p8_7 : K := .reg [⟨some 16, none, .mov (.t 1)⟩, ⟨some 17, none, .call 10 [.t 16, .k (.i 2), .k (.i 1)]⟩, ⟨some 15, none, .mov (.t 17)⟩, ⟨some 18, none, .ext (.t 15) 0⟩, ⟨some 19, none, .ext (.t 15) 1⟩, ⟨some 2, none, .mov (.t 18)⟩, ⟨some 3, none, .mov (.t 19)⟩]
def p8_8 : K := .reg [⟨some 20, none, .mov (.t 1)⟩, ⟨some 21, none, .mov (.t 2)⟩, ⟨some 22, none, .mksl 5 1 1 [.int .u8 0] [(0, 1, .k (.int .u8 1))]⟩, ⟨some 23, none, .call 11 [.t 20, .t 21, .k (.i 0), .t 22]⟩, ⟨some 4, none, .mov (.t 23)⟩]
def p8_9 : K := .reg [⟨some 25, none, .mov (.t 1)⟩, ⟨some 26, none, .mov (.t 2)⟩, ⟨some 27, none, .call 12 [.t 25, .t 26, .k (.i 0), .k (.i 2)]⟩, ⟨some 24, none, .mov (.t 27)⟩, ⟨some 28, none, .ext (.t 24) 0⟩, ⟨some 29, none, .ext (.t 24) 1⟩, ⟨some 5, none, .mov (.t 28)⟩, ⟨some 6, none, .mov (.t 29)⟩]
def p8_10 : K := .reg [⟨some 31, none, .mov (.t 1)⟩, ⟨some 32, none, .mov (.t 2)⟩, ⟨some 33, none, .call 15 [.t 31, .t 32]⟩, ⟨some 30, none, .mov (.t 33)⟩, ⟨some 34, none, .ext (.t 30) 0⟩, ⟨some 35, none, .ext (.t 30) 1⟩, ⟨some 7, none, .mov (.t 34)⟩, ⟨some 8, none, .mov (.t 35)⟩]
def p8_11 : K := .reg [⟨some 36, none, .mov (.t 1)⟩, ⟨some 37, none, .mov (.t 2)⟩, ⟨some 38, none, .call 14 [.t 36, .t 37]⟩, ⟨some 9, none, .mov (.t 38)⟩]
def p8_12 : K := .reg [⟨some 40, none, .mov (.t 1)⟩, ⟨some 41, none, .mov (.t 2)⟩, ⟨some 42, none, .call 12 [.t 40, .t 41, .k (.i 0), .k (.i 1)]⟩, ⟨some 39, none, .mov (.t 42)⟩, ⟨some 43, none, .ext (.t 39) 0⟩, ⟨some 44, none, .ext (.t 39) 1⟩, ⟨some 10, none, .mov (.t 43)⟩, ⟨some 11, none, .mov (.t 44)⟩]
def p8_13 : K := .reg [⟨some 45, none, .mov (.t 3)⟩, ⟨some 46, none, .bin .eql .none (.t 45) (.k (.i 0))⟩, ⟨some 47, none, .mov (.t 46)⟩, ⟨some 48, some (47, true), .mov (.t 2)⟩, ⟨some 49, some (47, true), .bin .eql .none (.t 48) (.k (.int .u64 8))⟩, ⟨some 50, none, .pick (.t 47) (.t 49) (.k (.bool false))⟩, ⟨some 51, none, .mov (.t 50)⟩, ⟨some 52, some (51, true), .mov (.t 4)⟩, ⟨some 53, some (51, true), .bin .eql .none (.t 52) (.k (.i 0))⟩, ⟨some 54, none, .pick (.t 51) (.t 53) (.k (.bool false))⟩, ⟨some 55, none, .mov (.t 54)⟩, ⟨some 56, some (55, true), .mov (.t 6)⟩, ⟨some 57, some (55, true), .bin .eql .none (.t 56) (.k (.i 24))⟩, ⟨some 58, none, .pick (.t 55) (.t 57) (.k (.bool false))⟩, ⟨some 59, none, .mov (.t 58)⟩, ⟨some 60, some (59, true), .mov (.t 7)⟩, ⟨some 61, some (59, true), .bin .eql .none (.t 60) (.k (.i 0))⟩, ⟨some 62, none, .pick (.t 59) (.t 61) (.k (.bool false))⟩, ⟨some 63, none, .mov (.t 62)⟩, ⟨some 64, some (63, true), .mov (.t 8)⟩, ⟨some 65, some (63, true), .bin .eql .none (.t 64) (.k (.i 0))⟩, ⟨some 66, none, .pick (.t 63) (.t 65) (.k (.bool false))⟩, ⟨some 67, none, .mov (.t 66)⟩, ⟨some 68, some (67, true), .mov (.t 9)⟩, ⟨some 69, some (67, true), .bin .eql .none (.t 68) (.k (.i 0))⟩, ⟨some 70, none, .pick (.t 67) (.t 69) (.k (.bool false))⟩, ⟨some 71, none, .mov (.t 70)⟩, ⟨some 72, some (71, true), .mov (.t 11)⟩, ⟨some 73, some (71, true), .bin .eql .none (.t 72) (.k (.i 23))⟩, ⟨some 74, none, .pick (.t 71) (.t 73) (.k (.bool false))⟩, ⟨some 75, none, .mov (.t 74)⟩, ⟨some 76, some (75, true), .mov (.t 1)⟩, ⟨some 77, some (75, true), .call 16 [.t 76]⟩, ⟨some 78, some (75, true), .bin .eql .none (.t 77) (.k (.i 0))⟩, ⟨some 79, none, .pick (.t 75) (.t 78) (.k (.bool false))⟩, ⟨some 0, none, .mov (.t 79)⟩]
def p8_14 : K := .seq p8_13 .ret
def p8_15 : K := .seq p8_12 p8_14
def p8_16 : K := .seq p8_11 p8_15
def p8_17 : K := .seq p8_10 p8_16
def p8_18 : K := .seq p8_9 p8_17
def p8_19 : K := .seq p8_8 p8_18
def p8_20 : K := .seq p8_7 p8_19
def p8_21 : K := .seq p8_6 p8_20
def p8_22 : K := .seq p8_1 p8_21
def p8_23 : K := .seq p8_0 p8_22
def cf8 : CF := { nt := 80, body := p8_23, res := [.tmp 0] }
theorem ok8 : comp Try.prog modeF Try.f8 = some cf8 := by kernel_rfl
def p9_0 : K := .reg [⟨some 0, none, .mov (.k .nil)⟩]
def p9_1 : K := .reg [⟨some 1, none, .mk [.nilsl, .i 0] []⟩, ⟨some 2, none, .box 54 (.t 1)⟩, ⟨some 0, none, .mov (.t 2)⟩]
def p9_2 : K := .seq p9_1 .ret
def p9_3 : K := .seq p9_0 p9_2
def cf9 : CF := { nt := 3, body := p9_3, res := [.tmp 0] }
theorem ok9 : comp Try.prog modeF Try.f9 = some cf9 := by kernel_rfl
def p10_0 : K := .reg [⟨some 6, none, .mov (.k (.int .u64 0))⟩, ⟨some 7, none, .mov (.k (.i 0))⟩]
def p10_1 : K := .reg [⟨some 8, none, .mov (.t 1)⟩, ⟨some 9, none, .bin .lss .none (.t 8) (.k (.i 0))⟩, ⟨some 10, none, .mov (.t 9)⟩, ⟨some 11, some (10, false), .mov (.t 1)⟩, ⟨some 12, some (10, false), .bin .gtr .none (.t 11) (.k (.i 4194304))⟩, ⟨some 13, none, .pick (.t 10) (.k (.bool true)) (.t 12)⟩, ⟨some 14, none, .mov (.t 13)⟩, ⟨some 15, some (14, false), .mov (.t 2)⟩, ⟨some 16, some (14, false), .bin .lss .none (.t 15) (.k (.i 0))⟩, ⟨some 17, none, .pick (.t 14) (.k (.bool true)) (.t 16)⟩, ⟨some 18, none, .mov (.t 17)⟩, ⟨some 19, some (18, false), .mov (.t 2)⟩, ⟨some 20, some (18, false), .bin .gtr .none (.t 19) (.k (.i 4096))⟩, ⟨some 21, none, .pick (.t 18) (.k (.bool true)) (.t 20)⟩]
def p10_2 : K := .reg [⟨some 6, none, .mov (.k (.int .u64 0))⟩, ⟨some 7, none, .mov (.k (.i 20))⟩]
def p10_3 : K := .seq p10_2 .ret
def p10_4 : K := .cond (.t 21) p10_3 .skip
def p10_5 : K := .seq p10_1 p10_4
def p10_6 : K := .reg [⟨some 22, none, .mov (.t 0)⟩, ⟨some 23, none, .mov (.t 0)⟩, ⟨some 24, none, .nilc (.t 23)⟩, ⟨some 25, none, .fad 0 (.t 24)⟩, ⟨some 26, none, .ld1 (.t 25)⟩, ⟨some 27, none, .mov (.t 1)⟩, ⟨some 28, none, .mov (.t 2)⟩, ⟨some 29, none, .mkmap (.int .i64)⟩, ⟨some 30, none, .mk [.bool false, .i 0, .i 0, .i 0, .d (.v (.map none))] [(0, 1, .k (.bool true)), (1, 1, .t 27), (2, 1, .t 28), (3, 1, .k (.i 1)), (4, 1, .t 29)]⟩, ⟨some 31, none, .box 58 (.t 30)⟩, ⟨some 32, none, .mksl 55 1 1 [.nil] [(0, 1, .t 31)]⟩, ⟨some 33, none, .app 55 1 8 [.nil] (.t 26) (.t 32)⟩, ⟨some 34, none, .nilc (.t 22)⟩, ⟨some 35, none, .fad 0 (.t 34)⟩, ⟨none, none, .st 1 (.t 35) (.t 33)⟩]
def p10_7 : K := .reg [⟨some 36, none, .mov (.t 0)⟩, ⟨some 37, none, .nilc (.t 36)⟩, ⟨some 38, none, .fad 1 (.t 37)⟩, ⟨some 39, none, .ld1 (.t 38)⟩, ⟨some 40, none, .bin .add .none (.t 39) (.k (.i 1))⟩, ⟨some 41, none, .nilc (.t 36)⟩, ⟨some 42, none, .fad 1 (.t 41)⟩, ⟨none, none, .st 1 (.t 42) (.t 40)⟩]
def p10_8 : K := .reg [⟨some 43, none, .mov (.t 0)⟩, ⟨some 44, none, .nilc (.t 43)⟩, ⟨some 45, none, .fad 0 (.t 44)⟩, ⟨some 46, none, .ld1 (.t 45)⟩, ⟨some 47, none, .len (.t 46)⟩, ⟨some 48, none, .bin .mul .none (.k (.i 8)) (.t 47)⟩, ⟨some 49, none, .cvi .u64 (.t 48)⟩, ⟨some 6, none, .mov (.t 49)⟩, ⟨some 7, none, .mov (.k (.i 0))⟩]
def p10_9 : K := .seq p10_8 .ret
def p10_10 : K := .seq p10_7 p10_9
def p10_11 : K := .seq p10_6 p10_10
def p10_12 : K := .seq p10_5 p10_11
def p10_13 : K := .seq p10_0 p10_12
def cf10 : CF := { nt := 50, body := p10_13, res := [.tmp 6, .tmp 7] }
theorem ok10 : comp Try.prog modeF Try.f10 = some cf10 := by kernel_rfl
def p11_0 : K := .reg [⟨some 8, none, .mov (.k (.i 0))⟩]
def p11_1 : K := .reg [⟨some 16, none, .mov (.t 0)⟩, ⟨some 17, none, .mov (.t 1)⟩, ⟨some 18, none, .call 33 [.t 16, .t 17]⟩, ⟨some 15, none, .mov (.t 18)⟩, ⟨some 19, none, .ext (.t 15) 0⟩, ⟨some 20, none, .ext (.t 15) 1⟩, ⟨some 9, none, .mov (.t 19)⟩, ⟨some 10, none, .mov (.t 20)⟩]
def p11_2 : K := .reg [⟨some 21, none, .mov (.t 10)⟩, ⟨some 22, none, .bin .neq .none (.t 21) (.k (.i 0))⟩]
def p11_3 : K := .reg [⟨some 23, none, .mov (.t 10)⟩, ⟨some 8, none, .mov (.t 23)⟩]
def p11_4 : K := .seq p11_3 .ret
def p11_5 : K := .cond (.t 22) p11_4 .skip
def p11_6 : K := .seq p11_2 p11_5
def p11_7 : K := .reg [⟨some 24, none, .mov (.t 9)⟩, ⟨some 25, none, .mov (.t 2)⟩, ⟨some 26, none, .mov (.t 3)⟩, ⟨some 27, none, .len (.t 26)⟩, ⟨some 28, none, .call 34 [.t 24, .t 25, .t 27]⟩, ⟨some 29, none, .un .not (.t 28)⟩]
def p11_8 : K := .reg [⟨some 8, none, .mov (.k (.i 20))⟩]
def p11_9 : K := .seq p11_8 .ret
def p11_10 : K := .cond (.t 29) p11_9 .skip
def p11_11 : K := .seq p11_7 p11_10
def p11_12 : K := .reg [⟨some 30, none, .mov (.t 3)⟩, ⟨some 31, none, .len (.t 30)⟩, ⟨some 32, none, .mov (.k (.i 0))⟩]
def p11_13 : K := .reg [⟨some 33, none, .bin .lss .none (.t 32) (.t 31)⟩]
def p11_14 : K := .cond (.t 33) .skip (.exit 0)
def p11_15 : K := .reg [⟨some 34, none, .mov (.t 32)⟩, ⟨some 35, none, .ixs 1 (.t 30) (.t 32)⟩, ⟨some 36, none, .ld1 (.t 35)⟩, ⟨some 11, none, .mov (.t 34)⟩, ⟨some 12, none, .mov (.t 36)⟩]
def p11_16 : K := .reg [⟨some 37, none, .mov (.t 2)⟩, ⟨some 38, none, .mov (.t 11)⟩, ⟨some 39, none, .bin .add .none (.t 37) (.t 38)⟩, ⟨some 13, none, .mov (.t 39)⟩]
def p11_17 : K := .reg [⟨some 40, none, .mov (.t 9)⟩, ⟨some 41, none, .nilc (.t 40)⟩, ⟨some 42, none, .fad 4 (.t 41)⟩, ⟨some 43, none, .ld1 (.t 42)⟩, ⟨some 44, none, .mov (.t 13)⟩, ⟨some 45, none, .bin .quo .none (.t 44) (.k (.i 256))⟩, ⟨some 46, none, .lkp (.int .i64) false .nil (.t 43) (.t 45)⟩, ⟨some 14, none, .mov (.t 46)⟩]
def p11_18 : K := .reg [⟨some 47, none, .mov (.t 14)⟩, ⟨some 48, none, .bin .eql .ptr (.t 47) (.k .nil)⟩]
def p11_19 : K := .reg [⟨some 49, none, .mk (List.replicate 256 (.int .u8 0) ++ List.replicate 256 (.bool false)) []⟩, ⟨some 50, none, .box 66 (.t 49)⟩, ⟨some 14, none, .mov (.t 50)⟩]
def p11_20 : K := .reg [⟨some 51, none, .mov (.t 9)⟩, ⟨some 52, none, .nilc (.t 51)⟩, ⟨some 53, none, .fad 4 (.t 52)⟩, ⟨some 54, none, .ld1 (.t 53)⟩, ⟨some 55, none, .mov (.t 13)⟩, ⟨some 56, none, .bin .quo .none (.t 55) (.k (.i 256))⟩, ⟨some 57, none, .mov (.t 14)⟩, ⟨none, none, .mset (.int .i64) (.t 54) (.t 56) (.t 57)⟩]
def p11_21 : K := .seq p11_19 p11_20
def p11_22 : K := .cond (.t 48) p11_21 .skip
def p11_23 : K := .seq p11_18 p11_22
def p11_24 : K := .drg [⟨some 58, none, .mov (.t 14)⟩, ⟨some 59, none, .mov (.t 13)⟩, ⟨some 60, none, .bin .rem .none (.t 59) (.k (.i 256))⟩, ⟨some 61, none, .mov (.t 14)⟩, ⟨some 62, none, .mov (.t 13)⟩, ⟨some 63, none, .bin .rem .none (.t 62) (.k (.i 256))⟩, ⟨some 64, none, .mov (.t 12)⟩, ⟨some 65, none, .nilc (.t 58)⟩, ⟨some 66, none, .fad 0 (.t 65)⟩, ⟨some 67, none, .ixp 1 256 (.t 66) (.t 60)⟩, ⟨none, none, .st 1 (.t 67) (.t 64)⟩, ⟨some 68, none, .nilc (.t 61)⟩, ⟨some 69, none, .fad 256 (.t 68)⟩, ⟨some 70, none, .ixp 1 256 (.t 69) (.t 63)⟩, ⟨none, none, .st 1 (.t 70) (.k (.bool true))⟩]
def p11_25 : K := .seq p11_23 p11_24
def p11_26 : K := .seq p11_17 p11_25
def p11_27 : K := .seq p11_16 p11_26
def p11_28 : K := .seq p11_15 p11_27
def p11_29 : K := .block 1 p11_28
def p11_30 : K := .reg [⟨some 71, none, .bin .add .none (.t 32) (.k (.i 1))⟩, ⟨some 32, none, .mov (.t 71)⟩]
def p11_31 : K := .seq p11_29 p11_30
def p11_32 : K := .seq p11_14 p11_31
def p11_33 : K := .seq p11_13 p11_32
def p11_34 : K := .loop p11_33
def p11_35 : K := .block 0 p11_34
def p11_36 : K := .seq p11_12 p11_35
def p11_37 : K := .reg [⟨some 8, none, .mov (.k (.i 0))⟩]
def p11_38 : K := .seq p11_37 .ret
def p11_39 : K := .seq p11_36 p11_38
def p11_40 : K := .seq p11_11 p11_39
def p11_41 : K := .seq p11_6 p11_40
def p11_42 : K := .seq p11_1 p11_41
def p11_43 : K := .seq p11_0 p11_42
def cf11 : CF := { nt := 72, body := p11_43, res := [.tmp 8] }
theorem ok11 : comp Try.prog modeF Try.f11 = some cf11 := by kernel_rfl
def p12_0 : K := .reg [⟨some 8, none, .mov (.k .nilsl)⟩, ⟨some 9, none, .mov (.k (.i 0))⟩]
def p12_1 : K := .reg [⟨some 16, none, .mov (.t 0)⟩, ⟨some 17, none, .mov (.t 1)⟩, ⟨some 18, none, .call 33 [.t 16, .t 17]⟩, ⟨some 15, none, .mov (.t 18)⟩, ⟨some 19, none, .ext (.t 15) 0⟩, ⟨some 20, none, .ext (.t 15) 1⟩, ⟨some 10, none, .mov (.t 19)⟩, ⟨some 11, none, .mov (.t 20)⟩]
def p12_2 : K := .reg [⟨some 21, none, .mov (.t 11)⟩, ⟨some 22, none, .bin .neq .none (.t 21) (.k (.i 0))⟩]
def p12_3 : K := .reg [⟨some 23, none, .mov (.t 11)⟩, ⟨some 8, none, .mov (.k .nilsl)⟩, ⟨some 9, none, .mov (.t 23)⟩]
def p12_4 : K := .seq p12_3 .ret
def p12_5 : K := .cond (.t 22) p12_4 .skip
def p12_6 : K := .seq p12_2 p12_5
def p12_7 : K := .reg [⟨some 24, none, .mov (.t 10)⟩, ⟨some 25, none, .mov (.t 2)⟩, ⟨some 26, none, .mov (.t 3)⟩, ⟨some 27, none, .call 34 [.t 24, .t 25, .t 26]⟩, ⟨some 28, none, .un .not (.t 27)⟩]
def p12_8 : K := .reg [⟨some 8, none, .mov (.k .nilsl)⟩, ⟨some 9, none, .mov (.k (.i 20))⟩]
def p12_9 : K := .seq p12_8 .ret
def p12_10 : K := .cond (.t 28) p12_9 .skip
def p12_11 : K := .seq p12_7 p12_10
def p12_12 : K := .reg [⟨some 12, none, .mov (.k .nilsl)⟩]
def p12_13 : K := .reg [⟨some 29, none, .mov (.t 2)⟩, ⟨some 13, none, .mov (.t 29)⟩]
def p12_14 : K := .reg [⟨some 30, none, .mov (.t 13)⟩, ⟨some 31, none, .mov (.t 2)⟩, ⟨some 32, none, .mov (.t 3)⟩, ⟨some 33, none, .bin .add .none (.t 31) (.t 32)⟩, ⟨some 34, none, .bin .lss .none (.t 30) (.t 33)⟩]
def p12_15 : K := .cond (.t 34) .skip (.exit 0)
def p12_16 : K := .seq p12_14 p12_15
def p12_17 : K := .reg [⟨some 37, none, .mov (.t 10)⟩, ⟨some 38, none, .nilc (.t 37)⟩, ⟨some 39, none, .fad 4 (.t 38)⟩, ⟨some 40, none, .ld1 (.t 39)⟩, ⟨some 41, none, .mov (.t 13)⟩, ⟨some 42, none, .bin .quo .none (.t 41) (.k (.i 256))⟩, ⟨some 43, none, .lkp (.int .i64) false .nil (.t 40) (.t 42)⟩, ⟨some 14, none, .mov (.t 43)⟩]
def p12_18 : K := .reg [⟨some 44, none, .mov (.t 14)⟩, ⟨some 45, none, .bin .eql .ptr (.t 44) (.k .nil)⟩, ⟨some 46, none, .mov (.t 45)⟩, ⟨some 47, some (46, false), .mov (.t 14)⟩, ⟨some 48, some (46, false), .mov (.t 13)⟩, ⟨some 49, some (46, false), .bin .rem .none (.t 48) (.k (.i 256))⟩, ⟨some 50, some (46, false), .nilc (.t 47)⟩, ⟨some 51, some (46, false), .fad 256 (.t 50)⟩, ⟨some 52, some (46, false), .ixp 1 256 (.t 51) (.t 49)⟩, ⟨some 53, some (46, false), .ld1 (.t 52)⟩, ⟨some 54, some (46, false), .un .not (.t 53)⟩, ⟨some 55, none, .pick (.t 46) (.k (.bool true)) (.t 54)⟩]
def p12_19 : K := .reg [⟨some 8, none, .mov (.k .nilsl)⟩, ⟨some 9, none, .mov (.k (.i 24))⟩]
def p12_20 : K := .seq p12_19 .ret
def p12_21 : K := .cond (.t 55) p12_20 .skip
def p12_22 : K := .seq p12_18 p12_21
def p12_23 : K := .reg [⟨some 56, none, .mov (.t 12)⟩, ⟨some 57, none, .mov (.t 14)⟩, ⟨some 58, none, .mov (.t 13)⟩, ⟨some 59, none, .bin .rem .none (.t 58) (.k (.i 256))⟩, ⟨some 60, none, .nilc (.t 57)⟩, ⟨some 61, none, .fad 0 (.t 60)⟩, ⟨some 62, none, .ixp 1 256 (.t 61) (.t 59)⟩, ⟨some 63, none, .ld1 (.t 62)⟩, ⟨some 64, none, .mksl 5 1 1 [.int .u8 0] [(0, 1, .t 63)]⟩, ⟨some 65, none, .app 5 1 1 [.int .u8 0] (.t 56) (.t 64)⟩, ⟨some 12, none, .mov (.t 65)⟩]
def p12_24 : K := .seq p12_22 p12_23
def p12_25 : K := .seq p12_17 p12_24
def p12_26 : K := .block 1 p12_25
def p12_27 : K := .reg [⟨some 35, none, .mov (.t 13)⟩, ⟨some 36, none, .bin .add .none (.t 35) (.k (.i 1))⟩, ⟨some 13, none, .mov (.t 36)⟩]
def p12_28 : K := .seq p12_26 p12_27
def p12_29 : K := .seq p12_16 p12_28
def p12_30 : K := .loop p12_29
def p12_31 : K := .block 0 p12_30
def p12_32 : K := .seq p12_13 p12_31
def p12_33 : K := .reg [⟨some 66, none, .mov (.t 12)⟩, ⟨some 8, none, .mov (.t 66)⟩, ⟨some 9, none, .mov (.k (.i 0))⟩]
def p12_34 : K := .seq p12_33 .ret
def p12_35 : K := .seq p12_32 p12_34
def p12_36 : K := .seq p12_12 p12_35
def p12_37 : K := .seq p12_11 p12_36
def p12_38 : K := .seq p12_6 p12_37
def p12_39 : K := .seq p12_1 p12_38
def p12_40 : K := .seq p12_0 p12_39
def cf12 : CF := { nt := 67, body := p12_40, res := [.tmp 8, .tmp 9] }
theorem ok12 : comp Try.prog modeF Try.f12 = some cf12 := by kernel_rfl
def p13_0 : K := .reg [⟨some 4, none, .mov (.k (.i 0))⟩]
def p13_1 : K := .reg [⟨some 8, none, .mov (.t 0)⟩, ⟨some 9, none, .mov (.t 1)⟩, ⟨some 10, none, .call 33 [.t 8, .t 9]⟩, ⟨some 7, none, .mov (.t 10)⟩, ⟨some 11, none, .ext (.t 7) 0⟩, ⟨some 12, none, .ext (.t 7) 1⟩, ⟨some 5, none, .mov (.t 11)⟩, ⟨some 6, none, .mov (.t 12)⟩]
def p13_2 : K := .reg [⟨some 13, none, .mov (.t 6)⟩, ⟨some 14, none, .bin .eql .none (.t 13) (.k (.i 0))⟩]
def p13_3 : K := .reg [⟨some 15, none, .mov (.t 5)⟩, ⟨some 16, none, .nilc (.t 15)⟩, ⟨some 17, none, .fad 3 (.t 16)⟩, ⟨some 18, none, .ld1 (.t 17)⟩, ⟨some 19, none, .bin .add .none (.t 18) (.k (.i 1))⟩, ⟨some 20, none, .nilc (.t 15)⟩, ⟨some 21, none, .fad 3 (.t 20)⟩, ⟨none, none, .st 1 (.t 21) (.t 19)⟩]
def p13_4 : K := .cond (.t 14) p13_3 .skip
def p13_5 : K := .seq p13_2 p13_4
def p13_6 : K := .reg [⟨some 22, none, .mov (.t 6)⟩, ⟨some 4, none, .mov (.t 22)⟩]
def p13_7 : K := .seq p13_6 .ret
def p13_8 : K := .seq p13_5 p13_7
def p13_9 : K := .seq p13_1 p13_8
def p13_10 : K := .seq p13_0 p13_9
def cf13 : CF := { nt := 23, body := p13_10, res := [.tmp 4] }
theorem ok13 : comp Try.prog modeF Try.f13 = some cf13 := by kernel_rfl
def p14_0 : K := .reg [⟨some 4, none, .mov (.k (.i 0))⟩]
def p14_1 : K := .reg [⟨some 8, none, .mov (.t 0)⟩, ⟨some 9, none, .mov (.t 1)⟩, ⟨some 10, none, .call 33 [.t 8, .t 9]⟩, ⟨some 7, none, .mov (.t 10)⟩, ⟨some 11, none, .ext (.t 7) 0⟩, ⟨some 12, none, .ext (.t 7) 1⟩, ⟨some 5, none, .mov (.t 11)⟩, ⟨some 6, none, .mov (.t 12)⟩]
def p14_2 : K := .reg [⟨some 13, none, .mov (.t 6)⟩, ⟨some 14, none, .bin .neq .none (.t 13) (.k (.i 0))⟩]
def p14_3 : K := .reg [⟨some 15, none, .mov (.t 6)⟩, ⟨some 4, none, .mov (.t 15)⟩]
def p14_4 : K := .seq p14_3 .ret
def p14_5 : K := .cond (.t 14) p14_4 .skip
def p14_6 : K := .seq p14_2 p14_5
def p14_7 : K := .reg [⟨some 16, none, .mov (.t 5)⟩, ⟨some 17, none, .nilc (.t 16)⟩, ⟨some 18, none, .fad 3 (.t 17)⟩, ⟨some 19, none, .ld1 (.t 18)⟩, ⟨some 20, none, .bin .gtr .none (.t 19) (.k (.i 0))⟩]
def p14_8 : K := .reg [⟨some 4, none, .mov (.k (.i 20))⟩]
def p14_9 : K := .seq p14_8 .ret
def p14_10 : K := .cond (.t 20) p14_9 .skip
def p14_11 : K := .seq p14_7 p14_10
def p14_12 : K := .reg [⟨some 21, none, .mov (.t 5)⟩, ⟨some 22, none, .mov (.t 5)⟩, ⟨some 23, none, .nilc (.t 21)⟩, ⟨some 24, none, .fad 0 (.t 23)⟩, ⟨none, none, .st 1 (.t 24) (.k (.bool false))⟩, ⟨some 25, none, .nilc (.t 22)⟩, ⟨some 26, none, .fad 4 (.t 25)⟩, ⟨none, none, .st 1 (.t 26) (.k (.d (.v (.map none))))⟩]
def p14_13 : K := .reg [⟨some 27, none, .mov (.t 0)⟩, ⟨some 28, none, .nilc (.t 27)⟩, ⟨some 29, none, .fad 1 (.t 28)⟩, ⟨some 30, none, .ld1 (.t 29)⟩, ⟨some 31, none, .bin .sub .none (.t 30) (.k (.i 1))⟩, ⟨some 32, none, .nilc (.t 27)⟩, ⟨some 33, none, .fad 1 (.t 32)⟩, ⟨none, none, .st 1 (.t 33) (.t 31)⟩]
def p14_14 : K := .reg [⟨some 4, none, .mov (.k (.i 0))⟩]
def p14_15 : K := .seq p14_14 .ret
def p14_16 : K := .seq p14_13 p14_15
def p14_17 : K := .seq p14_12 p14_16
def p14_18 : K := .seq p14_11 p14_17
def p14_19 : K := .seq p14_6 p14_18
def p14_20 : K := .seq p14_1 p14_19
def p14_21 : K := .seq p14_0 p14_20
def cf14 : CF := { nt := 34, body := p14_21, res := [.tmp 4] }
theorem ok14 : comp Try.prog modeF Try.f14 = some cf14 := by kernel_rfl
def p15_0 : K := .reg [⟨some 4, none, .mov (.k (.i 0))⟩, ⟨some 5, none, .mov (.k (.i 0))⟩]
def p15_1 : K := .reg [⟨some 9, none, .mov (.t 0)⟩, ⟨some 10, none, .mov (.t 1)⟩, ⟨some 11, none, .call 33 [.t 9, .t 10]⟩, ⟨some 8, none, .mov (.t 11)⟩, ⟨some 12, none, .ext (.t 8) 0⟩, ⟨some 13, none, .ext (.t 8) 1⟩, ⟨some 6, none, .mov (.t 12)⟩, ⟨some 7, none, .mov (.t 13)⟩]
def p15_2 : K := .reg [⟨some 14, none, .mov (.t 7)⟩, ⟨some 15, none, .bin .neq .none (.t 14) (.k (.i 0))⟩]
def p15_3 : K := .reg [⟨some 16, none, .mov (.t 7)⟩, ⟨some 4, none, .mov (.k (.i 0))⟩, ⟨some 5, none, .mov (.t 16)⟩]
def p15_4 : K := .seq p15_3 .ret
def p15_5 : K := .cond (.t 15) p15_4 .skip
def p15_6 : K := .seq p15_2 p15_5
def p15_7 : K := .reg [⟨some 17, none, .mov (.t 6)⟩, ⟨some 18, none, .nilc (.t 17)⟩, ⟨some 19, none, .fad 3 (.t 18)⟩, ⟨some 20, none, .ld1 (.t 19)⟩, ⟨some 21, none, .bin .eql .none (.t 20) (.k (.i 0))⟩]
def p15_8 : K := .reg [⟨some 4, none, .mov (.k (.i 0))⟩, ⟨some 5, none, .mov (.k (.i 20))⟩]
def p15_9 : K := .seq p15_8 .ret
def p15_10 : K := .cond (.t 21) p15_9 .skip
def p15_11 : K := .seq p15_7 p15_10
def p15_12 : K := .reg [⟨some 22, none, .mov (.t 6)⟩, ⟨some 23, none, .nilc (.t 22)⟩, ⟨some 24, none, .fad 3 (.t 23)⟩, ⟨some 25, none, .ld1 (.t 24)⟩, ⟨some 26, none, .bin .sub .none (.t 25) (.k (.i 1))⟩, ⟨some 27, none, .nilc (.t 22)⟩, ⟨some 28, none, .fad 3 (.t 27)⟩, ⟨none, none, .st 1 (.t 28) (.t 26)⟩]
def p15_13 : K := .reg [⟨some 29, none, .mov (.t 6)⟩, ⟨some 30, none, .nilc (.t 29)⟩, ⟨some 31, none, .fad 3 (.t 30)⟩, ⟨some 32, none, .ld1 (.t 31)⟩, ⟨some 4, none, .mov (.t 32)⟩, ⟨some 5, none, .mov (.k (.i 0))⟩]
def p15_14 : K := .seq p15_13 .ret
def p15_15 : K := .seq p15_12 p15_14
def p15_16 : K := .seq p15_11 p15_15
def p15_17 : K := .seq p15_6 p15_16
def p15_18 : K := .seq p15_1 p15_17
def p15_19 : K := .seq p15_0 p15_18
def cf15 : CF := { nt := 33, body := p15_19, res := [.tmp 4, .tmp 5] }
theorem ok15 : comp Try.prog modeF Try.f15 = some cf15 := by kernel_rfl
def p16_0 : K := .reg [⟨some 2, none, .mov (.k (.i 0))⟩]
def p16_1 : K := .reg [⟨some 3, none, .mov (.t 0)⟩, ⟨some 4, none, .nilc (.t 3)⟩, ⟨some 5, none, .fad 1 (.t 4)⟩, ⟨some 6, none, .ld1 (.t 5)⟩, ⟨some 2, none, .mov (.t 6)⟩]
def p16_2 : K := .seq p16_1 .ret
def p16_3 : K := .seq p16_0 p16_2
def cf16 : CF := { nt := 7, body := p16_3, res := [.tmp 2] }
theorem ok16 : comp Try.prog modeF Try.f16 = some cf16 := by kernel_rfl
def p17_0 : K := .reg [⟨some 4, none, .mov (.k (.i 0))⟩, ⟨some 5, none, .mov (.k (.i 0))⟩, ⟨some 6, none, .mov (.k (.i 0))⟩]
def p17_1 : K := .reg [⟨some 10, none, .mov (.t 0)⟩, ⟨some 11, none, .mov (.t 1)⟩, ⟨some 12, none, .call 33 [.t 10, .t 11]⟩, ⟨some 9, none, .mov (.t 12)⟩, ⟨some 13, none, .ext (.t 9) 0⟩, ⟨some 14, none, .ext (.t 9) 1⟩, ⟨some 7, none, .mov (.t 13)⟩, ⟨some 8, none, .mov (.t 14)⟩]
def p17_2 : K := .reg [⟨some 15, none, .mov (.t 8)⟩, ⟨some 16, none, .bin .neq .none (.t 15) (.k (.i 0))⟩]
def p17_3 : K := .reg [⟨some 17, none, .mov (.t 8)⟩, ⟨some 4, none, .mov (.k (.i 0))⟩, ⟨some 5, none, .mov (.k (.i 0))⟩, ⟨some 6, none, .mov (.t 17)⟩]
def p17_4 : K := .seq p17_3 .ret
def p17_5 : K := .cond (.t 16) p17_4 .skip
def p17_6 : K := .seq p17_2 p17_5
def p17_7 : K := .drg [⟨some 18, none, .mov (.t 7)⟩, ⟨some 19, none, .nilc (.t 18)⟩, ⟨some 20, none, .fad 1 (.t 19)⟩, ⟨some 21, none, .ld1 (.t 20)⟩, ⟨some 22, none, .mov (.t 7)⟩, ⟨some 23, none, .nilc (.t 22)⟩, ⟨some 24, none, .fad 2 (.t 23)⟩, ⟨some 25, none, .ld1 (.t 24)⟩, ⟨some 4, none, .mov (.t 21)⟩, ⟨some 5, none, .mov (.t 25)⟩, ⟨some 6, none, .mov (.k (.i 0))⟩]
def p17_8 : K := .seq p17_7 .ret
def p17_9 : K := .seq p17_6 p17_8
def p17_10 : K := .seq p17_1 p17_9
def p17_11 : K := .seq p17_0 p17_10
def cf17 : CF := { nt := 26, body := p17_11, res := [.tmp 4, .tmp 5, .tmp 6] }
theorem ok17 : comp Try.prog modeF Try.f17 = some cf17 := by kernel_rfl
def p18_0 : K := .reg [⟨some 2, none, .mov (.k (.bool false))⟩]
def p18_1 : K := .reg [⟨some 5, none, .mov (.t 0)⟩, ⟨some 6, none, .len (.t 5)⟩, ⟨some 7, none, .bin .gtr .none (.t 6) (.k (.i 80))⟩]
def p18_2 : K := .reg [⟨some 2, none, .mov (.k (.bool false))⟩]
def p18_3 : K := .seq p18_2 .ret
def p18_4 : K := .cond (.t 7) p18_3 .skip
def p18_5 : K := .seq p18_1 p18_4
def p18_6 : K := .reg [⟨some 8, none, .mov (.t 0)⟩, ⟨some 9, none, .len (.t 8)⟩, ⟨some 10, none, .mov (.k (.i 0))⟩]
def p18_7 : K := .reg [⟨some 11, none, .bin .lss .none (.t 10) (.t 9)⟩]
def p18_8 : K := .cond (.t 11) .skip (.exit 0)
def p18_9 : K := .reg [⟨some 12, none, .ixs 5 (.t 8) (.t 10)⟩, ⟨some 13, none, .ldn 5 (.t 12)⟩, ⟨some 4, none, .new 49 [.i 0, .i 0, .i 0, .i 0, .nilsl]⟩, ⟨none, none, .st 5 (.t 4) (.t 13)⟩]
def p18_10 : K := .reg [⟨some 14, none, .fad 4 (.t 4)⟩, ⟨some 15, none, .ld1 (.t 14)⟩, ⟨some 16, none, .len (.t 15)⟩, ⟨some 17, none, .bin .gtr .none (.t 16) (.k (.i 100))⟩]
def p18_11 : K := .reg [⟨some 2, none, .mov (.k (.bool false))⟩]
def p18_12 : K := .seq p18_11 .ret
def p18_13 : K := .cond (.t 17) p18_12 .skip
def p18_14 : K := .seq p18_10 p18_13
def p18_15 : K := .seq p18_9 p18_14
def p18_16 : K := .block 1 p18_15
def p18_17 : K := .reg [⟨some 18, none, .bin .add .none (.t 10) (.k (.i 1))⟩, ⟨some 10, none, .mov (.t 18)⟩]
def p18_18 : K := .seq p18_16 p18_17
def p18_19 : K := .seq p18_8 p18_18
def p18_20 : K := .seq p18_7 p18_19
def p18_21 : K := .loop p18_20
def p18_22 : K := .block 0 p18_21
def p18_23 : K := .seq p18_6 p18_22
def p18_24 : K := .reg [⟨some 2, none, .mov (.k (.bool true))⟩]
def p18_25 : K := .seq p18_24 .ret
def p18_26 : K := .seq p18_23 p18_25
def p18_27 : K := .seq p18_5 p18_26
def p18_28 : K := .seq p18_0 p18_27
def cf18 : CF := { nt := 19, body := p18_28, res := [.tmp 2] }
theorem ok18 : comp Try.prog modeF Try.f18 = some cf18 := by kernel_rfl
def p19_0 : K := .reg [⟨some 0, none, .mov (.k .nil)⟩]
def p19_1 : K := .reg [⟨some 1, none, .mk [.nilsl] []⟩, ⟨some 2, none, .box 69 (.t 1)⟩, ⟨some 0, none, .mov (.t 2)⟩]
def p19_2 : K := .seq p19_1 .ret
def p19_3 : K := .seq p19_0 p19_2
def cf19 : CF := { nt := 3, body := p19_3, res := [.tmp 0] }
theorem ok19 : comp Try.prog modeF Try.f19 = some cf19 := by kernel_rfl
def p20_0 : K := .reg [⟨some 1, none, .box 49 (.t 0)⟩, ⟨some 2, none, .mov (.k (.int .u64 0))⟩]
def p20_1 : K := .reg [⟨some 4, none, .fad 1 (.t 1)⟩, ⟨some 5, none, .ld1 (.t 4)⟩, ⟨some 6, none, .bin .rem .none (.t 5) (.k (.i 9))⟩, ⟨some 7, none, .bin .eql .none (.t 6) (.k (.i 8))⟩]
def p20_2 : K := .reg [⟨some 8, none, .fad 1 (.t 1)⟩, ⟨some 9, none, .ld1 (.t 8)⟩, ⟨some 10, none, .cvi .u64 (.t 9)⟩, ⟨some 2, none, .mov (.t 10)⟩]
def p20_3 : K := .seq p20_2 .ret
def p20_4 : K := .cond (.t 7) p20_3 .skip
def p20_5 : K := .seq p20_1 p20_4
def p20_6 : K := .reg [⟨some 11, none, .fad 1 (.t 1)⟩, ⟨some 12, none, .ld1 (.t 11)⟩, ⟨some 13, none, .bin .rem .none (.t 12) (.k (.i 6))⟩, ⟨some 3, none, .mov (.t 13)⟩]
def p20_7 : K := .reg [⟨some 14, none, .mov (.t 3)⟩, ⟨some 15, none, .bin .lss .none (.t 14) (.k (.i 0))⟩]
def p20_8 : K := .reg [⟨some 16, none, .mov (.t 3)⟩, ⟨some 17, none, .bin .add .none (.t 16) (.k (.i 6))⟩, ⟨some 3, none, .mov (.t 17)⟩]
def p20_9 : K := .cond (.t 15) p20_8 .skip
def p20_10 : K := .seq p20_7 p20_9
def p20_11 : K := .reg [⟨some 18, none, .mov (.t 3)⟩, ⟨some 19, none, .bin .add .none (.t 18) (.k (.i 1))⟩, ⟨some 20, none, .bin .mul .none (.k (.i 8)) (.t 19)⟩, ⟨some 21, none, .cvi .u64 (.t 20)⟩, ⟨some 2, none, .mov (.t 21)⟩]
def p20_12 : K := .seq p20_11 .ret
def p20_13 : K := .seq p20_10 p20_12
def p20_14 : K := .seq p20_6 p20_13
def p20_15 : K := .seq p20_5 p20_14
def p20_16 : K := .seq p20_0 p20_15
def cf20 : CF := { nt := 22, body := p20_16, res := [.tmp 2] }
theorem ok20 : comp Try.prog modeF Try.f20 = some cf20 := by kernel_rfl
def p21_0 : K := .reg [⟨some 2, none, .mov (.k (.i 0))⟩]
def p21_1 : K := .reg [⟨some 3, none, .mov (.t 0)⟩, ⟨some 4, none, .bin .rem .none (.t 3) (.k (.i 7))⟩, ⟨some 5, none, .bin .eql .none (.t 4) (.k (.i 6))⟩]
def p21_2 : K := .reg [⟨some 6, none, .mov (.t 0)⟩, ⟨some 2, none, .mov (.t 6)⟩]
def p21_3 : K := .seq p21_2 .ret
def p21_4 : K := .cond (.t 5) p21_3 .skip
def p21_5 : K := .seq p21_1 p21_4
def p21_6 : K := .reg [⟨some 7, none, .mov (.t 0)⟩, ⟨some 8, none, .bin .rem .none (.t 7) (.k (.i 20))⟩, ⟨some 9, none, .mov (.t 0)⟩, ⟨some 10, none, .bin .rem .none (.t 9) (.k (.i 2))⟩, ⟨some 11, none, .bin .add .none (.t 8) (.t 10)⟩, ⟨some 2, none, .mov (.t 11)⟩]
def p21_7 : K := .seq p21_6 .ret
def p21_8 : K := .seq p21_5 p21_7
def p21_9 : K := .seq p21_0 p21_8
def cf21 : CF := { nt := 12, body := p21_9, res := [.tmp 2] }
theorem ok21 : comp Try.prog modeF Try.f21 = some cf21 := by kernel_rfl
def p22_0 : K := .reg [⟨some 8, none, .mov (.k (.i 0))⟩]
def p22_1 : K := .reg [⟨some 12, none, .mov (.t 0)⟩, ⟨some 13, none, .mov (.t 1)⟩, ⟨some 14, none, .call 35 [.t 12, .t 13]⟩, ⟨some 9, none, .mov (.t 14)⟩]
def p22_2 : K := .reg [⟨some 15, none, .mov (.t 9)⟩, ⟨some 16, none, .bin .lss .none (.t 15) (.k (.i 0))⟩]
def p22_3 : K := .reg [⟨some 8, none, .mov (.k (.i 23))⟩]
def p22_4 : K := .seq p22_3 .ret
def p22_5 : K := .cond (.t 16) p22_4 .skip
def p22_6 : K := .seq p22_2 p22_5
def p22_7 : K := .reg [⟨some 17, none, .mov (.t 2)⟩, ⟨some 18, none, .bin .lss .none (.t 17) (.k (.i 0))⟩, ⟨some 19, none, .mov (.t 18)⟩, ⟨some 20, some (19, false), .mov (.t 2)⟩, ⟨some 21, some (19, false), .mov (.t 0)⟩, ⟨some 22, some (19, false), .nilc (.t 21)⟩, ⟨some 23, some (19, false), .fad 0 (.t 22)⟩, ⟨some 24, some (19, false), .ld1 (.t 23)⟩, ⟨some 25, some (19, false), .mov (.t 9)⟩, ⟨some 26, some (19, false), .ixs 5 (.t 24) (.t 25)⟩, ⟨some 27, some (19, false), .fad 3 (.t 26)⟩, ⟨some 28, some (19, false), .ld1 (.t 27)⟩, ⟨some 29, some (19, false), .len (.t 28)⟩, ⟨some 30, some (19, false), .bin .gtr .none (.t 20) (.t 29)⟩, ⟨some 31, none, .pick (.t 19) (.k (.bool true)) (.t 30)⟩, ⟨some 32, none, .mov (.t 31)⟩, ⟨some 33, some (32, false), .mov (.t 3)⟩, ⟨some 34, some (32, false), .len (.t 33)⟩, ⟨some 35, some (32, false), .mov (.t 0)⟩, ⟨some 36, some (32, false), .nilc (.t 35)⟩, ⟨some 37, some (32, false), .fad 0 (.t 36)⟩, ⟨some 38, some (32, false), .ld1 (.t 37)⟩, ⟨some 39, some (32, false), .mov (.t 9)⟩, ⟨some 40, some (32, false), .ixs 5 (.t 38) (.t 39)⟩, ⟨some 41, some (32, false), .fad 3 (.t 40)⟩, ⟨some 42, some (32, false), .ld1 (.t 41)⟩, ⟨some 43, some (32, false), .len (.t 42)⟩, ⟨some 44, some (32, false), .mov (.t 2)⟩, ⟨some 45, some (32, false), .bin .sub .none (.t 43) (.t 44)⟩, ⟨some 46, some (32, false), .bin .gtr .none (.t 34) (.t 45)⟩, ⟨some 47, none, .pick (.t 32) (.k (.bool true)) (.t 46)⟩]
def p22_8 : K := .reg [⟨some 8, none, .mov (.k (.i 20))⟩]
def p22_9 : K := .seq p22_8 .ret
def p22_10 : K := .cond (.t 47) p22_9 .skip
def p22_11 : K := .seq p22_7 p22_10
def p22_12 : K := .reg [⟨some 48, none, .mov (.t 3)⟩, ⟨some 49, none, .len (.t 48)⟩, ⟨some 50, none, .mov (.k (.i 0))⟩]
def p22_13 : K := .reg [⟨some 51, none, .bin .lss .none (.t 50) (.t 49)⟩]
def p22_14 : K := .cond (.t 51) .skip (.exit 0)
def p22_15 : K := .reg [⟨some 52, none, .mov (.t 50)⟩, ⟨some 53, none, .ixs 1 (.t 48) (.t 50)⟩, ⟨some 54, none, .ld1 (.t 53)⟩, ⟨some 10, none, .mov (.t 52)⟩, ⟨some 11, none, .mov (.t 54)⟩]
def p22_16 : K := .drg [⟨some 55, none, .mov (.t 0)⟩, ⟨some 56, none, .nilc (.t 55)⟩, ⟨some 57, none, .fad 0 (.t 56)⟩, ⟨some 58, none, .ld1 (.t 57)⟩, ⟨some 59, none, .mov (.t 9)⟩, ⟨some 60, none, .ixs 5 (.t 58) (.t 59)⟩, ⟨some 61, none, .fad 3 (.t 60)⟩, ⟨some 62, none, .ld1 (.t 61)⟩, ⟨some 63, none, .mov (.t 2)⟩, ⟨some 64, none, .mov (.t 10)⟩, ⟨some 65, none, .bin .add .none (.t 63) (.t 64)⟩, ⟨some 66, none, .mov (.t 0)⟩, ⟨some 67, none, .nilc (.t 66)⟩, ⟨some 68, none, .fad 0 (.t 67)⟩, ⟨some 69, none, .ld1 (.t 68)⟩, ⟨some 70, none, .mov (.t 9)⟩, ⟨some 71, none, .ixs 5 (.t 69) (.t 70)⟩, ⟨some 72, none, .fad 4 (.t 71)⟩, ⟨some 73, none, .ld1 (.t 72)⟩, ⟨some 74, none, .mov (.t 2)⟩, ⟨some 75, none, .mov (.t 10)⟩, ⟨some 76, none, .bin .add .none (.t 74) (.t 75)⟩, ⟨some 77, none, .mov (.t 11)⟩, ⟨some 78, none, .ixs 1 (.t 62) (.t 65)⟩, ⟨none, none, .st 1 (.t 78) (.t 77)⟩, ⟨some 79, none, .ixs 1 (.t 73) (.t 76)⟩, ⟨none, none, .st 1 (.t 79) (.k (.bool true))⟩]
def p22_17 : K := .seq p22_15 p22_16
def p22_18 : K := .block 1 p22_17
def p22_19 : K := .reg [⟨some 80, none, .bin .add .none (.t 50) (.k (.i 1))⟩, ⟨some 50, none, .mov (.t 80)⟩]
def p22_20 : K := .seq p22_18 p22_19
def p22_21 : K := .seq p22_14 p22_20
def p22_22 : K := .seq p22_13 p22_21
def p22_23 : K := .loop p22_22
def p22_24 : K := .block 0 p22_23
def p22_25 : K := .seq p22_12 p22_24
def p22_26 : K := .reg [⟨some 8, none, .mov (.k (.i 0))⟩]
def p22_27 : K := .seq p22_26 .ret
def p22_28 : K := .seq p22_25 p22_27
def p22_29 : K := .seq p22_11 p22_28
def p22_30 : K := .seq p22_6 p22_29
def p22_31 : K := .seq p22_1 p22_30
def p22_32 : K := .seq p22_0 p22_31
def cf22 : CF := { nt := 81, body := p22_32, res := [.tmp 8] }
theorem ok22 : comp Try.prog modeF Try.f22 = some cf22 := by kernel_rfl
def p23_0 : K := .reg [⟨some 8, none, .mov (.k .nilsl)⟩, ⟨some 9, none, .mov (.k (.i 0))⟩]
def p23_1 : K := .reg [⟨some 12, none, .mov (.t 0)⟩, ⟨some 13, none, .mov (.t 1)⟩, ⟨some 14, none, .call 35 [.t 12, .t 13]⟩, ⟨some 10, none, .mov (.t 14)⟩]
def p23_2 : K := .reg [⟨some 15, none, .mov (.t 10)⟩, ⟨some 16, none, .bin .lss .none (.t 15) (.k (.i 0))⟩]
def p23_3 : K := .reg [⟨some 8, none, .mov (.k .nilsl)⟩, ⟨some 9, none, .mov (.k (.i 23))⟩]
def p23_4 : K := .seq p23_3 .ret
def p23_5 : K := .cond (.t 16) p23_4 .skip
def p23_6 : K := .seq p23_2 p23_5
def p23_7 : K := .reg [⟨some 17, none, .mov (.t 2)⟩, ⟨some 18, none, .bin .lss .none (.t 17) (.k (.i 0))⟩, ⟨some 19, none, .mov (.t 18)⟩, ⟨some 20, some (19, false), .mov (.t 3)⟩, ⟨some 21, some (19, false), .bin .lss .none (.t 20) (.k (.i 0))⟩, ⟨some 22, none, .pick (.t 19) (.k (.bool true)) (.t 21)⟩, ⟨some 23, none, .mov (.t 22)⟩, ⟨some 24, some (23, false), .mov (.t 2)⟩, ⟨some 25, some (23, false), .mov (.t 0)⟩, ⟨some 26, some (23, false), .nilc (.t 25)⟩, ⟨some 27, some (23, false), .fad 0 (.t 26)⟩, ⟨some 28, some (23, false), .ld1 (.t 27)⟩, ⟨some 29, some (23, false), .mov (.t 10)⟩, ⟨some 30, some (23, false), .ixs 5 (.t 28) (.t 29)⟩, ⟨some 31, some (23, false), .fad 3 (.t 30)⟩, ⟨some 32, some (23, false), .ld1 (.t 31)⟩, ⟨some 33, some (23, false), .len (.t 32)⟩, ⟨some 34, some (23, false), .bin .gtr .none (.t 24) (.t 33)⟩, ⟨some 35, none, .pick (.t 23) (.k (.bool true)) (.t 34)⟩, ⟨some 36, none, .mov (.t 35)⟩, ⟨some 37, some (36, false), .mov (.t 3)⟩, ⟨some 38, some (36, false), .mov (.t 0)⟩, ⟨some 39, some (36, false), .nilc (.t 38)⟩, ⟨some 40, some (36, false), .fad 0 (.t 39)⟩, ⟨some 41, some (36, false), .ld1 (.t 40)⟩, ⟨some 42, some (36, false), .mov (.t 10)⟩, ⟨some 43, some (36, false), .ixs 5 (.t 41) (.t 42)⟩, ⟨some 44, some (36, false), .fad 3 (.t 43)⟩, ⟨some 45, some (36, false), .ld1 (.t 44)⟩, ⟨some 46, some (36, false), .len (.t 45)⟩, ⟨some 47, some (36, false), .mov (.t 2)⟩, ⟨some 48, some (36, false), .bin .sub .none (.t 46) (.t 47)⟩, ⟨some 49, some (36, false), .bin .gtr .none (.t 37) (.t 48)⟩, ⟨some 50, none, .pick (.t 36) (.k (.bool true)) (.t 49)⟩]
def p23_8 : K := .reg [⟨some 8, none, .mov (.k .nilsl)⟩, ⟨some 9, none, .mov (.k (.i 20))⟩]
def p23_9 : K := .seq p23_8 .ret
def p23_10 : K := .cond (.t 50) p23_9 .skip
def p23_11 : K := .seq p23_7 p23_10
def p23_12 : K := .reg [⟨some 51, none, .mov (.t 2)⟩, ⟨some 11, none, .mov (.t 51)⟩]
def p23_13 : K := .reg [⟨some 52, none, .mov (.t 11)⟩, ⟨some 53, none, .mov (.t 2)⟩, ⟨some 54, none, .mov (.t 3)⟩, ⟨some 55, none, .bin .add .none (.t 53) (.t 54)⟩, ⟨some 56, none, .bin .lss .none (.t 52) (.t 55)⟩]
def p23_14 : K := .cond (.t 56) .skip (.exit 0)
def p23_15 : K := .seq p23_13 p23_14
def p23_16 : K := .reg [⟨some 59, none, .mov (.t 0)⟩, ⟨some 60, none, .nilc (.t 59)⟩, ⟨some 61, none, .fad 0 (.t 60)⟩, ⟨some 62, none, .ld1 (.t 61)⟩, ⟨some 63, none, .mov (.t 10)⟩, ⟨some 64, none, .ixs 5 (.t 62) (.t 63)⟩, ⟨some 65, none, .fad 4 (.t 64)⟩, ⟨some 66, none, .ld1 (.t 65)⟩, ⟨some 67, none, .mov (.t 11)⟩, ⟨some 68, none, .ixs 1 (.t 66) (.t 67)⟩, ⟨some 69, none, .ld1 (.t 68)⟩, ⟨some 70, none, .un .not (.t 69)⟩]
def p23_17 : K := .reg [⟨some 8, none, .mov (.k .nilsl)⟩, ⟨some 9, none, .mov (.k (.i 24))⟩]
def p23_18 : K := .seq p23_17 .ret
def p23_19 : K := .cond (.t 70) p23_18 .skip
def p23_20 : K := .seq p23_16 p23_19
def p23_21 : K := .block 1 p23_20
def p23_22 : K := .reg [⟨some 57, none, .mov (.t 11)⟩, ⟨some 58, none, .bin .add .none (.t 57) (.k (.i 1))⟩, ⟨some 11, none, .mov (.t 58)⟩]
def p23_23 : K := .seq p23_21 p23_22
def p23_24 : K := .seq p23_15 p23_23
def p23_25 : K := .loop p23_24
def p23_26 : K := .block 0 p23_25
def p23_27 : K := .seq p23_12 p23_26
def p23_28 : K := .reg [⟨some 71, none, .mov (.t 0)⟩, ⟨some 72, none, .nilc (.t 71)⟩, ⟨some 73, none, .fad 0 (.t 72)⟩, ⟨some 74, none, .ld1 (.t 73)⟩, ⟨some 75, none, .mov (.t 10)⟩, ⟨some 76, none, .ixs 5 (.t 74) (.t 75)⟩, ⟨some 77, none, .fad 3 (.t 76)⟩, ⟨some 78, none, .ld1 (.t 77)⟩, ⟨some 79, none, .mov (.t 2)⟩, ⟨some 80, none, .mov (.t 2)⟩, ⟨some 81, none, .mov (.t 3)⟩, ⟨some 82, none, .bin .add .none (.t 80) (.t 81)⟩, ⟨some 83, none, .slsl 1 (.t 78) (some (.t 79)) (some (.t 82))⟩, ⟨some 84, none, .app 5 1 1 [.int .u8 0] (.k .nilsl) (.t 83)⟩, ⟨some 8, none, .mov (.t 84)⟩, ⟨some 9, none, .mov (.k (.i 0))⟩]
def p23_29 : K := .seq p23_28 .ret
def p23_30 : K := .seq p23_27 p23_29
def p23_31 : K := .seq p23_11 p23_30
def p23_32 : K := .seq p23_6 p23_31
def p23_33 : K := .seq p23_1 p23_32
def p23_34 : K := .seq p23_0 p23_33
def cf23 : CF := { nt := 85, body := p23_34, res := [.tmp 8, .tmp 9] }
theorem ok23 : comp Try.prog modeF Try.f23 = some cf23 := by kernel_rfl
def p24_0 : K := .reg [⟨some 4, none, .mov (.k (.i 0))⟩]
def p24_1 : K := .reg [⟨some 6, none, .mov (.t 0)⟩, ⟨some 7, none, .mov (.t 1)⟩, ⟨some 8, none, .call 35 [.t 6, .t 7]⟩, ⟨some 5, none, .mov (.t 8)⟩]
def p24_2 : K := .reg [⟨some 9, none, .mov (.t 5)⟩, ⟨some 10, none, .bin .lss .none (.t 9) (.k (.i 0))⟩]
def p24_3 : K := .reg [⟨some 4, none, .mov (.k (.i 23))⟩]
def p24_4 : K := .seq p24_3 .ret
def p24_5 : K := .cond (.t 10) p24_4 .skip
def p24_6 : K := .seq p24_2 p24_5
def p24_7 : K := .reg [⟨some 11, none, .mov (.t 0)⟩, ⟨some 12, none, .nilc (.t 11)⟩, ⟨some 13, none, .fad 0 (.t 12)⟩, ⟨some 14, none, .ld1 (.t 13)⟩, ⟨some 15, none, .mov (.t 5)⟩, ⟨some 16, none, .ixs 5 (.t 14) (.t 15)⟩, ⟨some 17, none, .fad 2 (.t 16)⟩, ⟨some 18, none, .ld1 (.t 17)⟩, ⟨some 19, none, .bin .add .none (.t 18) (.k (.i 1))⟩, ⟨some 20, none, .ixs 5 (.t 14) (.t 15)⟩, ⟨some 21, none, .fad 2 (.t 20)⟩, ⟨none, none, .st 1 (.t 21) (.t 19)⟩]
def p24_8 : K := .reg [⟨some 4, none, .mov (.k (.i 0))⟩]
def p24_9 : K := .seq p24_8 .ret
def p24_10 : K := .seq p24_7 p24_9
def p24_11 : K := .seq p24_6 p24_10
def p24_12 : K := .seq p24_1 p24_11
def p24_13 : K := .seq p24_0 p24_12
def cf24 : CF := { nt := 22, body := p24_13, res := [.tmp 4] }
theorem ok24 : comp Try.prog modeF Try.f24 = some cf24 := by kernel_rfl
def p25_0 : K := .reg [⟨some 4, none, .mov (.k (.i 0))⟩, ⟨some 5, none, .mov (.k (.i 0))⟩]
def p25_1 : K := .reg [⟨some 7, none, .mov (.t 0)⟩, ⟨some 8, none, .mov (.t 1)⟩, ⟨some 9, none, .call 35 [.t 7, .t 8]⟩, ⟨some 6, none, .mov (.t 9)⟩]
def p25_2 : K := .reg [⟨some 10, none, .mov (.t 6)⟩, ⟨some 11, none, .bin .lss .none (.t 10) (.k (.i 0))⟩]
def p25_3 : K := .reg [⟨some 4, none, .mov (.k (.i 0))⟩, ⟨some 5, none, .mov (.k (.i 23))⟩]
def p25_4 : K := .seq p25_3 .ret
def p25_5 : K := .cond (.t 11) p25_4 .skip
def p25_6 : K := .seq p25_2 p25_5
def p25_7 : K := .reg [⟨some 12, none, .mov (.t 0)⟩, ⟨some 13, none, .nilc (.t 12)⟩, ⟨some 14, none, .fad 0 (.t 13)⟩, ⟨some 15, none, .ld1 (.t 14)⟩, ⟨some 16, none, .mov (.t 6)⟩, ⟨some 17, none, .ixs 5 (.t 15) (.t 16)⟩, ⟨some 18, none, .fad 2 (.t 17)⟩, ⟨some 19, none, .ld1 (.t 18)⟩, ⟨some 20, none, .bin .eql .none (.t 19) (.k (.i 0))⟩]
def p25_8 : K := .reg [⟨some 4, none, .mov (.k (.i 0))⟩, ⟨some 5, none, .mov (.k (.i 20))⟩]
def p25_9 : K := .seq p25_8 .ret
def p25_10 : K := .cond (.t 20) p25_9 .skip
def p25_11 : K := .seq p25_7 p25_10
def p25_12 : K := .reg [⟨some 21, none, .mov (.t 0)⟩, ⟨some 22, none, .nilc (.t 21)⟩, ⟨some 23, none, .fad 0 (.t 22)⟩, ⟨some 24, none, .ld1 (.t 23)⟩, ⟨some 25, none, .mov (.t 6)⟩, ⟨some 26, none, .ixs 5 (.t 24) (.t 25)⟩, ⟨some 27, none, .fad 2 (.t 26)⟩, ⟨some 28, none, .ld1 (.t 27)⟩, ⟨some 29, none, .bin .sub .none (.t 28) (.k (.i 1))⟩, ⟨some 30, none, .ixs 5 (.t 24) (.t 25)⟩, ⟨some 31, none, .fad 2 (.t 30)⟩, ⟨none, none, .st 1 (.t 31) (.t 29)⟩]
def p25_13 : K := .reg [⟨some 32, none, .mov (.t 0)⟩, ⟨some 33, none, .nilc (.t 32)⟩, ⟨some 34, none, .fad 0 (.t 33)⟩, ⟨some 35, none, .ld1 (.t 34)⟩, ⟨some 36, none, .mov (.t 6)⟩, ⟨some 37, none, .ixs 5 (.t 35) (.t 36)⟩, ⟨some 38, none, .fad 2 (.t 37)⟩, ⟨some 39, none, .ld1 (.t 38)⟩, ⟨some 4, none, .mov (.t 39)⟩, ⟨some 5, none, .mov (.k (.i 0))⟩]
def p25_14 : K := .seq p25_13 .ret
def p25_15 : K := .seq p25_12 p25_14
def p25_16 : K := .seq p25_11 p25_15
def p25_17 : K := .seq p25_6 p25_16
def p25_18 : K := .seq p25_1 p25_17
def p25_19 : K := .seq p25_0 p25_18
def cf25 : CF := { nt := 40, body := p25_19, res := [.tmp 4, .tmp 5] }
theorem ok25 : comp Try.prog modeF Try.f25 = some cf25 := by kernel_rfl
def p26_0 : K := .reg [⟨some 4, none, .mov (.k (.i 0))⟩]
def p26_1 : K := .reg [⟨some 6, none, .mov (.t 0)⟩, ⟨some 7, none, .mov (.t 1)⟩, ⟨some 8, none, .call 35 [.t 6, .t 7]⟩, ⟨some 5, none, .mov (.t 8)⟩]
def p26_2 : K := .reg [⟨some 9, none, .mov (.t 5)⟩, ⟨some 10, none, .bin .lss .none (.t 9) (.k (.i 0))⟩]
def p26_3 : K := .reg [⟨some 4, none, .mov (.k (.i 23))⟩]
def p26_4 : K := .seq p26_3 .ret
def p26_5 : K := .cond (.t 10) p26_4 .skip
def p26_6 : K := .seq p26_2 p26_5
def p26_7 : K := .reg [⟨some 11, none, .mov (.t 0)⟩, ⟨some 12, none, .nilc (.t 11)⟩, ⟨some 13, none, .fad 0 (.t 12)⟩, ⟨some 14, none, .ld1 (.t 13)⟩, ⟨some 15, none, .mov (.t 5)⟩, ⟨some 16, none, .ixs 5 (.t 14) (.t 15)⟩, ⟨some 17, none, .fad 2 (.t 16)⟩, ⟨some 18, none, .ld1 (.t 17)⟩, ⟨some 19, none, .bin .gtr .none (.t 18) (.k (.i 0))⟩]
def p26_8 : K := .reg [⟨some 4, none, .mov (.k (.i 20))⟩]
def p26_9 : K := .seq p26_8 .ret
def p26_10 : K := .cond (.t 19) p26_9 .skip
def p26_11 : K := .seq p26_7 p26_10
def p26_12 : K := .reg [⟨some 20, none, .mov (.t 0)⟩, ⟨some 21, none, .nilc (.t 20)⟩, ⟨some 22, none, .fad 0 (.t 21)⟩, ⟨some 23, none, .ld1 (.t 22)⟩, ⟨some 24, none, .mov (.t 5)⟩, ⟨some 25, none, .mk [.bool false, .i 0, .i 0, .nilsl, .nilsl] []⟩, ⟨some 26, none, .ixs 5 (.t 23) (.t 24)⟩, ⟨none, none, .st 5 (.t 26) (.t 25)⟩]
def p26_13 : K := .reg [⟨some 4, none, .mov (.k (.i 0))⟩]
def p26_14 : K := .seq p26_13 .ret
def p26_15 : K := .seq p26_12 p26_14
def p26_16 : K := .seq p26_11 p26_15
def p26_17 : K := .seq p26_6 p26_16
def p26_18 : K := .seq p26_1 p26_17
def p26_19 : K := .seq p26_0 p26_18
def cf26 : CF := { nt := 27, body := p26_19, res := [.tmp 4] }
theorem ok26 : comp Try.prog modeF Try.f26 = some cf26 := by kernel_rfl
def p27_0 : K := .reg [⟨some 4, none, .mov (.k (.i 0))⟩, ⟨some 5, none, .mov (.k (.i 0))⟩, ⟨some 6, none, .mov (.k (.i 0))⟩]
def p27_1 : K := .reg [⟨some 8, none, .mov (.t 0)⟩, ⟨some 9, none, .mov (.t 1)⟩, ⟨some 10, none, .call 35 [.t 8, .t 9]⟩, ⟨some 7, none, .mov (.t 10)⟩]
def p27_2 : K := .reg [⟨some 11, none, .mov (.t 7)⟩, ⟨some 12, none, .bin .lss .none (.t 11) (.k (.i 0))⟩]
def p27_3 : K := .reg [⟨some 4, none, .mov (.k (.i 0))⟩, ⟨some 5, none, .mov (.k (.i 0))⟩, ⟨some 6, none, .mov (.k (.i 23))⟩]
def p27_4 : K := .seq p27_3 .ret
def p27_5 : K := .cond (.t 12) p27_4 .skip
def p27_6 : K := .seq p27_2 p27_5
def p27_7 : K := .drg [⟨some 13, none, .mov (.t 0)⟩, ⟨some 14, none, .nilc (.t 13)⟩, ⟨some 15, none, .fad 0 (.t 14)⟩, ⟨some 16, none, .ld1 (.t 15)⟩, ⟨some 17, none, .mov (.t 7)⟩, ⟨some 18, none, .ixs 5 (.t 16) (.t 17)⟩, ⟨some 19, none, .fad 3 (.t 18)⟩, ⟨some 20, none, .ld1 (.t 19)⟩, ⟨some 21, none, .len (.t 20)⟩, ⟨some 22, none, .mov (.t 0)⟩, ⟨some 23, none, .nilc (.t 22)⟩, ⟨some 24, none, .fad 0 (.t 23)⟩, ⟨some 25, none, .ld1 (.t 24)⟩, ⟨some 26, none, .mov (.t 7)⟩, ⟨some 27, none, .ixs 5 (.t 25) (.t 26)⟩, ⟨some 28, none, .fad 1 (.t 27)⟩, ⟨some 29, none, .ld1 (.t 28)⟩, ⟨some 4, none, .mov (.t 21)⟩, ⟨some 5, none, .mov (.t 29)⟩, ⟨some 6, none, .mov (.k (.i 0))⟩]
def p27_8 : K := .seq p27_7 .ret
def p27_9 : K := .seq p27_6 p27_8
def p27_10 : K := .seq p27_1 p27_9
def p27_11 : K := .seq p27_0 p27_10
def cf27 : CF := { nt := 30, body := p27_11, res := [.tmp 4, .tmp 5, .tmp 6] }
theorem ok27 : comp Try.prog modeF Try.f27 = some cf27 := by kernel_rfl
def p28_0 : K := .reg [⟨some 4, none, .mov (.k (.i 0))⟩, ⟨some 5, none, .mov (.k (.i 0))⟩]
def p28_1 : K := .reg [⟨some 9, none, .mov (.t 0)⟩, ⟨some 10, none, .mov (.t 1)⟩, ⟨some 11, none, .call 33 [.t 9, .t 10]⟩, ⟨some 8, none, .mov (.t 11)⟩, ⟨some 12, none, .ext (.t 8) 0⟩, ⟨some 13, none, .ext (.t 8) 1⟩, ⟨some 6, none, .mov (.t 12)⟩, ⟨some 7, none, .mov (.t 13)⟩]
def p28_2 : K := .reg [⟨some 14, none, .mov (.t 7)⟩, ⟨some 15, none, .bin .neq .none (.t 14) (.k (.i 0))⟩]
def p28_3 : K := .reg [⟨some 16, none, .mov (.t 7)⟩, ⟨some 4, none, .mov (.k (.i 0))⟩, ⟨some 5, none, .mov (.t 16)⟩]
def p28_4 : K := .seq p28_3 .ret
def p28_5 : K := .cond (.t 15) p28_4 .skip
def p28_6 : K := .seq p28_2 p28_5
def p28_7 : K := .reg [⟨some 17, none, .mov (.t 6)⟩, ⟨some 18, none, .nilc (.t 17)⟩, ⟨some 19, none, .fad 3 (.t 18)⟩, ⟨some 20, none, .ld1 (.t 19)⟩, ⟨some 4, none, .mov (.t 20)⟩, ⟨some 5, none, .mov (.k (.i 0))⟩]
def p28_8 : K := .seq p28_7 .ret
def p28_9 : K := .seq p28_6 p28_8
def p28_10 : K := .seq p28_1 p28_9
def p28_11 : K := .seq p28_0 p28_10
def cf28 : CF := { nt := 21, body := p28_11, res := [.tmp 4, .tmp 5] }
theorem ok28 : comp Try.prog modeF Try.f28 = some cf28 := by kernel_rfl
def p29_0 : K := .reg [⟨some 4, none, .mov (.k (.i 0))⟩, ⟨some 5, none, .mov (.k (.i 0))⟩]
def p29_1 : K := .reg [⟨some 7, none, .mov (.t 0)⟩, ⟨some 8, none, .mov (.t 1)⟩, ⟨some 9, none, .call 35 [.t 7, .t 8]⟩, ⟨some 6, none, .mov (.t 9)⟩]
def p29_2 : K := .reg [⟨some 10, none, .mov (.t 6)⟩, ⟨some 11, none, .bin .lss .none (.t 10) (.k (.i 0))⟩]
def p29_3 : K := .reg [⟨some 4, none, .mov (.k (.i 0))⟩, ⟨some 5, none, .mov (.k (.i 23))⟩]
def p29_4 : K := .seq p29_3 .ret
def p29_5 : K := .cond (.t 11) p29_4 .skip
def p29_6 : K := .seq p29_2 p29_5
def p29_7 : K := .reg [⟨some 12, none, .mov (.t 0)⟩, ⟨some 13, none, .nilc (.t 12)⟩, ⟨some 14, none, .fad 0 (.t 13)⟩, ⟨some 15, none, .ld1 (.t 14)⟩, ⟨some 16, none, .mov (.t 6)⟩, ⟨some 17, none, .ixs 5 (.t 15) (.t 16)⟩, ⟨some 18, none, .fad 2 (.t 17)⟩, ⟨some 19, none, .ld1 (.t 18)⟩, ⟨some 4, none, .mov (.t 19)⟩, ⟨some 5, none, .mov (.k (.i 0))⟩]
def p29_8 : K := .seq p29_7 .ret
def p29_9 : K := .seq p29_6 p29_8
def p29_10 : K := .seq p29_1 p29_9
def p29_11 : K := .seq p29_0 p29_10
def cf29 : CF := { nt := 20, body := p29_11, res := [.tmp 4, .tmp 5] }
theorem ok29 : comp Try.prog modeF Try.f29 = some cf29 := by kernel_rfl
def p31_0 : K := .reg [⟨some 6, none, .mov (.k (.int .u64 0))⟩, ⟨some 7, none, .mov (.k (.i 0))⟩]
def p31_1 : K := .reg [⟨some 8, none, .mov (.t 1)⟩, ⟨some 9, none, .bin .lss .none (.t 8) (.k (.i 0))⟩, ⟨some 10, none, .mov (.t 9)⟩, ⟨some 11, some (10, false), .mov (.t 1)⟩, ⟨some 12, some (10, false), .bin .gtr .none (.t 11) (.k (.i 4194304))⟩, ⟨some 13, none, .pick (.t 10) (.k (.bool true)) (.t 12)⟩, ⟨some 14, none, .mov (.t 13)⟩, ⟨some 15, some (14, false), .mov (.t 2)⟩, ⟨some 16, some (14, false), .bin .lss .none (.t 15) (.k (.i 0))⟩, ⟨some 17, none, .pick (.t 14) (.k (.bool true)) (.t 16)⟩, ⟨some 18, none, .mov (.t 17)⟩, ⟨some 19, some (18, false), .mov (.t 2)⟩, ⟨some 20, some (18, false), .bin .gtr .none (.t 19) (.k (.i 4096))⟩, ⟨some 21, none, .pick (.t 18) (.k (.bool true)) (.t 20)⟩]
def p31_2 : K := .reg [⟨some 6, none, .mov (.k (.int .u64 0))⟩, ⟨some 7, none, .mov (.k (.i 20))⟩]
def p31_3 : K := .seq p31_2 .ret
def p31_4 : K := .cond (.t 21) p31_3 .skip
def p31_5 : K := .seq p31_1 p31_4
def p31_6 : K := .drg [⟨some 22, none, .mov (.t 0)⟩, ⟨some 23, none, .mov (.t 0)⟩, ⟨some 24, none, .nilc (.t 23)⟩, ⟨some 25, none, .fad 0 (.t 24)⟩, ⟨some 26, none, .ld1 (.t 25)⟩, ⟨some 27, none, .mov (.t 2)⟩, ⟨some 28, none, .mov (.t 1)⟩, ⟨some 29, none, .mkslice 5 1 1 [.int .u8 0] (.t 28) (.t 28)⟩, ⟨some 30, none, .mov (.t 1)⟩, ⟨some 31, none, .mkslice 4 1 1 [.bool false] (.t 30) (.t 30)⟩, ⟨some 32, none, .mk [.bool false, .i 0, .i 0, .nilsl, .nilsl] [(0, 1, .k (.bool true)), (1, 1, .t 27), (2, 1, .k (.i 1)), (3, 1, .t 29), (4, 1, .t 31)]⟩, ⟨some 33, none, .mksl 72 1 5 [.bool false, .i 0, .i 0, .nilsl, .nilsl] [(0, 5, .t 32)]⟩, ⟨some 34, none, .app 72 5 72 [.bool false, .i 0, .i 0, .nilsl, .nilsl] (.t 26) (.t 33)⟩, ⟨some 35, none, .nilc (.t 22)⟩, ⟨some 36, none, .fad 0 (.t 35)⟩, ⟨none, none, .st 1 (.t 36) (.t 34)⟩]
def p31_7 : K := .reg [⟨some 37, none, .mov (.t 0)⟩, ⟨some 38, none, .nilc (.t 37)⟩, ⟨some 39, none, .fad 0 (.t 38)⟩, ⟨some 40, none, .ld1 (.t 39)⟩, ⟨some 41, none, .len (.t 40)⟩, ⟨some 42, none, .bin .mul .none (.k (.i 8)) (.t 41)⟩, ⟨some 43, none, .cvi .u64 (.t 42)⟩, ⟨some 6, none, .mov (.t 43)⟩, ⟨some 7, none, .mov (.k (.i 0))⟩]
def p31_8 : K := .seq p31_7 .ret
def p31_9 : K := .seq p31_6 p31_8
def p31_10 : K := .seq p31_5 p31_9
def p31_11 : K := .seq p31_0 p31_10
def cf31 : CF := { nt := 44, body := p31_11, res := [.tmp 6, .tmp 7] }
theorem ok31 : comp Try.prog modeF Try.f31 = some cf31 := by kernel_rfl
def p32_0 : K := .reg [⟨some 2, none, .mov (.k (.i 0))⟩]
def p32_1 : K := .reg [⟨some 3, none, .mov (.k (.i 0))⟩]
def p32_2 : K := .reg [⟨some 6, none, .mov (.t 0)⟩, ⟨some 7, none, .nilc (.t 6)⟩, ⟨some 8, none, .fad 0 (.t 7)⟩, ⟨some 9, none, .ld1 (.t 8)⟩, ⟨some 10, none, .len (.t 9)⟩, ⟨some 11, none, .mov (.k (.i 0))⟩]
def p32_3 : K := .reg [⟨some 12, none, .bin .lss .none (.t 11) (.t 10)⟩]
def p32_4 : K := .cond (.t 12) .skip (.exit 0)
def p32_5 : K := .reg [⟨some 13, none, .ixs 5 (.t 9) (.t 11)⟩, ⟨some 14, none, .ldn 5 (.t 13)⟩, ⟨some 5, none, .new 72 [.bool false, .i 0, .i 0, .nilsl, .nilsl]⟩, ⟨none, none, .st 5 (.t 5) (.t 14)⟩]
def p32_6 : K := .reg [⟨some 15, none, .fad 0 (.t 5)⟩, ⟨some 16, none, .ld1 (.t 15)⟩]
def p32_7 : K := .reg [⟨some 17, none, .mov (.t 3)⟩, ⟨some 18, none, .bin .add .none (.t 17) (.k (.i 1))⟩, ⟨some 3, none, .mov (.t 18)⟩]
def p32_8 : K := .cond (.t 16) p32_7 .skip
def p32_9 : K := .seq p32_6 p32_8
def p32_10 : K := .seq p32_5 p32_9
def p32_11 : K := .block 1 p32_10
def p32_12 : K := .reg [⟨some 19, none, .bin .add .none (.t 11) (.k (.i 1))⟩, ⟨some 11, none, .mov (.t 19)⟩]
def p32_13 : K := .seq p32_11 p32_12
def p32_14 : K := .seq p32_4 p32_13
def p32_15 : K := .seq p32_3 p32_14
def p32_16 : K := .loop p32_15
def p32_17 : K := .block 0 p32_16
def p32_18 : K := .seq p32_2 p32_17
def p32_19 : K := .reg [⟨some 20, none, .mov (.t 3)⟩, ⟨some 2, none, .mov (.t 20)⟩]
def p32_20 : K := .seq p32_19 .ret
def p32_21 : K := .seq p32_18 p32_20
def p32_22 : K := .seq p32_1 p32_21
def p32_23 : K := .seq p32_0 p32_22
def cf32 : CF := { nt := 21, body := p32_23, res := [.tmp 2] }
theorem ok32 : comp Try.prog modeF Try.f32 = some cf32 := by kernel_rfl
def p33_0 : K := .reg [⟨some 4, none, .mov (.k .nil)⟩, ⟨some 5, none, .mov (.k (.i 0))⟩]
def p33_1 : K := .reg [⟨some 7, none, .mov (.t 1)⟩, ⟨some 8, none, .bin .eql .none (.t 7) (.k (.int .u64 0))⟩, ⟨some 9, none, .mov (.t 8)⟩, ⟨some 10, some (9, false), .mov (.t 1)⟩, ⟨some 11, some (9, false), .bin .rem .none (.t 10) (.k (.int .u64 8))⟩, ⟨some 12, some (9, false), .bin .neq .none (.t 11) (.k (.int .u64 0))⟩, ⟨some 13, none, .pick (.t 9) (.k (.bool true)) (.t 12)⟩, ⟨some 14, none, .mov (.t 13)⟩, ⟨some 15, some (14, false), .mov (.t 1)⟩, ⟨some 16, some (14, false), .bin .quo .none (.t 15) (.k (.int .u64 8))⟩, ⟨some 17, some (14, false), .mov (.t 0)⟩, ⟨some 18, some (14, false), .nilc (.t 17)⟩, ⟨some 19, some (14, false), .fad 0 (.t 18)⟩, ⟨some 20, some (14, false), .ld1 (.t 19)⟩, ⟨some 21, some (14, false), .len (.t 20)⟩, ⟨some 22, some (14, false), .cvi .u64 (.t 21)⟩, ⟨some 23, some (14, false), .bin .gtr .none (.t 16) (.t 22)⟩, ⟨some 24, none, .pick (.t 14) (.k (.bool true)) (.t 23)⟩]
def p33_2 : K := .reg [⟨some 4, none, .mov (.k .nil)⟩, ⟨some 5, none, .mov (.k (.i 23))⟩]
def p33_3 : K := .seq p33_2 .ret
def p33_4 : K := .cond (.t 24) p33_3 .skip
def p33_5 : K := .seq p33_1 p33_4
def p33_6 : K := .reg [⟨some 25, none, .mov (.t 0)⟩, ⟨some 26, none, .nilc (.t 25)⟩, ⟨some 27, none, .fad 0 (.t 26)⟩, ⟨some 28, none, .ld1 (.t 27)⟩, ⟨some 29, none, .mov (.t 1)⟩, ⟨some 30, none, .bin .quo .none (.t 29) (.k (.int .u64 8))⟩, ⟨some 31, none, .bin .sub .none (.t 30) (.k (.int .u64 1))⟩, ⟨some 32, none, .ixs 1 (.t 28) (.t 31)⟩, ⟨some 33, none, .ld1 (.t 32)⟩, ⟨some 6, none, .mov (.t 33)⟩]
def p33_7 : K := .reg [⟨some 34, none, .mov (.t 6)⟩, ⟨some 35, none, .nilc (.t 34)⟩, ⟨some 36, none, .fad 0 (.t 35)⟩, ⟨some 37, none, .ld1 (.t 36)⟩, ⟨some 38, none, .un .not (.t 37)⟩]
def p33_8 : K := .reg [⟨some 4, none, .mov (.k .nil)⟩, ⟨some 5, none, .mov (.k (.i 23))⟩]
def p33_9 : K := .seq p33_8 .ret
def p33_10 : K := .cond (.t 38) p33_9 .skip
def p33_11 : K := .seq p33_7 p33_10
def p33_12 : K := .reg [⟨some 39, none, .mov (.t 6)⟩, ⟨some 4, none, .mov (.t 39)⟩, ⟨some 5, none, .mov (.k (.i 0))⟩]
def p33_13 : K := .seq p33_12 .ret
def p33_14 : K := .seq p33_11 p33_13
def p33_15 : K := .seq p33_6 p33_14
def p33_16 : K := .seq p33_5 p33_15
def p33_17 : K := .seq p33_0 p33_16
def cf33 : CF := { nt := 40, body := p33_17, res := [.tmp 4, .tmp 5] }
theorem ok33 : comp Try.prog modeF Try.f33 = some cf33 := by kernel_rfl
def p34_0 : K := .reg [⟨some 6, none, .mov (.k (.bool false))⟩]
def p34_1 : K := .reg [⟨some 7, none, .mov (.t 1)⟩, ⟨some 8, none, .bin .geq .none (.t 7) (.k (.i 0))⟩, ⟨some 9, none, .mov (.t 8)⟩, ⟨some 10, some (9, true), .mov (.t 2)⟩, ⟨some 11, some (9, true), .bin .geq .none (.t 10) (.k (.i 0))⟩, ⟨some 12, none, .pick (.t 9) (.t 11) (.k (.bool false))⟩, ⟨some 13, none, .mov (.t 12)⟩, ⟨some 14, some (13, true), .mov (.t 1)⟩, ⟨some 15, some (13, true), .mov (.t 0)⟩, ⟨some 16, some (13, true), .nilc (.t 15)⟩, ⟨some 17, some (13, true), .fad 1 (.t 16)⟩, ⟨some 18, some (13, true), .ld1 (.t 17)⟩, ⟨some 19, some (13, true), .bin .leq .none (.t 14) (.t 18)⟩, ⟨some 20, none, .pick (.t 13) (.t 19) (.k (.bool false))⟩, ⟨some 21, none, .mov (.t 20)⟩, ⟨some 22, some (21, true), .mov (.t 2)⟩, ⟨some 23, some (21, true), .mov (.t 0)⟩, ⟨some 24, some (21, true), .nilc (.t 23)⟩, ⟨some 25, some (21, true), .fad 1 (.t 24)⟩, ⟨some 26, some (21, true), .ld1 (.t 25)⟩, ⟨some 27, some (21, true), .mov (.t 1)⟩, ⟨some 28, some (21, true), .bin .sub .none (.t 26) (.t 27)⟩, ⟨some 29, some (21, true), .bin .leq .none (.t 22) (.t 28)⟩, ⟨some 30, none, .pick (.t 21) (.t 29) (.k (.bool false))⟩, ⟨some 6, none, .mov (.t 30)⟩]
def p34_2 : K := .seq p34_1 .ret
def p34_3 : K := .seq p34_0 p34_2
def cf34 : CF := { nt := 31, body := p34_3, res := [.tmp 6] }
theorem ok34 : comp Try.prog modeF Try.f34 = some cf34 := by kernel_rfl
def p35_0 : K := .reg [⟨some 4, none, .mov (.k (.i 0))⟩]
def p35_1 : K := .reg [⟨some 5, none, .mov (.t 1)⟩, ⟨some 6, none, .bin .eql .none (.t 5) (.k (.int .u64 0))⟩, ⟨some 7, none, .mov (.t 6)⟩, ⟨some 8, some (7, false), .mov (.t 1)⟩, ⟨some 9, some (7, false), .bin .rem .none (.t 8) (.k (.int .u64 8))⟩, ⟨some 10, some (7, false), .bin .neq .none (.t 9) (.k (.int .u64 0))⟩, ⟨some 11, none, .pick (.t 7) (.k (.bool true)) (.t 10)⟩, ⟨some 12, none, .mov (.t 11)⟩, ⟨some 13, some (12, false), .mov (.t 1)⟩, ⟨some 14, some (12, false), .bin .quo .none (.t 13) (.k (.int .u64 8))⟩, ⟨some 15, some (12, false), .mov (.t 0)⟩, ⟨some 16, some (12, false), .nilc (.t 15)⟩, ⟨some 17, some (12, false), .fad 0 (.t 16)⟩, ⟨some 18, some (12, false), .ld1 (.t 17)⟩, ⟨some 19, some (12, false), .len (.t 18)⟩, ⟨some 20, some (12, false), .cvi .u64 (.t 19)⟩, ⟨some 21, some (12, false), .bin .gtr .none (.t 14) (.t 20)⟩, ⟨some 22, none, .pick (.t 12) (.k (.bool true)) (.t 21)⟩, ⟨some 23, none, .mov (.t 22)⟩, ⟨some 24, some (23, false), .mov (.t 0)⟩, ⟨some 25, some (23, false), .nilc (.t 24)⟩, ⟨some 26, some (23, false), .fad 0 (.t 25)⟩, ⟨some 27, some (23, false), .ld1 (.t 26)⟩, ⟨some 28, some (23, false), .mov (.t 1)⟩, ⟨some 29, some (23, false), .bin .quo .none (.t 28) (.k (.int .u64 8))⟩, ⟨some 30, some (23, false), .bin .sub .none (.t 29) (.k (.int .u64 1))⟩, ⟨some 31, some (23, false), .ixs 5 (.t 27) (.t 30)⟩, ⟨some 32, some (23, false), .fad 0 (.t 31)⟩, ⟨some 33, some (23, false), .ld1 (.t 32)⟩, ⟨some 34, some (23, false), .un .not (.t 33)⟩, ⟨some 35, none, .pick (.t 23) (.k (.bool true)) (.t 34)⟩]
def p35_2 : K := .reg [⟨some 4, none, .mov (.k (.i (-1)))⟩]
def p35_3 : K := .seq p35_2 .ret
def p35_4 : K := .cond (.t 35) p35_3 .skip
def p35_5 : K := .seq p35_1 p35_4
def p35_6 : K := .reg [⟨some 36, none, .mov (.t 1)⟩, ⟨some 37, none, .bin .quo .none (.t 36) (.k (.int .u64 8))⟩, ⟨some 38, none, .cvi .i64 (.t 37)⟩, ⟨some 39, none, .bin .sub .none (.t 38) (.k (.i 1))⟩, ⟨some 4, none, .mov (.t 39)⟩]
def p35_7 : K := .seq p35_6 .ret
def p35_8 : K := .seq p35_5 p35_7
def p35_9 : K := .seq p35_0 p35_8
def cf35 : CF := { nt := 40, body := p35_9, res := [.tmp 4] }
theorem ok35 : comp Try.prog modeF Try.f35 = some cf35 := by kernel_rfl
end Go.Proofs.Ytabhppamkhldeaa.Sx
