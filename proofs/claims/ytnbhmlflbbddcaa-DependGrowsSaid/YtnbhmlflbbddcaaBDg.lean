/- FUNCTIONS AS THE ABSTRACT MACHINE'S CODE, before anything is turned, printed by program; each is held against the program by the kernel. -/
import Derived.Test.YtnbhmlflbbddcaaPrDg
import Derived.Test.YtnbhmlflbbddcaaProg
import Derived.KernelRfl
namespace Go.Proofs.Ytnbhmlflbbddcaa.Sx.Bs
open Go
set_option maxRecDepth 1000000
def lookM (f : Nat) : List (Nat × Mode) → Mode
  | [] => .pure
  | (g, m) :: r => if f = g then m else lookM f r
def modeL : List (Nat × Mode) := [(7, .rw), (8, .rw), (11, .rw), (12, .rw), (15, .ro), (16, .rw), (19, .ro), (20, .rw), (26, .rw), (27, .rw), (36, .rw), (37, .rw), (38, .rw), (39, .rw)]
def modeF : FuncId → Mode := fun f => lookM f modeL
abbrev o (d : Nat) (i : I) : Op1 := ⟨some d, none, i, 0, false⟩
def p4_0 : K := .reg [o 4 (.mov (.k .nilsl)), o 5 (.mov (.k (.i 0)))]
def p4_1 : K := .reg [o 9 (.mov (.t 0)), o 10 (.mov (.t 1)), o 11 (.call 7 [.t 9, .t 10]), o 8 (.mov (.t 11)), o 12 (.ext (.t 8) 0), o 13 (.ext (.t 8) 1), o 6 (.mov (.t 12)), o 7 (.mov (.t 13))]
def p4_2 : K := .reg [o 14 (.mov (.t 7)), o 15 (.bin .neq .none (.t 14) (.k (.i 0)))]
def p4_3 : K := .reg [o 16 (.mov (.t 7)), o 4 (.mov (.k .nilsl)), o 5 (.mov (.t 16))]
def p4_4 : K := .seq p4_3 .ret
def p4_5 : K := .cond (.t 15) p4_4 .skip
def p4_6 : K := .seq p4_2 p4_5
def p4_7 : K := .reg [o 17 (.mov (.t 6)), o 18 (.nilc (.t 17)), o 19 (.fad 3 (.t 18)), o 20 (.ld1 (.t 19)), o 4 (.mov (.t 20)), o 5 (.mov (.k (.i 0)))]
def p4_8 : K := .seq p4_7 .ret
def p4_9 : K := .seq p4_6 p4_8
def p4_10 : K := .seq p4_1 p4_9
def p4_11 : K := .seq p4_0 p4_10
def cf4 : CF := { nt := 21, body := p4_11, res := [.tmp 4, .tmp 5] }
theorem ok4 : comp Try.prog modeF [] [] Try.f4 = some cf4 := by kernel_rfl
def p6_0 : K := .reg [o 0 (.mov (.k (.bool false)))]
def p6_1 : K := .reg [o 6 (.call 10 [.k (.i 2), .k (.bool true), .k (.bool false)]), o 7 (.mk [.str ⟨⟨[]⟩⟩, .nilsl] [(0, 1, .k (.str ⟨⟨[103, 101, 111, 46, 85, 97]⟩⟩))]), o 8 (.call 9 [.t 6, .t 7]), o 5 (.mov (.t 8)), o 9 (.ext (.t 5) 0), o 10 (.ext (.t 5) 1), o 1 (.mov (.t 9)), o 2 (.mov (.t 10))]
def p6_2 : K := .reg [o 12 (.call 10 [.k (.i 2), .k (.bool true), .k (.bool true)]), o 13 (.mk [.str ⟨⟨[]⟩⟩, .nilsl] [(0, 1, .k (.str ⟨⟨[103, 101, 111, 46, 85, 97]⟩⟩))]), o 14 (.vsl 24 1 2 [.str ⟨⟨[]⟩⟩, .nilsl] [(0, 2, .t 13)]), o 15 (.call 4 [.t 12, .t 14]), o 11 (.mov (.t 15)), o 16 (.ext (.t 11) 0), o 17 (.ext (.t 11) 1), o 3 (.mov (.t 16)), o 4 (.mov (.t 17))]
def p6_3 : K := .reg [o 18 (.mov (.t 2)), o 19 (.mov (.t 18)), ⟨some 20, some (19, true), .mov (.t 1), 0, false⟩, ⟨some 21, some (19, true), .len (.t 20), 0, false⟩, ⟨some 22, some (19, true), .bin .eql .none (.t 21) (.k (.i 3)), 0, false⟩, o 23 (.pick (.t 19) (.t 22) (.k (.bool false))), o 24 (.mov (.t 23)), ⟨some 25, some (24, true), .mov (.t 1), 0, false⟩, ⟨some 26, some (24, true), .ixs 2 (.t 25) (.k (.i 0)), 0, false⟩, ⟨some 27, some (24, true), .fad 0 (.t 26), 0, false⟩, ⟨some 28, some (24, true), .ld1 (.t 27), 0, false⟩, ⟨some 29, some (24, true), .bin .eql .none (.t 28) (.k (.str ⟨⟨[103, 101, 111, 46, 85, 97]⟩⟩)), 0, false⟩, o 30 (.pick (.t 24) (.t 29) (.k (.bool false))), o 31 (.mov (.t 30)), ⟨some 32, some (31, true), .mov (.t 1), 0, false⟩, ⟨some 33, some (31, true), .ixs 2 (.t 32) (.k (.i 1)), 0, false⟩, ⟨some 34, some (31, true), .fad 0 (.t 33), 0, false⟩, ⟨some 35, some (31, true), .ld1 (.t 34), 0, false⟩, ⟨some 36, some (31, true), .bin .eql .none (.t 35) (.k (.str ⟨⟨[103, 101, 111, 46, 85, 98]⟩⟩)), 0, false⟩, o 37 (.pick (.t 31) (.t 36) (.k (.bool false))), o 38 (.mov (.t 37)), ⟨some 39, some (38, true), .mov (.t 4), 0, false⟩, ⟨some 40, some (38, true), .bin .eql .none (.t 39) (.k (.i 0)), 0, false⟩, o 41 (.pick (.t 38) (.t 40) (.k (.bool false))), o 42 (.mov (.t 41)), ⟨some 43, some (42, true), .mov (.t 3), 0, false⟩, ⟨some 44, some (42, true), .len (.t 43), 0, false⟩, ⟨some 45, some (42, true), .bin .eql .none (.t 44) (.k (.i 1)), 0, false⟩, o 46 (.pick (.t 42) (.t 45) (.k (.bool false))), o 0 (.mov (.t 46))]
def p6_4 : K := .seq p6_3 .ret
def p6_5 : K := .seq p6_2 p6_4
def p6_6 : K := .seq p6_1 p6_5
def p6_7 : K := .seq p6_0 p6_6
def cf6 : CF := { nt := 47, body := p6_7, res := [.tmp 0] }
theorem ok6 : comp Try.prog modeF [] [] Try.f6 = some cf6 := by kernel_rfl
def p7_0 : K := .reg [o 4 (.mov (.k .nil)), o 5 (.mov (.k (.i 0)))]
def p7_1 : K := .reg [o 10 (.mov (.t 0)), o 11 (.mkmap .string), o 12 (.mk [.nilsl, .d (.v (.map none)), .nilsl, .nilsl] [(0, 1, .t 10), (1, 1, .t 11)]), o 13 (.box 54 (.t 12)), o 6 (.mov (.t 13))]
def p7_2 : K := .reg [o 14 (.mov (.t 1)), o 15 (.len (.t 14)), o 16 (.mov (.k (.i 0)))]
def p7_3 : K := .reg [o 17 (.bin .lss .none (.t 16) (.t 15))]
def p7_4 : K := .cond (.t 17) .skip (.exit 0)
def p7_5 : K := .reg [o 18 (.ixs 2 (.t 14) (.t 16)), o 19 (.ldn 2 (.t 18)), o 8 (.new 24 [.str ⟨⟨[]⟩⟩, .nilsl]), ⟨none, none, .st 2 (.t 8) (.t 19), 0, false⟩]
def p7_6 : K := .reg [o 20 (.mov (.t 6)), o 21 (.ldn 2 (.t 8)), o 22 (.call 11 [.t 20, .t 21]), o 9 (.mov (.t 22))]
def p7_7 : K := .reg [o 23 (.mov (.t 9)), o 24 (.bin .neq .none (.t 23) (.k (.i 0)))]
def p7_8 : K := .reg [o 25 (.mov (.t 6)), o 26 (.mov (.t 9)), o 4 (.mov (.t 25)), o 5 (.mov (.t 26))]
def p7_9 : K := .seq p7_8 .ret
def p7_10 : K := .cond (.t 24) p7_9 .skip
def p7_11 : K := .seq p7_7 p7_10
def p7_12 : K := .seq p7_6 p7_11
def p7_13 : K := .seq p7_5 p7_12
def p7_14 : K := .block 1 p7_13
def p7_15 : K := .reg [o 27 (.bin .add .none (.t 16) (.k (.i 1))), o 16 (.mov (.t 27))]
def p7_16 : K := .seq p7_14 p7_15
def p7_17 : K := .seq p7_4 p7_16
def p7_18 : K := .seq p7_3 p7_17
def p7_19 : K := .loop p7_18
def p7_20 : K := .block 0 p7_19
def p7_21 : K := .seq p7_2 p7_20
def p7_22 : K := .reg [o 28 (.mov (.t 6)), o 4 (.mov (.t 28)), o 5 (.mov (.k (.i 0)))]
def p7_23 : K := .seq p7_22 .ret
def p7_24 : K := .seq p7_21 p7_23
def p7_25 : K := .seq p7_1 p7_24
def p7_26 : K := .seq p7_0 p7_25
def cf7 : CF := { nt := 29, body := p7_26, res := [.tmp 4, .tmp 5] }
theorem ok7 : comp Try.prog modeF [24] [] Try.f7 = some cf7 := by kernel_rfl
def p8_0 : K := .reg [o 3 (.box 24 (.t 1)), o 4 (.mov (.k (.i 0)))]
def p8_1 : K := .reg [o 11 (.mov (.t 0)), o 12 (.ldn 2 (.t 3)), o 13 (.call 12 [.t 11, .t 12]), o 10 (.mov (.t 13)), o 14 (.ext (.t 10) 0), o 15 (.ext (.t 10) 1), o 5 (.mov (.t 14)), o 6 (.mov (.t 15))]
def p8_2 : K := .reg [o 16 (.mov (.t 5)), o 17 (.un .not (.t 16))]
def p8_3 : K := .reg [o 18 (.mov (.t 6)), o 4 (.mov (.t 18))]
def p8_4 : K := .seq p8_3 .ret
def p8_5 : K := .cond (.t 17) p8_4 .skip
def p8_6 : K := .seq p8_2 p8_5
def p8_7 : K := .drg [⟨some 20, none, .mov (.t 0), 0, true⟩, ⟨some 21, none, .nilc (.t 20), 1, true⟩, ⟨some 22, none, .fad 0 (.t 21), 3, true⟩, ⟨some 23, none, .ld1 (.t 22), 7, true⟩, ⟨some 24, none, .ldn 2 (.t 3), 0, true⟩, ⟨some 25, none, .call 13 [.t 23, .t 24, .k (.bool true)], 31, true⟩, ⟨some 19, none, .mov (.t 25), 63, true⟩, ⟨some 26, none, .ext (.t 19) 0, 127, true⟩, ⟨some 27, none, .ext (.t 19) 1, 127, true⟩, ⟨some 7, none, .mov (.t 26), 255, true⟩, ⟨some 6, none, .mov (.t 27), 1023, true⟩]
def p8_8 : K := .reg [o 28 (.mov (.t 6)), o 29 (.bin .neq .none (.t 28) (.k (.i 0)))]
def p8_9 : K := .reg [o 30 (.mov (.t 6)), o 4 (.mov (.t 30))]
def p8_10 : K := .seq p8_9 .ret
def p8_11 : K := .cond (.t 29) p8_10 .skip
def p8_12 : K := .seq p8_8 p8_11
def p8_13 : K := .drg [⟨some 31, none, .mov (.t 0), 0, true⟩, ⟨some 32, none, .nilc (.t 31), 1, true⟩, ⟨some 33, none, .fad 3 (.t 32), 3, true⟩, ⟨some 34, none, .ld1 (.t 33), 7, true⟩, ⟨some 35, none, .ldn 2 (.t 3), 0, true⟩, ⟨some 36, none, .call 14 [.t 35], 16, true⟩, ⟨some 37, none, .len (.t 34), 15, true⟩, ⟨some 38, none, .mksl 24 1 2 [.str ⟨⟨[]⟩⟩, .nilsl] [(0, 2, .k (.agg [.str ⟨⟨[]⟩⟩, .nilsl]))], 0, true⟩, ⟨some 39, none, .app 24 2 40 [.str ⟨⟨[]⟩⟩, .nilsl] (.t 34) (.t 38), 255, true⟩, ⟨some 40, none, .ixs 2 (.t 39) (.t 37), 511, true⟩, ⟨none, none, .str 2 (.t 39) [.t 0] (.t 40) (.t 36), 1023, true⟩, ⟨some 41, none, .nilc (.t 31), 511, true⟩, ⟨some 42, none, .fad 3 (.t 41), 2559, true⟩, ⟨none, none, .str 1 (.t 0) [] (.t 42) (.t 39), 6655, true⟩]
def p8_14 : K := .reg [o 43 (.mov (.t 7)), o 44 (.len (.t 43)), o 45 (.mov (.k (.i 0)))]
def p8_15 : K := .reg [o 46 (.bin .lss .none (.t 45) (.t 44))]
def p8_16 : K := .cond (.t 46) .skip (.exit 0)
def p8_17 : K := .reg [o 47 (.ixs 2 (.t 43) (.t 45)), o 48 (.ldn 2 (.t 47)), o 9 (.new 24 [.str ⟨⟨[]⟩⟩, .nilsl]), ⟨none, none, .st 2 (.t 9) (.t 48), 0, false⟩]
def p8_18 : K := .reg [o 49 (.mov (.t 0)), o 50 (.ldn 2 (.t 9)), o 51 (.call 8 [.t 49, .t 50]), o 6 (.mov (.t 51))]
def p8_19 : K := .reg [o 52 (.mov (.t 6)), o 53 (.bin .neq .none (.t 52) (.k (.i 0)))]
def p8_20 : K := .reg [o 54 (.mov (.t 6)), o 4 (.mov (.t 54))]
def p8_21 : K := .seq p8_20 .ret
def p8_22 : K := .cond (.t 53) p8_21 .skip
def p8_23 : K := .seq p8_19 p8_22
def p8_24 : K := .seq p8_18 p8_23
def p8_25 : K := .seq p8_17 p8_24
def p8_26 : K := .block 1 p8_25
def p8_27 : K := .reg [o 55 (.bin .add .none (.t 45) (.k (.i 1))), o 45 (.mov (.t 55))]
def p8_28 : K := .seq p8_26 p8_27
def p8_29 : K := .seq p8_16 p8_28
def p8_30 : K := .seq p8_15 p8_29
def p8_31 : K := .loop p8_30
def p8_32 : K := .block 0 p8_31
def p8_33 : K := .seq p8_14 p8_32
def p8_34 : K := .reg [o 4 (.mov (.k (.i 0)))]
def p8_35 : K := .seq p8_34 .ret
def p8_36 : K := .seq p8_33 p8_35
def p8_37 : K := .seq p8_13 p8_36
def p8_38 : K := .seq p8_12 p8_37
def p8_39 : K := .seq p8_7 p8_38
def p8_40 : K := .seq p8_6 p8_39
def p8_41 : K := .seq p8_1 p8_40
def p8_42 : K := .seq p8_0 p8_41
def cf8 : CF := { nt := 56, body := p8_42, res := [.tmp 4] }
theorem ok8 : comp Try.prog modeF [24] [(1000007, 999999, 10, 39), (1000007, 10, 999999, 0), (1000007, 999999, 13, 0)] Try.f8 = some cf8 := by kernel_rfl
def p9_0 : K := .reg [o 3 (.box 24 (.t 1)), o 4 (.mov (.k .nilsl)), o 5 (.mov (.k (.bool false)))]
def p9_1 : K := .reg [o 14 (.mov (.t 0)), o 15 (.ldn 2 (.t 3)), o 16 (.mksl 24 1 2 [.str ⟨⟨[]⟩⟩, .nilsl] [(0, 2, .t 15)]), o 17 (.call 7 [.t 14, .t 16]), o 13 (.mov (.t 17)), o 18 (.ext (.t 13) 0), o 19 (.ext (.t 13) 1), o 6 (.mov (.t 18)), o 7 (.mov (.t 19))]
def p9_2 : K := .reg [o 20 (.mov (.t 7)), o 21 (.bin .neq .none (.t 20) (.k (.i 18)))]
def p9_3 : K := .reg [o 4 (.mov (.k .nilsl)), o 5 (.mov (.k (.bool false)))]
def p9_4 : K := .seq p9_3 .ret
def p9_5 : K := .cond (.t 21) p9_4 .skip
def p9_6 : K := .seq p9_2 p9_5
def p9_7 : K := .drg [⟨some 22, none, .mov (.t 6), 0, true⟩, ⟨some 23, none, .nilc (.t 22), 1, true⟩, ⟨some 24, none, .fad 2 (.t 23), 3, true⟩, ⟨some 25, none, .ld1 (.t 24), 7, true⟩, ⟨some 26, none, .mov (.t 6), 0, true⟩, ⟨some 27, none, .nilc (.t 26), 16, true⟩, ⟨some 28, none, .fad 2 (.t 27), 48, true⟩, ⟨some 29, none, .ld1 (.t 28), 112, true⟩, ⟨some 30, none, .len (.t 29), 240, true⟩, ⟨some 31, none, .bin .sub .none (.t 30) (.k (.i 1)), 496, true⟩, ⟨some 32, none, .ixs 2 (.t 25) (.t 31), 1023, true⟩, ⟨some 33, none, .ldn 2 (.t 32), 2047, true⟩, ⟨some 8, none, .new 24 [.str ⟨⟨[]⟩⟩, .nilsl], 0, true⟩, ⟨none, none, .st 2 (.t 8) (.t 33), 8191, true⟩]
def p9_8 : K := .reg [o 34 (.mov (.t 6)), o 35 (.nilc (.t 34)), o 36 (.fad 2 (.t 35)), o 37 (.ld1 (.t 36)), o 38 (.mkf 16 [] [.t 8]), o 39 (.call 15 [.t 37, .t 38]), o 9 (.mov (.t 39))]
def p9_9 : K := .reg [o 10 (.mov (.k .nilsl))]
def p9_10 : K := .reg [o 40 (.mov (.t 6)), o 41 (.nilc (.t 40)), o 42 (.fad 2 (.t 41)), o 43 (.ld1 (.t 42)), o 44 (.mov (.t 9)), o 45 (.slsl 2 (.t 43) (some (.t 44)) none), o 46 (.len (.t 45)), o 47 (.mov (.k (.i 0)))]
def p9_11 : K := .reg [o 48 (.bin .lss .none (.t 47) (.t 46))]
def p9_12 : K := .cond (.t 48) .skip (.exit 0)
def p9_13 : K := .reg [o 49 (.ixs 2 (.t 45) (.t 47)), o 50 (.ldn 2 (.t 49)), o 12 (.new 24 [.str ⟨⟨[]⟩⟩, .nilsl]), ⟨none, none, .st 2 (.t 12) (.t 50), 0, false⟩]
def p9_14 : K := .reg [o 51 (.mov (.t 10)), o 52 (.ldn 2 (.t 12)), o 53 (.call 14 [.t 52]), o 54 (.mksl 24 1 2 [.str ⟨⟨[]⟩⟩, .nilsl] [(0, 2, .t 53)]), o 55 (.app 24 2 40 [.str ⟨⟨[]⟩⟩, .nilsl] (.t 51) (.t 54)), o 10 (.mov (.t 55))]
def p9_15 : K := .seq p9_13 p9_14
def p9_16 : K := .block 1 p9_15
def p9_17 : K := .reg [o 56 (.bin .add .none (.t 47) (.k (.i 1))), o 47 (.mov (.t 56))]
def p9_18 : K := .seq p9_16 p9_17
def p9_19 : K := .seq p9_12 p9_18
def p9_20 : K := .seq p9_11 p9_19
def p9_21 : K := .loop p9_20
def p9_22 : K := .block 0 p9_21
def p9_23 : K := .seq p9_10 p9_22
def p9_24 : K := .reg [o 57 (.mov (.t 10)), o 4 (.mov (.t 57)), o 5 (.mov (.k (.bool true)))]
def p9_25 : K := .seq p9_24 .ret
def p9_26 : K := .seq p9_23 p9_25
def p9_27 : K := .seq p9_9 p9_26
def p9_28 : K := .seq p9_8 p9_27
def p9_29 : K := .seq p9_7 p9_28
def p9_30 : K := .seq p9_6 p9_29
def p9_31 : K := .seq p9_1 p9_30
def p9_32 : K := .seq p9_0 p9_31
def cf9 : CF := { nt := 58, body := p9_32, res := [.tmp 4, .tmp 5] }
theorem ok9 : comp Try.prog modeF [24] [] Try.f9 = some cf9 := by kernel_rfl
def p10_0 : K := .reg [o 6 (.mov (.k .nilsl))]
def p10_1 : K := .reg [o 10 (.mk [.i 0, .str ⟨⟨[]⟩⟩, .i 0, .nilsl, .nilsl, .nilsl, .nilsl, .nilsl, .nilsl] [(0, 1, .k (.i 1)), (1, 1, .k (.str ⟨⟨[103, 101, 111]⟩⟩)), (2, 1, .k (.i 1))]), o 7 (.new 41 [.i 0, .str ⟨⟨[]⟩⟩, .i 0, .nilsl, .nilsl, .nilsl, .nilsl, .nilsl, .nilsl]), ⟨none, none, .st 9 (.t 7) (.t 10), 0, false⟩]
def p10_2 : K := .reg [o 8 (.mov (.k (.i 0)))]
def p10_3 : K := .reg [o 11 (.mov (.t 8)), o 12 (.mov (.t 0)), o 13 (.bin .lss .none (.t 11) (.t 12))]
def p10_4 : K := .cond (.t 13) .skip (.exit 0)
def p10_5 : K := .seq p10_3 p10_4
def p10_6 : K := .reg [o 16 (.mov (.t 8)), o 17 (.bin .add .none (.t 16) (.k (.i 1))), o 18 (.call 18 [.t 17]), o 19 (.bin .add .none (.k (.str ⟨⟨[103, 101, 111, 46]⟩⟩)) (.t 18)), o 20 (.mk [.str ⟨⟨[]⟩⟩, .nilsl] [(0, 1, .t 19)]), o 9 (.new 24 [.str ⟨⟨[]⟩⟩, .nilsl]), ⟨none, none, .st 2 (.t 9) (.t 20), 0, false⟩]
def p10_7 : K := .reg [o 21 (.mov (.t 8)), o 22 (.mov (.t 0)), o 23 (.bin .sub .none (.t 22) (.k (.i 1))), o 24 (.bin .eql .none (.t 21) (.t 23))]
def p10_8 : K := .reg [o 25 (.mk [.str ⟨⟨[]⟩⟩, .nilsl] [(0, 1, .k (.str ⟨⟨[73, 110, 116]⟩⟩))]), ⟨none, none, .st 2 (.t 9) (.t 25), 0, false⟩]
def p10_9 : K := .reg [o 26 (.mov (.t 1))]
def p10_10 : K := .reg [o 27 (.call 18 [.k (.i 0)]), o 28 (.bin .add .none (.k (.str ⟨⟨[103, 101, 111, 46]⟩⟩)) (.t 27)), o 29 (.mk [.str ⟨⟨[]⟩⟩, .nilsl] [(0, 1, .t 28)]), ⟨none, none, .st 2 (.t 9) (.t 29), 0, false⟩]
def p10_11 : K := .cond (.t 26) p10_10 .skip
def p10_12 : K := .seq p10_9 p10_11
def p10_13 : K := .seq p10_8 p10_12
def p10_14 : K := .cond (.t 24) p10_13 .skip
def p10_15 : K := .seq p10_7 p10_14
def p10_16 : K := .drg [⟨some 30, none, .fad 5 (.t 7), 0, true⟩, ⟨some 31, none, .ld1 (.t 30), 1, true⟩, ⟨some 32, none, .mov (.t 8), 0, true⟩, ⟨some 33, none, .call 18 [.t 32], 4, true⟩, ⟨some 34, none, .ldn 2 (.t 9), 0, true⟩, ⟨some 35, none, .mk [.str ⟨⟨[]⟩⟩, .nilsl] [(0, 1, .k (.str ⟨⟨[66, 111, 111, 108]⟩⟩))], 0, true⟩, ⟨some 36, none, .vsl 24 2 2 [.str ⟨⟨[]⟩⟩, .nilsl, .str ⟨⟨[]⟩⟩, .nilsl] [(0, 2, .t 34), (2, 2, .t 35)], 48, true⟩, ⟨some 37, none, .mov (.t 2), 0, true⟩, ⟨some 38, none, .mov (.t 37), 140, true⟩, ⟨some 39, some (38, true), .mov (.t 8), 396, true⟩, ⟨some 40, some (38, true), .bin .eql .none (.t 39) (.k (.i 0)), 908, true⟩, ⟨some 41, none, .pick (.t 38) (.t 40) (.k (.bool false)), 1932, true⟩, ⟨some 42, none, .mk [.bool false, .str ⟨⟨[]⟩⟩, .nilsl] [(1, 1, .k (.str ⟨⟨[99, 97]⟩⟩)), (2, 1, .t 36), (0, 1, .t 41)], 4092, true⟩, ⟨some 43, none, .vsl 31 1 3 [.bool false, .str ⟨⟨[]⟩⟩, .nilsl] [(0, 3, .t 42)], 8188, true⟩, ⟨some 44, none, .mk [.i 0, .bool false, .bool false, .str ⟨⟨[]⟩⟩, .nilsl, .nilsl] [(3, 1, .t 33), (5, 1, .t 43)], 16380, true⟩, ⟨some 45, none, .vsl 34 1 6 [.i 0, .bool false, .bool false, .str ⟨⟨[]⟩⟩, .nilsl, .nilsl] [(0, 6, .t 44)], 32764, true⟩, ⟨some 46, none, .vapp 34 6 80 [.i 0, .bool false, .bool false, .str ⟨⟨[]⟩⟩, .nilsl, .nilsl] (.t 31) (.t 45), 65535, true⟩, ⟨some 47, none, .fad 5 (.t 7), 131071, true⟩, ⟨none, none, .st 1 (.t 47) (.t 46), 262143, true⟩]
def p10_17 : K := .seq p10_15 p10_16
def p10_18 : K := .seq p10_6 p10_17
def p10_19 : K := .block 1 p10_18
def p10_20 : K := .reg [o 14 (.mov (.t 8)), o 15 (.bin .add .none (.t 14) (.k (.i 1))), o 8 (.mov (.t 15))]
def p10_21 : K := .seq p10_19 p10_20
def p10_22 : K := .seq p10_5 p10_21
def p10_23 : K := .loop p10_22
def p10_24 : K := .block 0 p10_23
def p10_25 : K := .seq p10_2 p10_24
def p10_26 : K := .reg [o 48 (.ldn 9 (.t 7)), o 49 (.vsl 41 1 9 [.i 0, .str ⟨⟨[]⟩⟩, .i 0, .nilsl, .nilsl, .nilsl, .nilsl, .nilsl, .nilsl] [(0, 9, .t 48)]), o 6 (.mov (.t 49))]
def p10_27 : K := .seq p10_26 .ret
def p10_28 : K := .seq p10_25 p10_27
def p10_29 : K := .seq p10_1 p10_28
def p10_30 : K := .seq p10_0 p10_29
def cf10 : CF := { nt := 50, body := p10_30, res := [.tmp 6] }
theorem ok10 : comp Try.prog modeF [] [] Try.f10 = some cf10 := by kernel_rfl
def p11_0 : K := .reg [o 3 (.box 24 (.t 1)), o 4 (.mov (.k (.i 0)))]
def p11_1 : K := .reg [o 10 (.mov (.t 0)), o 11 (.nilc (.t 10)), o 12 (.fad 2 (.t 11)), o 13 (.ld1 (.t 12)), o 14 (.mkf 20 [] [.t 3]), o 15 (.call 19 [.t 13, .t 14])]
def p11_2 : K := .drg [o 16 (.mov (.k (.tup []))), o 17 (.mov (.k (.tup []))), o 18 (.mov (.k (.tup []))), o 19 (.mov (.k (.tup []))), o 20 (.mov (.k (.tup []))), o 21 (.mov (.k (.tup []))), o 22 (.mov (.k (.tup []))), o 23 (.mov (.k (.tup []))), o 24 (.mov (.k (.tup []))), o 25 (.mov (.k (.tup []))), o 26 (.mov (.k (.tup []))), o 27 (.mov (.k (.tup []))), o 28 (.mov (.k (.tup []))), o 29 (.mov (.k (.tup []))), o 30 (.mov (.k (.tup []))), o 31 (.mov (.k (.tup []))), o 32 (.mov (.k (.tup []))), o 33 (.mov (.k (.tup []))), o 34 (.mov (.k (.tup []))), o 35 (.mov (.k (.tup []))), o 36 (.mov (.k (.tup []))), o 37 (.mov (.k (.tup []))), o 38 (.mov (.k (.tup [])))]
def p11_3 : K := .drg [⟨some 29, none, .mov (.t 0), 0, true⟩, ⟨some 30, none, .mov (.t 0), 0, true⟩, ⟨some 31, none, .nilc (.t 30), 2, true⟩, ⟨some 32, none, .fad 2 (.t 31), 6, true⟩, ⟨some 33, none, .ld1 (.t 32), 14, true⟩, ⟨some 34, none, .ldn 2 (.t 3), 0, true⟩, ⟨some 35, none, .wsl 1 [.str ⟨⟨[]⟩⟩, .nilsl] [(0, 2, .t 34)], 32, true⟩, ⟨some 36, none, .app 24 2 40 [.str ⟨⟨[]⟩⟩, .nilsl] (.t 33) (.t 35), 126, true⟩, ⟨some 37, none, .nilc (.t 29), 255, true⟩, ⟨some 38, none, .fad 2 (.t 37), 511, true⟩, ⟨none, none, .st 1 (.t 38) (.t 36), 1023, true⟩]
def p11_4 : K := .reg [o 16 (.ldn 2 (.t 3)), ⟨none, none, .str 1 (.t 0) [.t 3] (.t 38) (.t 36), 0, false⟩, o 16 (.mov (.k (.tup []))), o 17 (.mov (.k (.tup []))), o 18 (.mov (.k (.tup []))), o 19 (.mov (.k (.tup []))), o 20 (.mov (.k (.tup []))), o 21 (.mov (.k (.tup []))), o 22 (.mov (.k (.tup []))), o 23 (.mov (.k (.tup []))), o 24 (.mov (.k (.tup []))), o 25 (.mov (.k (.tup []))), o 26 (.mov (.k (.tup []))), o 27 (.mov (.k (.tup []))), o 28 (.mov (.k (.tup []))), o 29 (.mov (.k (.tup []))), o 30 (.mov (.k (.tup []))), o 31 (.mov (.k (.tup []))), o 32 (.mov (.k (.tup []))), o 33 (.mov (.k (.tup []))), o 34 (.mov (.k (.tup []))), o 35 (.mov (.k (.tup []))), o 36 (.mov (.k (.tup []))), o 37 (.mov (.k (.tup []))), o 38 (.mov (.k (.tup [])))]
def p11_5 : K := .seq p11_3 p11_4
def p11_6 : K := .seq p11_2 p11_5
def p11_7 : K := .block 1000000007 p11_6
def p11_8 : K := .reg [o 4 (.mov (.k (.i 18)))]
def p11_9 : K := .seq p11_8 .ret
def p11_10 : K := .seq p11_7 p11_9
def p11_11 : K := .cond (.t 15) p11_10 .skip
def p11_12 : K := .seq p11_1 p11_11
def p11_13 : K := .reg [o 40 (.mov (.t 0)), o 41 (.ldn 2 (.t 3)), o 42 (.call 12 [.t 40, .t 41]), o 39 (.mov (.t 42)), o 43 (.ext (.t 39) 0), o 44 (.ext (.t 39) 1), o 5 (.mov (.t 43)), o 6 (.mov (.t 44))]
def p11_14 : K := .reg [o 45 (.mov (.t 5)), o 46 (.un .not (.t 45))]
def p11_15 : K := .reg [o 47 (.mov (.t 6)), o 4 (.mov (.t 47))]
def p11_16 : K := .seq p11_15 .ret
def p11_17 : K := .cond (.t 46) p11_16 .skip
def p11_18 : K := .seq p11_14 p11_17
def p11_19 : K := .drg [⟨some 49, none, .mov (.t 0), 0, true⟩, ⟨some 50, none, .nilc (.t 49), 1, true⟩, ⟨some 51, none, .fad 0 (.t 50), 3, true⟩, ⟨some 52, none, .ld1 (.t 51), 7, true⟩, ⟨some 53, none, .ldn 2 (.t 3), 0, true⟩, ⟨some 54, none, .call 13 [.t 52, .t 53, .k (.bool false)], 31, true⟩, ⟨some 48, none, .mov (.t 54), 63, true⟩, ⟨some 55, none, .ext (.t 48) 0, 127, true⟩, ⟨some 56, none, .ext (.t 48) 1, 127, true⟩, ⟨some 7, none, .mov (.t 55), 255, true⟩, ⟨some 6, none, .mov (.t 56), 1023, true⟩]
def p11_20 : K := .reg [o 57 (.mov (.t 6)), o 58 (.bin .neq .none (.t 57) (.k (.i 0)))]
def p11_21 : K := .reg [o 59 (.mov (.t 6)), o 4 (.mov (.t 59))]
def p11_22 : K := .seq p11_21 .ret
def p11_23 : K := .cond (.t 58) p11_22 .skip
def p11_24 : K := .seq p11_20 p11_23
def p11_25 : K := .drg [o 60 (.mov (.k (.tup []))), o 61 (.mov (.k (.tup []))), o 62 (.mov (.k (.tup []))), o 63 (.mov (.k (.tup []))), o 64 (.mov (.k (.tup []))), o 65 (.mov (.k (.tup []))), o 66 (.mov (.k (.tup []))), o 67 (.mov (.k (.tup []))), o 68 (.mov (.k (.tup []))), o 69 (.mov (.k (.tup []))), o 70 (.mov (.k (.tup []))), o 71 (.mov (.k (.tup []))), o 72 (.mov (.k (.tup []))), o 73 (.mov (.k (.tup []))), o 74 (.mov (.k (.tup []))), o 75 (.mov (.k (.tup []))), o 76 (.mov (.k (.tup []))), o 77 (.mov (.k (.tup []))), o 78 (.mov (.k (.tup []))), o 79 (.mov (.k (.tup []))), o 80 (.mov (.k (.tup []))), o 81 (.mov (.k (.tup []))), o 82 (.mov (.k (.tup [])))]
def p11_26 : K := .drg [⟨some 73, none, .mov (.t 0), 0, true⟩, ⟨some 74, none, .mov (.t 0), 0, true⟩, ⟨some 75, none, .nilc (.t 74), 2, true⟩, ⟨some 76, none, .fad 2 (.t 75), 6, true⟩, ⟨some 77, none, .ld1 (.t 76), 14, true⟩, ⟨some 78, none, .ldn 2 (.t 3), 0, true⟩, ⟨some 79, none, .wsl 1 [.str ⟨⟨[]⟩⟩, .nilsl] [(0, 2, .t 78)], 32, true⟩, ⟨some 80, none, .app 24 2 40 [.str ⟨⟨[]⟩⟩, .nilsl] (.t 77) (.t 79), 126, true⟩, ⟨some 81, none, .nilc (.t 73), 255, true⟩, ⟨some 82, none, .fad 2 (.t 81), 511, true⟩, ⟨none, none, .st 1 (.t 82) (.t 80), 1023, true⟩]
def p11_27 : K := .reg [o 60 (.ldn 2 (.t 3)), ⟨none, none, .str 1 (.t 0) [.t 3] (.t 82) (.t 80), 0, false⟩, o 60 (.mov (.k (.tup []))), o 61 (.mov (.k (.tup []))), o 62 (.mov (.k (.tup []))), o 63 (.mov (.k (.tup []))), o 64 (.mov (.k (.tup []))), o 65 (.mov (.k (.tup []))), o 66 (.mov (.k (.tup []))), o 67 (.mov (.k (.tup []))), o 68 (.mov (.k (.tup []))), o 69 (.mov (.k (.tup []))), o 70 (.mov (.k (.tup []))), o 71 (.mov (.k (.tup []))), o 72 (.mov (.k (.tup []))), o 73 (.mov (.k (.tup []))), o 74 (.mov (.k (.tup []))), o 75 (.mov (.k (.tup []))), o 76 (.mov (.k (.tup []))), o 77 (.mov (.k (.tup []))), o 78 (.mov (.k (.tup []))), o 79 (.mov (.k (.tup []))), o 80 (.mov (.k (.tup []))), o 81 (.mov (.k (.tup []))), o 82 (.mov (.k (.tup [])))]
def p11_28 : K := .seq p11_26 p11_27
def p11_29 : K := .seq p11_25 p11_28
def p11_30 : K := .block 1000000007 p11_29
def p11_31 : K := .reg [o 83 (.mov (.t 7)), o 84 (.len (.t 83)), o 85 (.mov (.k (.i 0)))]
def p11_32 : K := .reg [o 86 (.bin .lss .none (.t 85) (.t 84))]
def p11_33 : K := .cond (.t 86) .skip (.exit 0)
def p11_34 : K := .reg [o 87 (.ixs 2 (.t 83) (.t 85)), o 88 (.ldn 2 (.t 87)), o 9 (.new 24 [.str ⟨⟨[]⟩⟩, .nilsl]), ⟨none, none, .st 2 (.t 9) (.t 88), 0, false⟩]
def p11_35 : K := .reg [o 89 (.mov (.t 0)), o 90 (.ldn 2 (.t 9)), o 91 (.call 11 [.t 89, .t 90]), o 6 (.mov (.t 91))]
def p11_36 : K := .reg [o 92 (.mov (.t 6)), o 93 (.bin .neq .none (.t 92) (.k (.i 0)))]
def p11_37 : K := .reg [o 94 (.mov (.t 6)), o 4 (.mov (.t 94))]
def p11_38 : K := .seq p11_37 .ret
def p11_39 : K := .cond (.t 93) p11_38 .skip
def p11_40 : K := .seq p11_36 p11_39
def p11_41 : K := .seq p11_35 p11_40
def p11_42 : K := .seq p11_34 p11_41
def p11_43 : K := .block 1 p11_42
def p11_44 : K := .reg [o 95 (.bin .add .none (.t 85) (.k (.i 1))), o 85 (.mov (.t 95))]
def p11_45 : K := .seq p11_43 p11_44
def p11_46 : K := .seq p11_33 p11_45
def p11_47 : K := .seq p11_32 p11_46
def p11_48 : K := .loop p11_47
def p11_49 : K := .block 0 p11_48
def p11_50 : K := .seq p11_31 p11_49
def p11_51 : K := .drg [⟨some 96, none, .mov (.t 0), 0, true⟩, ⟨some 97, none, .mov (.t 0), 0, true⟩, ⟨some 98, none, .nilc (.t 97), 2, true⟩, ⟨some 99, none, .fad 2 (.t 98), 6, true⟩, ⟨some 100, none, .ld1 (.t 99), 14, true⟩, ⟨some 101, none, .mov (.t 0), 0, true⟩, ⟨some 102, none, .nilc (.t 101), 32, true⟩, ⟨some 103, none, .fad 2 (.t 102), 96, true⟩, ⟨some 104, none, .ld1 (.t 103), 224, true⟩, ⟨some 105, none, .len (.t 104), 480, true⟩, ⟨some 106, none, .bin .sub .none (.t 105) (.k (.i 1)), 992, true⟩, ⟨some 107, none, .slsl 2 (.t 100) none (some (.t 106)), 2046, true⟩, ⟨some 108, none, .nilc (.t 96), 4095, true⟩, ⟨some 109, none, .fad 2 (.t 108), 8191, true⟩, ⟨none, none, .st 1 (.t 109) (.t 107), 16383, true⟩]
def p11_52 : K := .drg [⟨some 110, none, .mov (.t 0), 0, true⟩, ⟨some 111, none, .nilc (.t 110), 1, true⟩, ⟨some 112, none, .fad 3 (.t 111), 3, true⟩, ⟨some 113, none, .ld1 (.t 112), 7, true⟩, ⟨some 114, none, .ldn 2 (.t 3), 0, true⟩, ⟨some 115, none, .call 14 [.t 114], 16, true⟩, ⟨some 116, none, .len (.t 113), 15, true⟩, ⟨some 117, none, .mksl 24 1 2 [.str ⟨⟨[]⟩⟩, .nilsl] [(0, 2, .k (.agg [.str ⟨⟨[]⟩⟩, .nilsl]))], 0, true⟩, ⟨some 118, none, .app 24 2 40 [.str ⟨⟨[]⟩⟩, .nilsl] (.t 113) (.t 117), 255, true⟩, ⟨some 119, none, .ixs 2 (.t 118) (.t 116), 511, true⟩, ⟨none, none, .str 2 (.t 118) [.t 0] (.t 119) (.t 115), 1023, true⟩, ⟨some 120, none, .nilc (.t 110), 511, true⟩, ⟨some 121, none, .fad 3 (.t 120), 2559, true⟩, ⟨none, none, .str 1 (.t 0) [] (.t 121) (.t 118), 6655, true⟩]
def p11_53 : K := .reg [o 4 (.mov (.k (.i 0)))]
def p11_54 : K := .seq p11_53 .ret
def p11_55 : K := .seq p11_52 p11_54
def p11_56 : K := .seq p11_51 p11_55
def p11_57 : K := .seq p11_50 p11_56
def p11_58 : K := .seq p11_30 p11_57
def p11_59 : K := .seq p11_24 p11_58
def p11_60 : K := .seq p11_19 p11_59
def p11_61 : K := .seq p11_18 p11_60
def p11_62 : K := .seq p11_13 p11_61
def p11_63 : K := .seq p11_12 p11_62
def p11_64 : K := .seq p11_0 p11_63
def cf11 : CF := { nt := 122, body := p11_64, res := [.tmp 4] }
theorem ok11 : comp Try.prog modeF [24] [(1000025, 999999, 10, 118), (1000025, 10, 999999, 0), (1000025, 999999, 13, 0)] Try.f11 = some cf11 := by kernel_rfl
def p12_0 : K := .reg [o 3 (.box 24 (.t 1)), o 4 (.mov (.k (.bool false))), o 5 (.mov (.k (.i 0)))]
def p12_1 : K := .reg [o 7 (.ldn 2 (.t 3)), o 8 (.call 21 [.t 7]), o 6 (.mov (.t 8))]
def p12_2 : K := .reg [o 9 (.mov (.t 0)), o 10 (.nilc (.t 9)), o 11 (.fad 1 (.t 10)), o 12 (.ld1 (.t 11)), o 13 (.mov (.t 6)), o 14 (.lkp .string false (.bool false) (.t 12) (.t 13))]
def p12_3 : K := .reg [o 4 (.mov (.k (.bool false))), o 5 (.mov (.k (.i 0)))]
def p12_4 : K := .seq p12_3 .ret
def p12_5 : K := .cond (.t 14) p12_4 .skip
def p12_6 : K := .seq p12_2 p12_5
def p12_7 : K := .reg [o 15 (.mov (.t 0)), o 16 (.nilc (.t 15)), o 17 (.fad 1 (.t 16)), o 18 (.ld1 (.t 17)), o 19 (.lenm (.t 18)), o 20 (.bin .eql .none (.t 19) (.k (.i 300)))]
def p12_8 : K := .reg [o 4 (.mov (.k (.bool false))), o 5 (.mov (.k (.i 4)))]
def p12_9 : K := .seq p12_8 .ret
def p12_10 : K := .cond (.t 20) p12_9 .skip
def p12_11 : K := .seq p12_7 p12_10
def p12_12 : K := .reg [o 21 (.mov (.t 0)), o 22 (.nilc (.t 21)), o 23 (.fad 1 (.t 22)), o 24 (.ld1 (.t 23)), o 25 (.mov (.t 6)), ⟨none, none, .mset .string (.t 24) (.t 25) (.k (.bool true)), 0, false⟩]
def p12_13 : K := .reg [o 4 (.mov (.k (.bool true))), o 5 (.mov (.k (.i 0)))]
def p12_14 : K := .seq p12_13 .ret
def p12_15 : K := .seq p12_12 p12_14
def p12_16 : K := .seq p12_11 p12_15
def p12_17 : K := .seq p12_6 p12_16
def p12_18 : K := .seq p12_1 p12_17
def p12_19 : K := .seq p12_0 p12_18
def cf12 : CF := { nt := 26, body := p12_19, res := [.tmp 4, .tmp 5] }
theorem ok12 : comp Try.prog modeF [] [] Try.f12 = some cf12 := by kernel_rfl
def p13_0 : K := .reg [o 4 (.box 24 (.t 1)), o 6 (.mov (.k .nilsl)), o 7 (.mov (.k (.i 0)))]
def p13_1 : K := .reg [o 20 (.ldn 2 (.t 4)), o 21 (.call 22 [.t 20]), o 22 (.un .not (.t 21))]
def p13_2 : K := .reg [o 6 (.mov (.k .nilsl)), o 7 (.mov (.k (.i 19)))]
def p13_3 : K := .seq p13_2 .ret
def p13_4 : K := .cond (.t 22) p13_3 .skip
def p13_5 : K := .seq p13_1 p13_4
def p13_6 : K := .reg [o 23 (.fad 0 (.t 4)), o 24 (.ld1 (.t 23)), o 25 (.call 23 [.t 24])]
def p13_7 : K := .reg [o 8 (.mov (.k (.i 0)))]
def p13_8 : K := .reg [o 26 (.fad 0 (.t 4)), o 27 (.ld1 (.t 26)), o 28 (.bin .eql .none (.t 27) (.k (.str ⟨⟨[65, 114, 114, 97, 121]⟩⟩)))]
def p13_9 : K := .reg [o 8 (.mov (.k (.i 1)))]
def p13_10 : K := .cond (.t 28) p13_9 .skip
def p13_11 : K := .seq p13_8 p13_10
def p13_12 : K := .reg [o 29 (.fad 1 (.t 4)), o 30 (.ld1 (.t 29)), o 31 (.len (.t 30)), o 32 (.mov (.t 8)), o 33 (.bin .neq .none (.t 31) (.t 32))]
def p13_13 : K := .reg [o 6 (.mov (.k .nilsl)), o 7 (.mov (.k (.i 9)))]
def p13_14 : K := .seq p13_13 .ret
def p13_15 : K := .cond (.t 33) p13_14 .skip
def p13_16 : K := .seq p13_12 p13_15
def p13_17 : K := .reg [o 34 (.mov (.t 2)), o 35 (.mov (.t 34)), ⟨some 36, some (35, true), .mov (.t 8), 0, false⟩, ⟨some 37, some (35, true), .bin .eql .none (.t 36) (.k (.i 1)), 0, false⟩, o 38 (.pick (.t 35) (.t 37) (.k (.bool false)))]
def p13_18 : K := .reg [o 40 (.fad 1 (.t 4)), o 41 (.ld1 (.t 40)), o 42 (.ixs 2 (.t 41) (.k (.i 0))), o 43 (.ldn 2 (.t 42)), o 44 (.call 24 [.t 43, .k .nilsl, .k .nilsl]), o 39 (.mov (.t 44)), o 45 (.ext (.t 39) 0), o 46 (.ext (.t 39) 1), o 9 (.new 24 [.str ⟨⟨[]⟩⟩, .nilsl]), ⟨none, none, .st 2 (.t 9) (.t 45), 0, false⟩, o 10 (.mov (.t 46))]
def p13_19 : K := .reg [o 47 (.ldn 2 (.t 9)), o 48 (.vsl 24 1 2 [.str ⟨⟨[]⟩⟩, .nilsl] [(0, 2, .t 47)]), o 6 (.mov (.t 48)), o 7 (.mov (.k (.i 0)))]
def p13_20 : K := .seq p13_19 .ret
def p13_21 : K := .seq p13_18 p13_20
def p13_22 : K := .cond (.t 38) p13_21 .skip
def p13_23 : K := .seq p13_17 p13_22
def p13_24 : K := .reg [o 6 (.mov (.k .nilsl)), o 7 (.mov (.k (.i 0)))]
def p13_25 : K := .seq p13_24 .ret
def p13_26 : K := .seq p13_23 p13_25
def p13_27 : K := .seq p13_16 p13_26
def p13_28 : K := .seq p13_11 p13_27
def p13_29 : K := .seq p13_7 p13_28
def p13_30 : K := .cond (.t 25) p13_29 .skip
def p13_31 : K := .seq p13_6 p13_30
def p13_32 : K := .reg [o 50 (.mov (.t 0)), o 51 (.fad 0 (.t 4)), o 52 (.ld1 (.t 51)), o 53 (.mov (.t 2)), o 54 (.call 25 [.t 50, .t 52, .t 53]), o 49 (.mov (.t 54)), o 55 (.ext (.t 49) 0), o 56 (.ext (.t 49) 1), o 57 (.ext (.t 49) 2), o 58 (.ext (.t 49) 3), o 11 (.mov (.t 55)), o 12 (.mov (.t 56)), o 13 (.mov (.t 57)), o 14 (.mov (.t 58))]
def p13_33 : K := .reg [o 60 (.mov (.t 14)), o 61 (.un .not (.t 60)), o 59 (.mov (.t 61))]
def p13_34 : K := .reg [o 6 (.mov (.k .nilsl)), o 7 (.mov (.k (.i 6)))]
def p13_35 : K := .seq p13_34 .ret
def p13_36 : K := .reg [o 63 (.mov (.t 12)), o 64 (.len (.t 63)), o 65 (.fad 1 (.t 4)), o 66 (.ld1 (.t 65)), o 67 (.len (.t 66)), o 68 (.bin .neq .none (.t 64) (.t 67)), o 62 (.mov (.t 68))]
def p13_37 : K := .reg [o 6 (.mov (.k .nilsl)), o 7 (.mov (.k (.i 9)))]
def p13_38 : K := .seq p13_37 .ret
def p13_39 : K := .reg [o 70 (.mov (.t 13)), o 71 (.un .not (.t 70)), o 69 (.mov (.t 71))]
def p13_40 : K := .reg [o 6 (.mov (.k .nilsl)), o 7 (.mov (.k (.i 15)))]
def p13_41 : K := .seq p13_40 .ret
def p13_42 : K := .cond (.t 69) p13_41 .skip
def p13_43 : K := .seq p13_39 p13_42
def p13_44 : K := .cond (.t 62) p13_38 p13_43
def p13_45 : K := .seq p13_36 p13_44
def p13_46 : K := .cond (.t 59) p13_35 p13_45
def p13_47 : K := .seq p13_33 p13_46
def p13_48 : K := .block 0 p13_47
def p13_49 : K := .reg [o 15 (.mov (.k .nilsl))]
def p13_50 : K := .reg [o 72 (.mov (.t 11)), o 73 (.len (.t 72)), o 74 (.mov (.k (.i 0)))]
def p13_51 : K := .reg [o 75 (.bin .lss .none (.t 74) (.t 73))]
def p13_52 : K := .cond (.t 75) .skip (.exit 1)
def p13_53 : K := .reg [o 76 (.ixs 2 (.t 72) (.t 74)), o 77 (.ldn 2 (.t 76)), o 17 (.new 24 [.str ⟨⟨[]⟩⟩, .nilsl]), ⟨none, none, .st 2 (.t 17) (.t 77), 0, false⟩]
def p13_54 : K := .reg [o 79 (.ldn 2 (.t 17)), o 80 (.mov (.t 12)), o 81 (.fad 1 (.t 4)), o 82 (.ld1 (.t 81)), o 83 (.call 24 [.t 79, .t 80, .t 82]), o 78 (.mov (.t 83)), o 84 (.ext (.t 78) 0), o 85 (.ext (.t 78) 1), o 18 (.new 24 [.str ⟨⟨[]⟩⟩, .nilsl]), ⟨none, none, .st 2 (.t 18) (.t 84), 0, false⟩, o 19 (.mov (.t 85))]
def p13_55 : K := .reg [o 86 (.mov (.t 19)), o 87 (.bin .neq .none (.t 86) (.k (.i 0)))]
def p13_56 : K := .reg [o 88 (.mov (.t 19)), o 6 (.mov (.k .nilsl)), o 7 (.mov (.t 88))]
def p13_57 : K := .seq p13_56 .ret
def p13_58 : K := .cond (.t 87) p13_57 .skip
def p13_59 : K := .seq p13_55 p13_58
def p13_60 : K := .reg [o 89 (.mov (.t 15)), o 90 (.mkf 26 [] [.t 18]), o 91 (.call 19 [.t 89, .t 90]), o 92 (.un .not (.t 91))]
def p13_61 : K := .reg [o 93 (.mov (.t 15)), o 94 (.ldn 2 (.t 18)), o 95 (.vsl 24 1 2 [.str ⟨⟨[]⟩⟩, .nilsl] [(0, 2, .t 94)]), o 96 (.vapp 24 2 40 [.str ⟨⟨[]⟩⟩, .nilsl] (.t 93) (.t 95)), o 15 (.mov (.t 96))]
def p13_62 : K := .cond (.t 92) p13_61 .skip
def p13_63 : K := .seq p13_60 p13_62
def p13_64 : K := .seq p13_59 p13_63
def p13_65 : K := .seq p13_54 p13_64
def p13_66 : K := .seq p13_53 p13_65
def p13_67 : K := .block 2 p13_66
def p13_68 : K := .reg [o 97 (.bin .add .none (.t 74) (.k (.i 1))), o 74 (.mov (.t 97))]
def p13_69 : K := .seq p13_67 p13_68
def p13_70 : K := .seq p13_52 p13_69
def p13_71 : K := .seq p13_51 p13_70
def p13_72 : K := .loop p13_71
def p13_73 : K := .block 1 p13_72
def p13_74 : K := .seq p13_50 p13_73
def p13_75 : K := .reg [o 98 (.mov (.t 15)), o 6 (.mov (.t 98)), o 7 (.mov (.k (.i 0)))]
def p13_76 : K := .seq p13_75 .ret
def p13_77 : K := .seq p13_74 p13_76
def p13_78 : K := .seq p13_49 p13_77
def p13_79 : K := .seq p13_48 p13_78
def p13_80 : K := .seq p13_32 p13_79
def p13_81 : K := .seq p13_31 p13_80
def p13_82 : K := .seq p13_5 p13_81
def p13_83 : K := .seq p13_0 p13_82
def cf13 : CF := { nt := 99, body := p13_83, res := [.tmp 6, .tmp 7] }
theorem ok13 : comp Try.prog modeF [] [] Try.f13 = some cf13 := by kernel_rfl
def p14_0 : K := .reg [o 1 (.box 24 (.t 0)), o 2 (.new 24 [.str ⟨⟨[]⟩⟩, .nilsl])]
def p14_1 : K := .reg [o 6 (.fad 0 (.t 1)), o 7 (.ld1 (.t 6)), o 8 (.mk [.str ⟨⟨[]⟩⟩, .nilsl] [(0, 1, .t 7)]), o 3 (.new 24 [.str ⟨⟨[]⟩⟩, .nilsl]), ⟨none, none, .st 2 (.t 3) (.t 8), 0, false⟩]
def p14_2 : K := .reg [o 9 (.fad 1 (.t 1)), o 10 (.ld1 (.t 9)), o 11 (.len (.t 10)), o 12 (.mov (.k (.i 0)))]
def p14_3 : K := .reg [o 13 (.bin .lss .none (.t 12) (.t 11))]
def p14_4 : K := .cond (.t 13) .skip (.exit 0)
def p14_5 : K := .reg [o 14 (.ixs 2 (.t 10) (.t 12)), o 15 (.ldn 2 (.t 14)), o 5 (.new 24 [.str ⟨⟨[]⟩⟩, .nilsl]), ⟨none, none, .st 2 (.t 5) (.t 15), 0, false⟩]
def p14_6 : K := .drg [⟨some 16, none, .fad 1 (.t 3), 0, true⟩, ⟨some 17, none, .ld1 (.t 16), 1, true⟩, ⟨some 18, none, .ldn 2 (.t 5), 0, true⟩, ⟨some 19, none, .call 14 [.t 18], 4, true⟩, ⟨some 20, none, .vsl 24 1 2 [.str ⟨⟨[]⟩⟩, .nilsl] [(0, 2, .t 19)], 12, true⟩, ⟨some 21, none, .vapp 24 2 40 [.str ⟨⟨[]⟩⟩, .nilsl] (.t 17) (.t 20), 31, true⟩, ⟨some 22, none, .fad 1 (.t 3), 63, true⟩, ⟨none, none, .st 1 (.t 22) (.t 21), 127, true⟩]
def p14_7 : K := .seq p14_5 p14_6
def p14_8 : K := .block 1 p14_7
def p14_9 : K := .reg [o 23 (.bin .add .none (.t 12) (.k (.i 1))), o 12 (.mov (.t 23))]
def p14_10 : K := .seq p14_8 p14_9
def p14_11 : K := .seq p14_4 p14_10
def p14_12 : K := .seq p14_3 p14_11
def p14_13 : K := .loop p14_12
def p14_14 : K := .block 0 p14_13
def p14_15 : K := .seq p14_2 p14_14
def p14_16 : K := .reg [o 24 (.ldn 2 (.t 3)), ⟨none, none, .st 2 (.t 2) (.t 24), 0, false⟩]
def p14_17 : K := .seq p14_16 .ret
def p14_18 : K := .seq p14_15 p14_17
def p14_19 : K := .seq p14_1 p14_18
def p14_20 : K := .seq p14_0 p14_19
def cf14 : CF := { nt := 25, body := p14_20, res := [.cell 2 2 true] }
theorem ok14 : comp Try.prog modeF [] [] Try.f14 = some cf14 := by kernel_rfl
def p15_0 : K := .reg [o 4 (.mov (.k (.i 0)))]
def p15_1 : K := .reg [o 6 (.mov (.t 0)), o 7 (.len (.t 6)), o 8 (.mov (.k (.i 0)))]
def p15_2 : K := .reg [o 9 (.bin .lss .none (.t 8) (.t 7))]
def p15_3 : K := .cond (.t 9) .skip (.exit 0)
def p15_4 : K := .reg [o 10 (.mov (.t 8)), o 5 (.mov (.t 10))]
def p15_5 : K := .reg [o 11 (.mov (.t 1)), o 12 (.mov (.t 0)), o 13 (.mov (.t 5)), o 14 (.ixs 2 (.t 12) (.t 13)), o 15 (.ldn 2 (.t 14)), o 16 (.callv (.t 11) [.t 15])]
def p15_6 : K := .reg [o 17 (.mov (.t 5)), o 4 (.mov (.t 17))]
def p15_7 : K := .seq p15_6 .ret
def p15_8 : K := .cond (.t 16) p15_7 .skip
def p15_9 : K := .seq p15_5 p15_8
def p15_10 : K := .seq p15_4 p15_9
def p15_11 : K := .block 1 p15_10
def p15_12 : K := .reg [o 18 (.bin .add .none (.t 8) (.k (.i 1))), o 8 (.mov (.t 18))]
def p15_13 : K := .seq p15_11 p15_12
def p15_14 : K := .seq p15_3 p15_13
def p15_15 : K := .seq p15_2 p15_14
def p15_16 : K := .loop p15_15
def p15_17 : K := .block 0 p15_16
def p15_18 : K := .seq p15_1 p15_17
def p15_19 : K := .reg [o 4 (.mov (.k (.i (-1))))]
def p15_20 : K := .seq p15_19 .ret
def p15_21 : K := .seq p15_18 p15_20
def p15_22 : K := .seq p15_0 p15_21
def cf15 : CF := { nt := 19, body := p15_22, res := [.tmp 4] }
theorem ok15 : comp Try.prog modeF [] [] Try.f15 = some cf15 := by kernel_rfl
def p16_0 : K := .reg [o 2 (.box 24 (.t 0)), o 3 (.mov (.k (.bool false)))]
def p16_1 : K := .reg [o 4 (.ldn 2 (.t 2)), o 5 (.ldn 2 (.t 1)), o 6 (.call 17 [.t 4, .t 5]), o 3 (.mov (.t 6))]
def p16_2 : K := .seq p16_1 .ret
def p16_3 : K := .seq p16_0 p16_2
def cf16 : CF := { nt := 7, body := p16_3, res := [.tmp 3] }
theorem ok16 : comp Try.prog modeF [] [] Try.f16 = some cf16 := by kernel_rfl
def p17_0 : K := .reg [o 2 (.box 24 (.t 0)), o 3 (.box 24 (.t 1)), o 4 (.mov (.k (.bool false)))]
def p17_1 : K := .reg [o 5 (.fad 0 (.t 2)), o 6 (.ld1 (.t 5)), o 7 (.fad 0 (.t 3)), o 8 (.ld1 (.t 7)), o 9 (.bin .eql .none (.t 6) (.t 8)), o 10 (.mov (.t 9)), ⟨some 11, some (10, true), .fad 1 (.t 2), 0, false⟩, ⟨some 12, some (10, true), .ld1 (.t 11), 0, false⟩, ⟨some 13, some (10, true), .fad 1 (.t 3), 0, false⟩, ⟨some 14, some (10, true), .ld1 (.t 13), 0, false⟩, ⟨some 15, some (10, true), .call 27 [.t 12, .t 14, .k (.fn 17 [] [])], 0, false⟩, o 16 (.pick (.t 10) (.t 15) (.k (.bool false))), o 4 (.mov (.t 16))]
def p17_2 : K := .seq p17_1 .ret
def p17_3 : K := .seq p17_0 p17_2
def cf17 : CF := { nt := 17, body := p17_3, res := [.tmp 4] }
theorem ok17 : comp Try.prog modeF [] [] Try.f17 = some cf17 := by kernel_rfl
def p18_0 : K := .reg [o 2 (.mov (.k (.str ⟨⟨[]⟩⟩)))]
def p18_1 : K := .reg [o 3 (.mov (.t 0)), o 4 (.bin .rem .none (.t 3) (.k (.i 26))), o 5 (.bin .add .none (.k (.i 97)) (.t 4)), o 6 (.cvi .u8 (.t 5)), o 7 (.vsl 5 1 1 [.int .u8 0] [(0, 1, .t 6)]), o 8 (.b2s (.t 7)), o 9 (.bin .add .none (.k (.str ⟨⟨[85]⟩⟩)) (.t 8)), o 2 (.mov (.t 9))]
def p18_2 : K := .seq p18_1 .ret
def p18_3 : K := .seq p18_0 p18_2
def cf18 : CF := { nt := 10, body := p18_3, res := [.tmp 2] }
theorem ok18 : comp Try.prog modeF [] [] Try.f18 = some cf18 := by kernel_rfl
def p19_0 : K := .reg [o 4 (.mov (.k (.bool false)))]
def p19_1 : K := .reg [o 5 (.mov (.t 0)), o 6 (.mov (.t 1)), o 7 (.call 15 [.t 5, .t 6]), o 8 (.bin .geq .none (.t 7) (.k (.i 0))), o 4 (.mov (.t 8))]
def p19_2 : K := .seq p19_1 .ret
def p19_3 : K := .seq p19_0 p19_2
def cf19 : CF := { nt := 9, body := p19_3, res := [.tmp 4] }
theorem ok19 : comp Try.prog modeF [] [] Try.f19 = some cf19 := by kernel_rfl
def p20_0 : K := .reg [o 2 (.box 24 (.t 0)), o 3 (.mov (.k (.bool false)))]
def p20_1 : K := .reg [o 4 (.ldn 2 (.t 1)), o 5 (.ldn 2 (.t 2)), o 6 (.call 17 [.t 4, .t 5]), o 3 (.mov (.t 6))]
def p20_2 : K := .seq p20_1 .ret
def p20_3 : K := .seq p20_0 p20_2
def cf20 : CF := { nt := 7, body := p20_3, res := [.tmp 3] }
theorem ok20 : comp Try.prog modeF [] [] Try.f20 = some cf20 := by kernel_rfl
def p21_0 : K := .reg [o 1 (.box 24 (.t 0)), o 2 (.mov (.k (.str ⟨⟨[]⟩⟩)))]
def p21_1 : K := .reg [o 6 (.fad 1 (.t 1)), o 7 (.ld1 (.t 6)), o 8 (.len (.t 7)), o 9 (.bin .eql .none (.t 8) (.k (.i 0)))]
def p21_2 : K := .reg [o 10 (.fad 0 (.t 1)), o 11 (.ld1 (.t 10)), o 2 (.mov (.t 11))]
def p21_3 : K := .seq p21_2 .ret
def p21_4 : K := .cond (.t 9) p21_3 .skip
def p21_5 : K := .seq p21_1 p21_4
def p21_6 : K := .reg [o 3 (.mov (.k .nilsl))]
def p21_7 : K := .reg [o 12 (.fad 1 (.t 1)), o 13 (.ld1 (.t 12)), o 14 (.len (.t 13)), o 15 (.mov (.k (.i 0)))]
def p21_8 : K := .reg [o 16 (.bin .lss .none (.t 15) (.t 14))]
def p21_9 : K := .cond (.t 16) .skip (.exit 0)
def p21_10 : K := .reg [o 17 (.ixs 2 (.t 13) (.t 15)), o 18 (.ldn 2 (.t 17)), o 5 (.new 24 [.str ⟨⟨[]⟩⟩, .nilsl]), ⟨none, none, .st 2 (.t 5) (.t 18), 0, false⟩]
def p21_11 : K := .reg [o 19 (.mov (.t 3)), o 20 (.ldn 2 (.t 5)), o 21 (.call 21 [.t 20]), o 22 (.vsl 9 1 1 [.str ⟨⟨[]⟩⟩] [(0, 1, .t 21)]), o 23 (.vapp 9 1 16 [.str ⟨⟨[]⟩⟩] (.t 19) (.t 22)), o 3 (.mov (.t 23))]
def p21_12 : K := .seq p21_10 p21_11
def p21_13 : K := .block 1 p21_12
def p21_14 : K := .reg [o 24 (.bin .add .none (.t 15) (.k (.i 1))), o 15 (.mov (.t 24))]
def p21_15 : K := .seq p21_13 p21_14
def p21_16 : K := .seq p21_9 p21_15
def p21_17 : K := .seq p21_8 p21_16
def p21_18 : K := .loop p21_17
def p21_19 : K := .block 0 p21_18
def p21_20 : K := .seq p21_7 p21_19
def p21_21 : K := .drg [⟨some 25, none, .fad 0 (.t 1), 0, true⟩, ⟨some 26, none, .ld1 (.t 25), 1, true⟩, ⟨some 27, none, .bin .add .none (.t 26) (.k (.str ⟨⟨[91]⟩⟩)), 3, true⟩, ⟨some 28, none, .mov (.t 3), 0, true⟩, ⟨some 29, none, .call 28 [.t 28, .k (.str ⟨⟨[44, 32]⟩⟩)], 8, true⟩, ⟨some 30, none, .bin .add .none (.t 27) (.t 29), 31, true⟩, ⟨some 31, none, .bin .add .none (.t 30) (.k (.str ⟨⟨[93]⟩⟩)), 63, true⟩, ⟨some 2, none, .mov (.t 31), 127, true⟩]
def p21_22 : K := .seq p21_21 .ret
def p21_23 : K := .seq p21_20 p21_22
def p21_24 : K := .seq p21_6 p21_23
def p21_25 : K := .seq p21_5 p21_24
def p21_26 : K := .seq p21_0 p21_25
def cf21 : CF := { nt := 32, body := p21_26, res := [.tmp 2] }
theorem ok21 : comp Try.prog modeF [] [] Try.f21 = some cf21 := by kernel_rfl
def p22_0 : K := .reg [o 1 (.box 24 (.t 0)), o 2 (.mov (.k (.bool false)))]
def p22_1 : K := .reg [o 3 (.fad 0 (.t 1)), o 4 (.ld1 (.t 3)), o 5 (.call 29 [.t 4]), o 6 (.un .not (.t 5)), o 7 (.mov (.t 6)), ⟨some 8, some (7, true), .fad 1 (.t 1), 0, false⟩, ⟨some 9, some (7, true), .ld1 (.t 8), 0, false⟩, ⟨some 10, some (7, true), .call 19 [.t 9, .k (.fn 30 [] [])], 0, false⟩, ⟨some 11, some (7, true), .un .not (.t 10), 0, false⟩, o 12 (.pick (.t 7) (.t 11) (.k (.bool false))), o 2 (.mov (.t 12))]
def p22_2 : K := .seq p22_1 .ret
def p22_3 : K := .seq p22_0 p22_2
def cf22 : CF := { nt := 13, body := p22_3, res := [.tmp 2] }
theorem ok22 : comp Try.prog modeF [] [] Try.f22 = some cf22 := by kernel_rfl
def p23_0 : K := .reg [o 2 (.mov (.k (.bool false)))]
def p23_1 : K := .reg [o 3 (.mov (.t 0)), o 4 (.bin .eql .none (.t 3) (.k (.str ⟨⟨[73, 110, 116]⟩⟩))), o 5 (.mov (.t 4)), ⟨some 6, some (5, false), .mov (.t 0), 0, false⟩, ⟨some 7, some (5, false), .bin .eql .none (.t 6) (.k (.str ⟨⟨[66, 121, 116, 101]⟩⟩)), 0, false⟩, o 8 (.pick (.t 5) (.k (.bool true)) (.t 7)), o 9 (.mov (.t 8)), ⟨some 10, some (9, false), .mov (.t 0), 0, false⟩, ⟨some 11, some (9, false), .bin .eql .none (.t 10) (.k (.str ⟨⟨[66, 111, 111, 108]⟩⟩)), 0, false⟩, o 12 (.pick (.t 9) (.k (.bool true)) (.t 11)), o 13 (.mov (.t 12)), ⟨some 14, some (13, false), .mov (.t 0), 0, false⟩, ⟨some 15, some (13, false), .bin .eql .none (.t 14) (.k (.str ⟨⟨[65, 114, 114, 97, 121]⟩⟩)), 0, false⟩, o 16 (.pick (.t 13) (.k (.bool true)) (.t 15)), o 2 (.mov (.t 16))]
def p23_2 : K := .seq p23_1 .ret
def p23_3 : K := .seq p23_0 p23_2
def cf23 : CF := { nt := 17, body := p23_3, res := [.tmp 2] }
theorem ok23 : comp Try.prog modeF [] [] Try.f23 = some cf23 := by kernel_rfl
def p24_0 : K := .reg [o 3 (.box 24 (.t 0)), o 6 (.new 24 [.str ⟨⟨[]⟩⟩, .nilsl]), o 7 (.mov (.k (.i 0)))]
def p24_1 : K := .reg [o 12 (.mov (.t 1)), o 13 (.len (.t 12)), o 14 (.mov (.t 2)), o 15 (.len (.t 14)), o 16 (.bin .neq .none (.t 13) (.t 15)), o 11 (.mov (.t 16))]
def p24_2 : K := .reg [o 17 (.mk [.str ⟨⟨[]⟩⟩, .nilsl] []), ⟨none, none, .st 2 (.t 6) (.t 17), 0, false⟩, o 7 (.mov (.k (.i 9)))]
def p24_3 : K := .seq p24_2 .ret
def p24_4 : K := .reg [o 19 (.mov (.t 1)), o 20 (.call 31 [.t 19]), o 18 (.mov (.t 20))]
def p24_5 : K := .reg [o 21 (.mk [.str ⟨⟨[]⟩⟩, .nilsl] []), ⟨none, none, .st 2 (.t 6) (.t 21), 0, false⟩, o 7 (.mov (.k (.i 5)))]
def p24_6 : K := .seq p24_5 .ret
def p24_7 : K := .cond (.t 18) p24_6 .skip
def p24_8 : K := .seq p24_4 p24_7
def p24_9 : K := .cond (.t 11) p24_3 p24_8
def p24_10 : K := .seq p24_1 p24_9
def p24_11 : K := .block 0 p24_10
def p24_12 : K := .reg [o 22 (.mov (.t 2)), o 23 (.len (.t 22)), o 24 (.mkslice 3 1 8 [.i 0] (.t 23) (.t 23)), o 8 (.mov (.t 24))]
def p24_13 : K := .reg [o 25 (.mov (.t 2)), o 26 (.len (.t 25)), o 27 (.mov (.k (.i 0)))]
def p24_14 : K := .reg [o 28 (.bin .lss .none (.t 27) (.t 26))]
def p24_15 : K := .cond (.t 28) .skip (.exit 1)
def p24_16 : K := .reg [o 29 (.mov (.t 27)), o 30 (.ixs 2 (.t 25) (.t 27)), o 31 (.ldn 2 (.t 30)), o 10 (.new 24 [.str ⟨⟨[]⟩⟩, .nilsl]), o 9 (.mov (.t 29)), ⟨none, none, .st 2 (.t 10) (.t 31), 0, false⟩]
def p24_17 : K := .reg [o 32 (.mov (.t 8)), o 33 (.mov (.t 9)), o 34 (.ldn 2 (.t 10)), o 35 (.call 32 [.t 34]), o 36 (.ixs 1 (.t 32) (.t 33)), ⟨none, none, .st 1 (.t 36) (.t 35), 0, false⟩]
def p24_18 : K := .seq p24_16 p24_17
def p24_19 : K := .block 2 p24_18
def p24_20 : K := .reg [o 37 (.bin .add .none (.t 27) (.k (.i 1))), o 27 (.mov (.t 37))]
def p24_21 : K := .seq p24_19 p24_20
def p24_22 : K := .seq p24_15 p24_21
def p24_23 : K := .seq p24_14 p24_22
def p24_24 : K := .loop p24_23
def p24_25 : K := .block 1 p24_24
def p24_26 : K := .seq p24_13 p24_25
def p24_27 : K := .reg [o 38 (.ldn 2 (.t 3)), o 39 (.mov (.t 1)), o 40 (.mov (.t 8)), o 41 (.call 33 [.t 38, .t 39, .t 40]), o 42 (.bin .gtr .none (.t 41) (.k (.i 4096)))]
def p24_28 : K := .reg [o 43 (.mk [.str ⟨⟨[]⟩⟩, .nilsl] []), ⟨none, none, .st 2 (.t 6) (.t 43), 0, false⟩, o 7 (.mov (.k (.i 4)))]
def p24_29 : K := .seq p24_28 .ret
def p24_30 : K := .cond (.t 42) p24_29 .skip
def p24_31 : K := .seq p24_27 p24_30
def p24_32 : K := .reg [o 44 (.ldn 2 (.t 3)), o 45 (.mov (.t 1)), o 46 (.mov (.t 2)), o 47 (.call 34 [.t 44, .t 45, .t 46]), ⟨none, none, .st 2 (.t 6) (.t 47), 0, false⟩, o 7 (.mov (.k (.i 0)))]
def p24_33 : K := .seq p24_32 .ret
def p24_34 : K := .seq p24_31 p24_33
def p24_35 : K := .seq p24_26 p24_34
def p24_36 : K := .seq p24_12 p24_35
def p24_37 : K := .seq p24_11 p24_36
def p24_38 : K := .seq p24_0 p24_37
def cf24 : CF := { nt := 48, body := p24_38, res := [.cell 6 2 true, .tmp 7] }
theorem ok24 : comp Try.prog modeF [3] [] Try.f24 = some cf24 := by kernel_rfl
def p25_0 : K := .reg [o 6 (.mov (.k .nilsl)), o 7 (.mov (.k .nilsl)), o 8 (.mov (.k (.bool false))), o 9 (.mov (.k (.bool false)))]
def p25_1 : K := .reg [o 25 (.mov (.t 1)), o 26 (.call 35 [.t 25]), o 24 (.mov (.t 26)), o 27 (.ext (.t 24) 0), o 28 (.ext (.t 24) 1), o 29 (.ext (.t 24) 2), o 11 (.new 9 [.str ⟨⟨[]⟩⟩]), o 10 (.mov (.t 27)), ⟨none, none, .st 1 (.t 11) (.t 28), 0, false⟩, o 12 (.mov (.t 29))]
def p25_2 : K := .reg [o 30 (.mov (.t 0)), o 31 (.len (.t 30)), o 32 (.mov (.k (.i 0)))]
def p25_3 : K := .reg [o 33 (.bin .lss .none (.t 32) (.t 31))]
def p25_4 : K := .cond (.t 33) .skip (.exit 0)
def p25_5 : K := .reg [o 34 (.ixs 9 (.t 30) (.t 32)), o 35 (.ldn 9 (.t 34)), o 14 (.new 41 [.i 0, .str ⟨⟨[]⟩⟩, .i 0, .nilsl, .nilsl, .nilsl, .nilsl, .nilsl, .nilsl]), ⟨none, none, .st 9 (.t 14) (.t 35), 0, false⟩]
def p25_6 : K := .reg [o 36 (.fad 1 (.t 14)), o 37 (.ld1 (.t 36)), o 38 (.mov (.t 10)), o 39 (.bin .neq .none (.t 37) (.t 38)), o 40 (.mov (.t 39)), ⟨some 41, some (40, false), .mov (.t 10), 0, false⟩, ⟨some 42, some (40, false), .bin .eql .none (.t 41) (.k (.str ⟨⟨[]⟩⟩)), 0, false⟩, o 43 (.pick (.t 40) (.k (.bool true)) (.t 42))]
def p25_7 : K := .cond (.t 43) (.exit 1) .skip
def p25_8 : K := .seq p25_6 p25_7
def p25_9 : K := .reg [o 44 (.fad 0 (.t 14)), o 45 (.ld1 (.t 44)), o 46 (.bin .neq .none (.t 45) (.k (.i 3))), o 15 (.mov (.t 46))]
def p25_10 : K := .reg [o 47 (.fad 4 (.t 14)), o 48 (.ld1 (.t 47)), o 49 (.mkf 37 [] [.t 11]), o 50 (.call 36 [.t 48, .t 49]), o 16 (.mov (.t 50))]
def p25_11 : K := .reg [o 51 (.mov (.t 16)), o 52 (.bin .geq .none (.t 51) (.k (.i 0)))]
def p25_12 : K := .reg [o 53 (.fad 4 (.t 14)), o 54 (.ld1 (.t 53)), o 55 (.mov (.t 16)), o 56 (.ixs 6 (.t 54) (.t 55)), o 57 (.ldn 6 (.t 56)), o 17 (.new 28 [.i 0, .bool false, .bool false, .str ⟨⟨[]⟩⟩, .nilsl, .nilsl]), ⟨none, none, .st 6 (.t 17) (.t 57), 0, false⟩]
def p25_13 : K := .reg [o 58 (.fad 5 (.t 17)), o 59 (.ld1 (.t 58)), o 60 (.len (.t 59)), o 61 (.mov (.k (.i 0)))]
def p25_14 : K := .reg [o 62 (.bin .lss .none (.t 61) (.t 60))]
def p25_15 : K := .cond (.t 62) .skip (.exit 2)
def p25_16 : K := .reg [o 63 (.ixs 4 (.t 59) (.t 61)), o 64 (.ldn 4 (.t 63)), o 19 (.new 87 [.bool false, .str ⟨⟨[]⟩⟩, .str ⟨⟨[]⟩⟩, .nilsl]), ⟨none, none, .st 4 (.t 19) (.t 64), 0, false⟩]
def p25_17 : K := .reg [o 65 (.mov (.t 6)), o 66 (.fad 2 (.t 19)), o 67 (.ldn 2 (.t 66)), o 68 (.vsl 24 1 2 [.str ⟨⟨[]⟩⟩, .nilsl] [(0, 2, .t 67)]), o 69 (.vapp 24 2 40 [.str ⟨⟨[]⟩⟩, .nilsl] (.t 65) (.t 68)), o 6 (.mov (.t 69))]
def p25_18 : K := .seq p25_16 p25_17
def p25_19 : K := .block 3 p25_18
def p25_20 : K := .reg [o 70 (.bin .add .none (.t 61) (.k (.i 1))), o 61 (.mov (.t 70))]
def p25_21 : K := .seq p25_19 p25_20
def p25_22 : K := .seq p25_15 p25_21
def p25_23 : K := .seq p25_14 p25_22
def p25_24 : K := .loop p25_23
def p25_25 : K := .block 2 p25_24
def p25_26 : K := .seq p25_13 p25_25
def p25_27 : K := .drg [⟨some 71, none, .mov (.t 6), 0, true⟩, ⟨some 72, none, .fad 4 (.t 17), 0, true⟩, ⟨some 73, none, .ld1 (.t 72), 2, true⟩, ⟨some 74, none, .mov (.t 15), 0, true⟩, ⟨some 75, none, .mov (.t 74), 8, true⟩, ⟨some 76, some (75, false), .fad 2 (.t 17), 24, true⟩, ⟨some 77, some (75, false), .ld1 (.t 76), 56, true⟩, ⟨some 78, none, .pick (.t 75) (.k (.bool true)) (.t 77), 120, true⟩, ⟨some 6, none, .mov (.t 71), 25, true⟩, ⟨some 7, none, .mov (.t 73), 287, true⟩, ⟨some 8, none, .mov (.t 78), 1023, true⟩, ⟨some 9, none, .mov (.k (.bool true)), 2047, true⟩]
def p25_28 : K := .seq p25_27 .ret
def p25_29 : K := .seq p25_26 p25_28
def p25_30 : K := .seq p25_12 p25_29
def p25_31 : K := .cond (.t 52) p25_30 .skip
def p25_32 : K := .seq p25_11 p25_31
def p25_33 : K := .seq p25_10 p25_32
def p25_34 : K := .reg [o 79 (.fad 5 (.t 14)), o 80 (.ld1 (.t 79)), o 81 (.mkf 39 [] [.t 11]), o 82 (.call 38 [.t 80, .t 81]), o 20 (.mov (.t 82))]
def p25_35 : K := .reg [o 83 (.mov (.t 20)), o 84 (.bin .geq .none (.t 83) (.k (.i 0)))]
def p25_36 : K := .reg [o 85 (.fad 5 (.t 14)), o 86 (.ld1 (.t 85)), o 87 (.mov (.t 20)), o 88 (.ixs 6 (.t 86) (.t 87)), o 89 (.ldn 6 (.t 88)), o 21 (.new 34 [.i 0, .bool false, .bool false, .str ⟨⟨[]⟩⟩, .nilsl, .nilsl]), ⟨none, none, .st 6 (.t 21) (.t 89), 0, false⟩]
def p25_37 : K := .reg [o 90 (.fad 5 (.t 21)), o 91 (.ld1 (.t 90)), o 92 (.len (.t 91)), o 93 (.mov (.k (.i 0)))]
def p25_38 : K := .reg [o 94 (.bin .lss .none (.t 93) (.t 92))]
def p25_39 : K := .cond (.t 94) .skip (.exit 4)
def p25_40 : K := .reg [o 95 (.ixs 3 (.t 91) (.t 93)), o 96 (.ldn 3 (.t 95)), o 23 (.new 31 [.bool false, .str ⟨⟨[]⟩⟩, .nilsl]), ⟨none, none, .st 3 (.t 23) (.t 96), 0, false⟩]
def p25_41 : K := .reg [o 97 (.mov (.t 2)), o 98 (.mov (.t 97)), ⟨some 99, some (98, false), .fad 0 (.t 23), 0, false⟩, ⟨some 100, some (98, false), .ld1 (.t 99), 0, false⟩, ⟨some 101, some (98, false), .un .not (.t 100), 0, false⟩, o 102 (.pick (.t 98) (.k (.bool true)) (.t 101))]
def p25_42 : K := .reg [o 103 (.mov (.t 6)), o 104 (.fad 2 (.t 23)), o 105 (.ld1 (.t 104)), o 106 (.vapp 24 2 40 [.str ⟨⟨[]⟩⟩, .nilsl] (.t 103) (.t 105)), o 6 (.mov (.t 106))]
def p25_43 : K := .cond (.t 102) p25_42 .skip
def p25_44 : K := .seq p25_41 p25_43
def p25_45 : K := .seq p25_40 p25_44
def p25_46 : K := .block 5 p25_45
def p25_47 : K := .reg [o 107 (.bin .add .none (.t 93) (.k (.i 1))), o 93 (.mov (.t 107))]
def p25_48 : K := .seq p25_46 p25_47
def p25_49 : K := .seq p25_39 p25_48
def p25_50 : K := .seq p25_38 p25_49
def p25_51 : K := .loop p25_50
def p25_52 : K := .block 4 p25_51
def p25_53 : K := .seq p25_37 p25_52
def p25_54 : K := .drg [⟨some 108, none, .mov (.t 6), 0, true⟩, ⟨some 109, none, .fad 4 (.t 21), 0, true⟩, ⟨some 110, none, .ld1 (.t 109), 2, true⟩, ⟨some 111, none, .mov (.t 15), 0, true⟩, ⟨some 112, none, .mov (.t 111), 8, true⟩, ⟨some 113, some (112, false), .fad 2 (.t 21), 24, true⟩, ⟨some 114, some (112, false), .ld1 (.t 113), 56, true⟩, ⟨some 115, none, .pick (.t 112) (.k (.bool true)) (.t 114), 120, true⟩, ⟨some 6, none, .mov (.t 108), 25, true⟩, ⟨some 7, none, .mov (.t 110), 287, true⟩, ⟨some 8, none, .mov (.t 115), 1023, true⟩, ⟨some 9, none, .mov (.k (.bool true)), 2047, true⟩]
def p25_55 : K := .seq p25_54 .ret
def p25_56 : K := .seq p25_53 p25_55
def p25_57 : K := .seq p25_36 p25_56
def p25_58 : K := .cond (.t 84) p25_57 .skip
def p25_59 : K := .seq p25_35 p25_58
def p25_60 : K := .seq p25_34 p25_59
def p25_61 : K := .seq p25_33 p25_60
def p25_62 : K := .seq p25_9 p25_61
def p25_63 : K := .seq p25_8 p25_62
def p25_64 : K := .seq p25_5 p25_63
def p25_65 : K := .block 1 p25_64
def p25_66 : K := .reg [o 116 (.bin .add .none (.t 32) (.k (.i 1))), o 32 (.mov (.t 116))]
def p25_67 : K := .seq p25_65 p25_66
def p25_68 : K := .seq p25_4 p25_67
def p25_69 : K := .seq p25_3 p25_68
def p25_70 : K := .loop p25_69
def p25_71 : K := .block 0 p25_70
def p25_72 : K := .seq p25_2 p25_71
def p25_73 : K := .reg [o 6 (.mov (.k .nilsl)), o 7 (.mov (.k .nilsl)), o 8 (.mov (.k (.bool false))), o 9 (.mov (.k (.bool false)))]
def p25_74 : K := .seq p25_73 .ret
def p25_75 : K := .seq p25_72 p25_74
def p25_76 : K := .seq p25_1 p25_75
def p25_77 : K := .seq p25_0 p25_76
def cf25 : CF := { nt := 117, body := p25_77, res := [.tmp 6, .tmp 7, .tmp 8, .tmp 9] }
theorem ok25 : comp Try.prog modeF [] [] Try.f25 = some cf25 := by kernel_rfl
def p26_0 : K := .reg [o 2 (.box 24 (.t 0)), o 3 (.mov (.k (.bool false)))]
def p26_1 : K := .reg [o 4 (.ldn 2 (.t 1)), o 5 (.ldn 2 (.t 2)), o 6 (.call 17 [.t 4, .t 5]), o 3 (.mov (.t 6))]
def p26_2 : K := .seq p26_1 .ret
def p26_3 : K := .seq p26_0 p26_2
def cf26 : CF := { nt := 7, body := p26_3, res := [.tmp 3] }
theorem ok26 : comp Try.prog modeF [] [] Try.f26 = some cf26 := by kernel_rfl
def p27_0 : K := .reg [o 6 (.mov (.k (.bool false)))]
def p27_1 : K := .reg [o 10 (.mov (.t 0)), o 11 (.len (.t 10)), o 12 (.mov (.t 1)), o 13 (.len (.t 12)), o 14 (.bin .neq .none (.t 11) (.t 13))]
def p27_2 : K := .reg [o 6 (.mov (.k (.bool false)))]
def p27_3 : K := .seq p27_2 .ret
def p27_4 : K := .cond (.t 14) p27_3 .skip
def p27_5 : K := .seq p27_1 p27_4
def p27_6 : K := .reg [o 15 (.mov (.t 0)), o 16 (.len (.t 15)), o 17 (.mov (.k (.i 0)))]
def p27_7 : K := .reg [o 18 (.bin .lss .none (.t 17) (.t 16))]
def p27_8 : K := .cond (.t 18) .skip (.exit 0)
def p27_9 : K := .reg [o 19 (.mov (.t 17)), o 20 (.ixs 2 (.t 15) (.t 17)), o 21 (.ldn 2 (.t 20)), o 8 (.new 24 [.str ⟨⟨[]⟩⟩, .nilsl]), o 7 (.mov (.t 19)), ⟨none, none, .st 2 (.t 8) (.t 21), 0, false⟩]
def p27_10 : K := .reg [o 22 (.mov (.t 1)), o 23 (.mov (.t 7)), o 24 (.ixs 2 (.t 22) (.t 23)), o 25 (.ldn 2 (.t 24)), o 9 (.new 24 [.str ⟨⟨[]⟩⟩, .nilsl]), ⟨none, none, .st 2 (.t 9) (.t 25), 0, false⟩]
def p27_11 : K := .reg [o 26 (.mov (.t 2)), o 27 (.ldn 2 (.t 8)), o 28 (.ldn 2 (.t 9)), o 29 (.callv (.t 26) [.t 27, .t 28]), o 30 (.un .not (.t 29))]
def p27_12 : K := .reg [o 6 (.mov (.k (.bool false)))]
def p27_13 : K := .seq p27_12 .ret
def p27_14 : K := .cond (.t 30) p27_13 .skip
def p27_15 : K := .seq p27_11 p27_14
def p27_16 : K := .seq p27_10 p27_15
def p27_17 : K := .seq p27_9 p27_16
def p27_18 : K := .block 1 p27_17
def p27_19 : K := .reg [o 31 (.bin .add .none (.t 17) (.k (.i 1))), o 17 (.mov (.t 31))]
def p27_20 : K := .seq p27_18 p27_19
def p27_21 : K := .seq p27_8 p27_20
def p27_22 : K := .seq p27_7 p27_21
def p27_23 : K := .loop p27_22
def p27_24 : K := .block 0 p27_23
def p27_25 : K := .seq p27_6 p27_24
def p27_26 : K := .reg [o 6 (.mov (.k (.bool true)))]
def p27_27 : K := .seq p27_26 .ret
def p27_28 : K := .seq p27_25 p27_27
def p27_29 : K := .seq p27_5 p27_28
def p27_30 : K := .seq p27_0 p27_29
def cf27 : CF := { nt := 32, body := p27_30, res := [.tmp 6] }
theorem ok27 : comp Try.prog modeF [] [] Try.f27 = some cf27 := by kernel_rfl
def p29_0 : K := .reg [o 2 (.mov (.k (.bool false)))]
def p29_1 : K := .reg [o 3 (.mov (.t 0)), o 4 (.call 23 [.t 3]), o 5 (.un .not (.t 4)), o 6 (.mov (.t 5)), ⟨some 7, some (6, true), .mov (.t 0), 0, false⟩, ⟨some 8, some (6, true), .call 43 [.t 7, .k (.str ⟨⟨[46]⟩⟩)], 0, false⟩, ⟨some 9, some (6, true), .un .not (.t 8), 0, false⟩, o 10 (.pick (.t 6) (.t 9) (.k (.bool false))), o 2 (.mov (.t 10))]
def p29_2 : K := .seq p29_1 .ret
def p29_3 : K := .seq p29_0 p29_2
def cf29 : CF := { nt := 11, body := p29_3, res := [.tmp 2] }
theorem ok29 : comp Try.prog modeF [] [] Try.f29 = some cf29 := by kernel_rfl
def p30_0 : K := .reg [o 1 (.box 24 (.t 0)), o 2 (.mov (.k (.bool false)))]
def p30_1 : K := .reg [o 3 (.ldn 2 (.t 1)), o 4 (.call 22 [.t 3]), o 5 (.un .not (.t 4)), o 2 (.mov (.t 5))]
def p30_2 : K := .seq p30_1 .ret
def p30_3 : K := .seq p30_0 p30_2
def cf30 : CF := { nt := 6, body := p30_3, res := [.tmp 2] }
theorem ok30 : comp Try.prog modeF [] [] Try.f30 = some cf30 := by kernel_rfl
def p31_0 : K := .reg [o 2 (.mov (.k (.bool false)))]
def p31_1 : K := .reg [o 5 (.mov (.t 0)), o 6 (.len (.t 5)), o 7 (.mov (.k (.i 0)))]
def p31_2 : K := .reg [o 8 (.bin .lss .none (.t 7) (.t 6))]
def p31_3 : K := .cond (.t 8) .skip (.exit 0)
def p31_4 : K := .reg [o 9 (.mov (.t 7)), o 10 (.ixs 1 (.t 5) (.t 7)), o 11 (.ld1 (.t 10)), o 3 (.mov (.t 9)), o 4 (.mov (.t 11))]
def p31_5 : K := .reg [o 12 (.mov (.t 0)), o 13 (.mov (.t 3)), o 14 (.slsl 1 (.t 12) none (some (.t 13))), o 15 (.mov (.t 4)), o 16 (.call 44 [.t 14, .t 15])]
def p31_6 : K := .reg [o 2 (.mov (.k (.bool true)))]
def p31_7 : K := .seq p31_6 .ret
def p31_8 : K := .cond (.t 16) p31_7 .skip
def p31_9 : K := .seq p31_5 p31_8
def p31_10 : K := .seq p31_4 p31_9
def p31_11 : K := .block 1 p31_10
def p31_12 : K := .reg [o 17 (.bin .add .none (.t 7) (.k (.i 1))), o 7 (.mov (.t 17))]
def p31_13 : K := .seq p31_11 p31_12
def p31_14 : K := .seq p31_3 p31_13
def p31_15 : K := .seq p31_2 p31_14
def p31_16 : K := .loop p31_15
def p31_17 : K := .block 0 p31_16
def p31_18 : K := .seq p31_1 p31_17
def p31_19 : K := .reg [o 2 (.mov (.k (.bool false)))]
def p31_20 : K := .seq p31_19 .ret
def p31_21 : K := .seq p31_18 p31_20
def p31_22 : K := .seq p31_0 p31_21
def cf31 : CF := { nt := 18, body := p31_22, res := [.tmp 2] }
theorem ok31 : comp Try.prog modeF [] [] Try.f31 = some cf31 := by kernel_rfl
def p32_0 : K := .reg [o 1 (.box 24 (.t 0)), o 2 (.mov (.k (.i 0)))]
def p32_1 : K := .reg [o 3 (.mov (.k (.i 1)))]
def p32_2 : K := .reg [o 6 (.fad 1 (.t 1)), o 7 (.ld1 (.t 6)), o 8 (.len (.t 7)), o 9 (.mov (.k (.i 0)))]
def p32_3 : K := .reg [o 10 (.bin .lss .none (.t 9) (.t 8))]
def p32_4 : K := .cond (.t 10) .skip (.exit 0)
def p32_5 : K := .reg [o 11 (.ixs 2 (.t 7) (.t 9)), o 12 (.ldn 2 (.t 11)), o 5 (.new 24 [.str ⟨⟨[]⟩⟩, .nilsl]), ⟨none, none, .st 2 (.t 5) (.t 12), 0, false⟩]
def p32_6 : K := .reg [o 13 (.mov (.t 3)), o 14 (.ldn 2 (.t 5)), o 15 (.call 32 [.t 14]), o 16 (.bin .add .none (.t 13) (.t 15)), o 3 (.mov (.t 16))]
def p32_7 : K := .seq p32_5 p32_6
def p32_8 : K := .block 1 p32_7
def p32_9 : K := .reg [o 17 (.bin .add .none (.t 9) (.k (.i 1))), o 9 (.mov (.t 17))]
def p32_10 : K := .seq p32_8 p32_9
def p32_11 : K := .seq p32_4 p32_10
def p32_12 : K := .seq p32_3 p32_11
def p32_13 : K := .loop p32_12
def p32_14 : K := .block 0 p32_13
def p32_15 : K := .seq p32_2 p32_14
def p32_16 : K := .reg [o 18 (.mov (.t 3)), o 2 (.mov (.t 18))]
def p32_17 : K := .seq p32_16 .ret
def p32_18 : K := .seq p32_15 p32_17
def p32_19 : K := .seq p32_1 p32_18
def p32_20 : K := .seq p32_0 p32_19
def cf32 : CF := { nt := 19, body := p32_20, res := [.tmp 2] }
theorem ok32 : comp Try.prog modeF [] [] Try.f32 = some cf32 := by kernel_rfl
def p33_0 : K := .reg [o 3 (.box 24 (.t 0)), o 6 (.mov (.k (.i 0)))]
def p33_1 : K := .reg [o 11 (.ldn 2 (.t 3)), o 12 (.mov (.t 1)), o 13 (.call 45 [.t 11, .t 12]), o 7 (.mov (.t 13))]
def p33_2 : K := .reg [o 14 (.mov (.t 7)), o 15 (.bin .geq .none (.t 14) (.k (.i 0)))]
def p33_3 : K := .reg [o 16 (.mov (.t 2)), o 17 (.mov (.t 7)), o 18 (.ixs 1 (.t 16) (.t 17)), o 19 (.ld1 (.t 18)), o 6 (.mov (.t 19))]
def p33_4 : K := .seq p33_3 .ret
def p33_5 : K := .cond (.t 15) p33_4 .skip
def p33_6 : K := .seq p33_2 p33_5
def p33_7 : K := .seq p33_1 p33_6
def p33_8 : K := .reg [o 8 (.mov (.k (.i 1)))]
def p33_9 : K := .reg [o 20 (.fad 1 (.t 3)), o 21 (.ld1 (.t 20)), o 22 (.len (.t 21)), o 23 (.mov (.k (.i 0)))]
def p33_10 : K := .reg [o 24 (.bin .lss .none (.t 23) (.t 22))]
def p33_11 : K := .cond (.t 24) .skip (.exit 0)
def p33_12 : K := .reg [o 25 (.ixs 2 (.t 21) (.t 23)), o 26 (.ldn 2 (.t 25)), o 10 (.new 24 [.str ⟨⟨[]⟩⟩, .nilsl]), ⟨none, none, .st 2 (.t 10) (.t 26), 0, false⟩]
def p33_13 : K := .reg [o 27 (.mov (.t 8)), o 28 (.ldn 2 (.t 10)), o 29 (.mov (.t 1)), o 30 (.mov (.t 2)), o 31 (.call 33 [.t 28, .t 29, .t 30]), o 32 (.bin .add .none (.t 27) (.t 31)), o 8 (.mov (.t 32))]
def p33_14 : K := .reg [o 33 (.mov (.t 8)), o 34 (.bin .gtr .none (.t 33) (.k (.i 4096)))]
def p33_15 : K := .reg [o 35 (.mov (.t 8)), o 6 (.mov (.t 35))]
def p33_16 : K := .seq p33_15 .ret
def p33_17 : K := .cond (.t 34) p33_16 .skip
def p33_18 : K := .seq p33_14 p33_17
def p33_19 : K := .seq p33_13 p33_18
def p33_20 : K := .seq p33_12 p33_19
def p33_21 : K := .block 1 p33_20
def p33_22 : K := .reg [o 36 (.bin .add .none (.t 23) (.k (.i 1))), o 23 (.mov (.t 36))]
def p33_23 : K := .seq p33_21 p33_22
def p33_24 : K := .seq p33_11 p33_23
def p33_25 : K := .seq p33_10 p33_24
def p33_26 : K := .loop p33_25
def p33_27 : K := .block 0 p33_26
def p33_28 : K := .seq p33_9 p33_27
def p33_29 : K := .reg [o 37 (.mov (.t 8)), o 6 (.mov (.t 37))]
def p33_30 : K := .seq p33_29 .ret
def p33_31 : K := .seq p33_28 p33_30
def p33_32 : K := .seq p33_8 p33_31
def p33_33 : K := .seq p33_7 p33_32
def p33_34 : K := .seq p33_0 p33_33
def cf33 : CF := { nt := 38, body := p33_34, res := [.tmp 6] }
theorem ok33 : comp Try.prog modeF [] [] Try.f33 = some cf33 := by kernel_rfl
def p34_0 : K := .reg [o 3 (.box 24 (.t 0)), o 6 (.new 24 [.str ⟨⟨[]⟩⟩, .nilsl])]
def p34_1 : K := .reg [o 11 (.ldn 2 (.t 3)), o 12 (.mov (.t 1)), o 13 (.call 45 [.t 11, .t 12]), o 7 (.mov (.t 13))]
def p34_2 : K := .reg [o 14 (.mov (.t 7)), o 15 (.bin .geq .none (.t 14) (.k (.i 0)))]
def p34_3 : K := .reg [o 16 (.mov (.t 2)), o 17 (.mov (.t 7)), o 18 (.ixs 2 (.t 16) (.t 17)), o 19 (.ldn 2 (.t 18)), o 20 (.call 46 [.t 19]), ⟨none, none, .st 2 (.t 6) (.t 20), 0, false⟩]
def p34_4 : K := .seq p34_3 .ret
def p34_5 : K := .cond (.t 15) p34_4 .skip
def p34_6 : K := .seq p34_2 p34_5
def p34_7 : K := .seq p34_1 p34_6
def p34_8 : K := .reg [o 21 (.fad 0 (.t 3)), o 22 (.ld1 (.t 21)), o 23 (.mk [.str ⟨⟨[]⟩⟩, .nilsl] [(0, 1, .t 22)]), o 8 (.new 24 [.str ⟨⟨[]⟩⟩, .nilsl]), ⟨none, none, .st 2 (.t 8) (.t 23), 0, false⟩]
def p34_9 : K := .reg [o 24 (.fad 1 (.t 3)), o 25 (.ld1 (.t 24)), o 26 (.len (.t 25)), o 27 (.mov (.k (.i 0)))]
def p34_10 : K := .reg [o 28 (.bin .lss .none (.t 27) (.t 26))]
def p34_11 : K := .cond (.t 28) .skip (.exit 0)
def p34_12 : K := .reg [o 29 (.ixs 2 (.t 25) (.t 27)), o 30 (.ldn 2 (.t 29)), o 10 (.new 24 [.str ⟨⟨[]⟩⟩, .nilsl]), ⟨none, none, .st 2 (.t 10) (.t 30), 0, false⟩]
def p34_13 : K := .drg [⟨some 31, none, .fad 1 (.t 8), 0, true⟩, ⟨some 32, none, .ld1 (.t 31), 1, true⟩, ⟨some 33, none, .ldn 2 (.t 10), 0, true⟩, ⟨some 34, none, .mov (.t 1), 0, true⟩, ⟨some 35, none, .mov (.t 2), 0, true⟩, ⟨some 36, none, .call 34 [.t 33, .t 34, .t 35], 28, true⟩, ⟨some 37, none, .vsl 24 1 2 [.str ⟨⟨[]⟩⟩, .nilsl] [(0, 2, .t 36)], 60, true⟩, ⟨some 38, none, .vapp 24 2 40 [.str ⟨⟨[]⟩⟩, .nilsl] (.t 32) (.t 37), 127, true⟩, ⟨some 39, none, .fad 1 (.t 8), 255, true⟩, ⟨none, none, .st 1 (.t 39) (.t 38), 511, true⟩]
def p34_14 : K := .seq p34_12 p34_13
def p34_15 : K := .block 1 p34_14
def p34_16 : K := .reg [o 40 (.bin .add .none (.t 27) (.k (.i 1))), o 27 (.mov (.t 40))]
def p34_17 : K := .seq p34_15 p34_16
def p34_18 : K := .seq p34_11 p34_17
def p34_19 : K := .seq p34_10 p34_18
def p34_20 : K := .loop p34_19
def p34_21 : K := .block 0 p34_20
def p34_22 : K := .seq p34_9 p34_21
def p34_23 : K := .reg [o 41 (.ldn 2 (.t 8)), ⟨none, none, .st 2 (.t 6) (.t 41), 0, false⟩]
def p34_24 : K := .seq p34_23 .ret
def p34_25 : K := .seq p34_22 p34_24
def p34_26 : K := .seq p34_8 p34_25
def p34_27 : K := .seq p34_7 p34_26
def p34_28 : K := .seq p34_0 p34_27
def cf34 : CF := { nt := 42, body := p34_28, res := [.cell 6 2 true] }
theorem ok34 : comp Try.prog modeF [] [] Try.f34 = some cf34 := by kernel_rfl
def p35_0 : K := .reg [o 2 (.mov (.k (.str ⟨⟨[]⟩⟩))), o 3 (.mov (.k (.str ⟨⟨[]⟩⟩))), o 4 (.mov (.k (.bool false)))]
def p35_1 : K := .reg [o 9 (.mov (.t 0)), o 10 (.call 47 [.t 9, .k (.str ⟨⟨[46]⟩⟩)]), o 8 (.mov (.t 10)), o 11 (.ext (.t 8) 0), o 12 (.ext (.t 8) 1), o 13 (.ext (.t 8) 2), o 5 (.mov (.t 11)), o 6 (.mov (.t 12)), o 7 (.mov (.t 13))]
def p35_2 : K := .reg [o 14 (.mov (.t 7)), o 15 (.un .not (.t 14)), o 16 (.mov (.t 15)), ⟨some 17, some (16, false), .mov (.t 5), 0, false⟩, ⟨some 18, some (16, false), .bin .eql .none (.t 17) (.k (.str ⟨⟨[]⟩⟩)), 0, false⟩, o 19 (.pick (.t 16) (.k (.bool true)) (.t 18)), o 20 (.mov (.t 19)), ⟨some 21, some (20, false), .mov (.t 6), 0, false⟩, ⟨some 22, some (20, false), .bin .eql .none (.t 21) (.k (.str ⟨⟨[]⟩⟩)), 0, false⟩, o 23 (.pick (.t 20) (.k (.bool true)) (.t 22)), o 24 (.mov (.t 23)), ⟨some 25, some (24, false), .mov (.t 6), 0, false⟩, ⟨some 26, some (24, false), .call 43 [.t 25, .k (.str ⟨⟨[46]⟩⟩)], 0, false⟩, o 27 (.pick (.t 24) (.k (.bool true)) (.t 26))]
def p35_3 : K := .reg [o 2 (.mov (.k (.str ⟨⟨[]⟩⟩))), o 3 (.mov (.k (.str ⟨⟨[]⟩⟩))), o 4 (.mov (.k (.bool false)))]
def p35_4 : K := .seq p35_3 .ret
def p35_5 : K := .cond (.t 27) p35_4 .skip
def p35_6 : K := .seq p35_2 p35_5
def p35_7 : K := .reg [o 28 (.mov (.t 5)), o 29 (.mov (.t 6)), o 2 (.mov (.t 28)), o 3 (.mov (.t 29)), o 4 (.mov (.k (.bool true)))]
def p35_8 : K := .seq p35_7 .ret
def p35_9 : K := .seq p35_6 p35_8
def p35_10 : K := .seq p35_1 p35_9
def p35_11 : K := .seq p35_0 p35_10
def cf35 : CF := { nt := 30, body := p35_11, res := [.tmp 2, .tmp 3, .tmp 4] }
theorem ok35 : comp Try.prog modeF [] [] Try.f35 = some cf35 := by kernel_rfl
def p36_0 : K := .reg [o 4 (.mov (.k (.i 0)))]
def p36_1 : K := .reg [o 6 (.mov (.t 0)), o 7 (.len (.t 6)), o 8 (.mov (.k (.i 0)))]
def p36_2 : K := .reg [o 9 (.bin .lss .none (.t 8) (.t 7))]
def p36_3 : K := .cond (.t 9) .skip (.exit 0)
def p36_4 : K := .reg [o 10 (.mov (.t 8)), o 5 (.mov (.t 10))]
def p36_5 : K := .reg [o 11 (.mov (.t 1)), o 12 (.mov (.t 0)), o 13 (.mov (.t 5)), o 14 (.ixs 6 (.t 12) (.t 13)), o 15 (.ldn 6 (.t 14)), o 16 (.callv (.t 11) [.t 15])]
def p36_6 : K := .reg [o 17 (.mov (.t 5)), o 4 (.mov (.t 17))]
def p36_7 : K := .seq p36_6 .ret
def p36_8 : K := .cond (.t 16) p36_7 .skip
def p36_9 : K := .seq p36_5 p36_8
def p36_10 : K := .seq p36_4 p36_9
def p36_11 : K := .block 1 p36_10
def p36_12 : K := .reg [o 18 (.bin .add .none (.t 8) (.k (.i 1))), o 8 (.mov (.t 18))]
def p36_13 : K := .seq p36_11 p36_12
def p36_14 : K := .seq p36_3 p36_13
def p36_15 : K := .seq p36_2 p36_14
def p36_16 : K := .loop p36_15
def p36_17 : K := .block 0 p36_16
def p36_18 : K := .seq p36_1 p36_17
def p36_19 : K := .reg [o 4 (.mov (.k (.i (-1))))]
def p36_20 : K := .seq p36_19 .ret
def p36_21 : K := .seq p36_18 p36_20
def p36_22 : K := .seq p36_0 p36_21
def cf36 : CF := { nt := 19, body := p36_22, res := [.tmp 4] }
theorem ok36 : comp Try.prog modeF [] [] Try.f36 = some cf36 := by kernel_rfl
def p37_0 : K := .reg [o 2 (.box 28 (.t 0)), o 3 (.mov (.k (.bool false)))]
def p37_1 : K := .reg [o 4 (.fad 3 (.t 2)), o 5 (.ld1 (.t 4)), o 6 (.ld1 (.t 1)), o 7 (.bin .eql .none (.t 5) (.t 6)), o 3 (.mov (.t 7))]
def p37_2 : K := .seq p37_1 .ret
def p37_3 : K := .seq p37_0 p37_2
def cf37 : CF := { nt := 8, body := p37_3, res := [.tmp 3] }
theorem ok37 : comp Try.prog modeF [] [] Try.f37 = some cf37 := by kernel_rfl
def p38_0 : K := .reg [o 4 (.mov (.k (.i 0)))]
def p38_1 : K := .reg [o 6 (.mov (.t 0)), o 7 (.len (.t 6)), o 8 (.mov (.k (.i 0)))]
def p38_2 : K := .reg [o 9 (.bin .lss .none (.t 8) (.t 7))]
def p38_3 : K := .cond (.t 9) .skip (.exit 0)
def p38_4 : K := .reg [o 10 (.mov (.t 8)), o 5 (.mov (.t 10))]
def p38_5 : K := .reg [o 11 (.mov (.t 1)), o 12 (.mov (.t 0)), o 13 (.mov (.t 5)), o 14 (.ixs 6 (.t 12) (.t 13)), o 15 (.ldn 6 (.t 14)), o 16 (.callv (.t 11) [.t 15])]
def p38_6 : K := .reg [o 17 (.mov (.t 5)), o 4 (.mov (.t 17))]
def p38_7 : K := .seq p38_6 .ret
def p38_8 : K := .cond (.t 16) p38_7 .skip
def p38_9 : K := .seq p38_5 p38_8
def p38_10 : K := .seq p38_4 p38_9
def p38_11 : K := .block 1 p38_10
def p38_12 : K := .reg [o 18 (.bin .add .none (.t 8) (.k (.i 1))), o 8 (.mov (.t 18))]
def p38_13 : K := .seq p38_11 p38_12
def p38_14 : K := .seq p38_3 p38_13
def p38_15 : K := .seq p38_2 p38_14
def p38_16 : K := .loop p38_15
def p38_17 : K := .block 0 p38_16
def p38_18 : K := .seq p38_1 p38_17
def p38_19 : K := .reg [o 4 (.mov (.k (.i (-1))))]
def p38_20 : K := .seq p38_19 .ret
def p38_21 : K := .seq p38_18 p38_20
def p38_22 : K := .seq p38_0 p38_21
def cf38 : CF := { nt := 19, body := p38_22, res := [.tmp 4] }
theorem ok38 : comp Try.prog modeF [] [] Try.f38 = some cf38 := by kernel_rfl
def p39_0 : K := .reg [o 2 (.box 34 (.t 0)), o 3 (.mov (.k (.bool false)))]
def p39_1 : K := .reg [o 4 (.fad 3 (.t 2)), o 5 (.ld1 (.t 4)), o 6 (.ld1 (.t 1)), o 7 (.bin .eql .none (.t 5) (.t 6)), o 3 (.mov (.t 7))]
def p39_2 : K := .seq p39_1 .ret
def p39_3 : K := .seq p39_0 p39_2
def cf39 : CF := { nt := 8, body := p39_3, res := [.tmp 3] }
theorem ok39 : comp Try.prog modeF [] [] Try.f39 = some cf39 := by kernel_rfl
def p43_0 : K := .reg [o 4 (.mov (.k (.bool false)))]
def p43_1 : K := .reg [o 5 (.mov (.t 0)), o 6 (.mov (.t 1)), o 7 (.call 50 [.t 5, .t 6]), o 8 (.bin .geq .none (.t 7) (.k (.i 0))), o 4 (.mov (.t 8))]
def p43_2 : K := .seq p43_1 .ret
def p43_3 : K := .seq p43_0 p43_2
def cf43 : CF := { nt := 9, body := p43_3, res := [.tmp 4] }
theorem ok43 : comp Try.prog modeF [] [] Try.f43 = some cf43 := by kernel_rfl
def p44_0 : K := .reg [o 4 (.mov (.k (.bool false)))]
def p44_1 : K := .reg [o 5 (.mov (.t 0)), o 6 (.mov (.t 1)), o 7 (.call 51 [.t 5, .t 6]), o 8 (.bin .geq .none (.t 7) (.k (.i 0))), o 4 (.mov (.t 8))]
def p44_2 : K := .seq p44_1 .ret
def p44_3 : K := .seq p44_0 p44_2
def cf44 : CF := { nt := 9, body := p44_3, res := [.tmp 4] }
theorem ok44 : comp Try.prog modeF [] [] Try.f44 = some cf44 := by kernel_rfl
def p45_0 : K := .reg [o 2 (.box 24 (.t 0)), o 4 (.mov (.k (.i 0)))]
def p45_1 : K := .reg [o 5 (.fad 1 (.t 2)), o 6 (.ld1 (.t 5)), o 7 (.len (.t 6)), o 8 (.bin .gtr .none (.t 7) (.k (.i 0)))]
def p45_2 : K := .reg [o 4 (.mov (.k (.i (-1))))]
def p45_3 : K := .seq p45_2 .ret
def p45_4 : K := .cond (.t 8) p45_3 .skip
def p45_5 : K := .seq p45_1 p45_4
def p45_6 : K := .reg [o 9 (.mov (.t 1)), o 10 (.fad 0 (.t 2)), o 11 (.ld1 (.t 10)), o 12 (.call 51 [.t 9, .t 11]), o 4 (.mov (.t 12))]
def p45_7 : K := .seq p45_6 .ret
def p45_8 : K := .seq p45_5 p45_7
def p45_9 : K := .seq p45_0 p45_8
def cf45 : CF := { nt := 13, body := p45_9, res := [.tmp 4] }
theorem ok45 : comp Try.prog modeF [] [] Try.f45 = some cf45 := by kernel_rfl
def p46_0 : K := .reg [o 1 (.box 24 (.t 0)), o 2 (.new 24 [.str ⟨⟨[]⟩⟩, .nilsl])]
def p46_1 : K := .reg [o 6 (.fad 0 (.t 1)), o 7 (.ld1 (.t 6)), o 8 (.mk [.str ⟨⟨[]⟩⟩, .nilsl] [(0, 1, .t 7)]), o 3 (.new 24 [.str ⟨⟨[]⟩⟩, .nilsl]), ⟨none, none, .st 2 (.t 3) (.t 8), 0, false⟩]
def p46_2 : K := .reg [o 9 (.fad 1 (.t 1)), o 10 (.ld1 (.t 9)), o 11 (.len (.t 10)), o 12 (.mov (.k (.i 0)))]
def p46_3 : K := .reg [o 13 (.bin .lss .none (.t 12) (.t 11))]
def p46_4 : K := .cond (.t 13) .skip (.exit 0)
def p46_5 : K := .reg [o 14 (.ixs 2 (.t 10) (.t 12)), o 15 (.ldn 2 (.t 14)), o 5 (.new 24 [.str ⟨⟨[]⟩⟩, .nilsl]), ⟨none, none, .st 2 (.t 5) (.t 15), 0, false⟩]
def p46_6 : K := .drg [⟨some 16, none, .fad 1 (.t 3), 0, true⟩, ⟨some 17, none, .ld1 (.t 16), 1, true⟩, ⟨some 18, none, .ldn 2 (.t 5), 0, true⟩, ⟨some 19, none, .call 46 [.t 18], 4, true⟩, ⟨some 20, none, .vsl 24 1 2 [.str ⟨⟨[]⟩⟩, .nilsl] [(0, 2, .t 19)], 12, true⟩, ⟨some 21, none, .vapp 24 2 40 [.str ⟨⟨[]⟩⟩, .nilsl] (.t 17) (.t 20), 31, true⟩, ⟨some 22, none, .fad 1 (.t 3), 63, true⟩, ⟨none, none, .st 1 (.t 22) (.t 21), 127, true⟩]
def p46_7 : K := .seq p46_5 p46_6
def p46_8 : K := .block 1 p46_7
def p46_9 : K := .reg [o 23 (.bin .add .none (.t 12) (.k (.i 1))), o 12 (.mov (.t 23))]
def p46_10 : K := .seq p46_8 p46_9
def p46_11 : K := .seq p46_4 p46_10
def p46_12 : K := .seq p46_3 p46_11
def p46_13 : K := .loop p46_12
def p46_14 : K := .block 0 p46_13
def p46_15 : K := .seq p46_2 p46_14
def p46_16 : K := .reg [o 24 (.ldn 2 (.t 3)), ⟨none, none, .st 2 (.t 2) (.t 24), 0, false⟩]
def p46_17 : K := .seq p46_16 .ret
def p46_18 : K := .seq p46_15 p46_17
def p46_19 : K := .seq p46_1 p46_18
def p46_20 : K := .seq p46_0 p46_19
def cf46 : CF := { nt := 25, body := p46_20, res := [.cell 2 2 true] }
theorem ok46 : comp Try.prog modeF [] [] Try.f46 = some cf46 := by kernel_rfl
def p47_0 : K := .reg [o 4 (.mov (.k (.str ⟨⟨[]⟩⟩))), o 5 (.mov (.k (.str ⟨⟨[]⟩⟩))), o 6 (.mov (.k (.bool false)))]
def p47_1 : K := .reg [o 7 (.mov (.t 0)), o 8 (.mov (.t 1)), o 9 (.call 52 [.t 7, .t 8]), o 10 (.ext (.t 9) 0), o 11 (.ext (.t 9) 1), o 12 (.ext (.t 9) 2), o 4 (.mov (.t 10)), o 5 (.mov (.t 11)), o 6 (.mov (.t 12))]
def p47_2 : K := .seq p47_1 .ret
def p47_3 : K := .seq p47_0 p47_2
def cf47 : CF := { nt := 13, body := p47_3, res := [.tmp 4, .tmp 5, .tmp 6] }
theorem ok47 : comp Try.prog modeF [] [] Try.f47 = some cf47 := by kernel_rfl
def p50_0 : K := .reg [o 4 (.mov (.k (.i 0)))]
def p50_1 : K := .reg [o 5 (.mov (.t 0)), o 6 (.mov (.t 1)), o 7 (.call 55 [.t 5, .t 6]), o 4 (.mov (.t 7))]
def p50_2 : K := .seq p50_1 .ret
def p50_3 : K := .seq p50_0 p50_2
def cf50 : CF := { nt := 8, body := p50_3, res := [.tmp 4] }
theorem ok50 : comp Try.prog modeF [] [] Try.f50 = some cf50 := by kernel_rfl
def p51_0 : K := .reg [o 4 (.mov (.k (.i 0)))]
def p51_1 : K := .reg [o 6 (.mov (.t 0)), o 7 (.len (.t 6)), o 8 (.mov (.k (.i 0)))]
def p51_2 : K := .reg [o 9 (.bin .lss .none (.t 8) (.t 7))]
def p51_3 : K := .cond (.t 9) .skip (.exit 0)
def p51_4 : K := .reg [o 10 (.mov (.t 8)), o 5 (.mov (.t 10))]
def p51_5 : K := .reg [o 11 (.mov (.t 1)), o 12 (.mov (.t 0)), o 13 (.mov (.t 5)), o 14 (.ixs 1 (.t 12) (.t 13)), o 15 (.ld1 (.t 14)), o 16 (.bin .eql .none (.t 11) (.t 15))]
def p51_6 : K := .reg [o 17 (.mov (.t 5)), o 4 (.mov (.t 17))]
def p51_7 : K := .seq p51_6 .ret
def p51_8 : K := .cond (.t 16) p51_7 .skip
def p51_9 : K := .seq p51_5 p51_8
def p51_10 : K := .seq p51_4 p51_9
def p51_11 : K := .block 1 p51_10
def p51_12 : K := .reg [o 18 (.bin .add .none (.t 8) (.k (.i 1))), o 8 (.mov (.t 18))]
def p51_13 : K := .seq p51_11 p51_12
def p51_14 : K := .seq p51_3 p51_13
def p51_15 : K := .seq p51_2 p51_14
def p51_16 : K := .loop p51_15
def p51_17 : K := .block 0 p51_16
def p51_18 : K := .seq p51_1 p51_17
def p51_19 : K := .reg [o 4 (.mov (.k (.i (-1))))]
def p51_20 : K := .seq p51_19 .ret
def p51_21 : K := .seq p51_18 p51_20
def p51_22 : K := .seq p51_0 p51_21
def cf51 : CF := { nt := 19, body := p51_22, res := [.tmp 4] }
theorem ok51 : comp Try.prog modeF [] [] Try.f51 = some cf51 := by kernel_rfl
def p52_0 : K := .reg [o 4 (.mov (.k (.str ⟨⟨[]⟩⟩))), o 5 (.mov (.k (.str ⟨⟨[]⟩⟩))), o 6 (.mov (.k (.bool false)))]
def p52_1 : K := .reg [o 8 (.mov (.t 0)), o 9 (.mov (.t 1)), o 10 (.call 55 [.t 8, .t 9]), o 7 (.mov (.t 10))]
def p52_2 : K := .reg [o 11 (.mov (.t 7)), o 12 (.bin .geq .none (.t 11) (.k (.i 0)))]
def p52_3 : K := .drg [⟨some 13, none, .mov (.t 0), 0, true⟩, ⟨some 14, none, .mov (.t 7), 0, true⟩, ⟨some 15, none, .slstr (.t 13) none (some (.t 14)), 3, true⟩, ⟨some 16, none, .mov (.t 0), 0, true⟩, ⟨some 17, none, .mov (.t 7), 0, true⟩, ⟨some 18, none, .mov (.t 1), 0, true⟩, ⟨some 19, none, .lens (.t 18), 32, true⟩, ⟨some 20, none, .bin .add .none (.t 17) (.t 19), 112, true⟩, ⟨some 21, none, .slstr (.t 16) (some (.t 20)) none, 248, true⟩, ⟨some 4, none, .mov (.t 15), 7, true⟩, ⟨some 5, none, .mov (.t 21), 1023, true⟩, ⟨some 6, none, .mov (.k (.bool true)), 2047, true⟩]
def p52_4 : K := .seq p52_3 .ret
def p52_5 : K := .cond (.t 12) p52_4 .skip
def p52_6 : K := .seq p52_2 p52_5
def p52_7 : K := .seq p52_1 p52_6
def p52_8 : K := .reg [o 22 (.mov (.t 0)), o 4 (.mov (.t 22)), o 5 (.mov (.k (.str ⟨⟨[]⟩⟩))), o 6 (.mov (.k (.bool false)))]
def p52_9 : K := .seq p52_8 .ret
def p52_10 : K := .seq p52_7 p52_9
def p52_11 : K := .seq p52_0 p52_10
def cf52 : CF := { nt := 23, body := p52_11, res := [.tmp 4, .tmp 5, .tmp 6] }
theorem ok52 : comp Try.prog modeF [] [] Try.f52 = some cf52 := by kernel_rfl
def lookF (f : Nat) : List (Nat × Fk) → Option Fk
  | [] => none
  | (g, x) :: r => match Nat.beq f g with | true => some x | false => lookF f r
def tableF : List (Nat × Fk) := [(4, .code cf4), (6, .code cf6), (7, .code cf7), (8, .code cf8), (9, .code cf9), (10, .code cf10), (11, .code cf11), (12, .code cf12), (13, .code cf13), (14, .code cf14), (15, .code cf15), (16, .code cf16), (17, .code cf17), (18, .code cf18), (19, .code cf19), (20, .code cf20), (21, .code cf21), (22, .code cf22), (23, .code cf23), (24, .code cf24), (25, .code cf25), (26, .code cf26), (27, .code cf27), (29, .code cf29), (30, .code cf30), (31, .code cf31), (32, .code cf32), (33, .code cf33), (34, .code cf34), (35, .code cf35), (36, .code cf36), (37, .code cf37), (38, .code cf38), (39, .code cf39), (43, .code cf43), (44, .code cf44), (45, .code cf45), (46, .code cf46), (47, .code cf47), (50, .code cf50), (51, .code cf51), (52, .code cf52), (28, .prim primJoin), (55, .prim primIx)]
def GB : Prog := { fns := fun f => lookF f tableF, mode := modeF, nl := 18446744073709551616 }
theorem lookF_mem {f : Nat} {x : Fk} : ∀ {l : List (Nat × Fk)}, lookF f l = some x → (f, x) ∈ l
  | [], h => by simp [lookF] at h
  | (g, y) :: r, h => by
    simp only [lookF] at h
    cases hb : Nat.beq f g with
    | true => rw [hb] at h; injection h with h; subst h; rw [Nat.eq_of_beq_eq_true hb]; simp
    | false => rw [hb] at h; exact List.mem_cons_of_mem _ (lookF_mem h)
def OkE (p : Nat × Fk) : Prop := match p.2 with | .code cf => ∃ fn, Try.prog.funcs[p.1]? = some fn ∧ ∃ os hs, comp Try.prog modeF os hs fn = some cf | .prim q => PrimOK Try.prog p.1 q
theorem table_ok : ∀ p ∈ tableF, OkE p :=
  List.forall_mem_cons.2 ⟨⟨Try.f4, Try.func4, _, _, ok4⟩, List.forall_mem_cons.2 ⟨⟨Try.f6, Try.func6, _, _, ok6⟩, List.forall_mem_cons.2 ⟨⟨Try.f7, Try.func7, _, _, ok7⟩, List.forall_mem_cons.2 ⟨⟨Try.f8, Try.func8, _, _, ok8⟩, List.forall_mem_cons.2 ⟨⟨Try.f9, Try.func9, _, _, ok9⟩, List.forall_mem_cons.2 ⟨⟨Try.f10, Try.func10, _, _, ok10⟩, List.forall_mem_cons.2 ⟨⟨Try.f11, Try.func11, _, _, ok11⟩, List.forall_mem_cons.2 ⟨⟨Try.f12, Try.func12, _, _, ok12⟩, List.forall_mem_cons.2 ⟨⟨Try.f13, Try.func13, _, _, ok13⟩, List.forall_mem_cons.2 ⟨⟨Try.f14, Try.func14, _, _, ok14⟩, List.forall_mem_cons.2 ⟨⟨Try.f15, Try.func15, _, _, ok15⟩, List.forall_mem_cons.2 ⟨⟨Try.f16, Try.func16, _, _, ok16⟩, List.forall_mem_cons.2 ⟨⟨Try.f17, Try.func17, _, _, ok17⟩, List.forall_mem_cons.2 ⟨⟨Try.f18, Try.func18, _, _, ok18⟩, List.forall_mem_cons.2 ⟨⟨Try.f19, Try.func19, _, _, ok19⟩, List.forall_mem_cons.2 ⟨⟨Try.f20, Try.func20, _, _, ok20⟩, List.forall_mem_cons.2 ⟨⟨Try.f21, Try.func21, _, _, ok21⟩, List.forall_mem_cons.2 ⟨⟨Try.f22, Try.func22, _, _, ok22⟩, List.forall_mem_cons.2 ⟨⟨Try.f23, Try.func23, _, _, ok23⟩, List.forall_mem_cons.2 ⟨⟨Try.f24, Try.func24, _, _, ok24⟩, List.forall_mem_cons.2 ⟨⟨Try.f25, Try.func25, _, _, ok25⟩, List.forall_mem_cons.2 ⟨⟨Try.f26, Try.func26, _, _, ok26⟩, List.forall_mem_cons.2 ⟨⟨Try.f27, Try.func27, _, _, ok27⟩, List.forall_mem_cons.2 ⟨⟨Try.f29, Try.func29, _, _, ok29⟩, List.forall_mem_cons.2 ⟨⟨Try.f30, Try.func30, _, _, ok30⟩, List.forall_mem_cons.2 ⟨⟨Try.f31, Try.func31, _, _, ok31⟩, List.forall_mem_cons.2 ⟨⟨Try.f32, Try.func32, _, _, ok32⟩, List.forall_mem_cons.2 ⟨⟨Try.f33, Try.func33, _, _, ok33⟩, List.forall_mem_cons.2 ⟨⟨Try.f34, Try.func34, _, _, ok34⟩, List.forall_mem_cons.2 ⟨⟨Try.f35, Try.func35, _, _, ok35⟩, List.forall_mem_cons.2 ⟨⟨Try.f36, Try.func36, _, _, ok36⟩, List.forall_mem_cons.2 ⟨⟨Try.f37, Try.func37, _, _, ok37⟩, List.forall_mem_cons.2 ⟨⟨Try.f38, Try.func38, _, _, ok38⟩, List.forall_mem_cons.2 ⟨⟨Try.f39, Try.func39, _, _, ok39⟩, List.forall_mem_cons.2 ⟨⟨Try.f43, Try.func43, _, _, ok43⟩, List.forall_mem_cons.2 ⟨⟨Try.f44, Try.func44, _, _, ok44⟩, List.forall_mem_cons.2 ⟨⟨Try.f45, Try.func45, _, _, ok45⟩, List.forall_mem_cons.2 ⟨⟨Try.f46, Try.func46, _, _, ok46⟩, List.forall_mem_cons.2 ⟨⟨Try.f47, Try.func47, _, _, ok47⟩, List.forall_mem_cons.2 ⟨⟨Try.f50, Try.func50, _, _, ok50⟩, List.forall_mem_cons.2 ⟨⟨Try.f51, Try.func51, _, _, ok51⟩, List.forall_mem_cons.2 ⟨⟨Try.f52, Try.func52, _, _, ok52⟩, List.forall_mem_cons.2 ⟨primJoin_ok, List.forall_mem_cons.2 ⟨primIx_ok, (List.forall_mem_nil _)⟩⟩⟩⟩⟩⟩⟩⟩⟩⟩⟩⟩⟩⟩⟩⟩⟩⟩⟩⟩⟩⟩⟩⟩⟩⟩⟩⟩⟩⟩⟩⟩⟩⟩⟩⟩⟩⟩⟩⟩⟩⟩⟩⟩
theorem GB_ok : ProgOK Try.prog GB := ⟨fun _ _ h => table_ok _ (lookF_mem h), fun _ _ h => table_ok _ (lookF_mem h)⟩
end Go.Proofs.Ytnbhmlflbbddcaa.Sx.Bs
