/- THE SEAT's FUNCTIONS AS THE ABSTRACT MACHINE'S CODE, printed by program; each is held against the program by the kernel. -/
import Derived.Test.YtcoagkfjdpdohaaSxJ
import Derived.Test.YtcoagkfjdpdohaaProg
import Derived.KernelRfl
import Derived.Test.YtcoagkfjdpdohaaPr
namespace Go.Proofs.Ytcoagkfjdpdohaa.Sx
open Go
set_option maxRecDepth 1000000
def lookM (f : Nat) : List (Nat × Mode) → Mode
  | [] => .pure
  | (g, m) :: r => if f = g then m else lookM f r
def modeL : List (Nat × Mode) := [(11, .rw), (12, .rw), (17, .rw), (41, .rw), (43, .rw), (53, .rw), (54, .rw), (59, .rw), (76, .rw), (77, .rw), (78, .rw)]
def modeF : FuncId → Mode := fun f => lookM f modeL
def sigL : SigL := []
def sigS : Sig := sigOf sigL
def p7_0 : K := .reg [⟨some 4, none, .mov (.k (.tup [])), 0, false⟩, ⟨some 5, none, .mov (.k (.tup [])), 0, false⟩, ⟨some 6, none, .mov (.k (.tup [])), 0, false⟩, ⟨some 7, none, .mov (.k (.tup [])), 0, false⟩, ⟨some 8, none, .mov (.k (.tup [])), 0, false⟩, ⟨some 10, none, .mov (.k (.tup [])), 0, false⟩, ⟨some 14, none, .mov (.k (.tup [])), 0, false⟩, ⟨some 15, none, .mov (.k (.tup [])), 0, false⟩, ⟨some 17, none, .mov (.k (.tup [])), 0, false⟩]
def p7_1 : K := .reg [⟨some 2, none, .mov (.k (.bool false)), 0, false⟩]
def p7_2 : K := .reg [⟨some 19, none, .mov (.t 0), 0, false⟩, ⟨some 20, none, .call 9 [.t 19], 0, false⟩, ⟨some 21, none, .un .not (.t 20), 0, false⟩]
def p7_3 : K := .reg [⟨some 22, none, .call 10 [], 0, false⟩, ⟨some 2, none, .mov (.t 22), 0, false⟩]
def p7_4 : K := .seq p7_3 .ret
def p7_5 : K := .cond (.t 21) p7_4 .skip
def p7_6 : K := .seq p7_2 p7_5
def p7_7 : K := .reg [⟨some 23, none, .mov (.t 0), 0, false⟩, ⟨some 24, none, .call 12 [.t 23], 0, false⟩, ⟨some 3, none, .mov (.t 24), 0, false⟩]
def p7_8 : K := .reg [⟨some 25, none, .mov (.t 3), 0, false⟩, ⟨some 26, none, .call 11 [.t 25, .k (.i 3)], 0, false⟩, ⟨some 27, none, .mov (.t 3), 0, false⟩, ⟨some 28, none, .call 11 [.t 27, .k (.i 1)], 0, false⟩, ⟨some 29, none, .mov (.t 3), 0, false⟩, ⟨some 30, none, .call 11 [.t 29, .k (.i 1)], 0, false⟩, ⟨some 31, none, .mov (.t 3), 0, false⟩, ⟨some 32, none, .call 11 [.t 31, .k (.i 1)], 0, false⟩, ⟨some 4, none, .lnew [.str ⟨⟨[]⟩⟩, .d (.sl [] 0)], 0, false⟩, ⟨some 5, none, .lnew [.str ⟨⟨[]⟩⟩, .d (.sl [] 0)], 0, false⟩, ⟨some 6, none, .lnew [.str ⟨⟨[]⟩⟩, .d (.sl [] 0)], 0, false⟩, ⟨some 7, none, .lnew [.str ⟨⟨[]⟩⟩, .d (.sl [] 0)], 0, false⟩, ⟨some 4, none, .setc 0 2 (.t 4) (.t 26), 0, false⟩, ⟨some 5, none, .setc 0 2 (.t 5) (.t 28), 0, false⟩, ⟨some 6, none, .setc 0 2 (.t 6) (.t 30), 0, false⟩, ⟨some 7, none, .setc 0 2 (.t 7) (.t 32), 0, false⟩]
def p7_9 : K := .reg [⟨some 34, none, .fld 0 2 true (.t 4), 0, false⟩, ⟨some 35, none, .wsl 3 [.str ⟨⟨[]⟩⟩, .str ⟨⟨[]⟩⟩, .str ⟨⟨[]⟩⟩] [(0, 1, .k (.str ⟨⟨[84]⟩⟩)), (1, 1, .k (.str ⟨⟨[85]⟩⟩)), (2, 1, .k (.str ⟨⟨[83, 101, 108, 102]⟩⟩))], 0, false⟩, ⟨some 36, none, .fld 0 2 true (.t 5), 0, false⟩, ⟨some 37, none, .fld 0 2 true (.t 6), 0, false⟩, ⟨some 38, none, .fld 0 2 true (.t 7), 0, false⟩, ⟨some 39, none, .wsl 3 [.str ⟨⟨[]⟩⟩, .d (.sl [] 0), .str ⟨⟨[]⟩⟩, .d (.sl [] 0), .str ⟨⟨[]⟩⟩, .d (.sl [] 0)] [(0, 2, .t 36), (2, 2, .t 37), (4, 2, .t 38)], 0, false⟩, ⟨some 40, none, .call 18 [.t 34, .t 35, .t 39], 0, false⟩, ⟨some 33, none, .mov (.t 40), 0, false⟩, ⟨some 41, none, .ext (.t 33) 0, 0, false⟩, ⟨some 42, none, .ext (.t 33) 1, 0, false⟩, ⟨some 8, none, .lnew [.str ⟨⟨[]⟩⟩, .d (.sl [] 0)], 0, false⟩, ⟨some 8, none, .setc 0 2 (.t 8) (.t 41), 0, false⟩, ⟨some 9, none, .mov (.t 42), 0, false⟩]
def p7_10 : K := .reg [⟨some 44, none, .fld 0 2 true (.t 8), 0, false⟩, ⟨some 45, none, .wsl 1 [.str ⟨⟨[]⟩⟩] [(0, 1, .k (.str ⟨⟨[84]⟩⟩))], 0, false⟩, ⟨some 46, none, .fld 0 2 true (.t 7), 0, false⟩, ⟨some 47, none, .wsl 1 [.str ⟨⟨[]⟩⟩, .d (.sl [] 0)] [(0, 2, .t 46)], 0, false⟩, ⟨some 48, none, .call 18 [.t 44, .t 45, .t 47], 0, false⟩, ⟨some 43, none, .mov (.t 48), 0, false⟩, ⟨some 49, none, .ext (.t 43) 0, 0, false⟩, ⟨some 50, none, .ext (.t 43) 1, 0, false⟩, ⟨some 10, none, .lnew [.str ⟨⟨[]⟩⟩, .d (.sl [] 0)], 0, false⟩, ⟨some 10, none, .setc 0 2 (.t 10) (.t 49), 0, false⟩, ⟨some 11, none, .mov (.t 50), 0, false⟩]
def p7_11 : K := .reg [⟨some 12, none, .mov (.k (.d (.sl [] 0))), 0, false⟩]
def p7_12 : K := .reg [⟨some 51, none, .fld 0 2 true (.t 5), 0, false⟩, ⟨some 52, none, .fld 0 2 true (.t 6), 0, false⟩, ⟨some 53, none, .fld 0 2 true (.t 7), 0, false⟩, ⟨some 54, none, .wsl 3 [.str ⟨⟨[]⟩⟩, .d (.sl [] 0), .str ⟨⟨[]⟩⟩, .d (.sl [] 0), .str ⟨⟨[]⟩⟩, .d (.sl [] 0)] [(0, 2, .t 51), (2, 2, .t 52), (4, 2, .t 53)], 0, false⟩, ⟨some 55, none, .len (.t 54), 0, false⟩, ⟨some 56, none, .mov (.k (.i 0)), 0, false⟩]
def p7_13 : K := .reg [⟨some 57, none, .bin .lss .none (.t 56) (.t 55), 0, false⟩]
def p7_14 : K := .cond (.t 57) .skip (.exit 0)
def p7_15 : K := .reg [⟨some 58, none, .ixs 2 (.t 54) (.t 56), 0, false⟩, ⟨some 59, none, .ldn 2 (.t 58), 0, false⟩, ⟨some 14, none, .lnew [.str ⟨⟨[]⟩⟩, .d (.sl [] 0)], 0, false⟩, ⟨some 14, none, .setc 0 2 (.t 14) (.t 59), 0, false⟩]
def p7_16 : K := .reg [⟨some 61, none, .fld 0 2 true (.t 14), 0, false⟩, ⟨some 62, none, .wsl 1 [.str ⟨⟨[]⟩⟩] [(0, 1, .k (.str ⟨⟨[84]⟩⟩))], 0, false⟩, ⟨some 63, none, .fld 0 2 true (.t 7), 0, false⟩, ⟨some 64, none, .wsl 1 [.str ⟨⟨[]⟩⟩, .d (.sl [] 0)] [(0, 2, .t 63)], 0, false⟩, ⟨some 65, none, .call 18 [.t 61, .t 62, .t 64], 0, false⟩, ⟨some 60, none, .mov (.t 65), 0, false⟩, ⟨some 66, none, .ext (.t 60) 0, 0, false⟩, ⟨some 67, none, .ext (.t 60) 1, 0, false⟩, ⟨some 15, none, .lnew [.str ⟨⟨[]⟩⟩, .d (.sl [] 0)], 0, false⟩, ⟨some 15, none, .setc 0 2 (.t 15) (.t 66), 0, false⟩, ⟨some 16, none, .mov (.t 67), 0, false⟩]
def p7_17 : K := .reg [⟨some 68, none, .mov (.t 16), 0, false⟩, ⟨some 69, none, .bin .neq .none (.t 68) (.k (.i 0)), 0, false⟩]
def p7_18 : K := .reg [⟨some 2, none, .mov (.k (.bool false)), 0, false⟩]
def p7_19 : K := .seq p7_18 .ret
def p7_20 : K := .cond (.t 69) p7_19 .skip
def p7_21 : K := .seq p7_17 p7_20
def p7_22 : K := .reg [⟨some 70, none, .mov (.t 12), 0, false⟩, ⟨some 71, none, .fld 0 2 true (.t 15), 0, false⟩, ⟨some 72, none, .wsl 1 [.str ⟨⟨[]⟩⟩, .d (.sl [] 0)] [(0, 2, .t 71)], 0, false⟩, ⟨some 73, none, .wapp 2 40 (.t 70) (.t 72), 0, false⟩, ⟨some 12, none, .mov (.t 73), 0, false⟩]
def p7_23 : K := .seq p7_21 p7_22
def p7_24 : K := .seq p7_16 p7_23
def p7_25 : K := .seq p7_15 p7_24
def p7_26 : K := .block 1 p7_25
def p7_27 : K := .reg [⟨some 74, none, .bin .add .none (.t 56) (.k (.i 1)), 0, false⟩, ⟨some 56, none, .mov (.t 74), 0, false⟩]
def p7_28 : K := .seq p7_26 p7_27
def p7_29 : K := .seq p7_14 p7_28
def p7_30 : K := .seq p7_13 p7_29
def p7_31 : K := .loop p7_30
def p7_32 : K := .block 0 p7_31
def p7_33 : K := .seq p7_12 p7_32
def p7_34 : K := .reg [⟨some 76, none, .fld 0 2 true (.t 4), 0, false⟩, ⟨some 77, none, .wsl 3 [.str ⟨⟨[]⟩⟩, .str ⟨⟨[]⟩⟩, .str ⟨⟨[]⟩⟩] [(0, 1, .k (.str ⟨⟨[84]⟩⟩)), (1, 1, .k (.str ⟨⟨[85]⟩⟩)), (2, 1, .k (.str ⟨⟨[83, 101, 108, 102]⟩⟩))], 0, false⟩, ⟨some 78, none, .mov (.t 12), 0, false⟩, ⟨some 79, none, .call 18 [.t 76, .t 77, .t 78], 0, false⟩, ⟨some 75, none, .mov (.t 79), 0, false⟩, ⟨some 80, none, .ext (.t 75) 0, 0, false⟩, ⟨some 81, none, .ext (.t 75) 1, 0, false⟩, ⟨some 17, none, .lnew [.str ⟨⟨[]⟩⟩, .d (.sl [] 0)], 0, false⟩, ⟨some 17, none, .setc 0 2 (.t 17) (.t 80), 0, false⟩, ⟨some 18, none, .mov (.t 81), 0, false⟩]
def p7_35 : K := .reg [⟨some 82, none, .mov (.t 9), 0, false⟩, ⟨some 83, none, .bin .eql .none (.t 82) (.k (.i 0)), 0, false⟩, ⟨some 84, none, .mov (.t 83), 0, false⟩, ⟨some 85, some (84, true), .mov (.t 11), 0, false⟩, ⟨some 86, some (84, true), .bin .eql .none (.t 85) (.k (.i 0)), 0, false⟩, ⟨some 87, none, .pick (.t 84) (.t 86) (.k (.bool false)), 0, false⟩, ⟨some 88, none, .mov (.t 87), 0, false⟩, ⟨some 89, some (88, true), .mov (.t 18), 0, false⟩, ⟨some 90, some (88, true), .bin .eql .none (.t 89) (.k (.i 0)), 0, false⟩, ⟨some 91, none, .pick (.t 88) (.t 90) (.k (.bool false)), 0, false⟩, ⟨some 92, none, .mov (.t 91), 0, false⟩, ⟨some 93, some (92, true), .fld 0 2 true (.t 10), 0, false⟩, ⟨some 94, some (92, true), .fld 0 2 true (.t 17), 0, false⟩, ⟨some 95, some (92, true), .call 14 [.t 93, .t 94], 0, false⟩, ⟨some 96, none, .pick (.t 92) (.t 95) (.k (.bool false)), 0, false⟩, ⟨some 97, none, .mov (.t 96), 0, false⟩, ⟨some 98, some (97, true), .fld 0 2 true (.t 4), 0, false⟩, ⟨some 99, some (97, true), .call 27 [.t 98], 0, false⟩, ⟨some 100, some (97, true), .un .not (.t 99), 0, false⟩, ⟨some 101, some (97, true), .mov (.t 100), 0, false⟩, ⟨some 102, some (101, false), .fld 0 2 true (.t 8), 0, false⟩, ⟨some 103, some (101, false), .fld 0 2 true (.t 4), 0, false⟩, ⟨some 104, some (101, false), .call 14 [.t 102, .t 103], 0, false⟩, ⟨some 105, some (97, true), .pick (.t 101) (.k (.bool true)) (.t 104), 0, false⟩, ⟨some 106, none, .pick (.t 97) (.t 105) (.k (.bool false)), 0, false⟩, ⟨some 107, none, .mov (.t 106), 0, false⟩, ⟨some 108, some (107, true), .call 10 [], 0, false⟩, ⟨some 109, none, .pick (.t 107) (.t 108) (.k (.bool false)), 0, false⟩, ⟨some 2, none, .mov (.t 109), 0, false⟩]
def p7_36 : K := .seq p7_35 .ret
def p7_37 : K := .seq p7_34 p7_36
def p7_38 : K := .seq p7_33 p7_37
def p7_39 : K := .seq p7_11 p7_38
def p7_40 : K := .seq p7_10 p7_39
def p7_41 : K := .seq p7_9 p7_40
def p7_42 : K := .seq p7_8 p7_41
def p7_43 : K := .seq p7_7 p7_42
def p7_44 : K := .seq p7_6 p7_43
def p7_45 : K := .seq p7_1 p7_44
def p7_46 : K := .seq p7_0 p7_45
def cf7 : CF := { nt := 110, body := p7_46, res := [.tmp 2] }
def hi7 : List Hint := []
def pm7 : Pm := ⟨[4, 5, 6, 7, 8, 10, 14, 15, 17], []⟩
def os7 : List TypeId := []
theorem ok7 : vComp Try.prog modeF os7 hi7 pm7 sigS 7 Try.f7 = some cf7 := by kernel_rfl
def p9_0 : K := .reg []
def p9_1 : K := .reg [⟨some 2, none, .mov (.k (.bool false)), 0, false⟩]
def p9_2 : K := .reg [⟨some 3, none, .mov (.t 0), 0, false⟩, ⟨some 4, none, .len (.t 3), 0, false⟩, ⟨some 5, none, .bin .leq .none (.t 4) (.k (.i 700)), 0, false⟩, ⟨some 2, none, .mov (.t 5), 0, false⟩]
def p9_3 : K := .seq p9_2 .ret
def p9_4 : K := .seq p9_1 p9_3
def p9_5 : K := .seq p9_0 p9_4
def cf9 : CF := { nt := 6, body := p9_5, res := [.tmp 2] }
def hi9 : List Hint := []
def pm9 : Pm := ⟨[], []⟩
def os9 : List TypeId := []
theorem ok9 : vComp Try.prog modeF os9 hi9 pm9 sigS 9 Try.f9 = some cf9 := by kernel_rfl
def p10_0 : K := .reg [⟨some 1, none, .mov (.k (.tup [])), 0, false⟩, ⟨some 2, none, .mov (.k (.tup [])), 0, false⟩]
def p10_1 : K := .reg [⟨some 0, none, .mov (.k (.bool false)), 0, false⟩]
def p10_2 : K := .reg [⟨some 7, none, .mk [.str ⟨⟨[]⟩⟩, .d (.sl [] 0)] [(0, 1, .k (.str ⟨⟨[65]⟩⟩))], 0, false⟩, ⟨some 1, none, .lnew [.str ⟨⟨[]⟩⟩, .d (.sl [] 0)], 0, false⟩, ⟨some 1, none, .setc 0 2 (.t 1) (.t 7), 0, false⟩]
def p10_3 : K := .reg [⟨some 8, none, .mk [.str ⟨⟨[]⟩⟩, .d (.sl [] 0)] [(0, 1, .k (.str ⟨⟨[73, 110, 116]⟩⟩))], 0, false⟩, ⟨some 2, none, .lnew [.str ⟨⟨[]⟩⟩, .d (.sl [] 0)], 0, false⟩, ⟨some 2, none, .setc 0 2 (.t 2) (.t 8), 0, false⟩]
def p10_4 : K := .reg [⟨some 10, none, .fld 0 2 true (.t 1), 0, false⟩, ⟨some 11, none, .fld 0 2 true (.t 1), 0, false⟩, ⟨some 12, none, .wsl 2 [.str ⟨⟨[]⟩⟩, .d (.sl [] 0), .str ⟨⟨[]⟩⟩, .d (.sl [] 0)] [(0, 2, .t 10), (2, 2, .t 11)], 0, false⟩, ⟨some 13, none, .mk [.str ⟨⟨[]⟩⟩, .d (.sl [] 0)] [(0, 1, .k (.str ⟨⟨[109, 46, 80]⟩⟩)), (1, 1, .t 12)], 0, false⟩, ⟨some 14, none, .fld 0 2 true (.t 2), 0, false⟩, ⟨some 15, none, .fld 0 2 true (.t 2), 0, false⟩, ⟨some 16, none, .wsl 2 [.str ⟨⟨[]⟩⟩, .d (.sl [] 0), .str ⟨⟨[]⟩⟩, .d (.sl [] 0)] [(0, 2, .t 14), (2, 2, .t 15)], 0, false⟩, ⟨some 17, none, .mk [.str ⟨⟨[]⟩⟩, .d (.sl [] 0)] [(0, 1, .k (.str ⟨⟨[109, 46, 80]⟩⟩)), (1, 1, .t 16)], 0, false⟩, ⟨some 18, none, .wsl 1 [.str ⟨⟨[]⟩⟩] [(0, 1, .k (.str ⟨⟨[65]⟩⟩))], 0, false⟩, ⟨some 19, none, .call 22 [.t 13, .t 17, .t 18], 0, false⟩, ⟨some 9, none, .mov (.t 19), 0, false⟩, ⟨some 20, none, .ext (.t 9) 0, 0, false⟩, ⟨some 21, none, .ext (.t 9) 1, 0, false⟩, ⟨some 3, none, .mov (.t 20), 0, false⟩, ⟨some 4, none, .mov (.t 21), 0, false⟩]
def p10_5 : K := .reg [⟨some 23, none, .fld 0 2 true (.t 1), 0, false⟩, ⟨some 24, none, .fld 0 2 true (.t 1), 0, false⟩, ⟨some 25, none, .wsl 2 [.str ⟨⟨[]⟩⟩, .d (.sl [] 0), .str ⟨⟨[]⟩⟩, .d (.sl [] 0)] [(0, 2, .t 23), (2, 2, .t 24)], 0, false⟩, ⟨some 26, none, .mk [.str ⟨⟨[]⟩⟩, .d (.sl [] 0)] [(0, 1, .k (.str ⟨⟨[109, 46, 80]⟩⟩)), (1, 1, .t 25)], 0, false⟩, ⟨some 27, none, .fld 0 2 true (.t 2), 0, false⟩, ⟨some 28, none, .fld 0 2 true (.t 1), 0, false⟩, ⟨some 29, none, .wsl 2 [.str ⟨⟨[]⟩⟩, .d (.sl [] 0), .str ⟨⟨[]⟩⟩, .d (.sl [] 0)] [(0, 2, .t 27), (2, 2, .t 28)], 0, false⟩, ⟨some 30, none, .mk [.str ⟨⟨[]⟩⟩, .d (.sl [] 0)] [(0, 1, .k (.str ⟨⟨[109, 46, 80]⟩⟩)), (1, 1, .t 29)], 0, false⟩, ⟨some 31, none, .wsl 1 [.str ⟨⟨[]⟩⟩] [(0, 1, .k (.str ⟨⟨[65]⟩⟩))], 0, false⟩, ⟨some 32, none, .call 22 [.t 26, .t 30, .t 31], 0, false⟩, ⟨some 22, none, .mov (.t 32), 0, false⟩, ⟨some 33, none, .ext (.t 22) 0, 0, false⟩, ⟨some 34, none, .ext (.t 22) 1, 0, false⟩, ⟨some 5, none, .mov (.t 33), 0, false⟩, ⟨some 6, none, .mov (.t 34), 0, false⟩]
def p10_6 : K := .reg [⟨some 35, none, .mov (.t 4), 0, false⟩, ⟨some 36, none, .mov (.t 35), 0, false⟩, ⟨some 37, some (36, true), .mov (.t 6), 0, false⟩, ⟨some 38, some (36, true), .un .not (.t 37), 0, false⟩, ⟨some 39, none, .pick (.t 36) (.t 38) (.k (.bool false)), 0, false⟩, ⟨some 40, none, .mov (.t 39), 0, false⟩, ⟨some 41, some (40, true), .mov (.t 3), 0, false⟩, ⟨some 42, some (40, true), .len (.t 41), 0, false⟩, ⟨some 43, some (40, true), .bin .eql .none (.t 42) (.k (.i 1)), 0, false⟩, ⟨some 44, none, .pick (.t 40) (.t 43) (.k (.bool false)), 0, false⟩, ⟨some 45, none, .mov (.t 44), 0, false⟩, ⟨some 46, some (45, true), .mov (.t 3), 0, false⟩, ⟨some 47, some (45, true), .ixs 2 (.t 46) (.k (.i 0)), 0, false⟩, ⟨some 48, some (45, true), .fad 0 (.t 47), 0, false⟩, ⟨some 49, some (45, true), .ld1 (.t 48), 0, false⟩, ⟨some 50, some (45, true), .bin .eql .none (.t 49) (.k (.str ⟨⟨[73, 110, 116]⟩⟩)), 0, false⟩, ⟨some 51, none, .pick (.t 45) (.t 50) (.k (.bool false)), 0, false⟩, ⟨some 52, none, .mov (.t 51), 0, false⟩, ⟨some 53, some (52, true), .fld 0 2 true (.t 1), 0, false⟩, ⟨some 54, some (52, true), .fld 0 2 true (.t 2), 0, false⟩, ⟨some 55, some (52, true), .wsl 2 [.str ⟨⟨[]⟩⟩, .d (.sl [] 0), .str ⟨⟨[]⟩⟩, .d (.sl [] 0)] [(0, 2, .t 53), (2, 2, .t 54)], 0, false⟩, ⟨some 56, some (52, true), .mk [.str ⟨⟨[]⟩⟩, .d (.sl [] 0)] [(0, 1, .k (.str ⟨⟨[109, 46, 80]⟩⟩)), (1, 1, .t 55)], 0, false⟩, ⟨some 57, some (52, true), .call 15 [.t 56], 0, false⟩, ⟨some 58, some (52, true), .bin .eql .none (.t 57) (.k (.str ⟨⟨[109, 46, 80, 91, 65, 44, 32, 73, 110, 116, 93]⟩⟩)), 0, false⟩, ⟨some 59, none, .pick (.t 52) (.t 58) (.k (.bool false)), 0, false⟩, ⟨some 0, none, .mov (.t 59), 0, false⟩]
def p10_7 : K := .seq p10_6 .ret
def p10_8 : K := .seq p10_5 p10_7
def p10_9 : K := .seq p10_4 p10_8
def p10_10 : K := .seq p10_3 p10_9
def p10_11 : K := .seq p10_2 p10_10
def p10_12 : K := .seq p10_1 p10_11
def p10_13 : K := .seq p10_0 p10_12
def cf10 : CF := { nt := 60, body := p10_13, res := [.tmp 0] }
def hi10 : List Hint := []
def pm10 : Pm := ⟨[1, 2], []⟩
def os10 : List TypeId := []
theorem ok10 : vComp Try.prog modeF os10 hi10 pm10 sigS 10 Try.f10 = some cf10 := by kernel_rfl
def p11_0 : K := .reg [⟨some 4, none, .mov (.k (.tup [])), 0, false⟩, ⟨some 6, none, .mov (.k (.tup [])), 0, false⟩]
def p11_1 : K := .reg [⟨some 4, none, .lnew [.str ⟨⟨[]⟩⟩, .d (.sl [] 0)], 0, false⟩]
def p11_2 : K := .reg [⟨some 8, none, .wsl 9 [.str ⟨⟨[]⟩⟩, .str ⟨⟨[]⟩⟩, .str ⟨⟨[]⟩⟩, .str ⟨⟨[]⟩⟩, .str ⟨⟨[]⟩⟩, .str ⟨⟨[]⟩⟩, .str ⟨⟨[]⟩⟩, .str ⟨⟨[]⟩⟩, .str ⟨⟨[]⟩⟩] [(0, 1, .k (.str ⟨⟨[73, 110, 116]⟩⟩)), (1, 1, .k (.str ⟨⟨[66, 111, 111, 108]⟩⟩)), (2, 1, .k (.str ⟨⟨[84]⟩⟩)), (3, 1, .k (.str ⟨⟨[85]⟩⟩)), (4, 1, .k (.str ⟨⟨[83, 101, 108, 102]⟩⟩)), (5, 1, .k (.str ⟨⟨[65, 114, 114, 97, 121]⟩⟩)), (6, 1, .k (.str ⟨⟨[103, 101, 111, 46, 80]⟩⟩)), (7, 1, .k (.str ⟨⟨[103, 101, 111, 46, 81]⟩⟩)), (8, 1, .k (.str ⟨⟨[98, 97, 115, 101, 46, 82]⟩⟩))], 0, false⟩, ⟨some 5, none, .mov (.t 8), 0, false⟩]
def p11_3 : K := .reg [⟨some 9, none, .mov (.t 5), 0, false⟩, ⟨some 10, none, .mov (.t 0), 0, false⟩, ⟨some 11, none, .mov (.t 5), 0, false⟩, ⟨some 12, none, .len (.t 11), 0, false⟩, ⟨some 13, none, .call 17 [.t 10, .t 12], 0, false⟩, ⟨some 14, none, .ixs 1 (.t 9) (.t 13), 0, false⟩, ⟨some 15, none, .ld1 (.t 14), 0, false⟩, ⟨some 16, none, .mk [.str ⟨⟨[]⟩⟩, .d (.sl [] 0)] [(0, 1, .t 15)], 0, false⟩, ⟨some 6, none, .lnew [.str ⟨⟨[]⟩⟩, .d (.sl [] 0)], 0, false⟩, ⟨some 6, none, .setc 0 2 (.t 6) (.t 16), 0, false⟩]
def p11_4 : K := .reg [⟨some 7, none, .mov (.k (.i 0)), 0, false⟩]
def p11_5 : K := .reg [⟨some 17, none, .mov (.t 1), 0, false⟩, ⟨some 18, none, .bin .gtr .none (.t 17) (.k (.i 0)), 0, false⟩, ⟨some 19, none, .mov (.t 18), 0, false⟩, ⟨some 20, some (19, true), .fld 0 0 true (.t 6), 0, false⟩, ⟨some 21, some (19, true), .fld 0 1 false (.t 6), 0, false⟩, ⟨some 22, some (19, true), .ixc (.t 21) (.k (.i 0)), 0, false⟩, ⟨some 23, some (19, true), .bin .geq .none (.t 22) (.k (.int .u8 97)), 0, false⟩, ⟨some 24, none, .pick (.t 19) (.t 23) (.k (.bool false)), 0, false⟩]
def p11_6 : K := .reg [⟨some 25, none, .mov (.t 0), 0, false⟩, ⟨some 26, none, .call 17 [.t 25, .k (.i 4)], 0, false⟩, ⟨some 7, none, .mov (.t 26), 0, false⟩]
def p11_7 : K := .cond (.t 24) p11_6 .skip
def p11_8 : K := .seq p11_5 p11_7
def p11_9 : K := .reg [⟨some 27, none, .fld 0 0 true (.t 6), 0, false⟩, ⟨some 28, none, .fld 0 1 false (.t 6), 0, false⟩, ⟨some 29, none, .bin .eql .none (.t 28) (.k (.str ⟨⟨[65, 114, 114, 97, 121]⟩⟩)), 0, false⟩]
def p11_10 : K := .reg [⟨some 7, none, .mov (.k (.i 1)), 0, false⟩]
def p11_11 : K := .reg [⟨some 30, none, .mov (.t 1), 0, false⟩, ⟨some 31, none, .bin .lss .none (.t 30) (.k (.i 0)), 0, false⟩]
def p11_12 : K := .reg [⟨some 32, none, .fld 0 0 true (.t 6), 0, false⟩, ⟨some 6, none, .setc 0 1 (.t 6) (.k (.str ⟨⟨[73, 110, 116]⟩⟩)), 0, false⟩, ⟨some 7, none, .mov (.k (.i 0)), 0, false⟩]
def p11_13 : K := .cond (.t 31) p11_12 .skip
def p11_14 : K := .seq p11_11 p11_13
def p11_15 : K := .seq p11_10 p11_14
def p11_16 : K := .cond (.t 29) p11_15 .skip
def p11_17 : K := .seq p11_9 p11_16
def p11_18 : K := .reg [⟨some 33, none, .mov (.t 7), 0, false⟩, ⟨some 34, none, .bin .gtr .none (.t 33) (.k (.i 0)), 0, false⟩]
def p11_19 : K := .cond (.t 34) .skip (.exit 0)
def p11_20 : K := .seq p11_18 p11_19
def p11_21 : K := .drg [⟨some 37, none, .fld 0 0 true (.t 6), 0, true⟩, ⟨some 38, none, .fld 1 1 false (.t 6), 1, true⟩, ⟨some 39, none, .mov (.t 0), 0, true⟩, ⟨some 40, none, .mov (.t 1), 0, true⟩, ⟨some 41, none, .bin .sub .none (.t 40) (.k (.i 1)), 8, true⟩, ⟨some 42, none, .callk 11 [.t 39, .t 41] [.t 6], 28, true⟩, ⟨some 43, none, .wsl 1 [.str ⟨⟨[]⟩⟩, .d (.sl [] 0)] [(0, 2, .t 42)], 60, true⟩, ⟨some 44, none, .wapp 2 40 (.t 38) (.t 43), 127, true⟩, ⟨some 45, none, .fld 0 0 true (.t 6), 255, true⟩, ⟨some 6, none, .setc 1 1 (.t 6) (.t 44), 511, true⟩]
def p11_22 : K := .block 1 p11_21
def p11_23 : K := .reg [⟨some 35, none, .mov (.t 7), 0, false⟩, ⟨some 36, none, .bin .sub .none (.t 35) (.k (.i 1)), 0, false⟩, ⟨some 7, none, .mov (.t 36), 0, false⟩]
def p11_24 : K := .seq p11_22 p11_23
def p11_25 : K := .seq p11_20 p11_24
def p11_26 : K := .loop p11_25
def p11_27 : K := .block 0 p11_26
def p11_28 : K := .reg [⟨some 46, none, .fld 0 2 true (.t 6), 0, false⟩, ⟨some 4, none, .setc 0 2 (.t 4) (.t 46), 0, false⟩]
def p11_29 : K := .seq p11_28 .ret
def p11_30 : K := .seq p11_27 p11_29
def p11_31 : K := .seq p11_17 p11_30
def p11_32 : K := .seq p11_8 p11_31
def p11_33 : K := .seq p11_4 p11_32
def p11_34 : K := .seq p11_3 p11_33
def p11_35 : K := .seq p11_2 p11_34
def p11_36 : K := .seq p11_1 p11_35
def p11_37 : K := .seq p11_0 p11_36
def cf11 : CF := { nt := 47, body := p11_37, res := [.loc 4 2 true] }
def hi11 : List Hint := [(12, 5, 1, 6)]
def pm11 : Pm := ⟨[4, 6], [20, 27, 32, 37, 45]⟩
def os11 : List TypeId := []
theorem ok11 : vComp Try.prog modeF os11 hi11 pm11 sigS 11 Try.f11 = some cf11 := by kernel_rfl
def p12_0 : K := .reg []
def p12_1 : K := .reg [⟨some 2, none, .mov (.k .nil), 0, false⟩]
def p12_2 : K := .reg [⟨some 3, none, .mov (.t 0), 0, false⟩, ⟨some 4, none, .mk [.d (.sl [] 0), .i 0] [(0, 1, .t 3)], 0, false⟩, ⟨some 5, none, .box 56 (.t 4), 0, false⟩, ⟨some 2, none, .mov (.t 5), 0, false⟩]
def p12_3 : K := .seq p12_2 .ret
def p12_4 : K := .seq p12_1 p12_3
def p12_5 : K := .seq p12_0 p12_4
def cf12 : CF := { nt := 6, body := p12_5, res := [.tmp 2] }
def hi12 : List Hint := []
def pm12 : Pm := ⟨[], []⟩
def os12 : List TypeId := []
theorem ok12 : vComp Try.prog modeF os12 hi12 pm12 sigS 12 Try.f12 = some cf12 := by kernel_rfl
def p14_0 : K := .reg [⟨some 2, none, .mov (.k (.tup [])), 0, false⟩, ⟨some 3, none, .mov (.k (.tup [])), 0, false⟩]
def p14_1 : K := .reg [⟨some 2, none, .lbox (.t 0), 0, false⟩, ⟨some 3, none, .lbox (.t 1), 0, false⟩, ⟨some 4, none, .mov (.k (.bool false)), 0, false⟩]
def p14_2 : K := .reg [⟨some 5, none, .fld 0 0 true (.t 2), 0, false⟩, ⟨some 6, none, .fld 0 1 false (.t 2), 0, false⟩, ⟨some 7, none, .fld 0 0 true (.t 3), 0, false⟩, ⟨some 8, none, .fld 0 1 false (.t 3), 0, false⟩, ⟨some 9, none, .bin .eql .none (.t 6) (.t 8), 0, false⟩, ⟨some 10, none, .mov (.t 9), 0, false⟩, ⟨some 11, some (10, true), .fld 0 0 true (.t 2), 0, false⟩, ⟨some 12, some (10, true), .fld 1 1 false (.t 2), 0, false⟩, ⟨some 13, some (10, true), .fld 0 0 true (.t 3), 0, false⟩, ⟨some 14, some (10, true), .fld 1 1 false (.t 3), 0, false⟩, ⟨some 15, some (10, true), .call 41 [.t 12, .t 14, .k (.fn 14 [] [])], 0, false⟩, ⟨some 16, none, .pick (.t 10) (.t 15) (.k (.bool false)), 0, false⟩, ⟨some 4, none, .mov (.t 16), 0, false⟩]
def p14_3 : K := .seq p14_2 .ret
def p14_4 : K := .seq p14_1 p14_3
def p14_5 : K := .seq p14_0 p14_4
def cf14 : CF := { nt := 17, body := p14_5, res := [.tmp 4] }
def hi14 : List Hint := []
def pm14 : Pm := ⟨[2, 3], [5, 7, 11, 13]⟩
def os14 : List TypeId := []
theorem ok14 : vComp Try.prog modeF os14 hi14 pm14 sigS 14 Try.f14 = some cf14 := by kernel_rfl
def p15_0 : K := .reg [⟨some 1, none, .mov (.k (.tup [])), 0, false⟩, ⟨some 5, none, .mov (.k (.tup [])), 0, false⟩]
def p15_1 : K := .reg [⟨some 1, none, .lbox (.t 0), 0, false⟩, ⟨some 2, none, .mov (.k (.str ⟨⟨[]⟩⟩)), 0, false⟩]
def p15_2 : K := .reg [⟨some 6, none, .fld 0 0 true (.t 1), 0, false⟩, ⟨some 7, none, .fld 1 1 false (.t 1), 0, false⟩, ⟨some 8, none, .len (.t 7), 0, false⟩, ⟨some 9, none, .bin .eql .none (.t 8) (.k (.i 0)), 0, false⟩]
def p15_3 : K := .reg [⟨some 10, none, .fld 0 0 true (.t 1), 0, false⟩, ⟨some 11, none, .fld 0 1 false (.t 1), 0, false⟩, ⟨some 2, none, .mov (.t 11), 0, false⟩]
def p15_4 : K := .seq p15_3 .ret
def p15_5 : K := .cond (.t 9) p15_4 .skip
def p15_6 : K := .seq p15_2 p15_5
def p15_7 : K := .reg [⟨some 3, none, .mov (.k (.d (.sl [] 0))), 0, false⟩]
def p15_8 : K := .reg [⟨some 12, none, .fld 0 0 true (.t 1), 0, false⟩, ⟨some 13, none, .fld 1 1 false (.t 1), 0, false⟩, ⟨some 14, none, .len (.t 13), 0, false⟩, ⟨some 15, none, .mov (.k (.i 0)), 0, false⟩]
def p15_9 : K := .reg [⟨some 16, none, .bin .lss .none (.t 15) (.t 14), 0, false⟩]
def p15_10 : K := .cond (.t 16) .skip (.exit 0)
def p15_11 : K := .reg [⟨some 17, none, .ixs 2 (.t 13) (.t 15), 0, false⟩, ⟨some 18, none, .ldn 2 (.t 17), 0, false⟩, ⟨some 5, none, .lnew [.str ⟨⟨[]⟩⟩, .d (.sl [] 0)], 0, false⟩, ⟨some 5, none, .setc 0 2 (.t 5) (.t 18), 0, false⟩]
def p15_12 : K := .reg [⟨some 19, none, .mov (.t 3), 0, false⟩, ⟨some 20, none, .fld 0 2 true (.t 5), 0, false⟩, ⟨some 21, none, .call 15 [.t 20], 0, false⟩, ⟨some 22, none, .wsl 1 [.str ⟨⟨[]⟩⟩] [(0, 1, .t 21)], 0, false⟩, ⟨some 23, none, .wapp 1 16 (.t 19) (.t 22), 0, false⟩, ⟨some 3, none, .mov (.t 23), 0, false⟩]
def p15_13 : K := .seq p15_11 p15_12
def p15_14 : K := .block 1 p15_13
def p15_15 : K := .reg [⟨some 24, none, .bin .add .none (.t 15) (.k (.i 1)), 0, false⟩, ⟨some 15, none, .mov (.t 24), 0, false⟩]
def p15_16 : K := .seq p15_14 p15_15
def p15_17 : K := .seq p15_10 p15_16
def p15_18 : K := .seq p15_9 p15_17
def p15_19 : K := .loop p15_18
def p15_20 : K := .block 0 p15_19
def p15_21 : K := .seq p15_8 p15_20
def p15_22 : K := .drg [⟨some 25, none, .fld 0 0 true (.t 1), 0, true⟩, ⟨some 26, none, .fld 0 1 false (.t 1), 1, true⟩, ⟨some 27, none, .bin .add .none (.t 26) (.k (.str ⟨⟨[91]⟩⟩)), 3, true⟩, ⟨some 28, none, .mov (.t 3), 0, true⟩, ⟨some 29, none, .call 42 [.t 28, .k (.str ⟨⟨[44, 32]⟩⟩)], 8, true⟩, ⟨some 30, none, .bin .add .none (.t 27) (.t 29), 31, true⟩, ⟨some 31, none, .bin .add .none (.t 30) (.k (.str ⟨⟨[93]⟩⟩)), 63, true⟩, ⟨some 2, none, .mov (.t 31), 127, true⟩]
def p15_23 : K := .seq p15_22 .ret
def p15_24 : K := .seq p15_21 p15_23
def p15_25 : K := .seq p15_7 p15_24
def p15_26 : K := .seq p15_6 p15_25
def p15_27 : K := .seq p15_1 p15_26
def p15_28 : K := .seq p15_0 p15_27
def cf15 : CF := { nt := 32, body := p15_28, res := [.tmp 2] }
def hi15 : List Hint := []
def pm15 : Pm := ⟨[1, 5], [6, 10, 12, 25]⟩
def os15 : List TypeId := []
theorem ok15 : vComp Try.prog modeF os15 hi15 pm15 sigS 15 Try.f15 = some cf15 := by kernel_rfl
def p17_0 : K := .reg []
def p17_1 : K := .reg [⟨some 4, none, .mov (.k (.i 0)), 0, false⟩]
def p17_2 : K := .reg [⟨some 5, none, .mov (.t 0), 0, false⟩, ⟨some 6, none, .call 43 [.t 5], 0, false⟩, ⟨some 7, none, .un .not (.t 6), 0, false⟩]
def p17_3 : K := .reg [⟨some 4, none, .mov (.k (.i 0)), 0, false⟩]
def p17_4 : K := .seq p17_3 .ret
def p17_5 : K := .cond (.t 7) p17_4 .skip
def p17_6 : K := .seq p17_2 p17_5
def p17_7 : K := .reg [⟨some 8, none, .mov (.t 0), 0, false⟩, ⟨some 9, none, .nilc (.t 8), 0, false⟩, ⟨some 10, none, .fad 1 (.t 9), 0, false⟩, ⟨some 11, none, .ld1 (.t 10), 0, false⟩, ⟨some 12, none, .bin .add .none (.t 11) (.k (.i 1)), 0, false⟩, ⟨some 13, none, .nilc (.t 8), 0, false⟩, ⟨some 14, none, .fad 1 (.t 13), 0, false⟩, ⟨none, none, .st 1 (.t 14) (.t 12), 0, false⟩]
def p17_8 : K := .drg [⟨some 15, none, .mov (.t 0), 0, true⟩, ⟨some 16, none, .nilc (.t 15), 1, true⟩, ⟨some 17, none, .fad 0 (.t 16), 3, true⟩, ⟨some 18, none, .ld1 (.t 17), 7, true⟩, ⟨some 19, none, .mov (.t 0), 0, true⟩, ⟨some 20, none, .nilc (.t 19), 16, true⟩, ⟨some 21, none, .fad 1 (.t 20), 48, true⟩, ⟨some 22, none, .ld1 (.t 21), 112, true⟩, ⟨some 23, none, .bin .sub .none (.t 22) (.k (.i 1)), 240, true⟩, ⟨some 24, none, .ixs 1 (.t 18) (.t 23), 511, true⟩, ⟨some 25, none, .ld1 (.t 24), 1023, true⟩, ⟨some 26, none, .mov (.t 1), 0, true⟩, ⟨some 27, none, .call 44 [.t 25, .t 26], 4095, true⟩, ⟨some 4, none, .mov (.t 27), 8191, true⟩]
def p17_9 : K := .seq p17_8 .ret
def p17_10 : K := .seq p17_7 p17_9
def p17_11 : K := .seq p17_6 p17_10
def p17_12 : K := .seq p17_1 p17_11
def p17_13 : K := .seq p17_0 p17_12
def cf17 : CF := { nt := 28, body := p17_13, res := [.tmp 4] }
def hi17 : List Hint := []
def pm17 : Pm := ⟨[], []⟩
def os17 : List TypeId := []
theorem ok17 : vComp Try.prog modeF os17 hi17 pm17 sigS 17 Try.f17 = some cf17 := by kernel_rfl
def p18_0 : K := .reg [⟨some 3, none, .mov (.k (.tup [])), 0, false⟩, ⟨some 6, none, .mov (.k (.tup [])), 0, false⟩, ⟨some 10, none, .mov (.k (.tup [])), 0, false⟩]
def p18_1 : K := .reg [⟨some 3, none, .lbox (.t 0), 0, false⟩, ⟨some 6, none, .lnew [.str ⟨⟨[]⟩⟩, .d (.sl [] 0)], 0, false⟩, ⟨some 7, none, .mov (.k (.i 0)), 0, false⟩]
def p18_2 : K := .reg [⟨some 12, none, .mov (.t 1), 0, false⟩, ⟨some 13, none, .len (.t 12), 0, false⟩, ⟨some 14, none, .mov (.t 2), 0, false⟩, ⟨some 15, none, .len (.t 14), 0, false⟩, ⟨some 16, none, .bin .neq .none (.t 13) (.t 15), 0, false⟩, ⟨some 11, none, .mov (.t 16), 0, false⟩]
def p18_3 : K := .reg [⟨some 17, none, .mk [.str ⟨⟨[]⟩⟩, .d (.sl [] 0)] [], 0, false⟩, ⟨some 6, none, .setc 0 2 (.t 6) (.t 17), 0, false⟩, ⟨some 7, none, .mov (.k (.i 9)), 0, false⟩]
def p18_4 : K := .seq p18_3 .ret
def p18_5 : K := .reg [⟨some 19, none, .mov (.t 1), 0, false⟩, ⟨some 20, none, .call 45 [.t 19], 0, false⟩, ⟨some 18, none, .mov (.t 20), 0, false⟩]
def p18_6 : K := .reg [⟨some 21, none, .mk [.str ⟨⟨[]⟩⟩, .d (.sl [] 0)] [], 0, false⟩, ⟨some 6, none, .setc 0 2 (.t 6) (.t 21), 0, false⟩, ⟨some 7, none, .mov (.k (.i 5)), 0, false⟩]
def p18_7 : K := .seq p18_6 .ret
def p18_8 : K := .cond (.t 18) p18_7 .skip
def p18_9 : K := .seq p18_5 p18_8
def p18_10 : K := .cond (.t 11) p18_4 p18_9
def p18_11 : K := .seq p18_2 p18_10
def p18_12 : K := .block 0 p18_11
def p18_13 : K := .reg [⟨some 22, none, .mov (.t 2), 0, false⟩, ⟨some 23, none, .len (.t 22), 0, false⟩, ⟨some 24, none, .mkslice 3 1 8 [.i 0] (.t 23) (.t 23), 0, false⟩, ⟨some 8, none, .mov (.t 24), 0, false⟩]
def p18_14 : K := .reg [⟨some 25, none, .mov (.t 2), 0, false⟩, ⟨some 26, none, .len (.t 25), 0, false⟩, ⟨some 27, none, .mov (.k (.i 0)), 0, false⟩]
def p18_15 : K := .reg [⟨some 28, none, .bin .lss .none (.t 27) (.t 26), 0, false⟩]
def p18_16 : K := .cond (.t 28) .skip (.exit 1)
def p18_17 : K := .reg [⟨some 29, none, .mov (.t 27), 0, false⟩, ⟨some 30, none, .ixs 2 (.t 25) (.t 27), 0, false⟩, ⟨some 31, none, .ldn 2 (.t 30), 0, false⟩, ⟨some 10, none, .lnew [.str ⟨⟨[]⟩⟩, .d (.sl [] 0)], 0, false⟩, ⟨some 9, none, .mov (.t 29), 0, false⟩, ⟨some 10, none, .setc 0 2 (.t 10) (.t 31), 0, false⟩]
def p18_18 : K := .reg [⟨some 32, none, .mov (.t 8), 0, false⟩, ⟨some 33, none, .mov (.t 9), 0, false⟩, ⟨some 34, none, .fld 0 2 true (.t 10), 0, false⟩, ⟨some 35, none, .call 25 [.t 34], 0, false⟩, ⟨some 36, none, .ixs 1 (.t 32) (.t 33), 0, false⟩, ⟨none, none, .st 1 (.t 36) (.t 35), 0, false⟩]
def p18_19 : K := .seq p18_17 p18_18
def p18_20 : K := .block 2 p18_19
def p18_21 : K := .reg [⟨some 37, none, .bin .add .none (.t 27) (.k (.i 1)), 0, false⟩, ⟨some 27, none, .mov (.t 37), 0, false⟩]
def p18_22 : K := .seq p18_20 p18_21
def p18_23 : K := .seq p18_16 p18_22
def p18_24 : K := .seq p18_15 p18_23
def p18_25 : K := .loop p18_24
def p18_26 : K := .block 1 p18_25
def p18_27 : K := .seq p18_14 p18_26
def p18_28 : K := .reg [⟨some 38, none, .fld 0 2 true (.t 3), 0, false⟩, ⟨some 39, none, .mov (.t 1), 0, false⟩, ⟨some 40, none, .mov (.t 8), 0, false⟩, ⟨some 41, none, .call 46 [.t 38, .t 39, .t 40], 0, false⟩, ⟨some 42, none, .bin .gtr .none (.t 41) (.k (.i 4096)), 0, false⟩]
def p18_29 : K := .reg [⟨some 43, none, .mk [.str ⟨⟨[]⟩⟩, .d (.sl [] 0)] [], 0, false⟩, ⟨some 6, none, .setc 0 2 (.t 6) (.t 43), 0, false⟩, ⟨some 7, none, .mov (.k (.i 4)), 0, false⟩]
def p18_30 : K := .seq p18_29 .ret
def p18_31 : K := .cond (.t 42) p18_30 .skip
def p18_32 : K := .seq p18_28 p18_31
def p18_33 : K := .reg [⟨some 44, none, .fld 0 2 true (.t 3), 0, false⟩, ⟨some 45, none, .mov (.t 1), 0, false⟩, ⟨some 46, none, .mov (.t 2), 0, false⟩, ⟨some 47, none, .call 47 [.t 44, .t 45, .t 46], 0, false⟩, ⟨some 6, none, .setc 0 2 (.t 6) (.t 47), 0, false⟩, ⟨some 7, none, .mov (.k (.i 0)), 0, false⟩]
def p18_34 : K := .seq p18_33 .ret
def p18_35 : K := .seq p18_32 p18_34
def p18_36 : K := .seq p18_27 p18_35
def p18_37 : K := .seq p18_13 p18_36
def p18_38 : K := .seq p18_12 p18_37
def p18_39 : K := .seq p18_1 p18_38
def p18_40 : K := .seq p18_0 p18_39
def cf18 : CF := { nt := 48, body := p18_40, res := [.loc 6 2 true, .tmp 7] }
def hi18 : List Hint := []
def pm18 : Pm := ⟨[3, 6, 10], []⟩
def os18 : List TypeId := [3]
theorem ok18 : vComp Try.prog modeF os18 hi18 pm18 sigS 18 Try.f18 = some cf18 := by kernel_rfl
def p22_0 : K := .reg [⟨some 3, none, .mov (.k (.tup [])), 0, false⟩, ⟨some 4, none, .mov (.k (.tup [])), 0, false⟩]
def p22_1 : K := .reg [⟨some 3, none, .lbox (.t 0), 0, false⟩, ⟨some 4, none, .lbox (.t 1), 0, false⟩, ⟨some 6, none, .mov (.k (.d (.sl [] 0))), 0, false⟩, ⟨some 7, none, .mov (.k (.bool false)), 0, false⟩]
def p22_2 : K := .reg [⟨some 12, none, .mov (.t 2), 0, false⟩, ⟨some 13, none, .len (.t 12), 0, false⟩, ⟨some 14, none, .mkslice 70 1 8 [.nil] (.t 13) (.t 13), 0, false⟩, ⟨some 8, none, .mov (.t 14), 0, false⟩]
def p22_3 : K := .reg [⟨some 15, none, .mov (.t 2), 0, false⟩, ⟨some 16, none, .call 45 [.t 15], 0, false⟩, ⟨some 17, none, .mov (.t 16), 0, false⟩, ⟨some 18, some (17, false), .fld 0 2 true (.t 3), 0, false⟩, ⟨some 19, some (17, false), .fld 0 2 true (.t 4), 0, false⟩, ⟨some 20, some (17, false), .mov (.t 2), 0, false⟩, ⟨some 21, some (17, false), .mov (.t 8), 0, false⟩, ⟨some 22, some (17, false), .call 53 [.t 18, .t 19, .t 20, .t 21], 0, false⟩, ⟨some 23, some (17, false), .un .not (.t 22), 0, false⟩, ⟨some 24, none, .pick (.t 17) (.k (.bool true)) (.t 23), 0, false⟩, ⟨some 25, none, .mov (.t 24), 0, false⟩, ⟨some 26, some (25, false), .mov (.t 8), 0, false⟩, ⟨some 27, some (25, false), .call 54 [.t 26, .k .nil], 0, false⟩, ⟨some 28, none, .pick (.t 25) (.k (.bool true)) (.t 27), 0, false⟩]
def p22_4 : K := .reg [⟨some 6, none, .mov (.k (.d (.sl [] 0))), 0, false⟩, ⟨some 7, none, .mov (.k (.bool false)), 0, false⟩]
def p22_5 : K := .seq p22_4 .ret
def p22_6 : K := .cond (.t 28) p22_5 .skip
def p22_7 : K := .seq p22_3 p22_6
def p22_8 : K := .reg [⟨some 9, none, .mov (.k (.d (.sl [] 0))), 0, false⟩]
def p22_9 : K := .reg [⟨some 29, none, .mov (.t 8), 0, false⟩, ⟨some 30, none, .len (.t 29), 0, false⟩, ⟨some 31, none, .mov (.k (.i 0)), 0, false⟩]
def p22_10 : K := .reg [⟨some 32, none, .bin .lss .none (.t 31) (.t 30), 0, false⟩]
def p22_11 : K := .cond (.t 32) .skip (.exit 0)
def p22_12 : K := .reg [⟨some 33, none, .ixs 1 (.t 29) (.t 31), 0, false⟩, ⟨some 34, none, .ld1 (.t 33), 0, false⟩, ⟨some 11, none, .mov (.t 34), 0, false⟩]
def p22_13 : K := .reg [⟨some 35, none, .mov (.t 9), 0, false⟩, ⟨some 36, none, .mov (.t 11), 0, false⟩, ⟨some 37, none, .nilc (.t 36), 0, false⟩, ⟨some 38, none, .ldn 2 (.t 37), 0, false⟩, ⟨some 39, none, .call 55 [.t 38], 0, false⟩, ⟨some 40, none, .wsl 1 [.str ⟨⟨[]⟩⟩, .d (.sl [] 0)] [(0, 2, .t 39)], 0, false⟩, ⟨some 41, none, .wapp 2 40 (.t 35) (.t 40), 0, false⟩, ⟨some 9, none, .mov (.t 41), 0, false⟩]
def p22_14 : K := .seq p22_12 p22_13
def p22_15 : K := .block 1 p22_14
def p22_16 : K := .reg [⟨some 42, none, .bin .add .none (.t 31) (.k (.i 1)), 0, false⟩, ⟨some 31, none, .mov (.t 42), 0, false⟩]
def p22_17 : K := .seq p22_15 p22_16
def p22_18 : K := .seq p22_11 p22_17
def p22_19 : K := .seq p22_10 p22_18
def p22_20 : K := .loop p22_19
def p22_21 : K := .block 0 p22_20
def p22_22 : K := .seq p22_9 p22_21
def p22_23 : K := .reg [⟨some 43, none, .mov (.t 9), 0, false⟩, ⟨some 6, none, .mov (.t 43), 0, false⟩, ⟨some 7, none, .mov (.k (.bool true)), 0, false⟩]
def p22_24 : K := .seq p22_23 .ret
def p22_25 : K := .seq p22_22 p22_24
def p22_26 : K := .seq p22_8 p22_25
def p22_27 : K := .seq p22_7 p22_26
def p22_28 : K := .seq p22_2 p22_27
def p22_29 : K := .seq p22_1 p22_28
def p22_30 : K := .seq p22_0 p22_29
def cf22 : CF := { nt := 44, body := p22_30, res := [.tmp 6, .tmp 7] }
def hi22 : List Hint := []
def pm22 : Pm := ⟨[3, 4], []⟩
def os22 : List TypeId := [70]
theorem ok22 : vComp Try.prog modeF os22 hi22 pm22 sigS 22 Try.f22 = some cf22 := by kernel_rfl
def p24_0 : K := .reg [⟨some 1, none, .mov (.k (.tup [])), 0, false⟩, ⟨some 5, none, .mov (.k (.tup [])), 0, false⟩]
def p24_1 : K := .reg [⟨some 1, none, .lbox (.t 0), 0, false⟩, ⟨some 2, none, .mov (.k (.i 0)), 0, false⟩]
def p24_2 : K := .reg [⟨some 3, none, .mov (.k (.i 0)), 0, false⟩]
def p24_3 : K := .reg [⟨some 6, none, .fld 0 0 true (.t 1), 0, false⟩, ⟨some 7, none, .fld 1 1 false (.t 1), 0, false⟩, ⟨some 8, none, .len (.t 7), 0, false⟩, ⟨some 9, none, .mov (.k (.i 0)), 0, false⟩]
def p24_4 : K := .reg [⟨some 10, none, .bin .lss .none (.t 9) (.t 8), 0, false⟩]
def p24_5 : K := .cond (.t 10) .skip (.exit 0)
def p24_6 : K := .reg [⟨some 11, none, .ixs 2 (.t 7) (.t 9), 0, false⟩, ⟨some 12, none, .ldn 2 (.t 11), 0, false⟩, ⟨some 5, none, .lnew [.str ⟨⟨[]⟩⟩, .d (.sl [] 0)], 0, false⟩, ⟨some 5, none, .setc 0 2 (.t 5) (.t 12), 0, false⟩]
def p24_7 : K := .reg [⟨some 13, none, .mov (.t 3), 0, false⟩, ⟨some 14, none, .fld 0 2 true (.t 5), 0, false⟩, ⟨some 15, none, .call 24 [.t 14], 0, false⟩, ⟨some 16, none, .mmax true (.t 13) (.t 15), 0, false⟩, ⟨some 3, none, .mov (.t 16), 0, false⟩]
def p24_8 : K := .seq p24_6 p24_7
def p24_9 : K := .block 1 p24_8
def p24_10 : K := .reg [⟨some 17, none, .bin .add .none (.t 9) (.k (.i 1)), 0, false⟩, ⟨some 9, none, .mov (.t 17), 0, false⟩]
def p24_11 : K := .seq p24_9 p24_10
def p24_12 : K := .seq p24_5 p24_11
def p24_13 : K := .seq p24_4 p24_12
def p24_14 : K := .loop p24_13
def p24_15 : K := .block 0 p24_14
def p24_16 : K := .seq p24_3 p24_15
def p24_17 : K := .reg [⟨some 18, none, .mov (.t 3), 0, false⟩, ⟨some 19, none, .bin .add .none (.k (.i 1)) (.t 18), 0, false⟩, ⟨some 2, none, .mov (.t 19), 0, false⟩]
def p24_18 : K := .seq p24_17 .ret
def p24_19 : K := .seq p24_16 p24_18
def p24_20 : K := .seq p24_2 p24_19
def p24_21 : K := .seq p24_1 p24_20
def p24_22 : K := .seq p24_0 p24_21
def cf24 : CF := { nt := 20, body := p24_22, res := [.tmp 2] }
def hi24 : List Hint := []
def pm24 : Pm := ⟨[1, 5], [6]⟩
def os24 : List TypeId := []
theorem ok24 : vComp Try.prog modeF os24 hi24 pm24 sigS 24 Try.f24 = some cf24 := by kernel_rfl
def p25_0 : K := .reg [⟨some 1, none, .mov (.k (.tup [])), 0, false⟩, ⟨some 5, none, .mov (.k (.tup [])), 0, false⟩]
def p25_1 : K := .reg [⟨some 1, none, .lbox (.t 0), 0, false⟩, ⟨some 2, none, .mov (.k (.i 0)), 0, false⟩]
def p25_2 : K := .reg [⟨some 3, none, .mov (.k (.i 1)), 0, false⟩]
def p25_3 : K := .reg [⟨some 6, none, .fld 0 0 true (.t 1), 0, false⟩, ⟨some 7, none, .fld 1 1 false (.t 1), 0, false⟩, ⟨some 8, none, .len (.t 7), 0, false⟩, ⟨some 9, none, .mov (.k (.i 0)), 0, false⟩]
def p25_4 : K := .reg [⟨some 10, none, .bin .lss .none (.t 9) (.t 8), 0, false⟩]
def p25_5 : K := .cond (.t 10) .skip (.exit 0)
def p25_6 : K := .reg [⟨some 11, none, .ixs 2 (.t 7) (.t 9), 0, false⟩, ⟨some 12, none, .ldn 2 (.t 11), 0, false⟩, ⟨some 5, none, .lnew [.str ⟨⟨[]⟩⟩, .d (.sl [] 0)], 0, false⟩, ⟨some 5, none, .setc 0 2 (.t 5) (.t 12), 0, false⟩]
def p25_7 : K := .reg [⟨some 13, none, .mov (.t 3), 0, false⟩, ⟨some 14, none, .fld 0 2 true (.t 5), 0, false⟩, ⟨some 15, none, .call 25 [.t 14], 0, false⟩, ⟨some 16, none, .bin .add .none (.t 13) (.t 15), 0, false⟩, ⟨some 3, none, .mov (.t 16), 0, false⟩]
def p25_8 : K := .seq p25_6 p25_7
def p25_9 : K := .block 1 p25_8
def p25_10 : K := .reg [⟨some 17, none, .bin .add .none (.t 9) (.k (.i 1)), 0, false⟩, ⟨some 9, none, .mov (.t 17), 0, false⟩]
def p25_11 : K := .seq p25_9 p25_10
def p25_12 : K := .seq p25_5 p25_11
def p25_13 : K := .seq p25_4 p25_12
def p25_14 : K := .loop p25_13
def p25_15 : K := .block 0 p25_14
def p25_16 : K := .seq p25_3 p25_15
def p25_17 : K := .reg [⟨some 18, none, .mov (.t 3), 0, false⟩, ⟨some 2, none, .mov (.t 18), 0, false⟩]
def p25_18 : K := .seq p25_17 .ret
def p25_19 : K := .seq p25_16 p25_18
def p25_20 : K := .seq p25_2 p25_19
def p25_21 : K := .seq p25_1 p25_20
def p25_22 : K := .seq p25_0 p25_21
def cf25 : CF := { nt := 19, body := p25_22, res := [.tmp 2] }
def hi25 : List Hint := []
def pm25 : Pm := ⟨[1, 5], [6]⟩
def os25 : List TypeId := []
theorem ok25 : vComp Try.prog modeF os25 hi25 pm25 sigS 25 Try.f25 = some cf25 := by kernel_rfl
def p27_0 : K := .reg [⟨some 1, none, .mov (.k (.tup [])), 0, false⟩]
def p27_1 : K := .reg [⟨some 1, none, .lbox (.t 0), 0, false⟩, ⟨some 2, none, .mov (.k (.bool false)), 0, false⟩]
def p27_2 : K := .reg [⟨some 3, none, .fld 0 0 true (.t 1), 0, false⟩, ⟨some 4, none, .fld 0 1 false (.t 1), 0, false⟩, ⟨some 5, none, .call 58 [.t 4], 0, false⟩, ⟨some 6, none, .un .not (.t 5), 0, false⟩, ⟨some 7, none, .mov (.t 6), 0, false⟩, ⟨some 8, some (7, true), .fld 0 0 true (.t 1), 0, false⟩, ⟨some 9, some (7, true), .fld 1 1 false (.t 1), 0, false⟩, ⟨some 10, some (7, true), .call 59 [.t 9, .k (.fn 60 [] [])], 0, false⟩, ⟨some 11, some (7, true), .un .not (.t 10), 0, false⟩, ⟨some 12, none, .pick (.t 7) (.t 11) (.k (.bool false)), 0, false⟩, ⟨some 2, none, .mov (.t 12), 0, false⟩]
def p27_3 : K := .seq p27_2 .ret
def p27_4 : K := .seq p27_1 p27_3
def p27_5 : K := .seq p27_0 p27_4
def cf27 : CF := { nt := 13, body := p27_5, res := [.tmp 2] }
def hi27 : List Hint := []
def pm27 : Pm := ⟨[1], [3, 8]⟩
def os27 : List TypeId := []
theorem ok27 : vComp Try.prog modeF os27 hi27 pm27 sigS 27 Try.f27 = some cf27 := by kernel_rfl
def p37_0 : K := .reg []
def p37_1 : K := .reg [⟨some 2, none, .mov (.k (.bool false)), 0, false⟩]
def p37_2 : K := .reg [⟨some 3, none, .mov (.t 0), 0, false⟩, ⟨some 4, none, .bin .eql .none (.t 3) (.k (.str ⟨⟨[73, 110, 116]⟩⟩)), 0, false⟩, ⟨some 5, none, .mov (.t 4), 0, false⟩, ⟨some 6, some (5, false), .mov (.t 0), 0, false⟩, ⟨some 7, some (5, false), .bin .eql .none (.t 6) (.k (.str ⟨⟨[66, 121, 116, 101]⟩⟩)), 0, false⟩, ⟨some 8, none, .pick (.t 5) (.k (.bool true)) (.t 7), 0, false⟩, ⟨some 9, none, .mov (.t 8), 0, false⟩, ⟨some 10, some (9, false), .mov (.t 0), 0, false⟩, ⟨some 11, some (9, false), .bin .eql .none (.t 10) (.k (.str ⟨⟨[66, 111, 111, 108]⟩⟩)), 0, false⟩, ⟨some 12, none, .pick (.t 9) (.k (.bool true)) (.t 11), 0, false⟩, ⟨some 13, none, .mov (.t 12), 0, false⟩, ⟨some 14, some (13, false), .mov (.t 0), 0, false⟩, ⟨some 15, some (13, false), .bin .eql .none (.t 14) (.k (.str ⟨⟨[65, 114, 114, 97, 121]⟩⟩)), 0, false⟩, ⟨some 16, none, .pick (.t 13) (.k (.bool true)) (.t 15), 0, false⟩, ⟨some 2, none, .mov (.t 16), 0, false⟩]
def p37_3 : K := .seq p37_2 .ret
def p37_4 : K := .seq p37_1 p37_3
def p37_5 : K := .seq p37_0 p37_4
def cf37 : CF := { nt := 17, body := p37_5, res := [.tmp 2] }
def hi37 : List Hint := []
def pm37 : Pm := ⟨[], []⟩
def os37 : List TypeId := []
theorem ok37 : vComp Try.prog modeF os37 hi37 pm37 sigS 37 Try.f37 = some cf37 := by kernel_rfl
def p41_0 : K := .reg [⟨some 8, none, .mov (.k (.tup [])), 0, false⟩, ⟨some 9, none, .mov (.k (.tup [])), 0, false⟩]
def p41_1 : K := .reg [⟨some 6, none, .mov (.k (.bool false)), 0, false⟩]
def p41_2 : K := .reg [⟨some 10, none, .mov (.t 0), 0, false⟩, ⟨some 11, none, .len (.t 10), 0, false⟩, ⟨some 12, none, .mov (.t 1), 0, false⟩, ⟨some 13, none, .len (.t 12), 0, false⟩, ⟨some 14, none, .bin .neq .none (.t 11) (.t 13), 0, false⟩]
def p41_3 : K := .reg [⟨some 6, none, .mov (.k (.bool false)), 0, false⟩]
def p41_4 : K := .seq p41_3 .ret
def p41_5 : K := .cond (.t 14) p41_4 .skip
def p41_6 : K := .seq p41_2 p41_5
def p41_7 : K := .reg [⟨some 15, none, .mov (.t 0), 0, false⟩, ⟨some 16, none, .len (.t 15), 0, false⟩, ⟨some 17, none, .mov (.k (.i 0)), 0, false⟩]
def p41_8 : K := .reg [⟨some 18, none, .bin .lss .none (.t 17) (.t 16), 0, false⟩]
def p41_9 : K := .cond (.t 18) .skip (.exit 0)
def p41_10 : K := .reg [⟨some 19, none, .mov (.t 17), 0, false⟩, ⟨some 20, none, .ixs 2 (.t 15) (.t 17), 0, false⟩, ⟨some 21, none, .ldn 2 (.t 20), 0, false⟩, ⟨some 8, none, .lnew [.str ⟨⟨[]⟩⟩, .d (.sl [] 0)], 0, false⟩, ⟨some 7, none, .mov (.t 19), 0, false⟩, ⟨some 8, none, .setc 0 2 (.t 8) (.t 21), 0, false⟩]
def p41_11 : K := .reg [⟨some 22, none, .mov (.t 1), 0, false⟩, ⟨some 23, none, .mov (.t 7), 0, false⟩, ⟨some 24, none, .ixs 2 (.t 22) (.t 23), 0, false⟩, ⟨some 25, none, .ldn 2 (.t 24), 0, false⟩, ⟨some 9, none, .lnew [.str ⟨⟨[]⟩⟩, .d (.sl [] 0)], 0, false⟩, ⟨some 9, none, .setc 0 2 (.t 9) (.t 25), 0, false⟩]
def p41_12 : K := .reg [⟨some 26, none, .mov (.t 2), 0, false⟩, ⟨some 27, none, .fld 0 2 true (.t 8), 0, false⟩, ⟨some 28, none, .fld 0 2 true (.t 9), 0, false⟩, ⟨some 29, none, .callw [] (.t 26) [.t 27, .t 28], 0, false⟩, ⟨some 30, none, .un .not (.t 29), 0, false⟩]
def p41_13 : K := .reg [⟨some 6, none, .mov (.k (.bool false)), 0, false⟩]
def p41_14 : K := .seq p41_13 .ret
def p41_15 : K := .cond (.t 30) p41_14 .skip
def p41_16 : K := .seq p41_12 p41_15
def p41_17 : K := .seq p41_11 p41_16
def p41_18 : K := .seq p41_10 p41_17
def p41_19 : K := .block 1 p41_18
def p41_20 : K := .reg [⟨some 31, none, .bin .add .none (.t 17) (.k (.i 1)), 0, false⟩, ⟨some 17, none, .mov (.t 31), 0, false⟩]
def p41_21 : K := .seq p41_19 p41_20
def p41_22 : K := .seq p41_9 p41_21
def p41_23 : K := .seq p41_8 p41_22
def p41_24 : K := .loop p41_23
def p41_25 : K := .block 0 p41_24
def p41_26 : K := .seq p41_7 p41_25
def p41_27 : K := .reg [⟨some 6, none, .mov (.k (.bool true)), 0, false⟩]
def p41_28 : K := .seq p41_27 .ret
def p41_29 : K := .seq p41_26 p41_28
def p41_30 : K := .seq p41_6 p41_29
def p41_31 : K := .seq p41_1 p41_30
def p41_32 : K := .seq p41_0 p41_31
def cf41 : CF := { nt := 32, body := p41_32, res := [.tmp 6] }
def hi41 : List Hint := []
def pm41 : Pm := ⟨[8, 9], []⟩
def os41 : List TypeId := []
theorem ok41 : vComp Try.prog modeF os41 hi41 pm41 sigS 41 Try.f41 = some cf41 := by kernel_rfl
def p43_0 : K := .reg []
def p43_1 : K := .reg [⟨some 2, none, .mov (.k (.bool false)), 0, false⟩]
def p43_2 : K := .drg [⟨some 3, none, .mov (.t 0), 0, true⟩, ⟨some 4, none, .nilc (.t 3), 1, true⟩, ⟨some 5, none, .fad 1 (.t 4), 3, true⟩, ⟨some 6, none, .ld1 (.t 5), 7, true⟩, ⟨some 7, none, .mov (.t 0), 0, true⟩, ⟨some 8, none, .nilc (.t 7), 16, true⟩, ⟨some 9, none, .fad 0 (.t 8), 48, true⟩, ⟨some 10, none, .ld1 (.t 9), 112, true⟩, ⟨some 11, none, .len (.t 10), 240, true⟩, ⟨some 12, none, .bin .lss .none (.t 6) (.t 11), 511, true⟩, ⟨some 2, none, .mov (.t 12), 1023, true⟩]
def p43_3 : K := .seq p43_2 .ret
def p43_4 : K := .seq p43_1 p43_3
def p43_5 : K := .seq p43_0 p43_4
def cf43 : CF := { nt := 13, body := p43_5, res := [.tmp 2] }
def hi43 : List Hint := []
def pm43 : Pm := ⟨[], []⟩
def os43 : List TypeId := []
theorem ok43 : vComp Try.prog modeF os43 hi43 pm43 sigS 43 Try.f43 = some cf43 := by kernel_rfl
def p44_0 : K := .reg []
def p44_1 : K := .reg [⟨some 4, none, .mov (.k (.i 0)), 0, false⟩]
def p44_2 : K := .reg [⟨some 5, none, .mov (.t 1), 0, false⟩, ⟨some 6, none, .bin .lss .none (.t 5) (.k (.i 1)), 0, false⟩]
def p44_3 : K := .reg [⟨some 4, none, .mov (.k (.i 0)), 0, false⟩]
def p44_4 : K := .seq p44_3 .ret
def p44_5 : K := .cond (.t 6) p44_4 .skip
def p44_6 : K := .seq p44_2 p44_5
def p44_7 : K := .reg [⟨some 7, none, .mov (.t 0), 0, false⟩, ⟨some 8, none, .mov (.t 1), 0, false⟩, ⟨some 9, none, .bin .rem .none (.t 7) (.t 8), 0, false⟩, ⟨some 0, none, .mov (.t 9), 0, false⟩]
def p44_8 : K := .reg [⟨some 10, none, .mov (.t 0), 0, false⟩, ⟨some 11, none, .bin .lss .none (.t 10) (.k (.i 0)), 0, false⟩]
def p44_9 : K := .reg [⟨some 12, none, .mov (.t 0), 0, false⟩, ⟨some 13, none, .mov (.t 1), 0, false⟩, ⟨some 14, none, .bin .add .none (.t 12) (.t 13), 0, false⟩, ⟨some 0, none, .mov (.t 14), 0, false⟩]
def p44_10 : K := .cond (.t 11) p44_9 .skip
def p44_11 : K := .seq p44_8 p44_10
def p44_12 : K := .reg [⟨some 15, none, .mov (.t 0), 0, false⟩, ⟨some 4, none, .mov (.t 15), 0, false⟩]
def p44_13 : K := .seq p44_12 .ret
def p44_14 : K := .seq p44_11 p44_13
def p44_15 : K := .seq p44_7 p44_14
def p44_16 : K := .seq p44_6 p44_15
def p44_17 : K := .seq p44_1 p44_16
def p44_18 : K := .seq p44_0 p44_17
def cf44 : CF := { nt := 16, body := p44_18, res := [.tmp 4] }
def hi44 : List Hint := []
def pm44 : Pm := ⟨[], []⟩
def os44 : List TypeId := []
theorem ok44 : vComp Try.prog modeF os44 hi44 pm44 sigS 44 Try.f44 = some cf44 := by kernel_rfl
def p45_0 : K := .reg []
def p45_1 : K := .reg [⟨some 2, none, .mov (.k (.bool false)), 0, false⟩]
def p45_2 : K := .reg [⟨some 5, none, .mov (.t 0), 0, false⟩, ⟨some 6, none, .len (.t 5), 0, false⟩, ⟨some 7, none, .mov (.k (.i 0)), 0, false⟩]
def p45_3 : K := .reg [⟨some 8, none, .bin .lss .none (.t 7) (.t 6), 0, false⟩]
def p45_4 : K := .cond (.t 8) .skip (.exit 0)
def p45_5 : K := .reg [⟨some 9, none, .mov (.t 7), 0, false⟩, ⟨some 10, none, .ixs 1 (.t 5) (.t 7), 0, false⟩, ⟨some 11, none, .ld1 (.t 10), 0, false⟩, ⟨some 3, none, .mov (.t 9), 0, false⟩, ⟨some 4, none, .mov (.t 11), 0, false⟩]
def p45_6 : K := .reg [⟨some 12, none, .mov (.t 0), 0, false⟩, ⟨some 13, none, .mov (.t 3), 0, false⟩, ⟨some 14, none, .slsl 1 (.t 12) none (some (.t 13)), 0, false⟩, ⟨some 15, none, .mov (.t 4), 0, false⟩, ⟨some 16, none, .call 70 [.t 14, .t 15], 0, false⟩]
def p45_7 : K := .reg [⟨some 2, none, .mov (.k (.bool true)), 0, false⟩]
def p45_8 : K := .seq p45_7 .ret
def p45_9 : K := .cond (.t 16) p45_8 .skip
def p45_10 : K := .seq p45_6 p45_9
def p45_11 : K := .seq p45_5 p45_10
def p45_12 : K := .block 1 p45_11
def p45_13 : K := .reg [⟨some 17, none, .bin .add .none (.t 7) (.k (.i 1)), 0, false⟩, ⟨some 7, none, .mov (.t 17), 0, false⟩]
def p45_14 : K := .seq p45_12 p45_13
def p45_15 : K := .seq p45_4 p45_14
def p45_16 : K := .seq p45_3 p45_15
def p45_17 : K := .loop p45_16
def p45_18 : K := .block 0 p45_17
def p45_19 : K := .seq p45_2 p45_18
def p45_20 : K := .reg [⟨some 2, none, .mov (.k (.bool false)), 0, false⟩]
def p45_21 : K := .seq p45_20 .ret
def p45_22 : K := .seq p45_19 p45_21
def p45_23 : K := .seq p45_1 p45_22
def p45_24 : K := .seq p45_0 p45_23
def cf45 : CF := { nt := 18, body := p45_24, res := [.tmp 2] }
def hi45 : List Hint := []
def pm45 : Pm := ⟨[], []⟩
def os45 : List TypeId := []
theorem ok45 : vComp Try.prog modeF os45 hi45 pm45 sigS 45 Try.f45 = some cf45 := by kernel_rfl
def p46_0 : K := .reg [⟨some 3, none, .mov (.k (.tup [])), 0, false⟩, ⟨some 10, none, .mov (.k (.tup [])), 0, false⟩]
def p46_1 : K := .reg [⟨some 3, none, .lbox (.t 0), 0, false⟩, ⟨some 6, none, .mov (.k (.i 0)), 0, false⟩]
def p46_2 : K := .reg [⟨some 11, none, .fld 0 2 true (.t 3), 0, false⟩, ⟨some 12, none, .mov (.t 1), 0, false⟩, ⟨some 13, none, .call 71 [.t 11, .t 12], 0, false⟩, ⟨some 7, none, .mov (.t 13), 0, false⟩]
def p46_3 : K := .reg [⟨some 14, none, .mov (.t 7), 0, false⟩, ⟨some 15, none, .bin .geq .none (.t 14) (.k (.i 0)), 0, false⟩]
def p46_4 : K := .reg [⟨some 16, none, .mov (.t 2), 0, false⟩, ⟨some 17, none, .mov (.t 7), 0, false⟩, ⟨some 18, none, .ixs 1 (.t 16) (.t 17), 0, false⟩, ⟨some 19, none, .ld1 (.t 18), 0, false⟩, ⟨some 6, none, .mov (.t 19), 0, false⟩]
def p46_5 : K := .seq p46_4 .ret
def p46_6 : K := .cond (.t 15) p46_5 .skip
def p46_7 : K := .seq p46_3 p46_6
def p46_8 : K := .seq p46_2 p46_7
def p46_9 : K := .reg [⟨some 8, none, .mov (.k (.i 1)), 0, false⟩]
def p46_10 : K := .reg [⟨some 20, none, .fld 0 0 true (.t 3), 0, false⟩, ⟨some 21, none, .fld 1 1 false (.t 3), 0, false⟩, ⟨some 22, none, .len (.t 21), 0, false⟩, ⟨some 23, none, .mov (.k (.i 0)), 0, false⟩]
def p46_11 : K := .reg [⟨some 24, none, .bin .lss .none (.t 23) (.t 22), 0, false⟩]
def p46_12 : K := .cond (.t 24) .skip (.exit 0)
def p46_13 : K := .reg [⟨some 25, none, .ixs 2 (.t 21) (.t 23), 0, false⟩, ⟨some 26, none, .ldn 2 (.t 25), 0, false⟩, ⟨some 10, none, .lnew [.str ⟨⟨[]⟩⟩, .d (.sl [] 0)], 0, false⟩, ⟨some 10, none, .setc 0 2 (.t 10) (.t 26), 0, false⟩]
def p46_14 : K := .reg [⟨some 27, none, .mov (.t 8), 0, false⟩, ⟨some 28, none, .fld 0 2 true (.t 10), 0, false⟩, ⟨some 29, none, .mov (.t 1), 0, false⟩, ⟨some 30, none, .mov (.t 2), 0, false⟩, ⟨some 31, none, .call 46 [.t 28, .t 29, .t 30], 0, false⟩, ⟨some 32, none, .bin .add .none (.t 27) (.t 31), 0, false⟩, ⟨some 8, none, .mov (.t 32), 0, false⟩]
def p46_15 : K := .reg [⟨some 33, none, .mov (.t 8), 0, false⟩, ⟨some 34, none, .bin .gtr .none (.t 33) (.k (.i 4096)), 0, false⟩]
def p46_16 : K := .reg [⟨some 35, none, .mov (.t 8), 0, false⟩, ⟨some 6, none, .mov (.t 35), 0, false⟩]
def p46_17 : K := .seq p46_16 .ret
def p46_18 : K := .cond (.t 34) p46_17 .skip
def p46_19 : K := .seq p46_15 p46_18
def p46_20 : K := .seq p46_14 p46_19
def p46_21 : K := .seq p46_13 p46_20
def p46_22 : K := .block 1 p46_21
def p46_23 : K := .reg [⟨some 36, none, .bin .add .none (.t 23) (.k (.i 1)), 0, false⟩, ⟨some 23, none, .mov (.t 36), 0, false⟩]
def p46_24 : K := .seq p46_22 p46_23
def p46_25 : K := .seq p46_12 p46_24
def p46_26 : K := .seq p46_11 p46_25
def p46_27 : K := .loop p46_26
def p46_28 : K := .block 0 p46_27
def p46_29 : K := .seq p46_10 p46_28
def p46_30 : K := .reg [⟨some 37, none, .mov (.t 8), 0, false⟩, ⟨some 6, none, .mov (.t 37), 0, false⟩]
def p46_31 : K := .seq p46_30 .ret
def p46_32 : K := .seq p46_29 p46_31
def p46_33 : K := .seq p46_9 p46_32
def p46_34 : K := .seq p46_8 p46_33
def p46_35 : K := .seq p46_1 p46_34
def p46_36 : K := .seq p46_0 p46_35
def cf46 : CF := { nt := 38, body := p46_36, res := [.tmp 6] }
def hi46 : List Hint := []
def pm46 : Pm := ⟨[3, 10], [20]⟩
def os46 : List TypeId := []
theorem ok46 : vComp Try.prog modeF os46 hi46 pm46 sigS 46 Try.f46 = some cf46 := by kernel_rfl
def p47_0 : K := .reg [⟨some 3, none, .mov (.k (.tup [])), 0, false⟩, ⟨some 6, none, .mov (.k (.tup [])), 0, false⟩, ⟨some 8, none, .mov (.k (.tup [])), 0, false⟩, ⟨some 10, none, .mov (.k (.tup [])), 0, false⟩]
def p47_1 : K := .reg [⟨some 3, none, .lbox (.t 0), 0, false⟩, ⟨some 6, none, .lnew [.str ⟨⟨[]⟩⟩, .d (.sl [] 0)], 0, false⟩]
def p47_2 : K := .reg [⟨some 11, none, .fld 0 2 true (.t 3), 0, false⟩, ⟨some 12, none, .mov (.t 1), 0, false⟩, ⟨some 13, none, .call 71 [.t 11, .t 12], 0, false⟩, ⟨some 7, none, .mov (.t 13), 0, false⟩]
def p47_3 : K := .reg [⟨some 14, none, .mov (.t 7), 0, false⟩, ⟨some 15, none, .bin .geq .none (.t 14) (.k (.i 0)), 0, false⟩]
def p47_4 : K := .reg [⟨some 16, none, .mov (.t 2), 0, false⟩, ⟨some 17, none, .mov (.t 7), 0, false⟩, ⟨some 18, none, .ixs 2 (.t 16) (.t 17), 0, false⟩, ⟨some 19, none, .ldn 2 (.t 18), 0, false⟩, ⟨some 20, none, .call 55 [.t 19], 0, false⟩, ⟨some 6, none, .setc 0 2 (.t 6) (.t 20), 0, false⟩]
def p47_5 : K := .seq p47_4 .ret
def p47_6 : K := .cond (.t 15) p47_5 .skip
def p47_7 : K := .seq p47_3 p47_6
def p47_8 : K := .seq p47_2 p47_7
def p47_9 : K := .reg [⟨some 21, none, .fld 0 0 true (.t 3), 0, false⟩, ⟨some 22, none, .fld 0 1 false (.t 3), 0, false⟩, ⟨some 23, none, .mk [.str ⟨⟨[]⟩⟩, .d (.sl [] 0)] [(0, 1, .t 22)], 0, false⟩, ⟨some 8, none, .lnew [.str ⟨⟨[]⟩⟩, .d (.sl [] 0)], 0, false⟩, ⟨some 8, none, .setc 0 2 (.t 8) (.t 23), 0, false⟩]
def p47_10 : K := .reg [⟨some 24, none, .fld 0 0 true (.t 3), 0, false⟩, ⟨some 25, none, .fld 1 1 false (.t 3), 0, false⟩, ⟨some 26, none, .len (.t 25), 0, false⟩, ⟨some 27, none, .mov (.k (.i 0)), 0, false⟩]
def p47_11 : K := .reg [⟨some 28, none, .bin .lss .none (.t 27) (.t 26), 0, false⟩]
def p47_12 : K := .cond (.t 28) .skip (.exit 0)
def p47_13 : K := .reg [⟨some 29, none, .ixs 2 (.t 25) (.t 27), 0, false⟩, ⟨some 30, none, .ldn 2 (.t 29), 0, false⟩, ⟨some 10, none, .lnew [.str ⟨⟨[]⟩⟩, .d (.sl [] 0)], 0, false⟩, ⟨some 10, none, .setc 0 2 (.t 10) (.t 30), 0, false⟩]
def p47_14 : K := .drg [⟨some 31, none, .fld 0 0 true (.t 8), 0, true⟩, ⟨some 32, none, .fld 1 1 false (.t 8), 1, true⟩, ⟨some 33, none, .fld 0 2 true (.t 10), 0, true⟩, ⟨some 34, none, .mov (.t 1), 0, true⟩, ⟨some 35, none, .mov (.t 2), 0, true⟩, ⟨some 36, none, .call 47 [.t 33, .t 34, .t 35], 28, true⟩, ⟨some 37, none, .wsl 1 [.str ⟨⟨[]⟩⟩, .d (.sl [] 0)] [(0, 2, .t 36)], 60, true⟩, ⟨some 38, none, .wapp 2 40 (.t 32) (.t 37), 127, true⟩, ⟨some 39, none, .fld 0 0 true (.t 8), 255, true⟩, ⟨some 8, none, .setc 1 1 (.t 8) (.t 38), 511, true⟩]
def p47_15 : K := .seq p47_13 p47_14
def p47_16 : K := .block 1 p47_15
def p47_17 : K := .reg [⟨some 40, none, .bin .add .none (.t 27) (.k (.i 1)), 0, false⟩, ⟨some 27, none, .mov (.t 40), 0, false⟩]
def p47_18 : K := .seq p47_16 p47_17
def p47_19 : K := .seq p47_12 p47_18
def p47_20 : K := .seq p47_11 p47_19
def p47_21 : K := .loop p47_20
def p47_22 : K := .block 0 p47_21
def p47_23 : K := .seq p47_10 p47_22
def p47_24 : K := .reg [⟨some 41, none, .fld 0 2 true (.t 8), 0, false⟩, ⟨some 6, none, .setc 0 2 (.t 6) (.t 41), 0, false⟩]
def p47_25 : K := .seq p47_24 .ret
def p47_26 : K := .seq p47_23 p47_25
def p47_27 : K := .seq p47_9 p47_26
def p47_28 : K := .seq p47_8 p47_27
def p47_29 : K := .seq p47_1 p47_28
def p47_30 : K := .seq p47_0 p47_29
def cf47 : CF := { nt := 42, body := p47_30, res := [.loc 6 2 true] }
def hi47 : List Hint := []
def pm47 : Pm := ⟨[3, 6, 8, 10], [21, 24, 31, 39]⟩
def os47 : List TypeId := []
theorem ok47 : vComp Try.prog modeF os47 hi47 pm47 sigS 47 Try.f47 = some cf47 := by kernel_rfl
def p53_0 : K := .reg [⟨some 4, none, .mov (.k (.tup [])), 0, false⟩]
def p53_1 : K := .reg [⟨some 4, none, .lbox (.t 0), 0, false⟩, ⟨some 5, none, .box 27 (.t 1), 0, false⟩, ⟨some 6, none, .box 35 (.t 2), 0, false⟩, ⟨some 7, none, .box 67 (.t 3), 0, false⟩, ⟨some 8, none, .mov (.k (.bool false)), 0, false⟩]
def p53_2 : K := .reg [⟨some 10, none, .fld 0 2 true (.t 4), 0, false⟩, ⟨some 11, none, .ld1 (.t 6), 0, false⟩, ⟨some 12, none, .call 71 [.t 10, .t 11], 0, false⟩, ⟨some 9, none, .mov (.t 12), 0, false⟩]
def p53_3 : K := .reg [⟨some 13, none, .mov (.t 9), 0, false⟩, ⟨some 14, none, .bin .geq .none (.t 13) (.k (.i 0)), 0, false⟩]
def p53_4 : K := .reg [⟨some 15, none, .ld1 (.t 7), 0, false⟩, ⟨some 16, none, .mov (.t 9), 0, false⟩, ⟨some 17, none, .ixs 1 (.t 15) (.t 16), 0, false⟩, ⟨some 18, none, .ld1 (.t 17), 0, false⟩, ⟨some 19, none, .bin .eql .ptr (.t 18) (.k .nil), 0, false⟩]
def p53_5 : K := .reg [⟨some 20, none, .ld1 (.t 7), 0, false⟩, ⟨some 21, none, .mov (.t 9), 0, false⟩, ⟨some 22, none, .ixs 1 (.t 20) (.t 21), 0, false⟩, ⟨none, none, .st 1 (.t 22) (.t 5), 0, false⟩]
def p53_6 : K := .cond (.t 19) p53_5 .skip
def p53_7 : K := .seq p53_4 p53_6
def p53_8 : K := .drg [⟨some 23, none, .ld1 (.t 7), 0, true⟩, ⟨some 24, none, .mov (.t 9), 0, true⟩, ⟨some 25, none, .ixs 1 (.t 23) (.t 24), 3, true⟩, ⟨some 26, none, .ld1 (.t 25), 7, true⟩, ⟨some 27, none, .nilc (.t 26), 15, true⟩, ⟨some 28, none, .ldn 2 (.t 27), 31, true⟩, ⟨some 29, none, .ldn 2 (.t 5), 0, true⟩, ⟨some 30, none, .call 14 [.t 28, .t 29], 127, true⟩, ⟨some 8, none, .mov (.t 30), 255, true⟩]
def p53_9 : K := .seq p53_8 .ret
def p53_10 : K := .seq p53_7 p53_9
def p53_11 : K := .cond (.t 14) p53_10 .skip
def p53_12 : K := .seq p53_3 p53_11
def p53_13 : K := .seq p53_2 p53_12
def p53_14 : K := .reg [⟨some 31, none, .fld 0 0 true (.t 4), 0, false⟩, ⟨some 32, none, .fld 0 1 false (.t 4), 0, false⟩, ⟨some 33, none, .fad 0 (.t 5), 0, false⟩, ⟨some 34, none, .ld1 (.t 33), 0, false⟩, ⟨some 35, none, .bin .eql .none (.t 32) (.t 34), 0, false⟩, ⟨some 36, none, .mov (.t 35), 0, false⟩, ⟨some 37, some (36, true), .fld 0 0 true (.t 4), 0, false⟩, ⟨some 38, some (36, true), .fld 1 1 false (.t 4), 0, false⟩, ⟨some 39, some (36, true), .fad 1 (.t 5), 0, false⟩, ⟨some 40, some (36, true), .ld1 (.t 39), 0, false⟩, ⟨some 41, some (36, true), .mkf 76 [] [.t 6, .t 7], 0, false⟩, ⟨some 42, some (36, true), .call 41 [.t 38, .t 40, .t 41], 0, false⟩, ⟨some 43, none, .pick (.t 36) (.t 42) (.k (.bool false)), 0, false⟩, ⟨some 8, none, .mov (.t 43), 0, false⟩]
def p53_15 : K := .seq p53_14 .ret
def p53_16 : K := .seq p53_13 p53_15
def p53_17 : K := .seq p53_1 p53_16
def p53_18 : K := .seq p53_0 p53_17
def cf53 : CF := { nt := 44, body := p53_18, res := [.tmp 8] }
def hi53 : List Hint := []
def pm53 : Pm := ⟨[4], [31, 37]⟩
def os53 : List TypeId := []
theorem ok53 : vComp Try.prog modeF os53 hi53 pm53 sigS 53 Try.f53 = some cf53 := by kernel_rfl
def p54_0 : K := .reg []
def p54_1 : K := .reg [⟨some 4, none, .mov (.k (.bool false)), 0, false⟩]
def p54_2 : K := .reg [⟨some 5, none, .mov (.t 0), 0, false⟩, ⟨some 6, none, .mov (.t 1), 0, false⟩, ⟨some 7, none, .call 77 [.t 5, .t 6], 0, false⟩, ⟨some 8, none, .bin .geq .none (.t 7) (.k (.i 0)), 0, false⟩, ⟨some 4, none, .mov (.t 8), 0, false⟩]
def p54_3 : K := .seq p54_2 .ret
def p54_4 : K := .seq p54_1 p54_3
def p54_5 : K := .seq p54_0 p54_4
def cf54 : CF := { nt := 9, body := p54_5, res := [.tmp 4] }
def hi54 : List Hint := []
def pm54 : Pm := ⟨[], []⟩
def os54 : List TypeId := []
theorem ok54 : vComp Try.prog modeF os54 hi54 pm54 sigS 54 Try.f54 = some cf54 := by kernel_rfl
def p55_0 : K := .reg [⟨some 1, none, .mov (.k (.tup [])), 0, false⟩, ⟨some 2, none, .mov (.k (.tup [])), 0, false⟩, ⟨some 3, none, .mov (.k (.tup [])), 0, false⟩, ⟨some 5, none, .mov (.k (.tup [])), 0, false⟩]
def p55_1 : K := .reg [⟨some 1, none, .lbox (.t 0), 0, false⟩, ⟨some 2, none, .lnew [.str ⟨⟨[]⟩⟩, .d (.sl [] 0)], 0, false⟩]
def p55_2 : K := .reg [⟨some 6, none, .fld 0 0 true (.t 1), 0, false⟩, ⟨some 7, none, .fld 0 1 false (.t 1), 0, false⟩, ⟨some 8, none, .mk [.str ⟨⟨[]⟩⟩, .d (.sl [] 0)] [(0, 1, .t 7)], 0, false⟩, ⟨some 3, none, .lnew [.str ⟨⟨[]⟩⟩, .d (.sl [] 0)], 0, false⟩, ⟨some 3, none, .setc 0 2 (.t 3) (.t 8), 0, false⟩]
def p55_3 : K := .reg [⟨some 9, none, .fld 0 0 true (.t 1), 0, false⟩, ⟨some 10, none, .fld 1 1 false (.t 1), 0, false⟩, ⟨some 11, none, .len (.t 10), 0, false⟩, ⟨some 12, none, .mov (.k (.i 0)), 0, false⟩]
def p55_4 : K := .reg [⟨some 13, none, .bin .lss .none (.t 12) (.t 11), 0, false⟩]
def p55_5 : K := .cond (.t 13) .skip (.exit 0)
def p55_6 : K := .reg [⟨some 14, none, .ixs 2 (.t 10) (.t 12), 0, false⟩, ⟨some 15, none, .ldn 2 (.t 14), 0, false⟩, ⟨some 5, none, .lnew [.str ⟨⟨[]⟩⟩, .d (.sl [] 0)], 0, false⟩, ⟨some 5, none, .setc 0 2 (.t 5) (.t 15), 0, false⟩]
def p55_7 : K := .drg [⟨some 16, none, .fld 0 0 true (.t 3), 0, true⟩, ⟨some 17, none, .fld 1 1 false (.t 3), 1, true⟩, ⟨some 18, none, .fld 0 2 true (.t 5), 0, true⟩, ⟨some 19, none, .call 55 [.t 18], 4, true⟩, ⟨some 20, none, .wsl 1 [.str ⟨⟨[]⟩⟩, .d (.sl [] 0)] [(0, 2, .t 19)], 12, true⟩, ⟨some 21, none, .wapp 2 40 (.t 17) (.t 20), 31, true⟩, ⟨some 22, none, .fld 0 0 true (.t 3), 63, true⟩, ⟨some 3, none, .setc 1 1 (.t 3) (.t 21), 127, true⟩]
def p55_8 : K := .seq p55_6 p55_7
def p55_9 : K := .block 1 p55_8
def p55_10 : K := .reg [⟨some 23, none, .bin .add .none (.t 12) (.k (.i 1)), 0, false⟩, ⟨some 12, none, .mov (.t 23), 0, false⟩]
def p55_11 : K := .seq p55_9 p55_10
def p55_12 : K := .seq p55_5 p55_11
def p55_13 : K := .seq p55_4 p55_12
def p55_14 : K := .loop p55_13
def p55_15 : K := .block 0 p55_14
def p55_16 : K := .seq p55_3 p55_15
def p55_17 : K := .reg [⟨some 24, none, .fld 0 2 true (.t 3), 0, false⟩, ⟨some 2, none, .setc 0 2 (.t 2) (.t 24), 0, false⟩]
def p55_18 : K := .seq p55_17 .ret
def p55_19 : K := .seq p55_16 p55_18
def p55_20 : K := .seq p55_2 p55_19
def p55_21 : K := .seq p55_1 p55_20
def p55_22 : K := .seq p55_0 p55_21
def cf55 : CF := { nt := 25, body := p55_22, res := [.loc 2 2 true] }
def hi55 : List Hint := []
def pm55 : Pm := ⟨[1, 2, 3, 5], [6, 9, 16, 22]⟩
def os55 : List TypeId := []
theorem ok55 : vComp Try.prog modeF os55 hi55 pm55 sigS 55 Try.f55 = some cf55 := by kernel_rfl
def p58_0 : K := .reg []
def p58_1 : K := .reg [⟨some 2, none, .mov (.k (.bool false)), 0, false⟩]
def p58_2 : K := .reg [⟨some 3, none, .mov (.t 0), 0, false⟩, ⟨some 4, none, .call 37 [.t 3], 0, false⟩, ⟨some 5, none, .un .not (.t 4), 0, false⟩, ⟨some 6, none, .mov (.t 5), 0, false⟩, ⟨some 7, some (6, true), .mov (.t 0), 0, false⟩, ⟨some 8, some (6, true), .call 61 [.t 7, .k (.str ⟨⟨[46]⟩⟩)], 0, false⟩, ⟨some 9, some (6, true), .un .not (.t 8), 0, false⟩, ⟨some 10, none, .pick (.t 6) (.t 9) (.k (.bool false)), 0, false⟩, ⟨some 2, none, .mov (.t 10), 0, false⟩]
def p58_3 : K := .seq p58_2 .ret
def p58_4 : K := .seq p58_1 p58_3
def p58_5 : K := .seq p58_0 p58_4
def cf58 : CF := { nt := 11, body := p58_5, res := [.tmp 2] }
def hi58 : List Hint := []
def pm58 : Pm := ⟨[], []⟩
def os58 : List TypeId := []
theorem ok58 : vComp Try.prog modeF os58 hi58 pm58 sigS 58 Try.f58 = some cf58 := by kernel_rfl
def p59_0 : K := .reg []
def p59_1 : K := .reg [⟨some 4, none, .mov (.k (.bool false)), 0, false⟩]
def p59_2 : K := .reg [⟨some 5, none, .mov (.t 0), 0, false⟩, ⟨some 6, none, .mov (.t 1), 0, false⟩, ⟨some 7, none, .call 78 [.t 5, .t 6], 0, false⟩, ⟨some 8, none, .bin .geq .none (.t 7) (.k (.i 0)), 0, false⟩, ⟨some 4, none, .mov (.t 8), 0, false⟩]
def p59_3 : K := .seq p59_2 .ret
def p59_4 : K := .seq p59_1 p59_3
def p59_5 : K := .seq p59_0 p59_4
def cf59 : CF := { nt := 9, body := p59_5, res := [.tmp 4] }
def hi59 : List Hint := []
def pm59 : Pm := ⟨[], []⟩
def os59 : List TypeId := []
theorem ok59 : vComp Try.prog modeF os59 hi59 pm59 sigS 59 Try.f59 = some cf59 := by kernel_rfl
def p60_0 : K := .reg [⟨some 1, none, .mov (.k (.tup [])), 0, false⟩]
def p60_1 : K := .reg [⟨some 1, none, .lbox (.t 0), 0, false⟩, ⟨some 2, none, .mov (.k (.bool false)), 0, false⟩]
def p60_2 : K := .reg [⟨some 3, none, .fld 0 2 true (.t 1), 0, false⟩, ⟨some 4, none, .call 27 [.t 3], 0, false⟩, ⟨some 5, none, .un .not (.t 4), 0, false⟩, ⟨some 2, none, .mov (.t 5), 0, false⟩]
def p60_3 : K := .seq p60_2 .ret
def p60_4 : K := .seq p60_1 p60_3
def p60_5 : K := .seq p60_0 p60_4
def cf60 : CF := { nt := 6, body := p60_5, res := [.tmp 2] }
def hi60 : List Hint := []
def pm60 : Pm := ⟨[1], []⟩
def os60 : List TypeId := []
theorem ok60 : vComp Try.prog modeF os60 hi60 pm60 sigS 60 Try.f60 = some cf60 := by kernel_rfl
def p61_0 : K := .reg []
def p61_1 : K := .reg [⟨some 4, none, .mov (.k (.bool false)), 0, false⟩]
def p61_2 : K := .reg [⟨some 5, none, .mov (.t 0), 0, false⟩, ⟨some 6, none, .mov (.t 1), 0, false⟩, ⟨some 7, none, .call 79 [.t 5, .t 6], 0, false⟩, ⟨some 8, none, .bin .geq .none (.t 7) (.k (.i 0)), 0, false⟩, ⟨some 4, none, .mov (.t 8), 0, false⟩]
def p61_3 : K := .seq p61_2 .ret
def p61_4 : K := .seq p61_1 p61_3
def p61_5 : K := .seq p61_0 p61_4
def cf61 : CF := { nt := 9, body := p61_5, res := [.tmp 4] }
def hi61 : List Hint := []
def pm61 : Pm := ⟨[], []⟩
def os61 : List TypeId := []
theorem ok61 : vComp Try.prog modeF os61 hi61 pm61 sigS 61 Try.f61 = some cf61 := by kernel_rfl
def p70_0 : K := .reg []
def p70_1 : K := .reg [⟨some 4, none, .mov (.k (.bool false)), 0, false⟩]
def p70_2 : K := .reg [⟨some 5, none, .mov (.t 0), 0, false⟩, ⟨some 6, none, .mov (.t 1), 0, false⟩, ⟨some 7, none, .call 85 [.t 5, .t 6], 0, false⟩, ⟨some 8, none, .bin .geq .none (.t 7) (.k (.i 0)), 0, false⟩, ⟨some 4, none, .mov (.t 8), 0, false⟩]
def p70_3 : K := .seq p70_2 .ret
def p70_4 : K := .seq p70_1 p70_3
def p70_5 : K := .seq p70_0 p70_4
def cf70 : CF := { nt := 9, body := p70_5, res := [.tmp 4] }
def hi70 : List Hint := []
def pm70 : Pm := ⟨[], []⟩
def os70 : List TypeId := []
theorem ok70 : vComp Try.prog modeF os70 hi70 pm70 sigS 70 Try.f70 = some cf70 := by kernel_rfl
def p71_0 : K := .reg [⟨some 2, none, .mov (.k (.tup [])), 0, false⟩]
def p71_1 : K := .reg [⟨some 2, none, .lbox (.t 0), 0, false⟩, ⟨some 4, none, .mov (.k (.i 0)), 0, false⟩]
def p71_2 : K := .reg [⟨some 5, none, .fld 0 0 true (.t 2), 0, false⟩, ⟨some 6, none, .fld 1 1 false (.t 2), 0, false⟩, ⟨some 7, none, .len (.t 6), 0, false⟩, ⟨some 8, none, .bin .gtr .none (.t 7) (.k (.i 0)), 0, false⟩]
def p71_3 : K := .reg [⟨some 4, none, .mov (.k (.i (-1))), 0, false⟩]
def p71_4 : K := .seq p71_3 .ret
def p71_5 : K := .cond (.t 8) p71_4 .skip
def p71_6 : K := .seq p71_2 p71_5
def p71_7 : K := .reg [⟨some 9, none, .mov (.t 1), 0, false⟩, ⟨some 10, none, .fld 0 0 true (.t 2), 0, false⟩, ⟨some 11, none, .fld 0 1 false (.t 2), 0, false⟩, ⟨some 12, none, .call 85 [.t 9, .t 11], 0, false⟩, ⟨some 4, none, .mov (.t 12), 0, false⟩]
def p71_8 : K := .seq p71_7 .ret
def p71_9 : K := .seq p71_6 p71_8
def p71_10 : K := .seq p71_1 p71_9
def p71_11 : K := .seq p71_0 p71_10
def cf71 : CF := { nt := 13, body := p71_11, res := [.tmp 4] }
def hi71 : List Hint := []
def pm71 : Pm := ⟨[2], [5, 10]⟩
def os71 : List TypeId := []
theorem ok71 : vComp Try.prog modeF os71 hi71 pm71 sigS 71 Try.f71 = some cf71 := by kernel_rfl
def p76_0 : K := .reg [⟨some 4, none, .mov (.k (.tup [])), 0, false⟩, ⟨some 5, none, .mov (.k (.tup [])), 0, false⟩]
def p76_1 : K := .reg [⟨some 4, none, .lbox (.t 0), 0, false⟩, ⟨some 5, none, .lbox (.t 1), 0, false⟩, ⟨some 6, none, .mov (.k (.bool false)), 0, false⟩]
def p76_2 : K := .reg [⟨some 7, none, .fld 0 2 true (.t 4), 0, false⟩, ⟨some 8, none, .fld 0 2 true (.t 5), 0, false⟩, ⟨some 9, none, .ld1 (.t 2), 0, false⟩, ⟨some 10, none, .ld1 (.t 3), 0, false⟩, ⟨some 11, none, .call 53 [.t 7, .t 8, .t 9, .t 10], 0, false⟩, ⟨some 6, none, .mov (.t 11), 0, false⟩]
def p76_3 : K := .seq p76_2 .ret
def p76_4 : K := .seq p76_1 p76_3
def p76_5 : K := .seq p76_0 p76_4
def cf76 : CF := { nt := 12, body := p76_5, res := [.tmp 6] }
def hi76 : List Hint := []
def pm76 : Pm := ⟨[4, 5], []⟩
def os76 : List TypeId := []
theorem ok76 : vComp Try.prog modeF os76 hi76 pm76 sigS 76 Try.f76 = some cf76 := by kernel_rfl
def p77_0 : K := .reg []
def p77_1 : K := .reg [⟨some 4, none, .mov (.k (.i 0)), 0, false⟩]
def p77_2 : K := .reg [⟨some 6, none, .mov (.t 0), 0, false⟩, ⟨some 7, none, .len (.t 6), 0, false⟩, ⟨some 8, none, .mov (.k (.i 0)), 0, false⟩]
def p77_3 : K := .reg [⟨some 9, none, .bin .lss .none (.t 8) (.t 7), 0, false⟩]
def p77_4 : K := .cond (.t 9) .skip (.exit 0)
def p77_5 : K := .reg [⟨some 10, none, .mov (.t 8), 0, false⟩, ⟨some 5, none, .mov (.t 10), 0, false⟩]
def p77_6 : K := .reg [⟨some 11, none, .mov (.t 1), 0, false⟩, ⟨some 12, none, .mov (.t 0), 0, false⟩, ⟨some 13, none, .mov (.t 5), 0, false⟩, ⟨some 14, none, .ixs 1 (.t 12) (.t 13), 0, false⟩, ⟨some 15, none, .ld1 (.t 14), 0, false⟩, ⟨some 16, none, .bin .eql .ptr (.t 11) (.t 15), 0, false⟩]
def p77_7 : K := .reg [⟨some 17, none, .mov (.t 5), 0, false⟩, ⟨some 4, none, .mov (.t 17), 0, false⟩]
def p77_8 : K := .seq p77_7 .ret
def p77_9 : K := .cond (.t 16) p77_8 .skip
def p77_10 : K := .seq p77_6 p77_9
def p77_11 : K := .seq p77_5 p77_10
def p77_12 : K := .block 1 p77_11
def p77_13 : K := .reg [⟨some 18, none, .bin .add .none (.t 8) (.k (.i 1)), 0, false⟩, ⟨some 8, none, .mov (.t 18), 0, false⟩]
def p77_14 : K := .seq p77_12 p77_13
def p77_15 : K := .seq p77_4 p77_14
def p77_16 : K := .seq p77_3 p77_15
def p77_17 : K := .loop p77_16
def p77_18 : K := .block 0 p77_17
def p77_19 : K := .seq p77_2 p77_18
def p77_20 : K := .reg [⟨some 4, none, .mov (.k (.i (-1))), 0, false⟩]
def p77_21 : K := .seq p77_20 .ret
def p77_22 : K := .seq p77_19 p77_21
def p77_23 : K := .seq p77_1 p77_22
def p77_24 : K := .seq p77_0 p77_23
def cf77 : CF := { nt := 19, body := p77_24, res := [.tmp 4] }
def hi77 : List Hint := []
def pm77 : Pm := ⟨[], []⟩
def os77 : List TypeId := []
theorem ok77 : vComp Try.prog modeF os77 hi77 pm77 sigS 77 Try.f77 = some cf77 := by kernel_rfl
def p78_0 : K := .reg []
def p78_1 : K := .reg [⟨some 4, none, .mov (.k (.i 0)), 0, false⟩]
def p78_2 : K := .reg [⟨some 6, none, .mov (.t 0), 0, false⟩, ⟨some 7, none, .len (.t 6), 0, false⟩, ⟨some 8, none, .mov (.k (.i 0)), 0, false⟩]
def p78_3 : K := .reg [⟨some 9, none, .bin .lss .none (.t 8) (.t 7), 0, false⟩]
def p78_4 : K := .cond (.t 9) .skip (.exit 0)
def p78_5 : K := .reg [⟨some 10, none, .mov (.t 8), 0, false⟩, ⟨some 5, none, .mov (.t 10), 0, false⟩]
def p78_6 : K := .reg [⟨some 11, none, .mov (.t 1), 0, false⟩, ⟨some 12, none, .mov (.t 0), 0, false⟩, ⟨some 13, none, .mov (.t 5), 0, false⟩, ⟨some 14, none, .ixs 2 (.t 12) (.t 13), 0, false⟩, ⟨some 15, none, .ldn 2 (.t 14), 0, false⟩, ⟨some 16, none, .callw [] (.t 11) [.t 15], 0, false⟩]
def p78_7 : K := .reg [⟨some 17, none, .mov (.t 5), 0, false⟩, ⟨some 4, none, .mov (.t 17), 0, false⟩]
def p78_8 : K := .seq p78_7 .ret
def p78_9 : K := .cond (.t 16) p78_8 .skip
def p78_10 : K := .seq p78_6 p78_9
def p78_11 : K := .seq p78_5 p78_10
def p78_12 : K := .block 1 p78_11
def p78_13 : K := .reg [⟨some 18, none, .bin .add .none (.t 8) (.k (.i 1)), 0, false⟩, ⟨some 8, none, .mov (.t 18), 0, false⟩]
def p78_14 : K := .seq p78_12 p78_13
def p78_15 : K := .seq p78_4 p78_14
def p78_16 : K := .seq p78_3 p78_15
def p78_17 : K := .loop p78_16
def p78_18 : K := .block 0 p78_17
def p78_19 : K := .seq p78_2 p78_18
def p78_20 : K := .reg [⟨some 4, none, .mov (.k (.i (-1))), 0, false⟩]
def p78_21 : K := .seq p78_20 .ret
def p78_22 : K := .seq p78_19 p78_21
def p78_23 : K := .seq p78_1 p78_22
def p78_24 : K := .seq p78_0 p78_23
def cf78 : CF := { nt := 19, body := p78_24, res := [.tmp 4] }
def hi78 : List Hint := []
def pm78 : Pm := ⟨[], []⟩
def os78 : List TypeId := []
theorem ok78 : vComp Try.prog modeF os78 hi78 pm78 sigS 78 Try.f78 = some cf78 := by kernel_rfl
def p79_0 : K := .reg []
def p79_1 : K := .reg [⟨some 4, none, .mov (.k (.i 0)), 0, false⟩]
def p79_2 : K := .reg [⟨some 5, none, .mov (.t 0), 0, false⟩, ⟨some 6, none, .mov (.t 1), 0, false⟩, ⟨some 7, none, .call 86 [.t 5, .t 6], 0, false⟩, ⟨some 4, none, .mov (.t 7), 0, false⟩]
def p79_3 : K := .seq p79_2 .ret
def p79_4 : K := .seq p79_1 p79_3
def p79_5 : K := .seq p79_0 p79_4
def cf79 : CF := { nt := 8, body := p79_5, res := [.tmp 4] }
def hi79 : List Hint := []
def pm79 : Pm := ⟨[], []⟩
def os79 : List TypeId := []
theorem ok79 : vComp Try.prog modeF os79 hi79 pm79 sigS 79 Try.f79 = some cf79 := by kernel_rfl
def p85_0 : K := .reg []
def p85_1 : K := .reg [⟨some 4, none, .mov (.k (.i 0)), 0, false⟩]
def p85_2 : K := .reg [⟨some 6, none, .mov (.t 0), 0, false⟩, ⟨some 7, none, .len (.t 6), 0, false⟩, ⟨some 8, none, .mov (.k (.i 0)), 0, false⟩]
def p85_3 : K := .reg [⟨some 9, none, .bin .lss .none (.t 8) (.t 7), 0, false⟩]
def p85_4 : K := .cond (.t 9) .skip (.exit 0)
def p85_5 : K := .reg [⟨some 10, none, .mov (.t 8), 0, false⟩, ⟨some 5, none, .mov (.t 10), 0, false⟩]
def p85_6 : K := .reg [⟨some 11, none, .mov (.t 1), 0, false⟩, ⟨some 12, none, .mov (.t 0), 0, false⟩, ⟨some 13, none, .mov (.t 5), 0, false⟩, ⟨some 14, none, .ixs 1 (.t 12) (.t 13), 0, false⟩, ⟨some 15, none, .ld1 (.t 14), 0, false⟩, ⟨some 16, none, .bin .eql .none (.t 11) (.t 15), 0, false⟩]
def p85_7 : K := .reg [⟨some 17, none, .mov (.t 5), 0, false⟩, ⟨some 4, none, .mov (.t 17), 0, false⟩]
def p85_8 : K := .seq p85_7 .ret
def p85_9 : K := .cond (.t 16) p85_8 .skip
def p85_10 : K := .seq p85_6 p85_9
def p85_11 : K := .seq p85_5 p85_10
def p85_12 : K := .block 1 p85_11
def p85_13 : K := .reg [⟨some 18, none, .bin .add .none (.t 8) (.k (.i 1)), 0, false⟩, ⟨some 8, none, .mov (.t 18), 0, false⟩]
def p85_14 : K := .seq p85_12 p85_13
def p85_15 : K := .seq p85_4 p85_14
def p85_16 : K := .seq p85_3 p85_15
def p85_17 : K := .loop p85_16
def p85_18 : K := .block 0 p85_17
def p85_19 : K := .seq p85_2 p85_18
def p85_20 : K := .reg [⟨some 4, none, .mov (.k (.i (-1))), 0, false⟩]
def p85_21 : K := .seq p85_20 .ret
def p85_22 : K := .seq p85_19 p85_21
def p85_23 : K := .seq p85_1 p85_22
def p85_24 : K := .seq p85_0 p85_23
def cf85 : CF := { nt := 19, body := p85_24, res := [.tmp 4] }
def hi85 : List Hint := []
def pm85 : Pm := ⟨[], []⟩
def os85 : List TypeId := []
theorem ok85 : vComp Try.prog modeF os85 hi85 pm85 sigS 85 Try.f85 = some cf85 := by kernel_rfl
end Go.Proofs.Ytcoagkfjdpdohaa.Sx
