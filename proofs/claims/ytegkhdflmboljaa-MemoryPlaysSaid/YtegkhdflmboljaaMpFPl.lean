/- MEMORY, CLONES: the shape of Memory.Clone's code, printed by mkshape.py. -/
import Derived.Test.YtegkhdflmboljaaMpEPl
import Derived.Test.YtegkhdflmboljaaProg
namespace Go.Proofs.Ytegkhdflmboljaa.Sx
open Go
set_option maxRecDepth 1000000

def ch0 : List AV := List.replicate 256 (.int .u8 0) ++ List.replicate 256 (.bool false)
def ob0 : List AV := [.bool false, .i 0, .i 0, .i 0, .d (.v (.map none))]
structure CSh (P : Program) (f : FuncId) (tM tO tC tP tMap tK tE : TypeId) where
  fn : Func
  hf : P.funcs[f]? = some fn
  nm : (fn.name == "runtime.NumGoroutine") = false
  nt : fn.ntmps = 57
  res : fn.results = #[.tmp 2]
  hu : P.underlying tMap = some (.map tK tE)
  o0_0 : Oper
  o1_0 : Oper
  o1_1 : Oper
  o1_2 : Oper
  o1_3 : Oper
  o1_4 : Oper
  o1_5 : Oper
  o1_6 : Oper
  o2_0 : Oper
  o2_1 : Oper
  o2_2 : Oper
  o2_3 : Oper
  o2_4 : Oper
  o2_5 : Oper
  o3_0 : Oper
  o4_0 : Oper
  o4_1 : Oper
  o4_2 : Oper
  o5_0 : Oper
  o5_1 : Oper
  o5_2 : Oper
  o5_3 : Oper
  o5_4 : Oper
  o6_0 : Oper
  o6_1 : Oper
  o6_2 : Oper
  o7_0 : Oper
  o7_1 : Oper
  o7_2 : Oper
  o7_3 : Oper
  o7_4 : Oper
  o8_0 : Oper
  o8_1 : Oper
  o9_0 : Oper
  o9_1 : Oper
  o9_2 : Oper
  o9_3 : Oper
  o9_4 : Oper
  o10_0 : Oper
  o10_1 : Oper
  o10_2 : Oper
  o10_3 : Oper
  o10_4 : Oper
  o11_0 : Oper
  o11_1 : Oper
  o11_2 : Oper
  o11_3 : Oper
  o12_0 : Oper
  o12_1 : Oper
  o12_2 : Oper
  o12_3 : Oper
  o12_4 : Oper
  o12_5 : Oper
  o12_6 : Oper
  o12_7 : Oper
  o12_8 : Oper
  o12_9 : Oper
  o13_0 : Oper
  o13_1 : Oper
  o14_0 : Oper
  o14_1 : Oper
  i0 : Nat
  i1 : Nat
  i2 : Nat
  i3 : Nat
  i4 : Nat
  i5 : Nat
  i6 : Nat
  i7 : Nat
  i8 : Nat
  i9 : Nat
  i10 : Nat
  i11 : Nat
  i12 : Nat
  i13 : Nat
  i14 : Nat
  body : fn.body = some (.seq (.region i0 #[o0_0] false) (.seq (.region i1 #[o1_0, o1_1, o1_2, o1_3, o1_4, o1_5, o1_6] false) (.seq (.seq (.region i2 #[o2_0, o2_1, o2_2, o2_3, o2_4, o2_5] false) (.block 0 (.loop (.seq (.region i3 #[o3_0] false) (.seq (.cond (.tmp 22) .skip (.exit 0)) (.seq (.block 1 (.seq (.region i4 #[o4_0, o4_1, o4_2] false) (.seq (.region i5 #[o5_0, o5_1, o5_2, o5_3, o5_4] false) (.seq (.region i6 #[o6_0, o6_1, o6_2] false) (.seq (.seq (.region i7 #[o7_0, o7_1, o7_2, o7_3, o7_4] false) (.block 2 (.loop (.seq (.region i8 #[o8_0, o8_1] false) (.seq (.cond (.tmp 36) .skip (.exit 2)) (.block 3 (.seq (.region i9 #[o9_0, o9_1, o9_2, o9_3, o9_4] false) (.seq (.region i10 #[o10_0, o10_1, o10_2, o10_3, o10_4] false) (.region i11 #[o11_0, o11_1, o11_2, o11_3] false))))))))) (.region i12 #[o12_0, o12_1, o12_2, o12_3, o12_4, o12_5, o12_6, o12_7, o12_8, o12_9] false)))))) (.region i13 #[o13_0, o13_1] false))))))) (.seq (.region i14 #[o14_0, o14_1] false) .ret))))
  c0_0 : compOper P [tP] #[o0_0] o0_0 = some ⟨some 2, none, .mov (.k .nil), 0, false⟩
  c1_0 : compOper P [tP] #[o1_0, o1_1, o1_2, o1_3, o1_4, o1_5, o1_6] o1_0 = some ⟨some 10, none, .mov (.t 0), 0, false⟩
  c1_1 : compOper P [tP] #[o1_0, o1_1, o1_2, o1_3, o1_4, o1_5, o1_6] o1_1 = some ⟨some 11, none, .nilc (.t 10), 0, false⟩
  c1_2 : compOper P [tP] #[o1_0, o1_1, o1_2, o1_3, o1_4, o1_5, o1_6] o1_2 = some ⟨some 12, none, .fad 1 (.t 11), 0, false⟩
  c1_3 : compOper P [tP] #[o1_0, o1_1, o1_2, o1_3, o1_4, o1_5, o1_6] o1_3 = some ⟨some 13, none, .ld1 (.t 12), 0, false⟩
  c1_4 : compOper P [tP] #[o1_0, o1_1, o1_2, o1_3, o1_4, o1_5, o1_6] o1_4 = some ⟨some 14, none, .mk [.nilsl, .i 0] [(1, 1, .t 13)], 0, false⟩
  c1_5 : compOper P [tP] #[o1_0, o1_1, o1_2, o1_3, o1_4, o1_5, o1_6] o1_5 = some ⟨some 15, none, .box tM (.t 14), 0, false⟩
  c1_6 : compOper P [tP] #[o1_0, o1_1, o1_2, o1_3, o1_4, o1_5, o1_6] o1_6 = some ⟨some 3, none, .mov (.t 15), 0, false⟩
  c2_0 : compOper P [tP] #[o2_0, o2_1, o2_2, o2_3, o2_4, o2_5] o2_0 = some ⟨some 16, none, .mov (.t 0), 0, false⟩
  c2_1 : compOper P [tP] #[o2_0, o2_1, o2_2, o2_3, o2_4, o2_5] o2_1 = some ⟨some 17, none, .nilc (.t 16), 0, false⟩
  c2_2 : compOper P [tP] #[o2_0, o2_1, o2_2, o2_3, o2_4, o2_5] o2_2 = some ⟨some 18, none, .fad 0 (.t 17), 0, false⟩
  c2_3 : compOper P [tP] #[o2_0, o2_1, o2_2, o2_3, o2_4, o2_5] o2_3 = some ⟨some 19, none, .ld1 (.t 18), 0, false⟩
  c2_4 : compOper P [tP] #[o2_0, o2_1, o2_2, o2_3, o2_4, o2_5] o2_4 = some ⟨some 20, none, .len (.t 19), 0, false⟩
  c2_5 : compOper P [tP] #[o2_0, o2_1, o2_2, o2_3, o2_4, o2_5] o2_5 = some ⟨some 21, none, .mov (.k (.i 0)), 0, false⟩
  c3_0 : compOper P [tP] #[o3_0] o3_0 = some ⟨some 22, none, .bin .lss .none (.t 21) (.t 20), 0, false⟩
  c4_0 : compOper P [tP] #[o4_0, o4_1, o4_2] o4_0 = some ⟨some 23, none, .ixs 1 (.t 19) (.t 21), 0, false⟩
  c4_1 : compOper P [tP] #[o4_0, o4_1, o4_2] o4_1 = some ⟨some 24, none, .ld1 (.t 23), 0, false⟩
  c4_2 : compOper P [tP] #[o4_0, o4_1, o4_2] o4_2 = some ⟨some 5, none, .mov (.t 24), 0, false⟩
  c5_0 : compOper P [tP] #[o5_0, o5_1, o5_2, o5_3, o5_4] o5_0 = some ⟨some 25, none, .mov (.t 5), 0, false⟩
  c5_1 : compOper P [tP] #[o5_0, o5_1, o5_2, o5_3, o5_4] o5_1 = some ⟨some 26, none, .nilc (.t 25), 0, false⟩
  c5_2 : compOper P [tP] #[o5_0, o5_1, o5_2, o5_3, o5_4] o5_2 = some ⟨some 27, none, .ldn 5 (.t 26), 0, false⟩
  c5_3 : compOper P [tP] #[o5_0, o5_1, o5_2, o5_3, o5_4] o5_3 = some ⟨some 6, none, .new tO ob0, 0, false⟩
  c5_4 : compOper P [tP] #[o5_0, o5_1, o5_2, o5_3, o5_4] o5_4 = some ⟨none, none, .st 5 (.t 6) (.t 27), 0, false⟩
  c6_0 : compOper P [tP] #[o6_0, o6_1, o6_2] o6_0 = some ⟨some 28, none, .mkmap (.int .i64), 0, false⟩
  c6_1 : compOper P [tP] #[o6_0, o6_1, o6_2] o6_1 = some ⟨some 29, none, .fad 4 (.t 6), 0, false⟩
  c6_2 : compOper P [tP] #[o6_0, o6_1, o6_2] o6_2 = some ⟨none, none, .st 1 (.t 29) (.t 28), 0, false⟩
  c7_0 : compOper P [tP] #[o7_0, o7_1, o7_2, o7_3, o7_4] o7_0 = some ⟨some 30, none, .mov (.t 5), 0, false⟩
  c7_1 : compOper P [tP] #[o7_0, o7_1, o7_2, o7_3, o7_4] o7_1 = some ⟨some 31, none, .nilc (.t 30), 0, false⟩
  c7_2 : compOper P [tP] #[o7_0, o7_1, o7_2, o7_3, o7_4] o7_2 = some ⟨some 32, none, .fad 4 (.t 31), 0, false⟩
  c7_3 : compOper P [tP] #[o7_0, o7_1, o7_2, o7_3, o7_4] o7_3 = some ⟨some 33, none, .ld1 (.t 32), 0, false⟩
  g7_4 : o7_4.guard = none
  d7_4 : o7_4.dst = some 34
  p7_4 : o7_4.op = .range tMap (.tmp 33)
  g8_0 : o8_0.guard = none
  d8_0 : o8_0.dst = some 35
  p8_0 : o8_0.op = .next (.tmp 34) false
  c8_1 : compOper P [tP] #[o8_0, o8_1] o8_1 = some ⟨some 36, none, .ext (.t 35) 0, 0, false⟩
  g9_0 : o9_0.guard = none
  d9_0 : o9_0.dst = some 37
  p9_0 : o9_0.op = .entry (.tmp 34)
  c9_1 : compOper P [tP] #[o9_0, o9_1, o9_2, o9_3, o9_4] o9_1 = some ⟨some 38, none, .ext (.t 37) 0, 0, false⟩
  c9_2 : compOper P [tP] #[o9_0, o9_1, o9_2, o9_3, o9_4] o9_2 = some ⟨some 39, none, .ext (.t 37) 1, 0, false⟩
  c9_3 : compOper P [tP] #[o9_0, o9_1, o9_2, o9_3, o9_4] o9_3 = some ⟨some 7, none, .mov (.t 38), 0, false⟩
  c9_4 : compOper P [tP] #[o9_0, o9_1, o9_2, o9_3, o9_4] o9_4 = some ⟨some 8, none, .mov (.t 39), 0, false⟩
  c10_0 : compOper P [tP] #[o10_0, o10_1, o10_2, o10_3, o10_4] o10_0 = some ⟨some 40, none, .mov (.t 8), 0, false⟩
  c10_1 : compOper P [tP] #[o10_0, o10_1, o10_2, o10_3, o10_4] o10_1 = some ⟨some 41, none, .nilc (.t 40), 0, false⟩
  c10_2 : compOper P [tP] #[o10_0, o10_1, o10_2, o10_3, o10_4] o10_2 = some ⟨some 42, none, .ldn 512 (.t 41), 0, false⟩
  c10_3 : compOper P [tP] #[o10_0, o10_1, o10_2, o10_3, o10_4] o10_3 = some ⟨some 9, none, .new tC ch0, 0, false⟩
  c10_4 : compOper P [tP] #[o10_0, o10_1, o10_2, o10_3, o10_4] o10_4 = some ⟨none, none, .st 512 (.t 9) (.t 42), 0, false⟩
  c11_0 : compOper P [tP] #[o11_0, o11_1, o11_2, o11_3] o11_0 = some ⟨some 43, none, .fad 4 (.t 6), 0, false⟩
  c11_1 : compOper P [tP] #[o11_0, o11_1, o11_2, o11_3] o11_1 = some ⟨some 44, none, .ld1 (.t 43), 0, false⟩
  c11_2 : compOper P [tP] #[o11_0, o11_1, o11_2, o11_3] o11_2 = some ⟨some 45, none, .mov (.t 7), 0, false⟩
  c11_3 : compOper P [tP] #[o11_0, o11_1, o11_2, o11_3] o11_3 = some ⟨none, none, .mset (.int .i64) (.t 44) (.t 45) (.t 9), 0, false⟩
  c12_0 : compOper P [tP] #[o12_0, o12_1, o12_2, o12_3, o12_4, o12_5, o12_6, o12_7, o12_8, o12_9] o12_0 = some ⟨some 46, none, .mov (.t 3), 0, false⟩
  c12_1 : compOper P [tP] #[o12_0, o12_1, o12_2, o12_3, o12_4, o12_5, o12_6, o12_7, o12_8, o12_9] o12_1 = some ⟨some 47, none, .mov (.t 3), 0, false⟩
  c12_2 : compOper P [tP] #[o12_0, o12_1, o12_2, o12_3, o12_4, o12_5, o12_6, o12_7, o12_8, o12_9] o12_2 = some ⟨some 48, none, .nilc (.t 47), 0, false⟩
  c12_3 : compOper P [tP] #[o12_0, o12_1, o12_2, o12_3, o12_4, o12_5, o12_6, o12_7, o12_8, o12_9] o12_3 = some ⟨some 49, none, .fad 0 (.t 48), 0, false⟩
  c12_4 : compOper P [tP] #[o12_0, o12_1, o12_2, o12_3, o12_4, o12_5, o12_6, o12_7, o12_8, o12_9] o12_4 = some ⟨some 50, none, .ld1 (.t 49), 0, false⟩
  c12_5 : compOper P [tP] #[o12_0, o12_1, o12_2, o12_3, o12_4, o12_5, o12_6, o12_7, o12_8, o12_9] o12_5 = some ⟨some 51, none, .mksl tP 1 1 [.nil] [(0, 1, .t 6)], 0, false⟩
  c12_6 : compOper P [tP] #[o12_0, o12_1, o12_2, o12_3, o12_4, o12_5, o12_6, o12_7, o12_8, o12_9] o12_6 = some ⟨some 52, none, .app tP 1 8 [.nil] (.t 50) (.t 51), 0, false⟩
  c12_7 : compOper P [tP] #[o12_0, o12_1, o12_2, o12_3, o12_4, o12_5, o12_6, o12_7, o12_8, o12_9] o12_7 = some ⟨some 53, none, .nilc (.t 46), 0, false⟩
  c12_8 : compOper P [tP] #[o12_0, o12_1, o12_2, o12_3, o12_4, o12_5, o12_6, o12_7, o12_8, o12_9] o12_8 = some ⟨some 54, none, .fad 0 (.t 53), 0, false⟩
  c12_9 : compOper P [tP] #[o12_0, o12_1, o12_2, o12_3, o12_4, o12_5, o12_6, o12_7, o12_8, o12_9] o12_9 = some ⟨none, none, .st 1 (.t 54) (.t 52), 0, false⟩
  c13_0 : compOper P [tP] #[o13_0, o13_1] o13_0 = some ⟨some 55, none, .bin .add .none (.t 21) (.k (.i 1)), 0, false⟩
  c13_1 : compOper P [tP] #[o13_0, o13_1] o13_1 = some ⟨some 21, none, .mov (.t 55), 0, false⟩
  c14_0 : compOper P [tP] #[o14_0, o14_1] o14_0 = some ⟨some 56, none, .mov (.t 3), 0, false⟩
  c14_1 : compOper P [tP] #[o14_0, o14_1] o14_1 = some ⟨some 2, none, .mov (.t 56), 0, false⟩

noncomputable def shClone : CSh Try.prog 24 49 60 64 53 58 3 57 :=
  { fn := Try.f24, hf := Try.func24, nm := by kernel_rfl, nt := rfl, res := rfl, hu := Try.underlying58
    , i0 := _
    i1 := _
    i2 := _
    i3 := _
    i4 := _
    i5 := _
    i6 := _
    i7 := _
    i8 := _
    i9 := _
    i10 := _
    i11 := _
    i12 := _
    i13 := _
    i14 := _
    o0_0 := _
    o1_0 := _
    o1_1 := _
    o1_2 := _
    o1_3 := _
    o1_4 := _
    o1_5 := _
    o1_6 := _
    o2_0 := _
    o2_1 := _
    o2_2 := _
    o2_3 := _
    o2_4 := _
    o2_5 := _
    o3_0 := _
    o4_0 := _
    o4_1 := _
    o4_2 := _
    o5_0 := _
    o5_1 := _
    o5_2 := _
    o5_3 := _
    o5_4 := _
    o6_0 := _
    o6_1 := _
    o6_2 := _
    o7_0 := _
    o7_1 := _
    o7_2 := _
    o7_3 := _
    o7_4 := _
    o8_0 := _
    o8_1 := _
    o9_0 := _
    o9_1 := _
    o9_2 := _
    o9_3 := _
    o9_4 := _
    o10_0 := _
    o10_1 := _
    o10_2 := _
    o10_3 := _
    o10_4 := _
    o11_0 := _
    o11_1 := _
    o11_2 := _
    o11_3 := _
    o12_0 := _
    o12_1 := _
    o12_2 := _
    o12_3 := _
    o12_4 := _
    o12_5 := _
    o12_6 := _
    o12_7 := _
    o12_8 := _
    o12_9 := _
    o13_0 := _
    o13_1 := _
    o14_0 := _
    o14_1 := _
    body := rfl
    c0_0 := by kernel_rfl
    c1_0 := by kernel_rfl
    c1_1 := by kernel_rfl
    c1_2 := by kernel_rfl
    c1_3 := by kernel_rfl
    c1_4 := by kernel_rfl
    c1_5 := by kernel_rfl
    c1_6 := by kernel_rfl
    c2_0 := by kernel_rfl
    c2_1 := by kernel_rfl
    c2_2 := by kernel_rfl
    c2_3 := by kernel_rfl
    c2_4 := by kernel_rfl
    c2_5 := by kernel_rfl
    c3_0 := by kernel_rfl
    c4_0 := by kernel_rfl
    c4_1 := by kernel_rfl
    c4_2 := by kernel_rfl
    c5_0 := by kernel_rfl
    c5_1 := by kernel_rfl
    c5_2 := by kernel_rfl
    c5_3 := by kernel_rfl
    c5_4 := by kernel_rfl
    c6_0 := by kernel_rfl
    c6_1 := by kernel_rfl
    c6_2 := by kernel_rfl
    c7_0 := by kernel_rfl
    c7_1 := by kernel_rfl
    c7_2 := by kernel_rfl
    c7_3 := by kernel_rfl
    g7_4 := rfl, d7_4 := rfl, p7_4 := rfl
    g8_0 := rfl, d8_0 := rfl, p8_0 := rfl
    c8_1 := by kernel_rfl
    g9_0 := rfl, d9_0 := rfl, p9_0 := rfl
    c9_1 := by kernel_rfl
    c9_2 := by kernel_rfl
    c9_3 := by kernel_rfl
    c9_4 := by kernel_rfl
    c10_0 := by kernel_rfl
    c10_1 := by kernel_rfl
    c10_2 := by kernel_rfl
    c10_3 := by kernel_rfl
    c10_4 := by kernel_rfl
    c11_0 := by kernel_rfl
    c11_1 := by kernel_rfl
    c11_2 := by kernel_rfl
    c11_3 := by kernel_rfl
    c12_0 := by kernel_rfl
    c12_1 := by kernel_rfl
    c12_2 := by kernel_rfl
    c12_3 := by kernel_rfl
    c12_4 := by kernel_rfl
    c12_5 := by kernel_rfl
    c12_6 := by kernel_rfl
    c12_7 := by kernel_rfl
    c12_8 := by kernel_rfl
    c12_9 := by kernel_rfl
    c13_0 := by kernel_rfl
    c13_1 := by kernel_rfl
    c14_0 := by kernel_rfl
    c14_1 := by kernel_rfl
  }
end Go.Proofs.Ytegkhdflmboljaa.Sx
