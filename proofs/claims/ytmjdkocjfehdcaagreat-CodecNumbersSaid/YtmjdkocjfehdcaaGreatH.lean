/- THE SEAT's FUNCTIONS AS DEFINITIONS WITHOUT REGISTERS, printed by program; 'eq..' holds each against the abstract machine's code. -/
import Derived.Test.YtmjdkocjfehdcaaGreatG
import Derived.Test.YtmjdkocjfehdcaaGreatSxM
namespace Go.Proofs.YtmjdkocjfehdcaaGreat.Sx
open Go
set_option maxRecDepth 1000000
set_option linter.unusedVariables false
set_option linter.unusedSimpArgs false

/-! ### function 3 -/
theorem w3 : wfK cf3.nt cf3.body = true := by kernel_rfl
def k3_5 (call : CallT) (nl lo : Nat) : Rg → MM → Option (AV × MM) := (execC call modeF lo nl p3_10 (endK cf3.res) noE (endK cf3.res))
@[reducible] def b3_5 (call : CallT) (nl lo : Nat) (x5 x6 x7 : AV) (M : MM) : Option (AV × MM) :=
  opt (lenA x5) fun v2 =>
  opt (binA .eql .none v2 x6) fun v4 =>
  opt (gdp v4 true (some x5)) fun v6 =>
  opt (gdp v4 true (puA call (lk M) 5 [v6])) fun v7 =>
  opt (gdp v4 true (some x7)) fun v8 =>
  opt (gdp v4 true (binA .eql .none v7 v8)) fun v9 =>
  opt (pickA v4 v9 (.bool false)) fun v10 =>
  opt (gdp v10 true (some x5)) fun v12 =>
  bnd (gd v10 true M (istep call modeF false lo (.top M.nx) M.nx (.wapp 1 1 (.k (.d (.sl [] 0))) (.k v12)) [] M)) fun v13 M14 =>
  bnd (gd v10 true M14 (istep call modeF false lo (.top M14.nx) M14.nx (.wext 1 1 [.int .u8 0] (.k v13) (.k (.i 9))) [] M14)) fun v15 M16 =>
  opt (gdp v10 true (puA call (lk M16) 5 [v15])) fun v17 =>
  opt (gdp v10 true (some x7)) fun v18 =>
  opt (gdp v10 true (binA .eql .none v17 v18)) fun v19 =>
  opt (pickA v10 v19 (.bool false)) fun v20 =>
  opt (gdp v20 true (puA call (lk M16) 6 [])) fun v22 =>
  opt (pickA v20 v22 (.bool false)) fun v23 =>
  some (v23, M16)
theorem t3_5 (call : CallT) (nl lo : Nat) (ρ : Rg) (M : MM) : k3_5 call nl lo ρ M = b3_5 call nl lo (ρ 5) (ρ 6) (ρ 7) M := by
  kernel_rfl
def k3_6 (call : CallT) (nl lo : Nat) : Rg → MM → Option (AV × MM) := (execC call modeF lo nl p3_8 (k3_5 call nl lo) noE (endK cf3.res))
@[reducible] def b3_6 (call : CallT) (nl lo : Nat) (x0 x5 x6 x7 : AV) (M : MM) : Option (AV × MM) :=
  opt (binA .lss .none x6 (.i 8)) fun v26 =>
  isB v26 fun c27 => if c27 then (opt (binA .mul .none (.i 8) x6) fun v30 =>
  opt (cviA .u64 v30) fun v31 =>
  opt (binA .shl .none (.int .u64 1) v31) fun v32 =>
  opt (binA .sub .none v32 (.int .u64 1)) fun v33 =>
  opt (binA .and .none x0 v33) fun v34 =>
  b3_5 call nl lo x5 x6 v34 M)
  else (b3_5 call nl lo x5 x6 x7 M)
theorem t3_6 (call : CallT) (nl lo : Nat) (ρ : Rg) (M : MM) : k3_6 call nl lo ρ M = b3_6 call nl lo (ρ 0) (ρ 5) (ρ 6) (ρ 7) M := by
  have h : ∀ (z0 : Rg → MM → Option (AV × MM)), (execC call modeF lo nl p3_8 z0 noE (endK cf3.res)) ρ M = (opt (binA .lss .none (ρ 6) (.i 8)) fun v26 =>
  isB v26 fun c27 => if c27 then (opt (binA .mul .none (.i 8) (ρ 6)) fun v30 =>
  opt (cviA .u64 v30) fun v31 =>
  opt (binA .shl .none (.int .u64 1) v31) fun v32 =>
  opt (binA .sub .none v32 (.int .u64 1)) fun v33 =>
  opt (binA .and .none (ρ 0) v33) fun v34 =>
  z0 (sF (sF (sF (sF (sF (sF (sF (sF (sF (sF ρ 15 (ρ 6)) 16 v26) 17 (ρ 0)) 18 (ρ 6)) 19 v30) 20 v31) 21 v32) 22 v33) 23 v34) 7 v34) M)
  else (z0 (sF (sF ρ 15 (ρ 6)) 16 v26) M)) := by intros; kernel_rfl
  refine (h (k3_5 call nl lo)).trans ?_
  unfold b3_6; simp only [(t3_5 call nl lo)] <;> (show _ = _; kernel_rfl)
def k3_4 (call : CallT) (nl lo : Nat) : Rg → MM → Option (AV × MM) := (execC call modeF lo nl p3_11 (endK cf3.res) noE (endK cf3.res))
@[reducible] def b3_4 (call : CallT) (nl lo : Nat) (x0 x5 x6 x7 : AV) (M : MM) : Option (AV × MM) :=
  b3_6 call nl lo x0 x5 x6 x7 M
theorem t3_4 (call : CallT) (nl lo : Nat) (ρ : Rg) (M : MM) : k3_4 call nl lo ρ M = b3_4 call nl lo (ρ 0) (ρ 5) (ρ 6) (ρ 7) M := by
  have h : k3_4 call nl lo ρ M = (k3_6 call nl lo ρ M) := execC_seq call modeF lo nl p3_8 p3_10 (endK cf3.res) noE (endK cf3.res) ρ M
  rw [h]
  unfold b3_4; simp only [(t3_6 call nl lo)] <;> (show _ = _; kernel_rfl)
def k3_7 (call : CallT) (nl lo : Nat) : Rg → MM → Option (AV × MM) := (execC call modeF lo nl p3_4 (k3_4 call nl lo) noE (endK cf3.res))
@[reducible] def b3_7 (call : CallT) (nl lo : Nat) (x0 x5 x6 : AV) (M : MM) : Option (AV × MM) :=
  b3_4 call nl lo x0 x5 x6 x0 M
theorem t3_7 (call : CallT) (nl lo : Nat) (ρ : Rg) (M : MM) : k3_7 call nl lo ρ M = b3_7 call nl lo (ρ 0) (ρ 5) (ρ 6) M := by
  have h : ∀ (z0 : Rg → MM → Option (AV × MM)), (execC call modeF lo nl p3_4 z0 noE (endK cf3.res)) ρ M = (z0 (sF (sF ρ 14 (ρ 0)) 7 (ρ 0)) M) := by intros; kernel_rfl
  refine (h (k3_4 call nl lo)).trans ?_
  unfold b3_7; simp only [(t3_4 call nl lo)] <;> (show _ = _; kernel_rfl)
def k3_3 (call : CallT) (nl lo : Nat) : Rg → MM → Option (AV × MM) := (execC call modeF lo nl p3_12 (endK cf3.res) noE (endK cf3.res))
@[reducible] def b3_3 (call : CallT) (nl lo : Nat) (x0 x5 x6 : AV) (M : MM) : Option (AV × MM) :=
  b3_7 call nl lo x0 x5 x6 M
theorem t3_3 (call : CallT) (nl lo : Nat) (ρ : Rg) (M : MM) : k3_3 call nl lo ρ M = b3_3 call nl lo (ρ 0) (ρ 5) (ρ 6) M := by
  have h : k3_3 call nl lo ρ M = (k3_7 call nl lo ρ M) := execC_seq call modeF lo nl p3_4 p3_11 (endK cf3.res) noE (endK cf3.res) ρ M
  rw [h]
  unfold b3_3; simp only [(t3_7 call nl lo)] <;> (show _ = _; kernel_rfl)
def k3_8 (call : CallT) (nl lo : Nat) : Rg → MM → Option (AV × MM) := (execC call modeF lo nl p3_3 (k3_3 call nl lo) noE (endK cf3.res))
@[reducible] def b3_8 (call : CallT) (nl lo : Nat) (x0 x1 x5 : AV) (M : MM) : Option (AV × MM) :=
  opt (mmaxA false x1 (.i 8)) fun v2 =>
  opt (mmaxA true (.i 0) v2) fun v3 =>
  b3_3 call nl lo x0 x5 v3 M
theorem t3_8 (call : CallT) (nl lo : Nat) (ρ : Rg) (M : MM) : k3_8 call nl lo ρ M = b3_8 call nl lo (ρ 0) (ρ 1) (ρ 5) M := by
  have h : ∀ (z0 : Rg → MM → Option (AV × MM)), (execC call modeF lo nl p3_3 z0 noE (endK cf3.res)) ρ M = (opt (mmaxA false (ρ 1) (.i 8)) fun v2 =>
  opt (mmaxA true (.i 0) v2) fun v3 =>
  z0 (sF (sF (sF (sF ρ 11 (ρ 1)) 12 v2) 13 v3) 6 v3) M) := by intros; kernel_rfl
  refine (h (k3_3 call nl lo)).trans ?_
  unfold b3_8; simp only [(t3_3 call nl lo)] <;> (show _ = _; kernel_rfl)
def k3_2 (call : CallT) (nl lo : Nat) : Rg → MM → Option (AV × MM) := (execC call modeF lo nl p3_13 (endK cf3.res) noE (endK cf3.res))
@[reducible] def b3_2 (call : CallT) (nl lo : Nat) (x0 x1 x5 : AV) (M : MM) : Option (AV × MM) :=
  b3_8 call nl lo x0 x1 x5 M
theorem t3_2 (call : CallT) (nl lo : Nat) (ρ : Rg) (M : MM) : k3_2 call nl lo ρ M = b3_2 call nl lo (ρ 0) (ρ 1) (ρ 5) M := by
  have h : k3_2 call nl lo ρ M = (k3_8 call nl lo ρ M) := execC_seq call modeF lo nl p3_3 p3_12 (endK cf3.res) noE (endK cf3.res) ρ M
  rw [h]
  unfold b3_2; simp only [(t3_8 call nl lo)] <;> (show _ = _; kernel_rfl)
def k3_9 (call : CallT) (nl lo : Nat) : Rg → MM → Option (AV × MM) := (execC call modeF lo nl p3_2 (k3_2 call nl lo) noE (endK cf3.res))
@[reducible] def b3_9 (call : CallT) (nl lo : Nat) (x0 x1 : AV) (M : MM) : Option (AV × MM) :=
  opt (puA call (lk M) 4 [x0, x1]) fun v3 =>
  b3_2 call nl lo x0 x1 v3 M
theorem t3_9 (call : CallT) (nl lo : Nat) (ρ : Rg) (M : MM) : k3_9 call nl lo ρ M = b3_9 call nl lo (ρ 0) (ρ 1) M := by
  have h : ∀ (z0 : Rg → MM → Option (AV × MM)), (execC call modeF lo nl p3_2 z0 noE (endK cf3.res)) ρ M = (opt (puA call (lk M) 4 [(ρ 0), (ρ 1)]) fun v3 =>
  z0 (sF (sF (sF (sF ρ 8 (ρ 0)) 9 (ρ 1)) 10 v3) 5 v3) M) := by intros; kernel_rfl
  refine (h (k3_2 call nl lo)).trans ?_
  unfold b3_9; simp only [(t3_2 call nl lo)] <;> (show _ = _; kernel_rfl)
def k3_1 (call : CallT) (nl lo : Nat) : Rg → MM → Option (AV × MM) := (execC call modeF lo nl p3_14 (endK cf3.res) noE (endK cf3.res))
@[reducible] def b3_1 (call : CallT) (nl lo : Nat) (x0 x1 : AV) (M : MM) : Option (AV × MM) :=
  b3_9 call nl lo x0 x1 M
theorem t3_1 (call : CallT) (nl lo : Nat) (ρ : Rg) (M : MM) : k3_1 call nl lo ρ M = b3_1 call nl lo (ρ 0) (ρ 1) M := by
  have h : k3_1 call nl lo ρ M = (k3_9 call nl lo ρ M) := execC_seq call modeF lo nl p3_2 p3_13 (endK cf3.res) noE (endK cf3.res) ρ M
  rw [h]
  unfold b3_1; simp only [(t3_9 call nl lo)] <;> (show _ = _; kernel_rfl)
def k3_10 (call : CallT) (nl lo : Nat) : Rg → MM → Option (AV × MM) := (execC call modeF lo nl p3_1 (k3_1 call nl lo) noE (endK cf3.res))
@[reducible] def b3_10 (call : CallT) (nl lo : Nat) (x0 x1 : AV) (M : MM) : Option (AV × MM) :=
  b3_1 call nl lo x0 x1 M
theorem t3_10 (call : CallT) (nl lo : Nat) (ρ : Rg) (M : MM) : k3_10 call nl lo ρ M = b3_10 call nl lo (ρ 0) (ρ 1) M := by
  have h : ∀ (z0 : Rg → MM → Option (AV × MM)), (execC call modeF lo nl p3_1 z0 noE (endK cf3.res)) ρ M = (z0 (sF ρ 4 (.bool false)) M) := by intros; kernel_rfl
  refine (h (k3_1 call nl lo)).trans ?_
  unfold b3_10; simp only [(t3_1 call nl lo)] <;> (show _ = _; kernel_rfl)
def k3_0 (call : CallT) (nl lo : Nat) : Rg → MM → Option (AV × MM) := (execC call modeF lo nl p3_15 (endK cf3.res) noE (endK cf3.res))
@[reducible] def b3_0 (call : CallT) (nl lo : Nat) (x0 x1 : AV) (M : MM) : Option (AV × MM) :=
  b3_10 call nl lo x0 x1 M
theorem t3_0 (call : CallT) (nl lo : Nat) (ρ : Rg) (M : MM) : k3_0 call nl lo ρ M = b3_0 call nl lo (ρ 0) (ρ 1) M := by
  have h : k3_0 call nl lo ρ M = (k3_10 call nl lo ρ M) := execC_seq call modeF lo nl p3_1 p3_14 (endK cf3.res) noE (endK cf3.res) ρ M
  rw [h]
  unfold b3_0; simp only [(t3_10 call nl lo)] <;> (show _ = _; kernel_rfl)
def k3_11 (call : CallT) (nl lo : Nat) : Rg → MM → Option (AV × MM) := (execC call modeF lo nl p3_0 (k3_0 call nl lo) noE (endK cf3.res))
@[reducible] def b3_11 (call : CallT) (nl lo : Nat) (x0 x1 : AV) (M : MM) : Option (AV × MM) :=
  b3_0 call nl lo x0 x1 M
theorem t3_11 (call : CallT) (nl lo : Nat) (ρ : Rg) (M : MM) : k3_11 call nl lo ρ M = b3_11 call nl lo (ρ 0) (ρ 1) M := by
  have h : ∀ (z0 : Rg → MM → Option (AV × MM)), (execC call modeF lo nl p3_0 z0 noE (endK cf3.res)) ρ M = (z0 ρ M) := by intros; kernel_rfl
  refine (h (k3_0 call nl lo)).trans ?_
  unfold b3_11; simp only [(t3_0 call nl lo)] <;> (show _ = _; kernel_rfl)
def s3 (call : CallT) (nl lo : Nat) (a0 a1 : AV) (M : MM) : Option (AV × MM) :=
  b3_11 call nl lo a0 a1 M
theorem e3 (call : CallT) (nl lo : Nat) (a0 a1 : AV) (M : MM) : execC call modeF lo nl cf3.body (endK cf3.res) noE (endK cf3.res) (aF [a0, a1]) M = s3 call nl lo a0 a1 M := by
  have h : execC call modeF lo nl cf3.body (endK cf3.res) noE (endK cf3.res) (aF [a0, a1]) M = (k3_11 call nl lo (aF [a0, a1]) M) := execC_seq call modeF lo nl p3_0 p3_15 (endK cf3.res) noE (endK cf3.res) (aF [a0, a1]) M
  refine h.trans ?_
  unfold s3; simp only [(t3_11 call nl lo)] <;> (show _ = _; kernel_rfl)
theorem q3 {call : CallT} (hc : Lim G call) (lo : Nat) (a0 a1 : AV) (M : MM) : call 3 [a0, a1] lo M = s3 call G.nl lo a0 a1 M :=
  (hc.flow (cf := cf3) rfl w3 [a0, a1] lo M).trans (e3 call G.nl lo a0 a1 M)

/-! ### function 4 -/
theorem w4 : wfK cf4.nt cf4.body = true := by kernel_rfl
def k4_3 (call : CallT) (nl lo : Nat) : Rg → MM → Option (AV × MM) := (execC call modeF lo nl p4_18 (endK cf4.res) noE (endK cf4.res))
@[reducible] def b4_3 (call : CallT) (nl lo : Nat) (x5 : AV) (M : MM) : Option (AV × MM) :=
  some (x5, M)
theorem t4_3 (call : CallT) (nl lo : Nat) (ρ : Rg) (M : MM) : k4_3 call nl lo ρ M = b4_3 call nl lo (ρ 5) M := by
  kernel_rfl
def k4_5 (call : CallT) (nl lo : Nat) (n : Nat) : Rg → MM → Option (AV × MM) := iterC (fun k ρ M => execC call modeF lo nl p4_13 k (fun i ρ M => if i = 0 then (k4_3 call nl lo) ρ M else noE i ρ M) (endK cf4.res) ρ M) n
def b4_5 (call : CallT) (nl lo : Nat) : Nat → AV → AV → AV → AV → MM → Option (AV × MM)
  | 0, _, _, _, _, _ => none
  | n + 1, x0, x5, x12, x13, M =>
  opt (binA .lss .none x13 x12) fun v6 =>
  isB v6 fun c7 => if c7 then (opt (binA .mul .none (.i 8) x13) fun v14 =>
  opt (binA .shr .none x0 v14) fun v15 =>
  opt (cviA .u8 v15) fun v16 =>
  opt (ixsA 1 x5 x13) fun v17 =>
  bnd (istep call modeF false lo (.top M.nx) M.nx (.st 1 (.k v17) (.k v16)) [] M) fun v18 M19 =>
  opt (binA .add .none x13 (.i 1)) fun v20 =>
  (b4_5 call nl lo n) x0 x5 x12 v20 M19)
  else (b4_3 call nl lo x5 M)
theorem t4_5 (call : CallT) (nl lo : Nat) : ∀ (n : Nat) (ρ : Rg) (M : MM), k4_5 call nl lo n ρ M = b4_5 call nl lo n (ρ 0) (ρ 5) (ρ 12) (ρ 13) M
  | 0, ρ, M => rfl
  | n + 1, ρ, M => by
    have h : ∀ (zb z0 : Rg → MM → Option (AV × MM)), execC call modeF lo nl p4_13 zb (fun i ρ M => if i = 0 then z0 ρ M else noE i ρ M) (endK cf4.res) ρ M = (opt (binA .lss .none (ρ 13) (ρ 12)) fun v6 =>
    isB v6 fun c7 => if c7 then (opt (binA .mul .none (.i 8) (ρ 13)) fun v14 =>
    opt (binA .shr .none (ρ 0) v14) fun v15 =>
    opt (cviA .u8 v15) fun v16 =>
    opt (ixsA 1 (ρ 5) (ρ 13)) fun v17 =>
    bnd (istep call modeF false lo (.top M.nx) M.nx (.st 1 (.k v17) (.k v16)) [] M) fun v18 M19 =>
    opt (binA .add .none (ρ 13) (.i 1)) fun v20 =>
    zb (sF (sF (sF (sF (sF (sF (sF (sF (sF (sF (sF (sF (sF ρ 14 v6) 15 (ρ 13)) 6 (ρ 13)) 16 (ρ 5)) 17 (ρ 13)) 18 (ρ 0)) 19 (ρ 13)) 20 v14) 21 v15) 22 v16) 23 v17) 24 v20) 13 v20) M19)
    else (z0 (sF ρ 14 v6) M)) := by intros; kernel_rfl
    refine (h (k4_5 call nl lo n) (k4_3 call nl lo)).trans ?_
    unfold b4_5; simp only [(t4_3 call nl lo), (t4_5 call nl lo n)] <;> (show _ = _; kernel_rfl)
def k4_4 (call : CallT) (nl lo : Nat) : Rg → MM → Option (AV × MM) := (execC call modeF lo nl p4_16 (k4_3 call nl lo) noE (endK cf4.res))
@[reducible] def b4_4 (call : CallT) (nl lo : Nat) (x0 x5 : AV) (M : MM) : Option (AV × MM) :=
  opt (lenA x5) fun v4 =>
  b4_5 call nl lo nl x0 x5 v4 (.i 0) M
theorem t4_4 (call : CallT) (nl lo : Nat) (ρ : Rg) (M : MM) : k4_4 call nl lo ρ M = b4_4 call nl lo (ρ 0) (ρ 5) M := by
  have h : k4_4 call nl lo ρ M = (opt (lenA (ρ 5)) fun v4 =>
  k4_5 call nl lo nl (sF (sF (sF ρ 11 (ρ 5)) 12 v4) 13 (.i 0)) M) := by kernel_rfl
  rw [h]
  unfold b4_4; simp only [(t4_5 call nl lo nl)] <;> (show _ = _; kernel_rfl)
def k4_2 (call : CallT) (nl lo : Nat) : Rg → MM → Option (AV × MM) := (execC call modeF lo nl p4_19 (endK cf4.res) noE (endK cf4.res))
@[reducible] def b4_2 (call : CallT) (nl lo : Nat) (x0 x5 : AV) (M : MM) : Option (AV × MM) :=
  b4_4 call nl lo x0 x5 M
theorem t4_2 (call : CallT) (nl lo : Nat) (ρ : Rg) (M : MM) : k4_2 call nl lo ρ M = b4_2 call nl lo (ρ 0) (ρ 5) M := by
  have h : k4_2 call nl lo ρ M = (k4_4 call nl lo ρ M) := execC_seq call modeF lo nl p4_16 p4_18 (endK cf4.res) noE (endK cf4.res) ρ M
  rw [h]
  unfold b4_2; simp only [(t4_4 call nl lo)] <;> (show _ = _; kernel_rfl)
def k4_6 (call : CallT) (nl lo : Nat) : Rg → MM → Option (AV × MM) := (execC call modeF lo nl p4_2 (k4_2 call nl lo) noE (endK cf4.res))
@[reducible] def b4_6 (call : CallT) (nl lo : Nat) (x0 x1 : AV) (M : MM) : Option (AV × MM) :=
  opt (mmaxA false x1 (.i 8)) fun v2 =>
  opt (mmaxA true (.i 0) v2) fun v3 =>
  bnd (istep call modeF false lo (.top M.nx) M.nx (.mkslice 5 1 1 [.int .u8 0] (.k v3) (.k v3)) [] M) fun v4 M5 =>
  b4_2 call nl lo x0 v4 M5
theorem t4_6 (call : CallT) (nl lo : Nat) (ρ : Rg) (M : MM) : k4_6 call nl lo ρ M = b4_6 call nl lo (ρ 0) (ρ 1) M := by
  have h : ∀ (z0 : Rg → MM → Option (AV × MM)), (execC call modeF lo nl p4_2 z0 noE (endK cf4.res)) ρ M = (opt (mmaxA false (ρ 1) (.i 8)) fun v2 =>
  opt (mmaxA true (.i 0) v2) fun v3 =>
  bnd (istep call modeF false lo (.top M.nx) M.nx (.mkslice 5 1 1 [.int .u8 0] (.k v3) (.k v3)) [] M) fun v4 M5 =>
  z0 (sF (sF (sF (sF (sF ρ 7 (ρ 1)) 8 v2) 9 v3) 10 v4) 5 v4) M5) := by intros; kernel_rfl
  refine (h (k4_2 call nl lo)).trans ?_
  unfold b4_6; simp only [(t4_2 call nl lo)] <;> (show _ = _; kernel_rfl)
def k4_1 (call : CallT) (nl lo : Nat) : Rg → MM → Option (AV × MM) := (execC call modeF lo nl p4_20 (endK cf4.res) noE (endK cf4.res))
@[reducible] def b4_1 (call : CallT) (nl lo : Nat) (x0 x1 : AV) (M : MM) : Option (AV × MM) :=
  b4_6 call nl lo x0 x1 M
theorem t4_1 (call : CallT) (nl lo : Nat) (ρ : Rg) (M : MM) : k4_1 call nl lo ρ M = b4_1 call nl lo (ρ 0) (ρ 1) M := by
  have h : k4_1 call nl lo ρ M = (k4_6 call nl lo ρ M) := execC_seq call modeF lo nl p4_2 p4_19 (endK cf4.res) noE (endK cf4.res) ρ M
  rw [h]
  unfold b4_1; simp only [(t4_6 call nl lo)] <;> (show _ = _; kernel_rfl)
def k4_7 (call : CallT) (nl lo : Nat) : Rg → MM → Option (AV × MM) := (execC call modeF lo nl p4_1 (k4_1 call nl lo) noE (endK cf4.res))
@[reducible] def b4_7 (call : CallT) (nl lo : Nat) (x0 x1 : AV) (M : MM) : Option (AV × MM) :=
  b4_1 call nl lo x0 x1 M
theorem t4_7 (call : CallT) (nl lo : Nat) (ρ : Rg) (M : MM) : k4_7 call nl lo ρ M = b4_7 call nl lo (ρ 0) (ρ 1) M := by
  have h : ∀ (z0 : Rg → MM → Option (AV × MM)), (execC call modeF lo nl p4_1 z0 noE (endK cf4.res)) ρ M = (z0 (sF ρ 4 (.d (.sl [] 0))) M) := by intros; kernel_rfl
  refine (h (k4_1 call nl lo)).trans ?_
  unfold b4_7; simp only [(t4_1 call nl lo)] <;> (show _ = _; kernel_rfl)
def k4_0 (call : CallT) (nl lo : Nat) : Rg → MM → Option (AV × MM) := (execC call modeF lo nl p4_21 (endK cf4.res) noE (endK cf4.res))
@[reducible] def b4_0 (call : CallT) (nl lo : Nat) (x0 x1 : AV) (M : MM) : Option (AV × MM) :=
  b4_7 call nl lo x0 x1 M
theorem t4_0 (call : CallT) (nl lo : Nat) (ρ : Rg) (M : MM) : k4_0 call nl lo ρ M = b4_0 call nl lo (ρ 0) (ρ 1) M := by
  have h : k4_0 call nl lo ρ M = (k4_7 call nl lo ρ M) := execC_seq call modeF lo nl p4_1 p4_20 (endK cf4.res) noE (endK cf4.res) ρ M
  rw [h]
  unfold b4_0; simp only [(t4_7 call nl lo)] <;> (show _ = _; kernel_rfl)
def k4_8 (call : CallT) (nl lo : Nat) : Rg → MM → Option (AV × MM) := (execC call modeF lo nl p4_0 (k4_0 call nl lo) noE (endK cf4.res))
@[reducible] def b4_8 (call : CallT) (nl lo : Nat) (x0 x1 : AV) (M : MM) : Option (AV × MM) :=
  b4_0 call nl lo x0 x1 M
theorem t4_8 (call : CallT) (nl lo : Nat) (ρ : Rg) (M : MM) : k4_8 call nl lo ρ M = b4_8 call nl lo (ρ 0) (ρ 1) M := by
  have h : ∀ (z0 : Rg → MM → Option (AV × MM)), (execC call modeF lo nl p4_0 z0 noE (endK cf4.res)) ρ M = (z0 ρ M) := by intros; kernel_rfl
  refine (h (k4_0 call nl lo)).trans ?_
  unfold b4_8; simp only [(t4_0 call nl lo)] <;> (show _ = _; kernel_rfl)
def s4 (call : CallT) (nl lo : Nat) (a0 a1 : AV) (M : MM) : Option (AV × MM) :=
  b4_8 call nl lo a0 a1 M
theorem e4 (call : CallT) (nl lo : Nat) (a0 a1 : AV) (M : MM) : execC call modeF lo nl cf4.body (endK cf4.res) noE (endK cf4.res) (aF [a0, a1]) M = s4 call nl lo a0 a1 M := by
  have h : execC call modeF lo nl cf4.body (endK cf4.res) noE (endK cf4.res) (aF [a0, a1]) M = (k4_8 call nl lo (aF [a0, a1]) M) := execC_seq call modeF lo nl p4_0 p4_21 (endK cf4.res) noE (endK cf4.res) (aF [a0, a1]) M
  refine h.trans ?_
  unfold s4; simp only [(t4_8 call nl lo)] <;> (show _ = _; kernel_rfl)
theorem q4 {call : CallT} (hc : Lim G call) (lo : Nat) (a0 a1 : AV) (M : MM) : call 4 [a0, a1] lo M = s4 call G.nl lo a0 a1 M :=
  (hc.flow (cf := cf4) rfl w4 [a0, a1] lo M).trans (e4 call G.nl lo a0 a1 M)

/-! ### function 5 -/
theorem w5 : wfK cf5.nt cf5.body = true := by kernel_rfl
def k5_3 (call : CallT) (nl lo : Nat) : Rg → MM → Option (AV × MM) := (execC call modeF lo nl p5_18 (endK cf5.res) noE (endK cf5.res))
@[reducible] def b5_3 (call : CallT) (nl lo : Nat) (x3 : AV) (M : MM) : Option (AV × MM) :=
  some (x3, M)
theorem t5_3 (call : CallT) (nl lo : Nat) (ρ : Rg) (M : MM) : k5_3 call nl lo ρ M = b5_3 call nl lo (ρ 3) M := by
  kernel_rfl
def k5_5 (call : CallT) (nl lo : Nat) (n : Nat) : Rg → MM → Option (AV × MM) := iterC (fun k ρ M => execC call modeF lo nl p5_13 k (fun i ρ M => if i = 0 then (k5_3 call nl lo) ρ M else noE i ρ M) (endK cf5.res) ρ M) n
def b5_5 (call : CallT) (nl lo : Nat) : Nat → AV → AV → AV → AV → MM → Option (AV × MM)
  | 0, _, _, _, _, _ => none
  | n + 1, x0, x3, x7, x8, M =>
  opt (binA .lss .none x8 x7) fun v7 =>
  isB v7 fun c8 => if c8 then (opt (ixsA 1 x0 x8) fun v14 =>
  opt (ld1A (lk M) v14) fun v15 =>
  opt (cviA .u64 v15) fun v16 =>
  opt (binA .mul .none (.i 8) x8) fun v18 =>
  opt (binA .shl .none v16 v18) fun v19 =>
  opt (binA .or .none x3 v19) fun v20 =>
  opt (binA .add .none x8 (.i 1)) fun v22 =>
  (b5_5 call nl lo n) x0 v20 x7 v22 M)
  else (b5_3 call nl lo x3 M)
theorem t5_5 (call : CallT) (nl lo : Nat) : ∀ (n : Nat) (ρ : Rg) (M : MM), k5_5 call nl lo n ρ M = b5_5 call nl lo n (ρ 0) (ρ 3) (ρ 7) (ρ 8) M
  | 0, ρ, M => rfl
  | n + 1, ρ, M => by
    have h : ∀ (zb z0 : Rg → MM → Option (AV × MM)), execC call modeF lo nl p5_13 zb (fun i ρ M => if i = 0 then z0 ρ M else noE i ρ M) (endK cf5.res) ρ M = (opt (binA .lss .none (ρ 8) (ρ 7)) fun v7 =>
    isB v7 fun c8 => if c8 then (opt (ixsA 1 (ρ 0) (ρ 8)) fun v14 =>
    opt (ld1A (lk M) v14) fun v15 =>
    opt (cviA .u64 v15) fun v16 =>
    opt (binA .mul .none (.i 8) (ρ 8)) fun v18 =>
    opt (binA .shl .none v16 v18) fun v19 =>
    opt (binA .or .none (ρ 3) v19) fun v20 =>
    opt (binA .add .none (ρ 8) (.i 1)) fun v22 =>
    zb (sF (sF (sF (sF (sF (sF (sF (sF (sF (sF (sF (sF (sF (sF (sF (sF ρ 9 v7) 10 (ρ 8)) 4 (ρ 8)) 11 (ρ 3)) 12 (ρ 0)) 13 (ρ 8)) 14 v14) 15 v15) 16 v16) 17 (ρ 8)) 18 v18) 19 v19) 20 v20) 3 v20) 21 v22) 8 v22) M)
    else (z0 (sF ρ 9 v7) M)) := by intros; kernel_rfl
    refine (h (k5_5 call nl lo n) (k5_3 call nl lo)).trans ?_
    unfold b5_5; simp only [(t5_3 call nl lo), (t5_5 call nl lo n)] <;> (show _ = _; kernel_rfl)
def k5_4 (call : CallT) (nl lo : Nat) : Rg → MM → Option (AV × MM) := (execC call modeF lo nl p5_16 (k5_3 call nl lo) noE (endK cf5.res))
@[reducible] def b5_4 (call : CallT) (nl lo : Nat) (x0 x3 : AV) (M : MM) : Option (AV × MM) :=
  opt (lenA x0) fun v4 =>
  opt (mmaxA false v4 (.i 8)) fun v5 =>
  b5_5 call nl lo nl x0 x3 v5 (.i 0) M
theorem t5_4 (call : CallT) (nl lo : Nat) (ρ : Rg) (M : MM) : k5_4 call nl lo ρ M = b5_4 call nl lo (ρ 0) (ρ 3) M := by
  have h : k5_4 call nl lo ρ M = (opt (lenA (ρ 0)) fun v4 =>
  opt (mmaxA false v4 (.i 8)) fun v5 =>
  k5_5 call nl lo nl (sF (sF (sF (sF ρ 5 (ρ 0)) 6 v4) 7 v5) 8 (.i 0)) M) := by kernel_rfl
  rw [h]
  unfold b5_4; simp only [(t5_5 call nl lo nl)] <;> (show _ = _; kernel_rfl)
def k5_2 (call : CallT) (nl lo : Nat) : Rg → MM → Option (AV × MM) := (execC call modeF lo nl p5_19 (endK cf5.res) noE (endK cf5.res))
@[reducible] def b5_2 (call : CallT) (nl lo : Nat) (x0 x3 : AV) (M : MM) : Option (AV × MM) :=
  b5_4 call nl lo x0 x3 M
theorem t5_2 (call : CallT) (nl lo : Nat) (ρ : Rg) (M : MM) : k5_2 call nl lo ρ M = b5_2 call nl lo (ρ 0) (ρ 3) M := by
  have h : k5_2 call nl lo ρ M = (k5_4 call nl lo ρ M) := execC_seq call modeF lo nl p5_16 p5_18 (endK cf5.res) noE (endK cf5.res) ρ M
  rw [h]
  unfold b5_2; simp only [(t5_4 call nl lo)] <;> (show _ = _; kernel_rfl)
def k5_6 (call : CallT) (nl lo : Nat) : Rg → MM → Option (AV × MM) := (execC call modeF lo nl p5_2 (k5_2 call nl lo) noE (endK cf5.res))
@[reducible] def b5_6 (call : CallT) (nl lo : Nat) (x0 : AV) (M : MM) : Option (AV × MM) :=
  b5_2 call nl lo x0 (.int .u64 0) M
theorem t5_6 (call : CallT) (nl lo : Nat) (ρ : Rg) (M : MM) : k5_6 call nl lo ρ M = b5_6 call nl lo (ρ 0) M := by
  have h : ∀ (z0 : Rg → MM → Option (AV × MM)), (execC call modeF lo nl p5_2 z0 noE (endK cf5.res)) ρ M = (z0 (sF ρ 3 (.int .u64 0)) M) := by intros; kernel_rfl
  refine (h (k5_2 call nl lo)).trans ?_
  unfold b5_6; simp only [(t5_2 call nl lo)] <;> (show _ = _; kernel_rfl)
def k5_1 (call : CallT) (nl lo : Nat) : Rg → MM → Option (AV × MM) := (execC call modeF lo nl p5_20 (endK cf5.res) noE (endK cf5.res))
@[reducible] def b5_1 (call : CallT) (nl lo : Nat) (x0 : AV) (M : MM) : Option (AV × MM) :=
  b5_6 call nl lo x0 M
theorem t5_1 (call : CallT) (nl lo : Nat) (ρ : Rg) (M : MM) : k5_1 call nl lo ρ M = b5_1 call nl lo (ρ 0) M := by
  have h : k5_1 call nl lo ρ M = (k5_6 call nl lo ρ M) := execC_seq call modeF lo nl p5_2 p5_19 (endK cf5.res) noE (endK cf5.res) ρ M
  rw [h]
  unfold b5_1; simp only [(t5_6 call nl lo)] <;> (show _ = _; kernel_rfl)
def k5_7 (call : CallT) (nl lo : Nat) : Rg → MM → Option (AV × MM) := (execC call modeF lo nl p5_1 (k5_1 call nl lo) noE (endK cf5.res))
@[reducible] def b5_7 (call : CallT) (nl lo : Nat) (x0 : AV) (M : MM) : Option (AV × MM) :=
  b5_1 call nl lo x0 M
theorem t5_7 (call : CallT) (nl lo : Nat) (ρ : Rg) (M : MM) : k5_7 call nl lo ρ M = b5_7 call nl lo (ρ 0) M := by
  have h : ∀ (z0 : Rg → MM → Option (AV × MM)), (execC call modeF lo nl p5_1 z0 noE (endK cf5.res)) ρ M = (z0 (sF ρ 2 (.int .u64 0)) M) := by intros; kernel_rfl
  refine (h (k5_1 call nl lo)).trans ?_
  unfold b5_7; simp only [(t5_1 call nl lo)] <;> (show _ = _; kernel_rfl)
def k5_0 (call : CallT) (nl lo : Nat) : Rg → MM → Option (AV × MM) := (execC call modeF lo nl p5_21 (endK cf5.res) noE (endK cf5.res))
@[reducible] def b5_0 (call : CallT) (nl lo : Nat) (x0 : AV) (M : MM) : Option (AV × MM) :=
  b5_7 call nl lo x0 M
theorem t5_0 (call : CallT) (nl lo : Nat) (ρ : Rg) (M : MM) : k5_0 call nl lo ρ M = b5_0 call nl lo (ρ 0) M := by
  have h : k5_0 call nl lo ρ M = (k5_7 call nl lo ρ M) := execC_seq call modeF lo nl p5_1 p5_20 (endK cf5.res) noE (endK cf5.res) ρ M
  rw [h]
  unfold b5_0; simp only [(t5_7 call nl lo)] <;> (show _ = _; kernel_rfl)
def k5_8 (call : CallT) (nl lo : Nat) : Rg → MM → Option (AV × MM) := (execC call modeF lo nl p5_0 (k5_0 call nl lo) noE (endK cf5.res))
@[reducible] def b5_8 (call : CallT) (nl lo : Nat) (x0 : AV) (M : MM) : Option (AV × MM) :=
  b5_0 call nl lo x0 M
theorem t5_8 (call : CallT) (nl lo : Nat) (ρ : Rg) (M : MM) : k5_8 call nl lo ρ M = b5_8 call nl lo (ρ 0) M := by
  have h : ∀ (z0 : Rg → MM → Option (AV × MM)), (execC call modeF lo nl p5_0 z0 noE (endK cf5.res)) ρ M = (z0 ρ M) := by intros; kernel_rfl
  refine (h (k5_0 call nl lo)).trans ?_
  unfold b5_8; simp only [(t5_0 call nl lo)] <;> (show _ = _; kernel_rfl)
def s5 (call : CallT) (nl lo : Nat) (a0 : AV) (M : MM) : Option (AV × MM) :=
  b5_8 call nl lo a0 M
theorem e5 (call : CallT) (nl lo : Nat) (a0 : AV) (M : MM) : execC call modeF lo nl cf5.body (endK cf5.res) noE (endK cf5.res) (aF [a0]) M = s5 call nl lo a0 M := by
  have h : execC call modeF lo nl cf5.body (endK cf5.res) noE (endK cf5.res) (aF [a0]) M = (k5_8 call nl lo (aF [a0]) M) := execC_seq call modeF lo nl p5_0 p5_21 (endK cf5.res) noE (endK cf5.res) (aF [a0]) M
  refine h.trans ?_
  unfold s5; simp only [(t5_8 call nl lo)] <;> (show _ = _; kernel_rfl)
theorem q5 {call : CallT} (hc : Lim G call) (lo : Nat) (a0 : AV) (M : MM) : call 5 [a0] lo M = s5 call G.nl lo a0 M :=
  (hc.flow (cf := cf5) rfl w5 [a0] lo M).trans (e5 call G.nl lo a0 M)
end Go.Proofs.YtmjdkocjfehdcaaGreat.Sx
