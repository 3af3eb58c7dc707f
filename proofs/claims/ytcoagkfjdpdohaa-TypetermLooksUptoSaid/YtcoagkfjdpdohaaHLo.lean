/- THE SEAT's FUNCTIONS AS DEFINITIONS WITHOUT REGISTERS, printed by program; 'eq..' holds each against the abstract machine's code. -/
import Derived.Test.YtcoagkfjdpdohaaH0Lo
namespace Go.Proofs.Ytcoagkfjdpdohaa.Sx
open Go
set_option maxRecDepth 1000000
set_option linter.unusedVariables false
set_option linter.unusedSimpArgs false

/-! ### function 63 -/
theorem w63 : wfK cf63.nt cf63.body = true := by kernel_rfl
def k63_3 (c : CallT) (nl lo : Nat) : Rg → MM → Option (AV × MM) := (execC c modeF lo nl p63_19 (endK cf63.res) noE (endK cf63.res))
@[reducible] def b63_3 (c : CallT) (nl lo : Nat) (x3 : AV) (M : MM) : Option (AV × MM) :=
 some (x3, M)
theorem t63_3 (c : CallT) (nl lo : Nat) (ρ : Rg) (M : MM) : k63_3 c nl lo ρ M = b63_3 c nl lo (ρ 3) M := by
 kernel_rfl
def k63_7 (c : CallT) (nl lo : Nat) (q63_5 : Rg → MM → Option (AV × MM)) : Rg → MM → Option (AV × MM) := (execC c modeF lo nl p63_12 q63_5 (fun i ρ M => if i = 0 then (k63_3 c nl lo) ρ M else noE i ρ M) (endK cf63.res))
@[reducible] def b63_7 (c : CallT) (nl lo : Nat) (j63_5 : AV → AV → AV → MM → Option (AV × MM)) (x0 x3 x4 : AV) (M : MM) : Option (AV × MM) :=
 opt (binA .add .none x4 (.i 1)) fun v5 =>
 j63_5 x0 x3 v5 M
theorem t63_7 (c : CallT) (nl lo : Nat) (q63_5 : Rg → MM → Option (AV × MM)) (j63_5 : AV → AV → AV → MM → Option (AV × MM)) (h63_5 : ∀ (ρ : Rg) (M : MM), q63_5 ρ M = j63_5 (ρ 0) (ρ 3) (ρ 4) M) (ρ : Rg) (M : MM) : k63_7 c nl lo q63_5 ρ M = b63_7 c nl lo j63_5 (ρ 0) (ρ 3) (ρ 4) M := by
 have h : k63_7 c nl lo q63_5 ρ M = (opt (binA .add .none (ρ 4) (.i 1)) fun v5 =>
 q63_5 (sF (sF (sF ρ 9 (ρ 4)) 10 v5) 4 v5) M) := by kernel_rfl
 rw [h]
 unfold b63_7; simp only [h63_5] <;> (show _ = _; kernel_rfl)
def k63_8 (c : CallT) (nl lo : Nat) (q63_5 : Rg → MM → Option (AV × MM)) : Rg → MM → Option (AV × MM) := (execC c modeF lo nl p63_11 (k63_7 c nl lo q63_5) (fun i ρ M => if i = 0 then (k63_3 c nl lo) ρ M else noE i ρ M) (endK cf63.res))
@[reducible] def b63_8 (c : CallT) (nl lo : Nat) (j63_5 : AV → AV → AV → MM → Option (AV × MM)) (x0 x3 x4 : AV) (M : MM) : Option (AV × MM) :=
 opt (ixcA x0 x4) fun v9 =>
 opt (binA .eql .none v9 (.int .u8 46)) fun v10 =>
 isB v10 fun c11 => if c11 then (opt (binA .add .none x3 (.i 1)) fun v13 =>
 b63_7 c nl lo j63_5 x0 v13 x4 M)
 else (b63_7 c nl lo j63_5 x0 x3 x4 M)
theorem t63_8 (c : CallT) (nl lo : Nat) (q63_5 : Rg → MM → Option (AV × MM)) (j63_5 : AV → AV → AV → MM → Option (AV × MM)) (h63_5 : ∀ (ρ : Rg) (M : MM), q63_5 ρ M = j63_5 (ρ 0) (ρ 3) (ρ 4) M) (ρ : Rg) (M : MM) : k63_8 c nl lo q63_5 ρ M = b63_8 c nl lo j63_5 (ρ 0) (ρ 3) (ρ 4) M := by
 have h : ∀ (z0 : Rg → MM → Option (AV × MM)), (execC c modeF lo nl p63_11 z0 (fun i ρ M => if i = 0 then (k63_3 c nl lo) ρ M else noE i ρ M) (endK cf63.res)) ρ M = (opt (ixcA (ρ 0) (ρ 4)) fun v9 =>
 opt (binA .eql .none v9 (.int .u8 46)) fun v10 =>
 isB v10 fun c11 => if c11 then (opt (binA .add .none (ρ 3) (.i 1)) fun v13 =>
 z0 (sF (sF (sF (sF (sF (sF (sF ρ 11 (ρ 0)) 12 (ρ 4)) 13 v9) 14 v10) 15 (ρ 3)) 16 v13) 3 v13) M)
 else (z0 (sF (sF (sF (sF ρ 11 (ρ 0)) 12 (ρ 4)) 13 v9) 14 v10) M)) := by intros; kernel_rfl
 refine (h (k63_7 c nl lo q63_5)).trans ?_
 unfold b63_8; simp only [(t63_7 c nl lo q63_5 j63_5 h63_5), h63_5] <;> (show _ = _; kernel_rfl)
def k63_6 (c : CallT) (nl lo : Nat) (q63_5 : Rg → MM → Option (AV × MM)) : Rg → MM → Option (AV × MM) := (execC c modeF lo nl p63_13 q63_5 (fun i ρ M => if i = 0 then (k63_3 c nl lo) ρ M else noE i ρ M) (endK cf63.res))
@[reducible] def b63_6 (c : CallT) (nl lo : Nat) (j63_5 : AV → AV → AV → MM → Option (AV × MM)) (x0 x3 x4 : AV) (M : MM) : Option (AV × MM) :=
 b63_8 c nl lo j63_5 x0 x3 x4 M
theorem t63_6 (c : CallT) (nl lo : Nat) (q63_5 : Rg → MM → Option (AV × MM)) (j63_5 : AV → AV → AV → MM → Option (AV × MM)) (h63_5 : ∀ (ρ : Rg) (M : MM), q63_5 ρ M = j63_5 (ρ 0) (ρ 3) (ρ 4) M) (ρ : Rg) (M : MM) : k63_6 c nl lo q63_5 ρ M = b63_6 c nl lo j63_5 (ρ 0) (ρ 3) (ρ 4) M := by
 have h : k63_6 c nl lo q63_5 ρ M = (k63_8 c nl lo q63_5 ρ M) := execC_seq c modeF lo nl p63_11 p63_12 q63_5 (fun i ρ M => if i = 0 then (k63_3 c nl lo) ρ M else noE i ρ M) (endK cf63.res) ρ M
 rw [h]
 unfold b63_6; simp only [(t63_8 c nl lo q63_5 j63_5 h63_5), h63_5] <;> (show _ = _; kernel_rfl)
def k63_9 (c : CallT) (nl lo : Nat) (q63_5 : Rg → MM → Option (AV × MM)) : Rg → MM → Option (AV × MM) := (execC c modeF lo nl p63_6 (k63_6 c nl lo q63_5) (fun i ρ M => if i = 0 then (k63_3 c nl lo) ρ M else noE i ρ M) (endK cf63.res))
@[reducible] def b63_9 (c : CallT) (nl lo : Nat) (j63_5 : AV → AV → AV → MM → Option (AV × MM)) (x0 x3 x4 : AV) (M : MM) : Option (AV × MM) :=
 opt (lensA x0) fun v6 =>
 opt (binA .lss .none x4 v6) fun v7 =>
 isB v7 fun c8 => if c8 then (b63_6 c nl lo j63_5 x0 x3 x4 M)
 else (b63_3 c nl lo x3 M)
theorem t63_9 (c : CallT) (nl lo : Nat) (q63_5 : Rg → MM → Option (AV × MM)) (j63_5 : AV → AV → AV → MM → Option (AV × MM)) (h63_5 : ∀ (ρ : Rg) (M : MM), q63_5 ρ M = j63_5 (ρ 0) (ρ 3) (ρ 4) M) (ρ : Rg) (M : MM) : k63_9 c nl lo q63_5 ρ M = b63_9 c nl lo j63_5 (ρ 0) (ρ 3) (ρ 4) M := by
 have h : ∀ (z0 z1 : Rg → MM → Option (AV × MM)), (execC c modeF lo nl p63_6 z1 (fun i ρ M => if i = 0 then z0 ρ M else noE i ρ M) (endK cf63.res)) ρ M = (opt (lensA (ρ 0)) fun v6 =>
 opt (binA .lss .none (ρ 4) v6) fun v7 =>
 isB v7 fun c8 => if c8 then (z1 (sF (sF (sF (sF ρ 5 (ρ 4)) 6 (ρ 0)) 7 v6) 8 v7) M)
 else (z0 (sF (sF (sF (sF ρ 5 (ρ 4)) 6 (ρ 0)) 7 v6) 8 v7) M)) := by intros; kernel_rfl
 refine (h (k63_3 c nl lo) (k63_6 c nl lo q63_5)).trans ?_
 unfold b63_9; simp only [(t63_3 c nl lo), (t63_6 c nl lo q63_5 j63_5 h63_5), h63_5] <;> (show _ = _; kernel_rfl)
def k63_5 (c : CallT) (nl lo : Nat) (n : Nat) : Rg → MM → Option (AV × MM) := iterC (fun k ρ M => execC c modeF lo nl p63_14 k (fun i ρ M => if i = 0 then (k63_3 c nl lo) ρ M else noE i ρ M) (endK cf63.res) ρ M) n
def b63_5 (c : CallT) (nl lo : Nat) : Nat → AV → AV → AV → MM → Option (AV × MM)
 | 0, _, _, _, _ => none
 | n + 1, x0, x3, x4, M =>
 b63_9 c nl lo (b63_5 c nl lo n) x0 x3 x4 M
theorem t63_5 (c : CallT) (nl lo : Nat) : ∀ (n : Nat) (ρ : Rg) (M : MM), k63_5 c nl lo n ρ M = b63_5 c nl lo n (ρ 0) (ρ 3) (ρ 4) M
 | 0, ρ, M => rfl
 | n + 1, ρ, M => by
  have h : k63_5 c nl lo (n + 1) ρ M = (k63_9 c nl lo (k63_5 c nl lo n) ρ M) := execC_seq c modeF lo nl p63_6 p63_13 (k63_5 c nl lo n) (fun i ρ M => if i = 0 then (k63_3 c nl lo) ρ M else noE i ρ M) (endK cf63.res) ρ M
  rw [h]
  unfold b63_5; simp only [(t63_9 c nl lo (k63_5 c nl lo n) (b63_5 c nl lo n) (t63_5 c nl lo n)), (t63_5 c nl lo n)] <;> (show _ = _; kernel_rfl)
def k63_4 (c : CallT) (nl lo : Nat) : Rg → MM → Option (AV × MM) := (execC c modeF lo nl p63_17 (k63_3 c nl lo) noE (endK cf63.res))
@[reducible] def b63_4 (c : CallT) (nl lo : Nat) (x0 x3 : AV) (M : MM) : Option (AV × MM) :=
 b63_5 c nl lo nl x0 x3 (.i 0) M
theorem t63_4 (c : CallT) (nl lo : Nat) (ρ : Rg) (M : MM) : k63_4 c nl lo ρ M = b63_4 c nl lo (ρ 0) (ρ 3) M := by
 have h : k63_4 c nl lo ρ M = (k63_5 c nl lo nl (sF ρ 4 (.i 0)) M) := by kernel_rfl
 rw [h]
 unfold b63_4; simp only [(t63_5 c nl lo nl)] <;> (show _ = _; kernel_rfl)
def k63_2 (c : CallT) (nl lo : Nat) : Rg → MM → Option (AV × MM) := (execC c modeF lo nl p63_20 (endK cf63.res) noE (endK cf63.res))
@[reducible] def b63_2 (c : CallT) (nl lo : Nat) (x0 x3 : AV) (M : MM) : Option (AV × MM) :=
 b63_4 c nl lo x0 x3 M
theorem t63_2 (c : CallT) (nl lo : Nat) (ρ : Rg) (M : MM) : k63_2 c nl lo ρ M = b63_2 c nl lo (ρ 0) (ρ 3) M := by
 have h : k63_2 c nl lo ρ M = (k63_4 c nl lo ρ M) := execC_seq c modeF lo nl p63_17 p63_19 (endK cf63.res) noE (endK cf63.res) ρ M
 rw [h]
 unfold b63_2; simp only [(t63_4 c nl lo)] <;> (show _ = _; kernel_rfl)
def k63_10 (c : CallT) (nl lo : Nat) : Rg → MM → Option (AV × MM) := (execC c modeF lo nl p63_2 (k63_2 c nl lo) noE (endK cf63.res))
@[reducible] def b63_10 (c : CallT) (nl lo : Nat) (x0 : AV) (M : MM) : Option (AV × MM) :=
 b63_2 c nl lo x0 (.i 0) M
theorem t63_10 (c : CallT) (nl lo : Nat) (ρ : Rg) (M : MM) : k63_10 c nl lo ρ M = b63_10 c nl lo (ρ 0) M := by
 have h : ∀ (z0 : Rg → MM → Option (AV × MM)), (execC c modeF lo nl p63_2 z0 noE (endK cf63.res)) ρ M = (z0 (sF ρ 3 (.i 0)) M) := by intros; kernel_rfl
 refine (h (k63_2 c nl lo)).trans ?_
 unfold b63_10; simp only [(t63_2 c nl lo)] <;> (show _ = _; kernel_rfl)
def k63_1 (c : CallT) (nl lo : Nat) : Rg → MM → Option (AV × MM) := (execC c modeF lo nl p63_21 (endK cf63.res) noE (endK cf63.res))
@[reducible] def b63_1 (c : CallT) (nl lo : Nat) (x0 : AV) (M : MM) : Option (AV × MM) :=
 b63_10 c nl lo x0 M
theorem t63_1 (c : CallT) (nl lo : Nat) (ρ : Rg) (M : MM) : k63_1 c nl lo ρ M = b63_1 c nl lo (ρ 0) M := by
 have h : k63_1 c nl lo ρ M = (k63_10 c nl lo ρ M) := execC_seq c modeF lo nl p63_2 p63_20 (endK cf63.res) noE (endK cf63.res) ρ M
 rw [h]
 unfold b63_1; simp only [(t63_10 c nl lo)] <;> (show _ = _; kernel_rfl)
def k63_11 (c : CallT) (nl lo : Nat) : Rg → MM → Option (AV × MM) := (execC c modeF lo nl p63_1 (k63_1 c nl lo) noE (endK cf63.res))
@[reducible] def b63_11 (c : CallT) (nl lo : Nat) (x0 : AV) (M : MM) : Option (AV × MM) :=
 b63_1 c nl lo x0 M
theorem t63_11 (c : CallT) (nl lo : Nat) (ρ : Rg) (M : MM) : k63_11 c nl lo ρ M = b63_11 c nl lo (ρ 0) M := by
 have h : ∀ (z0 : Rg → MM → Option (AV × MM)), (execC c modeF lo nl p63_1 z0 noE (endK cf63.res)) ρ M = (z0 (sF ρ 2 (.i 0)) M) := by intros; kernel_rfl
 refine (h (k63_1 c nl lo)).trans ?_
 unfold b63_11; simp only [(t63_1 c nl lo)] <;> (show _ = _; kernel_rfl)
def k63_0 (c : CallT) (nl lo : Nat) : Rg → MM → Option (AV × MM) := (execC c modeF lo nl p63_22 (endK cf63.res) noE (endK cf63.res))
@[reducible] def b63_0 (c : CallT) (nl lo : Nat) (x0 : AV) (M : MM) : Option (AV × MM) :=
 b63_11 c nl lo x0 M
theorem t63_0 (c : CallT) (nl lo : Nat) (ρ : Rg) (M : MM) : k63_0 c nl lo ρ M = b63_0 c nl lo (ρ 0) M := by
 have h : k63_0 c nl lo ρ M = (k63_11 c nl lo ρ M) := execC_seq c modeF lo nl p63_1 p63_21 (endK cf63.res) noE (endK cf63.res) ρ M
 rw [h]
 unfold b63_0; simp only [(t63_11 c nl lo)] <;> (show _ = _; kernel_rfl)
def k63_12 (c : CallT) (nl lo : Nat) : Rg → MM → Option (AV × MM) := (execC c modeF lo nl p63_0 (k63_0 c nl lo) noE (endK cf63.res))
@[reducible] def b63_12 (c : CallT) (nl lo : Nat) (x0 : AV) (M : MM) : Option (AV × MM) :=
 b63_0 c nl lo x0 M
theorem t63_12 (c : CallT) (nl lo : Nat) (ρ : Rg) (M : MM) : k63_12 c nl lo ρ M = b63_12 c nl lo (ρ 0) M := by
 have h : ∀ (z0 : Rg → MM → Option (AV × MM)), (execC c modeF lo nl p63_0 z0 noE (endK cf63.res)) ρ M = (z0 ρ M) := by intros; kernel_rfl
 refine (h (k63_0 c nl lo)).trans ?_
 unfold b63_12; simp only [(t63_0 c nl lo)] <;> (show _ = _; kernel_rfl)
def s63 (c : CallT) (nl lo : Nat) (a0 : AV) (M : MM) : Option (AV × MM) :=
 b63_12 c nl lo a0 M
theorem e63 (c : CallT) (nl lo : Nat) (a0 : AV) (M : MM) : execC c modeF lo nl cf63.body (endK cf63.res) noE (endK cf63.res) (aF [a0]) M = s63 c nl lo a0 M := by
 have h : execC c modeF lo nl cf63.body (endK cf63.res) noE (endK cf63.res) (aF [a0]) M = (k63_12 c nl lo (aF [a0]) M) := execC_seq c modeF lo nl p63_0 p63_22 (endK cf63.res) noE (endK cf63.res) (aF [a0]) M
 refine h.trans ?_
 unfold s63; simp only [(t63_12 c nl lo)] <;> (show _ = _; kernel_rfl)
theorem q63 {c : CallT} (hc : Lim G c) (lo : Nat) (a0 : AV) (M : MM) : c 63 [a0] lo M = s63 c G.nl lo a0 M :=
 (hc.flow (cf := cf63) rfl w63 [a0] lo M).trans (e63 c G.nl lo a0 M)

/-! ### function 64 -/
theorem w64 : wfK cf64.nt cf64.body = true := by kernel_rfl
def s64 (c : CallT) (nl lo : Nat) (a0 : AV) (M : MM) : Option (AV × MM) :=
 opt (aggA a0) fun v2 =>
 upK M M.nx fun M3 =>
 bumpK M3 7 fun M5 =>
 opt (fldA 0 0 true v2) fun v6 =>
 opt (fldA 0 1 false v2) fun v7 =>
 opt (fldA 0 0 true v2) fun v8 =>
 opt (fldA 1 1 false v2) fun v9 =>
 opt (puA c (look M5.mem (.mk M3.nx 7 12 true)) 80 [v9]) fun v10 =>
 opt (binA .add .none v7 v10) fun v11 =>
 some (v11, M5)
theorem e64 (c : CallT) (nl lo : Nat) (a0 : AV) (M : MM) : execC c modeF lo nl cf64.body (endK cf64.res) noE (endK cf64.res) (aF [a0]) M = s64 c nl lo a0 M := by
 kernel_rfl
theorem q64 {c : CallT} (hc : Lim G c) (lo : Nat) (a0 : AV) (M : MM) : c 64 [a0] lo M = s64 c G.nl lo a0 M :=
 (hc.flow (cf := cf64) rfl w64 [a0] lo M).trans (e64 c G.nl lo a0 M)

/-! ### function 65 -/
theorem w65 : wfK cf65.nt cf65.body = true := by kernel_rfl
def s65 (c : CallT) (nl lo : Nat) (a0 a1 : AV) (M : MM) : Option (AV × MM) :=
 opt (puA c (lk M) 81 [a0, a1]) fun v6 =>
 opt (extA 0 v6) fun v7 =>
 opt (extA 1 v6) fun v8 =>
 opt (extA 2 v6) fun v9 =>
 some (.tup [v7, v8, v9], M)
theorem e65 (c : CallT) (nl lo : Nat) (a0 a1 : AV) (M : MM) : execC c modeF lo nl cf65.body (endK cf65.res) noE (endK cf65.res) (aF [a0, a1]) M = s65 c nl lo a0 a1 M := by
 kernel_rfl
theorem q65 {c : CallT} (hc : Lim G c) (lo : Nat) (a0 a1 : AV) (M : MM) : c 65 [a0, a1] lo M = s65 c G.nl lo a0 a1 M :=
 (hc.flow (cf := cf65) rfl w65 [a0, a1] lo M).trans (e65 c G.nl lo a0 a1 M)

/-! ### function 70 -/
theorem w70 : wfK cf70.nt cf70.body = true := by kernel_rfl
def s70 (c : CallT) (nl lo : Nat) (a0 a1 : AV) (M : MM) : Option (AV × MM) :=
 opt (puA c (lk M) 85 [a0, a1]) fun v4 =>
 opt (binA .geq .none v4 (.i 0)) fun v5 =>
 some (v5, M)
theorem e70 (c : CallT) (nl lo : Nat) (a0 a1 : AV) (M : MM) : execC c modeF lo nl cf70.body (endK cf70.res) noE (endK cf70.res) (aF [a0, a1]) M = s70 c nl lo a0 a1 M := by
 kernel_rfl
theorem q70 {c : CallT} (hc : Lim G c) (lo : Nat) (a0 a1 : AV) (M : MM) : c 70 [a0, a1] lo M = s70 c G.nl lo a0 a1 M :=
 (hc.flow (cf := cf70) rfl w70 [a0, a1] lo M).trans (e70 c G.nl lo a0 a1 M)

/-! ### function 72 -/
theorem w72 : wfK cf72.nt cf72.body = true := by kernel_rfl
def k72_2 (c : CallT) (nl lo : Nat) : Rg → MM → Option (AV × MM) := (execC c modeF lo nl p72_21 (endK cf72.res) noE (endK cf72.res))
@[reducible] def b72_2 (c : CallT) (nl lo : Nat) (M : MM) : Option (AV × MM) :=
 some ((.i (-1)), M)
theorem t72_2 (c : CallT) (nl lo : Nat) (ρ : Rg) (M : MM) : k72_2 c nl lo ρ M = b72_2 c nl lo M := by
 kernel_rfl
def k72_4 (c : CallT) (nl lo : Nat) (n : Nat) : Rg → MM → Option (AV × MM) := iterC (fun k ρ M => execC c modeF lo nl p72_16 k (fun i ρ M => if i = 0 then (k72_2 c nl lo) ρ M else noE i ρ M) (endK cf72.res) ρ M) n
def b72_4 (c : CallT) (nl lo : Nat) : Nat → AV → AV → AV → AV → MM → Option (AV × MM)
 | 0, _, _, _, _, _ => none
 | n + 1, x1, x7, x8, x9, M =>
 opt (binA .lss .none x9 x8) fun v5 =>
 isB v5 fun c6 => if c6 then (opt (ixsA 1 x7 x9) fun v8 =>
 opt (ld1A (lk M) v8) fun v9 =>
 opt (binA .eql .none v9 x1) fun v14 =>
 isB v14 fun c15 => if c15 then (some (x9, M))
 else (opt (binA .add .none x9 (.i 1)) fun v18 =>
 (b72_4 c nl lo n) x1 x7 x8 v18 M))
 else (b72_2 c nl lo M)
theorem t72_4 (c : CallT) (nl lo : Nat) : ∀ (n : Nat) (ρ : Rg) (M : MM), k72_4 c nl lo n ρ M = b72_4 c nl lo n (ρ 1) (ρ 7) (ρ 8) (ρ 9) M
 | 0, ρ, M => rfl
 | n + 1, ρ, M => by
  have h : ∀ (zb z0 : Rg → MM → Option (AV × MM)), execC c modeF lo nl p72_16 zb (fun i ρ M => if i = 0 then z0 ρ M else noE i ρ M) (endK cf72.res) ρ M = (opt (binA .lss .none (ρ 9) (ρ 8)) fun v5 =>
  isB v5 fun c6 => if c6 then (opt (ixsA 1 (ρ 7) (ρ 9)) fun v8 =>
  opt (ld1A (lk M) v8) fun v9 =>
  opt (binA .eql .none v9 (ρ 1)) fun v14 =>
  isB v14 fun c15 => if c15 then (some ((ρ 9), M))
  else (opt (binA .add .none (ρ 9) (.i 1)) fun v18 =>
  zb (sF (sF (sF (sF (sF (sF (sF (sF (sF (sF (sF ρ 10 v5) 11 (ρ 9)) 12 v8) 13 v9) 5 (ρ 9)) 6 v9) 14 v9) 15 (ρ 1)) 16 v14) 18 v18) 9 v18) M))
  else (z0 (sF ρ 10 v5) M)) := by intros; kernel_rfl
  refine (h (k72_4 c nl lo n) (k72_2 c nl lo)).trans ?_
  unfold b72_4; simp only [(t72_2 c nl lo), (t72_4 c nl lo n)] <;> (show _ = _; kernel_rfl)
def k72_3 (c : CallT) (nl lo : Nat) : Rg → MM → Option (AV × MM) := (execC c modeF lo nl p72_19 (k72_2 c nl lo) noE (endK cf72.res))
@[reducible] def b72_3 (c : CallT) (nl lo : Nat) (x0 x1 : AV) (M : MM) : Option (AV × MM) :=
 opt (lenA x0) fun v3 =>
 b72_4 c nl lo nl x1 x0 v3 (.i 0) M
theorem t72_3 (c : CallT) (nl lo : Nat) (ρ : Rg) (M : MM) : k72_3 c nl lo ρ M = b72_3 c nl lo (ρ 0) (ρ 1) M := by
 have h : k72_3 c nl lo ρ M = (opt (lenA (ρ 0)) fun v3 =>
 k72_4 c nl lo nl (sF (sF (sF ρ 7 (ρ 0)) 8 v3) 9 (.i 0)) M) := by kernel_rfl
 rw [h]
 unfold b72_3; simp only [(t72_4 c nl lo nl)] <;> (show _ = _; kernel_rfl)
def k72_1 (c : CallT) (nl lo : Nat) : Rg → MM → Option (AV × MM) := (execC c modeF lo nl p72_22 (endK cf72.res) noE (endK cf72.res))
@[reducible] def b72_1 (c : CallT) (nl lo : Nat) (x0 x1 : AV) (M : MM) : Option (AV × MM) :=
 b72_3 c nl lo x0 x1 M
theorem t72_1 (c : CallT) (nl lo : Nat) (ρ : Rg) (M : MM) : k72_1 c nl lo ρ M = b72_1 c nl lo (ρ 0) (ρ 1) M := by
 have h : k72_1 c nl lo ρ M = (k72_3 c nl lo ρ M) := execC_seq c modeF lo nl p72_19 p72_21 (endK cf72.res) noE (endK cf72.res) ρ M
 rw [h]
 unfold b72_1; simp only [(t72_3 c nl lo)] <;> (show _ = _; kernel_rfl)
def k72_5 (c : CallT) (nl lo : Nat) : Rg → MM → Option (AV × MM) := (execC c modeF lo nl p72_1 (k72_1 c nl lo) noE (endK cf72.res))
@[reducible] def b72_5 (c : CallT) (nl lo : Nat) (x0 x1 : AV) (M : MM) : Option (AV × MM) :=
 b72_1 c nl lo x0 x1 M
theorem t72_5 (c : CallT) (nl lo : Nat) (ρ : Rg) (M : MM) : k72_5 c nl lo ρ M = b72_5 c nl lo (ρ 0) (ρ 1) M := by
 have h : ∀ (z0 : Rg → MM → Option (AV × MM)), (execC c modeF lo nl p72_1 z0 noE (endK cf72.res)) ρ M = (z0 (sF ρ 4 (.i 0)) M) := by intros; kernel_rfl
 refine (h (k72_1 c nl lo)).trans ?_
 unfold b72_5; simp only [(t72_1 c nl lo)] <;> (show _ = _; kernel_rfl)
def k72_0 (c : CallT) (nl lo : Nat) : Rg → MM → Option (AV × MM) := (execC c modeF lo nl p72_23 (endK cf72.res) noE (endK cf72.res))
@[reducible] def b72_0 (c : CallT) (nl lo : Nat) (x0 x1 : AV) (M : MM) : Option (AV × MM) :=
 b72_5 c nl lo x0 x1 M
theorem t72_0 (c : CallT) (nl lo : Nat) (ρ : Rg) (M : MM) : k72_0 c nl lo ρ M = b72_0 c nl lo (ρ 0) (ρ 1) M := by
 have h : k72_0 c nl lo ρ M = (k72_5 c nl lo ρ M) := execC_seq c modeF lo nl p72_1 p72_22 (endK cf72.res) noE (endK cf72.res) ρ M
 rw [h]
 unfold b72_0; simp only [(t72_5 c nl lo)] <;> (show _ = _; kernel_rfl)
def k72_6 (c : CallT) (nl lo : Nat) : Rg → MM → Option (AV × MM) := (execC c modeF lo nl p72_0 (k72_0 c nl lo) noE (endK cf72.res))
@[reducible] def b72_6 (c : CallT) (nl lo : Nat) (x0 x1 : AV) (M : MM) : Option (AV × MM) :=
 b72_0 c nl lo x0 x1 M
theorem t72_6 (c : CallT) (nl lo : Nat) (ρ : Rg) (M : MM) : k72_6 c nl lo ρ M = b72_6 c nl lo (ρ 0) (ρ 1) M := by
 have h : ∀ (z0 : Rg → MM → Option (AV × MM)), (execC c modeF lo nl p72_0 z0 noE (endK cf72.res)) ρ M = (z0 ρ M) := by intros; kernel_rfl
 refine (h (k72_0 c nl lo)).trans ?_
 unfold b72_6; simp only [(t72_0 c nl lo)] <;> (show _ = _; kernel_rfl)
def s72 (c : CallT) (nl lo : Nat) (a0 a1 : AV) (M : MM) : Option (AV × MM) :=
 b72_6 c nl lo a0 a1 M
theorem e72 (c : CallT) (nl lo : Nat) (a0 a1 : AV) (M : MM) : execC c modeF lo nl cf72.body (endK cf72.res) noE (endK cf72.res) (aF [a0, a1]) M = s72 c nl lo a0 a1 M := by
 have h : execC c modeF lo nl cf72.body (endK cf72.res) noE (endK cf72.res) (aF [a0, a1]) M = (k72_6 c nl lo (aF [a0, a1]) M) := execC_seq c modeF lo nl p72_0 p72_23 (endK cf72.res) noE (endK cf72.res) (aF [a0, a1]) M
 refine h.trans ?_
 unfold s72; simp only [(t72_6 c nl lo)] <;> (show _ = _; kernel_rfl)
theorem q72 {c : CallT} (hc : Lim G c) (lo : Nat) (a0 a1 : AV) (M : MM) : c 72 [a0, a1] lo M = s72 c G.nl lo a0 a1 M :=
 (hc.flow (cf := cf72) rfl w72 [a0, a1] lo M).trans (e72 c G.nl lo a0 a1 M)

/-! ### function 74 -/
theorem w74 : wfK cf74.nt cf74.body = true := by kernel_rfl
def k74_3 (c : CallT) (nl lo : Nat) : Rg → MM → Option (AV × MM) := (execC c modeF lo nl p74_24 (endK cf74.res) noE (endK cf74.res))
@[reducible] def b74_3 (c : CallT) (nl lo : Nat) (M : MM) : Option (AV × MM) :=
 some ((.bool true), M)
theorem t74_3 (c : CallT) (nl lo : Nat) (ρ : Rg) (M : MM) : k74_3 c nl lo ρ M = b74_3 c nl lo M := by
 kernel_rfl
def k74_5 (c : CallT) (nl lo : Nat) (n : Nat) : Rg → MM → Option (AV × MM) := iterC (fun k ρ M => execC c modeF lo nl p74_19 k (fun i ρ M => if i = 0 then (k74_3 c nl lo) ρ M else noE i ρ M) (endK cf74.res) ρ M) n
def b74_5 (c : CallT) (nl lo : Nat) : Nat → AV → AV → AV → MM → Option (AV × MM)
 | 0, _, _, _, _ => none
 | n + 1, x0, x1, x5, M =>
 opt (lenA x0) fun v5 =>
 opt (binA .lss .none x5 v5) fun v6 =>
 isB v6 fun c7 => if c7 then (bumpK M 10 fun M8 =>
 opt (ixsA 2 x0 x5) fun v11 =>
 opt (ldnA (look M8.mem (.mk M.nx 10 7 true)) 2 v11) fun v12 =>
 opt (ixsA 2 x1 x5) fun v15 =>
 opt (ldnA (look M8.mem (.mk M.nx 10 112 true)) 2 v15) fun v16 =>
 opt (puA c (look M8.mem (.mk M.nx 10 255 true)) 51 [v12, v16]) fun v17 =>
 opt (unA .not v17) fun v18 =>
 isB v18 fun c19 => if c19 then (some ((.bool false), M8))
 else (opt (binA .add .none x5 (.i 1)) fun v22 =>
 (b74_5 c nl lo n) x0 x1 v22 M8))
 else (b74_3 c nl lo M)
theorem t74_5 (c : CallT) (nl lo : Nat) : ∀ (n : Nat) (ρ : Rg) (M : MM), k74_5 c nl lo n ρ M = b74_5 c nl lo n (ρ 0) (ρ 1) (ρ 5) M
 | 0, ρ, M => rfl
 | n + 1, ρ, M => by
  have h : ∀ (zb z0 : Rg → MM → Option (AV × MM)), execC c modeF lo nl p74_19 zb (fun i ρ M => if i = 0 then z0 ρ M else noE i ρ M) (endK cf74.res) ρ M = (opt (lenA (ρ 0)) fun v5 =>
  opt (binA .lss .none (ρ 5) v5) fun v6 =>
  isB v6 fun c7 => if c7 then (bumpK M 10 fun M8 =>
  opt (ixsA 2 (ρ 0) (ρ 5)) fun v11 =>
  opt (ldnA (look M8.mem (.mk M.nx 10 7 true)) 2 v11) fun v12 =>
  opt (ixsA 2 (ρ 1) (ρ 5)) fun v15 =>
  opt (ldnA (look M8.mem (.mk M.nx 10 112 true)) 2 v15) fun v16 =>
  opt (puA c (look M8.mem (.mk M.nx 10 255 true)) 51 [v12, v16]) fun v17 =>
  opt (unA .not v17) fun v18 =>
  isB v18 fun c19 => if c19 then (some ((.bool false), M8))
  else (opt (binA .add .none (ρ 5) (.i 1)) fun v22 =>
  zb (sF (sF (sF (sF (sF (sF (sF (sF (sF (sF (sF (sF (sF (sF (sF (sF (sF ρ 11 (ρ 5)) 12 (ρ 0)) 13 v5) 14 v6) 17 (ρ 0)) 18 (ρ 5)) 19 v11) 20 v12) 21 (ρ 1)) 22 (ρ 5)) 23 v15) 24 v16) 25 v17) 26 v18) 15 (ρ 5)) 16 v22) 5 v22) M8))
  else (z0 (sF (sF (sF (sF ρ 11 (ρ 5)) 12 (ρ 0)) 13 v5) 14 v6) M)) := by intros; kernel_rfl
  refine (h (k74_5 c nl lo n) (k74_3 c nl lo)).trans ?_
  unfold b74_5; simp only [(t74_3 c nl lo), (t74_5 c nl lo n)] <;> (show _ = _; kernel_rfl)
def k74_4 (c : CallT) (nl lo : Nat) : Rg → MM → Option (AV × MM) := (execC c modeF lo nl p74_22 (k74_3 c nl lo) noE (endK cf74.res))
@[reducible] def b74_4 (c : CallT) (nl lo : Nat) (x0 x1 : AV) (M : MM) : Option (AV × MM) :=
 b74_5 c nl lo nl x0 x1 (.i 0) M
theorem t74_4 (c : CallT) (nl lo : Nat) (ρ : Rg) (M : MM) : k74_4 c nl lo ρ M = b74_4 c nl lo (ρ 0) (ρ 1) M := by
 have h : k74_4 c nl lo ρ M = (k74_5 c nl lo nl (sF ρ 5 (.i 0)) M) := by kernel_rfl
 rw [h]
 unfold b74_4; simp only [(t74_5 c nl lo nl)] <;> (show _ = _; kernel_rfl)
def k74_2 (c : CallT) (nl lo : Nat) : Rg → MM → Option (AV × MM) := (execC c modeF lo nl p74_25 (endK cf74.res) noE (endK cf74.res))
@[reducible] def b74_2 (c : CallT) (nl lo : Nat) (x0 x1 : AV) (M : MM) : Option (AV × MM) :=
 b74_4 c nl lo x0 x1 M
theorem t74_2 (c : CallT) (nl lo : Nat) (ρ : Rg) (M : MM) : k74_2 c nl lo ρ M = b74_2 c nl lo (ρ 0) (ρ 1) M := by
 have h : k74_2 c nl lo ρ M = (k74_4 c nl lo ρ M) := execC_seq c modeF lo nl p74_22 p74_24 (endK cf74.res) noE (endK cf74.res) ρ M
 rw [h]
 unfold b74_2; simp only [(t74_4 c nl lo)] <;> (show _ = _; kernel_rfl)
def k74_6 (c : CallT) (nl lo : Nat) : Rg → MM → Option (AV × MM) := (execC c modeF lo nl p74_6 (k74_2 c nl lo) noE (endK cf74.res))
@[reducible] def b74_6 (c : CallT) (nl lo : Nat) (x0 x1 : AV) (M : MM) : Option (AV × MM) :=
 opt (lenA x0) fun v2 =>
 opt (lenA x1) fun v4 =>
 opt (binA .neq .none v2 v4) fun v5 =>
 isB v5 fun c6 => if c6 then (some ((.bool false), M))
 else (b74_2 c nl lo x0 x1 M)
theorem t74_6 (c : CallT) (nl lo : Nat) (ρ : Rg) (M : MM) : k74_6 c nl lo ρ M = b74_6 c nl lo (ρ 0) (ρ 1) M := by
 have h : ∀ (z0 : Rg → MM → Option (AV × MM)), (execC c modeF lo nl p74_6 z0 noE (endK cf74.res)) ρ M = (opt (lenA (ρ 0)) fun v2 =>
 opt (lenA (ρ 1)) fun v4 =>
 opt (binA .neq .none v2 v4) fun v5 =>
 isB v5 fun c6 => if c6 then (some ((.bool false), M))
 else (z0 (sF (sF (sF (sF (sF ρ 6 (ρ 0)) 7 v2) 8 (ρ 1)) 9 v4) 10 v5) M)) := by intros; kernel_rfl
 refine (h (k74_2 c nl lo)).trans ?_
 unfold b74_6; simp only [(t74_2 c nl lo)] <;> (show _ = _; kernel_rfl)
def k74_1 (c : CallT) (nl lo : Nat) : Rg → MM → Option (AV × MM) := (execC c modeF lo nl p74_26 (endK cf74.res) noE (endK cf74.res))
@[reducible] def b74_1 (c : CallT) (nl lo : Nat) (x0 x1 : AV) (M : MM) : Option (AV × MM) :=
 b74_6 c nl lo x0 x1 M
theorem t74_1 (c : CallT) (nl lo : Nat) (ρ : Rg) (M : MM) : k74_1 c nl lo ρ M = b74_1 c nl lo (ρ 0) (ρ 1) M := by
 have h : k74_1 c nl lo ρ M = (k74_6 c nl lo ρ M) := execC_seq c modeF lo nl p74_6 p74_25 (endK cf74.res) noE (endK cf74.res) ρ M
 rw [h]
 unfold b74_1; simp only [(t74_6 c nl lo)] <;> (show _ = _; kernel_rfl)
def k74_7 (c : CallT) (nl lo : Nat) : Rg → MM → Option (AV × MM) := (execC c modeF lo nl p74_1 (k74_1 c nl lo) noE (endK cf74.res))
@[reducible] def b74_7 (c : CallT) (nl lo : Nat) (x0 x1 : AV) (M : MM) : Option (AV × MM) :=
 b74_1 c nl lo x0 x1 M
theorem t74_7 (c : CallT) (nl lo : Nat) (ρ : Rg) (M : MM) : k74_7 c nl lo ρ M = b74_7 c nl lo (ρ 0) (ρ 1) M := by
 have h : ∀ (z0 : Rg → MM → Option (AV × MM)), (execC c modeF lo nl p74_1 z0 noE (endK cf74.res)) ρ M = (z0 (sF ρ 4 (.bool false)) M) := by intros; kernel_rfl
 refine (h (k74_1 c nl lo)).trans ?_
 unfold b74_7; simp only [(t74_1 c nl lo)] <;> (show _ = _; kernel_rfl)
def k74_0 (c : CallT) (nl lo : Nat) : Rg → MM → Option (AV × MM) := (execC c modeF lo nl p74_27 (endK cf74.res) noE (endK cf74.res))
@[reducible] def b74_0 (c : CallT) (nl lo : Nat) (x0 x1 : AV) (M : MM) : Option (AV × MM) :=
 b74_7 c nl lo x0 x1 M
theorem t74_0 (c : CallT) (nl lo : Nat) (ρ : Rg) (M : MM) : k74_0 c nl lo ρ M = b74_0 c nl lo (ρ 0) (ρ 1) M := by
 have h : k74_0 c nl lo ρ M = (k74_7 c nl lo ρ M) := execC_seq c modeF lo nl p74_1 p74_26 (endK cf74.res) noE (endK cf74.res) ρ M
 rw [h]
 unfold b74_0; simp only [(t74_7 c nl lo)] <;> (show _ = _; kernel_rfl)
def k74_8 (c : CallT) (nl lo : Nat) : Rg → MM → Option (AV × MM) := (execC c modeF lo nl p74_0 (k74_0 c nl lo) noE (endK cf74.res))
@[reducible] def b74_8 (c : CallT) (nl lo : Nat) (x0 x1 : AV) (M : MM) : Option (AV × MM) :=
 b74_0 c nl lo x0 x1 M
theorem t74_8 (c : CallT) (nl lo : Nat) (ρ : Rg) (M : MM) : k74_8 c nl lo ρ M = b74_8 c nl lo (ρ 0) (ρ 1) M := by
 have h : ∀ (z0 : Rg → MM → Option (AV × MM)), (execC c modeF lo nl p74_0 z0 noE (endK cf74.res)) ρ M = (z0 ρ M) := by intros; kernel_rfl
 refine (h (k74_0 c nl lo)).trans ?_
 unfold b74_8; simp only [(t74_0 c nl lo)] <;> (show _ = _; kernel_rfl)
def s74 (c : CallT) (nl lo : Nat) (a0 a1 : AV) (M : MM) : Option (AV × MM) :=
 b74_8 c nl lo a0 a1 M
theorem e74 (c : CallT) (nl lo : Nat) (a0 a1 : AV) (M : MM) : execC c modeF lo nl cf74.body (endK cf74.res) noE (endK cf74.res) (aF [a0, a1]) M = s74 c nl lo a0 a1 M := by
 have h : execC c modeF lo nl cf74.body (endK cf74.res) noE (endK cf74.res) (aF [a0, a1]) M = (k74_8 c nl lo (aF [a0, a1]) M) := execC_seq c modeF lo nl p74_0 p74_27 (endK cf74.res) noE (endK cf74.res) (aF [a0, a1]) M
 refine h.trans ?_
 unfold s74; simp only [(t74_8 c nl lo)] <;> (show _ = _; kernel_rfl)
theorem q74 {c : CallT} (hc : Lim G c) (lo : Nat) (a0 a1 : AV) (M : MM) : c 74 [a0, a1] lo M = s74 c G.nl lo a0 a1 M :=
 (hc.flow (cf := cf74) rfl w74 [a0, a1] lo M).trans (e74 c G.nl lo a0 a1 M)

/-! ### function 75 -/
theorem w75 : wfK cf75.nt cf75.body = true := by kernel_rfl
def s75 (c : CallT) (nl lo : Nat) (a0 : AV) (M : MM) : Option (AV × MM) :=
 opt (puA c (lk M) 63 [a0]) fun v3 =>
 opt (binA .eql .none v3 (.i 0)) fun v4 =>
 opt (gdp v4 true (some a0)) fun v6 =>
 opt (gdp v4 true (puA c (lk M) 38 [v6])) fun v7 =>
 opt (gdp v4 true (unA .not v7)) fun v8 =>
 opt (pickA v4 v8 (.bool false)) fun v9 =>
 some (v9, M)
theorem e75 (c : CallT) (nl lo : Nat) (a0 : AV) (M : MM) : execC c modeF lo nl cf75.body (endK cf75.res) noE (endK cf75.res) (aF [a0]) M = s75 c nl lo a0 M := by
 kernel_rfl
theorem q75 {c : CallT} (hc : Lim G c) (lo : Nat) (a0 : AV) (M : MM) : c 75 [a0] lo M = s75 c G.nl lo a0 M :=
 (hc.flow (cf := cf75) rfl w75 [a0] lo M).trans (e75 c G.nl lo a0 M)

/-! ### function 78 -/
theorem w78 : wfK cf78.nt cf78.body = true := by kernel_rfl
def k78_2 (c : CallT) (nl lo : Nat) : Rg → MM → Option (AV × MM) := (execC c modeF lo nl p78_21 (endK cf78.res) noE (endK cf78.res))
@[reducible] def b78_2 (c : CallT) (nl lo : Nat) (M : MM) : Option (AV × MM) :=
 some ((.i (-1)), M)
theorem t78_2 (c : CallT) (nl lo : Nat) (ρ : Rg) (M : MM) : k78_2 c nl lo ρ M = b78_2 c nl lo M := by
 kernel_rfl
def k78_4 (c : CallT) (nl lo : Nat) (n : Nat) : Rg → MM → Option (AV × MM) := iterC (fun k ρ M => execC c modeF lo nl p78_16 k (fun i ρ M => if i = 0 then (k78_2 c nl lo) ρ M else noE i ρ M) (endK cf78.res) ρ M) n
def b78_4 (c : CallT) (nl lo : Nat) : Nat → AV → AV → AV → AV → MM → Option (AV × MM)
 | 0, _, _, _, _, _ => none
 | n + 1, x0, x1, x7, x8, M =>
 opt (binA .lss .none x8 x7) fun v5 =>
 isB v5 fun c6 => if c6 then (opt (ixsA 2 x0 x8) fun v12 =>
 opt (ldnA (lk M) 2 v12) fun v13 =>
 bnd (istep c modeF false lo (.top M.nx) M.nx (.callw [52, 57] (.k x1) [(.k v13)]) [] M) fun v14 M15 =>
 isB v14 fun c16 => if c16 then (some (x8, M15))
 else (opt (binA .add .none x8 (.i 1)) fun v19 =>
 (b78_4 c nl lo n) x0 x1 x7 v19 M15))
 else (b78_2 c nl lo M)
theorem t78_4 (c : CallT) (nl lo : Nat) : ∀ (n : Nat) (ρ : Rg) (M : MM), k78_4 c nl lo n ρ M = b78_4 c nl lo n (ρ 0) (ρ 1) (ρ 7) (ρ 8) M
 | 0, ρ, M => rfl
 | n + 1, ρ, M => by
  have h : ∀ (zb z0 : Rg → MM → Option (AV × MM)), execC c modeF lo nl p78_16 zb (fun i ρ M => if i = 0 then z0 ρ M else noE i ρ M) (endK cf78.res) ρ M = (opt (binA .lss .none (ρ 8) (ρ 7)) fun v5 =>
  isB v5 fun c6 => if c6 then (opt (ixsA 2 (ρ 0) (ρ 8)) fun v12 =>
  opt (ldnA (lk M) 2 v12) fun v13 =>
  bnd (istep c modeF false lo (.top M.nx) M.nx (.callw [52, 57] (.k (ρ 1)) [(.k v13)]) [] M) fun v14 M15 =>
  isB v14 fun c16 => if c16 then (some ((ρ 8), M15))
  else (opt (binA .add .none (ρ 8) (.i 1)) fun v19 =>
  zb (sF (sF (sF (sF (sF (sF (sF (sF (sF (sF (sF ρ 9 v5) 10 (ρ 8)) 5 (ρ 8)) 11 (ρ 1)) 12 (ρ 0)) 13 (ρ 8)) 14 v12) 15 v13) 16 v14) 18 v19) 8 v19) M15))
  else (z0 (sF ρ 9 v5) M)) := by intros; kernel_rfl
  refine (h (k78_4 c nl lo n) (k78_2 c nl lo)).trans ?_
  unfold b78_4; simp only [(t78_2 c nl lo), (t78_4 c nl lo n)] <;> (show _ = _; kernel_rfl)
def k78_3 (c : CallT) (nl lo : Nat) : Rg → MM → Option (AV × MM) := (execC c modeF lo nl p78_19 (k78_2 c nl lo) noE (endK cf78.res))
@[reducible] def b78_3 (c : CallT) (nl lo : Nat) (x0 x1 : AV) (M : MM) : Option (AV × MM) :=
 opt (lenA x0) fun v3 =>
 b78_4 c nl lo nl x0 x1 v3 (.i 0) M
theorem t78_3 (c : CallT) (nl lo : Nat) (ρ : Rg) (M : MM) : k78_3 c nl lo ρ M = b78_3 c nl lo (ρ 0) (ρ 1) M := by
 have h : k78_3 c nl lo ρ M = (opt (lenA (ρ 0)) fun v3 =>
 k78_4 c nl lo nl (sF (sF (sF ρ 6 (ρ 0)) 7 v3) 8 (.i 0)) M) := by kernel_rfl
 rw [h]
 unfold b78_3; simp only [(t78_4 c nl lo nl)] <;> (show _ = _; kernel_rfl)
def k78_1 (c : CallT) (nl lo : Nat) : Rg → MM → Option (AV × MM) := (execC c modeF lo nl p78_22 (endK cf78.res) noE (endK cf78.res))
@[reducible] def b78_1 (c : CallT) (nl lo : Nat) (x0 x1 : AV) (M : MM) : Option (AV × MM) :=
 b78_3 c nl lo x0 x1 M
theorem t78_1 (c : CallT) (nl lo : Nat) (ρ : Rg) (M : MM) : k78_1 c nl lo ρ M = b78_1 c nl lo (ρ 0) (ρ 1) M := by
 have h : k78_1 c nl lo ρ M = (k78_3 c nl lo ρ M) := execC_seq c modeF lo nl p78_19 p78_21 (endK cf78.res) noE (endK cf78.res) ρ M
 rw [h]
 unfold b78_1; simp only [(t78_3 c nl lo)] <;> (show _ = _; kernel_rfl)
def k78_5 (c : CallT) (nl lo : Nat) : Rg → MM → Option (AV × MM) := (execC c modeF lo nl p78_1 (k78_1 c nl lo) noE (endK cf78.res))
@[reducible] def b78_5 (c : CallT) (nl lo : Nat) (x0 x1 : AV) (M : MM) : Option (AV × MM) :=
 b78_1 c nl lo x0 x1 M
theorem t78_5 (c : CallT) (nl lo : Nat) (ρ : Rg) (M : MM) : k78_5 c nl lo ρ M = b78_5 c nl lo (ρ 0) (ρ 1) M := by
 have h : ∀ (z0 : Rg → MM → Option (AV × MM)), (execC c modeF lo nl p78_1 z0 noE (endK cf78.res)) ρ M = (z0 (sF ρ 4 (.i 0)) M) := by intros; kernel_rfl
 refine (h (k78_1 c nl lo)).trans ?_
 unfold b78_5; simp only [(t78_1 c nl lo)] <;> (show _ = _; kernel_rfl)
def k78_0 (c : CallT) (nl lo : Nat) : Rg → MM → Option (AV × MM) := (execC c modeF lo nl p78_23 (endK cf78.res) noE (endK cf78.res))
@[reducible] def b78_0 (c : CallT) (nl lo : Nat) (x0 x1 : AV) (M : MM) : Option (AV × MM) :=
 b78_5 c nl lo x0 x1 M
theorem t78_0 (c : CallT) (nl lo : Nat) (ρ : Rg) (M : MM) : k78_0 c nl lo ρ M = b78_0 c nl lo (ρ 0) (ρ 1) M := by
 have h : k78_0 c nl lo ρ M = (k78_5 c nl lo ρ M) := execC_seq c modeF lo nl p78_1 p78_22 (endK cf78.res) noE (endK cf78.res) ρ M
 rw [h]
 unfold b78_0; simp only [(t78_5 c nl lo)] <;> (show _ = _; kernel_rfl)
def k78_6 (c : CallT) (nl lo : Nat) : Rg → MM → Option (AV × MM) := (execC c modeF lo nl p78_0 (k78_0 c nl lo) noE (endK cf78.res))
@[reducible] def b78_6 (c : CallT) (nl lo : Nat) (x0 x1 : AV) (M : MM) : Option (AV × MM) :=
 b78_0 c nl lo x0 x1 M
theorem t78_6 (c : CallT) (nl lo : Nat) (ρ : Rg) (M : MM) : k78_6 c nl lo ρ M = b78_6 c nl lo (ρ 0) (ρ 1) M := by
 have h : ∀ (z0 : Rg → MM → Option (AV × MM)), (execC c modeF lo nl p78_0 z0 noE (endK cf78.res)) ρ M = (z0 ρ M) := by intros; kernel_rfl
 refine (h (k78_0 c nl lo)).trans ?_
 unfold b78_6; simp only [(t78_0 c nl lo)] <;> (show _ = _; kernel_rfl)
def s78 (c : CallT) (nl lo : Nat) (a0 a1 : AV) (M : MM) : Option (AV × MM) :=
 b78_6 c nl lo a0 a1 M
theorem e78 (c : CallT) (nl lo : Nat) (a0 a1 : AV) (M : MM) : execC c modeF lo nl cf78.body (endK cf78.res) noE (endK cf78.res) (aF [a0, a1]) M = s78 c nl lo a0 a1 M := by
 have h : execC c modeF lo nl cf78.body (endK cf78.res) noE (endK cf78.res) (aF [a0, a1]) M = (k78_6 c nl lo (aF [a0, a1]) M) := execC_seq c modeF lo nl p78_0 p78_23 (endK cf78.res) noE (endK cf78.res) (aF [a0, a1]) M
 refine h.trans ?_
 unfold s78; simp only [(t78_6 c nl lo)] <;> (show _ = _; kernel_rfl)
theorem q78 {c : CallT} (hc : Lim G c) (lo : Nat) (a0 a1 : AV) (M : MM) : c 78 [a0, a1] lo M = s78 c G.nl lo a0 a1 M :=
 (hc.flow (cf := cf78) rfl w78 [a0, a1] lo M).trans (e78 c G.nl lo a0 a1 M)

/-! ### function 79 -/
theorem w79 : wfK cf79.nt cf79.body = true := by kernel_rfl
def s79 (c : CallT) (nl lo : Nat) (a0 a1 : AV) (M : MM) : Option (AV × MM) :=
 opt (puA c (lk M) 86 [a0, a1]) fun v4 =>
 some (v4, M)
theorem e79 (c : CallT) (nl lo : Nat) (a0 a1 : AV) (M : MM) : execC c modeF lo nl cf79.body (endK cf79.res) noE (endK cf79.res) (aF [a0, a1]) M = s79 c nl lo a0 a1 M := by
 kernel_rfl
theorem q79 {c : CallT} (hc : Lim G c) (lo : Nat) (a0 a1 : AV) (M : MM) : c 79 [a0, a1] lo M = s79 c G.nl lo a0 a1 M :=
 (hc.flow (cf := cf79) rfl w79 [a0, a1] lo M).trans (e79 c G.nl lo a0 a1 M)

/-! ### function 80 -/
theorem w80 : wfK cf80.nt cf80.body = true := by kernel_rfl
def s80 (c : CallT) (nl lo : Nat) (a0 : AV) (M : MM) : Option (AV × MM) :=
 opt (lenA a0) fun v3 =>
 opt (binA .eql .none v3 (.i 0)) fun v4 =>
 isB v4 fun c5 => if c5 then (some ((.str ⟨⟨[]⟩⟩), M))
 else (opt (puA c (lk M) 87 [a0]) fun v8 =>
 opt (binA .add .none (.str ⟨⟨[91]⟩⟩) v8) fun v9 =>
 opt (binA .add .none v9 (.str ⟨⟨[93]⟩⟩)) fun v10 =>
 some (v10, M))
theorem e80 (c : CallT) (nl lo : Nat) (a0 : AV) (M : MM) : execC c modeF lo nl cf80.body (endK cf80.res) noE (endK cf80.res) (aF [a0]) M = s80 c nl lo a0 M := by
 kernel_rfl
theorem q80 {c : CallT} (hc : Lim G c) (lo : Nat) (a0 : AV) (M : MM) : c 80 [a0] lo M = s80 c G.nl lo a0 M :=
 (hc.flow (cf := cf80) rfl w80 [a0] lo M).trans (e80 c G.nl lo a0 M)

/-! ### function 81 -/
theorem w81 : wfK cf81.nt cf81.body = true := by kernel_rfl
def s81 (c : CallT) (nl lo : Nat) (a0 a1 : AV) (M : MM) : Option (AV × MM) :=
 opt (puA c (lk M) 86 [a0, a1]) fun v6 =>
 opt (binA .geq .none v6 (.i 0)) fun v9 =>
 isB v9 fun c10 => if c10 then (bumpK M 12 fun M11 =>
 opt (slstrA a0 none (some v6)) fun v14 =>
 opt (lensA a1) fun v18 =>
 opt (binA .add .none v6 v18) fun v19 =>
 opt (slstrA a0 (some v19) none) fun v20 =>
 some (.tup [v14, v20, (.bool true)], M11))
 else (some (.tup [a0, (.str ⟨⟨[]⟩⟩), (.bool false)], M))
theorem e81 (c : CallT) (nl lo : Nat) (a0 a1 : AV) (M : MM) : execC c modeF lo nl cf81.body (endK cf81.res) noE (endK cf81.res) (aF [a0, a1]) M = s81 c nl lo a0 a1 M := by
 kernel_rfl
theorem q81 {c : CallT} (hc : Lim G c) (lo : Nat) (a0 a1 : AV) (M : MM) : c 81 [a0, a1] lo M = s81 c G.nl lo a0 a1 M :=
 (hc.flow (cf := cf81) rfl w81 [a0, a1] lo M).trans (e81 c G.nl lo a0 a1 M)

/-! ### function 85 -/
theorem w85 : wfK cf85.nt cf85.body = true := by kernel_rfl
def k85_2 (c : CallT) (nl lo : Nat) : Rg → MM → Option (AV × MM) := (execC c modeF lo nl p85_21 (endK cf85.res) noE (endK cf85.res))
@[reducible] def b85_2 (c : CallT) (nl lo : Nat) (M : MM) : Option (AV × MM) :=
 some ((.i (-1)), M)
theorem t85_2 (c : CallT) (nl lo : Nat) (ρ : Rg) (M : MM) : k85_2 c nl lo ρ M = b85_2 c nl lo M := by
 kernel_rfl
def k85_4 (c : CallT) (nl lo : Nat) (n : Nat) : Rg → MM → Option (AV × MM) := iterC (fun k ρ M => execC c modeF lo nl p85_16 k (fun i ρ M => if i = 0 then (k85_2 c nl lo) ρ M else noE i ρ M) (endK cf85.res) ρ M) n
def b85_4 (c : CallT) (nl lo : Nat) : Nat → AV → AV → AV → AV → MM → Option (AV × MM)
 | 0, _, _, _, _, _ => none
 | n + 1, x0, x1, x7, x8, M =>
 opt (binA .lss .none x8 x7) fun v5 =>
 isB v5 fun c6 => if c6 then (opt (ixsA 1 x0 x8) fun v12 =>
 opt (ld1A (lk M) v12) fun v13 =>
 opt (binA .eql .none x1 v13) fun v14 =>
 isB v14 fun c15 => if c15 then (some (x8, M))
 else (opt (binA .add .none x8 (.i 1)) fun v18 =>
 (b85_4 c nl lo n) x0 x1 x7 v18 M))
 else (b85_2 c nl lo M)
theorem t85_4 (c : CallT) (nl lo : Nat) : ∀ (n : Nat) (ρ : Rg) (M : MM), k85_4 c nl lo n ρ M = b85_4 c nl lo n (ρ 0) (ρ 1) (ρ 7) (ρ 8) M
 | 0, ρ, M => rfl
 | n + 1, ρ, M => by
  have h : ∀ (zb z0 : Rg → MM → Option (AV × MM)), execC c modeF lo nl p85_16 zb (fun i ρ M => if i = 0 then z0 ρ M else noE i ρ M) (endK cf85.res) ρ M = (opt (binA .lss .none (ρ 8) (ρ 7)) fun v5 =>
  isB v5 fun c6 => if c6 then (opt (ixsA 1 (ρ 0) (ρ 8)) fun v12 =>
  opt (ld1A (lk M) v12) fun v13 =>
  opt (binA .eql .none (ρ 1) v13) fun v14 =>
  isB v14 fun c15 => if c15 then (some ((ρ 8), M))
  else (opt (binA .add .none (ρ 8) (.i 1)) fun v18 =>
  zb (sF (sF (sF (sF (sF (sF (sF (sF (sF (sF (sF ρ 9 v5) 10 (ρ 8)) 5 (ρ 8)) 11 (ρ 1)) 12 (ρ 0)) 13 (ρ 8)) 14 v12) 15 v13) 16 v14) 18 v18) 8 v18) M))
  else (z0 (sF ρ 9 v5) M)) := by intros; kernel_rfl
  refine (h (k85_4 c nl lo n) (k85_2 c nl lo)).trans ?_
  unfold b85_4; simp only [(t85_2 c nl lo), (t85_4 c nl lo n)] <;> (show _ = _; kernel_rfl)
def k85_3 (c : CallT) (nl lo : Nat) : Rg → MM → Option (AV × MM) := (execC c modeF lo nl p85_19 (k85_2 c nl lo) noE (endK cf85.res))
@[reducible] def b85_3 (c : CallT) (nl lo : Nat) (x0 x1 : AV) (M : MM) : Option (AV × MM) :=
 opt (lenA x0) fun v3 =>
 b85_4 c nl lo nl x0 x1 v3 (.i 0) M
theorem t85_3 (c : CallT) (nl lo : Nat) (ρ : Rg) (M : MM) : k85_3 c nl lo ρ M = b85_3 c nl lo (ρ 0) (ρ 1) M := by
 have h : k85_3 c nl lo ρ M = (opt (lenA (ρ 0)) fun v3 =>
 k85_4 c nl lo nl (sF (sF (sF ρ 6 (ρ 0)) 7 v3) 8 (.i 0)) M) := by kernel_rfl
 rw [h]
 unfold b85_3; simp only [(t85_4 c nl lo nl)] <;> (show _ = _; kernel_rfl)
def k85_1 (c : CallT) (nl lo : Nat) : Rg → MM → Option (AV × MM) := (execC c modeF lo nl p85_22 (endK cf85.res) noE (endK cf85.res))
@[reducible] def b85_1 (c : CallT) (nl lo : Nat) (x0 x1 : AV) (M : MM) : Option (AV × MM) :=
 b85_3 c nl lo x0 x1 M
theorem t85_1 (c : CallT) (nl lo : Nat) (ρ : Rg) (M : MM) : k85_1 c nl lo ρ M = b85_1 c nl lo (ρ 0) (ρ 1) M := by
 have h : k85_1 c nl lo ρ M = (k85_3 c nl lo ρ M) := execC_seq c modeF lo nl p85_19 p85_21 (endK cf85.res) noE (endK cf85.res) ρ M
 rw [h]
 unfold b85_1; simp only [(t85_3 c nl lo)] <;> (show _ = _; kernel_rfl)
def k85_5 (c : CallT) (nl lo : Nat) : Rg → MM → Option (AV × MM) := (execC c modeF lo nl p85_1 (k85_1 c nl lo) noE (endK cf85.res))
@[reducible] def b85_5 (c : CallT) (nl lo : Nat) (x0 x1 : AV) (M : MM) : Option (AV × MM) :=
 b85_1 c nl lo x0 x1 M
theorem t85_5 (c : CallT) (nl lo : Nat) (ρ : Rg) (M : MM) : k85_5 c nl lo ρ M = b85_5 c nl lo (ρ 0) (ρ 1) M := by
 have h : ∀ (z0 : Rg → MM → Option (AV × MM)), (execC c modeF lo nl p85_1 z0 noE (endK cf85.res)) ρ M = (z0 (sF ρ 4 (.i 0)) M) := by intros; kernel_rfl
 refine (h (k85_1 c nl lo)).trans ?_
 unfold b85_5; simp only [(t85_1 c nl lo)] <;> (show _ = _; kernel_rfl)
def k85_0 (c : CallT) (nl lo : Nat) : Rg → MM → Option (AV × MM) := (execC c modeF lo nl p85_23 (endK cf85.res) noE (endK cf85.res))
@[reducible] def b85_0 (c : CallT) (nl lo : Nat) (x0 x1 : AV) (M : MM) : Option (AV × MM) :=
 b85_5 c nl lo x0 x1 M
theorem t85_0 (c : CallT) (nl lo : Nat) (ρ : Rg) (M : MM) : k85_0 c nl lo ρ M = b85_0 c nl lo (ρ 0) (ρ 1) M := by
 have h : k85_0 c nl lo ρ M = (k85_5 c nl lo ρ M) := execC_seq c modeF lo nl p85_1 p85_22 (endK cf85.res) noE (endK cf85.res) ρ M
 rw [h]
 unfold b85_0; simp only [(t85_5 c nl lo)] <;> (show _ = _; kernel_rfl)
def k85_6 (c : CallT) (nl lo : Nat) : Rg → MM → Option (AV × MM) := (execC c modeF lo nl p85_0 (k85_0 c nl lo) noE (endK cf85.res))
@[reducible] def b85_6 (c : CallT) (nl lo : Nat) (x0 x1 : AV) (M : MM) : Option (AV × MM) :=
 b85_0 c nl lo x0 x1 M
theorem t85_6 (c : CallT) (nl lo : Nat) (ρ : Rg) (M : MM) : k85_6 c nl lo ρ M = b85_6 c nl lo (ρ 0) (ρ 1) M := by
 have h : ∀ (z0 : Rg → MM → Option (AV × MM)), (execC c modeF lo nl p85_0 z0 noE (endK cf85.res)) ρ M = (z0 ρ M) := by intros; kernel_rfl
 refine (h (k85_0 c nl lo)).trans ?_
 unfold b85_6; simp only [(t85_0 c nl lo)] <;> (show _ = _; kernel_rfl)
def s85 (c : CallT) (nl lo : Nat) (a0 a1 : AV) (M : MM) : Option (AV × MM) :=
 b85_6 c nl lo a0 a1 M
theorem e85 (c : CallT) (nl lo : Nat) (a0 a1 : AV) (M : MM) : execC c modeF lo nl cf85.body (endK cf85.res) noE (endK cf85.res) (aF [a0, a1]) M = s85 c nl lo a0 a1 M := by
 have h : execC c modeF lo nl cf85.body (endK cf85.res) noE (endK cf85.res) (aF [a0, a1]) M = (k85_6 c nl lo (aF [a0, a1]) M) := execC_seq c modeF lo nl p85_0 p85_23 (endK cf85.res) noE (endK cf85.res) (aF [a0, a1]) M
 refine h.trans ?_
 unfold s85; simp only [(t85_6 c nl lo)] <;> (show _ = _; kernel_rfl)
theorem q85 {c : CallT} (hc : Lim G c) (lo : Nat) (a0 a1 : AV) (M : MM) : c 85 [a0, a1] lo M = s85 c G.nl lo a0 a1 M :=
 (hc.flow (cf := cf85) rfl w85 [a0, a1] lo M).trans (e85 c G.nl lo a0 a1 M)

/-! ### function 87 -/
theorem w87 : wfK cf87.nt cf87.body = true := by kernel_rfl
def k87_3 (c : CallT) (nl lo : Nat) : Rg → MM → Option (AV × MM) := (execC c modeF lo nl p87_23 (endK cf87.res) noE (endK cf87.res))
@[reducible] def b87_3 (c : CallT) (nl lo : Nat) (x3 : AV) (M : MM) : Option (AV × MM) :=
 some (x3, M)
theorem t87_3 (c : CallT) (nl lo : Nat) (ρ : Rg) (M : MM) : k87_3 c nl lo ρ M = b87_3 c nl lo (ρ 3) M := by
 kernel_rfl
def k87_8 (c : CallT) (nl lo : Nat) (q87_5 : Rg → MM → Option (AV × MM)) : Rg → MM → Option (AV × MM) := (execC c modeF lo nl p87_15 q87_5 (fun i ρ M => if i = 0 then (k87_3 c nl lo) ρ M else noE i ρ M) (endK cf87.res))
@[reducible] def b87_8 (c : CallT) (nl lo : Nat) (j87_5 : AV → AV → AV → AV → MM → Option (AV × MM)) (x3 x6 x7 x8 : AV) (M : MM) : Option (AV × MM) :=
 opt (binA .add .none x8 (.i 1)) fun v6 =>
 j87_5 x3 x6 x7 v6 M
theorem t87_8 (c : CallT) (nl lo : Nat) (q87_5 : Rg → MM → Option (AV × MM)) (j87_5 : AV → AV → AV → AV → MM → Option (AV × MM)) (h87_5 : ∀ (ρ : Rg) (M : MM), q87_5 ρ M = j87_5 (ρ 3) (ρ 6) (ρ 7) (ρ 8) M) (ρ : Rg) (M : MM) : k87_8 c nl lo q87_5 ρ M = b87_8 c nl lo j87_5 (ρ 3) (ρ 6) (ρ 7) (ρ 8) M := by
 have h : k87_8 c nl lo q87_5 ρ M = (opt (binA .add .none (ρ 8) (.i 1)) fun v6 =>
 q87_5 (sF (sF ρ 21 v6) 8 v6) M) := by kernel_rfl
 rw [h]
 unfold b87_8; simp only [h87_5] <;> (show _ = _; kernel_rfl)
def k87_11 (c : CallT) (nl lo : Nat) (q87_5 : Rg → MM → Option (AV × MM)) : Rg → MM → Option (AV × MM) := (execC c modeF lo nl p87_11 (k87_8 c nl lo q87_5) (fun i ρ M => if i = 1 then (k87_8 c nl lo q87_5) ρ M else (fun i ρ M => if i = 0 then (k87_3 c nl lo) ρ M else noE i ρ M) i ρ M) (endK cf87.res))
@[reducible] def b87_11 (c : CallT) (nl lo : Nat) (j87_5 : AV → AV → AV → AV → MM → Option (AV × MM)) (x3 x5 x6 x7 x8 : AV) (M : MM) : Option (AV × MM) :=
 opt (fldA 0 2 true x5) fun v9 =>
 opt (puA c (lk M) 64 [v9]) fun v10 =>
 opt (binA .add .none x3 v10) fun v11 =>
 b87_8 c nl lo j87_5 v11 x6 x7 x8 M
theorem t87_11 (c : CallT) (nl lo : Nat) (q87_5 : Rg → MM → Option (AV × MM)) (j87_5 : AV → AV → AV → AV → MM → Option (AV × MM)) (h87_5 : ∀ (ρ : Rg) (M : MM), q87_5 ρ M = j87_5 (ρ 3) (ρ 6) (ρ 7) (ρ 8) M) (ρ : Rg) (M : MM) : k87_11 c nl lo q87_5 ρ M = b87_11 c nl lo j87_5 (ρ 3) (ρ 5) (ρ 6) (ρ 7) (ρ 8) M := by
 have h : ∀ (z0 : Rg → MM → Option (AV × MM)), (execC c modeF lo nl p87_11 z0 (fun i ρ M => if i = 1 then z0 ρ M else (fun i ρ M => if i = 0 then (k87_3 c nl lo) ρ M else noE i ρ M) i ρ M) (endK cf87.res)) ρ M = (opt (fldA 0 2 true (ρ 5)) fun v9 =>
 opt (puA c (lk M) 64 [v9]) fun v10 =>
 opt (binA .add .none (ρ 3) v10) fun v11 =>
 z0 (sF (sF (sF (sF (sF ρ 17 (ρ 3)) 18 v9) 19 v10) 20 v11) 3 v11) M) := by intros; kernel_rfl
 refine (h (k87_8 c nl lo q87_5)).trans ?_
 unfold b87_11; simp only [(t87_8 c nl lo q87_5 j87_5 h87_5), h87_5] <;> (show _ = _; kernel_rfl)
def k87_12 (c : CallT) (nl lo : Nat) (q87_5 : Rg → MM → Option (AV × MM)) : Rg → MM → Option (AV × MM) := (execC c modeF lo nl p87_10 (k87_11 c nl lo q87_5) (fun i ρ M => if i = 1 then (k87_8 c nl lo q87_5) ρ M else (fun i ρ M => if i = 0 then (k87_3 c nl lo) ρ M else noE i ρ M) i ρ M) (endK cf87.res))
@[reducible] def b87_12 (c : CallT) (nl lo : Nat) (j87_5 : AV → AV → AV → AV → MM → Option (AV × MM)) (x3 x4 x5 x6 x7 x8 : AV) (M : MM) : Option (AV × MM) :=
 opt (binA .gtr .none x4 (.i 0)) fun v14 =>
 isB v14 fun c15 => if c15 then (opt (binA .add .none x3 (.str ⟨⟨[44, 32]⟩⟩)) fun v17 =>
 b87_11 c nl lo j87_5 v17 x5 x6 x7 x8 M)
 else (b87_11 c nl lo j87_5 x3 x5 x6 x7 x8 M)
theorem t87_12 (c : CallT) (nl lo : Nat) (q87_5 : Rg → MM → Option (AV × MM)) (j87_5 : AV → AV → AV → AV → MM → Option (AV × MM)) (h87_5 : ∀ (ρ : Rg) (M : MM), q87_5 ρ M = j87_5 (ρ 3) (ρ 6) (ρ 7) (ρ 8) M) (ρ : Rg) (M : MM) : k87_12 c nl lo q87_5 ρ M = b87_12 c nl lo j87_5 (ρ 3) (ρ 4) (ρ 5) (ρ 6) (ρ 7) (ρ 8) M := by
 have h : ∀ (z0 : Rg → MM → Option (AV × MM)), (execC c modeF lo nl p87_10 z0 (fun i ρ M => if i = 1 then (k87_8 c nl lo q87_5) ρ M else (fun i ρ M => if i = 0 then (k87_3 c nl lo) ρ M else noE i ρ M) i ρ M) (endK cf87.res)) ρ M = (opt (binA .gtr .none (ρ 4) (.i 0)) fun v14 =>
 isB v14 fun c15 => if c15 then (opt (binA .add .none (ρ 3) (.str ⟨⟨[44, 32]⟩⟩)) fun v17 =>
 z0 (sF (sF (sF (sF (sF ρ 13 (ρ 4)) 14 v14) 15 (ρ 3)) 16 v17) 3 v17) M)
 else (z0 (sF (sF ρ 13 (ρ 4)) 14 v14) M)) := by intros; kernel_rfl
 refine (h (k87_11 c nl lo q87_5)).trans ?_
 unfold b87_12; simp only [(t87_11 c nl lo q87_5 j87_5 h87_5), h87_5] <;> (show _ = _; kernel_rfl)
def k87_10 (c : CallT) (nl lo : Nat) (q87_5 : Rg → MM → Option (AV × MM)) : Rg → MM → Option (AV × MM) := (execC c modeF lo nl p87_12 (k87_8 c nl lo q87_5) (fun i ρ M => if i = 1 then (k87_8 c nl lo q87_5) ρ M else (fun i ρ M => if i = 0 then (k87_3 c nl lo) ρ M else noE i ρ M) i ρ M) (endK cf87.res))
@[reducible] def b87_10 (c : CallT) (nl lo : Nat) (j87_5 : AV → AV → AV → AV → MM → Option (AV × MM)) (x3 x4 x5 x6 x7 x8 : AV) (M : MM) : Option (AV × MM) :=
 b87_12 c nl lo j87_5 x3 x4 x5 x6 x7 x8 M
theorem t87_10 (c : CallT) (nl lo : Nat) (q87_5 : Rg → MM → Option (AV × MM)) (j87_5 : AV → AV → AV → AV → MM → Option (AV × MM)) (h87_5 : ∀ (ρ : Rg) (M : MM), q87_5 ρ M = j87_5 (ρ 3) (ρ 6) (ρ 7) (ρ 8) M) (ρ : Rg) (M : MM) : k87_10 c nl lo q87_5 ρ M = b87_10 c nl lo j87_5 (ρ 3) (ρ 4) (ρ 5) (ρ 6) (ρ 7) (ρ 8) M := by
 have h : k87_10 c nl lo q87_5 ρ M = (k87_12 c nl lo q87_5 ρ M) := execC_seq c modeF lo nl p87_10 p87_11 (k87_8 c nl lo q87_5) (fun i ρ M => if i = 1 then (k87_8 c nl lo q87_5) ρ M else (fun i ρ M => if i = 0 then (k87_3 c nl lo) ρ M else noE i ρ M) i ρ M) (endK cf87.res) ρ M
 rw [h]
 unfold b87_10; simp only [(t87_12 c nl lo q87_5 j87_5 h87_5), h87_5] <;> (show _ = _; kernel_rfl)
def k87_13 (c : CallT) (nl lo : Nat) (q87_5 : Rg → MM → Option (AV × MM)) : Rg → MM → Option (AV × MM) := (execC c modeF lo nl p87_6 (k87_10 c nl lo q87_5) (fun i ρ M => if i = 1 then (k87_8 c nl lo q87_5) ρ M else (fun i ρ M => if i = 0 then (k87_3 c nl lo) ρ M else noE i ρ M) i ρ M) (endK cf87.res))
@[reducible] def b87_13 (c : CallT) (nl lo : Nat) (j87_5 : AV → AV → AV → AV → MM → Option (AV × MM)) (x3 x6 x7 x8 : AV) (M : MM) : Option (AV × MM) :=
 opt (ixsA 2 x6 x8) fun v9 =>
 opt (ldnA (lk M) 2 v9) fun v10 =>
 upK M M.nx fun M12 =>
 opt (setcA 0 2 (.agg [.str ⟨⟨[]⟩⟩, .d (.sl [] 0)]) v10) fun v14 =>
 b87_10 c nl lo j87_5 x3 x8 v14 x6 x7 x8 M12
theorem t87_13 (c : CallT) (nl lo : Nat) (q87_5 : Rg → MM → Option (AV × MM)) (j87_5 : AV → AV → AV → AV → MM → Option (AV × MM)) (h87_5 : ∀ (ρ : Rg) (M : MM), q87_5 ρ M = j87_5 (ρ 3) (ρ 6) (ρ 7) (ρ 8) M) (ρ : Rg) (M : MM) : k87_13 c nl lo q87_5 ρ M = b87_13 c nl lo j87_5 (ρ 3) (ρ 6) (ρ 7) (ρ 8) M := by
 have h : ∀ (z0 : Rg → MM → Option (AV × MM)), (execC c modeF lo nl p87_6 z0 (fun i ρ M => if i = 1 then (k87_8 c nl lo q87_5) ρ M else (fun i ρ M => if i = 0 then (k87_3 c nl lo) ρ M else noE i ρ M) i ρ M) (endK cf87.res)) ρ M = (opt (ixsA 2 (ρ 6) (ρ 8)) fun v9 =>
 opt (ldnA (lk M) 2 v9) fun v10 =>
 upK M M.nx fun M12 =>
 opt (setcA 0 2 (.agg [.str ⟨⟨[]⟩⟩, .d (.sl [] 0)]) v10) fun v14 =>
 z0 (sF (sF (sF (sF (sF (sF ρ 10 (ρ 8)) 11 v9) 12 v10) 5 (.agg [.str ⟨⟨[]⟩⟩, .d (.sl [] 0)])) 4 (ρ 8)) 5 v14) M12) := by intros; kernel_rfl
 refine (h (k87_10 c nl lo q87_5)).trans ?_
 unfold b87_13; simp only [(t87_10 c nl lo q87_5 j87_5 h87_5), h87_5] <;> (show _ = _; kernel_rfl)
def k87_9 (c : CallT) (nl lo : Nat) (q87_5 : Rg → MM → Option (AV × MM)) : Rg → MM → Option (AV × MM) := (execC c modeF lo nl p87_14 (k87_8 c nl lo q87_5) (fun i ρ M => if i = 0 then (k87_3 c nl lo) ρ M else noE i ρ M) (endK cf87.res))
@[reducible] def b87_9 (c : CallT) (nl lo : Nat) (j87_5 : AV → AV → AV → AV → MM → Option (AV × MM)) (x3 x6 x7 x8 : AV) (M : MM) : Option (AV × MM) :=
 b87_13 c nl lo j87_5 x3 x6 x7 x8 M
theorem t87_9 (c : CallT) (nl lo : Nat) (q87_5 : Rg → MM → Option (AV × MM)) (j87_5 : AV → AV → AV → AV → MM → Option (AV × MM)) (h87_5 : ∀ (ρ : Rg) (M : MM), q87_5 ρ M = j87_5 (ρ 3) (ρ 6) (ρ 7) (ρ 8) M) (ρ : Rg) (M : MM) : k87_9 c nl lo q87_5 ρ M = b87_9 c nl lo j87_5 (ρ 3) (ρ 6) (ρ 7) (ρ 8) M := by
 have h : k87_9 c nl lo q87_5 ρ M = (k87_13 c nl lo q87_5 ρ M) := by kernel_rfl
 rw [h]
 unfold b87_9; simp only [(t87_13 c nl lo q87_5 j87_5 h87_5), h87_5] <;> (show _ = _; kernel_rfl)
def k87_7 (c : CallT) (nl lo : Nat) (q87_5 : Rg → MM → Option (AV × MM)) : Rg → MM → Option (AV × MM) := (execC c modeF lo nl p87_16 q87_5 (fun i ρ M => if i = 0 then (k87_3 c nl lo) ρ M else noE i ρ M) (endK cf87.res))
@[reducible] def b87_7 (c : CallT) (nl lo : Nat) (j87_5 : AV → AV → AV → AV → MM → Option (AV × MM)) (x3 x6 x7 x8 : AV) (M : MM) : Option (AV × MM) :=
 b87_9 c nl lo j87_5 x3 x6 x7 x8 M
theorem t87_7 (c : CallT) (nl lo : Nat) (q87_5 : Rg → MM → Option (AV × MM)) (j87_5 : AV → AV → AV → AV → MM → Option (AV × MM)) (h87_5 : ∀ (ρ : Rg) (M : MM), q87_5 ρ M = j87_5 (ρ 3) (ρ 6) (ρ 7) (ρ 8) M) (ρ : Rg) (M : MM) : k87_7 c nl lo q87_5 ρ M = b87_7 c nl lo j87_5 (ρ 3) (ρ 6) (ρ 7) (ρ 8) M := by
 have h : k87_7 c nl lo q87_5 ρ M = (k87_9 c nl lo q87_5 ρ M) := execC_seq c modeF lo nl p87_14 p87_15 q87_5 (fun i ρ M => if i = 0 then (k87_3 c nl lo) ρ M else noE i ρ M) (endK cf87.res) ρ M
 rw [h]
 unfold b87_7; simp only [(t87_9 c nl lo q87_5 j87_5 h87_5), h87_5] <;> (show _ = _; kernel_rfl)
def k87_14 (c : CallT) (nl lo : Nat) (q87_5 : Rg → MM → Option (AV × MM)) : Rg → MM → Option (AV × MM) := (execC c modeF lo nl p87_5 (k87_7 c nl lo q87_5) (fun i ρ M => if i = 0 then (k87_3 c nl lo) ρ M else noE i ρ M) (endK cf87.res))
@[reducible] def b87_14 (c : CallT) (nl lo : Nat) (j87_5 : AV → AV → AV → AV → MM → Option (AV × MM)) (x3 x6 x7 x8 x9 : AV) (M : MM) : Option (AV × MM) :=
 isB x9 fun c6 => if c6 then (b87_7 c nl lo j87_5 x3 x6 x7 x8 M)
 else (b87_3 c nl lo x3 M)
theorem t87_14 (c : CallT) (nl lo : Nat) (q87_5 : Rg → MM → Option (AV × MM)) (j87_5 : AV → AV → AV → AV → MM → Option (AV × MM)) (h87_5 : ∀ (ρ : Rg) (M : MM), q87_5 ρ M = j87_5 (ρ 3) (ρ 6) (ρ 7) (ρ 8) M) (ρ : Rg) (M : MM) : k87_14 c nl lo q87_5 ρ M = b87_14 c nl lo j87_5 (ρ 3) (ρ 6) (ρ 7) (ρ 8) (ρ 9) M := by
 have h : ∀ (z0 z1 : Rg → MM → Option (AV × MM)), (execC c modeF lo nl p87_5 z1 (fun i ρ M => if i = 0 then z0 ρ M else noE i ρ M) (endK cf87.res)) ρ M = (isB (ρ 9) fun c6 => if c6 then (z1 ρ M)
 else (z0 ρ M)) := by intros; kernel_rfl
 refine (h (k87_3 c nl lo) (k87_7 c nl lo q87_5)).trans ?_
 unfold b87_14; simp only [(t87_3 c nl lo), (t87_7 c nl lo q87_5 j87_5 h87_5), h87_5] <;> (show _ = _; kernel_rfl)
def k87_6 (c : CallT) (nl lo : Nat) (q87_5 : Rg → MM → Option (AV × MM)) : Rg → MM → Option (AV × MM) := (execC c modeF lo nl p87_17 q87_5 (fun i ρ M => if i = 0 then (k87_3 c nl lo) ρ M else noE i ρ M) (endK cf87.res))
@[reducible] def b87_6 (c : CallT) (nl lo : Nat) (j87_5 : AV → AV → AV → AV → MM → Option (AV × MM)) (x3 x6 x7 x8 x9 : AV) (M : MM) : Option (AV × MM) :=
 b87_14 c nl lo j87_5 x3 x6 x7 x8 x9 M
theorem t87_6 (c : CallT) (nl lo : Nat) (q87_5 : Rg → MM → Option (AV × MM)) (j87_5 : AV → AV → AV → AV → MM → Option (AV × MM)) (h87_5 : ∀ (ρ : Rg) (M : MM), q87_5 ρ M = j87_5 (ρ 3) (ρ 6) (ρ 7) (ρ 8) M) (ρ : Rg) (M : MM) : k87_6 c nl lo q87_5 ρ M = b87_6 c nl lo j87_5 (ρ 3) (ρ 6) (ρ 7) (ρ 8) (ρ 9) M := by
 have h : k87_6 c nl lo q87_5 ρ M = (k87_14 c nl lo q87_5 ρ M) := execC_seq c modeF lo nl p87_5 p87_16 q87_5 (fun i ρ M => if i = 0 then (k87_3 c nl lo) ρ M else noE i ρ M) (endK cf87.res) ρ M
 rw [h]
 unfold b87_6; simp only [(t87_14 c nl lo q87_5 j87_5 h87_5), h87_5] <;> (show _ = _; kernel_rfl)
def k87_15 (c : CallT) (nl lo : Nat) (q87_5 : Rg → MM → Option (AV × MM)) : Rg → MM → Option (AV × MM) := (execC c modeF lo nl p87_4 (k87_6 c nl lo q87_5) (fun i ρ M => if i = 0 then (k87_3 c nl lo) ρ M else noE i ρ M) (endK cf87.res))
@[reducible] def b87_15 (c : CallT) (nl lo : Nat) (j87_5 : AV → AV → AV → AV → MM → Option (AV × MM)) (x3 x6 x7 x8 : AV) (M : MM) : Option (AV × MM) :=
 opt (binA .lss .none x8 x7) fun v6 =>
 b87_6 c nl lo j87_5 x3 x6 x7 x8 v6 M
theorem t87_15 (c : CallT) (nl lo : Nat) (q87_5 : Rg → MM → Option (AV × MM)) (j87_5 : AV → AV → AV → AV → MM → Option (AV × MM)) (h87_5 : ∀ (ρ : Rg) (M : MM), q87_5 ρ M = j87_5 (ρ 3) (ρ 6) (ρ 7) (ρ 8) M) (ρ : Rg) (M : MM) : k87_15 c nl lo q87_5 ρ M = b87_15 c nl lo j87_5 (ρ 3) (ρ 6) (ρ 7) (ρ 8) M := by
 have h : ∀ (z0 : Rg → MM → Option (AV × MM)), (execC c modeF lo nl p87_4 z0 (fun i ρ M => if i = 0 then (k87_3 c nl lo) ρ M else noE i ρ M) (endK cf87.res)) ρ M = (opt (binA .lss .none (ρ 8) (ρ 7)) fun v6 =>
 z0 (sF ρ 9 v6) M) := by intros; kernel_rfl
 refine (h (k87_6 c nl lo q87_5)).trans ?_
 unfold b87_15; simp only [(t87_6 c nl lo q87_5 j87_5 h87_5), h87_5] <;> (show _ = _; kernel_rfl)
def k87_5 (c : CallT) (nl lo : Nat) (n : Nat) : Rg → MM → Option (AV × MM) := iterC (fun k ρ M => execC c modeF lo nl p87_18 k (fun i ρ M => if i = 0 then (k87_3 c nl lo) ρ M else noE i ρ M) (endK cf87.res) ρ M) n
def b87_5 (c : CallT) (nl lo : Nat) : Nat → AV → AV → AV → AV → MM → Option (AV × MM)
 | 0, _, _, _, _, _ => none
 | n + 1, x3, x6, x7, x8, M =>
 b87_15 c nl lo (b87_5 c nl lo n) x3 x6 x7 x8 M
theorem t87_5 (c : CallT) (nl lo : Nat) : ∀ (n : Nat) (ρ : Rg) (M : MM), k87_5 c nl lo n ρ M = b87_5 c nl lo n (ρ 3) (ρ 6) (ρ 7) (ρ 8) M
 | 0, ρ, M => rfl
 | n + 1, ρ, M => by
  have h : k87_5 c nl lo (n + 1) ρ M = (k87_15 c nl lo (k87_5 c nl lo n) ρ M) := execC_seq c modeF lo nl p87_4 p87_17 (k87_5 c nl lo n) (fun i ρ M => if i = 0 then (k87_3 c nl lo) ρ M else noE i ρ M) (endK cf87.res) ρ M
  rw [h]
  unfold b87_5; simp only [(t87_15 c nl lo (k87_5 c nl lo n) (b87_5 c nl lo n) (t87_5 c nl lo n)), (t87_5 c nl lo n)] <;> (show _ = _; kernel_rfl)
def k87_4 (c : CallT) (nl lo : Nat) : Rg → MM → Option (AV × MM) := (execC c modeF lo nl p87_21 (k87_3 c nl lo) noE (endK cf87.res))
@[reducible] def b87_4 (c : CallT) (nl lo : Nat) (x0 x3 : AV) (M : MM) : Option (AV × MM) :=
 opt (lenA x0) fun v4 =>
 b87_5 c nl lo nl x3 x0 v4 (.i 0) M
theorem t87_4 (c : CallT) (nl lo : Nat) (ρ : Rg) (M : MM) : k87_4 c nl lo ρ M = b87_4 c nl lo (ρ 0) (ρ 3) M := by
 have h : k87_4 c nl lo ρ M = (opt (lenA (ρ 0)) fun v4 =>
 k87_5 c nl lo nl (sF (sF (sF ρ 6 (ρ 0)) 7 v4) 8 (.i 0)) M) := by kernel_rfl
 rw [h]
 unfold b87_4; simp only [(t87_5 c nl lo nl)] <;> (show _ = _; kernel_rfl)
def k87_2 (c : CallT) (nl lo : Nat) : Rg → MM → Option (AV × MM) := (execC c modeF lo nl p87_24 (endK cf87.res) noE (endK cf87.res))
@[reducible] def b87_2 (c : CallT) (nl lo : Nat) (x0 x3 : AV) (M : MM) : Option (AV × MM) :=
 b87_4 c nl lo x0 x3 M
theorem t87_2 (c : CallT) (nl lo : Nat) (ρ : Rg) (M : MM) : k87_2 c nl lo ρ M = b87_2 c nl lo (ρ 0) (ρ 3) M := by
 have h : k87_2 c nl lo ρ M = (k87_4 c nl lo ρ M) := execC_seq c modeF lo nl p87_21 p87_23 (endK cf87.res) noE (endK cf87.res) ρ M
 rw [h]
 unfold b87_2; simp only [(t87_4 c nl lo)] <;> (show _ = _; kernel_rfl)
def k87_16 (c : CallT) (nl lo : Nat) : Rg → MM → Option (AV × MM) := (execC c modeF lo nl p87_2 (k87_2 c nl lo) noE (endK cf87.res))
@[reducible] def b87_16 (c : CallT) (nl lo : Nat) (x0 : AV) (M : MM) : Option (AV × MM) :=
 b87_2 c nl lo x0 (.str ⟨⟨[]⟩⟩) M
theorem t87_16 (c : CallT) (nl lo : Nat) (ρ : Rg) (M : MM) : k87_16 c nl lo ρ M = b87_16 c nl lo (ρ 0) M := by
 have h : ∀ (z0 : Rg → MM → Option (AV × MM)), (execC c modeF lo nl p87_2 z0 noE (endK cf87.res)) ρ M = (z0 (sF ρ 3 (.str ⟨⟨[]⟩⟩)) M) := by intros; kernel_rfl
 refine (h (k87_2 c nl lo)).trans ?_
 unfold b87_16; simp only [(t87_2 c nl lo)] <;> (show _ = _; kernel_rfl)
def k87_1 (c : CallT) (nl lo : Nat) : Rg → MM → Option (AV × MM) := (execC c modeF lo nl p87_25 (endK cf87.res) noE (endK cf87.res))
@[reducible] def b87_1 (c : CallT) (nl lo : Nat) (x0 : AV) (M : MM) : Option (AV × MM) :=
 b87_16 c nl lo x0 M
theorem t87_1 (c : CallT) (nl lo : Nat) (ρ : Rg) (M : MM) : k87_1 c nl lo ρ M = b87_1 c nl lo (ρ 0) M := by
 have h : k87_1 c nl lo ρ M = (k87_16 c nl lo ρ M) := execC_seq c modeF lo nl p87_2 p87_24 (endK cf87.res) noE (endK cf87.res) ρ M
 rw [h]
 unfold b87_1; simp only [(t87_16 c nl lo)] <;> (show _ = _; kernel_rfl)
def k87_17 (c : CallT) (nl lo : Nat) : Rg → MM → Option (AV × MM) := (execC c modeF lo nl p87_1 (k87_1 c nl lo) noE (endK cf87.res))
@[reducible] def b87_17 (c : CallT) (nl lo : Nat) (x0 : AV) (M : MM) : Option (AV × MM) :=
 b87_1 c nl lo x0 M
theorem t87_17 (c : CallT) (nl lo : Nat) (ρ : Rg) (M : MM) : k87_17 c nl lo ρ M = b87_17 c nl lo (ρ 0) M := by
 have h : ∀ (z0 : Rg → MM → Option (AV × MM)), (execC c modeF lo nl p87_1 z0 noE (endK cf87.res)) ρ M = (z0 (sF ρ 2 (.str ⟨⟨[]⟩⟩)) M) := by intros; kernel_rfl
 refine (h (k87_1 c nl lo)).trans ?_
 unfold b87_17; simp only [(t87_1 c nl lo)] <;> (show _ = _; kernel_rfl)
def k87_0 (c : CallT) (nl lo : Nat) : Rg → MM → Option (AV × MM) := (execC c modeF lo nl p87_26 (endK cf87.res) noE (endK cf87.res))
@[reducible] def b87_0 (c : CallT) (nl lo : Nat) (x0 : AV) (M : MM) : Option (AV × MM) :=
 b87_17 c nl lo x0 M
theorem t87_0 (c : CallT) (nl lo : Nat) (ρ : Rg) (M : MM) : k87_0 c nl lo ρ M = b87_0 c nl lo (ρ 0) M := by
 have h : k87_0 c nl lo ρ M = (k87_17 c nl lo ρ M) := execC_seq c modeF lo nl p87_1 p87_25 (endK cf87.res) noE (endK cf87.res) ρ M
 rw [h]
 unfold b87_0; simp only [(t87_17 c nl lo)] <;> (show _ = _; kernel_rfl)
def k87_18 (c : CallT) (nl lo : Nat) : Rg → MM → Option (AV × MM) := (execC c modeF lo nl p87_0 (k87_0 c nl lo) noE (endK cf87.res))
@[reducible] def b87_18 (c : CallT) (nl lo : Nat) (x0 : AV) (M : MM) : Option (AV × MM) :=
 b87_0 c nl lo x0 M
theorem t87_18 (c : CallT) (nl lo : Nat) (ρ : Rg) (M : MM) : k87_18 c nl lo ρ M = b87_18 c nl lo (ρ 0) M := by
 have h : ∀ (z0 : Rg → MM → Option (AV × MM)), (execC c modeF lo nl p87_0 z0 noE (endK cf87.res)) ρ M = (z0 (sF ρ 5 (.tup [])) M) := by intros; kernel_rfl
 refine (h (k87_0 c nl lo)).trans ?_
 unfold b87_18; simp only [(t87_0 c nl lo)] <;> (show _ = _; kernel_rfl)
def s87 (c : CallT) (nl lo : Nat) (a0 : AV) (M : MM) : Option (AV × MM) :=
 b87_18 c nl lo a0 M
theorem e87 (c : CallT) (nl lo : Nat) (a0 : AV) (M : MM) : execC c modeF lo nl cf87.body (endK cf87.res) noE (endK cf87.res) (aF [a0]) M = s87 c nl lo a0 M := by
 have h : execC c modeF lo nl cf87.body (endK cf87.res) noE (endK cf87.res) (aF [a0]) M = (k87_18 c nl lo (aF [a0]) M) := execC_seq c modeF lo nl p87_0 p87_26 (endK cf87.res) noE (endK cf87.res) (aF [a0]) M
 refine h.trans ?_
 unfold s87; simp only [(t87_18 c nl lo)] <;> (show _ = _; kernel_rfl)
theorem q87 {c : CallT} (hc : Lim G c) (lo : Nat) (a0 : AV) (M : MM) : c 87 [a0] lo M = s87 c G.nl lo a0 M :=
 (hc.flow (cf := cf87) rfl w87 [a0] lo M).trans (e87 c G.nl lo a0 M)
end Go.Proofs.Ytcoagkfjdpdohaa.Sx
