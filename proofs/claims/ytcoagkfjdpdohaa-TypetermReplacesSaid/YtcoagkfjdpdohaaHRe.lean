/- THE SEAT's FUNCTIONS AS DEFINITIONS WITHOUT REGISTERS, printed by program; 'eq..' holds each against the abstract machine's code. -/
import Derived.Test.YtcoagkfjdpdohaaH0Re
namespace Go.Proofs.Ytcoagkfjdpdohaa.Sx
open Go
set_option maxRecDepth 1000000
set_option linter.unusedVariables false
set_option linter.unusedSimpArgs false

/-! ### function 50 -/
theorem w50 : wfK cf50.nt cf50.body = true := by kernel_rfl
def k50_4 (c : CallT) (nl lo : Nat) : Rg → MM → Option (AV × MM) := (execC c modeF lo nl p50_25 (endK cf50.res) noE (endK cf50.res))
@[reducible] def b50_4 (c : CallT) (nl lo : Nat) (x6 x8 : AV) (M : MM) : Option (AV × MM) :=
 opt (fldA 0 2 true x8) fun v1 =>
 opt (setcA 0 2 x6 v1) fun v2 =>
 opt (locA 2 true v2) fun r => some (r, M)
theorem t50_4 (c : CallT) (nl lo : Nat) (ρ : Rg) (M : MM) : k50_4 c nl lo ρ M = b50_4 c nl lo (ρ 6) (ρ 8) M := by
 kernel_rfl
def k50_6 (c : CallT) (nl lo : Nat) (n : Nat) : Rg → MM → Option (AV × MM) := iterC (fun k ρ M => execC c modeF lo nl p50_20 k (fun i ρ M => if i = 0 then (k50_4 c nl lo) ρ M else noE i ρ M) (endK cf50.res) ρ M) n
def b50_6 (c : CallT) (nl lo : Nat) : Nat → AV → AV → AV → AV → AV → AV → AV → MM → Option (AV × MM)
 | 0, _, _, _, _, _, _, _, _ => none
 | n + 1, x1, x2, x6, x8, x32, x33, x34, M =>
 opt (binA .lss .none x34 x33) fun v7 =>
 isB v7 fun c8 => if c8 then (opt (ixsA 2 x32 x34) fun v9 =>
 opt (ldnA (lk M) 2 v9) fun v10 =>
 upK M M.nx fun M12 =>
 opt (setcA 0 2 (.agg [.str ⟨⟨[]⟩⟩, .d (.sl [] 0)]) v10) fun v13 =>
 bumpK M12 10 fun M14 =>
 opt (fldA 0 0 true x8) fun v15 =>
 opt (fldA 1 1 false x8) fun v16 =>
 opt (fldA 0 2 true v13) fun v17 =>
 opt (puA c (look M14.mem (.mk M12.nx 10 28 true)) 50 [v17, x1, x2]) fun v20 =>
 opt (wslA 1 (fill [.str ⟨⟨[]⟩⟩, .d (.sl [] 0)] [(0, 2, v20)])) fun v21 =>
 upK M14 (M12.nx + 6) fun M22 =>
 opt (wappA M22.mem (.top M22.nx) 2 40 v16 v21) fun v23 =>
 upK M22 (M12.nx + 7) fun M24 =>
 opt (fldA 0 0 true x8) fun v25 =>
 opt (setcA 1 1 x8 v23) fun v26 =>
 opt (binA .add .none x34 (.i 1)) fun v27 =>
 (b50_6 c nl lo n) x1 x2 x6 v26 x32 x33 v27 M24)
 else (b50_4 c nl lo x6 x8 M)
theorem t50_6 (c : CallT) (nl lo : Nat) : ∀ (n : Nat) (ρ : Rg) (M : MM), k50_6 c nl lo n ρ M = b50_6 c nl lo n (ρ 1) (ρ 2) (ρ 6) (ρ 8) (ρ 32) (ρ 33) (ρ 34) M
 | 0, ρ, M => rfl
 | n + 1, ρ, M => by
  have h : ∀ (zb z0 : Rg → MM → Option (AV × MM)), execC c modeF lo nl p50_20 zb (fun i ρ M => if i = 0 then z0 ρ M else noE i ρ M) (endK cf50.res) ρ M = (opt (binA .lss .none (ρ 34) (ρ 33)) fun v7 =>
  isB v7 fun c8 => if c8 then (opt (ixsA 2 (ρ 32) (ρ 34)) fun v9 =>
  opt (ldnA (lk M) 2 v9) fun v10 =>
  upK M M.nx fun M12 =>
  opt (setcA 0 2 (.agg [.str ⟨⟨[]⟩⟩, .d (.sl [] 0)]) v10) fun v13 =>
  bumpK M12 10 fun M14 =>
  opt (fldA 0 0 true (ρ 8)) fun v15 =>
  opt (fldA 1 1 false (ρ 8)) fun v16 =>
  opt (fldA 0 2 true v13) fun v17 =>
  opt (puA c (look M14.mem (.mk M12.nx 10 28 true)) 50 [v17, (ρ 1), (ρ 2)]) fun v20 =>
  opt (wslA 1 (fill [.str ⟨⟨[]⟩⟩, .d (.sl [] 0)] [(0, 2, v20)])) fun v21 =>
  upK M14 (M12.nx + 6) fun M22 =>
  opt (wappA M22.mem (.top M22.nx) 2 40 v16 v21) fun v23 =>
  upK M22 (M12.nx + 7) fun M24 =>
  opt (fldA 0 0 true (ρ 8)) fun v25 =>
  opt (setcA 1 1 (ρ 8) v23) fun v26 =>
  opt (binA .add .none (ρ 34) (.i 1)) fun v27 =>
  zb (sF (sF (sF (sF (sF (sF (sF (sF (sF (sF (sF (sF (sF (sF (sF (sF (sF ρ 35 v7) 36 v9) 37 v10) 10 (.agg [.str ⟨⟨[]⟩⟩, .d (.sl [] 0)])) 10 v13) 38 v15) 39 v16) 40 v17) 41 (ρ 1)) 42 (ρ 2)) 43 v20) 44 v21) 45 v23) 46 v25) 8 v26) 47 v27) 34 v27) M24)
  else (z0 (sF ρ 35 v7) M)) := by intros; kernel_rfl
  refine (h (k50_6 c nl lo n) (k50_4 c nl lo)).trans ?_
  unfold b50_6; simp only [(t50_4 c nl lo), (t50_6 c nl lo n)] <;> (show _ = _; kernel_rfl)
def k50_5 (c : CallT) (nl lo : Nat) : Rg → MM → Option (AV × MM) := (execC c modeF lo nl p50_23 (k50_4 c nl lo) noE (endK cf50.res))
@[reducible] def b50_5 (c : CallT) (nl lo : Nat) (x1 x2 x3 x6 x8 : AV) (M : MM) : Option (AV × MM) :=
 opt (fldA 0 0 true x3) fun v3 =>
 opt (fldA 1 1 false x3) fun v4 =>
 opt (lenA v4) fun v5 =>
 b50_6 c nl lo nl x1 x2 x6 x8 v4 v5 (.i 0) M
theorem t50_5 (c : CallT) (nl lo : Nat) (ρ : Rg) (M : MM) : k50_5 c nl lo ρ M = b50_5 c nl lo (ρ 1) (ρ 2) (ρ 3) (ρ 6) (ρ 8) M := by
 have h : k50_5 c nl lo ρ M = (opt (fldA 0 0 true (ρ 3)) fun v3 =>
 opt (fldA 1 1 false (ρ 3)) fun v4 =>
 opt (lenA v4) fun v5 =>
 k50_6 c nl lo nl (sF (sF (sF (sF ρ 31 v3) 32 v4) 33 v5) 34 (.i 0)) M) := by kernel_rfl
 rw [h]
 unfold b50_5; simp only [(t50_6 c nl lo nl)] <;> (show _ = _; kernel_rfl)
def k50_3 (c : CallT) (nl lo : Nat) : Rg → MM → Option (AV × MM) := (execC c modeF lo nl p50_26 (endK cf50.res) noE (endK cf50.res))
@[reducible] def b50_3 (c : CallT) (nl lo : Nat) (x1 x2 x3 x6 x8 : AV) (M : MM) : Option (AV × MM) :=
 b50_5 c nl lo x1 x2 x3 x6 x8 M
theorem t50_3 (c : CallT) (nl lo : Nat) (ρ : Rg) (M : MM) : k50_3 c nl lo ρ M = b50_3 c nl lo (ρ 1) (ρ 2) (ρ 3) (ρ 6) (ρ 8) M := by
 have h : k50_3 c nl lo ρ M = (k50_5 c nl lo ρ M) := execC_seq c modeF lo nl p50_23 p50_25 (endK cf50.res) noE (endK cf50.res) ρ M
 rw [h]
 unfold b50_3; simp only [(t50_5 c nl lo)] <;> (show _ = _; kernel_rfl)
def k50_7 (c : CallT) (nl lo : Nat) : Rg → MM → Option (AV × MM) := (execC c modeF lo nl p50_9 (k50_3 c nl lo) noE (endK cf50.res))
@[reducible] def b50_7 (c : CallT) (nl lo : Nat) (x1 x2 x3 x6 : AV) (M : MM) : Option (AV × MM) :=
 opt (fldA 0 0 true x3) fun v1 =>
 opt (fldA 0 1 false x3) fun v2 =>
 opt ((fill [.str ⟨⟨[]⟩⟩, .d (.sl [] 0)] [(0, 1, v2)]).map .agg) fun v3 =>
 upK M M.nx fun M5 =>
 opt (setcA 0 2 (.agg [.str ⟨⟨[]⟩⟩, .d (.sl [] 0)]) v3) fun v6 =>
 b50_3 c nl lo x1 x2 x3 x6 v6 M5
theorem t50_7 (c : CallT) (nl lo : Nat) (ρ : Rg) (M : MM) : k50_7 c nl lo ρ M = b50_7 c nl lo (ρ 1) (ρ 2) (ρ 3) (ρ 6) M := by
 have h : ∀ (z0 : Rg → MM → Option (AV × MM)), (execC c modeF lo nl p50_9 z0 noE (endK cf50.res)) ρ M = (opt (fldA 0 0 true (ρ 3)) fun v1 =>
 opt (fldA 0 1 false (ρ 3)) fun v2 =>
 opt ((fill [.str ⟨⟨[]⟩⟩, .d (.sl [] 0)] [(0, 1, v2)]).map .agg) fun v3 =>
 upK M M.nx fun M5 =>
 opt (setcA 0 2 (.agg [.str ⟨⟨[]⟩⟩, .d (.sl [] 0)]) v3) fun v6 =>
 z0 (sF (sF (sF (sF (sF ρ 28 v1) 29 v2) 30 v3) 8 (.agg [.str ⟨⟨[]⟩⟩, .d (.sl [] 0)])) 8 v6) M5) := by intros; kernel_rfl
 refine (h (k50_3 c nl lo)).trans ?_
 unfold b50_7; simp only [(t50_3 c nl lo)] <;> (show _ = _; kernel_rfl)
def k50_2 (c : CallT) (nl lo : Nat) : Rg → MM → Option (AV × MM) := (execC c modeF lo nl p50_27 (endK cf50.res) noE (endK cf50.res))
@[reducible] def b50_2 (c : CallT) (nl lo : Nat) (x1 x2 x3 x6 : AV) (M : MM) : Option (AV × MM) :=
 b50_7 c nl lo x1 x2 x3 x6 M
theorem t50_2 (c : CallT) (nl lo : Nat) (ρ : Rg) (M : MM) : k50_2 c nl lo ρ M = b50_2 c nl lo (ρ 1) (ρ 2) (ρ 3) (ρ 6) M := by
 have h : k50_2 c nl lo ρ M = (k50_7 c nl lo ρ M) := execC_seq c modeF lo nl p50_9 p50_26 (endK cf50.res) noE (endK cf50.res) ρ M
 rw [h]
 unfold b50_2; simp only [(t50_7 c nl lo)] <;> (show _ = _; kernel_rfl)
def k50_8 (c : CallT) (nl lo : Nat) : Rg → MM → Option (AV × MM) := (execC c modeF lo nl p50_8 (k50_2 c nl lo) noE (endK cf50.res))
@[reducible] def b50_8 (c : CallT) (nl lo : Nat) (x1 x2 x3 x6 : AV) (M : MM) : Option (AV × MM) :=
 opt (fldA 0 0 true x3) fun v2 =>
 opt (fldA 0 1 false x3) fun v3 =>
 opt (puA c (lk M) 72 [x1, v3]) fun v4 =>
 opt (binA .geq .none v4 (.i 0)) fun v7 =>
 opt (gdp v7 true (fldA 0 0 true x3)) fun v9 =>
 opt (gdp v7 true (fldA 1 1 false x3)) fun v10 =>
 opt (gdp v7 true (lenA v10)) fun v11 =>
 opt (gdp v7 true (binA .eql .none v11 (.i 0))) fun v12 =>
 opt (pickA v7 v12 (.bool false)) fun v13 =>
 isB v13 fun c14 => if c14 then (opt (ixsA 2 x2 v4) fun v17 =>
 opt (ldnA (lk M) 2 v17) fun v18 =>
 opt (puA c (lk M) 73 [v18]) fun v19 =>
 opt (setcA 0 2 x6 v19) fun v20 =>
 opt (locA 2 true v20) fun r => some (r, M))
 else (b50_2 c nl lo x1 x2 x3 x6 M)
theorem t50_8 (c : CallT) (nl lo : Nat) (ρ : Rg) (M : MM) : k50_8 c nl lo ρ M = b50_8 c nl lo (ρ 1) (ρ 2) (ρ 3) (ρ 6) M := by
 have h : ∀ (z0 : Rg → MM → Option (AV × MM)), (execC c modeF lo nl p50_8 z0 noE (endK cf50.res)) ρ M = (opt (fldA 0 0 true (ρ 3)) fun v2 =>
 opt (fldA 0 1 false (ρ 3)) fun v3 =>
 opt (puA c (lk M) 72 [(ρ 1), v3]) fun v4 =>
 opt (binA .geq .none v4 (.i 0)) fun v7 =>
 opt (gdp v7 true (fldA 0 0 true (ρ 3))) fun v9 =>
 opt (gdp v7 true (fldA 1 1 false (ρ 3))) fun v10 =>
 opt (gdp v7 true (lenA v10)) fun v11 =>
 opt (gdp v7 true (binA .eql .none v11 (.i 0))) fun v12 =>
 opt (pickA v7 v12 (.bool false)) fun v13 =>
 isB v13 fun c14 => if c14 then (opt (ixsA 2 (ρ 2) v4) fun v17 =>
 opt (ldnA (lk M) 2 v17) fun v18 =>
 opt (puA c (lk M) 73 [v18]) fun v19 =>
 opt (setcA 0 2 (ρ 6) v19) fun v20 =>
 opt (locA 2 true v20) fun r => some (r, M))
 else (z0 (sF (sF (sF (sF (sF (sF (sF (sF (sF (sF (sF (sF (sF ρ 11 (ρ 1)) 12 v2) 13 v3) 14 v4) 7 v4) 15 v4) 16 v7) 17 v7) 18 v9) 19 v10) 20 v11) 21 v12) 22 v13) M)) := by intros; kernel_rfl
 refine (h (k50_2 c nl lo)).trans ?_
 unfold b50_8; simp only [(t50_2 c nl lo)] <;> (show _ = _; kernel_rfl)
def k50_1 (c : CallT) (nl lo : Nat) : Rg → MM → Option (AV × MM) := (execC c modeF lo nl p50_28 (endK cf50.res) noE (endK cf50.res))
@[reducible] def b50_1 (c : CallT) (nl lo : Nat) (x1 x2 x3 x6 : AV) (M : MM) : Option (AV × MM) :=
 b50_8 c nl lo x1 x2 x3 x6 M
theorem t50_1 (c : CallT) (nl lo : Nat) (ρ : Rg) (M : MM) : k50_1 c nl lo ρ M = b50_1 c nl lo (ρ 1) (ρ 2) (ρ 3) (ρ 6) M := by
 have h : k50_1 c nl lo ρ M = (k50_8 c nl lo ρ M) := execC_seq c modeF lo nl p50_8 p50_27 (endK cf50.res) noE (endK cf50.res) ρ M
 rw [h]
 unfold b50_1; simp only [(t50_8 c nl lo)] <;> (show _ = _; kernel_rfl)
def k50_9 (c : CallT) (nl lo : Nat) : Rg → MM → Option (AV × MM) := (execC c modeF lo nl p50_1 (k50_1 c nl lo) noE (endK cf50.res))
@[reducible] def b50_9 (c : CallT) (nl lo : Nat) (x0 x1 x2 : AV) (M : MM) : Option (AV × MM) :=
 opt (aggA x0) fun v1 =>
 upK M M.nx fun M2 =>
 upK M2 M2.nx fun M4 =>
 b50_1 c nl lo x1 x2 v1 (.agg [.str ⟨⟨[]⟩⟩, .d (.sl [] 0)]) M4
theorem t50_9 (c : CallT) (nl lo : Nat) (ρ : Rg) (M : MM) : k50_9 c nl lo ρ M = b50_9 c nl lo (ρ 0) (ρ 1) (ρ 2) M := by
 have h : ∀ (z0 : Rg → MM → Option (AV × MM)), (execC c modeF lo nl p50_1 z0 noE (endK cf50.res)) ρ M = (opt (aggA (ρ 0)) fun v1 =>
 upK M M.nx fun M2 =>
 upK M2 M2.nx fun M4 =>
 z0 (sF (sF ρ 3 v1) 6 (.agg [.str ⟨⟨[]⟩⟩, .d (.sl [] 0)])) M4) := by intros; kernel_rfl
 refine (h (k50_1 c nl lo)).trans ?_
 unfold b50_9; simp only [(t50_1 c nl lo)] <;> (show _ = _; kernel_rfl)
def k50_0 (c : CallT) (nl lo : Nat) : Rg → MM → Option (AV × MM) := (execC c modeF lo nl p50_29 (endK cf50.res) noE (endK cf50.res))
@[reducible] def b50_0 (c : CallT) (nl lo : Nat) (x0 x1 x2 : AV) (M : MM) : Option (AV × MM) :=
 b50_9 c nl lo x0 x1 x2 M
theorem t50_0 (c : CallT) (nl lo : Nat) (ρ : Rg) (M : MM) : k50_0 c nl lo ρ M = b50_0 c nl lo (ρ 0) (ρ 1) (ρ 2) M := by
 have h : k50_0 c nl lo ρ M = (k50_9 c nl lo ρ M) := execC_seq c modeF lo nl p50_1 p50_28 (endK cf50.res) noE (endK cf50.res) ρ M
 rw [h]
 unfold b50_0; simp only [(t50_9 c nl lo)] <;> (show _ = _; kernel_rfl)
def k50_10 (c : CallT) (nl lo : Nat) : Rg → MM → Option (AV × MM) := (execC c modeF lo nl p50_0 (k50_0 c nl lo) noE (endK cf50.res))
@[reducible] def b50_10 (c : CallT) (nl lo : Nat) (x0 x1 x2 : AV) (M : MM) : Option (AV × MM) :=
 b50_0 c nl lo x0 x1 x2 M
theorem t50_10 (c : CallT) (nl lo : Nat) (ρ : Rg) (M : MM) : k50_10 c nl lo ρ M = b50_10 c nl lo (ρ 0) (ρ 1) (ρ 2) M := by
 have h : ∀ (z0 : Rg → MM → Option (AV × MM)), (execC c modeF lo nl p50_0 z0 noE (endK cf50.res)) ρ M = (z0 (sF (sF (sF (sF ρ 3 (.tup [])) 6 (.tup [])) 8 (.tup [])) 10 (.tup [])) M) := by intros; kernel_rfl
 refine (h (k50_0 c nl lo)).trans ?_
 unfold b50_10; simp only [(t50_0 c nl lo)] <;> (show _ = _; kernel_rfl)
def s50 (c : CallT) (nl lo : Nat) (a0 a1 a2 : AV) (M : MM) : Option (AV × MM) :=
 b50_10 c nl lo a0 a1 a2 M
theorem e50 (c : CallT) (nl lo : Nat) (a0 a1 a2 : AV) (M : MM) : execC c modeF lo nl cf50.body (endK cf50.res) noE (endK cf50.res) (aF [a0, a1, a2]) M = s50 c nl lo a0 a1 a2 M := by
 have h : execC c modeF lo nl cf50.body (endK cf50.res) noE (endK cf50.res) (aF [a0, a1, a2]) M = (k50_10 c nl lo (aF [a0, a1, a2]) M) := execC_seq c modeF lo nl p50_0 p50_29 (endK cf50.res) noE (endK cf50.res) (aF [a0, a1, a2]) M
 refine h.trans ?_
 unfold s50; simp only [(t50_10 c nl lo)] <;> (show _ = _; kernel_rfl)
theorem q50 {c : CallT} (hc : Lim G c) (lo : Nat) (a0 a1 a2 : AV) (M : MM) : c 50 [a0, a1, a2] lo M = s50 c G.nl lo a0 a1 a2 M :=
 (hc.flow (cf := cf50) rfl w50 [a0, a1, a2] lo M).trans (e50 c G.nl lo a0 a1 a2 M)

/-! ### function 51 -/
theorem w51 : wfK cf51.nt cf51.body = true := by kernel_rfl
def s51 (c : CallT) (nl lo : Nat) (a0 a1 : AV) (M : MM) : Option (AV × MM) :=
 opt (aggA a0) fun v3 =>
 upK M M.nx fun M4 =>
 opt (aggA a1) fun v5 =>
 upK M4 M4.nx fun M6 =>
 opt (fldA 0 0 true v3) fun v8 =>
 opt (fldA 0 1 false v3) fun v9 =>
 opt (fldA 0 0 true v5) fun v10 =>
 opt (fldA 0 1 false v5) fun v11 =>
 opt (binA .eql .none v9 v11) fun v12 =>
 opt (gdp v12 true (fldA 0 0 true v3)) fun v14 =>
 opt (gdp v12 true (fldA 1 1 false v3)) fun v15 =>
 opt (gdp v12 true (fldA 0 0 true v5)) fun v16 =>
 opt (gdp v12 true (fldA 1 1 false v5)) fun v17 =>
 opt (gdp v12 true (puA c (lk M6) 74 [v15, v17])) fun v18 =>
 opt (pickA v12 v18 (.bool false)) fun v19 =>
 some (v19, M6)
theorem e51 (c : CallT) (nl lo : Nat) (a0 a1 : AV) (M : MM) : execC c modeF lo nl cf51.body (endK cf51.res) noE (endK cf51.res) (aF [a0, a1]) M = s51 c nl lo a0 a1 M := by
 kernel_rfl
theorem q51 {c : CallT} (hc : Lim G c) (lo : Nat) (a0 a1 : AV) (M : MM) : c 51 [a0, a1] lo M = s51 c G.nl lo a0 a1 M :=
 (hc.flow (cf := cf51) rfl w51 [a0, a1] lo M).trans (e51 c G.nl lo a0 a1 M)

/-! ### function 52 -/
theorem w52 : wfK cf52.nt cf52.body = true := by kernel_rfl
def k52_3 (c : CallT) (nl lo : Nat) : Rg → MM → Option (AV × MM) := (execC c modeF lo nl p52_21 (endK cf52.res) noE (endK cf52.res))
@[reducible] def b52_3 (c : CallT) (nl lo : Nat) (x1 : AV) (M : MM) : Option (AV × MM) :=
 some (x1, M)
theorem t52_3 (c : CallT) (nl lo : Nat) (ρ : Rg) (M : MM) : k52_3 c nl lo ρ M = b52_3 c nl lo (ρ 1) M := by
 kernel_rfl
def k52_5 (c : CallT) (nl lo : Nat) (n : Nat) : Rg → MM → Option (AV × MM) := iterC (fun k ρ M => execC c modeF lo nl p52_16 k (fun i ρ M => if i = 0 then (k52_3 c nl lo) ρ M else noE i ρ M) (endK cf52.res) ρ M) n
def b52_5 (c : CallT) (nl lo : Nat) : Nat → AV → AV → AV → AV → MM → Option (AV × MM)
 | 0, _, _, _, _, _ => none
 | n + 1, x1, x23, x24, x25, M =>
 opt (binA .lss .none x25 x24) fun v7 =>
 isB v7 fun c8 => if c8 then (opt (ixsA 2 x23 x25) fun v9 =>
 opt (ldnA (lk M) 2 v9) fun v10 =>
 upK M M.nx fun M12 =>
 opt (setcA 0 2 (.agg [.str ⟨⟨[]⟩⟩, .d (.sl [] 0)]) v10) fun v13 =>
 opt (fldA 0 2 true v13) fun v14 =>
 bnd (c 52 [v14, x1] lo M12) fun v16 M17 =>
 opt (binA .add .none x25 (.i 1)) fun v19 =>
 (b52_5 c nl lo n) v16 x23 x24 v19 M17)
 else (b52_3 c nl lo x1 M)
theorem t52_5 (c : CallT) (nl lo : Nat) : ∀ (n : Nat) (ρ : Rg) (M : MM), k52_5 c nl lo n ρ M = b52_5 c nl lo n (ρ 1) (ρ 23) (ρ 24) (ρ 25) M
 | 0, ρ, M => rfl
 | n + 1, ρ, M => by
  have h : ∀ (zb z0 : Rg → MM → Option (AV × MM)), execC c modeF lo nl p52_16 zb (fun i ρ M => if i = 0 then z0 ρ M else noE i ρ M) (endK cf52.res) ρ M = (opt (binA .lss .none (ρ 25) (ρ 24)) fun v7 =>
  isB v7 fun c8 => if c8 then (opt (ixsA 2 (ρ 23) (ρ 25)) fun v9 =>
  opt (ldnA (lk M) 2 v9) fun v10 =>
  upK M M.nx fun M12 =>
  opt (setcA 0 2 (.agg [.str ⟨⟨[]⟩⟩, .d (.sl [] 0)]) v10) fun v13 =>
  opt (fldA 0 2 true v13) fun v14 =>
  bnd (c 52 [v14, (ρ 1)] lo M12) fun v16 M17 =>
  opt (binA .add .none (ρ 25) (.i 1)) fun v19 =>
  zb (sF (sF (sF (sF (sF (sF (sF (sF (sF (sF (sF ρ 26 v7) 27 v9) 28 v10) 6 (.agg [.str ⟨⟨[]⟩⟩, .d (.sl [] 0)])) 6 v13) 29 v14) 30 (ρ 1)) 31 v16) 1 v16) 32 v19) 25 v19) M17)
  else (z0 (sF ρ 26 v7) M)) := by intros; kernel_rfl
  refine (h (k52_5 c nl lo n) (k52_3 c nl lo)).trans ?_
  unfold b52_5; simp only [(t52_3 c nl lo), (t52_5 c nl lo n)] <;> (show _ = _; kernel_rfl)
def k52_4 (c : CallT) (nl lo : Nat) : Rg → MM → Option (AV × MM) := (execC c modeF lo nl p52_19 (k52_3 c nl lo) noE (endK cf52.res))
@[reducible] def b52_4 (c : CallT) (nl lo : Nat) (x1 x2 : AV) (M : MM) : Option (AV × MM) :=
 opt (fldA 0 0 true x2) fun v3 =>
 opt (fldA 1 1 false x2) fun v4 =>
 opt (lenA v4) fun v5 =>
 b52_5 c nl lo nl x1 v4 v5 (.i 0) M
theorem t52_4 (c : CallT) (nl lo : Nat) (ρ : Rg) (M : MM) : k52_4 c nl lo ρ M = b52_4 c nl lo (ρ 1) (ρ 2) M := by
 have h : k52_4 c nl lo ρ M = (opt (fldA 0 0 true (ρ 2)) fun v3 =>
 opt (fldA 1 1 false (ρ 2)) fun v4 =>
 opt (lenA v4) fun v5 =>
 k52_5 c nl lo nl (sF (sF (sF (sF ρ 22 v3) 23 v4) 24 v5) 25 (.i 0)) M) := by kernel_rfl
 rw [h]
 unfold b52_4; simp only [(t52_5 c nl lo nl)] <;> (show _ = _; kernel_rfl)
def k52_2 (c : CallT) (nl lo : Nat) : Rg → MM → Option (AV × MM) := (execC c modeF lo nl p52_22 (endK cf52.res) noE (endK cf52.res))
@[reducible] def b52_2 (c : CallT) (nl lo : Nat) (x1 x2 : AV) (M : MM) : Option (AV × MM) :=
 b52_4 c nl lo x1 x2 M
theorem t52_2 (c : CallT) (nl lo : Nat) (ρ : Rg) (M : MM) : k52_2 c nl lo ρ M = b52_2 c nl lo (ρ 1) (ρ 2) M := by
 have h : k52_2 c nl lo ρ M = (k52_4 c nl lo ρ M) := execC_seq c modeF lo nl p52_19 p52_21 (endK cf52.res) noE (endK cf52.res) ρ M
 rw [h]
 unfold b52_2; simp only [(t52_4 c nl lo)] <;> (show _ = _; kernel_rfl)
def k52_6 (c : CallT) (nl lo : Nat) : Rg → MM → Option (AV × MM) := (execC c modeF lo nl p52_5 (k52_2 c nl lo) noE (endK cf52.res))
@[reducible] def b52_6 (c : CallT) (nl lo : Nat) (x1 x2 : AV) (M : MM) : Option (AV × MM) :=
 opt (fldA 0 0 true x2) fun v1 =>
 opt (fldA 0 1 false x2) fun v2 =>
 opt (puA c (lk M) 75 [v2]) fun v3 =>
 opt (gdp v3 true (some x1)) fun v5 =>
 opt (gdp v3 true (fldA 0 0 true x2)) fun v6 =>
 opt (gdp v3 true (fldA 0 1 false x2)) fun v7 =>
 opt (gdp v3 true (puA c (lk M) 48 [v5, v7])) fun v8 =>
 opt (gdp v3 true (unA .not v8)) fun v9 =>
 opt (pickA v3 v9 (.bool false)) fun v10 =>
 isB v10 fun c11 => if c11 then (opt (fldA 0 0 true x2) fun v13 =>
 opt (fldA 0 1 false x2) fun v14 =>
 opt (wslA 1 (fill [.str ⟨⟨[]⟩⟩] [(0, 1, v14)])) fun v15 =>
 upK M M.nx fun M16 =>
 opt (wappA M16.mem (.top M16.nx) 1 16 x1 v15) fun v17 =>
 upK M16 M16.nx fun M18 =>
 b52_2 c nl lo v17 x2 M18)
 else (b52_2 c nl lo x1 x2 M)
theorem t52_6 (c : CallT) (nl lo : Nat) (ρ : Rg) (M : MM) : k52_6 c nl lo ρ M = b52_6 c nl lo (ρ 1) (ρ 2) M := by
 have h : ∀ (z0 : Rg → MM → Option (AV × MM)), (execC c modeF lo nl p52_5 z0 noE (endK cf52.res)) ρ M = (opt (fldA 0 0 true (ρ 2)) fun v1 =>
 opt (fldA 0 1 false (ρ 2)) fun v2 =>
 opt (puA c (lk M) 75 [v2]) fun v3 =>
 opt (gdp v3 true (some (ρ 1))) fun v5 =>
 opt (gdp v3 true (fldA 0 0 true (ρ 2))) fun v6 =>
 opt (gdp v3 true (fldA 0 1 false (ρ 2))) fun v7 =>
 opt (gdp v3 true (puA c (lk M) 48 [v5, v7])) fun v8 =>
 opt (gdp v3 true (unA .not v8)) fun v9 =>
 opt (pickA v3 v9 (.bool false)) fun v10 =>
 isB v10 fun c11 => if c11 then (opt (fldA 0 0 true (ρ 2)) fun v13 =>
 opt (fldA 0 1 false (ρ 2)) fun v14 =>
 opt (wslA 1 (fill [.str ⟨⟨[]⟩⟩] [(0, 1, v14)])) fun v15 =>
 upK M M.nx fun M16 =>
 opt (wappA M16.mem (.top M16.nx) 1 16 (ρ 1) v15) fun v17 =>
 upK M16 M16.nx fun M18 =>
 z0 (sF (sF (sF (sF (sF (sF (sF (sF (sF (sF (sF (sF (sF (sF (sF (sF ρ 7 v1) 8 v2) 9 v3) 10 v3) 11 v5) 12 v6) 13 v7) 14 v8) 15 v9) 16 v10) 17 (ρ 1)) 18 v13) 19 v14) 20 v15) 21 v17) 1 v17) M18)
 else (z0 (sF (sF (sF (sF (sF (sF (sF (sF (sF (sF ρ 7 v1) 8 v2) 9 v3) 10 v3) 11 v5) 12 v6) 13 v7) 14 v8) 15 v9) 16 v10) M)) := by intros; kernel_rfl
 refine (h (k52_2 c nl lo)).trans ?_
 unfold b52_6; simp only [(t52_2 c nl lo)] <;> (show _ = _; kernel_rfl)
def k52_1 (c : CallT) (nl lo : Nat) : Rg → MM → Option (AV × MM) := (execC c modeF lo nl p52_23 (endK cf52.res) noE (endK cf52.res))
@[reducible] def b52_1 (c : CallT) (nl lo : Nat) (x1 x2 : AV) (M : MM) : Option (AV × MM) :=
 b52_6 c nl lo x1 x2 M
theorem t52_1 (c : CallT) (nl lo : Nat) (ρ : Rg) (M : MM) : k52_1 c nl lo ρ M = b52_1 c nl lo (ρ 1) (ρ 2) M := by
 have h : k52_1 c nl lo ρ M = (k52_6 c nl lo ρ M) := execC_seq c modeF lo nl p52_5 p52_22 (endK cf52.res) noE (endK cf52.res) ρ M
 rw [h]
 unfold b52_1; simp only [(t52_6 c nl lo)] <;> (show _ = _; kernel_rfl)
def k52_7 (c : CallT) (nl lo : Nat) : Rg → MM → Option (AV × MM) := (execC c modeF lo nl p52_1 (k52_1 c nl lo) noE (endK cf52.res))
@[reducible] def b52_7 (c : CallT) (nl lo : Nat) (x0 x1 : AV) (M : MM) : Option (AV × MM) :=
 opt (aggA x0) fun v1 =>
 upK M M.nx fun M2 =>
 b52_1 c nl lo x1 v1 M2
theorem t52_7 (c : CallT) (nl lo : Nat) (ρ : Rg) (M : MM) : k52_7 c nl lo ρ M = b52_7 c nl lo (ρ 0) (ρ 1) M := by
 have h : ∀ (z0 : Rg → MM → Option (AV × MM)), (execC c modeF lo nl p52_1 z0 noE (endK cf52.res)) ρ M = (opt (aggA (ρ 0)) fun v1 =>
 upK M M.nx fun M2 =>
 z0 (sF (sF ρ 2 v1) 4 (.d (.sl [] 0))) M2) := by intros; kernel_rfl
 refine (h (k52_1 c nl lo)).trans ?_
 unfold b52_7; simp only [(t52_1 c nl lo)] <;> (show _ = _; kernel_rfl)
def k52_0 (c : CallT) (nl lo : Nat) : Rg → MM → Option (AV × MM) := (execC c modeF lo nl p52_24 (endK cf52.res) noE (endK cf52.res))
@[reducible] def b52_0 (c : CallT) (nl lo : Nat) (x0 x1 : AV) (M : MM) : Option (AV × MM) :=
 b52_7 c nl lo x0 x1 M
theorem t52_0 (c : CallT) (nl lo : Nat) (ρ : Rg) (M : MM) : k52_0 c nl lo ρ M = b52_0 c nl lo (ρ 0) (ρ 1) M := by
 have h : k52_0 c nl lo ρ M = (k52_7 c nl lo ρ M) := execC_seq c modeF lo nl p52_1 p52_23 (endK cf52.res) noE (endK cf52.res) ρ M
 rw [h]
 unfold b52_0; simp only [(t52_7 c nl lo)] <;> (show _ = _; kernel_rfl)
def k52_8 (c : CallT) (nl lo : Nat) : Rg → MM → Option (AV × MM) := (execC c modeF lo nl p52_0 (k52_0 c nl lo) noE (endK cf52.res))
@[reducible] def b52_8 (c : CallT) (nl lo : Nat) (x0 x1 : AV) (M : MM) : Option (AV × MM) :=
 b52_0 c nl lo x0 x1 M
theorem t52_8 (c : CallT) (nl lo : Nat) (ρ : Rg) (M : MM) : k52_8 c nl lo ρ M = b52_8 c nl lo (ρ 0) (ρ 1) M := by
 have h : ∀ (z0 : Rg → MM → Option (AV × MM)), (execC c modeF lo nl p52_0 z0 noE (endK cf52.res)) ρ M = (z0 (sF (sF ρ 2 (.tup [])) 6 (.tup [])) M) := by intros; kernel_rfl
 refine (h (k52_0 c nl lo)).trans ?_
 unfold b52_8; simp only [(t52_0 c nl lo)] <;> (show _ = _; kernel_rfl)
def s52 (c : CallT) (nl lo : Nat) (a0 a1 : AV) (M : MM) : Option (AV × MM) :=
 b52_8 c nl lo a0 a1 M
theorem e52 (c : CallT) (nl lo : Nat) (a0 a1 : AV) (M : MM) : execC c modeF lo nl cf52.body (endK cf52.res) noE (endK cf52.res) (aF [a0, a1]) M = s52 c nl lo a0 a1 M := by
 have h : execC c modeF lo nl cf52.body (endK cf52.res) noE (endK cf52.res) (aF [a0, a1]) M = (k52_8 c nl lo (aF [a0, a1]) M) := execC_seq c modeF lo nl p52_0 p52_24 (endK cf52.res) noE (endK cf52.res) (aF [a0, a1]) M
 refine h.trans ?_
 unfold s52; simp only [(t52_8 c nl lo)] <;> (show _ = _; kernel_rfl)
theorem q52 {c : CallT} (hc : Lim G c) (lo : Nat) (a0 a1 : AV) (M : MM) : c 52 [a0, a1] lo M = s52 c G.nl lo a0 a1 M :=
 (hc.flow (cf := cf52) rfl w52 [a0, a1] lo M).trans (e52 c G.nl lo a0 a1 M)

/-! ### function 53 -/
theorem w53 : wfK cf53.nt cf53.body = true := by kernel_rfl
def k53_4 (c : CallT) (nl lo : Nat) : Rg → MM → Option (AV × MM) := (execC c modeF lo nl p53_9 (execC c modeF lo nl p53_15 (endK cf53.res) noE (endK cf53.res)) noE (endK cf53.res))
@[reducible] def b53_4 (c : CallT) (nl lo : Nat) (x5 x7 x9 : AV) (M : MM) : Option (AV × MM) :=
 bumpK M 9 fun M2 =>
 opt (ld1A (look M2.mem (.mk M.nx 9 0 true)) x7) fun v3 =>
 opt (ixsA 1 v3 x9) fun v5 =>
 opt (ld1A (look M2.mem (.mk M.nx 9 7 true)) v5) fun v6 =>
 opt (nilcA v6) fun v7 =>
 opt (ldnA (look M2.mem (.mk M.nx 9 31 true)) 2 v7) fun v8 =>
 opt (ldnA (look M2.mem (.mk M.nx 9 0 true)) 2 x5) fun v9 =>
 opt (puA c (look M2.mem (.mk M.nx 9 127 true)) 14 [v8, v9]) fun v10 =>
 some (v10, M2)
theorem t53_4 (c : CallT) (nl lo : Nat) (ρ : Rg) (M : MM) : k53_4 c nl lo ρ M = b53_4 c nl lo (ρ 5) (ρ 7) (ρ 9) M := by
 kernel_rfl
def k53_5 (c : CallT) (nl lo : Nat) : Rg → MM → Option (AV × MM) := (execC c modeF lo nl p53_7 (k53_4 c nl lo) noE (endK cf53.res))
@[reducible] def b53_5 (c : CallT) (nl lo : Nat) (x5 x7 x9 : AV) (M : MM) : Option (AV × MM) :=
 opt (ld1A (lk M) x7) fun v12 =>
 opt (ixsA 1 v12 x9) fun v14 =>
 opt (ld1A (lk M) v14) fun v15 =>
 opt (binA .eql .ptr v15 .nil) fun v16 =>
 isB v16 fun c17 => if c17 then (opt (ld1A (lk M) x7) fun v18 =>
 opt (ixsA 1 v18 x9) fun v20 =>
 bnd (istep c modeF false lo (.top M.nx) M.nx (.st 1 (.k v20) (.k x5)) [] M) fun v21 M22 =>
 b53_4 c nl lo x5 x7 x9 M22)
 else (b53_4 c nl lo x5 x7 x9 M)
theorem t53_5 (c : CallT) (nl lo : Nat) (ρ : Rg) (M : MM) : k53_5 c nl lo ρ M = b53_5 c nl lo (ρ 5) (ρ 7) (ρ 9) M := by
 have h : ∀ (z0 : Rg → MM → Option (AV × MM)), (execC c modeF lo nl p53_7 z0 noE (endK cf53.res)) ρ M = (opt (ld1A (lk M) (ρ 7)) fun v12 =>
 opt (ixsA 1 v12 (ρ 9)) fun v14 =>
 opt (ld1A (lk M) v14) fun v15 =>
 opt (binA .eql .ptr v15 .nil) fun v16 =>
 isB v16 fun c17 => if c17 then (opt (ld1A (lk M) (ρ 7)) fun v18 =>
 opt (ixsA 1 v18 (ρ 9)) fun v20 =>
 bnd (istep c modeF false lo (.top M.nx) M.nx (.st 1 (.k v20) (.k (ρ 5))) [] M) fun v21 M22 =>
 z0 (sF (sF (sF (sF (sF (sF (sF (sF ρ 15 v12) 16 (ρ 9)) 17 v14) 18 v15) 19 v16) 20 v18) 21 (ρ 9)) 22 v20) M22)
 else (z0 (sF (sF (sF (sF (sF ρ 15 v12) 16 (ρ 9)) 17 v14) 18 v15) 19 v16) M)) := by intros; kernel_rfl
 refine (h (k53_4 c nl lo)).trans ?_
 unfold b53_5; simp only [(t53_4 c nl lo)] <;> (show _ = _; kernel_rfl)
def k53_3 (c : CallT) (nl lo : Nat) : Rg → MM → Option (AV × MM) := (execC c modeF lo nl p53_11 (execC c modeF lo nl p53_15 (endK cf53.res) noE (endK cf53.res)) noE (endK cf53.res))
@[reducible] def b53_3 (c : CallT) (nl lo : Nat) (x4 x5 x6 x7 x9 x14 : AV) (M : MM) : Option (AV × MM) :=
 isB x14 fun c1 => if c1 then (b53_5 c nl lo x5 x7 x9 M)
 else (opt (fldA 0 0 true x4) fun v23 =>
 opt (fldA 0 1 false x4) fun v24 =>
 opt (fadA 0 x5) fun v25 =>
 opt (ld1A (lk M) v25) fun v26 =>
 opt (binA .eql .none v24 v26) fun v27 =>
 opt (gdp v27 true (fldA 0 0 true x4)) fun v29 =>
 opt (gdp v27 true (fldA 1 1 false x4)) fun v30 =>
 opt (gdp v27 true (fadA 1 x5)) fun v31 =>
 opt (gdp v27 true (ld1A (lk M) v31)) fun v32 =>
 opt (gdp v27 true (some (.fn 76 [] [x6, x7]))) fun v33 =>
 bnd (gd v27 true M (c 41 [v30, v32, v33] lo M)) fun v34 M35 =>
 opt (pickA v27 v34 (.bool false)) fun v36 =>
 some (v36, M35))
theorem t53_3 (c : CallT) (nl lo : Nat) (ρ : Rg) (M : MM) : k53_3 c nl lo ρ M = b53_3 c nl lo (ρ 4) (ρ 5) (ρ 6) (ρ 7) (ρ 9) (ρ 14) M := by
 have h : k53_3 c nl lo ρ M = (isB (ρ 14) fun c1 => if c1 then (k53_5 c nl lo ρ M)
 else (opt (fldA 0 0 true (ρ 4)) fun v2 =>
 opt (fldA 0 1 false (ρ 4)) fun v3 =>
 opt (fadA 0 (ρ 5)) fun v4 =>
 opt (ld1A (lk M) v4) fun v5 =>
 opt (binA .eql .none v3 v5) fun v6 =>
 opt (gdp v6 true (fldA 0 0 true (ρ 4))) fun v8 =>
 opt (gdp v6 true (fldA 1 1 false (ρ 4))) fun v9 =>
 opt (gdp v6 true (fadA 1 (ρ 5))) fun v10 =>
 opt (gdp v6 true (ld1A (lk M) v10)) fun v11 =>
 opt (gdp v6 true (some (.fn 76 [] [(ρ 6), (ρ 7)]))) fun v12 =>
 bnd (gd v6 true M (c 41 [v9, v11, v12] lo M)) fun v13 M14 =>
 opt (pickA v6 v13 (.bool false)) fun v15 =>
 some (v15, M14))) := by kernel_rfl
 rw [h]
 unfold b53_3; simp only [(t53_5 c nl lo)] <;> (show _ = _; kernel_rfl)
def k53_6 (c : CallT) (nl lo : Nat) : Rg → MM → Option (AV × MM) := (execC c modeF lo nl p53_3 (k53_3 c nl lo) noE (endK cf53.res))
@[reducible] def b53_6 (c : CallT) (nl lo : Nat) (x4 x5 x6 x7 x9 : AV) (M : MM) : Option (AV × MM) :=
 opt (binA .geq .none x9 (.i 0)) fun v18 =>
 b53_3 c nl lo x4 x5 x6 x7 x9 v18 M
theorem t53_6 (c : CallT) (nl lo : Nat) (ρ : Rg) (M : MM) : k53_6 c nl lo ρ M = b53_6 c nl lo (ρ 4) (ρ 5) (ρ 6) (ρ 7) (ρ 9) M := by
 have h : ∀ (z0 : Rg → MM → Option (AV × MM)), (execC c modeF lo nl p53_3 z0 noE (endK cf53.res)) ρ M = (opt (binA .geq .none (ρ 9) (.i 0)) fun v18 =>
 z0 (sF (sF ρ 13 (ρ 9)) 14 v18) M) := by intros; kernel_rfl
 refine (h (k53_3 c nl lo)).trans ?_
 unfold b53_6; simp only [(t53_3 c nl lo)] <;> (show _ = _; kernel_rfl)
def k53_2 (c : CallT) (nl lo : Nat) : Rg → MM → Option (AV × MM) := (execC c modeF lo nl p53_12 (execC c modeF lo nl p53_15 (endK cf53.res) noE (endK cf53.res)) noE (endK cf53.res))
@[reducible] def b53_2 (c : CallT) (nl lo : Nat) (x4 x5 x6 x7 x9 : AV) (M : MM) : Option (AV × MM) :=
 b53_6 c nl lo x4 x5 x6 x7 x9 M
theorem t53_2 (c : CallT) (nl lo : Nat) (ρ : Rg) (M : MM) : k53_2 c nl lo ρ M = b53_2 c nl lo (ρ 4) (ρ 5) (ρ 6) (ρ 7) (ρ 9) M := by
 have h : k53_2 c nl lo ρ M = (k53_6 c nl lo ρ M) := execC_seq c modeF lo nl p53_3 p53_11 (execC c modeF lo nl p53_15 (endK cf53.res) noE (endK cf53.res)) noE (endK cf53.res) ρ M
 rw [h]
 unfold b53_2; simp only [(t53_6 c nl lo)] <;> (show _ = _; kernel_rfl)
def k53_7 (c : CallT) (nl lo : Nat) : Rg → MM → Option (AV × MM) := (execC c modeF lo nl p53_2 (k53_2 c nl lo) noE (endK cf53.res))
@[reducible] def b53_7 (c : CallT) (nl lo : Nat) (x4 x5 x6 x7 : AV) (M : MM) : Option (AV × MM) :=
 opt (fldA 0 2 true x4) fun v1 =>
 opt (ld1A (lk M) x6) fun v2 =>
 opt (puA c (lk M) 71 [v1, v2]) fun v3 =>
 b53_2 c nl lo x4 x5 x6 x7 v3 M
theorem t53_7 (c : CallT) (nl lo : Nat) (ρ : Rg) (M : MM) : k53_7 c nl lo ρ M = b53_7 c nl lo (ρ 4) (ρ 5) (ρ 6) (ρ 7) M := by
 have h : ∀ (z0 : Rg → MM → Option (AV × MM)), (execC c modeF lo nl p53_2 z0 noE (endK cf53.res)) ρ M = (opt (fldA 0 2 true (ρ 4)) fun v1 =>
 opt (ld1A (lk M) (ρ 6)) fun v2 =>
 opt (puA c (lk M) 71 [v1, v2]) fun v3 =>
 z0 (sF (sF (sF (sF ρ 10 v1) 11 v2) 12 v3) 9 v3) M) := by intros; kernel_rfl
 refine (h (k53_2 c nl lo)).trans ?_
 unfold b53_7; simp only [(t53_2 c nl lo)] <;> (show _ = _; kernel_rfl)
def k53_1 (c : CallT) (nl lo : Nat) : Rg → MM → Option (AV × MM) := (execC c modeF lo nl p53_16 (endK cf53.res) noE (endK cf53.res))
@[reducible] def b53_1 (c : CallT) (nl lo : Nat) (x4 x5 x6 x7 : AV) (M : MM) : Option (AV × MM) :=
 b53_7 c nl lo x4 x5 x6 x7 M
theorem t53_1 (c : CallT) (nl lo : Nat) (ρ : Rg) (M : MM) : k53_1 c nl lo ρ M = b53_1 c nl lo (ρ 4) (ρ 5) (ρ 6) (ρ 7) M := by
 have h : k53_1 c nl lo ρ M = (k53_7 c nl lo ρ M) := by kernel_rfl
 rw [h]
 unfold b53_1; simp only [(t53_7 c nl lo)] <;> (show _ = _; kernel_rfl)
def k53_8 (c : CallT) (nl lo : Nat) : Rg → MM → Option (AV × MM) := (execC c modeF lo nl p53_1 (k53_1 c nl lo) noE (endK cf53.res))
@[reducible] def b53_8 (c : CallT) (nl lo : Nat) (x0 x1 x2 x3 : AV) (M : MM) : Option (AV × MM) :=
 opt (aggA x0) fun v1 =>
 upK M M.nx fun M2 =>
 bnd (istep c modeF false lo (.top M2.nx) M2.nx (.box 27 (.k x1)) [] M2) fun v3 M4 =>
 bnd (istep c modeF false lo (.top M4.nx) M4.nx (.box 35 (.k x2)) [] M4) fun v5 M6 =>
 bnd (istep c modeF false lo (.top M6.nx) M6.nx (.box 67 (.k x3)) [] M6) fun v7 M8 =>
 b53_1 c nl lo v1 v3 v5 v7 M8
theorem t53_8 (c : CallT) (nl lo : Nat) (ρ : Rg) (M : MM) : k53_8 c nl lo ρ M = b53_8 c nl lo (ρ 0) (ρ 1) (ρ 2) (ρ 3) M := by
 have h : ∀ (z0 : Rg → MM → Option (AV × MM)), (execC c modeF lo nl p53_1 z0 noE (endK cf53.res)) ρ M = (opt (aggA (ρ 0)) fun v1 =>
 upK M M.nx fun M2 =>
 bnd (istep c modeF false lo (.top M2.nx) M2.nx (.box 27 (.k (ρ 1))) [] M2) fun v3 M4 =>
 bnd (istep c modeF false lo (.top M4.nx) M4.nx (.box 35 (.k (ρ 2))) [] M4) fun v5 M6 =>
 bnd (istep c modeF false lo (.top M6.nx) M6.nx (.box 67 (.k (ρ 3))) [] M6) fun v7 M8 =>
 z0 (sF (sF (sF (sF (sF ρ 4 v1) 5 v3) 6 v5) 7 v7) 8 (.bool false)) M8) := by intros; kernel_rfl
 refine (h (k53_1 c nl lo)).trans ?_
 unfold b53_8; simp only [(t53_1 c nl lo)] <;> (show _ = _; kernel_rfl)
def k53_0 (c : CallT) (nl lo : Nat) : Rg → MM → Option (AV × MM) := (execC c modeF lo nl p53_17 (endK cf53.res) noE (endK cf53.res))
@[reducible] def b53_0 (c : CallT) (nl lo : Nat) (x0 x1 x2 x3 : AV) (M : MM) : Option (AV × MM) :=
 b53_8 c nl lo x0 x1 x2 x3 M
theorem t53_0 (c : CallT) (nl lo : Nat) (ρ : Rg) (M : MM) : k53_0 c nl lo ρ M = b53_0 c nl lo (ρ 0) (ρ 1) (ρ 2) (ρ 3) M := by
 have h : k53_0 c nl lo ρ M = (k53_8 c nl lo ρ M) := execC_seq c modeF lo nl p53_1 p53_16 (endK cf53.res) noE (endK cf53.res) ρ M
 rw [h]
 unfold b53_0; simp only [(t53_8 c nl lo)] <;> (show _ = _; kernel_rfl)
def k53_9 (c : CallT) (nl lo : Nat) : Rg → MM → Option (AV × MM) := (execC c modeF lo nl p53_0 (k53_0 c nl lo) noE (endK cf53.res))
@[reducible] def b53_9 (c : CallT) (nl lo : Nat) (x0 x1 x2 x3 : AV) (M : MM) : Option (AV × MM) :=
 b53_0 c nl lo x0 x1 x2 x3 M
theorem t53_9 (c : CallT) (nl lo : Nat) (ρ : Rg) (M : MM) : k53_9 c nl lo ρ M = b53_9 c nl lo (ρ 0) (ρ 1) (ρ 2) (ρ 3) M := by
 have h : ∀ (z0 : Rg → MM → Option (AV × MM)), (execC c modeF lo nl p53_0 z0 noE (endK cf53.res)) ρ M = (z0 (sF ρ 4 (.tup [])) M) := by intros; kernel_rfl
 refine (h (k53_0 c nl lo)).trans ?_
 unfold b53_9; simp only [(t53_0 c nl lo)] <;> (show _ = _; kernel_rfl)
def s53 (c : CallT) (nl lo : Nat) (a0 a1 a2 a3 : AV) (M : MM) : Option (AV × MM) :=
 b53_9 c nl lo a0 a1 a2 a3 M
theorem e53 (c : CallT) (nl lo : Nat) (a0 a1 a2 a3 : AV) (M : MM) : execC c modeF lo nl cf53.body (endK cf53.res) noE (endK cf53.res) (aF [a0, a1, a2, a3]) M = s53 c nl lo a0 a1 a2 a3 M := by
 have h : execC c modeF lo nl cf53.body (endK cf53.res) noE (endK cf53.res) (aF [a0, a1, a2, a3]) M = (k53_9 c nl lo (aF [a0, a1, a2, a3]) M) := execC_seq c modeF lo nl p53_0 p53_17 (endK cf53.res) noE (endK cf53.res) (aF [a0, a1, a2, a3]) M
 refine h.trans ?_
 unfold s53; simp only [(t53_9 c nl lo)] <;> (show _ = _; kernel_rfl)
theorem q53 {c : CallT} (hc : Lim G c) (lo : Nat) (a0 a1 a2 a3 : AV) (M : MM) : c 53 [a0, a1, a2, a3] lo M = s53 c G.nl lo a0 a1 a2 a3 M :=
 (hc.flow (cf := cf53) rfl w53 [a0, a1, a2, a3] lo M).trans (e53 c G.nl lo a0 a1 a2 a3 M)

/-! ### function 54 -/
theorem w54 : wfK cf54.nt cf54.body = true := by kernel_rfl
def s54 (c : CallT) (nl lo : Nat) (a0 a1 : AV) (M : MM) : Option (AV × MM) :=
 bnd (c 77 [a0, a1] lo M) fun v4 M5 =>
 opt (binA .geq .none v4 (.i 0)) fun v6 =>
 some (v6, M5)
theorem e54 (c : CallT) (nl lo : Nat) (a0 a1 : AV) (M : MM) : execC c modeF lo nl cf54.body (endK cf54.res) noE (endK cf54.res) (aF [a0, a1]) M = s54 c nl lo a0 a1 M := by
 kernel_rfl
theorem q54 {c : CallT} (hc : Lim G c) (lo : Nat) (a0 a1 : AV) (M : MM) : c 54 [a0, a1] lo M = s54 c G.nl lo a0 a1 M :=
 (hc.flow (cf := cf54) rfl w54 [a0, a1] lo M).trans (e54 c G.nl lo a0 a1 M)

/-! ### function 55 -/
theorem w55 : wfK cf55.nt cf55.body = true := by kernel_rfl
def k55_3 (c : CallT) (nl lo : Nat) : Rg → MM → Option (AV × MM) := (execC c modeF lo nl p55_18 (endK cf55.res) noE (endK cf55.res))
@[reducible] def b55_3 (c : CallT) (nl lo : Nat) (x2 x3 : AV) (M : MM) : Option (AV × MM) :=
 opt (fldA 0 2 true x3) fun v1 =>
 opt (setcA 0 2 x2 v1) fun v2 =>
 opt (locA 2 true v2) fun r => some (r, M)
theorem t55_3 (c : CallT) (nl lo : Nat) (ρ : Rg) (M : MM) : k55_3 c nl lo ρ M = b55_3 c nl lo (ρ 2) (ρ 3) M := by
 kernel_rfl
def k55_5 (c : CallT) (nl lo : Nat) (n : Nat) : Rg → MM → Option (AV × MM) := iterC (fun k ρ M => execC c modeF lo nl p55_13 k (fun i ρ M => if i = 0 then (k55_3 c nl lo) ρ M else noE i ρ M) (endK cf55.res) ρ M) n
def b55_5 (c : CallT) (nl lo : Nat) : Nat → AV → AV → AV → AV → AV → MM → Option (AV × MM)
 | 0, _, _, _, _, _, _ => none
 | n + 1, x2, x3, x10, x11, x12, M =>
 opt (binA .lss .none x12 x11) fun v7 =>
 isB v7 fun c8 => if c8 then (opt (ixsA 2 x10 x12) fun v9 =>
 opt (ldnA (lk M) 2 v9) fun v10 =>
 upK M M.nx fun M12 =>
 opt (setcA 0 2 (.agg [.str ⟨⟨[]⟩⟩, .d (.sl [] 0)]) v10) fun v13 =>
 bumpK M12 8 fun M14 =>
 opt (fldA 0 0 true x3) fun v15 =>
 opt (fldA 1 1 false x3) fun v16 =>
 opt (fldA 0 2 true v13) fun v17 =>
 opt (puA c (look M14.mem (.mk M12.nx 8 4 true)) 55 [v17]) fun v18 =>
 opt (wslA 1 (fill [.str ⟨⟨[]⟩⟩, .d (.sl [] 0)] [(0, 2, v18)])) fun v19 =>
 upK M14 (M12.nx + 4) fun M20 =>
 opt (wappA M20.mem (.top M20.nx) 2 40 v16 v19) fun v21 =>
 upK M20 (M12.nx + 5) fun M22 =>
 opt (fldA 0 0 true x3) fun v23 =>
 opt (setcA 1 1 x3 v21) fun v24 =>
 opt (binA .add .none x12 (.i 1)) fun v25 =>
 (b55_5 c nl lo n) x2 v24 x10 x11 v25 M22)
 else (b55_3 c nl lo x2 x3 M)
theorem t55_5 (c : CallT) (nl lo : Nat) : ∀ (n : Nat) (ρ : Rg) (M : MM), k55_5 c nl lo n ρ M = b55_5 c nl lo n (ρ 2) (ρ 3) (ρ 10) (ρ 11) (ρ 12) M
 | 0, ρ, M => rfl
 | n + 1, ρ, M => by
  have h : ∀ (zb z0 : Rg → MM → Option (AV × MM)), execC c modeF lo nl p55_13 zb (fun i ρ M => if i = 0 then z0 ρ M else noE i ρ M) (endK cf55.res) ρ M = (opt (binA .lss .none (ρ 12) (ρ 11)) fun v7 =>
  isB v7 fun c8 => if c8 then (opt (ixsA 2 (ρ 10) (ρ 12)) fun v9 =>
  opt (ldnA (lk M) 2 v9) fun v10 =>
  upK M M.nx fun M12 =>
  opt (setcA 0 2 (.agg [.str ⟨⟨[]⟩⟩, .d (.sl [] 0)]) v10) fun v13 =>
  bumpK M12 8 fun M14 =>
  opt (fldA 0 0 true (ρ 3)) fun v15 =>
  opt (fldA 1 1 false (ρ 3)) fun v16 =>
  opt (fldA 0 2 true v13) fun v17 =>
  opt (puA c (look M14.mem (.mk M12.nx 8 4 true)) 55 [v17]) fun v18 =>
  opt (wslA 1 (fill [.str ⟨⟨[]⟩⟩, .d (.sl [] 0)] [(0, 2, v18)])) fun v19 =>
  upK M14 (M12.nx + 4) fun M20 =>
  opt (wappA M20.mem (.top M20.nx) 2 40 v16 v19) fun v21 =>
  upK M20 (M12.nx + 5) fun M22 =>
  opt (fldA 0 0 true (ρ 3)) fun v23 =>
  opt (setcA 1 1 (ρ 3) v21) fun v24 =>
  opt (binA .add .none (ρ 12) (.i 1)) fun v25 =>
  zb (sF (sF (sF (sF (sF (sF (sF (sF (sF (sF (sF (sF (sF (sF (sF ρ 13 v7) 14 v9) 15 v10) 5 (.agg [.str ⟨⟨[]⟩⟩, .d (.sl [] 0)])) 5 v13) 16 v15) 17 v16) 18 v17) 19 v18) 20 v19) 21 v21) 22 v23) 3 v24) 23 v25) 12 v25) M22)
  else (z0 (sF ρ 13 v7) M)) := by intros; kernel_rfl
  refine (h (k55_5 c nl lo n) (k55_3 c nl lo)).trans ?_
  unfold b55_5; simp only [(t55_3 c nl lo), (t55_5 c nl lo n)] <;> (show _ = _; kernel_rfl)
def k55_4 (c : CallT) (nl lo : Nat) : Rg → MM → Option (AV × MM) := (execC c modeF lo nl p55_16 (k55_3 c nl lo) noE (endK cf55.res))
@[reducible] def b55_4 (c : CallT) (nl lo : Nat) (x1 x2 x3 : AV) (M : MM) : Option (AV × MM) :=
 opt (fldA 0 0 true x1) fun v3 =>
 opt (fldA 1 1 false x1) fun v4 =>
 opt (lenA v4) fun v5 =>
 b55_5 c nl lo nl x2 x3 v4 v5 (.i 0) M
theorem t55_4 (c : CallT) (nl lo : Nat) (ρ : Rg) (M : MM) : k55_4 c nl lo ρ M = b55_4 c nl lo (ρ 1) (ρ 2) (ρ 3) M := by
 have h : k55_4 c nl lo ρ M = (opt (fldA 0 0 true (ρ 1)) fun v3 =>
 opt (fldA 1 1 false (ρ 1)) fun v4 =>
 opt (lenA v4) fun v5 =>
 k55_5 c nl lo nl (sF (sF (sF (sF ρ 9 v3) 10 v4) 11 v5) 12 (.i 0)) M) := by kernel_rfl
 rw [h]
 unfold b55_4; simp only [(t55_5 c nl lo nl)] <;> (show _ = _; kernel_rfl)
def k55_2 (c : CallT) (nl lo : Nat) : Rg → MM → Option (AV × MM) := (execC c modeF lo nl p55_19 (endK cf55.res) noE (endK cf55.res))
@[reducible] def b55_2 (c : CallT) (nl lo : Nat) (x1 x2 x3 : AV) (M : MM) : Option (AV × MM) :=
 b55_4 c nl lo x1 x2 x3 M
theorem t55_2 (c : CallT) (nl lo : Nat) (ρ : Rg) (M : MM) : k55_2 c nl lo ρ M = b55_2 c nl lo (ρ 1) (ρ 2) (ρ 3) M := by
 have h : k55_2 c nl lo ρ M = (k55_4 c nl lo ρ M) := execC_seq c modeF lo nl p55_16 p55_18 (endK cf55.res) noE (endK cf55.res) ρ M
 rw [h]
 unfold b55_2; simp only [(t55_4 c nl lo)] <;> (show _ = _; kernel_rfl)
def k55_6 (c : CallT) (nl lo : Nat) : Rg → MM → Option (AV × MM) := (execC c modeF lo nl p55_2 (k55_2 c nl lo) noE (endK cf55.res))
@[reducible] def b55_6 (c : CallT) (nl lo : Nat) (x1 x2 : AV) (M : MM) : Option (AV × MM) :=
 opt (fldA 0 0 true x1) fun v1 =>
 opt (fldA 0 1 false x1) fun v2 =>
 opt ((fill [.str ⟨⟨[]⟩⟩, .d (.sl [] 0)] [(0, 1, v2)]).map .agg) fun v3 =>
 upK M M.nx fun M5 =>
 opt (setcA 0 2 (.agg [.str ⟨⟨[]⟩⟩, .d (.sl [] 0)]) v3) fun v6 =>
 b55_2 c nl lo x1 x2 v6 M5
theorem t55_6 (c : CallT) (nl lo : Nat) (ρ : Rg) (M : MM) : k55_6 c nl lo ρ M = b55_6 c nl lo (ρ 1) (ρ 2) M := by
 have h : ∀ (z0 : Rg → MM → Option (AV × MM)), (execC c modeF lo nl p55_2 z0 noE (endK cf55.res)) ρ M = (opt (fldA 0 0 true (ρ 1)) fun v1 =>
 opt (fldA 0 1 false (ρ 1)) fun v2 =>
 opt ((fill [.str ⟨⟨[]⟩⟩, .d (.sl [] 0)] [(0, 1, v2)]).map .agg) fun v3 =>
 upK M M.nx fun M5 =>
 opt (setcA 0 2 (.agg [.str ⟨⟨[]⟩⟩, .d (.sl [] 0)]) v3) fun v6 =>
 z0 (sF (sF (sF (sF (sF ρ 6 v1) 7 v2) 8 v3) 3 (.agg [.str ⟨⟨[]⟩⟩, .d (.sl [] 0)])) 3 v6) M5) := by intros; kernel_rfl
 refine (h (k55_2 c nl lo)).trans ?_
 unfold b55_6; simp only [(t55_2 c nl lo)] <;> (show _ = _; kernel_rfl)
def k55_1 (c : CallT) (nl lo : Nat) : Rg → MM → Option (AV × MM) := (execC c modeF lo nl p55_20 (endK cf55.res) noE (endK cf55.res))
@[reducible] def b55_1 (c : CallT) (nl lo : Nat) (x1 x2 : AV) (M : MM) : Option (AV × MM) :=
 b55_6 c nl lo x1 x2 M
theorem t55_1 (c : CallT) (nl lo : Nat) (ρ : Rg) (M : MM) : k55_1 c nl lo ρ M = b55_1 c nl lo (ρ 1) (ρ 2) M := by
 have h : k55_1 c nl lo ρ M = (k55_6 c nl lo ρ M) := execC_seq c modeF lo nl p55_2 p55_19 (endK cf55.res) noE (endK cf55.res) ρ M
 rw [h]
 unfold b55_1; simp only [(t55_6 c nl lo)] <;> (show _ = _; kernel_rfl)
def k55_7 (c : CallT) (nl lo : Nat) : Rg → MM → Option (AV × MM) := (execC c modeF lo nl p55_1 (k55_1 c nl lo) noE (endK cf55.res))
@[reducible] def b55_7 (c : CallT) (nl lo : Nat) (x0 : AV) (M : MM) : Option (AV × MM) :=
 opt (aggA x0) fun v1 =>
 upK M M.nx fun M2 =>
 upK M2 M2.nx fun M4 =>
 b55_1 c nl lo v1 (.agg [.str ⟨⟨[]⟩⟩, .d (.sl [] 0)]) M4
theorem t55_7 (c : CallT) (nl lo : Nat) (ρ : Rg) (M : MM) : k55_7 c nl lo ρ M = b55_7 c nl lo (ρ 0) M := by
 have h : ∀ (z0 : Rg → MM → Option (AV × MM)), (execC c modeF lo nl p55_1 z0 noE (endK cf55.res)) ρ M = (opt (aggA (ρ 0)) fun v1 =>
 upK M M.nx fun M2 =>
 upK M2 M2.nx fun M4 =>
 z0 (sF (sF ρ 1 v1) 2 (.agg [.str ⟨⟨[]⟩⟩, .d (.sl [] 0)])) M4) := by intros; kernel_rfl
 refine (h (k55_1 c nl lo)).trans ?_
 unfold b55_7; simp only [(t55_1 c nl lo)] <;> (show _ = _; kernel_rfl)
def k55_0 (c : CallT) (nl lo : Nat) : Rg → MM → Option (AV × MM) := (execC c modeF lo nl p55_21 (endK cf55.res) noE (endK cf55.res))
@[reducible] def b55_0 (c : CallT) (nl lo : Nat) (x0 : AV) (M : MM) : Option (AV × MM) :=
 b55_7 c nl lo x0 M
theorem t55_0 (c : CallT) (nl lo : Nat) (ρ : Rg) (M : MM) : k55_0 c nl lo ρ M = b55_0 c nl lo (ρ 0) M := by
 have h : k55_0 c nl lo ρ M = (k55_7 c nl lo ρ M) := execC_seq c modeF lo nl p55_1 p55_20 (endK cf55.res) noE (endK cf55.res) ρ M
 rw [h]
 unfold b55_0; simp only [(t55_7 c nl lo)] <;> (show _ = _; kernel_rfl)
def k55_8 (c : CallT) (nl lo : Nat) : Rg → MM → Option (AV × MM) := (execC c modeF lo nl p55_0 (k55_0 c nl lo) noE (endK cf55.res))
@[reducible] def b55_8 (c : CallT) (nl lo : Nat) (x0 : AV) (M : MM) : Option (AV × MM) :=
 b55_0 c nl lo x0 M
theorem t55_8 (c : CallT) (nl lo : Nat) (ρ : Rg) (M : MM) : k55_8 c nl lo ρ M = b55_8 c nl lo (ρ 0) M := by
 have h : ∀ (z0 : Rg → MM → Option (AV × MM)), (execC c modeF lo nl p55_0 z0 noE (endK cf55.res)) ρ M = (z0 (sF (sF (sF (sF ρ 1 (.tup [])) 2 (.tup [])) 3 (.tup [])) 5 (.tup [])) M) := by intros; kernel_rfl
 refine (h (k55_0 c nl lo)).trans ?_
 unfold b55_8; simp only [(t55_0 c nl lo)] <;> (show _ = _; kernel_rfl)
def s55 (c : CallT) (nl lo : Nat) (a0 : AV) (M : MM) : Option (AV × MM) :=
 b55_8 c nl lo a0 M
theorem e55 (c : CallT) (nl lo : Nat) (a0 : AV) (M : MM) : execC c modeF lo nl cf55.body (endK cf55.res) noE (endK cf55.res) (aF [a0]) M = s55 c nl lo a0 M := by
 have h : execC c modeF lo nl cf55.body (endK cf55.res) noE (endK cf55.res) (aF [a0]) M = (k55_8 c nl lo (aF [a0]) M) := execC_seq c modeF lo nl p55_0 p55_21 (endK cf55.res) noE (endK cf55.res) (aF [a0]) M
 refine h.trans ?_
 unfold s55; simp only [(t55_8 c nl lo)] <;> (show _ = _; kernel_rfl)
theorem q55 {c : CallT} (hc : Lim G c) (lo : Nat) (a0 : AV) (M : MM) : c 55 [a0] lo M = s55 c G.nl lo a0 M :=
 (hc.flow (cf := cf55) rfl w55 [a0] lo M).trans (e55 c G.nl lo a0 M)

/-! ### function 56 -/
theorem w56 : wfK cf56.nt cf56.body = true := by kernel_rfl
def k56_4 (c : CallT) (nl lo : Nat) : Rg → MM → Option (AV × MM) := (execC c modeF lo nl p56_39 (endK cf56.res) noE (endK cf56.res))
@[reducible] def b56_4 (c : CallT) (nl lo : Nat) (M : MM) : Option (AV × MM) :=
 some ((.bool true), M)
theorem t56_4 (c : CallT) (nl lo : Nat) (ρ : Rg) (M : MM) : k56_4 c nl lo ρ M = b56_4 c nl lo M := by
 kernel_rfl
def k56_6 (c : CallT) (nl lo : Nat) (n : Nat) : Rg → MM → Option (AV × MM) := iterC (fun k ρ M => execC c modeF lo nl p56_34 k (fun i ρ M => if i = 0 then (k56_4 c nl lo) ρ M else noE i ρ M) (endK cf56.res) ρ M) n
def b56_6 (c : CallT) (nl lo : Nat) : Nat → AV → AV → AV → AV → AV → AV → MM → Option (AV × MM)
 | 0, _, _, _, _, _, _, _ => none
 | n + 1, x2, x3, x4, x5, x6, x12, M =>
 opt (fldA 0 0 true x6) fun v4 =>
 opt (fldA 1 1 false x6) fun v5 =>
 opt (lenA v5) fun v6 =>
 opt (binA .lss .none x12 v6) fun v7 =>
 isB v7 fun c8 => if c8 then (bumpK M 15 fun M9 =>
 opt (fldA 0 0 true x5) fun v10 =>
 opt (fldA 1 1 false x5) fun v11 =>
 opt (ixsA 2 v11 x12) fun v13 =>
 opt (ldnA (look M9.mem (.mk M.nx 15 15 true)) 2 v13) fun v14 =>
 opt (fldA 0 0 true x6) fun v15 =>
 opt (fldA 1 1 false x6) fun v16 =>
 opt (ixsA 2 v16 x12) fun v18 =>
 opt (ldnA (look M9.mem (.mk M.nx 15 480 true)) 2 v18) fun v19 =>
 bnd (rwD c 56 [v14, v19, x2, x3, x4] lo M9) fun v23 M24 =>
 opt (unA .not v23) fun v25 =>
 isB v25 fun c26 => if c26 then (some ((.bool false), M24))
 else (opt (binA .add .none x12 (.i 1)) fun v29 =>
 (b56_6 c nl lo n) x2 x3 x4 x5 x6 v29 M24))
 else (b56_4 c nl lo M)
theorem t56_6 (c : CallT) (nl lo : Nat) : ∀ (n : Nat) (ρ : Rg) (M : MM), k56_6 c nl lo n ρ M = b56_6 c nl lo n (ρ 2) (ρ 3) (ρ 4) (ρ 5) (ρ 6) (ρ 12) M
 | 0, ρ, M => rfl
 | n + 1, ρ, M => by
  have h : ∀ (zb z0 : Rg → MM → Option (AV × MM)), execC c modeF lo nl p56_34 zb (fun i ρ M => if i = 0 then z0 ρ M else noE i ρ M) (endK cf56.res) ρ M = (opt (fldA 0 0 true (ρ 6)) fun v4 =>
  opt (fldA 1 1 false (ρ 6)) fun v5 =>
  opt (lenA v5) fun v6 =>
  opt (binA .lss .none (ρ 12) v6) fun v7 =>
  isB v7 fun c8 => if c8 then (bumpK M 15 fun M9 =>
  opt (fldA 0 0 true (ρ 5)) fun v10 =>
  opt (fldA 1 1 false (ρ 5)) fun v11 =>
  opt (ixsA 2 v11 (ρ 12)) fun v13 =>
  opt (ldnA (look M9.mem (.mk M.nx 15 15 true)) 2 v13) fun v14 =>
  opt (fldA 0 0 true (ρ 6)) fun v15 =>
  opt (fldA 1 1 false (ρ 6)) fun v16 =>
  opt (ixsA 2 v16 (ρ 12)) fun v18 =>
  opt (ldnA (look M9.mem (.mk M.nx 15 480 true)) 2 v18) fun v19 =>
  bnd (rwD c 56 [v14, v19, (ρ 2), (ρ 3), (ρ 4)] lo M9) fun v23 M24 =>
  opt (unA .not v23) fun v25 =>
  isB v25 fun c26 => if c26 then (some ((.bool false), M24))
  else (opt (binA .add .none (ρ 12) (.i 1)) fun v29 =>
  zb (sF (sF (sF (sF (sF (sF (sF (sF (sF (sF (sF (sF (sF (sF (sF (sF (sF (sF (sF (sF (sF (sF (sF ρ 57 (ρ 12)) 58 v4) 59 v5) 60 v6) 61 v7) 64 v10) 65 v11) 66 (ρ 12)) 67 v13) 68 v14) 69 v15) 70 v16) 71 (ρ 12)) 72 v18) 73 v19) 74 (ρ 2)) 75 (ρ 3)) 76 (ρ 4)) 77 v23) 78 v25) 62 (ρ 12)) 63 v29) 12 v29) M24))
  else (z0 (sF (sF (sF (sF (sF ρ 57 (ρ 12)) 58 v4) 59 v5) 60 v6) 61 v7) M)) := by intros; kernel_rfl
  refine (h (k56_6 c nl lo n) (k56_4 c nl lo)).trans ?_
  unfold b56_6; simp only [(t56_4 c nl lo), (t56_6 c nl lo n)] <;> (show _ = _; kernel_rfl)
def k56_5 (c : CallT) (nl lo : Nat) : Rg → MM → Option (AV × MM) := (execC c modeF lo nl p56_37 (k56_4 c nl lo) noE (endK cf56.res))
@[reducible] def b56_5 (c : CallT) (nl lo : Nat) (x2 x3 x4 x5 x6 : AV) (M : MM) : Option (AV × MM) :=
 b56_6 c nl lo nl x2 x3 x4 x5 x6 (.i 0) M
theorem t56_5 (c : CallT) (nl lo : Nat) (ρ : Rg) (M : MM) : k56_5 c nl lo ρ M = b56_5 c nl lo (ρ 2) (ρ 3) (ρ 4) (ρ 5) (ρ 6) M := by
 have h : k56_5 c nl lo ρ M = (k56_6 c nl lo nl (sF ρ 12 (.i 0)) M) := by kernel_rfl
 rw [h]
 unfold b56_5; simp only [(t56_6 c nl lo nl)] <;> (show _ = _; kernel_rfl)
def k56_3 (c : CallT) (nl lo : Nat) : Rg → MM → Option (AV × MM) := (execC c modeF lo nl p56_40 (endK cf56.res) noE (endK cf56.res))
@[reducible] def b56_3 (c : CallT) (nl lo : Nat) (x2 x3 x4 x5 x6 : AV) (M : MM) : Option (AV × MM) :=
 b56_5 c nl lo x2 x3 x4 x5 x6 M
theorem t56_3 (c : CallT) (nl lo : Nat) (ρ : Rg) (M : MM) : k56_3 c nl lo ρ M = b56_3 c nl lo (ρ 2) (ρ 3) (ρ 4) (ρ 5) (ρ 6) M := by
 have h : k56_3 c nl lo ρ M = (k56_5 c nl lo ρ M) := execC_seq c modeF lo nl p56_37 p56_39 (endK cf56.res) noE (endK cf56.res) ρ M
 rw [h]
 unfold b56_3; simp only [(t56_5 c nl lo)] <;> (show _ = _; kernel_rfl)
def k56_7 (c : CallT) (nl lo : Nat) : Rg → MM → Option (AV × MM) := (execC c modeF lo nl p56_21 (k56_3 c nl lo) noE (endK cf56.res))
@[reducible] def b56_7 (c : CallT) (nl lo : Nat) (x2 x3 x4 x5 x6 : AV) (M : MM) : Option (AV × MM) :=
 opt (fldA 0 0 true x5) fun v1 =>
 opt (fldA 0 1 false x5) fun v2 =>
 opt (fldA 0 0 true x6) fun v3 =>
 opt (fldA 0 1 false x6) fun v4 =>
 opt (binA .neq .none v2 v4) fun v5 =>
 opt (gdp v5 false (fldA 0 0 true x5)) fun v7 =>
 opt (gdp v5 false (fldA 1 1 false x5)) fun v8 =>
 opt (gdp v5 false (lenA v8)) fun v9 =>
 opt (gdp v5 false (fldA 0 0 true x6)) fun v10 =>
 opt (gdp v5 false (fldA 1 1 false x6)) fun v11 =>
 opt (gdp v5 false (lenA v11)) fun v12 =>
 opt (gdp v5 false (binA .neq .none v9 v12)) fun v13 =>
 opt (pickA v5 (.bool true) v13) fun v14 =>
 isB v14 fun c15 => if c15 then (some ((.bool false), M))
 else (b56_3 c nl lo x2 x3 x4 x5 x6 M)
theorem t56_7 (c : CallT) (nl lo : Nat) (ρ : Rg) (M : MM) : k56_7 c nl lo ρ M = b56_7 c nl lo (ρ 2) (ρ 3) (ρ 4) (ρ 5) (ρ 6) M := by
 have h : ∀ (z0 : Rg → MM → Option (AV × MM)), (execC c modeF lo nl p56_21 z0 noE (endK cf56.res)) ρ M = (opt (fldA 0 0 true (ρ 5)) fun v1 =>
 opt (fldA 0 1 false (ρ 5)) fun v2 =>
 opt (fldA 0 0 true (ρ 6)) fun v3 =>
 opt (fldA 0 1 false (ρ 6)) fun v4 =>
 opt (binA .neq .none v2 v4) fun v5 =>
 opt (gdp v5 false (fldA 0 0 true (ρ 5))) fun v7 =>
 opt (gdp v5 false (fldA 1 1 false (ρ 5))) fun v8 =>
 opt (gdp v5 false (lenA v8)) fun v9 =>
 opt (gdp v5 false (fldA 0 0 true (ρ 6))) fun v10 =>
 opt (gdp v5 false (fldA 1 1 false (ρ 6))) fun v11 =>
 opt (gdp v5 false (lenA v11)) fun v12 =>
 opt (gdp v5 false (binA .neq .none v9 v12)) fun v13 =>
 opt (pickA v5 (.bool true) v13) fun v14 =>
 isB v14 fun c15 => if c15 then (some ((.bool false), M))
 else (z0 (sF (sF (sF (sF (sF (sF (sF (sF (sF (sF (sF (sF (sF (sF ρ 43 v1) 44 v2) 45 v3) 46 v4) 47 v5) 48 v5) 49 v7) 50 v8) 51 v9) 52 v10) 53 v11) 54 v12) 55 v13) 56 v14) M)) := by intros; kernel_rfl
 refine (h (k56_3 c nl lo)).trans ?_
 unfold b56_7; simp only [(t56_3 c nl lo)] <;> (show _ = _; kernel_rfl)
def k56_2 (c : CallT) (nl lo : Nat) : Rg → MM → Option (AV × MM) := (execC c modeF lo nl p56_41 (endK cf56.res) noE (endK cf56.res))
@[reducible] def b56_2 (c : CallT) (nl lo : Nat) (x2 x3 x4 x5 x6 : AV) (M : MM) : Option (AV × MM) :=
 b56_7 c nl lo x2 x3 x4 x5 x6 M
theorem t56_2 (c : CallT) (nl lo : Nat) (ρ : Rg) (M : MM) : k56_2 c nl lo ρ M = b56_2 c nl lo (ρ 2) (ρ 3) (ρ 4) (ρ 5) (ρ 6) M := by
 have h : k56_2 c nl lo ρ M = (k56_7 c nl lo ρ M) := execC_seq c modeF lo nl p56_21 p56_40 (endK cf56.res) noE (endK cf56.res) ρ M
 rw [h]
 unfold b56_2; simp only [(t56_7 c nl lo)] <;> (show _ = _; kernel_rfl)
def k56_8 (c : CallT) (nl lo : Nat) : Rg → MM → Option (AV × MM) := (execC c modeF lo nl p56_16 (k56_2 c nl lo) noE (endK cf56.res))
@[reducible] def b56_8 (c : CallT) (nl lo : Nat) (x2 x3 x4 x5 x6 : AV) (M : MM) : Option (AV × MM) :=
 opt (fldA 0 0 true x5) fun v2 =>
 opt (fldA 0 1 false x5) fun v3 =>
 opt (puA c (lk M) 72 [x2, v3]) fun v4 =>
 opt (binA .geq .none v4 (.i 0)) fun v7 =>
 opt (gdp v7 true (fldA 0 0 true x5)) fun v9 =>
 opt (gdp v7 true (fldA 1 1 false x5)) fun v10 =>
 opt (gdp v7 true (lenA v10)) fun v11 =>
 opt (gdp v7 true (binA .eql .none v11 (.i 0))) fun v12 =>
 opt (pickA v7 v12 (.bool false)) fun v13 =>
 isB v13 fun c14 => if c14 then (opt (ixsA 1 x3 v4) fun v17 =>
 opt (ld1A (lk M) v17) fun v18 =>
 isB v18 fun c19 => if c19 then (bumpK M 7 fun M20 =>
 opt (ixsA 2 x4 v4) fun v23 =>
 opt (ldnA (look M20.mem (.mk M.nx 7 7 true)) 2 v23) fun v24 =>
 opt (fldA 0 2 true x6) fun v25 =>
 opt (puA c (look M20.mem (.mk M.nx 7 31 true)) 20 [v24, v25]) fun v26 =>
 some (v26, M20))
 else (opt (fldA 0 2 true x6) fun v32 =>
 opt (puA c (lk M) 73 [v32]) fun v33 =>
 opt (ixsA 1 x3 v4) fun v34 =>
 bnd (istep c modeF false lo (.top M.nx) M.nx (.st 1 (.k v34) (.k (.bool true))) [] M) fun v35 M36 =>
 opt (ixsA 2 x4 v4) fun v37 =>
 bnd (istep c modeF false lo (.top M36.nx) M36.nx (.st 2 (.k v37) (.k v33)) [] M36) fun v38 M39 =>
 some ((.bool true), M39)))
 else (b56_2 c nl lo x2 x3 x4 x5 x6 M)
theorem t56_8 (c : CallT) (nl lo : Nat) (ρ : Rg) (M : MM) : k56_8 c nl lo ρ M = b56_8 c nl lo (ρ 2) (ρ 3) (ρ 4) (ρ 5) (ρ 6) M := by
 have h : ∀ (z0 : Rg → MM → Option (AV × MM)), (execC c modeF lo nl p56_16 z0 noE (endK cf56.res)) ρ M = (opt (fldA 0 0 true (ρ 5)) fun v2 =>
 opt (fldA 0 1 false (ρ 5)) fun v3 =>
 opt (puA c (lk M) 72 [(ρ 2), v3]) fun v4 =>
 opt (binA .geq .none v4 (.i 0)) fun v7 =>
 opt (gdp v7 true (fldA 0 0 true (ρ 5))) fun v9 =>
 opt (gdp v7 true (fldA 1 1 false (ρ 5))) fun v10 =>
 opt (gdp v7 true (lenA v10)) fun v11 =>
 opt (gdp v7 true (binA .eql .none v11 (.i 0))) fun v12 =>
 opt (pickA v7 v12 (.bool false)) fun v13 =>
 isB v13 fun c14 => if c14 then (opt (ixsA 1 (ρ 3) v4) fun v17 =>
 opt (ld1A (lk M) v17) fun v18 =>
 isB v18 fun c19 => if c19 then (bumpK M 7 fun M20 =>
 opt (ixsA 2 (ρ 4) v4) fun v23 =>
 opt (ldnA (look M20.mem (.mk M.nx 7 7 true)) 2 v23) fun v24 =>
 opt (fldA 0 2 true (ρ 6)) fun v25 =>
 opt (puA c (look M20.mem (.mk M.nx 7 31 true)) 20 [v24, v25]) fun v26 =>
 some (v26, M20))
 else (opt (fldA 0 2 true (ρ 6)) fun v32 =>
 opt (puA c (lk M) 73 [v32]) fun v33 =>
 opt (ixsA 1 (ρ 3) v4) fun v34 =>
 bnd (istep c modeF false lo (.top M.nx) M.nx (.st 1 (.k v34) (.k (.bool true))) [] M) fun v35 M36 =>
 opt (ixsA 2 (ρ 4) v4) fun v37 =>
 bnd (istep c modeF false lo (.top M36.nx) M36.nx (.st 2 (.k v37) (.k v33)) [] M36) fun v38 M39 =>
 some ((.bool true), M39)))
 else (z0 (sF (sF (sF (sF (sF (sF (sF (sF (sF (sF (sF (sF (sF ρ 13 (ρ 2)) 14 v2) 15 v3) 16 v4) 11 v4) 17 v4) 18 v7) 19 v7) 20 v9) 21 v10) 22 v11) 23 v12) 24 v13) M)) := by intros; kernel_rfl
 refine (h (k56_2 c nl lo)).trans ?_
 unfold b56_8; simp only [(t56_2 c nl lo)] <;> (show _ = _; kernel_rfl)
def k56_1 (c : CallT) (nl lo : Nat) : Rg → MM → Option (AV × MM) := (execC c modeF lo nl p56_42 (endK cf56.res) noE (endK cf56.res))
@[reducible] def b56_1 (c : CallT) (nl lo : Nat) (x2 x3 x4 x5 x6 : AV) (M : MM) : Option (AV × MM) :=
 b56_8 c nl lo x2 x3 x4 x5 x6 M
theorem t56_1 (c : CallT) (nl lo : Nat) (ρ : Rg) (M : MM) : k56_1 c nl lo ρ M = b56_1 c nl lo (ρ 2) (ρ 3) (ρ 4) (ρ 5) (ρ 6) M := by
 have h : k56_1 c nl lo ρ M = (k56_8 c nl lo ρ M) := execC_seq c modeF lo nl p56_16 p56_41 (endK cf56.res) noE (endK cf56.res) ρ M
 rw [h]
 unfold b56_1; simp only [(t56_8 c nl lo)] <;> (show _ = _; kernel_rfl)
def k56_9 (c : CallT) (nl lo : Nat) : Rg → MM → Option (AV × MM) := (execC c modeF lo nl p56_1 (k56_1 c nl lo) noE (endK cf56.res))
@[reducible] def b56_9 (c : CallT) (nl lo : Nat) (x0 x1 x2 x3 x4 : AV) (M : MM) : Option (AV × MM) :=
 opt (aggA x0) fun v1 =>
 upK M M.nx fun M2 =>
 opt (aggA x1) fun v3 =>
 upK M2 M2.nx fun M4 =>
 b56_1 c nl lo x2 x3 x4 v1 v3 M4
theorem t56_9 (c : CallT) (nl lo : Nat) (ρ : Rg) (M : MM) : k56_9 c nl lo ρ M = b56_9 c nl lo (ρ 0) (ρ 1) (ρ 2) (ρ 3) (ρ 4) M := by
 have h : ∀ (z0 : Rg → MM → Option (AV × MM)), (execC c modeF lo nl p56_1 z0 noE (endK cf56.res)) ρ M = (opt (aggA (ρ 0)) fun v1 =>
 upK M M.nx fun M2 =>
 opt (aggA (ρ 1)) fun v3 =>
 upK M2 M2.nx fun M4 =>
 z0 (sF (sF (sF ρ 5 v1) 6 v3) 10 (.bool false)) M4) := by intros; kernel_rfl
 refine (h (k56_1 c nl lo)).trans ?_
 unfold b56_9; simp only [(t56_1 c nl lo)] <;> (show _ = _; kernel_rfl)
def k56_0 (c : CallT) (nl lo : Nat) : Rg → MM → Option (AV × MM) := (execC c modeF lo nl p56_43 (endK cf56.res) noE (endK cf56.res))
@[reducible] def b56_0 (c : CallT) (nl lo : Nat) (x0 x1 x2 x3 x4 : AV) (M : MM) : Option (AV × MM) :=
 b56_9 c nl lo x0 x1 x2 x3 x4 M
theorem t56_0 (c : CallT) (nl lo : Nat) (ρ : Rg) (M : MM) : k56_0 c nl lo ρ M = b56_0 c nl lo (ρ 0) (ρ 1) (ρ 2) (ρ 3) (ρ 4) M := by
 have h : k56_0 c nl lo ρ M = (k56_9 c nl lo ρ M) := execC_seq c modeF lo nl p56_1 p56_42 (endK cf56.res) noE (endK cf56.res) ρ M
 rw [h]
 unfold b56_0; simp only [(t56_9 c nl lo)] <;> (show _ = _; kernel_rfl)
def k56_10 (c : CallT) (nl lo : Nat) : Rg → MM → Option (AV × MM) := (execC c modeF lo nl p56_0 (k56_0 c nl lo) noE (endK cf56.res))
@[reducible] def b56_10 (c : CallT) (nl lo : Nat) (x0 x1 x2 x3 x4 : AV) (M : MM) : Option (AV × MM) :=
 b56_0 c nl lo x0 x1 x2 x3 x4 M
theorem t56_10 (c : CallT) (nl lo : Nat) (ρ : Rg) (M : MM) : k56_10 c nl lo ρ M = b56_10 c nl lo (ρ 0) (ρ 1) (ρ 2) (ρ 3) (ρ 4) M := by
 have h : ∀ (z0 : Rg → MM → Option (AV × MM)), (execC c modeF lo nl p56_0 z0 noE (endK cf56.res)) ρ M = (z0 (sF (sF ρ 5 (.tup [])) 6 (.tup [])) M) := by intros; kernel_rfl
 refine (h (k56_0 c nl lo)).trans ?_
 unfold b56_10; simp only [(t56_0 c nl lo)] <;> (show _ = _; kernel_rfl)
def s56 (c : CallT) (nl lo : Nat) (a0 a1 a2 a3 a4 : AV) (M : MM) : Option (AV × MM) :=
 b56_10 c nl lo a0 a1 a2 a3 a4 M
theorem e56 (c : CallT) (nl lo : Nat) (a0 a1 a2 a3 a4 : AV) (M : MM) : execC c modeF lo nl cf56.body (endK cf56.res) noE (endK cf56.res) (aF [a0, a1, a2, a3, a4]) M = s56 c nl lo a0 a1 a2 a3 a4 M := by
 have h : execC c modeF lo nl cf56.body (endK cf56.res) noE (endK cf56.res) (aF [a0, a1, a2, a3, a4]) M = (k56_10 c nl lo (aF [a0, a1, a2, a3, a4]) M) := execC_seq c modeF lo nl p56_0 p56_43 (endK cf56.res) noE (endK cf56.res) (aF [a0, a1, a2, a3, a4]) M
 refine h.trans ?_
 unfold s56; simp only [(t56_10 c nl lo)] <;> (show _ = _; kernel_rfl)
theorem q56 {c : CallT} (hc : Lim G c) (lo : Nat) (a0 a1 a2 a3 a4 : AV) (M : MM) : c 56 [a0, a1, a2, a3, a4] lo M = s56 c G.nl lo a0 a1 a2 a3 a4 M :=
 (hc.flow (cf := cf56) rfl w56 [a0, a1, a2, a3, a4] lo M).trans (e56 c G.nl lo a0 a1 a2 a3 a4 M)

/-! ### function 58 -/
theorem w58 : wfK cf58.nt cf58.body = true := by kernel_rfl
def s58 (c : CallT) (nl lo : Nat) (a0 : AV) (M : MM) : Option (AV × MM) :=
 opt (puA c (lk M) 37 [a0]) fun v3 =>
 opt (unA .not v3) fun v4 =>
 opt (gdp v4 true (some a0)) fun v6 =>
 opt (gdp v4 true (puA c (lk M) 61 [v6, (.str ⟨⟨[46]⟩⟩)])) fun v7 =>
 opt (gdp v4 true (unA .not v7)) fun v8 =>
 opt (pickA v4 v8 (.bool false)) fun v9 =>
 some (v9, M)
theorem e58 (c : CallT) (nl lo : Nat) (a0 : AV) (M : MM) : execC c modeF lo nl cf58.body (endK cf58.res) noE (endK cf58.res) (aF [a0]) M = s58 c nl lo a0 M := by
 kernel_rfl
theorem q58 {c : CallT} (hc : Lim G c) (lo : Nat) (a0 : AV) (M : MM) : c 58 [a0] lo M = s58 c G.nl lo a0 M :=
 (hc.flow (cf := cf58) rfl w58 [a0] lo M).trans (e58 c G.nl lo a0 M)

/-! ### function 61 -/
theorem w61 : wfK cf61.nt cf61.body = true := by kernel_rfl
def s61 (c : CallT) (nl lo : Nat) (a0 a1 : AV) (M : MM) : Option (AV × MM) :=
 opt (puA c (lk M) 79 [a0, a1]) fun v4 =>
 opt (binA .geq .none v4 (.i 0)) fun v5 =>
 some (v5, M)
theorem e61 (c : CallT) (nl lo : Nat) (a0 a1 : AV) (M : MM) : execC c modeF lo nl cf61.body (endK cf61.res) noE (endK cf61.res) (aF [a0, a1]) M = s61 c nl lo a0 a1 M := by
 kernel_rfl
theorem q61 {c : CallT} (hc : Lim G c) (lo : Nat) (a0 a1 : AV) (M : MM) : c 61 [a0, a1] lo M = s61 c G.nl lo a0 a1 M :=
 (hc.flow (cf := cf61) rfl w61 [a0, a1] lo M).trans (e61 c G.nl lo a0 a1 M)

/-! ### function 63 -/
theorem w63 : wfK cf63.nt cf63.body = true := by kernel_rfl
def k63_3 (c : CallT) (nl lo : Nat) : Rg → MM → Option (AV × MM) := (execC c modeF lo nl p63_19 (endK cf63.res) noE (endK cf63.res))
@[reducible] def b63_3 (c : CallT) (nl lo : Nat) (x3 : AV) (M : MM) : Option (AV × MM) :=
 some (x3, M)
theorem t63_3 (c : CallT) (nl lo : Nat) (ρ : Rg) (M : MM) : k63_3 c nl lo ρ M = b63_3 c nl lo (ρ 3) M := by
 kernel_rfl
def k63_7 (c : CallT) (nl lo : Nat) (q63_5 : Rg → MM → Option (AV × MM)) : Rg → MM → Option (AV × MM) := (execC c modeF lo nl p63_12 q63_5 (fun i ρ M => if i = 0 then (k63_3 c nl lo) ρ M else noE i ρ M) (endK cf63.res))
@[reducible] def b63_7 (c : CallT) (nl lo : Nat) (j63_5 : AV → AV → AV → MM → Option (AV × MM)) (x0 x3 x4 : AV) (M : MM) : Option (AV × MM) :=
 opt (binA .add .none x4 (.i 1)) fun v5 =>
 j63_5 x0 x3 v5 M
theorem t63_7 (c : CallT) (nl lo : Nat) (q63_5 : Rg → MM → Option (AV × MM)) (j63_5 : AV → AV → AV → MM → Option (AV × MM)) (h63_5 : ∀ (ρ : Rg) (M : MM), q63_5 ρ M = j63_5 (ρ 0) (ρ 3) (ρ 4) M) (ρ : Rg) (M : MM) : k63_7 c nl lo q63_5 ρ M = b63_7 c nl lo j63_5 (ρ 0) (ρ 3) (ρ 4) M := by
 have h : k63_7 c nl lo q63_5 ρ M = (opt (binA .add .none (ρ 4) (.i 1)) fun v5 =>
 q63_5 (sF (sF (sF ρ 9 (ρ 4)) 10 v5) 4 v5) M) := by kernel_rfl
 rw [h]
 unfold b63_7; simp only [h63_5] <;> (show _ = _; kernel_rfl)
def k63_8 (c : CallT) (nl lo : Nat) (q63_5 : Rg → MM → Option (AV × MM)) : Rg → MM → Option (AV × MM) := (execC c modeF lo nl p63_11 (k63_7 c nl lo q63_5) (fun i ρ M => if i = 0 then (k63_3 c nl lo) ρ M else noE i ρ M) (endK cf63.res))
@[reducible] def b63_8 (c : CallT) (nl lo : Nat) (j63_5 : AV → AV → AV → MM → Option (AV × MM)) (x0 x3 x4 : AV) (M : MM) : Option (AV × MM) :=
 opt (ixcA x0 x4) fun v9 =>
 opt (binA .eql .none v9 (.int .u8 46)) fun v10 =>
 isB v10 fun c11 => if c11 then (opt (binA .add .none x3 (.i 1)) fun v13 =>
 b63_7 c nl lo j63_5 x0 v13 x4 M)
 else (b63_7 c nl lo j63_5 x0 x3 x4 M)
theorem t63_8 (c : CallT) (nl lo : Nat) (q63_5 : Rg → MM → Option (AV × MM)) (j63_5 : AV → AV → AV → MM → Option (AV × MM)) (h63_5 : ∀ (ρ : Rg) (M : MM), q63_5 ρ M = j63_5 (ρ 0) (ρ 3) (ρ 4) M) (ρ : Rg) (M : MM) : k63_8 c nl lo q63_5 ρ M = b63_8 c nl lo j63_5 (ρ 0) (ρ 3) (ρ 4) M := by
 have h : ∀ (z0 : Rg → MM → Option (AV × MM)), (execC c modeF lo nl p63_11 z0 (fun i ρ M => if i = 0 then (k63_3 c nl lo) ρ M else noE i ρ M) (endK cf63.res)) ρ M = (opt (ixcA (ρ 0) (ρ 4)) fun v9 =>
 opt (binA .eql .none v9 (.int .u8 46)) fun v10 =>
 isB v10 fun c11 => if c11 then (opt (binA .add .none (ρ 3) (.i 1)) fun v13 =>
 z0 (sF (sF (sF (sF (sF (sF (sF ρ 11 (ρ 0)) 12 (ρ 4)) 13 v9) 14 v10) 15 (ρ 3)) 16 v13) 3 v13) M)
 else (z0 (sF (sF (sF (sF ρ 11 (ρ 0)) 12 (ρ 4)) 13 v9) 14 v10) M)) := by intros; kernel_rfl
 refine (h (k63_7 c nl lo q63_5)).trans ?_
 unfold b63_8; simp only [(t63_7 c nl lo q63_5 j63_5 h63_5), h63_5] <;> (show _ = _; kernel_rfl)
def k63_6 (c : CallT) (nl lo : Nat) (q63_5 : Rg → MM → Option (AV × MM)) : Rg → MM → Option (AV × MM) := (execC c modeF lo nl p63_13 q63_5 (fun i ρ M => if i = 0 then (k63_3 c nl lo) ρ M else noE i ρ M) (endK cf63.res))
@[reducible] def b63_6 (c : CallT) (nl lo : Nat) (j63_5 : AV → AV → AV → MM → Option (AV × MM)) (x0 x3 x4 : AV) (M : MM) : Option (AV × MM) :=
 b63_8 c nl lo j63_5 x0 x3 x4 M
theorem t63_6 (c : CallT) (nl lo : Nat) (q63_5 : Rg → MM → Option (AV × MM)) (j63_5 : AV → AV → AV → MM → Option (AV × MM)) (h63_5 : ∀ (ρ : Rg) (M : MM), q63_5 ρ M = j63_5 (ρ 0) (ρ 3) (ρ 4) M) (ρ : Rg) (M : MM) : k63_6 c nl lo q63_5 ρ M = b63_6 c nl lo j63_5 (ρ 0) (ρ 3) (ρ 4) M := by
 have h : k63_6 c nl lo q63_5 ρ M = (k63_8 c nl lo q63_5 ρ M) := execC_seq c modeF lo nl p63_11 p63_12 q63_5 (fun i ρ M => if i = 0 then (k63_3 c nl lo) ρ M else noE i ρ M) (endK cf63.res) ρ M
 rw [h]
 unfold b63_6; simp only [(t63_8 c nl lo q63_5 j63_5 h63_5), h63_5] <;> (show _ = _; kernel_rfl)
def k63_9 (c : CallT) (nl lo : Nat) (q63_5 : Rg → MM → Option (AV × MM)) : Rg → MM → Option (AV × MM) := (execC c modeF lo nl p63_6 (k63_6 c nl lo q63_5) (fun i ρ M => if i = 0 then (k63_3 c nl lo) ρ M else noE i ρ M) (endK cf63.res))
@[reducible] def b63_9 (c : CallT) (nl lo : Nat) (j63_5 : AV → AV → AV → MM → Option (AV × MM)) (x0 x3 x4 : AV) (M : MM) : Option (AV × MM) :=
 opt (lensA x0) fun v6 =>
 opt (binA .lss .none x4 v6) fun v7 =>
 isB v7 fun c8 => if c8 then (b63_6 c nl lo j63_5 x0 x3 x4 M)
 else (b63_3 c nl lo x3 M)
theorem t63_9 (c : CallT) (nl lo : Nat) (q63_5 : Rg → MM → Option (AV × MM)) (j63_5 : AV → AV → AV → MM → Option (AV × MM)) (h63_5 : ∀ (ρ : Rg) (M : MM), q63_5 ρ M = j63_5 (ρ 0) (ρ 3) (ρ 4) M) (ρ : Rg) (M : MM) : k63_9 c nl lo q63_5 ρ M = b63_9 c nl lo j63_5 (ρ 0) (ρ 3) (ρ 4) M := by
 have h : ∀ (z0 z1 : Rg → MM → Option (AV × MM)), (execC c modeF lo nl p63_6 z1 (fun i ρ M => if i = 0 then z0 ρ M else noE i ρ M) (endK cf63.res)) ρ M = (opt (lensA (ρ 0)) fun v6 =>
 opt (binA .lss .none (ρ 4) v6) fun v7 =>
 isB v7 fun c8 => if c8 then (z1 (sF (sF (sF (sF ρ 5 (ρ 4)) 6 (ρ 0)) 7 v6) 8 v7) M)
 else (z0 (sF (sF (sF (sF ρ 5 (ρ 4)) 6 (ρ 0)) 7 v6) 8 v7) M)) := by intros; kernel_rfl
 refine (h (k63_3 c nl lo) (k63_6 c nl lo q63_5)).trans ?_
 unfold b63_9; simp only [(t63_3 c nl lo), (t63_6 c nl lo q63_5 j63_5 h63_5), h63_5] <;> (show _ = _; kernel_rfl)
def k63_5 (c : CallT) (nl lo : Nat) (n : Nat) : Rg → MM → Option (AV × MM) := iterC (fun k ρ M => execC c modeF lo nl p63_14 k (fun i ρ M => if i = 0 then (k63_3 c nl lo) ρ M else noE i ρ M) (endK cf63.res) ρ M) n
def b63_5 (c : CallT) (nl lo : Nat) : Nat → AV → AV → AV → MM → Option (AV × MM)
 | 0, _, _, _, _ => none
 | n + 1, x0, x3, x4, M =>
 b63_9 c nl lo (b63_5 c nl lo n) x0 x3 x4 M
theorem t63_5 (c : CallT) (nl lo : Nat) : ∀ (n : Nat) (ρ : Rg) (M : MM), k63_5 c nl lo n ρ M = b63_5 c nl lo n (ρ 0) (ρ 3) (ρ 4) M
 | 0, ρ, M => rfl
 | n + 1, ρ, M => by
  have h : k63_5 c nl lo (n + 1) ρ M = (k63_9 c nl lo (k63_5 c nl lo n) ρ M) := execC_seq c modeF lo nl p63_6 p63_13 (k63_5 c nl lo n) (fun i ρ M => if i = 0 then (k63_3 c nl lo) ρ M else noE i ρ M) (endK cf63.res) ρ M
  rw [h]
  unfold b63_5; simp only [(t63_9 c nl lo (k63_5 c nl lo n) (b63_5 c nl lo n) (t63_5 c nl lo n)), (t63_5 c nl lo n)] <;> (show _ = _; kernel_rfl)
def k63_4 (c : CallT) (nl lo : Nat) : Rg → MM → Option (AV × MM) := (execC c modeF lo nl p63_17 (k63_3 c nl lo) noE (endK cf63.res))
@[reducible] def b63_4 (c : CallT) (nl lo : Nat) (x0 x3 : AV) (M : MM) : Option (AV × MM) :=
 b63_5 c nl lo nl x0 x3 (.i 0) M
theorem t63_4 (c : CallT) (nl lo : Nat) (ρ : Rg) (M : MM) : k63_4 c nl lo ρ M = b63_4 c nl lo (ρ 0) (ρ 3) M := by
 have h : k63_4 c nl lo ρ M = (k63_5 c nl lo nl (sF ρ 4 (.i 0)) M) := by kernel_rfl
 rw [h]
 unfold b63_4; simp only [(t63_5 c nl lo nl)] <;> (show _ = _; kernel_rfl)
def k63_2 (c : CallT) (nl lo : Nat) : Rg → MM → Option (AV × MM) := (execC c modeF lo nl p63_20 (endK cf63.res) noE (endK cf63.res))
@[reducible] def b63_2 (c : CallT) (nl lo : Nat) (x0 x3 : AV) (M : MM) : Option (AV × MM) :=
 b63_4 c nl lo x0 x3 M
theorem t63_2 (c : CallT) (nl lo : Nat) (ρ : Rg) (M : MM) : k63_2 c nl lo ρ M = b63_2 c nl lo (ρ 0) (ρ 3) M := by
 have h : k63_2 c nl lo ρ M = (k63_4 c nl lo ρ M) := execC_seq c modeF lo nl p63_17 p63_19 (endK cf63.res) noE (endK cf63.res) ρ M
 rw [h]
 unfold b63_2; simp only [(t63_4 c nl lo)] <;> (show _ = _; kernel_rfl)
def k63_10 (c : CallT) (nl lo : Nat) : Rg → MM → Option (AV × MM) := (execC c modeF lo nl p63_2 (k63_2 c nl lo) noE (endK cf63.res))
@[reducible] def b63_10 (c : CallT) (nl lo : Nat) (x0 : AV) (M : MM) : Option (AV × MM) :=
 b63_2 c nl lo x0 (.i 0) M
theorem t63_10 (c : CallT) (nl lo : Nat) (ρ : Rg) (M : MM) : k63_10 c nl lo ρ M = b63_10 c nl lo (ρ 0) M := by
 have h : ∀ (z0 : Rg → MM → Option (AV × MM)), (execC c modeF lo nl p63_2 z0 noE (endK cf63.res)) ρ M = (z0 (sF ρ 3 (.i 0)) M) := by intros; kernel_rfl
 refine (h (k63_2 c nl lo)).trans ?_
 unfold b63_10; simp only [(t63_2 c nl lo)] <;> (show _ = _; kernel_rfl)
def k63_1 (c : CallT) (nl lo : Nat) : Rg → MM → Option (AV × MM) := (execC c modeF lo nl p63_21 (endK cf63.res) noE (endK cf63.res))
@[reducible] def b63_1 (c : CallT) (nl lo : Nat) (x0 : AV) (M : MM) : Option (AV × MM) :=
 b63_10 c nl lo x0 M
theorem t63_1 (c : CallT) (nl lo : Nat) (ρ : Rg) (M : MM) : k63_1 c nl lo ρ M = b63_1 c nl lo (ρ 0) M := by
 have h : k63_1 c nl lo ρ M = (k63_10 c nl lo ρ M) := execC_seq c modeF lo nl p63_2 p63_20 (endK cf63.res) noE (endK cf63.res) ρ M
 rw [h]
 unfold b63_1; simp only [(t63_10 c nl lo)] <;> (show _ = _; kernel_rfl)
def k63_11 (c : CallT) (nl lo : Nat) : Rg → MM → Option (AV × MM) := (execC c modeF lo nl p63_1 (k63_1 c nl lo) noE (endK cf63.res))
@[reducible] def b63_11 (c : CallT) (nl lo : Nat) (x0 : AV) (M : MM) : Option (AV × MM) :=
 b63_1 c nl lo x0 M
theorem t63_11 (c : CallT) (nl lo : Nat) (ρ : Rg) (M : MM) : k63_11 c nl lo ρ M = b63_11 c nl lo (ρ 0) M := by
 have h : ∀ (z0 : Rg → MM → Option (AV × MM)), (execC c modeF lo nl p63_1 z0 noE (endK cf63.res)) ρ M = (z0 (sF ρ 2 (.i 0)) M) := by intros; kernel_rfl
 refine (h (k63_1 c nl lo)).trans ?_
 unfold b63_11; simp only [(t63_1 c nl lo)] <;> (show _ = _; kernel_rfl)
def k63_0 (c : CallT) (nl lo : Nat) : Rg → MM → Option (AV × MM) := (execC c modeF lo nl p63_22 (endK cf63.res) noE (endK cf63.res))
@[reducible] def b63_0 (c : CallT) (nl lo : Nat) (x0 : AV) (M : MM) : Option (AV × MM) :=
 b63_11 c nl lo x0 M
theorem t63_0 (c : CallT) (nl lo : Nat) (ρ : Rg) (M : MM) : k63_0 c nl lo ρ M = b63_0 c nl lo (ρ 0) M := by
 have h : k63_0 c nl lo ρ M = (k63_11 c nl lo ρ M) := execC_seq c modeF lo nl p63_1 p63_21 (endK cf63.res) noE (endK cf63.res) ρ M
 rw [h]
 unfold b63_0; simp only [(t63_11 c nl lo)] <;> (show _ = _; kernel_rfl)
def k63_12 (c : CallT) (nl lo : Nat) : Rg → MM → Option (AV × MM) := (execC c modeF lo nl p63_0 (k63_0 c nl lo) noE (endK cf63.res))
@[reducible] def b63_12 (c : CallT) (nl lo : Nat) (x0 : AV) (M : MM) : Option (AV × MM) :=
 b63_0 c nl lo x0 M
theorem t63_12 (c : CallT) (nl lo : Nat) (ρ : Rg) (M : MM) : k63_12 c nl lo ρ M = b63_12 c nl lo (ρ 0) M := by
 have h : ∀ (z0 : Rg → MM → Option (AV × MM)), (execC c modeF lo nl p63_0 z0 noE (endK cf63.res)) ρ M = (z0 ρ M) := by intros; kernel_rfl
 refine (h (k63_0 c nl lo)).trans ?_
 unfold b63_12; simp only [(t63_0 c nl lo)] <;> (show _ = _; kernel_rfl)
def s63 (c : CallT) (nl lo : Nat) (a0 : AV) (M : MM) : Option (AV × MM) :=
 b63_12 c nl lo a0 M
theorem e63 (c : CallT) (nl lo : Nat) (a0 : AV) (M : MM) : execC c modeF lo nl cf63.body (endK cf63.res) noE (endK cf63.res) (aF [a0]) M = s63 c nl lo a0 M := by
 have h : execC c modeF lo nl cf63.body (endK cf63.res) noE (endK cf63.res) (aF [a0]) M = (k63_12 c nl lo (aF [a0]) M) := execC_seq c modeF lo nl p63_0 p63_22 (endK cf63.res) noE (endK cf63.res) (aF [a0]) M
 refine h.trans ?_
 unfold s63; simp only [(t63_12 c nl lo)] <;> (show _ = _; kernel_rfl)
theorem q63 {c : CallT} (hc : Lim G c) (lo : Nat) (a0 : AV) (M : MM) : c 63 [a0] lo M = s63 c G.nl lo a0 M :=
 (hc.flow (cf := cf63) rfl w63 [a0] lo M).trans (e63 c G.nl lo a0 M)

/-! ### function 70 -/
theorem w70 : wfK cf70.nt cf70.body = true := by kernel_rfl
def s70 (c : CallT) (nl lo : Nat) (a0 a1 : AV) (M : MM) : Option (AV × MM) :=
 opt (puA c (lk M) 85 [a0, a1]) fun v4 =>
 opt (binA .geq .none v4 (.i 0)) fun v5 =>
 some (v5, M)
theorem e70 (c : CallT) (nl lo : Nat) (a0 a1 : AV) (M : MM) : execC c modeF lo nl cf70.body (endK cf70.res) noE (endK cf70.res) (aF [a0, a1]) M = s70 c nl lo a0 a1 M := by
 kernel_rfl
theorem q70 {c : CallT} (hc : Lim G c) (lo : Nat) (a0 a1 : AV) (M : MM) : c 70 [a0, a1] lo M = s70 c G.nl lo a0 a1 M :=
 (hc.flow (cf := cf70) rfl w70 [a0, a1] lo M).trans (e70 c G.nl lo a0 a1 M)

/-! ### function 71 -/
theorem w71 : wfK cf71.nt cf71.body = true := by kernel_rfl
def s71 (c : CallT) (nl lo : Nat) (a0 a1 : AV) (M : MM) : Option (AV × MM) :=
 opt (aggA a0) fun v2 =>
 upK M M.nx fun M3 =>
 opt (fldA 0 0 true v2) fun v5 =>
 opt (fldA 1 1 false v2) fun v6 =>
 opt (lenA v6) fun v7 =>
 opt (binA .gtr .none v7 (.i 0)) fun v8 =>
 isB v8 fun c9 => if c9 then (some ((.i (-1)), M3))
 else (opt (fldA 0 0 true v2) fun v12 =>
 opt (fldA 0 1 false v2) fun v13 =>
 opt (puA c (lk M3) 85 [a1, v13]) fun v14 =>
 some (v14, M3))
theorem e71 (c : CallT) (nl lo : Nat) (a0 a1 : AV) (M : MM) : execC c modeF lo nl cf71.body (endK cf71.res) noE (endK cf71.res) (aF [a0, a1]) M = s71 c nl lo a0 a1 M := by
 kernel_rfl
theorem q71 {c : CallT} (hc : Lim G c) (lo : Nat) (a0 a1 : AV) (M : MM) : c 71 [a0, a1] lo M = s71 c G.nl lo a0 a1 M :=
 (hc.flow (cf := cf71) rfl w71 [a0, a1] lo M).trans (e71 c G.nl lo a0 a1 M)

/-! ### function 72 -/
theorem w72 : wfK cf72.nt cf72.body = true := by kernel_rfl
def k72_2 (c : CallT) (nl lo : Nat) : Rg → MM → Option (AV × MM) := (execC c modeF lo nl p72_21 (endK cf72.res) noE (endK cf72.res))
@[reducible] def b72_2 (c : CallT) (nl lo : Nat) (M : MM) : Option (AV × MM) :=
 some ((.i (-1)), M)
theorem t72_2 (c : CallT) (nl lo : Nat) (ρ : Rg) (M : MM) : k72_2 c nl lo ρ M = b72_2 c nl lo M := by
 kernel_rfl
def k72_4 (c : CallT) (nl lo : Nat) (n : Nat) : Rg → MM → Option (AV × MM) := iterC (fun k ρ M => execC c modeF lo nl p72_16 k (fun i ρ M => if i = 0 then (k72_2 c nl lo) ρ M else noE i ρ M) (endK cf72.res) ρ M) n
def b72_4 (c : CallT) (nl lo : Nat) : Nat → AV → AV → AV → AV → MM → Option (AV × MM)
 | 0, _, _, _, _, _ => none
 | n + 1, x1, x7, x8, x9, M =>
 opt (binA .lss .none x9 x8) fun v5 =>
 isB v5 fun c6 => if c6 then (opt (ixsA 1 x7 x9) fun v8 =>
 opt (ld1A (lk M) v8) fun v9 =>
 opt (binA .eql .none v9 x1) fun v14 =>
 isB v14 fun c15 => if c15 then (some (x9, M))
 else (opt (binA .add .none x9 (.i 1)) fun v18 =>
 (b72_4 c nl lo n) x1 x7 x8 v18 M))
 else (b72_2 c nl lo M)
theorem t72_4 (c : CallT) (nl lo : Nat) : ∀ (n : Nat) (ρ : Rg) (M : MM), k72_4 c nl lo n ρ M = b72_4 c nl lo n (ρ 1) (ρ 7) (ρ 8) (ρ 9) M
 | 0, ρ, M => rfl
 | n + 1, ρ, M => by
  have h : ∀ (zb z0 : Rg → MM → Option (AV × MM)), execC c modeF lo nl p72_16 zb (fun i ρ M => if i = 0 then z0 ρ M else noE i ρ M) (endK cf72.res) ρ M = (opt (binA .lss .none (ρ 9) (ρ 8)) fun v5 =>
  isB v5 fun c6 => if c6 then (opt (ixsA 1 (ρ 7) (ρ 9)) fun v8 =>
  opt (ld1A (lk M) v8) fun v9 =>
  opt (binA .eql .none v9 (ρ 1)) fun v14 =>
  isB v14 fun c15 => if c15 then (some ((ρ 9), M))
  else (opt (binA .add .none (ρ 9) (.i 1)) fun v18 =>
  zb (sF (sF (sF (sF (sF (sF (sF (sF (sF (sF (sF ρ 10 v5) 11 (ρ 9)) 12 v8) 13 v9) 5 (ρ 9)) 6 v9) 14 v9) 15 (ρ 1)) 16 v14) 18 v18) 9 v18) M))
  else (z0 (sF ρ 10 v5) M)) := by intros; kernel_rfl
  refine (h (k72_4 c nl lo n) (k72_2 c nl lo)).trans ?_
  unfold b72_4; simp only [(t72_2 c nl lo), (t72_4 c nl lo n)] <;> (show _ = _; kernel_rfl)
def k72_3 (c : CallT) (nl lo : Nat) : Rg → MM → Option (AV × MM) := (execC c modeF lo nl p72_19 (k72_2 c nl lo) noE (endK cf72.res))
@[reducible] def b72_3 (c : CallT) (nl lo : Nat) (x0 x1 : AV) (M : MM) : Option (AV × MM) :=
 opt (lenA x0) fun v3 =>
 b72_4 c nl lo nl x1 x0 v3 (.i 0) M
theorem t72_3 (c : CallT) (nl lo : Nat) (ρ : Rg) (M : MM) : k72_3 c nl lo ρ M = b72_3 c nl lo (ρ 0) (ρ 1) M := by
 have h : k72_3 c nl lo ρ M = (opt (lenA (ρ 0)) fun v3 =>
 k72_4 c nl lo nl (sF (sF (sF ρ 7 (ρ 0)) 8 v3) 9 (.i 0)) M) := by kernel_rfl
 rw [h]
 unfold b72_3; simp only [(t72_4 c nl lo nl)] <;> (show _ = _; kernel_rfl)
def k72_1 (c : CallT) (nl lo : Nat) : Rg → MM → Option (AV × MM) := (execC c modeF lo nl p72_22 (endK cf72.res) noE (endK cf72.res))
@[reducible] def b72_1 (c : CallT) (nl lo : Nat) (x0 x1 : AV) (M : MM) : Option (AV × MM) :=
 b72_3 c nl lo x0 x1 M
theorem t72_1 (c : CallT) (nl lo : Nat) (ρ : Rg) (M : MM) : k72_1 c nl lo ρ M = b72_1 c nl lo (ρ 0) (ρ 1) M := by
 have h : k72_1 c nl lo ρ M = (k72_3 c nl lo ρ M) := execC_seq c modeF lo nl p72_19 p72_21 (endK cf72.res) noE (endK cf72.res) ρ M
 rw [h]
 unfold b72_1; simp only [(t72_3 c nl lo)] <;> (show _ = _; kernel_rfl)
def k72_5 (c : CallT) (nl lo : Nat) : Rg → MM → Option (AV × MM) := (execC c modeF lo nl p72_1 (k72_1 c nl lo) noE (endK cf72.res))
@[reducible] def b72_5 (c : CallT) (nl lo : Nat) (x0 x1 : AV) (M : MM) : Option (AV × MM) :=
 b72_1 c nl lo x0 x1 M
theorem t72_5 (c : CallT) (nl lo : Nat) (ρ : Rg) (M : MM) : k72_5 c nl lo ρ M = b72_5 c nl lo (ρ 0) (ρ 1) M := by
 have h : ∀ (z0 : Rg → MM → Option (AV × MM)), (execC c modeF lo nl p72_1 z0 noE (endK cf72.res)) ρ M = (z0 (sF ρ 4 (.i 0)) M) := by intros; kernel_rfl
 refine (h (k72_1 c nl lo)).trans ?_
 unfold b72_5; simp only [(t72_1 c nl lo)] <;> (show _ = _; kernel_rfl)
def k72_0 (c : CallT) (nl lo : Nat) : Rg → MM → Option (AV × MM) := (execC c modeF lo nl p72_23 (endK cf72.res) noE (endK cf72.res))
@[reducible] def b72_0 (c : CallT) (nl lo : Nat) (x0 x1 : AV) (M : MM) : Option (AV × MM) :=
 b72_5 c nl lo x0 x1 M
theorem t72_0 (c : CallT) (nl lo : Nat) (ρ : Rg) (M : MM) : k72_0 c nl lo ρ M = b72_0 c nl lo (ρ 0) (ρ 1) M := by
 have h : k72_0 c nl lo ρ M = (k72_5 c nl lo ρ M) := execC_seq c modeF lo nl p72_1 p72_22 (endK cf72.res) noE (endK cf72.res) ρ M
 rw [h]
 unfold b72_0; simp only [(t72_5 c nl lo)] <;> (show _ = _; kernel_rfl)
def k72_6 (c : CallT) (nl lo : Nat) : Rg → MM → Option (AV × MM) := (execC c modeF lo nl p72_0 (k72_0 c nl lo) noE (endK cf72.res))
@[reducible] def b72_6 (c : CallT) (nl lo : Nat) (x0 x1 : AV) (M : MM) : Option (AV × MM) :=
 b72_0 c nl lo x0 x1 M
theorem t72_6 (c : CallT) (nl lo : Nat) (ρ : Rg) (M : MM) : k72_6 c nl lo ρ M = b72_6 c nl lo (ρ 0) (ρ 1) M := by
 have h : ∀ (z0 : Rg → MM → Option (AV × MM)), (execC c modeF lo nl p72_0 z0 noE (endK cf72.res)) ρ M = (z0 ρ M) := by intros; kernel_rfl
 refine (h (k72_0 c nl lo)).trans ?_
 unfold b72_6; simp only [(t72_0 c nl lo)] <;> (show _ = _; kernel_rfl)
def s72 (c : CallT) (nl lo : Nat) (a0 a1 : AV) (M : MM) : Option (AV × MM) :=
 b72_6 c nl lo a0 a1 M
theorem e72 (c : CallT) (nl lo : Nat) (a0 a1 : AV) (M : MM) : execC c modeF lo nl cf72.body (endK cf72.res) noE (endK cf72.res) (aF [a0, a1]) M = s72 c nl lo a0 a1 M := by
 have h : execC c modeF lo nl cf72.body (endK cf72.res) noE (endK cf72.res) (aF [a0, a1]) M = (k72_6 c nl lo (aF [a0, a1]) M) := execC_seq c modeF lo nl p72_0 p72_23 (endK cf72.res) noE (endK cf72.res) (aF [a0, a1]) M
 refine h.trans ?_
 unfold s72; simp only [(t72_6 c nl lo)] <;> (show _ = _; kernel_rfl)
theorem q72 {c : CallT} (hc : Lim G c) (lo : Nat) (a0 a1 : AV) (M : MM) : c 72 [a0, a1] lo M = s72 c G.nl lo a0 a1 M :=
 (hc.flow (cf := cf72) rfl w72 [a0, a1] lo M).trans (e72 c G.nl lo a0 a1 M)

/-! ### function 73 -/
theorem w73 : wfK cf73.nt cf73.body = true := by kernel_rfl
def k73_3 (c : CallT) (nl lo : Nat) : Rg → MM → Option (AV × MM) := (execC c modeF lo nl p73_18 (endK cf73.res) noE (endK cf73.res))
@[reducible] def b73_3 (c : CallT) (nl lo : Nat) (x2 x3 : AV) (M : MM) : Option (AV × MM) :=
 opt (fldA 0 2 true x3) fun v1 =>
 opt (setcA 0 2 x2 v1) fun v2 =>
 opt (locA 2 true v2) fun r => some (r, M)
theorem t73_3 (c : CallT) (nl lo : Nat) (ρ : Rg) (M : MM) : k73_3 c nl lo ρ M = b73_3 c nl lo (ρ 2) (ρ 3) M := by
 kernel_rfl
def k73_5 (c : CallT) (nl lo : Nat) (n : Nat) : Rg → MM → Option (AV × MM) := iterC (fun k ρ M => execC c modeF lo nl p73_13 k (fun i ρ M => if i = 0 then (k73_3 c nl lo) ρ M else noE i ρ M) (endK cf73.res) ρ M) n
def b73_5 (c : CallT) (nl lo : Nat) : Nat → AV → AV → AV → AV → AV → MM → Option (AV × MM)
 | 0, _, _, _, _, _, _ => none
 | n + 1, x2, x3, x10, x11, x12, M =>
 opt (binA .lss .none x12 x11) fun v7 =>
 isB v7 fun c8 => if c8 then (opt (ixsA 2 x10 x12) fun v9 =>
 opt (ldnA (lk M) 2 v9) fun v10 =>
 upK M M.nx fun M12 =>
 opt (setcA 0 2 (.agg [.str ⟨⟨[]⟩⟩, .d (.sl [] 0)]) v10) fun v13 =>
 bumpK M12 8 fun M14 =>
 opt (fldA 0 0 true x3) fun v15 =>
 opt (fldA 1 1 false x3) fun v16 =>
 opt (fldA 0 2 true v13) fun v17 =>
 opt (puA c (look M14.mem (.mk M12.nx 8 4 true)) 73 [v17]) fun v18 =>
 opt (wslA 1 (fill [.str ⟨⟨[]⟩⟩, .d (.sl [] 0)] [(0, 2, v18)])) fun v19 =>
 upK M14 (M12.nx + 4) fun M20 =>
 opt (wappA M20.mem (.top M20.nx) 2 40 v16 v19) fun v21 =>
 upK M20 (M12.nx + 5) fun M22 =>
 opt (fldA 0 0 true x3) fun v23 =>
 opt (setcA 1 1 x3 v21) fun v24 =>
 opt (binA .add .none x12 (.i 1)) fun v25 =>
 (b73_5 c nl lo n) x2 v24 x10 x11 v25 M22)
 else (b73_3 c nl lo x2 x3 M)
theorem t73_5 (c : CallT) (nl lo : Nat) : ∀ (n : Nat) (ρ : Rg) (M : MM), k73_5 c nl lo n ρ M = b73_5 c nl lo n (ρ 2) (ρ 3) (ρ 10) (ρ 11) (ρ 12) M
 | 0, ρ, M => rfl
 | n + 1, ρ, M => by
  have h : ∀ (zb z0 : Rg → MM → Option (AV × MM)), execC c modeF lo nl p73_13 zb (fun i ρ M => if i = 0 then z0 ρ M else noE i ρ M) (endK cf73.res) ρ M = (opt (binA .lss .none (ρ 12) (ρ 11)) fun v7 =>
  isB v7 fun c8 => if c8 then (opt (ixsA 2 (ρ 10) (ρ 12)) fun v9 =>
  opt (ldnA (lk M) 2 v9) fun v10 =>
  upK M M.nx fun M12 =>
  opt (setcA 0 2 (.agg [.str ⟨⟨[]⟩⟩, .d (.sl [] 0)]) v10) fun v13 =>
  bumpK M12 8 fun M14 =>
  opt (fldA 0 0 true (ρ 3)) fun v15 =>
  opt (fldA 1 1 false (ρ 3)) fun v16 =>
  opt (fldA 0 2 true v13) fun v17 =>
  opt (puA c (look M14.mem (.mk M12.nx 8 4 true)) 73 [v17]) fun v18 =>
  opt (wslA 1 (fill [.str ⟨⟨[]⟩⟩, .d (.sl [] 0)] [(0, 2, v18)])) fun v19 =>
  upK M14 (M12.nx + 4) fun M20 =>
  opt (wappA M20.mem (.top M20.nx) 2 40 v16 v19) fun v21 =>
  upK M20 (M12.nx + 5) fun M22 =>
  opt (fldA 0 0 true (ρ 3)) fun v23 =>
  opt (setcA 1 1 (ρ 3) v21) fun v24 =>
  opt (binA .add .none (ρ 12) (.i 1)) fun v25 =>
  zb (sF (sF (sF (sF (sF (sF (sF (sF (sF (sF (sF (sF (sF (sF (sF ρ 13 v7) 14 v9) 15 v10) 5 (.agg [.str ⟨⟨[]⟩⟩, .d (.sl [] 0)])) 5 v13) 16 v15) 17 v16) 18 v17) 19 v18) 20 v19) 21 v21) 22 v23) 3 v24) 23 v25) 12 v25) M22)
  else (z0 (sF ρ 13 v7) M)) := by intros; kernel_rfl
  refine (h (k73_5 c nl lo n) (k73_3 c nl lo)).trans ?_
  unfold b73_5; simp only [(t73_3 c nl lo), (t73_5 c nl lo n)] <;> (show _ = _; kernel_rfl)
def k73_4 (c : CallT) (nl lo : Nat) : Rg → MM → Option (AV × MM) := (execC c modeF lo nl p73_16 (k73_3 c nl lo) noE (endK cf73.res))
@[reducible] def b73_4 (c : CallT) (nl lo : Nat) (x1 x2 x3 : AV) (M : MM) : Option (AV × MM) :=
 opt (fldA 0 0 true x1) fun v3 =>
 opt (fldA 1 1 false x1) fun v4 =>
 opt (lenA v4) fun v5 =>
 b73_5 c nl lo nl x2 x3 v4 v5 (.i 0) M
theorem t73_4 (c : CallT) (nl lo : Nat) (ρ : Rg) (M : MM) : k73_4 c nl lo ρ M = b73_4 c nl lo (ρ 1) (ρ 2) (ρ 3) M := by
 have h : k73_4 c nl lo ρ M = (opt (fldA 0 0 true (ρ 1)) fun v3 =>
 opt (fldA 1 1 false (ρ 1)) fun v4 =>
 opt (lenA v4) fun v5 =>
 k73_5 c nl lo nl (sF (sF (sF (sF ρ 9 v3) 10 v4) 11 v5) 12 (.i 0)) M) := by kernel_rfl
 rw [h]
 unfold b73_4; simp only [(t73_5 c nl lo nl)] <;> (show _ = _; kernel_rfl)
def k73_2 (c : CallT) (nl lo : Nat) : Rg → MM → Option (AV × MM) := (execC c modeF lo nl p73_19 (endK cf73.res) noE (endK cf73.res))
@[reducible] def b73_2 (c : CallT) (nl lo : Nat) (x1 x2 x3 : AV) (M : MM) : Option (AV × MM) :=
 b73_4 c nl lo x1 x2 x3 M
theorem t73_2 (c : CallT) (nl lo : Nat) (ρ : Rg) (M : MM) : k73_2 c nl lo ρ M = b73_2 c nl lo (ρ 1) (ρ 2) (ρ 3) M := by
 have h : k73_2 c nl lo ρ M = (k73_4 c nl lo ρ M) := execC_seq c modeF lo nl p73_16 p73_18 (endK cf73.res) noE (endK cf73.res) ρ M
 rw [h]
 unfold b73_2; simp only [(t73_4 c nl lo)] <;> (show _ = _; kernel_rfl)
def k73_6 (c : CallT) (nl lo : Nat) : Rg → MM → Option (AV × MM) := (execC c modeF lo nl p73_2 (k73_2 c nl lo) noE (endK cf73.res))
@[reducible] def b73_6 (c : CallT) (nl lo : Nat) (x1 x2 : AV) (M : MM) : Option (AV × MM) :=
 opt (fldA 0 0 true x1) fun v1 =>
 opt (fldA 0 1 false x1) fun v2 =>
 opt ((fill [.str ⟨⟨[]⟩⟩, .d (.sl [] 0)] [(0, 1, v2)]).map .agg) fun v3 =>
 upK M M.nx fun M5 =>
 opt (setcA 0 2 (.agg [.str ⟨⟨[]⟩⟩, .d (.sl [] 0)]) v3) fun v6 =>
 b73_2 c nl lo x1 x2 v6 M5
theorem t73_6 (c : CallT) (nl lo : Nat) (ρ : Rg) (M : MM) : k73_6 c nl lo ρ M = b73_6 c nl lo (ρ 1) (ρ 2) M := by
 have h : ∀ (z0 : Rg → MM → Option (AV × MM)), (execC c modeF lo nl p73_2 z0 noE (endK cf73.res)) ρ M = (opt (fldA 0 0 true (ρ 1)) fun v1 =>
 opt (fldA 0 1 false (ρ 1)) fun v2 =>
 opt ((fill [.str ⟨⟨[]⟩⟩, .d (.sl [] 0)] [(0, 1, v2)]).map .agg) fun v3 =>
 upK M M.nx fun M5 =>
 opt (setcA 0 2 (.agg [.str ⟨⟨[]⟩⟩, .d (.sl [] 0)]) v3) fun v6 =>
 z0 (sF (sF (sF (sF (sF ρ 6 v1) 7 v2) 8 v3) 3 (.agg [.str ⟨⟨[]⟩⟩, .d (.sl [] 0)])) 3 v6) M5) := by intros; kernel_rfl
 refine (h (k73_2 c nl lo)).trans ?_
 unfold b73_6; simp only [(t73_2 c nl lo)] <;> (show _ = _; kernel_rfl)
def k73_1 (c : CallT) (nl lo : Nat) : Rg → MM → Option (AV × MM) := (execC c modeF lo nl p73_20 (endK cf73.res) noE (endK cf73.res))
@[reducible] def b73_1 (c : CallT) (nl lo : Nat) (x1 x2 : AV) (M : MM) : Option (AV × MM) :=
 b73_6 c nl lo x1 x2 M
theorem t73_1 (c : CallT) (nl lo : Nat) (ρ : Rg) (M : MM) : k73_1 c nl lo ρ M = b73_1 c nl lo (ρ 1) (ρ 2) M := by
 have h : k73_1 c nl lo ρ M = (k73_6 c nl lo ρ M) := execC_seq c modeF lo nl p73_2 p73_19 (endK cf73.res) noE (endK cf73.res) ρ M
 rw [h]
 unfold b73_1; simp only [(t73_6 c nl lo)] <;> (show _ = _; kernel_rfl)
def k73_7 (c : CallT) (nl lo : Nat) : Rg → MM → Option (AV × MM) := (execC c modeF lo nl p73_1 (k73_1 c nl lo) noE (endK cf73.res))
@[reducible] def b73_7 (c : CallT) (nl lo : Nat) (x0 : AV) (M : MM) : Option (AV × MM) :=
 opt (aggA x0) fun v1 =>
 upK M M.nx fun M2 =>
 upK M2 M2.nx fun M4 =>
 b73_1 c nl lo v1 (.agg [.str ⟨⟨[]⟩⟩, .d (.sl [] 0)]) M4
theorem t73_7 (c : CallT) (nl lo : Nat) (ρ : Rg) (M : MM) : k73_7 c nl lo ρ M = b73_7 c nl lo (ρ 0) M := by
 have h : ∀ (z0 : Rg → MM → Option (AV × MM)), (execC c modeF lo nl p73_1 z0 noE (endK cf73.res)) ρ M = (opt (aggA (ρ 0)) fun v1 =>
 upK M M.nx fun M2 =>
 upK M2 M2.nx fun M4 =>
 z0 (sF (sF ρ 1 v1) 2 (.agg [.str ⟨⟨[]⟩⟩, .d (.sl [] 0)])) M4) := by intros; kernel_rfl
 refine (h (k73_1 c nl lo)).trans ?_
 unfold b73_7; simp only [(t73_1 c nl lo)] <;> (show _ = _; kernel_rfl)
def k73_0 (c : CallT) (nl lo : Nat) : Rg → MM → Option (AV × MM) := (execC c modeF lo nl p73_21 (endK cf73.res) noE (endK cf73.res))
@[reducible] def b73_0 (c : CallT) (nl lo : Nat) (x0 : AV) (M : MM) : Option (AV × MM) :=
 b73_7 c nl lo x0 M
theorem t73_0 (c : CallT) (nl lo : Nat) (ρ : Rg) (M : MM) : k73_0 c nl lo ρ M = b73_0 c nl lo (ρ 0) M := by
 have h : k73_0 c nl lo ρ M = (k73_7 c nl lo ρ M) := execC_seq c modeF lo nl p73_1 p73_20 (endK cf73.res) noE (endK cf73.res) ρ M
 rw [h]
 unfold b73_0; simp only [(t73_7 c nl lo)] <;> (show _ = _; kernel_rfl)
def k73_8 (c : CallT) (nl lo : Nat) : Rg → MM → Option (AV × MM) := (execC c modeF lo nl p73_0 (k73_0 c nl lo) noE (endK cf73.res))
@[reducible] def b73_8 (c : CallT) (nl lo : Nat) (x0 : AV) (M : MM) : Option (AV × MM) :=
 b73_0 c nl lo x0 M
theorem t73_8 (c : CallT) (nl lo : Nat) (ρ : Rg) (M : MM) : k73_8 c nl lo ρ M = b73_8 c nl lo (ρ 0) M := by
 have h : ∀ (z0 : Rg → MM → Option (AV × MM)), (execC c modeF lo nl p73_0 z0 noE (endK cf73.res)) ρ M = (z0 (sF (sF (sF (sF ρ 1 (.tup [])) 2 (.tup [])) 3 (.tup [])) 5 (.tup [])) M) := by intros; kernel_rfl
 refine (h (k73_0 c nl lo)).trans ?_
 unfold b73_8; simp only [(t73_0 c nl lo)] <;> (show _ = _; kernel_rfl)
def s73 (c : CallT) (nl lo : Nat) (a0 : AV) (M : MM) : Option (AV × MM) :=
 b73_8 c nl lo a0 M
theorem e73 (c : CallT) (nl lo : Nat) (a0 : AV) (M : MM) : execC c modeF lo nl cf73.body (endK cf73.res) noE (endK cf73.res) (aF [a0]) M = s73 c nl lo a0 M := by
 have h : execC c modeF lo nl cf73.body (endK cf73.res) noE (endK cf73.res) (aF [a0]) M = (k73_8 c nl lo (aF [a0]) M) := execC_seq c modeF lo nl p73_0 p73_21 (endK cf73.res) noE (endK cf73.res) (aF [a0]) M
 refine h.trans ?_
 unfold s73; simp only [(t73_8 c nl lo)] <;> (show _ = _; kernel_rfl)
theorem q73 {c : CallT} (hc : Lim G c) (lo : Nat) (a0 : AV) (M : MM) : c 73 [a0] lo M = s73 c G.nl lo a0 M :=
 (hc.flow (cf := cf73) rfl w73 [a0] lo M).trans (e73 c G.nl lo a0 M)

/-! ### function 74 -/
theorem w74 : wfK cf74.nt cf74.body = true := by kernel_rfl
def k74_3 (c : CallT) (nl lo : Nat) : Rg → MM → Option (AV × MM) := (execC c modeF lo nl p74_24 (endK cf74.res) noE (endK cf74.res))
@[reducible] def b74_3 (c : CallT) (nl lo : Nat) (M : MM) : Option (AV × MM) :=
 some ((.bool true), M)
theorem t74_3 (c : CallT) (nl lo : Nat) (ρ : Rg) (M : MM) : k74_3 c nl lo ρ M = b74_3 c nl lo M := by
 kernel_rfl
def k74_5 (c : CallT) (nl lo : Nat) (n : Nat) : Rg → MM → Option (AV × MM) := iterC (fun k ρ M => execC c modeF lo nl p74_19 k (fun i ρ M => if i = 0 then (k74_3 c nl lo) ρ M else noE i ρ M) (endK cf74.res) ρ M) n
def b74_5 (c : CallT) (nl lo : Nat) : Nat → AV → AV → AV → MM → Option (AV × MM)
 | 0, _, _, _, _ => none
 | n + 1, x0, x1, x5, M =>
 opt (lenA x0) fun v5 =>
 opt (binA .lss .none x5 v5) fun v6 =>
 isB v6 fun c7 => if c7 then (bumpK M 10 fun M8 =>
 opt (ixsA 2 x0 x5) fun v11 =>
 opt (ldnA (look M8.mem (.mk M.nx 10 7 true)) 2 v11) fun v12 =>
 opt (ixsA 2 x1 x5) fun v15 =>
 opt (ldnA (look M8.mem (.mk M.nx 10 112 true)) 2 v15) fun v16 =>
 opt (puA c (look M8.mem (.mk M.nx 10 255 true)) 51 [v12, v16]) fun v17 =>
 opt (unA .not v17) fun v18 =>
 isB v18 fun c19 => if c19 then (some ((.bool false), M8))
 else (opt (binA .add .none x5 (.i 1)) fun v22 =>
 (b74_5 c nl lo n) x0 x1 v22 M8))
 else (b74_3 c nl lo M)
theorem t74_5 (c : CallT) (nl lo : Nat) : ∀ (n : Nat) (ρ : Rg) (M : MM), k74_5 c nl lo n ρ M = b74_5 c nl lo n (ρ 0) (ρ 1) (ρ 5) M
 | 0, ρ, M => rfl
 | n + 1, ρ, M => by
  have h : ∀ (zb z0 : Rg → MM → Option (AV × MM)), execC c modeF lo nl p74_19 zb (fun i ρ M => if i = 0 then z0 ρ M else noE i ρ M) (endK cf74.res) ρ M = (opt (lenA (ρ 0)) fun v5 =>
  opt (binA .lss .none (ρ 5) v5) fun v6 =>
  isB v6 fun c7 => if c7 then (bumpK M 10 fun M8 =>
  opt (ixsA 2 (ρ 0) (ρ 5)) fun v11 =>
  opt (ldnA (look M8.mem (.mk M.nx 10 7 true)) 2 v11) fun v12 =>
  opt (ixsA 2 (ρ 1) (ρ 5)) fun v15 =>
  opt (ldnA (look M8.mem (.mk M.nx 10 112 true)) 2 v15) fun v16 =>
  opt (puA c (look M8.mem (.mk M.nx 10 255 true)) 51 [v12, v16]) fun v17 =>
  opt (unA .not v17) fun v18 =>
  isB v18 fun c19 => if c19 then (some ((.bool false), M8))
  else (opt (binA .add .none (ρ 5) (.i 1)) fun v22 =>
  zb (sF (sF (sF (sF (sF (sF (sF (sF (sF (sF (sF (sF (sF (sF (sF (sF (sF ρ 11 (ρ 5)) 12 (ρ 0)) 13 v5) 14 v6) 17 (ρ 0)) 18 (ρ 5)) 19 v11) 20 v12) 21 (ρ 1)) 22 (ρ 5)) 23 v15) 24 v16) 25 v17) 26 v18) 15 (ρ 5)) 16 v22) 5 v22) M8))
  else (z0 (sF (sF (sF (sF ρ 11 (ρ 5)) 12 (ρ 0)) 13 v5) 14 v6) M)) := by intros; kernel_rfl
  refine (h (k74_5 c nl lo n) (k74_3 c nl lo)).trans ?_
  unfold b74_5; simp only [(t74_3 c nl lo), (t74_5 c nl lo n)] <;> (show _ = _; kernel_rfl)
def k74_4 (c : CallT) (nl lo : Nat) : Rg → MM → Option (AV × MM) := (execC c modeF lo nl p74_22 (k74_3 c nl lo) noE (endK cf74.res))
@[reducible] def b74_4 (c : CallT) (nl lo : Nat) (x0 x1 : AV) (M : MM) : Option (AV × MM) :=
 b74_5 c nl lo nl x0 x1 (.i 0) M
theorem t74_4 (c : CallT) (nl lo : Nat) (ρ : Rg) (M : MM) : k74_4 c nl lo ρ M = b74_4 c nl lo (ρ 0) (ρ 1) M := by
 have h : k74_4 c nl lo ρ M = (k74_5 c nl lo nl (sF ρ 5 (.i 0)) M) := by kernel_rfl
 rw [h]
 unfold b74_4; simp only [(t74_5 c nl lo nl)] <;> (show _ = _; kernel_rfl)
def k74_2 (c : CallT) (nl lo : Nat) : Rg → MM → Option (AV × MM) := (execC c modeF lo nl p74_25 (endK cf74.res) noE (endK cf74.res))
@[reducible] def b74_2 (c : CallT) (nl lo : Nat) (x0 x1 : AV) (M : MM) : Option (AV × MM) :=
 b74_4 c nl lo x0 x1 M
theorem t74_2 (c : CallT) (nl lo : Nat) (ρ : Rg) (M : MM) : k74_2 c nl lo ρ M = b74_2 c nl lo (ρ 0) (ρ 1) M := by
 have h : k74_2 c nl lo ρ M = (k74_4 c nl lo ρ M) := execC_seq c modeF lo nl p74_22 p74_24 (endK cf74.res) noE (endK cf74.res) ρ M
 rw [h]
 unfold b74_2; simp only [(t74_4 c nl lo)] <;> (show _ = _; kernel_rfl)
def k74_6 (c : CallT) (nl lo : Nat) : Rg → MM → Option (AV × MM) := (execC c modeF lo nl p74_6 (k74_2 c nl lo) noE (endK cf74.res))
@[reducible] def b74_6 (c : CallT) (nl lo : Nat) (x0 x1 : AV) (M : MM) : Option (AV × MM) :=
 opt (lenA x0) fun v2 =>
 opt (lenA x1) fun v4 =>
 opt (binA .neq .none v2 v4) fun v5 =>
 isB v5 fun c6 => if c6 then (some ((.bool false), M))
 else (b74_2 c nl lo x0 x1 M)
theorem t74_6 (c : CallT) (nl lo : Nat) (ρ : Rg) (M : MM) : k74_6 c nl lo ρ M = b74_6 c nl lo (ρ 0) (ρ 1) M := by
 have h : ∀ (z0 : Rg → MM → Option (AV × MM)), (execC c modeF lo nl p74_6 z0 noE (endK cf74.res)) ρ M = (opt (lenA (ρ 0)) fun v2 =>
 opt (lenA (ρ 1)) fun v4 =>
 opt (binA .neq .none v2 v4) fun v5 =>
 isB v5 fun c6 => if c6 then (some ((.bool false), M))
 else (z0 (sF (sF (sF (sF (sF ρ 6 (ρ 0)) 7 v2) 8 (ρ 1)) 9 v4) 10 v5) M)) := by intros; kernel_rfl
 refine (h (k74_2 c nl lo)).trans ?_
 unfold b74_6; simp only [(t74_2 c nl lo)] <;> (show _ = _; kernel_rfl)
def k74_1 (c : CallT) (nl lo : Nat) : Rg → MM → Option (AV × MM) := (execC c modeF lo nl p74_26 (endK cf74.res) noE (endK cf74.res))
@[reducible] def b74_1 (c : CallT) (nl lo : Nat) (x0 x1 : AV) (M : MM) : Option (AV × MM) :=
 b74_6 c nl lo x0 x1 M
theorem t74_1 (c : CallT) (nl lo : Nat) (ρ : Rg) (M : MM) : k74_1 c nl lo ρ M = b74_1 c nl lo (ρ 0) (ρ 1) M := by
 have h : k74_1 c nl lo ρ M = (k74_6 c nl lo ρ M) := execC_seq c modeF lo nl p74_6 p74_25 (endK cf74.res) noE (endK cf74.res) ρ M
 rw [h]
 unfold b74_1; simp only [(t74_6 c nl lo)] <;> (show _ = _; kernel_rfl)
def k74_7 (c : CallT) (nl lo : Nat) : Rg → MM → Option (AV × MM) := (execC c modeF lo nl p74_1 (k74_1 c nl lo) noE (endK cf74.res))
@[reducible] def b74_7 (c : CallT) (nl lo : Nat) (x0 x1 : AV) (M : MM) : Option (AV × MM) :=
 b74_1 c nl lo x0 x1 M
theorem t74_7 (c : CallT) (nl lo : Nat) (ρ : Rg) (M : MM) : k74_7 c nl lo ρ M = b74_7 c nl lo (ρ 0) (ρ 1) M := by
 have h : ∀ (z0 : Rg → MM → Option (AV × MM)), (execC c modeF lo nl p74_1 z0 noE (endK cf74.res)) ρ M = (z0 (sF ρ 4 (.bool false)) M) := by intros; kernel_rfl
 refine (h (k74_1 c nl lo)).trans ?_
 unfold b74_7; simp only [(t74_1 c nl lo)] <;> (show _ = _; kernel_rfl)
def k74_0 (c : CallT) (nl lo : Nat) : Rg → MM → Option (AV × MM) := (execC c modeF lo nl p74_27 (endK cf74.res) noE (endK cf74.res))
@[reducible] def b74_0 (c : CallT) (nl lo : Nat) (x0 x1 : AV) (M : MM) : Option (AV × MM) :=
 b74_7 c nl lo x0 x1 M
theorem t74_0 (c : CallT) (nl lo : Nat) (ρ : Rg) (M : MM) : k74_0 c nl lo ρ M = b74_0 c nl lo (ρ 0) (ρ 1) M := by
 have h : k74_0 c nl lo ρ M = (k74_7 c nl lo ρ M) := execC_seq c modeF lo nl p74_1 p74_26 (endK cf74.res) noE (endK cf74.res) ρ M
 rw [h]
 unfold b74_0; simp only [(t74_7 c nl lo)] <;> (show _ = _; kernel_rfl)
def k74_8 (c : CallT) (nl lo : Nat) : Rg → MM → Option (AV × MM) := (execC c modeF lo nl p74_0 (k74_0 c nl lo) noE (endK cf74.res))
@[reducible] def b74_8 (c : CallT) (nl lo : Nat) (x0 x1 : AV) (M : MM) : Option (AV × MM) :=
 b74_0 c nl lo x0 x1 M
theorem t74_8 (c : CallT) (nl lo : Nat) (ρ : Rg) (M : MM) : k74_8 c nl lo ρ M = b74_8 c nl lo (ρ 0) (ρ 1) M := by
 have h : ∀ (z0 : Rg → MM → Option (AV × MM)), (execC c modeF lo nl p74_0 z0 noE (endK cf74.res)) ρ M = (z0 ρ M) := by intros; kernel_rfl
 refine (h (k74_0 c nl lo)).trans ?_
 unfold b74_8; simp only [(t74_0 c nl lo)] <;> (show _ = _; kernel_rfl)
def s74 (c : CallT) (nl lo : Nat) (a0 a1 : AV) (M : MM) : Option (AV × MM) :=
 b74_8 c nl lo a0 a1 M
theorem e74 (c : CallT) (nl lo : Nat) (a0 a1 : AV) (M : MM) : execC c modeF lo nl cf74.body (endK cf74.res) noE (endK cf74.res) (aF [a0, a1]) M = s74 c nl lo a0 a1 M := by
 have h : execC c modeF lo nl cf74.body (endK cf74.res) noE (endK cf74.res) (aF [a0, a1]) M = (k74_8 c nl lo (aF [a0, a1]) M) := execC_seq c modeF lo nl p74_0 p74_27 (endK cf74.res) noE (endK cf74.res) (aF [a0, a1]) M
 refine h.trans ?_
 unfold s74; simp only [(t74_8 c nl lo)] <;> (show _ = _; kernel_rfl)
theorem q74 {c : CallT} (hc : Lim G c) (lo : Nat) (a0 a1 : AV) (M : MM) : c 74 [a0, a1] lo M = s74 c G.nl lo a0 a1 M :=
 (hc.flow (cf := cf74) rfl w74 [a0, a1] lo M).trans (e74 c G.nl lo a0 a1 M)

/-! ### function 75 -/
theorem w75 : wfK cf75.nt cf75.body = true := by kernel_rfl
def s75 (c : CallT) (nl lo : Nat) (a0 : AV) (M : MM) : Option (AV × MM) :=
 opt (puA c (lk M) 63 [a0]) fun v3 =>
 opt (binA .eql .none v3 (.i 0)) fun v4 =>
 opt (gdp v4 true (some a0)) fun v6 =>
 opt (gdp v4 true (puA c (lk M) 38 [v6])) fun v7 =>
 opt (gdp v4 true (unA .not v7)) fun v8 =>
 opt (pickA v4 v8 (.bool false)) fun v9 =>
 some (v9, M)
theorem e75 (c : CallT) (nl lo : Nat) (a0 : AV) (M : MM) : execC c modeF lo nl cf75.body (endK cf75.res) noE (endK cf75.res) (aF [a0]) M = s75 c nl lo a0 M := by
 kernel_rfl
theorem q75 {c : CallT} (hc : Lim G c) (lo : Nat) (a0 : AV) (M : MM) : c 75 [a0] lo M = s75 c G.nl lo a0 M :=
 (hc.flow (cf := cf75) rfl w75 [a0] lo M).trans (e75 c G.nl lo a0 M)

/-! ### function 76 -/
theorem w76 : wfK cf76.nt cf76.body = true := by kernel_rfl
def s76 (c : CallT) (nl lo : Nat) (a0 a1 a2 a3 : AV) (M : MM) : Option (AV × MM) :=
 opt (aggA a0) fun v3 =>
 upK M M.nx fun M4 =>
 opt (aggA a1) fun v5 =>
 upK M4 M4.nx fun M6 =>
 opt (fldA 0 2 true v3) fun v8 =>
 opt (fldA 0 2 true v5) fun v9 =>
 opt (ld1A (lk M6) a2) fun v10 =>
 opt (ld1A (lk M6) a3) fun v11 =>
 bnd (c 53 [v8, v9, v10, v11] lo M6) fun v12 M13 =>
 some (v12, M13)
theorem e76 (c : CallT) (nl lo : Nat) (a0 a1 a2 a3 : AV) (M : MM) : execC c modeF lo nl cf76.body (endK cf76.res) noE (endK cf76.res) (aF [a0, a1, a2, a3]) M = s76 c nl lo a0 a1 a2 a3 M := by
 kernel_rfl
theorem q76 {c : CallT} (hc : Lim G c) (lo : Nat) (a0 a1 a2 a3 : AV) (M : MM) : c 76 [a0, a1, a2, a3] lo M = s76 c G.nl lo a0 a1 a2 a3 M :=
 (hc.flow (cf := cf76) rfl w76 [a0, a1, a2, a3] lo M).trans (e76 c G.nl lo a0 a1 a2 a3 M)

/-! ### function 77 -/
theorem w77 : wfK cf77.nt cf77.body = true := by kernel_rfl
def k77_2 (c : CallT) (nl lo : Nat) : Rg → MM → Option (AV × MM) := (execC c modeF lo nl p77_21 (endK cf77.res) noE (endK cf77.res))
@[reducible] def b77_2 (c : CallT) (nl lo : Nat) (M : MM) : Option (AV × MM) :=
 some ((.i (-1)), M)
theorem t77_2 (c : CallT) (nl lo : Nat) (ρ : Rg) (M : MM) : k77_2 c nl lo ρ M = b77_2 c nl lo M := by
 kernel_rfl
def k77_4 (c : CallT) (nl lo : Nat) (n : Nat) : Rg → MM → Option (AV × MM) := iterC (fun k ρ M => execC c modeF lo nl p77_16 k (fun i ρ M => if i = 0 then (k77_2 c nl lo) ρ M else noE i ρ M) (endK cf77.res) ρ M) n
def b77_4 (c : CallT) (nl lo : Nat) : Nat → AV → AV → AV → AV → MM → Option (AV × MM)
 | 0, _, _, _, _, _ => none
 | n + 1, x0, x1, x7, x8, M =>
 opt (binA .lss .none x8 x7) fun v5 =>
 isB v5 fun c6 => if c6 then (opt (ixsA 1 x0 x8) fun v12 =>
 opt (ld1A (lk M) v12) fun v13 =>
 opt (binA .eql .ptr x1 v13) fun v14 =>
 isB v14 fun c15 => if c15 then (some (x8, M))
 else (opt (binA .add .none x8 (.i 1)) fun v18 =>
 (b77_4 c nl lo n) x0 x1 x7 v18 M))
 else (b77_2 c nl lo M)
theorem t77_4 (c : CallT) (nl lo : Nat) : ∀ (n : Nat) (ρ : Rg) (M : MM), k77_4 c nl lo n ρ M = b77_4 c nl lo n (ρ 0) (ρ 1) (ρ 7) (ρ 8) M
 | 0, ρ, M => rfl
 | n + 1, ρ, M => by
  have h : ∀ (zb z0 : Rg → MM → Option (AV × MM)), execC c modeF lo nl p77_16 zb (fun i ρ M => if i = 0 then z0 ρ M else noE i ρ M) (endK cf77.res) ρ M = (opt (binA .lss .none (ρ 8) (ρ 7)) fun v5 =>
  isB v5 fun c6 => if c6 then (opt (ixsA 1 (ρ 0) (ρ 8)) fun v12 =>
  opt (ld1A (lk M) v12) fun v13 =>
  opt (binA .eql .ptr (ρ 1) v13) fun v14 =>
  isB v14 fun c15 => if c15 then (some ((ρ 8), M))
  else (opt (binA .add .none (ρ 8) (.i 1)) fun v18 =>
  zb (sF (sF (sF (sF (sF (sF (sF (sF (sF (sF (sF ρ 9 v5) 10 (ρ 8)) 5 (ρ 8)) 11 (ρ 1)) 12 (ρ 0)) 13 (ρ 8)) 14 v12) 15 v13) 16 v14) 18 v18) 8 v18) M))
  else (z0 (sF ρ 9 v5) M)) := by intros; kernel_rfl
  refine (h (k77_4 c nl lo n) (k77_2 c nl lo)).trans ?_
  unfold b77_4; simp only [(t77_2 c nl lo), (t77_4 c nl lo n)] <;> (show _ = _; kernel_rfl)
def k77_3 (c : CallT) (nl lo : Nat) : Rg → MM → Option (AV × MM) := (execC c modeF lo nl p77_19 (k77_2 c nl lo) noE (endK cf77.res))
@[reducible] def b77_3 (c : CallT) (nl lo : Nat) (x0 x1 : AV) (M : MM) : Option (AV × MM) :=
 opt (lenA x0) fun v3 =>
 b77_4 c nl lo nl x0 x1 v3 (.i 0) M
theorem t77_3 (c : CallT) (nl lo : Nat) (ρ : Rg) (M : MM) : k77_3 c nl lo ρ M = b77_3 c nl lo (ρ 0) (ρ 1) M := by
 have h : k77_3 c nl lo ρ M = (opt (lenA (ρ 0)) fun v3 =>
 k77_4 c nl lo nl (sF (sF (sF ρ 6 (ρ 0)) 7 v3) 8 (.i 0)) M) := by kernel_rfl
 rw [h]
 unfold b77_3; simp only [(t77_4 c nl lo nl)] <;> (show _ = _; kernel_rfl)
def k77_1 (c : CallT) (nl lo : Nat) : Rg → MM → Option (AV × MM) := (execC c modeF lo nl p77_22 (endK cf77.res) noE (endK cf77.res))
@[reducible] def b77_1 (c : CallT) (nl lo : Nat) (x0 x1 : AV) (M : MM) : Option (AV × MM) :=
 b77_3 c nl lo x0 x1 M
theorem t77_1 (c : CallT) (nl lo : Nat) (ρ : Rg) (M : MM) : k77_1 c nl lo ρ M = b77_1 c nl lo (ρ 0) (ρ 1) M := by
 have h : k77_1 c nl lo ρ M = (k77_3 c nl lo ρ M) := execC_seq c modeF lo nl p77_19 p77_21 (endK cf77.res) noE (endK cf77.res) ρ M
 rw [h]
 unfold b77_1; simp only [(t77_3 c nl lo)] <;> (show _ = _; kernel_rfl)
def k77_5 (c : CallT) (nl lo : Nat) : Rg → MM → Option (AV × MM) := (execC c modeF lo nl p77_1 (k77_1 c nl lo) noE (endK cf77.res))
@[reducible] def b77_5 (c : CallT) (nl lo : Nat) (x0 x1 : AV) (M : MM) : Option (AV × MM) :=
 b77_1 c nl lo x0 x1 M
theorem t77_5 (c : CallT) (nl lo : Nat) (ρ : Rg) (M : MM) : k77_5 c nl lo ρ M = b77_5 c nl lo (ρ 0) (ρ 1) M := by
 have h : ∀ (z0 : Rg → MM → Option (AV × MM)), (execC c modeF lo nl p77_1 z0 noE (endK cf77.res)) ρ M = (z0 (sF ρ 4 (.i 0)) M) := by intros; kernel_rfl
 refine (h (k77_1 c nl lo)).trans ?_
 unfold b77_5; simp only [(t77_1 c nl lo)] <;> (show _ = _; kernel_rfl)
def k77_0 (c : CallT) (nl lo : Nat) : Rg → MM → Option (AV × MM) := (execC c modeF lo nl p77_23 (endK cf77.res) noE (endK cf77.res))
@[reducible] def b77_0 (c : CallT) (nl lo : Nat) (x0 x1 : AV) (M : MM) : Option (AV × MM) :=
 b77_5 c nl lo x0 x1 M
theorem t77_0 (c : CallT) (nl lo : Nat) (ρ : Rg) (M : MM) : k77_0 c nl lo ρ M = b77_0 c nl lo (ρ 0) (ρ 1) M := by
 have h : k77_0 c nl lo ρ M = (k77_5 c nl lo ρ M) := execC_seq c modeF lo nl p77_1 p77_22 (endK cf77.res) noE (endK cf77.res) ρ M
 rw [h]
 unfold b77_0; simp only [(t77_5 c nl lo)] <;> (show _ = _; kernel_rfl)
def k77_6 (c : CallT) (nl lo : Nat) : Rg → MM → Option (AV × MM) := (execC c modeF lo nl p77_0 (k77_0 c nl lo) noE (endK cf77.res))
@[reducible] def b77_6 (c : CallT) (nl lo : Nat) (x0 x1 : AV) (M : MM) : Option (AV × MM) :=
 b77_0 c nl lo x0 x1 M
theorem t77_6 (c : CallT) (nl lo : Nat) (ρ : Rg) (M : MM) : k77_6 c nl lo ρ M = b77_6 c nl lo (ρ 0) (ρ 1) M := by
 have h : ∀ (z0 : Rg → MM → Option (AV × MM)), (execC c modeF lo nl p77_0 z0 noE (endK cf77.res)) ρ M = (z0 ρ M) := by intros; kernel_rfl
 refine (h (k77_0 c nl lo)).trans ?_
 unfold b77_6; simp only [(t77_0 c nl lo)] <;> (show _ = _; kernel_rfl)
def s77 (c : CallT) (nl lo : Nat) (a0 a1 : AV) (M : MM) : Option (AV × MM) :=
 b77_6 c nl lo a0 a1 M
theorem e77 (c : CallT) (nl lo : Nat) (a0 a1 : AV) (M : MM) : execC c modeF lo nl cf77.body (endK cf77.res) noE (endK cf77.res) (aF [a0, a1]) M = s77 c nl lo a0 a1 M := by
 have h : execC c modeF lo nl cf77.body (endK cf77.res) noE (endK cf77.res) (aF [a0, a1]) M = (k77_6 c nl lo (aF [a0, a1]) M) := execC_seq c modeF lo nl p77_0 p77_23 (endK cf77.res) noE (endK cf77.res) (aF [a0, a1]) M
 refine h.trans ?_
 unfold s77; simp only [(t77_6 c nl lo)] <;> (show _ = _; kernel_rfl)
theorem q77 {c : CallT} (hc : Lim G c) (lo : Nat) (a0 a1 : AV) (M : MM) : c 77 [a0, a1] lo M = s77 c G.nl lo a0 a1 M :=
 (hc.flow (cf := cf77) rfl w77 [a0, a1] lo M).trans (e77 c G.nl lo a0 a1 M)

/-! ### function 79 -/
theorem w79 : wfK cf79.nt cf79.body = true := by kernel_rfl
def s79 (c : CallT) (nl lo : Nat) (a0 a1 : AV) (M : MM) : Option (AV × MM) :=
 opt (puA c (lk M) 86 [a0, a1]) fun v4 =>
 some (v4, M)
theorem e79 (c : CallT) (nl lo : Nat) (a0 a1 : AV) (M : MM) : execC c modeF lo nl cf79.body (endK cf79.res) noE (endK cf79.res) (aF [a0, a1]) M = s79 c nl lo a0 a1 M := by
 kernel_rfl
theorem q79 {c : CallT} (hc : Lim G c) (lo : Nat) (a0 a1 : AV) (M : MM) : c 79 [a0, a1] lo M = s79 c G.nl lo a0 a1 M :=
 (hc.flow (cf := cf79) rfl w79 [a0, a1] lo M).trans (e79 c G.nl lo a0 a1 M)

/-! ### function 85 -/
theorem w85 : wfK cf85.nt cf85.body = true := by kernel_rfl
def k85_2 (c : CallT) (nl lo : Nat) : Rg → MM → Option (AV × MM) := (execC c modeF lo nl p85_21 (endK cf85.res) noE (endK cf85.res))
@[reducible] def b85_2 (c : CallT) (nl lo : Nat) (M : MM) : Option (AV × MM) :=
 some ((.i (-1)), M)
theorem t85_2 (c : CallT) (nl lo : Nat) (ρ : Rg) (M : MM) : k85_2 c nl lo ρ M = b85_2 c nl lo M := by
 kernel_rfl
def k85_4 (c : CallT) (nl lo : Nat) (n : Nat) : Rg → MM → Option (AV × MM) := iterC (fun k ρ M => execC c modeF lo nl p85_16 k (fun i ρ M => if i = 0 then (k85_2 c nl lo) ρ M else noE i ρ M) (endK cf85.res) ρ M) n
def b85_4 (c : CallT) (nl lo : Nat) : Nat → AV → AV → AV → AV → MM → Option (AV × MM)
 | 0, _, _, _, _, _ => none
 | n + 1, x0, x1, x7, x8, M =>
 opt (binA .lss .none x8 x7) fun v5 =>
 isB v5 fun c6 => if c6 then (opt (ixsA 1 x0 x8) fun v12 =>
 opt (ld1A (lk M) v12) fun v13 =>
 opt (binA .eql .none x1 v13) fun v14 =>
 isB v14 fun c15 => if c15 then (some (x8, M))
 else (opt (binA .add .none x8 (.i 1)) fun v18 =>
 (b85_4 c nl lo n) x0 x1 x7 v18 M))
 else (b85_2 c nl lo M)
theorem t85_4 (c : CallT) (nl lo : Nat) : ∀ (n : Nat) (ρ : Rg) (M : MM), k85_4 c nl lo n ρ M = b85_4 c nl lo n (ρ 0) (ρ 1) (ρ 7) (ρ 8) M
 | 0, ρ, M => rfl
 | n + 1, ρ, M => by
  have h : ∀ (zb z0 : Rg → MM → Option (AV × MM)), execC c modeF lo nl p85_16 zb (fun i ρ M => if i = 0 then z0 ρ M else noE i ρ M) (endK cf85.res) ρ M = (opt (binA .lss .none (ρ 8) (ρ 7)) fun v5 =>
  isB v5 fun c6 => if c6 then (opt (ixsA 1 (ρ 0) (ρ 8)) fun v12 =>
  opt (ld1A (lk M) v12) fun v13 =>
  opt (binA .eql .none (ρ 1) v13) fun v14 =>
  isB v14 fun c15 => if c15 then (some ((ρ 8), M))
  else (opt (binA .add .none (ρ 8) (.i 1)) fun v18 =>
  zb (sF (sF (sF (sF (sF (sF (sF (sF (sF (sF (sF ρ 9 v5) 10 (ρ 8)) 5 (ρ 8)) 11 (ρ 1)) 12 (ρ 0)) 13 (ρ 8)) 14 v12) 15 v13) 16 v14) 18 v18) 8 v18) M))
  else (z0 (sF ρ 9 v5) M)) := by intros; kernel_rfl
  refine (h (k85_4 c nl lo n) (k85_2 c nl lo)).trans ?_
  unfold b85_4; simp only [(t85_2 c nl lo), (t85_4 c nl lo n)] <;> (show _ = _; kernel_rfl)
def k85_3 (c : CallT) (nl lo : Nat) : Rg → MM → Option (AV × MM) := (execC c modeF lo nl p85_19 (k85_2 c nl lo) noE (endK cf85.res))
@[reducible] def b85_3 (c : CallT) (nl lo : Nat) (x0 x1 : AV) (M : MM) : Option (AV × MM) :=
 opt (lenA x0) fun v3 =>
 b85_4 c nl lo nl x0 x1 v3 (.i 0) M
theorem t85_3 (c : CallT) (nl lo : Nat) (ρ : Rg) (M : MM) : k85_3 c nl lo ρ M = b85_3 c nl lo (ρ 0) (ρ 1) M := by
 have h : k85_3 c nl lo ρ M = (opt (lenA (ρ 0)) fun v3 =>
 k85_4 c nl lo nl (sF (sF (sF ρ 6 (ρ 0)) 7 v3) 8 (.i 0)) M) := by kernel_rfl
 rw [h]
 unfold b85_3; simp only [(t85_4 c nl lo nl)] <;> (show _ = _; kernel_rfl)
def k85_1 (c : CallT) (nl lo : Nat) : Rg → MM → Option (AV × MM) := (execC c modeF lo nl p85_22 (endK cf85.res) noE (endK cf85.res))
@[reducible] def b85_1 (c : CallT) (nl lo : Nat) (x0 x1 : AV) (M : MM) : Option (AV × MM) :=
 b85_3 c nl lo x0 x1 M
theorem t85_1 (c : CallT) (nl lo : Nat) (ρ : Rg) (M : MM) : k85_1 c nl lo ρ M = b85_1 c nl lo (ρ 0) (ρ 1) M := by
 have h : k85_1 c nl lo ρ M = (k85_3 c nl lo ρ M) := execC_seq c modeF lo nl p85_19 p85_21 (endK cf85.res) noE (endK cf85.res) ρ M
 rw [h]
 unfold b85_1; simp only [(t85_3 c nl lo)] <;> (show _ = _; kernel_rfl)
def k85_5 (c : CallT) (nl lo : Nat) : Rg → MM → Option (AV × MM) := (execC c modeF lo nl p85_1 (k85_1 c nl lo) noE (endK cf85.res))
@[reducible] def b85_5 (c : CallT) (nl lo : Nat) (x0 x1 : AV) (M : MM) : Option (AV × MM) :=
 b85_1 c nl lo x0 x1 M
theorem t85_5 (c : CallT) (nl lo : Nat) (ρ : Rg) (M : MM) : k85_5 c nl lo ρ M = b85_5 c nl lo (ρ 0) (ρ 1) M := by
 have h : ∀ (z0 : Rg → MM → Option (AV × MM)), (execC c modeF lo nl p85_1 z0 noE (endK cf85.res)) ρ M = (z0 (sF ρ 4 (.i 0)) M) := by intros; kernel_rfl
 refine (h (k85_1 c nl lo)).trans ?_
 unfold b85_5; simp only [(t85_1 c nl lo)] <;> (show _ = _; kernel_rfl)
def k85_0 (c : CallT) (nl lo : Nat) : Rg → MM → Option (AV × MM) := (execC c modeF lo nl p85_23 (endK cf85.res) noE (endK cf85.res))
@[reducible] def b85_0 (c : CallT) (nl lo : Nat) (x0 x1 : AV) (M : MM) : Option (AV × MM) :=
 b85_5 c nl lo x0 x1 M
theorem t85_0 (c : CallT) (nl lo : Nat) (ρ : Rg) (M : MM) : k85_0 c nl lo ρ M = b85_0 c nl lo (ρ 0) (ρ 1) M := by
 have h : k85_0 c nl lo ρ M = (k85_5 c nl lo ρ M) := execC_seq c modeF lo nl p85_1 p85_22 (endK cf85.res) noE (endK cf85.res) ρ M
 rw [h]
 unfold b85_0; simp only [(t85_5 c nl lo)] <;> (show _ = _; kernel_rfl)
def k85_6 (c : CallT) (nl lo : Nat) : Rg → MM → Option (AV × MM) := (execC c modeF lo nl p85_0 (k85_0 c nl lo) noE (endK cf85.res))
@[reducible] def b85_6 (c : CallT) (nl lo : Nat) (x0 x1 : AV) (M : MM) : Option (AV × MM) :=
 b85_0 c nl lo x0 x1 M
theorem t85_6 (c : CallT) (nl lo : Nat) (ρ : Rg) (M : MM) : k85_6 c nl lo ρ M = b85_6 c nl lo (ρ 0) (ρ 1) M := by
 have h : ∀ (z0 : Rg → MM → Option (AV × MM)), (execC c modeF lo nl p85_0 z0 noE (endK cf85.res)) ρ M = (z0 ρ M) := by intros; kernel_rfl
 refine (h (k85_0 c nl lo)).trans ?_
 unfold b85_6; simp only [(t85_0 c nl lo)] <;> (show _ = _; kernel_rfl)
def s85 (c : CallT) (nl lo : Nat) (a0 a1 : AV) (M : MM) : Option (AV × MM) :=
 b85_6 c nl lo a0 a1 M
theorem e85 (c : CallT) (nl lo : Nat) (a0 a1 : AV) (M : MM) : execC c modeF lo nl cf85.body (endK cf85.res) noE (endK cf85.res) (aF [a0, a1]) M = s85 c nl lo a0 a1 M := by
 have h : execC c modeF lo nl cf85.body (endK cf85.res) noE (endK cf85.res) (aF [a0, a1]) M = (k85_6 c nl lo (aF [a0, a1]) M) := execC_seq c modeF lo nl p85_0 p85_23 (endK cf85.res) noE (endK cf85.res) (aF [a0, a1]) M
 refine h.trans ?_
 unfold s85; simp only [(t85_6 c nl lo)] <;> (show _ = _; kernel_rfl)
theorem q85 {c : CallT} (hc : Lim G c) (lo : Nat) (a0 a1 : AV) (M : MM) : c 85 [a0, a1] lo M = s85 c G.nl lo a0 a1 M :=
 (hc.flow (cf := cf85) rfl w85 [a0, a1] lo M).trans (e85 c G.nl lo a0 a1 M)
end Go.Proofs.Ytcoagkfjdpdohaa.Sx
