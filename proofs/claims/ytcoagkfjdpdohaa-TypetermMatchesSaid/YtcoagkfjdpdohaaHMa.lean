/- THE SEAT's FUNCTIONS AS DEFINITIONS WITHOUT REGISTERS, printed by program; 'eq..' holds each against the abstract machine's code. -/
import Derived.Test.YtcoagkfjdpdohaaGMa
import Derived.Test.YtcoagkfjdpdohaaSxM
namespace Go.Proofs.Ytcoagkfjdpdohaa.Sx
open Go
set_option maxRecDepth 1000000
set_option linter.unusedVariables false
set_option linter.unusedSimpArgs false

/-! ### function 6 -/
theorem w6 : wfK cf6.nt cf6.body = true := by kernel_rfl
def k6_13 (call : CallT) (nl lo : Nat) : Rg → MM → Option (AV × MM) := (execC call modeF lo nl p6_66 (endK cf6.res) noE (endK cf6.res))
abbrev b6_13 (call : CallT) (nl lo : Nat) (M : MM) : Option (AV × MM) :=
  opt (puA call (lk M) 10 []) fun v1 =>
  some (v1, M)
theorem t6_13 (call : CallT) (nl lo : Nat) (ρ : Rg) (M : MM) : k6_13 call nl lo ρ M = b6_13 call nl lo M := by
  kernel_rfl
def k6_15 (call : CallT) (nl lo : Nat) (n : Nat) : Rg → MM → Option (AV × MM) := iterC (fun k ρ M => execC call modeF lo nl p6_61 k (fun i ρ M => if i = 2 then (k6_13 call nl lo) ρ M else noE i ρ M) (endK cf6.res) ρ M) n
def b6_15 (call : CallT) (nl lo : Nat) : Nat → AV → AV → AV → AV → MM → Option (AV × MM)
  | 0, _, _, _, _, _ => none
  | n + 1, x11, x14, x88, x89, M =>
  opt (binA .lss .none x89 x88) fun v6 =>
  isB v6 fun c7 => if c7 then (bumpK M 10 fun M10 =>
  opt (ixsA 2 x14 x89) fun v13 =>
  opt (ldnA (look M10.mem (.mk M.nx 10 7 true)) 2 v13) fun v14 =>
  opt (ixsA 2 x11 x89) fun v17 =>
  opt (ldnA (look M10.mem (.mk M.nx 10 112 true)) 2 v17) fun v18 =>
  opt (puA call (look M10.mem (.mk M.nx 10 255 true)) 14 [v14, v18]) fun v19 =>
  opt (unA .not v19) fun v20 =>
  isB v20 fun c21 => if c21 then (some ((.bool false), M10))
  else (opt (binA .add .none x89 (.i 1)) fun v23 =>
  (b6_15 call nl lo n) x11 x14 x88 v23 M10))
  else (b6_13 call nl lo M)
theorem t6_15 (call : CallT) (nl lo : Nat) : ∀ (n : Nat) (ρ : Rg) (M : MM), k6_15 call nl lo n ρ M = b6_15 call nl lo n (ρ 11) (ρ 14) (ρ 88) (ρ 89) M
  | 0, ρ, M => rfl
  | n + 1, ρ, M => by
    have h : ∀ (zb z0 : Rg → MM → Option (AV × MM)), execC call modeF lo nl p6_61 zb (fun i ρ M => if i = 2 then z0 ρ M else noE i ρ M) (endK cf6.res) ρ M = (opt (binA .lss .none (ρ 89) (ρ 88)) fun v6 =>
    isB v6 fun c7 => if c7 then (bumpK M 10 fun M10 =>
    opt (ixsA 2 (ρ 14) (ρ 89)) fun v13 =>
    opt (ldnA (look M10.mem (.mk M.nx 10 7 true)) 2 v13) fun v14 =>
    opt (ixsA 2 (ρ 11) (ρ 89)) fun v17 =>
    opt (ldnA (look M10.mem (.mk M.nx 10 112 true)) 2 v17) fun v18 =>
    opt (puA call (look M10.mem (.mk M.nx 10 255 true)) 14 [v14, v18]) fun v19 =>
    opt (unA .not v19) fun v20 =>
    isB v20 fun c21 => if c21 then (some ((.bool false), M10))
    else (opt (binA .add .none (ρ 89) (.i 1)) fun v23 =>
    zb (sF (sF (sF (sF (sF (sF (sF (sF (sF (sF (sF (sF (sF (sF (sF ρ 90 v6) 91 (ρ 89)) 16 (ρ 89)) 92 (ρ 14)) 93 (ρ 89)) 94 v13) 95 v14) 96 (ρ 11)) 97 (ρ 89)) 98 v17) 99 v18) 100 v19) 101 v20) 102 v23) 89 v23) M10))
    else (z0 (sF ρ 90 v6) M)) := by intros; kernel_rfl
    refine (h (k6_15 call nl lo n) (k6_13 call nl lo)).trans ?_
    unfold b6_15; simp only [(t6_13 call nl lo), (t6_15 call nl lo n)] <;> (show _ = _; kernel_rfl)
def k6_14 (call : CallT) (nl lo : Nat) : Rg → MM → Option (AV × MM) := (execC call modeF lo nl p6_64 (k6_13 call nl lo) noE (endK cf6.res))
abbrev b6_14 (call : CallT) (nl lo : Nat) (x11 x14 : AV) (M : MM) : Option (AV × MM) :=
  opt (lenA x11) fun v4 =>
  b6_15 call nl lo nl x11 x14 v4 (.i 0) M
theorem t6_14 (call : CallT) (nl lo : Nat) (ρ : Rg) (M : MM) : k6_14 call nl lo ρ M = b6_14 call nl lo (ρ 11) (ρ 14) M := by
  have h : k6_14 call nl lo ρ M = (opt (lenA (ρ 11)) fun v4 =>
  k6_15 call nl lo nl (sF (sF (sF ρ 87 (ρ 11)) 88 v4) 89 (.i 0)) M) := by kernel_rfl
  rw [h]
  unfold b6_14; simp only [(t6_15 call nl lo nl)] <;> (show _ = _; kernel_rfl)
def k6_12 (call : CallT) (nl lo : Nat) : Rg → MM → Option (AV × MM) := (execC call modeF lo nl p6_67 (endK cf6.res) noE (endK cf6.res))
abbrev b6_12 (call : CallT) (nl lo : Nat) (x11 x14 : AV) (M : MM) : Option (AV × MM) :=
  b6_14 call nl lo x11 x14 M
theorem t6_12 (call : CallT) (nl lo : Nat) (ρ : Rg) (M : MM) : k6_12 call nl lo ρ M = b6_12 call nl lo (ρ 11) (ρ 14) M := by
  have h : k6_12 call nl lo ρ M = (k6_14 call nl lo ρ M) := execC_seq call modeF lo nl p6_64 p6_66 (endK cf6.res) noE (endK cf6.res) ρ M
  rw [h]
  unfold b6_12; simp only [(t6_14 call nl lo)] <;> (show _ = _; kernel_rfl)
def k6_16 (call : CallT) (nl lo : Nat) : Rg → MM → Option (AV × MM) := (execC call modeF lo nl p6_46 (k6_12 call nl lo) noE (endK cf6.res))
abbrev b6_16 (call : CallT) (nl lo : Nat) (x11 x14 x15 : AV) (M : MM) : Option (AV × MM) :=
  opt (unA .not x15) fun v2 =>
  opt (gdp v2 false (some x14)) fun v4 =>
  opt (gdp v2 false (lenA v4)) fun v5 =>
  opt (gdp v2 false (some x11)) fun v6 =>
  opt (gdp v2 false (lenA v6)) fun v7 =>
  opt (gdp v2 false (binA .neq .none v5 v7)) fun v8 =>
  opt (pickA v2 (.bool true) v8) fun v9 =>
  isB v9 fun c10 => if c10 then (some ((.bool false), M))
  else (b6_12 call nl lo x11 x14 M)
theorem t6_16 (call : CallT) (nl lo : Nat) (ρ : Rg) (M : MM) : k6_16 call nl lo ρ M = b6_16 call nl lo (ρ 11) (ρ 14) (ρ 15) M := by
  have h : ∀ (z0 : Rg → MM → Option (AV × MM)), (execC call modeF lo nl p6_46 z0 noE (endK cf6.res)) ρ M = (opt (unA .not (ρ 15)) fun v2 =>
  opt (gdp v2 false (some (ρ 14))) fun v4 =>
  opt (gdp v2 false (lenA v4)) fun v5 =>
  opt (gdp v2 false (some (ρ 11))) fun v6 =>
  opt (gdp v2 false (lenA v6)) fun v7 =>
  opt (gdp v2 false (binA .neq .none v5 v7)) fun v8 =>
  opt (pickA v2 (.bool true) v8) fun v9 =>
  isB v9 fun c10 => if c10 then (some ((.bool false), M))
  else (z0 (sF (sF (sF (sF (sF (sF (sF (sF (sF ρ 78 (ρ 15)) 79 v2) 80 v2) 81 v4) 82 v5) 83 v6) 84 v7) 85 v8) 86 v9) M)) := by intros; kernel_rfl
  refine (h (k6_12 call nl lo)).trans ?_
  unfold b6_16; simp only [(t6_12 call nl lo)] <;> (show _ = _; kernel_rfl)
def k6_11 (call : CallT) (nl lo : Nat) : Rg → MM → Option (AV × MM) := (execC call modeF lo nl p6_68 (endK cf6.res) noE (endK cf6.res))
abbrev b6_11 (call : CallT) (nl lo : Nat) (x11 x14 x15 : AV) (M : MM) : Option (AV × MM) :=
  b6_16 call nl lo x11 x14 x15 M
theorem t6_11 (call : CallT) (nl lo : Nat) (ρ : Rg) (M : MM) : k6_11 call nl lo ρ M = b6_11 call nl lo (ρ 11) (ρ 14) (ρ 15) M := by
  have h : k6_11 call nl lo ρ M = (k6_16 call nl lo ρ M) := execC_seq call modeF lo nl p6_46 p6_67 (endK cf6.res) noE (endK cf6.res) ρ M
  rw [h]
  unfold b6_11; simp only [(t6_16 call nl lo)] <;> (show _ = _; kernel_rfl)
def k6_17 (call : CallT) (nl lo : Nat) : Rg → MM → Option (AV × MM) := (execC call modeF lo nl p6_41 (k6_11 call nl lo) noE (endK cf6.res))
abbrev b6_17 (call : CallT) (nl lo : Nat) (x4 x6 x11 x12 : AV) (M : MM) : Option (AV × MM) :=
  opt (fldA 0 2 true x4) fun v1 =>
  opt (fldA 0 2 true x12) fun v2 =>
  opt (puA call (lk M) 22 [v1, v2, x6]) fun v4 =>
  opt (extA 0 v4) fun v6 =>
  opt (extA 1 v4) fun v7 =>
  b6_11 call nl lo x11 v6 v7 M
theorem t6_17 (call : CallT) (nl lo : Nat) (ρ : Rg) (M : MM) : k6_17 call nl lo ρ M = b6_17 call nl lo (ρ 4) (ρ 6) (ρ 11) (ρ 12) M := by
  have h : ∀ (z0 : Rg → MM → Option (AV × MM)), (execC call modeF lo nl p6_41 z0 noE (endK cf6.res)) ρ M = (opt (fldA 0 2 true (ρ 4)) fun v1 =>
  opt (fldA 0 2 true (ρ 12)) fun v2 =>
  opt (puA call (lk M) 22 [v1, v2, (ρ 6)]) fun v4 =>
  opt (extA 0 v4) fun v6 =>
  opt (extA 1 v4) fun v7 =>
  z0 (sF (sF (sF (sF (sF (sF (sF (sF (sF ρ 72 v1) 73 v2) 74 (ρ 6)) 75 v4) 71 v4) 76 v6) 77 v7) 14 v6) 15 v7) M) := by intros; kernel_rfl
  refine (h (k6_11 call nl lo)).trans ?_
  unfold b6_17; simp only [(t6_11 call nl lo)] <;> (show _ = _; kernel_rfl)
def k6_10 (call : CallT) (nl lo : Nat) : Rg → MM → Option (AV × MM) := (execC call modeF lo nl p6_69 (endK cf6.res) noE (endK cf6.res))
abbrev b6_10 (call : CallT) (nl lo : Nat) (x4 x6 x11 x12 : AV) (M : MM) : Option (AV × MM) :=
  b6_17 call nl lo x4 x6 x11 x12 M
theorem t6_10 (call : CallT) (nl lo : Nat) (ρ : Rg) (M : MM) : k6_10 call nl lo ρ M = b6_10 call nl lo (ρ 4) (ρ 6) (ρ 11) (ρ 12) M := by
  have h : k6_10 call nl lo ρ M = (k6_17 call nl lo ρ M) := execC_seq call modeF lo nl p6_41 p6_68 (endK cf6.res) noE (endK cf6.res) ρ M
  rw [h]
  unfold b6_10; simp only [(t6_17 call nl lo)] <;> (show _ = _; kernel_rfl)
def k6_18 (call : CallT) (nl lo : Nat) : Rg → MM → Option (AV × MM) := (execC call modeF lo nl p6_40 (k6_10 call nl lo) noE (endK cf6.res))
abbrev b6_18 (call : CallT) (nl lo : Nat) (x4 x6 x11 x12 x13 : AV) (M : MM) : Option (AV × MM) :=
  opt (binA .neq .none x13 (.i 0)) fun v2 =>
  isB v2 fun c3 => if c3 then (some ((.bool false), M))
  else (b6_10 call nl lo x4 x6 x11 x12 M)
theorem t6_18 (call : CallT) (nl lo : Nat) (ρ : Rg) (M : MM) : k6_18 call nl lo ρ M = b6_18 call nl lo (ρ 4) (ρ 6) (ρ 11) (ρ 12) (ρ 13) M := by
  have h : ∀ (z0 : Rg → MM → Option (AV × MM)), (execC call modeF lo nl p6_40 z0 noE (endK cf6.res)) ρ M = (opt (binA .neq .none (ρ 13) (.i 0)) fun v2 =>
  isB v2 fun c3 => if c3 then (some ((.bool false), M))
  else (z0 (sF (sF ρ 69 (ρ 13)) 70 v2) M)) := by intros; kernel_rfl
  refine (h (k6_10 call nl lo)).trans ?_
  unfold b6_18; simp only [(t6_10 call nl lo)] <;> (show _ = _; kernel_rfl)
def k6_9 (call : CallT) (nl lo : Nat) : Rg → MM → Option (AV × MM) := (execC call modeF lo nl p6_70 (endK cf6.res) noE (endK cf6.res))
abbrev b6_9 (call : CallT) (nl lo : Nat) (x4 x6 x11 x12 x13 : AV) (M : MM) : Option (AV × MM) :=
  b6_18 call nl lo x4 x6 x11 x12 x13 M
theorem t6_9 (call : CallT) (nl lo : Nat) (ρ : Rg) (M : MM) : k6_9 call nl lo ρ M = b6_9 call nl lo (ρ 4) (ρ 6) (ρ 11) (ρ 12) (ρ 13) M := by
  have h : k6_9 call nl lo ρ M = (k6_18 call nl lo ρ M) := execC_seq call modeF lo nl p6_40 p6_69 (endK cf6.res) noE (endK cf6.res) ρ M
  rw [h]
  unfold b6_9; simp only [(t6_18 call nl lo)] <;> (show _ = _; kernel_rfl)
def k6_19 (call : CallT) (nl lo : Nat) : Rg → MM → Option (AV × MM) := (execC call modeF lo nl p6_35 (k6_9 call nl lo) noE (endK cf6.res))
abbrev b6_19 (call : CallT) (nl lo : Nat) (x4 x6 x11 : AV) (M : MM) : Option (AV × MM) :=
  opt (fldA 0 2 true x4) fun v1 =>
  opt (puA call (lk M) 18 [v1, x6, x11]) fun v4 =>
  opt (extA 0 v4) fun v6 =>
  opt (extA 1 v4) fun v7 =>
  upK M M.nx fun M9 =>
  opt (setcA 0 2 (.agg [.str ⟨⟨[]⟩⟩, .d (.sl [] 0)]) v6) fun v10 =>
  b6_9 call nl lo x4 x6 x11 v10 v7 M9
theorem t6_19 (call : CallT) (nl lo : Nat) (ρ : Rg) (M : MM) : k6_19 call nl lo ρ M = b6_19 call nl lo (ρ 4) (ρ 6) (ρ 11) M := by
  have h : ∀ (z0 : Rg → MM → Option (AV × MM)), (execC call modeF lo nl p6_35 z0 noE (endK cf6.res)) ρ M = (opt (fldA 0 2 true (ρ 4)) fun v1 =>
  opt (puA call (lk M) 18 [v1, (ρ 6), (ρ 11)]) fun v4 =>
  opt (extA 0 v4) fun v6 =>
  opt (extA 1 v4) fun v7 =>
  upK M M.nx fun M9 =>
  opt (setcA 0 2 (.agg [.str ⟨⟨[]⟩⟩, .d (.sl [] 0)]) v6) fun v10 =>
  z0 (sF (sF (sF (sF (sF (sF (sF (sF (sF (sF ρ 63 v1) 64 (ρ 6)) 65 (ρ 11)) 66 v4) 62 v4) 67 v6) 68 v7) 12 (.agg [.str ⟨⟨[]⟩⟩, .d (.sl [] 0)])) 12 v10) 13 v7) M9) := by intros; kernel_rfl
  refine (h (k6_9 call nl lo)).trans ?_
  unfold b6_19; simp only [(t6_9 call nl lo)] <;> (show _ = _; kernel_rfl)
def k6_8 (call : CallT) (nl lo : Nat) : Rg → MM → Option (AV × MM) := (execC call modeF lo nl p6_71 (endK cf6.res) noE (endK cf6.res))
abbrev b6_8 (call : CallT) (nl lo : Nat) (x4 x6 x11 : AV) (M : MM) : Option (AV × MM) :=
  b6_19 call nl lo x4 x6 x11 M
theorem t6_8 (call : CallT) (nl lo : Nat) (ρ : Rg) (M : MM) : k6_8 call nl lo ρ M = b6_8 call nl lo (ρ 4) (ρ 6) (ρ 11) M := by
  have h : k6_8 call nl lo ρ M = (k6_19 call nl lo ρ M) := execC_seq call modeF lo nl p6_35 p6_70 (endK cf6.res) noE (endK cf6.res) ρ M
  rw [h]
  unfold b6_8; simp only [(t6_19 call nl lo)] <;> (show _ = _; kernel_rfl)
def k6_21 (call : CallT) (nl lo : Nat) (n : Nat) : Rg → MM → Option (AV × MM) := iterC (fun k ρ M => execC call modeF lo nl p6_31 k (fun i ρ M => if i = 0 then (k6_8 call nl lo) ρ M else noE i ρ M) (endK cf6.res) ρ M) n
def b6_21 (call : CallT) (nl lo : Nat) : Nat → AV → AV → AV → AV → AV → AV → MM → Option (AV × MM)
  | 0, _, _, _, _, _, _, _ => none
  | n + 1, x3, x4, x6, x11, x53, x54, M =>
  opt (binA .lss .none x54 x53) fun v4 =>
  isB v4 fun c5 => if c5 then (bnd (call 11 [x3, (.i 2)] lo M) fun v8 M9 =>
  opt (wslA 1 (fill [.str ⟨⟨[]⟩⟩, .d (.sl [] 0)] [(0, 2, v8)])) fun v10 =>
  upK M9 M9.nx fun M11 =>
  opt (wappA M11.mem (.top M11.nx) 2 40 x11 v10) fun v12 =>
  upK M11 M11.nx fun M13 =>
  opt (binA .add .none x54 (.i 1)) fun v15 =>
  (b6_21 call nl lo n) x3 x4 x6 v12 x53 v15 M13)
  else (b6_8 call nl lo x4 x6 x11 M)
theorem t6_21 (call : CallT) (nl lo : Nat) : ∀ (n : Nat) (ρ : Rg) (M : MM), k6_21 call nl lo n ρ M = b6_21 call nl lo n (ρ 3) (ρ 4) (ρ 6) (ρ 11) (ρ 53) (ρ 54) M
  | 0, ρ, M => rfl
  | n + 1, ρ, M => by
    have h : ∀ (zb z0 : Rg → MM → Option (AV × MM)), execC call modeF lo nl p6_31 zb (fun i ρ M => if i = 0 then z0 ρ M else noE i ρ M) (endK cf6.res) ρ M = (opt (binA .lss .none (ρ 54) (ρ 53)) fun v4 =>
    isB v4 fun c5 => if c5 then (bnd (call 11 [(ρ 3), (.i 2)] lo M) fun v8 M9 =>
    opt (wslA 1 (fill [.str ⟨⟨[]⟩⟩, .d (.sl [] 0)] [(0, 2, v8)])) fun v10 =>
    upK M9 M9.nx fun M11 =>
    opt (wappA M11.mem (.top M11.nx) 2 40 (ρ 11) v10) fun v12 =>
    upK M11 M11.nx fun M13 =>
    opt (binA .add .none (ρ 54) (.i 1)) fun v15 =>
    zb (sF (sF (sF (sF (sF (sF (sF (sF (sF ρ 55 v4) 56 (ρ 11)) 57 (ρ 3)) 58 v8) 59 v10) 60 v12) 11 v12) 61 v15) 54 v15) M13)
    else (z0 (sF ρ 55 v4) M)) := by intros; kernel_rfl
    refine (h (k6_21 call nl lo n) (k6_8 call nl lo)).trans ?_
    unfold b6_21; simp only [(t6_8 call nl lo), (t6_21 call nl lo n)] <;> (show _ = _; kernel_rfl)
def k6_20 (call : CallT) (nl lo : Nat) : Rg → MM → Option (AV × MM) := (execC call modeF lo nl p6_34 (k6_8 call nl lo) noE (endK cf6.res))
abbrev b6_20 (call : CallT) (nl lo : Nat) (x3 x4 x6 x11 : AV) (M : MM) : Option (AV × MM) :=
  opt (lenA x6) fun v2 =>
  b6_21 call nl lo nl x3 x4 x6 x11 v2 (.i 0) M
theorem t6_20 (call : CallT) (nl lo : Nat) (ρ : Rg) (M : MM) : k6_20 call nl lo ρ M = b6_20 call nl lo (ρ 3) (ρ 4) (ρ 6) (ρ 11) M := by
  have h : k6_20 call nl lo ρ M = (opt (lenA (ρ 6)) fun v2 =>
  k6_21 call nl lo nl (sF (sF (sF ρ 52 (ρ 6)) 53 v2) 54 (.i 0)) M) := by kernel_rfl
  rw [h]
  unfold b6_20; simp only [(t6_21 call nl lo nl)] <;> (show _ = _; kernel_rfl)
def k6_7 (call : CallT) (nl lo : Nat) : Rg → MM → Option (AV × MM) := (execC call modeF lo nl p6_72 (endK cf6.res) noE (endK cf6.res))
abbrev b6_7 (call : CallT) (nl lo : Nat) (x3 x4 x6 x11 : AV) (M : MM) : Option (AV × MM) :=
  b6_20 call nl lo x3 x4 x6 x11 M
theorem t6_7 (call : CallT) (nl lo : Nat) (ρ : Rg) (M : MM) : k6_7 call nl lo ρ M = b6_7 call nl lo (ρ 3) (ρ 4) (ρ 6) (ρ 11) M := by
  have h : k6_7 call nl lo ρ M = (k6_20 call nl lo ρ M) := execC_seq call modeF lo nl p6_34 p6_71 (endK cf6.res) noE (endK cf6.res) ρ M
  rw [h]
  unfold b6_7; simp only [(t6_20 call nl lo)] <;> (show _ = _; kernel_rfl)
def k6_22 (call : CallT) (nl lo : Nat) : Rg → MM → Option (AV × MM) := (execC call modeF lo nl p6_22 (k6_7 call nl lo) noE (endK cf6.res))
abbrev b6_22 (call : CallT) (nl lo : Nat) (x3 x4 x6 : AV) (M : MM) : Option (AV × MM) :=
  b6_7 call nl lo x3 x4 x6 (.d (.sl [] 0)) M
theorem t6_22 (call : CallT) (nl lo : Nat) (ρ : Rg) (M : MM) : k6_22 call nl lo ρ M = b6_22 call nl lo (ρ 3) (ρ 4) (ρ 6) M := by
  have h : ∀ (z0 : Rg → MM → Option (AV × MM)), (execC call modeF lo nl p6_22 z0 noE (endK cf6.res)) ρ M = (z0 (sF ρ 11 (.d (.sl [] 0))) M) := by intros; kernel_rfl
  refine (h (k6_7 call nl lo)).trans ?_
  unfold b6_22; simp only [(t6_7 call nl lo)] <;> (show _ = _; kernel_rfl)
def k6_6 (call : CallT) (nl lo : Nat) : Rg → MM → Option (AV × MM) := (execC call modeF lo nl p6_73 (endK cf6.res) noE (endK cf6.res))
abbrev b6_6 (call : CallT) (nl lo : Nat) (x3 x4 x6 : AV) (M : MM) : Option (AV × MM) :=
  b6_22 call nl lo x3 x4 x6 M
theorem t6_6 (call : CallT) (nl lo : Nat) (ρ : Rg) (M : MM) : k6_6 call nl lo ρ M = b6_6 call nl lo (ρ 3) (ρ 4) (ρ 6) M := by
  have h : k6_6 call nl lo ρ M = (k6_22 call nl lo ρ M) := execC_seq call modeF lo nl p6_22 p6_72 (endK cf6.res) noE (endK cf6.res) ρ M
  rw [h]
  unfold b6_6; simp only [(t6_22 call nl lo)] <;> (show _ = _; kernel_rfl)
def k6_23 (call : CallT) (nl lo : Nat) : Rg → MM → Option (AV × MM) := (execC call modeF lo nl p6_21 (k6_6 call nl lo) noE (endK cf6.res))
abbrev b6_23 (call : CallT) (nl lo : Nat) (x3 x4 x5 x6 : AV) (M : MM) : Option (AV × MM) :=
  opt (fldA 0 2 true x4) fun v1 =>
  opt (fldA 0 2 true x5) fun v2 =>
  opt (puA call (lk M) 22 [v1, v2, x6]) fun v4 =>
  opt (extA 0 v4) fun v6 =>
  opt (extA 1 v4) fun v7 =>
  isB v7 fun c11 => if c11 then (opt (fldA 0 2 true x4) fun v12 =>
  opt (puA call (lk M) 18 [v12, x6, v6]) fun v15 =>
  opt (extA 0 v15) fun v17 =>
  opt (extA 1 v15) fun v18 =>
  upK M M.nx fun M20 =>
  opt (setcA 0 2 (.agg [.str ⟨⟨[]⟩⟩, .d (.sl [] 0)]) v17) fun v21 =>
  opt (binA .neq .none v18 (.i 0)) fun v24 =>
  opt (gdp v24 false (fldA 0 2 true v21)) fun v26 =>
  opt (gdp v24 false (fldA 0 2 true x5)) fun v27 =>
  opt (gdp v24 false (puA call (lk M20) 14 [v26, v27])) fun v28 =>
  opt (gdp v24 false (unA .not v28)) fun v29 =>
  opt (pickA v24 (.bool true) v29) fun v30 =>
  isB v30 fun c31 => if c31 then (some ((.bool false), M20))
  else (b6_6 call nl lo x3 x4 x6 M20))
  else (b6_6 call nl lo x3 x4 x6 M)
theorem t6_23 (call : CallT) (nl lo : Nat) (ρ : Rg) (M : MM) : k6_23 call nl lo ρ M = b6_23 call nl lo (ρ 3) (ρ 4) (ρ 5) (ρ 6) M := by
  have h : ∀ (z0 : Rg → MM → Option (AV × MM)), (execC call modeF lo nl p6_21 z0 noE (endK cf6.res)) ρ M = (opt (fldA 0 2 true (ρ 4)) fun v1 =>
  opt (fldA 0 2 true (ρ 5)) fun v2 =>
  opt (puA call (lk M) 22 [v1, v2, (ρ 6)]) fun v4 =>
  opt (extA 0 v4) fun v6 =>
  opt (extA 1 v4) fun v7 =>
  isB v7 fun c11 => if c11 then (opt (fldA 0 2 true (ρ 4)) fun v12 =>
  opt (puA call (lk M) 18 [v12, (ρ 6), v6]) fun v15 =>
  opt (extA 0 v15) fun v17 =>
  opt (extA 1 v15) fun v18 =>
  upK M M.nx fun M20 =>
  opt (setcA 0 2 (.agg [.str ⟨⟨[]⟩⟩, .d (.sl [] 0)]) v17) fun v21 =>
  opt (binA .neq .none v18 (.i 0)) fun v24 =>
  opt (gdp v24 false (fldA 0 2 true v21)) fun v26 =>
  opt (gdp v24 false (fldA 0 2 true (ρ 5))) fun v27 =>
  opt (gdp v24 false (puA call (lk M20) 14 [v26, v27])) fun v28 =>
  opt (gdp v24 false (unA .not v28)) fun v29 =>
  opt (pickA v24 (.bool true) v29) fun v30 =>
  isB v30 fun c31 => if c31 then (some ((.bool false), M20))
  else (z0 (sF (sF (sF (sF (sF (sF (sF (sF (sF (sF (sF (sF (sF (sF (sF (sF (sF (sF (sF (sF (sF (sF (sF (sF (sF (sF (sF (sF ρ 30 v1) 31 v2) 32 (ρ 6)) 33 v4) 29 v4) 34 v6) 35 v7) 7 v6) 8 v7) 36 v7) 38 v12) 39 (ρ 6)) 40 v6) 41 v15) 37 v15) 42 v17) 43 v18) 9 (.agg [.str ⟨⟨[]⟩⟩, .d (.sl [] 0)])) 9 v21) 10 v18) 44 v18) 45 v24) 46 v24) 47 v26) 48 v27) 49 v28) 50 v29) 51 v30) M20))
  else (z0 (sF (sF (sF (sF (sF (sF (sF (sF (sF (sF ρ 30 v1) 31 v2) 32 (ρ 6)) 33 v4) 29 v4) 34 v6) 35 v7) 7 v6) 8 v7) 36 v7) M)) := by intros; kernel_rfl
  refine (h (k6_6 call nl lo)).trans ?_
  unfold b6_23; simp only [(t6_6 call nl lo)] <;> (show _ = _; kernel_rfl)
def k6_5 (call : CallT) (nl lo : Nat) : Rg → MM → Option (AV × MM) := (execC call modeF lo nl p6_74 (endK cf6.res) noE (endK cf6.res))
abbrev b6_5 (call : CallT) (nl lo : Nat) (x3 x4 x5 x6 : AV) (M : MM) : Option (AV × MM) :=
  b6_23 call nl lo x3 x4 x5 x6 M
theorem t6_5 (call : CallT) (nl lo : Nat) (ρ : Rg) (M : MM) : k6_5 call nl lo ρ M = b6_5 call nl lo (ρ 3) (ρ 4) (ρ 5) (ρ 6) M := by
  have h : k6_5 call nl lo ρ M = (k6_23 call nl lo ρ M) := execC_seq call modeF lo nl p6_21 p6_73 (endK cf6.res) noE (endK cf6.res) ρ M
  rw [h]
  unfold b6_5; simp only [(t6_23 call nl lo)] <;> (show _ = _; kernel_rfl)
def k6_24 (call : CallT) (nl lo : Nat) : Rg → MM → Option (AV × MM) := (execC call modeF lo nl p6_9 (k6_5 call nl lo) noE (endK cf6.res))
abbrev b6_24 (call : CallT) (nl lo : Nat) (x3 x4 x5 : AV) (M : MM) : Option (AV × MM) :=
  opt (fldA 0 2 true x4) fun v1 =>
  opt (puA call (lk M) 26 [v1]) fun v2 =>
  b6_5 call nl lo x3 x4 x5 v2 M
theorem t6_24 (call : CallT) (nl lo : Nat) (ρ : Rg) (M : MM) : k6_24 call nl lo ρ M = b6_24 call nl lo (ρ 3) (ρ 4) (ρ 5) M := by
  have h : ∀ (z0 : Rg → MM → Option (AV × MM)), (execC call modeF lo nl p6_9 z0 noE (endK cf6.res)) ρ M = (opt (fldA 0 2 true (ρ 4)) fun v1 =>
  opt (puA call (lk M) 26 [v1]) fun v2 =>
  z0 (sF (sF (sF ρ 27 v1) 28 v2) 6 v2) M) := by intros; kernel_rfl
  refine (h (k6_5 call nl lo)).trans ?_
  unfold b6_24; simp only [(t6_5 call nl lo)] <;> (show _ = _; kernel_rfl)
def k6_4 (call : CallT) (nl lo : Nat) : Rg → MM → Option (AV × MM) := (execC call modeF lo nl p6_75 (endK cf6.res) noE (endK cf6.res))
abbrev b6_4 (call : CallT) (nl lo : Nat) (x3 x4 x5 : AV) (M : MM) : Option (AV × MM) :=
  b6_24 call nl lo x3 x4 x5 M
theorem t6_4 (call : CallT) (nl lo : Nat) (ρ : Rg) (M : MM) : k6_4 call nl lo ρ M = b6_4 call nl lo (ρ 3) (ρ 4) (ρ 5) M := by
  have h : k6_4 call nl lo ρ M = (k6_24 call nl lo ρ M) := execC_seq call modeF lo nl p6_9 p6_74 (endK cf6.res) noE (endK cf6.res) ρ M
  rw [h]
  unfold b6_4; simp only [(t6_24 call nl lo)] <;> (show _ = _; kernel_rfl)
def k6_25 (call : CallT) (nl lo : Nat) : Rg → MM → Option (AV × MM) := (execC call modeF lo nl p6_8 (k6_4 call nl lo) noE (endK cf6.res))
abbrev b6_25 (call : CallT) (nl lo : Nat) (x3 : AV) (M : MM) : Option (AV × MM) :=
  bnd (call 11 [x3, (.i 3)] lo M) fun v2 M3 =>
  bnd (call 11 [x3, (.i 3)] lo M3) fun v5 M6 =>
  upK M6 M6.nx fun M8 =>
  upK M8 M8.nx fun M10 =>
  opt (setcA 0 2 (.agg [.str ⟨⟨[]⟩⟩, .d (.sl [] 0)]) v2) fun v11 =>
  opt (setcA 0 2 (.agg [.str ⟨⟨[]⟩⟩, .d (.sl [] 0)]) v5) fun v12 =>
  b6_4 call nl lo x3 v11 v12 M10
theorem t6_25 (call : CallT) (nl lo : Nat) (ρ : Rg) (M : MM) : k6_25 call nl lo ρ M = b6_25 call nl lo (ρ 3) M := by
  have h : ∀ (z0 : Rg → MM → Option (AV × MM)), (execC call modeF lo nl p6_8 z0 noE (endK cf6.res)) ρ M = (bnd (call 11 [(ρ 3), (.i 3)] lo M) fun v2 M3 =>
  bnd (call 11 [(ρ 3), (.i 3)] lo M3) fun v5 M6 =>
  upK M6 M6.nx fun M8 =>
  upK M8 M8.nx fun M10 =>
  opt (setcA 0 2 (.agg [.str ⟨⟨[]⟩⟩, .d (.sl [] 0)]) v2) fun v11 =>
  opt (setcA 0 2 (.agg [.str ⟨⟨[]⟩⟩, .d (.sl [] 0)]) v5) fun v12 =>
  z0 (sF (sF (sF (sF (sF (sF (sF (sF ρ 23 (ρ 3)) 24 v2) 25 (ρ 3)) 26 v5) 4 (.agg [.str ⟨⟨[]⟩⟩, .d (.sl [] 0)])) 5 (.agg [.str ⟨⟨[]⟩⟩, .d (.sl [] 0)])) 4 v11) 5 v12) M10) := by intros; kernel_rfl
  refine (h (k6_4 call nl lo)).trans ?_
  unfold b6_25; simp only [(t6_4 call nl lo)] <;> (show _ = _; kernel_rfl)
def k6_3 (call : CallT) (nl lo : Nat) : Rg → MM → Option (AV × MM) := (execC call modeF lo nl p6_76 (endK cf6.res) noE (endK cf6.res))
abbrev b6_3 (call : CallT) (nl lo : Nat) (x3 : AV) (M : MM) : Option (AV × MM) :=
  b6_25 call nl lo x3 M
theorem t6_3 (call : CallT) (nl lo : Nat) (ρ : Rg) (M : MM) : k6_3 call nl lo ρ M = b6_3 call nl lo (ρ 3) M := by
  have h : k6_3 call nl lo ρ M = (k6_25 call nl lo ρ M) := execC_seq call modeF lo nl p6_8 p6_75 (endK cf6.res) noE (endK cf6.res) ρ M
  rw [h]
  unfold b6_3; simp only [(t6_25 call nl lo)] <;> (show _ = _; kernel_rfl)
def k6_26 (call : CallT) (nl lo : Nat) : Rg → MM → Option (AV × MM) := (execC call modeF lo nl p6_7 (k6_3 call nl lo) noE (endK cf6.res))
abbrev b6_26 (call : CallT) (nl lo : Nat) (x0 : AV) (M : MM) : Option (AV × MM) :=
  bnd (call 12 [x0] lo M) fun v2 M3 =>
  b6_3 call nl lo v2 M3
theorem t6_26 (call : CallT) (nl lo : Nat) (ρ : Rg) (M : MM) : k6_26 call nl lo ρ M = b6_26 call nl lo (ρ 0) M := by
  have h : ∀ (z0 : Rg → MM → Option (AV × MM)), (execC call modeF lo nl p6_7 z0 noE (endK cf6.res)) ρ M = (bnd (call 12 [(ρ 0)] lo M) fun v2 M3 =>
  z0 (sF (sF (sF ρ 21 (ρ 0)) 22 v2) 3 v2) M3) := by intros; kernel_rfl
  refine (h (k6_3 call nl lo)).trans ?_
  unfold b6_26; simp only [(t6_3 call nl lo)] <;> (show _ = _; kernel_rfl)
def k6_2 (call : CallT) (nl lo : Nat) : Rg → MM → Option (AV × MM) := (execC call modeF lo nl p6_77 (endK cf6.res) noE (endK cf6.res))
abbrev b6_2 (call : CallT) (nl lo : Nat) (x0 : AV) (M : MM) : Option (AV × MM) :=
  b6_26 call nl lo x0 M
theorem t6_2 (call : CallT) (nl lo : Nat) (ρ : Rg) (M : MM) : k6_2 call nl lo ρ M = b6_2 call nl lo (ρ 0) M := by
  have h : k6_2 call nl lo ρ M = (k6_26 call nl lo ρ M) := execC_seq call modeF lo nl p6_7 p6_76 (endK cf6.res) noE (endK cf6.res) ρ M
  rw [h]
  unfold b6_2; simp only [(t6_26 call nl lo)] <;> (show _ = _; kernel_rfl)
def k6_27 (call : CallT) (nl lo : Nat) : Rg → MM → Option (AV × MM) := (execC call modeF lo nl p6_6 (k6_2 call nl lo) noE (endK cf6.res))
abbrev b6_27 (call : CallT) (nl lo : Nat) (x0 : AV) (M : MM) : Option (AV × MM) :=
  opt (puA call (lk M) 9 [x0]) fun v2 =>
  opt (unA .not v2) fun v3 =>
  isB v3 fun c4 => if c4 then (opt (puA call (lk M) 10 []) fun v5 =>
  some (v5, M))
  else (b6_2 call nl lo x0 M)
theorem t6_27 (call : CallT) (nl lo : Nat) (ρ : Rg) (M : MM) : k6_27 call nl lo ρ M = b6_27 call nl lo (ρ 0) M := by
  have h : ∀ (z0 : Rg → MM → Option (AV × MM)), (execC call modeF lo nl p6_6 z0 noE (endK cf6.res)) ρ M = (opt (puA call (lk M) 9 [(ρ 0)]) fun v2 =>
  opt (unA .not v2) fun v3 =>
  isB v3 fun c4 => if c4 then (opt (puA call (lk M) 10 []) fun v5 =>
  some (v5, M))
  else (z0 (sF (sF (sF ρ 17 (ρ 0)) 18 v2) 19 v3) M)) := by intros; kernel_rfl
  refine (h (k6_2 call nl lo)).trans ?_
  unfold b6_27; simp only [(t6_2 call nl lo)] <;> (show _ = _; kernel_rfl)
def k6_1 (call : CallT) (nl lo : Nat) : Rg → MM → Option (AV × MM) := (execC call modeF lo nl p6_78 (endK cf6.res) noE (endK cf6.res))
abbrev b6_1 (call : CallT) (nl lo : Nat) (x0 : AV) (M : MM) : Option (AV × MM) :=
  b6_27 call nl lo x0 M
theorem t6_1 (call : CallT) (nl lo : Nat) (ρ : Rg) (M : MM) : k6_1 call nl lo ρ M = b6_1 call nl lo (ρ 0) M := by
  have h : k6_1 call nl lo ρ M = (k6_27 call nl lo ρ M) := execC_seq call modeF lo nl p6_6 p6_77 (endK cf6.res) noE (endK cf6.res) ρ M
  rw [h]
  unfold b6_1; simp only [(t6_27 call nl lo)] <;> (show _ = _; kernel_rfl)
def k6_28 (call : CallT) (nl lo : Nat) : Rg → MM → Option (AV × MM) := (execC call modeF lo nl p6_1 (k6_1 call nl lo) noE (endK cf6.res))
abbrev b6_28 (call : CallT) (nl lo : Nat) (x0 : AV) (M : MM) : Option (AV × MM) :=
  b6_1 call nl lo x0 M
theorem t6_28 (call : CallT) (nl lo : Nat) (ρ : Rg) (M : MM) : k6_28 call nl lo ρ M = b6_28 call nl lo (ρ 0) M := by
  have h : ∀ (z0 : Rg → MM → Option (AV × MM)), (execC call modeF lo nl p6_1 z0 noE (endK cf6.res)) ρ M = (z0 (sF ρ 2 (.bool false)) M) := by intros; kernel_rfl
  refine (h (k6_1 call nl lo)).trans ?_
  unfold b6_28; simp only [(t6_1 call nl lo)] <;> (show _ = _; kernel_rfl)
def k6_0 (call : CallT) (nl lo : Nat) : Rg → MM → Option (AV × MM) := (execC call modeF lo nl p6_79 (endK cf6.res) noE (endK cf6.res))
abbrev b6_0 (call : CallT) (nl lo : Nat) (x0 : AV) (M : MM) : Option (AV × MM) :=
  b6_28 call nl lo x0 M
theorem t6_0 (call : CallT) (nl lo : Nat) (ρ : Rg) (M : MM) : k6_0 call nl lo ρ M = b6_0 call nl lo (ρ 0) M := by
  have h : k6_0 call nl lo ρ M = (k6_28 call nl lo ρ M) := execC_seq call modeF lo nl p6_1 p6_78 (endK cf6.res) noE (endK cf6.res) ρ M
  rw [h]
  unfold b6_0; simp only [(t6_28 call nl lo)] <;> (show _ = _; kernel_rfl)
def k6_29 (call : CallT) (nl lo : Nat) : Rg → MM → Option (AV × MM) := (execC call modeF lo nl p6_0 (k6_0 call nl lo) noE (endK cf6.res))
abbrev b6_29 (call : CallT) (nl lo : Nat) (x0 : AV) (M : MM) : Option (AV × MM) :=
  b6_0 call nl lo x0 M
theorem t6_29 (call : CallT) (nl lo : Nat) (ρ : Rg) (M : MM) : k6_29 call nl lo ρ M = b6_29 call nl lo (ρ 0) M := by
  have h : ∀ (z0 : Rg → MM → Option (AV × MM)), (execC call modeF lo nl p6_0 z0 noE (endK cf6.res)) ρ M = (z0 (sF (sF (sF (sF ρ 4 (.tup [])) 5 (.tup [])) 9 (.tup [])) 12 (.tup [])) M) := by intros; kernel_rfl
  refine (h (k6_0 call nl lo)).trans ?_
  unfold b6_29; simp only [(t6_0 call nl lo)] <;> (show _ = _; kernel_rfl)
def s6 (call : CallT) (nl lo : Nat) (a0 : AV) (M : MM) : Option (AV × MM) :=
  b6_29 call nl lo a0 M
theorem e6 (call : CallT) (nl lo : Nat) (a0 : AV) (M : MM) : execC call modeF lo nl cf6.body (endK cf6.res) noE (endK cf6.res) (aF [a0]) M = s6 call nl lo a0 M := by
  have h : execC call modeF lo nl cf6.body (endK cf6.res) noE (endK cf6.res) (aF [a0]) M = (k6_29 call nl lo (aF [a0]) M) := execC_seq call modeF lo nl p6_0 p6_79 (endK cf6.res) noE (endK cf6.res) (aF [a0]) M
  refine h.trans ?_
  unfold s6; simp only [(t6_29 call nl lo)] <;> (show _ = _; kernel_rfl)
theorem q6 {call : CallT} (hc : Lim G call) (lo : Nat) (a0 : AV) (M : MM) : call 6 [a0] lo M = s6 call G.nl lo a0 M :=
  (hc.flow (cf := cf6) rfl w6 [a0] lo M).trans (e6 call G.nl lo a0 M)

/-! ### function 9 -/
theorem w9 : wfK cf9.nt cf9.body = true := by kernel_rfl
def s9 (call : CallT) (nl lo : Nat) (a0 : AV) (M : MM) : Option (AV × MM) :=
  opt (lenA a0) fun v3 =>
  opt (binA .leq .none v3 (.i 700)) fun v4 =>
  some (v4, M)
theorem e9 (call : CallT) (nl lo : Nat) (a0 : AV) (M : MM) : execC call modeF lo nl cf9.body (endK cf9.res) noE (endK cf9.res) (aF [a0]) M = s9 call nl lo a0 M := by
  kernel_rfl
theorem q9 {call : CallT} (hc : Lim G call) (lo : Nat) (a0 : AV) (M : MM) : call 9 [a0] lo M = s9 call G.nl lo a0 M :=
  (hc.flow (cf := cf9) rfl w9 [a0] lo M).trans (e9 call G.nl lo a0 M)

/-! ### function 11 -/
theorem w11 : wfK cf11.nt cf11.body = true := by kernel_rfl
def k11_7 (call : CallT) (nl lo : Nat) : Rg → MM → Option (AV × MM) := (execC call modeF lo nl p11_29 (endK cf11.res) noE (endK cf11.res))
abbrev b11_7 (call : CallT) (nl lo : Nat) (x4 x6 : AV) (M : MM) : Option (AV × MM) :=
  opt (fldA 0 2 true x6) fun v1 =>
  opt (setcA 0 2 x4 v1) fun v2 =>
  opt (locA 2 true v2) fun r => some (r, M)
theorem t11_7 (call : CallT) (nl lo : Nat) (ρ : Rg) (M : MM) : k11_7 call nl lo ρ M = b11_7 call nl lo (ρ 4) (ρ 6) M := by
  kernel_rfl
def k11_9 (call : CallT) (nl lo : Nat) (n : Nat) : Rg → MM → Option (AV × MM) := iterC (fun k ρ M => execC call modeF lo nl p11_25 k (fun i ρ M => if i = 0 then (k11_7 call nl lo) ρ M else noE i ρ M) (endK cf11.res) ρ M) n
def b11_9 (call : CallT) (nl lo : Nat) : Nat → AV → AV → AV → AV → AV → MM → Option (AV × MM)
  | 0, _, _, _, _, _, _ => none
  | n + 1, x0, x1, x4, x6, x7, M =>
  opt (binA .gtr .none x7 (.i 0)) fun v4 =>
  isB v4 fun c5 => if c5 then (bumpK M 10 fun M6 =>
  opt (fldA 0 0 true x6) fun v7 =>
  opt (fldA 1 1 false x6) fun v8 =>
  opt (binA .sub .none x1 (.i 1)) fun v11 =>
  bnd (istep call modeF true lo (.mk M.nx 10 28 true) (M.nx + 5) (.callk 11 [(.k x0), (.k v11)] [(.k x6)]) [] M6) fun v12 M13 =>
  opt (wslA 1 (fill [.str ⟨⟨[]⟩⟩, .d (.sl [] 0)] [(0, 2, v12)])) fun v14 =>
  upK M13 (M.nx + 6) fun M15 =>
  opt (wappA M15.mem (.top M15.nx) 2 40 v8 v14) fun v16 =>
  upK M15 (M.nx + 7) fun M17 =>
  opt (fldA 0 0 true x6) fun v18 =>
  opt (setcA 1 1 x6 v16) fun v19 =>
  opt (binA .sub .none x7 (.i 1)) fun v21 =>
  (b11_9 call nl lo n) x0 x1 x4 v19 v21 M17)
  else (b11_7 call nl lo x4 x6 M)
theorem t11_9 (call : CallT) (nl lo : Nat) : ∀ (n : Nat) (ρ : Rg) (M : MM), k11_9 call nl lo n ρ M = b11_9 call nl lo n (ρ 0) (ρ 1) (ρ 4) (ρ 6) (ρ 7) M
  | 0, ρ, M => rfl
  | n + 1, ρ, M => by
    have h : ∀ (zb z0 : Rg → MM → Option (AV × MM)), execC call modeF lo nl p11_25 zb (fun i ρ M => if i = 0 then z0 ρ M else noE i ρ M) (endK cf11.res) ρ M = (opt (binA .gtr .none (ρ 7) (.i 0)) fun v4 =>
    isB v4 fun c5 => if c5 then (bumpK M 10 fun M6 =>
    opt (fldA 0 0 true (ρ 6)) fun v7 =>
    opt (fldA 1 1 false (ρ 6)) fun v8 =>
    opt (binA .sub .none (ρ 1) (.i 1)) fun v11 =>
    bnd (istep call modeF true lo (.mk M.nx 10 28 true) (M.nx + 5) (.callk 11 [(.k (ρ 0)), (.k v11)] [(.k (ρ 6))]) [] M6) fun v12 M13 =>
    opt (wslA 1 (fill [.str ⟨⟨[]⟩⟩, .d (.sl [] 0)] [(0, 2, v12)])) fun v14 =>
    upK M13 (M.nx + 6) fun M15 =>
    opt (wappA M15.mem (.top M15.nx) 2 40 v8 v14) fun v16 =>
    upK M15 (M.nx + 7) fun M17 =>
    opt (fldA 0 0 true (ρ 6)) fun v18 =>
    opt (setcA 1 1 (ρ 6) v16) fun v19 =>
    opt (binA .sub .none (ρ 7) (.i 1)) fun v21 =>
    zb (sF (sF (sF (sF (sF (sF (sF (sF (sF (sF (sF (sF (sF (sF (sF ρ 33 (ρ 7)) 34 v4) 37 v7) 38 v8) 39 (ρ 0)) 40 (ρ 1)) 41 v11) 42 v12) 43 v14) 44 v16) 45 v18) 6 v19) 35 (ρ 7)) 36 v21) 7 v21) M17)
    else (z0 (sF (sF ρ 33 (ρ 7)) 34 v4) M)) := by intros; kernel_rfl
    refine (h (k11_9 call nl lo n) (k11_7 call nl lo)).trans ?_
    unfold b11_9; simp only [(t11_7 call nl lo), (t11_9 call nl lo n)] <;> (show _ = _; kernel_rfl)
def k11_8 (call : CallT) (nl lo : Nat) : Rg → MM → Option (AV × MM) := (execC call modeF lo nl p11_27 (k11_7 call nl lo) noE (endK cf11.res))
abbrev b11_8 (call : CallT) (nl lo : Nat) (x0 x1 x4 x6 x7 : AV) (M : MM) : Option (AV × MM) :=
  b11_9 call nl lo nl x0 x1 x4 x6 x7 M
theorem t11_8 (call : CallT) (nl lo : Nat) (ρ : Rg) (M : MM) : k11_8 call nl lo ρ M = b11_8 call nl lo (ρ 0) (ρ 1) (ρ 4) (ρ 6) (ρ 7) M := by
  have h : k11_8 call nl lo ρ M = (k11_9 call nl lo nl ρ M) := by kernel_rfl
  rw [h]
  unfold b11_8; simp only [(t11_9 call nl lo nl)] <;> (show _ = _; kernel_rfl)
def k11_6 (call : CallT) (nl lo : Nat) : Rg → MM → Option (AV × MM) := (execC call modeF lo nl p11_30 (endK cf11.res) noE (endK cf11.res))
abbrev b11_6 (call : CallT) (nl lo : Nat) (x0 x1 x4 x6 x7 : AV) (M : MM) : Option (AV × MM) :=
  b11_8 call nl lo x0 x1 x4 x6 x7 M
theorem t11_6 (call : CallT) (nl lo : Nat) (ρ : Rg) (M : MM) : k11_6 call nl lo ρ M = b11_6 call nl lo (ρ 0) (ρ 1) (ρ 4) (ρ 6) (ρ 7) M := by
  have h : k11_6 call nl lo ρ M = (k11_8 call nl lo ρ M) := execC_seq call modeF lo nl p11_27 p11_29 (endK cf11.res) noE (endK cf11.res) ρ M
  rw [h]
  unfold b11_6; simp only [(t11_8 call nl lo)] <;> (show _ = _; kernel_rfl)
def k11_10 (call : CallT) (nl lo : Nat) : Rg → MM → Option (AV × MM) := (execC call modeF lo nl p11_17 (k11_6 call nl lo) noE (endK cf11.res))
abbrev b11_10 (call : CallT) (nl lo : Nat) (x0 x1 x4 x6 x7 : AV) (M : MM) : Option (AV × MM) :=
  opt (fldA 0 0 true x6) fun v1 =>
  opt (fldA 0 1 false x6) fun v2 =>
  opt (binA .eql .none v2 (.str ⟨⟨[65, 114, 114, 97, 121]⟩⟩)) fun v3 =>
  isB v3 fun c4 => if c4 then (opt (binA .lss .none x1 (.i 0)) fun v7 =>
  isB v7 fun c8 => if c8 then (opt (fldA 0 0 true x6) fun v9 =>
  opt (setcA 0 1 x6 (.str ⟨⟨[73, 110, 116]⟩⟩)) fun v10 =>
  b11_6 call nl lo x0 x1 x4 v10 (.i 0) M)
  else (b11_6 call nl lo x0 x1 x4 x6 (.i 1) M))
  else (b11_6 call nl lo x0 x1 x4 x6 x7 M)
theorem t11_10 (call : CallT) (nl lo : Nat) (ρ : Rg) (M : MM) : k11_10 call nl lo ρ M = b11_10 call nl lo (ρ 0) (ρ 1) (ρ 4) (ρ 6) (ρ 7) M := by
  have h : ∀ (z0 : Rg → MM → Option (AV × MM)), (execC call modeF lo nl p11_17 z0 noE (endK cf11.res)) ρ M = (opt (fldA 0 0 true (ρ 6)) fun v1 =>
  opt (fldA 0 1 false (ρ 6)) fun v2 =>
  opt (binA .eql .none v2 (.str ⟨⟨[65, 114, 114, 97, 121]⟩⟩)) fun v3 =>
  isB v3 fun c4 => if c4 then (opt (binA .lss .none (ρ 1) (.i 0)) fun v7 =>
  isB v7 fun c8 => if c8 then (opt (fldA 0 0 true (ρ 6)) fun v9 =>
  opt (setcA 0 1 (ρ 6) (.str ⟨⟨[73, 110, 116]⟩⟩)) fun v10 =>
  z0 (sF (sF (sF (sF (sF (sF (sF (sF (sF ρ 27 v1) 28 v2) 29 v3) 7 (.i 1)) 30 (ρ 1)) 31 v7) 32 v9) 6 v10) 7 (.i 0)) M)
  else (z0 (sF (sF (sF (sF (sF (sF ρ 27 v1) 28 v2) 29 v3) 7 (.i 1)) 30 (ρ 1)) 31 v7) M))
  else (z0 (sF (sF (sF ρ 27 v1) 28 v2) 29 v3) M)) := by intros; kernel_rfl
  refine (h (k11_6 call nl lo)).trans ?_
  unfold b11_10; simp only [(t11_6 call nl lo)] <;> (show _ = _; kernel_rfl)
def k11_5 (call : CallT) (nl lo : Nat) : Rg → MM → Option (AV × MM) := (execC call modeF lo nl p11_31 (endK cf11.res) noE (endK cf11.res))
abbrev b11_5 (call : CallT) (nl lo : Nat) (x0 x1 x4 x6 x7 : AV) (M : MM) : Option (AV × MM) :=
  b11_10 call nl lo x0 x1 x4 x6 x7 M
theorem t11_5 (call : CallT) (nl lo : Nat) (ρ : Rg) (M : MM) : k11_5 call nl lo ρ M = b11_5 call nl lo (ρ 0) (ρ 1) (ρ 4) (ρ 6) (ρ 7) M := by
  have h : k11_5 call nl lo ρ M = (k11_10 call nl lo ρ M) := execC_seq call modeF lo nl p11_17 p11_30 (endK cf11.res) noE (endK cf11.res) ρ M
  rw [h]
  unfold b11_5; simp only [(t11_10 call nl lo)] <;> (show _ = _; kernel_rfl)
def k11_11 (call : CallT) (nl lo : Nat) : Rg → MM → Option (AV × MM) := (execC call modeF lo nl p11_8 (k11_5 call nl lo) noE (endK cf11.res))
abbrev b11_11 (call : CallT) (nl lo : Nat) (x0 x1 x4 x6 x7 : AV) (M : MM) : Option (AV × MM) :=
  opt (binA .gtr .none x1 (.i 0)) fun v2 =>
  opt (gdp v2 true (fldA 0 0 true x6)) fun v4 =>
  opt (gdp v2 true (fldA 0 1 false x6)) fun v5 =>
  opt (gdp v2 true (ixcA v5 (.i 0))) fun v6 =>
  opt (gdp v2 true (binA .geq .none v6 (.int .u8 97))) fun v7 =>
  opt (pickA v2 v7 (.bool false)) fun v8 =>
  isB v8 fun c9 => if c9 then (bnd (call 17 [x0, (.i 4)] lo M) fun v11 M12 =>
  b11_5 call nl lo x0 x1 x4 x6 v11 M12)
  else (b11_5 call nl lo x0 x1 x4 x6 x7 M)
theorem t11_11 (call : CallT) (nl lo : Nat) (ρ : Rg) (M : MM) : k11_11 call nl lo ρ M = b11_11 call nl lo (ρ 0) (ρ 1) (ρ 4) (ρ 6) (ρ 7) M := by
  have h : ∀ (z0 : Rg → MM → Option (AV × MM)), (execC call modeF lo nl p11_8 z0 noE (endK cf11.res)) ρ M = (opt (binA .gtr .none (ρ 1) (.i 0)) fun v2 =>
  opt (gdp v2 true (fldA 0 0 true (ρ 6))) fun v4 =>
  opt (gdp v2 true (fldA 0 1 false (ρ 6))) fun v5 =>
  opt (gdp v2 true (ixcA v5 (.i 0))) fun v6 =>
  opt (gdp v2 true (binA .geq .none v6 (.int .u8 97))) fun v7 =>
  opt (pickA v2 v7 (.bool false)) fun v8 =>
  isB v8 fun c9 => if c9 then (bnd (call 17 [(ρ 0), (.i 4)] lo M) fun v11 M12 =>
  z0 (sF (sF (sF (sF (sF (sF (sF (sF (sF (sF (sF ρ 17 (ρ 1)) 18 v2) 19 v2) 20 v4) 21 v5) 22 v6) 23 v7) 24 v8) 25 (ρ 0)) 26 v11) 7 v11) M12)
  else (z0 (sF (sF (sF (sF (sF (sF (sF (sF ρ 17 (ρ 1)) 18 v2) 19 v2) 20 v4) 21 v5) 22 v6) 23 v7) 24 v8) M)) := by intros; kernel_rfl
  refine (h (k11_5 call nl lo)).trans ?_
  unfold b11_11; simp only [(t11_5 call nl lo)] <;> (show _ = _; kernel_rfl)
def k11_4 (call : CallT) (nl lo : Nat) : Rg → MM → Option (AV × MM) := (execC call modeF lo nl p11_32 (endK cf11.res) noE (endK cf11.res))
abbrev b11_4 (call : CallT) (nl lo : Nat) (x0 x1 x4 x6 x7 : AV) (M : MM) : Option (AV × MM) :=
  b11_11 call nl lo x0 x1 x4 x6 x7 M
theorem t11_4 (call : CallT) (nl lo : Nat) (ρ : Rg) (M : MM) : k11_4 call nl lo ρ M = b11_4 call nl lo (ρ 0) (ρ 1) (ρ 4) (ρ 6) (ρ 7) M := by
  have h : k11_4 call nl lo ρ M = (k11_11 call nl lo ρ M) := execC_seq call modeF lo nl p11_8 p11_31 (endK cf11.res) noE (endK cf11.res) ρ M
  rw [h]
  unfold b11_4; simp only [(t11_11 call nl lo)] <;> (show _ = _; kernel_rfl)
def k11_12 (call : CallT) (nl lo : Nat) : Rg → MM → Option (AV × MM) := (execC call modeF lo nl p11_4 (k11_4 call nl lo) noE (endK cf11.res))
abbrev b11_12 (call : CallT) (nl lo : Nat) (x0 x1 x4 x6 : AV) (M : MM) : Option (AV × MM) :=
  b11_4 call nl lo x0 x1 x4 x6 (.i 0) M
theorem t11_12 (call : CallT) (nl lo : Nat) (ρ : Rg) (M : MM) : k11_12 call nl lo ρ M = b11_12 call nl lo (ρ 0) (ρ 1) (ρ 4) (ρ 6) M := by
  have h : ∀ (z0 : Rg → MM → Option (AV × MM)), (execC call modeF lo nl p11_4 z0 noE (endK cf11.res)) ρ M = (z0 (sF ρ 7 (.i 0)) M) := by intros; kernel_rfl
  refine (h (k11_4 call nl lo)).trans ?_
  unfold b11_12; simp only [(t11_4 call nl lo)] <;> (show _ = _; kernel_rfl)
def k11_3 (call : CallT) (nl lo : Nat) : Rg → MM → Option (AV × MM) := (execC call modeF lo nl p11_33 (endK cf11.res) noE (endK cf11.res))
abbrev b11_3 (call : CallT) (nl lo : Nat) (x0 x1 x4 x6 : AV) (M : MM) : Option (AV × MM) :=
  b11_12 call nl lo x0 x1 x4 x6 M
theorem t11_3 (call : CallT) (nl lo : Nat) (ρ : Rg) (M : MM) : k11_3 call nl lo ρ M = b11_3 call nl lo (ρ 0) (ρ 1) (ρ 4) (ρ 6) M := by
  have h : k11_3 call nl lo ρ M = (k11_12 call nl lo ρ M) := execC_seq call modeF lo nl p11_4 p11_32 (endK cf11.res) noE (endK cf11.res) ρ M
  rw [h]
  unfold b11_3; simp only [(t11_12 call nl lo)] <;> (show _ = _; kernel_rfl)
def k11_13 (call : CallT) (nl lo : Nat) : Rg → MM → Option (AV × MM) := (execC call modeF lo nl p11_3 (k11_3 call nl lo) noE (endK cf11.res))
abbrev b11_13 (call : CallT) (nl lo : Nat) (x0 x1 x4 x5 : AV) (M : MM) : Option (AV × MM) :=
  opt (lenA x5) fun v4 =>
  bnd (call 17 [x0, v4] lo M) fun v5 M6 =>
  opt (ixsA 1 x5 v5) fun v7 =>
  opt (ld1A (lk M6) v7) fun v8 =>
  opt ((fill [.str ⟨⟨[]⟩⟩, .d (.sl [] 0)] [(0, 1, v8)]).map .agg) fun v9 =>
  upK M6 M6.nx fun M11 =>
  opt (setcA 0 2 (.agg [.str ⟨⟨[]⟩⟩, .d (.sl [] 0)]) v9) fun v12 =>
  b11_3 call nl lo x0 x1 x4 v12 M11
theorem t11_13 (call : CallT) (nl lo : Nat) (ρ : Rg) (M : MM) : k11_13 call nl lo ρ M = b11_13 call nl lo (ρ 0) (ρ 1) (ρ 4) (ρ 5) M := by
  have h : ∀ (z0 : Rg → MM → Option (AV × MM)), (execC call modeF lo nl p11_3 z0 noE (endK cf11.res)) ρ M = (opt (lenA (ρ 5)) fun v4 =>
  bnd (call 17 [(ρ 0), v4] lo M) fun v5 M6 =>
  opt (ixsA 1 (ρ 5) v5) fun v7 =>
  opt (ld1A (lk M6) v7) fun v8 =>
  opt ((fill [.str ⟨⟨[]⟩⟩, .d (.sl [] 0)] [(0, 1, v8)]).map .agg) fun v9 =>
  upK M6 M6.nx fun M11 =>
  opt (setcA 0 2 (.agg [.str ⟨⟨[]⟩⟩, .d (.sl [] 0)]) v9) fun v12 =>
  z0 (sF (sF (sF (sF (sF (sF (sF (sF (sF (sF ρ 9 (ρ 5)) 10 (ρ 0)) 11 (ρ 5)) 12 v4) 13 v5) 14 v7) 15 v8) 16 v9) 6 (.agg [.str ⟨⟨[]⟩⟩, .d (.sl [] 0)])) 6 v12) M11) := by intros; kernel_rfl
  refine (h (k11_3 call nl lo)).trans ?_
  unfold b11_13; simp only [(t11_3 call nl lo)] <;> (show _ = _; kernel_rfl)
def k11_2 (call : CallT) (nl lo : Nat) : Rg → MM → Option (AV × MM) := (execC call modeF lo nl p11_34 (endK cf11.res) noE (endK cf11.res))
abbrev b11_2 (call : CallT) (nl lo : Nat) (x0 x1 x4 x5 : AV) (M : MM) : Option (AV × MM) :=
  b11_13 call nl lo x0 x1 x4 x5 M
theorem t11_2 (call : CallT) (nl lo : Nat) (ρ : Rg) (M : MM) : k11_2 call nl lo ρ M = b11_2 call nl lo (ρ 0) (ρ 1) (ρ 4) (ρ 5) M := by
  have h : k11_2 call nl lo ρ M = (k11_13 call nl lo ρ M) := execC_seq call modeF lo nl p11_3 p11_33 (endK cf11.res) noE (endK cf11.res) ρ M
  rw [h]
  unfold b11_2; simp only [(t11_13 call nl lo)] <;> (show _ = _; kernel_rfl)
def k11_14 (call : CallT) (nl lo : Nat) : Rg → MM → Option (AV × MM) := (execC call modeF lo nl p11_2 (k11_2 call nl lo) noE (endK cf11.res))
abbrev b11_14 (call : CallT) (nl lo : Nat) (x0 x1 x4 : AV) (M : MM) : Option (AV × MM) :=
  opt (wslA 9 (fill [.str ⟨⟨[]⟩⟩, .str ⟨⟨[]⟩⟩, .str ⟨⟨[]⟩⟩, .str ⟨⟨[]⟩⟩, .str ⟨⟨[]⟩⟩, .str ⟨⟨[]⟩⟩, .str ⟨⟨[]⟩⟩, .str ⟨⟨[]⟩⟩, .str ⟨⟨[]⟩⟩] [(0, 1, (.str ⟨⟨[73, 110, 116]⟩⟩)), (1, 1, (.str ⟨⟨[66, 111, 111, 108]⟩⟩)), (2, 1, (.str ⟨⟨[84]⟩⟩)), (3, 1, (.str ⟨⟨[85]⟩⟩)), (4, 1, (.str ⟨⟨[83, 101, 108, 102]⟩⟩)), (5, 1, (.str ⟨⟨[65, 114, 114, 97, 121]⟩⟩)), (6, 1, (.str ⟨⟨[103, 101, 111, 46, 80]⟩⟩)), (7, 1, (.str ⟨⟨[103, 101, 111, 46, 81]⟩⟩)), (8, 1, (.str ⟨⟨[98, 97, 115, 101, 46, 82]⟩⟩))])) fun v1 =>
  upK M M.nx fun M2 =>
  b11_2 call nl lo x0 x1 x4 v1 M2
theorem t11_14 (call : CallT) (nl lo : Nat) (ρ : Rg) (M : MM) : k11_14 call nl lo ρ M = b11_14 call nl lo (ρ 0) (ρ 1) (ρ 4) M := by
  have h : ∀ (z0 : Rg → MM → Option (AV × MM)), (execC call modeF lo nl p11_2 z0 noE (endK cf11.res)) ρ M = (opt (wslA 9 (fill [.str ⟨⟨[]⟩⟩, .str ⟨⟨[]⟩⟩, .str ⟨⟨[]⟩⟩, .str ⟨⟨[]⟩⟩, .str ⟨⟨[]⟩⟩, .str ⟨⟨[]⟩⟩, .str ⟨⟨[]⟩⟩, .str ⟨⟨[]⟩⟩, .str ⟨⟨[]⟩⟩] [(0, 1, (.str ⟨⟨[73, 110, 116]⟩⟩)), (1, 1, (.str ⟨⟨[66, 111, 111, 108]⟩⟩)), (2, 1, (.str ⟨⟨[84]⟩⟩)), (3, 1, (.str ⟨⟨[85]⟩⟩)), (4, 1, (.str ⟨⟨[83, 101, 108, 102]⟩⟩)), (5, 1, (.str ⟨⟨[65, 114, 114, 97, 121]⟩⟩)), (6, 1, (.str ⟨⟨[103, 101, 111, 46, 80]⟩⟩)), (7, 1, (.str ⟨⟨[103, 101, 111, 46, 81]⟩⟩)), (8, 1, (.str ⟨⟨[98, 97, 115, 101, 46, 82]⟩⟩))])) fun v1 =>
  upK M M.nx fun M2 =>
  z0 (sF (sF ρ 8 v1) 5 v1) M2) := by intros; kernel_rfl
  refine (h (k11_2 call nl lo)).trans ?_
  unfold b11_14; simp only [(t11_2 call nl lo)] <;> (show _ = _; kernel_rfl)
def k11_1 (call : CallT) (nl lo : Nat) : Rg → MM → Option (AV × MM) := (execC call modeF lo nl p11_35 (endK cf11.res) noE (endK cf11.res))
abbrev b11_1 (call : CallT) (nl lo : Nat) (x0 x1 x4 : AV) (M : MM) : Option (AV × MM) :=
  b11_14 call nl lo x0 x1 x4 M
theorem t11_1 (call : CallT) (nl lo : Nat) (ρ : Rg) (M : MM) : k11_1 call nl lo ρ M = b11_1 call nl lo (ρ 0) (ρ 1) (ρ 4) M := by
  have h : k11_1 call nl lo ρ M = (k11_14 call nl lo ρ M) := execC_seq call modeF lo nl p11_2 p11_34 (endK cf11.res) noE (endK cf11.res) ρ M
  rw [h]
  unfold b11_1; simp only [(t11_14 call nl lo)] <;> (show _ = _; kernel_rfl)
def k11_15 (call : CallT) (nl lo : Nat) : Rg → MM → Option (AV × MM) := (execC call modeF lo nl p11_1 (k11_1 call nl lo) noE (endK cf11.res))
abbrev b11_15 (call : CallT) (nl lo : Nat) (x0 x1 : AV) (M : MM) : Option (AV × MM) :=
  upK M M.nx fun M2 =>
  b11_1 call nl lo x0 x1 (.agg [.str ⟨⟨[]⟩⟩, .d (.sl [] 0)]) M2
theorem t11_15 (call : CallT) (nl lo : Nat) (ρ : Rg) (M : MM) : k11_15 call nl lo ρ M = b11_15 call nl lo (ρ 0) (ρ 1) M := by
  have h : ∀ (z0 : Rg → MM → Option (AV × MM)), (execC call modeF lo nl p11_1 z0 noE (endK cf11.res)) ρ M = (upK M M.nx fun M2 =>
  z0 (sF ρ 4 (.agg [.str ⟨⟨[]⟩⟩, .d (.sl [] 0)])) M2) := by intros; kernel_rfl
  refine (h (k11_1 call nl lo)).trans ?_
  unfold b11_15; simp only [(t11_1 call nl lo)] <;> (show _ = _; kernel_rfl)
def k11_0 (call : CallT) (nl lo : Nat) : Rg → MM → Option (AV × MM) := (execC call modeF lo nl p11_36 (endK cf11.res) noE (endK cf11.res))
abbrev b11_0 (call : CallT) (nl lo : Nat) (x0 x1 : AV) (M : MM) : Option (AV × MM) :=
  b11_15 call nl lo x0 x1 M
theorem t11_0 (call : CallT) (nl lo : Nat) (ρ : Rg) (M : MM) : k11_0 call nl lo ρ M = b11_0 call nl lo (ρ 0) (ρ 1) M := by
  have h : k11_0 call nl lo ρ M = (k11_15 call nl lo ρ M) := execC_seq call modeF lo nl p11_1 p11_35 (endK cf11.res) noE (endK cf11.res) ρ M
  rw [h]
  unfold b11_0; simp only [(t11_15 call nl lo)] <;> (show _ = _; kernel_rfl)
def k11_16 (call : CallT) (nl lo : Nat) : Rg → MM → Option (AV × MM) := (execC call modeF lo nl p11_0 (k11_0 call nl lo) noE (endK cf11.res))
abbrev b11_16 (call : CallT) (nl lo : Nat) (x0 x1 : AV) (M : MM) : Option (AV × MM) :=
  b11_0 call nl lo x0 x1 M
theorem t11_16 (call : CallT) (nl lo : Nat) (ρ : Rg) (M : MM) : k11_16 call nl lo ρ M = b11_16 call nl lo (ρ 0) (ρ 1) M := by
  have h : ∀ (z0 : Rg → MM → Option (AV × MM)), (execC call modeF lo nl p11_0 z0 noE (endK cf11.res)) ρ M = (z0 (sF (sF ρ 4 (.tup [])) 6 (.tup [])) M) := by intros; kernel_rfl
  refine (h (k11_0 call nl lo)).trans ?_
  unfold b11_16; simp only [(t11_0 call nl lo)] <;> (show _ = _; kernel_rfl)
def s11 (call : CallT) (nl lo : Nat) (a0 a1 : AV) (M : MM) : Option (AV × MM) :=
  b11_16 call nl lo a0 a1 M
theorem e11 (call : CallT) (nl lo : Nat) (a0 a1 : AV) (M : MM) : execC call modeF lo nl cf11.body (endK cf11.res) noE (endK cf11.res) (aF [a0, a1]) M = s11 call nl lo a0 a1 M := by
  have h : execC call modeF lo nl cf11.body (endK cf11.res) noE (endK cf11.res) (aF [a0, a1]) M = (k11_16 call nl lo (aF [a0, a1]) M) := execC_seq call modeF lo nl p11_0 p11_36 (endK cf11.res) noE (endK cf11.res) (aF [a0, a1]) M
  refine h.trans ?_
  unfold s11; simp only [(t11_16 call nl lo)] <;> (show _ = _; kernel_rfl)
theorem q11 {call : CallT} (hc : Lim G call) (lo : Nat) (a0 a1 : AV) (M : MM) : call 11 [a0, a1] lo M = s11 call G.nl lo a0 a1 M :=
  (hc.flow (cf := cf11) rfl w11 [a0, a1] lo M).trans (e11 call G.nl lo a0 a1 M)

/-! ### function 12 -/
theorem w12 : wfK cf12.nt cf12.body = true := by kernel_rfl
def s12 (call : CallT) (nl lo : Nat) (a0 : AV) (M : MM) : Option (AV × MM) :=
  opt ((fill [.d (.sl [] 0), .i 0] [(0, 1, a0)]).map .agg) fun v3 =>
  bnd (istep call modeF false lo (.top M.nx) M.nx (.box 56 (.k v3)) [] M) fun v4 M5 =>
  some (v4, M5)
theorem e12 (call : CallT) (nl lo : Nat) (a0 : AV) (M : MM) : execC call modeF lo nl cf12.body (endK cf12.res) noE (endK cf12.res) (aF [a0]) M = s12 call nl lo a0 M := by
  kernel_rfl
theorem q12 {call : CallT} (hc : Lim G call) (lo : Nat) (a0 : AV) (M : MM) : call 12 [a0] lo M = s12 call G.nl lo a0 M :=
  (hc.flow (cf := cf12) rfl w12 [a0] lo M).trans (e12 call G.nl lo a0 M)

/-! ### function 14 -/
theorem w14 : wfK cf14.nt cf14.body = true := by kernel_rfl
def s14 (call : CallT) (nl lo : Nat) (a0 a1 : AV) (M : MM) : Option (AV × MM) :=
  opt (aggA a0) fun v3 =>
  upK M M.nx fun M4 =>
  opt (aggA a1) fun v5 =>
  upK M4 M4.nx fun M6 =>
  opt (fldA 0 0 true v3) fun v8 =>
  opt (fldA 0 1 false v3) fun v9 =>
  opt (fldA 0 0 true v5) fun v10 =>
  opt (fldA 0 1 false v5) fun v11 =>
  opt (binA .eql .none v9 v11) fun v12 =>
  opt (gdp v12 true (fldA 0 0 true v3)) fun v14 =>
  opt (gdp v12 true (fldA 1 1 false v3)) fun v15 =>
  opt (gdp v12 true (fldA 0 0 true v5)) fun v16 =>
  opt (gdp v12 true (fldA 1 1 false v5)) fun v17 =>
  bnd (gd v12 true M6 (call 41 [v15, v17, (.fn 14 [] [])] lo M6)) fun v18 M19 =>
  opt (pickA v12 v18 (.bool false)) fun v20 =>
  some (v20, M19)
theorem e14 (call : CallT) (nl lo : Nat) (a0 a1 : AV) (M : MM) : execC call modeF lo nl cf14.body (endK cf14.res) noE (endK cf14.res) (aF [a0, a1]) M = s14 call nl lo a0 a1 M := by
  kernel_rfl
theorem q14 {call : CallT} (hc : Lim G call) (lo : Nat) (a0 a1 : AV) (M : MM) : call 14 [a0, a1] lo M = s14 call G.nl lo a0 a1 M :=
  (hc.flow (cf := cf14) rfl w14 [a0, a1] lo M).trans (e14 call G.nl lo a0 a1 M)

/-! ### function 17 -/
theorem w17 : wfK cf17.nt cf17.body = true := by kernel_rfl
def s17 (call : CallT) (nl lo : Nat) (a0 a1 : AV) (M : MM) : Option (AV × MM) :=
  bnd (call 43 [a0] lo M) fun v3 M4 =>
  opt (unA .not v3) fun v5 =>
  isB v5 fun c6 => if c6 then (some ((.i 0), M4))
  else (opt (nilcA a0) fun v9 =>
  opt (fadA 1 v9) fun v10 =>
  opt (ld1A (lk M4) v10) fun v11 =>
  opt (binA .add .none v11 (.i 1)) fun v12 =>
  opt (nilcA a0) fun v13 =>
  opt (fadA 1 v13) fun v14 =>
  bnd (istep call modeF false lo (.top M4.nx) M4.nx (.st 1 (.k v14) (.k v12)) [] M4) fun v15 M16 =>
  bumpK M16 14 fun M17 =>
  opt (nilcA a0) fun v19 =>
  opt (fadA 0 v19) fun v20 =>
  opt (ld1A (look M17.mem (.mk M16.nx 14 7 true)) v20) fun v21 =>
  opt (nilcA a0) fun v23 =>
  opt (fadA 1 v23) fun v24 =>
  opt (ld1A (look M17.mem (.mk M16.nx 14 112 true)) v24) fun v25 =>
  opt (binA .sub .none v25 (.i 1)) fun v26 =>
  opt (ixsA 1 v21 v26) fun v27 =>
  opt (ld1A (look M17.mem (.mk M16.nx 14 1023 true)) v27) fun v28 =>
  opt (puA call (look M17.mem (.mk M16.nx 14 4095 true)) 44 [v28, a1]) fun v30 =>
  some (v30, M17))
theorem e17 (call : CallT) (nl lo : Nat) (a0 a1 : AV) (M : MM) : execC call modeF lo nl cf17.body (endK cf17.res) noE (endK cf17.res) (aF [a0, a1]) M = s17 call nl lo a0 a1 M := by
  kernel_rfl
theorem q17 {call : CallT} (hc : Lim G call) (lo : Nat) (a0 a1 : AV) (M : MM) : call 17 [a0, a1] lo M = s17 call G.nl lo a0 a1 M :=
  (hc.flow (cf := cf17) rfl w17 [a0, a1] lo M).trans (e17 call G.nl lo a0 a1 M)

/-! ### function 18 -/
theorem w18 : wfK cf18.nt cf18.body = true := by kernel_rfl
def k18_4 (call : CallT) (nl lo : Nat) : Rg → MM → Option (AV × MM) := (execC call modeF lo nl p18_35 (endK cf18.res) noE (endK cf18.res))
abbrev b18_4 (call : CallT) (nl lo : Nat) (x1 x2 x3 x6 x8 : AV) (M : MM) : Option (AV × MM) :=
  opt (fldA 0 2 true x3) fun v1 =>
  opt (puA call (lk M) 46 [v1, x1, x8]) fun v4 =>
  opt (binA .gtr .none v4 (.i 4096)) fun v5 =>
  isB v5 fun c6 => if c6 then (opt ((fill [.str ⟨⟨[]⟩⟩, .d (.sl [] 0)] []).map .agg) fun v7 =>
  opt (setcA 0 2 x6 v7) fun v8 =>
  opt (resL [locA 2 true v8, some (.i 4)]) fun r => some (r, M))
  else (opt (fldA 0 2 true x3) fun v10 =>
  opt (puA call (lk M) 47 [v10, x1, x2]) fun v13 =>
  opt (setcA 0 2 x6 v13) fun v14 =>
  opt (resL [locA 2 true v14, some (.i 0)]) fun r => some (r, M))
theorem t18_4 (call : CallT) (nl lo : Nat) (ρ : Rg) (M : MM) : k18_4 call nl lo ρ M = b18_4 call nl lo (ρ 1) (ρ 2) (ρ 3) (ρ 6) (ρ 8) M := by
  kernel_rfl
def k18_6 (call : CallT) (nl lo : Nat) (n : Nat) : Rg → MM → Option (AV × MM) := iterC (fun k ρ M => execC call modeF lo nl p18_24 k (fun i ρ M => if i = 1 then (k18_4 call nl lo) ρ M else noE i ρ M) (endK cf18.res) ρ M) n
def b18_6 (call : CallT) (nl lo : Nat) : Nat → AV → AV → AV → AV → AV → AV → AV → AV → MM → Option (AV × MM)
  | 0, _, _, _, _, _, _, _, _, _ => none
  | n + 1, x1, x2, x3, x6, x8, x25, x26, x27, M =>
  opt (binA .lss .none x27 x26) fun v19 =>
  isB v19 fun c20 => if c20 then (opt (ixsA 2 x25 x27) fun v22 =>
  opt (ldnA (lk M) 2 v22) fun v23 =>
  upK M M.nx fun M25 =>
  opt (setcA 0 2 (.agg [.str ⟨⟨[]⟩⟩, .d (.sl [] 0)]) v23) fun v27 =>
  opt (fldA 0 2 true v27) fun v30 =>
  opt (puA call (lk M25) 25 [v30]) fun v31 =>
  opt (ixsA 1 x8 x27) fun v32 =>
  bnd (istep call modeF false lo (.top M25.nx) M25.nx (.st 1 (.k v32) (.k v31)) [] M25) fun v33 M34 =>
  opt (binA .add .none x27 (.i 1)) fun v35 =>
  (b18_6 call nl lo n) x1 x2 x3 x6 x8 x25 x26 v35 M34)
  else (b18_4 call nl lo x1 x2 x3 x6 x8 M)
theorem t18_6 (call : CallT) (nl lo : Nat) : ∀ (n : Nat) (ρ : Rg) (M : MM), k18_6 call nl lo n ρ M = b18_6 call nl lo n (ρ 1) (ρ 2) (ρ 3) (ρ 6) (ρ 8) (ρ 25) (ρ 26) (ρ 27) M
  | 0, ρ, M => rfl
  | n + 1, ρ, M => by
    have h : ∀ (zb z0 : Rg → MM → Option (AV × MM)), execC call modeF lo nl p18_24 zb (fun i ρ M => if i = 1 then z0 ρ M else noE i ρ M) (endK cf18.res) ρ M = (opt (binA .lss .none (ρ 27) (ρ 26)) fun v19 =>
    isB v19 fun c20 => if c20 then (opt (ixsA 2 (ρ 25) (ρ 27)) fun v22 =>
    opt (ldnA (lk M) 2 v22) fun v23 =>
    upK M M.nx fun M25 =>
    opt (setcA 0 2 (.agg [.str ⟨⟨[]⟩⟩, .d (.sl [] 0)]) v23) fun v27 =>
    opt (fldA 0 2 true v27) fun v30 =>
    opt (puA call (lk M25) 25 [v30]) fun v31 =>
    opt (ixsA 1 (ρ 8) (ρ 27)) fun v32 =>
    bnd (istep call modeF false lo (.top M25.nx) M25.nx (.st 1 (.k v32) (.k v31)) [] M25) fun v33 M34 =>
    opt (binA .add .none (ρ 27) (.i 1)) fun v35 =>
    zb (sF (sF (sF (sF (sF (sF (sF (sF (sF (sF (sF (sF (sF (sF ρ 28 v19) 29 (ρ 27)) 30 v22) 31 v23) 10 (.agg [.str ⟨⟨[]⟩⟩, .d (.sl [] 0)])) 9 (ρ 27)) 10 v27) 32 (ρ 8)) 33 (ρ 27)) 34 v30) 35 v31) 36 v32) 37 v35) 27 v35) M34)
    else (z0 (sF ρ 28 v19) M)) := by intros; kernel_rfl
    refine (h (k18_6 call nl lo n) (k18_4 call nl lo)).trans ?_
    unfold b18_6; simp only [(t18_4 call nl lo), (t18_6 call nl lo n)] <;> (show _ = _; kernel_rfl)
def k18_5 (call : CallT) (nl lo : Nat) : Rg → MM → Option (AV × MM) := (execC call modeF lo nl p18_27 (k18_4 call nl lo) noE (endK cf18.res))
abbrev b18_5 (call : CallT) (nl lo : Nat) (x1 x2 x3 x6 x8 : AV) (M : MM) : Option (AV × MM) :=
  opt (lenA x2) fun v17 =>
  b18_6 call nl lo nl x1 x2 x3 x6 x8 x2 v17 (.i 0) M
theorem t18_5 (call : CallT) (nl lo : Nat) (ρ : Rg) (M : MM) : k18_5 call nl lo ρ M = b18_5 call nl lo (ρ 1) (ρ 2) (ρ 3) (ρ 6) (ρ 8) M := by
  have h : k18_5 call nl lo ρ M = (opt (lenA (ρ 2)) fun v17 =>
  k18_6 call nl lo nl (sF (sF (sF ρ 25 (ρ 2)) 26 v17) 27 (.i 0)) M) := by kernel_rfl
  rw [h]
  unfold b18_5; simp only [(t18_6 call nl lo nl)] <;> (show _ = _; kernel_rfl)
def k18_3 (call : CallT) (nl lo : Nat) : Rg → MM → Option (AV × MM) := (execC call modeF lo nl p18_36 (endK cf18.res) noE (endK cf18.res))
abbrev b18_3 (call : CallT) (nl lo : Nat) (x1 x2 x3 x6 x8 : AV) (M : MM) : Option (AV × MM) :=
  b18_5 call nl lo x1 x2 x3 x6 x8 M
theorem t18_3 (call : CallT) (nl lo : Nat) (ρ : Rg) (M : MM) : k18_3 call nl lo ρ M = b18_3 call nl lo (ρ 1) (ρ 2) (ρ 3) (ρ 6) (ρ 8) M := by
  have h : k18_3 call nl lo ρ M = (k18_5 call nl lo ρ M) := execC_seq call modeF lo nl p18_27 p18_35 (endK cf18.res) noE (endK cf18.res) ρ M
  rw [h]
  unfold b18_3; simp only [(t18_5 call nl lo)] <;> (show _ = _; kernel_rfl)
def k18_7 (call : CallT) (nl lo : Nat) : Rg → MM → Option (AV × MM) := (execC call modeF lo nl p18_13 (k18_3 call nl lo) noE (endK cf18.res))
abbrev b18_7 (call : CallT) (nl lo : Nat) (x1 x2 x3 x6 : AV) (M : MM) : Option (AV × MM) :=
  opt (lenA x2) fun v2 =>
  bnd (istep call modeF false lo (.top M.nx) M.nx (.mkslice 3 1 8 [.i 0] (.k v2) (.k v2)) [] M) fun v3 M4 =>
  b18_3 call nl lo x1 x2 x3 x6 v3 M4
theorem t18_7 (call : CallT) (nl lo : Nat) (ρ : Rg) (M : MM) : k18_7 call nl lo ρ M = b18_7 call nl lo (ρ 1) (ρ 2) (ρ 3) (ρ 6) M := by
  have h : ∀ (z0 : Rg → MM → Option (AV × MM)), (execC call modeF lo nl p18_13 z0 noE (endK cf18.res)) ρ M = (opt (lenA (ρ 2)) fun v2 =>
  bnd (istep call modeF false lo (.top M.nx) M.nx (.mkslice 3 1 8 [.i 0] (.k v2) (.k v2)) [] M) fun v3 M4 =>
  z0 (sF (sF (sF (sF ρ 22 (ρ 2)) 23 v2) 24 v3) 8 v3) M4) := by intros; kernel_rfl
  refine (h (k18_3 call nl lo)).trans ?_
  unfold b18_7; simp only [(t18_3 call nl lo)] <;> (show _ = _; kernel_rfl)
def k18_2 (call : CallT) (nl lo : Nat) : Rg → MM → Option (AV × MM) := (execC call modeF lo nl p18_37 (endK cf18.res) noE (endK cf18.res))
abbrev b18_2 (call : CallT) (nl lo : Nat) (x1 x2 x3 x6 : AV) (M : MM) : Option (AV × MM) :=
  b18_7 call nl lo x1 x2 x3 x6 M
theorem t18_2 (call : CallT) (nl lo : Nat) (ρ : Rg) (M : MM) : k18_2 call nl lo ρ M = b18_2 call nl lo (ρ 1) (ρ 2) (ρ 3) (ρ 6) M := by
  have h : k18_2 call nl lo ρ M = (k18_7 call nl lo ρ M) := execC_seq call modeF lo nl p18_13 p18_36 (endK cf18.res) noE (endK cf18.res) ρ M
  rw [h]
  unfold b18_2; simp only [(t18_7 call nl lo)] <;> (show _ = _; kernel_rfl)
def k18_8 (call : CallT) (nl lo : Nat) : Rg → MM → Option (AV × MM) := (execC call modeF lo nl p18_12 (k18_2 call nl lo) noE (endK cf18.res))
abbrev b18_8 (call : CallT) (nl lo : Nat) (x1 x2 x3 x6 : AV) (M : MM) : Option (AV × MM) :=
  opt (lenA x1) fun v2 =>
  opt (lenA x2) fun v4 =>
  opt (binA .neq .none v2 v4) fun v5 =>
  isB v5 fun c7 => if c7 then (opt ((fill [.str ⟨⟨[]⟩⟩, .d (.sl [] 0)] []).map .agg) fun v8 =>
  opt (setcA 0 2 x6 v8) fun v9 =>
  opt (resL [locA 2 true v9, some (.i 9)]) fun r => some (r, M))
  else (opt (puA call (lk M) 45 [x1]) fun v12 =>
  isB v12 fun c14 => if c14 then (opt ((fill [.str ⟨⟨[]⟩⟩, .d (.sl [] 0)] []).map .agg) fun v15 =>
  opt (setcA 0 2 x6 v15) fun v16 =>
  opt (resL [locA 2 true v16, some (.i 5)]) fun r => some (r, M))
  else (b18_2 call nl lo x1 x2 x3 x6 M))
theorem t18_8 (call : CallT) (nl lo : Nat) (ρ : Rg) (M : MM) : k18_8 call nl lo ρ M = b18_8 call nl lo (ρ 1) (ρ 2) (ρ 3) (ρ 6) M := by
  have h : ∀ (z0 : Rg → MM → Option (AV × MM)), (execC call modeF lo nl p18_12 z0 noE (endK cf18.res)) ρ M = (opt (lenA (ρ 1)) fun v2 =>
  opt (lenA (ρ 2)) fun v4 =>
  opt (binA .neq .none v2 v4) fun v5 =>
  isB v5 fun c7 => if c7 then (opt ((fill [.str ⟨⟨[]⟩⟩, .d (.sl [] 0)] []).map .agg) fun v8 =>
  opt (setcA 0 2 (ρ 6) v8) fun v9 =>
  opt (resL [locA 2 true v9, some (.i 9)]) fun r => some (r, M))
  else (opt (puA call (lk M) 45 [(ρ 1)]) fun v12 =>
  isB v12 fun c14 => if c14 then (opt ((fill [.str ⟨⟨[]⟩⟩, .d (.sl [] 0)] []).map .agg) fun v15 =>
  opt (setcA 0 2 (ρ 6) v15) fun v16 =>
  opt (resL [locA 2 true v16, some (.i 5)]) fun r => some (r, M))
  else (z0 (sF (sF (sF (sF (sF (sF (sF (sF (sF ρ 12 (ρ 1)) 13 v2) 14 (ρ 2)) 15 v4) 16 v5) 11 v5) 19 (ρ 1)) 20 v12) 18 v12) M))) := by intros; kernel_rfl
  refine (h (k18_2 call nl lo)).trans ?_
  unfold b18_8; simp only [(t18_2 call nl lo)] <;> (show _ = _; kernel_rfl)
def k18_1 (call : CallT) (nl lo : Nat) : Rg → MM → Option (AV × MM) := (execC call modeF lo nl p18_38 (endK cf18.res) noE (endK cf18.res))
abbrev b18_1 (call : CallT) (nl lo : Nat) (x1 x2 x3 x6 : AV) (M : MM) : Option (AV × MM) :=
  b18_8 call nl lo x1 x2 x3 x6 M
theorem t18_1 (call : CallT) (nl lo : Nat) (ρ : Rg) (M : MM) : k18_1 call nl lo ρ M = b18_1 call nl lo (ρ 1) (ρ 2) (ρ 3) (ρ 6) M := by
  have h : k18_1 call nl lo ρ M = (k18_8 call nl lo ρ M) := execC_seq call modeF lo nl p18_12 p18_37 (endK cf18.res) noE (endK cf18.res) ρ M
  rw [h]
  unfold b18_1; simp only [(t18_8 call nl lo)] <;> (show _ = _; kernel_rfl)
def k18_9 (call : CallT) (nl lo : Nat) : Rg → MM → Option (AV × MM) := (execC call modeF lo nl p18_1 (k18_1 call nl lo) noE (endK cf18.res))
abbrev b18_9 (call : CallT) (nl lo : Nat) (x0 x1 x2 : AV) (M : MM) : Option (AV × MM) :=
  opt (aggA x0) fun v1 =>
  upK M M.nx fun M2 =>
  upK M2 M2.nx fun M4 =>
  b18_1 call nl lo x1 x2 v1 (.agg [.str ⟨⟨[]⟩⟩, .d (.sl [] 0)]) M4
theorem t18_9 (call : CallT) (nl lo : Nat) (ρ : Rg) (M : MM) : k18_9 call nl lo ρ M = b18_9 call nl lo (ρ 0) (ρ 1) (ρ 2) M := by
  have h : ∀ (z0 : Rg → MM → Option (AV × MM)), (execC call modeF lo nl p18_1 z0 noE (endK cf18.res)) ρ M = (opt (aggA (ρ 0)) fun v1 =>
  upK M M.nx fun M2 =>
  upK M2 M2.nx fun M4 =>
  z0 (sF (sF (sF ρ 3 v1) 6 (.agg [.str ⟨⟨[]⟩⟩, .d (.sl [] 0)])) 7 (.i 0)) M4) := by intros; kernel_rfl
  refine (h (k18_1 call nl lo)).trans ?_
  unfold b18_9; simp only [(t18_1 call nl lo)] <;> (show _ = _; kernel_rfl)
def k18_0 (call : CallT) (nl lo : Nat) : Rg → MM → Option (AV × MM) := (execC call modeF lo nl p18_39 (endK cf18.res) noE (endK cf18.res))
abbrev b18_0 (call : CallT) (nl lo : Nat) (x0 x1 x2 : AV) (M : MM) : Option (AV × MM) :=
  b18_9 call nl lo x0 x1 x2 M
theorem t18_0 (call : CallT) (nl lo : Nat) (ρ : Rg) (M : MM) : k18_0 call nl lo ρ M = b18_0 call nl lo (ρ 0) (ρ 1) (ρ 2) M := by
  have h : k18_0 call nl lo ρ M = (k18_9 call nl lo ρ M) := execC_seq call modeF lo nl p18_1 p18_38 (endK cf18.res) noE (endK cf18.res) ρ M
  rw [h]
  unfold b18_0; simp only [(t18_9 call nl lo)] <;> (show _ = _; kernel_rfl)
def k18_10 (call : CallT) (nl lo : Nat) : Rg → MM → Option (AV × MM) := (execC call modeF lo nl p18_0 (k18_0 call nl lo) noE (endK cf18.res))
abbrev b18_10 (call : CallT) (nl lo : Nat) (x0 x1 x2 : AV) (M : MM) : Option (AV × MM) :=
  b18_0 call nl lo x0 x1 x2 M
theorem t18_10 (call : CallT) (nl lo : Nat) (ρ : Rg) (M : MM) : k18_10 call nl lo ρ M = b18_10 call nl lo (ρ 0) (ρ 1) (ρ 2) M := by
  have h : ∀ (z0 : Rg → MM → Option (AV × MM)), (execC call modeF lo nl p18_0 z0 noE (endK cf18.res)) ρ M = (z0 (sF (sF (sF ρ 3 (.tup [])) 6 (.tup [])) 10 (.tup [])) M) := by intros; kernel_rfl
  refine (h (k18_0 call nl lo)).trans ?_
  unfold b18_10; simp only [(t18_0 call nl lo)] <;> (show _ = _; kernel_rfl)
def s18 (call : CallT) (nl lo : Nat) (a0 a1 a2 : AV) (M : MM) : Option (AV × MM) :=
  b18_10 call nl lo a0 a1 a2 M
theorem e18 (call : CallT) (nl lo : Nat) (a0 a1 a2 : AV) (M : MM) : execC call modeF lo nl cf18.body (endK cf18.res) noE (endK cf18.res) (aF [a0, a1, a2]) M = s18 call nl lo a0 a1 a2 M := by
  have h : execC call modeF lo nl cf18.body (endK cf18.res) noE (endK cf18.res) (aF [a0, a1, a2]) M = (k18_10 call nl lo (aF [a0, a1, a2]) M) := execC_seq call modeF lo nl p18_0 p18_39 (endK cf18.res) noE (endK cf18.res) (aF [a0, a1, a2]) M
  refine h.trans ?_
  unfold s18; simp only [(t18_10 call nl lo)] <;> (show _ = _; kernel_rfl)
theorem q18 {call : CallT} (hc : Lim G call) (lo : Nat) (a0 a1 a2 : AV) (M : MM) : call 18 [a0, a1, a2] lo M = s18 call G.nl lo a0 a1 a2 M :=
  (hc.flow (cf := cf18) rfl w18 [a0, a1, a2] lo M).trans (e18 call G.nl lo a0 a1 a2 M)

/-! ### function 22 -/
theorem w22 : wfK cf22.nt cf22.body = true := by kernel_rfl
def k22_5 (call : CallT) (nl lo : Nat) : Rg → MM → Option (AV × MM) := (execC call modeF lo nl p22_24 (endK cf22.res) noE (endK cf22.res))
abbrev b22_5 (call : CallT) (nl lo : Nat) (x9 : AV) (M : MM) : Option (AV × MM) :=
  some (.tup [x9, (.bool true)], M)
theorem t22_5 (call : CallT) (nl lo : Nat) (ρ : Rg) (M : MM) : k22_5 call nl lo ρ M = b22_5 call nl lo (ρ 9) M := by
  kernel_rfl
def k22_7 (call : CallT) (nl lo : Nat) (n : Nat) : Rg → MM → Option (AV × MM) := iterC (fun k ρ M => execC call modeF lo nl p22_19 k (fun i ρ M => if i = 0 then (k22_5 call nl lo) ρ M else noE i ρ M) (endK cf22.res) ρ M) n
def b22_7 (call : CallT) (nl lo : Nat) : Nat → AV → AV → AV → AV → MM → Option (AV × MM)
  | 0, _, _, _, _, _ => none
  | n + 1, x9, x29, x30, x31, M =>
  opt (binA .lss .none x31 x30) fun v7 =>
  isB v7 fun c8 => if c8 then (opt (ixsA 1 x29 x31) fun v9 =>
  opt (ld1A (lk M) v9) fun v10 =>
  opt (nilcA v10) fun v14 =>
  opt (ldnA (lk M) 2 v14) fun v15 =>
  opt (puA call (lk M) 55 [v15]) fun v16 =>
  opt (wslA 1 (fill [.str ⟨⟨[]⟩⟩, .d (.sl [] 0)] [(0, 2, v16)])) fun v17 =>
  upK M M.nx fun M18 =>
  opt (wappA M18.mem (.top M18.nx) 2 40 x9 v17) fun v19 =>
  upK M18 M18.nx fun M20 =>
  opt (binA .add .none x31 (.i 1)) fun v22 =>
  (b22_7 call nl lo n) v19 x29 x30 v22 M20)
  else (b22_5 call nl lo x9 M)
theorem t22_7 (call : CallT) (nl lo : Nat) : ∀ (n : Nat) (ρ : Rg) (M : MM), k22_7 call nl lo n ρ M = b22_7 call nl lo n (ρ 9) (ρ 29) (ρ 30) (ρ 31) M
  | 0, ρ, M => rfl
  | n + 1, ρ, M => by
    have h : ∀ (zb z0 : Rg → MM → Option (AV × MM)), execC call modeF lo nl p22_19 zb (fun i ρ M => if i = 0 then z0 ρ M else noE i ρ M) (endK cf22.res) ρ M = (opt (binA .lss .none (ρ 31) (ρ 30)) fun v7 =>
    isB v7 fun c8 => if c8 then (opt (ixsA 1 (ρ 29) (ρ 31)) fun v9 =>
    opt (ld1A (lk M) v9) fun v10 =>
    opt (nilcA v10) fun v14 =>
    opt (ldnA (lk M) 2 v14) fun v15 =>
    opt (puA call (lk M) 55 [v15]) fun v16 =>
    opt (wslA 1 (fill [.str ⟨⟨[]⟩⟩, .d (.sl [] 0)] [(0, 2, v16)])) fun v17 =>
    upK M M.nx fun M18 =>
    opt (wappA M18.mem (.top M18.nx) 2 40 (ρ 9) v17) fun v19 =>
    upK M18 M18.nx fun M20 =>
    opt (binA .add .none (ρ 31) (.i 1)) fun v22 =>
    zb (sF (sF (sF (sF (sF (sF (sF (sF (sF (sF (sF (sF (sF (sF ρ 32 v7) 33 v9) 34 v10) 11 v10) 35 (ρ 9)) 36 v10) 37 v14) 38 v15) 39 v16) 40 v17) 41 v19) 9 v19) 42 v22) 31 v22) M20)
    else (z0 (sF ρ 32 v7) M)) := by intros; kernel_rfl
    refine (h (k22_7 call nl lo n) (k22_5 call nl lo)).trans ?_
    unfold b22_7; simp only [(t22_5 call nl lo), (t22_7 call nl lo n)] <;> (show _ = _; kernel_rfl)
def k22_6 (call : CallT) (nl lo : Nat) : Rg → MM → Option (AV × MM) := (execC call modeF lo nl p22_22 (k22_5 call nl lo) noE (endK cf22.res))
abbrev b22_6 (call : CallT) (nl lo : Nat) (x8 x9 : AV) (M : MM) : Option (AV × MM) :=
  opt (lenA x8) fun v5 =>
  b22_7 call nl lo nl x9 x8 v5 (.i 0) M
theorem t22_6 (call : CallT) (nl lo : Nat) (ρ : Rg) (M : MM) : k22_6 call nl lo ρ M = b22_6 call nl lo (ρ 8) (ρ 9) M := by
  have h : k22_6 call nl lo ρ M = (opt (lenA (ρ 8)) fun v5 =>
  k22_7 call nl lo nl (sF (sF (sF ρ 29 (ρ 8)) 30 v5) 31 (.i 0)) M) := by kernel_rfl
  rw [h]
  unfold b22_6; simp only [(t22_7 call nl lo nl)] <;> (show _ = _; kernel_rfl)
def k22_4 (call : CallT) (nl lo : Nat) : Rg → MM → Option (AV × MM) := (execC call modeF lo nl p22_25 (endK cf22.res) noE (endK cf22.res))
abbrev b22_4 (call : CallT) (nl lo : Nat) (x8 x9 : AV) (M : MM) : Option (AV × MM) :=
  b22_6 call nl lo x8 x9 M
theorem t22_4 (call : CallT) (nl lo : Nat) (ρ : Rg) (M : MM) : k22_4 call nl lo ρ M = b22_4 call nl lo (ρ 8) (ρ 9) M := by
  have h : k22_4 call nl lo ρ M = (k22_6 call nl lo ρ M) := execC_seq call modeF lo nl p22_22 p22_24 (endK cf22.res) noE (endK cf22.res) ρ M
  rw [h]
  unfold b22_4; simp only [(t22_6 call nl lo)] <;> (show _ = _; kernel_rfl)
def k22_8 (call : CallT) (nl lo : Nat) : Rg → MM → Option (AV × MM) := (execC call modeF lo nl p22_8 (k22_4 call nl lo) noE (endK cf22.res))
abbrev b22_8 (call : CallT) (nl lo : Nat) (x8 : AV) (M : MM) : Option (AV × MM) :=
  b22_4 call nl lo x8 (.d (.sl [] 0)) M
theorem t22_8 (call : CallT) (nl lo : Nat) (ρ : Rg) (M : MM) : k22_8 call nl lo ρ M = b22_8 call nl lo (ρ 8) M := by
  have h : ∀ (z0 : Rg → MM → Option (AV × MM)), (execC call modeF lo nl p22_8 z0 noE (endK cf22.res)) ρ M = (z0 (sF ρ 9 (.d (.sl [] 0))) M) := by intros; kernel_rfl
  refine (h (k22_4 call nl lo)).trans ?_
  unfold b22_8; simp only [(t22_4 call nl lo)] <;> (show _ = _; kernel_rfl)
def k22_3 (call : CallT) (nl lo : Nat) : Rg → MM → Option (AV × MM) := (execC call modeF lo nl p22_26 (endK cf22.res) noE (endK cf22.res))
abbrev b22_3 (call : CallT) (nl lo : Nat) (x8 : AV) (M : MM) : Option (AV × MM) :=
  b22_8 call nl lo x8 M
theorem t22_3 (call : CallT) (nl lo : Nat) (ρ : Rg) (M : MM) : k22_3 call nl lo ρ M = b22_3 call nl lo (ρ 8) M := by
  have h : k22_3 call nl lo ρ M = (k22_8 call nl lo ρ M) := execC_seq call modeF lo nl p22_8 p22_25 (endK cf22.res) noE (endK cf22.res) ρ M
  rw [h]
  unfold b22_3; simp only [(t22_8 call nl lo)] <;> (show _ = _; kernel_rfl)
def k22_9 (call : CallT) (nl lo : Nat) : Rg → MM → Option (AV × MM) := (execC call modeF lo nl p22_7 (k22_3 call nl lo) noE (endK cf22.res))
abbrev b22_9 (call : CallT) (nl lo : Nat) (x2 x3 x4 x8 : AV) (M : MM) : Option (AV × MM) :=
  opt (puA call (lk M) 45 [x2]) fun v2 =>
  opt (gdp v2 false (fldA 0 2 true x3)) fun v4 =>
  opt (gdp v2 false (fldA 0 2 true x4)) fun v5 =>
  opt (gdp v2 false (some x2)) fun v6 =>
  opt (gdp v2 false (some x8)) fun v7 =>
  bnd (gd v2 false M (call 53 [v4, v5, v6, v7] lo M)) fun v8 M9 =>
  opt (gdp v2 false (unA .not v8)) fun v10 =>
  opt (pickA v2 (.bool true) v10) fun v11 =>
  opt (gdp v11 false (some x8)) fun v13 =>
  bnd (gd v11 false M9 (call 54 [v13, .nil] lo M9)) fun v14 M15 =>
  opt (pickA v11 (.bool true) v14) fun v16 =>
  isB v16 fun c17 => if c17 then (some (.tup [(.d (.sl [] 0)), (.bool false)], M15))
  else (b22_3 call nl lo x8 M15)
theorem t22_9 (call : CallT) (nl lo : Nat) (ρ : Rg) (M : MM) : k22_9 call nl lo ρ M = b22_9 call nl lo (ρ 2) (ρ 3) (ρ 4) (ρ 8) M := by
  have h : ∀ (z0 : Rg → MM → Option (AV × MM)), (execC call modeF lo nl p22_7 z0 noE (endK cf22.res)) ρ M = (opt (puA call (lk M) 45 [(ρ 2)]) fun v2 =>
  opt (gdp v2 false (fldA 0 2 true (ρ 3))) fun v4 =>
  opt (gdp v2 false (fldA 0 2 true (ρ 4))) fun v5 =>
  opt (gdp v2 false (some (ρ 2))) fun v6 =>
  opt (gdp v2 false (some (ρ 8))) fun v7 =>
  bnd (gd v2 false M (call 53 [v4, v5, v6, v7] lo M)) fun v8 M9 =>
  opt (gdp v2 false (unA .not v8)) fun v10 =>
  opt (pickA v2 (.bool true) v10) fun v11 =>
  opt (gdp v11 false (some (ρ 8))) fun v13 =>
  bnd (gd v11 false M9 (call 54 [v13, .nil] lo M9)) fun v14 M15 =>
  opt (pickA v11 (.bool true) v14) fun v16 =>
  isB v16 fun c17 => if c17 then (some (.tup [(.d (.sl [] 0)), (.bool false)], M15))
  else (z0 (sF (sF (sF (sF (sF (sF (sF (sF (sF (sF (sF (sF (sF (sF ρ 15 (ρ 2)) 16 v2) 17 v2) 18 v4) 19 v5) 20 v6) 21 v7) 22 v8) 23 v10) 24 v11) 25 v11) 26 v13) 27 v14) 28 v16) M15)) := by intros; kernel_rfl
  refine (h (k22_3 call nl lo)).trans ?_
  unfold b22_9; simp only [(t22_3 call nl lo)] <;> (show _ = _; kernel_rfl)
def k22_2 (call : CallT) (nl lo : Nat) : Rg → MM → Option (AV × MM) := (execC call modeF lo nl p22_27 (endK cf22.res) noE (endK cf22.res))
abbrev b22_2 (call : CallT) (nl lo : Nat) (x2 x3 x4 x8 : AV) (M : MM) : Option (AV × MM) :=
  b22_9 call nl lo x2 x3 x4 x8 M
theorem t22_2 (call : CallT) (nl lo : Nat) (ρ : Rg) (M : MM) : k22_2 call nl lo ρ M = b22_2 call nl lo (ρ 2) (ρ 3) (ρ 4) (ρ 8) M := by
  have h : k22_2 call nl lo ρ M = (k22_9 call nl lo ρ M) := execC_seq call modeF lo nl p22_7 p22_26 (endK cf22.res) noE (endK cf22.res) ρ M
  rw [h]
  unfold b22_2; simp only [(t22_9 call nl lo)] <;> (show _ = _; kernel_rfl)
def k22_10 (call : CallT) (nl lo : Nat) : Rg → MM → Option (AV × MM) := (execC call modeF lo nl p22_2 (k22_2 call nl lo) noE (endK cf22.res))
abbrev b22_10 (call : CallT) (nl lo : Nat) (x2 x3 x4 : AV) (M : MM) : Option (AV × MM) :=
  opt (lenA x2) fun v2 =>
  bnd (istep call modeF false lo (.top M.nx) M.nx (.mkslice 70 1 8 [.nil] (.k v2) (.k v2)) [] M) fun v3 M4 =>
  b22_2 call nl lo x2 x3 x4 v3 M4
theorem t22_10 (call : CallT) (nl lo : Nat) (ρ : Rg) (M : MM) : k22_10 call nl lo ρ M = b22_10 call nl lo (ρ 2) (ρ 3) (ρ 4) M := by
  have h : ∀ (z0 : Rg → MM → Option (AV × MM)), (execC call modeF lo nl p22_2 z0 noE (endK cf22.res)) ρ M = (opt (lenA (ρ 2)) fun v2 =>
  bnd (istep call modeF false lo (.top M.nx) M.nx (.mkslice 70 1 8 [.nil] (.k v2) (.k v2)) [] M) fun v3 M4 =>
  z0 (sF (sF (sF (sF ρ 12 (ρ 2)) 13 v2) 14 v3) 8 v3) M4) := by intros; kernel_rfl
  refine (h (k22_2 call nl lo)).trans ?_
  unfold b22_10; simp only [(t22_2 call nl lo)] <;> (show _ = _; kernel_rfl)
def k22_1 (call : CallT) (nl lo : Nat) : Rg → MM → Option (AV × MM) := (execC call modeF lo nl p22_28 (endK cf22.res) noE (endK cf22.res))
abbrev b22_1 (call : CallT) (nl lo : Nat) (x2 x3 x4 : AV) (M : MM) : Option (AV × MM) :=
  b22_10 call nl lo x2 x3 x4 M
theorem t22_1 (call : CallT) (nl lo : Nat) (ρ : Rg) (M : MM) : k22_1 call nl lo ρ M = b22_1 call nl lo (ρ 2) (ρ 3) (ρ 4) M := by
  have h : k22_1 call nl lo ρ M = (k22_10 call nl lo ρ M) := execC_seq call modeF lo nl p22_2 p22_27 (endK cf22.res) noE (endK cf22.res) ρ M
  rw [h]
  unfold b22_1; simp only [(t22_10 call nl lo)] <;> (show _ = _; kernel_rfl)
def k22_11 (call : CallT) (nl lo : Nat) : Rg → MM → Option (AV × MM) := (execC call modeF lo nl p22_1 (k22_1 call nl lo) noE (endK cf22.res))
abbrev b22_11 (call : CallT) (nl lo : Nat) (x0 x1 x2 : AV) (M : MM) : Option (AV × MM) :=
  opt (aggA x0) fun v1 =>
  upK M M.nx fun M2 =>
  opt (aggA x1) fun v3 =>
  upK M2 M2.nx fun M4 =>
  b22_1 call nl lo x2 v1 v3 M4
theorem t22_11 (call : CallT) (nl lo : Nat) (ρ : Rg) (M : MM) : k22_11 call nl lo ρ M = b22_11 call nl lo (ρ 0) (ρ 1) (ρ 2) M := by
  have h : ∀ (z0 : Rg → MM → Option (AV × MM)), (execC call modeF lo nl p22_1 z0 noE (endK cf22.res)) ρ M = (opt (aggA (ρ 0)) fun v1 =>
  upK M M.nx fun M2 =>
  opt (aggA (ρ 1)) fun v3 =>
  upK M2 M2.nx fun M4 =>
  z0 (sF (sF (sF (sF ρ 3 v1) 4 v3) 6 (.d (.sl [] 0))) 7 (.bool false)) M4) := by intros; kernel_rfl
  refine (h (k22_1 call nl lo)).trans ?_
  unfold b22_11; simp only [(t22_1 call nl lo)] <;> (show _ = _; kernel_rfl)
def k22_0 (call : CallT) (nl lo : Nat) : Rg → MM → Option (AV × MM) := (execC call modeF lo nl p22_29 (endK cf22.res) noE (endK cf22.res))
abbrev b22_0 (call : CallT) (nl lo : Nat) (x0 x1 x2 : AV) (M : MM) : Option (AV × MM) :=
  b22_11 call nl lo x0 x1 x2 M
theorem t22_0 (call : CallT) (nl lo : Nat) (ρ : Rg) (M : MM) : k22_0 call nl lo ρ M = b22_0 call nl lo (ρ 0) (ρ 1) (ρ 2) M := by
  have h : k22_0 call nl lo ρ M = (k22_11 call nl lo ρ M) := execC_seq call modeF lo nl p22_1 p22_28 (endK cf22.res) noE (endK cf22.res) ρ M
  rw [h]
  unfold b22_0; simp only [(t22_11 call nl lo)] <;> (show _ = _; kernel_rfl)
def k22_12 (call : CallT) (nl lo : Nat) : Rg → MM → Option (AV × MM) := (execC call modeF lo nl p22_0 (k22_0 call nl lo) noE (endK cf22.res))
abbrev b22_12 (call : CallT) (nl lo : Nat) (x0 x1 x2 : AV) (M : MM) : Option (AV × MM) :=
  b22_0 call nl lo x0 x1 x2 M
theorem t22_12 (call : CallT) (nl lo : Nat) (ρ : Rg) (M : MM) : k22_12 call nl lo ρ M = b22_12 call nl lo (ρ 0) (ρ 1) (ρ 2) M := by
  have h : ∀ (z0 : Rg → MM → Option (AV × MM)), (execC call modeF lo nl p22_0 z0 noE (endK cf22.res)) ρ M = (z0 (sF (sF ρ 3 (.tup [])) 4 (.tup [])) M) := by intros; kernel_rfl
  refine (h (k22_0 call nl lo)).trans ?_
  unfold b22_12; simp only [(t22_0 call nl lo)] <;> (show _ = _; kernel_rfl)
def s22 (call : CallT) (nl lo : Nat) (a0 a1 a2 : AV) (M : MM) : Option (AV × MM) :=
  b22_12 call nl lo a0 a1 a2 M
theorem e22 (call : CallT) (nl lo : Nat) (a0 a1 a2 : AV) (M : MM) : execC call modeF lo nl cf22.body (endK cf22.res) noE (endK cf22.res) (aF [a0, a1, a2]) M = s22 call nl lo a0 a1 a2 M := by
  have h : execC call modeF lo nl cf22.body (endK cf22.res) noE (endK cf22.res) (aF [a0, a1, a2]) M = (k22_12 call nl lo (aF [a0, a1, a2]) M) := execC_seq call modeF lo nl p22_0 p22_29 (endK cf22.res) noE (endK cf22.res) (aF [a0, a1, a2]) M
  refine h.trans ?_
  unfold s22; simp only [(t22_12 call nl lo)] <;> (show _ = _; kernel_rfl)
theorem q22 {call : CallT} (hc : Lim G call) (lo : Nat) (a0 a1 a2 : AV) (M : MM) : call 22 [a0, a1, a2] lo M = s22 call G.nl lo a0 a1 a2 M :=
  (hc.flow (cf := cf22) rfl w22 [a0, a1, a2] lo M).trans (e22 call G.nl lo a0 a1 a2 M)

/-! ### function 24 -/
theorem w24 : wfK cf24.nt cf24.body = true := by kernel_rfl
def k24_3 (call : CallT) (nl lo : Nat) : Rg → MM → Option (AV × MM) := (execC call modeF lo nl p24_18 (endK cf24.res) noE (endK cf24.res))
abbrev b24_3 (call : CallT) (nl lo : Nat) (x3 : AV) (M : MM) : Option (AV × MM) :=
  opt (binA .add .none (.i 1) x3) fun v2 =>
  some (v2, M)
theorem t24_3 (call : CallT) (nl lo : Nat) (ρ : Rg) (M : MM) : k24_3 call nl lo ρ M = b24_3 call nl lo (ρ 3) M := by
  kernel_rfl
def k24_5 (call : CallT) (nl lo : Nat) (n : Nat) : Rg → MM → Option (AV × MM) := iterC (fun k ρ M => execC call modeF lo nl p24_13 k (fun i ρ M => if i = 0 then (k24_3 call nl lo) ρ M else noE i ρ M) (endK cf24.res) ρ M) n
def b24_5 (call : CallT) (nl lo : Nat) : Nat → AV → AV → AV → AV → MM → Option (AV × MM)
  | 0, _, _, _, _, _ => none
  | n + 1, x3, x7, x8, x9, M =>
  opt (binA .lss .none x9 x8) fun v8 =>
  isB v8 fun c9 => if c9 then (opt (ixsA 2 x7 x9) fun v10 =>
  opt (ldnA (lk M) 2 v10) fun v11 =>
  upK M M.nx fun M13 =>
  opt (setcA 0 2 (.agg [.str ⟨⟨[]⟩⟩, .d (.sl [] 0)]) v11) fun v14 =>
  opt (fldA 0 2 true v14) fun v16 =>
  opt (puA call (lk M13) 24 [v16]) fun v17 =>
  opt (mmaxA true x3 v17) fun v18 =>
  opt (binA .add .none x9 (.i 1)) fun v20 =>
  (b24_5 call nl lo n) v18 x7 x8 v20 M13)
  else (b24_3 call nl lo x3 M)
theorem t24_5 (call : CallT) (nl lo : Nat) : ∀ (n : Nat) (ρ : Rg) (M : MM), k24_5 call nl lo n ρ M = b24_5 call nl lo n (ρ 3) (ρ 7) (ρ 8) (ρ 9) M
  | 0, ρ, M => rfl
  | n + 1, ρ, M => by
    have h : ∀ (zb z0 : Rg → MM → Option (AV × MM)), execC call modeF lo nl p24_13 zb (fun i ρ M => if i = 0 then z0 ρ M else noE i ρ M) (endK cf24.res) ρ M = (opt (binA .lss .none (ρ 9) (ρ 8)) fun v8 =>
    isB v8 fun c9 => if c9 then (opt (ixsA 2 (ρ 7) (ρ 9)) fun v10 =>
    opt (ldnA (lk M) 2 v10) fun v11 =>
    upK M M.nx fun M13 =>
    opt (setcA 0 2 (.agg [.str ⟨⟨[]⟩⟩, .d (.sl [] 0)]) v11) fun v14 =>
    opt (fldA 0 2 true v14) fun v16 =>
    opt (puA call (lk M13) 24 [v16]) fun v17 =>
    opt (mmaxA true (ρ 3) v17) fun v18 =>
    opt (binA .add .none (ρ 9) (.i 1)) fun v20 =>
    zb (sF (sF (sF (sF (sF (sF (sF (sF (sF (sF (sF (sF ρ 10 v8) 11 v10) 12 v11) 5 (.agg [.str ⟨⟨[]⟩⟩, .d (.sl [] 0)])) 5 v14) 13 (ρ 3)) 14 v16) 15 v17) 16 v18) 3 v18) 17 v20) 9 v20) M13)
    else (z0 (sF ρ 10 v8) M)) := by intros; kernel_rfl
    refine (h (k24_5 call nl lo n) (k24_3 call nl lo)).trans ?_
    unfold b24_5; simp only [(t24_3 call nl lo), (t24_5 call nl lo n)] <;> (show _ = _; kernel_rfl)
def k24_4 (call : CallT) (nl lo : Nat) : Rg → MM → Option (AV × MM) := (execC call modeF lo nl p24_16 (k24_3 call nl lo) noE (endK cf24.res))
abbrev b24_4 (call : CallT) (nl lo : Nat) (x1 x3 : AV) (M : MM) : Option (AV × MM) :=
  opt (fldA 0 0 true x1) fun v4 =>
  opt (fldA 1 1 false x1) fun v5 =>
  opt (lenA v5) fun v6 =>
  b24_5 call nl lo nl x3 v5 v6 (.i 0) M
theorem t24_4 (call : CallT) (nl lo : Nat) (ρ : Rg) (M : MM) : k24_4 call nl lo ρ M = b24_4 call nl lo (ρ 1) (ρ 3) M := by
  have h : k24_4 call nl lo ρ M = (opt (fldA 0 0 true (ρ 1)) fun v4 =>
  opt (fldA 1 1 false (ρ 1)) fun v5 =>
  opt (lenA v5) fun v6 =>
  k24_5 call nl lo nl (sF (sF (sF (sF ρ 6 v4) 7 v5) 8 v6) 9 (.i 0)) M) := by kernel_rfl
  rw [h]
  unfold b24_4; simp only [(t24_5 call nl lo nl)] <;> (show _ = _; kernel_rfl)
def k24_2 (call : CallT) (nl lo : Nat) : Rg → MM → Option (AV × MM) := (execC call modeF lo nl p24_19 (endK cf24.res) noE (endK cf24.res))
abbrev b24_2 (call : CallT) (nl lo : Nat) (x1 x3 : AV) (M : MM) : Option (AV × MM) :=
  b24_4 call nl lo x1 x3 M
theorem t24_2 (call : CallT) (nl lo : Nat) (ρ : Rg) (M : MM) : k24_2 call nl lo ρ M = b24_2 call nl lo (ρ 1) (ρ 3) M := by
  have h : k24_2 call nl lo ρ M = (k24_4 call nl lo ρ M) := execC_seq call modeF lo nl p24_16 p24_18 (endK cf24.res) noE (endK cf24.res) ρ M
  rw [h]
  unfold b24_2; simp only [(t24_4 call nl lo)] <;> (show _ = _; kernel_rfl)
def k24_6 (call : CallT) (nl lo : Nat) : Rg → MM → Option (AV × MM) := (execC call modeF lo nl p24_2 (k24_2 call nl lo) noE (endK cf24.res))
abbrev b24_6 (call : CallT) (nl lo : Nat) (x1 : AV) (M : MM) : Option (AV × MM) :=
  b24_2 call nl lo x1 (.i 0) M
theorem t24_6 (call : CallT) (nl lo : Nat) (ρ : Rg) (M : MM) : k24_6 call nl lo ρ M = b24_6 call nl lo (ρ 1) M := by
  have h : ∀ (z0 : Rg → MM → Option (AV × MM)), (execC call modeF lo nl p24_2 z0 noE (endK cf24.res)) ρ M = (z0 (sF ρ 3 (.i 0)) M) := by intros; kernel_rfl
  refine (h (k24_2 call nl lo)).trans ?_
  unfold b24_6; simp only [(t24_2 call nl lo)] <;> (show _ = _; kernel_rfl)
def k24_1 (call : CallT) (nl lo : Nat) : Rg → MM → Option (AV × MM) := (execC call modeF lo nl p24_20 (endK cf24.res) noE (endK cf24.res))
abbrev b24_1 (call : CallT) (nl lo : Nat) (x1 : AV) (M : MM) : Option (AV × MM) :=
  b24_6 call nl lo x1 M
theorem t24_1 (call : CallT) (nl lo : Nat) (ρ : Rg) (M : MM) : k24_1 call nl lo ρ M = b24_1 call nl lo (ρ 1) M := by
  have h : k24_1 call nl lo ρ M = (k24_6 call nl lo ρ M) := execC_seq call modeF lo nl p24_2 p24_19 (endK cf24.res) noE (endK cf24.res) ρ M
  rw [h]
  unfold b24_1; simp only [(t24_6 call nl lo)] <;> (show _ = _; kernel_rfl)
def k24_7 (call : CallT) (nl lo : Nat) : Rg → MM → Option (AV × MM) := (execC call modeF lo nl p24_1 (k24_1 call nl lo) noE (endK cf24.res))
abbrev b24_7 (call : CallT) (nl lo : Nat) (x0 : AV) (M : MM) : Option (AV × MM) :=
  opt (aggA x0) fun v1 =>
  upK M M.nx fun M2 =>
  b24_1 call nl lo v1 M2
theorem t24_7 (call : CallT) (nl lo : Nat) (ρ : Rg) (M : MM) : k24_7 call nl lo ρ M = b24_7 call nl lo (ρ 0) M := by
  have h : ∀ (z0 : Rg → MM → Option (AV × MM)), (execC call modeF lo nl p24_1 z0 noE (endK cf24.res)) ρ M = (opt (aggA (ρ 0)) fun v1 =>
  upK M M.nx fun M2 =>
  z0 (sF (sF ρ 1 v1) 2 (.i 0)) M2) := by intros; kernel_rfl
  refine (h (k24_1 call nl lo)).trans ?_
  unfold b24_7; simp only [(t24_1 call nl lo)] <;> (show _ = _; kernel_rfl)
def k24_0 (call : CallT) (nl lo : Nat) : Rg → MM → Option (AV × MM) := (execC call modeF lo nl p24_21 (endK cf24.res) noE (endK cf24.res))
abbrev b24_0 (call : CallT) (nl lo : Nat) (x0 : AV) (M : MM) : Option (AV × MM) :=
  b24_7 call nl lo x0 M
theorem t24_0 (call : CallT) (nl lo : Nat) (ρ : Rg) (M : MM) : k24_0 call nl lo ρ M = b24_0 call nl lo (ρ 0) M := by
  have h : k24_0 call nl lo ρ M = (k24_7 call nl lo ρ M) := execC_seq call modeF lo nl p24_1 p24_20 (endK cf24.res) noE (endK cf24.res) ρ M
  rw [h]
  unfold b24_0; simp only [(t24_7 call nl lo)] <;> (show _ = _; kernel_rfl)
def k24_8 (call : CallT) (nl lo : Nat) : Rg → MM → Option (AV × MM) := (execC call modeF lo nl p24_0 (k24_0 call nl lo) noE (endK cf24.res))
abbrev b24_8 (call : CallT) (nl lo : Nat) (x0 : AV) (M : MM) : Option (AV × MM) :=
  b24_0 call nl lo x0 M
theorem t24_8 (call : CallT) (nl lo : Nat) (ρ : Rg) (M : MM) : k24_8 call nl lo ρ M = b24_8 call nl lo (ρ 0) M := by
  have h : ∀ (z0 : Rg → MM → Option (AV × MM)), (execC call modeF lo nl p24_0 z0 noE (endK cf24.res)) ρ M = (z0 (sF (sF ρ 1 (.tup [])) 5 (.tup [])) M) := by intros; kernel_rfl
  refine (h (k24_0 call nl lo)).trans ?_
  unfold b24_8; simp only [(t24_0 call nl lo)] <;> (show _ = _; kernel_rfl)
def s24 (call : CallT) (nl lo : Nat) (a0 : AV) (M : MM) : Option (AV × MM) :=
  b24_8 call nl lo a0 M
theorem e24 (call : CallT) (nl lo : Nat) (a0 : AV) (M : MM) : execC call modeF lo nl cf24.body (endK cf24.res) noE (endK cf24.res) (aF [a0]) M = s24 call nl lo a0 M := by
  have h : execC call modeF lo nl cf24.body (endK cf24.res) noE (endK cf24.res) (aF [a0]) M = (k24_8 call nl lo (aF [a0]) M) := execC_seq call modeF lo nl p24_0 p24_21 (endK cf24.res) noE (endK cf24.res) (aF [a0]) M
  refine h.trans ?_
  unfold s24; simp only [(t24_8 call nl lo)] <;> (show _ = _; kernel_rfl)
theorem q24 {call : CallT} (hc : Lim G call) (lo : Nat) (a0 : AV) (M : MM) : call 24 [a0] lo M = s24 call G.nl lo a0 M :=
  (hc.flow (cf := cf24) rfl w24 [a0] lo M).trans (e24 call G.nl lo a0 M)

/-! ### function 25 -/
theorem w25 : wfK cf25.nt cf25.body = true := by kernel_rfl
def k25_3 (call : CallT) (nl lo : Nat) : Rg → MM → Option (AV × MM) := (execC call modeF lo nl p25_18 (endK cf25.res) noE (endK cf25.res))
abbrev b25_3 (call : CallT) (nl lo : Nat) (x3 : AV) (M : MM) : Option (AV × MM) :=
  some (x3, M)
theorem t25_3 (call : CallT) (nl lo : Nat) (ρ : Rg) (M : MM) : k25_3 call nl lo ρ M = b25_3 call nl lo (ρ 3) M := by
  kernel_rfl
def k25_5 (call : CallT) (nl lo : Nat) (n : Nat) : Rg → MM → Option (AV × MM) := iterC (fun k ρ M => execC call modeF lo nl p25_13 k (fun i ρ M => if i = 0 then (k25_3 call nl lo) ρ M else noE i ρ M) (endK cf25.res) ρ M) n
def b25_5 (call : CallT) (nl lo : Nat) : Nat → AV → AV → AV → AV → MM → Option (AV × MM)
  | 0, _, _, _, _, _ => none
  | n + 1, x3, x7, x8, x9, M =>
  opt (binA .lss .none x9 x8) fun v7 =>
  isB v7 fun c8 => if c8 then (opt (ixsA 2 x7 x9) fun v9 =>
  opt (ldnA (lk M) 2 v9) fun v10 =>
  upK M M.nx fun M12 =>
  opt (setcA 0 2 (.agg [.str ⟨⟨[]⟩⟩, .d (.sl [] 0)]) v10) fun v13 =>
  opt (fldA 0 2 true v13) fun v15 =>
  opt (puA call (lk M12) 25 [v15]) fun v16 =>
  opt (binA .add .none x3 v16) fun v17 =>
  opt (binA .add .none x9 (.i 1)) fun v19 =>
  (b25_5 call nl lo n) v17 x7 x8 v19 M12)
  else (b25_3 call nl lo x3 M)
theorem t25_5 (call : CallT) (nl lo : Nat) : ∀ (n : Nat) (ρ : Rg) (M : MM), k25_5 call nl lo n ρ M = b25_5 call nl lo n (ρ 3) (ρ 7) (ρ 8) (ρ 9) M
  | 0, ρ, M => rfl
  | n + 1, ρ, M => by
    have h : ∀ (zb z0 : Rg → MM → Option (AV × MM)), execC call modeF lo nl p25_13 zb (fun i ρ M => if i = 0 then z0 ρ M else noE i ρ M) (endK cf25.res) ρ M = (opt (binA .lss .none (ρ 9) (ρ 8)) fun v7 =>
    isB v7 fun c8 => if c8 then (opt (ixsA 2 (ρ 7) (ρ 9)) fun v9 =>
    opt (ldnA (lk M) 2 v9) fun v10 =>
    upK M M.nx fun M12 =>
    opt (setcA 0 2 (.agg [.str ⟨⟨[]⟩⟩, .d (.sl [] 0)]) v10) fun v13 =>
    opt (fldA 0 2 true v13) fun v15 =>
    opt (puA call (lk M12) 25 [v15]) fun v16 =>
    opt (binA .add .none (ρ 3) v16) fun v17 =>
    opt (binA .add .none (ρ 9) (.i 1)) fun v19 =>
    zb (sF (sF (sF (sF (sF (sF (sF (sF (sF (sF (sF (sF ρ 10 v7) 11 v9) 12 v10) 5 (.agg [.str ⟨⟨[]⟩⟩, .d (.sl [] 0)])) 5 v13) 13 (ρ 3)) 14 v15) 15 v16) 16 v17) 3 v17) 17 v19) 9 v19) M12)
    else (z0 (sF ρ 10 v7) M)) := by intros; kernel_rfl
    refine (h (k25_5 call nl lo n) (k25_3 call nl lo)).trans ?_
    unfold b25_5; simp only [(t25_3 call nl lo), (t25_5 call nl lo n)] <;> (show _ = _; kernel_rfl)
def k25_4 (call : CallT) (nl lo : Nat) : Rg → MM → Option (AV × MM) := (execC call modeF lo nl p25_16 (k25_3 call nl lo) noE (endK cf25.res))
abbrev b25_4 (call : CallT) (nl lo : Nat) (x1 x3 : AV) (M : MM) : Option (AV × MM) :=
  opt (fldA 0 0 true x1) fun v3 =>
  opt (fldA 1 1 false x1) fun v4 =>
  opt (lenA v4) fun v5 =>
  b25_5 call nl lo nl x3 v4 v5 (.i 0) M
theorem t25_4 (call : CallT) (nl lo : Nat) (ρ : Rg) (M : MM) : k25_4 call nl lo ρ M = b25_4 call nl lo (ρ 1) (ρ 3) M := by
  have h : k25_4 call nl lo ρ M = (opt (fldA 0 0 true (ρ 1)) fun v3 =>
  opt (fldA 1 1 false (ρ 1)) fun v4 =>
  opt (lenA v4) fun v5 =>
  k25_5 call nl lo nl (sF (sF (sF (sF ρ 6 v3) 7 v4) 8 v5) 9 (.i 0)) M) := by kernel_rfl
  rw [h]
  unfold b25_4; simp only [(t25_5 call nl lo nl)] <;> (show _ = _; kernel_rfl)
def k25_2 (call : CallT) (nl lo : Nat) : Rg → MM → Option (AV × MM) := (execC call modeF lo nl p25_19 (endK cf25.res) noE (endK cf25.res))
abbrev b25_2 (call : CallT) (nl lo : Nat) (x1 x3 : AV) (M : MM) : Option (AV × MM) :=
  b25_4 call nl lo x1 x3 M
theorem t25_2 (call : CallT) (nl lo : Nat) (ρ : Rg) (M : MM) : k25_2 call nl lo ρ M = b25_2 call nl lo (ρ 1) (ρ 3) M := by
  have h : k25_2 call nl lo ρ M = (k25_4 call nl lo ρ M) := execC_seq call modeF lo nl p25_16 p25_18 (endK cf25.res) noE (endK cf25.res) ρ M
  rw [h]
  unfold b25_2; simp only [(t25_4 call nl lo)] <;> (show _ = _; kernel_rfl)
def k25_6 (call : CallT) (nl lo : Nat) : Rg → MM → Option (AV × MM) := (execC call modeF lo nl p25_2 (k25_2 call nl lo) noE (endK cf25.res))
abbrev b25_6 (call : CallT) (nl lo : Nat) (x1 : AV) (M : MM) : Option (AV × MM) :=
  b25_2 call nl lo x1 (.i 1) M
theorem t25_6 (call : CallT) (nl lo : Nat) (ρ : Rg) (M : MM) : k25_6 call nl lo ρ M = b25_6 call nl lo (ρ 1) M := by
  have h : ∀ (z0 : Rg → MM → Option (AV × MM)), (execC call modeF lo nl p25_2 z0 noE (endK cf25.res)) ρ M = (z0 (sF ρ 3 (.i 1)) M) := by intros; kernel_rfl
  refine (h (k25_2 call nl lo)).trans ?_
  unfold b25_6; simp only [(t25_2 call nl lo)] <;> (show _ = _; kernel_rfl)
def k25_1 (call : CallT) (nl lo : Nat) : Rg → MM → Option (AV × MM) := (execC call modeF lo nl p25_20 (endK cf25.res) noE (endK cf25.res))
abbrev b25_1 (call : CallT) (nl lo : Nat) (x1 : AV) (M : MM) : Option (AV × MM) :=
  b25_6 call nl lo x1 M
theorem t25_1 (call : CallT) (nl lo : Nat) (ρ : Rg) (M : MM) : k25_1 call nl lo ρ M = b25_1 call nl lo (ρ 1) M := by
  have h : k25_1 call nl lo ρ M = (k25_6 call nl lo ρ M) := execC_seq call modeF lo nl p25_2 p25_19 (endK cf25.res) noE (endK cf25.res) ρ M
  rw [h]
  unfold b25_1; simp only [(t25_6 call nl lo)] <;> (show _ = _; kernel_rfl)
def k25_7 (call : CallT) (nl lo : Nat) : Rg → MM → Option (AV × MM) := (execC call modeF lo nl p25_1 (k25_1 call nl lo) noE (endK cf25.res))
abbrev b25_7 (call : CallT) (nl lo : Nat) (x0 : AV) (M : MM) : Option (AV × MM) :=
  opt (aggA x0) fun v1 =>
  upK M M.nx fun M2 =>
  b25_1 call nl lo v1 M2
theorem t25_7 (call : CallT) (nl lo : Nat) (ρ : Rg) (M : MM) : k25_7 call nl lo ρ M = b25_7 call nl lo (ρ 0) M := by
  have h : ∀ (z0 : Rg → MM → Option (AV × MM)), (execC call modeF lo nl p25_1 z0 noE (endK cf25.res)) ρ M = (opt (aggA (ρ 0)) fun v1 =>
  upK M M.nx fun M2 =>
  z0 (sF (sF ρ 1 v1) 2 (.i 0)) M2) := by intros; kernel_rfl
  refine (h (k25_1 call nl lo)).trans ?_
  unfold b25_7; simp only [(t25_1 call nl lo)] <;> (show _ = _; kernel_rfl)
def k25_0 (call : CallT) (nl lo : Nat) : Rg → MM → Option (AV × MM) := (execC call modeF lo nl p25_21 (endK cf25.res) noE (endK cf25.res))
abbrev b25_0 (call : CallT) (nl lo : Nat) (x0 : AV) (M : MM) : Option (AV × MM) :=
  b25_7 call nl lo x0 M
theorem t25_0 (call : CallT) (nl lo : Nat) (ρ : Rg) (M : MM) : k25_0 call nl lo ρ M = b25_0 call nl lo (ρ 0) M := by
  have h : k25_0 call nl lo ρ M = (k25_7 call nl lo ρ M) := execC_seq call modeF lo nl p25_1 p25_20 (endK cf25.res) noE (endK cf25.res) ρ M
  rw [h]
  unfold b25_0; simp only [(t25_7 call nl lo)] <;> (show _ = _; kernel_rfl)
def k25_8 (call : CallT) (nl lo : Nat) : Rg → MM → Option (AV × MM) := (execC call modeF lo nl p25_0 (k25_0 call nl lo) noE (endK cf25.res))
abbrev b25_8 (call : CallT) (nl lo : Nat) (x0 : AV) (M : MM) : Option (AV × MM) :=
  b25_0 call nl lo x0 M
theorem t25_8 (call : CallT) (nl lo : Nat) (ρ : Rg) (M : MM) : k25_8 call nl lo ρ M = b25_8 call nl lo (ρ 0) M := by
  have h : ∀ (z0 : Rg → MM → Option (AV × MM)), (execC call modeF lo nl p25_0 z0 noE (endK cf25.res)) ρ M = (z0 (sF (sF ρ 1 (.tup [])) 5 (.tup [])) M) := by intros; kernel_rfl
  refine (h (k25_0 call nl lo)).trans ?_
  unfold b25_8; simp only [(t25_0 call nl lo)] <;> (show _ = _; kernel_rfl)
def s25 (call : CallT) (nl lo : Nat) (a0 : AV) (M : MM) : Option (AV × MM) :=
  b25_8 call nl lo a0 M
theorem e25 (call : CallT) (nl lo : Nat) (a0 : AV) (M : MM) : execC call modeF lo nl cf25.body (endK cf25.res) noE (endK cf25.res) (aF [a0]) M = s25 call nl lo a0 M := by
  have h : execC call modeF lo nl cf25.body (endK cf25.res) noE (endK cf25.res) (aF [a0]) M = (k25_8 call nl lo (aF [a0]) M) := execC_seq call modeF lo nl p25_0 p25_21 (endK cf25.res) noE (endK cf25.res) (aF [a0]) M
  refine h.trans ?_
  unfold s25; simp only [(t25_8 call nl lo)] <;> (show _ = _; kernel_rfl)
theorem q25 {call : CallT} (hc : Lim G call) (lo : Nat) (a0 : AV) (M : MM) : call 25 [a0] lo M = s25 call G.nl lo a0 M :=
  (hc.flow (cf := cf25) rfl w25 [a0] lo M).trans (e25 call G.nl lo a0 M)

/-! ### function 26 -/
theorem w26 : wfK cf26.nt cf26.body = true := by kernel_rfl
def s26 (call : CallT) (nl lo : Nat) (a0 : AV) (M : MM) : Option (AV × MM) :=
  opt (aggA a0) fun v2 =>
  upK M M.nx fun M3 =>
  opt (fldA 0 2 true v2) fun v5 =>
  bnd (call 57 [(.d (.sl [] 0)), v5] lo M3) fun v6 M7 =>
  some (v6, M7)
theorem e26 (call : CallT) (nl lo : Nat) (a0 : AV) (M : MM) : execC call modeF lo nl cf26.body (endK cf26.res) noE (endK cf26.res) (aF [a0]) M = s26 call nl lo a0 M := by
  kernel_rfl
theorem q26 {call : CallT} (hc : Lim G call) (lo : Nat) (a0 : AV) (M : MM) : call 26 [a0] lo M = s26 call G.nl lo a0 M :=
  (hc.flow (cf := cf26) rfl w26 [a0] lo M).trans (e26 call G.nl lo a0 M)

/-! ### function 27 -/
theorem w27 : wfK cf27.nt cf27.body = true := by kernel_rfl
def s27 (call : CallT) (nl lo : Nat) (a0 : AV) (M : MM) : Option (AV × MM) :=
  opt (aggA a0) fun v2 =>
  upK M M.nx fun M3 =>
  opt (fldA 0 0 true v2) fun v5 =>
  opt (fldA 0 1 false v2) fun v6 =>
  opt (puA call (lk M3) 58 [v6]) fun v7 =>
  opt (unA .not v7) fun v8 =>
  opt (gdp v8 true (fldA 0 0 true v2)) fun v10 =>
  opt (gdp v8 true (fldA 1 1 false v2)) fun v11 =>
  bnd (gd v8 true M3 (call 59 [v11, (.fn 60 [] [])] lo M3)) fun v12 M13 =>
  opt (gdp v8 true (unA .not v12)) fun v14 =>
  opt (pickA v8 v14 (.bool false)) fun v15 =>
  some (v15, M13)
theorem e27 (call : CallT) (nl lo : Nat) (a0 : AV) (M : MM) : execC call modeF lo nl cf27.body (endK cf27.res) noE (endK cf27.res) (aF [a0]) M = s27 call nl lo a0 M := by
  kernel_rfl
theorem q27 {call : CallT} (hc : Lim G call) (lo : Nat) (a0 : AV) (M : MM) : call 27 [a0] lo M = s27 call G.nl lo a0 M :=
  (hc.flow (cf := cf27) rfl w27 [a0] lo M).trans (e27 call G.nl lo a0 M)

/-! ### function 37 -/
theorem w37 : wfK cf37.nt cf37.body = true := by kernel_rfl
def s37 (call : CallT) (nl lo : Nat) (a0 : AV) (M : MM) : Option (AV × MM) :=
  opt (binA .eql .none a0 (.str ⟨⟨[73, 110, 116]⟩⟩)) fun v3 =>
  opt (gdp v3 false (some a0)) fun v5 =>
  opt (gdp v3 false (binA .eql .none v5 (.str ⟨⟨[66, 121, 116, 101]⟩⟩))) fun v6 =>
  opt (pickA v3 (.bool true) v6) fun v7 =>
  opt (gdp v7 false (some a0)) fun v9 =>
  opt (gdp v7 false (binA .eql .none v9 (.str ⟨⟨[66, 111, 111, 108]⟩⟩))) fun v10 =>
  opt (pickA v7 (.bool true) v10) fun v11 =>
  opt (gdp v11 false (some a0)) fun v13 =>
  opt (gdp v11 false (binA .eql .none v13 (.str ⟨⟨[65, 114, 114, 97, 121]⟩⟩))) fun v14 =>
  opt (pickA v11 (.bool true) v14) fun v15 =>
  some (v15, M)
theorem e37 (call : CallT) (nl lo : Nat) (a0 : AV) (M : MM) : execC call modeF lo nl cf37.body (endK cf37.res) noE (endK cf37.res) (aF [a0]) M = s37 call nl lo a0 M := by
  kernel_rfl
theorem q37 {call : CallT} (hc : Lim G call) (lo : Nat) (a0 : AV) (M : MM) : call 37 [a0] lo M = s37 call G.nl lo a0 M :=
  (hc.flow (cf := cf37) rfl w37 [a0] lo M).trans (e37 call G.nl lo a0 M)

/-! ### function 41 -/
theorem w41 : wfK cf41.nt cf41.body = true := by kernel_rfl
def k41_3 (call : CallT) (nl lo : Nat) : Rg → MM → Option (AV × MM) := (execC call modeF lo nl p41_28 (endK cf41.res) noE (endK cf41.res))
abbrev b41_3 (call : CallT) (nl lo : Nat) (M : MM) : Option (AV × MM) :=
  some ((.bool true), M)
theorem t41_3 (call : CallT) (nl lo : Nat) (ρ : Rg) (M : MM) : k41_3 call nl lo ρ M = b41_3 call nl lo M := by
  kernel_rfl
def k41_5 (call : CallT) (nl lo : Nat) (n : Nat) : Rg → MM → Option (AV × MM) := iterC (fun k ρ M => execC call modeF lo nl p41_23 k (fun i ρ M => if i = 0 then (k41_3 call nl lo) ρ M else noE i ρ M) (endK cf41.res) ρ M) n
def b41_5 (call : CallT) (nl lo : Nat) : Nat → AV → AV → AV → AV → AV → MM → Option (AV × MM)
  | 0, _, _, _, _, _, _ => none
  | n + 1, x1, x2, x15, x16, x17, M =>
  opt (binA .lss .none x17 x16) fun v5 =>
  isB v5 fun c6 => if c6 then (opt (ixsA 2 x15 x17) fun v8 =>
  opt (ldnA (lk M) 2 v8) fun v9 =>
  upK M M.nx fun M11 =>
  opt (setcA 0 2 (.agg [.str ⟨⟨[]⟩⟩, .d (.sl [] 0)]) v9) fun v13 =>
  opt (ixsA 2 x1 x17) fun v16 =>
  opt (ldnA (lk M11) 2 v16) fun v17 =>
  upK M11 M11.nx fun M19 =>
  opt (setcA 0 2 (.agg [.str ⟨⟨[]⟩⟩, .d (.sl [] 0)]) v17) fun v20 =>
  opt (fldA 0 2 true v13) fun v22 =>
  opt (fldA 0 2 true v20) fun v23 =>
  bnd (istep call modeF false lo (.top M19.nx) M19.nx (.callw [57] (.k x2) [(.k v22), (.k v23)]) [] M19) fun v24 M25 =>
  opt (unA .not v24) fun v26 =>
  isB v26 fun c27 => if c27 then (some ((.bool false), M25))
  else (opt (binA .add .none x17 (.i 1)) fun v29 =>
  (b41_5 call nl lo n) x1 x2 x15 x16 v29 M25))
  else (b41_3 call nl lo M)
theorem t41_5 (call : CallT) (nl lo : Nat) : ∀ (n : Nat) (ρ : Rg) (M : MM), k41_5 call nl lo n ρ M = b41_5 call nl lo n (ρ 1) (ρ 2) (ρ 15) (ρ 16) (ρ 17) M
  | 0, ρ, M => rfl
  | n + 1, ρ, M => by
    have h : ∀ (zb z0 : Rg → MM → Option (AV × MM)), execC call modeF lo nl p41_23 zb (fun i ρ M => if i = 0 then z0 ρ M else noE i ρ M) (endK cf41.res) ρ M = (opt (binA .lss .none (ρ 17) (ρ 16)) fun v5 =>
    isB v5 fun c6 => if c6 then (opt (ixsA 2 (ρ 15) (ρ 17)) fun v8 =>
    opt (ldnA (lk M) 2 v8) fun v9 =>
    upK M M.nx fun M11 =>
    opt (setcA 0 2 (.agg [.str ⟨⟨[]⟩⟩, .d (.sl [] 0)]) v9) fun v13 =>
    opt (ixsA 2 (ρ 1) (ρ 17)) fun v16 =>
    opt (ldnA (lk M11) 2 v16) fun v17 =>
    upK M11 M11.nx fun M19 =>
    opt (setcA 0 2 (.agg [.str ⟨⟨[]⟩⟩, .d (.sl [] 0)]) v17) fun v20 =>
    opt (fldA 0 2 true v13) fun v22 =>
    opt (fldA 0 2 true v20) fun v23 =>
    bnd (istep call modeF false lo (.top M19.nx) M19.nx (.callw [57] (.k (ρ 2)) [(.k v22), (.k v23)]) [] M19) fun v24 M25 =>
    opt (unA .not v24) fun v26 =>
    isB v26 fun c27 => if c27 then (some ((.bool false), M25))
    else (opt (binA .add .none (ρ 17) (.i 1)) fun v29 =>
    zb (sF (sF (sF (sF (sF (sF (sF (sF (sF (sF (sF (sF (sF (sF (sF (sF (sF (sF (sF (sF ρ 18 v5) 19 (ρ 17)) 20 v8) 21 v9) 8 (.agg [.str ⟨⟨[]⟩⟩, .d (.sl [] 0)])) 7 (ρ 17)) 8 v13) 22 (ρ 1)) 23 (ρ 17)) 24 v16) 25 v17) 9 (.agg [.str ⟨⟨[]⟩⟩, .d (.sl [] 0)])) 9 v20) 26 (ρ 2)) 27 v22) 28 v23) 29 v24) 30 v26) 31 v29) 17 v29) M25))
    else (z0 (sF ρ 18 v5) M)) := by intros; kernel_rfl
    refine (h (k41_5 call nl lo n) (k41_3 call nl lo)).trans ?_
    unfold b41_5; simp only [(t41_3 call nl lo), (t41_5 call nl lo n)] <;> (show _ = _; kernel_rfl)
def k41_4 (call : CallT) (nl lo : Nat) : Rg → MM → Option (AV × MM) := (execC call modeF lo nl p41_26 (k41_3 call nl lo) noE (endK cf41.res))
abbrev b41_4 (call : CallT) (nl lo : Nat) (x0 x1 x2 : AV) (M : MM) : Option (AV × MM) :=
  opt (lenA x0) fun v3 =>
  b41_5 call nl lo nl x1 x2 x0 v3 (.i 0) M
theorem t41_4 (call : CallT) (nl lo : Nat) (ρ : Rg) (M : MM) : k41_4 call nl lo ρ M = b41_4 call nl lo (ρ 0) (ρ 1) (ρ 2) M := by
  have h : k41_4 call nl lo ρ M = (opt (lenA (ρ 0)) fun v3 =>
  k41_5 call nl lo nl (sF (sF (sF ρ 15 (ρ 0)) 16 v3) 17 (.i 0)) M) := by kernel_rfl
  rw [h]
  unfold b41_4; simp only [(t41_5 call nl lo nl)] <;> (show _ = _; kernel_rfl)
def k41_2 (call : CallT) (nl lo : Nat) : Rg → MM → Option (AV × MM) := (execC call modeF lo nl p41_29 (endK cf41.res) noE (endK cf41.res))
abbrev b41_2 (call : CallT) (nl lo : Nat) (x0 x1 x2 : AV) (M : MM) : Option (AV × MM) :=
  b41_4 call nl lo x0 x1 x2 M
theorem t41_2 (call : CallT) (nl lo : Nat) (ρ : Rg) (M : MM) : k41_2 call nl lo ρ M = b41_2 call nl lo (ρ 0) (ρ 1) (ρ 2) M := by
  have h : k41_2 call nl lo ρ M = (k41_4 call nl lo ρ M) := execC_seq call modeF lo nl p41_26 p41_28 (endK cf41.res) noE (endK cf41.res) ρ M
  rw [h]
  unfold b41_2; simp only [(t41_4 call nl lo)] <;> (show _ = _; kernel_rfl)
def k41_6 (call : CallT) (nl lo : Nat) : Rg → MM → Option (AV × MM) := (execC call modeF lo nl p41_6 (k41_2 call nl lo) noE (endK cf41.res))
abbrev b41_6 (call : CallT) (nl lo : Nat) (x0 x1 x2 : AV) (M : MM) : Option (AV × MM) :=
  opt (lenA x0) fun v2 =>
  opt (lenA x1) fun v4 =>
  opt (binA .neq .none v2 v4) fun v5 =>
  isB v5 fun c6 => if c6 then (some ((.bool false), M))
  else (b41_2 call nl lo x0 x1 x2 M)
theorem t41_6 (call : CallT) (nl lo : Nat) (ρ : Rg) (M : MM) : k41_6 call nl lo ρ M = b41_6 call nl lo (ρ 0) (ρ 1) (ρ 2) M := by
  have h : ∀ (z0 : Rg → MM → Option (AV × MM)), (execC call modeF lo nl p41_6 z0 noE (endK cf41.res)) ρ M = (opt (lenA (ρ 0)) fun v2 =>
  opt (lenA (ρ 1)) fun v4 =>
  opt (binA .neq .none v2 v4) fun v5 =>
  isB v5 fun c6 => if c6 then (some ((.bool false), M))
  else (z0 (sF (sF (sF (sF (sF ρ 10 (ρ 0)) 11 v2) 12 (ρ 1)) 13 v4) 14 v5) M)) := by intros; kernel_rfl
  refine (h (k41_2 call nl lo)).trans ?_
  unfold b41_6; simp only [(t41_2 call nl lo)] <;> (show _ = _; kernel_rfl)
def k41_1 (call : CallT) (nl lo : Nat) : Rg → MM → Option (AV × MM) := (execC call modeF lo nl p41_30 (endK cf41.res) noE (endK cf41.res))
abbrev b41_1 (call : CallT) (nl lo : Nat) (x0 x1 x2 : AV) (M : MM) : Option (AV × MM) :=
  b41_6 call nl lo x0 x1 x2 M
theorem t41_1 (call : CallT) (nl lo : Nat) (ρ : Rg) (M : MM) : k41_1 call nl lo ρ M = b41_1 call nl lo (ρ 0) (ρ 1) (ρ 2) M := by
  have h : k41_1 call nl lo ρ M = (k41_6 call nl lo ρ M) := execC_seq call modeF lo nl p41_6 p41_29 (endK cf41.res) noE (endK cf41.res) ρ M
  rw [h]
  unfold b41_1; simp only [(t41_6 call nl lo)] <;> (show _ = _; kernel_rfl)
def k41_7 (call : CallT) (nl lo : Nat) : Rg → MM → Option (AV × MM) := (execC call modeF lo nl p41_1 (k41_1 call nl lo) noE (endK cf41.res))
abbrev b41_7 (call : CallT) (nl lo : Nat) (x0 x1 x2 : AV) (M : MM) : Option (AV × MM) :=
  b41_1 call nl lo x0 x1 x2 M
theorem t41_7 (call : CallT) (nl lo : Nat) (ρ : Rg) (M : MM) : k41_7 call nl lo ρ M = b41_7 call nl lo (ρ 0) (ρ 1) (ρ 2) M := by
  have h : ∀ (z0 : Rg → MM → Option (AV × MM)), (execC call modeF lo nl p41_1 z0 noE (endK cf41.res)) ρ M = (z0 (sF ρ 6 (.bool false)) M) := by intros; kernel_rfl
  refine (h (k41_1 call nl lo)).trans ?_
  unfold b41_7; simp only [(t41_1 call nl lo)] <;> (show _ = _; kernel_rfl)
def k41_0 (call : CallT) (nl lo : Nat) : Rg → MM → Option (AV × MM) := (execC call modeF lo nl p41_31 (endK cf41.res) noE (endK cf41.res))
abbrev b41_0 (call : CallT) (nl lo : Nat) (x0 x1 x2 : AV) (M : MM) : Option (AV × MM) :=
  b41_7 call nl lo x0 x1 x2 M
theorem t41_0 (call : CallT) (nl lo : Nat) (ρ : Rg) (M : MM) : k41_0 call nl lo ρ M = b41_0 call nl lo (ρ 0) (ρ 1) (ρ 2) M := by
  have h : k41_0 call nl lo ρ M = (k41_7 call nl lo ρ M) := execC_seq call modeF lo nl p41_1 p41_30 (endK cf41.res) noE (endK cf41.res) ρ M
  rw [h]
  unfold b41_0; simp only [(t41_7 call nl lo)] <;> (show _ = _; kernel_rfl)
def k41_8 (call : CallT) (nl lo : Nat) : Rg → MM → Option (AV × MM) := (execC call modeF lo nl p41_0 (k41_0 call nl lo) noE (endK cf41.res))
abbrev b41_8 (call : CallT) (nl lo : Nat) (x0 x1 x2 : AV) (M : MM) : Option (AV × MM) :=
  b41_0 call nl lo x0 x1 x2 M
theorem t41_8 (call : CallT) (nl lo : Nat) (ρ : Rg) (M : MM) : k41_8 call nl lo ρ M = b41_8 call nl lo (ρ 0) (ρ 1) (ρ 2) M := by
  have h : ∀ (z0 : Rg → MM → Option (AV × MM)), (execC call modeF lo nl p41_0 z0 noE (endK cf41.res)) ρ M = (z0 (sF (sF ρ 8 (.tup [])) 9 (.tup [])) M) := by intros; kernel_rfl
  refine (h (k41_0 call nl lo)).trans ?_
  unfold b41_8; simp only [(t41_0 call nl lo)] <;> (show _ = _; kernel_rfl)
def s41 (call : CallT) (nl lo : Nat) (a0 a1 a2 : AV) (M : MM) : Option (AV × MM) :=
  b41_8 call nl lo a0 a1 a2 M
theorem e41 (call : CallT) (nl lo : Nat) (a0 a1 a2 : AV) (M : MM) : execC call modeF lo nl cf41.body (endK cf41.res) noE (endK cf41.res) (aF [a0, a1, a2]) M = s41 call nl lo a0 a1 a2 M := by
  have h : execC call modeF lo nl cf41.body (endK cf41.res) noE (endK cf41.res) (aF [a0, a1, a2]) M = (k41_8 call nl lo (aF [a0, a1, a2]) M) := execC_seq call modeF lo nl p41_0 p41_31 (endK cf41.res) noE (endK cf41.res) (aF [a0, a1, a2]) M
  refine h.trans ?_
  unfold s41; simp only [(t41_8 call nl lo)] <;> (show _ = _; kernel_rfl)
theorem q41 {call : CallT} (hc : Lim G call) (lo : Nat) (a0 a1 a2 : AV) (M : MM) : call 41 [a0, a1, a2] lo M = s41 call G.nl lo a0 a1 a2 M :=
  (hc.flow (cf := cf41) rfl w41 [a0, a1, a2] lo M).trans (e41 call G.nl lo a0 a1 a2 M)

/-! ### function 43 -/
theorem w43 : wfK cf43.nt cf43.body = true := by kernel_rfl
def s43 (call : CallT) (nl lo : Nat) (a0 : AV) (M : MM) : Option (AV × MM) :=
  bumpK M 11 fun M2 =>
  opt (nilcA a0) fun v4 =>
  opt (fadA 1 v4) fun v5 =>
  opt (ld1A (look M2.mem (.mk M.nx 11 7 true)) v5) fun v6 =>
  opt (nilcA a0) fun v8 =>
  opt (fadA 0 v8) fun v9 =>
  opt (ld1A (look M2.mem (.mk M.nx 11 112 true)) v9) fun v10 =>
  opt (lenA v10) fun v11 =>
  opt (binA .lss .none v6 v11) fun v12 =>
  some (v12, M2)
theorem e43 (call : CallT) (nl lo : Nat) (a0 : AV) (M : MM) : execC call modeF lo nl cf43.body (endK cf43.res) noE (endK cf43.res) (aF [a0]) M = s43 call nl lo a0 M := by
  kernel_rfl
theorem q43 {call : CallT} (hc : Lim G call) (lo : Nat) (a0 : AV) (M : MM) : call 43 [a0] lo M = s43 call G.nl lo a0 M :=
  (hc.flow (cf := cf43) rfl w43 [a0] lo M).trans (e43 call G.nl lo a0 M)

/-! ### function 44 -/
theorem w44 : wfK cf44.nt cf44.body = true := by kernel_rfl
def k44_4 (call : CallT) (nl lo : Nat) : Rg → MM → Option (AV × MM) := (execC call modeF lo nl p44_13 (endK cf44.res) noE (endK cf44.res))
abbrev b44_4 (call : CallT) (nl lo : Nat) (x0 : AV) (M : MM) : Option (AV × MM) :=
  some (x0, M)
theorem t44_4 (call : CallT) (nl lo : Nat) (ρ : Rg) (M : MM) : k44_4 call nl lo ρ M = b44_4 call nl lo (ρ 0) M := by
  kernel_rfl
def k44_5 (call : CallT) (nl lo : Nat) : Rg → MM → Option (AV × MM) := (execC call modeF lo nl p44_11 (k44_4 call nl lo) noE (endK cf44.res))
abbrev b44_5 (call : CallT) (nl lo : Nat) (x0 x1 : AV) (M : MM) : Option (AV × MM) :=
  opt (binA .lss .none x0 (.i 0)) fun v4 =>
  isB v4 fun c5 => if c5 then (opt (binA .add .none x0 x1) fun v8 =>
  b44_4 call nl lo v8 M)
  else (b44_4 call nl lo x0 M)
theorem t44_5 (call : CallT) (nl lo : Nat) (ρ : Rg) (M : MM) : k44_5 call nl lo ρ M = b44_5 call nl lo (ρ 0) (ρ 1) M := by
  have h : ∀ (z0 : Rg → MM → Option (AV × MM)), (execC call modeF lo nl p44_11 z0 noE (endK cf44.res)) ρ M = (opt (binA .lss .none (ρ 0) (.i 0)) fun v4 =>
  isB v4 fun c5 => if c5 then (opt (binA .add .none (ρ 0) (ρ 1)) fun v8 =>
  z0 (sF (sF (sF (sF (sF (sF ρ 10 (ρ 0)) 11 v4) 12 (ρ 0)) 13 (ρ 1)) 14 v8) 0 v8) M)
  else (z0 (sF (sF ρ 10 (ρ 0)) 11 v4) M)) := by intros; kernel_rfl
  refine (h (k44_4 call nl lo)).trans ?_
  unfold b44_5; simp only [(t44_4 call nl lo)] <;> (show _ = _; kernel_rfl)
def k44_3 (call : CallT) (nl lo : Nat) : Rg → MM → Option (AV × MM) := (execC call modeF lo nl p44_14 (endK cf44.res) noE (endK cf44.res))
abbrev b44_3 (call : CallT) (nl lo : Nat) (x0 x1 : AV) (M : MM) : Option (AV × MM) :=
  b44_5 call nl lo x0 x1 M
theorem t44_3 (call : CallT) (nl lo : Nat) (ρ : Rg) (M : MM) : k44_3 call nl lo ρ M = b44_3 call nl lo (ρ 0) (ρ 1) M := by
  have h : k44_3 call nl lo ρ M = (k44_5 call nl lo ρ M) := execC_seq call modeF lo nl p44_11 p44_13 (endK cf44.res) noE (endK cf44.res) ρ M
  rw [h]
  unfold b44_3; simp only [(t44_5 call nl lo)] <;> (show _ = _; kernel_rfl)
def k44_6 (call : CallT) (nl lo : Nat) : Rg → MM → Option (AV × MM) := (execC call modeF lo nl p44_7 (k44_3 call nl lo) noE (endK cf44.res))
abbrev b44_6 (call : CallT) (nl lo : Nat) (x0 x1 : AV) (M : MM) : Option (AV × MM) :=
  opt (binA .rem .none x0 x1) fun v3 =>
  b44_3 call nl lo v3 x1 M
theorem t44_6 (call : CallT) (nl lo : Nat) (ρ : Rg) (M : MM) : k44_6 call nl lo ρ M = b44_6 call nl lo (ρ 0) (ρ 1) M := by
  have h : ∀ (z0 : Rg → MM → Option (AV × MM)), (execC call modeF lo nl p44_7 z0 noE (endK cf44.res)) ρ M = (opt (binA .rem .none (ρ 0) (ρ 1)) fun v3 =>
  z0 (sF (sF (sF (sF ρ 7 (ρ 0)) 8 (ρ 1)) 9 v3) 0 v3) M) := by intros; kernel_rfl
  refine (h (k44_3 call nl lo)).trans ?_
  unfold b44_6; simp only [(t44_3 call nl lo)] <;> (show _ = _; kernel_rfl)
def k44_2 (call : CallT) (nl lo : Nat) : Rg → MM → Option (AV × MM) := (execC call modeF lo nl p44_15 (endK cf44.res) noE (endK cf44.res))
abbrev b44_2 (call : CallT) (nl lo : Nat) (x0 x1 : AV) (M : MM) : Option (AV × MM) :=
  b44_6 call nl lo x0 x1 M
theorem t44_2 (call : CallT) (nl lo : Nat) (ρ : Rg) (M : MM) : k44_2 call nl lo ρ M = b44_2 call nl lo (ρ 0) (ρ 1) M := by
  have h : k44_2 call nl lo ρ M = (k44_6 call nl lo ρ M) := execC_seq call modeF lo nl p44_7 p44_14 (endK cf44.res) noE (endK cf44.res) ρ M
  rw [h]
  unfold b44_2; simp only [(t44_6 call nl lo)] <;> (show _ = _; kernel_rfl)
def k44_7 (call : CallT) (nl lo : Nat) : Rg → MM → Option (AV × MM) := (execC call modeF lo nl p44_6 (k44_2 call nl lo) noE (endK cf44.res))
abbrev b44_7 (call : CallT) (nl lo : Nat) (x0 x1 : AV) (M : MM) : Option (AV × MM) :=
  opt (binA .lss .none x1 (.i 1)) fun v2 =>
  isB v2 fun c3 => if c3 then (some ((.i 0), M))
  else (b44_2 call nl lo x0 x1 M)
theorem t44_7 (call : CallT) (nl lo : Nat) (ρ : Rg) (M : MM) : k44_7 call nl lo ρ M = b44_7 call nl lo (ρ 0) (ρ 1) M := by
  have h : ∀ (z0 : Rg → MM → Option (AV × MM)), (execC call modeF lo nl p44_6 z0 noE (endK cf44.res)) ρ M = (opt (binA .lss .none (ρ 1) (.i 1)) fun v2 =>
  isB v2 fun c3 => if c3 then (some ((.i 0), M))
  else (z0 (sF (sF ρ 5 (ρ 1)) 6 v2) M)) := by intros; kernel_rfl
  refine (h (k44_2 call nl lo)).trans ?_
  unfold b44_7; simp only [(t44_2 call nl lo)] <;> (show _ = _; kernel_rfl)
def k44_1 (call : CallT) (nl lo : Nat) : Rg → MM → Option (AV × MM) := (execC call modeF lo nl p44_16 (endK cf44.res) noE (endK cf44.res))
abbrev b44_1 (call : CallT) (nl lo : Nat) (x0 x1 : AV) (M : MM) : Option (AV × MM) :=
  b44_7 call nl lo x0 x1 M
theorem t44_1 (call : CallT) (nl lo : Nat) (ρ : Rg) (M : MM) : k44_1 call nl lo ρ M = b44_1 call nl lo (ρ 0) (ρ 1) M := by
  have h : k44_1 call nl lo ρ M = (k44_7 call nl lo ρ M) := execC_seq call modeF lo nl p44_6 p44_15 (endK cf44.res) noE (endK cf44.res) ρ M
  rw [h]
  unfold b44_1; simp only [(t44_7 call nl lo)] <;> (show _ = _; kernel_rfl)
def k44_8 (call : CallT) (nl lo : Nat) : Rg → MM → Option (AV × MM) := (execC call modeF lo nl p44_1 (k44_1 call nl lo) noE (endK cf44.res))
abbrev b44_8 (call : CallT) (nl lo : Nat) (x0 x1 : AV) (M : MM) : Option (AV × MM) :=
  b44_1 call nl lo x0 x1 M
theorem t44_8 (call : CallT) (nl lo : Nat) (ρ : Rg) (M : MM) : k44_8 call nl lo ρ M = b44_8 call nl lo (ρ 0) (ρ 1) M := by
  have h : ∀ (z0 : Rg → MM → Option (AV × MM)), (execC call modeF lo nl p44_1 z0 noE (endK cf44.res)) ρ M = (z0 (sF ρ 4 (.i 0)) M) := by intros; kernel_rfl
  refine (h (k44_1 call nl lo)).trans ?_
  unfold b44_8; simp only [(t44_1 call nl lo)] <;> (show _ = _; kernel_rfl)
def k44_0 (call : CallT) (nl lo : Nat) : Rg → MM → Option (AV × MM) := (execC call modeF lo nl p44_17 (endK cf44.res) noE (endK cf44.res))
abbrev b44_0 (call : CallT) (nl lo : Nat) (x0 x1 : AV) (M : MM) : Option (AV × MM) :=
  b44_8 call nl lo x0 x1 M
theorem t44_0 (call : CallT) (nl lo : Nat) (ρ : Rg) (M : MM) : k44_0 call nl lo ρ M = b44_0 call nl lo (ρ 0) (ρ 1) M := by
  have h : k44_0 call nl lo ρ M = (k44_8 call nl lo ρ M) := execC_seq call modeF lo nl p44_1 p44_16 (endK cf44.res) noE (endK cf44.res) ρ M
  rw [h]
  unfold b44_0; simp only [(t44_8 call nl lo)] <;> (show _ = _; kernel_rfl)
def k44_9 (call : CallT) (nl lo : Nat) : Rg → MM → Option (AV × MM) := (execC call modeF lo nl p44_0 (k44_0 call nl lo) noE (endK cf44.res))
abbrev b44_9 (call : CallT) (nl lo : Nat) (x0 x1 : AV) (M : MM) : Option (AV × MM) :=
  b44_0 call nl lo x0 x1 M
theorem t44_9 (call : CallT) (nl lo : Nat) (ρ : Rg) (M : MM) : k44_9 call nl lo ρ M = b44_9 call nl lo (ρ 0) (ρ 1) M := by
  have h : ∀ (z0 : Rg → MM → Option (AV × MM)), (execC call modeF lo nl p44_0 z0 noE (endK cf44.res)) ρ M = (z0 ρ M) := by intros; kernel_rfl
  refine (h (k44_0 call nl lo)).trans ?_
  unfold b44_9; simp only [(t44_0 call nl lo)] <;> (show _ = _; kernel_rfl)
def s44 (call : CallT) (nl lo : Nat) (a0 a1 : AV) (M : MM) : Option (AV × MM) :=
  b44_9 call nl lo a0 a1 M
theorem e44 (call : CallT) (nl lo : Nat) (a0 a1 : AV) (M : MM) : execC call modeF lo nl cf44.body (endK cf44.res) noE (endK cf44.res) (aF [a0, a1]) M = s44 call nl lo a0 a1 M := by
  have h : execC call modeF lo nl cf44.body (endK cf44.res) noE (endK cf44.res) (aF [a0, a1]) M = (k44_9 call nl lo (aF [a0, a1]) M) := execC_seq call modeF lo nl p44_0 p44_17 (endK cf44.res) noE (endK cf44.res) (aF [a0, a1]) M
  refine h.trans ?_
  unfold s44; simp only [(t44_9 call nl lo)] <;> (show _ = _; kernel_rfl)
theorem q44 {call : CallT} (hc : Lim G call) (lo : Nat) (a0 a1 : AV) (M : MM) : call 44 [a0, a1] lo M = s44 call G.nl lo a0 a1 M :=
  (hc.flow (cf := cf44) rfl w44 [a0, a1] lo M).trans (e44 call G.nl lo a0 a1 M)

/-! ### function 45 -/
theorem w45 : wfK cf45.nt cf45.body = true := by kernel_rfl
def k45_2 (call : CallT) (nl lo : Nat) : Rg → MM → Option (AV × MM) := (execC call modeF lo nl p45_21 (endK cf45.res) noE (endK cf45.res))
abbrev b45_2 (call : CallT) (nl lo : Nat) (M : MM) : Option (AV × MM) :=
  some ((.bool false), M)
theorem t45_2 (call : CallT) (nl lo : Nat) (ρ : Rg) (M : MM) : k45_2 call nl lo ρ M = b45_2 call nl lo M := by
  kernel_rfl
def k45_4 (call : CallT) (nl lo : Nat) (n : Nat) : Rg → MM → Option (AV × MM) := iterC (fun k ρ M => execC call modeF lo nl p45_16 k (fun i ρ M => if i = 0 then (k45_2 call nl lo) ρ M else noE i ρ M) (endK cf45.res) ρ M) n
def b45_4 (call : CallT) (nl lo : Nat) : Nat → AV → AV → AV → AV → MM → Option (AV × MM)
  | 0, _, _, _, _, _ => none
  | n + 1, x0, x5, x6, x7, M =>
  opt (binA .lss .none x7 x6) fun v5 =>
  isB v5 fun c6 => if c6 then (opt (ixsA 1 x5 x7) fun v8 =>
  opt (ld1A (lk M) v8) fun v9 =>
  opt (slslA 1 x0 none (some x7)) fun v14 =>
  opt (puA call (lk M) 70 [v14, v9]) fun v16 =>
  isB v16 fun c17 => if c17 then (some ((.bool true), M))
  else (opt (binA .add .none x7 (.i 1)) fun v19 =>
  (b45_4 call nl lo n) x0 x5 x6 v19 M))
  else (b45_2 call nl lo M)
theorem t45_4 (call : CallT) (nl lo : Nat) : ∀ (n : Nat) (ρ : Rg) (M : MM), k45_4 call nl lo n ρ M = b45_4 call nl lo n (ρ 0) (ρ 5) (ρ 6) (ρ 7) M
  | 0, ρ, M => rfl
  | n + 1, ρ, M => by
    have h : ∀ (zb z0 : Rg → MM → Option (AV × MM)), execC call modeF lo nl p45_16 zb (fun i ρ M => if i = 0 then z0 ρ M else noE i ρ M) (endK cf45.res) ρ M = (opt (binA .lss .none (ρ 7) (ρ 6)) fun v5 =>
    isB v5 fun c6 => if c6 then (opt (ixsA 1 (ρ 5) (ρ 7)) fun v8 =>
    opt (ld1A (lk M) v8) fun v9 =>
    opt (slslA 1 (ρ 0) none (some (ρ 7))) fun v14 =>
    opt (puA call (lk M) 70 [v14, v9]) fun v16 =>
    isB v16 fun c17 => if c17 then (some ((.bool true), M))
    else (opt (binA .add .none (ρ 7) (.i 1)) fun v19 =>
    zb (sF (sF (sF (sF (sF (sF (sF (sF (sF (sF (sF (sF (sF ρ 8 v5) 9 (ρ 7)) 10 v8) 11 v9) 3 (ρ 7)) 4 v9) 12 (ρ 0)) 13 (ρ 7)) 14 v14) 15 v9) 16 v16) 17 v19) 7 v19) M))
    else (z0 (sF ρ 8 v5) M)) := by intros; kernel_rfl
    refine (h (k45_4 call nl lo n) (k45_2 call nl lo)).trans ?_
    unfold b45_4; simp only [(t45_2 call nl lo), (t45_4 call nl lo n)] <;> (show _ = _; kernel_rfl)
def k45_3 (call : CallT) (nl lo : Nat) : Rg → MM → Option (AV × MM) := (execC call modeF lo nl p45_19 (k45_2 call nl lo) noE (endK cf45.res))
abbrev b45_3 (call : CallT) (nl lo : Nat) (x0 : AV) (M : MM) : Option (AV × MM) :=
  opt (lenA x0) fun v3 =>
  b45_4 call nl lo nl x0 x0 v3 (.i 0) M
theorem t45_3 (call : CallT) (nl lo : Nat) (ρ : Rg) (M : MM) : k45_3 call nl lo ρ M = b45_3 call nl lo (ρ 0) M := by
  have h : k45_3 call nl lo ρ M = (opt (lenA (ρ 0)) fun v3 =>
  k45_4 call nl lo nl (sF (sF (sF ρ 5 (ρ 0)) 6 v3) 7 (.i 0)) M) := by kernel_rfl
  rw [h]
  unfold b45_3; simp only [(t45_4 call nl lo nl)] <;> (show _ = _; kernel_rfl)
def k45_1 (call : CallT) (nl lo : Nat) : Rg → MM → Option (AV × MM) := (execC call modeF lo nl p45_22 (endK cf45.res) noE (endK cf45.res))
abbrev b45_1 (call : CallT) (nl lo : Nat) (x0 : AV) (M : MM) : Option (AV × MM) :=
  b45_3 call nl lo x0 M
theorem t45_1 (call : CallT) (nl lo : Nat) (ρ : Rg) (M : MM) : k45_1 call nl lo ρ M = b45_1 call nl lo (ρ 0) M := by
  have h : k45_1 call nl lo ρ M = (k45_3 call nl lo ρ M) := execC_seq call modeF lo nl p45_19 p45_21 (endK cf45.res) noE (endK cf45.res) ρ M
  rw [h]
  unfold b45_1; simp only [(t45_3 call nl lo)] <;> (show _ = _; kernel_rfl)
def k45_5 (call : CallT) (nl lo : Nat) : Rg → MM → Option (AV × MM) := (execC call modeF lo nl p45_1 (k45_1 call nl lo) noE (endK cf45.res))
abbrev b45_5 (call : CallT) (nl lo : Nat) (x0 : AV) (M : MM) : Option (AV × MM) :=
  b45_1 call nl lo x0 M
theorem t45_5 (call : CallT) (nl lo : Nat) (ρ : Rg) (M : MM) : k45_5 call nl lo ρ M = b45_5 call nl lo (ρ 0) M := by
  have h : ∀ (z0 : Rg → MM → Option (AV × MM)), (execC call modeF lo nl p45_1 z0 noE (endK cf45.res)) ρ M = (z0 (sF ρ 2 (.bool false)) M) := by intros; kernel_rfl
  refine (h (k45_1 call nl lo)).trans ?_
  unfold b45_5; simp only [(t45_1 call nl lo)] <;> (show _ = _; kernel_rfl)
def k45_0 (call : CallT) (nl lo : Nat) : Rg → MM → Option (AV × MM) := (execC call modeF lo nl p45_23 (endK cf45.res) noE (endK cf45.res))
abbrev b45_0 (call : CallT) (nl lo : Nat) (x0 : AV) (M : MM) : Option (AV × MM) :=
  b45_5 call nl lo x0 M
theorem t45_0 (call : CallT) (nl lo : Nat) (ρ : Rg) (M : MM) : k45_0 call nl lo ρ M = b45_0 call nl lo (ρ 0) M := by
  have h : k45_0 call nl lo ρ M = (k45_5 call nl lo ρ M) := execC_seq call modeF lo nl p45_1 p45_22 (endK cf45.res) noE (endK cf45.res) ρ M
  rw [h]
  unfold b45_0; simp only [(t45_5 call nl lo)] <;> (show _ = _; kernel_rfl)
def k45_6 (call : CallT) (nl lo : Nat) : Rg → MM → Option (AV × MM) := (execC call modeF lo nl p45_0 (k45_0 call nl lo) noE (endK cf45.res))
abbrev b45_6 (call : CallT) (nl lo : Nat) (x0 : AV) (M : MM) : Option (AV × MM) :=
  b45_0 call nl lo x0 M
theorem t45_6 (call : CallT) (nl lo : Nat) (ρ : Rg) (M : MM) : k45_6 call nl lo ρ M = b45_6 call nl lo (ρ 0) M := by
  have h : ∀ (z0 : Rg → MM → Option (AV × MM)), (execC call modeF lo nl p45_0 z0 noE (endK cf45.res)) ρ M = (z0 ρ M) := by intros; kernel_rfl
  refine (h (k45_0 call nl lo)).trans ?_
  unfold b45_6; simp only [(t45_0 call nl lo)] <;> (show _ = _; kernel_rfl)
def s45 (call : CallT) (nl lo : Nat) (a0 : AV) (M : MM) : Option (AV × MM) :=
  b45_6 call nl lo a0 M
theorem e45 (call : CallT) (nl lo : Nat) (a0 : AV) (M : MM) : execC call modeF lo nl cf45.body (endK cf45.res) noE (endK cf45.res) (aF [a0]) M = s45 call nl lo a0 M := by
  have h : execC call modeF lo nl cf45.body (endK cf45.res) noE (endK cf45.res) (aF [a0]) M = (k45_6 call nl lo (aF [a0]) M) := execC_seq call modeF lo nl p45_0 p45_23 (endK cf45.res) noE (endK cf45.res) (aF [a0]) M
  refine h.trans ?_
  unfold s45; simp only [(t45_6 call nl lo)] <;> (show _ = _; kernel_rfl)
theorem q45 {call : CallT} (hc : Lim G call) (lo : Nat) (a0 : AV) (M : MM) : call 45 [a0] lo M = s45 call G.nl lo a0 M :=
  (hc.flow (cf := cf45) rfl w45 [a0] lo M).trans (e45 call G.nl lo a0 M)

/-! ### function 46 -/
theorem w46 : wfK cf46.nt cf46.body = true := by kernel_rfl
def k46_4 (call : CallT) (nl lo : Nat) : Rg → MM → Option (AV × MM) := (execC call modeF lo nl p46_31 (endK cf46.res) noE (endK cf46.res))
abbrev b46_4 (call : CallT) (nl lo : Nat) (x8 : AV) (M : MM) : Option (AV × MM) :=
  some (x8, M)
theorem t46_4 (call : CallT) (nl lo : Nat) (ρ : Rg) (M : MM) : k46_4 call nl lo ρ M = b46_4 call nl lo (ρ 8) M := by
  kernel_rfl
def k46_6 (call : CallT) (nl lo : Nat) (n : Nat) : Rg → MM → Option (AV × MM) := iterC (fun k ρ M => execC call modeF lo nl p46_26 k (fun i ρ M => if i = 0 then (k46_4 call nl lo) ρ M else noE i ρ M) (endK cf46.res) ρ M) n
def b46_6 (call : CallT) (nl lo : Nat) : Nat → AV → AV → AV → AV → AV → AV → MM → Option (AV × MM)
  | 0, _, _, _, _, _, _, _ => none
  | n + 1, x1, x2, x8, x21, x22, x23, M =>
  opt (binA .lss .none x23 x22) fun v7 =>
  isB v7 fun c8 => if c8 then (opt (ixsA 2 x21 x23) fun v9 =>
  opt (ldnA (lk M) 2 v9) fun v10 =>
  upK M M.nx fun M12 =>
  opt (setcA 0 2 (.agg [.str ⟨⟨[]⟩⟩, .d (.sl [] 0)]) v10) fun v13 =>
  opt (fldA 0 2 true v13) fun v15 =>
  opt (puA call (lk M12) 46 [v15, x1, x2]) fun v18 =>
  opt (binA .add .none x8 v18) fun v19 =>
  opt (binA .gtr .none v19 (.i 4096)) fun v22 =>
  isB v22 fun c23 => if c23 then (some (v19, M12))
  else (opt (binA .add .none x23 (.i 1)) fun v26 =>
  (b46_6 call nl lo n) x1 x2 v19 x21 x22 v26 M12))
  else (b46_4 call nl lo x8 M)
theorem t46_6 (call : CallT) (nl lo : Nat) : ∀ (n : Nat) (ρ : Rg) (M : MM), k46_6 call nl lo n ρ M = b46_6 call nl lo n (ρ 1) (ρ 2) (ρ 8) (ρ 21) (ρ 22) (ρ 23) M
  | 0, ρ, M => rfl
  | n + 1, ρ, M => by
    have h : ∀ (zb z0 : Rg → MM → Option (AV × MM)), execC call modeF lo nl p46_26 zb (fun i ρ M => if i = 0 then z0 ρ M else noE i ρ M) (endK cf46.res) ρ M = (opt (binA .lss .none (ρ 23) (ρ 22)) fun v7 =>
    isB v7 fun c8 => if c8 then (opt (ixsA 2 (ρ 21) (ρ 23)) fun v9 =>
    opt (ldnA (lk M) 2 v9) fun v10 =>
    upK M M.nx fun M12 =>
    opt (setcA 0 2 (.agg [.str ⟨⟨[]⟩⟩, .d (.sl [] 0)]) v10) fun v13 =>
    opt (fldA 0 2 true v13) fun v15 =>
    opt (puA call (lk M12) 46 [v15, (ρ 1), (ρ 2)]) fun v18 =>
    opt (binA .add .none (ρ 8) v18) fun v19 =>
    opt (binA .gtr .none v19 (.i 4096)) fun v22 =>
    isB v22 fun c23 => if c23 then (some (v19, M12))
    else (opt (binA .add .none (ρ 23) (.i 1)) fun v26 =>
    zb (sF (sF (sF (sF (sF (sF (sF (sF (sF (sF (sF (sF (sF (sF (sF (sF ρ 24 v7) 25 v9) 26 v10) 10 (.agg [.str ⟨⟨[]⟩⟩, .d (.sl [] 0)])) 10 v13) 27 (ρ 8)) 28 v15) 29 (ρ 1)) 30 (ρ 2)) 31 v18) 32 v19) 8 v19) 33 v19) 34 v22) 36 v26) 23 v26) M12))
    else (z0 (sF ρ 24 v7) M)) := by intros; kernel_rfl
    refine (h (k46_6 call nl lo n) (k46_4 call nl lo)).trans ?_
    unfold b46_6; simp only [(t46_4 call nl lo), (t46_6 call nl lo n)] <;> (show _ = _; kernel_rfl)
def k46_5 (call : CallT) (nl lo : Nat) : Rg → MM → Option (AV × MM) := (execC call modeF lo nl p46_29 (k46_4 call nl lo) noE (endK cf46.res))
abbrev b46_5 (call : CallT) (nl lo : Nat) (x1 x2 x3 x8 : AV) (M : MM) : Option (AV × MM) :=
  opt (fldA 0 0 true x3) fun v3 =>
  opt (fldA 1 1 false x3) fun v4 =>
  opt (lenA v4) fun v5 =>
  b46_6 call nl lo nl x1 x2 x8 v4 v5 (.i 0) M
theorem t46_5 (call : CallT) (nl lo : Nat) (ρ : Rg) (M : MM) : k46_5 call nl lo ρ M = b46_5 call nl lo (ρ 1) (ρ 2) (ρ 3) (ρ 8) M := by
  have h : k46_5 call nl lo ρ M = (opt (fldA 0 0 true (ρ 3)) fun v3 =>
  opt (fldA 1 1 false (ρ 3)) fun v4 =>
  opt (lenA v4) fun v5 =>
  k46_6 call nl lo nl (sF (sF (sF (sF ρ 20 v3) 21 v4) 22 v5) 23 (.i 0)) M) := by kernel_rfl
  rw [h]
  unfold b46_5; simp only [(t46_6 call nl lo nl)] <;> (show _ = _; kernel_rfl)
def k46_3 (call : CallT) (nl lo : Nat) : Rg → MM → Option (AV × MM) := (execC call modeF lo nl p46_32 (endK cf46.res) noE (endK cf46.res))
abbrev b46_3 (call : CallT) (nl lo : Nat) (x1 x2 x3 x8 : AV) (M : MM) : Option (AV × MM) :=
  b46_5 call nl lo x1 x2 x3 x8 M
theorem t46_3 (call : CallT) (nl lo : Nat) (ρ : Rg) (M : MM) : k46_3 call nl lo ρ M = b46_3 call nl lo (ρ 1) (ρ 2) (ρ 3) (ρ 8) M := by
  have h : k46_3 call nl lo ρ M = (k46_5 call nl lo ρ M) := execC_seq call modeF lo nl p46_29 p46_31 (endK cf46.res) noE (endK cf46.res) ρ M
  rw [h]
  unfold b46_3; simp only [(t46_5 call nl lo)] <;> (show _ = _; kernel_rfl)
def k46_7 (call : CallT) (nl lo : Nat) : Rg → MM → Option (AV × MM) := (execC call modeF lo nl p46_9 (k46_3 call nl lo) noE (endK cf46.res))
abbrev b46_7 (call : CallT) (nl lo : Nat) (x1 x2 x3 : AV) (M : MM) : Option (AV × MM) :=
  b46_3 call nl lo x1 x2 x3 (.i 1) M
theorem t46_7 (call : CallT) (nl lo : Nat) (ρ : Rg) (M : MM) : k46_7 call nl lo ρ M = b46_7 call nl lo (ρ 1) (ρ 2) (ρ 3) M := by
  have h : ∀ (z0 : Rg → MM → Option (AV × MM)), (execC call modeF lo nl p46_9 z0 noE (endK cf46.res)) ρ M = (z0 (sF ρ 8 (.i 1)) M) := by intros; kernel_rfl
  refine (h (k46_3 call nl lo)).trans ?_
  unfold b46_7; simp only [(t46_3 call nl lo)] <;> (show _ = _; kernel_rfl)
def k46_2 (call : CallT) (nl lo : Nat) : Rg → MM → Option (AV × MM) := (execC call modeF lo nl p46_33 (endK cf46.res) noE (endK cf46.res))
abbrev b46_2 (call : CallT) (nl lo : Nat) (x1 x2 x3 : AV) (M : MM) : Option (AV × MM) :=
  b46_7 call nl lo x1 x2 x3 M
theorem t46_2 (call : CallT) (nl lo : Nat) (ρ : Rg) (M : MM) : k46_2 call nl lo ρ M = b46_2 call nl lo (ρ 1) (ρ 2) (ρ 3) M := by
  have h : k46_2 call nl lo ρ M = (k46_7 call nl lo ρ M) := execC_seq call modeF lo nl p46_9 p46_32 (endK cf46.res) noE (endK cf46.res) ρ M
  rw [h]
  unfold b46_2; simp only [(t46_7 call nl lo)] <;> (show _ = _; kernel_rfl)
def k46_8 (call : CallT) (nl lo : Nat) : Rg → MM → Option (AV × MM) := (execC call modeF lo nl p46_8 (k46_2 call nl lo) noE (endK cf46.res))
abbrev b46_8 (call : CallT) (nl lo : Nat) (x1 x2 x3 : AV) (M : MM) : Option (AV × MM) :=
  opt (fldA 0 2 true x3) fun v1 =>
  opt (puA call (lk M) 71 [v1, x1]) fun v3 =>
  opt (binA .geq .none v3 (.i 0)) fun v6 =>
  isB v6 fun c7 => if c7 then (opt (ixsA 1 x2 v3) fun v10 =>
  opt (ld1A (lk M) v10) fun v11 =>
  some (v11, M))
  else (b46_2 call nl lo x1 x2 x3 M)
theorem t46_8 (call : CallT) (nl lo : Nat) (ρ : Rg) (M : MM) : k46_8 call nl lo ρ M = b46_8 call nl lo (ρ 1) (ρ 2) (ρ 3) M := by
  have h : ∀ (z0 : Rg → MM → Option (AV × MM)), (execC call modeF lo nl p46_8 z0 noE (endK cf46.res)) ρ M = (opt (fldA 0 2 true (ρ 3)) fun v1 =>
  opt (puA call (lk M) 71 [v1, (ρ 1)]) fun v3 =>
  opt (binA .geq .none v3 (.i 0)) fun v6 =>
  isB v6 fun c7 => if c7 then (opt (ixsA 1 (ρ 2) v3) fun v10 =>
  opt (ld1A (lk M) v10) fun v11 =>
  some (v11, M))
  else (z0 (sF (sF (sF (sF (sF (sF ρ 11 v1) 12 (ρ 1)) 13 v3) 7 v3) 14 v3) 15 v6) M)) := by intros; kernel_rfl
  refine (h (k46_2 call nl lo)).trans ?_
  unfold b46_8; simp only [(t46_2 call nl lo)] <;> (show _ = _; kernel_rfl)
def k46_1 (call : CallT) (nl lo : Nat) : Rg → MM → Option (AV × MM) := (execC call modeF lo nl p46_34 (endK cf46.res) noE (endK cf46.res))
abbrev b46_1 (call : CallT) (nl lo : Nat) (x1 x2 x3 : AV) (M : MM) : Option (AV × MM) :=
  b46_8 call nl lo x1 x2 x3 M
theorem t46_1 (call : CallT) (nl lo : Nat) (ρ : Rg) (M : MM) : k46_1 call nl lo ρ M = b46_1 call nl lo (ρ 1) (ρ 2) (ρ 3) M := by
  have h : k46_1 call nl lo ρ M = (k46_8 call nl lo ρ M) := execC_seq call modeF lo nl p46_8 p46_33 (endK cf46.res) noE (endK cf46.res) ρ M
  rw [h]
  unfold b46_1; simp only [(t46_8 call nl lo)] <;> (show _ = _; kernel_rfl)
def k46_9 (call : CallT) (nl lo : Nat) : Rg → MM → Option (AV × MM) := (execC call modeF lo nl p46_1 (k46_1 call nl lo) noE (endK cf46.res))
abbrev b46_9 (call : CallT) (nl lo : Nat) (x0 x1 x2 : AV) (M : MM) : Option (AV × MM) :=
  opt (aggA x0) fun v1 =>
  upK M M.nx fun M2 =>
  b46_1 call nl lo x1 x2 v1 M2
theorem t46_9 (call : CallT) (nl lo : Nat) (ρ : Rg) (M : MM) : k46_9 call nl lo ρ M = b46_9 call nl lo (ρ 0) (ρ 1) (ρ 2) M := by
  have h : ∀ (z0 : Rg → MM → Option (AV × MM)), (execC call modeF lo nl p46_1 z0 noE (endK cf46.res)) ρ M = (opt (aggA (ρ 0)) fun v1 =>
  upK M M.nx fun M2 =>
  z0 (sF (sF ρ 3 v1) 6 (.i 0)) M2) := by intros; kernel_rfl
  refine (h (k46_1 call nl lo)).trans ?_
  unfold b46_9; simp only [(t46_1 call nl lo)] <;> (show _ = _; kernel_rfl)
def k46_0 (call : CallT) (nl lo : Nat) : Rg → MM → Option (AV × MM) := (execC call modeF lo nl p46_35 (endK cf46.res) noE (endK cf46.res))
abbrev b46_0 (call : CallT) (nl lo : Nat) (x0 x1 x2 : AV) (M : MM) : Option (AV × MM) :=
  b46_9 call nl lo x0 x1 x2 M
theorem t46_0 (call : CallT) (nl lo : Nat) (ρ : Rg) (M : MM) : k46_0 call nl lo ρ M = b46_0 call nl lo (ρ 0) (ρ 1) (ρ 2) M := by
  have h : k46_0 call nl lo ρ M = (k46_9 call nl lo ρ M) := execC_seq call modeF lo nl p46_1 p46_34 (endK cf46.res) noE (endK cf46.res) ρ M
  rw [h]
  unfold b46_0; simp only [(t46_9 call nl lo)] <;> (show _ = _; kernel_rfl)
def k46_10 (call : CallT) (nl lo : Nat) : Rg → MM → Option (AV × MM) := (execC call modeF lo nl p46_0 (k46_0 call nl lo) noE (endK cf46.res))
abbrev b46_10 (call : CallT) (nl lo : Nat) (x0 x1 x2 : AV) (M : MM) : Option (AV × MM) :=
  b46_0 call nl lo x0 x1 x2 M
theorem t46_10 (call : CallT) (nl lo : Nat) (ρ : Rg) (M : MM) : k46_10 call nl lo ρ M = b46_10 call nl lo (ρ 0) (ρ 1) (ρ 2) M := by
  have h : ∀ (z0 : Rg → MM → Option (AV × MM)), (execC call modeF lo nl p46_0 z0 noE (endK cf46.res)) ρ M = (z0 (sF (sF ρ 3 (.tup [])) 10 (.tup [])) M) := by intros; kernel_rfl
  refine (h (k46_0 call nl lo)).trans ?_
  unfold b46_10; simp only [(t46_0 call nl lo)] <;> (show _ = _; kernel_rfl)
def s46 (call : CallT) (nl lo : Nat) (a0 a1 a2 : AV) (M : MM) : Option (AV × MM) :=
  b46_10 call nl lo a0 a1 a2 M
theorem e46 (call : CallT) (nl lo : Nat) (a0 a1 a2 : AV) (M : MM) : execC call modeF lo nl cf46.body (endK cf46.res) noE (endK cf46.res) (aF [a0, a1, a2]) M = s46 call nl lo a0 a1 a2 M := by
  have h : execC call modeF lo nl cf46.body (endK cf46.res) noE (endK cf46.res) (aF [a0, a1, a2]) M = (k46_10 call nl lo (aF [a0, a1, a2]) M) := execC_seq call modeF lo nl p46_0 p46_35 (endK cf46.res) noE (endK cf46.res) (aF [a0, a1, a2]) M
  refine h.trans ?_
  unfold s46; simp only [(t46_10 call nl lo)] <;> (show _ = _; kernel_rfl)
theorem q46 {call : CallT} (hc : Lim G call) (lo : Nat) (a0 a1 a2 : AV) (M : MM) : call 46 [a0, a1, a2] lo M = s46 call G.nl lo a0 a1 a2 M :=
  (hc.flow (cf := cf46) rfl w46 [a0, a1, a2] lo M).trans (e46 call G.nl lo a0 a1 a2 M)

/-! ### function 47 -/
theorem w47 : wfK cf47.nt cf47.body = true := by kernel_rfl
def k47_4 (call : CallT) (nl lo : Nat) : Rg → MM → Option (AV × MM) := (execC call modeF lo nl p47_25 (endK cf47.res) noE (endK cf47.res))
abbrev b47_4 (call : CallT) (nl lo : Nat) (x6 x8 : AV) (M : MM) : Option (AV × MM) :=
  opt (fldA 0 2 true x8) fun v1 =>
  opt (setcA 0 2 x6 v1) fun v2 =>
  opt (locA 2 true v2) fun r => some (r, M)
theorem t47_4 (call : CallT) (nl lo : Nat) (ρ : Rg) (M : MM) : k47_4 call nl lo ρ M = b47_4 call nl lo (ρ 6) (ρ 8) M := by
  kernel_rfl
def k47_6 (call : CallT) (nl lo : Nat) (n : Nat) : Rg → MM → Option (AV × MM) := iterC (fun k ρ M => execC call modeF lo nl p47_20 k (fun i ρ M => if i = 0 then (k47_4 call nl lo) ρ M else noE i ρ M) (endK cf47.res) ρ M) n
def b47_6 (call : CallT) (nl lo : Nat) : Nat → AV → AV → AV → AV → AV → AV → AV → MM → Option (AV × MM)
  | 0, _, _, _, _, _, _, _, _ => none
  | n + 1, x1, x2, x6, x8, x25, x26, x27, M =>
  opt (binA .lss .none x27 x26) fun v7 =>
  isB v7 fun c8 => if c8 then (opt (ixsA 2 x25 x27) fun v9 =>
  opt (ldnA (lk M) 2 v9) fun v10 =>
  upK M M.nx fun M12 =>
  opt (setcA 0 2 (.agg [.str ⟨⟨[]⟩⟩, .d (.sl [] 0)]) v10) fun v13 =>
  bumpK M12 10 fun M14 =>
  opt (fldA 0 0 true x8) fun v15 =>
  opt (fldA 1 1 false x8) fun v16 =>
  opt (fldA 0 2 true v13) fun v17 =>
  opt (puA call (look M14.mem (.mk M12.nx 10 28 true)) 47 [v17, x1, x2]) fun v20 =>
  opt (wslA 1 (fill [.str ⟨⟨[]⟩⟩, .d (.sl [] 0)] [(0, 2, v20)])) fun v21 =>
  upK M14 (M12.nx + 6) fun M22 =>
  opt (wappA M22.mem (.top M22.nx) 2 40 v16 v21) fun v23 =>
  upK M22 (M12.nx + 7) fun M24 =>
  opt (fldA 0 0 true x8) fun v25 =>
  opt (setcA 1 1 x8 v23) fun v26 =>
  opt (binA .add .none x27 (.i 1)) fun v27 =>
  (b47_6 call nl lo n) x1 x2 x6 v26 x25 x26 v27 M24)
  else (b47_4 call nl lo x6 x8 M)
theorem t47_6 (call : CallT) (nl lo : Nat) : ∀ (n : Nat) (ρ : Rg) (M : MM), k47_6 call nl lo n ρ M = b47_6 call nl lo n (ρ 1) (ρ 2) (ρ 6) (ρ 8) (ρ 25) (ρ 26) (ρ 27) M
  | 0, ρ, M => rfl
  | n + 1, ρ, M => by
    have h : ∀ (zb z0 : Rg → MM → Option (AV × MM)), execC call modeF lo nl p47_20 zb (fun i ρ M => if i = 0 then z0 ρ M else noE i ρ M) (endK cf47.res) ρ M = (opt (binA .lss .none (ρ 27) (ρ 26)) fun v7 =>
    isB v7 fun c8 => if c8 then (opt (ixsA 2 (ρ 25) (ρ 27)) fun v9 =>
    opt (ldnA (lk M) 2 v9) fun v10 =>
    upK M M.nx fun M12 =>
    opt (setcA 0 2 (.agg [.str ⟨⟨[]⟩⟩, .d (.sl [] 0)]) v10) fun v13 =>
    bumpK M12 10 fun M14 =>
    opt (fldA 0 0 true (ρ 8)) fun v15 =>
    opt (fldA 1 1 false (ρ 8)) fun v16 =>
    opt (fldA 0 2 true v13) fun v17 =>
    opt (puA call (look M14.mem (.mk M12.nx 10 28 true)) 47 [v17, (ρ 1), (ρ 2)]) fun v20 =>
    opt (wslA 1 (fill [.str ⟨⟨[]⟩⟩, .d (.sl [] 0)] [(0, 2, v20)])) fun v21 =>
    upK M14 (M12.nx + 6) fun M22 =>
    opt (wappA M22.mem (.top M22.nx) 2 40 v16 v21) fun v23 =>
    upK M22 (M12.nx + 7) fun M24 =>
    opt (fldA 0 0 true (ρ 8)) fun v25 =>
    opt (setcA 1 1 (ρ 8) v23) fun v26 =>
    opt (binA .add .none (ρ 27) (.i 1)) fun v27 =>
    zb (sF (sF (sF (sF (sF (sF (sF (sF (sF (sF (sF (sF (sF (sF (sF (sF (sF ρ 28 v7) 29 v9) 30 v10) 10 (.agg [.str ⟨⟨[]⟩⟩, .d (.sl [] 0)])) 10 v13) 31 v15) 32 v16) 33 v17) 34 (ρ 1)) 35 (ρ 2)) 36 v20) 37 v21) 38 v23) 39 v25) 8 v26) 40 v27) 27 v27) M24)
    else (z0 (sF ρ 28 v7) M)) := by intros; kernel_rfl
    refine (h (k47_6 call nl lo n) (k47_4 call nl lo)).trans ?_
    unfold b47_6; simp only [(t47_4 call nl lo), (t47_6 call nl lo n)] <;> (show _ = _; kernel_rfl)
def k47_5 (call : CallT) (nl lo : Nat) : Rg → MM → Option (AV × MM) := (execC call modeF lo nl p47_23 (k47_4 call nl lo) noE (endK cf47.res))
abbrev b47_5 (call : CallT) (nl lo : Nat) (x1 x2 x3 x6 x8 : AV) (M : MM) : Option (AV × MM) :=
  opt (fldA 0 0 true x3) fun v3 =>
  opt (fldA 1 1 false x3) fun v4 =>
  opt (lenA v4) fun v5 =>
  b47_6 call nl lo nl x1 x2 x6 x8 v4 v5 (.i 0) M
theorem t47_5 (call : CallT) (nl lo : Nat) (ρ : Rg) (M : MM) : k47_5 call nl lo ρ M = b47_5 call nl lo (ρ 1) (ρ 2) (ρ 3) (ρ 6) (ρ 8) M := by
  have h : k47_5 call nl lo ρ M = (opt (fldA 0 0 true (ρ 3)) fun v3 =>
  opt (fldA 1 1 false (ρ 3)) fun v4 =>
  opt (lenA v4) fun v5 =>
  k47_6 call nl lo nl (sF (sF (sF (sF ρ 24 v3) 25 v4) 26 v5) 27 (.i 0)) M) := by kernel_rfl
  rw [h]
  unfold b47_5; simp only [(t47_6 call nl lo nl)] <;> (show _ = _; kernel_rfl)
def k47_3 (call : CallT) (nl lo : Nat) : Rg → MM → Option (AV × MM) := (execC call modeF lo nl p47_26 (endK cf47.res) noE (endK cf47.res))
abbrev b47_3 (call : CallT) (nl lo : Nat) (x1 x2 x3 x6 x8 : AV) (M : MM) : Option (AV × MM) :=
  b47_5 call nl lo x1 x2 x3 x6 x8 M
theorem t47_3 (call : CallT) (nl lo : Nat) (ρ : Rg) (M : MM) : k47_3 call nl lo ρ M = b47_3 call nl lo (ρ 1) (ρ 2) (ρ 3) (ρ 6) (ρ 8) M := by
  have h : k47_3 call nl lo ρ M = (k47_5 call nl lo ρ M) := execC_seq call modeF lo nl p47_23 p47_25 (endK cf47.res) noE (endK cf47.res) ρ M
  rw [h]
  unfold b47_3; simp only [(t47_5 call nl lo)] <;> (show _ = _; kernel_rfl)
def k47_7 (call : CallT) (nl lo : Nat) : Rg → MM → Option (AV × MM) := (execC call modeF lo nl p47_9 (k47_3 call nl lo) noE (endK cf47.res))
abbrev b47_7 (call : CallT) (nl lo : Nat) (x1 x2 x3 x6 : AV) (M : MM) : Option (AV × MM) :=
  opt (fldA 0 0 true x3) fun v1 =>
  opt (fldA 0 1 false x3) fun v2 =>
  opt ((fill [.str ⟨⟨[]⟩⟩, .d (.sl [] 0)] [(0, 1, v2)]).map .agg) fun v3 =>
  upK M M.nx fun M5 =>
  opt (setcA 0 2 (.agg [.str ⟨⟨[]⟩⟩, .d (.sl [] 0)]) v3) fun v6 =>
  b47_3 call nl lo x1 x2 x3 x6 v6 M5
theorem t47_7 (call : CallT) (nl lo : Nat) (ρ : Rg) (M : MM) : k47_7 call nl lo ρ M = b47_7 call nl lo (ρ 1) (ρ 2) (ρ 3) (ρ 6) M := by
  have h : ∀ (z0 : Rg → MM → Option (AV × MM)), (execC call modeF lo nl p47_9 z0 noE (endK cf47.res)) ρ M = (opt (fldA 0 0 true (ρ 3)) fun v1 =>
  opt (fldA 0 1 false (ρ 3)) fun v2 =>
  opt ((fill [.str ⟨⟨[]⟩⟩, .d (.sl [] 0)] [(0, 1, v2)]).map .agg) fun v3 =>
  upK M M.nx fun M5 =>
  opt (setcA 0 2 (.agg [.str ⟨⟨[]⟩⟩, .d (.sl [] 0)]) v3) fun v6 =>
  z0 (sF (sF (sF (sF (sF ρ 21 v1) 22 v2) 23 v3) 8 (.agg [.str ⟨⟨[]⟩⟩, .d (.sl [] 0)])) 8 v6) M5) := by intros; kernel_rfl
  refine (h (k47_3 call nl lo)).trans ?_
  unfold b47_7; simp only [(t47_3 call nl lo)] <;> (show _ = _; kernel_rfl)
def k47_2 (call : CallT) (nl lo : Nat) : Rg → MM → Option (AV × MM) := (execC call modeF lo nl p47_27 (endK cf47.res) noE (endK cf47.res))
abbrev b47_2 (call : CallT) (nl lo : Nat) (x1 x2 x3 x6 : AV) (M : MM) : Option (AV × MM) :=
  b47_7 call nl lo x1 x2 x3 x6 M
theorem t47_2 (call : CallT) (nl lo : Nat) (ρ : Rg) (M : MM) : k47_2 call nl lo ρ M = b47_2 call nl lo (ρ 1) (ρ 2) (ρ 3) (ρ 6) M := by
  have h : k47_2 call nl lo ρ M = (k47_7 call nl lo ρ M) := execC_seq call modeF lo nl p47_9 p47_26 (endK cf47.res) noE (endK cf47.res) ρ M
  rw [h]
  unfold b47_2; simp only [(t47_7 call nl lo)] <;> (show _ = _; kernel_rfl)
def k47_8 (call : CallT) (nl lo : Nat) : Rg → MM → Option (AV × MM) := (execC call modeF lo nl p47_8 (k47_2 call nl lo) noE (endK cf47.res))
abbrev b47_8 (call : CallT) (nl lo : Nat) (x1 x2 x3 x6 : AV) (M : MM) : Option (AV × MM) :=
  opt (fldA 0 2 true x3) fun v1 =>
  opt (puA call (lk M) 71 [v1, x1]) fun v3 =>
  opt (binA .geq .none v3 (.i 0)) fun v6 =>
  isB v6 fun c7 => if c7 then (opt (ixsA 2 x2 v3) fun v10 =>
  opt (ldnA (lk M) 2 v10) fun v11 =>
  opt (puA call (lk M) 55 [v11]) fun v12 =>
  opt (setcA 0 2 x6 v12) fun v13 =>
  opt (locA 2 true v13) fun r => some (r, M))
  else (b47_2 call nl lo x1 x2 x3 x6 M)
theorem t47_8 (call : CallT) (nl lo : Nat) (ρ : Rg) (M : MM) : k47_8 call nl lo ρ M = b47_8 call nl lo (ρ 1) (ρ 2) (ρ 3) (ρ 6) M := by
  have h : ∀ (z0 : Rg → MM → Option (AV × MM)), (execC call modeF lo nl p47_8 z0 noE (endK cf47.res)) ρ M = (opt (fldA 0 2 true (ρ 3)) fun v1 =>
  opt (puA call (lk M) 71 [v1, (ρ 1)]) fun v3 =>
  opt (binA .geq .none v3 (.i 0)) fun v6 =>
  isB v6 fun c7 => if c7 then (opt (ixsA 2 (ρ 2) v3) fun v10 =>
  opt (ldnA (lk M) 2 v10) fun v11 =>
  opt (puA call (lk M) 55 [v11]) fun v12 =>
  opt (setcA 0 2 (ρ 6) v12) fun v13 =>
  opt (locA 2 true v13) fun r => some (r, M))
  else (z0 (sF (sF (sF (sF (sF (sF ρ 11 v1) 12 (ρ 1)) 13 v3) 7 v3) 14 v3) 15 v6) M)) := by intros; kernel_rfl
  refine (h (k47_2 call nl lo)).trans ?_
  unfold b47_8; simp only [(t47_2 call nl lo)] <;> (show _ = _; kernel_rfl)
def k47_1 (call : CallT) (nl lo : Nat) : Rg → MM → Option (AV × MM) := (execC call modeF lo nl p47_28 (endK cf47.res) noE (endK cf47.res))
abbrev b47_1 (call : CallT) (nl lo : Nat) (x1 x2 x3 x6 : AV) (M : MM) : Option (AV × MM) :=
  b47_8 call nl lo x1 x2 x3 x6 M
theorem t47_1 (call : CallT) (nl lo : Nat) (ρ : Rg) (M : MM) : k47_1 call nl lo ρ M = b47_1 call nl lo (ρ 1) (ρ 2) (ρ 3) (ρ 6) M := by
  have h : k47_1 call nl lo ρ M = (k47_8 call nl lo ρ M) := execC_seq call modeF lo nl p47_8 p47_27 (endK cf47.res) noE (endK cf47.res) ρ M
  rw [h]
  unfold b47_1; simp only [(t47_8 call nl lo)] <;> (show _ = _; kernel_rfl)
def k47_9 (call : CallT) (nl lo : Nat) : Rg → MM → Option (AV × MM) := (execC call modeF lo nl p47_1 (k47_1 call nl lo) noE (endK cf47.res))
abbrev b47_9 (call : CallT) (nl lo : Nat) (x0 x1 x2 : AV) (M : MM) : Option (AV × MM) :=
  opt (aggA x0) fun v1 =>
  upK M M.nx fun M2 =>
  upK M2 M2.nx fun M4 =>
  b47_1 call nl lo x1 x2 v1 (.agg [.str ⟨⟨[]⟩⟩, .d (.sl [] 0)]) M4
theorem t47_9 (call : CallT) (nl lo : Nat) (ρ : Rg) (M : MM) : k47_9 call nl lo ρ M = b47_9 call nl lo (ρ 0) (ρ 1) (ρ 2) M := by
  have h : ∀ (z0 : Rg → MM → Option (AV × MM)), (execC call modeF lo nl p47_1 z0 noE (endK cf47.res)) ρ M = (opt (aggA (ρ 0)) fun v1 =>
  upK M M.nx fun M2 =>
  upK M2 M2.nx fun M4 =>
  z0 (sF (sF ρ 3 v1) 6 (.agg [.str ⟨⟨[]⟩⟩, .d (.sl [] 0)])) M4) := by intros; kernel_rfl
  refine (h (k47_1 call nl lo)).trans ?_
  unfold b47_9; simp only [(t47_1 call nl lo)] <;> (show _ = _; kernel_rfl)
def k47_0 (call : CallT) (nl lo : Nat) : Rg → MM → Option (AV × MM) := (execC call modeF lo nl p47_29 (endK cf47.res) noE (endK cf47.res))
abbrev b47_0 (call : CallT) (nl lo : Nat) (x0 x1 x2 : AV) (M : MM) : Option (AV × MM) :=
  b47_9 call nl lo x0 x1 x2 M
theorem t47_0 (call : CallT) (nl lo : Nat) (ρ : Rg) (M : MM) : k47_0 call nl lo ρ M = b47_0 call nl lo (ρ 0) (ρ 1) (ρ 2) M := by
  have h : k47_0 call nl lo ρ M = (k47_9 call nl lo ρ M) := execC_seq call modeF lo nl p47_1 p47_28 (endK cf47.res) noE (endK cf47.res) ρ M
  rw [h]
  unfold b47_0; simp only [(t47_9 call nl lo)] <;> (show _ = _; kernel_rfl)
def k47_10 (call : CallT) (nl lo : Nat) : Rg → MM → Option (AV × MM) := (execC call modeF lo nl p47_0 (k47_0 call nl lo) noE (endK cf47.res))
abbrev b47_10 (call : CallT) (nl lo : Nat) (x0 x1 x2 : AV) (M : MM) : Option (AV × MM) :=
  b47_0 call nl lo x0 x1 x2 M
theorem t47_10 (call : CallT) (nl lo : Nat) (ρ : Rg) (M : MM) : k47_10 call nl lo ρ M = b47_10 call nl lo (ρ 0) (ρ 1) (ρ 2) M := by
  have h : ∀ (z0 : Rg → MM → Option (AV × MM)), (execC call modeF lo nl p47_0 z0 noE (endK cf47.res)) ρ M = (z0 (sF (sF (sF (sF ρ 3 (.tup [])) 6 (.tup [])) 8 (.tup [])) 10 (.tup [])) M) := by intros; kernel_rfl
  refine (h (k47_0 call nl lo)).trans ?_
  unfold b47_10; simp only [(t47_0 call nl lo)] <;> (show _ = _; kernel_rfl)
def s47 (call : CallT) (nl lo : Nat) (a0 a1 a2 : AV) (M : MM) : Option (AV × MM) :=
  b47_10 call nl lo a0 a1 a2 M
theorem e47 (call : CallT) (nl lo : Nat) (a0 a1 a2 : AV) (M : MM) : execC call modeF lo nl cf47.body (endK cf47.res) noE (endK cf47.res) (aF [a0, a1, a2]) M = s47 call nl lo a0 a1 a2 M := by
  have h : execC call modeF lo nl cf47.body (endK cf47.res) noE (endK cf47.res) (aF [a0, a1, a2]) M = (k47_10 call nl lo (aF [a0, a1, a2]) M) := execC_seq call modeF lo nl p47_0 p47_29 (endK cf47.res) noE (endK cf47.res) (aF [a0, a1, a2]) M
  refine h.trans ?_
  unfold s47; simp only [(t47_10 call nl lo)] <;> (show _ = _; kernel_rfl)
theorem q47 {call : CallT} (hc : Lim G call) (lo : Nat) (a0 a1 a2 : AV) (M : MM) : call 47 [a0, a1, a2] lo M = s47 call G.nl lo a0 a1 a2 M :=
  (hc.flow (cf := cf47) rfl w47 [a0, a1, a2] lo M).trans (e47 call G.nl lo a0 a1 a2 M)

/-! ### function 53 -/
theorem w53 : wfK cf53.nt cf53.body = true := by kernel_rfl
def k53_4 (call : CallT) (nl lo : Nat) : Rg → MM → Option (AV × MM) := (execC call modeF lo nl p53_9 (execC call modeF lo nl p53_15 (endK cf53.res) noE (endK cf53.res)) noE (endK cf53.res))
abbrev b53_4 (call : CallT) (nl lo : Nat) (x5 x7 x9 : AV) (M : MM) : Option (AV × MM) :=
  bumpK M 9 fun M2 =>
  opt (ld1A (look M2.mem (.mk M.nx 9 0 true)) x7) fun v3 =>
  opt (ixsA 1 v3 x9) fun v5 =>
  opt (ld1A (look M2.mem (.mk M.nx 9 7 true)) v5) fun v6 =>
  opt (nilcA v6) fun v7 =>
  opt (ldnA (look M2.mem (.mk M.nx 9 31 true)) 2 v7) fun v8 =>
  opt (ldnA (look M2.mem (.mk M.nx 9 0 true)) 2 x5) fun v9 =>
  opt (puA call (look M2.mem (.mk M.nx 9 127 true)) 14 [v8, v9]) fun v10 =>
  some (v10, M2)
theorem t53_4 (call : CallT) (nl lo : Nat) (ρ : Rg) (M : MM) : k53_4 call nl lo ρ M = b53_4 call nl lo (ρ 5) (ρ 7) (ρ 9) M := by
  kernel_rfl
def k53_5 (call : CallT) (nl lo : Nat) : Rg → MM → Option (AV × MM) := (execC call modeF lo nl p53_7 (k53_4 call nl lo) noE (endK cf53.res))
abbrev b53_5 (call : CallT) (nl lo : Nat) (x5 x7 x9 : AV) (M : MM) : Option (AV × MM) :=
  opt (ld1A (lk M) x7) fun v12 =>
  opt (ixsA 1 v12 x9) fun v14 =>
  opt (ld1A (lk M) v14) fun v15 =>
  opt (binA .eql .ptr v15 .nil) fun v16 =>
  isB v16 fun c17 => if c17 then (opt (ld1A (lk M) x7) fun v18 =>
  opt (ixsA 1 v18 x9) fun v20 =>
  bnd (istep call modeF false lo (.top M.nx) M.nx (.st 1 (.k v20) (.k x5)) [] M) fun v21 M22 =>
  b53_4 call nl lo x5 x7 x9 M22)
  else (b53_4 call nl lo x5 x7 x9 M)
theorem t53_5 (call : CallT) (nl lo : Nat) (ρ : Rg) (M : MM) : k53_5 call nl lo ρ M = b53_5 call nl lo (ρ 5) (ρ 7) (ρ 9) M := by
  have h : ∀ (z0 : Rg → MM → Option (AV × MM)), (execC call modeF lo nl p53_7 z0 noE (endK cf53.res)) ρ M = (opt (ld1A (lk M) (ρ 7)) fun v12 =>
  opt (ixsA 1 v12 (ρ 9)) fun v14 =>
  opt (ld1A (lk M) v14) fun v15 =>
  opt (binA .eql .ptr v15 .nil) fun v16 =>
  isB v16 fun c17 => if c17 then (opt (ld1A (lk M) (ρ 7)) fun v18 =>
  opt (ixsA 1 v18 (ρ 9)) fun v20 =>
  bnd (istep call modeF false lo (.top M.nx) M.nx (.st 1 (.k v20) (.k (ρ 5))) [] M) fun v21 M22 =>
  z0 (sF (sF (sF (sF (sF (sF (sF (sF ρ 15 v12) 16 (ρ 9)) 17 v14) 18 v15) 19 v16) 20 v18) 21 (ρ 9)) 22 v20) M22)
  else (z0 (sF (sF (sF (sF (sF ρ 15 v12) 16 (ρ 9)) 17 v14) 18 v15) 19 v16) M)) := by intros; kernel_rfl
  refine (h (k53_4 call nl lo)).trans ?_
  unfold b53_5; simp only [(t53_4 call nl lo)] <;> (show _ = _; kernel_rfl)
def k53_3 (call : CallT) (nl lo : Nat) : Rg → MM → Option (AV × MM) := (execC call modeF lo nl p53_11 (execC call modeF lo nl p53_15 (endK cf53.res) noE (endK cf53.res)) noE (endK cf53.res))
abbrev b53_3 (call : CallT) (nl lo : Nat) (x4 x5 x6 x7 x9 x14 : AV) (M : MM) : Option (AV × MM) :=
  isB x14 fun c1 => if c1 then (b53_5 call nl lo x5 x7 x9 M)
  else (opt (fldA 0 0 true x4) fun v23 =>
  opt (fldA 0 1 false x4) fun v24 =>
  opt (fadA 0 x5) fun v25 =>
  opt (ld1A (lk M) v25) fun v26 =>
  opt (binA .eql .none v24 v26) fun v27 =>
  opt (gdp v27 true (fldA 0 0 true x4)) fun v29 =>
  opt (gdp v27 true (fldA 1 1 false x4)) fun v30 =>
  opt (gdp v27 true (fadA 1 x5)) fun v31 =>
  opt (gdp v27 true (ld1A (lk M) v31)) fun v32 =>
  opt (gdp v27 true (some (.fn 76 [] [x6, x7]))) fun v33 =>
  bnd (gd v27 true M (call 41 [v30, v32, v33] lo M)) fun v34 M35 =>
  opt (pickA v27 v34 (.bool false)) fun v36 =>
  some (v36, M35))
theorem t53_3 (call : CallT) (nl lo : Nat) (ρ : Rg) (M : MM) : k53_3 call nl lo ρ M = b53_3 call nl lo (ρ 4) (ρ 5) (ρ 6) (ρ 7) (ρ 9) (ρ 14) M := by
  have h : k53_3 call nl lo ρ M = (isB (ρ 14) fun c1 => if c1 then (k53_5 call nl lo ρ M)
  else (opt (fldA 0 0 true (ρ 4)) fun v2 =>
  opt (fldA 0 1 false (ρ 4)) fun v3 =>
  opt (fadA 0 (ρ 5)) fun v4 =>
  opt (ld1A (lk M) v4) fun v5 =>
  opt (binA .eql .none v3 v5) fun v6 =>
  opt (gdp v6 true (fldA 0 0 true (ρ 4))) fun v8 =>
  opt (gdp v6 true (fldA 1 1 false (ρ 4))) fun v9 =>
  opt (gdp v6 true (fadA 1 (ρ 5))) fun v10 =>
  opt (gdp v6 true (ld1A (lk M) v10)) fun v11 =>
  opt (gdp v6 true (some (.fn 76 [] [(ρ 6), (ρ 7)]))) fun v12 =>
  bnd (gd v6 true M (call 41 [v9, v11, v12] lo M)) fun v13 M14 =>
  opt (pickA v6 v13 (.bool false)) fun v15 =>
  some (v15, M14))) := by kernel_rfl
  rw [h]
  unfold b53_3; simp only [(t53_5 call nl lo)] <;> (show _ = _; kernel_rfl)
def k53_6 (call : CallT) (nl lo : Nat) : Rg → MM → Option (AV × MM) := (execC call modeF lo nl p53_3 (k53_3 call nl lo) noE (endK cf53.res))
abbrev b53_6 (call : CallT) (nl lo : Nat) (x4 x5 x6 x7 x9 : AV) (M : MM) : Option (AV × MM) :=
  opt (binA .geq .none x9 (.i 0)) fun v18 =>
  b53_3 call nl lo x4 x5 x6 x7 x9 v18 M
theorem t53_6 (call : CallT) (nl lo : Nat) (ρ : Rg) (M : MM) : k53_6 call nl lo ρ M = b53_6 call nl lo (ρ 4) (ρ 5) (ρ 6) (ρ 7) (ρ 9) M := by
  have h : ∀ (z0 : Rg → MM → Option (AV × MM)), (execC call modeF lo nl p53_3 z0 noE (endK cf53.res)) ρ M = (opt (binA .geq .none (ρ 9) (.i 0)) fun v18 =>
  z0 (sF (sF ρ 13 (ρ 9)) 14 v18) M) := by intros; kernel_rfl
  refine (h (k53_3 call nl lo)).trans ?_
  unfold b53_6; simp only [(t53_3 call nl lo)] <;> (show _ = _; kernel_rfl)
def k53_2 (call : CallT) (nl lo : Nat) : Rg → MM → Option (AV × MM) := (execC call modeF lo nl p53_12 (execC call modeF lo nl p53_15 (endK cf53.res) noE (endK cf53.res)) noE (endK cf53.res))
abbrev b53_2 (call : CallT) (nl lo : Nat) (x4 x5 x6 x7 x9 : AV) (M : MM) : Option (AV × MM) :=
  b53_6 call nl lo x4 x5 x6 x7 x9 M
theorem t53_2 (call : CallT) (nl lo : Nat) (ρ : Rg) (M : MM) : k53_2 call nl lo ρ M = b53_2 call nl lo (ρ 4) (ρ 5) (ρ 6) (ρ 7) (ρ 9) M := by
  have h : k53_2 call nl lo ρ M = (k53_6 call nl lo ρ M) := execC_seq call modeF lo nl p53_3 p53_11 (execC call modeF lo nl p53_15 (endK cf53.res) noE (endK cf53.res)) noE (endK cf53.res) ρ M
  rw [h]
  unfold b53_2; simp only [(t53_6 call nl lo)] <;> (show _ = _; kernel_rfl)
def k53_7 (call : CallT) (nl lo : Nat) : Rg → MM → Option (AV × MM) := (execC call modeF lo nl p53_2 (k53_2 call nl lo) noE (endK cf53.res))
abbrev b53_7 (call : CallT) (nl lo : Nat) (x4 x5 x6 x7 : AV) (M : MM) : Option (AV × MM) :=
  opt (fldA 0 2 true x4) fun v1 =>
  opt (ld1A (lk M) x6) fun v2 =>
  opt (puA call (lk M) 71 [v1, v2]) fun v3 =>
  b53_2 call nl lo x4 x5 x6 x7 v3 M
theorem t53_7 (call : CallT) (nl lo : Nat) (ρ : Rg) (M : MM) : k53_7 call nl lo ρ M = b53_7 call nl lo (ρ 4) (ρ 5) (ρ 6) (ρ 7) M := by
  have h : ∀ (z0 : Rg → MM → Option (AV × MM)), (execC call modeF lo nl p53_2 z0 noE (endK cf53.res)) ρ M = (opt (fldA 0 2 true (ρ 4)) fun v1 =>
  opt (ld1A (lk M) (ρ 6)) fun v2 =>
  opt (puA call (lk M) 71 [v1, v2]) fun v3 =>
  z0 (sF (sF (sF (sF ρ 10 v1) 11 v2) 12 v3) 9 v3) M) := by intros; kernel_rfl
  refine (h (k53_2 call nl lo)).trans ?_
  unfold b53_7; simp only [(t53_2 call nl lo)] <;> (show _ = _; kernel_rfl)
def k53_1 (call : CallT) (nl lo : Nat) : Rg → MM → Option (AV × MM) := (execC call modeF lo nl p53_16 (endK cf53.res) noE (endK cf53.res))
abbrev b53_1 (call : CallT) (nl lo : Nat) (x4 x5 x6 x7 : AV) (M : MM) : Option (AV × MM) :=
  b53_7 call nl lo x4 x5 x6 x7 M
theorem t53_1 (call : CallT) (nl lo : Nat) (ρ : Rg) (M : MM) : k53_1 call nl lo ρ M = b53_1 call nl lo (ρ 4) (ρ 5) (ρ 6) (ρ 7) M := by
  have h : k53_1 call nl lo ρ M = (k53_7 call nl lo ρ M) := by kernel_rfl
  rw [h]
  unfold b53_1; simp only [(t53_7 call nl lo)] <;> (show _ = _; kernel_rfl)
def k53_8 (call : CallT) (nl lo : Nat) : Rg → MM → Option (AV × MM) := (execC call modeF lo nl p53_1 (k53_1 call nl lo) noE (endK cf53.res))
abbrev b53_8 (call : CallT) (nl lo : Nat) (x0 x1 x2 x3 : AV) (M : MM) : Option (AV × MM) :=
  opt (aggA x0) fun v1 =>
  upK M M.nx fun M2 =>
  bnd (istep call modeF false lo (.top M2.nx) M2.nx (.box 27 (.k x1)) [] M2) fun v3 M4 =>
  bnd (istep call modeF false lo (.top M4.nx) M4.nx (.box 35 (.k x2)) [] M4) fun v5 M6 =>
  bnd (istep call modeF false lo (.top M6.nx) M6.nx (.box 67 (.k x3)) [] M6) fun v7 M8 =>
  b53_1 call nl lo v1 v3 v5 v7 M8
theorem t53_8 (call : CallT) (nl lo : Nat) (ρ : Rg) (M : MM) : k53_8 call nl lo ρ M = b53_8 call nl lo (ρ 0) (ρ 1) (ρ 2) (ρ 3) M := by
  have h : ∀ (z0 : Rg → MM → Option (AV × MM)), (execC call modeF lo nl p53_1 z0 noE (endK cf53.res)) ρ M = (opt (aggA (ρ 0)) fun v1 =>
  upK M M.nx fun M2 =>
  bnd (istep call modeF false lo (.top M2.nx) M2.nx (.box 27 (.k (ρ 1))) [] M2) fun v3 M4 =>
  bnd (istep call modeF false lo (.top M4.nx) M4.nx (.box 35 (.k (ρ 2))) [] M4) fun v5 M6 =>
  bnd (istep call modeF false lo (.top M6.nx) M6.nx (.box 67 (.k (ρ 3))) [] M6) fun v7 M8 =>
  z0 (sF (sF (sF (sF (sF ρ 4 v1) 5 v3) 6 v5) 7 v7) 8 (.bool false)) M8) := by intros; kernel_rfl
  refine (h (k53_1 call nl lo)).trans ?_
  unfold b53_8; simp only [(t53_1 call nl lo)] <;> (show _ = _; kernel_rfl)
def k53_0 (call : CallT) (nl lo : Nat) : Rg → MM → Option (AV × MM) := (execC call modeF lo nl p53_17 (endK cf53.res) noE (endK cf53.res))
abbrev b53_0 (call : CallT) (nl lo : Nat) (x0 x1 x2 x3 : AV) (M : MM) : Option (AV × MM) :=
  b53_8 call nl lo x0 x1 x2 x3 M
theorem t53_0 (call : CallT) (nl lo : Nat) (ρ : Rg) (M : MM) : k53_0 call nl lo ρ M = b53_0 call nl lo (ρ 0) (ρ 1) (ρ 2) (ρ 3) M := by
  have h : k53_0 call nl lo ρ M = (k53_8 call nl lo ρ M) := execC_seq call modeF lo nl p53_1 p53_16 (endK cf53.res) noE (endK cf53.res) ρ M
  rw [h]
  unfold b53_0; simp only [(t53_8 call nl lo)] <;> (show _ = _; kernel_rfl)
def k53_9 (call : CallT) (nl lo : Nat) : Rg → MM → Option (AV × MM) := (execC call modeF lo nl p53_0 (k53_0 call nl lo) noE (endK cf53.res))
abbrev b53_9 (call : CallT) (nl lo : Nat) (x0 x1 x2 x3 : AV) (M : MM) : Option (AV × MM) :=
  b53_0 call nl lo x0 x1 x2 x3 M
theorem t53_9 (call : CallT) (nl lo : Nat) (ρ : Rg) (M : MM) : k53_9 call nl lo ρ M = b53_9 call nl lo (ρ 0) (ρ 1) (ρ 2) (ρ 3) M := by
  have h : ∀ (z0 : Rg → MM → Option (AV × MM)), (execC call modeF lo nl p53_0 z0 noE (endK cf53.res)) ρ M = (z0 (sF ρ 4 (.tup [])) M) := by intros; kernel_rfl
  refine (h (k53_0 call nl lo)).trans ?_
  unfold b53_9; simp only [(t53_0 call nl lo)] <;> (show _ = _; kernel_rfl)
def s53 (call : CallT) (nl lo : Nat) (a0 a1 a2 a3 : AV) (M : MM) : Option (AV × MM) :=
  b53_9 call nl lo a0 a1 a2 a3 M
theorem e53 (call : CallT) (nl lo : Nat) (a0 a1 a2 a3 : AV) (M : MM) : execC call modeF lo nl cf53.body (endK cf53.res) noE (endK cf53.res) (aF [a0, a1, a2, a3]) M = s53 call nl lo a0 a1 a2 a3 M := by
  have h : execC call modeF lo nl cf53.body (endK cf53.res) noE (endK cf53.res) (aF [a0, a1, a2, a3]) M = (k53_9 call nl lo (aF [a0, a1, a2, a3]) M) := execC_seq call modeF lo nl p53_0 p53_17 (endK cf53.res) noE (endK cf53.res) (aF [a0, a1, a2, a3]) M
  refine h.trans ?_
  unfold s53; simp only [(t53_9 call nl lo)] <;> (show _ = _; kernel_rfl)
theorem q53 {call : CallT} (hc : Lim G call) (lo : Nat) (a0 a1 a2 a3 : AV) (M : MM) : call 53 [a0, a1, a2, a3] lo M = s53 call G.nl lo a0 a1 a2 a3 M :=
  (hc.flow (cf := cf53) rfl w53 [a0, a1, a2, a3] lo M).trans (e53 call G.nl lo a0 a1 a2 a3 M)

/-! ### function 54 -/
theorem w54 : wfK cf54.nt cf54.body = true := by kernel_rfl
def s54 (call : CallT) (nl lo : Nat) (a0 a1 : AV) (M : MM) : Option (AV × MM) :=
  bnd (call 77 [a0, a1] lo M) fun v4 M5 =>
  opt (binA .geq .none v4 (.i 0)) fun v6 =>
  some (v6, M5)
theorem e54 (call : CallT) (nl lo : Nat) (a0 a1 : AV) (M : MM) : execC call modeF lo nl cf54.body (endK cf54.res) noE (endK cf54.res) (aF [a0, a1]) M = s54 call nl lo a0 a1 M := by
  kernel_rfl
theorem q54 {call : CallT} (hc : Lim G call) (lo : Nat) (a0 a1 : AV) (M : MM) : call 54 [a0, a1] lo M = s54 call G.nl lo a0 a1 M :=
  (hc.flow (cf := cf54) rfl w54 [a0, a1] lo M).trans (e54 call G.nl lo a0 a1 M)

/-! ### function 55 -/
theorem w55 : wfK cf55.nt cf55.body = true := by kernel_rfl
def k55_3 (call : CallT) (nl lo : Nat) : Rg → MM → Option (AV × MM) := (execC call modeF lo nl p55_18 (endK cf55.res) noE (endK cf55.res))
abbrev b55_3 (call : CallT) (nl lo : Nat) (x2 x3 : AV) (M : MM) : Option (AV × MM) :=
  opt (fldA 0 2 true x3) fun v1 =>
  opt (setcA 0 2 x2 v1) fun v2 =>
  opt (locA 2 true v2) fun r => some (r, M)
theorem t55_3 (call : CallT) (nl lo : Nat) (ρ : Rg) (M : MM) : k55_3 call nl lo ρ M = b55_3 call nl lo (ρ 2) (ρ 3) M := by
  kernel_rfl
def k55_5 (call : CallT) (nl lo : Nat) (n : Nat) : Rg → MM → Option (AV × MM) := iterC (fun k ρ M => execC call modeF lo nl p55_13 k (fun i ρ M => if i = 0 then (k55_3 call nl lo) ρ M else noE i ρ M) (endK cf55.res) ρ M) n
def b55_5 (call : CallT) (nl lo : Nat) : Nat → AV → AV → AV → AV → AV → MM → Option (AV × MM)
  | 0, _, _, _, _, _, _ => none
  | n + 1, x2, x3, x10, x11, x12, M =>
  opt (binA .lss .none x12 x11) fun v7 =>
  isB v7 fun c8 => if c8 then (opt (ixsA 2 x10 x12) fun v9 =>
  opt (ldnA (lk M) 2 v9) fun v10 =>
  upK M M.nx fun M12 =>
  opt (setcA 0 2 (.agg [.str ⟨⟨[]⟩⟩, .d (.sl [] 0)]) v10) fun v13 =>
  bumpK M12 8 fun M14 =>
  opt (fldA 0 0 true x3) fun v15 =>
  opt (fldA 1 1 false x3) fun v16 =>
  opt (fldA 0 2 true v13) fun v17 =>
  opt (puA call (look M14.mem (.mk M12.nx 8 4 true)) 55 [v17]) fun v18 =>
  opt (wslA 1 (fill [.str ⟨⟨[]⟩⟩, .d (.sl [] 0)] [(0, 2, v18)])) fun v19 =>
  upK M14 (M12.nx + 4) fun M20 =>
  opt (wappA M20.mem (.top M20.nx) 2 40 v16 v19) fun v21 =>
  upK M20 (M12.nx + 5) fun M22 =>
  opt (fldA 0 0 true x3) fun v23 =>
  opt (setcA 1 1 x3 v21) fun v24 =>
  opt (binA .add .none x12 (.i 1)) fun v25 =>
  (b55_5 call nl lo n) x2 v24 x10 x11 v25 M22)
  else (b55_3 call nl lo x2 x3 M)
theorem t55_5 (call : CallT) (nl lo : Nat) : ∀ (n : Nat) (ρ : Rg) (M : MM), k55_5 call nl lo n ρ M = b55_5 call nl lo n (ρ 2) (ρ 3) (ρ 10) (ρ 11) (ρ 12) M
  | 0, ρ, M => rfl
  | n + 1, ρ, M => by
    have h : ∀ (zb z0 : Rg → MM → Option (AV × MM)), execC call modeF lo nl p55_13 zb (fun i ρ M => if i = 0 then z0 ρ M else noE i ρ M) (endK cf55.res) ρ M = (opt (binA .lss .none (ρ 12) (ρ 11)) fun v7 =>
    isB v7 fun c8 => if c8 then (opt (ixsA 2 (ρ 10) (ρ 12)) fun v9 =>
    opt (ldnA (lk M) 2 v9) fun v10 =>
    upK M M.nx fun M12 =>
    opt (setcA 0 2 (.agg [.str ⟨⟨[]⟩⟩, .d (.sl [] 0)]) v10) fun v13 =>
    bumpK M12 8 fun M14 =>
    opt (fldA 0 0 true (ρ 3)) fun v15 =>
    opt (fldA 1 1 false (ρ 3)) fun v16 =>
    opt (fldA 0 2 true v13) fun v17 =>
    opt (puA call (look M14.mem (.mk M12.nx 8 4 true)) 55 [v17]) fun v18 =>
    opt (wslA 1 (fill [.str ⟨⟨[]⟩⟩, .d (.sl [] 0)] [(0, 2, v18)])) fun v19 =>
    upK M14 (M12.nx + 4) fun M20 =>
    opt (wappA M20.mem (.top M20.nx) 2 40 v16 v19) fun v21 =>
    upK M20 (M12.nx + 5) fun M22 =>
    opt (fldA 0 0 true (ρ 3)) fun v23 =>
    opt (setcA 1 1 (ρ 3) v21) fun v24 =>
    opt (binA .add .none (ρ 12) (.i 1)) fun v25 =>
    zb (sF (sF (sF (sF (sF (sF (sF (sF (sF (sF (sF (sF (sF (sF (sF ρ 13 v7) 14 v9) 15 v10) 5 (.agg [.str ⟨⟨[]⟩⟩, .d (.sl [] 0)])) 5 v13) 16 v15) 17 v16) 18 v17) 19 v18) 20 v19) 21 v21) 22 v23) 3 v24) 23 v25) 12 v25) M22)
    else (z0 (sF ρ 13 v7) M)) := by intros; kernel_rfl
    refine (h (k55_5 call nl lo n) (k55_3 call nl lo)).trans ?_
    unfold b55_5; simp only [(t55_3 call nl lo), (t55_5 call nl lo n)] <;> (show _ = _; kernel_rfl)
def k55_4 (call : CallT) (nl lo : Nat) : Rg → MM → Option (AV × MM) := (execC call modeF lo nl p55_16 (k55_3 call nl lo) noE (endK cf55.res))
abbrev b55_4 (call : CallT) (nl lo : Nat) (x1 x2 x3 : AV) (M : MM) : Option (AV × MM) :=
  opt (fldA 0 0 true x1) fun v3 =>
  opt (fldA 1 1 false x1) fun v4 =>
  opt (lenA v4) fun v5 =>
  b55_5 call nl lo nl x2 x3 v4 v5 (.i 0) M
theorem t55_4 (call : CallT) (nl lo : Nat) (ρ : Rg) (M : MM) : k55_4 call nl lo ρ M = b55_4 call nl lo (ρ 1) (ρ 2) (ρ 3) M := by
  have h : k55_4 call nl lo ρ M = (opt (fldA 0 0 true (ρ 1)) fun v3 =>
  opt (fldA 1 1 false (ρ 1)) fun v4 =>
  opt (lenA v4) fun v5 =>
  k55_5 call nl lo nl (sF (sF (sF (sF ρ 9 v3) 10 v4) 11 v5) 12 (.i 0)) M) := by kernel_rfl
  rw [h]
  unfold b55_4; simp only [(t55_5 call nl lo nl)] <;> (show _ = _; kernel_rfl)
def k55_2 (call : CallT) (nl lo : Nat) : Rg → MM → Option (AV × MM) := (execC call modeF lo nl p55_19 (endK cf55.res) noE (endK cf55.res))
abbrev b55_2 (call : CallT) (nl lo : Nat) (x1 x2 x3 : AV) (M : MM) : Option (AV × MM) :=
  b55_4 call nl lo x1 x2 x3 M
theorem t55_2 (call : CallT) (nl lo : Nat) (ρ : Rg) (M : MM) : k55_2 call nl lo ρ M = b55_2 call nl lo (ρ 1) (ρ 2) (ρ 3) M := by
  have h : k55_2 call nl lo ρ M = (k55_4 call nl lo ρ M) := execC_seq call modeF lo nl p55_16 p55_18 (endK cf55.res) noE (endK cf55.res) ρ M
  rw [h]
  unfold b55_2; simp only [(t55_4 call nl lo)] <;> (show _ = _; kernel_rfl)
def k55_6 (call : CallT) (nl lo : Nat) : Rg → MM → Option (AV × MM) := (execC call modeF lo nl p55_2 (k55_2 call nl lo) noE (endK cf55.res))
abbrev b55_6 (call : CallT) (nl lo : Nat) (x1 x2 : AV) (M : MM) : Option (AV × MM) :=
  opt (fldA 0 0 true x1) fun v1 =>
  opt (fldA 0 1 false x1) fun v2 =>
  opt ((fill [.str ⟨⟨[]⟩⟩, .d (.sl [] 0)] [(0, 1, v2)]).map .agg) fun v3 =>
  upK M M.nx fun M5 =>
  opt (setcA 0 2 (.agg [.str ⟨⟨[]⟩⟩, .d (.sl [] 0)]) v3) fun v6 =>
  b55_2 call nl lo x1 x2 v6 M5
theorem t55_6 (call : CallT) (nl lo : Nat) (ρ : Rg) (M : MM) : k55_6 call nl lo ρ M = b55_6 call nl lo (ρ 1) (ρ 2) M := by
  have h : ∀ (z0 : Rg → MM → Option (AV × MM)), (execC call modeF lo nl p55_2 z0 noE (endK cf55.res)) ρ M = (opt (fldA 0 0 true (ρ 1)) fun v1 =>
  opt (fldA 0 1 false (ρ 1)) fun v2 =>
  opt ((fill [.str ⟨⟨[]⟩⟩, .d (.sl [] 0)] [(0, 1, v2)]).map .agg) fun v3 =>
  upK M M.nx fun M5 =>
  opt (setcA 0 2 (.agg [.str ⟨⟨[]⟩⟩, .d (.sl [] 0)]) v3) fun v6 =>
  z0 (sF (sF (sF (sF (sF ρ 6 v1) 7 v2) 8 v3) 3 (.agg [.str ⟨⟨[]⟩⟩, .d (.sl [] 0)])) 3 v6) M5) := by intros; kernel_rfl
  refine (h (k55_2 call nl lo)).trans ?_
  unfold b55_6; simp only [(t55_2 call nl lo)] <;> (show _ = _; kernel_rfl)
def k55_1 (call : CallT) (nl lo : Nat) : Rg → MM → Option (AV × MM) := (execC call modeF lo nl p55_20 (endK cf55.res) noE (endK cf55.res))
abbrev b55_1 (call : CallT) (nl lo : Nat) (x1 x2 : AV) (M : MM) : Option (AV × MM) :=
  b55_6 call nl lo x1 x2 M
theorem t55_1 (call : CallT) (nl lo : Nat) (ρ : Rg) (M : MM) : k55_1 call nl lo ρ M = b55_1 call nl lo (ρ 1) (ρ 2) M := by
  have h : k55_1 call nl lo ρ M = (k55_6 call nl lo ρ M) := execC_seq call modeF lo nl p55_2 p55_19 (endK cf55.res) noE (endK cf55.res) ρ M
  rw [h]
  unfold b55_1; simp only [(t55_6 call nl lo)] <;> (show _ = _; kernel_rfl)
def k55_7 (call : CallT) (nl lo : Nat) : Rg → MM → Option (AV × MM) := (execC call modeF lo nl p55_1 (k55_1 call nl lo) noE (endK cf55.res))
abbrev b55_7 (call : CallT) (nl lo : Nat) (x0 : AV) (M : MM) : Option (AV × MM) :=
  opt (aggA x0) fun v1 =>
  upK M M.nx fun M2 =>
  upK M2 M2.nx fun M4 =>
  b55_1 call nl lo v1 (.agg [.str ⟨⟨[]⟩⟩, .d (.sl [] 0)]) M4
theorem t55_7 (call : CallT) (nl lo : Nat) (ρ : Rg) (M : MM) : k55_7 call nl lo ρ M = b55_7 call nl lo (ρ 0) M := by
  have h : ∀ (z0 : Rg → MM → Option (AV × MM)), (execC call modeF lo nl p55_1 z0 noE (endK cf55.res)) ρ M = (opt (aggA (ρ 0)) fun v1 =>
  upK M M.nx fun M2 =>
  upK M2 M2.nx fun M4 =>
  z0 (sF (sF ρ 1 v1) 2 (.agg [.str ⟨⟨[]⟩⟩, .d (.sl [] 0)])) M4) := by intros; kernel_rfl
  refine (h (k55_1 call nl lo)).trans ?_
  unfold b55_7; simp only [(t55_1 call nl lo)] <;> (show _ = _; kernel_rfl)
def k55_0 (call : CallT) (nl lo : Nat) : Rg → MM → Option (AV × MM) := (execC call modeF lo nl p55_21 (endK cf55.res) noE (endK cf55.res))
abbrev b55_0 (call : CallT) (nl lo : Nat) (x0 : AV) (M : MM) : Option (AV × MM) :=
  b55_7 call nl lo x0 M
theorem t55_0 (call : CallT) (nl lo : Nat) (ρ : Rg) (M : MM) : k55_0 call nl lo ρ M = b55_0 call nl lo (ρ 0) M := by
  have h : k55_0 call nl lo ρ M = (k55_7 call nl lo ρ M) := execC_seq call modeF lo nl p55_1 p55_20 (endK cf55.res) noE (endK cf55.res) ρ M
  rw [h]
  unfold b55_0; simp only [(t55_7 call nl lo)] <;> (show _ = _; kernel_rfl)
def k55_8 (call : CallT) (nl lo : Nat) : Rg → MM → Option (AV × MM) := (execC call modeF lo nl p55_0 (k55_0 call nl lo) noE (endK cf55.res))
abbrev b55_8 (call : CallT) (nl lo : Nat) (x0 : AV) (M : MM) : Option (AV × MM) :=
  b55_0 call nl lo x0 M
theorem t55_8 (call : CallT) (nl lo : Nat) (ρ : Rg) (M : MM) : k55_8 call nl lo ρ M = b55_8 call nl lo (ρ 0) M := by
  have h : ∀ (z0 : Rg → MM → Option (AV × MM)), (execC call modeF lo nl p55_0 z0 noE (endK cf55.res)) ρ M = (z0 (sF (sF (sF (sF ρ 1 (.tup [])) 2 (.tup [])) 3 (.tup [])) 5 (.tup [])) M) := by intros; kernel_rfl
  refine (h (k55_0 call nl lo)).trans ?_
  unfold b55_8; simp only [(t55_0 call nl lo)] <;> (show _ = _; kernel_rfl)
def s55 (call : CallT) (nl lo : Nat) (a0 : AV) (M : MM) : Option (AV × MM) :=
  b55_8 call nl lo a0 M
theorem e55 (call : CallT) (nl lo : Nat) (a0 : AV) (M : MM) : execC call modeF lo nl cf55.body (endK cf55.res) noE (endK cf55.res) (aF [a0]) M = s55 call nl lo a0 M := by
  have h : execC call modeF lo nl cf55.body (endK cf55.res) noE (endK cf55.res) (aF [a0]) M = (k55_8 call nl lo (aF [a0]) M) := execC_seq call modeF lo nl p55_0 p55_21 (endK cf55.res) noE (endK cf55.res) (aF [a0]) M
  refine h.trans ?_
  unfold s55; simp only [(t55_8 call nl lo)] <;> (show _ = _; kernel_rfl)
theorem q55 {call : CallT} (hc : Lim G call) (lo : Nat) (a0 : AV) (M : MM) : call 55 [a0] lo M = s55 call G.nl lo a0 M :=
  (hc.flow (cf := cf55) rfl w55 [a0] lo M).trans (e55 call G.nl lo a0 M)

/-! ### function 57 -/
theorem w57 : wfK cf57.nt cf57.body = true := by kernel_rfl
def k57_3 (call : CallT) (nl lo : Nat) : Rg → MM → Option (AV × MM) := (execC call modeF lo nl p57_21 (endK cf57.res) noE (endK cf57.res))
abbrev b57_3 (call : CallT) (nl lo : Nat) (x0 : AV) (M : MM) : Option (AV × MM) :=
  some (x0, M)
theorem t57_3 (call : CallT) (nl lo : Nat) (ρ : Rg) (M : MM) : k57_3 call nl lo ρ M = b57_3 call nl lo (ρ 0) M := by
  kernel_rfl
def k57_5 (call : CallT) (nl lo : Nat) (n : Nat) : Rg → MM → Option (AV × MM) := iterC (fun k ρ M => execC call modeF lo nl p57_16 k (fun i ρ M => if i = 0 then (k57_3 call nl lo) ρ M else noE i ρ M) (endK cf57.res) ρ M) n
def b57_5 (call : CallT) (nl lo : Nat) : Nat → AV → AV → AV → AV → MM → Option (AV × MM)
  | 0, _, _, _, _, _ => none
  | n + 1, x0, x23, x24, x25, M =>
  opt (binA .lss .none x25 x24) fun v7 =>
  isB v7 fun c8 => if c8 then (opt (ixsA 2 x23 x25) fun v9 =>
  opt (ldnA (lk M) 2 v9) fun v10 =>
  upK M M.nx fun M12 =>
  opt (setcA 0 2 (.agg [.str ⟨⟨[]⟩⟩, .d (.sl [] 0)]) v10) fun v13 =>
  opt (fldA 0 2 true v13) fun v15 =>
  bnd (call 57 [x0, v15] lo M12) fun v16 M17 =>
  opt (binA .add .none x25 (.i 1)) fun v19 =>
  (b57_5 call nl lo n) v16 x23 x24 v19 M17)
  else (b57_3 call nl lo x0 M)
theorem t57_5 (call : CallT) (nl lo : Nat) : ∀ (n : Nat) (ρ : Rg) (M : MM), k57_5 call nl lo n ρ M = b57_5 call nl lo n (ρ 0) (ρ 23) (ρ 24) (ρ 25) M
  | 0, ρ, M => rfl
  | n + 1, ρ, M => by
    have h : ∀ (zb z0 : Rg → MM → Option (AV × MM)), execC call modeF lo nl p57_16 zb (fun i ρ M => if i = 0 then z0 ρ M else noE i ρ M) (endK cf57.res) ρ M = (opt (binA .lss .none (ρ 25) (ρ 24)) fun v7 =>
    isB v7 fun c8 => if c8 then (opt (ixsA 2 (ρ 23) (ρ 25)) fun v9 =>
    opt (ldnA (lk M) 2 v9) fun v10 =>
    upK M M.nx fun M12 =>
    opt (setcA 0 2 (.agg [.str ⟨⟨[]⟩⟩, .d (.sl [] 0)]) v10) fun v13 =>
    opt (fldA 0 2 true v13) fun v15 =>
    bnd (call 57 [(ρ 0), v15] lo M12) fun v16 M17 =>
    opt (binA .add .none (ρ 25) (.i 1)) fun v19 =>
    zb (sF (sF (sF (sF (sF (sF (sF (sF (sF (sF (sF ρ 26 v7) 27 v9) 28 v10) 6 (.agg [.str ⟨⟨[]⟩⟩, .d (.sl [] 0)])) 6 v13) 29 (ρ 0)) 30 v15) 31 v16) 0 v16) 32 v19) 25 v19) M17)
    else (z0 (sF ρ 26 v7) M)) := by intros; kernel_rfl
    refine (h (k57_5 call nl lo n) (k57_3 call nl lo)).trans ?_
    unfold b57_5; simp only [(t57_3 call nl lo), (t57_5 call nl lo n)] <;> (show _ = _; kernel_rfl)
def k57_4 (call : CallT) (nl lo : Nat) : Rg → MM → Option (AV × MM) := (execC call modeF lo nl p57_19 (k57_3 call nl lo) noE (endK cf57.res))
abbrev b57_4 (call : CallT) (nl lo : Nat) (x0 x3 : AV) (M : MM) : Option (AV × MM) :=
  opt (fldA 0 0 true x3) fun v3 =>
  opt (fldA 1 1 false x3) fun v4 =>
  opt (lenA v4) fun v5 =>
  b57_5 call nl lo nl x0 v4 v5 (.i 0) M
theorem t57_4 (call : CallT) (nl lo : Nat) (ρ : Rg) (M : MM) : k57_4 call nl lo ρ M = b57_4 call nl lo (ρ 0) (ρ 3) M := by
  have h : k57_4 call nl lo ρ M = (opt (fldA 0 0 true (ρ 3)) fun v3 =>
  opt (fldA 1 1 false (ρ 3)) fun v4 =>
  opt (lenA v4) fun v5 =>
  k57_5 call nl lo nl (sF (sF (sF (sF ρ 22 v3) 23 v4) 24 v5) 25 (.i 0)) M) := by kernel_rfl
  rw [h]
  unfold b57_4; simp only [(t57_5 call nl lo nl)] <;> (show _ = _; kernel_rfl)
def k57_2 (call : CallT) (nl lo : Nat) : Rg → MM → Option (AV × MM) := (execC call modeF lo nl p57_22 (endK cf57.res) noE (endK cf57.res))
abbrev b57_2 (call : CallT) (nl lo : Nat) (x0 x3 : AV) (M : MM) : Option (AV × MM) :=
  b57_4 call nl lo x0 x3 M
theorem t57_2 (call : CallT) (nl lo : Nat) (ρ : Rg) (M : MM) : k57_2 call nl lo ρ M = b57_2 call nl lo (ρ 0) (ρ 3) M := by
  have h : k57_2 call nl lo ρ M = (k57_4 call nl lo ρ M) := execC_seq call modeF lo nl p57_19 p57_21 (endK cf57.res) noE (endK cf57.res) ρ M
  rw [h]
  unfold b57_2; simp only [(t57_4 call nl lo)] <;> (show _ = _; kernel_rfl)
def k57_6 (call : CallT) (nl lo : Nat) : Rg → MM → Option (AV × MM) := (execC call modeF lo nl p57_5 (k57_2 call nl lo) noE (endK cf57.res))
abbrev b57_6 (call : CallT) (nl lo : Nat) (x0 x3 : AV) (M : MM) : Option (AV × MM) :=
  opt (fldA 0 0 true x3) fun v1 =>
  opt (fldA 0 1 false x3) fun v2 =>
  opt (puA call (lk M) 58 [v2]) fun v3 =>
  opt (gdp v3 true (some x0)) fun v5 =>
  opt (gdp v3 true (fldA 0 0 true x3)) fun v6 =>
  opt (gdp v3 true (fldA 0 1 false x3)) fun v7 =>
  opt (gdp v3 true (puA call (lk M) 70 [v5, v7])) fun v8 =>
  opt (gdp v3 true (unA .not v8)) fun v9 =>
  opt (pickA v3 v9 (.bool false)) fun v10 =>
  isB v10 fun c11 => if c11 then (opt (fldA 0 0 true x3) fun v13 =>
  opt (fldA 0 1 false x3) fun v14 =>
  opt (wslA 1 (fill [.str ⟨⟨[]⟩⟩] [(0, 1, v14)])) fun v15 =>
  upK M M.nx fun M16 =>
  opt (wappA M16.mem (.top M16.nx) 1 16 x0 v15) fun v17 =>
  upK M16 M16.nx fun M18 =>
  b57_2 call nl lo v17 x3 M18)
  else (b57_2 call nl lo x0 x3 M)
theorem t57_6 (call : CallT) (nl lo : Nat) (ρ : Rg) (M : MM) : k57_6 call nl lo ρ M = b57_6 call nl lo (ρ 0) (ρ 3) M := by
  have h : ∀ (z0 : Rg → MM → Option (AV × MM)), (execC call modeF lo nl p57_5 z0 noE (endK cf57.res)) ρ M = (opt (fldA 0 0 true (ρ 3)) fun v1 =>
  opt (fldA 0 1 false (ρ 3)) fun v2 =>
  opt (puA call (lk M) 58 [v2]) fun v3 =>
  opt (gdp v3 true (some (ρ 0))) fun v5 =>
  opt (gdp v3 true (fldA 0 0 true (ρ 3))) fun v6 =>
  opt (gdp v3 true (fldA 0 1 false (ρ 3))) fun v7 =>
  opt (gdp v3 true (puA call (lk M) 70 [v5, v7])) fun v8 =>
  opt (gdp v3 true (unA .not v8)) fun v9 =>
  opt (pickA v3 v9 (.bool false)) fun v10 =>
  isB v10 fun c11 => if c11 then (opt (fldA 0 0 true (ρ 3)) fun v13 =>
  opt (fldA 0 1 false (ρ 3)) fun v14 =>
  opt (wslA 1 (fill [.str ⟨⟨[]⟩⟩] [(0, 1, v14)])) fun v15 =>
  upK M M.nx fun M16 =>
  opt (wappA M16.mem (.top M16.nx) 1 16 (ρ 0) v15) fun v17 =>
  upK M16 M16.nx fun M18 =>
  z0 (sF (sF (sF (sF (sF (sF (sF (sF (sF (sF (sF (sF (sF (sF (sF (sF ρ 7 v1) 8 v2) 9 v3) 10 v3) 11 v5) 12 v6) 13 v7) 14 v8) 15 v9) 16 v10) 17 (ρ 0)) 18 v13) 19 v14) 20 v15) 21 v17) 0 v17) M18)
  else (z0 (sF (sF (sF (sF (sF (sF (sF (sF (sF (sF ρ 7 v1) 8 v2) 9 v3) 10 v3) 11 v5) 12 v6) 13 v7) 14 v8) 15 v9) 16 v10) M)) := by intros; kernel_rfl
  refine (h (k57_2 call nl lo)).trans ?_
  unfold b57_6; simp only [(t57_2 call nl lo)] <;> (show _ = _; kernel_rfl)
def k57_1 (call : CallT) (nl lo : Nat) : Rg → MM → Option (AV × MM) := (execC call modeF lo nl p57_23 (endK cf57.res) noE (endK cf57.res))
abbrev b57_1 (call : CallT) (nl lo : Nat) (x0 x3 : AV) (M : MM) : Option (AV × MM) :=
  b57_6 call nl lo x0 x3 M
theorem t57_1 (call : CallT) (nl lo : Nat) (ρ : Rg) (M : MM) : k57_1 call nl lo ρ M = b57_1 call nl lo (ρ 0) (ρ 3) M := by
  have h : k57_1 call nl lo ρ M = (k57_6 call nl lo ρ M) := execC_seq call modeF lo nl p57_5 p57_22 (endK cf57.res) noE (endK cf57.res) ρ M
  rw [h]
  unfold b57_1; simp only [(t57_6 call nl lo)] <;> (show _ = _; kernel_rfl)
def k57_7 (call : CallT) (nl lo : Nat) : Rg → MM → Option (AV × MM) := (execC call modeF lo nl p57_1 (k57_1 call nl lo) noE (endK cf57.res))
abbrev b57_7 (call : CallT) (nl lo : Nat) (x0 x1 : AV) (M : MM) : Option (AV × MM) :=
  opt (aggA x1) fun v1 =>
  upK M M.nx fun M2 =>
  b57_1 call nl lo x0 v1 M2
theorem t57_7 (call : CallT) (nl lo : Nat) (ρ : Rg) (M : MM) : k57_7 call nl lo ρ M = b57_7 call nl lo (ρ 0) (ρ 1) M := by
  have h : ∀ (z0 : Rg → MM → Option (AV × MM)), (execC call modeF lo nl p57_1 z0 noE (endK cf57.res)) ρ M = (opt (aggA (ρ 1)) fun v1 =>
  upK M M.nx fun M2 =>
  z0 (sF (sF ρ 3 v1) 4 (.d (.sl [] 0))) M2) := by intros; kernel_rfl
  refine (h (k57_1 call nl lo)).trans ?_
  unfold b57_7; simp only [(t57_1 call nl lo)] <;> (show _ = _; kernel_rfl)
def k57_0 (call : CallT) (nl lo : Nat) : Rg → MM → Option (AV × MM) := (execC call modeF lo nl p57_24 (endK cf57.res) noE (endK cf57.res))
abbrev b57_0 (call : CallT) (nl lo : Nat) (x0 x1 : AV) (M : MM) : Option (AV × MM) :=
  b57_7 call nl lo x0 x1 M
theorem t57_0 (call : CallT) (nl lo : Nat) (ρ : Rg) (M : MM) : k57_0 call nl lo ρ M = b57_0 call nl lo (ρ 0) (ρ 1) M := by
  have h : k57_0 call nl lo ρ M = (k57_7 call nl lo ρ M) := execC_seq call modeF lo nl p57_1 p57_23 (endK cf57.res) noE (endK cf57.res) ρ M
  rw [h]
  unfold b57_0; simp only [(t57_7 call nl lo)] <;> (show _ = _; kernel_rfl)
def k57_8 (call : CallT) (nl lo : Nat) : Rg → MM → Option (AV × MM) := (execC call modeF lo nl p57_0 (k57_0 call nl lo) noE (endK cf57.res))
abbrev b57_8 (call : CallT) (nl lo : Nat) (x0 x1 : AV) (M : MM) : Option (AV × MM) :=
  b57_0 call nl lo x0 x1 M
theorem t57_8 (call : CallT) (nl lo : Nat) (ρ : Rg) (M : MM) : k57_8 call nl lo ρ M = b57_8 call nl lo (ρ 0) (ρ 1) M := by
  have h : ∀ (z0 : Rg → MM → Option (AV × MM)), (execC call modeF lo nl p57_0 z0 noE (endK cf57.res)) ρ M = (z0 (sF (sF ρ 3 (.tup [])) 6 (.tup [])) M) := by intros; kernel_rfl
  refine (h (k57_0 call nl lo)).trans ?_
  unfold b57_8; simp only [(t57_0 call nl lo)] <;> (show _ = _; kernel_rfl)
def s57 (call : CallT) (nl lo : Nat) (a0 a1 : AV) (M : MM) : Option (AV × MM) :=
  b57_8 call nl lo a0 a1 M
theorem e57 (call : CallT) (nl lo : Nat) (a0 a1 : AV) (M : MM) : execC call modeF lo nl cf57.body (endK cf57.res) noE (endK cf57.res) (aF [a0, a1]) M = s57 call nl lo a0 a1 M := by
  have h : execC call modeF lo nl cf57.body (endK cf57.res) noE (endK cf57.res) (aF [a0, a1]) M = (k57_8 call nl lo (aF [a0, a1]) M) := execC_seq call modeF lo nl p57_0 p57_24 (endK cf57.res) noE (endK cf57.res) (aF [a0, a1]) M
  refine h.trans ?_
  unfold s57; simp only [(t57_8 call nl lo)] <;> (show _ = _; kernel_rfl)
theorem q57 {call : CallT} (hc : Lim G call) (lo : Nat) (a0 a1 : AV) (M : MM) : call 57 [a0, a1] lo M = s57 call G.nl lo a0 a1 M :=
  (hc.flow (cf := cf57) rfl w57 [a0, a1] lo M).trans (e57 call G.nl lo a0 a1 M)

/-! ### function 58 -/
theorem w58 : wfK cf58.nt cf58.body = true := by kernel_rfl
def s58 (call : CallT) (nl lo : Nat) (a0 : AV) (M : MM) : Option (AV × MM) :=
  opt (puA call (lk M) 37 [a0]) fun v3 =>
  opt (unA .not v3) fun v4 =>
  opt (gdp v4 true (some a0)) fun v6 =>
  opt (gdp v4 true (puA call (lk M) 61 [v6, (.str ⟨⟨[46]⟩⟩)])) fun v7 =>
  opt (gdp v4 true (unA .not v7)) fun v8 =>
  opt (pickA v4 v8 (.bool false)) fun v9 =>
  some (v9, M)
theorem e58 (call : CallT) (nl lo : Nat) (a0 : AV) (M : MM) : execC call modeF lo nl cf58.body (endK cf58.res) noE (endK cf58.res) (aF [a0]) M = s58 call nl lo a0 M := by
  kernel_rfl
theorem q58 {call : CallT} (hc : Lim G call) (lo : Nat) (a0 : AV) (M : MM) : call 58 [a0] lo M = s58 call G.nl lo a0 M :=
  (hc.flow (cf := cf58) rfl w58 [a0] lo M).trans (e58 call G.nl lo a0 M)

/-! ### function 59 -/
theorem w59 : wfK cf59.nt cf59.body = true := by kernel_rfl
def s59 (call : CallT) (nl lo : Nat) (a0 a1 : AV) (M : MM) : Option (AV × MM) :=
  bnd (call 78 [a0, a1] lo M) fun v4 M5 =>
  opt (binA .geq .none v4 (.i 0)) fun v6 =>
  some (v6, M5)
theorem e59 (call : CallT) (nl lo : Nat) (a0 a1 : AV) (M : MM) : execC call modeF lo nl cf59.body (endK cf59.res) noE (endK cf59.res) (aF [a0, a1]) M = s59 call nl lo a0 a1 M := by
  kernel_rfl
theorem q59 {call : CallT} (hc : Lim G call) (lo : Nat) (a0 a1 : AV) (M : MM) : call 59 [a0, a1] lo M = s59 call G.nl lo a0 a1 M :=
  (hc.flow (cf := cf59) rfl w59 [a0, a1] lo M).trans (e59 call G.nl lo a0 a1 M)

/-! ### function 60 -/
theorem w60 : wfK cf60.nt cf60.body = true := by kernel_rfl
def s60 (call : CallT) (nl lo : Nat) (a0 : AV) (M : MM) : Option (AV × MM) :=
  opt (aggA a0) fun v2 =>
  upK M M.nx fun M3 =>
  opt (fldA 0 2 true v2) fun v5 =>
  opt (puA call (lk M3) 27 [v5]) fun v6 =>
  opt (unA .not v6) fun v7 =>
  some (v7, M3)
theorem e60 (call : CallT) (nl lo : Nat) (a0 : AV) (M : MM) : execC call modeF lo nl cf60.body (endK cf60.res) noE (endK cf60.res) (aF [a0]) M = s60 call nl lo a0 M := by
  kernel_rfl
theorem q60 {call : CallT} (hc : Lim G call) (lo : Nat) (a0 : AV) (M : MM) : call 60 [a0] lo M = s60 call G.nl lo a0 M :=
  (hc.flow (cf := cf60) rfl w60 [a0] lo M).trans (e60 call G.nl lo a0 M)

/-! ### function 61 -/
theorem w61 : wfK cf61.nt cf61.body = true := by kernel_rfl
def s61 (call : CallT) (nl lo : Nat) (a0 a1 : AV) (M : MM) : Option (AV × MM) :=
  opt (puA call (lk M) 79 [a0, a1]) fun v4 =>
  opt (binA .geq .none v4 (.i 0)) fun v5 =>
  some (v5, M)
theorem e61 (call : CallT) (nl lo : Nat) (a0 a1 : AV) (M : MM) : execC call modeF lo nl cf61.body (endK cf61.res) noE (endK cf61.res) (aF [a0, a1]) M = s61 call nl lo a0 a1 M := by
  kernel_rfl
theorem q61 {call : CallT} (hc : Lim G call) (lo : Nat) (a0 a1 : AV) (M : MM) : call 61 [a0, a1] lo M = s61 call G.nl lo a0 a1 M :=
  (hc.flow (cf := cf61) rfl w61 [a0, a1] lo M).trans (e61 call G.nl lo a0 a1 M)

/-! ### function 70 -/
theorem w70 : wfK cf70.nt cf70.body = true := by kernel_rfl
def s70 (call : CallT) (nl lo : Nat) (a0 a1 : AV) (M : MM) : Option (AV × MM) :=
  opt (puA call (lk M) 85 [a0, a1]) fun v4 =>
  opt (binA .geq .none v4 (.i 0)) fun v5 =>
  some (v5, M)
theorem e70 (call : CallT) (nl lo : Nat) (a0 a1 : AV) (M : MM) : execC call modeF lo nl cf70.body (endK cf70.res) noE (endK cf70.res) (aF [a0, a1]) M = s70 call nl lo a0 a1 M := by
  kernel_rfl
theorem q70 {call : CallT} (hc : Lim G call) (lo : Nat) (a0 a1 : AV) (M : MM) : call 70 [a0, a1] lo M = s70 call G.nl lo a0 a1 M :=
  (hc.flow (cf := cf70) rfl w70 [a0, a1] lo M).trans (e70 call G.nl lo a0 a1 M)

/-! ### function 71 -/
theorem w71 : wfK cf71.nt cf71.body = true := by kernel_rfl
def s71 (call : CallT) (nl lo : Nat) (a0 a1 : AV) (M : MM) : Option (AV × MM) :=
  opt (aggA a0) fun v2 =>
  upK M M.nx fun M3 =>
  opt (fldA 0 0 true v2) fun v5 =>
  opt (fldA 1 1 false v2) fun v6 =>
  opt (lenA v6) fun v7 =>
  opt (binA .gtr .none v7 (.i 0)) fun v8 =>
  isB v8 fun c9 => if c9 then (some ((.i (-1)), M3))
  else (opt (fldA 0 0 true v2) fun v12 =>
  opt (fldA 0 1 false v2) fun v13 =>
  opt (puA call (lk M3) 85 [a1, v13]) fun v14 =>
  some (v14, M3))
theorem e71 (call : CallT) (nl lo : Nat) (a0 a1 : AV) (M : MM) : execC call modeF lo nl cf71.body (endK cf71.res) noE (endK cf71.res) (aF [a0, a1]) M = s71 call nl lo a0 a1 M := by
  kernel_rfl
theorem q71 {call : CallT} (hc : Lim G call) (lo : Nat) (a0 a1 : AV) (M : MM) : call 71 [a0, a1] lo M = s71 call G.nl lo a0 a1 M :=
  (hc.flow (cf := cf71) rfl w71 [a0, a1] lo M).trans (e71 call G.nl lo a0 a1 M)

/-! ### function 76 -/
theorem w76 : wfK cf76.nt cf76.body = true := by kernel_rfl
def s76 (call : CallT) (nl lo : Nat) (a0 a1 a2 a3 : AV) (M : MM) : Option (AV × MM) :=
  opt (aggA a0) fun v3 =>
  upK M M.nx fun M4 =>
  opt (aggA a1) fun v5 =>
  upK M4 M4.nx fun M6 =>
  opt (fldA 0 2 true v3) fun v8 =>
  opt (fldA 0 2 true v5) fun v9 =>
  opt (ld1A (lk M6) a2) fun v10 =>
  opt (ld1A (lk M6) a3) fun v11 =>
  bnd (call 53 [v8, v9, v10, v11] lo M6) fun v12 M13 =>
  some (v12, M13)
theorem e76 (call : CallT) (nl lo : Nat) (a0 a1 a2 a3 : AV) (M : MM) : execC call modeF lo nl cf76.body (endK cf76.res) noE (endK cf76.res) (aF [a0, a1, a2, a3]) M = s76 call nl lo a0 a1 a2 a3 M := by
  kernel_rfl
theorem q76 {call : CallT} (hc : Lim G call) (lo : Nat) (a0 a1 a2 a3 : AV) (M : MM) : call 76 [a0, a1, a2, a3] lo M = s76 call G.nl lo a0 a1 a2 a3 M :=
  (hc.flow (cf := cf76) rfl w76 [a0, a1, a2, a3] lo M).trans (e76 call G.nl lo a0 a1 a2 a3 M)

/-! ### function 77 -/
theorem w77 : wfK cf77.nt cf77.body = true := by kernel_rfl
def k77_2 (call : CallT) (nl lo : Nat) : Rg → MM → Option (AV × MM) := (execC call modeF lo nl p77_21 (endK cf77.res) noE (endK cf77.res))
abbrev b77_2 (call : CallT) (nl lo : Nat) (M : MM) : Option (AV × MM) :=
  some ((.i (-1)), M)
theorem t77_2 (call : CallT) (nl lo : Nat) (ρ : Rg) (M : MM) : k77_2 call nl lo ρ M = b77_2 call nl lo M := by
  kernel_rfl
def k77_4 (call : CallT) (nl lo : Nat) (n : Nat) : Rg → MM → Option (AV × MM) := iterC (fun k ρ M => execC call modeF lo nl p77_16 k (fun i ρ M => if i = 0 then (k77_2 call nl lo) ρ M else noE i ρ M) (endK cf77.res) ρ M) n
def b77_4 (call : CallT) (nl lo : Nat) : Nat → AV → AV → AV → AV → MM → Option (AV × MM)
  | 0, _, _, _, _, _ => none
  | n + 1, x0, x1, x7, x8, M =>
  opt (binA .lss .none x8 x7) fun v5 =>
  isB v5 fun c6 => if c6 then (opt (ixsA 1 x0 x8) fun v12 =>
  opt (ld1A (lk M) v12) fun v13 =>
  opt (binA .eql .ptr x1 v13) fun v14 =>
  isB v14 fun c15 => if c15 then (some (x8, M))
  else (opt (binA .add .none x8 (.i 1)) fun v18 =>
  (b77_4 call nl lo n) x0 x1 x7 v18 M))
  else (b77_2 call nl lo M)
theorem t77_4 (call : CallT) (nl lo : Nat) : ∀ (n : Nat) (ρ : Rg) (M : MM), k77_4 call nl lo n ρ M = b77_4 call nl lo n (ρ 0) (ρ 1) (ρ 7) (ρ 8) M
  | 0, ρ, M => rfl
  | n + 1, ρ, M => by
    have h : ∀ (zb z0 : Rg → MM → Option (AV × MM)), execC call modeF lo nl p77_16 zb (fun i ρ M => if i = 0 then z0 ρ M else noE i ρ M) (endK cf77.res) ρ M = (opt (binA .lss .none (ρ 8) (ρ 7)) fun v5 =>
    isB v5 fun c6 => if c6 then (opt (ixsA 1 (ρ 0) (ρ 8)) fun v12 =>
    opt (ld1A (lk M) v12) fun v13 =>
    opt (binA .eql .ptr (ρ 1) v13) fun v14 =>
    isB v14 fun c15 => if c15 then (some ((ρ 8), M))
    else (opt (binA .add .none (ρ 8) (.i 1)) fun v18 =>
    zb (sF (sF (sF (sF (sF (sF (sF (sF (sF (sF (sF ρ 9 v5) 10 (ρ 8)) 5 (ρ 8)) 11 (ρ 1)) 12 (ρ 0)) 13 (ρ 8)) 14 v12) 15 v13) 16 v14) 18 v18) 8 v18) M))
    else (z0 (sF ρ 9 v5) M)) := by intros; kernel_rfl
    refine (h (k77_4 call nl lo n) (k77_2 call nl lo)).trans ?_
    unfold b77_4; simp only [(t77_2 call nl lo), (t77_4 call nl lo n)] <;> (show _ = _; kernel_rfl)
def k77_3 (call : CallT) (nl lo : Nat) : Rg → MM → Option (AV × MM) := (execC call modeF lo nl p77_19 (k77_2 call nl lo) noE (endK cf77.res))
abbrev b77_3 (call : CallT) (nl lo : Nat) (x0 x1 : AV) (M : MM) : Option (AV × MM) :=
  opt (lenA x0) fun v3 =>
  b77_4 call nl lo nl x0 x1 v3 (.i 0) M
theorem t77_3 (call : CallT) (nl lo : Nat) (ρ : Rg) (M : MM) : k77_3 call nl lo ρ M = b77_3 call nl lo (ρ 0) (ρ 1) M := by
  have h : k77_3 call nl lo ρ M = (opt (lenA (ρ 0)) fun v3 =>
  k77_4 call nl lo nl (sF (sF (sF ρ 6 (ρ 0)) 7 v3) 8 (.i 0)) M) := by kernel_rfl
  rw [h]
  unfold b77_3; simp only [(t77_4 call nl lo nl)] <;> (show _ = _; kernel_rfl)
def k77_1 (call : CallT) (nl lo : Nat) : Rg → MM → Option (AV × MM) := (execC call modeF lo nl p77_22 (endK cf77.res) noE (endK cf77.res))
abbrev b77_1 (call : CallT) (nl lo : Nat) (x0 x1 : AV) (M : MM) : Option (AV × MM) :=
  b77_3 call nl lo x0 x1 M
theorem t77_1 (call : CallT) (nl lo : Nat) (ρ : Rg) (M : MM) : k77_1 call nl lo ρ M = b77_1 call nl lo (ρ 0) (ρ 1) M := by
  have h : k77_1 call nl lo ρ M = (k77_3 call nl lo ρ M) := execC_seq call modeF lo nl p77_19 p77_21 (endK cf77.res) noE (endK cf77.res) ρ M
  rw [h]
  unfold b77_1; simp only [(t77_3 call nl lo)] <;> (show _ = _; kernel_rfl)
def k77_5 (call : CallT) (nl lo : Nat) : Rg → MM → Option (AV × MM) := (execC call modeF lo nl p77_1 (k77_1 call nl lo) noE (endK cf77.res))
abbrev b77_5 (call : CallT) (nl lo : Nat) (x0 x1 : AV) (M : MM) : Option (AV × MM) :=
  b77_1 call nl lo x0 x1 M
theorem t77_5 (call : CallT) (nl lo : Nat) (ρ : Rg) (M : MM) : k77_5 call nl lo ρ M = b77_5 call nl lo (ρ 0) (ρ 1) M := by
  have h : ∀ (z0 : Rg → MM → Option (AV × MM)), (execC call modeF lo nl p77_1 z0 noE (endK cf77.res)) ρ M = (z0 (sF ρ 4 (.i 0)) M) := by intros; kernel_rfl
  refine (h (k77_1 call nl lo)).trans ?_
  unfold b77_5; simp only [(t77_1 call nl lo)] <;> (show _ = _; kernel_rfl)
def k77_0 (call : CallT) (nl lo : Nat) : Rg → MM → Option (AV × MM) := (execC call modeF lo nl p77_23 (endK cf77.res) noE (endK cf77.res))
abbrev b77_0 (call : CallT) (nl lo : Nat) (x0 x1 : AV) (M : MM) : Option (AV × MM) :=
  b77_5 call nl lo x0 x1 M
theorem t77_0 (call : CallT) (nl lo : Nat) (ρ : Rg) (M : MM) : k77_0 call nl lo ρ M = b77_0 call nl lo (ρ 0) (ρ 1) M := by
  have h : k77_0 call nl lo ρ M = (k77_5 call nl lo ρ M) := execC_seq call modeF lo nl p77_1 p77_22 (endK cf77.res) noE (endK cf77.res) ρ M
  rw [h]
  unfold b77_0; simp only [(t77_5 call nl lo)] <;> (show _ = _; kernel_rfl)
def k77_6 (call : CallT) (nl lo : Nat) : Rg → MM → Option (AV × MM) := (execC call modeF lo nl p77_0 (k77_0 call nl lo) noE (endK cf77.res))
abbrev b77_6 (call : CallT) (nl lo : Nat) (x0 x1 : AV) (M : MM) : Option (AV × MM) :=
  b77_0 call nl lo x0 x1 M
theorem t77_6 (call : CallT) (nl lo : Nat) (ρ : Rg) (M : MM) : k77_6 call nl lo ρ M = b77_6 call nl lo (ρ 0) (ρ 1) M := by
  have h : ∀ (z0 : Rg → MM → Option (AV × MM)), (execC call modeF lo nl p77_0 z0 noE (endK cf77.res)) ρ M = (z0 ρ M) := by intros; kernel_rfl
  refine (h (k77_0 call nl lo)).trans ?_
  unfold b77_6; simp only [(t77_0 call nl lo)] <;> (show _ = _; kernel_rfl)
def s77 (call : CallT) (nl lo : Nat) (a0 a1 : AV) (M : MM) : Option (AV × MM) :=
  b77_6 call nl lo a0 a1 M
theorem e77 (call : CallT) (nl lo : Nat) (a0 a1 : AV) (M : MM) : execC call modeF lo nl cf77.body (endK cf77.res) noE (endK cf77.res) (aF [a0, a1]) M = s77 call nl lo a0 a1 M := by
  have h : execC call modeF lo nl cf77.body (endK cf77.res) noE (endK cf77.res) (aF [a0, a1]) M = (k77_6 call nl lo (aF [a0, a1]) M) := execC_seq call modeF lo nl p77_0 p77_23 (endK cf77.res) noE (endK cf77.res) (aF [a0, a1]) M
  refine h.trans ?_
  unfold s77; simp only [(t77_6 call nl lo)] <;> (show _ = _; kernel_rfl)
theorem q77 {call : CallT} (hc : Lim G call) (lo : Nat) (a0 a1 : AV) (M : MM) : call 77 [a0, a1] lo M = s77 call G.nl lo a0 a1 M :=
  (hc.flow (cf := cf77) rfl w77 [a0, a1] lo M).trans (e77 call G.nl lo a0 a1 M)

/-! ### function 78 -/
theorem w78 : wfK cf78.nt cf78.body = true := by kernel_rfl
def k78_2 (call : CallT) (nl lo : Nat) : Rg → MM → Option (AV × MM) := (execC call modeF lo nl p78_21 (endK cf78.res) noE (endK cf78.res))
abbrev b78_2 (call : CallT) (nl lo : Nat) (M : MM) : Option (AV × MM) :=
  some ((.i (-1)), M)
theorem t78_2 (call : CallT) (nl lo : Nat) (ρ : Rg) (M : MM) : k78_2 call nl lo ρ M = b78_2 call nl lo M := by
  kernel_rfl
def k78_4 (call : CallT) (nl lo : Nat) (n : Nat) : Rg → MM → Option (AV × MM) := iterC (fun k ρ M => execC call modeF lo nl p78_16 k (fun i ρ M => if i = 0 then (k78_2 call nl lo) ρ M else noE i ρ M) (endK cf78.res) ρ M) n
def b78_4 (call : CallT) (nl lo : Nat) : Nat → AV → AV → AV → AV → MM → Option (AV × MM)
  | 0, _, _, _, _, _ => none
  | n + 1, x0, x1, x7, x8, M =>
  opt (binA .lss .none x8 x7) fun v5 =>
  isB v5 fun c6 => if c6 then (opt (ixsA 2 x0 x8) fun v12 =>
  opt (ldnA (lk M) 2 v12) fun v13 =>
  bnd (istep call modeF false lo (.top M.nx) M.nx (.callw [57] (.k x1) [(.k v13)]) [] M) fun v14 M15 =>
  isB v14 fun c16 => if c16 then (some (x8, M15))
  else (opt (binA .add .none x8 (.i 1)) fun v19 =>
  (b78_4 call nl lo n) x0 x1 x7 v19 M15))
  else (b78_2 call nl lo M)
theorem t78_4 (call : CallT) (nl lo : Nat) : ∀ (n : Nat) (ρ : Rg) (M : MM), k78_4 call nl lo n ρ M = b78_4 call nl lo n (ρ 0) (ρ 1) (ρ 7) (ρ 8) M
  | 0, ρ, M => rfl
  | n + 1, ρ, M => by
    have h : ∀ (zb z0 : Rg → MM → Option (AV × MM)), execC call modeF lo nl p78_16 zb (fun i ρ M => if i = 0 then z0 ρ M else noE i ρ M) (endK cf78.res) ρ M = (opt (binA .lss .none (ρ 8) (ρ 7)) fun v5 =>
    isB v5 fun c6 => if c6 then (opt (ixsA 2 (ρ 0) (ρ 8)) fun v12 =>
    opt (ldnA (lk M) 2 v12) fun v13 =>
    bnd (istep call modeF false lo (.top M.nx) M.nx (.callw [57] (.k (ρ 1)) [(.k v13)]) [] M) fun v14 M15 =>
    isB v14 fun c16 => if c16 then (some ((ρ 8), M15))
    else (opt (binA .add .none (ρ 8) (.i 1)) fun v19 =>
    zb (sF (sF (sF (sF (sF (sF (sF (sF (sF (sF (sF ρ 9 v5) 10 (ρ 8)) 5 (ρ 8)) 11 (ρ 1)) 12 (ρ 0)) 13 (ρ 8)) 14 v12) 15 v13) 16 v14) 18 v19) 8 v19) M15))
    else (z0 (sF ρ 9 v5) M)) := by intros; kernel_rfl
    refine (h (k78_4 call nl lo n) (k78_2 call nl lo)).trans ?_
    unfold b78_4; simp only [(t78_2 call nl lo), (t78_4 call nl lo n)] <;> (show _ = _; kernel_rfl)
def k78_3 (call : CallT) (nl lo : Nat) : Rg → MM → Option (AV × MM) := (execC call modeF lo nl p78_19 (k78_2 call nl lo) noE (endK cf78.res))
abbrev b78_3 (call : CallT) (nl lo : Nat) (x0 x1 : AV) (M : MM) : Option (AV × MM) :=
  opt (lenA x0) fun v3 =>
  b78_4 call nl lo nl x0 x1 v3 (.i 0) M
theorem t78_3 (call : CallT) (nl lo : Nat) (ρ : Rg) (M : MM) : k78_3 call nl lo ρ M = b78_3 call nl lo (ρ 0) (ρ 1) M := by
  have h : k78_3 call nl lo ρ M = (opt (lenA (ρ 0)) fun v3 =>
  k78_4 call nl lo nl (sF (sF (sF ρ 6 (ρ 0)) 7 v3) 8 (.i 0)) M) := by kernel_rfl
  rw [h]
  unfold b78_3; simp only [(t78_4 call nl lo nl)] <;> (show _ = _; kernel_rfl)
def k78_1 (call : CallT) (nl lo : Nat) : Rg → MM → Option (AV × MM) := (execC call modeF lo nl p78_22 (endK cf78.res) noE (endK cf78.res))
abbrev b78_1 (call : CallT) (nl lo : Nat) (x0 x1 : AV) (M : MM) : Option (AV × MM) :=
  b78_3 call nl lo x0 x1 M
theorem t78_1 (call : CallT) (nl lo : Nat) (ρ : Rg) (M : MM) : k78_1 call nl lo ρ M = b78_1 call nl lo (ρ 0) (ρ 1) M := by
  have h : k78_1 call nl lo ρ M = (k78_3 call nl lo ρ M) := execC_seq call modeF lo nl p78_19 p78_21 (endK cf78.res) noE (endK cf78.res) ρ M
  rw [h]
  unfold b78_1; simp only [(t78_3 call nl lo)] <;> (show _ = _; kernel_rfl)
def k78_5 (call : CallT) (nl lo : Nat) : Rg → MM → Option (AV × MM) := (execC call modeF lo nl p78_1 (k78_1 call nl lo) noE (endK cf78.res))
abbrev b78_5 (call : CallT) (nl lo : Nat) (x0 x1 : AV) (M : MM) : Option (AV × MM) :=
  b78_1 call nl lo x0 x1 M
theorem t78_5 (call : CallT) (nl lo : Nat) (ρ : Rg) (M : MM) : k78_5 call nl lo ρ M = b78_5 call nl lo (ρ 0) (ρ 1) M := by
  have h : ∀ (z0 : Rg → MM → Option (AV × MM)), (execC call modeF lo nl p78_1 z0 noE (endK cf78.res)) ρ M = (z0 (sF ρ 4 (.i 0)) M) := by intros; kernel_rfl
  refine (h (k78_1 call nl lo)).trans ?_
  unfold b78_5; simp only [(t78_1 call nl lo)] <;> (show _ = _; kernel_rfl)
def k78_0 (call : CallT) (nl lo : Nat) : Rg → MM → Option (AV × MM) := (execC call modeF lo nl p78_23 (endK cf78.res) noE (endK cf78.res))
abbrev b78_0 (call : CallT) (nl lo : Nat) (x0 x1 : AV) (M : MM) : Option (AV × MM) :=
  b78_5 call nl lo x0 x1 M
theorem t78_0 (call : CallT) (nl lo : Nat) (ρ : Rg) (M : MM) : k78_0 call nl lo ρ M = b78_0 call nl lo (ρ 0) (ρ 1) M := by
  have h : k78_0 call nl lo ρ M = (k78_5 call nl lo ρ M) := execC_seq call modeF lo nl p78_1 p78_22 (endK cf78.res) noE (endK cf78.res) ρ M
  rw [h]
  unfold b78_0; simp only [(t78_5 call nl lo)] <;> (show _ = _; kernel_rfl)
def k78_6 (call : CallT) (nl lo : Nat) : Rg → MM → Option (AV × MM) := (execC call modeF lo nl p78_0 (k78_0 call nl lo) noE (endK cf78.res))
abbrev b78_6 (call : CallT) (nl lo : Nat) (x0 x1 : AV) (M : MM) : Option (AV × MM) :=
  b78_0 call nl lo x0 x1 M
theorem t78_6 (call : CallT) (nl lo : Nat) (ρ : Rg) (M : MM) : k78_6 call nl lo ρ M = b78_6 call nl lo (ρ 0) (ρ 1) M := by
  have h : ∀ (z0 : Rg → MM → Option (AV × MM)), (execC call modeF lo nl p78_0 z0 noE (endK cf78.res)) ρ M = (z0 ρ M) := by intros; kernel_rfl
  refine (h (k78_0 call nl lo)).trans ?_
  unfold b78_6; simp only [(t78_0 call nl lo)] <;> (show _ = _; kernel_rfl)
def s78 (call : CallT) (nl lo : Nat) (a0 a1 : AV) (M : MM) : Option (AV × MM) :=
  b78_6 call nl lo a0 a1 M
theorem e78 (call : CallT) (nl lo : Nat) (a0 a1 : AV) (M : MM) : execC call modeF lo nl cf78.body (endK cf78.res) noE (endK cf78.res) (aF [a0, a1]) M = s78 call nl lo a0 a1 M := by
  have h : execC call modeF lo nl cf78.body (endK cf78.res) noE (endK cf78.res) (aF [a0, a1]) M = (k78_6 call nl lo (aF [a0, a1]) M) := execC_seq call modeF lo nl p78_0 p78_23 (endK cf78.res) noE (endK cf78.res) (aF [a0, a1]) M
  refine h.trans ?_
  unfold s78; simp only [(t78_6 call nl lo)] <;> (show _ = _; kernel_rfl)
theorem q78 {call : CallT} (hc : Lim G call) (lo : Nat) (a0 a1 : AV) (M : MM) : call 78 [a0, a1] lo M = s78 call G.nl lo a0 a1 M :=
  (hc.flow (cf := cf78) rfl w78 [a0, a1] lo M).trans (e78 call G.nl lo a0 a1 M)

/-! ### function 79 -/
theorem w79 : wfK cf79.nt cf79.body = true := by kernel_rfl
def s79 (call : CallT) (nl lo : Nat) (a0 a1 : AV) (M : MM) : Option (AV × MM) :=
  opt (puA call (lk M) 86 [a0, a1]) fun v4 =>
  some (v4, M)
theorem e79 (call : CallT) (nl lo : Nat) (a0 a1 : AV) (M : MM) : execC call modeF lo nl cf79.body (endK cf79.res) noE (endK cf79.res) (aF [a0, a1]) M = s79 call nl lo a0 a1 M := by
  kernel_rfl
theorem q79 {call : CallT} (hc : Lim G call) (lo : Nat) (a0 a1 : AV) (M : MM) : call 79 [a0, a1] lo M = s79 call G.nl lo a0 a1 M :=
  (hc.flow (cf := cf79) rfl w79 [a0, a1] lo M).trans (e79 call G.nl lo a0 a1 M)

/-! ### function 85 -/
theorem w85 : wfK cf85.nt cf85.body = true := by kernel_rfl
def k85_2 (call : CallT) (nl lo : Nat) : Rg → MM → Option (AV × MM) := (execC call modeF lo nl p85_21 (endK cf85.res) noE (endK cf85.res))
abbrev b85_2 (call : CallT) (nl lo : Nat) (M : MM) : Option (AV × MM) :=
  some ((.i (-1)), M)
theorem t85_2 (call : CallT) (nl lo : Nat) (ρ : Rg) (M : MM) : k85_2 call nl lo ρ M = b85_2 call nl lo M := by
  kernel_rfl
def k85_4 (call : CallT) (nl lo : Nat) (n : Nat) : Rg → MM → Option (AV × MM) := iterC (fun k ρ M => execC call modeF lo nl p85_16 k (fun i ρ M => if i = 0 then (k85_2 call nl lo) ρ M else noE i ρ M) (endK cf85.res) ρ M) n
def b85_4 (call : CallT) (nl lo : Nat) : Nat → AV → AV → AV → AV → MM → Option (AV × MM)
  | 0, _, _, _, _, _ => none
  | n + 1, x0, x1, x7, x8, M =>
  opt (binA .lss .none x8 x7) fun v5 =>
  isB v5 fun c6 => if c6 then (opt (ixsA 1 x0 x8) fun v12 =>
  opt (ld1A (lk M) v12) fun v13 =>
  opt (binA .eql .none x1 v13) fun v14 =>
  isB v14 fun c15 => if c15 then (some (x8, M))
  else (opt (binA .add .none x8 (.i 1)) fun v18 =>
  (b85_4 call nl lo n) x0 x1 x7 v18 M))
  else (b85_2 call nl lo M)
theorem t85_4 (call : CallT) (nl lo : Nat) : ∀ (n : Nat) (ρ : Rg) (M : MM), k85_4 call nl lo n ρ M = b85_4 call nl lo n (ρ 0) (ρ 1) (ρ 7) (ρ 8) M
  | 0, ρ, M => rfl
  | n + 1, ρ, M => by
    have h : ∀ (zb z0 : Rg → MM → Option (AV × MM)), execC call modeF lo nl p85_16 zb (fun i ρ M => if i = 0 then z0 ρ M else noE i ρ M) (endK cf85.res) ρ M = (opt (binA .lss .none (ρ 8) (ρ 7)) fun v5 =>
    isB v5 fun c6 => if c6 then (opt (ixsA 1 (ρ 0) (ρ 8)) fun v12 =>
    opt (ld1A (lk M) v12) fun v13 =>
    opt (binA .eql .none (ρ 1) v13) fun v14 =>
    isB v14 fun c15 => if c15 then (some ((ρ 8), M))
    else (opt (binA .add .none (ρ 8) (.i 1)) fun v18 =>
    zb (sF (sF (sF (sF (sF (sF (sF (sF (sF (sF (sF ρ 9 v5) 10 (ρ 8)) 5 (ρ 8)) 11 (ρ 1)) 12 (ρ 0)) 13 (ρ 8)) 14 v12) 15 v13) 16 v14) 18 v18) 8 v18) M))
    else (z0 (sF ρ 9 v5) M)) := by intros; kernel_rfl
    refine (h (k85_4 call nl lo n) (k85_2 call nl lo)).trans ?_
    unfold b85_4; simp only [(t85_2 call nl lo), (t85_4 call nl lo n)] <;> (show _ = _; kernel_rfl)
def k85_3 (call : CallT) (nl lo : Nat) : Rg → MM → Option (AV × MM) := (execC call modeF lo nl p85_19 (k85_2 call nl lo) noE (endK cf85.res))
abbrev b85_3 (call : CallT) (nl lo : Nat) (x0 x1 : AV) (M : MM) : Option (AV × MM) :=
  opt (lenA x0) fun v3 =>
  b85_4 call nl lo nl x0 x1 v3 (.i 0) M
theorem t85_3 (call : CallT) (nl lo : Nat) (ρ : Rg) (M : MM) : k85_3 call nl lo ρ M = b85_3 call nl lo (ρ 0) (ρ 1) M := by
  have h : k85_3 call nl lo ρ M = (opt (lenA (ρ 0)) fun v3 =>
  k85_4 call nl lo nl (sF (sF (sF ρ 6 (ρ 0)) 7 v3) 8 (.i 0)) M) := by kernel_rfl
  rw [h]
  unfold b85_3; simp only [(t85_4 call nl lo nl)] <;> (show _ = _; kernel_rfl)
def k85_1 (call : CallT) (nl lo : Nat) : Rg → MM → Option (AV × MM) := (execC call modeF lo nl p85_22 (endK cf85.res) noE (endK cf85.res))
abbrev b85_1 (call : CallT) (nl lo : Nat) (x0 x1 : AV) (M : MM) : Option (AV × MM) :=
  b85_3 call nl lo x0 x1 M
theorem t85_1 (call : CallT) (nl lo : Nat) (ρ : Rg) (M : MM) : k85_1 call nl lo ρ M = b85_1 call nl lo (ρ 0) (ρ 1) M := by
  have h : k85_1 call nl lo ρ M = (k85_3 call nl lo ρ M) := execC_seq call modeF lo nl p85_19 p85_21 (endK cf85.res) noE (endK cf85.res) ρ M
  rw [h]
  unfold b85_1; simp only [(t85_3 call nl lo)] <;> (show _ = _; kernel_rfl)
def k85_5 (call : CallT) (nl lo : Nat) : Rg → MM → Option (AV × MM) := (execC call modeF lo nl p85_1 (k85_1 call nl lo) noE (endK cf85.res))
abbrev b85_5 (call : CallT) (nl lo : Nat) (x0 x1 : AV) (M : MM) : Option (AV × MM) :=
  b85_1 call nl lo x0 x1 M
theorem t85_5 (call : CallT) (nl lo : Nat) (ρ : Rg) (M : MM) : k85_5 call nl lo ρ M = b85_5 call nl lo (ρ 0) (ρ 1) M := by
  have h : ∀ (z0 : Rg → MM → Option (AV × MM)), (execC call modeF lo nl p85_1 z0 noE (endK cf85.res)) ρ M = (z0 (sF ρ 4 (.i 0)) M) := by intros; kernel_rfl
  refine (h (k85_1 call nl lo)).trans ?_
  unfold b85_5; simp only [(t85_1 call nl lo)] <;> (show _ = _; kernel_rfl)
def k85_0 (call : CallT) (nl lo : Nat) : Rg → MM → Option (AV × MM) := (execC call modeF lo nl p85_23 (endK cf85.res) noE (endK cf85.res))
abbrev b85_0 (call : CallT) (nl lo : Nat) (x0 x1 : AV) (M : MM) : Option (AV × MM) :=
  b85_5 call nl lo x0 x1 M
theorem t85_0 (call : CallT) (nl lo : Nat) (ρ : Rg) (M : MM) : k85_0 call nl lo ρ M = b85_0 call nl lo (ρ 0) (ρ 1) M := by
  have h : k85_0 call nl lo ρ M = (k85_5 call nl lo ρ M) := execC_seq call modeF lo nl p85_1 p85_22 (endK cf85.res) noE (endK cf85.res) ρ M
  rw [h]
  unfold b85_0; simp only [(t85_5 call nl lo)] <;> (show _ = _; kernel_rfl)
def k85_6 (call : CallT) (nl lo : Nat) : Rg → MM → Option (AV × MM) := (execC call modeF lo nl p85_0 (k85_0 call nl lo) noE (endK cf85.res))
abbrev b85_6 (call : CallT) (nl lo : Nat) (x0 x1 : AV) (M : MM) : Option (AV × MM) :=
  b85_0 call nl lo x0 x1 M
theorem t85_6 (call : CallT) (nl lo : Nat) (ρ : Rg) (M : MM) : k85_6 call nl lo ρ M = b85_6 call nl lo (ρ 0) (ρ 1) M := by
  have h : ∀ (z0 : Rg → MM → Option (AV × MM)), (execC call modeF lo nl p85_0 z0 noE (endK cf85.res)) ρ M = (z0 ρ M) := by intros; kernel_rfl
  refine (h (k85_0 call nl lo)).trans ?_
  unfold b85_6; simp only [(t85_0 call nl lo)] <;> (show _ = _; kernel_rfl)
def s85 (call : CallT) (nl lo : Nat) (a0 a1 : AV) (M : MM) : Option (AV × MM) :=
  b85_6 call nl lo a0 a1 M
theorem e85 (call : CallT) (nl lo : Nat) (a0 a1 : AV) (M : MM) : execC call modeF lo nl cf85.body (endK cf85.res) noE (endK cf85.res) (aF [a0, a1]) M = s85 call nl lo a0 a1 M := by
  have h : execC call modeF lo nl cf85.body (endK cf85.res) noE (endK cf85.res) (aF [a0, a1]) M = (k85_6 call nl lo (aF [a0, a1]) M) := execC_seq call modeF lo nl p85_0 p85_23 (endK cf85.res) noE (endK cf85.res) (aF [a0, a1]) M
  refine h.trans ?_
  unfold s85; simp only [(t85_6 call nl lo)] <;> (show _ = _; kernel_rfl)
theorem q85 {call : CallT} (hc : Lim G call) (lo : Nat) (a0 a1 : AV) (M : MM) : call 85 [a0, a1] lo M = s85 call G.nl lo a0 a1 M :=
  (hc.flow (cf := cf85) rfl w85 [a0, a1] lo M).trans (e85 call G.nl lo a0 a1 M)
end Go.Proofs.Ytcoagkfjdpdohaa.Sx
