/- THE SEAT's FUNCTIONS AS DEFINITIONS WITHOUT REGISTERS, printed by program; 'eq..' holds each against the abstract machine's code. -/
import Derived.Test.YtcoagkfjdpdohaaGOr
import Derived.Test.YtcoagkfjdpdohaaSxM
namespace Go.Proofs.Ytcoagkfjdpdohaa.Sx
open Go
set_option maxRecDepth 1000000
set_option linter.unusedVariables false
set_option linter.unusedSimpArgs false

/-! ### function 3 -/
theorem w3 : wfK cf3.nt cf3.body = true := by kernel_rfl
def s3 (call : CallT) (nl lo : Nat) (a0 a1 a2 : AV) (M : MM) : Option (AV × MM) :=
  opt (puA call (lk M) 9 [a0]) fun v6 =>
  opt (unA .not v6) fun v7 =>
  opt (gdp v7 false (some a1)) fun v9 =>
  opt (gdp v7 false (puA call (lk M) 9 [v9])) fun v10 =>
  opt (gdp v7 false (unA .not v10)) fun v11 =>
  opt (pickA v7 (.bool true) v11) fun v12 =>
  opt (gdp v12 false (some a2)) fun v14 =>
  opt (gdp v12 false (puA call (lk M) 9 [v14])) fun v15 =>
  opt (gdp v12 false (unA .not v15)) fun v16 =>
  opt (pickA v12 (.bool true) v16) fun v17 =>
  isB v17 fun c18 => if c18 then (opt (puA call (lk M) 10 []) fun v19 =>
  some (v19, M))
  else (bnd (call 12 [a0] lo M) fun v22 M23 =>
  bnd (call 11 [v22, (.i 3)] lo M23) fun v24 M25 =>
  bnd (call 12 [a1] lo M25) fun v27 M28 =>
  bnd (call 11 [v27, (.i 3)] lo M28) fun v29 M30 =>
  bnd (call 12 [a2] lo M30) fun v32 M33 =>
  bnd (call 11 [v32, (.i 3)] lo M33) fun v34 M35 =>
  upK M35 M35.nx fun M37 =>
  upK M37 M37.nx fun M39 =>
  upK M39 M39.nx fun M41 =>
  opt (setcA 0 2 (.agg [.str ⟨⟨[]⟩⟩, .d (.sl [] 0)]) v24) fun v42 =>
  opt (setcA 0 2 (.agg [.str ⟨⟨[]⟩⟩, .d (.sl [] 0)]) v29) fun v43 =>
  opt (setcA 0 2 (.agg [.str ⟨⟨[]⟩⟩, .d (.sl [] 0)]) v34) fun v44 =>
  bumpK M41 12 fun M45 =>
  opt (fldA 0 2 true v42) fun v46 =>
  opt (fldA 0 2 true v43) fun v47 =>
  opt (puA call (look M45.mem (.mk M41.nx 12 3 true)) 13 [v46, v47]) fun v48 =>
  opt (fldA 0 2 true v43) fun v49 =>
  opt (fldA 0 2 true v44) fun v50 =>
  opt (puA call (look M45.mem (.mk M41.nx 12 31 true)) 13 [v49, v50]) fun v51 =>
  opt (fldA 0 2 true v42) fun v52 =>
  opt (fldA 0 2 true v44) fun v53 =>
  opt (puA call (look M45.mem (.mk M41.nx 12 255 true)) 13 [v52, v53]) fun v54 =>
  bumpK M45 32 fun M58 =>
  opt (fldA 0 2 true v43) fun v60 =>
  opt (fldA 0 2 true v42) fun v61 =>
  opt (puA call (look M58.mem (.mk M45.nx 32 6 true)) 13 [v60, v61]) fun v62 =>
  opt (unA .neg v62) fun v63 =>
  opt (binA .neq .none v48 v63) fun v64 =>
  opt (gdp v64 false (some v48)) fun v66 =>
  opt (gdp v64 false (binA .eql .none v66 (.i 0))) fun v67 =>
  opt (gdp v64 false (fldA 0 2 true v42)) fun v68 =>
  opt (gdp v64 false (fldA 0 2 true v43)) fun v69 =>
  opt (gdp v64 false (puA call (look M58.mem (.mk M45.nx 32 1663 true)) 14 [v68, v69])) fun v70 =>
  opt (gdp v64 false (binA .neq .bool v67 v70)) fun v71 =>
  opt (pickA v64 (.bool true) v71) fun v72 =>
  opt (gdp v72 false (some v48)) fun v74 =>
  opt (gdp v72 false (binA .eql .none v74 (.i 0))) fun v75 =>
  opt (gdp v72 false (fldA 0 2 true v42)) fun v76 =>
  opt (gdp v72 false (puA call (look M58.mem (.mk M45.nx 32 163839 true)) 15 [v76])) fun v77 =>
  opt (gdp v72 false (fldA 0 2 true v43)) fun v78 =>
  opt (gdp v72 false (puA call (look M58.mem (.mk M45.nx 32 950271 true)) 15 [v78])) fun v79 =>
  opt (gdp v72 false (binA .eql .none v77 v79)) fun v80 =>
  opt (gdp v72 false (binA .neq .bool v75 v80)) fun v81 =>
  opt (pickA v72 (.bool true) v81) fun v82 =>
  opt (gdp v82 false (some v48)) fun v84 =>
  opt (gdp v82 false (binA .lss .none v84 (.i (-1)))) fun v85 =>
  opt (pickA v82 (.bool true) v85) fun v86 =>
  opt (gdp v86 false (some v48)) fun v88 =>
  opt (gdp v86 false (binA .gtr .none v88 (.i 1))) fun v89 =>
  opt (pickA v86 (.bool true) v89) fun v90 =>
  isB v90 fun c91 => if c91 then (some ((.bool false), M58))
  else (opt (binA .gtr .none v48 (.i 0)) fun v94 =>
  opt (gdp v94 false (some v51)) fun v96 =>
  opt (gdp v94 false (binA .gtr .none v96 (.i 0))) fun v97 =>
  opt (pickA v94 (.bool true) v97) fun v98 =>
  opt (gdp v98 false (some v54)) fun v100 =>
  opt (gdp v98 false (binA .leq .none v100 (.i 0))) fun v101 =>
  opt (gdp v98 false (some v101)) fun v102 =>
  opt (gdp v102 true (some v54)) fun v103 =>
  opt (gdp v102 true (binA .lss .none v103 (.i 0))) fun v104 =>
  opt (gdp v102 true (some v104)) fun v105 =>
  opt (gdp v105 false (some v48)) fun v106 =>
  opt (gdp v105 false (binA .eql .none v106 (.i 0))) fun v107 =>
  opt (gdp v105 false (some v107)) fun v108 =>
  opt (gdp v108 true (some v51)) fun v109 =>
  opt (gdp v108 true (binA .eql .none v109 (.i 0))) fun v110 =>
  opt (gdp v105 false (pickA v108 v110 (.bool false))) fun v111 =>
  opt (gdp v102 true (pickA v105 (.bool true) v111)) fun v112 =>
  opt (gdp v98 false (pickA v102 v112 (.bool false))) fun v113 =>
  opt (pickA v98 (.bool true) v113) fun v114 =>
  opt (gdp v114 true (puA call (lk M58) 10 [])) fun v116 =>
  opt (pickA v114 v116 (.bool false)) fun v117 =>
  some (v117, M58)))
theorem e3 (call : CallT) (nl lo : Nat) (a0 a1 a2 : AV) (M : MM) : execC call modeF lo nl cf3.body (endK cf3.res) noE (endK cf3.res) (aF [a0, a1, a2]) M = s3 call nl lo a0 a1 a2 M := by
  kernel_rfl
theorem q3 {call : CallT} (hc : Lim G call) (lo : Nat) (a0 a1 a2 : AV) (M : MM) : call 3 [a0, a1, a2] lo M = s3 call G.nl lo a0 a1 a2 M :=
  (hc.flow (cf := cf3) rfl w3 [a0, a1, a2] lo M).trans (e3 call G.nl lo a0 a1 a2 M)

/-! ### function 9 -/
theorem w9 : wfK cf9.nt cf9.body = true := by kernel_rfl
def s9 (call : CallT) (nl lo : Nat) (a0 : AV) (M : MM) : Option (AV × MM) :=
  opt (lenA a0) fun v3 =>
  opt (binA .leq .none v3 (.i 700)) fun v4 =>
  some (v4, M)
theorem e9 (call : CallT) (nl lo : Nat) (a0 : AV) (M : MM) : execC call modeF lo nl cf9.body (endK cf9.res) noE (endK cf9.res) (aF [a0]) M = s9 call nl lo a0 M := by
  kernel_rfl
theorem q9 {call : CallT} (hc : Lim G call) (lo : Nat) (a0 : AV) (M : MM) : call 9 [a0] lo M = s9 call G.nl lo a0 M :=
  (hc.flow (cf := cf9) rfl w9 [a0] lo M).trans (e9 call G.nl lo a0 M)

/-! ### function 11 -/
theorem w11 : wfK cf11.nt cf11.body = true := by kernel_rfl
def k11_7 (call : CallT) (nl lo : Nat) : Rg → MM → Option (AV × MM) := (execC call modeF lo nl p11_29 (endK cf11.res) noE (endK cf11.res))
abbrev b11_7 (call : CallT) (nl lo : Nat) (x4 x6 : AV) (M : MM) : Option (AV × MM) :=
  opt (fldA 0 2 true x6) fun v1 =>
  opt (setcA 0 2 x4 v1) fun v2 =>
  opt (locA 2 true v2) fun r => some (r, M)
theorem t11_7 (call : CallT) (nl lo : Nat) (ρ : Rg) (M : MM) : k11_7 call nl lo ρ M = b11_7 call nl lo (ρ 4) (ρ 6) M := by
  kernel_rfl
def k11_9 (call : CallT) (nl lo : Nat) (n : Nat) : Rg → MM → Option (AV × MM) := iterC (fun k ρ M => execC call modeF lo nl p11_25 k (fun i ρ M => if i = 0 then (k11_7 call nl lo) ρ M else noE i ρ M) (endK cf11.res) ρ M) n
def b11_9 (call : CallT) (nl lo : Nat) : Nat → AV → AV → AV → AV → AV → MM → Option (AV × MM)
  | 0, _, _, _, _, _, _ => none
  | n + 1, x0, x1, x4, x6, x7, M =>
  opt (binA .gtr .none x7 (.i 0)) fun v4 =>
  isB v4 fun c5 => if c5 then (bumpK M 10 fun M6 =>
  opt (fldA 0 0 true x6) fun v7 =>
  opt (fldA 1 1 false x6) fun v8 =>
  opt (binA .sub .none x1 (.i 1)) fun v11 =>
  bnd (istep call modeF true lo (.mk M.nx 10 28 true) (M.nx + 5) (.callk 11 [(.k x0), (.k v11)] [(.k x6)]) [] M6) fun v12 M13 =>
  opt (wslA 1 (fill [.str ⟨⟨[]⟩⟩, .d (.sl [] 0)] [(0, 2, v12)])) fun v14 =>
  upK M13 (M.nx + 6) fun M15 =>
  opt (wappA M15.mem (.top M15.nx) 2 40 v8 v14) fun v16 =>
  upK M15 (M.nx + 7) fun M17 =>
  opt (fldA 0 0 true x6) fun v18 =>
  opt (setcA 1 1 x6 v16) fun v19 =>
  opt (binA .sub .none x7 (.i 1)) fun v21 =>
  (b11_9 call nl lo n) x0 x1 x4 v19 v21 M17)
  else (b11_7 call nl lo x4 x6 M)
theorem t11_9 (call : CallT) (nl lo : Nat) : ∀ (n : Nat) (ρ : Rg) (M : MM), k11_9 call nl lo n ρ M = b11_9 call nl lo n (ρ 0) (ρ 1) (ρ 4) (ρ 6) (ρ 7) M
  | 0, ρ, M => rfl
  | n + 1, ρ, M => by
    have h : ∀ (zb z0 : Rg → MM → Option (AV × MM)), execC call modeF lo nl p11_25 zb (fun i ρ M => if i = 0 then z0 ρ M else noE i ρ M) (endK cf11.res) ρ M = (opt (binA .gtr .none (ρ 7) (.i 0)) fun v4 =>
    isB v4 fun c5 => if c5 then (bumpK M 10 fun M6 =>
    opt (fldA 0 0 true (ρ 6)) fun v7 =>
    opt (fldA 1 1 false (ρ 6)) fun v8 =>
    opt (binA .sub .none (ρ 1) (.i 1)) fun v11 =>
    bnd (istep call modeF true lo (.mk M.nx 10 28 true) (M.nx + 5) (.callk 11 [(.k (ρ 0)), (.k v11)] [(.k (ρ 6))]) [] M6) fun v12 M13 =>
    opt (wslA 1 (fill [.str ⟨⟨[]⟩⟩, .d (.sl [] 0)] [(0, 2, v12)])) fun v14 =>
    upK M13 (M.nx + 6) fun M15 =>
    opt (wappA M15.mem (.top M15.nx) 2 40 v8 v14) fun v16 =>
    upK M15 (M.nx + 7) fun M17 =>
    opt (fldA 0 0 true (ρ 6)) fun v18 =>
    opt (setcA 1 1 (ρ 6) v16) fun v19 =>
    opt (binA .sub .none (ρ 7) (.i 1)) fun v21 =>
    zb (sF (sF (sF (sF (sF (sF (sF (sF (sF (sF (sF (sF (sF (sF (sF ρ 33 (ρ 7)) 34 v4) 37 v7) 38 v8) 39 (ρ 0)) 40 (ρ 1)) 41 v11) 42 v12) 43 v14) 44 v16) 45 v18) 6 v19) 35 (ρ 7)) 36 v21) 7 v21) M17)
    else (z0 (sF (sF ρ 33 (ρ 7)) 34 v4) M)) := by intros; kernel_rfl
    refine (h (k11_9 call nl lo n) (k11_7 call nl lo)).trans ?_
    unfold b11_9; simp only [(t11_7 call nl lo), (t11_9 call nl lo n)] <;> (show _ = _; kernel_rfl)
def k11_8 (call : CallT) (nl lo : Nat) : Rg → MM → Option (AV × MM) := (execC call modeF lo nl p11_27 (k11_7 call nl lo) noE (endK cf11.res))
abbrev b11_8 (call : CallT) (nl lo : Nat) (x0 x1 x4 x6 x7 : AV) (M : MM) : Option (AV × MM) :=
  b11_9 call nl lo nl x0 x1 x4 x6 x7 M
theorem t11_8 (call : CallT) (nl lo : Nat) (ρ : Rg) (M : MM) : k11_8 call nl lo ρ M = b11_8 call nl lo (ρ 0) (ρ 1) (ρ 4) (ρ 6) (ρ 7) M := by
  have h : k11_8 call nl lo ρ M = (k11_9 call nl lo nl ρ M) := by kernel_rfl
  rw [h]
  unfold b11_8; simp only [(t11_9 call nl lo nl)] <;> (show _ = _; kernel_rfl)
def k11_6 (call : CallT) (nl lo : Nat) : Rg → MM → Option (AV × MM) := (execC call modeF lo nl p11_30 (endK cf11.res) noE (endK cf11.res))
abbrev b11_6 (call : CallT) (nl lo : Nat) (x0 x1 x4 x6 x7 : AV) (M : MM) : Option (AV × MM) :=
  b11_8 call nl lo x0 x1 x4 x6 x7 M
theorem t11_6 (call : CallT) (nl lo : Nat) (ρ : Rg) (M : MM) : k11_6 call nl lo ρ M = b11_6 call nl lo (ρ 0) (ρ 1) (ρ 4) (ρ 6) (ρ 7) M := by
  have h : k11_6 call nl lo ρ M = (k11_8 call nl lo ρ M) := execC_seq call modeF lo nl p11_27 p11_29 (endK cf11.res) noE (endK cf11.res) ρ M
  rw [h]
  unfold b11_6; simp only [(t11_8 call nl lo)] <;> (show _ = _; kernel_rfl)
def k11_10 (call : CallT) (nl lo : Nat) : Rg → MM → Option (AV × MM) := (execC call modeF lo nl p11_17 (k11_6 call nl lo) noE (endK cf11.res))
abbrev b11_10 (call : CallT) (nl lo : Nat) (x0 x1 x4 x6 x7 : AV) (M : MM) : Option (AV × MM) :=
  opt (fldA 0 0 true x6) fun v1 =>
  opt (fldA 0 1 false x6) fun v2 =>
  opt (binA .eql .none v2 (.str ⟨⟨[65, 114, 114, 97, 121]⟩⟩)) fun v3 =>
  isB v3 fun c4 => if c4 then (opt (binA .lss .none x1 (.i 0)) fun v7 =>
  isB v7 fun c8 => if c8 then (opt (fldA 0 0 true x6) fun v9 =>
  opt (setcA 0 1 x6 (.str ⟨⟨[73, 110, 116]⟩⟩)) fun v10 =>
  b11_6 call nl lo x0 x1 x4 v10 (.i 0) M)
  else (b11_6 call nl lo x0 x1 x4 x6 (.i 1) M))
  else (b11_6 call nl lo x0 x1 x4 x6 x7 M)
theorem t11_10 (call : CallT) (nl lo : Nat) (ρ : Rg) (M : MM) : k11_10 call nl lo ρ M = b11_10 call nl lo (ρ 0) (ρ 1) (ρ 4) (ρ 6) (ρ 7) M := by
  have h : ∀ (z0 : Rg → MM → Option (AV × MM)), (execC call modeF lo nl p11_17 z0 noE (endK cf11.res)) ρ M = (opt (fldA 0 0 true (ρ 6)) fun v1 =>
  opt (fldA 0 1 false (ρ 6)) fun v2 =>
  opt (binA .eql .none v2 (.str ⟨⟨[65, 114, 114, 97, 121]⟩⟩)) fun v3 =>
  isB v3 fun c4 => if c4 then (opt (binA .lss .none (ρ 1) (.i 0)) fun v7 =>
  isB v7 fun c8 => if c8 then (opt (fldA 0 0 true (ρ 6)) fun v9 =>
  opt (setcA 0 1 (ρ 6) (.str ⟨⟨[73, 110, 116]⟩⟩)) fun v10 =>
  z0 (sF (sF (sF (sF (sF (sF (sF (sF (sF ρ 27 v1) 28 v2) 29 v3) 7 (.i 1)) 30 (ρ 1)) 31 v7) 32 v9) 6 v10) 7 (.i 0)) M)
  else (z0 (sF (sF (sF (sF (sF (sF ρ 27 v1) 28 v2) 29 v3) 7 (.i 1)) 30 (ρ 1)) 31 v7) M))
  else (z0 (sF (sF (sF ρ 27 v1) 28 v2) 29 v3) M)) := by intros; kernel_rfl
  refine (h (k11_6 call nl lo)).trans ?_
  unfold b11_10; simp only [(t11_6 call nl lo)] <;> (show _ = _; kernel_rfl)
def k11_5 (call : CallT) (nl lo : Nat) : Rg → MM → Option (AV × MM) := (execC call modeF lo nl p11_31 (endK cf11.res) noE (endK cf11.res))
abbrev b11_5 (call : CallT) (nl lo : Nat) (x0 x1 x4 x6 x7 : AV) (M : MM) : Option (AV × MM) :=
  b11_10 call nl lo x0 x1 x4 x6 x7 M
theorem t11_5 (call : CallT) (nl lo : Nat) (ρ : Rg) (M : MM) : k11_5 call nl lo ρ M = b11_5 call nl lo (ρ 0) (ρ 1) (ρ 4) (ρ 6) (ρ 7) M := by
  have h : k11_5 call nl lo ρ M = (k11_10 call nl lo ρ M) := execC_seq call modeF lo nl p11_17 p11_30 (endK cf11.res) noE (endK cf11.res) ρ M
  rw [h]
  unfold b11_5; simp only [(t11_10 call nl lo)] <;> (show _ = _; kernel_rfl)
def k11_11 (call : CallT) (nl lo : Nat) : Rg → MM → Option (AV × MM) := (execC call modeF lo nl p11_8 (k11_5 call nl lo) noE (endK cf11.res))
abbrev b11_11 (call : CallT) (nl lo : Nat) (x0 x1 x4 x6 x7 : AV) (M : MM) : Option (AV × MM) :=
  opt (binA .gtr .none x1 (.i 0)) fun v2 =>
  opt (gdp v2 true (fldA 0 0 true x6)) fun v4 =>
  opt (gdp v2 true (fldA 0 1 false x6)) fun v5 =>
  opt (gdp v2 true (ixcA v5 (.i 0))) fun v6 =>
  opt (gdp v2 true (binA .geq .none v6 (.int .u8 97))) fun v7 =>
  opt (pickA v2 v7 (.bool false)) fun v8 =>
  isB v8 fun c9 => if c9 then (bnd (call 17 [x0, (.i 4)] lo M) fun v11 M12 =>
  b11_5 call nl lo x0 x1 x4 x6 v11 M12)
  else (b11_5 call nl lo x0 x1 x4 x6 x7 M)
theorem t11_11 (call : CallT) (nl lo : Nat) (ρ : Rg) (M : MM) : k11_11 call nl lo ρ M = b11_11 call nl lo (ρ 0) (ρ 1) (ρ 4) (ρ 6) (ρ 7) M := by
  have h : ∀ (z0 : Rg → MM → Option (AV × MM)), (execC call modeF lo nl p11_8 z0 noE (endK cf11.res)) ρ M = (opt (binA .gtr .none (ρ 1) (.i 0)) fun v2 =>
  opt (gdp v2 true (fldA 0 0 true (ρ 6))) fun v4 =>
  opt (gdp v2 true (fldA 0 1 false (ρ 6))) fun v5 =>
  opt (gdp v2 true (ixcA v5 (.i 0))) fun v6 =>
  opt (gdp v2 true (binA .geq .none v6 (.int .u8 97))) fun v7 =>
  opt (pickA v2 v7 (.bool false)) fun v8 =>
  isB v8 fun c9 => if c9 then (bnd (call 17 [(ρ 0), (.i 4)] lo M) fun v11 M12 =>
  z0 (sF (sF (sF (sF (sF (sF (sF (sF (sF (sF (sF ρ 17 (ρ 1)) 18 v2) 19 v2) 20 v4) 21 v5) 22 v6) 23 v7) 24 v8) 25 (ρ 0)) 26 v11) 7 v11) M12)
  else (z0 (sF (sF (sF (sF (sF (sF (sF (sF ρ 17 (ρ 1)) 18 v2) 19 v2) 20 v4) 21 v5) 22 v6) 23 v7) 24 v8) M)) := by intros; kernel_rfl
  refine (h (k11_5 call nl lo)).trans ?_
  unfold b11_11; simp only [(t11_5 call nl lo)] <;> (show _ = _; kernel_rfl)
def k11_4 (call : CallT) (nl lo : Nat) : Rg → MM → Option (AV × MM) := (execC call modeF lo nl p11_32 (endK cf11.res) noE (endK cf11.res))
abbrev b11_4 (call : CallT) (nl lo : Nat) (x0 x1 x4 x6 x7 : AV) (M : MM) : Option (AV × MM) :=
  b11_11 call nl lo x0 x1 x4 x6 x7 M
theorem t11_4 (call : CallT) (nl lo : Nat) (ρ : Rg) (M : MM) : k11_4 call nl lo ρ M = b11_4 call nl lo (ρ 0) (ρ 1) (ρ 4) (ρ 6) (ρ 7) M := by
  have h : k11_4 call nl lo ρ M = (k11_11 call nl lo ρ M) := execC_seq call modeF lo nl p11_8 p11_31 (endK cf11.res) noE (endK cf11.res) ρ M
  rw [h]
  unfold b11_4; simp only [(t11_11 call nl lo)] <;> (show _ = _; kernel_rfl)
def k11_12 (call : CallT) (nl lo : Nat) : Rg → MM → Option (AV × MM) := (execC call modeF lo nl p11_4 (k11_4 call nl lo) noE (endK cf11.res))
abbrev b11_12 (call : CallT) (nl lo : Nat) (x0 x1 x4 x6 : AV) (M : MM) : Option (AV × MM) :=
  b11_4 call nl lo x0 x1 x4 x6 (.i 0) M
theorem t11_12 (call : CallT) (nl lo : Nat) (ρ : Rg) (M : MM) : k11_12 call nl lo ρ M = b11_12 call nl lo (ρ 0) (ρ 1) (ρ 4) (ρ 6) M := by
  have h : ∀ (z0 : Rg → MM → Option (AV × MM)), (execC call modeF lo nl p11_4 z0 noE (endK cf11.res)) ρ M = (z0 (sF ρ 7 (.i 0)) M) := by intros; kernel_rfl
  refine (h (k11_4 call nl lo)).trans ?_
  unfold b11_12; simp only [(t11_4 call nl lo)] <;> (show _ = _; kernel_rfl)
def k11_3 (call : CallT) (nl lo : Nat) : Rg → MM → Option (AV × MM) := (execC call modeF lo nl p11_33 (endK cf11.res) noE (endK cf11.res))
abbrev b11_3 (call : CallT) (nl lo : Nat) (x0 x1 x4 x6 : AV) (M : MM) : Option (AV × MM) :=
  b11_12 call nl lo x0 x1 x4 x6 M
theorem t11_3 (call : CallT) (nl lo : Nat) (ρ : Rg) (M : MM) : k11_3 call nl lo ρ M = b11_3 call nl lo (ρ 0) (ρ 1) (ρ 4) (ρ 6) M := by
  have h : k11_3 call nl lo ρ M = (k11_12 call nl lo ρ M) := execC_seq call modeF lo nl p11_4 p11_32 (endK cf11.res) noE (endK cf11.res) ρ M
  rw [h]
  unfold b11_3; simp only [(t11_12 call nl lo)] <;> (show _ = _; kernel_rfl)
def k11_13 (call : CallT) (nl lo : Nat) : Rg → MM → Option (AV × MM) := (execC call modeF lo nl p11_3 (k11_3 call nl lo) noE (endK cf11.res))
abbrev b11_13 (call : CallT) (nl lo : Nat) (x0 x1 x4 x5 : AV) (M : MM) : Option (AV × MM) :=
  opt (lenA x5) fun v4 =>
  bnd (call 17 [x0, v4] lo M) fun v5 M6 =>
  opt (ixsA 1 x5 v5) fun v7 =>
  opt (ld1A (lk M6) v7) fun v8 =>
  opt ((fill [.str ⟨⟨[]⟩⟩, .d (.sl [] 0)] [(0, 1, v8)]).map .agg) fun v9 =>
  upK M6 M6.nx fun M11 =>
  opt (setcA 0 2 (.agg [.str ⟨⟨[]⟩⟩, .d (.sl [] 0)]) v9) fun v12 =>
  b11_3 call nl lo x0 x1 x4 v12 M11
theorem t11_13 (call : CallT) (nl lo : Nat) (ρ : Rg) (M : MM) : k11_13 call nl lo ρ M = b11_13 call nl lo (ρ 0) (ρ 1) (ρ 4) (ρ 5) M := by
  have h : ∀ (z0 : Rg → MM → Option (AV × MM)), (execC call modeF lo nl p11_3 z0 noE (endK cf11.res)) ρ M = (opt (lenA (ρ 5)) fun v4 =>
  bnd (call 17 [(ρ 0), v4] lo M) fun v5 M6 =>
  opt (ixsA 1 (ρ 5) v5) fun v7 =>
  opt (ld1A (lk M6) v7) fun v8 =>
  opt ((fill [.str ⟨⟨[]⟩⟩, .d (.sl [] 0)] [(0, 1, v8)]).map .agg) fun v9 =>
  upK M6 M6.nx fun M11 =>
  opt (setcA 0 2 (.agg [.str ⟨⟨[]⟩⟩, .d (.sl [] 0)]) v9) fun v12 =>
  z0 (sF (sF (sF (sF (sF (sF (sF (sF (sF (sF ρ 9 (ρ 5)) 10 (ρ 0)) 11 (ρ 5)) 12 v4) 13 v5) 14 v7) 15 v8) 16 v9) 6 (.agg [.str ⟨⟨[]⟩⟩, .d (.sl [] 0)])) 6 v12) M11) := by intros; kernel_rfl
  refine (h (k11_3 call nl lo)).trans ?_
  unfold b11_13; simp only [(t11_3 call nl lo)] <;> (show _ = _; kernel_rfl)
def k11_2 (call : CallT) (nl lo : Nat) : Rg → MM → Option (AV × MM) := (execC call modeF lo nl p11_34 (endK cf11.res) noE (endK cf11.res))
abbrev b11_2 (call : CallT) (nl lo : Nat) (x0 x1 x4 x5 : AV) (M : MM) : Option (AV × MM) :=
  b11_13 call nl lo x0 x1 x4 x5 M
theorem t11_2 (call : CallT) (nl lo : Nat) (ρ : Rg) (M : MM) : k11_2 call nl lo ρ M = b11_2 call nl lo (ρ 0) (ρ 1) (ρ 4) (ρ 5) M := by
  have h : k11_2 call nl lo ρ M = (k11_13 call nl lo ρ M) := execC_seq call modeF lo nl p11_3 p11_33 (endK cf11.res) noE (endK cf11.res) ρ M
  rw [h]
  unfold b11_2; simp only [(t11_13 call nl lo)] <;> (show _ = _; kernel_rfl)
def k11_14 (call : CallT) (nl lo : Nat) : Rg → MM → Option (AV × MM) := (execC call modeF lo nl p11_2 (k11_2 call nl lo) noE (endK cf11.res))
abbrev b11_14 (call : CallT) (nl lo : Nat) (x0 x1 x4 : AV) (M : MM) : Option (AV × MM) :=
  opt (wslA 9 (fill [.str ⟨⟨[]⟩⟩, .str ⟨⟨[]⟩⟩, .str ⟨⟨[]⟩⟩, .str ⟨⟨[]⟩⟩, .str ⟨⟨[]⟩⟩, .str ⟨⟨[]⟩⟩, .str ⟨⟨[]⟩⟩, .str ⟨⟨[]⟩⟩, .str ⟨⟨[]⟩⟩] [(0, 1, (.str ⟨⟨[73, 110, 116]⟩⟩)), (1, 1, (.str ⟨⟨[66, 111, 111, 108]⟩⟩)), (2, 1, (.str ⟨⟨[84]⟩⟩)), (3, 1, (.str ⟨⟨[85]⟩⟩)), (4, 1, (.str ⟨⟨[83, 101, 108, 102]⟩⟩)), (5, 1, (.str ⟨⟨[65, 114, 114, 97, 121]⟩⟩)), (6, 1, (.str ⟨⟨[103, 101, 111, 46, 80]⟩⟩)), (7, 1, (.str ⟨⟨[103, 101, 111, 46, 81]⟩⟩)), (8, 1, (.str ⟨⟨[98, 97, 115, 101, 46, 82]⟩⟩))])) fun v1 =>
  upK M M.nx fun M2 =>
  b11_2 call nl lo x0 x1 x4 v1 M2
theorem t11_14 (call : CallT) (nl lo : Nat) (ρ : Rg) (M : MM) : k11_14 call nl lo ρ M = b11_14 call nl lo (ρ 0) (ρ 1) (ρ 4) M := by
  have h : ∀ (z0 : Rg → MM → Option (AV × MM)), (execC call modeF lo nl p11_2 z0 noE (endK cf11.res)) ρ M = (opt (wslA 9 (fill [.str ⟨⟨[]⟩⟩, .str ⟨⟨[]⟩⟩, .str ⟨⟨[]⟩⟩, .str ⟨⟨[]⟩⟩, .str ⟨⟨[]⟩⟩, .str ⟨⟨[]⟩⟩, .str ⟨⟨[]⟩⟩, .str ⟨⟨[]⟩⟩, .str ⟨⟨[]⟩⟩] [(0, 1, (.str ⟨⟨[73, 110, 116]⟩⟩)), (1, 1, (.str ⟨⟨[66, 111, 111, 108]⟩⟩)), (2, 1, (.str ⟨⟨[84]⟩⟩)), (3, 1, (.str ⟨⟨[85]⟩⟩)), (4, 1, (.str ⟨⟨[83, 101, 108, 102]⟩⟩)), (5, 1, (.str ⟨⟨[65, 114, 114, 97, 121]⟩⟩)), (6, 1, (.str ⟨⟨[103, 101, 111, 46, 80]⟩⟩)), (7, 1, (.str ⟨⟨[103, 101, 111, 46, 81]⟩⟩)), (8, 1, (.str ⟨⟨[98, 97, 115, 101, 46, 82]⟩⟩))])) fun v1 =>
  upK M M.nx fun M2 =>
  z0 (sF (sF ρ 8 v1) 5 v1) M2) := by intros; kernel_rfl
  refine (h (k11_2 call nl lo)).trans ?_
  unfold b11_14; simp only [(t11_2 call nl lo)] <;> (show _ = _; kernel_rfl)
def k11_1 (call : CallT) (nl lo : Nat) : Rg → MM → Option (AV × MM) := (execC call modeF lo nl p11_35 (endK cf11.res) noE (endK cf11.res))
abbrev b11_1 (call : CallT) (nl lo : Nat) (x0 x1 x4 : AV) (M : MM) : Option (AV × MM) :=
  b11_14 call nl lo x0 x1 x4 M
theorem t11_1 (call : CallT) (nl lo : Nat) (ρ : Rg) (M : MM) : k11_1 call nl lo ρ M = b11_1 call nl lo (ρ 0) (ρ 1) (ρ 4) M := by
  have h : k11_1 call nl lo ρ M = (k11_14 call nl lo ρ M) := execC_seq call modeF lo nl p11_2 p11_34 (endK cf11.res) noE (endK cf11.res) ρ M
  rw [h]
  unfold b11_1; simp only [(t11_14 call nl lo)] <;> (show _ = _; kernel_rfl)
def k11_15 (call : CallT) (nl lo : Nat) : Rg → MM → Option (AV × MM) := (execC call modeF lo nl p11_1 (k11_1 call nl lo) noE (endK cf11.res))
abbrev b11_15 (call : CallT) (nl lo : Nat) (x0 x1 : AV) (M : MM) : Option (AV × MM) :=
  upK M M.nx fun M2 =>
  b11_1 call nl lo x0 x1 (.agg [.str ⟨⟨[]⟩⟩, .d (.sl [] 0)]) M2
theorem t11_15 (call : CallT) (nl lo : Nat) (ρ : Rg) (M : MM) : k11_15 call nl lo ρ M = b11_15 call nl lo (ρ 0) (ρ 1) M := by
  have h : ∀ (z0 : Rg → MM → Option (AV × MM)), (execC call modeF lo nl p11_1 z0 noE (endK cf11.res)) ρ M = (upK M M.nx fun M2 =>
  z0 (sF ρ 4 (.agg [.str ⟨⟨[]⟩⟩, .d (.sl [] 0)])) M2) := by intros; kernel_rfl
  refine (h (k11_1 call nl lo)).trans ?_
  unfold b11_15; simp only [(t11_1 call nl lo)] <;> (show _ = _; kernel_rfl)
def k11_0 (call : CallT) (nl lo : Nat) : Rg → MM → Option (AV × MM) := (execC call modeF lo nl p11_36 (endK cf11.res) noE (endK cf11.res))
abbrev b11_0 (call : CallT) (nl lo : Nat) (x0 x1 : AV) (M : MM) : Option (AV × MM) :=
  b11_15 call nl lo x0 x1 M
theorem t11_0 (call : CallT) (nl lo : Nat) (ρ : Rg) (M : MM) : k11_0 call nl lo ρ M = b11_0 call nl lo (ρ 0) (ρ 1) M := by
  have h : k11_0 call nl lo ρ M = (k11_15 call nl lo ρ M) := execC_seq call modeF lo nl p11_1 p11_35 (endK cf11.res) noE (endK cf11.res) ρ M
  rw [h]
  unfold b11_0; simp only [(t11_15 call nl lo)] <;> (show _ = _; kernel_rfl)
def k11_16 (call : CallT) (nl lo : Nat) : Rg → MM → Option (AV × MM) := (execC call modeF lo nl p11_0 (k11_0 call nl lo) noE (endK cf11.res))
abbrev b11_16 (call : CallT) (nl lo : Nat) (x0 x1 : AV) (M : MM) : Option (AV × MM) :=
  b11_0 call nl lo x0 x1 M
theorem t11_16 (call : CallT) (nl lo : Nat) (ρ : Rg) (M : MM) : k11_16 call nl lo ρ M = b11_16 call nl lo (ρ 0) (ρ 1) M := by
  have h : ∀ (z0 : Rg → MM → Option (AV × MM)), (execC call modeF lo nl p11_0 z0 noE (endK cf11.res)) ρ M = (z0 (sF (sF ρ 4 (.tup [])) 6 (.tup [])) M) := by intros; kernel_rfl
  refine (h (k11_0 call nl lo)).trans ?_
  unfold b11_16; simp only [(t11_0 call nl lo)] <;> (show _ = _; kernel_rfl)
def s11 (call : CallT) (nl lo : Nat) (a0 a1 : AV) (M : MM) : Option (AV × MM) :=
  b11_16 call nl lo a0 a1 M
theorem e11 (call : CallT) (nl lo : Nat) (a0 a1 : AV) (M : MM) : execC call modeF lo nl cf11.body (endK cf11.res) noE (endK cf11.res) (aF [a0, a1]) M = s11 call nl lo a0 a1 M := by
  have h : execC call modeF lo nl cf11.body (endK cf11.res) noE (endK cf11.res) (aF [a0, a1]) M = (k11_16 call nl lo (aF [a0, a1]) M) := execC_seq call modeF lo nl p11_0 p11_36 (endK cf11.res) noE (endK cf11.res) (aF [a0, a1]) M
  refine h.trans ?_
  unfold s11; simp only [(t11_16 call nl lo)] <;> (show _ = _; kernel_rfl)
theorem q11 {call : CallT} (hc : Lim G call) (lo : Nat) (a0 a1 : AV) (M : MM) : call 11 [a0, a1] lo M = s11 call G.nl lo a0 a1 M :=
  (hc.flow (cf := cf11) rfl w11 [a0, a1] lo M).trans (e11 call G.nl lo a0 a1 M)

/-! ### function 12 -/
theorem w12 : wfK cf12.nt cf12.body = true := by kernel_rfl
def s12 (call : CallT) (nl lo : Nat) (a0 : AV) (M : MM) : Option (AV × MM) :=
  opt ((fill [.d (.sl [] 0), .i 0] [(0, 1, a0)]).map .agg) fun v3 =>
  bnd (istep call modeF false lo (.top M.nx) M.nx (.box 56 (.k v3)) [] M) fun v4 M5 =>
  some (v4, M5)
theorem e12 (call : CallT) (nl lo : Nat) (a0 : AV) (M : MM) : execC call modeF lo nl cf12.body (endK cf12.res) noE (endK cf12.res) (aF [a0]) M = s12 call nl lo a0 M := by
  kernel_rfl
theorem q12 {call : CallT} (hc : Lim G call) (lo : Nat) (a0 : AV) (M : MM) : call 12 [a0] lo M = s12 call G.nl lo a0 M :=
  (hc.flow (cf := cf12) rfl w12 [a0] lo M).trans (e12 call G.nl lo a0 M)

/-! ### function 13 -/
theorem w13 : wfK cf13.nt cf13.body = true := by kernel_rfl
def s13 (call : CallT) (nl lo : Nat) (a0 a1 : AV) (M : MM) : Option (AV × MM) :=
  opt (aggA a0) fun v3 =>
  upK M M.nx fun M4 =>
  opt (aggA a1) fun v5 =>
  upK M4 M4.nx fun M6 =>
  opt (fldA 0 0 true v3) fun v8 =>
  opt (fldA 0 1 false v3) fun v9 =>
  opt (fldA 0 0 true v5) fun v10 =>
  opt (fldA 0 1 false v5) fun v11 =>
  opt (puA call (lk M6) 39 [v9, v11]) fun v12 =>
  opt (binA .neq .none v12 (.i 0)) fun v15 =>
  isB v15 fun c16 => if c16 then (some (v12, M6))
  else (opt (fldA 0 0 true v3) fun v19 =>
  opt (fldA 1 1 false v3) fun v20 =>
  opt (fldA 0 0 true v5) fun v21 =>
  opt (fldA 1 1 false v5) fun v22 =>
  bnd (call 40 [v20, v22, (.fn 13 [] [])] lo M6) fun v23 M24 =>
  some (v23, M24))
theorem e13 (call : CallT) (nl lo : Nat) (a0 a1 : AV) (M : MM) : execC call modeF lo nl cf13.body (endK cf13.res) noE (endK cf13.res) (aF [a0, a1]) M = s13 call nl lo a0 a1 M := by
  kernel_rfl
theorem q13 {call : CallT} (hc : Lim G call) (lo : Nat) (a0 a1 : AV) (M : MM) : call 13 [a0, a1] lo M = s13 call G.nl lo a0 a1 M :=
  (hc.flow (cf := cf13) rfl w13 [a0, a1] lo M).trans (e13 call G.nl lo a0 a1 M)

/-! ### function 14 -/
theorem w14 : wfK cf14.nt cf14.body = true := by kernel_rfl
def s14 (call : CallT) (nl lo : Nat) (a0 a1 : AV) (M : MM) : Option (AV × MM) :=
  opt (aggA a0) fun v3 =>
  upK M M.nx fun M4 =>
  opt (aggA a1) fun v5 =>
  upK M4 M4.nx fun M6 =>
  opt (fldA 0 0 true v3) fun v8 =>
  opt (fldA 0 1 false v3) fun v9 =>
  opt (fldA 0 0 true v5) fun v10 =>
  opt (fldA 0 1 false v5) fun v11 =>
  opt (binA .eql .none v9 v11) fun v12 =>
  opt (gdp v12 true (fldA 0 0 true v3)) fun v14 =>
  opt (gdp v12 true (fldA 1 1 false v3)) fun v15 =>
  opt (gdp v12 true (fldA 0 0 true v5)) fun v16 =>
  opt (gdp v12 true (fldA 1 1 false v5)) fun v17 =>
  bnd (gd v12 true M6 (call 41 [v15, v17, (.fn 14 [] [])] lo M6)) fun v18 M19 =>
  opt (pickA v12 v18 (.bool false)) fun v20 =>
  some (v20, M19)
theorem e14 (call : CallT) (nl lo : Nat) (a0 a1 : AV) (M : MM) : execC call modeF lo nl cf14.body (endK cf14.res) noE (endK cf14.res) (aF [a0, a1]) M = s14 call nl lo a0 a1 M := by
  kernel_rfl
theorem q14 {call : CallT} (hc : Lim G call) (lo : Nat) (a0 a1 : AV) (M : MM) : call 14 [a0, a1] lo M = s14 call G.nl lo a0 a1 M :=
  (hc.flow (cf := cf14) rfl w14 [a0, a1] lo M).trans (e14 call G.nl lo a0 a1 M)

/-! ### function 15 -/
theorem w15 : wfK cf15.nt cf15.body = true := by kernel_rfl
def k15_4 (call : CallT) (nl lo : Nat) : Rg → MM → Option (AV × MM) := (execC call modeF lo nl p15_23 (endK cf15.res) noE (endK cf15.res))
abbrev b15_4 (call : CallT) (nl lo : Nat) (x1 x3 : AV) (M : MM) : Option (AV × MM) :=
  bumpK M 8 fun M1 =>
  opt (fldA 0 0 true x1) fun v2 =>
  opt (fldA 0 1 false x1) fun v3 =>
  opt (binA .add .none v3 (.str ⟨⟨[91]⟩⟩)) fun v4 =>
  opt (puA call (look M1.mem (.mk M.nx 8 8 true)) 42 [x3, (.str ⟨⟨[44, 32]⟩⟩)]) fun v6 =>
  opt (binA .add .none v4 v6) fun v7 =>
  opt (binA .add .none v7 (.str ⟨⟨[93]⟩⟩)) fun v8 =>
  some (v8, M1)
theorem t15_4 (call : CallT) (nl lo : Nat) (ρ : Rg) (M : MM) : k15_4 call nl lo ρ M = b15_4 call nl lo (ρ 1) (ρ 3) M := by
  kernel_rfl
def k15_6 (call : CallT) (nl lo : Nat) (n : Nat) : Rg → MM → Option (AV × MM) := iterC (fun k ρ M => execC call modeF lo nl p15_18 k (fun i ρ M => if i = 0 then (k15_4 call nl lo) ρ M else noE i ρ M) (endK cf15.res) ρ M) n
def b15_6 (call : CallT) (nl lo : Nat) : Nat → AV → AV → AV → AV → AV → MM → Option (AV × MM)
  | 0, _, _, _, _, _, _ => none
  | n + 1, x1, x3, x13, x14, x15, M =>
  opt (binA .lss .none x15 x14) fun v14 =>
  isB v14 fun c15 => if c15 then (opt (ixsA 2 x13 x15) fun v16 =>
  opt (ldnA (lk M) 2 v16) fun v17 =>
  upK M M.nx fun M19 =>
  opt (setcA 0 2 (.agg [.str ⟨⟨[]⟩⟩, .d (.sl [] 0)]) v17) fun v20 =>
  opt (fldA 0 2 true v20) fun v22 =>
  opt (puA call (lk M19) 15 [v22]) fun v23 =>
  opt (wslA 1 (fill [.str ⟨⟨[]⟩⟩] [(0, 1, v23)])) fun v24 =>
  upK M19 M19.nx fun M25 =>
  opt (wappA M25.mem (.top M25.nx) 1 16 x3 v24) fun v26 =>
  upK M25 M25.nx fun M27 =>
  opt (binA .add .none x15 (.i 1)) fun v29 =>
  (b15_6 call nl lo n) x1 v26 x13 x14 v29 M27)
  else (b15_4 call nl lo x1 x3 M)
theorem t15_6 (call : CallT) (nl lo : Nat) : ∀ (n : Nat) (ρ : Rg) (M : MM), k15_6 call nl lo n ρ M = b15_6 call nl lo n (ρ 1) (ρ 3) (ρ 13) (ρ 14) (ρ 15) M
  | 0, ρ, M => rfl
  | n + 1, ρ, M => by
    have h : ∀ (zb z0 : Rg → MM → Option (AV × MM)), execC call modeF lo nl p15_18 zb (fun i ρ M => if i = 0 then z0 ρ M else noE i ρ M) (endK cf15.res) ρ M = (opt (binA .lss .none (ρ 15) (ρ 14)) fun v14 =>
    isB v14 fun c15 => if c15 then (opt (ixsA 2 (ρ 13) (ρ 15)) fun v16 =>
    opt (ldnA (lk M) 2 v16) fun v17 =>
    upK M M.nx fun M19 =>
    opt (setcA 0 2 (.agg [.str ⟨⟨[]⟩⟩, .d (.sl [] 0)]) v17) fun v20 =>
    opt (fldA 0 2 true v20) fun v22 =>
    opt (puA call (lk M19) 15 [v22]) fun v23 =>
    opt (wslA 1 (fill [.str ⟨⟨[]⟩⟩] [(0, 1, v23)])) fun v24 =>
    upK M19 M19.nx fun M25 =>
    opt (wappA M25.mem (.top M25.nx) 1 16 (ρ 3) v24) fun v26 =>
    upK M25 M25.nx fun M27 =>
    opt (binA .add .none (ρ 15) (.i 1)) fun v29 =>
    zb (sF (sF (sF (sF (sF (sF (sF (sF (sF (sF (sF (sF (sF ρ 16 v14) 17 v16) 18 v17) 5 (.agg [.str ⟨⟨[]⟩⟩, .d (.sl [] 0)])) 5 v20) 19 (ρ 3)) 20 v22) 21 v23) 22 v24) 23 v26) 3 v26) 24 v29) 15 v29) M27)
    else (z0 (sF ρ 16 v14) M)) := by intros; kernel_rfl
    refine (h (k15_6 call nl lo n) (k15_4 call nl lo)).trans ?_
    unfold b15_6; simp only [(t15_4 call nl lo), (t15_6 call nl lo n)] <;> (show _ = _; kernel_rfl)
def k15_5 (call : CallT) (nl lo : Nat) : Rg → MM → Option (AV × MM) := (execC call modeF lo nl p15_21 (k15_4 call nl lo) noE (endK cf15.res))
abbrev b15_5 (call : CallT) (nl lo : Nat) (x1 x3 : AV) (M : MM) : Option (AV × MM) :=
  opt (fldA 0 0 true x1) fun v10 =>
  opt (fldA 1 1 false x1) fun v11 =>
  opt (lenA v11) fun v12 =>
  b15_6 call nl lo nl x1 x3 v11 v12 (.i 0) M
theorem t15_5 (call : CallT) (nl lo : Nat) (ρ : Rg) (M : MM) : k15_5 call nl lo ρ M = b15_5 call nl lo (ρ 1) (ρ 3) M := by
  have h : k15_5 call nl lo ρ M = (opt (fldA 0 0 true (ρ 1)) fun v10 =>
  opt (fldA 1 1 false (ρ 1)) fun v11 =>
  opt (lenA v11) fun v12 =>
  k15_6 call nl lo nl (sF (sF (sF (sF ρ 12 v10) 13 v11) 14 v12) 15 (.i 0)) M) := by kernel_rfl
  rw [h]
  unfold b15_5; simp only [(t15_6 call nl lo nl)] <;> (show _ = _; kernel_rfl)
def k15_3 (call : CallT) (nl lo : Nat) : Rg → MM → Option (AV × MM) := (execC call modeF lo nl p15_24 (endK cf15.res) noE (endK cf15.res))
abbrev b15_3 (call : CallT) (nl lo : Nat) (x1 x3 : AV) (M : MM) : Option (AV × MM) :=
  b15_5 call nl lo x1 x3 M
theorem t15_3 (call : CallT) (nl lo : Nat) (ρ : Rg) (M : MM) : k15_3 call nl lo ρ M = b15_3 call nl lo (ρ 1) (ρ 3) M := by
  have h : k15_3 call nl lo ρ M = (k15_5 call nl lo ρ M) := execC_seq call modeF lo nl p15_21 p15_23 (endK cf15.res) noE (endK cf15.res) ρ M
  rw [h]
  unfold b15_3; simp only [(t15_5 call nl lo)] <;> (show _ = _; kernel_rfl)
def k15_7 (call : CallT) (nl lo : Nat) : Rg → MM → Option (AV × MM) := (execC call modeF lo nl p15_7 (k15_3 call nl lo) noE (endK cf15.res))
abbrev b15_7 (call : CallT) (nl lo : Nat) (x1 : AV) (M : MM) : Option (AV × MM) :=
  b15_3 call nl lo x1 (.d (.sl [] 0)) M
theorem t15_7 (call : CallT) (nl lo : Nat) (ρ : Rg) (M : MM) : k15_7 call nl lo ρ M = b15_7 call nl lo (ρ 1) M := by
  have h : ∀ (z0 : Rg → MM → Option (AV × MM)), (execC call modeF lo nl p15_7 z0 noE (endK cf15.res)) ρ M = (z0 (sF ρ 3 (.d (.sl [] 0))) M) := by intros; kernel_rfl
  refine (h (k15_3 call nl lo)).trans ?_
  unfold b15_7; simp only [(t15_3 call nl lo)] <;> (show _ = _; kernel_rfl)
def k15_2 (call : CallT) (nl lo : Nat) : Rg → MM → Option (AV × MM) := (execC call modeF lo nl p15_25 (endK cf15.res) noE (endK cf15.res))
abbrev b15_2 (call : CallT) (nl lo : Nat) (x1 : AV) (M : MM) : Option (AV × MM) :=
  b15_7 call nl lo x1 M
theorem t15_2 (call : CallT) (nl lo : Nat) (ρ : Rg) (M : MM) : k15_2 call nl lo ρ M = b15_2 call nl lo (ρ 1) M := by
  have h : k15_2 call nl lo ρ M = (k15_7 call nl lo ρ M) := execC_seq call modeF lo nl p15_7 p15_24 (endK cf15.res) noE (endK cf15.res) ρ M
  rw [h]
  unfold b15_2; simp only [(t15_7 call nl lo)] <;> (show _ = _; kernel_rfl)
def k15_8 (call : CallT) (nl lo : Nat) : Rg → MM → Option (AV × MM) := (execC call modeF lo nl p15_6 (k15_2 call nl lo) noE (endK cf15.res))
abbrev b15_8 (call : CallT) (nl lo : Nat) (x1 : AV) (M : MM) : Option (AV × MM) :=
  opt (fldA 0 0 true x1) fun v1 =>
  opt (fldA 1 1 false x1) fun v2 =>
  opt (lenA v2) fun v3 =>
  opt (binA .eql .none v3 (.i 0)) fun v4 =>
  isB v4 fun c5 => if c5 then (opt (fldA 0 0 true x1) fun v6 =>
  opt (fldA 0 1 false x1) fun v7 =>
  some (v7, M))
  else (b15_2 call nl lo x1 M)
theorem t15_8 (call : CallT) (nl lo : Nat) (ρ : Rg) (M : MM) : k15_8 call nl lo ρ M = b15_8 call nl lo (ρ 1) M := by
  have h : ∀ (z0 : Rg → MM → Option (AV × MM)), (execC call modeF lo nl p15_6 z0 noE (endK cf15.res)) ρ M = (opt (fldA 0 0 true (ρ 1)) fun v1 =>
  opt (fldA 1 1 false (ρ 1)) fun v2 =>
  opt (lenA v2) fun v3 =>
  opt (binA .eql .none v3 (.i 0)) fun v4 =>
  isB v4 fun c5 => if c5 then (opt (fldA 0 0 true (ρ 1)) fun v6 =>
  opt (fldA 0 1 false (ρ 1)) fun v7 =>
  some (v7, M))
  else (z0 (sF (sF (sF (sF ρ 6 v1) 7 v2) 8 v3) 9 v4) M)) := by intros; kernel_rfl
  refine (h (k15_2 call nl lo)).trans ?_
  unfold b15_8; simp only [(t15_2 call nl lo)] <;> (show _ = _; kernel_rfl)
def k15_1 (call : CallT) (nl lo : Nat) : Rg → MM → Option (AV × MM) := (execC call modeF lo nl p15_26 (endK cf15.res) noE (endK cf15.res))
abbrev b15_1 (call : CallT) (nl lo : Nat) (x1 : AV) (M : MM) : Option (AV × MM) :=
  b15_8 call nl lo x1 M
theorem t15_1 (call : CallT) (nl lo : Nat) (ρ : Rg) (M : MM) : k15_1 call nl lo ρ M = b15_1 call nl lo (ρ 1) M := by
  have h : k15_1 call nl lo ρ M = (k15_8 call nl lo ρ M) := execC_seq call modeF lo nl p15_6 p15_25 (endK cf15.res) noE (endK cf15.res) ρ M
  rw [h]
  unfold b15_1; simp only [(t15_8 call nl lo)] <;> (show _ = _; kernel_rfl)
def k15_9 (call : CallT) (nl lo : Nat) : Rg → MM → Option (AV × MM) := (execC call modeF lo nl p15_1 (k15_1 call nl lo) noE (endK cf15.res))
abbrev b15_9 (call : CallT) (nl lo : Nat) (x0 : AV) (M : MM) : Option (AV × MM) :=
  opt (aggA x0) fun v1 =>
  upK M M.nx fun M2 =>
  b15_1 call nl lo v1 M2
theorem t15_9 (call : CallT) (nl lo : Nat) (ρ : Rg) (M : MM) : k15_9 call nl lo ρ M = b15_9 call nl lo (ρ 0) M := by
  have h : ∀ (z0 : Rg → MM → Option (AV × MM)), (execC call modeF lo nl p15_1 z0 noE (endK cf15.res)) ρ M = (opt (aggA (ρ 0)) fun v1 =>
  upK M M.nx fun M2 =>
  z0 (sF (sF ρ 1 v1) 2 (.str ⟨⟨[]⟩⟩)) M2) := by intros; kernel_rfl
  refine (h (k15_1 call nl lo)).trans ?_
  unfold b15_9; simp only [(t15_1 call nl lo)] <;> (show _ = _; kernel_rfl)
def k15_0 (call : CallT) (nl lo : Nat) : Rg → MM → Option (AV × MM) := (execC call modeF lo nl p15_27 (endK cf15.res) noE (endK cf15.res))
abbrev b15_0 (call : CallT) (nl lo : Nat) (x0 : AV) (M : MM) : Option (AV × MM) :=
  b15_9 call nl lo x0 M
theorem t15_0 (call : CallT) (nl lo : Nat) (ρ : Rg) (M : MM) : k15_0 call nl lo ρ M = b15_0 call nl lo (ρ 0) M := by
  have h : k15_0 call nl lo ρ M = (k15_9 call nl lo ρ M) := execC_seq call modeF lo nl p15_1 p15_26 (endK cf15.res) noE (endK cf15.res) ρ M
  rw [h]
  unfold b15_0; simp only [(t15_9 call nl lo)] <;> (show _ = _; kernel_rfl)
def k15_10 (call : CallT) (nl lo : Nat) : Rg → MM → Option (AV × MM) := (execC call modeF lo nl p15_0 (k15_0 call nl lo) noE (endK cf15.res))
abbrev b15_10 (call : CallT) (nl lo : Nat) (x0 : AV) (M : MM) : Option (AV × MM) :=
  b15_0 call nl lo x0 M
theorem t15_10 (call : CallT) (nl lo : Nat) (ρ : Rg) (M : MM) : k15_10 call nl lo ρ M = b15_10 call nl lo (ρ 0) M := by
  have h : ∀ (z0 : Rg → MM → Option (AV × MM)), (execC call modeF lo nl p15_0 z0 noE (endK cf15.res)) ρ M = (z0 (sF (sF ρ 1 (.tup [])) 5 (.tup [])) M) := by intros; kernel_rfl
  refine (h (k15_0 call nl lo)).trans ?_
  unfold b15_10; simp only [(t15_0 call nl lo)] <;> (show _ = _; kernel_rfl)
def s15 (call : CallT) (nl lo : Nat) (a0 : AV) (M : MM) : Option (AV × MM) :=
  b15_10 call nl lo a0 M
theorem e15 (call : CallT) (nl lo : Nat) (a0 : AV) (M : MM) : execC call modeF lo nl cf15.body (endK cf15.res) noE (endK cf15.res) (aF [a0]) M = s15 call nl lo a0 M := by
  have h : execC call modeF lo nl cf15.body (endK cf15.res) noE (endK cf15.res) (aF [a0]) M = (k15_10 call nl lo (aF [a0]) M) := execC_seq call modeF lo nl p15_0 p15_27 (endK cf15.res) noE (endK cf15.res) (aF [a0]) M
  refine h.trans ?_
  unfold s15; simp only [(t15_10 call nl lo)] <;> (show _ = _; kernel_rfl)
theorem q15 {call : CallT} (hc : Lim G call) (lo : Nat) (a0 : AV) (M : MM) : call 15 [a0] lo M = s15 call G.nl lo a0 M :=
  (hc.flow (cf := cf15) rfl w15 [a0] lo M).trans (e15 call G.nl lo a0 M)

/-! ### function 17 -/
theorem w17 : wfK cf17.nt cf17.body = true := by kernel_rfl
def s17 (call : CallT) (nl lo : Nat) (a0 a1 : AV) (M : MM) : Option (AV × MM) :=
  bnd (call 43 [a0] lo M) fun v3 M4 =>
  opt (unA .not v3) fun v5 =>
  isB v5 fun c6 => if c6 then (some ((.i 0), M4))
  else (opt (nilcA a0) fun v9 =>
  opt (fadA 1 v9) fun v10 =>
  opt (ld1A (lk M4) v10) fun v11 =>
  opt (binA .add .none v11 (.i 1)) fun v12 =>
  opt (nilcA a0) fun v13 =>
  opt (fadA 1 v13) fun v14 =>
  bnd (istep call modeF false lo (.top M4.nx) M4.nx (.st 1 (.k v14) (.k v12)) [] M4) fun v15 M16 =>
  bumpK M16 14 fun M17 =>
  opt (nilcA a0) fun v19 =>
  opt (fadA 0 v19) fun v20 =>
  opt (ld1A (look M17.mem (.mk M16.nx 14 7 true)) v20) fun v21 =>
  opt (nilcA a0) fun v23 =>
  opt (fadA 1 v23) fun v24 =>
  opt (ld1A (look M17.mem (.mk M16.nx 14 112 true)) v24) fun v25 =>
  opt (binA .sub .none v25 (.i 1)) fun v26 =>
  opt (ixsA 1 v21 v26) fun v27 =>
  opt (ld1A (look M17.mem (.mk M16.nx 14 1023 true)) v27) fun v28 =>
  opt (puA call (look M17.mem (.mk M16.nx 14 4095 true)) 44 [v28, a1]) fun v30 =>
  some (v30, M17))
theorem e17 (call : CallT) (nl lo : Nat) (a0 a1 : AV) (M : MM) : execC call modeF lo nl cf17.body (endK cf17.res) noE (endK cf17.res) (aF [a0, a1]) M = s17 call nl lo a0 a1 M := by
  kernel_rfl
theorem q17 {call : CallT} (hc : Lim G call) (lo : Nat) (a0 a1 : AV) (M : MM) : call 17 [a0, a1] lo M = s17 call G.nl lo a0 a1 M :=
  (hc.flow (cf := cf17) rfl w17 [a0, a1] lo M).trans (e17 call G.nl lo a0 a1 M)

/-! ### function 18 -/
theorem w18 : wfK cf18.nt cf18.body = true := by kernel_rfl
def k18_4 (call : CallT) (nl lo : Nat) : Rg → MM → Option (AV × MM) := (execC call modeF lo nl p18_35 (endK cf18.res) noE (endK cf18.res))
abbrev b18_4 (call : CallT) (nl lo : Nat) (x1 x2 x3 x6 x8 : AV) (M : MM) : Option (AV × MM) :=
  opt (fldA 0 2 true x3) fun v1 =>
  opt (puA call (lk M) 46 [v1, x1, x8]) fun v4 =>
  opt (binA .gtr .none v4 (.i 4096)) fun v5 =>
  isB v5 fun c6 => if c6 then (opt ((fill [.str ⟨⟨[]⟩⟩, .d (.sl [] 0)] []).map .agg) fun v7 =>
  opt (setcA 0 2 x6 v7) fun v8 =>
  opt (resL [locA 2 true v8, some (.i 4)]) fun r => some (r, M))
  else (opt (fldA 0 2 true x3) fun v10 =>
  opt (puA call (lk M) 47 [v10, x1, x2]) fun v13 =>
  opt (setcA 0 2 x6 v13) fun v14 =>
  opt (resL [locA 2 true v14, some (.i 0)]) fun r => some (r, M))
theorem t18_4 (call : CallT) (nl lo : Nat) (ρ : Rg) (M : MM) : k18_4 call nl lo ρ M = b18_4 call nl lo (ρ 1) (ρ 2) (ρ 3) (ρ 6) (ρ 8) M := by
  kernel_rfl
def k18_6 (call : CallT) (nl lo : Nat) (n : Nat) : Rg → MM → Option (AV × MM) := iterC (fun k ρ M => execC call modeF lo nl p18_24 k (fun i ρ M => if i = 1 then (k18_4 call nl lo) ρ M else noE i ρ M) (endK cf18.res) ρ M) n
def b18_6 (call : CallT) (nl lo : Nat) : Nat → AV → AV → AV → AV → AV → AV → AV → AV → MM → Option (AV × MM)
  | 0, _, _, _, _, _, _, _, _, _ => none
  | n + 1, x1, x2, x3, x6, x8, x25, x26, x27, M =>
  opt (binA .lss .none x27 x26) fun v19 =>
  isB v19 fun c20 => if c20 then (opt (ixsA 2 x25 x27) fun v22 =>
  opt (ldnA (lk M) 2 v22) fun v23 =>
  upK M M.nx fun M25 =>
  opt (setcA 0 2 (.agg [.str ⟨⟨[]⟩⟩, .d (.sl [] 0)]) v23) fun v27 =>
  opt (fldA 0 2 true v27) fun v30 =>
  opt (puA call (lk M25) 25 [v30]) fun v31 =>
  opt (ixsA 1 x8 x27) fun v32 =>
  bnd (istep call modeF false lo (.top M25.nx) M25.nx (.st 1 (.k v32) (.k v31)) [] M25) fun v33 M34 =>
  opt (binA .add .none x27 (.i 1)) fun v35 =>
  (b18_6 call nl lo n) x1 x2 x3 x6 x8 x25 x26 v35 M34)
  else (b18_4 call nl lo x1 x2 x3 x6 x8 M)
theorem t18_6 (call : CallT) (nl lo : Nat) : ∀ (n : Nat) (ρ : Rg) (M : MM), k18_6 call nl lo n ρ M = b18_6 call nl lo n (ρ 1) (ρ 2) (ρ 3) (ρ 6) (ρ 8) (ρ 25) (ρ 26) (ρ 27) M
  | 0, ρ, M => rfl
  | n + 1, ρ, M => by
    have h : ∀ (zb z0 : Rg → MM → Option (AV × MM)), execC call modeF lo nl p18_24 zb (fun i ρ M => if i = 1 then z0 ρ M else noE i ρ M) (endK cf18.res) ρ M = (opt (binA .lss .none (ρ 27) (ρ 26)) fun v19 =>
    isB v19 fun c20 => if c20 then (opt (ixsA 2 (ρ 25) (ρ 27)) fun v22 =>
    opt (ldnA (lk M) 2 v22) fun v23 =>
    upK M M.nx fun M25 =>
    opt (setcA 0 2 (.agg [.str ⟨⟨[]⟩⟩, .d (.sl [] 0)]) v23) fun v27 =>
    opt (fldA 0 2 true v27) fun v30 =>
    opt (puA call (lk M25) 25 [v30]) fun v31 =>
    opt (ixsA 1 (ρ 8) (ρ 27)) fun v32 =>
    bnd (istep call modeF false lo (.top M25.nx) M25.nx (.st 1 (.k v32) (.k v31)) [] M25) fun v33 M34 =>
    opt (binA .add .none (ρ 27) (.i 1)) fun v35 =>
    zb (sF (sF (sF (sF (sF (sF (sF (sF (sF (sF (sF (sF (sF (sF ρ 28 v19) 29 (ρ 27)) 30 v22) 31 v23) 10 (.agg [.str ⟨⟨[]⟩⟩, .d (.sl [] 0)])) 9 (ρ 27)) 10 v27) 32 (ρ 8)) 33 (ρ 27)) 34 v30) 35 v31) 36 v32) 37 v35) 27 v35) M34)
    else (z0 (sF ρ 28 v19) M)) := by intros; kernel_rfl
    refine (h (k18_6 call nl lo n) (k18_4 call nl lo)).trans ?_
    unfold b18_6; simp only [(t18_4 call nl lo), (t18_6 call nl lo n)] <;> (show _ = _; kernel_rfl)
def k18_5 (call : CallT) (nl lo : Nat) : Rg → MM → Option (AV × MM) := (execC call modeF lo nl p18_27 (k18_4 call nl lo) noE (endK cf18.res))
abbrev b18_5 (call : CallT) (nl lo : Nat) (x1 x2 x3 x6 x8 : AV) (M : MM) : Option (AV × MM) :=
  opt (lenA x2) fun v17 =>
  b18_6 call nl lo nl x1 x2 x3 x6 x8 x2 v17 (.i 0) M
theorem t18_5 (call : CallT) (nl lo : Nat) (ρ : Rg) (M : MM) : k18_5 call nl lo ρ M = b18_5 call nl lo (ρ 1) (ρ 2) (ρ 3) (ρ 6) (ρ 8) M := by
  have h : k18_5 call nl lo ρ M = (opt (lenA (ρ 2)) fun v17 =>
  k18_6 call nl lo nl (sF (sF (sF ρ 25 (ρ 2)) 26 v17) 27 (.i 0)) M) := by kernel_rfl
  rw [h]
  unfold b18_5; simp only [(t18_6 call nl lo nl)] <;> (show _ = _; kernel_rfl)
def k18_3 (call : CallT) (nl lo : Nat) : Rg → MM → Option (AV × MM) := (execC call modeF lo nl p18_36 (endK cf18.res) noE (endK cf18.res))
abbrev b18_3 (call : CallT) (nl lo : Nat) (x1 x2 x3 x6 x8 : AV) (M : MM) : Option (AV × MM) :=
  b18_5 call nl lo x1 x2 x3 x6 x8 M
theorem t18_3 (call : CallT) (nl lo : Nat) (ρ : Rg) (M : MM) : k18_3 call nl lo ρ M = b18_3 call nl lo (ρ 1) (ρ 2) (ρ 3) (ρ 6) (ρ 8) M := by
  have h : k18_3 call nl lo ρ M = (k18_5 call nl lo ρ M) := execC_seq call modeF lo nl p18_27 p18_35 (endK cf18.res) noE (endK cf18.res) ρ M
  rw [h]
  unfold b18_3; simp only [(t18_5 call nl lo)] <;> (show _ = _; kernel_rfl)
def k18_7 (call : CallT) (nl lo : Nat) : Rg → MM → Option (AV × MM) := (execC call modeF lo nl p18_13 (k18_3 call nl lo) noE (endK cf18.res))
abbrev b18_7 (call : CallT) (nl lo : Nat) (x1 x2 x3 x6 : AV) (M : MM) : Option (AV × MM) :=
  opt (lenA x2) fun v2 =>
  bnd (istep call modeF false lo (.top M.nx) M.nx (.mkslice 3 1 8 [.i 0] (.k v2) (.k v2)) [] M) fun v3 M4 =>
  b18_3 call nl lo x1 x2 x3 x6 v3 M4
theorem t18_7 (call : CallT) (nl lo : Nat) (ρ : Rg) (M : MM) : k18_7 call nl lo ρ M = b18_7 call nl lo (ρ 1) (ρ 2) (ρ 3) (ρ 6) M := by
  have h : ∀ (z0 : Rg → MM → Option (AV × MM)), (execC call modeF lo nl p18_13 z0 noE (endK cf18.res)) ρ M = (opt (lenA (ρ 2)) fun v2 =>
  bnd (istep call modeF false lo (.top M.nx) M.nx (.mkslice 3 1 8 [.i 0] (.k v2) (.k v2)) [] M) fun v3 M4 =>
  z0 (sF (sF (sF (sF ρ 22 (ρ 2)) 23 v2) 24 v3) 8 v3) M4) := by intros; kernel_rfl
  refine (h (k18_3 call nl lo)).trans ?_
  unfold b18_7; simp only [(t18_3 call nl lo)] <;> (show _ = _; kernel_rfl)
def k18_2 (call : CallT) (nl lo : Nat) : Rg → MM → Option (AV × MM) := (execC call modeF lo nl p18_37 (endK cf18.res) noE (endK cf18.res))
abbrev b18_2 (call : CallT) (nl lo : Nat) (x1 x2 x3 x6 : AV) (M : MM) : Option (AV × MM) :=
  b18_7 call nl lo x1 x2 x3 x6 M
theorem t18_2 (call : CallT) (nl lo : Nat) (ρ : Rg) (M : MM) : k18_2 call nl lo ρ M = b18_2 call nl lo (ρ 1) (ρ 2) (ρ 3) (ρ 6) M := by
  have h : k18_2 call nl lo ρ M = (k18_7 call nl lo ρ M) := execC_seq call modeF lo nl p18_13 p18_36 (endK cf18.res) noE (endK cf18.res) ρ M
  rw [h]
  unfold b18_2; simp only [(t18_7 call nl lo)] <;> (show _ = _; kernel_rfl)
def k18_8 (call : CallT) (nl lo : Nat) : Rg → MM → Option (AV × MM) := (execC call modeF lo nl p18_12 (k18_2 call nl lo) noE (endK cf18.res))
abbrev b18_8 (call : CallT) (nl lo : Nat) (x1 x2 x3 x6 : AV) (M : MM) : Option (AV × MM) :=
  opt (lenA x1) fun v2 =>
  opt (lenA x2) fun v4 =>
  opt (binA .neq .none v2 v4) fun v5 =>
  isB v5 fun c7 => if c7 then (opt ((fill [.str ⟨⟨[]⟩⟩, .d (.sl [] 0)] []).map .agg) fun v8 =>
  opt (setcA 0 2 x6 v8) fun v9 =>
  opt (resL [locA 2 true v9, some (.i 9)]) fun r => some (r, M))
  else (opt (puA call (lk M) 45 [x1]) fun v12 =>
  isB v12 fun c14 => if c14 then (opt ((fill [.str ⟨⟨[]⟩⟩, .d (.sl [] 0)] []).map .agg) fun v15 =>
  opt (setcA 0 2 x6 v15) fun v16 =>
  opt (resL [locA 2 true v16, some (.i 5)]) fun r => some (r, M))
  else (b18_2 call nl lo x1 x2 x3 x6 M))
theorem t18_8 (call : CallT) (nl lo : Nat) (ρ : Rg) (M : MM) : k18_8 call nl lo ρ M = b18_8 call nl lo (ρ 1) (ρ 2) (ρ 3) (ρ 6) M := by
  have h : ∀ (z0 : Rg → MM → Option (AV × MM)), (execC call modeF lo nl p18_12 z0 noE (endK cf18.res)) ρ M = (opt (lenA (ρ 1)) fun v2 =>
  opt (lenA (ρ 2)) fun v4 =>
  opt (binA .neq .none v2 v4) fun v5 =>
  isB v5 fun c7 => if c7 then (opt ((fill [.str ⟨⟨[]⟩⟩, .d (.sl [] 0)] []).map .agg) fun v8 =>
  opt (setcA 0 2 (ρ 6) v8) fun v9 =>
  opt (resL [locA 2 true v9, some (.i 9)]) fun r => some (r, M))
  else (opt (puA call (lk M) 45 [(ρ 1)]) fun v12 =>
  isB v12 fun c14 => if c14 then (opt ((fill [.str ⟨⟨[]⟩⟩, .d (.sl [] 0)] []).map .agg) fun v15 =>
  opt (setcA 0 2 (ρ 6) v15) fun v16 =>
  opt (resL [locA 2 true v16, some (.i 5)]) fun r => some (r, M))
  else (z0 (sF (sF (sF (sF (sF (sF (sF (sF (sF ρ 12 (ρ 1)) 13 v2) 14 (ρ 2)) 15 v4) 16 v5) 11 v5) 19 (ρ 1)) 20 v12) 18 v12) M))) := by intros; kernel_rfl
  refine (h (k18_2 call nl lo)).trans ?_
  unfold b18_8; simp only [(t18_2 call nl lo)] <;> (show _ = _; kernel_rfl)
def k18_1 (call : CallT) (nl lo : Nat) : Rg → MM → Option (AV × MM) := (execC call modeF lo nl p18_38 (endK cf18.res) noE (endK cf18.res))
abbrev b18_1 (call : CallT) (nl lo : Nat) (x1 x2 x3 x6 : AV) (M : MM) : Option (AV × MM) :=
  b18_8 call nl lo x1 x2 x3 x6 M
theorem t18_1 (call : CallT) (nl lo : Nat) (ρ : Rg) (M : MM) : k18_1 call nl lo ρ M = b18_1 call nl lo (ρ 1) (ρ 2) (ρ 3) (ρ 6) M := by
  have h : k18_1 call nl lo ρ M = (k18_8 call nl lo ρ M) := execC_seq call modeF lo nl p18_12 p18_37 (endK cf18.res) noE (endK cf18.res) ρ M
  rw [h]
  unfold b18_1; simp only [(t18_8 call nl lo)] <;> (show _ = _; kernel_rfl)
def k18_9 (call : CallT) (nl lo : Nat) : Rg → MM → Option (AV × MM) := (execC call modeF lo nl p18_1 (k18_1 call nl lo) noE (endK cf18.res))
abbrev b18_9 (call : CallT) (nl lo : Nat) (x0 x1 x2 : AV) (M : MM) : Option (AV × MM) :=
  opt (aggA x0) fun v1 =>
  upK M M.nx fun M2 =>
  upK M2 M2.nx fun M4 =>
  b18_1 call nl lo x1 x2 v1 (.agg [.str ⟨⟨[]⟩⟩, .d (.sl [] 0)]) M4
theorem t18_9 (call : CallT) (nl lo : Nat) (ρ : Rg) (M : MM) : k18_9 call nl lo ρ M = b18_9 call nl lo (ρ 0) (ρ 1) (ρ 2) M := by
  have h : ∀ (z0 : Rg → MM → Option (AV × MM)), (execC call modeF lo nl p18_1 z0 noE (endK cf18.res)) ρ M = (opt (aggA (ρ 0)) fun v1 =>
  upK M M.nx fun M2 =>
  upK M2 M2.nx fun M4 =>
  z0 (sF (sF (sF ρ 3 v1) 6 (.agg [.str ⟨⟨[]⟩⟩, .d (.sl [] 0)])) 7 (.i 0)) M4) := by intros; kernel_rfl
  refine (h (k18_1 call nl lo)).trans ?_
  unfold b18_9; simp only [(t18_1 call nl lo)] <;> (show _ = _; kernel_rfl)
def k18_0 (call : CallT) (nl lo : Nat) : Rg → MM → Option (AV × MM) := (execC call modeF lo nl p18_39 (endK cf18.res) noE (endK cf18.res))
abbrev b18_0 (call : CallT) (nl lo : Nat) (x0 x1 x2 : AV) (M : MM) : Option (AV × MM) :=
  b18_9 call nl lo x0 x1 x2 M
theorem t18_0 (call : CallT) (nl lo : Nat) (ρ : Rg) (M : MM) : k18_0 call nl lo ρ M = b18_0 call nl lo (ρ 0) (ρ 1) (ρ 2) M := by
  have h : k18_0 call nl lo ρ M = (k18_9 call nl lo ρ M) := execC_seq call modeF lo nl p18_1 p18_38 (endK cf18.res) noE (endK cf18.res) ρ M
  rw [h]
  unfold b18_0; simp only [(t18_9 call nl lo)] <;> (show _ = _; kernel_rfl)
def k18_10 (call : CallT) (nl lo : Nat) : Rg → MM → Option (AV × MM) := (execC call modeF lo nl p18_0 (k18_0 call nl lo) noE (endK cf18.res))
abbrev b18_10 (call : CallT) (nl lo : Nat) (x0 x1 x2 : AV) (M : MM) : Option (AV × MM) :=
  b18_0 call nl lo x0 x1 x2 M
theorem t18_10 (call : CallT) (nl lo : Nat) (ρ : Rg) (M : MM) : k18_10 call nl lo ρ M = b18_10 call nl lo (ρ 0) (ρ 1) (ρ 2) M := by
  have h : ∀ (z0 : Rg → MM → Option (AV × MM)), (execC call modeF lo nl p18_0 z0 noE (endK cf18.res)) ρ M = (z0 (sF (sF (sF ρ 3 (.tup [])) 6 (.tup [])) 10 (.tup [])) M) := by intros; kernel_rfl
  refine (h (k18_0 call nl lo)).trans ?_
  unfold b18_10; simp only [(t18_0 call nl lo)] <;> (show _ = _; kernel_rfl)
def s18 (call : CallT) (nl lo : Nat) (a0 a1 a2 : AV) (M : MM) : Option (AV × MM) :=
  b18_10 call nl lo a0 a1 a2 M
theorem e18 (call : CallT) (nl lo : Nat) (a0 a1 a2 : AV) (M : MM) : execC call modeF lo nl cf18.body (endK cf18.res) noE (endK cf18.res) (aF [a0, a1, a2]) M = s18 call nl lo a0 a1 a2 M := by
  have h : execC call modeF lo nl cf18.body (endK cf18.res) noE (endK cf18.res) (aF [a0, a1, a2]) M = (k18_10 call nl lo (aF [a0, a1, a2]) M) := execC_seq call modeF lo nl p18_0 p18_39 (endK cf18.res) noE (endK cf18.res) (aF [a0, a1, a2]) M
  refine h.trans ?_
  unfold s18; simp only [(t18_10 call nl lo)] <;> (show _ = _; kernel_rfl)
theorem q18 {call : CallT} (hc : Lim G call) (lo : Nat) (a0 a1 a2 : AV) (M : MM) : call 18 [a0, a1, a2] lo M = s18 call G.nl lo a0 a1 a2 M :=
  (hc.flow (cf := cf18) rfl w18 [a0, a1, a2] lo M).trans (e18 call G.nl lo a0 a1 a2 M)

/-! ### function 24 -/
theorem w24 : wfK cf24.nt cf24.body = true := by kernel_rfl
def k24_3 (call : CallT) (nl lo : Nat) : Rg → MM → Option (AV × MM) := (execC call modeF lo nl p24_18 (endK cf24.res) noE (endK cf24.res))
abbrev b24_3 (call : CallT) (nl lo : Nat) (x3 : AV) (M : MM) : Option (AV × MM) :=
  opt (binA .add .none (.i 1) x3) fun v2 =>
  some (v2, M)
theorem t24_3 (call : CallT) (nl lo : Nat) (ρ : Rg) (M : MM) : k24_3 call nl lo ρ M = b24_3 call nl lo (ρ 3) M := by
  kernel_rfl
def k24_5 (call : CallT) (nl lo : Nat) (n : Nat) : Rg → MM → Option (AV × MM) := iterC (fun k ρ M => execC call modeF lo nl p24_13 k (fun i ρ M => if i = 0 then (k24_3 call nl lo) ρ M else noE i ρ M) (endK cf24.res) ρ M) n
def b24_5 (call : CallT) (nl lo : Nat) : Nat → AV → AV → AV → AV → MM → Option (AV × MM)
  | 0, _, _, _, _, _ => none
  | n + 1, x3, x7, x8, x9, M =>
  opt (binA .lss .none x9 x8) fun v8 =>
  isB v8 fun c9 => if c9 then (opt (ixsA 2 x7 x9) fun v10 =>
  opt (ldnA (lk M) 2 v10) fun v11 =>
  upK M M.nx fun M13 =>
  opt (setcA 0 2 (.agg [.str ⟨⟨[]⟩⟩, .d (.sl [] 0)]) v11) fun v14 =>
  opt (fldA 0 2 true v14) fun v16 =>
  opt (puA call (lk M13) 24 [v16]) fun v17 =>
  opt (mmaxA true x3 v17) fun v18 =>
  opt (binA .add .none x9 (.i 1)) fun v20 =>
  (b24_5 call nl lo n) v18 x7 x8 v20 M13)
  else (b24_3 call nl lo x3 M)
theorem t24_5 (call : CallT) (nl lo : Nat) : ∀ (n : Nat) (ρ : Rg) (M : MM), k24_5 call nl lo n ρ M = b24_5 call nl lo n (ρ 3) (ρ 7) (ρ 8) (ρ 9) M
  | 0, ρ, M => rfl
  | n + 1, ρ, M => by
    have h : ∀ (zb z0 : Rg → MM → Option (AV × MM)), execC call modeF lo nl p24_13 zb (fun i ρ M => if i = 0 then z0 ρ M else noE i ρ M) (endK cf24.res) ρ M = (opt (binA .lss .none (ρ 9) (ρ 8)) fun v8 =>
    isB v8 fun c9 => if c9 then (opt (ixsA 2 (ρ 7) (ρ 9)) fun v10 =>
    opt (ldnA (lk M) 2 v10) fun v11 =>
    upK M M.nx fun M13 =>
    opt (setcA 0 2 (.agg [.str ⟨⟨[]⟩⟩, .d (.sl [] 0)]) v11) fun v14 =>
    opt (fldA 0 2 true v14) fun v16 =>
    opt (puA call (lk M13) 24 [v16]) fun v17 =>
    opt (mmaxA true (ρ 3) v17) fun v18 =>
    opt (binA .add .none (ρ 9) (.i 1)) fun v20 =>
    zb (sF (sF (sF (sF (sF (sF (sF (sF (sF (sF (sF (sF ρ 10 v8) 11 v10) 12 v11) 5 (.agg [.str ⟨⟨[]⟩⟩, .d (.sl [] 0)])) 5 v14) 13 (ρ 3)) 14 v16) 15 v17) 16 v18) 3 v18) 17 v20) 9 v20) M13)
    else (z0 (sF ρ 10 v8) M)) := by intros; kernel_rfl
    refine (h (k24_5 call nl lo n) (k24_3 call nl lo)).trans ?_
    unfold b24_5; simp only [(t24_3 call nl lo), (t24_5 call nl lo n)] <;> (show _ = _; kernel_rfl)
def k24_4 (call : CallT) (nl lo : Nat) : Rg → MM → Option (AV × MM) := (execC call modeF lo nl p24_16 (k24_3 call nl lo) noE (endK cf24.res))
abbrev b24_4 (call : CallT) (nl lo : Nat) (x1 x3 : AV) (M : MM) : Option (AV × MM) :=
  opt (fldA 0 0 true x1) fun v4 =>
  opt (fldA 1 1 false x1) fun v5 =>
  opt (lenA v5) fun v6 =>
  b24_5 call nl lo nl x3 v5 v6 (.i 0) M
theorem t24_4 (call : CallT) (nl lo : Nat) (ρ : Rg) (M : MM) : k24_4 call nl lo ρ M = b24_4 call nl lo (ρ 1) (ρ 3) M := by
  have h : k24_4 call nl lo ρ M = (opt (fldA 0 0 true (ρ 1)) fun v4 =>
  opt (fldA 1 1 false (ρ 1)) fun v5 =>
  opt (lenA v5) fun v6 =>
  k24_5 call nl lo nl (sF (sF (sF (sF ρ 6 v4) 7 v5) 8 v6) 9 (.i 0)) M) := by kernel_rfl
  rw [h]
  unfold b24_4; simp only [(t24_5 call nl lo nl)] <;> (show _ = _; kernel_rfl)
def k24_2 (call : CallT) (nl lo : Nat) : Rg → MM → Option (AV × MM) := (execC call modeF lo nl p24_19 (endK cf24.res) noE (endK cf24.res))
abbrev b24_2 (call : CallT) (nl lo : Nat) (x1 x3 : AV) (M : MM) : Option (AV × MM) :=
  b24_4 call nl lo x1 x3 M
theorem t24_2 (call : CallT) (nl lo : Nat) (ρ : Rg) (M : MM) : k24_2 call nl lo ρ M = b24_2 call nl lo (ρ 1) (ρ 3) M := by
  have h : k24_2 call nl lo ρ M = (k24_4 call nl lo ρ M) := execC_seq call modeF lo nl p24_16 p24_18 (endK cf24.res) noE (endK cf24.res) ρ M
  rw [h]
  unfold b24_2; simp only [(t24_4 call nl lo)] <;> (show _ = _; kernel_rfl)
def k24_6 (call : CallT) (nl lo : Nat) : Rg → MM → Option (AV × MM) := (execC call modeF lo nl p24_2 (k24_2 call nl lo) noE (endK cf24.res))
abbrev b24_6 (call : CallT) (nl lo : Nat) (x1 : AV) (M : MM) : Option (AV × MM) :=
  b24_2 call nl lo x1 (.i 0) M
theorem t24_6 (call : CallT) (nl lo : Nat) (ρ : Rg) (M : MM) : k24_6 call nl lo ρ M = b24_6 call nl lo (ρ 1) M := by
  have h : ∀ (z0 : Rg → MM → Option (AV × MM)), (execC call modeF lo nl p24_2 z0 noE (endK cf24.res)) ρ M = (z0 (sF ρ 3 (.i 0)) M) := by intros; kernel_rfl
  refine (h (k24_2 call nl lo)).trans ?_
  unfold b24_6; simp only [(t24_2 call nl lo)] <;> (show _ = _; kernel_rfl)
def k24_1 (call : CallT) (nl lo : Nat) : Rg → MM → Option (AV × MM) := (execC call modeF lo nl p24_20 (endK cf24.res) noE (endK cf24.res))
abbrev b24_1 (call : CallT) (nl lo : Nat) (x1 : AV) (M : MM) : Option (AV × MM) :=
  b24_6 call nl lo x1 M
theorem t24_1 (call : CallT) (nl lo : Nat) (ρ : Rg) (M : MM) : k24_1 call nl lo ρ M = b24_1 call nl lo (ρ 1) M := by
  have h : k24_1 call nl lo ρ M = (k24_6 call nl lo ρ M) := execC_seq call modeF lo nl p24_2 p24_19 (endK cf24.res) noE (endK cf24.res) ρ M
  rw [h]
  unfold b24_1; simp only [(t24_6 call nl lo)] <;> (show _ = _; kernel_rfl)
def k24_7 (call : CallT) (nl lo : Nat) : Rg → MM → Option (AV × MM) := (execC call modeF lo nl p24_1 (k24_1 call nl lo) noE (endK cf24.res))
abbrev b24_7 (call : CallT) (nl lo : Nat) (x0 : AV) (M : MM) : Option (AV × MM) :=
  opt (aggA x0) fun v1 =>
  upK M M.nx fun M2 =>
  b24_1 call nl lo v1 M2
theorem t24_7 (call : CallT) (nl lo : Nat) (ρ : Rg) (M : MM) : k24_7 call nl lo ρ M = b24_7 call nl lo (ρ 0) M := by
  have h : ∀ (z0 : Rg → MM → Option (AV × MM)), (execC call modeF lo nl p24_1 z0 noE (endK cf24.res)) ρ M = (opt (aggA (ρ 0)) fun v1 =>
  upK M M.nx fun M2 =>
  z0 (sF (sF ρ 1 v1) 2 (.i 0)) M2) := by intros; kernel_rfl
  refine (h (k24_1 call nl lo)).trans ?_
  unfold b24_7; simp only [(t24_1 call nl lo)] <;> (show _ = _; kernel_rfl)
def k24_0 (call : CallT) (nl lo : Nat) : Rg → MM → Option (AV × MM) := (execC call modeF lo nl p24_21 (endK cf24.res) noE (endK cf24.res))
abbrev b24_0 (call : CallT) (nl lo : Nat) (x0 : AV) (M : MM) : Option (AV × MM) :=
  b24_7 call nl lo x0 M
theorem t24_0 (call : CallT) (nl lo : Nat) (ρ : Rg) (M : MM) : k24_0 call nl lo ρ M = b24_0 call nl lo (ρ 0) M := by
  have h : k24_0 call nl lo ρ M = (k24_7 call nl lo ρ M) := execC_seq call modeF lo nl p24_1 p24_20 (endK cf24.res) noE (endK cf24.res) ρ M
  rw [h]
  unfold b24_0; simp only [(t24_7 call nl lo)] <;> (show _ = _; kernel_rfl)
def k24_8 (call : CallT) (nl lo : Nat) : Rg → MM → Option (AV × MM) := (execC call modeF lo nl p24_0 (k24_0 call nl lo) noE (endK cf24.res))
abbrev b24_8 (call : CallT) (nl lo : Nat) (x0 : AV) (M : MM) : Option (AV × MM) :=
  b24_0 call nl lo x0 M
theorem t24_8 (call : CallT) (nl lo : Nat) (ρ : Rg) (M : MM) : k24_8 call nl lo ρ M = b24_8 call nl lo (ρ 0) M := by
  have h : ∀ (z0 : Rg → MM → Option (AV × MM)), (execC call modeF lo nl p24_0 z0 noE (endK cf24.res)) ρ M = (z0 (sF (sF ρ 1 (.tup [])) 5 (.tup [])) M) := by intros; kernel_rfl
  refine (h (k24_0 call nl lo)).trans ?_
  unfold b24_8; simp only [(t24_0 call nl lo)] <;> (show _ = _; kernel_rfl)
def s24 (call : CallT) (nl lo : Nat) (a0 : AV) (M : MM) : Option (AV × MM) :=
  b24_8 call nl lo a0 M
theorem e24 (call : CallT) (nl lo : Nat) (a0 : AV) (M : MM) : execC call modeF lo nl cf24.body (endK cf24.res) noE (endK cf24.res) (aF [a0]) M = s24 call nl lo a0 M := by
  have h : execC call modeF lo nl cf24.body (endK cf24.res) noE (endK cf24.res) (aF [a0]) M = (k24_8 call nl lo (aF [a0]) M) := execC_seq call modeF lo nl p24_0 p24_21 (endK cf24.res) noE (endK cf24.res) (aF [a0]) M
  refine h.trans ?_
  unfold s24; simp only [(t24_8 call nl lo)] <;> (show _ = _; kernel_rfl)
theorem q24 {call : CallT} (hc : Lim G call) (lo : Nat) (a0 : AV) (M : MM) : call 24 [a0] lo M = s24 call G.nl lo a0 M :=
  (hc.flow (cf := cf24) rfl w24 [a0] lo M).trans (e24 call G.nl lo a0 M)

/-! ### function 25 -/
theorem w25 : wfK cf25.nt cf25.body = true := by kernel_rfl
def k25_3 (call : CallT) (nl lo : Nat) : Rg → MM → Option (AV × MM) := (execC call modeF lo nl p25_18 (endK cf25.res) noE (endK cf25.res))
abbrev b25_3 (call : CallT) (nl lo : Nat) (x3 : AV) (M : MM) : Option (AV × MM) :=
  some (x3, M)
theorem t25_3 (call : CallT) (nl lo : Nat) (ρ : Rg) (M : MM) : k25_3 call nl lo ρ M = b25_3 call nl lo (ρ 3) M := by
  kernel_rfl
def k25_5 (call : CallT) (nl lo : Nat) (n : Nat) : Rg → MM → Option (AV × MM) := iterC (fun k ρ M => execC call modeF lo nl p25_13 k (fun i ρ M => if i = 0 then (k25_3 call nl lo) ρ M else noE i ρ M) (endK cf25.res) ρ M) n
def b25_5 (call : CallT) (nl lo : Nat) : Nat → AV → AV → AV → AV → MM → Option (AV × MM)
  | 0, _, _, _, _, _ => none
  | n + 1, x3, x7, x8, x9, M =>
  opt (binA .lss .none x9 x8) fun v7 =>
  isB v7 fun c8 => if c8 then (opt (ixsA 2 x7 x9) fun v9 =>
  opt (ldnA (lk M) 2 v9) fun v10 =>
  upK M M.nx fun M12 =>
  opt (setcA 0 2 (.agg [.str ⟨⟨[]⟩⟩, .d (.sl [] 0)]) v10) fun v13 =>
  opt (fldA 0 2 true v13) fun v15 =>
  opt (puA call (lk M12) 25 [v15]) fun v16 =>
  opt (binA .add .none x3 v16) fun v17 =>
  opt (binA .add .none x9 (.i 1)) fun v19 =>
  (b25_5 call nl lo n) v17 x7 x8 v19 M12)
  else (b25_3 call nl lo x3 M)
theorem t25_5 (call : CallT) (nl lo : Nat) : ∀ (n : Nat) (ρ : Rg) (M : MM), k25_5 call nl lo n ρ M = b25_5 call nl lo n (ρ 3) (ρ 7) (ρ 8) (ρ 9) M
  | 0, ρ, M => rfl
  | n + 1, ρ, M => by
    have h : ∀ (zb z0 : Rg → MM → Option (AV × MM)), execC call modeF lo nl p25_13 zb (fun i ρ M => if i = 0 then z0 ρ M else noE i ρ M) (endK cf25.res) ρ M = (opt (binA .lss .none (ρ 9) (ρ 8)) fun v7 =>
    isB v7 fun c8 => if c8 then (opt (ixsA 2 (ρ 7) (ρ 9)) fun v9 =>
    opt (ldnA (lk M) 2 v9) fun v10 =>
    upK M M.nx fun M12 =>
    opt (setcA 0 2 (.agg [.str ⟨⟨[]⟩⟩, .d (.sl [] 0)]) v10) fun v13 =>
    opt (fldA 0 2 true v13) fun v15 =>
    opt (puA call (lk M12) 25 [v15]) fun v16 =>
    opt (binA .add .none (ρ 3) v16) fun v17 =>
    opt (binA .add .none (ρ 9) (.i 1)) fun v19 =>
    zb (sF (sF (sF (sF (sF (sF (sF (sF (sF (sF (sF (sF ρ 10 v7) 11 v9) 12 v10) 5 (.agg [.str ⟨⟨[]⟩⟩, .d (.sl [] 0)])) 5 v13) 13 (ρ 3)) 14 v15) 15 v16) 16 v17) 3 v17) 17 v19) 9 v19) M12)
    else (z0 (sF ρ 10 v7) M)) := by intros; kernel_rfl
    refine (h (k25_5 call nl lo n) (k25_3 call nl lo)).trans ?_
    unfold b25_5; simp only [(t25_3 call nl lo), (t25_5 call nl lo n)] <;> (show _ = _; kernel_rfl)
def k25_4 (call : CallT) (nl lo : Nat) : Rg → MM → Option (AV × MM) := (execC call modeF lo nl p25_16 (k25_3 call nl lo) noE (endK cf25.res))
abbrev b25_4 (call : CallT) (nl lo : Nat) (x1 x3 : AV) (M : MM) : Option (AV × MM) :=
  opt (fldA 0 0 true x1) fun v3 =>
  opt (fldA 1 1 false x1) fun v4 =>
  opt (lenA v4) fun v5 =>
  b25_5 call nl lo nl x3 v4 v5 (.i 0) M
theorem t25_4 (call : CallT) (nl lo : Nat) (ρ : Rg) (M : MM) : k25_4 call nl lo ρ M = b25_4 call nl lo (ρ 1) (ρ 3) M := by
  have h : k25_4 call nl lo ρ M = (opt (fldA 0 0 true (ρ 1)) fun v3 =>
  opt (fldA 1 1 false (ρ 1)) fun v4 =>
  opt (lenA v4) fun v5 =>
  k25_5 call nl lo nl (sF (sF (sF (sF ρ 6 v3) 7 v4) 8 v5) 9 (.i 0)) M) := by kernel_rfl
  rw [h]
  unfold b25_4; simp only [(t25_5 call nl lo nl)] <;> (show _ = _; kernel_rfl)
def k25_2 (call : CallT) (nl lo : Nat) : Rg → MM → Option (AV × MM) := (execC call modeF lo nl p25_19 (endK cf25.res) noE (endK cf25.res))
abbrev b25_2 (call : CallT) (nl lo : Nat) (x1 x3 : AV) (M : MM) : Option (AV × MM) :=
  b25_4 call nl lo x1 x3 M
theorem t25_2 (call : CallT) (nl lo : Nat) (ρ : Rg) (M : MM) : k25_2 call nl lo ρ M = b25_2 call nl lo (ρ 1) (ρ 3) M := by
  have h : k25_2 call nl lo ρ M = (k25_4 call nl lo ρ M) := execC_seq call modeF lo nl p25_16 p25_18 (endK cf25.res) noE (endK cf25.res) ρ M
  rw [h]
  unfold b25_2; simp only [(t25_4 call nl lo)] <;> (show _ = _; kernel_rfl)
def k25_6 (call : CallT) (nl lo : Nat) : Rg → MM → Option (AV × MM) := (execC call modeF lo nl p25_2 (k25_2 call nl lo) noE (endK cf25.res))
abbrev b25_6 (call : CallT) (nl lo : Nat) (x1 : AV) (M : MM) : Option (AV × MM) :=
  b25_2 call nl lo x1 (.i 1) M
theorem t25_6 (call : CallT) (nl lo : Nat) (ρ : Rg) (M : MM) : k25_6 call nl lo ρ M = b25_6 call nl lo (ρ 1) M := by
  have h : ∀ (z0 : Rg → MM → Option (AV × MM)), (execC call modeF lo nl p25_2 z0 noE (endK cf25.res)) ρ M = (z0 (sF ρ 3 (.i 1)) M) := by intros; kernel_rfl
  refine (h (k25_2 call nl lo)).trans ?_
  unfold b25_6; simp only [(t25_2 call nl lo)] <;> (show _ = _; kernel_rfl)
def k25_1 (call : CallT) (nl lo : Nat) : Rg → MM → Option (AV × MM) := (execC call modeF lo nl p25_20 (endK cf25.res) noE (endK cf25.res))
abbrev b25_1 (call : CallT) (nl lo : Nat) (x1 : AV) (M : MM) : Option (AV × MM) :=
  b25_6 call nl lo x1 M
theorem t25_1 (call : CallT) (nl lo : Nat) (ρ : Rg) (M : MM) : k25_1 call nl lo ρ M = b25_1 call nl lo (ρ 1) M := by
  have h : k25_1 call nl lo ρ M = (k25_6 call nl lo ρ M) := execC_seq call modeF lo nl p25_2 p25_19 (endK cf25.res) noE (endK cf25.res) ρ M
  rw [h]
  unfold b25_1; simp only [(t25_6 call nl lo)] <;> (show _ = _; kernel_rfl)
def k25_7 (call : CallT) (nl lo : Nat) : Rg → MM → Option (AV × MM) := (execC call modeF lo nl p25_1 (k25_1 call nl lo) noE (endK cf25.res))
abbrev b25_7 (call : CallT) (nl lo : Nat) (x0 : AV) (M : MM) : Option (AV × MM) :=
  opt (aggA x0) fun v1 =>
  upK M M.nx fun M2 =>
  b25_1 call nl lo v1 M2
theorem t25_7 (call : CallT) (nl lo : Nat) (ρ : Rg) (M : MM) : k25_7 call nl lo ρ M = b25_7 call nl lo (ρ 0) M := by
  have h : ∀ (z0 : Rg → MM → Option (AV × MM)), (execC call modeF lo nl p25_1 z0 noE (endK cf25.res)) ρ M = (opt (aggA (ρ 0)) fun v1 =>
  upK M M.nx fun M2 =>
  z0 (sF (sF ρ 1 v1) 2 (.i 0)) M2) := by intros; kernel_rfl
  refine (h (k25_1 call nl lo)).trans ?_
  unfold b25_7; simp only [(t25_1 call nl lo)] <;> (show _ = _; kernel_rfl)
def k25_0 (call : CallT) (nl lo : Nat) : Rg → MM → Option (AV × MM) := (execC call modeF lo nl p25_21 (endK cf25.res) noE (endK cf25.res))
abbrev b25_0 (call : CallT) (nl lo : Nat) (x0 : AV) (M : MM) : Option (AV × MM) :=
  b25_7 call nl lo x0 M
theorem t25_0 (call : CallT) (nl lo : Nat) (ρ : Rg) (M : MM) : k25_0 call nl lo ρ M = b25_0 call nl lo (ρ 0) M := by
  have h : k25_0 call nl lo ρ M = (k25_7 call nl lo ρ M) := execC_seq call modeF lo nl p25_1 p25_20 (endK cf25.res) noE (endK cf25.res) ρ M
  rw [h]
  unfold b25_0; simp only [(t25_7 call nl lo)] <;> (show _ = _; kernel_rfl)
def k25_8 (call : CallT) (nl lo : Nat) : Rg → MM → Option (AV × MM) := (execC call modeF lo nl p25_0 (k25_0 call nl lo) noE (endK cf25.res))
abbrev b25_8 (call : CallT) (nl lo : Nat) (x0 : AV) (M : MM) : Option (AV × MM) :=
  b25_0 call nl lo x0 M
theorem t25_8 (call : CallT) (nl lo : Nat) (ρ : Rg) (M : MM) : k25_8 call nl lo ρ M = b25_8 call nl lo (ρ 0) M := by
  have h : ∀ (z0 : Rg → MM → Option (AV × MM)), (execC call modeF lo nl p25_0 z0 noE (endK cf25.res)) ρ M = (z0 (sF (sF ρ 1 (.tup [])) 5 (.tup [])) M) := by intros; kernel_rfl
  refine (h (k25_0 call nl lo)).trans ?_
  unfold b25_8; simp only [(t25_0 call nl lo)] <;> (show _ = _; kernel_rfl)
def s25 (call : CallT) (nl lo : Nat) (a0 : AV) (M : MM) : Option (AV × MM) :=
  b25_8 call nl lo a0 M
theorem e25 (call : CallT) (nl lo : Nat) (a0 : AV) (M : MM) : execC call modeF lo nl cf25.body (endK cf25.res) noE (endK cf25.res) (aF [a0]) M = s25 call nl lo a0 M := by
  have h : execC call modeF lo nl cf25.body (endK cf25.res) noE (endK cf25.res) (aF [a0]) M = (k25_8 call nl lo (aF [a0]) M) := execC_seq call modeF lo nl p25_0 p25_21 (endK cf25.res) noE (endK cf25.res) (aF [a0]) M
  refine h.trans ?_
  unfold s25; simp only [(t25_8 call nl lo)] <;> (show _ = _; kernel_rfl)
theorem q25 {call : CallT} (hc : Lim G call) (lo : Nat) (a0 : AV) (M : MM) : call 25 [a0] lo M = s25 call G.nl lo a0 M :=
  (hc.flow (cf := cf25) rfl w25 [a0] lo M).trans (e25 call G.nl lo a0 M)

/-! ### function 39 -/
theorem w39 : wfK cf39.nt cf39.body = true := by kernel_rfl
def s39 (call : CallT) (nl lo : Nat) (a0 a1 : AV) (M : MM) : Option (AV × MM) :=
  opt (puA call (lk M) 66 [a0, a1]) fun v4 =>
  some (v4, M)
theorem e39 (call : CallT) (nl lo : Nat) (a0 a1 : AV) (M : MM) : execC call modeF lo nl cf39.body (endK cf39.res) noE (endK cf39.res) (aF [a0, a1]) M = s39 call nl lo a0 a1 M := by
  kernel_rfl
theorem q39 {call : CallT} (hc : Lim G call) (lo : Nat) (a0 a1 : AV) (M : MM) : call 39 [a0, a1] lo M = s39 call G.nl lo a0 a1 M :=
  (hc.flow (cf := cf39) rfl w39 [a0, a1] lo M).trans (e39 call G.nl lo a0 a1 M)

/-! ### function 40 -/
theorem w40 : wfK cf40.nt cf40.body = true := by kernel_rfl
def k40_2 (call : CallT) (nl lo : Nat) : Rg → MM → Option (AV × MM) := (execC call modeF lo nl p40_37 (endK cf40.res) noE (endK cf40.res))
abbrev b40_2 (call : CallT) (nl lo : Nat) (x0 x1 : AV) (M : MM) : Option (AV × MM) :=
  opt (lenA x0) fun v2 =>
  opt (lenA x1) fun v4 =>
  opt (binA .lss .none v2 v4) fun v5 =>
  isB v5 fun c6 => if c6 then (some ((.i (-1)), M))
  else (some ((.i 0), M))
theorem t40_2 (call : CallT) (nl lo : Nat) (ρ : Rg) (M : MM) : k40_2 call nl lo ρ M = b40_2 call nl lo (ρ 0) (ρ 1) M := by
  kernel_rfl
def k40_4 (call : CallT) (nl lo : Nat) (n : Nat) : Rg → MM → Option (AV × MM) := iterC (fun k ρ M => execC call modeF lo nl p40_26 k (fun i ρ M => if i = 0 then (k40_2 call nl lo) ρ M else noE i ρ M) (endK cf40.res) ρ M) n
def b40_4 (call : CallT) (nl lo : Nat) : Nat → AV → AV → AV → AV → AV → AV → MM → Option (AV × MM)
  | 0, _, _, _, _, _, _, _ => none
  | n + 1, x0, x1, x2, x11, x12, x13, M =>
  opt (binA .lss .none x13 x12) fun v12 =>
  isB v12 fun c13 => if c13 then (opt (ixsA 2 x11 x13) fun v15 =>
  opt (ldnA (lk M) 2 v15) fun v16 =>
  upK M M.nx fun M18 =>
  opt (setcA 0 2 (.agg [.str ⟨⟨[]⟩⟩, .d (.sl [] 0)]) v16) fun v20 =>
  opt (lenA x1) fun v23 =>
  opt (binA .geq .none x13 v23) fun v24 =>
  isB v24 fun c25 => if c25 then (some ((.i 1), M18))
  else (opt (ixsA 2 x1 x13) fun v29 =>
  opt (ldnA (lk M18) 2 v29) fun v30 =>
  upK M18 M18.nx fun M32 =>
  opt (setcA 0 2 (.agg [.str ⟨⟨[]⟩⟩, .d (.sl [] 0)]) v30) fun v33 =>
  opt (fldA 0 2 true v20) fun v35 =>
  opt (fldA 0 2 true v33) fun v36 =>
  bnd (istep call modeF false lo (.top M32.nx) M32.nx (.callw [] (.k x2) [(.k v35), (.k v36)]) [] M32) fun v37 M38 =>
  opt (binA .neq .none v37 (.i 0)) fun v41 =>
  isB v41 fun c42 => if c42 then (some (v37, M38))
  else (opt (binA .add .none x13 (.i 1)) fun v45 =>
  (b40_4 call nl lo n) x0 x1 x2 x11 x12 v45 M38)))
  else (b40_2 call nl lo x0 x1 M)
theorem t40_4 (call : CallT) (nl lo : Nat) : ∀ (n : Nat) (ρ : Rg) (M : MM), k40_4 call nl lo n ρ M = b40_4 call nl lo n (ρ 0) (ρ 1) (ρ 2) (ρ 11) (ρ 12) (ρ 13) M
  | 0, ρ, M => rfl
  | n + 1, ρ, M => by
    have h : ∀ (zb z0 : Rg → MM → Option (AV × MM)), execC call modeF lo nl p40_26 zb (fun i ρ M => if i = 0 then z0 ρ M else noE i ρ M) (endK cf40.res) ρ M = (opt (binA .lss .none (ρ 13) (ρ 12)) fun v12 =>
    isB v12 fun c13 => if c13 then (opt (ixsA 2 (ρ 11) (ρ 13)) fun v15 =>
    opt (ldnA (lk M) 2 v15) fun v16 =>
    upK M M.nx fun M18 =>
    opt (setcA 0 2 (.agg [.str ⟨⟨[]⟩⟩, .d (.sl [] 0)]) v16) fun v20 =>
    opt (lenA (ρ 1)) fun v23 =>
    opt (binA .geq .none (ρ 13) v23) fun v24 =>
    isB v24 fun c25 => if c25 then (some ((.i 1), M18))
    else (opt (ixsA 2 (ρ 1) (ρ 13)) fun v29 =>
    opt (ldnA (lk M18) 2 v29) fun v30 =>
    upK M18 M18.nx fun M32 =>
    opt (setcA 0 2 (.agg [.str ⟨⟨[]⟩⟩, .d (.sl [] 0)]) v30) fun v33 =>
    opt (fldA 0 2 true v20) fun v35 =>
    opt (fldA 0 2 true v33) fun v36 =>
    bnd (istep call modeF false lo (.top M32.nx) M32.nx (.callw [] (.k (ρ 2)) [(.k v35), (.k v36)]) [] M32) fun v37 M38 =>
    opt (binA .neq .none v37 (.i 0)) fun v41 =>
    isB v41 fun c42 => if c42 then (some (v37, M38))
    else (opt (binA .add .none (ρ 13) (.i 1)) fun v45 =>
    zb (sF (sF (sF (sF (sF (sF (sF (sF (sF (sF (sF (sF (sF (sF (sF (sF (sF (sF (sF (sF (sF (sF (sF (sF (sF (sF ρ 14 v12) 15 (ρ 13)) 16 v15) 17 v16) 8 (.agg [.str ⟨⟨[]⟩⟩, .d (.sl [] 0)])) 7 (ρ 13)) 8 v20) 18 (ρ 13)) 19 (ρ 1)) 20 v23) 21 v24) 22 (ρ 1)) 23 (ρ 13)) 24 v29) 25 v30) 9 (.agg [.str ⟨⟨[]⟩⟩, .d (.sl [] 0)])) 9 v33) 26 (ρ 2)) 27 v35) 28 v36) 29 v37) 10 v37) 30 v37) 31 v41) 33 v45) 13 v45) M38)))
    else (z0 (sF ρ 14 v12) M)) := by intros; kernel_rfl
    refine (h (k40_4 call nl lo n) (k40_2 call nl lo)).trans ?_
    unfold b40_4; simp only [(t40_2 call nl lo), (t40_4 call nl lo n)] <;> (show _ = _; kernel_rfl)
def k40_3 (call : CallT) (nl lo : Nat) : Rg → MM → Option (AV × MM) := (execC call modeF lo nl p40_29 (k40_2 call nl lo) noE (endK cf40.res))
abbrev b40_3 (call : CallT) (nl lo : Nat) (x0 x1 x2 : AV) (M : MM) : Option (AV × MM) :=
  opt (lenA x0) fun v10 =>
  b40_4 call nl lo nl x0 x1 x2 x0 v10 (.i 0) M
theorem t40_3 (call : CallT) (nl lo : Nat) (ρ : Rg) (M : MM) : k40_3 call nl lo ρ M = b40_3 call nl lo (ρ 0) (ρ 1) (ρ 2) M := by
  have h : k40_3 call nl lo ρ M = (opt (lenA (ρ 0)) fun v10 =>
  k40_4 call nl lo nl (sF (sF (sF ρ 11 (ρ 0)) 12 v10) 13 (.i 0)) M) := by kernel_rfl
  rw [h]
  unfold b40_3; simp only [(t40_4 call nl lo nl)] <;> (show _ = _; kernel_rfl)
def k40_1 (call : CallT) (nl lo : Nat) : Rg → MM → Option (AV × MM) := (execC call modeF lo nl p40_38 (endK cf40.res) noE (endK cf40.res))
abbrev b40_1 (call : CallT) (nl lo : Nat) (x0 x1 x2 : AV) (M : MM) : Option (AV × MM) :=
  b40_3 call nl lo x0 x1 x2 M
theorem t40_1 (call : CallT) (nl lo : Nat) (ρ : Rg) (M : MM) : k40_1 call nl lo ρ M = b40_1 call nl lo (ρ 0) (ρ 1) (ρ 2) M := by
  have h : k40_1 call nl lo ρ M = (k40_3 call nl lo ρ M) := execC_seq call modeF lo nl p40_29 p40_37 (endK cf40.res) noE (endK cf40.res) ρ M
  rw [h]
  unfold b40_1; simp only [(t40_3 call nl lo)] <;> (show _ = _; kernel_rfl)
def k40_5 (call : CallT) (nl lo : Nat) : Rg → MM → Option (AV × MM) := (execC call modeF lo nl p40_1 (k40_1 call nl lo) noE (endK cf40.res))
abbrev b40_5 (call : CallT) (nl lo : Nat) (x0 x1 x2 : AV) (M : MM) : Option (AV × MM) :=
  b40_1 call nl lo x0 x1 x2 M
theorem t40_5 (call : CallT) (nl lo : Nat) (ρ : Rg) (M : MM) : k40_5 call nl lo ρ M = b40_5 call nl lo (ρ 0) (ρ 1) (ρ 2) M := by
  have h : ∀ (z0 : Rg → MM → Option (AV × MM)), (execC call modeF lo nl p40_1 z0 noE (endK cf40.res)) ρ M = (z0 (sF ρ 6 (.i 0)) M) := by intros; kernel_rfl
  refine (h (k40_1 call nl lo)).trans ?_
  unfold b40_5; simp only [(t40_1 call nl lo)] <;> (show _ = _; kernel_rfl)
def k40_0 (call : CallT) (nl lo : Nat) : Rg → MM → Option (AV × MM) := (execC call modeF lo nl p40_39 (endK cf40.res) noE (endK cf40.res))
abbrev b40_0 (call : CallT) (nl lo : Nat) (x0 x1 x2 : AV) (M : MM) : Option (AV × MM) :=
  b40_5 call nl lo x0 x1 x2 M
theorem t40_0 (call : CallT) (nl lo : Nat) (ρ : Rg) (M : MM) : k40_0 call nl lo ρ M = b40_0 call nl lo (ρ 0) (ρ 1) (ρ 2) M := by
  have h : k40_0 call nl lo ρ M = (k40_5 call nl lo ρ M) := execC_seq call modeF lo nl p40_1 p40_38 (endK cf40.res) noE (endK cf40.res) ρ M
  rw [h]
  unfold b40_0; simp only [(t40_5 call nl lo)] <;> (show _ = _; kernel_rfl)
def k40_6 (call : CallT) (nl lo : Nat) : Rg → MM → Option (AV × MM) := (execC call modeF lo nl p40_0 (k40_0 call nl lo) noE (endK cf40.res))
abbrev b40_6 (call : CallT) (nl lo : Nat) (x0 x1 x2 : AV) (M : MM) : Option (AV × MM) :=
  b40_0 call nl lo x0 x1 x2 M
theorem t40_6 (call : CallT) (nl lo : Nat) (ρ : Rg) (M : MM) : k40_6 call nl lo ρ M = b40_6 call nl lo (ρ 0) (ρ 1) (ρ 2) M := by
  have h : ∀ (z0 : Rg → MM → Option (AV × MM)), (execC call modeF lo nl p40_0 z0 noE (endK cf40.res)) ρ M = (z0 (sF (sF ρ 8 (.tup [])) 9 (.tup [])) M) := by intros; kernel_rfl
  refine (h (k40_0 call nl lo)).trans ?_
  unfold b40_6; simp only [(t40_0 call nl lo)] <;> (show _ = _; kernel_rfl)
def s40 (call : CallT) (nl lo : Nat) (a0 a1 a2 : AV) (M : MM) : Option (AV × MM) :=
  b40_6 call nl lo a0 a1 a2 M
theorem e40 (call : CallT) (nl lo : Nat) (a0 a1 a2 : AV) (M : MM) : execC call modeF lo nl cf40.body (endK cf40.res) noE (endK cf40.res) (aF [a0, a1, a2]) M = s40 call nl lo a0 a1 a2 M := by
  have h : execC call modeF lo nl cf40.body (endK cf40.res) noE (endK cf40.res) (aF [a0, a1, a2]) M = (k40_6 call nl lo (aF [a0, a1, a2]) M) := execC_seq call modeF lo nl p40_0 p40_39 (endK cf40.res) noE (endK cf40.res) (aF [a0, a1, a2]) M
  refine h.trans ?_
  unfold s40; simp only [(t40_6 call nl lo)] <;> (show _ = _; kernel_rfl)
theorem q40 {call : CallT} (hc : Lim G call) (lo : Nat) (a0 a1 a2 : AV) (M : MM) : call 40 [a0, a1, a2] lo M = s40 call G.nl lo a0 a1 a2 M :=
  (hc.flow (cf := cf40) rfl w40 [a0, a1, a2] lo M).trans (e40 call G.nl lo a0 a1 a2 M)

/-! ### function 41 -/
theorem w41 : wfK cf41.nt cf41.body = true := by kernel_rfl
def k41_3 (call : CallT) (nl lo : Nat) : Rg → MM → Option (AV × MM) := (execC call modeF lo nl p41_28 (endK cf41.res) noE (endK cf41.res))
abbrev b41_3 (call : CallT) (nl lo : Nat) (M : MM) : Option (AV × MM) :=
  some ((.bool true), M)
theorem t41_3 (call : CallT) (nl lo : Nat) (ρ : Rg) (M : MM) : k41_3 call nl lo ρ M = b41_3 call nl lo M := by
  kernel_rfl
def k41_5 (call : CallT) (nl lo : Nat) (n : Nat) : Rg → MM → Option (AV × MM) := iterC (fun k ρ M => execC call modeF lo nl p41_23 k (fun i ρ M => if i = 0 then (k41_3 call nl lo) ρ M else noE i ρ M) (endK cf41.res) ρ M) n
def b41_5 (call : CallT) (nl lo : Nat) : Nat → AV → AV → AV → AV → AV → MM → Option (AV × MM)
  | 0, _, _, _, _, _, _ => none
  | n + 1, x1, x2, x15, x16, x17, M =>
  opt (binA .lss .none x17 x16) fun v5 =>
  isB v5 fun c6 => if c6 then (opt (ixsA 2 x15 x17) fun v8 =>
  opt (ldnA (lk M) 2 v8) fun v9 =>
  upK M M.nx fun M11 =>
  opt (setcA 0 2 (.agg [.str ⟨⟨[]⟩⟩, .d (.sl [] 0)]) v9) fun v13 =>
  opt (ixsA 2 x1 x17) fun v16 =>
  opt (ldnA (lk M11) 2 v16) fun v17 =>
  upK M11 M11.nx fun M19 =>
  opt (setcA 0 2 (.agg [.str ⟨⟨[]⟩⟩, .d (.sl [] 0)]) v17) fun v20 =>
  opt (fldA 0 2 true v13) fun v22 =>
  opt (fldA 0 2 true v20) fun v23 =>
  bnd (istep call modeF false lo (.top M19.nx) M19.nx (.callw [] (.k x2) [(.k v22), (.k v23)]) [] M19) fun v24 M25 =>
  opt (unA .not v24) fun v26 =>
  isB v26 fun c27 => if c27 then (some ((.bool false), M25))
  else (opt (binA .add .none x17 (.i 1)) fun v29 =>
  (b41_5 call nl lo n) x1 x2 x15 x16 v29 M25))
  else (b41_3 call nl lo M)
theorem t41_5 (call : CallT) (nl lo : Nat) : ∀ (n : Nat) (ρ : Rg) (M : MM), k41_5 call nl lo n ρ M = b41_5 call nl lo n (ρ 1) (ρ 2) (ρ 15) (ρ 16) (ρ 17) M
  | 0, ρ, M => rfl
  | n + 1, ρ, M => by
    have h : ∀ (zb z0 : Rg → MM → Option (AV × MM)), execC call modeF lo nl p41_23 zb (fun i ρ M => if i = 0 then z0 ρ M else noE i ρ M) (endK cf41.res) ρ M = (opt (binA .lss .none (ρ 17) (ρ 16)) fun v5 =>
    isB v5 fun c6 => if c6 then (opt (ixsA 2 (ρ 15) (ρ 17)) fun v8 =>
    opt (ldnA (lk M) 2 v8) fun v9 =>
    upK M M.nx fun M11 =>
    opt (setcA 0 2 (.agg [.str ⟨⟨[]⟩⟩, .d (.sl [] 0)]) v9) fun v13 =>
    opt (ixsA 2 (ρ 1) (ρ 17)) fun v16 =>
    opt (ldnA (lk M11) 2 v16) fun v17 =>
    upK M11 M11.nx fun M19 =>
    opt (setcA 0 2 (.agg [.str ⟨⟨[]⟩⟩, .d (.sl [] 0)]) v17) fun v20 =>
    opt (fldA 0 2 true v13) fun v22 =>
    opt (fldA 0 2 true v20) fun v23 =>
    bnd (istep call modeF false lo (.top M19.nx) M19.nx (.callw [] (.k (ρ 2)) [(.k v22), (.k v23)]) [] M19) fun v24 M25 =>
    opt (unA .not v24) fun v26 =>
    isB v26 fun c27 => if c27 then (some ((.bool false), M25))
    else (opt (binA .add .none (ρ 17) (.i 1)) fun v29 =>
    zb (sF (sF (sF (sF (sF (sF (sF (sF (sF (sF (sF (sF (sF (sF (sF (sF (sF (sF (sF (sF ρ 18 v5) 19 (ρ 17)) 20 v8) 21 v9) 8 (.agg [.str ⟨⟨[]⟩⟩, .d (.sl [] 0)])) 7 (ρ 17)) 8 v13) 22 (ρ 1)) 23 (ρ 17)) 24 v16) 25 v17) 9 (.agg [.str ⟨⟨[]⟩⟩, .d (.sl [] 0)])) 9 v20) 26 (ρ 2)) 27 v22) 28 v23) 29 v24) 30 v26) 31 v29) 17 v29) M25))
    else (z0 (sF ρ 18 v5) M)) := by intros; kernel_rfl
    refine (h (k41_5 call nl lo n) (k41_3 call nl lo)).trans ?_
    unfold b41_5; simp only [(t41_3 call nl lo), (t41_5 call nl lo n)] <;> (show _ = _; kernel_rfl)
def k41_4 (call : CallT) (nl lo : Nat) : Rg → MM → Option (AV × MM) := (execC call modeF lo nl p41_26 (k41_3 call nl lo) noE (endK cf41.res))
abbrev b41_4 (call : CallT) (nl lo : Nat) (x0 x1 x2 : AV) (M : MM) : Option (AV × MM) :=
  opt (lenA x0) fun v3 =>
  b41_5 call nl lo nl x1 x2 x0 v3 (.i 0) M
theorem t41_4 (call : CallT) (nl lo : Nat) (ρ : Rg) (M : MM) : k41_4 call nl lo ρ M = b41_4 call nl lo (ρ 0) (ρ 1) (ρ 2) M := by
  have h : k41_4 call nl lo ρ M = (opt (lenA (ρ 0)) fun v3 =>
  k41_5 call nl lo nl (sF (sF (sF ρ 15 (ρ 0)) 16 v3) 17 (.i 0)) M) := by kernel_rfl
  rw [h]
  unfold b41_4; simp only [(t41_5 call nl lo nl)] <;> (show _ = _; kernel_rfl)
def k41_2 (call : CallT) (nl lo : Nat) : Rg → MM → Option (AV × MM) := (execC call modeF lo nl p41_29 (endK cf41.res) noE (endK cf41.res))
abbrev b41_2 (call : CallT) (nl lo : Nat) (x0 x1 x2 : AV) (M : MM) : Option (AV × MM) :=
  b41_4 call nl lo x0 x1 x2 M
theorem t41_2 (call : CallT) (nl lo : Nat) (ρ : Rg) (M : MM) : k41_2 call nl lo ρ M = b41_2 call nl lo (ρ 0) (ρ 1) (ρ 2) M := by
  have h : k41_2 call nl lo ρ M = (k41_4 call nl lo ρ M) := execC_seq call modeF lo nl p41_26 p41_28 (endK cf41.res) noE (endK cf41.res) ρ M
  rw [h]
  unfold b41_2; simp only [(t41_4 call nl lo)] <;> (show _ = _; kernel_rfl)
def k41_6 (call : CallT) (nl lo : Nat) : Rg → MM → Option (AV × MM) := (execC call modeF lo nl p41_6 (k41_2 call nl lo) noE (endK cf41.res))
abbrev b41_6 (call : CallT) (nl lo : Nat) (x0 x1 x2 : AV) (M : MM) : Option (AV × MM) :=
  opt (lenA x0) fun v2 =>
  opt (lenA x1) fun v4 =>
  opt (binA .neq .none v2 v4) fun v5 =>
  isB v5 fun c6 => if c6 then (some ((.bool false), M))
  else (b41_2 call nl lo x0 x1 x2 M)
theorem t41_6 (call : CallT) (nl lo : Nat) (ρ : Rg) (M : MM) : k41_6 call nl lo ρ M = b41_6 call nl lo (ρ 0) (ρ 1) (ρ 2) M := by
  have h : ∀ (z0 : Rg → MM → Option (AV × MM)), (execC call modeF lo nl p41_6 z0 noE (endK cf41.res)) ρ M = (opt (lenA (ρ 0)) fun v2 =>
  opt (lenA (ρ 1)) fun v4 =>
  opt (binA .neq .none v2 v4) fun v5 =>
  isB v5 fun c6 => if c6 then (some ((.bool false), M))
  else (z0 (sF (sF (sF (sF (sF ρ 10 (ρ 0)) 11 v2) 12 (ρ 1)) 13 v4) 14 v5) M)) := by intros; kernel_rfl
  refine (h (k41_2 call nl lo)).trans ?_
  unfold b41_6; simp only [(t41_2 call nl lo)] <;> (show _ = _; kernel_rfl)
def k41_1 (call : CallT) (nl lo : Nat) : Rg → MM → Option (AV × MM) := (execC call modeF lo nl p41_30 (endK cf41.res) noE (endK cf41.res))
abbrev b41_1 (call : CallT) (nl lo : Nat) (x0 x1 x2 : AV) (M : MM) : Option (AV × MM) :=
  b41_6 call nl lo x0 x1 x2 M
theorem t41_1 (call : CallT) (nl lo : Nat) (ρ : Rg) (M : MM) : k41_1 call nl lo ρ M = b41_1 call nl lo (ρ 0) (ρ 1) (ρ 2) M := by
  have h : k41_1 call nl lo ρ M = (k41_6 call nl lo ρ M) := execC_seq call modeF lo nl p41_6 p41_29 (endK cf41.res) noE (endK cf41.res) ρ M
  rw [h]
  unfold b41_1; simp only [(t41_6 call nl lo)] <;> (show _ = _; kernel_rfl)
def k41_7 (call : CallT) (nl lo : Nat) : Rg → MM → Option (AV × MM) := (execC call modeF lo nl p41_1 (k41_1 call nl lo) noE (endK cf41.res))
abbrev b41_7 (call : CallT) (nl lo : Nat) (x0 x1 x2 : AV) (M : MM) : Option (AV × MM) :=
  b41_1 call nl lo x0 x1 x2 M
theorem t41_7 (call : CallT) (nl lo : Nat) (ρ : Rg) (M : MM) : k41_7 call nl lo ρ M = b41_7 call nl lo (ρ 0) (ρ 1) (ρ 2) M := by
  have h : ∀ (z0 : Rg → MM → Option (AV × MM)), (execC call modeF lo nl p41_1 z0 noE (endK cf41.res)) ρ M = (z0 (sF ρ 6 (.bool false)) M) := by intros; kernel_rfl
  refine (h (k41_1 call nl lo)).trans ?_
  unfold b41_7; simp only [(t41_1 call nl lo)] <;> (show _ = _; kernel_rfl)
def k41_0 (call : CallT) (nl lo : Nat) : Rg → MM → Option (AV × MM) := (execC call modeF lo nl p41_31 (endK cf41.res) noE (endK cf41.res))
abbrev b41_0 (call : CallT) (nl lo : Nat) (x0 x1 x2 : AV) (M : MM) : Option (AV × MM) :=
  b41_7 call nl lo x0 x1 x2 M
theorem t41_0 (call : CallT) (nl lo : Nat) (ρ : Rg) (M : MM) : k41_0 call nl lo ρ M = b41_0 call nl lo (ρ 0) (ρ 1) (ρ 2) M := by
  have h : k41_0 call nl lo ρ M = (k41_7 call nl lo ρ M) := execC_seq call modeF lo nl p41_1 p41_30 (endK cf41.res) noE (endK cf41.res) ρ M
  rw [h]
  unfold b41_0; simp only [(t41_7 call nl lo)] <;> (show _ = _; kernel_rfl)
def k41_8 (call : CallT) (nl lo : Nat) : Rg → MM → Option (AV × MM) := (execC call modeF lo nl p41_0 (k41_0 call nl lo) noE (endK cf41.res))
abbrev b41_8 (call : CallT) (nl lo : Nat) (x0 x1 x2 : AV) (M : MM) : Option (AV × MM) :=
  b41_0 call nl lo x0 x1 x2 M
theorem t41_8 (call : CallT) (nl lo : Nat) (ρ : Rg) (M : MM) : k41_8 call nl lo ρ M = b41_8 call nl lo (ρ 0) (ρ 1) (ρ 2) M := by
  have h : ∀ (z0 : Rg → MM → Option (AV × MM)), (execC call modeF lo nl p41_0 z0 noE (endK cf41.res)) ρ M = (z0 (sF (sF ρ 8 (.tup [])) 9 (.tup [])) M) := by intros; kernel_rfl
  refine (h (k41_0 call nl lo)).trans ?_
  unfold b41_8; simp only [(t41_0 call nl lo)] <;> (show _ = _; kernel_rfl)
def s41 (call : CallT) (nl lo : Nat) (a0 a1 a2 : AV) (M : MM) : Option (AV × MM) :=
  b41_8 call nl lo a0 a1 a2 M
theorem e41 (call : CallT) (nl lo : Nat) (a0 a1 a2 : AV) (M : MM) : execC call modeF lo nl cf41.body (endK cf41.res) noE (endK cf41.res) (aF [a0, a1, a2]) M = s41 call nl lo a0 a1 a2 M := by
  have h : execC call modeF lo nl cf41.body (endK cf41.res) noE (endK cf41.res) (aF [a0, a1, a2]) M = (k41_8 call nl lo (aF [a0, a1, a2]) M) := execC_seq call modeF lo nl p41_0 p41_31 (endK cf41.res) noE (endK cf41.res) (aF [a0, a1, a2]) M
  refine h.trans ?_
  unfold s41; simp only [(t41_8 call nl lo)] <;> (show _ = _; kernel_rfl)
theorem q41 {call : CallT} (hc : Lim G call) (lo : Nat) (a0 a1 a2 : AV) (M : MM) : call 41 [a0, a1, a2] lo M = s41 call G.nl lo a0 a1 a2 M :=
  (hc.flow (cf := cf41) rfl w41 [a0, a1, a2] lo M).trans (e41 call G.nl lo a0 a1 a2 M)

/-! ### function 43 -/
theorem w43 : wfK cf43.nt cf43.body = true := by kernel_rfl
def s43 (call : CallT) (nl lo : Nat) (a0 : AV) (M : MM) : Option (AV × MM) :=
  bumpK M 11 fun M2 =>
  opt (nilcA a0) fun v4 =>
  opt (fadA 1 v4) fun v5 =>
  opt (ld1A (look M2.mem (.mk M.nx 11 7 true)) v5) fun v6 =>
  opt (nilcA a0) fun v8 =>
  opt (fadA 0 v8) fun v9 =>
  opt (ld1A (look M2.mem (.mk M.nx 11 112 true)) v9) fun v10 =>
  opt (lenA v10) fun v11 =>
  opt (binA .lss .none v6 v11) fun v12 =>
  some (v12, M2)
theorem e43 (call : CallT) (nl lo : Nat) (a0 : AV) (M : MM) : execC call modeF lo nl cf43.body (endK cf43.res) noE (endK cf43.res) (aF [a0]) M = s43 call nl lo a0 M := by
  kernel_rfl
theorem q43 {call : CallT} (hc : Lim G call) (lo : Nat) (a0 : AV) (M : MM) : call 43 [a0] lo M = s43 call G.nl lo a0 M :=
  (hc.flow (cf := cf43) rfl w43 [a0] lo M).trans (e43 call G.nl lo a0 M)

/-! ### function 44 -/
theorem w44 : wfK cf44.nt cf44.body = true := by kernel_rfl
def k44_4 (call : CallT) (nl lo : Nat) : Rg → MM → Option (AV × MM) := (execC call modeF lo nl p44_13 (endK cf44.res) noE (endK cf44.res))
abbrev b44_4 (call : CallT) (nl lo : Nat) (x0 : AV) (M : MM) : Option (AV × MM) :=
  some (x0, M)
theorem t44_4 (call : CallT) (nl lo : Nat) (ρ : Rg) (M : MM) : k44_4 call nl lo ρ M = b44_4 call nl lo (ρ 0) M := by
  kernel_rfl
def k44_5 (call : CallT) (nl lo : Nat) : Rg → MM → Option (AV × MM) := (execC call modeF lo nl p44_11 (k44_4 call nl lo) noE (endK cf44.res))
abbrev b44_5 (call : CallT) (nl lo : Nat) (x0 x1 : AV) (M : MM) : Option (AV × MM) :=
  opt (binA .lss .none x0 (.i 0)) fun v4 =>
  isB v4 fun c5 => if c5 then (opt (binA .add .none x0 x1) fun v8 =>
  b44_4 call nl lo v8 M)
  else (b44_4 call nl lo x0 M)
theorem t44_5 (call : CallT) (nl lo : Nat) (ρ : Rg) (M : MM) : k44_5 call nl lo ρ M = b44_5 call nl lo (ρ 0) (ρ 1) M := by
  have h : ∀ (z0 : Rg → MM → Option (AV × MM)), (execC call modeF lo nl p44_11 z0 noE (endK cf44.res)) ρ M = (opt (binA .lss .none (ρ 0) (.i 0)) fun v4 =>
  isB v4 fun c5 => if c5 then (opt (binA .add .none (ρ 0) (ρ 1)) fun v8 =>
  z0 (sF (sF (sF (sF (sF (sF ρ 10 (ρ 0)) 11 v4) 12 (ρ 0)) 13 (ρ 1)) 14 v8) 0 v8) M)
  else (z0 (sF (sF ρ 10 (ρ 0)) 11 v4) M)) := by intros; kernel_rfl
  refine (h (k44_4 call nl lo)).trans ?_
  unfold b44_5; simp only [(t44_4 call nl lo)] <;> (show _ = _; kernel_rfl)
def k44_3 (call : CallT) (nl lo : Nat) : Rg → MM → Option (AV × MM) := (execC call modeF lo nl p44_14 (endK cf44.res) noE (endK cf44.res))
abbrev b44_3 (call : CallT) (nl lo : Nat) (x0 x1 : AV) (M : MM) : Option (AV × MM) :=
  b44_5 call nl lo x0 x1 M
theorem t44_3 (call : CallT) (nl lo : Nat) (ρ : Rg) (M : MM) : k44_3 call nl lo ρ M = b44_3 call nl lo (ρ 0) (ρ 1) M := by
  have h : k44_3 call nl lo ρ M = (k44_5 call nl lo ρ M) := execC_seq call modeF lo nl p44_11 p44_13 (endK cf44.res) noE (endK cf44.res) ρ M
  rw [h]
  unfold b44_3; simp only [(t44_5 call nl lo)] <;> (show _ = _; kernel_rfl)
def k44_6 (call : CallT) (nl lo : Nat) : Rg → MM → Option (AV × MM) := (execC call modeF lo nl p44_7 (k44_3 call nl lo) noE (endK cf44.res))
abbrev b44_6 (call : CallT) (nl lo : Nat) (x0 x1 : AV) (M : MM) : Option (AV × MM) :=
  opt (binA .rem .none x0 x1) fun v3 =>
  b44_3 call nl lo v3 x1 M
theorem t44_6 (call : CallT) (nl lo : Nat) (ρ : Rg) (M : MM) : k44_6 call nl lo ρ M = b44_6 call nl lo (ρ 0) (ρ 1) M := by
  have h : ∀ (z0 : Rg → MM → Option (AV × MM)), (execC call modeF lo nl p44_7 z0 noE (endK cf44.res)) ρ M = (opt (binA .rem .none (ρ 0) (ρ 1)) fun v3 =>
  z0 (sF (sF (sF (sF ρ 7 (ρ 0)) 8 (ρ 1)) 9 v3) 0 v3) M) := by intros; kernel_rfl
  refine (h (k44_3 call nl lo)).trans ?_
  unfold b44_6; simp only [(t44_3 call nl lo)] <;> (show _ = _; kernel_rfl)
def k44_2 (call : CallT) (nl lo : Nat) : Rg → MM → Option (AV × MM) := (execC call modeF lo nl p44_15 (endK cf44.res) noE (endK cf44.res))
abbrev b44_2 (call : CallT) (nl lo : Nat) (x0 x1 : AV) (M : MM) : Option (AV × MM) :=
  b44_6 call nl lo x0 x1 M
theorem t44_2 (call : CallT) (nl lo : Nat) (ρ : Rg) (M : MM) : k44_2 call nl lo ρ M = b44_2 call nl lo (ρ 0) (ρ 1) M := by
  have h : k44_2 call nl lo ρ M = (k44_6 call nl lo ρ M) := execC_seq call modeF lo nl p44_7 p44_14 (endK cf44.res) noE (endK cf44.res) ρ M
  rw [h]
  unfold b44_2; simp only [(t44_6 call nl lo)] <;> (show _ = _; kernel_rfl)
def k44_7 (call : CallT) (nl lo : Nat) : Rg → MM → Option (AV × MM) := (execC call modeF lo nl p44_6 (k44_2 call nl lo) noE (endK cf44.res))
abbrev b44_7 (call : CallT) (nl lo : Nat) (x0 x1 : AV) (M : MM) : Option (AV × MM) :=
  opt (binA .lss .none x1 (.i 1)) fun v2 =>
  isB v2 fun c3 => if c3 then (some ((.i 0), M))
  else (b44_2 call nl lo x0 x1 M)
theorem t44_7 (call : CallT) (nl lo : Nat) (ρ : Rg) (M : MM) : k44_7 call nl lo ρ M = b44_7 call nl lo (ρ 0) (ρ 1) M := by
  have h : ∀ (z0 : Rg → MM → Option (AV × MM)), (execC call modeF lo nl p44_6 z0 noE (endK cf44.res)) ρ M = (opt (binA .lss .none (ρ 1) (.i 1)) fun v2 =>
  isB v2 fun c3 => if c3 then (some ((.i 0), M))
  else (z0 (sF (sF ρ 5 (ρ 1)) 6 v2) M)) := by intros; kernel_rfl
  refine (h (k44_2 call nl lo)).trans ?_
  unfold b44_7; simp only [(t44_2 call nl lo)] <;> (show _ = _; kernel_rfl)
def k44_1 (call : CallT) (nl lo : Nat) : Rg → MM → Option (AV × MM) := (execC call modeF lo nl p44_16 (endK cf44.res) noE (endK cf44.res))
abbrev b44_1 (call : CallT) (nl lo : Nat) (x0 x1 : AV) (M : MM) : Option (AV × MM) :=
  b44_7 call nl lo x0 x1 M
theorem t44_1 (call : CallT) (nl lo : Nat) (ρ : Rg) (M : MM) : k44_1 call nl lo ρ M = b44_1 call nl lo (ρ 0) (ρ 1) M := by
  have h : k44_1 call nl lo ρ M = (k44_7 call nl lo ρ M) := execC_seq call modeF lo nl p44_6 p44_15 (endK cf44.res) noE (endK cf44.res) ρ M
  rw [h]
  unfold b44_1; simp only [(t44_7 call nl lo)] <;> (show _ = _; kernel_rfl)
def k44_8 (call : CallT) (nl lo : Nat) : Rg → MM → Option (AV × MM) := (execC call modeF lo nl p44_1 (k44_1 call nl lo) noE (endK cf44.res))
abbrev b44_8 (call : CallT) (nl lo : Nat) (x0 x1 : AV) (M : MM) : Option (AV × MM) :=
  b44_1 call nl lo x0 x1 M
theorem t44_8 (call : CallT) (nl lo : Nat) (ρ : Rg) (M : MM) : k44_8 call nl lo ρ M = b44_8 call nl lo (ρ 0) (ρ 1) M := by
  have h : ∀ (z0 : Rg → MM → Option (AV × MM)), (execC call modeF lo nl p44_1 z0 noE (endK cf44.res)) ρ M = (z0 (sF ρ 4 (.i 0)) M) := by intros; kernel_rfl
  refine (h (k44_1 call nl lo)).trans ?_
  unfold b44_8; simp only [(t44_1 call nl lo)] <;> (show _ = _; kernel_rfl)
def k44_0 (call : CallT) (nl lo : Nat) : Rg → MM → Option (AV × MM) := (execC call modeF lo nl p44_17 (endK cf44.res) noE (endK cf44.res))
abbrev b44_0 (call : CallT) (nl lo : Nat) (x0 x1 : AV) (M : MM) : Option (AV × MM) :=
  b44_8 call nl lo x0 x1 M
theorem t44_0 (call : CallT) (nl lo : Nat) (ρ : Rg) (M : MM) : k44_0 call nl lo ρ M = b44_0 call nl lo (ρ 0) (ρ 1) M := by
  have h : k44_0 call nl lo ρ M = (k44_8 call nl lo ρ M) := execC_seq call modeF lo nl p44_1 p44_16 (endK cf44.res) noE (endK cf44.res) ρ M
  rw [h]
  unfold b44_0; simp only [(t44_8 call nl lo)] <;> (show _ = _; kernel_rfl)
def k44_9 (call : CallT) (nl lo : Nat) : Rg → MM → Option (AV × MM) := (execC call modeF lo nl p44_0 (k44_0 call nl lo) noE (endK cf44.res))
abbrev b44_9 (call : CallT) (nl lo : Nat) (x0 x1 : AV) (M : MM) : Option (AV × MM) :=
  b44_0 call nl lo x0 x1 M
theorem t44_9 (call : CallT) (nl lo : Nat) (ρ : Rg) (M : MM) : k44_9 call nl lo ρ M = b44_9 call nl lo (ρ 0) (ρ 1) M := by
  have h : ∀ (z0 : Rg → MM → Option (AV × MM)), (execC call modeF lo nl p44_0 z0 noE (endK cf44.res)) ρ M = (z0 ρ M) := by intros; kernel_rfl
  refine (h (k44_0 call nl lo)).trans ?_
  unfold b44_9; simp only [(t44_0 call nl lo)] <;> (show _ = _; kernel_rfl)
def s44 (call : CallT) (nl lo : Nat) (a0 a1 : AV) (M : MM) : Option (AV × MM) :=
  b44_9 call nl lo a0 a1 M
theorem e44 (call : CallT) (nl lo : Nat) (a0 a1 : AV) (M : MM) : execC call modeF lo nl cf44.body (endK cf44.res) noE (endK cf44.res) (aF [a0, a1]) M = s44 call nl lo a0 a1 M := by
  have h : execC call modeF lo nl cf44.body (endK cf44.res) noE (endK cf44.res) (aF [a0, a1]) M = (k44_9 call nl lo (aF [a0, a1]) M) := execC_seq call modeF lo nl p44_0 p44_17 (endK cf44.res) noE (endK cf44.res) (aF [a0, a1]) M
  refine h.trans ?_
  unfold s44; simp only [(t44_9 call nl lo)] <;> (show _ = _; kernel_rfl)
theorem q44 {call : CallT} (hc : Lim G call) (lo : Nat) (a0 a1 : AV) (M : MM) : call 44 [a0, a1] lo M = s44 call G.nl lo a0 a1 M :=
  (hc.flow (cf := cf44) rfl w44 [a0, a1] lo M).trans (e44 call G.nl lo a0 a1 M)

/-! ### function 45 -/
theorem w45 : wfK cf45.nt cf45.body = true := by kernel_rfl
def k45_2 (call : CallT) (nl lo : Nat) : Rg → MM → Option (AV × MM) := (execC call modeF lo nl p45_21 (endK cf45.res) noE (endK cf45.res))
abbrev b45_2 (call : CallT) (nl lo : Nat) (M : MM) : Option (AV × MM) :=
  some ((.bool false), M)
theorem t45_2 (call : CallT) (nl lo : Nat) (ρ : Rg) (M : MM) : k45_2 call nl lo ρ M = b45_2 call nl lo M := by
  kernel_rfl
def k45_4 (call : CallT) (nl lo : Nat) (n : Nat) : Rg → MM → Option (AV × MM) := iterC (fun k ρ M => execC call modeF lo nl p45_16 k (fun i ρ M => if i = 0 then (k45_2 call nl lo) ρ M else noE i ρ M) (endK cf45.res) ρ M) n
def b45_4 (call : CallT) (nl lo : Nat) : Nat → AV → AV → AV → AV → MM → Option (AV × MM)
  | 0, _, _, _, _, _ => none
  | n + 1, x0, x5, x6, x7, M =>
  opt (binA .lss .none x7 x6) fun v5 =>
  isB v5 fun c6 => if c6 then (opt (ixsA 1 x5 x7) fun v8 =>
  opt (ld1A (lk M) v8) fun v9 =>
  opt (slslA 1 x0 none (some x7)) fun v14 =>
  opt (puA call (lk M) 70 [v14, v9]) fun v16 =>
  isB v16 fun c17 => if c17 then (some ((.bool true), M))
  else (opt (binA .add .none x7 (.i 1)) fun v19 =>
  (b45_4 call nl lo n) x0 x5 x6 v19 M))
  else (b45_2 call nl lo M)
theorem t45_4 (call : CallT) (nl lo : Nat) : ∀ (n : Nat) (ρ : Rg) (M : MM), k45_4 call nl lo n ρ M = b45_4 call nl lo n (ρ 0) (ρ 5) (ρ 6) (ρ 7) M
  | 0, ρ, M => rfl
  | n + 1, ρ, M => by
    have h : ∀ (zb z0 : Rg → MM → Option (AV × MM)), execC call modeF lo nl p45_16 zb (fun i ρ M => if i = 0 then z0 ρ M else noE i ρ M) (endK cf45.res) ρ M = (opt (binA .lss .none (ρ 7) (ρ 6)) fun v5 =>
    isB v5 fun c6 => if c6 then (opt (ixsA 1 (ρ 5) (ρ 7)) fun v8 =>
    opt (ld1A (lk M) v8) fun v9 =>
    opt (slslA 1 (ρ 0) none (some (ρ 7))) fun v14 =>
    opt (puA call (lk M) 70 [v14, v9]) fun v16 =>
    isB v16 fun c17 => if c17 then (some ((.bool true), M))
    else (opt (binA .add .none (ρ 7) (.i 1)) fun v19 =>
    zb (sF (sF (sF (sF (sF (sF (sF (sF (sF (sF (sF (sF (sF ρ 8 v5) 9 (ρ 7)) 10 v8) 11 v9) 3 (ρ 7)) 4 v9) 12 (ρ 0)) 13 (ρ 7)) 14 v14) 15 v9) 16 v16) 17 v19) 7 v19) M))
    else (z0 (sF ρ 8 v5) M)) := by intros; kernel_rfl
    refine (h (k45_4 call nl lo n) (k45_2 call nl lo)).trans ?_
    unfold b45_4; simp only [(t45_2 call nl lo), (t45_4 call nl lo n)] <;> (show _ = _; kernel_rfl)
def k45_3 (call : CallT) (nl lo : Nat) : Rg → MM → Option (AV × MM) := (execC call modeF lo nl p45_19 (k45_2 call nl lo) noE (endK cf45.res))
abbrev b45_3 (call : CallT) (nl lo : Nat) (x0 : AV) (M : MM) : Option (AV × MM) :=
  opt (lenA x0) fun v3 =>
  b45_4 call nl lo nl x0 x0 v3 (.i 0) M
theorem t45_3 (call : CallT) (nl lo : Nat) (ρ : Rg) (M : MM) : k45_3 call nl lo ρ M = b45_3 call nl lo (ρ 0) M := by
  have h : k45_3 call nl lo ρ M = (opt (lenA (ρ 0)) fun v3 =>
  k45_4 call nl lo nl (sF (sF (sF ρ 5 (ρ 0)) 6 v3) 7 (.i 0)) M) := by kernel_rfl
  rw [h]
  unfold b45_3; simp only [(t45_4 call nl lo nl)] <;> (show _ = _; kernel_rfl)
def k45_1 (call : CallT) (nl lo : Nat) : Rg → MM → Option (AV × MM) := (execC call modeF lo nl p45_22 (endK cf45.res) noE (endK cf45.res))
abbrev b45_1 (call : CallT) (nl lo : Nat) (x0 : AV) (M : MM) : Option (AV × MM) :=
  b45_3 call nl lo x0 M
theorem t45_1 (call : CallT) (nl lo : Nat) (ρ : Rg) (M : MM) : k45_1 call nl lo ρ M = b45_1 call nl lo (ρ 0) M := by
  have h : k45_1 call nl lo ρ M = (k45_3 call nl lo ρ M) := execC_seq call modeF lo nl p45_19 p45_21 (endK cf45.res) noE (endK cf45.res) ρ M
  rw [h]
  unfold b45_1; simp only [(t45_3 call nl lo)] <;> (show _ = _; kernel_rfl)
def k45_5 (call : CallT) (nl lo : Nat) : Rg → MM → Option (AV × MM) := (execC call modeF lo nl p45_1 (k45_1 call nl lo) noE (endK cf45.res))
abbrev b45_5 (call : CallT) (nl lo : Nat) (x0 : AV) (M : MM) : Option (AV × MM) :=
  b45_1 call nl lo x0 M
theorem t45_5 (call : CallT) (nl lo : Nat) (ρ : Rg) (M : MM) : k45_5 call nl lo ρ M = b45_5 call nl lo (ρ 0) M := by
  have h : ∀ (z0 : Rg → MM → Option (AV × MM)), (execC call modeF lo nl p45_1 z0 noE (endK cf45.res)) ρ M = (z0 (sF ρ 2 (.bool false)) M) := by intros; kernel_rfl
  refine (h (k45_1 call nl lo)).trans ?_
  unfold b45_5; simp only [(t45_1 call nl lo)] <;> (show _ = _; kernel_rfl)
def k45_0 (call : CallT) (nl lo : Nat) : Rg → MM → Option (AV × MM) := (execC call modeF lo nl p45_23 (endK cf45.res) noE (endK cf45.res))
abbrev b45_0 (call : CallT) (nl lo : Nat) (x0 : AV) (M : MM) : Option (AV × MM) :=
  b45_5 call nl lo x0 M
theorem t45_0 (call : CallT) (nl lo : Nat) (ρ : Rg) (M : MM) : k45_0 call nl lo ρ M = b45_0 call nl lo (ρ 0) M := by
  have h : k45_0 call nl lo ρ M = (k45_5 call nl lo ρ M) := execC_seq call modeF lo nl p45_1 p45_22 (endK cf45.res) noE (endK cf45.res) ρ M
  rw [h]
  unfold b45_0; simp only [(t45_5 call nl lo)] <;> (show _ = _; kernel_rfl)
def k45_6 (call : CallT) (nl lo : Nat) : Rg → MM → Option (AV × MM) := (execC call modeF lo nl p45_0 (k45_0 call nl lo) noE (endK cf45.res))
abbrev b45_6 (call : CallT) (nl lo : Nat) (x0 : AV) (M : MM) : Option (AV × MM) :=
  b45_0 call nl lo x0 M
theorem t45_6 (call : CallT) (nl lo : Nat) (ρ : Rg) (M : MM) : k45_6 call nl lo ρ M = b45_6 call nl lo (ρ 0) M := by
  have h : ∀ (z0 : Rg → MM → Option (AV × MM)), (execC call modeF lo nl p45_0 z0 noE (endK cf45.res)) ρ M = (z0 ρ M) := by intros; kernel_rfl
  refine (h (k45_0 call nl lo)).trans ?_
  unfold b45_6; simp only [(t45_0 call nl lo)] <;> (show _ = _; kernel_rfl)
def s45 (call : CallT) (nl lo : Nat) (a0 : AV) (M : MM) : Option (AV × MM) :=
  b45_6 call nl lo a0 M
theorem e45 (call : CallT) (nl lo : Nat) (a0 : AV) (M : MM) : execC call modeF lo nl cf45.body (endK cf45.res) noE (endK cf45.res) (aF [a0]) M = s45 call nl lo a0 M := by
  have h : execC call modeF lo nl cf45.body (endK cf45.res) noE (endK cf45.res) (aF [a0]) M = (k45_6 call nl lo (aF [a0]) M) := execC_seq call modeF lo nl p45_0 p45_23 (endK cf45.res) noE (endK cf45.res) (aF [a0]) M
  refine h.trans ?_
  unfold s45; simp only [(t45_6 call nl lo)] <;> (show _ = _; kernel_rfl)
theorem q45 {call : CallT} (hc : Lim G call) (lo : Nat) (a0 : AV) (M : MM) : call 45 [a0] lo M = s45 call G.nl lo a0 M :=
  (hc.flow (cf := cf45) rfl w45 [a0] lo M).trans (e45 call G.nl lo a0 M)

/-! ### function 46 -/
theorem w46 : wfK cf46.nt cf46.body = true := by kernel_rfl
def k46_4 (call : CallT) (nl lo : Nat) : Rg → MM → Option (AV × MM) := (execC call modeF lo nl p46_31 (endK cf46.res) noE (endK cf46.res))
abbrev b46_4 (call : CallT) (nl lo : Nat) (x8 : AV) (M : MM) : Option (AV × MM) :=
  some (x8, M)
theorem t46_4 (call : CallT) (nl lo : Nat) (ρ : Rg) (M : MM) : k46_4 call nl lo ρ M = b46_4 call nl lo (ρ 8) M := by
  kernel_rfl
def k46_6 (call : CallT) (nl lo : Nat) (n : Nat) : Rg → MM → Option (AV × MM) := iterC (fun k ρ M => execC call modeF lo nl p46_26 k (fun i ρ M => if i = 0 then (k46_4 call nl lo) ρ M else noE i ρ M) (endK cf46.res) ρ M) n
def b46_6 (call : CallT) (nl lo : Nat) : Nat → AV → AV → AV → AV → AV → AV → MM → Option (AV × MM)
  | 0, _, _, _, _, _, _, _ => none
  | n + 1, x1, x2, x8, x21, x22, x23, M =>
  opt (binA .lss .none x23 x22) fun v7 =>
  isB v7 fun c8 => if c8 then (opt (ixsA 2 x21 x23) fun v9 =>
  opt (ldnA (lk M) 2 v9) fun v10 =>
  upK M M.nx fun M12 =>
  opt (setcA 0 2 (.agg [.str ⟨⟨[]⟩⟩, .d (.sl [] 0)]) v10) fun v13 =>
  opt (fldA 0 2 true v13) fun v15 =>
  opt (puA call (lk M12) 46 [v15, x1, x2]) fun v18 =>
  opt (binA .add .none x8 v18) fun v19 =>
  opt (binA .gtr .none v19 (.i 4096)) fun v22 =>
  isB v22 fun c23 => if c23 then (some (v19, M12))
  else (opt (binA .add .none x23 (.i 1)) fun v26 =>
  (b46_6 call nl lo n) x1 x2 v19 x21 x22 v26 M12))
  else (b46_4 call nl lo x8 M)
theorem t46_6 (call : CallT) (nl lo : Nat) : ∀ (n : Nat) (ρ : Rg) (M : MM), k46_6 call nl lo n ρ M = b46_6 call nl lo n (ρ 1) (ρ 2) (ρ 8) (ρ 21) (ρ 22) (ρ 23) M
  | 0, ρ, M => rfl
  | n + 1, ρ, M => by
    have h : ∀ (zb z0 : Rg → MM → Option (AV × MM)), execC call modeF lo nl p46_26 zb (fun i ρ M => if i = 0 then z0 ρ M else noE i ρ M) (endK cf46.res) ρ M = (opt (binA .lss .none (ρ 23) (ρ 22)) fun v7 =>
    isB v7 fun c8 => if c8 then (opt (ixsA 2 (ρ 21) (ρ 23)) fun v9 =>
    opt (ldnA (lk M) 2 v9) fun v10 =>
    upK M M.nx fun M12 =>
    opt (setcA 0 2 (.agg [.str ⟨⟨[]⟩⟩, .d (.sl [] 0)]) v10) fun v13 =>
    opt (fldA 0 2 true v13) fun v15 =>
    opt (puA call (lk M12) 46 [v15, (ρ 1), (ρ 2)]) fun v18 =>
    opt (binA .add .none (ρ 8) v18) fun v19 =>
    opt (binA .gtr .none v19 (.i 4096)) fun v22 =>
    isB v22 fun c23 => if c23 then (some (v19, M12))
    else (opt (binA .add .none (ρ 23) (.i 1)) fun v26 =>
    zb (sF (sF (sF (sF (sF (sF (sF (sF (sF (sF (sF (sF (sF (sF (sF (sF ρ 24 v7) 25 v9) 26 v10) 10 (.agg [.str ⟨⟨[]⟩⟩, .d (.sl [] 0)])) 10 v13) 27 (ρ 8)) 28 v15) 29 (ρ 1)) 30 (ρ 2)) 31 v18) 32 v19) 8 v19) 33 v19) 34 v22) 36 v26) 23 v26) M12))
    else (z0 (sF ρ 24 v7) M)) := by intros; kernel_rfl
    refine (h (k46_6 call nl lo n) (k46_4 call nl lo)).trans ?_
    unfold b46_6; simp only [(t46_4 call nl lo), (t46_6 call nl lo n)] <;> (show _ = _; kernel_rfl)
def k46_5 (call : CallT) (nl lo : Nat) : Rg → MM → Option (AV × MM) := (execC call modeF lo nl p46_29 (k46_4 call nl lo) noE (endK cf46.res))
abbrev b46_5 (call : CallT) (nl lo : Nat) (x1 x2 x3 x8 : AV) (M : MM) : Option (AV × MM) :=
  opt (fldA 0 0 true x3) fun v3 =>
  opt (fldA 1 1 false x3) fun v4 =>
  opt (lenA v4) fun v5 =>
  b46_6 call nl lo nl x1 x2 x8 v4 v5 (.i 0) M
theorem t46_5 (call : CallT) (nl lo : Nat) (ρ : Rg) (M : MM) : k46_5 call nl lo ρ M = b46_5 call nl lo (ρ 1) (ρ 2) (ρ 3) (ρ 8) M := by
  have h : k46_5 call nl lo ρ M = (opt (fldA 0 0 true (ρ 3)) fun v3 =>
  opt (fldA 1 1 false (ρ 3)) fun v4 =>
  opt (lenA v4) fun v5 =>
  k46_6 call nl lo nl (sF (sF (sF (sF ρ 20 v3) 21 v4) 22 v5) 23 (.i 0)) M) := by kernel_rfl
  rw [h]
  unfold b46_5; simp only [(t46_6 call nl lo nl)] <;> (show _ = _; kernel_rfl)
def k46_3 (call : CallT) (nl lo : Nat) : Rg → MM → Option (AV × MM) := (execC call modeF lo nl p46_32 (endK cf46.res) noE (endK cf46.res))
abbrev b46_3 (call : CallT) (nl lo : Nat) (x1 x2 x3 x8 : AV) (M : MM) : Option (AV × MM) :=
  b46_5 call nl lo x1 x2 x3 x8 M
theorem t46_3 (call : CallT) (nl lo : Nat) (ρ : Rg) (M : MM) : k46_3 call nl lo ρ M = b46_3 call nl lo (ρ 1) (ρ 2) (ρ 3) (ρ 8) M := by
  have h : k46_3 call nl lo ρ M = (k46_5 call nl lo ρ M) := execC_seq call modeF lo nl p46_29 p46_31 (endK cf46.res) noE (endK cf46.res) ρ M
  rw [h]
  unfold b46_3; simp only [(t46_5 call nl lo)] <;> (show _ = _; kernel_rfl)
def k46_7 (call : CallT) (nl lo : Nat) : Rg → MM → Option (AV × MM) := (execC call modeF lo nl p46_9 (k46_3 call nl lo) noE (endK cf46.res))
abbrev b46_7 (call : CallT) (nl lo : Nat) (x1 x2 x3 : AV) (M : MM) : Option (AV × MM) :=
  b46_3 call nl lo x1 x2 x3 (.i 1) M
theorem t46_7 (call : CallT) (nl lo : Nat) (ρ : Rg) (M : MM) : k46_7 call nl lo ρ M = b46_7 call nl lo (ρ 1) (ρ 2) (ρ 3) M := by
  have h : ∀ (z0 : Rg → MM → Option (AV × MM)), (execC call modeF lo nl p46_9 z0 noE (endK cf46.res)) ρ M = (z0 (sF ρ 8 (.i 1)) M) := by intros; kernel_rfl
  refine (h (k46_3 call nl lo)).trans ?_
  unfold b46_7; simp only [(t46_3 call nl lo)] <;> (show _ = _; kernel_rfl)
def k46_2 (call : CallT) (nl lo : Nat) : Rg → MM → Option (AV × MM) := (execC call modeF lo nl p46_33 (endK cf46.res) noE (endK cf46.res))
abbrev b46_2 (call : CallT) (nl lo : Nat) (x1 x2 x3 : AV) (M : MM) : Option (AV × MM) :=
  b46_7 call nl lo x1 x2 x3 M
theorem t46_2 (call : CallT) (nl lo : Nat) (ρ : Rg) (M : MM) : k46_2 call nl lo ρ M = b46_2 call nl lo (ρ 1) (ρ 2) (ρ 3) M := by
  have h : k46_2 call nl lo ρ M = (k46_7 call nl lo ρ M) := execC_seq call modeF lo nl p46_9 p46_32 (endK cf46.res) noE (endK cf46.res) ρ M
  rw [h]
  unfold b46_2; simp only [(t46_7 call nl lo)] <;> (show _ = _; kernel_rfl)
def k46_8 (call : CallT) (nl lo : Nat) : Rg → MM → Option (AV × MM) := (execC call modeF lo nl p46_8 (k46_2 call nl lo) noE (endK cf46.res))
abbrev b46_8 (call : CallT) (nl lo : Nat) (x1 x2 x3 : AV) (M : MM) : Option (AV × MM) :=
  opt (fldA 0 2 true x3) fun v1 =>
  opt (puA call (lk M) 71 [v1, x1]) fun v3 =>
  opt (binA .geq .none v3 (.i 0)) fun v6 =>
  isB v6 fun c7 => if c7 then (opt (ixsA 1 x2 v3) fun v10 =>
  opt (ld1A (lk M) v10) fun v11 =>
  some (v11, M))
  else (b46_2 call nl lo x1 x2 x3 M)
theorem t46_8 (call : CallT) (nl lo : Nat) (ρ : Rg) (M : MM) : k46_8 call nl lo ρ M = b46_8 call nl lo (ρ 1) (ρ 2) (ρ 3) M := by
  have h : ∀ (z0 : Rg → MM → Option (AV × MM)), (execC call modeF lo nl p46_8 z0 noE (endK cf46.res)) ρ M = (opt (fldA 0 2 true (ρ 3)) fun v1 =>
  opt (puA call (lk M) 71 [v1, (ρ 1)]) fun v3 =>
  opt (binA .geq .none v3 (.i 0)) fun v6 =>
  isB v6 fun c7 => if c7 then (opt (ixsA 1 (ρ 2) v3) fun v10 =>
  opt (ld1A (lk M) v10) fun v11 =>
  some (v11, M))
  else (z0 (sF (sF (sF (sF (sF (sF ρ 11 v1) 12 (ρ 1)) 13 v3) 7 v3) 14 v3) 15 v6) M)) := by intros; kernel_rfl
  refine (h (k46_2 call nl lo)).trans ?_
  unfold b46_8; simp only [(t46_2 call nl lo)] <;> (show _ = _; kernel_rfl)
def k46_1 (call : CallT) (nl lo : Nat) : Rg → MM → Option (AV × MM) := (execC call modeF lo nl p46_34 (endK cf46.res) noE (endK cf46.res))
abbrev b46_1 (call : CallT) (nl lo : Nat) (x1 x2 x3 : AV) (M : MM) : Option (AV × MM) :=
  b46_8 call nl lo x1 x2 x3 M
theorem t46_1 (call : CallT) (nl lo : Nat) (ρ : Rg) (M : MM) : k46_1 call nl lo ρ M = b46_1 call nl lo (ρ 1) (ρ 2) (ρ 3) M := by
  have h : k46_1 call nl lo ρ M = (k46_8 call nl lo ρ M) := execC_seq call modeF lo nl p46_8 p46_33 (endK cf46.res) noE (endK cf46.res) ρ M
  rw [h]
  unfold b46_1; simp only [(t46_8 call nl lo)] <;> (show _ = _; kernel_rfl)
def k46_9 (call : CallT) (nl lo : Nat) : Rg → MM → Option (AV × MM) := (execC call modeF lo nl p46_1 (k46_1 call nl lo) noE (endK cf46.res))
abbrev b46_9 (call : CallT) (nl lo : Nat) (x0 x1 x2 : AV) (M : MM) : Option (AV × MM) :=
  opt (aggA x0) fun v1 =>
  upK M M.nx fun M2 =>
  b46_1 call nl lo x1 x2 v1 M2
theorem t46_9 (call : CallT) (nl lo : Nat) (ρ : Rg) (M : MM) : k46_9 call nl lo ρ M = b46_9 call nl lo (ρ 0) (ρ 1) (ρ 2) M := by
  have h : ∀ (z0 : Rg → MM → Option (AV × MM)), (execC call modeF lo nl p46_1 z0 noE (endK cf46.res)) ρ M = (opt (aggA (ρ 0)) fun v1 =>
  upK M M.nx fun M2 =>
  z0 (sF (sF ρ 3 v1) 6 (.i 0)) M2) := by intros; kernel_rfl
  refine (h (k46_1 call nl lo)).trans ?_
  unfold b46_9; simp only [(t46_1 call nl lo)] <;> (show _ = _; kernel_rfl)
def k46_0 (call : CallT) (nl lo : Nat) : Rg → MM → Option (AV × MM) := (execC call modeF lo nl p46_35 (endK cf46.res) noE (endK cf46.res))
abbrev b46_0 (call : CallT) (nl lo : Nat) (x0 x1 x2 : AV) (M : MM) : Option (AV × MM) :=
  b46_9 call nl lo x0 x1 x2 M
theorem t46_0 (call : CallT) (nl lo : Nat) (ρ : Rg) (M : MM) : k46_0 call nl lo ρ M = b46_0 call nl lo (ρ 0) (ρ 1) (ρ 2) M := by
  have h : k46_0 call nl lo ρ M = (k46_9 call nl lo ρ M) := execC_seq call modeF lo nl p46_1 p46_34 (endK cf46.res) noE (endK cf46.res) ρ M
  rw [h]
  unfold b46_0; simp only [(t46_9 call nl lo)] <;> (show _ = _; kernel_rfl)
def k46_10 (call : CallT) (nl lo : Nat) : Rg → MM → Option (AV × MM) := (execC call modeF lo nl p46_0 (k46_0 call nl lo) noE (endK cf46.res))
abbrev b46_10 (call : CallT) (nl lo : Nat) (x0 x1 x2 : AV) (M : MM) : Option (AV × MM) :=
  b46_0 call nl lo x0 x1 x2 M
theorem t46_10 (call : CallT) (nl lo : Nat) (ρ : Rg) (M : MM) : k46_10 call nl lo ρ M = b46_10 call nl lo (ρ 0) (ρ 1) (ρ 2) M := by
  have h : ∀ (z0 : Rg → MM → Option (AV × MM)), (execC call modeF lo nl p46_0 z0 noE (endK cf46.res)) ρ M = (z0 (sF (sF ρ 3 (.tup [])) 10 (.tup [])) M) := by intros; kernel_rfl
  refine (h (k46_0 call nl lo)).trans ?_
  unfold b46_10; simp only [(t46_0 call nl lo)] <;> (show _ = _; kernel_rfl)
def s46 (call : CallT) (nl lo : Nat) (a0 a1 a2 : AV) (M : MM) : Option (AV × MM) :=
  b46_10 call nl lo a0 a1 a2 M
theorem e46 (call : CallT) (nl lo : Nat) (a0 a1 a2 : AV) (M : MM) : execC call modeF lo nl cf46.body (endK cf46.res) noE (endK cf46.res) (aF [a0, a1, a2]) M = s46 call nl lo a0 a1 a2 M := by
  have h : execC call modeF lo nl cf46.body (endK cf46.res) noE (endK cf46.res) (aF [a0, a1, a2]) M = (k46_10 call nl lo (aF [a0, a1, a2]) M) := execC_seq call modeF lo nl p46_0 p46_35 (endK cf46.res) noE (endK cf46.res) (aF [a0, a1, a2]) M
  refine h.trans ?_
  unfold s46; simp only [(t46_10 call nl lo)] <;> (show _ = _; kernel_rfl)
theorem q46 {call : CallT} (hc : Lim G call) (lo : Nat) (a0 a1 a2 : AV) (M : MM) : call 46 [a0, a1, a2] lo M = s46 call G.nl lo a0 a1 a2 M :=
  (hc.flow (cf := cf46) rfl w46 [a0, a1, a2] lo M).trans (e46 call G.nl lo a0 a1 a2 M)

/-! ### function 47 -/
theorem w47 : wfK cf47.nt cf47.body = true := by kernel_rfl
def k47_4 (call : CallT) (nl lo : Nat) : Rg → MM → Option (AV × MM) := (execC call modeF lo nl p47_25 (endK cf47.res) noE (endK cf47.res))
abbrev b47_4 (call : CallT) (nl lo : Nat) (x6 x8 : AV) (M : MM) : Option (AV × MM) :=
  opt (fldA 0 2 true x8) fun v1 =>
  opt (setcA 0 2 x6 v1) fun v2 =>
  opt (locA 2 true v2) fun r => some (r, M)
theorem t47_4 (call : CallT) (nl lo : Nat) (ρ : Rg) (M : MM) : k47_4 call nl lo ρ M = b47_4 call nl lo (ρ 6) (ρ 8) M := by
  kernel_rfl
def k47_6 (call : CallT) (nl lo : Nat) (n : Nat) : Rg → MM → Option (AV × MM) := iterC (fun k ρ M => execC call modeF lo nl p47_20 k (fun i ρ M => if i = 0 then (k47_4 call nl lo) ρ M else noE i ρ M) (endK cf47.res) ρ M) n
def b47_6 (call : CallT) (nl lo : Nat) : Nat → AV → AV → AV → AV → AV → AV → AV → MM → Option (AV × MM)
  | 0, _, _, _, _, _, _, _, _ => none
  | n + 1, x1, x2, x6, x8, x25, x26, x27, M =>
  opt (binA .lss .none x27 x26) fun v7 =>
  isB v7 fun c8 => if c8 then (opt (ixsA 2 x25 x27) fun v9 =>
  opt (ldnA (lk M) 2 v9) fun v10 =>
  upK M M.nx fun M12 =>
  opt (setcA 0 2 (.agg [.str ⟨⟨[]⟩⟩, .d (.sl [] 0)]) v10) fun v13 =>
  bumpK M12 10 fun M14 =>
  opt (fldA 0 0 true x8) fun v15 =>
  opt (fldA 1 1 false x8) fun v16 =>
  opt (fldA 0 2 true v13) fun v17 =>
  opt (puA call (look M14.mem (.mk M12.nx 10 28 true)) 47 [v17, x1, x2]) fun v20 =>
  opt (wslA 1 (fill [.str ⟨⟨[]⟩⟩, .d (.sl [] 0)] [(0, 2, v20)])) fun v21 =>
  upK M14 (M12.nx + 6) fun M22 =>
  opt (wappA M22.mem (.top M22.nx) 2 40 v16 v21) fun v23 =>
  upK M22 (M12.nx + 7) fun M24 =>
  opt (fldA 0 0 true x8) fun v25 =>
  opt (setcA 1 1 x8 v23) fun v26 =>
  opt (binA .add .none x27 (.i 1)) fun v27 =>
  (b47_6 call nl lo n) x1 x2 x6 v26 x25 x26 v27 M24)
  else (b47_4 call nl lo x6 x8 M)
theorem t47_6 (call : CallT) (nl lo : Nat) : ∀ (n : Nat) (ρ : Rg) (M : MM), k47_6 call nl lo n ρ M = b47_6 call nl lo n (ρ 1) (ρ 2) (ρ 6) (ρ 8) (ρ 25) (ρ 26) (ρ 27) M
  | 0, ρ, M => rfl
  | n + 1, ρ, M => by
    have h : ∀ (zb z0 : Rg → MM → Option (AV × MM)), execC call modeF lo nl p47_20 zb (fun i ρ M => if i = 0 then z0 ρ M else noE i ρ M) (endK cf47.res) ρ M = (opt (binA .lss .none (ρ 27) (ρ 26)) fun v7 =>
    isB v7 fun c8 => if c8 then (opt (ixsA 2 (ρ 25) (ρ 27)) fun v9 =>
    opt (ldnA (lk M) 2 v9) fun v10 =>
    upK M M.nx fun M12 =>
    opt (setcA 0 2 (.agg [.str ⟨⟨[]⟩⟩, .d (.sl [] 0)]) v10) fun v13 =>
    bumpK M12 10 fun M14 =>
    opt (fldA 0 0 true (ρ 8)) fun v15 =>
    opt (fldA 1 1 false (ρ 8)) fun v16 =>
    opt (fldA 0 2 true v13) fun v17 =>
    opt (puA call (look M14.mem (.mk M12.nx 10 28 true)) 47 [v17, (ρ 1), (ρ 2)]) fun v20 =>
    opt (wslA 1 (fill [.str ⟨⟨[]⟩⟩, .d (.sl [] 0)] [(0, 2, v20)])) fun v21 =>
    upK M14 (M12.nx + 6) fun M22 =>
    opt (wappA M22.mem (.top M22.nx) 2 40 v16 v21) fun v23 =>
    upK M22 (M12.nx + 7) fun M24 =>
    opt (fldA 0 0 true (ρ 8)) fun v25 =>
    opt (setcA 1 1 (ρ 8) v23) fun v26 =>
    opt (binA .add .none (ρ 27) (.i 1)) fun v27 =>
    zb (sF (sF (sF (sF (sF (sF (sF (sF (sF (sF (sF (sF (sF (sF (sF (sF (sF ρ 28 v7) 29 v9) 30 v10) 10 (.agg [.str ⟨⟨[]⟩⟩, .d (.sl [] 0)])) 10 v13) 31 v15) 32 v16) 33 v17) 34 (ρ 1)) 35 (ρ 2)) 36 v20) 37 v21) 38 v23) 39 v25) 8 v26) 40 v27) 27 v27) M24)
    else (z0 (sF ρ 28 v7) M)) := by intros; kernel_rfl
    refine (h (k47_6 call nl lo n) (k47_4 call nl lo)).trans ?_
    unfold b47_6; simp only [(t47_4 call nl lo), (t47_6 call nl lo n)] <;> (show _ = _; kernel_rfl)
def k47_5 (call : CallT) (nl lo : Nat) : Rg → MM → Option (AV × MM) := (execC call modeF lo nl p47_23 (k47_4 call nl lo) noE (endK cf47.res))
abbrev b47_5 (call : CallT) (nl lo : Nat) (x1 x2 x3 x6 x8 : AV) (M : MM) : Option (AV × MM) :=
  opt (fldA 0 0 true x3) fun v3 =>
  opt (fldA 1 1 false x3) fun v4 =>
  opt (lenA v4) fun v5 =>
  b47_6 call nl lo nl x1 x2 x6 x8 v4 v5 (.i 0) M
theorem t47_5 (call : CallT) (nl lo : Nat) (ρ : Rg) (M : MM) : k47_5 call nl lo ρ M = b47_5 call nl lo (ρ 1) (ρ 2) (ρ 3) (ρ 6) (ρ 8) M := by
  have h : k47_5 call nl lo ρ M = (opt (fldA 0 0 true (ρ 3)) fun v3 =>
  opt (fldA 1 1 false (ρ 3)) fun v4 =>
  opt (lenA v4) fun v5 =>
  k47_6 call nl lo nl (sF (sF (sF (sF ρ 24 v3) 25 v4) 26 v5) 27 (.i 0)) M) := by kernel_rfl
  rw [h]
  unfold b47_5; simp only [(t47_6 call nl lo nl)] <;> (show _ = _; kernel_rfl)
def k47_3 (call : CallT) (nl lo : Nat) : Rg → MM → Option (AV × MM) := (execC call modeF lo nl p47_26 (endK cf47.res) noE (endK cf47.res))
abbrev b47_3 (call : CallT) (nl lo : Nat) (x1 x2 x3 x6 x8 : AV) (M : MM) : Option (AV × MM) :=
  b47_5 call nl lo x1 x2 x3 x6 x8 M
theorem t47_3 (call : CallT) (nl lo : Nat) (ρ : Rg) (M : MM) : k47_3 call nl lo ρ M = b47_3 call nl lo (ρ 1) (ρ 2) (ρ 3) (ρ 6) (ρ 8) M := by
  have h : k47_3 call nl lo ρ M = (k47_5 call nl lo ρ M) := execC_seq call modeF lo nl p47_23 p47_25 (endK cf47.res) noE (endK cf47.res) ρ M
  rw [h]
  unfold b47_3; simp only [(t47_5 call nl lo)] <;> (show _ = _; kernel_rfl)
def k47_7 (call : CallT) (nl lo : Nat) : Rg → MM → Option (AV × MM) := (execC call modeF lo nl p47_9 (k47_3 call nl lo) noE (endK cf47.res))
abbrev b47_7 (call : CallT) (nl lo : Nat) (x1 x2 x3 x6 : AV) (M : MM) : Option (AV × MM) :=
  opt (fldA 0 0 true x3) fun v1 =>
  opt (fldA 0 1 false x3) fun v2 =>
  opt ((fill [.str ⟨⟨[]⟩⟩, .d (.sl [] 0)] [(0, 1, v2)]).map .agg) fun v3 =>
  upK M M.nx fun M5 =>
  opt (setcA 0 2 (.agg [.str ⟨⟨[]⟩⟩, .d (.sl [] 0)]) v3) fun v6 =>
  b47_3 call nl lo x1 x2 x3 x6 v6 M5
theorem t47_7 (call : CallT) (nl lo : Nat) (ρ : Rg) (M : MM) : k47_7 call nl lo ρ M = b47_7 call nl lo (ρ 1) (ρ 2) (ρ 3) (ρ 6) M := by
  have h : ∀ (z0 : Rg → MM → Option (AV × MM)), (execC call modeF lo nl p47_9 z0 noE (endK cf47.res)) ρ M = (opt (fldA 0 0 true (ρ 3)) fun v1 =>
  opt (fldA 0 1 false (ρ 3)) fun v2 =>
  opt ((fill [.str ⟨⟨[]⟩⟩, .d (.sl [] 0)] [(0, 1, v2)]).map .agg) fun v3 =>
  upK M M.nx fun M5 =>
  opt (setcA 0 2 (.agg [.str ⟨⟨[]⟩⟩, .d (.sl [] 0)]) v3) fun v6 =>
  z0 (sF (sF (sF (sF (sF ρ 21 v1) 22 v2) 23 v3) 8 (.agg [.str ⟨⟨[]⟩⟩, .d (.sl [] 0)])) 8 v6) M5) := by intros; kernel_rfl
  refine (h (k47_3 call nl lo)).trans ?_
  unfold b47_7; simp only [(t47_3 call nl lo)] <;> (show _ = _; kernel_rfl)
def k47_2 (call : CallT) (nl lo : Nat) : Rg → MM → Option (AV × MM) := (execC call modeF lo nl p47_27 (endK cf47.res) noE (endK cf47.res))
abbrev b47_2 (call : CallT) (nl lo : Nat) (x1 x2 x3 x6 : AV) (M : MM) : Option (AV × MM) :=
  b47_7 call nl lo x1 x2 x3 x6 M
theorem t47_2 (call : CallT) (nl lo : Nat) (ρ : Rg) (M : MM) : k47_2 call nl lo ρ M = b47_2 call nl lo (ρ 1) (ρ 2) (ρ 3) (ρ 6) M := by
  have h : k47_2 call nl lo ρ M = (k47_7 call nl lo ρ M) := execC_seq call modeF lo nl p47_9 p47_26 (endK cf47.res) noE (endK cf47.res) ρ M
  rw [h]
  unfold b47_2; simp only [(t47_7 call nl lo)] <;> (show _ = _; kernel_rfl)
def k47_8 (call : CallT) (nl lo : Nat) : Rg → MM → Option (AV × MM) := (execC call modeF lo nl p47_8 (k47_2 call nl lo) noE (endK cf47.res))
abbrev b47_8 (call : CallT) (nl lo : Nat) (x1 x2 x3 x6 : AV) (M : MM) : Option (AV × MM) :=
  opt (fldA 0 2 true x3) fun v1 =>
  opt (puA call (lk M) 71 [v1, x1]) fun v3 =>
  opt (binA .geq .none v3 (.i 0)) fun v6 =>
  isB v6 fun c7 => if c7 then (opt (ixsA 2 x2 v3) fun v10 =>
  opt (ldnA (lk M) 2 v10) fun v11 =>
  opt (puA call (lk M) 55 [v11]) fun v12 =>
  opt (setcA 0 2 x6 v12) fun v13 =>
  opt (locA 2 true v13) fun r => some (r, M))
  else (b47_2 call nl lo x1 x2 x3 x6 M)
theorem t47_8 (call : CallT) (nl lo : Nat) (ρ : Rg) (M : MM) : k47_8 call nl lo ρ M = b47_8 call nl lo (ρ 1) (ρ 2) (ρ 3) (ρ 6) M := by
  have h : ∀ (z0 : Rg → MM → Option (AV × MM)), (execC call modeF lo nl p47_8 z0 noE (endK cf47.res)) ρ M = (opt (fldA 0 2 true (ρ 3)) fun v1 =>
  opt (puA call (lk M) 71 [v1, (ρ 1)]) fun v3 =>
  opt (binA .geq .none v3 (.i 0)) fun v6 =>
  isB v6 fun c7 => if c7 then (opt (ixsA 2 (ρ 2) v3) fun v10 =>
  opt (ldnA (lk M) 2 v10) fun v11 =>
  opt (puA call (lk M) 55 [v11]) fun v12 =>
  opt (setcA 0 2 (ρ 6) v12) fun v13 =>
  opt (locA 2 true v13) fun r => some (r, M))
  else (z0 (sF (sF (sF (sF (sF (sF ρ 11 v1) 12 (ρ 1)) 13 v3) 7 v3) 14 v3) 15 v6) M)) := by intros; kernel_rfl
  refine (h (k47_2 call nl lo)).trans ?_
  unfold b47_8; simp only [(t47_2 call nl lo)] <;> (show _ = _; kernel_rfl)
def k47_1 (call : CallT) (nl lo : Nat) : Rg → MM → Option (AV × MM) := (execC call modeF lo nl p47_28 (endK cf47.res) noE (endK cf47.res))
abbrev b47_1 (call : CallT) (nl lo : Nat) (x1 x2 x3 x6 : AV) (M : MM) : Option (AV × MM) :=
  b47_8 call nl lo x1 x2 x3 x6 M
theorem t47_1 (call : CallT) (nl lo : Nat) (ρ : Rg) (M : MM) : k47_1 call nl lo ρ M = b47_1 call nl lo (ρ 1) (ρ 2) (ρ 3) (ρ 6) M := by
  have h : k47_1 call nl lo ρ M = (k47_8 call nl lo ρ M) := execC_seq call modeF lo nl p47_8 p47_27 (endK cf47.res) noE (endK cf47.res) ρ M
  rw [h]
  unfold b47_1; simp only [(t47_8 call nl lo)] <;> (show _ = _; kernel_rfl)
def k47_9 (call : CallT) (nl lo : Nat) : Rg → MM → Option (AV × MM) := (execC call modeF lo nl p47_1 (k47_1 call nl lo) noE (endK cf47.res))
abbrev b47_9 (call : CallT) (nl lo : Nat) (x0 x1 x2 : AV) (M : MM) : Option (AV × MM) :=
  opt (aggA x0) fun v1 =>
  upK M M.nx fun M2 =>
  upK M2 M2.nx fun M4 =>
  b47_1 call nl lo x1 x2 v1 (.agg [.str ⟨⟨[]⟩⟩, .d (.sl [] 0)]) M4
theorem t47_9 (call : CallT) (nl lo : Nat) (ρ : Rg) (M : MM) : k47_9 call nl lo ρ M = b47_9 call nl lo (ρ 0) (ρ 1) (ρ 2) M := by
  have h : ∀ (z0 : Rg → MM → Option (AV × MM)), (execC call modeF lo nl p47_1 z0 noE (endK cf47.res)) ρ M = (opt (aggA (ρ 0)) fun v1 =>
  upK M M.nx fun M2 =>
  upK M2 M2.nx fun M4 =>
  z0 (sF (sF ρ 3 v1) 6 (.agg [.str ⟨⟨[]⟩⟩, .d (.sl [] 0)])) M4) := by intros; kernel_rfl
  refine (h (k47_1 call nl lo)).trans ?_
  unfold b47_9; simp only [(t47_1 call nl lo)] <;> (show _ = _; kernel_rfl)
def k47_0 (call : CallT) (nl lo : Nat) : Rg → MM → Option (AV × MM) := (execC call modeF lo nl p47_29 (endK cf47.res) noE (endK cf47.res))
abbrev b47_0 (call : CallT) (nl lo : Nat) (x0 x1 x2 : AV) (M : MM) : Option (AV × MM) :=
  b47_9 call nl lo x0 x1 x2 M
theorem t47_0 (call : CallT) (nl lo : Nat) (ρ : Rg) (M : MM) : k47_0 call nl lo ρ M = b47_0 call nl lo (ρ 0) (ρ 1) (ρ 2) M := by
  have h : k47_0 call nl lo ρ M = (k47_9 call nl lo ρ M) := execC_seq call modeF lo nl p47_1 p47_28 (endK cf47.res) noE (endK cf47.res) ρ M
  rw [h]
  unfold b47_0; simp only [(t47_9 call nl lo)] <;> (show _ = _; kernel_rfl)
def k47_10 (call : CallT) (nl lo : Nat) : Rg → MM → Option (AV × MM) := (execC call modeF lo nl p47_0 (k47_0 call nl lo) noE (endK cf47.res))
abbrev b47_10 (call : CallT) (nl lo : Nat) (x0 x1 x2 : AV) (M : MM) : Option (AV × MM) :=
  b47_0 call nl lo x0 x1 x2 M
theorem t47_10 (call : CallT) (nl lo : Nat) (ρ : Rg) (M : MM) : k47_10 call nl lo ρ M = b47_10 call nl lo (ρ 0) (ρ 1) (ρ 2) M := by
  have h : ∀ (z0 : Rg → MM → Option (AV × MM)), (execC call modeF lo nl p47_0 z0 noE (endK cf47.res)) ρ M = (z0 (sF (sF (sF (sF ρ 3 (.tup [])) 6 (.tup [])) 8 (.tup [])) 10 (.tup [])) M) := by intros; kernel_rfl
  refine (h (k47_0 call nl lo)).trans ?_
  unfold b47_10; simp only [(t47_0 call nl lo)] <;> (show _ = _; kernel_rfl)
def s47 (call : CallT) (nl lo : Nat) (a0 a1 a2 : AV) (M : MM) : Option (AV × MM) :=
  b47_10 call nl lo a0 a1 a2 M
theorem e47 (call : CallT) (nl lo : Nat) (a0 a1 a2 : AV) (M : MM) : execC call modeF lo nl cf47.body (endK cf47.res) noE (endK cf47.res) (aF [a0, a1, a2]) M = s47 call nl lo a0 a1 a2 M := by
  have h : execC call modeF lo nl cf47.body (endK cf47.res) noE (endK cf47.res) (aF [a0, a1, a2]) M = (k47_10 call nl lo (aF [a0, a1, a2]) M) := execC_seq call modeF lo nl p47_0 p47_29 (endK cf47.res) noE (endK cf47.res) (aF [a0, a1, a2]) M
  refine h.trans ?_
  unfold s47; simp only [(t47_10 call nl lo)] <;> (show _ = _; kernel_rfl)
theorem q47 {call : CallT} (hc : Lim G call) (lo : Nat) (a0 a1 a2 : AV) (M : MM) : call 47 [a0, a1, a2] lo M = s47 call G.nl lo a0 a1 a2 M :=
  (hc.flow (cf := cf47) rfl w47 [a0, a1, a2] lo M).trans (e47 call G.nl lo a0 a1 a2 M)

/-! ### function 55 -/
theorem w55 : wfK cf55.nt cf55.body = true := by kernel_rfl
def k55_3 (call : CallT) (nl lo : Nat) : Rg → MM → Option (AV × MM) := (execC call modeF lo nl p55_18 (endK cf55.res) noE (endK cf55.res))
abbrev b55_3 (call : CallT) (nl lo : Nat) (x2 x3 : AV) (M : MM) : Option (AV × MM) :=
  opt (fldA 0 2 true x3) fun v1 =>
  opt (setcA 0 2 x2 v1) fun v2 =>
  opt (locA 2 true v2) fun r => some (r, M)
theorem t55_3 (call : CallT) (nl lo : Nat) (ρ : Rg) (M : MM) : k55_3 call nl lo ρ M = b55_3 call nl lo (ρ 2) (ρ 3) M := by
  kernel_rfl
def k55_5 (call : CallT) (nl lo : Nat) (n : Nat) : Rg → MM → Option (AV × MM) := iterC (fun k ρ M => execC call modeF lo nl p55_13 k (fun i ρ M => if i = 0 then (k55_3 call nl lo) ρ M else noE i ρ M) (endK cf55.res) ρ M) n
def b55_5 (call : CallT) (nl lo : Nat) : Nat → AV → AV → AV → AV → AV → MM → Option (AV × MM)
  | 0, _, _, _, _, _, _ => none
  | n + 1, x2, x3, x10, x11, x12, M =>
  opt (binA .lss .none x12 x11) fun v7 =>
  isB v7 fun c8 => if c8 then (opt (ixsA 2 x10 x12) fun v9 =>
  opt (ldnA (lk M) 2 v9) fun v10 =>
  upK M M.nx fun M12 =>
  opt (setcA 0 2 (.agg [.str ⟨⟨[]⟩⟩, .d (.sl [] 0)]) v10) fun v13 =>
  bumpK M12 8 fun M14 =>
  opt (fldA 0 0 true x3) fun v15 =>
  opt (fldA 1 1 false x3) fun v16 =>
  opt (fldA 0 2 true v13) fun v17 =>
  opt (puA call (look M14.mem (.mk M12.nx 8 4 true)) 55 [v17]) fun v18 =>
  opt (wslA 1 (fill [.str ⟨⟨[]⟩⟩, .d (.sl [] 0)] [(0, 2, v18)])) fun v19 =>
  upK M14 (M12.nx + 4) fun M20 =>
  opt (wappA M20.mem (.top M20.nx) 2 40 v16 v19) fun v21 =>
  upK M20 (M12.nx + 5) fun M22 =>
  opt (fldA 0 0 true x3) fun v23 =>
  opt (setcA 1 1 x3 v21) fun v24 =>
  opt (binA .add .none x12 (.i 1)) fun v25 =>
  (b55_5 call nl lo n) x2 v24 x10 x11 v25 M22)
  else (b55_3 call nl lo x2 x3 M)
theorem t55_5 (call : CallT) (nl lo : Nat) : ∀ (n : Nat) (ρ : Rg) (M : MM), k55_5 call nl lo n ρ M = b55_5 call nl lo n (ρ 2) (ρ 3) (ρ 10) (ρ 11) (ρ 12) M
  | 0, ρ, M => rfl
  | n + 1, ρ, M => by
    have h : ∀ (zb z0 : Rg → MM → Option (AV × MM)), execC call modeF lo nl p55_13 zb (fun i ρ M => if i = 0 then z0 ρ M else noE i ρ M) (endK cf55.res) ρ M = (opt (binA .lss .none (ρ 12) (ρ 11)) fun v7 =>
    isB v7 fun c8 => if c8 then (opt (ixsA 2 (ρ 10) (ρ 12)) fun v9 =>
    opt (ldnA (lk M) 2 v9) fun v10 =>
    upK M M.nx fun M12 =>
    opt (setcA 0 2 (.agg [.str ⟨⟨[]⟩⟩, .d (.sl [] 0)]) v10) fun v13 =>
    bumpK M12 8 fun M14 =>
    opt (fldA 0 0 true (ρ 3)) fun v15 =>
    opt (fldA 1 1 false (ρ 3)) fun v16 =>
    opt (fldA 0 2 true v13) fun v17 =>
    opt (puA call (look M14.mem (.mk M12.nx 8 4 true)) 55 [v17]) fun v18 =>
    opt (wslA 1 (fill [.str ⟨⟨[]⟩⟩, .d (.sl [] 0)] [(0, 2, v18)])) fun v19 =>
    upK M14 (M12.nx + 4) fun M20 =>
    opt (wappA M20.mem (.top M20.nx) 2 40 v16 v19) fun v21 =>
    upK M20 (M12.nx + 5) fun M22 =>
    opt (fldA 0 0 true (ρ 3)) fun v23 =>
    opt (setcA 1 1 (ρ 3) v21) fun v24 =>
    opt (binA .add .none (ρ 12) (.i 1)) fun v25 =>
    zb (sF (sF (sF (sF (sF (sF (sF (sF (sF (sF (sF (sF (sF (sF (sF ρ 13 v7) 14 v9) 15 v10) 5 (.agg [.str ⟨⟨[]⟩⟩, .d (.sl [] 0)])) 5 v13) 16 v15) 17 v16) 18 v17) 19 v18) 20 v19) 21 v21) 22 v23) 3 v24) 23 v25) 12 v25) M22)
    else (z0 (sF ρ 13 v7) M)) := by intros; kernel_rfl
    refine (h (k55_5 call nl lo n) (k55_3 call nl lo)).trans ?_
    unfold b55_5; simp only [(t55_3 call nl lo), (t55_5 call nl lo n)] <;> (show _ = _; kernel_rfl)
def k55_4 (call : CallT) (nl lo : Nat) : Rg → MM → Option (AV × MM) := (execC call modeF lo nl p55_16 (k55_3 call nl lo) noE (endK cf55.res))
abbrev b55_4 (call : CallT) (nl lo : Nat) (x1 x2 x3 : AV) (M : MM) : Option (AV × MM) :=
  opt (fldA 0 0 true x1) fun v3 =>
  opt (fldA 1 1 false x1) fun v4 =>
  opt (lenA v4) fun v5 =>
  b55_5 call nl lo nl x2 x3 v4 v5 (.i 0) M
theorem t55_4 (call : CallT) (nl lo : Nat) (ρ : Rg) (M : MM) : k55_4 call nl lo ρ M = b55_4 call nl lo (ρ 1) (ρ 2) (ρ 3) M := by
  have h : k55_4 call nl lo ρ M = (opt (fldA 0 0 true (ρ 1)) fun v3 =>
  opt (fldA 1 1 false (ρ 1)) fun v4 =>
  opt (lenA v4) fun v5 =>
  k55_5 call nl lo nl (sF (sF (sF (sF ρ 9 v3) 10 v4) 11 v5) 12 (.i 0)) M) := by kernel_rfl
  rw [h]
  unfold b55_4; simp only [(t55_5 call nl lo nl)] <;> (show _ = _; kernel_rfl)
def k55_2 (call : CallT) (nl lo : Nat) : Rg → MM → Option (AV × MM) := (execC call modeF lo nl p55_19 (endK cf55.res) noE (endK cf55.res))
abbrev b55_2 (call : CallT) (nl lo : Nat) (x1 x2 x3 : AV) (M : MM) : Option (AV × MM) :=
  b55_4 call nl lo x1 x2 x3 M
theorem t55_2 (call : CallT) (nl lo : Nat) (ρ : Rg) (M : MM) : k55_2 call nl lo ρ M = b55_2 call nl lo (ρ 1) (ρ 2) (ρ 3) M := by
  have h : k55_2 call nl lo ρ M = (k55_4 call nl lo ρ M) := execC_seq call modeF lo nl p55_16 p55_18 (endK cf55.res) noE (endK cf55.res) ρ M
  rw [h]
  unfold b55_2; simp only [(t55_4 call nl lo)] <;> (show _ = _; kernel_rfl)
def k55_6 (call : CallT) (nl lo : Nat) : Rg → MM → Option (AV × MM) := (execC call modeF lo nl p55_2 (k55_2 call nl lo) noE (endK cf55.res))
abbrev b55_6 (call : CallT) (nl lo : Nat) (x1 x2 : AV) (M : MM) : Option (AV × MM) :=
  opt (fldA 0 0 true x1) fun v1 =>
  opt (fldA 0 1 false x1) fun v2 =>
  opt ((fill [.str ⟨⟨[]⟩⟩, .d (.sl [] 0)] [(0, 1, v2)]).map .agg) fun v3 =>
  upK M M.nx fun M5 =>
  opt (setcA 0 2 (.agg [.str ⟨⟨[]⟩⟩, .d (.sl [] 0)]) v3) fun v6 =>
  b55_2 call nl lo x1 x2 v6 M5
theorem t55_6 (call : CallT) (nl lo : Nat) (ρ : Rg) (M : MM) : k55_6 call nl lo ρ M = b55_6 call nl lo (ρ 1) (ρ 2) M := by
  have h : ∀ (z0 : Rg → MM → Option (AV × MM)), (execC call modeF lo nl p55_2 z0 noE (endK cf55.res)) ρ M = (opt (fldA 0 0 true (ρ 1)) fun v1 =>
  opt (fldA 0 1 false (ρ 1)) fun v2 =>
  opt ((fill [.str ⟨⟨[]⟩⟩, .d (.sl [] 0)] [(0, 1, v2)]).map .agg) fun v3 =>
  upK M M.nx fun M5 =>
  opt (setcA 0 2 (.agg [.str ⟨⟨[]⟩⟩, .d (.sl [] 0)]) v3) fun v6 =>
  z0 (sF (sF (sF (sF (sF ρ 6 v1) 7 v2) 8 v3) 3 (.agg [.str ⟨⟨[]⟩⟩, .d (.sl [] 0)])) 3 v6) M5) := by intros; kernel_rfl
  refine (h (k55_2 call nl lo)).trans ?_
  unfold b55_6; simp only [(t55_2 call nl lo)] <;> (show _ = _; kernel_rfl)
def k55_1 (call : CallT) (nl lo : Nat) : Rg → MM → Option (AV × MM) := (execC call modeF lo nl p55_20 (endK cf55.res) noE (endK cf55.res))
abbrev b55_1 (call : CallT) (nl lo : Nat) (x1 x2 : AV) (M : MM) : Option (AV × MM) :=
  b55_6 call nl lo x1 x2 M
theorem t55_1 (call : CallT) (nl lo : Nat) (ρ : Rg) (M : MM) : k55_1 call nl lo ρ M = b55_1 call nl lo (ρ 1) (ρ 2) M := by
  have h : k55_1 call nl lo ρ M = (k55_6 call nl lo ρ M) := execC_seq call modeF lo nl p55_2 p55_19 (endK cf55.res) noE (endK cf55.res) ρ M
  rw [h]
  unfold b55_1; simp only [(t55_6 call nl lo)] <;> (show _ = _; kernel_rfl)
def k55_7 (call : CallT) (nl lo : Nat) : Rg → MM → Option (AV × MM) := (execC call modeF lo nl p55_1 (k55_1 call nl lo) noE (endK cf55.res))
abbrev b55_7 (call : CallT) (nl lo : Nat) (x0 : AV) (M : MM) : Option (AV × MM) :=
  opt (aggA x0) fun v1 =>
  upK M M.nx fun M2 =>
  upK M2 M2.nx fun M4 =>
  b55_1 call nl lo v1 (.agg [.str ⟨⟨[]⟩⟩, .d (.sl [] 0)]) M4
theorem t55_7 (call : CallT) (nl lo : Nat) (ρ : Rg) (M : MM) : k55_7 call nl lo ρ M = b55_7 call nl lo (ρ 0) M := by
  have h : ∀ (z0 : Rg → MM → Option (AV × MM)), (execC call modeF lo nl p55_1 z0 noE (endK cf55.res)) ρ M = (opt (aggA (ρ 0)) fun v1 =>
  upK M M.nx fun M2 =>
  upK M2 M2.nx fun M4 =>
  z0 (sF (sF ρ 1 v1) 2 (.agg [.str ⟨⟨[]⟩⟩, .d (.sl [] 0)])) M4) := by intros; kernel_rfl
  refine (h (k55_1 call nl lo)).trans ?_
  unfold b55_7; simp only [(t55_1 call nl lo)] <;> (show _ = _; kernel_rfl)
def k55_0 (call : CallT) (nl lo : Nat) : Rg → MM → Option (AV × MM) := (execC call modeF lo nl p55_21 (endK cf55.res) noE (endK cf55.res))
abbrev b55_0 (call : CallT) (nl lo : Nat) (x0 : AV) (M : MM) : Option (AV × MM) :=
  b55_7 call nl lo x0 M
theorem t55_0 (call : CallT) (nl lo : Nat) (ρ : Rg) (M : MM) : k55_0 call nl lo ρ M = b55_0 call nl lo (ρ 0) M := by
  have h : k55_0 call nl lo ρ M = (k55_7 call nl lo ρ M) := execC_seq call modeF lo nl p55_1 p55_20 (endK cf55.res) noE (endK cf55.res) ρ M
  rw [h]
  unfold b55_0; simp only [(t55_7 call nl lo)] <;> (show _ = _; kernel_rfl)
def k55_8 (call : CallT) (nl lo : Nat) : Rg → MM → Option (AV × MM) := (execC call modeF lo nl p55_0 (k55_0 call nl lo) noE (endK cf55.res))
abbrev b55_8 (call : CallT) (nl lo : Nat) (x0 : AV) (M : MM) : Option (AV × MM) :=
  b55_0 call nl lo x0 M
theorem t55_8 (call : CallT) (nl lo : Nat) (ρ : Rg) (M : MM) : k55_8 call nl lo ρ M = b55_8 call nl lo (ρ 0) M := by
  have h : ∀ (z0 : Rg → MM → Option (AV × MM)), (execC call modeF lo nl p55_0 z0 noE (endK cf55.res)) ρ M = (z0 (sF (sF (sF (sF ρ 1 (.tup [])) 2 (.tup [])) 3 (.tup [])) 5 (.tup [])) M) := by intros; kernel_rfl
  refine (h (k55_0 call nl lo)).trans ?_
  unfold b55_8; simp only [(t55_0 call nl lo)] <;> (show _ = _; kernel_rfl)
def s55 (call : CallT) (nl lo : Nat) (a0 : AV) (M : MM) : Option (AV × MM) :=
  b55_8 call nl lo a0 M
theorem e55 (call : CallT) (nl lo : Nat) (a0 : AV) (M : MM) : execC call modeF lo nl cf55.body (endK cf55.res) noE (endK cf55.res) (aF [a0]) M = s55 call nl lo a0 M := by
  have h : execC call modeF lo nl cf55.body (endK cf55.res) noE (endK cf55.res) (aF [a0]) M = (k55_8 call nl lo (aF [a0]) M) := execC_seq call modeF lo nl p55_0 p55_21 (endK cf55.res) noE (endK cf55.res) (aF [a0]) M
  refine h.trans ?_
  unfold s55; simp only [(t55_8 call nl lo)] <;> (show _ = _; kernel_rfl)
theorem q55 {call : CallT} (hc : Lim G call) (lo : Nat) (a0 : AV) (M : MM) : call 55 [a0] lo M = s55 call G.nl lo a0 M :=
  (hc.flow (cf := cf55) rfl w55 [a0] lo M).trans (e55 call G.nl lo a0 M)

/-! ### function 70 -/
theorem w70 : wfK cf70.nt cf70.body = true := by kernel_rfl
def s70 (call : CallT) (nl lo : Nat) (a0 a1 : AV) (M : MM) : Option (AV × MM) :=
  opt (puA call (lk M) 85 [a0, a1]) fun v4 =>
  opt (binA .geq .none v4 (.i 0)) fun v5 =>
  some (v5, M)
theorem e70 (call : CallT) (nl lo : Nat) (a0 a1 : AV) (M : MM) : execC call modeF lo nl cf70.body (endK cf70.res) noE (endK cf70.res) (aF [a0, a1]) M = s70 call nl lo a0 a1 M := by
  kernel_rfl
theorem q70 {call : CallT} (hc : Lim G call) (lo : Nat) (a0 a1 : AV) (M : MM) : call 70 [a0, a1] lo M = s70 call G.nl lo a0 a1 M :=
  (hc.flow (cf := cf70) rfl w70 [a0, a1] lo M).trans (e70 call G.nl lo a0 a1 M)

/-! ### function 71 -/
theorem w71 : wfK cf71.nt cf71.body = true := by kernel_rfl
def s71 (call : CallT) (nl lo : Nat) (a0 a1 : AV) (M : MM) : Option (AV × MM) :=
  opt (aggA a0) fun v2 =>
  upK M M.nx fun M3 =>
  opt (fldA 0 0 true v2) fun v5 =>
  opt (fldA 1 1 false v2) fun v6 =>
  opt (lenA v6) fun v7 =>
  opt (binA .gtr .none v7 (.i 0)) fun v8 =>
  isB v8 fun c9 => if c9 then (some ((.i (-1)), M3))
  else (opt (fldA 0 0 true v2) fun v12 =>
  opt (fldA 0 1 false v2) fun v13 =>
  opt (puA call (lk M3) 85 [a1, v13]) fun v14 =>
  some (v14, M3))
theorem e71 (call : CallT) (nl lo : Nat) (a0 a1 : AV) (M : MM) : execC call modeF lo nl cf71.body (endK cf71.res) noE (endK cf71.res) (aF [a0, a1]) M = s71 call nl lo a0 a1 M := by
  kernel_rfl
theorem q71 {call : CallT} (hc : Lim G call) (lo : Nat) (a0 a1 : AV) (M : MM) : call 71 [a0, a1] lo M = s71 call G.nl lo a0 a1 M :=
  (hc.flow (cf := cf71) rfl w71 [a0, a1] lo M).trans (e71 call G.nl lo a0 a1 M)

/-! ### function 85 -/
theorem w85 : wfK cf85.nt cf85.body = true := by kernel_rfl
def k85_2 (call : CallT) (nl lo : Nat) : Rg → MM → Option (AV × MM) := (execC call modeF lo nl p85_21 (endK cf85.res) noE (endK cf85.res))
abbrev b85_2 (call : CallT) (nl lo : Nat) (M : MM) : Option (AV × MM) :=
  some ((.i (-1)), M)
theorem t85_2 (call : CallT) (nl lo : Nat) (ρ : Rg) (M : MM) : k85_2 call nl lo ρ M = b85_2 call nl lo M := by
  kernel_rfl
def k85_4 (call : CallT) (nl lo : Nat) (n : Nat) : Rg → MM → Option (AV × MM) := iterC (fun k ρ M => execC call modeF lo nl p85_16 k (fun i ρ M => if i = 0 then (k85_2 call nl lo) ρ M else noE i ρ M) (endK cf85.res) ρ M) n
def b85_4 (call : CallT) (nl lo : Nat) : Nat → AV → AV → AV → AV → MM → Option (AV × MM)
  | 0, _, _, _, _, _ => none
  | n + 1, x0, x1, x7, x8, M =>
  opt (binA .lss .none x8 x7) fun v5 =>
  isB v5 fun c6 => if c6 then (opt (ixsA 1 x0 x8) fun v12 =>
  opt (ld1A (lk M) v12) fun v13 =>
  opt (binA .eql .none x1 v13) fun v14 =>
  isB v14 fun c15 => if c15 then (some (x8, M))
  else (opt (binA .add .none x8 (.i 1)) fun v18 =>
  (b85_4 call nl lo n) x0 x1 x7 v18 M))
  else (b85_2 call nl lo M)
theorem t85_4 (call : CallT) (nl lo : Nat) : ∀ (n : Nat) (ρ : Rg) (M : MM), k85_4 call nl lo n ρ M = b85_4 call nl lo n (ρ 0) (ρ 1) (ρ 7) (ρ 8) M
  | 0, ρ, M => rfl
  | n + 1, ρ, M => by
    have h : ∀ (zb z0 : Rg → MM → Option (AV × MM)), execC call modeF lo nl p85_16 zb (fun i ρ M => if i = 0 then z0 ρ M else noE i ρ M) (endK cf85.res) ρ M = (opt (binA .lss .none (ρ 8) (ρ 7)) fun v5 =>
    isB v5 fun c6 => if c6 then (opt (ixsA 1 (ρ 0) (ρ 8)) fun v12 =>
    opt (ld1A (lk M) v12) fun v13 =>
    opt (binA .eql .none (ρ 1) v13) fun v14 =>
    isB v14 fun c15 => if c15 then (some ((ρ 8), M))
    else (opt (binA .add .none (ρ 8) (.i 1)) fun v18 =>
    zb (sF (sF (sF (sF (sF (sF (sF (sF (sF (sF (sF ρ 9 v5) 10 (ρ 8)) 5 (ρ 8)) 11 (ρ 1)) 12 (ρ 0)) 13 (ρ 8)) 14 v12) 15 v13) 16 v14) 18 v18) 8 v18) M))
    else (z0 (sF ρ 9 v5) M)) := by intros; kernel_rfl
    refine (h (k85_4 call nl lo n) (k85_2 call nl lo)).trans ?_
    unfold b85_4; simp only [(t85_2 call nl lo), (t85_4 call nl lo n)] <;> (show _ = _; kernel_rfl)
def k85_3 (call : CallT) (nl lo : Nat) : Rg → MM → Option (AV × MM) := (execC call modeF lo nl p85_19 (k85_2 call nl lo) noE (endK cf85.res))
abbrev b85_3 (call : CallT) (nl lo : Nat) (x0 x1 : AV) (M : MM) : Option (AV × MM) :=
  opt (lenA x0) fun v3 =>
  b85_4 call nl lo nl x0 x1 v3 (.i 0) M
theorem t85_3 (call : CallT) (nl lo : Nat) (ρ : Rg) (M : MM) : k85_3 call nl lo ρ M = b85_3 call nl lo (ρ 0) (ρ 1) M := by
  have h : k85_3 call nl lo ρ M = (opt (lenA (ρ 0)) fun v3 =>
  k85_4 call nl lo nl (sF (sF (sF ρ 6 (ρ 0)) 7 v3) 8 (.i 0)) M) := by kernel_rfl
  rw [h]
  unfold b85_3; simp only [(t85_4 call nl lo nl)] <;> (show _ = _; kernel_rfl)
def k85_1 (call : CallT) (nl lo : Nat) : Rg → MM → Option (AV × MM) := (execC call modeF lo nl p85_22 (endK cf85.res) noE (endK cf85.res))
abbrev b85_1 (call : CallT) (nl lo : Nat) (x0 x1 : AV) (M : MM) : Option (AV × MM) :=
  b85_3 call nl lo x0 x1 M
theorem t85_1 (call : CallT) (nl lo : Nat) (ρ : Rg) (M : MM) : k85_1 call nl lo ρ M = b85_1 call nl lo (ρ 0) (ρ 1) M := by
  have h : k85_1 call nl lo ρ M = (k85_3 call nl lo ρ M) := execC_seq call modeF lo nl p85_19 p85_21 (endK cf85.res) noE (endK cf85.res) ρ M
  rw [h]
  unfold b85_1; simp only [(t85_3 call nl lo)] <;> (show _ = _; kernel_rfl)
def k85_5 (call : CallT) (nl lo : Nat) : Rg → MM → Option (AV × MM) := (execC call modeF lo nl p85_1 (k85_1 call nl lo) noE (endK cf85.res))
abbrev b85_5 (call : CallT) (nl lo : Nat) (x0 x1 : AV) (M : MM) : Option (AV × MM) :=
  b85_1 call nl lo x0 x1 M
theorem t85_5 (call : CallT) (nl lo : Nat) (ρ : Rg) (M : MM) : k85_5 call nl lo ρ M = b85_5 call nl lo (ρ 0) (ρ 1) M := by
  have h : ∀ (z0 : Rg → MM → Option (AV × MM)), (execC call modeF lo nl p85_1 z0 noE (endK cf85.res)) ρ M = (z0 (sF ρ 4 (.i 0)) M) := by intros; kernel_rfl
  refine (h (k85_1 call nl lo)).trans ?_
  unfold b85_5; simp only [(t85_1 call nl lo)] <;> (show _ = _; kernel_rfl)
def k85_0 (call : CallT) (nl lo : Nat) : Rg → MM → Option (AV × MM) := (execC call modeF lo nl p85_23 (endK cf85.res) noE (endK cf85.res))
abbrev b85_0 (call : CallT) (nl lo : Nat) (x0 x1 : AV) (M : MM) : Option (AV × MM) :=
  b85_5 call nl lo x0 x1 M
theorem t85_0 (call : CallT) (nl lo : Nat) (ρ : Rg) (M : MM) : k85_0 call nl lo ρ M = b85_0 call nl lo (ρ 0) (ρ 1) M := by
  have h : k85_0 call nl lo ρ M = (k85_5 call nl lo ρ M) := execC_seq call modeF lo nl p85_1 p85_22 (endK cf85.res) noE (endK cf85.res) ρ M
  rw [h]
  unfold b85_0; simp only [(t85_5 call nl lo)] <;> (show _ = _; kernel_rfl)
def k85_6 (call : CallT) (nl lo : Nat) : Rg → MM → Option (AV × MM) := (execC call modeF lo nl p85_0 (k85_0 call nl lo) noE (endK cf85.res))
abbrev b85_6 (call : CallT) (nl lo : Nat) (x0 x1 : AV) (M : MM) : Option (AV × MM) :=
  b85_0 call nl lo x0 x1 M
theorem t85_6 (call : CallT) (nl lo : Nat) (ρ : Rg) (M : MM) : k85_6 call nl lo ρ M = b85_6 call nl lo (ρ 0) (ρ 1) M := by
  have h : ∀ (z0 : Rg → MM → Option (AV × MM)), (execC call modeF lo nl p85_0 z0 noE (endK cf85.res)) ρ M = (z0 ρ M) := by intros; kernel_rfl
  refine (h (k85_0 call nl lo)).trans ?_
  unfold b85_6; simp only [(t85_0 call nl lo)] <;> (show _ = _; kernel_rfl)
def s85 (call : CallT) (nl lo : Nat) (a0 a1 : AV) (M : MM) : Option (AV × MM) :=
  b85_6 call nl lo a0 a1 M
theorem e85 (call : CallT) (nl lo : Nat) (a0 a1 : AV) (M : MM) : execC call modeF lo nl cf85.body (endK cf85.res) noE (endK cf85.res) (aF [a0, a1]) M = s85 call nl lo a0 a1 M := by
  have h : execC call modeF lo nl cf85.body (endK cf85.res) noE (endK cf85.res) (aF [a0, a1]) M = (k85_6 call nl lo (aF [a0, a1]) M) := execC_seq call modeF lo nl p85_0 p85_23 (endK cf85.res) noE (endK cf85.res) (aF [a0, a1]) M
  refine h.trans ?_
  unfold s85; simp only [(t85_6 call nl lo)] <;> (show _ = _; kernel_rfl)
theorem q85 {call : CallT} (hc : Lim G call) (lo : Nat) (a0 a1 : AV) (M : MM) : call 85 [a0, a1] lo M = s85 call G.nl lo a0 a1 M :=
  (hc.flow (cf := cf85) rfl w85 [a0, a1] lo M).trans (e85 call G.nl lo a0 a1 M)
end Go.Proofs.Ytcoagkfjdpdohaa.Sx
