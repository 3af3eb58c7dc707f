/- THE SEAT's FUNCTIONS AS DEFINITIONS WITHOUT REGISTERS, printed by program; 'eq..' holds each against the abstract machine's code. -/
import Derived.Test.YtegkhdflmboljaaGPl
import Derived.Test.YtegkhdflmboljaaSxMPl
namespace Go.Proofs.Ytegkhdflmboljaa.Sx
open Go
set_option maxRecDepth 1000000
set_option linter.unusedVariables false
set_option linter.unusedSimpArgs false
abbrev OR := Option (AV × MM)
set_option maxHeartbeats 4000000

/-! ### function 3 -/
theorem w3 : wfK cf3.nt cf3.body = true := by kernel_rfl
def k3_5 (c : CallT) (nl lo : Nat) : Rg → MM → OR := (execC c modeF lo nl p3_136 (endK cf3.res) noE (endK cf3.res))
@[reducible] def b3_5 (c : CallT) (nl lo : Nat) (M : MM) : OR :=
 opt (puA c (lk M) 5 []) fun v1 =>
 some (v1, M)
theorem t3_5 (c : CallT) (nl lo : Nat) (ρ : Rg) (M : MM) : k3_5 c nl lo ρ M = b3_5 c nl lo M := by
 kernel_rfl
def k3_10 (c : CallT) (nl lo : Nat) (q3_7 : Rg → MM → OR) : Rg → MM → OR := (execC c modeF lo nl p3_128 q3_7 (fun i ρ M => if i = 0 then (k3_5 c nl lo) ρ M else noE i ρ M) (endK cf3.res))
@[reducible] def b3_10 (c : CallT) (nl lo : Nat) (j3_7 : AV → AV → AV → AV → AV → MM → OR) (x3 x4 x42 x43 x44 : AV) (M : MM) : OR :=
 opt (binA .add .none x44 (.i 1)) fun v6 =>
 j3_7 x3 x4 x42 x43 v6 M
theorem t3_10 (c : CallT) (nl lo : Nat) (q3_7 : Rg → MM → OR) (j3_7 : AV → AV → AV → AV → AV → MM → OR) (h3_7 : ∀ (ρ : Rg) (M : MM), q3_7 ρ M = j3_7 (ρ 3) (ρ 4) (ρ 42) (ρ 43) (ρ 44) M) (ρ : Rg) (M : MM) : k3_10 c nl lo q3_7 ρ M = b3_10 c nl lo j3_7 (ρ 3) (ρ 4) (ρ 42) (ρ 43) (ρ 44) M := by
 have h : k3_10 c nl lo q3_7 ρ M = (opt (binA .add .none (ρ 44) (.i 1)) fun v6 =>
 q3_7 (sF (sF ρ 257 v6) 44 v6) M) := by kernel_rfl
 rw [h]
 unfold b3_10; simp only [h3_7] <;> (show _ = _; kernel_rfl)
def k3_14 (c : CallT) (nl lo : Nat) (q3_7 : Rg → MM → OR) : Rg → MM → OR := (execC c modeF lo nl p3_123 (k3_10 c nl lo q3_7) (fun i ρ M => if i = 1 then (k3_10 c nl lo q3_7) ρ M else (fun i ρ M => if i = 0 then (k3_5 c nl lo) ρ M else noE i ρ M) i ρ M) (endK cf3.res))
@[reducible] def b3_14 (c : CallT) (nl lo : Nat) (j3_7 : AV → AV → AV → AV → AV → MM → OR) (x3 x4 x42 x43 x44 : AV) (M : MM) : OR :=
 opt (roA c (.top M.nx) 27 [x3] M) fun v9 =>
 opt (roA c (.top M.nx) 28 [x4] M) fun v11 =>
 opt (binA .neq .none v9 v11) fun v12 =>
 isB v12 fun c13 => if c13 then (some ((.bool false), M))
 else (b3_10 c nl lo j3_7 x3 x4 x42 x43 x44 M)
theorem t3_14 (c : CallT) (nl lo : Nat) (q3_7 : Rg → MM → OR) (j3_7 : AV → AV → AV → AV → AV → MM → OR) (h3_7 : ∀ (ρ : Rg) (M : MM), q3_7 ρ M = j3_7 (ρ 3) (ρ 4) (ρ 42) (ρ 43) (ρ 44) M) (ρ : Rg) (M : MM) : k3_14 c nl lo q3_7 ρ M = b3_14 c nl lo j3_7 (ρ 3) (ρ 4) (ρ 42) (ρ 43) (ρ 44) M := by
 have h : ∀ (z0 : Rg → MM → OR), (execC c modeF lo nl p3_123 z0 (fun i ρ M => if i = 1 then z0 ρ M else (fun i ρ M => if i = 0 then (k3_5 c nl lo) ρ M else noE i ρ M) i ρ M) (endK cf3.res)) ρ M = (opt (roA c (.top M.nx) 27 [(ρ 3)] M) fun v9 =>
 opt (roA c (.top M.nx) 28 [(ρ 4)] M) fun v11 =>
 opt (binA .neq .none v9 v11) fun v12 =>
 isB v12 fun c13 => if c13 then (some ((.bool false), M))
 else (z0 (sF (sF (sF (sF (sF ρ 252 (ρ 3)) 253 v9) 254 (ρ 4)) 255 v11) 256 v12) M)) := by intros; kernel_rfl
 refine (h (k3_10 c nl lo q3_7)).trans ?_
 unfold b3_14; simp only [(t3_10 c nl lo q3_7 j3_7 h3_7), h3_7] <;> (show _ = _; kernel_rfl)
def k3_25 (c : CallT) (nl lo : Nat) (q3_7 : Rg → MM → OR) : Rg → MM → OR := (execC c modeF lo nl p3_100 (k3_14 c nl lo q3_7) (fun i ρ M => if i = 2 then (k3_14 c nl lo q3_7) ρ M else (fun i ρ M => if i = 1 then (k3_10 c nl lo q3_7) ρ M else (fun i ρ M => if i = 0 then (k3_5 c nl lo) ρ M else noE i ρ M) i ρ M) i ρ M) (endK cf3.res))
@[reducible] def b3_25 (c : CallT) (nl lo : Nat) (j3_7 : AV → AV → AV → AV → AV → MM → OR) (x3 x4 x28 x29 x42 x43 x44 : AV) (M : MM) : OR :=
 bnd (c 25 [x3, x28, x29] lo M) fun v223 M224 =>
 opt (extA 0 v223) fun v226 =>
 opt (extA 1 v223) fun v227 =>
 bnd (c 26 [x4, x28, x29] lo M224) fun v233 M234 =>
 opt (extA 0 v233) fun v236 =>
 opt (extA 1 v233) fun v237 =>
 opt (binA .neq .none v227 v237) fun v242 =>
 opt (gdp v242 false (some v226)) fun v244 =>
 opt (gdp v242 false (some v236)) fun v245 =>
 opt (gdp v242 false (binA .neq .none v244 v245)) fun v246 =>
 opt (pickA v242 (.bool true) v246) fun v247 =>
 isB v247 fun c248 => if c248 then (some ((.bool false), M234))
 else (b3_14 c nl lo j3_7 x3 x4 x42 x43 x44 M234)
theorem t3_25 (c : CallT) (nl lo : Nat) (q3_7 : Rg → MM → OR) (j3_7 : AV → AV → AV → AV → AV → MM → OR) (h3_7 : ∀ (ρ : Rg) (M : MM), q3_7 ρ M = j3_7 (ρ 3) (ρ 4) (ρ 42) (ρ 43) (ρ 44) M) (ρ : Rg) (M : MM) : k3_25 c nl lo q3_7 ρ M = b3_25 c nl lo j3_7 (ρ 3) (ρ 4) (ρ 28) (ρ 29) (ρ 42) (ρ 43) (ρ 44) M := by
 have h : ∀ (z0 : Rg → MM → OR), (execC c modeF lo nl p3_100 z0 (fun i ρ M => if i = 2 then z0 ρ M else (fun i ρ M => if i = 1 then (k3_10 c nl lo q3_7) ρ M else (fun i ρ M => if i = 0 then (k3_5 c nl lo) ρ M else noE i ρ M) i ρ M) i ρ M) (endK cf3.res)) ρ M = (bnd (c 25 [(ρ 3), (ρ 28), (ρ 29)] lo M) fun v223 M224 =>
 opt (extA 0 v223) fun v226 =>
 opt (extA 1 v223) fun v227 =>
 bnd (c 26 [(ρ 4), (ρ 28), (ρ 29)] lo M224) fun v233 M234 =>
 opt (extA 0 v233) fun v236 =>
 opt (extA 1 v233) fun v237 =>
 opt (binA .neq .none v227 v237) fun v242 =>
 opt (gdp v242 false (some v226)) fun v244 =>
 opt (gdp v242 false (some v236)) fun v245 =>
 opt (gdp v242 false (binA .neq .none v244 v245)) fun v246 =>
 opt (pickA v242 (.bool true) v246) fun v247 =>
 isB v247 fun c248 => if c248 then (some ((.bool false), M234))
 else (z0 (sF (sF (sF (sF (sF (sF (sF (sF (sF (sF (sF (sF (sF (sF (sF (sF (sF (sF (sF (sF (sF (sF (sF (sF (sF (sF ρ 62 (ρ 3)) 63 (ρ 28)) 64 (ρ 29)) 65 v223) 61 v223) 66 v226) 67 v227) 30 v226) 31 v227) 69 (ρ 4)) 70 (ρ 28)) 71 (ρ 29)) 72 v233) 68 v233) 73 v236) 74 v237) 32 v236) 33 v237) 75 v227) 76 v237) 77 v242) 78 v242) 79 v244) 80 v245) 81 v246) 82 v247) M234)) := by intros; kernel_rfl
 refine (h (k3_14 c nl lo q3_7)).trans ?_
 unfold b3_25; simp only [(t3_14 c nl lo q3_7 j3_7 h3_7), h3_7] <;> (show _ = _; kernel_rfl)
def k3_26 (c : CallT) (nl lo : Nat) (q3_7 : Rg → MM → OR) : Rg → MM → OR := (execC c modeF lo nl p3_91 (k3_25 c nl lo q3_7) (fun i ρ M => if i = 2 then (k3_14 c nl lo q3_7) ρ M else (fun i ρ M => if i = 1 then (k3_10 c nl lo q3_7) ρ M else (fun i ρ M => if i = 0 then (k3_5 c nl lo) ρ M else noE i ρ M) i ρ M) i ρ M) (endK cf3.res))
@[reducible] def b3_26 (c : CallT) (nl lo : Nat) (j3_7 : AV → AV → AV → AV → AV → MM → OR) (x3 x4 x28 x29 x42 x43 x44 : AV) (M : MM) : OR :=
 opt (binA .gtr .none x28 (.i 4096)) fun v251 =>
 isB v251 fun c252 => if c252 then (b3_25 c nl lo j3_7 x3 x4 (.i 4194305) x29 x42 x43 x44 M)
 else (b3_25 c nl lo j3_7 x3 x4 x28 x29 x42 x43 x44 M)
theorem t3_26 (c : CallT) (nl lo : Nat) (q3_7 : Rg → MM → OR) (j3_7 : AV → AV → AV → AV → AV → MM → OR) (h3_7 : ∀ (ρ : Rg) (M : MM), q3_7 ρ M = j3_7 (ρ 3) (ρ 4) (ρ 42) (ρ 43) (ρ 44) M) (ρ : Rg) (M : MM) : k3_26 c nl lo q3_7 ρ M = b3_26 c nl lo j3_7 (ρ 3) (ρ 4) (ρ 28) (ρ 29) (ρ 42) (ρ 43) (ρ 44) M := by
 have h : ∀ (z0 : Rg → MM → OR), (execC c modeF lo nl p3_91 z0 (fun i ρ M => if i = 2 then (k3_14 c nl lo q3_7) ρ M else (fun i ρ M => if i = 1 then (k3_10 c nl lo q3_7) ρ M else (fun i ρ M => if i = 0 then (k3_5 c nl lo) ρ M else noE i ρ M) i ρ M) i ρ M) (endK cf3.res)) ρ M = (opt (binA .gtr .none (ρ 28) (.i 4096)) fun v251 =>
 isB v251 fun c252 => if c252 then (z0 (sF (sF (sF ρ 59 (ρ 28)) 60 v251) 28 (.i 4194305)) M)
 else (z0 (sF (sF ρ 59 (ρ 28)) 60 v251) M)) := by intros; kernel_rfl
 refine (h (k3_25 c nl lo q3_7)).trans ?_
 unfold b3_26; simp only [(t3_25 c nl lo q3_7 j3_7 h3_7), h3_7] <;> (show _ = _; kernel_rfl)
def k3_24 (c : CallT) (nl lo : Nat) (q3_7 : Rg → MM → OR) : Rg → MM → OR := (execC c modeF lo nl p3_101 (k3_14 c nl lo q3_7) (fun i ρ M => if i = 2 then (k3_14 c nl lo q3_7) ρ M else (fun i ρ M => if i = 1 then (k3_10 c nl lo q3_7) ρ M else (fun i ρ M => if i = 0 then (k3_5 c nl lo) ρ M else noE i ρ M) i ρ M) i ρ M) (endK cf3.res))
@[reducible] def b3_24 (c : CallT) (nl lo : Nat) (j3_7 : AV → AV → AV → AV → AV → MM → OR) (x3 x4 x28 x29 x42 x43 x44 : AV) (M : MM) : OR :=
 b3_26 c nl lo j3_7 x3 x4 x28 x29 x42 x43 x44 M
theorem t3_24 (c : CallT) (nl lo : Nat) (q3_7 : Rg → MM → OR) (j3_7 : AV → AV → AV → AV → AV → MM → OR) (h3_7 : ∀ (ρ : Rg) (M : MM), q3_7 ρ M = j3_7 (ρ 3) (ρ 4) (ρ 42) (ρ 43) (ρ 44) M) (ρ : Rg) (M : MM) : k3_24 c nl lo q3_7 ρ M = b3_24 c nl lo j3_7 (ρ 3) (ρ 4) (ρ 28) (ρ 29) (ρ 42) (ρ 43) (ρ 44) M := by
 have h : k3_24 c nl lo q3_7 ρ M = (k3_26 c nl lo q3_7 ρ M) := execC_seq c modeF lo nl p3_91 p3_100 (k3_14 c nl lo q3_7) (fun i ρ M => if i = 2 then (k3_14 c nl lo q3_7) ρ M else (fun i ρ M => if i = 1 then (k3_10 c nl lo q3_7) ρ M else (fun i ρ M => if i = 0 then (k3_5 c nl lo) ρ M else noE i ρ M) i ρ M) i ρ M) (endK cf3.res) ρ M
 rw [h]
 unfold b3_24; simp only [(t3_26 c nl lo q3_7 j3_7 h3_7), h3_7] <;> (show _ = _; kernel_rfl)
def k3_27 (c : CallT) (nl lo : Nat) (q3_7 : Rg → MM → OR) : Rg → MM → OR := (execC c modeF lo nl p3_87 (k3_24 c nl lo q3_7) (fun i ρ M => if i = 2 then (k3_14 c nl lo q3_7) ρ M else (fun i ρ M => if i = 1 then (k3_10 c nl lo q3_7) ρ M else (fun i ρ M => if i = 0 then (k3_5 c nl lo) ρ M else noE i ρ M) i ρ M) i ρ M) (endK cf3.res))
@[reducible] def b3_27 (c : CallT) (nl lo : Nat) (j3_7 : AV → AV → AV → AV → AV → MM → OR) (x3 x4 x6 x42 x43 x44 : AV) (M : MM) : OR :=
 bumpK M 8 fun M220 =>
 opt (fldA 0 0 true x6) fun v221 =>
 opt (fldA 2 1 false x6) fun v222 =>
 opt (puA c (look M220.mem (.mk M.nx 8 3 true)) 10 [v222]) fun v223 =>
 opt (fldA 0 0 true x6) fun v224 =>
 opt (fldA 3 1 false x6) fun v225 =>
 opt (puA c (look M220.mem (.mk M.nx 8 31 true)) 10 [v225]) fun v226 =>
 b3_24 c nl lo j3_7 x3 x4 v223 v226 x42 x43 x44 M220
theorem t3_27 (c : CallT) (nl lo : Nat) (q3_7 : Rg → MM → OR) (j3_7 : AV → AV → AV → AV → AV → MM → OR) (h3_7 : ∀ (ρ : Rg) (M : MM), q3_7 ρ M = j3_7 (ρ 3) (ρ 4) (ρ 42) (ρ 43) (ρ 44) M) (ρ : Rg) (M : MM) : k3_27 c nl lo q3_7 ρ M = b3_27 c nl lo j3_7 (ρ 3) (ρ 4) (ρ 6) (ρ 42) (ρ 43) (ρ 44) M := by
 have h : ∀ (z0 : Rg → MM → OR), (execC c modeF lo nl p3_87 z0 (fun i ρ M => if i = 2 then (k3_14 c nl lo q3_7) ρ M else (fun i ρ M => if i = 1 then (k3_10 c nl lo q3_7) ρ M else (fun i ρ M => if i = 0 then (k3_5 c nl lo) ρ M else noE i ρ M) i ρ M) i ρ M) (endK cf3.res)) ρ M = (bumpK M 8 fun M220 =>
 opt (fldA 0 0 true (ρ 6)) fun v221 =>
 opt (fldA 2 1 false (ρ 6)) fun v222 =>
 opt (puA c (look M220.mem (.mk M.nx 8 3 true)) 10 [v222]) fun v223 =>
 opt (fldA 0 0 true (ρ 6)) fun v224 =>
 opt (fldA 3 1 false (ρ 6)) fun v225 =>
 opt (puA c (look M220.mem (.mk M.nx 8 31 true)) 10 [v225]) fun v226 =>
 z0 (sF (sF (sF (sF (sF (sF (sF (sF ρ 53 v221) 54 v222) 55 v223) 56 v224) 57 v225) 58 v226) 28 v223) 29 v226) M220) := by intros; kernel_rfl
 refine (h (k3_24 c nl lo q3_7)).trans ?_
 unfold b3_27; simp only [(t3_24 c nl lo q3_7 j3_7 h3_7), h3_7] <;> (show _ = _; kernel_rfl)
def k3_23 (c : CallT) (nl lo : Nat) (q3_7 : Rg → MM → OR) : Rg → MM → OR := (execC c modeF lo nl p3_103 (k3_14 c nl lo q3_7) (fun i ρ M => if i = 2 then (k3_14 c nl lo q3_7) ρ M else (fun i ρ M => if i = 1 then (k3_10 c nl lo q3_7) ρ M else (fun i ρ M => if i = 0 then (k3_5 c nl lo) ρ M else noE i ρ M) i ρ M) i ρ M) (endK cf3.res))
@[reducible] def b3_23 (c : CallT) (nl lo : Nat) (j3_7 : AV → AV → AV → AV → AV → MM → OR) (x3 x4 x6 x7 x42 x43 x44 x235 : AV) (M : MM) : OR :=
 isB x235 fun c196 => if c196 then (bnd (c 24 [x3] lo M) fun v200 M201 =>
 opt (binA .eql .ptr v200 .nil) fun v204 =>
 isB v204 fun c205 => if c205 then (some ((.bool false), M201))
 else (bnd (c 25 [x3, (.i 3), (.i 3)] lo M201) fun v208 M209 =>
 bnd (istep c modeF false lo (.top M209.nx) M209.nx (.vsl 5 2 1 [.int .u8 0, .int .u8 0] [(0, 1, .k (.int .u8 9)), (1, 1, .k (.int .u8 9))]) [] M209) fun v212 M213 =>
 bnd (c 9 [x3, x7, (.i 0), v212] lo M213) fun v214 M215 =>
 bnd (c 14 [x3, x7] lo M215) fun v218 M219 =>
 b3_14 c nl lo j3_7 v200 x4 x42 x43 x44 M219))
 else (b3_27 c nl lo j3_7 x3 x4 x6 x42 x43 x44 M)
theorem t3_23 (c : CallT) (nl lo : Nat) (q3_7 : Rg → MM → OR) (j3_7 : AV → AV → AV → AV → AV → MM → OR) (h3_7 : ∀ (ρ : Rg) (M : MM), q3_7 ρ M = j3_7 (ρ 3) (ρ 4) (ρ 42) (ρ 43) (ρ 44) M) (ρ : Rg) (M : MM) : k3_23 c nl lo q3_7 ρ M = b3_23 c nl lo j3_7 (ρ 3) (ρ 4) (ρ 6) (ρ 7) (ρ 42) (ρ 43) (ρ 44) (ρ 235) M := by
 have h : k3_23 c nl lo q3_7 ρ M = (isB (ρ 235) fun c196 => if c196 then (bnd (c 24 [(ρ 3)] lo M) fun v200 M201 =>
 opt (binA .eql .ptr v200 .nil) fun v204 =>
 isB v204 fun c205 => if c205 then (some ((.bool false), M201))
 else (bnd (c 25 [(ρ 3), (.i 3), (.i 3)] lo M201) fun v208 M209 =>
 bnd (istep c modeF false lo (.top M209.nx) M209.nx (.vsl 5 2 1 [.int .u8 0, .int .u8 0] [(0, 1, .k (.int .u8 9)), (1, 1, .k (.int .u8 9))]) [] M209) fun v212 M213 =>
 bnd (c 9 [(ρ 3), (ρ 7), (.i 0), v212] lo M213) fun v214 M215 =>
 bnd (c 14 [(ρ 3), (ρ 7)] lo M215) fun v218 M219 =>
 k3_14 c nl lo q3_7 (sF (sF (sF (sF (sF (sF (sF (sF (sF (sF (sF (sF (sF (sF (sF (sF ρ 238 (ρ 3)) 27 (ρ 3)) 239 (ρ 3)) 240 v200) 3 v200) 241 v200) 242 v204) 243 (ρ 3)) 244 v208) 245 (ρ 3)) 246 (ρ 7)) 247 v212) 248 v214) 249 (ρ 3)) 250 (ρ 7)) 251 v218) M219))
 else (k3_27 c nl lo q3_7 ρ M)) := by kernel_rfl
 rw [h]
 unfold b3_23; simp only [(t3_14 c nl lo q3_7 j3_7 h3_7), (t3_27 c nl lo q3_7 j3_7 h3_7), h3_7] <;> (show _ = _; kernel_rfl)
def k3_28 (c : CallT) (nl lo : Nat) (q3_7 : Rg → MM → OR) : Rg → MM → OR := (execC c modeF lo nl p3_71 (k3_23 c nl lo q3_7) (fun i ρ M => if i = 2 then (k3_14 c nl lo q3_7) ρ M else (fun i ρ M => if i = 1 then (k3_10 c nl lo q3_7) ρ M else (fun i ρ M => if i = 0 then (k3_5 c nl lo) ρ M else noE i ρ M) i ρ M) i ρ M) (endK cf3.res))
@[reducible] def b3_28 (c : CallT) (nl lo : Nat) (j3_7 : AV → AV → AV → AV → AV → MM → OR) (x3 x4 x6 x7 x8 x42 x43 x44 : AV) (M : MM) : OR :=
 opt (binA .eql .none x8 (.i 7)) fun v221 =>
 b3_23 c nl lo j3_7 x3 x4 x6 x7 x42 x43 x44 v221 M
theorem t3_28 (c : CallT) (nl lo : Nat) (q3_7 : Rg → MM → OR) (j3_7 : AV → AV → AV → AV → AV → MM → OR) (h3_7 : ∀ (ρ : Rg) (M : MM), q3_7 ρ M = j3_7 (ρ 3) (ρ 4) (ρ 42) (ρ 43) (ρ 44) M) (ρ : Rg) (M : MM) : k3_28 c nl lo q3_7 ρ M = b3_28 c nl lo j3_7 (ρ 3) (ρ 4) (ρ 6) (ρ 7) (ρ 8) (ρ 42) (ρ 43) (ρ 44) M := by
 have h : ∀ (z0 : Rg → MM → OR), (execC c modeF lo nl p3_71 z0 (fun i ρ M => if i = 2 then (k3_14 c nl lo q3_7) ρ M else (fun i ρ M => if i = 1 then (k3_10 c nl lo q3_7) ρ M else (fun i ρ M => if i = 0 then (k3_5 c nl lo) ρ M else noE i ρ M) i ρ M) i ρ M) (endK cf3.res)) ρ M = (opt (binA .eql .none (ρ 8) (.i 7)) fun v221 =>
 z0 (sF (sF (sF ρ 236 (ρ 8)) 237 v221) 235 v221) M) := by intros; kernel_rfl
 refine (h (k3_23 c nl lo q3_7)).trans ?_
 unfold b3_28; simp only [(t3_23 c nl lo q3_7 j3_7 h3_7), h3_7] <;> (show _ = _; kernel_rfl)
def k3_22 (c : CallT) (nl lo : Nat) (q3_7 : Rg → MM → OR) : Rg → MM → OR := (execC c modeF lo nl p3_105 (k3_14 c nl lo q3_7) (fun i ρ M => if i = 2 then (k3_14 c nl lo q3_7) ρ M else (fun i ρ M => if i = 1 then (k3_10 c nl lo q3_7) ρ M else (fun i ρ M => if i = 0 then (k3_5 c nl lo) ρ M else noE i ρ M) i ρ M) i ρ M) (endK cf3.res))
@[reducible] def b3_22 (c : CallT) (nl lo : Nat) (j3_7 : AV → AV → AV → AV → AV → MM → OR) (x3 x4 x6 x7 x8 x42 x43 x44 x183 : AV) (M : MM) : OR :=
 isB x183 fun c134 => if c134 then (opt (roA c (.top M.nx) 20 [x3, x7] M) fun v137 =>
 opt (extA 0 v137) fun v139 =>
 opt (extA 1 v137) fun v140 =>
 opt (extA 2 v137) fun v141 =>
 opt (roA c (.top M.nx) 21 [x4, x7] M) fun v147 =>
 opt (extA 0 v147) fun v149 =>
 opt (extA 1 v147) fun v150 =>
 opt (extA 2 v147) fun v151 =>
 opt (roA c (.top M.nx) 22 [x3, x7] M) fun v157 =>
 opt (extA 0 v157) fun v159 =>
 opt (extA 1 v157) fun v160 =>
 opt (roA c (.top M.nx) 23 [x4, x7] M) fun v165 =>
 opt (extA 0 v165) fun v167 =>
 opt (extA 1 v165) fun v168 =>
 opt (binA .neq .none v141 v151) fun v173 =>
 opt (gdp v173 false (some v160)) fun v175 =>
 opt (gdp v173 false (some v168)) fun v176 =>
 opt (gdp v173 false (binA .neq .none v175 v176)) fun v177 =>
 opt (pickA v173 (.bool true) v177) fun v178 =>
 opt (gdp v178 false (some v139)) fun v180 =>
 opt (gdp v178 false (some v149)) fun v181 =>
 opt (gdp v178 false (binA .neq .none v180 v181)) fun v182 =>
 opt (pickA v178 (.bool true) v182) fun v183 =>
 opt (gdp v183 false (some v140)) fun v185 =>
 opt (gdp v183 false (some v150)) fun v186 =>
 opt (gdp v183 false (binA .neq .none v185 v186)) fun v187 =>
 opt (pickA v183 (.bool true) v187) fun v188 =>
 opt (gdp v188 false (some v159)) fun v190 =>
 opt (gdp v188 false (some v167)) fun v191 =>
 opt (gdp v188 false (binA .neq .none v190 v191)) fun v192 =>
 opt (pickA v188 (.bool true) v192) fun v193 =>
 isB v193 fun c194 => if c194 then (some ((.bool false), M))
 else (b3_14 c nl lo j3_7 x3 x4 x42 x43 x44 M))
 else (b3_28 c nl lo j3_7 x3 x4 x6 x7 x8 x42 x43 x44 M)
theorem t3_22 (c : CallT) (nl lo : Nat) (q3_7 : Rg → MM → OR) (j3_7 : AV → AV → AV → AV → AV → MM → OR) (h3_7 : ∀ (ρ : Rg) (M : MM), q3_7 ρ M = j3_7 (ρ 3) (ρ 4) (ρ 42) (ρ 43) (ρ 44) M) (ρ : Rg) (M : MM) : k3_22 c nl lo q3_7 ρ M = b3_22 c nl lo j3_7 (ρ 3) (ρ 4) (ρ 6) (ρ 7) (ρ 8) (ρ 42) (ρ 43) (ρ 44) (ρ 183) M := by
 have h : k3_22 c nl lo q3_7 ρ M = (isB (ρ 183) fun c134 => if c134 then (opt (roA c (.top M.nx) 20 [(ρ 3), (ρ 7)] M) fun v137 =>
 opt (extA 0 v137) fun v139 =>
 opt (extA 1 v137) fun v140 =>
 opt (extA 2 v137) fun v141 =>
 opt (roA c (.top M.nx) 21 [(ρ 4), (ρ 7)] M) fun v147 =>
 opt (extA 0 v147) fun v149 =>
 opt (extA 1 v147) fun v150 =>
 opt (extA 2 v147) fun v151 =>
 opt (roA c (.top M.nx) 22 [(ρ 3), (ρ 7)] M) fun v157 =>
 opt (extA 0 v157) fun v159 =>
 opt (extA 1 v157) fun v160 =>
 opt (roA c (.top M.nx) 23 [(ρ 4), (ρ 7)] M) fun v165 =>
 opt (extA 0 v165) fun v167 =>
 opt (extA 1 v165) fun v168 =>
 opt (binA .neq .none v141 v151) fun v173 =>
 opt (gdp v173 false (some v160)) fun v175 =>
 opt (gdp v173 false (some v168)) fun v176 =>
 opt (gdp v173 false (binA .neq .none v175 v176)) fun v177 =>
 opt (pickA v173 (.bool true) v177) fun v178 =>
 opt (gdp v178 false (some v139)) fun v180 =>
 opt (gdp v178 false (some v149)) fun v181 =>
 opt (gdp v178 false (binA .neq .none v180 v181)) fun v182 =>
 opt (pickA v178 (.bool true) v182) fun v183 =>
 opt (gdp v183 false (some v140)) fun v185 =>
 opt (gdp v183 false (some v150)) fun v186 =>
 opt (gdp v183 false (binA .neq .none v185 v186)) fun v187 =>
 opt (pickA v183 (.bool true) v187) fun v188 =>
 opt (gdp v188 false (some v159)) fun v190 =>
 opt (gdp v188 false (some v167)) fun v191 =>
 opt (gdp v188 false (binA .neq .none v190 v191)) fun v192 =>
 opt (pickA v188 (.bool true) v192) fun v193 =>
 isB v193 fun c194 => if c194 then (some ((.bool false), M))
 else (k3_14 c nl lo q3_7 (sF (sF (sF (sF (sF (sF (sF (sF (sF (sF (sF (sF (sF (sF (sF (sF (sF (sF (sF (sF (sF (sF (sF (sF (sF (sF (sF (sF (sF (sF (sF (sF (sF (sF (sF (sF (sF (sF (sF (sF (sF (sF (sF (sF (sF (sF (sF (sF (sF (sF (sF (sF (sF (sF (sF (sF (sF (sF (sF ρ 187 (ρ 3)) 188 (ρ 7)) 189 v137) 186 v137) 190 v139) 191 v140) 192 v141) 17 v139) 18 v140) 19 v141) 194 (ρ 4)) 195 (ρ 7)) 196 v147) 193 v147) 197 v149) 198 v150) 199 v151) 20 v149) 21 v150) 22 v151) 201 (ρ 3)) 202 (ρ 7)) 203 v157) 200 v157) 204 v159) 205 v160) 23 v159) 24 v160) 207 (ρ 4)) 208 (ρ 7)) 209 v165) 206 v165) 210 v167) 211 v168) 25 v167) 26 v168) 212 v141) 213 v151) 214 v173) 215 v173) 216 v175) 217 v176) 218 v177) 219 v178) 220 v178) 221 v180) 222 v181) 223 v182) 224 v183) 225 v183) 226 v185) 227 v186) 228 v187) 229 v188) 230 v188) 231 v190) 232 v191) 233 v192) 234 v193) M))
 else (k3_28 c nl lo q3_7 ρ M)) := by kernel_rfl
 rw [h]
 unfold b3_22; simp only [(t3_14 c nl lo q3_7 j3_7 h3_7), (t3_28 c nl lo q3_7 j3_7 h3_7), h3_7] <;> (show _ = _; kernel_rfl)
def k3_29 (c : CallT) (nl lo : Nat) (q3_7 : Rg → MM → OR) : Rg → MM → OR := (execC c modeF lo nl p3_57 (k3_22 c nl lo q3_7) (fun i ρ M => if i = 2 then (k3_14 c nl lo q3_7) ρ M else (fun i ρ M => if i = 1 then (k3_10 c nl lo q3_7) ρ M else (fun i ρ M => if i = 0 then (k3_5 c nl lo) ρ M else noE i ρ M) i ρ M) i ρ M) (endK cf3.res))
@[reducible] def b3_29 (c : CallT) (nl lo : Nat) (j3_7 : AV → AV → AV → AV → AV → MM → OR) (x3 x4 x6 x7 x8 x42 x43 x44 : AV) (M : MM) : OR :=
 opt (binA .eql .none x8 (.i 6)) fun v197 =>
 b3_22 c nl lo j3_7 x3 x4 x6 x7 x8 x42 x43 x44 v197 M
theorem t3_29 (c : CallT) (nl lo : Nat) (q3_7 : Rg → MM → OR) (j3_7 : AV → AV → AV → AV → AV → MM → OR) (h3_7 : ∀ (ρ : Rg) (M : MM), q3_7 ρ M = j3_7 (ρ 3) (ρ 4) (ρ 42) (ρ 43) (ρ 44) M) (ρ : Rg) (M : MM) : k3_29 c nl lo q3_7 ρ M = b3_29 c nl lo j3_7 (ρ 3) (ρ 4) (ρ 6) (ρ 7) (ρ 8) (ρ 42) (ρ 43) (ρ 44) M := by
 have h : ∀ (z0 : Rg → MM → OR), (execC c modeF lo nl p3_57 z0 (fun i ρ M => if i = 2 then (k3_14 c nl lo q3_7) ρ M else (fun i ρ M => if i = 1 then (k3_10 c nl lo q3_7) ρ M else (fun i ρ M => if i = 0 then (k3_5 c nl lo) ρ M else noE i ρ M) i ρ M) i ρ M) (endK cf3.res)) ρ M = (opt (binA .eql .none (ρ 8) (.i 6)) fun v197 =>
 z0 (sF (sF (sF ρ 184 (ρ 8)) 185 v197) 183 v197) M) := by intros; kernel_rfl
 refine (h (k3_22 c nl lo q3_7)).trans ?_
 unfold b3_29; simp only [(t3_22 c nl lo q3_7 j3_7 h3_7), h3_7] <;> (show _ = _; kernel_rfl)
def k3_21 (c : CallT) (nl lo : Nat) (q3_7 : Rg → MM → OR) : Rg → MM → OR := (execC c modeF lo nl p3_107 (k3_14 c nl lo q3_7) (fun i ρ M => if i = 2 then (k3_14 c nl lo q3_7) ρ M else (fun i ρ M => if i = 1 then (k3_10 c nl lo q3_7) ρ M else (fun i ρ M => if i = 0 then (k3_5 c nl lo) ρ M else noE i ρ M) i ρ M) i ρ M) (endK cf3.res))
@[reducible] def b3_21 (c : CallT) (nl lo : Nat) (j3_7 : AV → AV → AV → AV → AV → MM → OR) (x3 x4 x6 x7 x8 x42 x43 x44 x173 : AV) (M : MM) : OR :=
 isB x173 fun c122 => if c122 then (bnd (c 18 [x3, x7] lo M) fun v125 M126 =>
 bnd (c 19 [x4, x7] lo M126) fun v129 M130 =>
 opt (binA .neq .none v125 v129) fun v131 =>
 isB v131 fun c132 => if c132 then (some ((.bool false), M130))
 else (b3_14 c nl lo j3_7 x3 x4 x42 x43 x44 M130))
 else (b3_29 c nl lo j3_7 x3 x4 x6 x7 x8 x42 x43 x44 M)
theorem t3_21 (c : CallT) (nl lo : Nat) (q3_7 : Rg → MM → OR) (j3_7 : AV → AV → AV → AV → AV → MM → OR) (h3_7 : ∀ (ρ : Rg) (M : MM), q3_7 ρ M = j3_7 (ρ 3) (ρ 4) (ρ 42) (ρ 43) (ρ 44) M) (ρ : Rg) (M : MM) : k3_21 c nl lo q3_7 ρ M = b3_21 c nl lo j3_7 (ρ 3) (ρ 4) (ρ 6) (ρ 7) (ρ 8) (ρ 42) (ρ 43) (ρ 44) (ρ 173) M := by
 have h : k3_21 c nl lo q3_7 ρ M = (isB (ρ 173) fun c122 => if c122 then (bnd (c 18 [(ρ 3), (ρ 7)] lo M) fun v125 M126 =>
 bnd (c 19 [(ρ 4), (ρ 7)] lo M126) fun v129 M130 =>
 opt (binA .neq .none v125 v129) fun v131 =>
 isB v131 fun c132 => if c132 then (some ((.bool false), M130))
 else (k3_14 c nl lo q3_7 (sF (sF (sF (sF (sF (sF (sF ρ 176 (ρ 3)) 177 (ρ 7)) 178 v125) 179 (ρ 4)) 180 (ρ 7)) 181 v129) 182 v131) M130))
 else (k3_29 c nl lo q3_7 ρ M)) := by kernel_rfl
 rw [h]
 unfold b3_21; simp only [(t3_14 c nl lo q3_7 j3_7 h3_7), (t3_29 c nl lo q3_7 j3_7 h3_7), h3_7] <;> (show _ = _; kernel_rfl)
def k3_30 (c : CallT) (nl lo : Nat) (q3_7 : Rg → MM → OR) : Rg → MM → OR := (execC c modeF lo nl p3_51 (k3_21 c nl lo q3_7) (fun i ρ M => if i = 2 then (k3_14 c nl lo q3_7) ρ M else (fun i ρ M => if i = 1 then (k3_10 c nl lo q3_7) ρ M else (fun i ρ M => if i = 0 then (k3_5 c nl lo) ρ M else noE i ρ M) i ρ M) i ρ M) (endK cf3.res))
@[reducible] def b3_30 (c : CallT) (nl lo : Nat) (j3_7 : AV → AV → AV → AV → AV → MM → OR) (x3 x4 x6 x7 x8 x42 x43 x44 : AV) (M : MM) : OR :=
 opt (binA .eql .none x8 (.i 5)) fun v135 =>
 b3_21 c nl lo j3_7 x3 x4 x6 x7 x8 x42 x43 x44 v135 M
theorem t3_30 (c : CallT) (nl lo : Nat) (q3_7 : Rg → MM → OR) (j3_7 : AV → AV → AV → AV → AV → MM → OR) (h3_7 : ∀ (ρ : Rg) (M : MM), q3_7 ρ M = j3_7 (ρ 3) (ρ 4) (ρ 42) (ρ 43) (ρ 44) M) (ρ : Rg) (M : MM) : k3_30 c nl lo q3_7 ρ M = b3_30 c nl lo j3_7 (ρ 3) (ρ 4) (ρ 6) (ρ 7) (ρ 8) (ρ 42) (ρ 43) (ρ 44) M := by
 have h : ∀ (z0 : Rg → MM → OR), (execC c modeF lo nl p3_51 z0 (fun i ρ M => if i = 2 then (k3_14 c nl lo q3_7) ρ M else (fun i ρ M => if i = 1 then (k3_10 c nl lo q3_7) ρ M else (fun i ρ M => if i = 0 then (k3_5 c nl lo) ρ M else noE i ρ M) i ρ M) i ρ M) (endK cf3.res)) ρ M = (opt (binA .eql .none (ρ 8) (.i 5)) fun v135 =>
 z0 (sF (sF (sF ρ 174 (ρ 8)) 175 v135) 173 v135) M) := by intros; kernel_rfl
 refine (h (k3_21 c nl lo q3_7)).trans ?_
 unfold b3_30; simp only [(t3_21 c nl lo q3_7 j3_7 h3_7), h3_7] <;> (show _ = _; kernel_rfl)
def k3_20 (c : CallT) (nl lo : Nat) (q3_7 : Rg → MM → OR) : Rg → MM → OR := (execC c modeF lo nl p3_109 (k3_14 c nl lo q3_7) (fun i ρ M => if i = 2 then (k3_14 c nl lo q3_7) ρ M else (fun i ρ M => if i = 1 then (k3_10 c nl lo q3_7) ρ M else (fun i ρ M => if i = 0 then (k3_5 c nl lo) ρ M else noE i ρ M) i ρ M) i ρ M) (endK cf3.res))
@[reducible] def b3_20 (c : CallT) (nl lo : Nat) (j3_7 : AV → AV → AV → AV → AV → MM → OR) (x3 x4 x6 x7 x8 x42 x43 x44 x150 : AV) (M : MM) : OR :=
 isB x150 fun c93 => if c93 then (bnd (c 16 [x3, x7] lo M) fun v96 M97 =>
 opt (extA 0 v96) fun v99 =>
 opt (extA 1 v96) fun v100 =>
 bnd (c 17 [x4, x7] lo M97) fun v105 M106 =>
 opt (extA 0 v105) fun v108 =>
 opt (extA 1 v105) fun v109 =>
 opt (binA .neq .none v100 v109) fun v114 =>
 opt (gdp v114 false (some v99)) fun v116 =>
 opt (gdp v114 false (some v108)) fun v117 =>
 opt (gdp v114 false (binA .neq .none v116 v117)) fun v118 =>
 opt (pickA v114 (.bool true) v118) fun v119 =>
 isB v119 fun c120 => if c120 then (some ((.bool false), M106))
 else (b3_14 c nl lo j3_7 x3 x4 x42 x43 x44 M106))
 else (b3_30 c nl lo j3_7 x3 x4 x6 x7 x8 x42 x43 x44 M)
theorem t3_20 (c : CallT) (nl lo : Nat) (q3_7 : Rg → MM → OR) (j3_7 : AV → AV → AV → AV → AV → MM → OR) (h3_7 : ∀ (ρ : Rg) (M : MM), q3_7 ρ M = j3_7 (ρ 3) (ρ 4) (ρ 42) (ρ 43) (ρ 44) M) (ρ : Rg) (M : MM) : k3_20 c nl lo q3_7 ρ M = b3_20 c nl lo j3_7 (ρ 3) (ρ 4) (ρ 6) (ρ 7) (ρ 8) (ρ 42) (ρ 43) (ρ 44) (ρ 150) M := by
 have h : k3_20 c nl lo q3_7 ρ M = (isB (ρ 150) fun c93 => if c93 then (bnd (c 16 [(ρ 3), (ρ 7)] lo M) fun v96 M97 =>
 opt (extA 0 v96) fun v99 =>
 opt (extA 1 v96) fun v100 =>
 bnd (c 17 [(ρ 4), (ρ 7)] lo M97) fun v105 M106 =>
 opt (extA 0 v105) fun v108 =>
 opt (extA 1 v105) fun v109 =>
 opt (binA .neq .none v100 v109) fun v114 =>
 opt (gdp v114 false (some v99)) fun v116 =>
 opt (gdp v114 false (some v108)) fun v117 =>
 opt (gdp v114 false (binA .neq .none v116 v117)) fun v118 =>
 opt (pickA v114 (.bool true) v118) fun v119 =>
 isB v119 fun c120 => if c120 then (some ((.bool false), M106))
 else (k3_14 c nl lo q3_7 (sF (sF (sF (sF (sF (sF (sF (sF (sF (sF (sF (sF (sF (sF (sF (sF (sF (sF (sF (sF (sF (sF (sF (sF ρ 154 (ρ 3)) 155 (ρ 7)) 156 v96) 153 v96) 157 v99) 158 v100) 13 v99) 14 v100) 160 (ρ 4)) 161 (ρ 7)) 162 v105) 159 v105) 163 v108) 164 v109) 15 v108) 16 v109) 165 v100) 166 v109) 167 v114) 168 v114) 169 v116) 170 v117) 171 v118) 172 v119) M106))
 else (k3_30 c nl lo q3_7 ρ M)) := by kernel_rfl
 rw [h]
 unfold b3_20; simp only [(t3_14 c nl lo q3_7 j3_7 h3_7), (t3_30 c nl lo q3_7 j3_7 h3_7), h3_7] <;> (show _ = _; kernel_rfl)
def k3_31 (c : CallT) (nl lo : Nat) (q3_7 : Rg → MM → OR) : Rg → MM → OR := (execC c modeF lo nl p3_41 (k3_20 c nl lo q3_7) (fun i ρ M => if i = 2 then (k3_14 c nl lo q3_7) ρ M else (fun i ρ M => if i = 1 then (k3_10 c nl lo q3_7) ρ M else (fun i ρ M => if i = 0 then (k3_5 c nl lo) ρ M else noE i ρ M) i ρ M) i ρ M) (endK cf3.res))
@[reducible] def b3_31 (c : CallT) (nl lo : Nat) (j3_7 : AV → AV → AV → AV → AV → MM → OR) (x3 x4 x6 x7 x8 x42 x43 x44 : AV) (M : MM) : OR :=
 opt (binA .eql .none x8 (.i 4)) fun v123 =>
 b3_20 c nl lo j3_7 x3 x4 x6 x7 x8 x42 x43 x44 v123 M
theorem t3_31 (c : CallT) (nl lo : Nat) (q3_7 : Rg → MM → OR) (j3_7 : AV → AV → AV → AV → AV → MM → OR) (h3_7 : ∀ (ρ : Rg) (M : MM), q3_7 ρ M = j3_7 (ρ 3) (ρ 4) (ρ 42) (ρ 43) (ρ 44) M) (ρ : Rg) (M : MM) : k3_31 c nl lo q3_7 ρ M = b3_31 c nl lo j3_7 (ρ 3) (ρ 4) (ρ 6) (ρ 7) (ρ 8) (ρ 42) (ρ 43) (ρ 44) M := by
 have h : ∀ (z0 : Rg → MM → OR), (execC c modeF lo nl p3_41 z0 (fun i ρ M => if i = 2 then (k3_14 c nl lo q3_7) ρ M else (fun i ρ M => if i = 1 then (k3_10 c nl lo q3_7) ρ M else (fun i ρ M => if i = 0 then (k3_5 c nl lo) ρ M else noE i ρ M) i ρ M) i ρ M) (endK cf3.res)) ρ M = (opt (binA .eql .none (ρ 8) (.i 4)) fun v123 =>
 z0 (sF (sF (sF ρ 151 (ρ 8)) 152 v123) 150 v123) M) := by intros; kernel_rfl
 refine (h (k3_20 c nl lo q3_7)).trans ?_
 unfold b3_31; simp only [(t3_20 c nl lo q3_7 j3_7 h3_7), h3_7] <;> (show _ = _; kernel_rfl)
def k3_19 (c : CallT) (nl lo : Nat) (q3_7 : Rg → MM → OR) : Rg → MM → OR := (execC c modeF lo nl p3_111 (k3_14 c nl lo q3_7) (fun i ρ M => if i = 2 then (k3_14 c nl lo q3_7) ρ M else (fun i ρ M => if i = 1 then (k3_10 c nl lo q3_7) ρ M else (fun i ρ M => if i = 0 then (k3_5 c nl lo) ρ M else noE i ρ M) i ρ M) i ρ M) (endK cf3.res))
@[reducible] def b3_19 (c : CallT) (nl lo : Nat) (j3_7 : AV → AV → AV → AV → AV → MM → OR) (x3 x4 x6 x7 x8 x42 x43 x44 x140 : AV) (M : MM) : OR :=
 isB x140 fun c81 => if c81 then (bnd (c 14 [x3, x7] lo M) fun v84 M85 =>
 bnd (c 15 [x4, x7] lo M85) fun v88 M89 =>
 opt (binA .neq .none v84 v88) fun v90 =>
 isB v90 fun c91 => if c91 then (some ((.bool false), M89))
 else (b3_14 c nl lo j3_7 x3 x4 x42 x43 x44 M89))
 else (b3_31 c nl lo j3_7 x3 x4 x6 x7 x8 x42 x43 x44 M)
theorem t3_19 (c : CallT) (nl lo : Nat) (q3_7 : Rg → MM → OR) (j3_7 : AV → AV → AV → AV → AV → MM → OR) (h3_7 : ∀ (ρ : Rg) (M : MM), q3_7 ρ M = j3_7 (ρ 3) (ρ 4) (ρ 42) (ρ 43) (ρ 44) M) (ρ : Rg) (M : MM) : k3_19 c nl lo q3_7 ρ M = b3_19 c nl lo j3_7 (ρ 3) (ρ 4) (ρ 6) (ρ 7) (ρ 8) (ρ 42) (ρ 43) (ρ 44) (ρ 140) M := by
 have h : k3_19 c nl lo q3_7 ρ M = (isB (ρ 140) fun c81 => if c81 then (bnd (c 14 [(ρ 3), (ρ 7)] lo M) fun v84 M85 =>
 bnd (c 15 [(ρ 4), (ρ 7)] lo M85) fun v88 M89 =>
 opt (binA .neq .none v84 v88) fun v90 =>
 isB v90 fun c91 => if c91 then (some ((.bool false), M89))
 else (k3_14 c nl lo q3_7 (sF (sF (sF (sF (sF (sF (sF ρ 143 (ρ 3)) 144 (ρ 7)) 145 v84) 146 (ρ 4)) 147 (ρ 7)) 148 v88) 149 v90) M89))
 else (k3_31 c nl lo q3_7 ρ M)) := by kernel_rfl
 rw [h]
 unfold b3_19; simp only [(t3_14 c nl lo q3_7 j3_7 h3_7), (t3_31 c nl lo q3_7 j3_7 h3_7), h3_7] <;> (show _ = _; kernel_rfl)
def k3_32 (c : CallT) (nl lo : Nat) (q3_7 : Rg → MM → OR) : Rg → MM → OR := (execC c modeF lo nl p3_35 (k3_19 c nl lo q3_7) (fun i ρ M => if i = 2 then (k3_14 c nl lo q3_7) ρ M else (fun i ρ M => if i = 1 then (k3_10 c nl lo q3_7) ρ M else (fun i ρ M => if i = 0 then (k3_5 c nl lo) ρ M else noE i ρ M) i ρ M) i ρ M) (endK cf3.res))
@[reducible] def b3_32 (c : CallT) (nl lo : Nat) (j3_7 : AV → AV → AV → AV → AV → MM → OR) (x3 x4 x6 x7 x8 x42 x43 x44 : AV) (M : MM) : OR :=
 opt (binA .eql .none x8 (.i 3)) fun v94 =>
 b3_19 c nl lo j3_7 x3 x4 x6 x7 x8 x42 x43 x44 v94 M
theorem t3_32 (c : CallT) (nl lo : Nat) (q3_7 : Rg → MM → OR) (j3_7 : AV → AV → AV → AV → AV → MM → OR) (h3_7 : ∀ (ρ : Rg) (M : MM), q3_7 ρ M = j3_7 (ρ 3) (ρ 4) (ρ 42) (ρ 43) (ρ 44) M) (ρ : Rg) (M : MM) : k3_32 c nl lo q3_7 ρ M = b3_32 c nl lo j3_7 (ρ 3) (ρ 4) (ρ 6) (ρ 7) (ρ 8) (ρ 42) (ρ 43) (ρ 44) M := by
 have h : ∀ (z0 : Rg → MM → OR), (execC c modeF lo nl p3_35 z0 (fun i ρ M => if i = 2 then (k3_14 c nl lo q3_7) ρ M else (fun i ρ M => if i = 1 then (k3_10 c nl lo q3_7) ρ M else (fun i ρ M => if i = 0 then (k3_5 c nl lo) ρ M else noE i ρ M) i ρ M) i ρ M) (endK cf3.res)) ρ M = (opt (binA .eql .none (ρ 8) (.i 3)) fun v94 =>
 z0 (sF (sF (sF ρ 141 (ρ 8)) 142 v94) 140 v94) M) := by intros; kernel_rfl
 refine (h (k3_19 c nl lo q3_7)).trans ?_
 unfold b3_32; simp only [(t3_19 c nl lo q3_7 j3_7 h3_7), h3_7] <;> (show _ = _; kernel_rfl)
def k3_18 (c : CallT) (nl lo : Nat) (q3_7 : Rg → MM → OR) : Rg → MM → OR := (execC c modeF lo nl p3_113 (k3_14 c nl lo q3_7) (fun i ρ M => if i = 2 then (k3_14 c nl lo q3_7) ρ M else (fun i ρ M => if i = 1 then (k3_10 c nl lo q3_7) ρ M else (fun i ρ M => if i = 0 then (k3_5 c nl lo) ρ M else noE i ρ M) i ρ M) i ρ M) (endK cf3.res))
@[reducible] def b3_18 (c : CallT) (nl lo : Nat) (j3_7 : AV → AV → AV → AV → AV → MM → OR) (x3 x4 x6 x7 x8 x42 x43 x44 x103 : AV) (M : MM) : OR :=
 isB x103 fun c38 => if c38 then (bumpK M 14 fun M39 =>
 opt (fldA 0 0 true x6) fun v42 =>
 opt (fldA 2 1 false x6) fun v43 =>
 opt (puA c (look M39.mem (.mk M.nx 14 12 true)) 10 [v43]) fun v44 =>
 opt (fldA 0 0 true x6) fun v45 =>
 opt (fldA 3 1 false x6) fun v46 =>
 opt (puA c (look M39.mem (.mk M.nx 14 124 true)) 10 [v46]) fun v47 =>
 opt (roA c (.mk M.nx 14 255 true) 12 [x3, x7, v44, v47] M39) fun v48 =>
 opt (extA 0 v48) fun v50 =>
 opt (extA 1 v48) fun v51 =>
 bumpK M39 14 fun M54 =>
 opt (fldA 0 0 true x6) fun v57 =>
 opt (fldA 2 1 false x6) fun v58 =>
 opt (puA c (look M54.mem (.mk M39.nx 14 12 true)) 10 [v58]) fun v59 =>
 opt (fldA 0 0 true x6) fun v60 =>
 opt (fldA 3 1 false x6) fun v61 =>
 opt (puA c (look M54.mem (.mk M39.nx 14 124 true)) 10 [v61]) fun v62 =>
 opt (roA c (.mk M39.nx 14 255 true) 13 [x4, x7, v59, v62] M54) fun v63 =>
 opt (extA 0 v63) fun v65 =>
 opt (extA 1 v63) fun v66 =>
 opt (binA .neq .none v51 v66) fun v71 =>
 opt (gdp v71 false (some v50)) fun v73 =>
 opt (gdp v71 false (b2sA M54.mem (.top M54.nx) v73)) fun v74 =>
 opt (gdp v71 false (some v65)) fun v75 =>
 opt (gdp v71 false (b2sA M54.mem (.top M54.nx) v75)) fun v76 =>
 opt (gdp v71 false (binA .neq .none v74 v76)) fun v77 =>
 opt (pickA v71 (.bool true) v77) fun v78 =>
 isB v78 fun c79 => if c79 then (some ((.bool false), M54))
 else (b3_14 c nl lo j3_7 x3 x4 x42 x43 x44 M54))
 else (b3_32 c nl lo j3_7 x3 x4 x6 x7 x8 x42 x43 x44 M)
theorem t3_18 (c : CallT) (nl lo : Nat) (q3_7 : Rg → MM → OR) (j3_7 : AV → AV → AV → AV → AV → MM → OR) (h3_7 : ∀ (ρ : Rg) (M : MM), q3_7 ρ M = j3_7 (ρ 3) (ρ 4) (ρ 42) (ρ 43) (ρ 44) M) (ρ : Rg) (M : MM) : k3_18 c nl lo q3_7 ρ M = b3_18 c nl lo j3_7 (ρ 3) (ρ 4) (ρ 6) (ρ 7) (ρ 8) (ρ 42) (ρ 43) (ρ 44) (ρ 103) M := by
 have h : k3_18 c nl lo q3_7 ρ M = (isB (ρ 103) fun c38 => if c38 then (bumpK M 14 fun M39 =>
 opt (fldA 0 0 true (ρ 6)) fun v42 =>
 opt (fldA 2 1 false (ρ 6)) fun v43 =>
 opt (puA c (look M39.mem (.mk M.nx 14 12 true)) 10 [v43]) fun v44 =>
 opt (fldA 0 0 true (ρ 6)) fun v45 =>
 opt (fldA 3 1 false (ρ 6)) fun v46 =>
 opt (puA c (look M39.mem (.mk M.nx 14 124 true)) 10 [v46]) fun v47 =>
 opt (roA c (.mk M.nx 14 255 true) 12 [(ρ 3), (ρ 7), v44, v47] M39) fun v48 =>
 opt (extA 0 v48) fun v50 =>
 opt (extA 1 v48) fun v51 =>
 bumpK M39 14 fun M54 =>
 opt (fldA 0 0 true (ρ 6)) fun v57 =>
 opt (fldA 2 1 false (ρ 6)) fun v58 =>
 opt (puA c (look M54.mem (.mk M39.nx 14 12 true)) 10 [v58]) fun v59 =>
 opt (fldA 0 0 true (ρ 6)) fun v60 =>
 opt (fldA 3 1 false (ρ 6)) fun v61 =>
 opt (puA c (look M54.mem (.mk M39.nx 14 124 true)) 10 [v61]) fun v62 =>
 opt (roA c (.mk M39.nx 14 255 true) 13 [(ρ 4), (ρ 7), v59, v62] M54) fun v63 =>
 opt (extA 0 v63) fun v65 =>
 opt (extA 1 v63) fun v66 =>
 opt (binA .neq .none v51 v66) fun v71 =>
 opt (gdp v71 false (some v50)) fun v73 =>
 opt (gdp v71 false (b2sA M54.mem (.top M54.nx) v73)) fun v74 =>
 opt (gdp v71 false (some v65)) fun v75 =>
 opt (gdp v71 false (b2sA M54.mem (.top M54.nx) v75)) fun v76 =>
 opt (gdp v71 false (binA .neq .none v74 v76)) fun v77 =>
 opt (pickA v71 (.bool true) v77) fun v78 =>
 isB v78 fun c79 => if c79 then (some ((.bool false), M54))
 else (k3_14 c nl lo q3_7 (sF (sF (sF (sF (sF (sF (sF (sF (sF (sF (sF (sF (sF (sF (sF (sF (sF (sF (sF (sF (sF (sF (sF (sF (sF (sF (sF (sF (sF (sF (sF (sF (sF (sF (sF (sF (sF (sF ρ 107 (ρ 3)) 108 (ρ 7)) 109 v42) 110 v43) 111 v44) 112 v45) 113 v46) 114 v47) 115 v48) 106 v48) 116 v50) 117 v51) 9 v50) 10 v51) 119 (ρ 4)) 120 (ρ 7)) 121 v57) 122 v58) 123 v59) 124 v60) 125 v61) 126 v62) 127 v63) 118 v63) 128 v65) 129 v66) 11 v65) 12 v66) 130 v51) 131 v66) 132 v71) 133 v71) 134 v73) 135 v74) 136 v75) 137 v76) 138 v77) 139 v78) M54))
 else (k3_32 c nl lo q3_7 ρ M)) := by kernel_rfl
 rw [h]
 unfold b3_18; simp only [(t3_14 c nl lo q3_7 j3_7 h3_7), (t3_32 c nl lo q3_7 j3_7 h3_7), h3_7] <;> (show _ = _; kernel_rfl)
def k3_33 (c : CallT) (nl lo : Nat) (q3_7 : Rg → MM → OR) : Rg → MM → OR := (execC c modeF lo nl p3_25 (k3_18 c nl lo q3_7) (fun i ρ M => if i = 2 then (k3_14 c nl lo q3_7) ρ M else (fun i ρ M => if i = 1 then (k3_10 c nl lo q3_7) ρ M else (fun i ρ M => if i = 0 then (k3_5 c nl lo) ρ M else noE i ρ M) i ρ M) i ρ M) (endK cf3.res))
@[reducible] def b3_33 (c : CallT) (nl lo : Nat) (j3_7 : AV → AV → AV → AV → AV → MM → OR) (x3 x4 x6 x7 x8 x42 x43 x44 : AV) (M : MM) : OR :=
 opt (binA .eql .none x8 (.i 2)) fun v82 =>
 b3_18 c nl lo j3_7 x3 x4 x6 x7 x8 x42 x43 x44 v82 M
theorem t3_33 (c : CallT) (nl lo : Nat) (q3_7 : Rg → MM → OR) (j3_7 : AV → AV → AV → AV → AV → MM → OR) (h3_7 : ∀ (ρ : Rg) (M : MM), q3_7 ρ M = j3_7 (ρ 3) (ρ 4) (ρ 42) (ρ 43) (ρ 44) M) (ρ : Rg) (M : MM) : k3_33 c nl lo q3_7 ρ M = b3_33 c nl lo j3_7 (ρ 3) (ρ 4) (ρ 6) (ρ 7) (ρ 8) (ρ 42) (ρ 43) (ρ 44) M := by
 have h : ∀ (z0 : Rg → MM → OR), (execC c modeF lo nl p3_25 z0 (fun i ρ M => if i = 2 then (k3_14 c nl lo q3_7) ρ M else (fun i ρ M => if i = 1 then (k3_10 c nl lo q3_7) ρ M else (fun i ρ M => if i = 0 then (k3_5 c nl lo) ρ M else noE i ρ M) i ρ M) i ρ M) (endK cf3.res)) ρ M = (opt (binA .eql .none (ρ 8) (.i 2)) fun v82 =>
 z0 (sF (sF (sF ρ 104 (ρ 8)) 105 v82) 103 v82) M) := by intros; kernel_rfl
 refine (h (k3_18 c nl lo q3_7)).trans ?_
 unfold b3_33; simp only [(t3_18 c nl lo q3_7 j3_7 h3_7), h3_7] <;> (show _ = _; kernel_rfl)
def k3_17 (c : CallT) (nl lo : Nat) (q3_7 : Rg → MM → OR) : Rg → MM → OR := (execC c modeF lo nl p3_115 (k3_14 c nl lo q3_7) (fun i ρ M => if i = 2 then (k3_14 c nl lo q3_7) ρ M else (fun i ρ M => if i = 1 then (k3_10 c nl lo q3_7) ρ M else (fun i ρ M => if i = 0 then (k3_5 c nl lo) ρ M else noE i ρ M) i ρ M) i ρ M) (endK cf3.res))
@[reducible] def b3_17 (c : CallT) (nl lo : Nat) (j3_7 : AV → AV → AV → AV → AV → MM → OR) (x3 x4 x6 x7 x8 x42 x43 x44 x83 : AV) (M : MM) : OR :=
 isB x83 fun c15 => if c15 then (bumpK M 17 fun M16 =>
 opt (fldA 0 0 true x6) fun v19 =>
 opt (fldA 2 1 false x6) fun v20 =>
 opt (puA c (look M16.mem (.mk M.nx 17 12 true)) 10 [v20]) fun v21 =>
 opt (fldA 0 0 true x6) fun v22 =>
 opt (fldA 4 1 false x6) fun v23 =>
 bnd (istep c modeF true lo (.mk M.nx 17 127 true) (M.nx + 7) (.callk 9 [(.k x3), (.k x7), (.k v21), (.k v23)] [(.k x6), (.k x6)]) [] M16) fun v24 M25 =>
 opt (fldA 0 0 true x6) fun v28 =>
 opt (fldA 2 1 false x6) fun v29 =>
 opt (puA c (look M25.mem (.mk M.nx 17 3327 true)) 10 [v29]) fun v30 =>
 opt (fldA 0 0 true x6) fun v31 =>
 opt (fldA 4 1 false x6) fun v32 =>
 bnd (rwD c 11 [x4, x7, v30, v32] lo (.mk M.nx 17 32767 true) M25) fun v33 M34 =>
 opt (binA .neq .none v24 v33) fun v35 =>
 isB v35 fun c36 => if c36 then (some ((.bool false), M34))
 else (b3_14 c nl lo j3_7 x3 x4 x42 x43 x44 M34))
 else (b3_33 c nl lo j3_7 x3 x4 x6 x7 x8 x42 x43 x44 M)
theorem t3_17 (c : CallT) (nl lo : Nat) (q3_7 : Rg → MM → OR) (j3_7 : AV → AV → AV → AV → AV → MM → OR) (h3_7 : ∀ (ρ : Rg) (M : MM), q3_7 ρ M = j3_7 (ρ 3) (ρ 4) (ρ 42) (ρ 43) (ρ 44) M) (ρ : Rg) (M : MM) : k3_17 c nl lo q3_7 ρ M = b3_17 c nl lo j3_7 (ρ 3) (ρ 4) (ρ 6) (ρ 7) (ρ 8) (ρ 42) (ρ 43) (ρ 44) (ρ 83) M := by
 have h : k3_17 c nl lo q3_7 ρ M = (isB (ρ 83) fun c15 => if c15 then (bumpK M 17 fun M16 =>
 opt (fldA 0 0 true (ρ 6)) fun v19 =>
 opt (fldA 2 1 false (ρ 6)) fun v20 =>
 opt (puA c (look M16.mem (.mk M.nx 17 12 true)) 10 [v20]) fun v21 =>
 opt (fldA 0 0 true (ρ 6)) fun v22 =>
 opt (fldA 4 1 false (ρ 6)) fun v23 =>
 bnd (istep c modeF true lo (.mk M.nx 17 127 true) (M.nx + 7) (.callk 9 [(.k (ρ 3)), (.k (ρ 7)), (.k v21), (.k v23)] [(.k (ρ 6)), (.k (ρ 6))]) [] M16) fun v24 M25 =>
 opt (fldA 0 0 true (ρ 6)) fun v28 =>
 opt (fldA 2 1 false (ρ 6)) fun v29 =>
 opt (puA c (look M25.mem (.mk M.nx 17 3327 true)) 10 [v29]) fun v30 =>
 opt (fldA 0 0 true (ρ 6)) fun v31 =>
 opt (fldA 4 1 false (ρ 6)) fun v32 =>
 bnd (rwD c 11 [(ρ 4), (ρ 7), v30, v32] lo (.mk M.nx 17 32767 true) M25) fun v33 M34 =>
 opt (binA .neq .none v24 v33) fun v35 =>
 isB v35 fun c36 => if c36 then (some ((.bool false), M34))
 else (k3_14 c nl lo q3_7 (sF (sF (sF (sF (sF (sF (sF (sF (sF (sF (sF (sF (sF (sF (sF (sF (sF ρ 86 (ρ 3)) 87 (ρ 7)) 88 v19) 89 v20) 90 v21) 91 v22) 92 v23) 93 v24) 94 (ρ 4)) 95 (ρ 7)) 96 v28) 97 v29) 98 v30) 99 v31) 100 v32) 101 v33) 102 v35) M34))
 else (k3_33 c nl lo q3_7 ρ M)) := by kernel_rfl
 rw [h]
 unfold b3_17; simp only [(t3_14 c nl lo q3_7 j3_7 h3_7), (t3_33 c nl lo q3_7 j3_7 h3_7), h3_7] <;> (show _ = _; kernel_rfl)
def k3_34 (c : CallT) (nl lo : Nat) (q3_7 : Rg → MM → OR) : Rg → MM → OR := (execC c modeF lo nl p3_19 (k3_17 c nl lo q3_7) (fun i ρ M => if i = 2 then (k3_14 c nl lo q3_7) ρ M else (fun i ρ M => if i = 1 then (k3_10 c nl lo q3_7) ρ M else (fun i ρ M => if i = 0 then (k3_5 c nl lo) ρ M else noE i ρ M) i ρ M) i ρ M) (endK cf3.res))
@[reducible] def b3_34 (c : CallT) (nl lo : Nat) (j3_7 : AV → AV → AV → AV → AV → MM → OR) (x3 x4 x6 x7 x8 x42 x43 x44 : AV) (M : MM) : OR :=
 opt (binA .eql .none x8 (.i 1)) fun v39 =>
 b3_17 c nl lo j3_7 x3 x4 x6 x7 x8 x42 x43 x44 v39 M
theorem t3_34 (c : CallT) (nl lo : Nat) (q3_7 : Rg → MM → OR) (j3_7 : AV → AV → AV → AV → AV → MM → OR) (h3_7 : ∀ (ρ : Rg) (M : MM), q3_7 ρ M = j3_7 (ρ 3) (ρ 4) (ρ 42) (ρ 43) (ρ 44) M) (ρ : Rg) (M : MM) : k3_34 c nl lo q3_7 ρ M = b3_34 c nl lo j3_7 (ρ 3) (ρ 4) (ρ 6) (ρ 7) (ρ 8) (ρ 42) (ρ 43) (ρ 44) M := by
 have h : ∀ (z0 : Rg → MM → OR), (execC c modeF lo nl p3_19 z0 (fun i ρ M => if i = 2 then (k3_14 c nl lo q3_7) ρ M else (fun i ρ M => if i = 1 then (k3_10 c nl lo q3_7) ρ M else (fun i ρ M => if i = 0 then (k3_5 c nl lo) ρ M else noE i ρ M) i ρ M) i ρ M) (endK cf3.res)) ρ M = (opt (binA .eql .none (ρ 8) (.i 1)) fun v39 =>
 z0 (sF (sF (sF ρ 84 (ρ 8)) 85 v39) 83 v39) M) := by intros; kernel_rfl
 refine (h (k3_17 c nl lo q3_7)).trans ?_
 unfold b3_34; simp only [(t3_17 c nl lo q3_7 j3_7 h3_7), h3_7] <;> (show _ = _; kernel_rfl)
def k3_16 (c : CallT) (nl lo : Nat) (q3_7 : Rg → MM → OR) : Rg → MM → OR := (execC c modeF lo nl p3_117 (k3_14 c nl lo q3_7) (fun i ρ M => if i = 1 then (k3_10 c nl lo q3_7) ρ M else (fun i ρ M => if i = 0 then (k3_5 c nl lo) ρ M else noE i ρ M) i ρ M) (endK cf3.res))
@[reducible] def b3_16 (c : CallT) (nl lo : Nat) (j3_7 : AV → AV → AV → AV → AV → MM → OR) (x3 x4 x6 x7 x8 x42 x43 x44 : AV) (M : MM) : OR :=
 b3_34 c nl lo j3_7 x3 x4 x6 x7 x8 x42 x43 x44 M
theorem t3_16 (c : CallT) (nl lo : Nat) (q3_7 : Rg → MM → OR) (j3_7 : AV → AV → AV → AV → AV → MM → OR) (h3_7 : ∀ (ρ : Rg) (M : MM), q3_7 ρ M = j3_7 (ρ 3) (ρ 4) (ρ 42) (ρ 43) (ρ 44) M) (ρ : Rg) (M : MM) : k3_16 c nl lo q3_7 ρ M = b3_16 c nl lo j3_7 (ρ 3) (ρ 4) (ρ 6) (ρ 7) (ρ 8) (ρ 42) (ρ 43) (ρ 44) M := by
 have h : k3_16 c nl lo q3_7 ρ M = (k3_34 c nl lo q3_7 ρ M) := by kernel_rfl
 rw [h]
 unfold b3_16; simp only [(t3_34 c nl lo q3_7 j3_7 h3_7), h3_7] <;> (show _ = _; kernel_rfl)
def k3_35 (c : CallT) (nl lo : Nat) (q3_7 : Rg → MM → OR) : Rg → MM → OR := (execC c modeF lo nl p3_18 (k3_16 c nl lo q3_7) (fun i ρ M => if i = 1 then (k3_10 c nl lo q3_7) ρ M else (fun i ρ M => if i = 0 then (k3_5 c nl lo) ρ M else noE i ρ M) i ρ M) (endK cf3.res))
@[reducible] def b3_35 (c : CallT) (nl lo : Nat) (j3_7 : AV → AV → AV → AV → AV → MM → OR) (x3 x4 x6 x7 x42 x43 x44 : AV) (M : MM) : OR :=
 opt (fldA 0 0 true x6) fun v15 =>
 opt (fldA 0 1 false x6) fun v16 =>
 opt (binA .rem .none v16 (.i 8)) fun v17 =>
 b3_16 c nl lo j3_7 x3 x4 x6 x7 v17 x42 x43 x44 M
theorem t3_35 (c : CallT) (nl lo : Nat) (q3_7 : Rg → MM → OR) (j3_7 : AV → AV → AV → AV → AV → MM → OR) (h3_7 : ∀ (ρ : Rg) (M : MM), q3_7 ρ M = j3_7 (ρ 3) (ρ 4) (ρ 42) (ρ 43) (ρ 44) M) (ρ : Rg) (M : MM) : k3_35 c nl lo q3_7 ρ M = b3_35 c nl lo j3_7 (ρ 3) (ρ 4) (ρ 6) (ρ 7) (ρ 42) (ρ 43) (ρ 44) M := by
 have h : ∀ (z0 : Rg → MM → OR), (execC c modeF lo nl p3_18 z0 (fun i ρ M => if i = 1 then (k3_10 c nl lo q3_7) ρ M else (fun i ρ M => if i = 0 then (k3_5 c nl lo) ρ M else noE i ρ M) i ρ M) (endK cf3.res)) ρ M = (opt (fldA 0 0 true (ρ 6)) fun v15 =>
 opt (fldA 0 1 false (ρ 6)) fun v16 =>
 opt (binA .rem .none v16 (.i 8)) fun v17 =>
 z0 (sF (sF (sF (sF ρ 50 v15) 51 v16) 52 v17) 8 v17) M) := by intros; kernel_rfl
 refine (h (k3_16 c nl lo q3_7)).trans ?_
 unfold b3_35; simp only [(t3_16 c nl lo q3_7 j3_7 h3_7), h3_7] <;> (show _ = _; kernel_rfl)
def k3_15 (c : CallT) (nl lo : Nat) (q3_7 : Rg → MM → OR) : Rg → MM → OR := (execC c modeF lo nl p3_118 (k3_14 c nl lo q3_7) (fun i ρ M => if i = 1 then (k3_10 c nl lo q3_7) ρ M else (fun i ρ M => if i = 0 then (k3_5 c nl lo) ρ M else noE i ρ M) i ρ M) (endK cf3.res))
@[reducible] def b3_15 (c : CallT) (nl lo : Nat) (j3_7 : AV → AV → AV → AV → AV → MM → OR) (x3 x4 x6 x7 x42 x43 x44 : AV) (M : MM) : OR :=
 b3_35 c nl lo j3_7 x3 x4 x6 x7 x42 x43 x44 M
theorem t3_15 (c : CallT) (nl lo : Nat) (q3_7 : Rg → MM → OR) (j3_7 : AV → AV → AV → AV → AV → MM → OR) (h3_7 : ∀ (ρ : Rg) (M : MM), q3_7 ρ M = j3_7 (ρ 3) (ρ 4) (ρ 42) (ρ 43) (ρ 44) M) (ρ : Rg) (M : MM) : k3_15 c nl lo q3_7 ρ M = b3_15 c nl lo j3_7 (ρ 3) (ρ 4) (ρ 6) (ρ 7) (ρ 42) (ρ 43) (ρ 44) M := by
 have h : k3_15 c nl lo q3_7 ρ M = (k3_35 c nl lo q3_7 ρ M) := execC_seq c modeF lo nl p3_18 p3_117 (k3_14 c nl lo q3_7) (fun i ρ M => if i = 1 then (k3_10 c nl lo q3_7) ρ M else (fun i ρ M => if i = 0 then (k3_5 c nl lo) ρ M else noE i ρ M) i ρ M) (endK cf3.res) ρ M
 rw [h]
 unfold b3_15; simp only [(t3_35 c nl lo q3_7 j3_7 h3_7), h3_7] <;> (show _ = _; kernel_rfl)
def k3_13 (c : CallT) (nl lo : Nat) (q3_7 : Rg → MM → OR) : Rg → MM → OR := (execC c modeF lo nl p3_124 (k3_10 c nl lo q3_7) (fun i ρ M => if i = 1 then (k3_10 c nl lo q3_7) ρ M else (fun i ρ M => if i = 0 then (k3_5 c nl lo) ρ M else noE i ρ M) i ρ M) (endK cf3.res))
@[reducible] def b3_13 (c : CallT) (nl lo : Nat) (j3_7 : AV → AV → AV → AV → AV → MM → OR) (x3 x4 x6 x7 x42 x43 x44 : AV) (M : MM) : OR :=
 b3_15 c nl lo j3_7 x3 x4 x6 x7 x42 x43 x44 M
theorem t3_13 (c : CallT) (nl lo : Nat) (q3_7 : Rg → MM → OR) (j3_7 : AV → AV → AV → AV → AV → MM → OR) (h3_7 : ∀ (ρ : Rg) (M : MM), q3_7 ρ M = j3_7 (ρ 3) (ρ 4) (ρ 42) (ρ 43) (ρ 44) M) (ρ : Rg) (M : MM) : k3_13 c nl lo q3_7 ρ M = b3_13 c nl lo j3_7 (ρ 3) (ρ 4) (ρ 6) (ρ 7) (ρ 42) (ρ 43) (ρ 44) M := by
 have h : k3_13 c nl lo q3_7 ρ M = (k3_15 c nl lo q3_7 ρ M) := execC_seq c modeF lo nl p3_118 p3_123 (k3_10 c nl lo q3_7) (fun i ρ M => if i = 1 then (k3_10 c nl lo q3_7) ρ M else (fun i ρ M => if i = 0 then (k3_5 c nl lo) ρ M else noE i ρ M) i ρ M) (endK cf3.res) ρ M
 rw [h]
 unfold b3_13; simp only [(t3_15 c nl lo q3_7 j3_7 h3_7), h3_7] <;> (show _ = _; kernel_rfl)
def k3_36 (c : CallT) (nl lo : Nat) (q3_7 : Rg → MM → OR) : Rg → MM → OR := (execC c modeF lo nl p3_17 (k3_13 c nl lo q3_7) (fun i ρ M => if i = 1 then (k3_10 c nl lo q3_7) ρ M else (fun i ρ M => if i = 0 then (k3_5 c nl lo) ρ M else noE i ρ M) i ρ M) (endK cf3.res))
@[reducible] def b3_36 (c : CallT) (nl lo : Nat) (j3_7 : AV → AV → AV → AV → AV → MM → OR) (x3 x4 x6 x42 x43 x44 : AV) (M : MM) : OR :=
 opt (fldA 0 5 true x6) fun v8 =>
 opt (puA c (lk M) 8 [v8]) fun v9 =>
 b3_13 c nl lo j3_7 x3 x4 x6 v9 x42 x43 x44 M
theorem t3_36 (c : CallT) (nl lo : Nat) (q3_7 : Rg → MM → OR) (j3_7 : AV → AV → AV → AV → AV → MM → OR) (h3_7 : ∀ (ρ : Rg) (M : MM), q3_7 ρ M = j3_7 (ρ 3) (ρ 4) (ρ 42) (ρ 43) (ρ 44) M) (ρ : Rg) (M : MM) : k3_36 c nl lo q3_7 ρ M = b3_36 c nl lo j3_7 (ρ 3) (ρ 4) (ρ 6) (ρ 42) (ρ 43) (ρ 44) M := by
 have h : ∀ (z0 : Rg → MM → OR), (execC c modeF lo nl p3_17 z0 (fun i ρ M => if i = 1 then (k3_10 c nl lo q3_7) ρ M else (fun i ρ M => if i = 0 then (k3_5 c nl lo) ρ M else noE i ρ M) i ρ M) (endK cf3.res)) ρ M = (opt (fldA 0 5 true (ρ 6)) fun v8 =>
 opt (puA c (lk M) 8 [v8]) fun v9 =>
 z0 (sF (sF (sF ρ 48 v8) 49 v9) 7 v9) M) := by intros; kernel_rfl
 refine (h (k3_13 c nl lo q3_7)).trans ?_
 unfold b3_36; simp only [(t3_13 c nl lo q3_7 j3_7 h3_7), h3_7] <;> (show _ = _; kernel_rfl)
def k3_12 (c : CallT) (nl lo : Nat) (q3_7 : Rg → MM → OR) : Rg → MM → OR := (execC c modeF lo nl p3_125 (k3_10 c nl lo q3_7) (fun i ρ M => if i = 1 then (k3_10 c nl lo q3_7) ρ M else (fun i ρ M => if i = 0 then (k3_5 c nl lo) ρ M else noE i ρ M) i ρ M) (endK cf3.res))
@[reducible] def b3_12 (c : CallT) (nl lo : Nat) (j3_7 : AV → AV → AV → AV → AV → MM → OR) (x3 x4 x6 x42 x43 x44 : AV) (M : MM) : OR :=
 b3_36 c nl lo j3_7 x3 x4 x6 x42 x43 x44 M
theorem t3_12 (c : CallT) (nl lo : Nat) (q3_7 : Rg → MM → OR) (j3_7 : AV → AV → AV → AV → AV → MM → OR) (h3_7 : ∀ (ρ : Rg) (M : MM), q3_7 ρ M = j3_7 (ρ 3) (ρ 4) (ρ 42) (ρ 43) (ρ 44) M) (ρ : Rg) (M : MM) : k3_12 c nl lo q3_7 ρ M = b3_12 c nl lo j3_7 (ρ 3) (ρ 4) (ρ 6) (ρ 42) (ρ 43) (ρ 44) M := by
 have h : k3_12 c nl lo q3_7 ρ M = (k3_36 c nl lo q3_7 ρ M) := execC_seq c modeF lo nl p3_17 p3_124 (k3_10 c nl lo q3_7) (fun i ρ M => if i = 1 then (k3_10 c nl lo q3_7) ρ M else (fun i ρ M => if i = 0 then (k3_5 c nl lo) ρ M else noE i ρ M) i ρ M) (endK cf3.res) ρ M
 rw [h]
 unfold b3_12; simp only [(t3_36 c nl lo q3_7 j3_7 h3_7), h3_7] <;> (show _ = _; kernel_rfl)
def k3_37 (c : CallT) (nl lo : Nat) (q3_7 : Rg → MM → OR) : Rg → MM → OR := (execC c modeF lo nl p3_16 (k3_12 c nl lo q3_7) (fun i ρ M => if i = 1 then (k3_10 c nl lo q3_7) ρ M else (fun i ρ M => if i = 0 then (k3_5 c nl lo) ρ M else noE i ρ M) i ρ M) (endK cf3.res))
@[reducible] def b3_37 (c : CallT) (nl lo : Nat) (j3_7 : AV → AV → AV → AV → AV → MM → OR) (x3 x4 x42 x43 x44 : AV) (M : MM) : OR :=
 opt (ixsA 5 x42 x44) fun v8 =>
 opt (ldnA (lk M) 5 v8) fun v9 =>
 upK M M.nx fun M11 =>
 opt (setcA 0 5 (.agg [.i 0, .i 0, .i 0, .i 0, .nilsl]) v9) fun v12 =>
 b3_12 c nl lo j3_7 x3 x4 v12 x42 x43 x44 M11
theorem t3_37 (c : CallT) (nl lo : Nat) (q3_7 : Rg → MM → OR) (j3_7 : AV → AV → AV → AV → AV → MM → OR) (h3_7 : ∀ (ρ : Rg) (M : MM), q3_7 ρ M = j3_7 (ρ 3) (ρ 4) (ρ 42) (ρ 43) (ρ 44) M) (ρ : Rg) (M : MM) : k3_37 c nl lo q3_7 ρ M = b3_37 c nl lo j3_7 (ρ 3) (ρ 4) (ρ 42) (ρ 43) (ρ 44) M := by
 have h : ∀ (z0 : Rg → MM → OR), (execC c modeF lo nl p3_16 z0 (fun i ρ M => if i = 1 then (k3_10 c nl lo q3_7) ρ M else (fun i ρ M => if i = 0 then (k3_5 c nl lo) ρ M else noE i ρ M) i ρ M) (endK cf3.res)) ρ M = (opt (ixsA 5 (ρ 42) (ρ 44)) fun v8 =>
 opt (ldnA (lk M) 5 v8) fun v9 =>
 upK M M.nx fun M11 =>
 opt (setcA 0 5 (.agg [.i 0, .i 0, .i 0, .i 0, .nilsl]) v9) fun v12 =>
 z0 (sF (sF (sF (sF ρ 46 v8) 47 v9) 6 (.agg [.i 0, .i 0, .i 0, .i 0, .nilsl])) 6 v12) M11) := by intros; kernel_rfl
 refine (h (k3_12 c nl lo q3_7)).trans ?_
 unfold b3_37; simp only [(t3_12 c nl lo q3_7 j3_7 h3_7), h3_7] <;> (show _ = _; kernel_rfl)
def k3_11 (c : CallT) (nl lo : Nat) (q3_7 : Rg → MM → OR) : Rg → MM → OR := (execC c modeF lo nl p3_127 (k3_10 c nl lo q3_7) (fun i ρ M => if i = 0 then (k3_5 c nl lo) ρ M else noE i ρ M) (endK cf3.res))
@[reducible] def b3_11 (c : CallT) (nl lo : Nat) (j3_7 : AV → AV → AV → AV → AV → MM → OR) (x3 x4 x42 x43 x44 : AV) (M : MM) : OR :=
 b3_37 c nl lo j3_7 x3 x4 x42 x43 x44 M
theorem t3_11 (c : CallT) (nl lo : Nat) (q3_7 : Rg → MM → OR) (j3_7 : AV → AV → AV → AV → AV → MM → OR) (h3_7 : ∀ (ρ : Rg) (M : MM), q3_7 ρ M = j3_7 (ρ 3) (ρ 4) (ρ 42) (ρ 43) (ρ 44) M) (ρ : Rg) (M : MM) : k3_11 c nl lo q3_7 ρ M = b3_11 c nl lo j3_7 (ρ 3) (ρ 4) (ρ 42) (ρ 43) (ρ 44) M := by
 have h : k3_11 c nl lo q3_7 ρ M = (k3_37 c nl lo q3_7 ρ M) := by kernel_rfl
 rw [h]
 unfold b3_11; simp only [(t3_37 c nl lo q3_7 j3_7 h3_7), h3_7] <;> (show _ = _; kernel_rfl)
def k3_9 (c : CallT) (nl lo : Nat) (q3_7 : Rg → MM → OR) : Rg → MM → OR := (execC c modeF lo nl p3_129 q3_7 (fun i ρ M => if i = 0 then (k3_5 c nl lo) ρ M else noE i ρ M) (endK cf3.res))
@[reducible] def b3_9 (c : CallT) (nl lo : Nat) (j3_7 : AV → AV → AV → AV → AV → MM → OR) (x3 x4 x42 x43 x44 : AV) (M : MM) : OR :=
 b3_11 c nl lo j3_7 x3 x4 x42 x43 x44 M
theorem t3_9 (c : CallT) (nl lo : Nat) (q3_7 : Rg → MM → OR) (j3_7 : AV → AV → AV → AV → AV → MM → OR) (h3_7 : ∀ (ρ : Rg) (M : MM), q3_7 ρ M = j3_7 (ρ 3) (ρ 4) (ρ 42) (ρ 43) (ρ 44) M) (ρ : Rg) (M : MM) : k3_9 c nl lo q3_7 ρ M = b3_9 c nl lo j3_7 (ρ 3) (ρ 4) (ρ 42) (ρ 43) (ρ 44) M := by
 have h : k3_9 c nl lo q3_7 ρ M = (k3_11 c nl lo q3_7 ρ M) := execC_seq c modeF lo nl p3_127 p3_128 q3_7 (fun i ρ M => if i = 0 then (k3_5 c nl lo) ρ M else noE i ρ M) (endK cf3.res) ρ M
 rw [h]
 unfold b3_9; simp only [(t3_11 c nl lo q3_7 j3_7 h3_7), h3_7] <;> (show _ = _; kernel_rfl)
def k3_38 (c : CallT) (nl lo : Nat) (q3_7 : Rg → MM → OR) : Rg → MM → OR := (execC c modeF lo nl p3_15 (k3_9 c nl lo q3_7) (fun i ρ M => if i = 0 then (k3_5 c nl lo) ρ M else noE i ρ M) (endK cf3.res))
@[reducible] def b3_38 (c : CallT) (nl lo : Nat) (j3_7 : AV → AV → AV → AV → AV → MM → OR) (x3 x4 x42 x43 x44 x45 : AV) (M : MM) : OR :=
 isB x45 fun c6 => if c6 then (b3_9 c nl lo j3_7 x3 x4 x42 x43 x44 M)
 else (b3_5 c nl lo M)
theorem t3_38 (c : CallT) (nl lo : Nat) (q3_7 : Rg → MM → OR) (j3_7 : AV → AV → AV → AV → AV → MM → OR) (h3_7 : ∀ (ρ : Rg) (M : MM), q3_7 ρ M = j3_7 (ρ 3) (ρ 4) (ρ 42) (ρ 43) (ρ 44) M) (ρ : Rg) (M : MM) : k3_38 c nl lo q3_7 ρ M = b3_38 c nl lo j3_7 (ρ 3) (ρ 4) (ρ 42) (ρ 43) (ρ 44) (ρ 45) M := by
 have h : ∀ (z0 z1 : Rg → MM → OR), (execC c modeF lo nl p3_15 z1 (fun i ρ M => if i = 0 then z0 ρ M else noE i ρ M) (endK cf3.res)) ρ M = (isB (ρ 45) fun c6 => if c6 then (z1 ρ M)
 else (z0 ρ M)) := by intros; kernel_rfl
 refine (h (k3_5 c nl lo) (k3_9 c nl lo q3_7)).trans ?_
 unfold b3_38; simp only [(t3_5 c nl lo), (t3_9 c nl lo q3_7 j3_7 h3_7), h3_7] <;> (show _ = _; kernel_rfl)
def k3_8 (c : CallT) (nl lo : Nat) (q3_7 : Rg → MM → OR) : Rg → MM → OR := (execC c modeF lo nl p3_130 q3_7 (fun i ρ M => if i = 0 then (k3_5 c nl lo) ρ M else noE i ρ M) (endK cf3.res))
@[reducible] def b3_8 (c : CallT) (nl lo : Nat) (j3_7 : AV → AV → AV → AV → AV → MM → OR) (x3 x4 x42 x43 x44 x45 : AV) (M : MM) : OR :=
 b3_38 c nl lo j3_7 x3 x4 x42 x43 x44 x45 M
theorem t3_8 (c : CallT) (nl lo : Nat) (q3_7 : Rg → MM → OR) (j3_7 : AV → AV → AV → AV → AV → MM → OR) (h3_7 : ∀ (ρ : Rg) (M : MM), q3_7 ρ M = j3_7 (ρ 3) (ρ 4) (ρ 42) (ρ 43) (ρ 44) M) (ρ : Rg) (M : MM) : k3_8 c nl lo q3_7 ρ M = b3_8 c nl lo j3_7 (ρ 3) (ρ 4) (ρ 42) (ρ 43) (ρ 44) (ρ 45) M := by
 have h : k3_8 c nl lo q3_7 ρ M = (k3_38 c nl lo q3_7 ρ M) := execC_seq c modeF lo nl p3_15 p3_129 q3_7 (fun i ρ M => if i = 0 then (k3_5 c nl lo) ρ M else noE i ρ M) (endK cf3.res) ρ M
 rw [h]
 unfold b3_8; simp only [(t3_38 c nl lo q3_7 j3_7 h3_7), h3_7] <;> (show _ = _; kernel_rfl)
def k3_39 (c : CallT) (nl lo : Nat) (q3_7 : Rg → MM → OR) : Rg → MM → OR := (execC c modeF lo nl p3_14 (k3_8 c nl lo q3_7) (fun i ρ M => if i = 0 then (k3_5 c nl lo) ρ M else noE i ρ M) (endK cf3.res))
@[reducible] def b3_39 (c : CallT) (nl lo : Nat) (j3_7 : AV → AV → AV → AV → AV → MM → OR) (x3 x4 x42 x43 x44 : AV) (M : MM) : OR :=
 opt (binA .lss .none x44 x43) fun v6 =>
 b3_8 c nl lo j3_7 x3 x4 x42 x43 x44 v6 M
theorem t3_39 (c : CallT) (nl lo : Nat) (q3_7 : Rg → MM → OR) (j3_7 : AV → AV → AV → AV → AV → MM → OR) (h3_7 : ∀ (ρ : Rg) (M : MM), q3_7 ρ M = j3_7 (ρ 3) (ρ 4) (ρ 42) (ρ 43) (ρ 44) M) (ρ : Rg) (M : MM) : k3_39 c nl lo q3_7 ρ M = b3_39 c nl lo j3_7 (ρ 3) (ρ 4) (ρ 42) (ρ 43) (ρ 44) M := by
 have h : ∀ (z0 : Rg → MM → OR), (execC c modeF lo nl p3_14 z0 (fun i ρ M => if i = 0 then (k3_5 c nl lo) ρ M else noE i ρ M) (endK cf3.res)) ρ M = (opt (binA .lss .none (ρ 44) (ρ 43)) fun v6 =>
 z0 (sF ρ 45 v6) M) := by intros; kernel_rfl
 refine (h (k3_8 c nl lo q3_7)).trans ?_
 unfold b3_39; simp only [(t3_8 c nl lo q3_7 j3_7 h3_7), h3_7] <;> (show _ = _; kernel_rfl)
def k3_7 (c : CallT) (nl lo : Nat) (n : Nat) : Rg → MM → OR := iterC (fun k ρ M => execC c modeF lo nl p3_131 k (fun i ρ M => if i = 0 then (k3_5 c nl lo) ρ M else noE i ρ M) (endK cf3.res) ρ M) n
def b3_7 (c : CallT) (nl lo : Nat) : Nat → AV → AV → AV → AV → AV → MM → OR
 | 0, _, _, _, _, _, _ => none
 | n + 1, x3, x4, x42, x43, x44, M =>
 b3_39 c nl lo (b3_7 c nl lo n) x3 x4 x42 x43 x44 M
theorem t3_7 (c : CallT) (nl lo : Nat) : ∀ (n : Nat) (ρ : Rg) (M : MM), k3_7 c nl lo n ρ M = b3_7 c nl lo n (ρ 3) (ρ 4) (ρ 42) (ρ 43) (ρ 44) M
 | 0, ρ, M => rfl
 | n + 1, ρ, M => by
  have h : k3_7 c nl lo (n + 1) ρ M = (k3_39 c nl lo (k3_7 c nl lo n) ρ M) := execC_seq c modeF lo nl p3_14 p3_130 (k3_7 c nl lo n) (fun i ρ M => if i = 0 then (k3_5 c nl lo) ρ M else noE i ρ M) (endK cf3.res) ρ M
  rw [h]
  unfold b3_7; simp only [(t3_39 c nl lo (k3_7 c nl lo n) (b3_7 c nl lo n) (t3_7 c nl lo n)), (t3_7 c nl lo n)] <;> (show _ = _; kernel_rfl)
def k3_6 (c : CallT) (nl lo : Nat) : Rg → MM → OR := (execC c modeF lo nl p3_134 (k3_5 c nl lo) noE (endK cf3.res))
@[reducible] def b3_6 (c : CallT) (nl lo : Nat) (x0 x3 x4 : AV) (M : MM) : OR :=
 opt (lenA x0) fun v4 =>
 b3_7 c nl lo nl x3 x4 x0 v4 (.i 0) M
theorem t3_6 (c : CallT) (nl lo : Nat) (ρ : Rg) (M : MM) : k3_6 c nl lo ρ M = b3_6 c nl lo (ρ 0) (ρ 3) (ρ 4) M := by
 have h : k3_6 c nl lo ρ M = (opt (lenA (ρ 0)) fun v4 =>
 k3_7 c nl lo nl (sF (sF (sF ρ 42 (ρ 0)) 43 v4) 44 (.i 0)) M) := by kernel_rfl
 rw [h]
 unfold b3_6; simp only [(t3_7 c nl lo nl)] <;> (show _ = _; kernel_rfl)
def k3_4 (c : CallT) (nl lo : Nat) : Rg → MM → OR := (execC c modeF lo nl p3_137 (endK cf3.res) noE (endK cf3.res))
@[reducible] def b3_4 (c : CallT) (nl lo : Nat) (x0 x3 x4 : AV) (M : MM) : OR :=
 b3_6 c nl lo x0 x3 x4 M
theorem t3_4 (c : CallT) (nl lo : Nat) (ρ : Rg) (M : MM) : k3_4 c nl lo ρ M = b3_4 c nl lo (ρ 0) (ρ 3) (ρ 4) M := by
 have h : k3_4 c nl lo ρ M = (k3_6 c nl lo ρ M) := execC_seq c modeF lo nl p3_134 p3_136 (endK cf3.res) noE (endK cf3.res) ρ M
 rw [h]
 unfold b3_4; simp only [(t3_6 c nl lo)] <;> (show _ = _; kernel_rfl)
def k3_40 (c : CallT) (nl lo : Nat) : Rg → MM → OR := (execC c modeF lo nl p3_12 (k3_4 c nl lo) noE (endK cf3.res))
@[reducible] def b3_40 (c : CallT) (nl lo : Nat) (x0 x3 x4 : AV) (M : MM) : OR :=
 opt (binA .eql .ptr x3 .nil) fun v2 =>
 isB v2 fun c3 => if c3 then (some ((.bool false), M))
 else (b3_4 c nl lo x0 x3 x4 M)
theorem t3_40 (c : CallT) (nl lo : Nat) (ρ : Rg) (M : MM) : k3_40 c nl lo ρ M = b3_40 c nl lo (ρ 0) (ρ 3) (ρ 4) M := by
 have h : ∀ (z0 : Rg → MM → OR), (execC c modeF lo nl p3_12 z0 noE (endK cf3.res)) ρ M = (opt (binA .eql .ptr (ρ 3) .nil) fun v2 =>
 isB v2 fun c3 => if c3 then (some ((.bool false), M))
 else (z0 (sF (sF ρ 40 (ρ 3)) 41 v2) M)) := by intros; kernel_rfl
 refine (h (k3_4 c nl lo)).trans ?_
 unfold b3_40; simp only [(t3_4 c nl lo)] <;> (show _ = _; kernel_rfl)
def k3_3 (c : CallT) (nl lo : Nat) : Rg → MM → OR := (execC c modeF lo nl p3_138 (endK cf3.res) noE (endK cf3.res))
@[reducible] def b3_3 (c : CallT) (nl lo : Nat) (x0 x3 x4 : AV) (M : MM) : OR :=
 b3_40 c nl lo x0 x3 x4 M
theorem t3_3 (c : CallT) (nl lo : Nat) (ρ : Rg) (M : MM) : k3_3 c nl lo ρ M = b3_3 c nl lo (ρ 0) (ρ 3) (ρ 4) M := by
 have h : k3_3 c nl lo ρ M = (k3_40 c nl lo ρ M) := execC_seq c modeF lo nl p3_12 p3_137 (endK cf3.res) noE (endK cf3.res) ρ M
 rw [h]
 unfold b3_3; simp only [(t3_40 c nl lo)] <;> (show _ = _; kernel_rfl)
def k3_41 (c : CallT) (nl lo : Nat) : Rg → MM → OR := (execC c modeF lo nl p3_7 (k3_3 c nl lo) noE (endK cf3.res))
@[reducible] def b3_41 (c : CallT) (nl lo : Nat) (x0 : AV) (M : MM) : OR :=
 bnd (c 6 [] lo M) fun v1 M2 =>
 bnd (c 7 [] lo M2) fun v3 M4 =>
 b3_3 c nl lo x0 v1 v3 M4
theorem t3_41 (c : CallT) (nl lo : Nat) (ρ : Rg) (M : MM) : k3_41 c nl lo ρ M = b3_41 c nl lo (ρ 0) M := by
 have h : ∀ (z0 : Rg → MM → OR), (execC c modeF lo nl p3_7 z0 noE (endK cf3.res)) ρ M = (bnd (c 6 [] lo M) fun v1 M2 =>
 bnd (c 7 [] lo M2) fun v3 M4 =>
 z0 (sF (sF (sF (sF ρ 38 v1) 39 v3) 3 v1) 4 v3) M4) := by intros; kernel_rfl
 refine (h (k3_3 c nl lo)).trans ?_
 unfold b3_41; simp only [(t3_3 c nl lo)] <;> (show _ = _; kernel_rfl)
def k3_2 (c : CallT) (nl lo : Nat) : Rg → MM → OR := (execC c modeF lo nl p3_139 (endK cf3.res) noE (endK cf3.res))
@[reducible] def b3_2 (c : CallT) (nl lo : Nat) (x0 : AV) (M : MM) : OR :=
 b3_41 c nl lo x0 M
theorem t3_2 (c : CallT) (nl lo : Nat) (ρ : Rg) (M : MM) : k3_2 c nl lo ρ M = b3_2 c nl lo (ρ 0) M := by
 have h : k3_2 c nl lo ρ M = (k3_41 c nl lo ρ M) := execC_seq c modeF lo nl p3_7 p3_138 (endK cf3.res) noE (endK cf3.res) ρ M
 rw [h]
 unfold b3_2; simp only [(t3_41 c nl lo)] <;> (show _ = _; kernel_rfl)
def k3_42 (c : CallT) (nl lo : Nat) : Rg → MM → OR := (execC c modeF lo nl p3_6 (k3_2 c nl lo) noE (endK cf3.res))
@[reducible] def b3_42 (c : CallT) (nl lo : Nat) (x0 : AV) (M : MM) : OR :=
 opt (puA c (lk M) 4 [x0]) fun v2 =>
 opt (unA .not v2) fun v3 =>
 isB v3 fun c4 => if c4 then (opt (puA c (lk M) 5 []) fun v5 =>
 some (v5, M))
 else (b3_2 c nl lo x0 M)
theorem t3_42 (c : CallT) (nl lo : Nat) (ρ : Rg) (M : MM) : k3_42 c nl lo ρ M = b3_42 c nl lo (ρ 0) M := by
 have h : ∀ (z0 : Rg → MM → OR), (execC c modeF lo nl p3_6 z0 noE (endK cf3.res)) ρ M = (opt (puA c (lk M) 4 [(ρ 0)]) fun v2 =>
 opt (unA .not v2) fun v3 =>
 isB v3 fun c4 => if c4 then (opt (puA c (lk M) 5 []) fun v5 =>
 some (v5, M))
 else (z0 (sF (sF (sF ρ 34 (ρ 0)) 35 v2) 36 v3) M)) := by intros; kernel_rfl
 refine (h (k3_2 c nl lo)).trans ?_
 unfold b3_42; simp only [(t3_2 c nl lo)] <;> (show _ = _; kernel_rfl)
def k3_1 (c : CallT) (nl lo : Nat) : Rg → MM → OR := (execC c modeF lo nl p3_140 (endK cf3.res) noE (endK cf3.res))
@[reducible] def b3_1 (c : CallT) (nl lo : Nat) (x0 : AV) (M : MM) : OR :=
 b3_42 c nl lo x0 M
theorem t3_1 (c : CallT) (nl lo : Nat) (ρ : Rg) (M : MM) : k3_1 c nl lo ρ M = b3_1 c nl lo (ρ 0) M := by
 have h : k3_1 c nl lo ρ M = (k3_42 c nl lo ρ M) := execC_seq c modeF lo nl p3_6 p3_139 (endK cf3.res) noE (endK cf3.res) ρ M
 rw [h]
 unfold b3_1; simp only [(t3_42 c nl lo)] <;> (show _ = _; kernel_rfl)
def k3_43 (c : CallT) (nl lo : Nat) : Rg → MM → OR := (execC c modeF lo nl p3_1 (k3_1 c nl lo) noE (endK cf3.res))
@[reducible] def b3_43 (c : CallT) (nl lo : Nat) (x0 : AV) (M : MM) : OR :=
 b3_1 c nl lo x0 M
theorem t3_43 (c : CallT) (nl lo : Nat) (ρ : Rg) (M : MM) : k3_43 c nl lo ρ M = b3_43 c nl lo (ρ 0) M := by
 have h : ∀ (z0 : Rg → MM → OR), (execC c modeF lo nl p3_1 z0 noE (endK cf3.res)) ρ M = (z0 (sF ρ 2 (.bool false)) M) := by intros; kernel_rfl
 refine (h (k3_1 c nl lo)).trans ?_
 unfold b3_43; simp only [(t3_1 c nl lo)] <;> (show _ = _; kernel_rfl)
def k3_0 (c : CallT) (nl lo : Nat) : Rg → MM → OR := (execC c modeF lo nl p3_141 (endK cf3.res) noE (endK cf3.res))
@[reducible] def b3_0 (c : CallT) (nl lo : Nat) (x0 : AV) (M : MM) : OR :=
 b3_43 c nl lo x0 M
theorem t3_0 (c : CallT) (nl lo : Nat) (ρ : Rg) (M : MM) : k3_0 c nl lo ρ M = b3_0 c nl lo (ρ 0) M := by
 have h : k3_0 c nl lo ρ M = (k3_43 c nl lo ρ M) := execC_seq c modeF lo nl p3_1 p3_140 (endK cf3.res) noE (endK cf3.res) ρ M
 rw [h]
 unfold b3_0; simp only [(t3_43 c nl lo)] <;> (show _ = _; kernel_rfl)
def k3_44 (c : CallT) (nl lo : Nat) : Rg → MM → OR := (execC c modeF lo nl p3_0 (k3_0 c nl lo) noE (endK cf3.res))
@[reducible] def b3_44 (c : CallT) (nl lo : Nat) (x0 : AV) (M : MM) : OR :=
 b3_0 c nl lo x0 M
theorem t3_44 (c : CallT) (nl lo : Nat) (ρ : Rg) (M : MM) : k3_44 c nl lo ρ M = b3_44 c nl lo (ρ 0) M := by
 have h : ∀ (z0 : Rg → MM → OR), (execC c modeF lo nl p3_0 z0 noE (endK cf3.res)) ρ M = (z0 (sF ρ 6 (.tup [])) M) := by intros; kernel_rfl
 refine (h (k3_0 c nl lo)).trans ?_
 unfold b3_44; simp only [(t3_0 c nl lo)] <;> (show _ = _; kernel_rfl)
def s3 (c : CallT) (nl lo : Nat) (a0 : AV) (M : MM) : OR :=
 b3_44 c nl lo a0 M
theorem e3 (c : CallT) (nl lo : Nat) (a0 : AV) (M : MM) : execC c modeF lo nl cf3.body (endK cf3.res) noE (endK cf3.res) (aF [a0]) M = s3 c nl lo a0 M := by
 have h : execC c modeF lo nl cf3.body (endK cf3.res) noE (endK cf3.res) (aF [a0]) M = (k3_44 c nl lo (aF [a0]) M) := execC_seq c modeF lo nl p3_0 p3_141 (endK cf3.res) noE (endK cf3.res) (aF [a0]) M
 refine h.trans ?_
 unfold s3; simp only [(t3_44 c nl lo)] <;> (show _ = _; kernel_rfl)
theorem q3 {c : CallT} (hc : Lim GK c) (lo : Nat) (a0 : AV) (M : MM) : c 3 [a0] lo M = s3 c GK.nl lo a0 M :=
 (hc.flow (cf := cf3) rfl w3 [a0] lo M).trans (e3 c GK.nl lo a0 M)

/-! ### function 4 -/
theorem w4 : wfK cf4.nt cf4.body = true := by kernel_rfl
def k4_100 (c : CallT) (nl lo : Nat) : Rg → MM → OR := (execC c modeF lo nl p4_26 (endK cf4.res) noE (endK cf4.res))
@[reducible] def b4_100 (c : CallT) (nl lo : Nat) (M : MM) : OR :=
 some ((.bool true), M)
theorem t4_100 (c : CallT) (nl lo : Nat) (ρ : Rg) (M : MM) : k4_100 c nl lo ρ M = b4_100 c nl lo M := by
 kernel_rfl
def k4_5 (c : CallT) (nl lo : Nat) (n : Nat) : Rg → MM → OR := iterC (fun k ρ M => execC c modeF lo nl p4_21 k (fun i ρ M => if i = 0 then (k4_100 c nl lo) ρ M else noE i ρ M) (endK cf4.res) ρ M) n
def b4_5 (c : CallT) (nl lo : Nat) : Nat → AV → AV → AV → MM → OR
 | 0, _, _, _, _ => none
 | n + 1, x8, x9, x10, M =>
 opt (binA .lss .none x10 x9) fun v12 =>
 isB v12 fun c13 => if c13 then (opt (ixsA 5 x8 x10) fun v14 =>
 opt (ldnA (lk M) 5 v14) fun v15 =>
 upK M M.nx fun M17 =>
 opt (setcA 0 5 (.agg [.i 0, .i 0, .i 0, .i 0, .nilsl]) v15) fun v18 =>
 opt (fldA 0 0 true v18) fun v19 =>
 opt (fldA 4 1 false v18) fun v20 =>
 opt (lenA v20) fun v21 =>
 opt (binA .gtr .none v21 (.i 100)) fun v22 =>
 isB v22 fun c23 => if c23 then (some ((.bool false), M17))
 else (opt (binA .add .none x10 (.i 1)) fun v25 =>
 (b4_5 c nl lo n) x8 x9 v25 M17))
 else (b4_100 c nl lo M)
theorem t4_5 (c : CallT) (nl lo : Nat) : ∀ (n : Nat) (ρ : Rg) (M : MM), k4_5 c nl lo n ρ M = b4_5 c nl lo n (ρ 8) (ρ 9) (ρ 10) M
 | 0, ρ, M => rfl
 | n + 1, ρ, M => by
  have h : k4_5 c nl lo (n + 1) ρ M = (opt (binA .lss .none (ρ 10) (ρ 9)) fun v12 =>
  isB v12 fun c13 => if c13 then (opt (ixsA 5 (ρ 8) (ρ 10)) fun v14 =>
  opt (ldnA (lk M) 5 v14) fun v15 =>
  upK M M.nx fun M17 =>
  opt (setcA 0 5 (.agg [.i 0, .i 0, .i 0, .i 0, .nilsl]) v15) fun v18 =>
  opt (fldA 0 0 true v18) fun v19 =>
  opt (fldA 4 1 false v18) fun v20 =>
  opt (lenA v20) fun v21 =>
  opt (binA .gtr .none v21 (.i 100)) fun v22 =>
  isB v22 fun c23 => if c23 then (some ((.bool false), M17))
  else (opt (binA .add .none (ρ 10) (.i 1)) fun v25 =>
  (k4_5 c nl lo n) (sF (sF (sF (sF (sF (sF (sF (sF (sF (sF (sF ρ 11 v12) 12 v14) 13 v15) 4 (.agg [.i 0, .i 0, .i 0, .i 0, .nilsl])) 4 v18) 14 v19) 15 v20) 16 v21) 17 v22) 18 v25) 10 v25) M17))
  else (k4_100 c nl lo (sF ρ 11 v12) M)) := by kernel_rfl
  rw [h]
  unfold b4_5; simp only [(t4_100 c nl lo), (t4_5 c nl lo n)] <;> (show _ = _; kernel_rfl)
def k4_101 (c : CallT) (nl lo : Nat) : Rg → MM → OR := (execC c modeF lo nl p4_24 (k4_100 c nl lo) noE (endK cf4.res))
@[reducible] def b4_101 (c : CallT) (nl lo : Nat) (x0 : AV) (M : MM) : OR :=
 opt (lenA x0) fun v10 =>
 b4_5 c nl lo nl x0 v10 (.i 0) M
theorem t4_101 (c : CallT) (nl lo : Nat) (ρ : Rg) (M : MM) : k4_101 c nl lo ρ M = b4_101 c nl lo (ρ 0) M := by
 have h : k4_101 c nl lo ρ M = (opt (lenA (ρ 0)) fun v10 =>
 k4_5 c nl lo nl (sF (sF (sF ρ 8 (ρ 0)) 9 v10) 10 (.i 0)) M) := by kernel_rfl
 rw [h]
 unfold b4_101; simp only [(t4_5 c nl lo nl)] <;> (show _ = _; kernel_rfl)
def s4 (c : CallT) (nl lo : Nat) (a0 : AV) (M : MM) : OR :=
 opt (lenA a0) fun v4 =>
 opt (binA .gtr .none v4 (.i 80)) fun v5 =>
 isB v5 fun c6 => if c6 then (some ((.bool false), M))
 else (b4_101 c nl lo a0 M)
theorem e4 (c : CallT) (nl lo : Nat) (a0 : AV) (M : MM) : execC c modeF lo nl cf4.body (endK cf4.res) noE (endK cf4.res) (aF [a0]) M = s4 c nl lo a0 M := by
 have h : execC c modeF lo nl cf4.body (endK cf4.res) noE (endK cf4.res) (aF [a0]) M = (opt (lenA a0) fun v4 =>
 opt (binA .gtr .none v4 (.i 80)) fun v5 =>
 isB v5 fun c6 => if c6 then (some ((.bool false), M))
 else (k4_101 c nl lo (sF (sF (sF (sF (sF (aF [a0]) 4 (.tup [])) 2 (.bool false)) 5 a0) 6 v4) 7 v5) M)) := by kernel_rfl
 refine h.trans ?_
 unfold s4; simp only [(t4_101 c nl lo)] <;> (show _ = _; kernel_rfl)
theorem q4 {c : CallT} (hc : Lim GK c) (lo : Nat) (a0 : AV) (M : MM) : c 4 [a0] lo M = s4 c GK.nl lo a0 M :=
 (hc.flow (cf := cf4) rfl w4 [a0] lo M).trans (e4 c GK.nl lo a0 M)

/-! ### function 5 -/
theorem w5 : wfK cf5.nt cf5.body = true := by kernel_rfl
def s5 (c : CallT) (nl lo : Nat) (M : MM) : OR :=
 bnd (c 6 [] lo M) fun v2 M3 =>
 opt (binA .eql .ptr v2 .nil) fun v6 =>
 isB v6 fun c7 => if c7 then (some ((.bool false), M3))
 else (bnd (c 25 [v2, (.i 2), (.i 1)] lo M3) fun v10 M11 =>
 opt (extA 0 v10) fun v13 =>
 opt (extA 1 v10) fun v14 =>
 bnd (istep c modeF false lo (.top M11.nx) M11.nx (.vsl 5 1 1 [.int .u8 0] [(0, 1, .k (.int .u8 1))]) [] M11) fun v19 M20 =>
 bnd (c 9 [v2, v13, (.i 0), v19] lo M20) fun v21 M22 =>
 opt (roA c (.top M22.nx) 12 [v2, v13, (.i 0), (.i 2)] M22) fun v26 =>
 opt (extA 0 v26) fun v28 =>
 opt (extA 1 v26) fun v29 =>
 bnd (c 16 [v2, v13] lo M22) fun v34 M35 =>
 opt (extA 0 v34) fun v37 =>
 opt (extA 1 v34) fun v38 =>
 bnd (c 18 [v2, v13] lo M35) fun v43 M44 =>
 opt (roA c (.top M44.nx) 12 [v2, v13, (.i 0), (.i 1)] M44) fun v48 =>
 opt (extA 0 v48) fun v50 =>
 opt (extA 1 v48) fun v51 =>
 opt (binA .eql .none v14 (.i 0)) fun v55 =>
 opt (gdp v55 true (some v13)) fun v57 =>
 opt (gdp v55 true (binA .eql .none v57 (.int .u64 8))) fun v58 =>
 opt (pickA v55 v58 (.bool false)) fun v59 =>
 opt (gdp v59 true (some v21)) fun v61 =>
 opt (gdp v59 true (binA .eql .none v61 (.i 0))) fun v62 =>
 opt (pickA v59 v62 (.bool false)) fun v63 =>
 opt (gdp v63 true (some v29)) fun v65 =>
 opt (gdp v63 true (binA .eql .none v65 (.i 24))) fun v66 =>
 opt (pickA v63 v66 (.bool false)) fun v67 =>
 opt (gdp v67 true (some v37)) fun v69 =>
 opt (gdp v67 true (binA .eql .none v69 (.i 0))) fun v70 =>
 opt (pickA v67 v70 (.bool false)) fun v71 =>
 opt (gdp v71 true (some v38)) fun v73 =>
 opt (gdp v71 true (binA .eql .none v73 (.i 0))) fun v74 =>
 opt (pickA v71 v74 (.bool false)) fun v75 =>
 opt (gdp v75 true (some v43)) fun v77 =>
 opt (gdp v75 true (binA .eql .none v77 (.i 0))) fun v78 =>
 opt (pickA v75 v78 (.bool false)) fun v79 =>
 opt (gdp v79 true (some v51)) fun v81 =>
 opt (gdp v79 true (binA .eql .none v81 (.i 23))) fun v82 =>
 opt (pickA v79 v82 (.bool false)) fun v83 =>
 opt (gdp v83 true (some v2)) fun v85 =>
 opt (gdp v83 true (roA c (.top M44.nx) 27 [v85] M44)) fun v86 =>
 opt (gdp v83 true (binA .eql .none v86 (.i 0))) fun v87 =>
 opt (pickA v83 v87 (.bool false)) fun v88 =>
 some (v88, M44))
theorem e5 (c : CallT) (nl lo : Nat) (M : MM) : execC c modeF lo nl cf5.body (endK cf5.res) noE (endK cf5.res) (aF []) M = s5 c nl lo M := by
 kernel_rfl
theorem q5 {c : CallT} (hc : Lim GK c) (lo : Nat) (M : MM) : c 5 [] lo M = s5 c GK.nl lo M :=
 (hc.flow (cf := cf5) rfl w5 [] lo M).trans (e5 c GK.nl lo M)

/-! ### function 6 -/
theorem w6 : wfK cf6.nt cf6.body = true := by kernel_rfl
def s6 (c : CallT) (nl lo : Nat) (M : MM) : OR :=
 opt ((fill [.nilsl, .i 0] []).map .agg) fun v2 =>
 bnd (istep c modeF false lo (.top M.nx) M.nx (.box 49 (.k v2)) [] M) fun v3 M4 =>
 some (v3, M4)
theorem e6 (c : CallT) (nl lo : Nat) (M : MM) : execC c modeF lo nl cf6.body (endK cf6.res) noE (endK cf6.res) (aF []) M = s6 c nl lo M := by
 kernel_rfl
theorem q6 {c : CallT} (hc : Lim GK c) (lo : Nat) (M : MM) : c 6 [] lo M = s6 c GK.nl lo M :=
 (hc.flow (cf := cf6) rfl w6 [] lo M).trans (e6 c GK.nl lo M)

/-! ### function 7 -/
theorem w7 : wfK cf7.nt cf7.body = true := by kernel_rfl
def s7 (c : CallT) (nl lo : Nat) (M : MM) : OR :=
 opt ((fill [.nilsl] []).map .agg) fun v2 =>
 bnd (istep c modeF false lo (.top M.nx) M.nx (.box 52 (.k v2)) [] M) fun v3 M4 =>
 some (v3, M4)
theorem e7 (c : CallT) (nl lo : Nat) (M : MM) : execC c modeF lo nl cf7.body (endK cf7.res) noE (endK cf7.res) (aF []) M = s7 c nl lo M := by
 kernel_rfl
theorem q7 {c : CallT} (hc : Lim GK c) (lo : Nat) (M : MM) : c 7 [] lo M = s7 c GK.nl lo M :=
 (hc.flow (cf := cf7) rfl w7 [] lo M).trans (e7 c GK.nl lo M)

/-! ### function 8 -/
theorem w8 : wfK cf8.nt cf8.body = true := by kernel_rfl
def k8_0 (c : CallT) (nl lo : Nat) : Rg → MM → OR := (execC c modeF lo nl p8_13 (endK cf8.res) noE (endK cf8.res))
@[reducible] def b8_0 (c : CallT) (nl lo : Nat) (x3 : AV) (M : MM) : OR :=
 opt (binA .add .none x3 (.i 1)) fun v19 =>
 opt (binA .mul .none (.i 8) v19) fun v20 =>
 opt (cviA .u64 v20) fun v21 =>
 some (v21, M)
theorem t8_0 (c : CallT) (nl lo : Nat) (ρ : Rg) (M : MM) : k8_0 c nl lo ρ M = b8_0 c nl lo (ρ 3) M := by
 kernel_rfl
def k8_1 (c : CallT) (nl lo : Nat) : Rg → MM → OR := (execC c modeF lo nl p8_11 (k8_0 c nl lo) noE (endK cf8.res))
@[reducible] def b8_1 (c : CallT) (nl lo : Nat) (x3 : AV) (M : MM) : OR :=
 opt (binA .lss .none x3 (.i 0)) fun v24 =>
 isB v24 fun c25 => if c25 then (opt (binA .add .none x3 (.i 6)) fun v27 =>
 b8_0 c nl lo v27 M)
 else (b8_0 c nl lo x3 M)
theorem t8_1 (c : CallT) (nl lo : Nat) (ρ : Rg) (M : MM) : k8_1 c nl lo ρ M = b8_1 c nl lo (ρ 3) M := by
 have h : ∀ (z0 : Rg → MM → OR), (execC c modeF lo nl p8_11 z0 noE (endK cf8.res)) ρ M = (opt (binA .lss .none (ρ 3) (.i 0)) fun v24 =>
 isB v24 fun c25 => if c25 then (opt (binA .add .none (ρ 3) (.i 6)) fun v27 =>
 z0 (sF (sF (sF (sF (sF ρ 14 (ρ 3)) 15 v24) 16 (ρ 3)) 17 v27) 3 v27) M)
 else (z0 (sF (sF ρ 14 (ρ 3)) 15 v24) M)) := by intros; kernel_rfl
 refine (h (k8_0 c nl lo)).trans ?_
 unfold b8_1; simp only [(t8_0 c nl lo)] <;> (show _ = _; kernel_rfl)
def s8 (c : CallT) (nl lo : Nat) (a0 : AV) (M : MM) : OR :=
 opt (aggA a0) fun v2 =>
 upK M M.nx fun M3 =>
 opt (fldA 0 0 true v2) fun v5 =>
 opt (fldA 1 1 false v2) fun v6 =>
 opt (binA .rem .none v6 (.i 9)) fun v7 =>
 opt (binA .eql .none v7 (.i 8)) fun v8 =>
 isB v8 fun c9 => if c9 then (opt (fldA 0 0 true v2) fun v10 =>
 opt (fldA 1 1 false v2) fun v11 =>
 opt (cviA .u64 v11) fun v12 =>
 some (v12, M3))
 else (opt (fldA 0 0 true v2) fun v14 =>
 opt (fldA 1 1 false v2) fun v15 =>
 opt (binA .rem .none v15 (.i 6)) fun v16 =>
 b8_1 c nl lo v16 M3)
theorem e8 (c : CallT) (nl lo : Nat) (a0 : AV) (M : MM) : execC c modeF lo nl cf8.body (endK cf8.res) noE (endK cf8.res) (aF [a0]) M = s8 c nl lo a0 M := by
 have h : execC c modeF lo nl cf8.body (endK cf8.res) noE (endK cf8.res) (aF [a0]) M = (opt (aggA a0) fun v2 =>
 upK M M.nx fun M3 =>
 opt (fldA 0 0 true v2) fun v5 =>
 opt (fldA 1 1 false v2) fun v6 =>
 opt (binA .rem .none v6 (.i 9)) fun v7 =>
 opt (binA .eql .none v7 (.i 8)) fun v8 =>
 isB v8 fun c9 => if c9 then (opt (fldA 0 0 true v2) fun v10 =>
 opt (fldA 1 1 false v2) fun v11 =>
 opt (cviA .u64 v11) fun v12 =>
 some (v12, M3))
 else (opt (fldA 0 0 true v2) fun v14 =>
 opt (fldA 1 1 false v2) fun v15 =>
 opt (binA .rem .none v15 (.i 6)) fun v16 =>
 k8_1 c nl lo (sF (sF (sF (sF (sF (sF (sF (sF (sF (sF (sF (aF [a0]) 1 (.tup [])) 1 v2) 2 (.int .u64 0)) 4 v5) 5 v6) 6 v7) 7 v8) 11 v14) 12 v15) 13 v16) 3 v16) M3)) := by kernel_rfl
 refine h.trans ?_
 unfold s8; simp only [(t8_1 c nl lo)] <;> (show _ = _; kernel_rfl)
theorem q8 {c : CallT} (hc : Lim GK c) (lo : Nat) (a0 : AV) (M : MM) : c 8 [a0] lo M = s8 c GK.nl lo a0 M :=
 (hc.flow (cf := cf8) rfl w8 [a0] lo M).trans (e8 c GK.nl lo a0 M)

/-! ### function 9 -/
theorem w9 : wfK cf9.nt cf9.body = true := by kernel_rfl
def k9_5 (c : CallT) (nl lo : Nat) : Rg → MM → OR := (execC c modeF lo nl p9_39 (endK cf9.res) noE (endK cf9.res))
@[reducible] def b9_5 (c : CallT) (nl lo : Nat) (M : MM) : OR :=
 some ((.i 0), M)
theorem t9_5 (c : CallT) (nl lo : Nat) (ρ : Rg) (M : MM) : k9_5 c nl lo ρ M = b9_5 c nl lo M := by
 kernel_rfl
def k9_10 (c : CallT) (nl lo : Nat) (q9_7 : Rg → MM → OR) : Rg → MM → OR := (execC c modeF lo nl p9_31 q9_7 (fun i ρ M => if i = 0 then (k9_5 c nl lo) ρ M else noE i ρ M) (endK cf9.res))
@[reducible] def b9_10 (c : CallT) (nl lo : Nat) (j9_7 : AV → AV → AV → AV → AV → MM → OR) (x2 x9 x30 x31 x32 : AV) (M : MM) : OR :=
 opt (binA .add .none x32 (.i 1)) fun v5 =>
 j9_7 x2 x9 x30 x31 v5 M
theorem t9_10 (c : CallT) (nl lo : Nat) (q9_7 : Rg → MM → OR) (j9_7 : AV → AV → AV → AV → AV → MM → OR) (h9_7 : ∀ (ρ : Rg) (M : MM), q9_7 ρ M = j9_7 (ρ 2) (ρ 9) (ρ 30) (ρ 31) (ρ 32) M) (ρ : Rg) (M : MM) : k9_10 c nl lo q9_7 ρ M = b9_10 c nl lo j9_7 (ρ 2) (ρ 9) (ρ 30) (ρ 31) (ρ 32) M := by
 have h : k9_10 c nl lo q9_7 ρ M = (opt (binA .add .none (ρ 32) (.i 1)) fun v5 =>
 q9_7 (sF (sF ρ 71 v5) 32 v5) M) := by kernel_rfl
 rw [h]
 unfold b9_10; simp only [h9_7] <;> (show _ = _; kernel_rfl)
def k9_15 (c : CallT) (nl lo : Nat) (q9_7 : Rg → MM → OR) : Rg → MM → OR := (execC c modeF lo nl p9_25 (k9_10 c nl lo q9_7) (fun i ρ M => if i = 1 then (k9_10 c nl lo q9_7) ρ M else (fun i ρ M => if i = 0 then (k9_5 c nl lo) ρ M else noE i ρ M) i ρ M) (endK cf9.res))
@[reducible] def b9_15 (c : CallT) (nl lo : Nat) (j9_7 : AV → AV → AV → AV → AV → MM → OR) (x2 x9 x12 x13 x14 x30 x31 x32 : AV) (M : MM) : OR :=
 bumpK M 15 fun M7 =>
 opt (binA .rem .none x13 (.i 256)) fun v10 =>
 opt (binA .rem .none x13 (.i 256)) fun v13 =>
 opt (nilcA x14) fun v15 =>
 opt (fadA 0 v15) fun v16 =>
 opt (ixpA 1 256 v16 v10) fun v17 =>
 bnd (istep c modeF true lo (.mk M.nx 15 967 true) (M.nx + 10) (.st 1 (.k v17) (.k x12)) [] M7) fun v18 M19 =>
 opt (nilcA x14) fun v20 =>
 opt (fadA 256 v20) fun v21 =>
 opt (ixpA 1 256 v21 v13) fun v22 =>
 bnd (istep c modeF true lo (.mk M.nx 15 16383 true) (M.nx + 14) (.st 1 (.k v22) (.k (.bool true))) [] M19) fun v23 M24 =>
 b9_10 c nl lo j9_7 x2 x9 x30 x31 x32 M24
theorem t9_15 (c : CallT) (nl lo : Nat) (q9_7 : Rg → MM → OR) (j9_7 : AV → AV → AV → AV → AV → MM → OR) (h9_7 : ∀ (ρ : Rg) (M : MM), q9_7 ρ M = j9_7 (ρ 2) (ρ 9) (ρ 30) (ρ 31) (ρ 32) M) (ρ : Rg) (M : MM) : k9_15 c nl lo q9_7 ρ M = b9_15 c nl lo j9_7 (ρ 2) (ρ 9) (ρ 12) (ρ 13) (ρ 14) (ρ 30) (ρ 31) (ρ 32) M := by
 have h : ∀ (z0 : Rg → MM → OR), (execC c modeF lo nl p9_25 z0 (fun i ρ M => if i = 1 then z0 ρ M else (fun i ρ M => if i = 0 then (k9_5 c nl lo) ρ M else noE i ρ M) i ρ M) (endK cf9.res)) ρ M = (bumpK M 15 fun M7 =>
 opt (binA .rem .none (ρ 13) (.i 256)) fun v10 =>
 opt (binA .rem .none (ρ 13) (.i 256)) fun v13 =>
 opt (nilcA (ρ 14)) fun v15 =>
 opt (fadA 0 v15) fun v16 =>
 opt (ixpA 1 256 v16 v10) fun v17 =>
 bnd (istep c modeF true lo (.mk M.nx 15 967 true) (M.nx + 10) (.st 1 (.k v17) (.k (ρ 12))) [] M7) fun v18 M19 =>
 opt (nilcA (ρ 14)) fun v20 =>
 opt (fadA 256 v20) fun v21 =>
 opt (ixpA 1 256 v21 v13) fun v22 =>
 bnd (istep c modeF true lo (.mk M.nx 15 16383 true) (M.nx + 14) (.st 1 (.k v22) (.k (.bool true))) [] M19) fun v23 M24 =>
 z0 (sF (sF (sF (sF (sF (sF (sF (sF (sF (sF (sF (sF (sF ρ 58 (ρ 14)) 59 (ρ 13)) 60 v10) 61 (ρ 14)) 62 (ρ 13)) 63 v13) 64 (ρ 12)) 65 v15) 66 v16) 67 v17) 68 v20) 69 v21) 70 v22) M24) := by intros; kernel_rfl
 refine (h (k9_10 c nl lo q9_7)).trans ?_
 unfold b9_15; simp only [(t9_10 c nl lo q9_7 j9_7 h9_7), h9_7] <;> (show _ = _; kernel_rfl)
def k9_16 (c : CallT) (nl lo : Nat) (q9_7 : Rg → MM → OR) : Rg → MM → OR := (execC c modeF lo nl p9_24 (k9_15 c nl lo q9_7) (fun i ρ M => if i = 1 then (k9_10 c nl lo q9_7) ρ M else (fun i ρ M => if i = 0 then (k9_5 c nl lo) ρ M else noE i ρ M) i ρ M) (endK cf9.res))
@[reducible] def b9_16 (c : CallT) (nl lo : Nat) (j9_7 : AV → AV → AV → AV → AV → MM → OR) (x2 x9 x12 x13 x14 x30 x31 x32 : AV) (M : MM) : OR :=
 opt (binA .eql .ptr x14 .nil) fun v26 =>
 isB v26 fun c27 => if c27 then (opt ((fill (List.replicate 256 (.int .u8 0) ++ List.replicate 256 (.bool false)) []).map .agg) fun v28 =>
 bnd (istep c modeF false lo (.top M.nx) M.nx (.box 64 (.k v28)) [] M) fun v29 M30 =>
 opt (nilcA x9) fun v33 =>
 opt (fadA 4 v33) fun v34 =>
 opt (ld1A (lk M30) v34) fun v35 =>
 opt (binA .quo .none x13 (.i 256)) fun v37 =>
 bnd (istep c modeF false lo (.top M30.nx) M30.nx (.mset (.int .i64) (.k v35) (.k v37) (.k v29)) [] M30) fun v39 M40 =>
 b9_15 c nl lo j9_7 x2 x9 x12 x13 v29 x30 x31 x32 M40)
 else (b9_15 c nl lo j9_7 x2 x9 x12 x13 x14 x30 x31 x32 M)
theorem t9_16 (c : CallT) (nl lo : Nat) (q9_7 : Rg → MM → OR) (j9_7 : AV → AV → AV → AV → AV → MM → OR) (h9_7 : ∀ (ρ : Rg) (M : MM), q9_7 ρ M = j9_7 (ρ 2) (ρ 9) (ρ 30) (ρ 31) (ρ 32) M) (ρ : Rg) (M : MM) : k9_16 c nl lo q9_7 ρ M = b9_16 c nl lo j9_7 (ρ 2) (ρ 9) (ρ 12) (ρ 13) (ρ 14) (ρ 30) (ρ 31) (ρ 32) M := by
 have h : ∀ (z0 : Rg → MM → OR), (execC c modeF lo nl p9_24 z0 (fun i ρ M => if i = 1 then (k9_10 c nl lo q9_7) ρ M else (fun i ρ M => if i = 0 then (k9_5 c nl lo) ρ M else noE i ρ M) i ρ M) (endK cf9.res)) ρ M = (opt (binA .eql .ptr (ρ 14) .nil) fun v26 =>
 isB v26 fun c27 => if c27 then (opt ((fill (List.replicate 256 (.int .u8 0) ++ List.replicate 256 (.bool false)) []).map .agg) fun v28 =>
 bnd (istep c modeF false lo (.top M.nx) M.nx (.box 64 (.k v28)) [] M) fun v29 M30 =>
 opt (nilcA (ρ 9)) fun v33 =>
 opt (fadA 4 v33) fun v34 =>
 opt (ld1A (lk M30) v34) fun v35 =>
 opt (binA .quo .none (ρ 13) (.i 256)) fun v37 =>
 bnd (istep c modeF false lo (.top M30.nx) M30.nx (.mset (.int .i64) (.k v35) (.k v37) (.k v29)) [] M30) fun v39 M40 =>
 z0 (sF (sF (sF (sF (sF (sF (sF (sF (sF (sF (sF (sF ρ 47 (ρ 14)) 48 v26) 49 v28) 50 v29) 14 v29) 51 (ρ 9)) 52 v33) 53 v34) 54 v35) 55 (ρ 13)) 56 v37) 57 v29) M40)
 else (z0 (sF (sF ρ 47 (ρ 14)) 48 v26) M)) := by intros; kernel_rfl
 refine (h (k9_15 c nl lo q9_7)).trans ?_
 unfold b9_16; simp only [(t9_15 c nl lo q9_7 j9_7 h9_7), h9_7] <;> (show _ = _; kernel_rfl)
def k9_14 (c : CallT) (nl lo : Nat) (q9_7 : Rg → MM → OR) : Rg → MM → OR := (execC c modeF lo nl p9_26 (k9_10 c nl lo q9_7) (fun i ρ M => if i = 1 then (k9_10 c nl lo q9_7) ρ M else (fun i ρ M => if i = 0 then (k9_5 c nl lo) ρ M else noE i ρ M) i ρ M) (endK cf9.res))
@[reducible] def b9_14 (c : CallT) (nl lo : Nat) (j9_7 : AV → AV → AV → AV → AV → MM → OR) (x2 x9 x12 x13 x14 x30 x31 x32 : AV) (M : MM) : OR :=
 b9_16 c nl lo j9_7 x2 x9 x12 x13 x14 x30 x31 x32 M
theorem t9_14 (c : CallT) (nl lo : Nat) (q9_7 : Rg → MM → OR) (j9_7 : AV → AV → AV → AV → AV → MM → OR) (h9_7 : ∀ (ρ : Rg) (M : MM), q9_7 ρ M = j9_7 (ρ 2) (ρ 9) (ρ 30) (ρ 31) (ρ 32) M) (ρ : Rg) (M : MM) : k9_14 c nl lo q9_7 ρ M = b9_14 c nl lo j9_7 (ρ 2) (ρ 9) (ρ 12) (ρ 13) (ρ 14) (ρ 30) (ρ 31) (ρ 32) M := by
 have h : k9_14 c nl lo q9_7 ρ M = (k9_16 c nl lo q9_7 ρ M) := execC_seq c modeF lo nl p9_24 p9_25 (k9_10 c nl lo q9_7) (fun i ρ M => if i = 1 then (k9_10 c nl lo q9_7) ρ M else (fun i ρ M => if i = 0 then (k9_5 c nl lo) ρ M else noE i ρ M) i ρ M) (endK cf9.res) ρ M
 rw [h]
 unfold b9_14; simp only [(t9_16 c nl lo q9_7 j9_7 h9_7), h9_7] <;> (show _ = _; kernel_rfl)
def k9_17 (c : CallT) (nl lo : Nat) (q9_7 : Rg → MM → OR) : Rg → MM → OR := (execC c modeF lo nl p9_18 (k9_14 c nl lo q9_7) (fun i ρ M => if i = 1 then (k9_10 c nl lo q9_7) ρ M else (fun i ρ M => if i = 0 then (k9_5 c nl lo) ρ M else noE i ρ M) i ρ M) (endK cf9.res))
@[reducible] def b9_17 (c : CallT) (nl lo : Nat) (j9_7 : AV → AV → AV → AV → AV → MM → OR) (x2 x9 x12 x13 x30 x31 x32 : AV) (M : MM) : OR :=
 opt (nilcA x9) fun v8 =>
 opt (fadA 4 v8) fun v9 =>
 opt (ld1A (lk M) v9) fun v10 =>
 opt (binA .quo .none x13 (.i 256)) fun v12 =>
 opt (lkpA (lk M) (.int .i64) false .nil v10 v12) fun v13 =>
 b9_14 c nl lo j9_7 x2 x9 x12 x13 v13 x30 x31 x32 M
theorem t9_17 (c : CallT) (nl lo : Nat) (q9_7 : Rg → MM → OR) (j9_7 : AV → AV → AV → AV → AV → MM → OR) (h9_7 : ∀ (ρ : Rg) (M : MM), q9_7 ρ M = j9_7 (ρ 2) (ρ 9) (ρ 30) (ρ 31) (ρ 32) M) (ρ : Rg) (M : MM) : k9_17 c nl lo q9_7 ρ M = b9_17 c nl lo j9_7 (ρ 2) (ρ 9) (ρ 12) (ρ 13) (ρ 30) (ρ 31) (ρ 32) M := by
 have h : ∀ (z0 : Rg → MM → OR), (execC c modeF lo nl p9_18 z0 (fun i ρ M => if i = 1 then (k9_10 c nl lo q9_7) ρ M else (fun i ρ M => if i = 0 then (k9_5 c nl lo) ρ M else noE i ρ M) i ρ M) (endK cf9.res)) ρ M = (opt (nilcA (ρ 9)) fun v8 =>
 opt (fadA 4 v8) fun v9 =>
 opt (ld1A (lk M) v9) fun v10 =>
 opt (binA .quo .none (ρ 13) (.i 256)) fun v12 =>
 opt (lkpA (lk M) (.int .i64) false .nil v10 v12) fun v13 =>
 z0 (sF (sF (sF (sF (sF (sF (sF (sF ρ 40 (ρ 9)) 41 v8) 42 v9) 43 v10) 44 (ρ 13)) 45 v12) 46 v13) 14 v13) M) := by intros; kernel_rfl
 refine (h (k9_14 c nl lo q9_7)).trans ?_
 unfold b9_17; simp only [(t9_14 c nl lo q9_7 j9_7 h9_7), h9_7] <;> (show _ = _; kernel_rfl)
def k9_13 (c : CallT) (nl lo : Nat) (q9_7 : Rg → MM → OR) : Rg → MM → OR := (execC c modeF lo nl p9_27 (k9_10 c nl lo q9_7) (fun i ρ M => if i = 1 then (k9_10 c nl lo q9_7) ρ M else (fun i ρ M => if i = 0 then (k9_5 c nl lo) ρ M else noE i ρ M) i ρ M) (endK cf9.res))
@[reducible] def b9_13 (c : CallT) (nl lo : Nat) (j9_7 : AV → AV → AV → AV → AV → MM → OR) (x2 x9 x12 x13 x30 x31 x32 : AV) (M : MM) : OR :=
 b9_17 c nl lo j9_7 x2 x9 x12 x13 x30 x31 x32 M
theorem t9_13 (c : CallT) (nl lo : Nat) (q9_7 : Rg → MM → OR) (j9_7 : AV → AV → AV → AV → AV → MM → OR) (h9_7 : ∀ (ρ : Rg) (M : MM), q9_7 ρ M = j9_7 (ρ 2) (ρ 9) (ρ 30) (ρ 31) (ρ 32) M) (ρ : Rg) (M : MM) : k9_13 c nl lo q9_7 ρ M = b9_13 c nl lo j9_7 (ρ 2) (ρ 9) (ρ 12) (ρ 13) (ρ 30) (ρ 31) (ρ 32) M := by
 have h : k9_13 c nl lo q9_7 ρ M = (k9_17 c nl lo q9_7 ρ M) := execC_seq c modeF lo nl p9_18 p9_26 (k9_10 c nl lo q9_7) (fun i ρ M => if i = 1 then (k9_10 c nl lo q9_7) ρ M else (fun i ρ M => if i = 0 then (k9_5 c nl lo) ρ M else noE i ρ M) i ρ M) (endK cf9.res) ρ M
 rw [h]
 unfold b9_13; simp only [(t9_17 c nl lo q9_7 j9_7 h9_7), h9_7] <;> (show _ = _; kernel_rfl)
def k9_18 (c : CallT) (nl lo : Nat) (q9_7 : Rg → MM → OR) : Rg → MM → OR := (execC c modeF lo nl p9_17 (k9_13 c nl lo q9_7) (fun i ρ M => if i = 1 then (k9_10 c nl lo q9_7) ρ M else (fun i ρ M => if i = 0 then (k9_5 c nl lo) ρ M else noE i ρ M) i ρ M) (endK cf9.res))
@[reducible] def b9_18 (c : CallT) (nl lo : Nat) (j9_7 : AV → AV → AV → AV → AV → MM → OR) (x2 x9 x11 x12 x30 x31 x32 : AV) (M : MM) : OR :=
 opt (binA .add .none x2 x11) fun v9 =>
 b9_13 c nl lo j9_7 x2 x9 x12 v9 x30 x31 x32 M
theorem t9_18 (c : CallT) (nl lo : Nat) (q9_7 : Rg → MM → OR) (j9_7 : AV → AV → AV → AV → AV → MM → OR) (h9_7 : ∀ (ρ : Rg) (M : MM), q9_7 ρ M = j9_7 (ρ 2) (ρ 9) (ρ 30) (ρ 31) (ρ 32) M) (ρ : Rg) (M : MM) : k9_18 c nl lo q9_7 ρ M = b9_18 c nl lo j9_7 (ρ 2) (ρ 9) (ρ 11) (ρ 12) (ρ 30) (ρ 31) (ρ 32) M := by
 have h : ∀ (z0 : Rg → MM → OR), (execC c modeF lo nl p9_17 z0 (fun i ρ M => if i = 1 then (k9_10 c nl lo q9_7) ρ M else (fun i ρ M => if i = 0 then (k9_5 c nl lo) ρ M else noE i ρ M) i ρ M) (endK cf9.res)) ρ M = (opt (binA .add .none (ρ 2) (ρ 11)) fun v9 =>
 z0 (sF (sF (sF (sF ρ 37 (ρ 2)) 38 (ρ 11)) 39 v9) 13 v9) M) := by intros; kernel_rfl
 refine (h (k9_13 c nl lo q9_7)).trans ?_
 unfold b9_18; simp only [(t9_13 c nl lo q9_7 j9_7 h9_7), h9_7] <;> (show _ = _; kernel_rfl)
def k9_12 (c : CallT) (nl lo : Nat) (q9_7 : Rg → MM → OR) : Rg → MM → OR := (execC c modeF lo nl p9_28 (k9_10 c nl lo q9_7) (fun i ρ M => if i = 1 then (k9_10 c nl lo q9_7) ρ M else (fun i ρ M => if i = 0 then (k9_5 c nl lo) ρ M else noE i ρ M) i ρ M) (endK cf9.res))
@[reducible] def b9_12 (c : CallT) (nl lo : Nat) (j9_7 : AV → AV → AV → AV → AV → MM → OR) (x2 x9 x11 x12 x30 x31 x32 : AV) (M : MM) : OR :=
 b9_18 c nl lo j9_7 x2 x9 x11 x12 x30 x31 x32 M
theorem t9_12 (c : CallT) (nl lo : Nat) (q9_7 : Rg → MM → OR) (j9_7 : AV → AV → AV → AV → AV → MM → OR) (h9_7 : ∀ (ρ : Rg) (M : MM), q9_7 ρ M = j9_7 (ρ 2) (ρ 9) (ρ 30) (ρ 31) (ρ 32) M) (ρ : Rg) (M : MM) : k9_12 c nl lo q9_7 ρ M = b9_12 c nl lo j9_7 (ρ 2) (ρ 9) (ρ 11) (ρ 12) (ρ 30) (ρ 31) (ρ 32) M := by
 have h : k9_12 c nl lo q9_7 ρ M = (k9_18 c nl lo q9_7 ρ M) := execC_seq c modeF lo nl p9_17 p9_27 (k9_10 c nl lo q9_7) (fun i ρ M => if i = 1 then (k9_10 c nl lo q9_7) ρ M else (fun i ρ M => if i = 0 then (k9_5 c nl lo) ρ M else noE i ρ M) i ρ M) (endK cf9.res) ρ M
 rw [h]
 unfold b9_12; simp only [(t9_18 c nl lo q9_7 j9_7 h9_7), h9_7] <;> (show _ = _; kernel_rfl)
def k9_19 (c : CallT) (nl lo : Nat) (q9_7 : Rg → MM → OR) : Rg → MM → OR := (execC c modeF lo nl p9_16 (k9_12 c nl lo q9_7) (fun i ρ M => if i = 1 then (k9_10 c nl lo q9_7) ρ M else (fun i ρ M => if i = 0 then (k9_5 c nl lo) ρ M else noE i ρ M) i ρ M) (endK cf9.res))
@[reducible] def b9_19 (c : CallT) (nl lo : Nat) (j9_7 : AV → AV → AV → AV → AV → MM → OR) (x2 x9 x30 x31 x32 : AV) (M : MM) : OR :=
 opt (ixsA 1 x30 x32) fun v8 =>
 opt (ld1A (lk M) v8) fun v9 =>
 b9_12 c nl lo j9_7 x2 x9 x32 v9 x30 x31 x32 M
theorem t9_19 (c : CallT) (nl lo : Nat) (q9_7 : Rg → MM → OR) (j9_7 : AV → AV → AV → AV → AV → MM → OR) (h9_7 : ∀ (ρ : Rg) (M : MM), q9_7 ρ M = j9_7 (ρ 2) (ρ 9) (ρ 30) (ρ 31) (ρ 32) M) (ρ : Rg) (M : MM) : k9_19 c nl lo q9_7 ρ M = b9_19 c nl lo j9_7 (ρ 2) (ρ 9) (ρ 30) (ρ 31) (ρ 32) M := by
 have h : ∀ (z0 : Rg → MM → OR), (execC c modeF lo nl p9_16 z0 (fun i ρ M => if i = 1 then (k9_10 c nl lo q9_7) ρ M else (fun i ρ M => if i = 0 then (k9_5 c nl lo) ρ M else noE i ρ M) i ρ M) (endK cf9.res)) ρ M = (opt (ixsA 1 (ρ 30) (ρ 32)) fun v8 =>
 opt (ld1A (lk M) v8) fun v9 =>
 z0 (sF (sF (sF (sF (sF ρ 34 (ρ 32)) 35 v8) 36 v9) 11 (ρ 32)) 12 v9) M) := by intros; kernel_rfl
 refine (h (k9_12 c nl lo q9_7)).trans ?_
 unfold b9_19; simp only [(t9_12 c nl lo q9_7 j9_7 h9_7), h9_7] <;> (show _ = _; kernel_rfl)
def k9_11 (c : CallT) (nl lo : Nat) (q9_7 : Rg → MM → OR) : Rg → MM → OR := (execC c modeF lo nl p9_30 (k9_10 c nl lo q9_7) (fun i ρ M => if i = 0 then (k9_5 c nl lo) ρ M else noE i ρ M) (endK cf9.res))
@[reducible] def b9_11 (c : CallT) (nl lo : Nat) (j9_7 : AV → AV → AV → AV → AV → MM → OR) (x2 x9 x30 x31 x32 : AV) (M : MM) : OR :=
 b9_19 c nl lo j9_7 x2 x9 x30 x31 x32 M
theorem t9_11 (c : CallT) (nl lo : Nat) (q9_7 : Rg → MM → OR) (j9_7 : AV → AV → AV → AV → AV → MM → OR) (h9_7 : ∀ (ρ : Rg) (M : MM), q9_7 ρ M = j9_7 (ρ 2) (ρ 9) (ρ 30) (ρ 31) (ρ 32) M) (ρ : Rg) (M : MM) : k9_11 c nl lo q9_7 ρ M = b9_11 c nl lo j9_7 (ρ 2) (ρ 9) (ρ 30) (ρ 31) (ρ 32) M := by
 have h : k9_11 c nl lo q9_7 ρ M = (k9_19 c nl lo q9_7 ρ M) := by kernel_rfl
 rw [h]
 unfold b9_11; simp only [(t9_19 c nl lo q9_7 j9_7 h9_7), h9_7] <;> (show _ = _; kernel_rfl)
def k9_9 (c : CallT) (nl lo : Nat) (q9_7 : Rg → MM → OR) : Rg → MM → OR := (execC c modeF lo nl p9_32 q9_7 (fun i ρ M => if i = 0 then (k9_5 c nl lo) ρ M else noE i ρ M) (endK cf9.res))
@[reducible] def b9_9 (c : CallT) (nl lo : Nat) (j9_7 : AV → AV → AV → AV → AV → MM → OR) (x2 x9 x30 x31 x32 : AV) (M : MM) : OR :=
 b9_11 c nl lo j9_7 x2 x9 x30 x31 x32 M
theorem t9_9 (c : CallT) (nl lo : Nat) (q9_7 : Rg → MM → OR) (j9_7 : AV → AV → AV → AV → AV → MM → OR) (h9_7 : ∀ (ρ : Rg) (M : MM), q9_7 ρ M = j9_7 (ρ 2) (ρ 9) (ρ 30) (ρ 31) (ρ 32) M) (ρ : Rg) (M : MM) : k9_9 c nl lo q9_7 ρ M = b9_9 c nl lo j9_7 (ρ 2) (ρ 9) (ρ 30) (ρ 31) (ρ 32) M := by
 have h : k9_9 c nl lo q9_7 ρ M = (k9_11 c nl lo q9_7 ρ M) := execC_seq c modeF lo nl p9_30 p9_31 q9_7 (fun i ρ M => if i = 0 then (k9_5 c nl lo) ρ M else noE i ρ M) (endK cf9.res) ρ M
 rw [h]
 unfold b9_9; simp only [(t9_11 c nl lo q9_7 j9_7 h9_7), h9_7] <;> (show _ = _; kernel_rfl)
def k9_20 (c : CallT) (nl lo : Nat) (q9_7 : Rg → MM → OR) : Rg → MM → OR := (execC c modeF lo nl p9_15 (k9_9 c nl lo q9_7) (fun i ρ M => if i = 0 then (k9_5 c nl lo) ρ M else noE i ρ M) (endK cf9.res))
@[reducible] def b9_20 (c : CallT) (nl lo : Nat) (j9_7 : AV → AV → AV → AV → AV → MM → OR) (x2 x9 x30 x31 x32 x33 : AV) (M : MM) : OR :=
 isB x33 fun c5 => if c5 then (b9_9 c nl lo j9_7 x2 x9 x30 x31 x32 M)
 else (b9_5 c nl lo M)
theorem t9_20 (c : CallT) (nl lo : Nat) (q9_7 : Rg → MM → OR) (j9_7 : AV → AV → AV → AV → AV → MM → OR) (h9_7 : ∀ (ρ : Rg) (M : MM), q9_7 ρ M = j9_7 (ρ 2) (ρ 9) (ρ 30) (ρ 31) (ρ 32) M) (ρ : Rg) (M : MM) : k9_20 c nl lo q9_7 ρ M = b9_20 c nl lo j9_7 (ρ 2) (ρ 9) (ρ 30) (ρ 31) (ρ 32) (ρ 33) M := by
 have h : ∀ (z0 z1 : Rg → MM → OR), (execC c modeF lo nl p9_15 z1 (fun i ρ M => if i = 0 then z0 ρ M else noE i ρ M) (endK cf9.res)) ρ M = (isB (ρ 33) fun c5 => if c5 then (z1 ρ M)
 else (z0 ρ M)) := by intros; kernel_rfl
 refine (h (k9_5 c nl lo) (k9_9 c nl lo q9_7)).trans ?_
 unfold b9_20; simp only [(t9_5 c nl lo), (t9_9 c nl lo q9_7 j9_7 h9_7), h9_7] <;> (show _ = _; kernel_rfl)
def k9_8 (c : CallT) (nl lo : Nat) (q9_7 : Rg → MM → OR) : Rg → MM → OR := (execC c modeF lo nl p9_33 q9_7 (fun i ρ M => if i = 0 then (k9_5 c nl lo) ρ M else noE i ρ M) (endK cf9.res))
@[reducible] def b9_8 (c : CallT) (nl lo : Nat) (j9_7 : AV → AV → AV → AV → AV → MM → OR) (x2 x9 x30 x31 x32 x33 : AV) (M : MM) : OR :=
 b9_20 c nl lo j9_7 x2 x9 x30 x31 x32 x33 M
theorem t9_8 (c : CallT) (nl lo : Nat) (q9_7 : Rg → MM → OR) (j9_7 : AV → AV → AV → AV → AV → MM → OR) (h9_7 : ∀ (ρ : Rg) (M : MM), q9_7 ρ M = j9_7 (ρ 2) (ρ 9) (ρ 30) (ρ 31) (ρ 32) M) (ρ : Rg) (M : MM) : k9_8 c nl lo q9_7 ρ M = b9_8 c nl lo j9_7 (ρ 2) (ρ 9) (ρ 30) (ρ 31) (ρ 32) (ρ 33) M := by
 have h : k9_8 c nl lo q9_7 ρ M = (k9_20 c nl lo q9_7 ρ M) := execC_seq c modeF lo nl p9_15 p9_32 q9_7 (fun i ρ M => if i = 0 then (k9_5 c nl lo) ρ M else noE i ρ M) (endK cf9.res) ρ M
 rw [h]
 unfold b9_8; simp only [(t9_20 c nl lo q9_7 j9_7 h9_7), h9_7] <;> (show _ = _; kernel_rfl)
def k9_21 (c : CallT) (nl lo : Nat) (q9_7 : Rg → MM → OR) : Rg → MM → OR := (execC c modeF lo nl p9_14 (k9_8 c nl lo q9_7) (fun i ρ M => if i = 0 then (k9_5 c nl lo) ρ M else noE i ρ M) (endK cf9.res))
@[reducible] def b9_21 (c : CallT) (nl lo : Nat) (j9_7 : AV → AV → AV → AV → AV → MM → OR) (x2 x9 x30 x31 x32 : AV) (M : MM) : OR :=
 opt (binA .lss .none x32 x31) fun v5 =>
 b9_8 c nl lo j9_7 x2 x9 x30 x31 x32 v5 M
theorem t9_21 (c : CallT) (nl lo : Nat) (q9_7 : Rg → MM → OR) (j9_7 : AV → AV → AV → AV → AV → MM → OR) (h9_7 : ∀ (ρ : Rg) (M : MM), q9_7 ρ M = j9_7 (ρ 2) (ρ 9) (ρ 30) (ρ 31) (ρ 32) M) (ρ : Rg) (M : MM) : k9_21 c nl lo q9_7 ρ M = b9_21 c nl lo j9_7 (ρ 2) (ρ 9) (ρ 30) (ρ 31) (ρ 32) M := by
 have h : ∀ (z0 : Rg → MM → OR), (execC c modeF lo nl p9_14 z0 (fun i ρ M => if i = 0 then (k9_5 c nl lo) ρ M else noE i ρ M) (endK cf9.res)) ρ M = (opt (binA .lss .none (ρ 32) (ρ 31)) fun v5 =>
 z0 (sF ρ 33 v5) M) := by intros; kernel_rfl
 refine (h (k9_8 c nl lo q9_7)).trans ?_
 unfold b9_21; simp only [(t9_8 c nl lo q9_7 j9_7 h9_7), h9_7] <;> (show _ = _; kernel_rfl)
def k9_7 (c : CallT) (nl lo : Nat) (n : Nat) : Rg → MM → OR := iterC (fun k ρ M => execC c modeF lo nl p9_34 k (fun i ρ M => if i = 0 then (k9_5 c nl lo) ρ M else noE i ρ M) (endK cf9.res) ρ M) n
def b9_7 (c : CallT) (nl lo : Nat) : Nat → AV → AV → AV → AV → AV → MM → OR
 | 0, _, _, _, _, _, _ => none
 | n + 1, x2, x9, x30, x31, x32, M =>
 b9_21 c nl lo (b9_7 c nl lo n) x2 x9 x30 x31 x32 M
theorem t9_7 (c : CallT) (nl lo : Nat) : ∀ (n : Nat) (ρ : Rg) (M : MM), k9_7 c nl lo n ρ M = b9_7 c nl lo n (ρ 2) (ρ 9) (ρ 30) (ρ 31) (ρ 32) M
 | 0, ρ, M => rfl
 | n + 1, ρ, M => by
  have h : k9_7 c nl lo (n + 1) ρ M = (k9_21 c nl lo (k9_7 c nl lo n) ρ M) := execC_seq c modeF lo nl p9_14 p9_33 (k9_7 c nl lo n) (fun i ρ M => if i = 0 then (k9_5 c nl lo) ρ M else noE i ρ M) (endK cf9.res) ρ M
  rw [h]
  unfold b9_7; simp only [(t9_21 c nl lo (k9_7 c nl lo n) (b9_7 c nl lo n) (t9_7 c nl lo n)), (t9_7 c nl lo n)] <;> (show _ = _; kernel_rfl)
def k9_6 (c : CallT) (nl lo : Nat) : Rg → MM → OR := (execC c modeF lo nl p9_37 (k9_5 c nl lo) noE (endK cf9.res))
@[reducible] def b9_6 (c : CallT) (nl lo : Nat) (x2 x3 x9 : AV) (M : MM) : OR :=
 opt (lenA x3) fun v3 =>
 b9_7 c nl lo nl x2 x9 x3 v3 (.i 0) M
theorem t9_6 (c : CallT) (nl lo : Nat) (ρ : Rg) (M : MM) : k9_6 c nl lo ρ M = b9_6 c nl lo (ρ 2) (ρ 3) (ρ 9) M := by
 have h : k9_6 c nl lo ρ M = (opt (lenA (ρ 3)) fun v3 =>
 k9_7 c nl lo nl (sF (sF (sF ρ 30 (ρ 3)) 31 v3) 32 (.i 0)) M) := by kernel_rfl
 rw [h]
 unfold b9_6; simp only [(t9_7 c nl lo nl)] <;> (show _ = _; kernel_rfl)
def k9_4 (c : CallT) (nl lo : Nat) : Rg → MM → OR := (execC c modeF lo nl p9_40 (endK cf9.res) noE (endK cf9.res))
@[reducible] def b9_4 (c : CallT) (nl lo : Nat) (x2 x3 x9 : AV) (M : MM) : OR :=
 b9_6 c nl lo x2 x3 x9 M
theorem t9_4 (c : CallT) (nl lo : Nat) (ρ : Rg) (M : MM) : k9_4 c nl lo ρ M = b9_4 c nl lo (ρ 2) (ρ 3) (ρ 9) M := by
 have h : k9_4 c nl lo ρ M = (k9_6 c nl lo ρ M) := execC_seq c modeF lo nl p9_37 p9_39 (endK cf9.res) noE (endK cf9.res) ρ M
 rw [h]
 unfold b9_4; simp only [(t9_6 c nl lo)] <;> (show _ = _; kernel_rfl)
def k9_22 (c : CallT) (nl lo : Nat) : Rg → MM → OR := (execC c modeF lo nl p9_12 (k9_4 c nl lo) noE (endK cf9.res))
@[reducible] def b9_22 (c : CallT) (nl lo : Nat) (x2 x3 x9 : AV) (M : MM) : OR :=
 opt (lenA x3) fun v4 =>
 opt (roA c (.top M.nx) 30 [x9, x2, v4] M) fun v5 =>
 opt (unA .not v5) fun v6 =>
 isB v6 fun c7 => if c7 then (some ((.i 20), M))
 else (b9_4 c nl lo x2 x3 x9 M)
theorem t9_22 (c : CallT) (nl lo : Nat) (ρ : Rg) (M : MM) : k9_22 c nl lo ρ M = b9_22 c nl lo (ρ 2) (ρ 3) (ρ 9) M := by
 have h : ∀ (z0 : Rg → MM → OR), (execC c modeF lo nl p9_12 z0 noE (endK cf9.res)) ρ M = (opt (lenA (ρ 3)) fun v4 =>
 opt (roA c (.top M.nx) 30 [(ρ 9), (ρ 2), v4] M) fun v5 =>
 opt (unA .not v5) fun v6 =>
 isB v6 fun c7 => if c7 then (some ((.i 20), M))
 else (z0 (sF (sF (sF (sF (sF (sF ρ 24 (ρ 9)) 25 (ρ 2)) 26 (ρ 3)) 27 v4) 28 v5) 29 v6) M)) := by intros; kernel_rfl
 refine (h (k9_4 c nl lo)).trans ?_
 unfold b9_22; simp only [(t9_4 c nl lo)] <;> (show _ = _; kernel_rfl)
def k9_3 (c : CallT) (nl lo : Nat) : Rg → MM → OR := (execC c modeF lo nl p9_41 (endK cf9.res) noE (endK cf9.res))
@[reducible] def b9_3 (c : CallT) (nl lo : Nat) (x2 x3 x9 : AV) (M : MM) : OR :=
 b9_22 c nl lo x2 x3 x9 M
theorem t9_3 (c : CallT) (nl lo : Nat) (ρ : Rg) (M : MM) : k9_3 c nl lo ρ M = b9_3 c nl lo (ρ 2) (ρ 3) (ρ 9) M := by
 have h : k9_3 c nl lo ρ M = (k9_22 c nl lo ρ M) := execC_seq c modeF lo nl p9_12 p9_40 (endK cf9.res) noE (endK cf9.res) ρ M
 rw [h]
 unfold b9_3; simp only [(t9_22 c nl lo)] <;> (show _ = _; kernel_rfl)
def k9_23 (c : CallT) (nl lo : Nat) : Rg → MM → OR := (execC c modeF lo nl p9_7 (k9_3 c nl lo) noE (endK cf9.res))
@[reducible] def b9_23 (c : CallT) (nl lo : Nat) (x2 x3 x9 x10 : AV) (M : MM) : OR :=
 opt (binA .neq .none x10 (.i 0)) fun v2 =>
 isB v2 fun c3 => if c3 then (some (x10, M))
 else (b9_3 c nl lo x2 x3 x9 M)
theorem t9_23 (c : CallT) (nl lo : Nat) (ρ : Rg) (M : MM) : k9_23 c nl lo ρ M = b9_23 c nl lo (ρ 2) (ρ 3) (ρ 9) (ρ 10) M := by
 have h : ∀ (z0 : Rg → MM → OR), (execC c modeF lo nl p9_7 z0 noE (endK cf9.res)) ρ M = (opt (binA .neq .none (ρ 10) (.i 0)) fun v2 =>
 isB v2 fun c3 => if c3 then (some ((ρ 10), M))
 else (z0 (sF (sF ρ 21 (ρ 10)) 22 v2) M)) := by intros; kernel_rfl
 refine (h (k9_3 c nl lo)).trans ?_
 unfold b9_23; simp only [(t9_3 c nl lo)] <;> (show _ = _; kernel_rfl)
def k9_2 (c : CallT) (nl lo : Nat) : Rg → MM → OR := (execC c modeF lo nl p9_42 (endK cf9.res) noE (endK cf9.res))
@[reducible] def b9_2 (c : CallT) (nl lo : Nat) (x2 x3 x9 x10 : AV) (M : MM) : OR :=
 b9_23 c nl lo x2 x3 x9 x10 M
theorem t9_2 (c : CallT) (nl lo : Nat) (ρ : Rg) (M : MM) : k9_2 c nl lo ρ M = b9_2 c nl lo (ρ 2) (ρ 3) (ρ 9) (ρ 10) M := by
 have h : k9_2 c nl lo ρ M = (k9_23 c nl lo ρ M) := execC_seq c modeF lo nl p9_7 p9_41 (endK cf9.res) noE (endK cf9.res) ρ M
 rw [h]
 unfold b9_2; simp only [(t9_23 c nl lo)] <;> (show _ = _; kernel_rfl)
def k9_24 (c : CallT) (nl lo : Nat) : Rg → MM → OR := (execC c modeF lo nl p9_2 (k9_2 c nl lo) noE (endK cf9.res))
@[reducible] def b9_24 (c : CallT) (nl lo : Nat) (x0 x1 x2 x3 : AV) (M : MM) : OR :=
 opt (roA c (.top M.nx) 29 [x0, x1] M) fun v3 =>
 opt (extA 0 v3) fun v5 =>
 opt (extA 1 v3) fun v6 =>
 b9_2 c nl lo x2 x3 v5 v6 M
theorem t9_24 (c : CallT) (nl lo : Nat) (ρ : Rg) (M : MM) : k9_24 c nl lo ρ M = b9_24 c nl lo (ρ 0) (ρ 1) (ρ 2) (ρ 3) M := by
 have h : ∀ (z0 : Rg → MM → OR), (execC c modeF lo nl p9_2 z0 noE (endK cf9.res)) ρ M = (opt (roA c (.top M.nx) 29 [(ρ 0), (ρ 1)] M) fun v3 =>
 opt (extA 0 v3) fun v5 =>
 opt (extA 1 v3) fun v6 =>
 z0 (sF (sF (sF (sF (sF (sF (sF (sF ρ 16 (ρ 0)) 17 (ρ 1)) 18 v3) 15 v3) 19 v5) 20 v6) 9 v5) 10 v6) M) := by intros; kernel_rfl
 refine (h (k9_2 c nl lo)).trans ?_
 unfold b9_24; simp only [(t9_2 c nl lo)] <;> (show _ = _; kernel_rfl)
def k9_1 (c : CallT) (nl lo : Nat) : Rg → MM → OR := (execC c modeF lo nl p9_43 (endK cf9.res) noE (endK cf9.res))
@[reducible] def b9_1 (c : CallT) (nl lo : Nat) (x0 x1 x2 x3 : AV) (M : MM) : OR :=
 b9_24 c nl lo x0 x1 x2 x3 M
theorem t9_1 (c : CallT) (nl lo : Nat) (ρ : Rg) (M : MM) : k9_1 c nl lo ρ M = b9_1 c nl lo (ρ 0) (ρ 1) (ρ 2) (ρ 3) M := by
 have h : k9_1 c nl lo ρ M = (k9_24 c nl lo ρ M) := execC_seq c modeF lo nl p9_2 p9_42 (endK cf9.res) noE (endK cf9.res) ρ M
 rw [h]
 unfold b9_1; simp only [(t9_24 c nl lo)] <;> (show _ = _; kernel_rfl)
def k9_25 (c : CallT) (nl lo : Nat) : Rg → MM → OR := (execC c modeF lo nl p9_1 (k9_1 c nl lo) noE (endK cf9.res))
@[reducible] def b9_25 (c : CallT) (nl lo : Nat) (x0 x1 x2 x3 : AV) (M : MM) : OR :=
 b9_1 c nl lo x0 x1 x2 x3 M
theorem t9_25 (c : CallT) (nl lo : Nat) (ρ : Rg) (M : MM) : k9_25 c nl lo ρ M = b9_25 c nl lo (ρ 0) (ρ 1) (ρ 2) (ρ 3) M := by
 have h : ∀ (z0 : Rg → MM → OR), (execC c modeF lo nl p9_1 z0 noE (endK cf9.res)) ρ M = (z0 (sF ρ 8 (.i 0)) M) := by intros; kernel_rfl
 refine (h (k9_1 c nl lo)).trans ?_
 unfold b9_25; simp only [(t9_1 c nl lo)] <;> (show _ = _; kernel_rfl)
def k9_0 (c : CallT) (nl lo : Nat) : Rg → MM → OR := (execC c modeF lo nl p9_44 (endK cf9.res) noE (endK cf9.res))
@[reducible] def b9_0 (c : CallT) (nl lo : Nat) (x0 x1 x2 x3 : AV) (M : MM) : OR :=
 b9_25 c nl lo x0 x1 x2 x3 M
theorem t9_0 (c : CallT) (nl lo : Nat) (ρ : Rg) (M : MM) : k9_0 c nl lo ρ M = b9_0 c nl lo (ρ 0) (ρ 1) (ρ 2) (ρ 3) M := by
 have h : k9_0 c nl lo ρ M = (k9_25 c nl lo ρ M) := execC_seq c modeF lo nl p9_1 p9_43 (endK cf9.res) noE (endK cf9.res) ρ M
 rw [h]
 unfold b9_0; simp only [(t9_25 c nl lo)] <;> (show _ = _; kernel_rfl)
def k9_26 (c : CallT) (nl lo : Nat) : Rg → MM → OR := (execC c modeF lo nl p9_0 (k9_0 c nl lo) noE (endK cf9.res))
@[reducible] def b9_26 (c : CallT) (nl lo : Nat) (x0 x1 x2 x3 : AV) (M : MM) : OR :=
 b9_0 c nl lo x0 x1 x2 x3 M
theorem t9_26 (c : CallT) (nl lo : Nat) (ρ : Rg) (M : MM) : k9_26 c nl lo ρ M = b9_26 c nl lo (ρ 0) (ρ 1) (ρ 2) (ρ 3) M := by
 have h : ∀ (z0 : Rg → MM → OR), (execC c modeF lo nl p9_0 z0 noE (endK cf9.res)) ρ M = (z0 ρ M) := by intros; kernel_rfl
 refine (h (k9_0 c nl lo)).trans ?_
 unfold b9_26; simp only [(t9_0 c nl lo)] <;> (show _ = _; kernel_rfl)
def s9 (c : CallT) (nl lo : Nat) (a0 a1 a2 a3 : AV) (M : MM) : OR :=
 b9_26 c nl lo a0 a1 a2 a3 M
theorem e9 (c : CallT) (nl lo : Nat) (a0 a1 a2 a3 : AV) (M : MM) : execC c modeF lo nl cf9.body (endK cf9.res) noE (endK cf9.res) (aF [a0, a1, a2, a3]) M = s9 c nl lo a0 a1 a2 a3 M := by
 have h : execC c modeF lo nl cf9.body (endK cf9.res) noE (endK cf9.res) (aF [a0, a1, a2, a3]) M = (k9_26 c nl lo (aF [a0, a1, a2, a3]) M) := execC_seq c modeF lo nl p9_0 p9_44 (endK cf9.res) noE (endK cf9.res) (aF [a0, a1, a2, a3]) M
 refine h.trans ?_
 unfold s9; simp only [(t9_26 c nl lo)] <;> (show _ = _; kernel_rfl)
theorem q9 {c : CallT} (hc : Lim GK c) (lo : Nat) (a0 a1 a2 a3 : AV) (M : MM) : c 9 [a0, a1, a2, a3] lo M = s9 c GK.nl lo a0 a1 a2 a3 M :=
 (hc.flow (cf := cf9) rfl w9 [a0, a1, a2, a3] lo M).trans (e9 c GK.nl lo a0 a1 a2 a3 M)

/-! ### function 10 -/
theorem w10 : wfK cf10.nt cf10.body = true := by kernel_rfl
def s10 (c : CallT) (nl lo : Nat) (a0 : AV) (M : MM) : OR :=
 opt (binA .rem .none a0 (.i 7)) fun v3 =>
 opt (binA .eql .none v3 (.i 6)) fun v4 =>
 isB v4 fun c5 => if c5 then (some (a0, M))
 else (opt (binA .rem .none a0 (.i 20)) fun v9 =>
 opt (binA .rem .none a0 (.i 2)) fun v11 =>
 opt (binA .add .none v9 v11) fun v12 =>
 some (v12, M))
theorem e10 (c : CallT) (nl lo : Nat) (a0 : AV) (M : MM) : execC c modeF lo nl cf10.body (endK cf10.res) noE (endK cf10.res) (aF [a0]) M = s10 c nl lo a0 M := by
 kernel_rfl
theorem q10 {c : CallT} (hc : Lim GK c) (lo : Nat) (a0 : AV) (M : MM) : c 10 [a0] lo M = s10 c GK.nl lo a0 M :=
 (hc.flow (cf := cf10) rfl w10 [a0] lo M).trans (e10 c GK.nl lo a0 M)

/-! ### function 11 -/
theorem w11 : wfK cf11.nt cf11.body = true := by kernel_rfl
def k11_100 (c : CallT) (nl lo : Nat) : Rg → MM → OR := (execC c modeF lo nl p11_28 (endK cf11.res) noE (endK cf11.res))
@[reducible] def b11_100 (c : CallT) (nl lo : Nat) (M : MM) : OR :=
 some ((.i 0), M)
theorem t11_100 (c : CallT) (nl lo : Nat) (ρ : Rg) (M : MM) : k11_100 c nl lo ρ M = b11_100 c nl lo M := by
 kernel_rfl
def k11_7 (c : CallT) (nl lo : Nat) (n : Nat) : Rg → MM → OR := iterC (fun k ρ M => execC c modeF lo nl p11_23 k (fun i ρ M => if i = 0 then (k11_100 c nl lo) ρ M else noE i ρ M) (endK cf11.res) ρ M) n
def b11_7 (c : CallT) (nl lo : Nat) : Nat → AV → AV → AV → AV → AV → AV → MM → OR
 | 0, _, _, _, _, _, _, _ => none
 | n + 1, x0, x2, x9, x48, x49, x50, M =>
 opt (binA .lss .none x50 x49) fun v47 =>
 isB v47 fun c48 => if c48 then (opt (ixsA 1 x48 x50) fun v50 =>
 opt (ld1A (lk M) v50) fun v51 =>
 bumpK M 27 fun M54 =>
 opt (nilcA x0) fun v56 =>
 opt (fadA 0 v56) fun v57 =>
 opt (ld1A (look M54.mem (.mk M.nx 27 7 true)) v57) fun v58 =>
 opt (ixsA 5 v58 x9) fun v60 =>
 opt (fadA 3 v60) fun v61 =>
 opt (ld1A (look M54.mem (.mk M.nx 27 127 true)) v61) fun v62 =>
 opt (binA .add .none x2 x50) fun v65 =>
 opt (nilcA x0) fun v67 =>
 opt (fadA 0 v67) fun v68 =>
 opt (ld1A (look M54.mem (.mk M.nx 27 14336 true)) v68) fun v69 =>
 opt (ixsA 5 v69 x9) fun v71 =>
 opt (fadA 4 v71) fun v72 =>
 opt (ld1A (look M54.mem (.mk M.nx 27 260096 true)) v72) fun v73 =>
 opt (binA .add .none x2 x50) fun v76 =>
 opt (ixsA 1 v62 v65) fun v78 =>
 bnd (istep c modeF true lo (.mk M.nx 27 13107199 true) (M.nx + 24) (.st 1 (.k v78) (.k v51)) [] M54) fun v79 M80 =>
 opt (ixsA 1 v73 v76) fun v81 =>
 bnd (istep c modeF true lo (.mk M.nx 27 67108863 true) (M.nx + 26) (.st 1 (.k v81) (.k (.bool true))) [] M80) fun v82 M83 =>
 opt (binA .add .none x50 (.i 1)) fun v84 =>
 (b11_7 c nl lo n) x0 x2 x9 x48 x49 v84 M83)
 else (b11_100 c nl lo M)
theorem t11_7 (c : CallT) (nl lo : Nat) : ∀ (n : Nat) (ρ : Rg) (M : MM), k11_7 c nl lo n ρ M = b11_7 c nl lo n (ρ 0) (ρ 2) (ρ 9) (ρ 48) (ρ 49) (ρ 50) M
 | 0, ρ, M => rfl
 | n + 1, ρ, M => by
  have h : k11_7 c nl lo (n + 1) ρ M = (opt (binA .lss .none (ρ 50) (ρ 49)) fun v47 =>
  isB v47 fun c48 => if c48 then (opt (ixsA 1 (ρ 48) (ρ 50)) fun v50 =>
  opt (ld1A (lk M) v50) fun v51 =>
  bumpK M 27 fun M54 =>
  opt (nilcA (ρ 0)) fun v56 =>
  opt (fadA 0 v56) fun v57 =>
  opt (ld1A (look M54.mem (.mk M.nx 27 7 true)) v57) fun v58 =>
  opt (ixsA 5 v58 (ρ 9)) fun v60 =>
  opt (fadA 3 v60) fun v61 =>
  opt (ld1A (look M54.mem (.mk M.nx 27 127 true)) v61) fun v62 =>
  opt (binA .add .none (ρ 2) (ρ 50)) fun v65 =>
  opt (nilcA (ρ 0)) fun v67 =>
  opt (fadA 0 v67) fun v68 =>
  opt (ld1A (look M54.mem (.mk M.nx 27 14336 true)) v68) fun v69 =>
  opt (ixsA 5 v69 (ρ 9)) fun v71 =>
  opt (fadA 4 v71) fun v72 =>
  opt (ld1A (look M54.mem (.mk M.nx 27 260096 true)) v72) fun v73 =>
  opt (binA .add .none (ρ 2) (ρ 50)) fun v76 =>
  opt (ixsA 1 v62 v65) fun v78 =>
  bnd (istep c modeF true lo (.mk M.nx 27 13107199 true) (M.nx + 24) (.st 1 (.k v78) (.k v51)) [] M54) fun v79 M80 =>
  opt (ixsA 1 v73 v76) fun v81 =>
  bnd (istep c modeF true lo (.mk M.nx 27 67108863 true) (M.nx + 26) (.st 1 (.k v81) (.k (.bool true))) [] M80) fun v82 M83 =>
  opt (binA .add .none (ρ 50) (.i 1)) fun v84 =>
  (k11_7 c nl lo n) (sF (sF (sF (sF (sF (sF (sF (sF (sF (sF (sF (sF (sF (sF (sF (sF (sF (sF (sF (sF (sF (sF (sF (sF (sF (sF (sF (sF (sF (sF (sF (sF (sF ρ 51 v47) 52 (ρ 50)) 53 v50) 54 v51) 10 (ρ 50)) 11 v51) 55 (ρ 0)) 56 v56) 57 v57) 58 v58) 59 (ρ 9)) 60 v60) 61 v61) 62 v62) 63 (ρ 2)) 64 (ρ 50)) 65 v65) 66 (ρ 0)) 67 v67) 68 v68) 69 v69) 70 (ρ 9)) 71 v71) 72 v72) 73 v73) 74 (ρ 2)) 75 (ρ 50)) 76 v76) 77 v51) 78 v78) 79 v81) 80 v84) 50 v84) M83)
  else (k11_100 c nl lo (sF ρ 51 v47) M)) := by kernel_rfl
  rw [h]
  unfold b11_7; simp only [(t11_100 c nl lo), (t11_7 c nl lo n)] <;> (show _ = _; kernel_rfl)
def k11_101 (c : CallT) (nl lo : Nat) : Rg → MM → OR := (execC c modeF lo nl p11_26 (k11_100 c nl lo) noE (endK cf11.res))
@[reducible] def b11_101 (c : CallT) (nl lo : Nat) (x0 x2 x3 x9 : AV) (M : MM) : OR :=
 opt (lenA x3) fun v45 =>
 b11_7 c nl lo nl x0 x2 x9 x3 v45 (.i 0) M
theorem t11_101 (c : CallT) (nl lo : Nat) (ρ : Rg) (M : MM) : k11_101 c nl lo ρ M = b11_101 c nl lo (ρ 0) (ρ 2) (ρ 3) (ρ 9) M := by
 have h : k11_101 c nl lo ρ M = (opt (lenA (ρ 3)) fun v45 =>
 k11_7 c nl lo nl (sF (sF (sF ρ 48 (ρ 3)) 49 v45) 50 (.i 0)) M) := by kernel_rfl
 rw [h]
 unfold b11_101; simp only [(t11_7 c nl lo nl)] <;> (show _ = _; kernel_rfl)
def s11 (c : CallT) (nl lo : Nat) (a0 a1 a2 a3 : AV) (M : MM) : OR :=
 opt (roA c (.top M.nx) 31 [a0, a1] M) fun v4 =>
 opt (binA .lss .none v4 (.i 0)) fun v7 =>
 isB v7 fun c8 => if c8 then (some ((.i 23), M))
 else (opt (binA .lss .none a2 (.i 0)) fun v11 =>
 opt (gdp v11 false (some a2)) fun v13 =>
 opt (gdp v11 false (some a0)) fun v14 =>
 opt (gdp v11 false (nilcA v14)) fun v15 =>
 opt (gdp v11 false (fadA 0 v15)) fun v16 =>
 opt (gdp v11 false (ld1A (lk M) v16)) fun v17 =>
 opt (gdp v11 false (some v4)) fun v18 =>
 opt (gdp v11 false (ixsA 5 v17 v18)) fun v19 =>
 opt (gdp v11 false (fadA 3 v19)) fun v20 =>
 opt (gdp v11 false (ld1A (lk M) v20)) fun v21 =>
 opt (gdp v11 false (lenA v21)) fun v22 =>
 opt (gdp v11 false (binA .gtr .none v13 v22)) fun v23 =>
 opt (pickA v11 (.bool true) v23) fun v24 =>
 opt (gdp v24 false (some a3)) fun v26 =>
 opt (gdp v24 false (lenA v26)) fun v27 =>
 opt (gdp v24 false (some a0)) fun v28 =>
 opt (gdp v24 false (nilcA v28)) fun v29 =>
 opt (gdp v24 false (fadA 0 v29)) fun v30 =>
 opt (gdp v24 false (ld1A (lk M) v30)) fun v31 =>
 opt (gdp v24 false (some v4)) fun v32 =>
 opt (gdp v24 false (ixsA 5 v31 v32)) fun v33 =>
 opt (gdp v24 false (fadA 3 v33)) fun v34 =>
 opt (gdp v24 false (ld1A (lk M) v34)) fun v35 =>
 opt (gdp v24 false (lenA v35)) fun v36 =>
 opt (gdp v24 false (some a2)) fun v37 =>
 opt (gdp v24 false (binA .sub .none v36 v37)) fun v38 =>
 opt (gdp v24 false (binA .gtr .none v27 v38)) fun v39 =>
 opt (pickA v24 (.bool true) v39) fun v40 =>
 isB v40 fun c41 => if c41 then (some ((.i 20), M))
 else (b11_101 c nl lo a0 a2 a3 v4 M))
theorem e11 (c : CallT) (nl lo : Nat) (a0 a1 a2 a3 : AV) (M : MM) : execC c modeF lo nl cf11.body (endK cf11.res) noE (endK cf11.res) (aF [a0, a1, a2, a3]) M = s11 c nl lo a0 a1 a2 a3 M := by
 have h : execC c modeF lo nl cf11.body (endK cf11.res) noE (endK cf11.res) (aF [a0, a1, a2, a3]) M = (opt (roA c (.top M.nx) 31 [a0, a1] M) fun v4 =>
 opt (binA .lss .none v4 (.i 0)) fun v7 =>
 isB v7 fun c8 => if c8 then (some ((.i 23), M))
 else (opt (binA .lss .none a2 (.i 0)) fun v11 =>
 opt (gdp v11 false (some a2)) fun v13 =>
 opt (gdp v11 false (some a0)) fun v14 =>
 opt (gdp v11 false (nilcA v14)) fun v15 =>
 opt (gdp v11 false (fadA 0 v15)) fun v16 =>
 opt (gdp v11 false (ld1A (lk M) v16)) fun v17 =>
 opt (gdp v11 false (some v4)) fun v18 =>
 opt (gdp v11 false (ixsA 5 v17 v18)) fun v19 =>
 opt (gdp v11 false (fadA 3 v19)) fun v20 =>
 opt (gdp v11 false (ld1A (lk M) v20)) fun v21 =>
 opt (gdp v11 false (lenA v21)) fun v22 =>
 opt (gdp v11 false (binA .gtr .none v13 v22)) fun v23 =>
 opt (pickA v11 (.bool true) v23) fun v24 =>
 opt (gdp v24 false (some a3)) fun v26 =>
 opt (gdp v24 false (lenA v26)) fun v27 =>
 opt (gdp v24 false (some a0)) fun v28 =>
 opt (gdp v24 false (nilcA v28)) fun v29 =>
 opt (gdp v24 false (fadA 0 v29)) fun v30 =>
 opt (gdp v24 false (ld1A (lk M) v30)) fun v31 =>
 opt (gdp v24 false (some v4)) fun v32 =>
 opt (gdp v24 false (ixsA 5 v31 v32)) fun v33 =>
 opt (gdp v24 false (fadA 3 v33)) fun v34 =>
 opt (gdp v24 false (ld1A (lk M) v34)) fun v35 =>
 opt (gdp v24 false (lenA v35)) fun v36 =>
 opt (gdp v24 false (some a2)) fun v37 =>
 opt (gdp v24 false (binA .sub .none v36 v37)) fun v38 =>
 opt (gdp v24 false (binA .gtr .none v27 v38)) fun v39 =>
 opt (pickA v24 (.bool true) v39) fun v40 =>
 isB v40 fun c41 => if c41 then (some ((.i 20), M))
 else (k11_101 c nl lo (sF (sF (sF (sF (sF (sF (sF (sF (sF (sF (sF (sF (sF (sF (sF (sF (sF (sF (sF (sF (sF (sF (sF (sF (sF (sF (sF (sF (sF (sF (sF (sF (sF (sF (sF (sF (sF (sF (aF [a0, a1, a2, a3]) 8 (.i 0)) 12 a0) 13 a1) 14 v4) 9 v4) 15 v4) 16 v7) 17 a2) 18 v11) 19 v11) 20 v13) 21 v14) 22 v15) 23 v16) 24 v17) 25 v18) 26 v19) 27 v20) 28 v21) 29 v22) 30 v23) 31 v24) 32 v24) 33 v26) 34 v27) 35 v28) 36 v29) 37 v30) 38 v31) 39 v32) 40 v33) 41 v34) 42 v35) 43 v36) 44 v37) 45 v38) 46 v39) 47 v40) M))) := by kernel_rfl
 refine h.trans ?_
 unfold s11; simp only [(t11_101 c nl lo)] <;> (show _ = _; kernel_rfl)
theorem q11 {c : CallT} (hc : Lim GK c) (lo : Nat) (a0 a1 a2 a3 : AV) (M : MM) : c 11 [a0, a1, a2, a3] lo M = s11 c GK.nl lo a0 a1 a2 a3 M :=
 (hc.flow (cf := cf11) rfl w11 [a0, a1, a2, a3] lo M).trans (e11 c GK.nl lo a0 a1 a2 a3 M)

/-! ### function 12 -/
theorem w12 : wfK cf12.nt cf12.body = true := by kernel_rfl
def k12_100 (c : CallT) (nl lo : Nat) : Rg → MM → OR := (execC c modeF lo nl p12_35 (endK cf12.res) noE (endK cf12.res))
@[reducible] def b12_100 (c : CallT) (nl lo : Nat) (x12 : AV) (M : MM) : OR :=
 some (.tup [x12, (.i 0)], M)
theorem t12_100 (c : CallT) (nl lo : Nat) (ρ : Rg) (M : MM) : k12_100 c nl lo ρ M = b12_100 c nl lo (ρ 12) M := by
 kernel_rfl
def k12_8 (c : CallT) (nl lo : Nat) (n : Nat) : Rg → MM → OR := iterC (fun k ρ M => execC c modeF lo nl p12_30 k (fun i ρ M => if i = 0 then (k12_100 c nl lo) ρ M else noE i ρ M) (endK cf12.res) ρ M) n
def b12_8 (c : CallT) (nl lo : Nat) : Nat → AV → AV → AV → AV → AV → MM → OR
 | 0, _, _, _, _, _, _ => none
 | n + 1, x2, x3, x10, x12, x13, M =>
 opt (binA .add .none x2 x3) fun v34 =>
 opt (binA .lss .none x13 v34) fun v35 =>
 isB v35 fun c36 => if c36 then (opt (nilcA x10) fun v38 =>
 opt (fadA 4 v38) fun v39 =>
 opt (ld1A (lk M) v39) fun v40 =>
 opt (binA .quo .none x13 (.i 256)) fun v42 =>
 opt (lkpA (lk M) (.int .i64) false .nil v40 v42) fun v43 =>
 opt (binA .eql .ptr v43 .nil) fun v46 =>
 opt (gdp v46 false (some v43)) fun v48 =>
 opt (gdp v46 false (some x13)) fun v49 =>
 opt (gdp v46 false (binA .rem .none v49 (.i 256))) fun v50 =>
 opt (gdp v46 false (nilcA v48)) fun v51 =>
 opt (gdp v46 false (fadA 256 v51)) fun v52 =>
 opt (gdp v46 false (ixpA 1 256 v52 v50)) fun v53 =>
 opt (gdp v46 false (ld1A (lk M) v53)) fun v54 =>
 opt (gdp v46 false (unA .not v54)) fun v55 =>
 opt (pickA v46 (.bool true) v55) fun v56 =>
 isB v56 fun c57 => if c57 then (some (.tup [.nilsl, (.i 24)], M))
 else (opt (binA .rem .none x13 (.i 256)) fun v63 =>
 opt (nilcA v43) fun v64 =>
 opt (fadA 0 v64) fun v65 =>
 opt (ixpA 1 256 v65 v63) fun v66 =>
 opt (ld1A (lk M) v66) fun v67 =>
 bnd (istep c modeF false lo (.top M.nx) M.nx (.vsl 5 1 1 [.int .u8 0] [(0, 1, (.k v67))]) [] M) fun v68 M69 =>
 bnd (istep c modeF false lo (.top M69.nx) M69.nx (.vapp 5 1 1 [.int .u8 0] (.k x12) (.k v68)) [] M69) fun v70 M71 =>
 opt (binA .add .none x13 (.i 1)) fun v74 =>
 (b12_8 c nl lo n) x2 x3 x10 v70 v74 M71))
 else (b12_100 c nl lo x12 M)
theorem t12_8 (c : CallT) (nl lo : Nat) : ∀ (n : Nat) (ρ : Rg) (M : MM), k12_8 c nl lo n ρ M = b12_8 c nl lo n (ρ 2) (ρ 3) (ρ 10) (ρ 12) (ρ 13) M
 | 0, ρ, M => rfl
 | n + 1, ρ, M => by
  have h : k12_8 c nl lo (n + 1) ρ M = (opt (binA .add .none (ρ 2) (ρ 3)) fun v34 =>
  opt (binA .lss .none (ρ 13) v34) fun v35 =>
  isB v35 fun c36 => if c36 then (opt (nilcA (ρ 10)) fun v38 =>
  opt (fadA 4 v38) fun v39 =>
  opt (ld1A (lk M) v39) fun v40 =>
  opt (binA .quo .none (ρ 13) (.i 256)) fun v42 =>
  opt (lkpA (lk M) (.int .i64) false .nil v40 v42) fun v43 =>
  opt (binA .eql .ptr v43 .nil) fun v46 =>
  opt (gdp v46 false (some v43)) fun v48 =>
  opt (gdp v46 false (some (ρ 13))) fun v49 =>
  opt (gdp v46 false (binA .rem .none v49 (.i 256))) fun v50 =>
  opt (gdp v46 false (nilcA v48)) fun v51 =>
  opt (gdp v46 false (fadA 256 v51)) fun v52 =>
  opt (gdp v46 false (ixpA 1 256 v52 v50)) fun v53 =>
  opt (gdp v46 false (ld1A (lk M) v53)) fun v54 =>
  opt (gdp v46 false (unA .not v54)) fun v55 =>
  opt (pickA v46 (.bool true) v55) fun v56 =>
  isB v56 fun c57 => if c57 then (some (.tup [.nilsl, (.i 24)], M))
  else (opt (binA .rem .none (ρ 13) (.i 256)) fun v63 =>
  opt (nilcA v43) fun v64 =>
  opt (fadA 0 v64) fun v65 =>
  opt (ixpA 1 256 v65 v63) fun v66 =>
  opt (ld1A (lk M) v66) fun v67 =>
  bnd (istep c modeF false lo (.top M.nx) M.nx (.vsl 5 1 1 [.int .u8 0] [(0, 1, (.k v67))]) [] M) fun v68 M69 =>
  bnd (istep c modeF false lo (.top M69.nx) M69.nx (.vapp 5 1 1 [.int .u8 0] (.k (ρ 12)) (.k v68)) [] M69) fun v70 M71 =>
  opt (binA .add .none (ρ 13) (.i 1)) fun v74 =>
  (k12_8 c nl lo n) (sF (sF (sF (sF (sF (sF (sF (sF (sF (sF (sF (sF (sF (sF (sF (sF (sF (sF (sF (sF (sF (sF (sF (sF (sF (sF (sF (sF (sF (sF (sF (sF (sF (sF (sF (sF (sF (sF (sF ρ 30 (ρ 13)) 31 (ρ 2)) 32 (ρ 3)) 33 v34) 34 v35) 37 (ρ 10)) 38 v38) 39 v39) 40 v40) 41 (ρ 13)) 42 v42) 43 v43) 14 v43) 44 v43) 45 v46) 46 v46) 47 v48) 48 v49) 49 v50) 50 v51) 51 v52) 52 v53) 53 v54) 54 v55) 55 v56) 56 (ρ 12)) 57 v43) 58 (ρ 13)) 59 v63) 60 v64) 61 v65) 62 v66) 63 v67) 64 v68) 65 v70) 12 v70) 35 (ρ 13)) 36 v74) 13 v74) M71))
  else (k12_100 c nl lo (sF (sF (sF (sF (sF ρ 30 (ρ 13)) 31 (ρ 2)) 32 (ρ 3)) 33 v34) 34 v35) M)) := by kernel_rfl
  rw [h]
  unfold b12_8; simp only [(t12_100 c nl lo), (t12_8 c nl lo n)] <;> (show _ = _; kernel_rfl)
def k12_101 (c : CallT) (nl lo : Nat) : Rg → MM → OR := (execC c modeF lo nl p12_33 (k12_100 c nl lo) noE (endK cf12.res))
@[reducible] def b12_101 (c : CallT) (nl lo : Nat) (x2 x3 x10 x12 : AV) (M : MM) : OR :=
 b12_8 c nl lo nl x2 x3 x10 x12 x2 M
theorem t12_101 (c : CallT) (nl lo : Nat) (ρ : Rg) (M : MM) : k12_101 c nl lo ρ M = b12_101 c nl lo (ρ 2) (ρ 3) (ρ 10) (ρ 12) M := by
 have h : k12_101 c nl lo ρ M = (k12_8 c nl lo nl (sF (sF ρ 29 (ρ 2)) 13 (ρ 2)) M) := by kernel_rfl
 rw [h]
 unfold b12_101; simp only [(t12_8 c nl lo nl)] <;> (show _ = _; kernel_rfl)
def s12 (c : CallT) (nl lo : Nat) (a0 a1 a2 a3 : AV) (M : MM) : OR :=
 opt (roA c (.top M.nx) 29 [a0, a1] M) fun v5 =>
 opt (extA 0 v5) fun v7 =>
 opt (extA 1 v5) fun v8 =>
 opt (binA .neq .none v8 (.i 0)) fun v12 =>
 isB v12 fun c13 => if c13 then (some (.tup [.nilsl, v8], M))
 else (opt (roA c (.top M.nx) 30 [v7, a2, a3] M) fun v20 =>
 opt (unA .not v20) fun v21 =>
 isB v21 fun c22 => if c22 then (some (.tup [.nilsl, (.i 20)], M))
 else (b12_101 c nl lo a2 a3 v7 .nilsl M))
theorem e12 (c : CallT) (nl lo : Nat) (a0 a1 a2 a3 : AV) (M : MM) : execC c modeF lo nl cf12.body (endK cf12.res) noE (endK cf12.res) (aF [a0, a1, a2, a3]) M = s12 c nl lo a0 a1 a2 a3 M := by
 have h : execC c modeF lo nl cf12.body (endK cf12.res) noE (endK cf12.res) (aF [a0, a1, a2, a3]) M = (opt (roA c (.top M.nx) 29 [a0, a1] M) fun v5 =>
 opt (extA 0 v5) fun v7 =>
 opt (extA 1 v5) fun v8 =>
 opt (binA .neq .none v8 (.i 0)) fun v12 =>
 isB v12 fun c13 => if c13 then (some (.tup [.nilsl, v8], M))
 else (opt (roA c (.top M.nx) 30 [v7, a2, a3] M) fun v20 =>
 opt (unA .not v20) fun v21 =>
 isB v21 fun c22 => if c22 then (some (.tup [.nilsl, (.i 20)], M))
 else (k12_101 c nl lo (sF (sF (sF (sF (sF (sF (sF (sF (sF (sF (sF (sF (sF (sF (sF (sF (sF (sF (aF [a0, a1, a2, a3]) 8 .nilsl) 9 (.i 0)) 16 a0) 17 a1) 18 v5) 15 v5) 19 v7) 20 v8) 10 v7) 11 v8) 21 v8) 22 v12) 24 v7) 25 a2) 26 a3) 27 v20) 28 v21) 12 .nilsl) M))) := by kernel_rfl
 refine h.trans ?_
 unfold s12; simp only [(t12_101 c nl lo)] <;> (show _ = _; kernel_rfl)
theorem q12 {c : CallT} (hc : Lim GK c) (lo : Nat) (a0 a1 a2 a3 : AV) (M : MM) : c 12 [a0, a1, a2, a3] lo M = s12 c GK.nl lo a0 a1 a2 a3 M :=
 (hc.flow (cf := cf12) rfl w12 [a0, a1, a2, a3] lo M).trans (e12 c GK.nl lo a0 a1 a2 a3 M)

/-! ### function 13 -/
theorem w13 : wfK cf13.nt cf13.body = true := by kernel_rfl
def k13_5 (c : CallT) (nl lo : Nat) : Rg → MM → OR := (execC c modeF lo nl p13_30 (endK cf13.res) noE (endK cf13.res))
@[reducible] def b13_5 (c : CallT) (nl lo : Nat) (x0 x2 x3 x10 : AV) (M : MM) : OR :=
 opt (nilcA x0) fun v2 =>
 opt (fadA 0 v2) fun v3 =>
 opt (ld1A (lk M) v3) fun v4 =>
 opt (ixsA 5 v4 x10) fun v6 =>
 opt (fadA 3 v6) fun v7 =>
 opt (ld1A (lk M) v7) fun v8 =>
 opt (binA .add .none x2 x3) fun v12 =>
 opt (slslA 1 v8 (some x2) (some v12)) fun v13 =>
 bnd (istep c modeF false lo (.top M.nx) M.nx (.vapp 5 1 1 [.int .u8 0] (.k .nilsl) (.k v13)) [] M) fun v14 M15 =>
 some (.tup [v14, (.i 0)], M15)
theorem t13_5 (c : CallT) (nl lo : Nat) (ρ : Rg) (M : MM) : k13_5 c nl lo ρ M = b13_5 c nl lo (ρ 0) (ρ 2) (ρ 3) (ρ 10) M := by
 kernel_rfl
def k13_7 (c : CallT) (nl lo : Nat) (n : Nat) : Rg → MM → OR := iterC (fun k ρ M => execC c modeF lo nl p13_25 k (fun i ρ M => if i = 0 then (k13_5 c nl lo) ρ M else noE i ρ M) (endK cf13.res) ρ M) n
def b13_7 (c : CallT) (nl lo : Nat) : Nat → AV → AV → AV → AV → AV → MM → OR
 | 0, _, _, _, _, _, _ => none
 | n + 1, x0, x2, x3, x10, x11, M =>
 opt (binA .add .none x2 x3) fun v23 =>
 opt (binA .lss .none x11 v23) fun v24 =>
 isB v24 fun c25 => if c25 then (opt (nilcA x0) fun v27 =>
 opt (fadA 0 v27) fun v28 =>
 opt (ld1A (lk M) v28) fun v29 =>
 opt (ixsA 5 v29 x10) fun v31 =>
 opt (fadA 4 v31) fun v32 =>
 opt (ld1A (lk M) v32) fun v33 =>
 opt (ixsA 1 v33 x11) fun v35 =>
 opt (ld1A (lk M) v35) fun v36 =>
 opt (unA .not v36) fun v37 =>
 isB v37 fun c38 => if c38 then (some (.tup [.nilsl, (.i 24)], M))
 else (opt (binA .add .none x11 (.i 1)) fun v42 =>
 (b13_7 c nl lo n) x0 x2 x3 x10 v42 M))
 else (b13_5 c nl lo x0 x2 x3 x10 M)
theorem t13_7 (c : CallT) (nl lo : Nat) : ∀ (n : Nat) (ρ : Rg) (M : MM), k13_7 c nl lo n ρ M = b13_7 c nl lo n (ρ 0) (ρ 2) (ρ 3) (ρ 10) (ρ 11) M
 | 0, ρ, M => rfl
 | n + 1, ρ, M => by
  have h : k13_7 c nl lo (n + 1) ρ M = (opt (binA .add .none (ρ 2) (ρ 3)) fun v23 =>
  opt (binA .lss .none (ρ 11) v23) fun v24 =>
  isB v24 fun c25 => if c25 then (opt (nilcA (ρ 0)) fun v27 =>
  opt (fadA 0 v27) fun v28 =>
  opt (ld1A (lk M) v28) fun v29 =>
  opt (ixsA 5 v29 (ρ 10)) fun v31 =>
  opt (fadA 4 v31) fun v32 =>
  opt (ld1A (lk M) v32) fun v33 =>
  opt (ixsA 1 v33 (ρ 11)) fun v35 =>
  opt (ld1A (lk M) v35) fun v36 =>
  opt (unA .not v36) fun v37 =>
  isB v37 fun c38 => if c38 then (some (.tup [.nilsl, (.i 24)], M))
  else (opt (binA .add .none (ρ 11) (.i 1)) fun v42 =>
  (k13_7 c nl lo n) (sF (sF (sF (sF (sF (sF (sF (sF (sF (sF (sF (sF (sF (sF (sF (sF (sF (sF (sF (sF ρ 52 (ρ 11)) 53 (ρ 2)) 54 (ρ 3)) 55 v23) 56 v24) 59 (ρ 0)) 60 v27) 61 v28) 62 v29) 63 (ρ 10)) 64 v31) 65 v32) 66 v33) 67 (ρ 11)) 68 v35) 69 v36) 70 v37) 57 (ρ 11)) 58 v42) 11 v42) M))
  else (k13_5 c nl lo (sF (sF (sF (sF (sF ρ 52 (ρ 11)) 53 (ρ 2)) 54 (ρ 3)) 55 v23) 56 v24) M)) := by kernel_rfl
  rw [h]
  unfold b13_7; simp only [(t13_5 c nl lo), (t13_7 c nl lo n)] <;> (show _ = _; kernel_rfl)
def k13_6 (c : CallT) (nl lo : Nat) : Rg → MM → OR := (execC c modeF lo nl p13_28 (k13_5 c nl lo) noE (endK cf13.res))
@[reducible] def b13_6 (c : CallT) (nl lo : Nat) (x0 x2 x3 x10 : AV) (M : MM) : OR :=
 b13_7 c nl lo nl x0 x2 x3 x10 x2 M
theorem t13_6 (c : CallT) (nl lo : Nat) (ρ : Rg) (M : MM) : k13_6 c nl lo ρ M = b13_6 c nl lo (ρ 0) (ρ 2) (ρ 3) (ρ 10) M := by
 have h : k13_6 c nl lo ρ M = (k13_7 c nl lo nl (sF (sF ρ 51 (ρ 2)) 11 (ρ 2)) M) := by kernel_rfl
 rw [h]
 unfold b13_6; simp only [(t13_7 c nl lo nl)] <;> (show _ = _; kernel_rfl)
def k13_4 (c : CallT) (nl lo : Nat) : Rg → MM → OR := (execC c modeF lo nl p13_31 (endK cf13.res) noE (endK cf13.res))
@[reducible] def b13_4 (c : CallT) (nl lo : Nat) (x0 x2 x3 x10 : AV) (M : MM) : OR :=
 b13_6 c nl lo x0 x2 x3 x10 M
theorem t13_4 (c : CallT) (nl lo : Nat) (ρ : Rg) (M : MM) : k13_4 c nl lo ρ M = b13_4 c nl lo (ρ 0) (ρ 2) (ρ 3) (ρ 10) M := by
 have h : k13_4 c nl lo ρ M = (k13_6 c nl lo ρ M) := execC_seq c modeF lo nl p13_28 p13_30 (endK cf13.res) noE (endK cf13.res) ρ M
 rw [h]
 unfold b13_4; simp only [(t13_6 c nl lo)] <;> (show _ = _; kernel_rfl)
def k13_8 (c : CallT) (nl lo : Nat) : Rg → MM → OR := (execC c modeF lo nl p13_12 (k13_4 c nl lo) noE (endK cf13.res))
@[reducible] def b13_8 (c : CallT) (nl lo : Nat) (x0 x2 x3 x10 : AV) (M : MM) : OR :=
 opt (binA .lss .none x2 (.i 0)) fun v2 =>
 opt (gdp v2 false (some x3)) fun v4 =>
 opt (gdp v2 false (binA .lss .none v4 (.i 0))) fun v5 =>
 opt (pickA v2 (.bool true) v5) fun v6 =>
 opt (gdp v6 false (some x2)) fun v8 =>
 opt (gdp v6 false (some x0)) fun v9 =>
 opt (gdp v6 false (nilcA v9)) fun v10 =>
 opt (gdp v6 false (fadA 0 v10)) fun v11 =>
 opt (gdp v6 false (ld1A (lk M) v11)) fun v12 =>
 opt (gdp v6 false (some x10)) fun v13 =>
 opt (gdp v6 false (ixsA 5 v12 v13)) fun v14 =>
 opt (gdp v6 false (fadA 3 v14)) fun v15 =>
 opt (gdp v6 false (ld1A (lk M) v15)) fun v16 =>
 opt (gdp v6 false (lenA v16)) fun v17 =>
 opt (gdp v6 false (binA .gtr .none v8 v17)) fun v18 =>
 opt (pickA v6 (.bool true) v18) fun v19 =>
 opt (gdp v19 false (some x3)) fun v21 =>
 opt (gdp v19 false (some x0)) fun v22 =>
 opt (gdp v19 false (nilcA v22)) fun v23 =>
 opt (gdp v19 false (fadA 0 v23)) fun v24 =>
 opt (gdp v19 false (ld1A (lk M) v24)) fun v25 =>
 opt (gdp v19 false (some x10)) fun v26 =>
 opt (gdp v19 false (ixsA 5 v25 v26)) fun v27 =>
 opt (gdp v19 false (fadA 3 v27)) fun v28 =>
 opt (gdp v19 false (ld1A (lk M) v28)) fun v29 =>
 opt (gdp v19 false (lenA v29)) fun v30 =>
 opt (gdp v19 false (some x2)) fun v31 =>
 opt (gdp v19 false (binA .sub .none v30 v31)) fun v32 =>
 opt (gdp v19 false (binA .gtr .none v21 v32)) fun v33 =>
 opt (pickA v19 (.bool true) v33) fun v34 =>
 isB v34 fun c35 => if c35 then (some (.tup [.nilsl, (.i 20)], M))
 else (b13_4 c nl lo x0 x2 x3 x10 M)
theorem t13_8 (c : CallT) (nl lo : Nat) (ρ : Rg) (M : MM) : k13_8 c nl lo ρ M = b13_8 c nl lo (ρ 0) (ρ 2) (ρ 3) (ρ 10) M := by
 have h : ∀ (z0 : Rg → MM → OR), (execC c modeF lo nl p13_12 z0 noE (endK cf13.res)) ρ M = (opt (binA .lss .none (ρ 2) (.i 0)) fun v2 =>
 opt (gdp v2 false (some (ρ 3))) fun v4 =>
 opt (gdp v2 false (binA .lss .none v4 (.i 0))) fun v5 =>
 opt (pickA v2 (.bool true) v5) fun v6 =>
 opt (gdp v6 false (some (ρ 2))) fun v8 =>
 opt (gdp v6 false (some (ρ 0))) fun v9 =>
 opt (gdp v6 false (nilcA v9)) fun v10 =>
 opt (gdp v6 false (fadA 0 v10)) fun v11 =>
 opt (gdp v6 false (ld1A (lk M) v11)) fun v12 =>
 opt (gdp v6 false (some (ρ 10))) fun v13 =>
 opt (gdp v6 false (ixsA 5 v12 v13)) fun v14 =>
 opt (gdp v6 false (fadA 3 v14)) fun v15 =>
 opt (gdp v6 false (ld1A (lk M) v15)) fun v16 =>
 opt (gdp v6 false (lenA v16)) fun v17 =>
 opt (gdp v6 false (binA .gtr .none v8 v17)) fun v18 =>
 opt (pickA v6 (.bool true) v18) fun v19 =>
 opt (gdp v19 false (some (ρ 3))) fun v21 =>
 opt (gdp v19 false (some (ρ 0))) fun v22 =>
 opt (gdp v19 false (nilcA v22)) fun v23 =>
 opt (gdp v19 false (fadA 0 v23)) fun v24 =>
 opt (gdp v19 false (ld1A (lk M) v24)) fun v25 =>
 opt (gdp v19 false (some (ρ 10))) fun v26 =>
 opt (gdp v19 false (ixsA 5 v25 v26)) fun v27 =>
 opt (gdp v19 false (fadA 3 v27)) fun v28 =>
 opt (gdp v19 false (ld1A (lk M) v28)) fun v29 =>
 opt (gdp v19 false (lenA v29)) fun v30 =>
 opt (gdp v19 false (some (ρ 2))) fun v31 =>
 opt (gdp v19 false (binA .sub .none v30 v31)) fun v32 =>
 opt (gdp v19 false (binA .gtr .none v21 v32)) fun v33 =>
 opt (pickA v19 (.bool true) v33) fun v34 =>
 isB v34 fun c35 => if c35 then (some (.tup [.nilsl, (.i 20)], M))
 else (z0 (sF (sF (sF (sF (sF (sF (sF (sF (sF (sF (sF (sF (sF (sF (sF (sF (sF (sF (sF (sF (sF (sF (sF (sF (sF (sF (sF (sF (sF (sF (sF (sF (sF (sF ρ 17 (ρ 2)) 18 v2) 19 v2) 20 v4) 21 v5) 22 v6) 23 v6) 24 v8) 25 v9) 26 v10) 27 v11) 28 v12) 29 v13) 30 v14) 31 v15) 32 v16) 33 v17) 34 v18) 35 v19) 36 v19) 37 v21) 38 v22) 39 v23) 40 v24) 41 v25) 42 v26) 43 v27) 44 v28) 45 v29) 46 v30) 47 v31) 48 v32) 49 v33) 50 v34) M)) := by intros; kernel_rfl
 refine (h (k13_4 c nl lo)).trans ?_
 unfold b13_8; simp only [(t13_4 c nl lo)] <;> (show _ = _; kernel_rfl)
def k13_3 (c : CallT) (nl lo : Nat) : Rg → MM → OR := (execC c modeF lo nl p13_32 (endK cf13.res) noE (endK cf13.res))
@[reducible] def b13_3 (c : CallT) (nl lo : Nat) (x0 x2 x3 x10 : AV) (M : MM) : OR :=
 b13_8 c nl lo x0 x2 x3 x10 M
theorem t13_3 (c : CallT) (nl lo : Nat) (ρ : Rg) (M : MM) : k13_3 c nl lo ρ M = b13_3 c nl lo (ρ 0) (ρ 2) (ρ 3) (ρ 10) M := by
 have h : k13_3 c nl lo ρ M = (k13_8 c nl lo ρ M) := execC_seq c modeF lo nl p13_12 p13_31 (endK cf13.res) noE (endK cf13.res) ρ M
 rw [h]
 unfold b13_3; simp only [(t13_8 c nl lo)] <;> (show _ = _; kernel_rfl)
def k13_9 (c : CallT) (nl lo : Nat) : Rg → MM → OR := (execC c modeF lo nl p13_7 (k13_3 c nl lo) noE (endK cf13.res))
@[reducible] def b13_9 (c : CallT) (nl lo : Nat) (x0 x2 x3 x10 : AV) (M : MM) : OR :=
 opt (binA .lss .none x10 (.i 0)) fun v2 =>
 isB v2 fun c3 => if c3 then (some (.tup [.nilsl, (.i 23)], M))
 else (b13_3 c nl lo x0 x2 x3 x10 M)
theorem t13_9 (c : CallT) (nl lo : Nat) (ρ : Rg) (M : MM) : k13_9 c nl lo ρ M = b13_9 c nl lo (ρ 0) (ρ 2) (ρ 3) (ρ 10) M := by
 have h : ∀ (z0 : Rg → MM → OR), (execC c modeF lo nl p13_7 z0 noE (endK cf13.res)) ρ M = (opt (binA .lss .none (ρ 10) (.i 0)) fun v2 =>
 isB v2 fun c3 => if c3 then (some (.tup [.nilsl, (.i 23)], M))
 else (z0 (sF (sF ρ 15 (ρ 10)) 16 v2) M)) := by intros; kernel_rfl
 refine (h (k13_3 c nl lo)).trans ?_
 unfold b13_9; simp only [(t13_3 c nl lo)] <;> (show _ = _; kernel_rfl)
def k13_2 (c : CallT) (nl lo : Nat) : Rg → MM → OR := (execC c modeF lo nl p13_33 (endK cf13.res) noE (endK cf13.res))
@[reducible] def b13_2 (c : CallT) (nl lo : Nat) (x0 x2 x3 x10 : AV) (M : MM) : OR :=
 b13_9 c nl lo x0 x2 x3 x10 M
theorem t13_2 (c : CallT) (nl lo : Nat) (ρ : Rg) (M : MM) : k13_2 c nl lo ρ M = b13_2 c nl lo (ρ 0) (ρ 2) (ρ 3) (ρ 10) M := by
 have h : k13_2 c nl lo ρ M = (k13_9 c nl lo ρ M) := execC_seq c modeF lo nl p13_7 p13_32 (endK cf13.res) noE (endK cf13.res) ρ M
 rw [h]
 unfold b13_2; simp only [(t13_9 c nl lo)] <;> (show _ = _; kernel_rfl)
def k13_10 (c : CallT) (nl lo : Nat) : Rg → MM → OR := (execC c modeF lo nl p13_2 (k13_2 c nl lo) noE (endK cf13.res))
@[reducible] def b13_10 (c : CallT) (nl lo : Nat) (x0 x1 x2 x3 : AV) (M : MM) : OR :=
 opt (roA c (.top M.nx) 31 [x0, x1] M) fun v3 =>
 b13_2 c nl lo x0 x2 x3 v3 M
theorem t13_10 (c : CallT) (nl lo : Nat) (ρ : Rg) (M : MM) : k13_10 c nl lo ρ M = b13_10 c nl lo (ρ 0) (ρ 1) (ρ 2) (ρ 3) M := by
 have h : ∀ (z0 : Rg → MM → OR), (execC c modeF lo nl p13_2 z0 noE (endK cf13.res)) ρ M = (opt (roA c (.top M.nx) 31 [(ρ 0), (ρ 1)] M) fun v3 =>
 z0 (sF (sF (sF (sF ρ 12 (ρ 0)) 13 (ρ 1)) 14 v3) 10 v3) M) := by intros; kernel_rfl
 refine (h (k13_2 c nl lo)).trans ?_
 unfold b13_10; simp only [(t13_2 c nl lo)] <;> (show _ = _; kernel_rfl)
def k13_1 (c : CallT) (nl lo : Nat) : Rg → MM → OR := (execC c modeF lo nl p13_34 (endK cf13.res) noE (endK cf13.res))
@[reducible] def b13_1 (c : CallT) (nl lo : Nat) (x0 x1 x2 x3 : AV) (M : MM) : OR :=
 b13_10 c nl lo x0 x1 x2 x3 M
theorem t13_1 (c : CallT) (nl lo : Nat) (ρ : Rg) (M : MM) : k13_1 c nl lo ρ M = b13_1 c nl lo (ρ 0) (ρ 1) (ρ 2) (ρ 3) M := by
 have h : k13_1 c nl lo ρ M = (k13_10 c nl lo ρ M) := execC_seq c modeF lo nl p13_2 p13_33 (endK cf13.res) noE (endK cf13.res) ρ M
 rw [h]
 unfold b13_1; simp only [(t13_10 c nl lo)] <;> (show _ = _; kernel_rfl)
def k13_11 (c : CallT) (nl lo : Nat) : Rg → MM → OR := (execC c modeF lo nl p13_1 (k13_1 c nl lo) noE (endK cf13.res))
@[reducible] def b13_11 (c : CallT) (nl lo : Nat) (x0 x1 x2 x3 : AV) (M : MM) : OR :=
 b13_1 c nl lo x0 x1 x2 x3 M
theorem t13_11 (c : CallT) (nl lo : Nat) (ρ : Rg) (M : MM) : k13_11 c nl lo ρ M = b13_11 c nl lo (ρ 0) (ρ 1) (ρ 2) (ρ 3) M := by
 have h : ∀ (z0 : Rg → MM → OR), (execC c modeF lo nl p13_1 z0 noE (endK cf13.res)) ρ M = (z0 (sF (sF ρ 8 .nilsl) 9 (.i 0)) M) := by intros; kernel_rfl
 refine (h (k13_1 c nl lo)).trans ?_
 unfold b13_11; simp only [(t13_1 c nl lo)] <;> (show _ = _; kernel_rfl)
def k13_0 (c : CallT) (nl lo : Nat) : Rg → MM → OR := (execC c modeF lo nl p13_35 (endK cf13.res) noE (endK cf13.res))
@[reducible] def b13_0 (c : CallT) (nl lo : Nat) (x0 x1 x2 x3 : AV) (M : MM) : OR :=
 b13_11 c nl lo x0 x1 x2 x3 M
theorem t13_0 (c : CallT) (nl lo : Nat) (ρ : Rg) (M : MM) : k13_0 c nl lo ρ M = b13_0 c nl lo (ρ 0) (ρ 1) (ρ 2) (ρ 3) M := by
 have h : k13_0 c nl lo ρ M = (k13_11 c nl lo ρ M) := execC_seq c modeF lo nl p13_1 p13_34 (endK cf13.res) noE (endK cf13.res) ρ M
 rw [h]
 unfold b13_0; simp only [(t13_11 c nl lo)] <;> (show _ = _; kernel_rfl)
def k13_12 (c : CallT) (nl lo : Nat) : Rg → MM → OR := (execC c modeF lo nl p13_0 (k13_0 c nl lo) noE (endK cf13.res))
@[reducible] def b13_12 (c : CallT) (nl lo : Nat) (x0 x1 x2 x3 : AV) (M : MM) : OR :=
 b13_0 c nl lo x0 x1 x2 x3 M
theorem t13_12 (c : CallT) (nl lo : Nat) (ρ : Rg) (M : MM) : k13_12 c nl lo ρ M = b13_12 c nl lo (ρ 0) (ρ 1) (ρ 2) (ρ 3) M := by
 have h : ∀ (z0 : Rg → MM → OR), (execC c modeF lo nl p13_0 z0 noE (endK cf13.res)) ρ M = (z0 ρ M) := by intros; kernel_rfl
 refine (h (k13_0 c nl lo)).trans ?_
 unfold b13_12; simp only [(t13_0 c nl lo)] <;> (show _ = _; kernel_rfl)
def s13 (c : CallT) (nl lo : Nat) (a0 a1 a2 a3 : AV) (M : MM) : OR :=
 b13_12 c nl lo a0 a1 a2 a3 M
theorem e13 (c : CallT) (nl lo : Nat) (a0 a1 a2 a3 : AV) (M : MM) : execC c modeF lo nl cf13.body (endK cf13.res) noE (endK cf13.res) (aF [a0, a1, a2, a3]) M = s13 c nl lo a0 a1 a2 a3 M := by
 have h : execC c modeF lo nl cf13.body (endK cf13.res) noE (endK cf13.res) (aF [a0, a1, a2, a3]) M = (k13_12 c nl lo (aF [a0, a1, a2, a3]) M) := execC_seq c modeF lo nl p13_0 p13_35 (endK cf13.res) noE (endK cf13.res) (aF [a0, a1, a2, a3]) M
 refine h.trans ?_
 unfold s13; simp only [(t13_12 c nl lo)] <;> (show _ = _; kernel_rfl)
theorem q13 {c : CallT} (hc : Lim GK c) (lo : Nat) (a0 a1 a2 a3 : AV) (M : MM) : c 13 [a0, a1, a2, a3] lo M = s13 c GK.nl lo a0 a1 a2 a3 M :=
 (hc.flow (cf := cf13) rfl w13 [a0, a1, a2, a3] lo M).trans (e13 c GK.nl lo a0 a1 a2 a3 M)

/-! ### function 14 -/
theorem w14 : wfK cf14.nt cf14.body = true := by kernel_rfl
def k14_3 (c : CallT) (nl lo : Nat) : Rg → MM → OR := (execC c modeF lo nl p14_8 (endK cf14.res) noE (endK cf14.res))
@[reducible] def b14_3 (c : CallT) (nl lo : Nat) (x6 : AV) (M : MM) : OR :=
 some (x6, M)
theorem t14_3 (c : CallT) (nl lo : Nat) (ρ : Rg) (M : MM) : k14_3 c nl lo ρ M = b14_3 c nl lo (ρ 6) M := by
 kernel_rfl
def k14_4 (c : CallT) (nl lo : Nat) : Rg → MM → OR := (execC c modeF lo nl p14_6 (k14_3 c nl lo) noE (endK cf14.res))
@[reducible] def b14_4 (c : CallT) (nl lo : Nat) (x5 x6 : AV) (M : MM) : OR :=
 opt (binA .eql .none x6 (.i 0)) fun v4 =>
 isB v4 fun c5 => if c5 then (opt (nilcA x5) fun v7 =>
 opt (fadA 3 v7) fun v8 =>
 opt (ld1A (lk M) v8) fun v9 =>
 opt (binA .add .none v9 (.i 1)) fun v10 =>
 opt (nilcA x5) fun v11 =>
 opt (fadA 3 v11) fun v12 =>
 bnd (istep c modeF false lo (.top M.nx) M.nx (.st 1 (.k v12) (.k v10)) [] M) fun v13 M14 =>
 b14_3 c nl lo x6 M14)
 else (b14_3 c nl lo x6 M)
theorem t14_4 (c : CallT) (nl lo : Nat) (ρ : Rg) (M : MM) : k14_4 c nl lo ρ M = b14_4 c nl lo (ρ 5) (ρ 6) M := by
 have h : ∀ (z0 : Rg → MM → OR), (execC c modeF lo nl p14_6 z0 noE (endK cf14.res)) ρ M = (opt (binA .eql .none (ρ 6) (.i 0)) fun v4 =>
 isB v4 fun c5 => if c5 then (opt (nilcA (ρ 5)) fun v7 =>
 opt (fadA 3 v7) fun v8 =>
 opt (ld1A (lk M) v8) fun v9 =>
 opt (binA .add .none v9 (.i 1)) fun v10 =>
 opt (nilcA (ρ 5)) fun v11 =>
 opt (fadA 3 v11) fun v12 =>
 bnd (istep c modeF false lo (.top M.nx) M.nx (.st 1 (.k v12) (.k v10)) [] M) fun v13 M14 =>
 z0 (sF (sF (sF (sF (sF (sF (sF (sF (sF ρ 13 (ρ 6)) 14 v4) 15 (ρ 5)) 16 v7) 17 v8) 18 v9) 19 v10) 20 v11) 21 v12) M14)
 else (z0 (sF (sF ρ 13 (ρ 6)) 14 v4) M)) := by intros; kernel_rfl
 refine (h (k14_3 c nl lo)).trans ?_
 unfold b14_4; simp only [(t14_3 c nl lo)] <;> (show _ = _; kernel_rfl)
def k14_2 (c : CallT) (nl lo : Nat) : Rg → MM → OR := (execC c modeF lo nl p14_9 (endK cf14.res) noE (endK cf14.res))
@[reducible] def b14_2 (c : CallT) (nl lo : Nat) (x5 x6 : AV) (M : MM) : OR :=
 b14_4 c nl lo x5 x6 M
theorem t14_2 (c : CallT) (nl lo : Nat) (ρ : Rg) (M : MM) : k14_2 c nl lo ρ M = b14_2 c nl lo (ρ 5) (ρ 6) M := by
 have h : k14_2 c nl lo ρ M = (k14_4 c nl lo ρ M) := execC_seq c modeF lo nl p14_6 p14_8 (endK cf14.res) noE (endK cf14.res) ρ M
 rw [h]
 unfold b14_2; simp only [(t14_4 c nl lo)] <;> (show _ = _; kernel_rfl)
def k14_5 (c : CallT) (nl lo : Nat) : Rg → MM → OR := (execC c modeF lo nl p14_2 (k14_2 c nl lo) noE (endK cf14.res))
@[reducible] def b14_5 (c : CallT) (nl lo : Nat) (x0 x1 : AV) (M : MM) : OR :=
 opt (roA c (.top M.nx) 29 [x0, x1] M) fun v3 =>
 opt (extA 0 v3) fun v5 =>
 opt (extA 1 v3) fun v6 =>
 b14_2 c nl lo v5 v6 M
theorem t14_5 (c : CallT) (nl lo : Nat) (ρ : Rg) (M : MM) : k14_5 c nl lo ρ M = b14_5 c nl lo (ρ 0) (ρ 1) M := by
 have h : ∀ (z0 : Rg → MM → OR), (execC c modeF lo nl p14_2 z0 noE (endK cf14.res)) ρ M = (opt (roA c (.top M.nx) 29 [(ρ 0), (ρ 1)] M) fun v3 =>
 opt (extA 0 v3) fun v5 =>
 opt (extA 1 v3) fun v6 =>
 z0 (sF (sF (sF (sF (sF (sF (sF (sF ρ 8 (ρ 0)) 9 (ρ 1)) 10 v3) 7 v3) 11 v5) 12 v6) 5 v5) 6 v6) M) := by intros; kernel_rfl
 refine (h (k14_2 c nl lo)).trans ?_
 unfold b14_5; simp only [(t14_2 c nl lo)] <;> (show _ = _; kernel_rfl)
def k14_1 (c : CallT) (nl lo : Nat) : Rg → MM → OR := (execC c modeF lo nl p14_10 (endK cf14.res) noE (endK cf14.res))
@[reducible] def b14_1 (c : CallT) (nl lo : Nat) (x0 x1 : AV) (M : MM) : OR :=
 b14_5 c nl lo x0 x1 M
theorem t14_1 (c : CallT) (nl lo : Nat) (ρ : Rg) (M : MM) : k14_1 c nl lo ρ M = b14_1 c nl lo (ρ 0) (ρ 1) M := by
 have h : k14_1 c nl lo ρ M = (k14_5 c nl lo ρ M) := execC_seq c modeF lo nl p14_2 p14_9 (endK cf14.res) noE (endK cf14.res) ρ M
 rw [h]
 unfold b14_1; simp only [(t14_5 c nl lo)] <;> (show _ = _; kernel_rfl)
def k14_6 (c : CallT) (nl lo : Nat) : Rg → MM → OR := (execC c modeF lo nl p14_1 (k14_1 c nl lo) noE (endK cf14.res))
@[reducible] def b14_6 (c : CallT) (nl lo : Nat) (x0 x1 : AV) (M : MM) : OR :=
 b14_1 c nl lo x0 x1 M
theorem t14_6 (c : CallT) (nl lo : Nat) (ρ : Rg) (M : MM) : k14_6 c nl lo ρ M = b14_6 c nl lo (ρ 0) (ρ 1) M := by
 have h : ∀ (z0 : Rg → MM → OR), (execC c modeF lo nl p14_1 z0 noE (endK cf14.res)) ρ M = (z0 (sF ρ 4 (.i 0)) M) := by intros; kernel_rfl
 refine (h (k14_1 c nl lo)).trans ?_
 unfold b14_6; simp only [(t14_1 c nl lo)] <;> (show _ = _; kernel_rfl)
def k14_0 (c : CallT) (nl lo : Nat) : Rg → MM → OR := (execC c modeF lo nl p14_11 (endK cf14.res) noE (endK cf14.res))
@[reducible] def b14_0 (c : CallT) (nl lo : Nat) (x0 x1 : AV) (M : MM) : OR :=
 b14_6 c nl lo x0 x1 M
theorem t14_0 (c : CallT) (nl lo : Nat) (ρ : Rg) (M : MM) : k14_0 c nl lo ρ M = b14_0 c nl lo (ρ 0) (ρ 1) M := by
 have h : k14_0 c nl lo ρ M = (k14_6 c nl lo ρ M) := execC_seq c modeF lo nl p14_1 p14_10 (endK cf14.res) noE (endK cf14.res) ρ M
 rw [h]
 unfold b14_0; simp only [(t14_6 c nl lo)] <;> (show _ = _; kernel_rfl)
def k14_7 (c : CallT) (nl lo : Nat) : Rg → MM → OR := (execC c modeF lo nl p14_0 (k14_0 c nl lo) noE (endK cf14.res))
@[reducible] def b14_7 (c : CallT) (nl lo : Nat) (x0 x1 : AV) (M : MM) : OR :=
 b14_0 c nl lo x0 x1 M
theorem t14_7 (c : CallT) (nl lo : Nat) (ρ : Rg) (M : MM) : k14_7 c nl lo ρ M = b14_7 c nl lo (ρ 0) (ρ 1) M := by
 have h : ∀ (z0 : Rg → MM → OR), (execC c modeF lo nl p14_0 z0 noE (endK cf14.res)) ρ M = (z0 ρ M) := by intros; kernel_rfl
 refine (h (k14_0 c nl lo)).trans ?_
 unfold b14_7; simp only [(t14_0 c nl lo)] <;> (show _ = _; kernel_rfl)
def s14 (c : CallT) (nl lo : Nat) (a0 a1 : AV) (M : MM) : OR :=
 b14_7 c nl lo a0 a1 M
theorem e14 (c : CallT) (nl lo : Nat) (a0 a1 : AV) (M : MM) : execC c modeF lo nl cf14.body (endK cf14.res) noE (endK cf14.res) (aF [a0, a1]) M = s14 c nl lo a0 a1 M := by
 have h : execC c modeF lo nl cf14.body (endK cf14.res) noE (endK cf14.res) (aF [a0, a1]) M = (k14_7 c nl lo (aF [a0, a1]) M) := execC_seq c modeF lo nl p14_0 p14_11 (endK cf14.res) noE (endK cf14.res) (aF [a0, a1]) M
 refine h.trans ?_
 unfold s14; simp only [(t14_7 c nl lo)] <;> (show _ = _; kernel_rfl)
theorem q14 {c : CallT} (hc : Lim GK c) (lo : Nat) (a0 a1 : AV) (M : MM) : c 14 [a0, a1] lo M = s14 c GK.nl lo a0 a1 M :=
 (hc.flow (cf := cf14) rfl w14 [a0, a1] lo M).trans (e14 c GK.nl lo a0 a1 M)

/-! ### function 15 -/
theorem w15 : wfK cf15.nt cf15.body = true := by kernel_rfl
def s15 (c : CallT) (nl lo : Nat) (a0 a1 : AV) (M : MM) : OR :=
 opt (roA c (.top M.nx) 31 [a0, a1] M) fun v4 =>
 opt (binA .lss .none v4 (.i 0)) fun v7 =>
 isB v7 fun c8 => if c8 then (some ((.i 23), M))
 else (opt (nilcA a0) fun v11 =>
 opt (fadA 0 v11) fun v12 =>
 opt (ld1A (lk M) v12) fun v13 =>
 opt (ixsA 5 v13 v4) fun v15 =>
 opt (fadA 2 v15) fun v16 =>
 opt (ld1A (lk M) v16) fun v17 =>
 opt (binA .add .none v17 (.i 1)) fun v18 =>
 opt (ixsA 5 v13 v4) fun v19 =>
 opt (fadA 2 v19) fun v20 =>
 bnd (istep c modeF false lo (.top M.nx) M.nx (.st 1 (.k v20) (.k v18)) [] M) fun v21 M22 =>
 some ((.i 0), M22))
theorem e15 (c : CallT) (nl lo : Nat) (a0 a1 : AV) (M : MM) : execC c modeF lo nl cf15.body (endK cf15.res) noE (endK cf15.res) (aF [a0, a1]) M = s15 c nl lo a0 a1 M := by
 kernel_rfl
theorem q15 {c : CallT} (hc : Lim GK c) (lo : Nat) (a0 a1 : AV) (M : MM) : c 15 [a0, a1] lo M = s15 c GK.nl lo a0 a1 M :=
 (hc.flow (cf := cf15) rfl w15 [a0, a1] lo M).trans (e15 c GK.nl lo a0 a1 M)

/-! ### function 16 -/
theorem w16 : wfK cf16.nt cf16.body = true := by kernel_rfl
def s16 (c : CallT) (nl lo : Nat) (a0 a1 : AV) (M : MM) : OR :=
 opt (roA c (.top M.nx) 29 [a0, a1] M) fun v5 =>
 opt (extA 0 v5) fun v7 =>
 opt (extA 1 v5) fun v8 =>
 opt (binA .neq .none v8 (.i 0)) fun v12 =>
 isB v12 fun c13 => if c13 then (some (.tup [(.i 0), v8], M))
 else (opt (nilcA v7) fun v18 =>
 opt (fadA 3 v18) fun v19 =>
 opt (ld1A (lk M) v19) fun v20 =>
 opt (binA .eql .none v20 (.i 0)) fun v21 =>
 isB v21 fun c22 => if c22 then (some (.tup [(.i 0), (.i 20)], M))
 else (opt (nilcA v7) fun v26 =>
 opt (fadA 3 v26) fun v27 =>
 opt (ld1A (lk M) v27) fun v28 =>
 opt (binA .sub .none v28 (.i 1)) fun v29 =>
 opt (nilcA v7) fun v30 =>
 opt (fadA 3 v30) fun v31 =>
 bnd (istep c modeF false lo (.top M.nx) M.nx (.st 1 (.k v31) (.k v29)) [] M) fun v32 M33 =>
 opt (nilcA v7) fun v35 =>
 opt (fadA 3 v35) fun v36 =>
 opt (ld1A (lk M33) v36) fun v37 =>
 some (.tup [v37, (.i 0)], M33)))
theorem e16 (c : CallT) (nl lo : Nat) (a0 a1 : AV) (M : MM) : execC c modeF lo nl cf16.body (endK cf16.res) noE (endK cf16.res) (aF [a0, a1]) M = s16 c nl lo a0 a1 M := by
 kernel_rfl
theorem q16 {c : CallT} (hc : Lim GK c) (lo : Nat) (a0 a1 : AV) (M : MM) : c 16 [a0, a1] lo M = s16 c GK.nl lo a0 a1 M :=
 (hc.flow (cf := cf16) rfl w16 [a0, a1] lo M).trans (e16 c GK.nl lo a0 a1 M)

/-! ### function 17 -/
theorem w17 : wfK cf17.nt cf17.body = true := by kernel_rfl
def s17 (c : CallT) (nl lo : Nat) (a0 a1 : AV) (M : MM) : OR :=
 opt (roA c (.top M.nx) 31 [a0, a1] M) fun v5 =>
 opt (binA .lss .none v5 (.i 0)) fun v8 =>
 isB v8 fun c9 => if c9 then (some (.tup [(.i 0), (.i 23)], M))
 else (opt (nilcA a0) fun v13 =>
 opt (fadA 0 v13) fun v14 =>
 opt (ld1A (lk M) v14) fun v15 =>
 opt (ixsA 5 v15 v5) fun v17 =>
 opt (fadA 2 v17) fun v18 =>
 opt (ld1A (lk M) v18) fun v19 =>
 opt (binA .eql .none v19 (.i 0)) fun v20 =>
 isB v20 fun c21 => if c21 then (some (.tup [(.i 0), (.i 20)], M))
 else (opt (nilcA a0) fun v25 =>
 opt (fadA 0 v25) fun v26 =>
 opt (ld1A (lk M) v26) fun v27 =>
 opt (ixsA 5 v27 v5) fun v29 =>
 opt (fadA 2 v29) fun v30 =>
 opt (ld1A (lk M) v30) fun v31 =>
 opt (binA .sub .none v31 (.i 1)) fun v32 =>
 opt (ixsA 5 v27 v5) fun v33 =>
 opt (fadA 2 v33) fun v34 =>
 bnd (istep c modeF false lo (.top M.nx) M.nx (.st 1 (.k v34) (.k v32)) [] M) fun v35 M36 =>
 opt (nilcA a0) fun v38 =>
 opt (fadA 0 v38) fun v39 =>
 opt (ld1A (lk M36) v39) fun v40 =>
 opt (ixsA 5 v40 v5) fun v42 =>
 opt (fadA 2 v42) fun v43 =>
 opt (ld1A (lk M36) v43) fun v44 =>
 some (.tup [v44, (.i 0)], M36)))
theorem e17 (c : CallT) (nl lo : Nat) (a0 a1 : AV) (M : MM) : execC c modeF lo nl cf17.body (endK cf17.res) noE (endK cf17.res) (aF [a0, a1]) M = s17 c nl lo a0 a1 M := by
 kernel_rfl
theorem q17 {c : CallT} (hc : Lim GK c) (lo : Nat) (a0 a1 : AV) (M : MM) : c 17 [a0, a1] lo M = s17 c GK.nl lo a0 a1 M :=
 (hc.flow (cf := cf17) rfl w17 [a0, a1] lo M).trans (e17 c GK.nl lo a0 a1 M)

/-! ### function 18 -/
theorem w18 : wfK cf18.nt cf18.body = true := by kernel_rfl
def s18 (c : CallT) (nl lo : Nat) (a0 a1 : AV) (M : MM) : OR :=
 opt (roA c (.top M.nx) 29 [a0, a1] M) fun v4 =>
 opt (extA 0 v4) fun v6 =>
 opt (extA 1 v4) fun v7 =>
 opt (binA .neq .none v7 (.i 0)) fun v11 =>
 isB v11 fun c12 => if c12 then (some (v7, M))
 else (opt (nilcA v6) fun v16 =>
 opt (fadA 3 v16) fun v17 =>
 opt (ld1A (lk M) v17) fun v18 =>
 opt (binA .gtr .none v18 (.i 0)) fun v19 =>
 isB v19 fun c20 => if c20 then (some ((.i 20), M))
 else (opt (nilcA v6) fun v24 =>
 opt (fadA 0 v24) fun v25 =>
 bnd (istep c modeF false lo (.top M.nx) M.nx (.st 1 (.k v25) (.k (.bool false))) [] M) fun v26 M27 =>
 opt (nilcA v6) fun v28 =>
 opt (fadA 4 v28) fun v29 =>
 bnd (istep c modeF false lo (.top M27.nx) M27.nx (.st 1 (.k v29) (.k (.d (.v (.map none))))) [] M27) fun v30 M31 =>
 opt (nilcA a0) fun v33 =>
 opt (fadA 1 v33) fun v34 =>
 opt (ld1A (lk M31) v34) fun v35 =>
 opt (binA .sub .none v35 (.i 1)) fun v36 =>
 opt (nilcA a0) fun v37 =>
 opt (fadA 1 v37) fun v38 =>
 bnd (istep c modeF false lo (.top M31.nx) M31.nx (.st 1 (.k v38) (.k v36)) [] M31) fun v39 M40 =>
 some ((.i 0), M40)))
theorem e18 (c : CallT) (nl lo : Nat) (a0 a1 : AV) (M : MM) : execC c modeF lo nl cf18.body (endK cf18.res) noE (endK cf18.res) (aF [a0, a1]) M = s18 c nl lo a0 a1 M := by
 kernel_rfl
theorem q18 {c : CallT} (hc : Lim GK c) (lo : Nat) (a0 a1 : AV) (M : MM) : c 18 [a0, a1] lo M = s18 c GK.nl lo a0 a1 M :=
 (hc.flow (cf := cf18) rfl w18 [a0, a1] lo M).trans (e18 c GK.nl lo a0 a1 M)

/-! ### function 19 -/
theorem w19 : wfK cf19.nt cf19.body = true := by kernel_rfl
def s19 (c : CallT) (nl lo : Nat) (a0 a1 : AV) (M : MM) : OR :=
 opt (roA c (.top M.nx) 31 [a0, a1] M) fun v4 =>
 opt (binA .lss .none v4 (.i 0)) fun v7 =>
 isB v7 fun c8 => if c8 then (some ((.i 23), M))
 else (opt (nilcA a0) fun v11 =>
 opt (fadA 0 v11) fun v12 =>
 opt (ld1A (lk M) v12) fun v13 =>
 opt (ixsA 5 v13 v4) fun v15 =>
 opt (fadA 2 v15) fun v16 =>
 opt (ld1A (lk M) v16) fun v17 =>
 opt (binA .gtr .none v17 (.i 0)) fun v18 =>
 isB v18 fun c19 => if c19 then (some ((.i 20), M))
 else (opt (nilcA a0) fun v22 =>
 opt (fadA 0 v22) fun v23 =>
 opt (ld1A (lk M) v23) fun v24 =>
 opt ((fill [.bool false, .i 0, .i 0, .nilsl, .nilsl] []).map .agg) fun v26 =>
 opt (ixsA 5 v24 v4) fun v27 =>
 bnd (istep c modeF false lo (.top M.nx) M.nx (.st 5 (.k v27) (.k v26)) [] M) fun v28 M29 =>
 some ((.i 0), M29)))
theorem e19 (c : CallT) (nl lo : Nat) (a0 a1 : AV) (M : MM) : execC c modeF lo nl cf19.body (endK cf19.res) noE (endK cf19.res) (aF [a0, a1]) M = s19 c nl lo a0 a1 M := by
 kernel_rfl
theorem q19 {c : CallT} (hc : Lim GK c) (lo : Nat) (a0 a1 : AV) (M : MM) : c 19 [a0, a1] lo M = s19 c GK.nl lo a0 a1 M :=
 (hc.flow (cf := cf19) rfl w19 [a0, a1] lo M).trans (e19 c GK.nl lo a0 a1 M)

/-! ### function 20 -/
theorem w20 : wfK cf20.nt cf20.body = true := by kernel_rfl
def s20 (c : CallT) (nl lo : Nat) (a0 a1 : AV) (M : MM) : OR :=
 opt (roA c (.top M.nx) 29 [a0, a1] M) fun v6 =>
 opt (extA 0 v6) fun v8 =>
 opt (extA 1 v6) fun v9 =>
 opt (binA .neq .none v9 (.i 0)) fun v13 =>
 isB v13 fun c14 => if c14 then (some (.tup [(.i 0), (.i 0), v9], M))
 else (bumpK M 11 fun M19 =>
 opt (nilcA v8) fun v21 =>
 opt (fadA 1 v21) fun v22 =>
 opt (ld1A (look M19.mem (.mk M.nx 11 7 true)) v22) fun v23 =>
 opt (nilcA v8) fun v25 =>
 opt (fadA 2 v25) fun v26 =>
 opt (ld1A (look M19.mem (.mk M.nx 11 112 true)) v26) fun v27 =>
 some (.tup [v23, v27, (.i 0)], M19))
theorem e20 (c : CallT) (nl lo : Nat) (a0 a1 : AV) (M : MM) : execC c modeF lo nl cf20.body (endK cf20.res) noE (endK cf20.res) (aF [a0, a1]) M = s20 c nl lo a0 a1 M := by
 kernel_rfl
theorem q20 {c : CallT} (hc : Lim GK c) (lo : Nat) (a0 a1 : AV) (M : MM) : c 20 [a0, a1] lo M = s20 c GK.nl lo a0 a1 M :=
 (hc.flow (cf := cf20) rfl w20 [a0, a1] lo M).trans (e20 c GK.nl lo a0 a1 M)

/-! ### function 21 -/
theorem w21 : wfK cf21.nt cf21.body = true := by kernel_rfl
def s21 (c : CallT) (nl lo : Nat) (a0 a1 : AV) (M : MM) : OR :=
 opt (roA c (.top M.nx) 31 [a0, a1] M) fun v6 =>
 opt (binA .lss .none v6 (.i 0)) fun v9 =>
 isB v9 fun c10 => if c10 then (some (.tup [(.i 0), (.i 0), (.i 23)], M))
 else (bumpK M 20 fun M14 =>
 opt (nilcA a0) fun v16 =>
 opt (fadA 0 v16) fun v17 =>
 opt (ld1A (look M14.mem (.mk M.nx 20 7 true)) v17) fun v18 =>
 opt (ixsA 5 v18 v6) fun v20 =>
 opt (fadA 3 v20) fun v21 =>
 opt (ld1A (look M14.mem (.mk M.nx 20 127 true)) v21) fun v22 =>
 opt (lenA v22) fun v23 =>
 opt (nilcA a0) fun v25 =>
 opt (fadA 0 v25) fun v26 =>
 opt (ld1A (look M14.mem (.mk M.nx 20 3584 true)) v26) fun v27 =>
 opt (ixsA 5 v27 v6) fun v29 =>
 opt (fadA 1 v29) fun v30 =>
 opt (ld1A (look M14.mem (.mk M.nx 20 65024 true)) v30) fun v31 =>
 some (.tup [v23, v31, (.i 0)], M14))
theorem e21 (c : CallT) (nl lo : Nat) (a0 a1 : AV) (M : MM) : execC c modeF lo nl cf21.body (endK cf21.res) noE (endK cf21.res) (aF [a0, a1]) M = s21 c nl lo a0 a1 M := by
 kernel_rfl
theorem q21 {c : CallT} (hc : Lim GK c) (lo : Nat) (a0 a1 : AV) (M : MM) : c 21 [a0, a1] lo M = s21 c GK.nl lo a0 a1 M :=
 (hc.flow (cf := cf21) rfl w21 [a0, a1] lo M).trans (e21 c GK.nl lo a0 a1 M)

/-! ### function 22 -/
theorem w22 : wfK cf22.nt cf22.body = true := by kernel_rfl
def s22 (c : CallT) (nl lo : Nat) (a0 a1 : AV) (M : MM) : OR :=
 opt (roA c (.top M.nx) 29 [a0, a1] M) fun v5 =>
 opt (extA 0 v5) fun v7 =>
 opt (extA 1 v5) fun v8 =>
 opt (binA .neq .none v8 (.i 0)) fun v12 =>
 isB v12 fun c13 => if c13 then (some (.tup [(.i 0), v8], M))
 else (opt (nilcA v7) fun v18 =>
 opt (fadA 3 v18) fun v19 =>
 opt (ld1A (lk M) v19) fun v20 =>
 some (.tup [v20, (.i 0)], M))
theorem e22 (c : CallT) (nl lo : Nat) (a0 a1 : AV) (M : MM) : execC c modeF lo nl cf22.body (endK cf22.res) noE (endK cf22.res) (aF [a0, a1]) M = s22 c nl lo a0 a1 M := by
 kernel_rfl
theorem q22 {c : CallT} (hc : Lim GK c) (lo : Nat) (a0 a1 : AV) (M : MM) : c 22 [a0, a1] lo M = s22 c GK.nl lo a0 a1 M :=
 (hc.flow (cf := cf22) rfl w22 [a0, a1] lo M).trans (e22 c GK.nl lo a0 a1 M)

/-! ### function 23 -/
theorem w23 : wfK cf23.nt cf23.body = true := by kernel_rfl
def s23 (c : CallT) (nl lo : Nat) (a0 a1 : AV) (M : MM) : OR :=
 opt (roA c (.top M.nx) 31 [a0, a1] M) fun v5 =>
 opt (binA .lss .none v5 (.i 0)) fun v8 =>
 isB v8 fun c9 => if c9 then (some (.tup [(.i 0), (.i 23)], M))
 else (opt (nilcA a0) fun v13 =>
 opt (fadA 0 v13) fun v14 =>
 opt (ld1A (lk M) v14) fun v15 =>
 opt (ixsA 5 v15 v5) fun v17 =>
 opt (fadA 2 v17) fun v18 =>
 opt (ld1A (lk M) v18) fun v19 =>
 some (.tup [v19, (.i 0)], M))
theorem e23 (c : CallT) (nl lo : Nat) (a0 a1 : AV) (M : MM) : execC c modeF lo nl cf23.body (endK cf23.res) noE (endK cf23.res) (aF [a0, a1]) M = s23 c nl lo a0 a1 M := by
 kernel_rfl
theorem q23 {c : CallT} (hc : Lim GK c) (lo : Nat) (a0 a1 : AV) (M : MM) : c 23 [a0, a1] lo M = s23 c GK.nl lo a0 a1 M :=
 (hc.flow (cf := cf23) rfl w23 [a0, a1] lo M).trans (e23 c GK.nl lo a0 a1 M)

/-! ### function 25 -/
theorem w25 : wfK cf25.nt cf25.body = true := by kernel_rfl
def s25 (c : CallT) (nl lo : Nat) (a0 a1 a2 : AV) (M : MM) : OR :=
 opt (binA .lss .none a1 (.i 0)) fun v4 =>
 opt (gdp v4 false (some a1)) fun v6 =>
 opt (gdp v4 false (binA .gtr .none v6 (.i 4194304))) fun v7 =>
 opt (pickA v4 (.bool true) v7) fun v8 =>
 opt (gdp v8 false (some a2)) fun v10 =>
 opt (gdp v8 false (binA .lss .none v10 (.i 0))) fun v11 =>
 opt (pickA v8 (.bool true) v11) fun v12 =>
 opt (gdp v12 false (some a2)) fun v14 =>
 opt (gdp v12 false (binA .gtr .none v14 (.i 4096))) fun v15 =>
 opt (pickA v12 (.bool true) v15) fun v16 =>
 isB v16 fun c17 => if c17 then (some (.tup [(.int .u64 0), (.i 20)], M))
 else (opt (nilcA a0) fun v22 =>
 opt (fadA 0 v22) fun v23 =>
 opt (ld1A (lk M) v23) fun v24 =>
 bnd (istep c modeF false lo (.top M.nx) M.nx (.mkmap (.int .i64)) [] M) fun v27 M28 =>
 opt ((fill [.bool false, .i 0, .i 0, .i 0, .d (.v (.map none))] [(0, 1, (.bool true)), (1, 1, a1), (2, 1, a2), (3, 1, (.i 1)), (4, 1, v27)]).map .agg) fun v29 =>
 bnd (istep c modeF false lo (.top M28.nx) M28.nx (.box 60 (.k v29)) [] M28) fun v30 M31 =>
 bnd (istep c modeF false lo (.top M31.nx) M31.nx (.mksl 53 1 1 [.nil] [(0, 1, (.k v30))]) [] M31) fun v32 M33 =>
 bnd (istep c modeF false lo (.top M33.nx) M33.nx (.app 53 1 8 [.nil] (.k v24) (.k v32)) [] M33) fun v34 M35 =>
 opt (nilcA a0) fun v36 =>
 opt (fadA 0 v36) fun v37 =>
 bnd (istep c modeF false lo (.top M35.nx) M35.nx (.st 1 (.k v37) (.k v34)) [] M35) fun v38 M39 =>
 opt (nilcA a0) fun v41 =>
 opt (fadA 1 v41) fun v42 =>
 opt (ld1A (lk M39) v42) fun v43 =>
 opt (binA .add .none v43 (.i 1)) fun v44 =>
 opt (nilcA a0) fun v45 =>
 opt (fadA 1 v45) fun v46 =>
 bnd (istep c modeF false lo (.top M39.nx) M39.nx (.st 1 (.k v46) (.k v44)) [] M39) fun v47 M48 =>
 opt (nilcA a0) fun v50 =>
 opt (fadA 0 v50) fun v51 =>
 opt (ld1A (lk M48) v51) fun v52 =>
 opt (lenA v52) fun v53 =>
 opt (binA .mul .none (.i 8) v53) fun v54 =>
 opt (cviA .u64 v54) fun v55 =>
 some (.tup [v55, (.i 0)], M48))
theorem e25 (c : CallT) (nl lo : Nat) (a0 a1 a2 : AV) (M : MM) : execC c modeF lo nl cf25.body (endK cf25.res) noE (endK cf25.res) (aF [a0, a1, a2]) M = s25 c nl lo a0 a1 a2 M := by
 kernel_rfl
theorem q25 {c : CallT} (hc : Lim GK c) (lo : Nat) (a0 a1 a2 : AV) (M : MM) : c 25 [a0, a1, a2] lo M = s25 c GK.nl lo a0 a1 a2 M :=
 (hc.flow (cf := cf25) rfl w25 [a0, a1, a2] lo M).trans (e25 c GK.nl lo a0 a1 a2 M)

/-! ### function 26 -/
theorem w26 : wfK cf26.nt cf26.body = true := by kernel_rfl
def s26 (c : CallT) (nl lo : Nat) (a0 a1 a2 : AV) (M : MM) : OR :=
 opt (binA .lss .none a1 (.i 0)) fun v4 =>
 opt (gdp v4 false (some a1)) fun v6 =>
 opt (gdp v4 false (binA .gtr .none v6 (.i 4194304))) fun v7 =>
 opt (pickA v4 (.bool true) v7) fun v8 =>
 opt (gdp v8 false (some a2)) fun v10 =>
 opt (gdp v8 false (binA .lss .none v10 (.i 0))) fun v11 =>
 opt (pickA v8 (.bool true) v11) fun v12 =>
 opt (gdp v12 false (some a2)) fun v14 =>
 opt (gdp v12 false (binA .gtr .none v14 (.i 4096))) fun v15 =>
 opt (pickA v12 (.bool true) v15) fun v16 =>
 isB v16 fun c17 => if c17 then (some (.tup [(.int .u64 0), (.i 20)], M))
 else (bumpK M 16 fun M20 =>
 opt (nilcA a0) fun v23 =>
 opt (fadA 0 v23) fun v24 =>
 opt (ld1A (look M20.mem (.mk M.nx 16 14 true)) v24) fun v25 =>
 bnd (istep c modeF true lo (.mk M.nx 16 64 true) (M.nx + 7) (.mkslice 5 1 1 [.int .u8 0] (.k a1) (.k a1)) [] M20) fun v28 M29 =>
 bnd (istep c modeF true lo (.mk M.nx 16 256 true) (M.nx + 9) (.mkslice 4 1 1 [.bool false] (.k a1) (.k a1)) [] M29) fun v31 M32 =>
 opt ((fill [.bool false, .i 0, .i 0, .nilsl, .nilsl] [(0, 1, (.bool true)), (1, 1, a2), (2, 1, (.i 1)), (3, 1, v28), (4, 1, v31)]).map .agg) fun v33 =>
 bnd (istep c modeF true lo (.mk M.nx 16 2016 true) (M.nx + 11) (.mksl 68 1 5 [.bool false, .i 0, .i 0, .nilsl, .nilsl] [(0, 5, (.k v33))]) [] M32) fun v34 M35 =>
 bnd (istep c modeF true lo (.mk M.nx 16 4094 true) (M.nx + 12) (.app 68 5 72 [.bool false, .i 0, .i 0, .nilsl, .nilsl] (.k v25) (.k v34)) [] M35) fun v36 M37 =>
 opt (nilcA a0) fun v38 =>
 opt (fadA 0 v38) fun v39 =>
 bnd (istep c modeF true lo (.mk M.nx 16 32767 true) (M.nx + 15) (.st 1 (.k v39) (.k v36)) [] M37) fun v40 M41 =>
 opt (nilcA a0) fun v43 =>
 opt (fadA 0 v43) fun v44 =>
 opt (ld1A (lk M41) v44) fun v45 =>
 opt (lenA v45) fun v46 =>
 opt (binA .mul .none (.i 8) v46) fun v47 =>
 opt (cviA .u64 v47) fun v48 =>
 some (.tup [v48, (.i 0)], M41))
theorem e26 (c : CallT) (nl lo : Nat) (a0 a1 a2 : AV) (M : MM) : execC c modeF lo nl cf26.body (endK cf26.res) noE (endK cf26.res) (aF [a0, a1, a2]) M = s26 c nl lo a0 a1 a2 M := by
 kernel_rfl
theorem q26 {c : CallT} (hc : Lim GK c) (lo : Nat) (a0 a1 a2 : AV) (M : MM) : c 26 [a0, a1, a2] lo M = s26 c GK.nl lo a0 a1 a2 M :=
 (hc.flow (cf := cf26) rfl w26 [a0, a1, a2] lo M).trans (e26 c GK.nl lo a0 a1 a2 M)

/-! ### function 27 -/
theorem w27 : wfK cf27.nt cf27.body = true := by kernel_rfl
def s27 (c : CallT) (nl lo : Nat) (a0 : AV) (M : MM) : OR :=
 opt (nilcA a0) fun v3 =>
 opt (fadA 1 v3) fun v4 =>
 opt (ld1A (lk M) v4) fun v5 =>
 some (v5, M)
theorem e27 (c : CallT) (nl lo : Nat) (a0 : AV) (M : MM) : execC c modeF lo nl cf27.body (endK cf27.res) noE (endK cf27.res) (aF [a0]) M = s27 c nl lo a0 M := by
 kernel_rfl
theorem q27 {c : CallT} (hc : Lim GK c) (lo : Nat) (a0 : AV) (M : MM) : c 27 [a0] lo M = s27 c GK.nl lo a0 M :=
 (hc.flow (cf := cf27) rfl w27 [a0] lo M).trans (e27 c GK.nl lo a0 M)

/-! ### function 28 -/
theorem w28 : wfK cf28.nt cf28.body = true := by kernel_rfl
def k28_3 (c : CallT) (nl lo : Nat) : Rg → MM → OR := (execC c modeF lo nl p28_21 (endK cf28.res) noE (endK cf28.res))
@[reducible] def b28_3 (c : CallT) (nl lo : Nat) (x3 : AV) (M : MM) : OR :=
 some (x3, M)
theorem t28_3 (c : CallT) (nl lo : Nat) (ρ : Rg) (M : MM) : k28_3 c nl lo ρ M = b28_3 c nl lo (ρ 3) M := by
 kernel_rfl
def k28_8 (c : CallT) (nl lo : Nat) (q28_5 : Rg → MM → OR) : Rg → MM → OR := (execC c modeF lo nl p28_13 q28_5 (fun i ρ M => if i = 0 then (k28_3 c nl lo) ρ M else noE i ρ M) (endK cf28.res))
@[reducible] def b28_8 (c : CallT) (nl lo : Nat) (j28_5 : AV → AV → AV → AV → MM → OR) (x3 x9 x10 x11 : AV) (M : MM) : OR :=
 opt (binA .add .none x11 (.i 1)) fun v9 =>
 j28_5 x3 x9 x10 v9 M
theorem t28_8 (c : CallT) (nl lo : Nat) (q28_5 : Rg → MM → OR) (j28_5 : AV → AV → AV → AV → MM → OR) (h28_5 : ∀ (ρ : Rg) (M : MM), q28_5 ρ M = j28_5 (ρ 3) (ρ 9) (ρ 10) (ρ 11) M) (ρ : Rg) (M : MM) : k28_8 c nl lo q28_5 ρ M = b28_8 c nl lo j28_5 (ρ 3) (ρ 9) (ρ 10) (ρ 11) M := by
 have h : k28_8 c nl lo q28_5 ρ M = (opt (binA .add .none (ρ 11) (.i 1)) fun v9 =>
 q28_5 (sF (sF ρ 19 v9) 11 v9) M) := by kernel_rfl
 rw [h]
 unfold b28_8; simp only [h28_5] <;> (show _ = _; kernel_rfl)
def k28_9 (c : CallT) (nl lo : Nat) (q28_5 : Rg → MM → OR) : Rg → MM → OR := (execC c modeF lo nl p28_12 (k28_8 c nl lo q28_5) (fun i ρ M => if i = 0 then (k28_3 c nl lo) ρ M else noE i ρ M) (endK cf28.res))
@[reducible] def b28_9 (c : CallT) (nl lo : Nat) (j28_5 : AV → AV → AV → AV → MM → OR) (x3 x9 x10 x11 : AV) (M : MM) : OR :=
 opt (ixsA 5 x9 x11) fun v11 =>
 opt (ldnA (lk M) 5 v11) fun v12 =>
 upK M M.nx fun M14 =>
 opt (setcA 0 5 (.agg [.bool false, .i 0, .i 0, .nilsl, .nilsl]) v12) fun v15 =>
 opt (fldA 0 0 true v15) fun v16 =>
 opt (fldA 0 1 false v15) fun v17 =>
 isB v17 fun c18 => if c18 then (opt (binA .add .none x3 (.i 1)) fun v20 =>
 b28_8 c nl lo j28_5 v20 x9 x10 x11 M14)
 else (b28_8 c nl lo j28_5 x3 x9 x10 x11 M14)
theorem t28_9 (c : CallT) (nl lo : Nat) (q28_5 : Rg → MM → OR) (j28_5 : AV → AV → AV → AV → MM → OR) (h28_5 : ∀ (ρ : Rg) (M : MM), q28_5 ρ M = j28_5 (ρ 3) (ρ 9) (ρ 10) (ρ 11) M) (ρ : Rg) (M : MM) : k28_9 c nl lo q28_5 ρ M = b28_9 c nl lo j28_5 (ρ 3) (ρ 9) (ρ 10) (ρ 11) M := by
 have h : ∀ (z0 : Rg → MM → OR), (execC c modeF lo nl p28_12 z0 (fun i ρ M => if i = 0 then (k28_3 c nl lo) ρ M else noE i ρ M) (endK cf28.res)) ρ M = (opt (ixsA 5 (ρ 9) (ρ 11)) fun v11 =>
 opt (ldnA (lk M) 5 v11) fun v12 =>
 upK M M.nx fun M14 =>
 opt (setcA 0 5 (.agg [.bool false, .i 0, .i 0, .nilsl, .nilsl]) v12) fun v15 =>
 opt (fldA 0 0 true v15) fun v16 =>
 opt (fldA 0 1 false v15) fun v17 =>
 isB v17 fun c18 => if c18 then (opt (binA .add .none (ρ 3) (.i 1)) fun v20 =>
 z0 (sF (sF (sF (sF (sF (sF (sF (sF (sF ρ 13 v11) 14 v12) 5 (.agg [.bool false, .i 0, .i 0, .nilsl, .nilsl])) 5 v15) 15 v16) 16 v17) 17 (ρ 3)) 18 v20) 3 v20) M14)
 else (z0 (sF (sF (sF (sF (sF (sF ρ 13 v11) 14 v12) 5 (.agg [.bool false, .i 0, .i 0, .nilsl, .nilsl])) 5 v15) 15 v16) 16 v17) M14)) := by intros; kernel_rfl
 refine (h (k28_8 c nl lo q28_5)).trans ?_
 unfold b28_9; simp only [(t28_8 c nl lo q28_5 j28_5 h28_5), h28_5] <;> (show _ = _; kernel_rfl)
def k28_7 (c : CallT) (nl lo : Nat) (q28_5 : Rg → MM → OR) : Rg → MM → OR := (execC c modeF lo nl p28_14 q28_5 (fun i ρ M => if i = 0 then (k28_3 c nl lo) ρ M else noE i ρ M) (endK cf28.res))
@[reducible] def b28_7 (c : CallT) (nl lo : Nat) (j28_5 : AV → AV → AV → AV → MM → OR) (x3 x9 x10 x11 : AV) (M : MM) : OR :=
 b28_9 c nl lo j28_5 x3 x9 x10 x11 M
theorem t28_7 (c : CallT) (nl lo : Nat) (q28_5 : Rg → MM → OR) (j28_5 : AV → AV → AV → AV → MM → OR) (h28_5 : ∀ (ρ : Rg) (M : MM), q28_5 ρ M = j28_5 (ρ 3) (ρ 9) (ρ 10) (ρ 11) M) (ρ : Rg) (M : MM) : k28_7 c nl lo q28_5 ρ M = b28_7 c nl lo j28_5 (ρ 3) (ρ 9) (ρ 10) (ρ 11) M := by
 have h : k28_7 c nl lo q28_5 ρ M = (k28_9 c nl lo q28_5 ρ M) := execC_seq c modeF lo nl p28_12 p28_13 q28_5 (fun i ρ M => if i = 0 then (k28_3 c nl lo) ρ M else noE i ρ M) (endK cf28.res) ρ M
 rw [h]
 unfold b28_7; simp only [(t28_9 c nl lo q28_5 j28_5 h28_5), h28_5] <;> (show _ = _; kernel_rfl)
def k28_10 (c : CallT) (nl lo : Nat) (q28_5 : Rg → MM → OR) : Rg → MM → OR := (execC c modeF lo nl p28_5 (k28_7 c nl lo q28_5) (fun i ρ M => if i = 0 then (k28_3 c nl lo) ρ M else noE i ρ M) (endK cf28.res))
@[reducible] def b28_10 (c : CallT) (nl lo : Nat) (j28_5 : AV → AV → AV → AV → MM → OR) (x3 x9 x10 x11 x12 : AV) (M : MM) : OR :=
 isB x12 fun c9 => if c9 then (b28_7 c nl lo j28_5 x3 x9 x10 x11 M)
 else (b28_3 c nl lo x3 M)
theorem t28_10 (c : CallT) (nl lo : Nat) (q28_5 : Rg → MM → OR) (j28_5 : AV → AV → AV → AV → MM → OR) (h28_5 : ∀ (ρ : Rg) (M : MM), q28_5 ρ M = j28_5 (ρ 3) (ρ 9) (ρ 10) (ρ 11) M) (ρ : Rg) (M : MM) : k28_10 c nl lo q28_5 ρ M = b28_10 c nl lo j28_5 (ρ 3) (ρ 9) (ρ 10) (ρ 11) (ρ 12) M := by
 have h : ∀ (z0 z1 : Rg → MM → OR), (execC c modeF lo nl p28_5 z1 (fun i ρ M => if i = 0 then z0 ρ M else noE i ρ M) (endK cf28.res)) ρ M = (isB (ρ 12) fun c9 => if c9 then (z1 ρ M)
 else (z0 ρ M)) := by intros; kernel_rfl
 refine (h (k28_3 c nl lo) (k28_7 c nl lo q28_5)).trans ?_
 unfold b28_10; simp only [(t28_3 c nl lo), (t28_7 c nl lo q28_5 j28_5 h28_5), h28_5] <;> (show _ = _; kernel_rfl)
def k28_6 (c : CallT) (nl lo : Nat) (q28_5 : Rg → MM → OR) : Rg → MM → OR := (execC c modeF lo nl p28_15 q28_5 (fun i ρ M => if i = 0 then (k28_3 c nl lo) ρ M else noE i ρ M) (endK cf28.res))
@[reducible] def b28_6 (c : CallT) (nl lo : Nat) (j28_5 : AV → AV → AV → AV → MM → OR) (x3 x9 x10 x11 x12 : AV) (M : MM) : OR :=
 b28_10 c nl lo j28_5 x3 x9 x10 x11 x12 M
theorem t28_6 (c : CallT) (nl lo : Nat) (q28_5 : Rg → MM → OR) (j28_5 : AV → AV → AV → AV → MM → OR) (h28_5 : ∀ (ρ : Rg) (M : MM), q28_5 ρ M = j28_5 (ρ 3) (ρ 9) (ρ 10) (ρ 11) M) (ρ : Rg) (M : MM) : k28_6 c nl lo q28_5 ρ M = b28_6 c nl lo j28_5 (ρ 3) (ρ 9) (ρ 10) (ρ 11) (ρ 12) M := by
 have h : k28_6 c nl lo q28_5 ρ M = (k28_10 c nl lo q28_5 ρ M) := execC_seq c modeF lo nl p28_5 p28_14 q28_5 (fun i ρ M => if i = 0 then (k28_3 c nl lo) ρ M else noE i ρ M) (endK cf28.res) ρ M
 rw [h]
 unfold b28_6; simp only [(t28_10 c nl lo q28_5 j28_5 h28_5), h28_5] <;> (show _ = _; kernel_rfl)
def k28_11 (c : CallT) (nl lo : Nat) (q28_5 : Rg → MM → OR) : Rg → MM → OR := (execC c modeF lo nl p28_4 (k28_6 c nl lo q28_5) (fun i ρ M => if i = 0 then (k28_3 c nl lo) ρ M else noE i ρ M) (endK cf28.res))
@[reducible] def b28_11 (c : CallT) (nl lo : Nat) (j28_5 : AV → AV → AV → AV → MM → OR) (x3 x9 x10 x11 : AV) (M : MM) : OR :=
 opt (binA .lss .none x11 x10) fun v9 =>
 b28_6 c nl lo j28_5 x3 x9 x10 x11 v9 M
theorem t28_11 (c : CallT) (nl lo : Nat) (q28_5 : Rg → MM → OR) (j28_5 : AV → AV → AV → AV → MM → OR) (h28_5 : ∀ (ρ : Rg) (M : MM), q28_5 ρ M = j28_5 (ρ 3) (ρ 9) (ρ 10) (ρ 11) M) (ρ : Rg) (M : MM) : k28_11 c nl lo q28_5 ρ M = b28_11 c nl lo j28_5 (ρ 3) (ρ 9) (ρ 10) (ρ 11) M := by
 have h : ∀ (z0 : Rg → MM → OR), (execC c modeF lo nl p28_4 z0 (fun i ρ M => if i = 0 then (k28_3 c nl lo) ρ M else noE i ρ M) (endK cf28.res)) ρ M = (opt (binA .lss .none (ρ 11) (ρ 10)) fun v9 =>
 z0 (sF ρ 12 v9) M) := by intros; kernel_rfl
 refine (h (k28_6 c nl lo q28_5)).trans ?_
 unfold b28_11; simp only [(t28_6 c nl lo q28_5 j28_5 h28_5), h28_5] <;> (show _ = _; kernel_rfl)
def k28_5 (c : CallT) (nl lo : Nat) (n : Nat) : Rg → MM → OR := iterC (fun k ρ M => execC c modeF lo nl p28_16 k (fun i ρ M => if i = 0 then (k28_3 c nl lo) ρ M else noE i ρ M) (endK cf28.res) ρ M) n
def b28_5 (c : CallT) (nl lo : Nat) : Nat → AV → AV → AV → AV → MM → OR
 | 0, _, _, _, _, _ => none
 | n + 1, x3, x9, x10, x11, M =>
 b28_11 c nl lo (b28_5 c nl lo n) x3 x9 x10 x11 M
theorem t28_5 (c : CallT) (nl lo : Nat) : ∀ (n : Nat) (ρ : Rg) (M : MM), k28_5 c nl lo n ρ M = b28_5 c nl lo n (ρ 3) (ρ 9) (ρ 10) (ρ 11) M
 | 0, ρ, M => rfl
 | n + 1, ρ, M => by
  have h : k28_5 c nl lo (n + 1) ρ M = (k28_11 c nl lo (k28_5 c nl lo n) ρ M) := execC_seq c modeF lo nl p28_4 p28_15 (k28_5 c nl lo n) (fun i ρ M => if i = 0 then (k28_3 c nl lo) ρ M else noE i ρ M) (endK cf28.res) ρ M
  rw [h]
  unfold b28_5; simp only [(t28_11 c nl lo (k28_5 c nl lo n) (b28_5 c nl lo n) (t28_5 c nl lo n)), (t28_5 c nl lo n)] <;> (show _ = _; kernel_rfl)
def k28_4 (c : CallT) (nl lo : Nat) : Rg → MM → OR := (execC c modeF lo nl p28_19 (k28_3 c nl lo) noE (endK cf28.res))
@[reducible] def b28_4 (c : CallT) (nl lo : Nat) (x0 x3 : AV) (M : MM) : OR :=
 opt (nilcA x0) fun v4 =>
 opt (fadA 0 v4) fun v5 =>
 opt (ld1A (lk M) v5) fun v6 =>
 opt (lenA v6) fun v7 =>
 b28_5 c nl lo nl x3 v6 v7 (.i 0) M
theorem t28_4 (c : CallT) (nl lo : Nat) (ρ : Rg) (M : MM) : k28_4 c nl lo ρ M = b28_4 c nl lo (ρ 0) (ρ 3) M := by
 have h : k28_4 c nl lo ρ M = (opt (nilcA (ρ 0)) fun v4 =>
 opt (fadA 0 v4) fun v5 =>
 opt (ld1A (lk M) v5) fun v6 =>
 opt (lenA v6) fun v7 =>
 k28_5 c nl lo nl (sF (sF (sF (sF (sF (sF ρ 6 (ρ 0)) 7 v4) 8 v5) 9 v6) 10 v7) 11 (.i 0)) M) := by kernel_rfl
 rw [h]
 unfold b28_4; simp only [(t28_5 c nl lo nl)] <;> (show _ = _; kernel_rfl)
def k28_2 (c : CallT) (nl lo : Nat) : Rg → MM → OR := (execC c modeF lo nl p28_22 (endK cf28.res) noE (endK cf28.res))
@[reducible] def b28_2 (c : CallT) (nl lo : Nat) (x0 x3 : AV) (M : MM) : OR :=
 b28_4 c nl lo x0 x3 M
theorem t28_2 (c : CallT) (nl lo : Nat) (ρ : Rg) (M : MM) : k28_2 c nl lo ρ M = b28_2 c nl lo (ρ 0) (ρ 3) M := by
 have h : k28_2 c nl lo ρ M = (k28_4 c nl lo ρ M) := execC_seq c modeF lo nl p28_19 p28_21 (endK cf28.res) noE (endK cf28.res) ρ M
 rw [h]
 unfold b28_2; simp only [(t28_4 c nl lo)] <;> (show _ = _; kernel_rfl)
def k28_12 (c : CallT) (nl lo : Nat) : Rg → MM → OR := (execC c modeF lo nl p28_2 (k28_2 c nl lo) noE (endK cf28.res))
@[reducible] def b28_12 (c : CallT) (nl lo : Nat) (x0 : AV) (M : MM) : OR :=
 b28_2 c nl lo x0 (.i 0) M
theorem t28_12 (c : CallT) (nl lo : Nat) (ρ : Rg) (M : MM) : k28_12 c nl lo ρ M = b28_12 c nl lo (ρ 0) M := by
 have h : ∀ (z0 : Rg → MM → OR), (execC c modeF lo nl p28_2 z0 noE (endK cf28.res)) ρ M = (z0 (sF ρ 3 (.i 0)) M) := by intros; kernel_rfl
 refine (h (k28_2 c nl lo)).trans ?_
 unfold b28_12; simp only [(t28_2 c nl lo)] <;> (show _ = _; kernel_rfl)
def k28_1 (c : CallT) (nl lo : Nat) : Rg → MM → OR := (execC c modeF lo nl p28_23 (endK cf28.res) noE (endK cf28.res))
@[reducible] def b28_1 (c : CallT) (nl lo : Nat) (x0 : AV) (M : MM) : OR :=
 b28_12 c nl lo x0 M
theorem t28_1 (c : CallT) (nl lo : Nat) (ρ : Rg) (M : MM) : k28_1 c nl lo ρ M = b28_1 c nl lo (ρ 0) M := by
 have h : k28_1 c nl lo ρ M = (k28_12 c nl lo ρ M) := execC_seq c modeF lo nl p28_2 p28_22 (endK cf28.res) noE (endK cf28.res) ρ M
 rw [h]
 unfold b28_1; simp only [(t28_12 c nl lo)] <;> (show _ = _; kernel_rfl)
def k28_13 (c : CallT) (nl lo : Nat) : Rg → MM → OR := (execC c modeF lo nl p28_1 (k28_1 c nl lo) noE (endK cf28.res))
@[reducible] def b28_13 (c : CallT) (nl lo : Nat) (x0 : AV) (M : MM) : OR :=
 b28_1 c nl lo x0 M
theorem t28_13 (c : CallT) (nl lo : Nat) (ρ : Rg) (M : MM) : k28_13 c nl lo ρ M = b28_13 c nl lo (ρ 0) M := by
 have h : ∀ (z0 : Rg → MM → OR), (execC c modeF lo nl p28_1 z0 noE (endK cf28.res)) ρ M = (z0 (sF ρ 2 (.i 0)) M) := by intros; kernel_rfl
 refine (h (k28_1 c nl lo)).trans ?_
 unfold b28_13; simp only [(t28_1 c nl lo)] <;> (show _ = _; kernel_rfl)
def k28_0 (c : CallT) (nl lo : Nat) : Rg → MM → OR := (execC c modeF lo nl p28_24 (endK cf28.res) noE (endK cf28.res))
@[reducible] def b28_0 (c : CallT) (nl lo : Nat) (x0 : AV) (M : MM) : OR :=
 b28_13 c nl lo x0 M
theorem t28_0 (c : CallT) (nl lo : Nat) (ρ : Rg) (M : MM) : k28_0 c nl lo ρ M = b28_0 c nl lo (ρ 0) M := by
 have h : k28_0 c nl lo ρ M = (k28_13 c nl lo ρ M) := execC_seq c modeF lo nl p28_1 p28_23 (endK cf28.res) noE (endK cf28.res) ρ M
 rw [h]
 unfold b28_0; simp only [(t28_13 c nl lo)] <;> (show _ = _; kernel_rfl)
def k28_14 (c : CallT) (nl lo : Nat) : Rg → MM → OR := (execC c modeF lo nl p28_0 (k28_0 c nl lo) noE (endK cf28.res))
@[reducible] def b28_14 (c : CallT) (nl lo : Nat) (x0 : AV) (M : MM) : OR :=
 b28_0 c nl lo x0 M
theorem t28_14 (c : CallT) (nl lo : Nat) (ρ : Rg) (M : MM) : k28_14 c nl lo ρ M = b28_14 c nl lo (ρ 0) M := by
 have h : ∀ (z0 : Rg → MM → OR), (execC c modeF lo nl p28_0 z0 noE (endK cf28.res)) ρ M = (z0 (sF ρ 5 (.tup [])) M) := by intros; kernel_rfl
 refine (h (k28_0 c nl lo)).trans ?_
 unfold b28_14; simp only [(t28_0 c nl lo)] <;> (show _ = _; kernel_rfl)
def s28 (c : CallT) (nl lo : Nat) (a0 : AV) (M : MM) : OR :=
 b28_14 c nl lo a0 M
theorem e28 (c : CallT) (nl lo : Nat) (a0 : AV) (M : MM) : execC c modeF lo nl cf28.body (endK cf28.res) noE (endK cf28.res) (aF [a0]) M = s28 c nl lo a0 M := by
 have h : execC c modeF lo nl cf28.body (endK cf28.res) noE (endK cf28.res) (aF [a0]) M = (k28_14 c nl lo (aF [a0]) M) := execC_seq c modeF lo nl p28_0 p28_24 (endK cf28.res) noE (endK cf28.res) (aF [a0]) M
 refine h.trans ?_
 unfold s28; simp only [(t28_14 c nl lo)] <;> (show _ = _; kernel_rfl)
theorem q28 {c : CallT} (hc : Lim GK c) (lo : Nat) (a0 : AV) (M : MM) : c 28 [a0] lo M = s28 c GK.nl lo a0 M :=
 (hc.flow (cf := cf28) rfl w28 [a0] lo M).trans (e28 c GK.nl lo a0 M)

/-! ### function 29 -/
theorem w29 : wfK cf29.nt cf29.body = true := by kernel_rfl
def s29 (c : CallT) (nl lo : Nat) (a0 a1 : AV) (M : MM) : OR :=
 opt (binA .eql .none a1 (.int .u64 0)) fun v4 =>
 opt (gdp v4 false (some a1)) fun v6 =>
 opt (gdp v4 false (binA .rem .none v6 (.int .u64 8))) fun v7 =>
 opt (gdp v4 false (binA .neq .none v7 (.int .u64 0))) fun v8 =>
 opt (pickA v4 (.bool true) v8) fun v9 =>
 opt (gdp v9 false (some a1)) fun v11 =>
 opt (gdp v9 false (binA .quo .none v11 (.int .u64 8))) fun v12 =>
 opt (gdp v9 false (some a0)) fun v13 =>
 opt (gdp v9 false (nilcA v13)) fun v14 =>
 opt (gdp v9 false (fadA 0 v14)) fun v15 =>
 opt (gdp v9 false (ld1A (lk M) v15)) fun v16 =>
 opt (gdp v9 false (lenA v16)) fun v17 =>
 opt (gdp v9 false (cviA .u64 v17)) fun v18 =>
 opt (gdp v9 false (binA .gtr .none v12 v18)) fun v19 =>
 opt (pickA v9 (.bool true) v19) fun v20 =>
 isB v20 fun c21 => if c21 then (some (.tup [.nil, (.i 23)], M))
 else (opt (nilcA a0) fun v25 =>
 opt (fadA 0 v25) fun v26 =>
 opt (ld1A (lk M) v26) fun v27 =>
 opt (binA .quo .none a1 (.int .u64 8)) fun v29 =>
 opt (binA .sub .none v29 (.int .u64 1)) fun v30 =>
 opt (ixsA 1 v27 v30) fun v31 =>
 opt (ld1A (lk M) v31) fun v32 =>
 opt (nilcA v32) fun v35 =>
 opt (fadA 0 v35) fun v36 =>
 opt (ld1A (lk M) v36) fun v37 =>
 opt (unA .not v37) fun v38 =>
 isB v38 fun c39 => if c39 then (some (.tup [.nil, (.i 23)], M))
 else (some (.tup [v32, (.i 0)], M)))
theorem e29 (c : CallT) (nl lo : Nat) (a0 a1 : AV) (M : MM) : execC c modeF lo nl cf29.body (endK cf29.res) noE (endK cf29.res) (aF [a0, a1]) M = s29 c nl lo a0 a1 M := by
 kernel_rfl
theorem q29 {c : CallT} (hc : Lim GK c) (lo : Nat) (a0 a1 : AV) (M : MM) : c 29 [a0, a1] lo M = s29 c GK.nl lo a0 a1 M :=
 (hc.flow (cf := cf29) rfl w29 [a0, a1] lo M).trans (e29 c GK.nl lo a0 a1 M)

/-! ### function 30 -/
theorem w30 : wfK cf30.nt cf30.body = true := by kernel_rfl
def s30 (c : CallT) (nl lo : Nat) (a0 a1 a2 : AV) (M : MM) : OR :=
 opt (binA .geq .none a1 (.i 0)) fun v3 =>
 opt (gdp v3 true (some a2)) fun v5 =>
 opt (gdp v3 true (binA .geq .none v5 (.i 0))) fun v6 =>
 opt (pickA v3 v6 (.bool false)) fun v7 =>
 opt (gdp v7 true (some a1)) fun v9 =>
 opt (gdp v7 true (some a0)) fun v10 =>
 opt (gdp v7 true (nilcA v10)) fun v11 =>
 opt (gdp v7 true (fadA 1 v11)) fun v12 =>
 opt (gdp v7 true (ld1A (lk M) v12)) fun v13 =>
 opt (gdp v7 true (binA .leq .none v9 v13)) fun v14 =>
 opt (pickA v7 v14 (.bool false)) fun v15 =>
 opt (gdp v15 true (some a2)) fun v17 =>
 opt (gdp v15 true (some a0)) fun v18 =>
 opt (gdp v15 true (nilcA v18)) fun v19 =>
 opt (gdp v15 true (fadA 1 v19)) fun v20 =>
 opt (gdp v15 true (ld1A (lk M) v20)) fun v21 =>
 opt (gdp v15 true (some a1)) fun v22 =>
 opt (gdp v15 true (binA .sub .none v21 v22)) fun v23 =>
 opt (gdp v15 true (binA .leq .none v17 v23)) fun v24 =>
 opt (pickA v15 v24 (.bool false)) fun v25 =>
 some (v25, M)
theorem e30 (c : CallT) (nl lo : Nat) (a0 a1 a2 : AV) (M : MM) : execC c modeF lo nl cf30.body (endK cf30.res) noE (endK cf30.res) (aF [a0, a1, a2]) M = s30 c nl lo a0 a1 a2 M := by
 kernel_rfl
theorem q30 {c : CallT} (hc : Lim GK c) (lo : Nat) (a0 a1 a2 : AV) (M : MM) : c 30 [a0, a1, a2] lo M = s30 c GK.nl lo a0 a1 a2 M :=
 (hc.flow (cf := cf30) rfl w30 [a0, a1, a2] lo M).trans (e30 c GK.nl lo a0 a1 a2 M)

/-! ### function 31 -/
theorem w31 : wfK cf31.nt cf31.body = true := by kernel_rfl
def s31 (c : CallT) (nl lo : Nat) (a0 a1 : AV) (M : MM) : OR :=
 opt (binA .eql .none a1 (.int .u64 0)) fun v3 =>
 opt (gdp v3 false (some a1)) fun v5 =>
 opt (gdp v3 false (binA .rem .none v5 (.int .u64 8))) fun v6 =>
 opt (gdp v3 false (binA .neq .none v6 (.int .u64 0))) fun v7 =>
 opt (pickA v3 (.bool true) v7) fun v8 =>
 opt (gdp v8 false (some a1)) fun v10 =>
 opt (gdp v8 false (binA .quo .none v10 (.int .u64 8))) fun v11 =>
 opt (gdp v8 false (some a0)) fun v12 =>
 opt (gdp v8 false (nilcA v12)) fun v13 =>
 opt (gdp v8 false (fadA 0 v13)) fun v14 =>
 opt (gdp v8 false (ld1A (lk M) v14)) fun v15 =>
 opt (gdp v8 false (lenA v15)) fun v16 =>
 opt (gdp v8 false (cviA .u64 v16)) fun v17 =>
 opt (gdp v8 false (binA .gtr .none v11 v17)) fun v18 =>
 opt (pickA v8 (.bool true) v18) fun v19 =>
 opt (gdp v19 false (some a0)) fun v21 =>
 opt (gdp v19 false (nilcA v21)) fun v22 =>
 opt (gdp v19 false (fadA 0 v22)) fun v23 =>
 opt (gdp v19 false (ld1A (lk M) v23)) fun v24 =>
 opt (gdp v19 false (some a1)) fun v25 =>
 opt (gdp v19 false (binA .quo .none v25 (.int .u64 8))) fun v26 =>
 opt (gdp v19 false (binA .sub .none v26 (.int .u64 1))) fun v27 =>
 opt (gdp v19 false (ixsA 5 v24 v27)) fun v28 =>
 opt (gdp v19 false (fadA 0 v28)) fun v29 =>
 opt (gdp v19 false (ld1A (lk M) v29)) fun v30 =>
 opt (gdp v19 false (unA .not v30)) fun v31 =>
 opt (pickA v19 (.bool true) v31) fun v32 =>
 isB v32 fun c33 => if c33 then (some ((.i (-1)), M))
 else (opt (binA .quo .none a1 (.int .u64 8)) fun v36 =>
 opt (cviA .i64 v36) fun v37 =>
 opt (binA .sub .none v37 (.i 1)) fun v38 =>
 some (v38, M))
theorem e31 (c : CallT) (nl lo : Nat) (a0 a1 : AV) (M : MM) : execC c modeF lo nl cf31.body (endK cf31.res) noE (endK cf31.res) (aF [a0, a1]) M = s31 c nl lo a0 a1 M := by
 kernel_rfl
theorem q31 {c : CallT} (hc : Lim GK c) (lo : Nat) (a0 a1 : AV) (M : MM) : c 31 [a0, a1] lo M = s31 c GK.nl lo a0 a1 M :=
 (hc.flow (cf := cf31) rfl w31 [a0, a1] lo M).trans (e31 c GK.nl lo a0 a1 M)
end Go.Proofs.Ytegkhdflmboljaa.Sx
