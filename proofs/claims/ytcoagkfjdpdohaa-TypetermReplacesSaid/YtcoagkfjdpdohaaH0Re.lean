/- THE SEAT's FUNCTIONS AS DEFINITIONS WITHOUT REGISTERS, printed by program; 'eq..' holds each against the abstract machine's code. -/
import Derived.Test.YtcoagkfjdpdohaaGRe
import Derived.Test.YtcoagkfjdpdohaaSxM
namespace Go.Proofs.Ytcoagkfjdpdohaa.Sx
open Go
set_option maxRecDepth 1000000
set_option linter.unusedVariables false
set_option linter.unusedSimpArgs false

/-! ### function 4 -/
theorem w4 : wfK cf4.nt cf4.body = true := by kernel_rfl
def k4_11 (c : CallT) (nl lo : Nat) : Rg → MM → Option (AV × MM) := (execC c modeF lo nl p4_111 (endK cf4.res) noE (endK cf4.res))
@[reducible] def b4_11 (c : CallT) (nl lo : Nat) (M : MM) : Option (AV × MM) :=
 opt (puA c (lk M) 10 []) fun v1 =>
 some (v1, M)
theorem t4_11 (c : CallT) (nl lo : Nat) (ρ : Rg) (M : MM) : k4_11 c nl lo ρ M = b4_11 c nl lo M := by
 kernel_rfl
def k4_16 (c : CallT) (nl lo : Nat) (q4_13 : Rg → MM → Option (AV × MM)) : Rg → MM → Option (AV × MM) := (execC c modeF lo nl p4_103 q4_13 (fun i ρ M => if i = 4 then (k4_11 c nl lo) ρ M else noE i ρ M) (endK cf4.res))
@[reducible] def b4_16 (c : CallT) (nl lo : Nat) (j4_13 : AV → AV → AV → AV → MM → Option (AV × MM)) (x16 x144 x145 x146 : AV) (M : MM) : Option (AV × MM) :=
 opt (binA .add .none x146 (.i 1)) fun v16 =>
 j4_13 x16 x144 x145 v16 M
theorem t4_16 (c : CallT) (nl lo : Nat) (q4_13 : Rg → MM → Option (AV × MM)) (j4_13 : AV → AV → AV → AV → MM → Option (AV × MM)) (h4_13 : ∀ (ρ : Rg) (M : MM), q4_13 ρ M = j4_13 (ρ 16) (ρ 144) (ρ 145) (ρ 146) M) (ρ : Rg) (M : MM) : k4_16 c nl lo q4_13 ρ M = b4_16 c nl lo j4_13 (ρ 16) (ρ 144) (ρ 145) (ρ 146) M := by
 have h : k4_16 c nl lo q4_13 ρ M = (opt (binA .add .none (ρ 146) (.i 1)) fun v16 =>
 q4_13 (sF (sF ρ 206 v16) 146 v16) M) := by kernel_rfl
 rw [h]
 unfold b4_16; simp only [h4_13] <;> (show _ = _; kernel_rfl)
def k4_21 (c : CallT) (nl lo : Nat) (q4_13 : Rg → MM → Option (AV × MM)) (q4_18 : Rg → MM → Option (AV × MM)) : Rg → MM → Option (AV × MM) := (execC c modeF lo nl p4_94 q4_18 (fun i ρ M => if i = 6 then (k4_16 c nl lo q4_13) ρ M else (fun i ρ M => if i = 5 then (k4_16 c nl lo q4_13) ρ M else (fun i ρ M => if i = 4 then (k4_11 c nl lo) ρ M else noE i ρ M) i ρ M) i ρ M) (endK cf4.res))
@[reducible] def b4_21 (c : CallT) (nl lo : Nat) (j4_13 : AV → AV → AV → AV → MM → Option (AV × MM)) (j4_18 : AV → AV → AV → AV → AV → AV → AV → AV → MM → Option (AV × MM)) (x16 x27 x144 x145 x146 x155 x156 x157 : AV) (M : MM) : Option (AV × MM) :=
 opt (binA .add .none x157 (.i 1)) fun v34 =>
 j4_18 x16 x27 x144 x145 x146 x155 x156 v34 M
theorem t4_21 (c : CallT) (nl lo : Nat) (q4_13 : Rg → MM → Option (AV × MM)) (j4_13 : AV → AV → AV → AV → MM → Option (AV × MM)) (h4_13 : ∀ (ρ : Rg) (M : MM), q4_13 ρ M = j4_13 (ρ 16) (ρ 144) (ρ 145) (ρ 146) M) (q4_18 : Rg → MM → Option (AV × MM)) (j4_18 : AV → AV → AV → AV → AV → AV → AV → AV → MM → Option (AV × MM)) (h4_18 : ∀ (ρ : Rg) (M : MM), q4_18 ρ M = j4_18 (ρ 16) (ρ 27) (ρ 144) (ρ 145) (ρ 146) (ρ 155) (ρ 156) (ρ 157) M) (ρ : Rg) (M : MM) : k4_21 c nl lo q4_13 q4_18 ρ M = b4_21 c nl lo j4_13 j4_18 (ρ 16) (ρ 27) (ρ 144) (ρ 145) (ρ 146) (ρ 155) (ρ 156) (ρ 157) M := by
 have h : k4_21 c nl lo q4_13 q4_18 ρ M = (opt (binA .add .none (ρ 157) (.i 1)) fun v34 =>
 q4_18 (sF (sF ρ 205 v34) 157 v34) M) := by kernel_rfl
 rw [h]
 unfold b4_21; simp only [h4_18] <;> (show _ = _; kernel_rfl)
def k4_23 (c : CallT) (nl lo : Nat) (q4_13 : Rg → MM → Option (AV × MM)) (q4_18 : Rg → MM → Option (AV × MM)) (n : Nat) : Rg → MM → Option (AV × MM) := iterC (fun k ρ M => execC c modeF lo nl p4_85 k (fun i ρ M => if i = 8 then (k4_21 c nl lo q4_13 q4_18) ρ M else (fun i ρ M => if i = 7 then (k4_21 c nl lo q4_13 q4_18) ρ M else (fun i ρ M => if i = 6 then (k4_16 c nl lo q4_13) ρ M else (fun i ρ M => if i = 5 then (k4_16 c nl lo q4_13) ρ M else (fun i ρ M => if i = 4 then (k4_11 c nl lo) ρ M else noE i ρ M) i ρ M) i ρ M) i ρ M) i ρ M) (endK cf4.res) ρ M) n
def b4_23 (c : CallT) (nl lo : Nat) (j4_13 : AV → AV → AV → AV → MM → Option (AV × MM)) (j4_18 : AV → AV → AV → AV → AV → AV → AV → AV → MM → Option (AV × MM)) : Nat → AV → AV → AV → AV → AV → AV → AV → AV → AV → AV → AV → AV → MM → Option (AV × MM)
 | 0, _, _, _, _, _, _, _, _, _, _, _, _, _ => none
 | n + 1, x16, x27, x30, x32, x144, x145, x146, x155, x156, x157, x190, x191, M =>
 opt (binA .lss .none x191 x190) fun v76 =>
 isB v76 fun c77 => if c77 then (bumpK M 10 fun M80 =>
 opt (ixsA 2 x30 x191) fun v83 =>
 opt (ldnA (look M80.mem (.mk M.nx 10 7 true)) 2 v83) fun v84 =>
 opt (ixsA 2 x32 x191) fun v87 =>
 opt (ldnA (look M80.mem (.mk M.nx 10 112 true)) 2 v87) fun v88 =>
 opt (puA c (look M80.mem (.mk M.nx 10 255 true)) 20 [v84, v88]) fun v89 =>
 opt (unA .not v89) fun v90 =>
 isB v90 fun c91 => if c91 then (some ((.bool false), M80))
 else (opt (binA .add .none x191 (.i 1)) fun v93 =>
 (b4_23 c nl lo j4_13 j4_18 n) x16 x27 x30 x32 x144 x145 x146 x155 x156 x157 x190 v93 M80))
 else (b4_21 c nl lo j4_13 j4_18 x16 x27 x144 x145 x146 x155 x156 x157 M)
theorem t4_23 (c : CallT) (nl lo : Nat) (q4_13 : Rg → MM → Option (AV × MM)) (j4_13 : AV → AV → AV → AV → MM → Option (AV × MM)) (h4_13 : ∀ (ρ : Rg) (M : MM), q4_13 ρ M = j4_13 (ρ 16) (ρ 144) (ρ 145) (ρ 146) M) (q4_18 : Rg → MM → Option (AV × MM)) (j4_18 : AV → AV → AV → AV → AV → AV → AV → AV → MM → Option (AV × MM)) (h4_18 : ∀ (ρ : Rg) (M : MM), q4_18 ρ M = j4_18 (ρ 16) (ρ 27) (ρ 144) (ρ 145) (ρ 146) (ρ 155) (ρ 156) (ρ 157) M) : ∀ (n : Nat) (ρ : Rg) (M : MM), k4_23 c nl lo q4_13 q4_18 n ρ M = b4_23 c nl lo j4_13 j4_18 n (ρ 16) (ρ 27) (ρ 30) (ρ 32) (ρ 144) (ρ 145) (ρ 146) (ρ 155) (ρ 156) (ρ 157) (ρ 190) (ρ 191) M
 | 0, ρ, M => rfl
 | n + 1, ρ, M => by
  have h : ∀ (zb z0 : Rg → MM → Option (AV × MM)), execC c modeF lo nl p4_85 zb (fun i ρ M => if i = 8 then z0 ρ M else (fun i ρ M => if i = 7 then z0 ρ M else (fun i ρ M => if i = 6 then (k4_16 c nl lo q4_13) ρ M else (fun i ρ M => if i = 5 then (k4_16 c nl lo q4_13) ρ M else (fun i ρ M => if i = 4 then (k4_11 c nl lo) ρ M else noE i ρ M) i ρ M) i ρ M) i ρ M) i ρ M) (endK cf4.res) ρ M = (opt (binA .lss .none (ρ 191) (ρ 190)) fun v76 =>
  isB v76 fun c77 => if c77 then (bumpK M 10 fun M80 =>
  opt (ixsA 2 (ρ 30) (ρ 191)) fun v83 =>
  opt (ldnA (look M80.mem (.mk M.nx 10 7 true)) 2 v83) fun v84 =>
  opt (ixsA 2 (ρ 32) (ρ 191)) fun v87 =>
  opt (ldnA (look M80.mem (.mk M.nx 10 112 true)) 2 v87) fun v88 =>
  opt (puA c (look M80.mem (.mk M.nx 10 255 true)) 20 [v84, v88]) fun v89 =>
  opt (unA .not v89) fun v90 =>
  isB v90 fun c91 => if c91 then (some ((.bool false), M80))
  else (opt (binA .add .none (ρ 191) (.i 1)) fun v93 =>
  zb (sF (sF (sF (sF (sF (sF (sF (sF (sF (sF (sF (sF (sF (sF (sF ρ 192 v76) 193 (ρ 191)) 34 (ρ 191)) 194 (ρ 30)) 195 (ρ 191)) 196 v83) 197 v84) 198 (ρ 32)) 199 (ρ 191)) 200 v87) 201 v88) 202 v89) 203 v90) 204 v93) 191 v93) M80))
  else (z0 (sF ρ 192 v76) M)) := by intros; kernel_rfl
  refine (h (k4_23 c nl lo q4_13 q4_18 n) (k4_21 c nl lo q4_13 q4_18)).trans ?_
  unfold b4_23; simp only [(t4_21 c nl lo q4_13 j4_13 h4_13 q4_18 j4_18 h4_18), h4_13, h4_18, (t4_23 c nl lo q4_13 j4_13 h4_13 q4_18 j4_18 h4_18 n)] <;> (show _ = _; kernel_rfl)
def k4_22 (c : CallT) (nl lo : Nat) (q4_13 : Rg → MM → Option (AV × MM)) (q4_18 : Rg → MM → Option (AV × MM)) : Rg → MM → Option (AV × MM) := (execC c modeF lo nl p4_93 (k4_21 c nl lo q4_13 q4_18) (fun i ρ M => if i = 6 then (k4_16 c nl lo q4_13) ρ M else (fun i ρ M => if i = 5 then (k4_16 c nl lo q4_13) ρ M else (fun i ρ M => if i = 4 then (k4_11 c nl lo) ρ M else noE i ρ M) i ρ M) i ρ M) (endK cf4.res))
@[reducible] def b4_22 (c : CallT) (nl lo : Nat) (j4_13 : AV → AV → AV → AV → MM → Option (AV × MM)) (j4_18 : AV → AV → AV → AV → AV → AV → AV → AV → MM → Option (AV × MM)) (x16 x27 x144 x145 x146 x155 x156 x157 : AV) (M : MM) : Option (AV × MM) :=
 opt (ixsA 1 x155 x157) fun v36 =>
 opt (ld1A (lk M) v36) fun v37 =>
 opt (ixpA 2 2 x27 (.i 0)) fun v39 =>
 opt (ldnA (lk M) 2 v39) fun v40 =>
 opt (ixpA 2 2 x27 (.i 1)) fun v41 =>
 opt (ldnA (lk M) 2 v41) fun v42 =>
 opt (puA c (lk M) 22 [v40, v42, v37]) fun v44 =>
 opt (extA 0 v44) fun v46 =>
 opt (extA 1 v44) fun v47 =>
 opt (ixpA 2 2 x27 (.i 0)) fun v50 =>
 opt (ldnA (lk M) 2 v50) fun v51 =>
 opt (ixpA 2 2 x27 (.i 1)) fun v52 =>
 opt (ldnA (lk M) 2 v52) fun v53 =>
 opt (puA c (lk M) 23 [v51, v53, v37]) fun v55 =>
 opt (extA 0 v55) fun v57 =>
 opt (extA 1 v55) fun v58 =>
 opt (binA .neq .bool v47 v58) fun v63 =>
 opt (gdp v63 false (some v46)) fun v65 =>
 opt (gdp v63 false (lenA v65)) fun v66 =>
 opt (gdp v63 false (some v57)) fun v67 =>
 opt (gdp v63 false (lenA v67)) fun v68 =>
 opt (gdp v63 false (binA .neq .none v66 v68)) fun v69 =>
 opt (pickA v63 (.bool true) v69) fun v70 =>
 isB v70 fun c71 => if c71 then (some ((.bool false), M))
 else (opt (lenA v46) fun v74 =>
 b4_23 c nl lo j4_13 j4_18 nl x16 x27 v46 v57 x144 x145 x146 x155 x156 x157 v74 (.i 0) M)
theorem t4_22 (c : CallT) (nl lo : Nat) (q4_13 : Rg → MM → Option (AV × MM)) (j4_13 : AV → AV → AV → AV → MM → Option (AV × MM)) (h4_13 : ∀ (ρ : Rg) (M : MM), q4_13 ρ M = j4_13 (ρ 16) (ρ 144) (ρ 145) (ρ 146) M) (q4_18 : Rg → MM → Option (AV × MM)) (j4_18 : AV → AV → AV → AV → AV → AV → AV → AV → MM → Option (AV × MM)) (h4_18 : ∀ (ρ : Rg) (M : MM), q4_18 ρ M = j4_18 (ρ 16) (ρ 27) (ρ 144) (ρ 145) (ρ 146) (ρ 155) (ρ 156) (ρ 157) M) (ρ : Rg) (M : MM) : k4_22 c nl lo q4_13 q4_18 ρ M = b4_22 c nl lo j4_13 j4_18 (ρ 16) (ρ 27) (ρ 144) (ρ 145) (ρ 146) (ρ 155) (ρ 156) (ρ 157) M := by
 have h : k4_22 c nl lo q4_13 q4_18 ρ M = (opt (ixsA 1 (ρ 155) (ρ 157)) fun v36 =>
 opt (ld1A (lk M) v36) fun v37 =>
 opt (ixpA 2 2 (ρ 27) (.i 0)) fun v39 =>
 opt (ldnA (lk M) 2 v39) fun v40 =>
 opt (ixpA 2 2 (ρ 27) (.i 1)) fun v41 =>
 opt (ldnA (lk M) 2 v41) fun v42 =>
 opt (puA c (lk M) 22 [v40, v42, v37]) fun v44 =>
 opt (extA 0 v44) fun v46 =>
 opt (extA 1 v44) fun v47 =>
 opt (ixpA 2 2 (ρ 27) (.i 0)) fun v50 =>
 opt (ldnA (lk M) 2 v50) fun v51 =>
 opt (ixpA 2 2 (ρ 27) (.i 1)) fun v52 =>
 opt (ldnA (lk M) 2 v52) fun v53 =>
 opt (puA c (lk M) 23 [v51, v53, v37]) fun v55 =>
 opt (extA 0 v55) fun v57 =>
 opt (extA 1 v55) fun v58 =>
 opt (binA .neq .bool v47 v58) fun v63 =>
 opt (gdp v63 false (some v46)) fun v65 =>
 opt (gdp v63 false (lenA v65)) fun v66 =>
 opt (gdp v63 false (some v57)) fun v67 =>
 opt (gdp v63 false (lenA v67)) fun v68 =>
 opt (gdp v63 false (binA .neq .none v66 v68)) fun v69 =>
 opt (pickA v63 (.bool true) v69) fun v70 =>
 isB v70 fun c71 => if c71 then (some ((.bool false), M))
 else (opt (lenA v46) fun v74 =>
 k4_23 c nl lo q4_13 q4_18 nl (sF (sF (sF (sF (sF (sF (sF (sF (sF (sF (sF (sF (sF (sF (sF (sF (sF (sF (sF (sF (sF (sF (sF (sF (sF (sF (sF (sF (sF (sF (sF (sF (sF (sF (sF (sF (sF (sF ρ 159 v36) 160 v37) 29 v37) 162 v39) 163 v40) 164 v41) 165 v42) 166 v37) 167 v44) 161 v44) 168 v46) 169 v47) 30 v46) 31 v47) 171 v50) 172 v51) 173 v52) 174 v53) 175 v37) 176 v55) 170 v55) 177 v57) 178 v58) 32 v57) 33 v58) 179 v47) 180 v58) 181 v63) 182 v63) 183 v65) 184 v66) 185 v67) 186 v68) 187 v69) 188 v70) 189 v46) 190 v74) 191 (.i 0)) M)) := by kernel_rfl
 rw [h]
 unfold b4_22; simp only [(t4_23 c nl lo q4_13 j4_13 h4_13 q4_18 j4_18 h4_18 nl), h4_13, h4_18] <;> (show _ = _; kernel_rfl)
def k4_20 (c : CallT) (nl lo : Nat) (q4_13 : Rg → MM → Option (AV × MM)) (q4_18 : Rg → MM → Option (AV × MM)) : Rg → MM → Option (AV × MM) := (execC c modeF lo nl p4_95 q4_18 (fun i ρ M => if i = 6 then (k4_16 c nl lo q4_13) ρ M else (fun i ρ M => if i = 5 then (k4_16 c nl lo q4_13) ρ M else (fun i ρ M => if i = 4 then (k4_11 c nl lo) ρ M else noE i ρ M) i ρ M) i ρ M) (endK cf4.res))
@[reducible] def b4_20 (c : CallT) (nl lo : Nat) (j4_13 : AV → AV → AV → AV → MM → Option (AV × MM)) (j4_18 : AV → AV → AV → AV → AV → AV → AV → AV → MM → Option (AV × MM)) (x16 x27 x144 x145 x146 x155 x156 x157 : AV) (M : MM) : Option (AV × MM) :=
 b4_22 c nl lo j4_13 j4_18 x16 x27 x144 x145 x146 x155 x156 x157 M
theorem t4_20 (c : CallT) (nl lo : Nat) (q4_13 : Rg → MM → Option (AV × MM)) (j4_13 : AV → AV → AV → AV → MM → Option (AV × MM)) (h4_13 : ∀ (ρ : Rg) (M : MM), q4_13 ρ M = j4_13 (ρ 16) (ρ 144) (ρ 145) (ρ 146) M) (q4_18 : Rg → MM → Option (AV × MM)) (j4_18 : AV → AV → AV → AV → AV → AV → AV → AV → MM → Option (AV × MM)) (h4_18 : ∀ (ρ : Rg) (M : MM), q4_18 ρ M = j4_18 (ρ 16) (ρ 27) (ρ 144) (ρ 145) (ρ 146) (ρ 155) (ρ 156) (ρ 157) M) (ρ : Rg) (M : MM) : k4_20 c nl lo q4_13 q4_18 ρ M = b4_20 c nl lo j4_13 j4_18 (ρ 16) (ρ 27) (ρ 144) (ρ 145) (ρ 146) (ρ 155) (ρ 156) (ρ 157) M := by
 have h : k4_20 c nl lo q4_13 q4_18 ρ M = (k4_22 c nl lo q4_13 q4_18 ρ M) := execC_seq c modeF lo nl p4_93 p4_94 q4_18 (fun i ρ M => if i = 6 then (k4_16 c nl lo q4_13) ρ M else (fun i ρ M => if i = 5 then (k4_16 c nl lo q4_13) ρ M else (fun i ρ M => if i = 4 then (k4_11 c nl lo) ρ M else noE i ρ M) i ρ M) i ρ M) (endK cf4.res) ρ M
 rw [h]
 unfold b4_20; simp only [(t4_22 c nl lo q4_13 j4_13 h4_13 q4_18 j4_18 h4_18), h4_13, h4_18] <;> (show _ = _; kernel_rfl)
def k4_24 (c : CallT) (nl lo : Nat) (q4_13 : Rg → MM → Option (AV × MM)) (q4_18 : Rg → MM → Option (AV × MM)) : Rg → MM → Option (AV × MM) := (execC c modeF lo nl p4_62 (k4_20 c nl lo q4_13 q4_18) (fun i ρ M => if i = 6 then (k4_16 c nl lo q4_13) ρ M else (fun i ρ M => if i = 5 then (k4_16 c nl lo q4_13) ρ M else (fun i ρ M => if i = 4 then (k4_11 c nl lo) ρ M else noE i ρ M) i ρ M) i ρ M) (endK cf4.res))
@[reducible] def b4_24 (c : CallT) (nl lo : Nat) (j4_13 : AV → AV → AV → AV → MM → Option (AV × MM)) (j4_18 : AV → AV → AV → AV → AV → AV → AV → AV → MM → Option (AV × MM)) (x16 x27 x144 x145 x146 x155 x156 x157 x158 : AV) (M : MM) : Option (AV × MM) :=
 isB x158 fun c34 => if c34 then (b4_20 c nl lo j4_13 j4_18 x16 x27 x144 x145 x146 x155 x156 x157 M)
 else (b4_16 c nl lo j4_13 x16 x144 x145 x146 M)
theorem t4_24 (c : CallT) (nl lo : Nat) (q4_13 : Rg → MM → Option (AV × MM)) (j4_13 : AV → AV → AV → AV → MM → Option (AV × MM)) (h4_13 : ∀ (ρ : Rg) (M : MM), q4_13 ρ M = j4_13 (ρ 16) (ρ 144) (ρ 145) (ρ 146) M) (q4_18 : Rg → MM → Option (AV × MM)) (j4_18 : AV → AV → AV → AV → AV → AV → AV → AV → MM → Option (AV × MM)) (h4_18 : ∀ (ρ : Rg) (M : MM), q4_18 ρ M = j4_18 (ρ 16) (ρ 27) (ρ 144) (ρ 145) (ρ 146) (ρ 155) (ρ 156) (ρ 157) M) (ρ : Rg) (M : MM) : k4_24 c nl lo q4_13 q4_18 ρ M = b4_24 c nl lo j4_13 j4_18 (ρ 16) (ρ 27) (ρ 144) (ρ 145) (ρ 146) (ρ 155) (ρ 156) (ρ 157) (ρ 158) M := by
 have h : ∀ (z0 z1 : Rg → MM → Option (AV × MM)), (execC c modeF lo nl p4_62 z1 (fun i ρ M => if i = 6 then z0 ρ M else (fun i ρ M => if i = 5 then z0 ρ M else (fun i ρ M => if i = 4 then (k4_11 c nl lo) ρ M else noE i ρ M) i ρ M) i ρ M) (endK cf4.res)) ρ M = (isB (ρ 158) fun c34 => if c34 then (z1 ρ M)
 else (z0 ρ M)) := by intros; kernel_rfl
 refine (h (k4_16 c nl lo q4_13) (k4_20 c nl lo q4_13 q4_18)).trans ?_
 unfold b4_24; simp only [(t4_16 c nl lo q4_13 j4_13 h4_13), (t4_20 c nl lo q4_13 j4_13 h4_13 q4_18 j4_18 h4_18), h4_13, h4_18] <;> (show _ = _; kernel_rfl)
def k4_19 (c : CallT) (nl lo : Nat) (q4_13 : Rg → MM → Option (AV × MM)) (q4_18 : Rg → MM → Option (AV × MM)) : Rg → MM → Option (AV × MM) := (execC c modeF lo nl p4_96 q4_18 (fun i ρ M => if i = 6 then (k4_16 c nl lo q4_13) ρ M else (fun i ρ M => if i = 5 then (k4_16 c nl lo q4_13) ρ M else (fun i ρ M => if i = 4 then (k4_11 c nl lo) ρ M else noE i ρ M) i ρ M) i ρ M) (endK cf4.res))
@[reducible] def b4_19 (c : CallT) (nl lo : Nat) (j4_13 : AV → AV → AV → AV → MM → Option (AV × MM)) (j4_18 : AV → AV → AV → AV → AV → AV → AV → AV → MM → Option (AV × MM)) (x16 x27 x144 x145 x146 x155 x156 x157 x158 : AV) (M : MM) : Option (AV × MM) :=
 b4_24 c nl lo j4_13 j4_18 x16 x27 x144 x145 x146 x155 x156 x157 x158 M
theorem t4_19 (c : CallT) (nl lo : Nat) (q4_13 : Rg → MM → Option (AV × MM)) (j4_13 : AV → AV → AV → AV → MM → Option (AV × MM)) (h4_13 : ∀ (ρ : Rg) (M : MM), q4_13 ρ M = j4_13 (ρ 16) (ρ 144) (ρ 145) (ρ 146) M) (q4_18 : Rg → MM → Option (AV × MM)) (j4_18 : AV → AV → AV → AV → AV → AV → AV → AV → MM → Option (AV × MM)) (h4_18 : ∀ (ρ : Rg) (M : MM), q4_18 ρ M = j4_18 (ρ 16) (ρ 27) (ρ 144) (ρ 145) (ρ 146) (ρ 155) (ρ 156) (ρ 157) M) (ρ : Rg) (M : MM) : k4_19 c nl lo q4_13 q4_18 ρ M = b4_19 c nl lo j4_13 j4_18 (ρ 16) (ρ 27) (ρ 144) (ρ 145) (ρ 146) (ρ 155) (ρ 156) (ρ 157) (ρ 158) M := by
 have h : k4_19 c nl lo q4_13 q4_18 ρ M = (k4_24 c nl lo q4_13 q4_18 ρ M) := execC_seq c modeF lo nl p4_62 p4_95 q4_18 (fun i ρ M => if i = 6 then (k4_16 c nl lo q4_13) ρ M else (fun i ρ M => if i = 5 then (k4_16 c nl lo q4_13) ρ M else (fun i ρ M => if i = 4 then (k4_11 c nl lo) ρ M else noE i ρ M) i ρ M) i ρ M) (endK cf4.res) ρ M
 rw [h]
 unfold b4_19; simp only [(t4_24 c nl lo q4_13 j4_13 h4_13 q4_18 j4_18 h4_18), h4_13, h4_18] <;> (show _ = _; kernel_rfl)
def k4_25 (c : CallT) (nl lo : Nat) (q4_13 : Rg → MM → Option (AV × MM)) (q4_18 : Rg → MM → Option (AV × MM)) : Rg → MM → Option (AV × MM) := (execC c modeF lo nl p4_61 (k4_19 c nl lo q4_13 q4_18) (fun i ρ M => if i = 6 then (k4_16 c nl lo q4_13) ρ M else (fun i ρ M => if i = 5 then (k4_16 c nl lo q4_13) ρ M else (fun i ρ M => if i = 4 then (k4_11 c nl lo) ρ M else noE i ρ M) i ρ M) i ρ M) (endK cf4.res))
@[reducible] def b4_25 (c : CallT) (nl lo : Nat) (j4_13 : AV → AV → AV → AV → MM → Option (AV × MM)) (j4_18 : AV → AV → AV → AV → AV → AV → AV → AV → MM → Option (AV × MM)) (x16 x27 x144 x145 x146 x155 x156 x157 : AV) (M : MM) : Option (AV × MM) :=
 opt (binA .lss .none x157 x156) fun v34 =>
 b4_19 c nl lo j4_13 j4_18 x16 x27 x144 x145 x146 x155 x156 x157 v34 M
theorem t4_25 (c : CallT) (nl lo : Nat) (q4_13 : Rg → MM → Option (AV × MM)) (j4_13 : AV → AV → AV → AV → MM → Option (AV × MM)) (h4_13 : ∀ (ρ : Rg) (M : MM), q4_13 ρ M = j4_13 (ρ 16) (ρ 144) (ρ 145) (ρ 146) M) (q4_18 : Rg → MM → Option (AV × MM)) (j4_18 : AV → AV → AV → AV → AV → AV → AV → AV → MM → Option (AV × MM)) (h4_18 : ∀ (ρ : Rg) (M : MM), q4_18 ρ M = j4_18 (ρ 16) (ρ 27) (ρ 144) (ρ 145) (ρ 146) (ρ 155) (ρ 156) (ρ 157) M) (ρ : Rg) (M : MM) : k4_25 c nl lo q4_13 q4_18 ρ M = b4_25 c nl lo j4_13 j4_18 (ρ 16) (ρ 27) (ρ 144) (ρ 145) (ρ 146) (ρ 155) (ρ 156) (ρ 157) M := by
 have h : ∀ (z0 : Rg → MM → Option (AV × MM)), (execC c modeF lo nl p4_61 z0 (fun i ρ M => if i = 6 then (k4_16 c nl lo q4_13) ρ M else (fun i ρ M => if i = 5 then (k4_16 c nl lo q4_13) ρ M else (fun i ρ M => if i = 4 then (k4_11 c nl lo) ρ M else noE i ρ M) i ρ M) i ρ M) (endK cf4.res)) ρ M = (opt (binA .lss .none (ρ 157) (ρ 156)) fun v34 =>
 z0 (sF ρ 158 v34) M) := by intros; kernel_rfl
 refine (h (k4_19 c nl lo q4_13 q4_18)).trans ?_
 unfold b4_25; simp only [(t4_19 c nl lo q4_13 j4_13 h4_13 q4_18 j4_18 h4_18), h4_13, h4_18] <;> (show _ = _; kernel_rfl)
def k4_18 (c : CallT) (nl lo : Nat) (q4_13 : Rg → MM → Option (AV × MM)) (n : Nat) : Rg → MM → Option (AV × MM) := iterC (fun k ρ M => execC c modeF lo nl p4_97 k (fun i ρ M => if i = 6 then (k4_16 c nl lo q4_13) ρ M else (fun i ρ M => if i = 5 then (k4_16 c nl lo q4_13) ρ M else (fun i ρ M => if i = 4 then (k4_11 c nl lo) ρ M else noE i ρ M) i ρ M) i ρ M) (endK cf4.res) ρ M) n
def b4_18 (c : CallT) (nl lo : Nat) (j4_13 : AV → AV → AV → AV → MM → Option (AV × MM)) : Nat → AV → AV → AV → AV → AV → AV → AV → AV → MM → Option (AV × MM)
 | 0, _, _, _, _, _, _, _, _, _ => none
 | n + 1, x16, x27, x144, x145, x146, x155, x156, x157, M =>
 b4_25 c nl lo j4_13 (b4_18 c nl lo j4_13 n) x16 x27 x144 x145 x146 x155 x156 x157 M
theorem t4_18 (c : CallT) (nl lo : Nat) (q4_13 : Rg → MM → Option (AV × MM)) (j4_13 : AV → AV → AV → AV → MM → Option (AV × MM)) (h4_13 : ∀ (ρ : Rg) (M : MM), q4_13 ρ M = j4_13 (ρ 16) (ρ 144) (ρ 145) (ρ 146) M) : ∀ (n : Nat) (ρ : Rg) (M : MM), k4_18 c nl lo q4_13 n ρ M = b4_18 c nl lo j4_13 n (ρ 16) (ρ 27) (ρ 144) (ρ 145) (ρ 146) (ρ 155) (ρ 156) (ρ 157) M
 | 0, ρ, M => rfl
 | n + 1, ρ, M => by
  have h : k4_18 c nl lo q4_13 (n + 1) ρ M = (k4_25 c nl lo q4_13 (k4_18 c nl lo q4_13 n) ρ M) := execC_seq c modeF lo nl p4_61 p4_96 (k4_18 c nl lo q4_13 n) (fun i ρ M => if i = 6 then (k4_16 c nl lo q4_13) ρ M else (fun i ρ M => if i = 5 then (k4_16 c nl lo q4_13) ρ M else (fun i ρ M => if i = 4 then (k4_11 c nl lo) ρ M else noE i ρ M) i ρ M) i ρ M) (endK cf4.res) ρ M
  rw [h]
  unfold b4_18; simp only [(t4_25 c nl lo q4_13 j4_13 h4_13 (k4_18 c nl lo q4_13 n) (b4_18 c nl lo j4_13 n) (t4_18 c nl lo q4_13 j4_13 h4_13 n)), h4_13, (t4_18 c nl lo q4_13 j4_13 h4_13 n)] <;> (show _ = _; kernel_rfl)
def k4_17 (c : CallT) (nl lo : Nat) (q4_13 : Rg → MM → Option (AV × MM)) : Rg → MM → Option (AV × MM) := (execC c modeF lo nl p4_102 (k4_16 c nl lo q4_13) (fun i ρ M => if i = 4 then (k4_11 c nl lo) ρ M else noE i ρ M) (endK cf4.res))
@[reducible] def b4_17 (c : CallT) (nl lo : Nat) (j4_13 : AV → AV → AV → AV → MM → Option (AV × MM)) (x16 x144 x145 x146 : AV) (M : MM) : Option (AV × MM) :=
 opt (ixsA 4 x144 x146) fun v18 =>
 opt (ldnA (lk M) 4 v18) fun v19 =>
 bnd (istep c modeF false lo (.top M.nx) M.nx (.new 42 [.str ⟨⟨[]⟩⟩, .d (.sl [] 0), .str ⟨⟨[]⟩⟩, .d (.sl [] 0)]) [] M) fun v20 M21 =>
 bnd (istep c modeF false lo (.top M21.nx) M21.nx (.st 4 (.k v20) (.k v19)) [] M21) fun v22 M23 =>
 opt (wslA 2 (fill [.str ⟨⟨[]⟩⟩, .str ⟨⟨[]⟩⟩] [(0, 1, (.str ⟨⟨[84]⟩⟩)), (1, 1, (.str ⟨⟨[85]⟩⟩))])) fun v25 =>
 upK M23 M23.nx fun M26 =>
 opt (ixpA 2 2 v20 (.i 0)) fun v27 =>
 opt (ldnA (lk M26) 2 v27) fun v28 =>
 opt (puA c (lk M26) 21 [v28]) fun v29 =>
 opt (wslA 3 (fill [.d (.sl [] 0), .d (.sl [] 0), .d (.sl [] 0)] [(0, 1, x16), (1, 1, v25), (2, 1, v29)])) fun v30 =>
 upK M26 M26.nx fun M31 =>
 opt (lenA v30) fun v32 =>
 b4_18 c nl lo j4_13 nl x16 v20 x144 x145 x146 v30 v32 (.i 0) M31
theorem t4_17 (c : CallT) (nl lo : Nat) (q4_13 : Rg → MM → Option (AV × MM)) (j4_13 : AV → AV → AV → AV → MM → Option (AV × MM)) (h4_13 : ∀ (ρ : Rg) (M : MM), q4_13 ρ M = j4_13 (ρ 16) (ρ 144) (ρ 145) (ρ 146) M) (ρ : Rg) (M : MM) : k4_17 c nl lo q4_13 ρ M = b4_17 c nl lo j4_13 (ρ 16) (ρ 144) (ρ 145) (ρ 146) M := by
 have h : k4_17 c nl lo q4_13 ρ M = (opt (ixsA 4 (ρ 144) (ρ 146)) fun v18 =>
 opt (ldnA (lk M) 4 v18) fun v19 =>
 bnd (istep c modeF false lo (.top M.nx) M.nx (.new 42 [.str ⟨⟨[]⟩⟩, .d (.sl [] 0), .str ⟨⟨[]⟩⟩, .d (.sl [] 0)]) [] M) fun v20 M21 =>
 bnd (istep c modeF false lo (.top M21.nx) M21.nx (.st 4 (.k v20) (.k v19)) [] M21) fun v22 M23 =>
 opt (wslA 2 (fill [.str ⟨⟨[]⟩⟩, .str ⟨⟨[]⟩⟩] [(0, 1, (.str ⟨⟨[84]⟩⟩)), (1, 1, (.str ⟨⟨[85]⟩⟩))])) fun v25 =>
 upK M23 M23.nx fun M26 =>
 opt (ixpA 2 2 v20 (.i 0)) fun v27 =>
 opt (ldnA (lk M26) 2 v27) fun v28 =>
 opt (puA c (lk M26) 21 [v28]) fun v29 =>
 opt (wslA 3 (fill [.d (.sl [] 0), .d (.sl [] 0), .d (.sl [] 0)] [(0, 1, (ρ 16)), (1, 1, v25), (2, 1, v29)])) fun v30 =>
 upK M26 M26.nx fun M31 =>
 opt (lenA v30) fun v32 =>
 k4_18 c nl lo q4_13 nl (sF (sF (sF (sF (sF (sF (sF (sF (sF (sF (sF ρ 148 v18) 149 v19) 27 v20) 150 (ρ 16)) 151 v25) 152 v27) 153 v28) 154 v29) 155 v30) 156 v32) 157 (.i 0)) M31) := by kernel_rfl
 rw [h]
 unfold b4_17; simp only [(t4_18 c nl lo q4_13 j4_13 h4_13 nl), h4_13] <;> (show _ = _; kernel_rfl)
def k4_15 (c : CallT) (nl lo : Nat) (q4_13 : Rg → MM → Option (AV × MM)) : Rg → MM → Option (AV × MM) := (execC c modeF lo nl p4_104 q4_13 (fun i ρ M => if i = 4 then (k4_11 c nl lo) ρ M else noE i ρ M) (endK cf4.res))
@[reducible] def b4_15 (c : CallT) (nl lo : Nat) (j4_13 : AV → AV → AV → AV → MM → Option (AV × MM)) (x16 x144 x145 x146 : AV) (M : MM) : Option (AV × MM) :=
 b4_17 c nl lo j4_13 x16 x144 x145 x146 M
theorem t4_15 (c : CallT) (nl lo : Nat) (q4_13 : Rg → MM → Option (AV × MM)) (j4_13 : AV → AV → AV → AV → MM → Option (AV × MM)) (h4_13 : ∀ (ρ : Rg) (M : MM), q4_13 ρ M = j4_13 (ρ 16) (ρ 144) (ρ 145) (ρ 146) M) (ρ : Rg) (M : MM) : k4_15 c nl lo q4_13 ρ M = b4_15 c nl lo j4_13 (ρ 16) (ρ 144) (ρ 145) (ρ 146) M := by
 have h : k4_15 c nl lo q4_13 ρ M = (k4_17 c nl lo q4_13 ρ M) := execC_seq c modeF lo nl p4_102 p4_103 q4_13 (fun i ρ M => if i = 4 then (k4_11 c nl lo) ρ M else noE i ρ M) (endK cf4.res) ρ M
 rw [h]
 unfold b4_15; simp only [(t4_17 c nl lo q4_13 j4_13 h4_13), h4_13] <;> (show _ = _; kernel_rfl)
def k4_26 (c : CallT) (nl lo : Nat) (q4_13 : Rg → MM → Option (AV × MM)) : Rg → MM → Option (AV × MM) := (execC c modeF lo nl p4_58 (k4_15 c nl lo q4_13) (fun i ρ M => if i = 4 then (k4_11 c nl lo) ρ M else noE i ρ M) (endK cf4.res))
@[reducible] def b4_26 (c : CallT) (nl lo : Nat) (j4_13 : AV → AV → AV → AV → MM → Option (AV × MM)) (x16 x144 x145 x146 x147 : AV) (M : MM) : Option (AV × MM) :=
 isB x147 fun c16 => if c16 then (b4_15 c nl lo j4_13 x16 x144 x145 x146 M)
 else (b4_11 c nl lo M)
theorem t4_26 (c : CallT) (nl lo : Nat) (q4_13 : Rg → MM → Option (AV × MM)) (j4_13 : AV → AV → AV → AV → MM → Option (AV × MM)) (h4_13 : ∀ (ρ : Rg) (M : MM), q4_13 ρ M = j4_13 (ρ 16) (ρ 144) (ρ 145) (ρ 146) M) (ρ : Rg) (M : MM) : k4_26 c nl lo q4_13 ρ M = b4_26 c nl lo j4_13 (ρ 16) (ρ 144) (ρ 145) (ρ 146) (ρ 147) M := by
 have h : ∀ (z0 z1 : Rg → MM → Option (AV × MM)), (execC c modeF lo nl p4_58 z1 (fun i ρ M => if i = 4 then z0 ρ M else noE i ρ M) (endK cf4.res)) ρ M = (isB (ρ 147) fun c16 => if c16 then (z1 ρ M)
 else (z0 ρ M)) := by intros; kernel_rfl
 refine (h (k4_11 c nl lo) (k4_15 c nl lo q4_13)).trans ?_
 unfold b4_26; simp only [(t4_11 c nl lo), (t4_15 c nl lo q4_13 j4_13 h4_13), h4_13] <;> (show _ = _; kernel_rfl)
def k4_14 (c : CallT) (nl lo : Nat) (q4_13 : Rg → MM → Option (AV × MM)) : Rg → MM → Option (AV × MM) := (execC c modeF lo nl p4_105 q4_13 (fun i ρ M => if i = 4 then (k4_11 c nl lo) ρ M else noE i ρ M) (endK cf4.res))
@[reducible] def b4_14 (c : CallT) (nl lo : Nat) (j4_13 : AV → AV → AV → AV → MM → Option (AV × MM)) (x16 x144 x145 x146 x147 : AV) (M : MM) : Option (AV × MM) :=
 b4_26 c nl lo j4_13 x16 x144 x145 x146 x147 M
theorem t4_14 (c : CallT) (nl lo : Nat) (q4_13 : Rg → MM → Option (AV × MM)) (j4_13 : AV → AV → AV → AV → MM → Option (AV × MM)) (h4_13 : ∀ (ρ : Rg) (M : MM), q4_13 ρ M = j4_13 (ρ 16) (ρ 144) (ρ 145) (ρ 146) M) (ρ : Rg) (M : MM) : k4_14 c nl lo q4_13 ρ M = b4_14 c nl lo j4_13 (ρ 16) (ρ 144) (ρ 145) (ρ 146) (ρ 147) M := by
 have h : k4_14 c nl lo q4_13 ρ M = (k4_26 c nl lo q4_13 ρ M) := execC_seq c modeF lo nl p4_58 p4_104 q4_13 (fun i ρ M => if i = 4 then (k4_11 c nl lo) ρ M else noE i ρ M) (endK cf4.res) ρ M
 rw [h]
 unfold b4_14; simp only [(t4_26 c nl lo q4_13 j4_13 h4_13), h4_13] <;> (show _ = _; kernel_rfl)
def k4_27 (c : CallT) (nl lo : Nat) (q4_13 : Rg → MM → Option (AV × MM)) : Rg → MM → Option (AV × MM) := (execC c modeF lo nl p4_57 (k4_14 c nl lo q4_13) (fun i ρ M => if i = 4 then (k4_11 c nl lo) ρ M else noE i ρ M) (endK cf4.res))
@[reducible] def b4_27 (c : CallT) (nl lo : Nat) (j4_13 : AV → AV → AV → AV → MM → Option (AV × MM)) (x16 x144 x145 x146 : AV) (M : MM) : Option (AV × MM) :=
 opt (binA .lss .none x146 x145) fun v16 =>
 b4_14 c nl lo j4_13 x16 x144 x145 x146 v16 M
theorem t4_27 (c : CallT) (nl lo : Nat) (q4_13 : Rg → MM → Option (AV × MM)) (j4_13 : AV → AV → AV → AV → MM → Option (AV × MM)) (h4_13 : ∀ (ρ : Rg) (M : MM), q4_13 ρ M = j4_13 (ρ 16) (ρ 144) (ρ 145) (ρ 146) M) (ρ : Rg) (M : MM) : k4_27 c nl lo q4_13 ρ M = b4_27 c nl lo j4_13 (ρ 16) (ρ 144) (ρ 145) (ρ 146) M := by
 have h : ∀ (z0 : Rg → MM → Option (AV × MM)), (execC c modeF lo nl p4_57 z0 (fun i ρ M => if i = 4 then (k4_11 c nl lo) ρ M else noE i ρ M) (endK cf4.res)) ρ M = (opt (binA .lss .none (ρ 146) (ρ 145)) fun v16 =>
 z0 (sF ρ 147 v16) M) := by intros; kernel_rfl
 refine (h (k4_14 c nl lo q4_13)).trans ?_
 unfold b4_27; simp only [(t4_14 c nl lo q4_13 j4_13 h4_13), h4_13] <;> (show _ = _; kernel_rfl)
def k4_13 (c : CallT) (nl lo : Nat) (n : Nat) : Rg → MM → Option (AV × MM) := iterC (fun k ρ M => execC c modeF lo nl p4_106 k (fun i ρ M => if i = 4 then (k4_11 c nl lo) ρ M else noE i ρ M) (endK cf4.res) ρ M) n
def b4_13 (c : CallT) (nl lo : Nat) : Nat → AV → AV → AV → AV → MM → Option (AV × MM)
 | 0, _, _, _, _, _ => none
 | n + 1, x16, x144, x145, x146, M =>
 b4_27 c nl lo (b4_13 c nl lo n) x16 x144 x145 x146 M
theorem t4_13 (c : CallT) (nl lo : Nat) : ∀ (n : Nat) (ρ : Rg) (M : MM), k4_13 c nl lo n ρ M = b4_13 c nl lo n (ρ 16) (ρ 144) (ρ 145) (ρ 146) M
 | 0, ρ, M => rfl
 | n + 1, ρ, M => by
  have h : k4_13 c nl lo (n + 1) ρ M = (k4_27 c nl lo (k4_13 c nl lo n) ρ M) := execC_seq c modeF lo nl p4_57 p4_105 (k4_13 c nl lo n) (fun i ρ M => if i = 4 then (k4_11 c nl lo) ρ M else noE i ρ M) (endK cf4.res) ρ M
  rw [h]
  unfold b4_13; simp only [(t4_27 c nl lo (k4_13 c nl lo n) (b4_13 c nl lo n) (t4_13 c nl lo n)), (t4_13 c nl lo n)] <;> (show _ = _; kernel_rfl)
def k4_12 (c : CallT) (nl lo : Nat) : Rg → MM → Option (AV × MM) := (execC c modeF lo nl p4_109 (k4_11 c nl lo) noE (endK cf4.res))
@[reducible] def b4_12 (c : CallT) (nl lo : Nat) (x5 x6 x14 x15 x16 x24 : AV) (M : MM) : Option (AV × MM) :=
 opt (fldA 0 2 true x5) fun v3 =>
 opt (fldA 0 2 true x6) fun v4 =>
 opt ((fill [.str ⟨⟨[]⟩⟩, .d (.sl [] 0), .str ⟨⟨[]⟩⟩, .d (.sl [] 0)] [(0, 2, v3), (2, 2, v4)]).map .agg) fun v5 =>
 opt (fldA 0 2 true x14) fun v6 =>
 opt (fldA 0 2 true x15) fun v7 =>
 opt ((fill [.str ⟨⟨[]⟩⟩, .d (.sl [] 0), .str ⟨⟨[]⟩⟩, .d (.sl [] 0)] [(0, 2, v6), (2, 2, v7)]).map .agg) fun v8 =>
 opt (fldA 0 2 true x14) fun v9 =>
 opt (fldA 0 2 true x24) fun v10 =>
 opt ((fill [.str ⟨⟨[]⟩⟩, .d (.sl [] 0), .str ⟨⟨[]⟩⟩, .d (.sl [] 0)] [(0, 2, v9), (2, 2, v10)]).map .agg) fun v11 =>
 opt (wslA 3 (fill [.str ⟨⟨[]⟩⟩, .d (.sl [] 0), .str ⟨⟨[]⟩⟩, .d (.sl [] 0), .str ⟨⟨[]⟩⟩, .d (.sl [] 0), .str ⟨⟨[]⟩⟩, .d (.sl [] 0), .str ⟨⟨[]⟩⟩, .d (.sl [] 0), .str ⟨⟨[]⟩⟩, .d (.sl [] 0)] [(0, 4, v5), (4, 4, v8), (8, 4, v11)])) fun v12 =>
 upK M M.nx fun M13 =>
 opt (lenA v12) fun v14 =>
 b4_13 c nl lo nl x16 v12 v14 (.i 0) M13
theorem t4_12 (c : CallT) (nl lo : Nat) (ρ : Rg) (M : MM) : k4_12 c nl lo ρ M = b4_12 c nl lo (ρ 5) (ρ 6) (ρ 14) (ρ 15) (ρ 16) (ρ 24) M := by
 have h : k4_12 c nl lo ρ M = (opt (fldA 0 2 true (ρ 5)) fun v3 =>
 opt (fldA 0 2 true (ρ 6)) fun v4 =>
 opt ((fill [.str ⟨⟨[]⟩⟩, .d (.sl [] 0), .str ⟨⟨[]⟩⟩, .d (.sl [] 0)] [(0, 2, v3), (2, 2, v4)]).map .agg) fun v5 =>
 opt (fldA 0 2 true (ρ 14)) fun v6 =>
 opt (fldA 0 2 true (ρ 15)) fun v7 =>
 opt ((fill [.str ⟨⟨[]⟩⟩, .d (.sl [] 0), .str ⟨⟨[]⟩⟩, .d (.sl [] 0)] [(0, 2, v6), (2, 2, v7)]).map .agg) fun v8 =>
 opt (fldA 0 2 true (ρ 14)) fun v9 =>
 opt (fldA 0 2 true (ρ 24)) fun v10 =>
 opt ((fill [.str ⟨⟨[]⟩⟩, .d (.sl [] 0), .str ⟨⟨[]⟩⟩, .d (.sl [] 0)] [(0, 2, v9), (2, 2, v10)]).map .agg) fun v11 =>
 opt (wslA 3 (fill [.str ⟨⟨[]⟩⟩, .d (.sl [] 0), .str ⟨⟨[]⟩⟩, .d (.sl [] 0), .str ⟨⟨[]⟩⟩, .d (.sl [] 0), .str ⟨⟨[]⟩⟩, .d (.sl [] 0), .str ⟨⟨[]⟩⟩, .d (.sl [] 0), .str ⟨⟨[]⟩⟩, .d (.sl [] 0)] [(0, 4, v5), (4, 4, v8), (8, 4, v11)])) fun v12 =>
 upK M M.nx fun M13 =>
 opt (lenA v12) fun v14 =>
 k4_13 c nl lo nl (sF (sF (sF (sF (sF (sF (sF (sF (sF (sF (sF (sF ρ 135 v3) 136 v4) 137 v5) 138 v6) 139 v7) 140 v8) 141 v9) 142 v10) 143 v11) 144 v12) 145 v14) 146 (.i 0)) M13) := by kernel_rfl
 rw [h]
 unfold b4_12; simp only [(t4_13 c nl lo nl)] <;> (show _ = _; kernel_rfl)
def k4_10 (c : CallT) (nl lo : Nat) : Rg → MM → Option (AV × MM) := (execC c modeF lo nl p4_112 (endK cf4.res) noE (endK cf4.res))
@[reducible] def b4_10 (c : CallT) (nl lo : Nat) (x5 x6 x14 x15 x16 x24 : AV) (M : MM) : Option (AV × MM) :=
 b4_12 c nl lo x5 x6 x14 x15 x16 x24 M
theorem t4_10 (c : CallT) (nl lo : Nat) (ρ : Rg) (M : MM) : k4_10 c nl lo ρ M = b4_10 c nl lo (ρ 5) (ρ 6) (ρ 14) (ρ 15) (ρ 16) (ρ 24) M := by
 have h : k4_10 c nl lo ρ M = (k4_12 c nl lo ρ M) := execC_seq c modeF lo nl p4_109 p4_111 (endK cf4.res) noE (endK cf4.res) ρ M
 rw [h]
 unfold b4_10; simp only [(t4_12 c nl lo)] <;> (show _ = _; kernel_rfl)
def k4_28 (c : CallT) (nl lo : Nat) : Rg → MM → Option (AV × MM) := (execC c modeF lo nl p4_55 (k4_10 c nl lo) noE (endK cf4.res))
@[reducible] def b4_28 (c : CallT) (nl lo : Nat) (x5 x6 x14 x15 x16 : AV) (M : MM) : Option (AV × MM) :=
 opt (fldA 0 2 true x14) fun v1 =>
 opt (wslA 2 (fill [.str ⟨⟨[]⟩⟩, .str ⟨⟨[]⟩⟩] [(0, 1, (.str ⟨⟨[84]⟩⟩)), (1, 1, (.str ⟨⟨[85]⟩⟩))])) fun v2 =>
 upK M M.nx fun M3 =>
 opt (fldA 0 2 true x15) fun v4 =>
 opt (fldA 0 2 true x6) fun v5 =>
 opt (wslA 2 (fill [.str ⟨⟨[]⟩⟩, .d (.sl [] 0), .str ⟨⟨[]⟩⟩, .d (.sl [] 0)] [(0, 2, v4), (2, 2, v5)])) fun v6 =>
 upK M3 M3.nx fun M7 =>
 opt (puA c (lk M7) 19 [v1, v2, v6]) fun v8 =>
 opt (extA 0 v8) fun v10 =>
 opt (extA 1 v8) fun v11 =>
 upK M7 M7.nx fun M13 =>
 opt (setcA 0 2 (.agg [.str ⟨⟨[]⟩⟩, .d (.sl [] 0)]) v10) fun v14 =>
 b4_10 c nl lo x5 x6 x14 x15 x16 v14 M13
theorem t4_28 (c : CallT) (nl lo : Nat) (ρ : Rg) (M : MM) : k4_28 c nl lo ρ M = b4_28 c nl lo (ρ 5) (ρ 6) (ρ 14) (ρ 15) (ρ 16) M := by
 have h : ∀ (z0 : Rg → MM → Option (AV × MM)), (execC c modeF lo nl p4_55 z0 noE (endK cf4.res)) ρ M = (opt (fldA 0 2 true (ρ 14)) fun v1 =>
 opt (wslA 2 (fill [.str ⟨⟨[]⟩⟩, .str ⟨⟨[]⟩⟩] [(0, 1, (.str ⟨⟨[84]⟩⟩)), (1, 1, (.str ⟨⟨[85]⟩⟩))])) fun v2 =>
 upK M M.nx fun M3 =>
 opt (fldA 0 2 true (ρ 15)) fun v4 =>
 opt (fldA 0 2 true (ρ 6)) fun v5 =>
 opt (wslA 2 (fill [.str ⟨⟨[]⟩⟩, .d (.sl [] 0), .str ⟨⟨[]⟩⟩, .d (.sl [] 0)] [(0, 2, v4), (2, 2, v5)])) fun v6 =>
 upK M3 M3.nx fun M7 =>
 opt (puA c (lk M7) 19 [v1, v2, v6]) fun v8 =>
 opt (extA 0 v8) fun v10 =>
 opt (extA 1 v8) fun v11 =>
 upK M7 M7.nx fun M13 =>
 opt (setcA 0 2 (.agg [.str ⟨⟨[]⟩⟩, .d (.sl [] 0)]) v10) fun v14 =>
 z0 (sF (sF (sF (sF (sF (sF (sF (sF (sF (sF (sF (sF ρ 127 v1) 128 v2) 129 v4) 130 v5) 131 v6) 132 v8) 126 v8) 133 v10) 134 v11) 24 (.agg [.str ⟨⟨[]⟩⟩, .d (.sl [] 0)])) 24 v14) 25 v11) M13) := by intros; kernel_rfl
 refine (h (k4_10 c nl lo)).trans ?_
 unfold b4_28; simp only [(t4_10 c nl lo)] <;> (show _ = _; kernel_rfl)
def k4_9 (c : CallT) (nl lo : Nat) : Rg → MM → Option (AV × MM) := (execC c modeF lo nl p4_113 (endK cf4.res) noE (endK cf4.res))
@[reducible] def b4_9 (c : CallT) (nl lo : Nat) (x5 x6 x14 x15 x16 : AV) (M : MM) : Option (AV × MM) :=
 b4_28 c nl lo x5 x6 x14 x15 x16 M
theorem t4_9 (c : CallT) (nl lo : Nat) (ρ : Rg) (M : MM) : k4_9 c nl lo ρ M = b4_9 c nl lo (ρ 5) (ρ 6) (ρ 14) (ρ 15) (ρ 16) M := by
 have h : k4_9 c nl lo ρ M = (k4_28 c nl lo ρ M) := execC_seq c modeF lo nl p4_55 p4_112 (endK cf4.res) noE (endK cf4.res) ρ M
 rw [h]
 unfold b4_9; simp only [(t4_28 c nl lo)] <;> (show _ = _; kernel_rfl)
def k4_30 (c : CallT) (nl lo : Nat) (n : Nat) : Rg → MM → Option (AV × MM) := iterC (fun k ρ M => execC c modeF lo nl p4_51 k (fun i ρ M => if i = 2 then (k4_9 c nl lo) ρ M else noE i ρ M) (endK cf4.res) ρ M) n
def b4_30 (c : CallT) (nl lo : Nat) : Nat → AV → AV → AV → AV → AV → AV → AV → AV → AV → MM → Option (AV × MM)
 | 0, _, _, _, _, _, _, _, _, _, _ => none
 | n + 1, x5, x6, x14, x15, x16, x17, x96, x97, x98, M =>
 opt (binA .lss .none x98 x97) fun v7 =>
 isB v7 fun c8 => if c8 then (opt (ixsA 2 x96 x98) fun v9 =>
 opt (ldnA (lk M) 2 v9) fun v10 =>
 upK M M.nx fun M12 =>
 opt (setcA 0 2 (.agg [.str ⟨⟨[]⟩⟩, .d (.sl [] 0)]) v10) fun v13 =>
 opt (fldA 0 2 true v13) fun v14 =>
 opt (puA c (lk M12) 18 [v14, x16, x17]) fun v17 =>
 opt (extA 0 v17) fun v19 =>
 opt (extA 1 v17) fun v20 =>
 upK M12 M12.nx fun M22 =>
 opt (setcA 0 2 (.agg [.str ⟨⟨[]⟩⟩, .d (.sl [] 0)]) v19) fun v23 =>
 opt (fldA 0 2 true v13) fun v25 =>
 opt (puA c (lk M22) 19 [v25, x16, x17]) fun v28 =>
 opt (extA 0 v28) fun v30 =>
 opt (extA 1 v28) fun v31 =>
 upK M22 M22.nx fun M33 =>
 opt (setcA 0 2 (.agg [.str ⟨⟨[]⟩⟩, .d (.sl [] 0)]) v30) fun v34 =>
 opt (binA .neq .none v20 v31) fun v38 =>
 opt (gdp v38 false (fldA 0 2 true v23)) fun v40 =>
 opt (gdp v38 false (fldA 0 2 true v34)) fun v41 =>
 opt (gdp v38 false (puA c (lk M33) 20 [v40, v41])) fun v42 =>
 opt (gdp v38 false (unA .not v42)) fun v43 =>
 opt (pickA v38 (.bool true) v43) fun v44 =>
 isB v44 fun c45 => if c45 then (some ((.bool false), M33))
 else (opt (binA .add .none x98 (.i 1)) fun v47 =>
 (b4_30 c nl lo n) x5 x6 x14 x15 x16 x17 x96 x97 v47 M33))
 else (b4_9 c nl lo x5 x6 x14 x15 x16 M)
theorem t4_30 (c : CallT) (nl lo : Nat) : ∀ (n : Nat) (ρ : Rg) (M : MM), k4_30 c nl lo n ρ M = b4_30 c nl lo n (ρ 5) (ρ 6) (ρ 14) (ρ 15) (ρ 16) (ρ 17) (ρ 96) (ρ 97) (ρ 98) M
 | 0, ρ, M => rfl
 | n + 1, ρ, M => by
  have h : ∀ (zb z0 : Rg → MM → Option (AV × MM)), execC c modeF lo nl p4_51 zb (fun i ρ M => if i = 2 then z0 ρ M else noE i ρ M) (endK cf4.res) ρ M = (opt (binA .lss .none (ρ 98) (ρ 97)) fun v7 =>
  isB v7 fun c8 => if c8 then (opt (ixsA 2 (ρ 96) (ρ 98)) fun v9 =>
  opt (ldnA (lk M) 2 v9) fun v10 =>
  upK M M.nx fun M12 =>
  opt (setcA 0 2 (.agg [.str ⟨⟨[]⟩⟩, .d (.sl [] 0)]) v10) fun v13 =>
  opt (fldA 0 2 true v13) fun v14 =>
  opt (puA c (lk M12) 18 [v14, (ρ 16), (ρ 17)]) fun v17 =>
  opt (extA 0 v17) fun v19 =>
  opt (extA 1 v17) fun v20 =>
  upK M12 M12.nx fun M22 =>
  opt (setcA 0 2 (.agg [.str ⟨⟨[]⟩⟩, .d (.sl [] 0)]) v19) fun v23 =>
  opt (fldA 0 2 true v13) fun v25 =>
  opt (puA c (lk M22) 19 [v25, (ρ 16), (ρ 17)]) fun v28 =>
  opt (extA 0 v28) fun v30 =>
  opt (extA 1 v28) fun v31 =>
  upK M22 M22.nx fun M33 =>
  opt (setcA 0 2 (.agg [.str ⟨⟨[]⟩⟩, .d (.sl [] 0)]) v30) fun v34 =>
  opt (binA .neq .none v20 v31) fun v38 =>
  opt (gdp v38 false (fldA 0 2 true v23)) fun v40 =>
  opt (gdp v38 false (fldA 0 2 true v34)) fun v41 =>
  opt (gdp v38 false (puA c (lk M33) 20 [v40, v41])) fun v42 =>
  opt (gdp v38 false (unA .not v42)) fun v43 =>
  opt (pickA v38 (.bool true) v43) fun v44 =>
  isB v44 fun c45 => if c45 then (some ((.bool false), M33))
  else (opt (binA .add .none (ρ 98) (.i 1)) fun v47 =>
  zb (sF (sF (sF (sF (sF (sF (sF (sF (sF (sF (sF (sF (sF (sF (sF (sF (sF (sF (sF (sF (sF (sF (sF (sF (sF (sF (sF (sF (sF (sF (sF (sF (sF (sF (sF (sF ρ 99 v7) 100 v9) 101 v10) 19 (.agg [.str ⟨⟨[]⟩⟩, .d (.sl [] 0)])) 19 v13) 103 v14) 104 (ρ 16)) 105 (ρ 17)) 106 v17) 102 v17) 107 v19) 108 v20) 20 (.agg [.str ⟨⟨[]⟩⟩, .d (.sl [] 0)])) 20 v23) 21 v20) 110 v25) 111 (ρ 16)) 112 (ρ 17)) 113 v28) 109 v28) 114 v30) 115 v31) 22 (.agg [.str ⟨⟨[]⟩⟩, .d (.sl [] 0)])) 22 v34) 23 v31) 116 v20) 117 v31) 118 v38) 119 v38) 120 v40) 121 v41) 122 v42) 123 v43) 124 v44) 125 v47) 98 v47) M33))
  else (z0 (sF ρ 99 v7) M)) := by intros; kernel_rfl
  refine (h (k4_30 c nl lo n) (k4_9 c nl lo)).trans ?_
  unfold b4_30; simp only [(t4_9 c nl lo), (t4_30 c nl lo n)] <;> (show _ = _; kernel_rfl)
def k4_29 (c : CallT) (nl lo : Nat) : Rg → MM → Option (AV × MM) := (execC c modeF lo nl p4_54 (k4_9 c nl lo) noE (endK cf4.res))
@[reducible] def b4_29 (c : CallT) (nl lo : Nat) (x5 x6 x14 x15 x16 x17 : AV) (M : MM) : Option (AV × MM) :=
 opt (fldA 0 2 true x5) fun v1 =>
 opt (fldA 0 2 true x14) fun v2 =>
 opt (wslA 2 (fill [.str ⟨⟨[]⟩⟩, .d (.sl [] 0), .str ⟨⟨[]⟩⟩, .d (.sl [] 0)] [(0, 2, v1), (2, 2, v2)])) fun v3 =>
 upK M M.nx fun M4 =>
 opt (lenA v3) fun v5 =>
 b4_30 c nl lo nl x5 x6 x14 x15 x16 x17 v3 v5 (.i 0) M4
theorem t4_29 (c : CallT) (nl lo : Nat) (ρ : Rg) (M : MM) : k4_29 c nl lo ρ M = b4_29 c nl lo (ρ 5) (ρ 6) (ρ 14) (ρ 15) (ρ 16) (ρ 17) M := by
 have h : k4_29 c nl lo ρ M = (opt (fldA 0 2 true (ρ 5)) fun v1 =>
 opt (fldA 0 2 true (ρ 14)) fun v2 =>
 opt (wslA 2 (fill [.str ⟨⟨[]⟩⟩, .d (.sl [] 0), .str ⟨⟨[]⟩⟩, .d (.sl [] 0)] [(0, 2, v1), (2, 2, v2)])) fun v3 =>
 upK M M.nx fun M4 =>
 opt (lenA v3) fun v5 =>
 k4_30 c nl lo nl (sF (sF (sF (sF (sF ρ 94 v1) 95 v2) 96 v3) 97 v5) 98 (.i 0)) M4) := by kernel_rfl
 rw [h]
 unfold b4_29; simp only [(t4_30 c nl lo nl)] <;> (show _ = _; kernel_rfl)
def k4_8 (c : CallT) (nl lo : Nat) : Rg → MM → Option (AV × MM) := (execC c modeF lo nl p4_114 (endK cf4.res) noE (endK cf4.res))
@[reducible] def b4_8 (c : CallT) (nl lo : Nat) (x5 x6 x14 x15 x16 x17 : AV) (M : MM) : Option (AV × MM) :=
 b4_29 c nl lo x5 x6 x14 x15 x16 x17 M
theorem t4_8 (c : CallT) (nl lo : Nat) (ρ : Rg) (M : MM) : k4_8 c nl lo ρ M = b4_8 c nl lo (ρ 5) (ρ 6) (ρ 14) (ρ 15) (ρ 16) (ρ 17) M := by
 have h : k4_8 c nl lo ρ M = (k4_29 c nl lo ρ M) := execC_seq c modeF lo nl p4_54 p4_113 (endK cf4.res) noE (endK cf4.res) ρ M
 rw [h]
 unfold b4_8; simp only [(t4_29 c nl lo)] <;> (show _ = _; kernel_rfl)
def k4_31 (c : CallT) (nl lo : Nat) : Rg → MM → Option (AV × MM) := (execC c modeF lo nl p4_32 (k4_8 c nl lo) noE (endK cf4.res))
@[reducible] def b4_31 (c : CallT) (nl lo : Nat) (x5 x6 x13 x14 x15 x16 x17 : AV) (M : MM) : Option (AV × MM) :=
 bnd (c 17 [x13, (.i 4)] lo M) fun v2 M3 =>
 opt (binA .gtr .none v2 (.i 0)) fun v4 =>
 isB v4 fun c5 => if c5 then (bnd (c 11 [x13, (.i 2)] lo M3) fun v7 M8 =>
 bnd (c 11 [x13, (.i 2)] lo M8) fun v10 M11 =>
 opt (wslA 2 (fill [.str ⟨⟨[]⟩⟩, .d (.sl [] 0), .str ⟨⟨[]⟩⟩, .d (.sl [] 0)] [(0, 2, v7), (2, 2, v10)])) fun v12 =>
 upK M11 M11.nx fun M13 =>
 b4_8 c nl lo x5 x6 x14 x15 x16 v12 M13)
 else (b4_8 c nl lo x5 x6 x14 x15 x16 x17 M3)
theorem t4_31 (c : CallT) (nl lo : Nat) (ρ : Rg) (M : MM) : k4_31 c nl lo ρ M = b4_31 c nl lo (ρ 5) (ρ 6) (ρ 13) (ρ 14) (ρ 15) (ρ 16) (ρ 17) M := by
 have h : ∀ (z0 : Rg → MM → Option (AV × MM)), (execC c modeF lo nl p4_32 z0 noE (endK cf4.res)) ρ M = (bnd (c 17 [(ρ 13), (.i 4)] lo M) fun v2 M3 =>
 opt (binA .gtr .none v2 (.i 0)) fun v4 =>
 isB v4 fun c5 => if c5 then (bnd (c 11 [(ρ 13), (.i 2)] lo M3) fun v7 M8 =>
 bnd (c 11 [(ρ 13), (.i 2)] lo M8) fun v10 M11 =>
 opt (wslA 2 (fill [.str ⟨⟨[]⟩⟩, .d (.sl [] 0), .str ⟨⟨[]⟩⟩, .d (.sl [] 0)] [(0, 2, v7), (2, 2, v10)])) fun v12 =>
 upK M11 M11.nx fun M13 =>
 z0 (sF (sF (sF (sF (sF (sF (sF (sF (sF ρ 86 (ρ 13)) 87 v2) 88 v4) 89 (ρ 13)) 90 v7) 91 (ρ 13)) 92 v10) 93 v12) 17 v12) M13)
 else (z0 (sF (sF (sF ρ 86 (ρ 13)) 87 v2) 88 v4) M3)) := by intros; kernel_rfl
 refine (h (k4_8 c nl lo)).trans ?_
 unfold b4_31; simp only [(t4_8 c nl lo)] <;> (show _ = _; kernel_rfl)
def k4_7 (c : CallT) (nl lo : Nat) : Rg → MM → Option (AV × MM) := (execC c modeF lo nl p4_115 (endK cf4.res) noE (endK cf4.res))
@[reducible] def b4_7 (c : CallT) (nl lo : Nat) (x5 x6 x13 x14 x15 x16 x17 : AV) (M : MM) : Option (AV × MM) :=
 b4_31 c nl lo x5 x6 x13 x14 x15 x16 x17 M
theorem t4_7 (c : CallT) (nl lo : Nat) (ρ : Rg) (M : MM) : k4_7 c nl lo ρ M = b4_7 c nl lo (ρ 5) (ρ 6) (ρ 13) (ρ 14) (ρ 15) (ρ 16) (ρ 17) M := by
 have h : k4_7 c nl lo ρ M = (k4_31 c nl lo ρ M) := execC_seq c modeF lo nl p4_32 p4_114 (endK cf4.res) noE (endK cf4.res) ρ M
 rw [h]
 unfold b4_7; simp only [(t4_31 c nl lo)] <;> (show _ = _; kernel_rfl)
def k4_32 (c : CallT) (nl lo : Nat) : Rg → MM → Option (AV × MM) := (execC c modeF lo nl p4_28 (k4_7 c nl lo) noE (endK cf4.res))
@[reducible] def b4_32 (c : CallT) (nl lo : Nat) (x3 x5 x6 x13 x14 x15 x16 : AV) (M : MM) : Option (AV × MM) :=
 b4_7 c nl lo x5 x6 x13 x14 x15 x16 x3 M
theorem t4_32 (c : CallT) (nl lo : Nat) (ρ : Rg) (M : MM) : k4_32 c nl lo ρ M = b4_32 c nl lo (ρ 3) (ρ 5) (ρ 6) (ρ 13) (ρ 14) (ρ 15) (ρ 16) M := by
 have h : ∀ (z0 : Rg → MM → Option (AV × MM)), (execC c modeF lo nl p4_28 z0 noE (endK cf4.res)) ρ M = (z0 (sF (sF ρ 85 (ρ 3)) 17 (ρ 3)) M) := by intros; kernel_rfl
 refine (h (k4_7 c nl lo)).trans ?_
 unfold b4_32; simp only [(t4_7 c nl lo)] <;> (show _ = _; kernel_rfl)
def k4_6 (c : CallT) (nl lo : Nat) : Rg → MM → Option (AV × MM) := (execC c modeF lo nl p4_116 (endK cf4.res) noE (endK cf4.res))
@[reducible] def b4_6 (c : CallT) (nl lo : Nat) (x3 x5 x6 x13 x14 x15 x16 : AV) (M : MM) : Option (AV × MM) :=
 b4_32 c nl lo x3 x5 x6 x13 x14 x15 x16 M
theorem t4_6 (c : CallT) (nl lo : Nat) (ρ : Rg) (M : MM) : k4_6 c nl lo ρ M = b4_6 c nl lo (ρ 3) (ρ 5) (ρ 6) (ρ 13) (ρ 14) (ρ 15) (ρ 16) M := by
 have h : k4_6 c nl lo ρ M = (k4_32 c nl lo ρ M) := execC_seq c modeF lo nl p4_28 p4_115 (endK cf4.res) noE (endK cf4.res) ρ M
 rw [h]
 unfold b4_6; simp only [(t4_32 c nl lo)] <;> (show _ = _; kernel_rfl)
def k4_33 (c : CallT) (nl lo : Nat) : Rg → MM → Option (AV × MM) := (execC c modeF lo nl p4_27 (k4_6 c nl lo) noE (endK cf4.res))
@[reducible] def b4_33 (c : CallT) (nl lo : Nat) (x2 x3 x5 x6 x13 x14 x15 : AV) (M : MM) : Option (AV × MM) :=
 opt (wslA 2 (fill [.str ⟨⟨[]⟩⟩, .str ⟨⟨[]⟩⟩] [(0, 1, (.str ⟨⟨[84]⟩⟩)), (1, 1, (.str ⟨⟨[85]⟩⟩))])) fun v2 =>
 upK M M.nx fun M3 =>
 opt (wslA 1 (fill [.str ⟨⟨[]⟩⟩] [(0, 1, (.str ⟨⟨[84]⟩⟩))])) fun v4 =>
 upK M3 M3.nx fun M5 =>
 opt (wslA 2 (fill [.str ⟨⟨[]⟩⟩, .str ⟨⟨[]⟩⟩] [(0, 1, (.str ⟨⟨[84]⟩⟩)), (1, 1, (.str ⟨⟨[84]⟩⟩))])) fun v6 =>
 upK M5 M5.nx fun M7 =>
 opt (wslA 5 (fill [.d (.sl [] 0), .d (.sl [] 0), .d (.sl [] 0), .d (.sl [] 0), .d (.sl [] 0)] [(0, 1, x2), (1, 1, v2), (2, 1, v4), (3, 1, v6), (4, 1, (.d (.sl [] 0)))])) fun v8 =>
 upK M7 M7.nx fun M9 =>
 bnd (c 17 [x13, (.i 5)] lo M9) fun v11 M12 =>
 opt (ixsA 1 v8 v11) fun v13 =>
 opt (ld1A (lk M12) v13) fun v14 =>
 b4_6 c nl lo x3 x5 x6 x13 x14 x15 v14 M12
theorem t4_33 (c : CallT) (nl lo : Nat) (ρ : Rg) (M : MM) : k4_33 c nl lo ρ M = b4_33 c nl lo (ρ 2) (ρ 3) (ρ 5) (ρ 6) (ρ 13) (ρ 14) (ρ 15) M := by
 have h : ∀ (z0 : Rg → MM → Option (AV × MM)), (execC c modeF lo nl p4_27 z0 noE (endK cf4.res)) ρ M = (opt (wslA 2 (fill [.str ⟨⟨[]⟩⟩, .str ⟨⟨[]⟩⟩] [(0, 1, (.str ⟨⟨[84]⟩⟩)), (1, 1, (.str ⟨⟨[85]⟩⟩))])) fun v2 =>
 upK M M.nx fun M3 =>
 opt (wslA 1 (fill [.str ⟨⟨[]⟩⟩] [(0, 1, (.str ⟨⟨[84]⟩⟩))])) fun v4 =>
 upK M3 M3.nx fun M5 =>
 opt (wslA 2 (fill [.str ⟨⟨[]⟩⟩, .str ⟨⟨[]⟩⟩] [(0, 1, (.str ⟨⟨[84]⟩⟩)), (1, 1, (.str ⟨⟨[84]⟩⟩))])) fun v6 =>
 upK M5 M5.nx fun M7 =>
 opt (wslA 5 (fill [.d (.sl [] 0), .d (.sl [] 0), .d (.sl [] 0), .d (.sl [] 0), .d (.sl [] 0)] [(0, 1, (ρ 2)), (1, 1, v2), (2, 1, v4), (3, 1, v6), (4, 1, (.d (.sl [] 0)))])) fun v8 =>
 upK M7 M7.nx fun M9 =>
 bnd (c 17 [(ρ 13), (.i 5)] lo M9) fun v11 M12 =>
 opt (ixsA 1 v8 v11) fun v13 =>
 opt (ld1A (lk M12) v13) fun v14 =>
 z0 (sF (sF (sF (sF (sF (sF (sF (sF (sF (sF ρ 76 (ρ 2)) 77 v2) 78 v4) 79 v6) 80 v8) 81 (ρ 13)) 82 v11) 83 v13) 84 v14) 16 v14) M12) := by intros; kernel_rfl
 refine (h (k4_6 c nl lo)).trans ?_
 unfold b4_33; simp only [(t4_6 c nl lo)] <;> (show _ = _; kernel_rfl)
def k4_5 (c : CallT) (nl lo : Nat) : Rg → MM → Option (AV × MM) := (execC c modeF lo nl p4_117 (endK cf4.res) noE (endK cf4.res))
@[reducible] def b4_5 (c : CallT) (nl lo : Nat) (x2 x3 x5 x6 x13 x14 x15 : AV) (M : MM) : Option (AV × MM) :=
 b4_33 c nl lo x2 x3 x5 x6 x13 x14 x15 M
theorem t4_5 (c : CallT) (nl lo : Nat) (ρ : Rg) (M : MM) : k4_5 c nl lo ρ M = b4_5 c nl lo (ρ 2) (ρ 3) (ρ 5) (ρ 6) (ρ 13) (ρ 14) (ρ 15) M := by
 have h : k4_5 c nl lo ρ M = (k4_33 c nl lo ρ M) := execC_seq c modeF lo nl p4_27 p4_116 (endK cf4.res) noE (endK cf4.res) ρ M
 rw [h]
 unfold b4_5; simp only [(t4_33 c nl lo)] <;> (show _ = _; kernel_rfl)
def k4_34 (c : CallT) (nl lo : Nat) : Rg → MM → Option (AV × MM) := (execC c modeF lo nl p4_26 (k4_5 c nl lo) noE (endK cf4.res))
@[reducible] def b4_34 (c : CallT) (nl lo : Nat) (x2 x3 x5 x6 x13 : AV) (M : MM) : Option (AV × MM) :=
 bnd (c 11 [x13, (.i 3)] lo M) fun v2 M3 =>
 bnd (c 11 [x13, (.i 3)] lo M3) fun v5 M6 =>
 upK M6 M6.nx fun M8 =>
 upK M8 M8.nx fun M10 =>
 opt (setcA 0 2 (.agg [.str ⟨⟨[]⟩⟩, .d (.sl [] 0)]) v2) fun v11 =>
 opt (setcA 0 2 (.agg [.str ⟨⟨[]⟩⟩, .d (.sl [] 0)]) v5) fun v12 =>
 b4_5 c nl lo x2 x3 x5 x6 x13 v11 v12 M10
theorem t4_34 (c : CallT) (nl lo : Nat) (ρ : Rg) (M : MM) : k4_34 c nl lo ρ M = b4_34 c nl lo (ρ 2) (ρ 3) (ρ 5) (ρ 6) (ρ 13) M := by
 have h : ∀ (z0 : Rg → MM → Option (AV × MM)), (execC c modeF lo nl p4_26 z0 noE (endK cf4.res)) ρ M = (bnd (c 11 [(ρ 13), (.i 3)] lo M) fun v2 M3 =>
 bnd (c 11 [(ρ 13), (.i 3)] lo M3) fun v5 M6 =>
 upK M6 M6.nx fun M8 =>
 upK M8 M8.nx fun M10 =>
 opt (setcA 0 2 (.agg [.str ⟨⟨[]⟩⟩, .d (.sl [] 0)]) v2) fun v11 =>
 opt (setcA 0 2 (.agg [.str ⟨⟨[]⟩⟩, .d (.sl [] 0)]) v5) fun v12 =>
 z0 (sF (sF (sF (sF (sF (sF (sF (sF ρ 72 (ρ 13)) 73 v2) 74 (ρ 13)) 75 v5) 14 (.agg [.str ⟨⟨[]⟩⟩, .d (.sl [] 0)])) 15 (.agg [.str ⟨⟨[]⟩⟩, .d (.sl [] 0)])) 14 v11) 15 v12) M10) := by intros; kernel_rfl
 refine (h (k4_5 c nl lo)).trans ?_
 unfold b4_34; simp only [(t4_5 c nl lo)] <;> (show _ = _; kernel_rfl)
def k4_4 (c : CallT) (nl lo : Nat) : Rg → MM → Option (AV × MM) := (execC c modeF lo nl p4_118 (endK cf4.res) noE (endK cf4.res))
@[reducible] def b4_4 (c : CallT) (nl lo : Nat) (x2 x3 x5 x6 x13 : AV) (M : MM) : Option (AV × MM) :=
 b4_34 c nl lo x2 x3 x5 x6 x13 M
theorem t4_4 (c : CallT) (nl lo : Nat) (ρ : Rg) (M : MM) : k4_4 c nl lo ρ M = b4_4 c nl lo (ρ 2) (ρ 3) (ρ 5) (ρ 6) (ρ 13) M := by
 have h : k4_4 c nl lo ρ M = (k4_34 c nl lo ρ M) := execC_seq c modeF lo nl p4_26 p4_117 (endK cf4.res) noE (endK cf4.res) ρ M
 rw [h]
 unfold b4_4; simp only [(t4_34 c nl lo)] <;> (show _ = _; kernel_rfl)
def k4_35 (c : CallT) (nl lo : Nat) : Rg → MM → Option (AV × MM) := (execC c modeF lo nl p4_25 (k4_4 c nl lo) noE (endK cf4.res))
@[reducible] def b4_35 (c : CallT) (nl lo : Nat) (x2 x3 x4 x5 x6 : AV) (M : MM) : Option (AV × MM) :=
 bnd (c 12 [x4] lo M) fun v2 M3 =>
 b4_4 c nl lo x2 x3 x5 x6 v2 M3
theorem t4_35 (c : CallT) (nl lo : Nat) (ρ : Rg) (M : MM) : k4_35 c nl lo ρ M = b4_35 c nl lo (ρ 2) (ρ 3) (ρ 4) (ρ 5) (ρ 6) M := by
 have h : ∀ (z0 : Rg → MM → Option (AV × MM)), (execC c modeF lo nl p4_25 z0 noE (endK cf4.res)) ρ M = (bnd (c 12 [(ρ 4)] lo M) fun v2 M3 =>
 z0 (sF (sF (sF ρ 70 (ρ 4)) 71 v2) 13 v2) M3) := by intros; kernel_rfl
 refine (h (k4_4 c nl lo)).trans ?_
 unfold b4_35; simp only [(t4_4 c nl lo)] <;> (show _ = _; kernel_rfl)
def k4_3 (c : CallT) (nl lo : Nat) : Rg → MM → Option (AV × MM) := (execC c modeF lo nl p4_119 (endK cf4.res) noE (endK cf4.res))
@[reducible] def b4_3 (c : CallT) (nl lo : Nat) (x2 x3 x4 x5 x6 : AV) (M : MM) : Option (AV × MM) :=
 b4_35 c nl lo x2 x3 x4 x5 x6 M
theorem t4_3 (c : CallT) (nl lo : Nat) (ρ : Rg) (M : MM) : k4_3 c nl lo ρ M = b4_3 c nl lo (ρ 2) (ρ 3) (ρ 4) (ρ 5) (ρ 6) M := by
 have h : k4_3 c nl lo ρ M = (k4_35 c nl lo ρ M) := execC_seq c modeF lo nl p4_25 p4_118 (endK cf4.res) noE (endK cf4.res) ρ M
 rw [h]
 unfold b4_3; simp only [(t4_35 c nl lo)] <;> (show _ = _; kernel_rfl)
def k4_37 (c : CallT) (nl lo : Nat) (n : Nat) : Rg → MM → Option (AV × MM) := iterC (fun k ρ M => execC c modeF lo nl p4_21 k (fun i ρ M => if i = 0 then (k4_3 c nl lo) ρ M else noE i ρ M) (endK cf4.res) ρ M) n
def b4_37 (c : CallT) (nl lo : Nat) : Nat → AV → AV → AV → AV → AV → AV → AV → AV → MM → Option (AV × MM)
 | 0, _, _, _, _, _, _, _, _, _ => none
 | n + 1, x2, x3, x4, x5, x6, x59, x60, x61, M =>
 opt (binA .lss .none x61 x60) fun v4 =>
 isB v4 fun c5 => if c5 then (opt (ixsA 2 x59 x61) fun v6 =>
 opt (ldnA (lk M) 2 v6) fun v7 =>
 upK M M.nx fun M9 =>
 opt (setcA 0 2 (.agg [.str ⟨⟨[]⟩⟩, .d (.sl [] 0)]) v7) fun v10 =>
 opt (fldA 0 2 true v10) fun v11 =>
 opt (puA c (lk M9) 16 [v11, (.i 4)]) fun v12 =>
 opt (unA .not v12) fun v13 =>
 isB v13 fun c14 => if c14 then (opt (puA c (lk M9) 10 []) fun v15 =>
 some (v15, M9))
 else (opt (binA .add .none x61 (.i 1)) fun v17 =>
 (b4_37 c nl lo n) x2 x3 x4 x5 x6 x59 x60 v17 M9))
 else (b4_3 c nl lo x2 x3 x4 x5 x6 M)
theorem t4_37 (c : CallT) (nl lo : Nat) : ∀ (n : Nat) (ρ : Rg) (M : MM), k4_37 c nl lo n ρ M = b4_37 c nl lo n (ρ 2) (ρ 3) (ρ 4) (ρ 5) (ρ 6) (ρ 59) (ρ 60) (ρ 61) M
 | 0, ρ, M => rfl
 | n + 1, ρ, M => by
  have h : ∀ (zb z0 : Rg → MM → Option (AV × MM)), execC c modeF lo nl p4_21 zb (fun i ρ M => if i = 0 then z0 ρ M else noE i ρ M) (endK cf4.res) ρ M = (opt (binA .lss .none (ρ 61) (ρ 60)) fun v4 =>
  isB v4 fun c5 => if c5 then (opt (ixsA 2 (ρ 59) (ρ 61)) fun v6 =>
  opt (ldnA (lk M) 2 v6) fun v7 =>
  upK M M.nx fun M9 =>
  opt (setcA 0 2 (.agg [.str ⟨⟨[]⟩⟩, .d (.sl [] 0)]) v7) fun v10 =>
  opt (fldA 0 2 true v10) fun v11 =>
  opt (puA c (lk M9) 16 [v11, (.i 4)]) fun v12 =>
  opt (unA .not v12) fun v13 =>
  isB v13 fun c14 => if c14 then (opt (puA c (lk M9) 10 []) fun v15 =>
  some (v15, M9))
  else (opt (binA .add .none (ρ 61) (.i 1)) fun v17 =>
  zb (sF (sF (sF (sF (sF (sF (sF (sF (sF (sF ρ 62 v4) 63 v6) 64 v7) 12 (.agg [.str ⟨⟨[]⟩⟩, .d (.sl [] 0)])) 12 v10) 65 v11) 66 v12) 67 v13) 69 v17) 61 v17) M9))
  else (z0 (sF ρ 62 v4) M)) := by intros; kernel_rfl
  refine (h (k4_37 c nl lo n) (k4_3 c nl lo)).trans ?_
  unfold b4_37; simp only [(t4_3 c nl lo), (t4_37 c nl lo n)] <;> (show _ = _; kernel_rfl)
def k4_36 (c : CallT) (nl lo : Nat) : Rg → MM → Option (AV × MM) := (execC c modeF lo nl p4_24 (k4_3 c nl lo) noE (endK cf4.res))
@[reducible] def b4_36 (c : CallT) (nl lo : Nat) (x2 x3 x4 x5 x6 : AV) (M : MM) : Option (AV × MM) :=
 opt (lenA x3) fun v2 =>
 b4_37 c nl lo nl x2 x3 x4 x5 x6 x3 v2 (.i 0) M
theorem t4_36 (c : CallT) (nl lo : Nat) (ρ : Rg) (M : MM) : k4_36 c nl lo ρ M = b4_36 c nl lo (ρ 2) (ρ 3) (ρ 4) (ρ 5) (ρ 6) M := by
 have h : k4_36 c nl lo ρ M = (opt (lenA (ρ 3)) fun v2 =>
 k4_37 c nl lo nl (sF (sF (sF ρ 59 (ρ 3)) 60 v2) 61 (.i 0)) M) := by kernel_rfl
 rw [h]
 unfold b4_36; simp only [(t4_37 c nl lo nl)] <;> (show _ = _; kernel_rfl)
def k4_2 (c : CallT) (nl lo : Nat) : Rg → MM → Option (AV × MM) := (execC c modeF lo nl p4_120 (endK cf4.res) noE (endK cf4.res))
@[reducible] def b4_2 (c : CallT) (nl lo : Nat) (x2 x3 x4 x5 x6 : AV) (M : MM) : Option (AV × MM) :=
 b4_36 c nl lo x2 x3 x4 x5 x6 M
theorem t4_2 (c : CallT) (nl lo : Nat) (ρ : Rg) (M : MM) : k4_2 c nl lo ρ M = b4_2 c nl lo (ρ 2) (ρ 3) (ρ 4) (ρ 5) (ρ 6) M := by
 have h : k4_2 c nl lo ρ M = (k4_36 c nl lo ρ M) := execC_seq c modeF lo nl p4_24 p4_119 (endK cf4.res) noE (endK cf4.res) ρ M
 rw [h]
 unfold b4_2; simp only [(t4_36 c nl lo)] <;> (show _ = _; kernel_rfl)
def k4_38 (c : CallT) (nl lo : Nat) : Rg → MM → Option (AV × MM) := (execC c modeF lo nl p4_6 (k4_2 c nl lo) noE (endK cf4.res))
@[reducible] def b4_38 (c : CallT) (nl lo : Nat) (x2 x3 x4 x5 x6 : AV) (M : MM) : Option (AV × MM) :=
 opt (fldA 0 2 true x5) fun v1 =>
 opt (puA c (lk M) 16 [v1, (.i 5)]) fun v2 =>
 opt (unA .not v2) fun v3 =>
 opt (gdp v3 false (fldA 0 2 true x6)) fun v5 =>
 opt (gdp v3 false (puA c (lk M) 16 [v5, (.i 5)])) fun v6 =>
 opt (gdp v3 false (unA .not v6)) fun v7 =>
 opt (pickA v3 (.bool true) v7) fun v8 =>
 opt (gdp v8 false (some x2)) fun v10 =>
 opt (gdp v8 false (lenA v10)) fun v11 =>
 opt (gdp v8 false (binA .gtr .none v11 (.i 8))) fun v12 =>
 opt (pickA v8 (.bool true) v12) fun v13 =>
 opt (gdp v13 false (some x3)) fun v15 =>
 opt (gdp v13 false (lenA v15)) fun v16 =>
 opt (gdp v13 false (binA .gtr .none v16 (.i 8))) fun v17 =>
 opt (pickA v13 (.bool true) v17) fun v18 =>
 opt (gdp v18 false (some x4)) fun v20 =>
 opt (gdp v18 false (puA c (lk M) 9 [v20])) fun v21 =>
 opt (gdp v18 false (unA .not v21)) fun v22 =>
 opt (pickA v18 (.bool true) v22) fun v23 =>
 isB v23 fun c24 => if c24 then (opt (puA c (lk M) 10 []) fun v25 =>
 some (v25, M))
 else (b4_2 c nl lo x2 x3 x4 x5 x6 M)
theorem t4_38 (c : CallT) (nl lo : Nat) (ρ : Rg) (M : MM) : k4_38 c nl lo ρ M = b4_38 c nl lo (ρ 2) (ρ 3) (ρ 4) (ρ 5) (ρ 6) M := by
 have h : ∀ (z0 : Rg → MM → Option (AV × MM)), (execC c modeF lo nl p4_6 z0 noE (endK cf4.res)) ρ M = (opt (fldA 0 2 true (ρ 5)) fun v1 =>
 opt (puA c (lk M) 16 [v1, (.i 5)]) fun v2 =>
 opt (unA .not v2) fun v3 =>
 opt (gdp v3 false (fldA 0 2 true (ρ 6))) fun v5 =>
 opt (gdp v3 false (puA c (lk M) 16 [v5, (.i 5)])) fun v6 =>
 opt (gdp v3 false (unA .not v6)) fun v7 =>
 opt (pickA v3 (.bool true) v7) fun v8 =>
 opt (gdp v8 false (some (ρ 2))) fun v10 =>
 opt (gdp v8 false (lenA v10)) fun v11 =>
 opt (gdp v8 false (binA .gtr .none v11 (.i 8))) fun v12 =>
 opt (pickA v8 (.bool true) v12) fun v13 =>
 opt (gdp v13 false (some (ρ 3))) fun v15 =>
 opt (gdp v13 false (lenA v15)) fun v16 =>
 opt (gdp v13 false (binA .gtr .none v16 (.i 8))) fun v17 =>
 opt (pickA v13 (.bool true) v17) fun v18 =>
 opt (gdp v18 false (some (ρ 4))) fun v20 =>
 opt (gdp v18 false (puA c (lk M) 9 [v20])) fun v21 =>
 opt (gdp v18 false (unA .not v21)) fun v22 =>
 opt (pickA v18 (.bool true) v22) fun v23 =>
 isB v23 fun c24 => if c24 then (opt (puA c (lk M) 10 []) fun v25 =>
 some (v25, M))
 else (z0 (sF (sF (sF (sF (sF (sF (sF (sF (sF (sF (sF (sF (sF (sF (sF (sF (sF (sF (sF (sF (sF (sF (sF ρ 35 v1) 36 v2) 37 v3) 38 v3) 39 v5) 40 v6) 41 v7) 42 v8) 43 v8) 44 v10) 45 v11) 46 v12) 47 v13) 48 v13) 49 v15) 50 v16) 51 v17) 52 v18) 53 v18) 54 v20) 55 v21) 56 v22) 57 v23) M)) := by intros; kernel_rfl
 refine (h (k4_2 c nl lo)).trans ?_
 unfold b4_38; simp only [(t4_2 c nl lo)] <;> (show _ = _; kernel_rfl)
def k4_1 (c : CallT) (nl lo : Nat) : Rg → MM → Option (AV × MM) := (execC c modeF lo nl p4_121 (endK cf4.res) noE (endK cf4.res))
@[reducible] def b4_1 (c : CallT) (nl lo : Nat) (x2 x3 x4 x5 x6 : AV) (M : MM) : Option (AV × MM) :=
 b4_38 c nl lo x2 x3 x4 x5 x6 M
theorem t4_1 (c : CallT) (nl lo : Nat) (ρ : Rg) (M : MM) : k4_1 c nl lo ρ M = b4_1 c nl lo (ρ 2) (ρ 3) (ρ 4) (ρ 5) (ρ 6) M := by
 have h : k4_1 c nl lo ρ M = (k4_38 c nl lo ρ M) := execC_seq c modeF lo nl p4_6 p4_120 (endK cf4.res) noE (endK cf4.res) ρ M
 rw [h]
 unfold b4_1; simp only [(t4_38 c nl lo)] <;> (show _ = _; kernel_rfl)
def k4_39 (c : CallT) (nl lo : Nat) : Rg → MM → Option (AV × MM) := (execC c modeF lo nl p4_1 (k4_1 c nl lo) noE (endK cf4.res))
@[reducible] def b4_39 (c : CallT) (nl lo : Nat) (x0 x1 x2 x3 x4 : AV) (M : MM) : Option (AV × MM) :=
 opt (aggA x0) fun v1 =>
 upK M M.nx fun M2 =>
 opt (aggA x1) fun v3 =>
 upK M2 M2.nx fun M4 =>
 b4_1 c nl lo x2 x3 x4 v1 v3 M4
theorem t4_39 (c : CallT) (nl lo : Nat) (ρ : Rg) (M : MM) : k4_39 c nl lo ρ M = b4_39 c nl lo (ρ 0) (ρ 1) (ρ 2) (ρ 3) (ρ 4) M := by
 have h : ∀ (z0 : Rg → MM → Option (AV × MM)), (execC c modeF lo nl p4_1 z0 noE (endK cf4.res)) ρ M = (opt (aggA (ρ 0)) fun v1 =>
 upK M M.nx fun M2 =>
 opt (aggA (ρ 1)) fun v3 =>
 upK M2 M2.nx fun M4 =>
 z0 (sF (sF (sF ρ 5 v1) 6 v3) 10 (.bool false)) M4) := by intros; kernel_rfl
 refine (h (k4_1 c nl lo)).trans ?_
 unfold b4_39; simp only [(t4_1 c nl lo)] <;> (show _ = _; kernel_rfl)
def k4_0 (c : CallT) (nl lo : Nat) : Rg → MM → Option (AV × MM) := (execC c modeF lo nl p4_122 (endK cf4.res) noE (endK cf4.res))
@[reducible] def b4_0 (c : CallT) (nl lo : Nat) (x0 x1 x2 x3 x4 : AV) (M : MM) : Option (AV × MM) :=
 b4_39 c nl lo x0 x1 x2 x3 x4 M
theorem t4_0 (c : CallT) (nl lo : Nat) (ρ : Rg) (M : MM) : k4_0 c nl lo ρ M = b4_0 c nl lo (ρ 0) (ρ 1) (ρ 2) (ρ 3) (ρ 4) M := by
 have h : k4_0 c nl lo ρ M = (k4_39 c nl lo ρ M) := execC_seq c modeF lo nl p4_1 p4_121 (endK cf4.res) noE (endK cf4.res) ρ M
 rw [h]
 unfold b4_0; simp only [(t4_39 c nl lo)] <;> (show _ = _; kernel_rfl)
def k4_40 (c : CallT) (nl lo : Nat) : Rg → MM → Option (AV × MM) := (execC c modeF lo nl p4_0 (k4_0 c nl lo) noE (endK cf4.res))
@[reducible] def b4_40 (c : CallT) (nl lo : Nat) (x0 x1 x2 x3 x4 : AV) (M : MM) : Option (AV × MM) :=
 b4_0 c nl lo x0 x1 x2 x3 x4 M
theorem t4_40 (c : CallT) (nl lo : Nat) (ρ : Rg) (M : MM) : k4_40 c nl lo ρ M = b4_40 c nl lo (ρ 0) (ρ 1) (ρ 2) (ρ 3) (ρ 4) M := by
 have h : ∀ (z0 : Rg → MM → Option (AV × MM)), (execC c modeF lo nl p4_0 z0 noE (endK cf4.res)) ρ M = (z0 (sF (sF (sF (sF (sF (sF (sF (sF (sF ρ 5 (.tup [])) 6 (.tup [])) 12 (.tup [])) 14 (.tup [])) 15 (.tup [])) 19 (.tup [])) 20 (.tup [])) 22 (.tup [])) 24 (.tup [])) M) := by intros; kernel_rfl
 refine (h (k4_0 c nl lo)).trans ?_
 unfold b4_40; simp only [(t4_0 c nl lo)] <;> (show _ = _; kernel_rfl)
def s4 (c : CallT) (nl lo : Nat) (a0 a1 a2 a3 a4 : AV) (M : MM) : Option (AV × MM) :=
 b4_40 c nl lo a0 a1 a2 a3 a4 M
theorem e4 (c : CallT) (nl lo : Nat) (a0 a1 a2 a3 a4 : AV) (M : MM) : execC c modeF lo nl cf4.body (endK cf4.res) noE (endK cf4.res) (aF [a0, a1, a2, a3, a4]) M = s4 c nl lo a0 a1 a2 a3 a4 M := by
 have h : execC c modeF lo nl cf4.body (endK cf4.res) noE (endK cf4.res) (aF [a0, a1, a2, a3, a4]) M = (k4_40 c nl lo (aF [a0, a1, a2, a3, a4]) M) := execC_seq c modeF lo nl p4_0 p4_122 (endK cf4.res) noE (endK cf4.res) (aF [a0, a1, a2, a3, a4]) M
 refine h.trans ?_
 unfold s4; simp only [(t4_40 c nl lo)] <;> (show _ = _; kernel_rfl)
theorem q4 {c : CallT} (hc : Lim G c) (lo : Nat) (a0 a1 a2 a3 a4 : AV) (M : MM) : c 4 [a0, a1, a2, a3, a4] lo M = s4 c G.nl lo a0 a1 a2 a3 a4 M :=
 (hc.flow (cf := cf4) rfl w4 [a0, a1, a2, a3, a4] lo M).trans (e4 c G.nl lo a0 a1 a2 a3 a4 M)

/-! ### function 9 -/
theorem w9 : wfK cf9.nt cf9.body = true := by kernel_rfl
def s9 (c : CallT) (nl lo : Nat) (a0 : AV) (M : MM) : Option (AV × MM) :=
 opt (lenA a0) fun v3 =>
 opt (binA .leq .none v3 (.i 700)) fun v4 =>
 some (v4, M)
theorem e9 (c : CallT) (nl lo : Nat) (a0 : AV) (M : MM) : execC c modeF lo nl cf9.body (endK cf9.res) noE (endK cf9.res) (aF [a0]) M = s9 c nl lo a0 M := by
 kernel_rfl
theorem q9 {c : CallT} (hc : Lim G c) (lo : Nat) (a0 : AV) (M : MM) : c 9 [a0] lo M = s9 c G.nl lo a0 M :=
 (hc.flow (cf := cf9) rfl w9 [a0] lo M).trans (e9 c G.nl lo a0 M)

/-! ### function 11 -/
theorem w11 : wfK cf11.nt cf11.body = true := by kernel_rfl
def k11_7 (c : CallT) (nl lo : Nat) : Rg → MM → Option (AV × MM) := (execC c modeF lo nl p11_29 (endK cf11.res) noE (endK cf11.res))
@[reducible] def b11_7 (c : CallT) (nl lo : Nat) (x4 x6 : AV) (M : MM) : Option (AV × MM) :=
 opt (fldA 0 2 true x6) fun v1 =>
 opt (setcA 0 2 x4 v1) fun v2 =>
 opt (locA 2 true v2) fun r => some (r, M)
theorem t11_7 (c : CallT) (nl lo : Nat) (ρ : Rg) (M : MM) : k11_7 c nl lo ρ M = b11_7 c nl lo (ρ 4) (ρ 6) M := by
 kernel_rfl
def k11_9 (c : CallT) (nl lo : Nat) (n : Nat) : Rg → MM → Option (AV × MM) := iterC (fun k ρ M => execC c modeF lo nl p11_25 k (fun i ρ M => if i = 0 then (k11_7 c nl lo) ρ M else noE i ρ M) (endK cf11.res) ρ M) n
def b11_9 (c : CallT) (nl lo : Nat) : Nat → AV → AV → AV → AV → AV → MM → Option (AV × MM)
 | 0, _, _, _, _, _, _ => none
 | n + 1, x0, x1, x4, x6, x7, M =>
 opt (binA .gtr .none x7 (.i 0)) fun v4 =>
 isB v4 fun c5 => if c5 then (bumpK M 10 fun M6 =>
 opt (fldA 0 0 true x6) fun v7 =>
 opt (fldA 1 1 false x6) fun v8 =>
 opt (binA .sub .none x1 (.i 1)) fun v11 =>
 bnd (istep c modeF true lo (.mk M.nx 10 28 true) (M.nx + 5) (.callk 11 [(.k x0), (.k v11)] [(.k x6)]) [] M6) fun v12 M13 =>
 opt (wslA 1 (fill [.str ⟨⟨[]⟩⟩, .d (.sl [] 0)] [(0, 2, v12)])) fun v14 =>
 upK M13 (M.nx + 6) fun M15 =>
 opt (wappA M15.mem (.top M15.nx) 2 40 v8 v14) fun v16 =>
 upK M15 (M.nx + 7) fun M17 =>
 opt (fldA 0 0 true x6) fun v18 =>
 opt (setcA 1 1 x6 v16) fun v19 =>
 opt (binA .sub .none x7 (.i 1)) fun v21 =>
 (b11_9 c nl lo n) x0 x1 x4 v19 v21 M17)
 else (b11_7 c nl lo x4 x6 M)
theorem t11_9 (c : CallT) (nl lo : Nat) : ∀ (n : Nat) (ρ : Rg) (M : MM), k11_9 c nl lo n ρ M = b11_9 c nl lo n (ρ 0) (ρ 1) (ρ 4) (ρ 6) (ρ 7) M
 | 0, ρ, M => rfl
 | n + 1, ρ, M => by
  have h : ∀ (zb z0 : Rg → MM → Option (AV × MM)), execC c modeF lo nl p11_25 zb (fun i ρ M => if i = 0 then z0 ρ M else noE i ρ M) (endK cf11.res) ρ M = (opt (binA .gtr .none (ρ 7) (.i 0)) fun v4 =>
  isB v4 fun c5 => if c5 then (bumpK M 10 fun M6 =>
  opt (fldA 0 0 true (ρ 6)) fun v7 =>
  opt (fldA 1 1 false (ρ 6)) fun v8 =>
  opt (binA .sub .none (ρ 1) (.i 1)) fun v11 =>
  bnd (istep c modeF true lo (.mk M.nx 10 28 true) (M.nx + 5) (.callk 11 [(.k (ρ 0)), (.k v11)] [(.k (ρ 6))]) [] M6) fun v12 M13 =>
  opt (wslA 1 (fill [.str ⟨⟨[]⟩⟩, .d (.sl [] 0)] [(0, 2, v12)])) fun v14 =>
  upK M13 (M.nx + 6) fun M15 =>
  opt (wappA M15.mem (.top M15.nx) 2 40 v8 v14) fun v16 =>
  upK M15 (M.nx + 7) fun M17 =>
  opt (fldA 0 0 true (ρ 6)) fun v18 =>
  opt (setcA 1 1 (ρ 6) v16) fun v19 =>
  opt (binA .sub .none (ρ 7) (.i 1)) fun v21 =>
  zb (sF (sF (sF (sF (sF (sF (sF (sF (sF (sF (sF (sF (sF (sF (sF ρ 33 (ρ 7)) 34 v4) 37 v7) 38 v8) 39 (ρ 0)) 40 (ρ 1)) 41 v11) 42 v12) 43 v14) 44 v16) 45 v18) 6 v19) 35 (ρ 7)) 36 v21) 7 v21) M17)
  else (z0 (sF (sF ρ 33 (ρ 7)) 34 v4) M)) := by intros; kernel_rfl
  refine (h (k11_9 c nl lo n) (k11_7 c nl lo)).trans ?_
  unfold b11_9; simp only [(t11_7 c nl lo), (t11_9 c nl lo n)] <;> (show _ = _; kernel_rfl)
def k11_8 (c : CallT) (nl lo : Nat) : Rg → MM → Option (AV × MM) := (execC c modeF lo nl p11_27 (k11_7 c nl lo) noE (endK cf11.res))
@[reducible] def b11_8 (c : CallT) (nl lo : Nat) (x0 x1 x4 x6 x7 : AV) (M : MM) : Option (AV × MM) :=
 b11_9 c nl lo nl x0 x1 x4 x6 x7 M
theorem t11_8 (c : CallT) (nl lo : Nat) (ρ : Rg) (M : MM) : k11_8 c nl lo ρ M = b11_8 c nl lo (ρ 0) (ρ 1) (ρ 4) (ρ 6) (ρ 7) M := by
 have h : k11_8 c nl lo ρ M = (k11_9 c nl lo nl ρ M) := by kernel_rfl
 rw [h]
 unfold b11_8; simp only [(t11_9 c nl lo nl)] <;> (show _ = _; kernel_rfl)
def k11_6 (c : CallT) (nl lo : Nat) : Rg → MM → Option (AV × MM) := (execC c modeF lo nl p11_30 (endK cf11.res) noE (endK cf11.res))
@[reducible] def b11_6 (c : CallT) (nl lo : Nat) (x0 x1 x4 x6 x7 : AV) (M : MM) : Option (AV × MM) :=
 b11_8 c nl lo x0 x1 x4 x6 x7 M
theorem t11_6 (c : CallT) (nl lo : Nat) (ρ : Rg) (M : MM) : k11_6 c nl lo ρ M = b11_6 c nl lo (ρ 0) (ρ 1) (ρ 4) (ρ 6) (ρ 7) M := by
 have h : k11_6 c nl lo ρ M = (k11_8 c nl lo ρ M) := execC_seq c modeF lo nl p11_27 p11_29 (endK cf11.res) noE (endK cf11.res) ρ M
 rw [h]
 unfold b11_6; simp only [(t11_8 c nl lo)] <;> (show _ = _; kernel_rfl)
def k11_10 (c : CallT) (nl lo : Nat) : Rg → MM → Option (AV × MM) := (execC c modeF lo nl p11_17 (k11_6 c nl lo) noE (endK cf11.res))
@[reducible] def b11_10 (c : CallT) (nl lo : Nat) (x0 x1 x4 x6 x7 : AV) (M : MM) : Option (AV × MM) :=
 opt (fldA 0 0 true x6) fun v1 =>
 opt (fldA 0 1 false x6) fun v2 =>
 opt (binA .eql .none v2 (.str ⟨⟨[65, 114, 114, 97, 121]⟩⟩)) fun v3 =>
 isB v3 fun c4 => if c4 then (opt (binA .lss .none x1 (.i 0)) fun v7 =>
 isB v7 fun c8 => if c8 then (opt (fldA 0 0 true x6) fun v9 =>
 opt (setcA 0 1 x6 (.str ⟨⟨[73, 110, 116]⟩⟩)) fun v10 =>
 b11_6 c nl lo x0 x1 x4 v10 (.i 0) M)
 else (b11_6 c nl lo x0 x1 x4 x6 (.i 1) M))
 else (b11_6 c nl lo x0 x1 x4 x6 x7 M)
theorem t11_10 (c : CallT) (nl lo : Nat) (ρ : Rg) (M : MM) : k11_10 c nl lo ρ M = b11_10 c nl lo (ρ 0) (ρ 1) (ρ 4) (ρ 6) (ρ 7) M := by
 have h : ∀ (z0 : Rg → MM → Option (AV × MM)), (execC c modeF lo nl p11_17 z0 noE (endK cf11.res)) ρ M = (opt (fldA 0 0 true (ρ 6)) fun v1 =>
 opt (fldA 0 1 false (ρ 6)) fun v2 =>
 opt (binA .eql .none v2 (.str ⟨⟨[65, 114, 114, 97, 121]⟩⟩)) fun v3 =>
 isB v3 fun c4 => if c4 then (opt (binA .lss .none (ρ 1) (.i 0)) fun v7 =>
 isB v7 fun c8 => if c8 then (opt (fldA 0 0 true (ρ 6)) fun v9 =>
 opt (setcA 0 1 (ρ 6) (.str ⟨⟨[73, 110, 116]⟩⟩)) fun v10 =>
 z0 (sF (sF (sF (sF (sF (sF (sF (sF (sF ρ 27 v1) 28 v2) 29 v3) 7 (.i 1)) 30 (ρ 1)) 31 v7) 32 v9) 6 v10) 7 (.i 0)) M)
 else (z0 (sF (sF (sF (sF (sF (sF ρ 27 v1) 28 v2) 29 v3) 7 (.i 1)) 30 (ρ 1)) 31 v7) M))
 else (z0 (sF (sF (sF ρ 27 v1) 28 v2) 29 v3) M)) := by intros; kernel_rfl
 refine (h (k11_6 c nl lo)).trans ?_
 unfold b11_10; simp only [(t11_6 c nl lo)] <;> (show _ = _; kernel_rfl)
def k11_5 (c : CallT) (nl lo : Nat) : Rg → MM → Option (AV × MM) := (execC c modeF lo nl p11_31 (endK cf11.res) noE (endK cf11.res))
@[reducible] def b11_5 (c : CallT) (nl lo : Nat) (x0 x1 x4 x6 x7 : AV) (M : MM) : Option (AV × MM) :=
 b11_10 c nl lo x0 x1 x4 x6 x7 M
theorem t11_5 (c : CallT) (nl lo : Nat) (ρ : Rg) (M : MM) : k11_5 c nl lo ρ M = b11_5 c nl lo (ρ 0) (ρ 1) (ρ 4) (ρ 6) (ρ 7) M := by
 have h : k11_5 c nl lo ρ M = (k11_10 c nl lo ρ M) := execC_seq c modeF lo nl p11_17 p11_30 (endK cf11.res) noE (endK cf11.res) ρ M
 rw [h]
 unfold b11_5; simp only [(t11_10 c nl lo)] <;> (show _ = _; kernel_rfl)
def k11_11 (c : CallT) (nl lo : Nat) : Rg → MM → Option (AV × MM) := (execC c modeF lo nl p11_8 (k11_5 c nl lo) noE (endK cf11.res))
@[reducible] def b11_11 (c : CallT) (nl lo : Nat) (x0 x1 x4 x6 x7 : AV) (M : MM) : Option (AV × MM) :=
 opt (binA .gtr .none x1 (.i 0)) fun v2 =>
 opt (gdp v2 true (fldA 0 0 true x6)) fun v4 =>
 opt (gdp v2 true (fldA 0 1 false x6)) fun v5 =>
 opt (gdp v2 true (ixcA v5 (.i 0))) fun v6 =>
 opt (gdp v2 true (binA .geq .none v6 (.int .u8 97))) fun v7 =>
 opt (pickA v2 v7 (.bool false)) fun v8 =>
 isB v8 fun c9 => if c9 then (bnd (c 17 [x0, (.i 4)] lo M) fun v11 M12 =>
 b11_5 c nl lo x0 x1 x4 x6 v11 M12)
 else (b11_5 c nl lo x0 x1 x4 x6 x7 M)
theorem t11_11 (c : CallT) (nl lo : Nat) (ρ : Rg) (M : MM) : k11_11 c nl lo ρ M = b11_11 c nl lo (ρ 0) (ρ 1) (ρ 4) (ρ 6) (ρ 7) M := by
 have h : ∀ (z0 : Rg → MM → Option (AV × MM)), (execC c modeF lo nl p11_8 z0 noE (endK cf11.res)) ρ M = (opt (binA .gtr .none (ρ 1) (.i 0)) fun v2 =>
 opt (gdp v2 true (fldA 0 0 true (ρ 6))) fun v4 =>
 opt (gdp v2 true (fldA 0 1 false (ρ 6))) fun v5 =>
 opt (gdp v2 true (ixcA v5 (.i 0))) fun v6 =>
 opt (gdp v2 true (binA .geq .none v6 (.int .u8 97))) fun v7 =>
 opt (pickA v2 v7 (.bool false)) fun v8 =>
 isB v8 fun c9 => if c9 then (bnd (c 17 [(ρ 0), (.i 4)] lo M) fun v11 M12 =>
 z0 (sF (sF (sF (sF (sF (sF (sF (sF (sF (sF (sF ρ 17 (ρ 1)) 18 v2) 19 v2) 20 v4) 21 v5) 22 v6) 23 v7) 24 v8) 25 (ρ 0)) 26 v11) 7 v11) M12)
 else (z0 (sF (sF (sF (sF (sF (sF (sF (sF ρ 17 (ρ 1)) 18 v2) 19 v2) 20 v4) 21 v5) 22 v6) 23 v7) 24 v8) M)) := by intros; kernel_rfl
 refine (h (k11_5 c nl lo)).trans ?_
 unfold b11_11; simp only [(t11_5 c nl lo)] <;> (show _ = _; kernel_rfl)
def k11_4 (c : CallT) (nl lo : Nat) : Rg → MM → Option (AV × MM) := (execC c modeF lo nl p11_32 (endK cf11.res) noE (endK cf11.res))
@[reducible] def b11_4 (c : CallT) (nl lo : Nat) (x0 x1 x4 x6 x7 : AV) (M : MM) : Option (AV × MM) :=
 b11_11 c nl lo x0 x1 x4 x6 x7 M
theorem t11_4 (c : CallT) (nl lo : Nat) (ρ : Rg) (M : MM) : k11_4 c nl lo ρ M = b11_4 c nl lo (ρ 0) (ρ 1) (ρ 4) (ρ 6) (ρ 7) M := by
 have h : k11_4 c nl lo ρ M = (k11_11 c nl lo ρ M) := execC_seq c modeF lo nl p11_8 p11_31 (endK cf11.res) noE (endK cf11.res) ρ M
 rw [h]
 unfold b11_4; simp only [(t11_11 c nl lo)] <;> (show _ = _; kernel_rfl)
def k11_12 (c : CallT) (nl lo : Nat) : Rg → MM → Option (AV × MM) := (execC c modeF lo nl p11_4 (k11_4 c nl lo) noE (endK cf11.res))
@[reducible] def b11_12 (c : CallT) (nl lo : Nat) (x0 x1 x4 x6 : AV) (M : MM) : Option (AV × MM) :=
 b11_4 c nl lo x0 x1 x4 x6 (.i 0) M
theorem t11_12 (c : CallT) (nl lo : Nat) (ρ : Rg) (M : MM) : k11_12 c nl lo ρ M = b11_12 c nl lo (ρ 0) (ρ 1) (ρ 4) (ρ 6) M := by
 have h : ∀ (z0 : Rg → MM → Option (AV × MM)), (execC c modeF lo nl p11_4 z0 noE (endK cf11.res)) ρ M = (z0 (sF ρ 7 (.i 0)) M) := by intros; kernel_rfl
 refine (h (k11_4 c nl lo)).trans ?_
 unfold b11_12; simp only [(t11_4 c nl lo)] <;> (show _ = _; kernel_rfl)
def k11_3 (c : CallT) (nl lo : Nat) : Rg → MM → Option (AV × MM) := (execC c modeF lo nl p11_33 (endK cf11.res) noE (endK cf11.res))
@[reducible] def b11_3 (c : CallT) (nl lo : Nat) (x0 x1 x4 x6 : AV) (M : MM) : Option (AV × MM) :=
 b11_12 c nl lo x0 x1 x4 x6 M
theorem t11_3 (c : CallT) (nl lo : Nat) (ρ : Rg) (M : MM) : k11_3 c nl lo ρ M = b11_3 c nl lo (ρ 0) (ρ 1) (ρ 4) (ρ 6) M := by
 have h : k11_3 c nl lo ρ M = (k11_12 c nl lo ρ M) := execC_seq c modeF lo nl p11_4 p11_32 (endK cf11.res) noE (endK cf11.res) ρ M
 rw [h]
 unfold b11_3; simp only [(t11_12 c nl lo)] <;> (show _ = _; kernel_rfl)
def k11_13 (c : CallT) (nl lo : Nat) : Rg → MM → Option (AV × MM) := (execC c modeF lo nl p11_3 (k11_3 c nl lo) noE (endK cf11.res))
@[reducible] def b11_13 (c : CallT) (nl lo : Nat) (x0 x1 x4 x5 : AV) (M : MM) : Option (AV × MM) :=
 opt (lenA x5) fun v4 =>
 bnd (c 17 [x0, v4] lo M) fun v5 M6 =>
 opt (ixsA 1 x5 v5) fun v7 =>
 opt (ld1A (lk M6) v7) fun v8 =>
 opt ((fill [.str ⟨⟨[]⟩⟩, .d (.sl [] 0)] [(0, 1, v8)]).map .agg) fun v9 =>
 upK M6 M6.nx fun M11 =>
 opt (setcA 0 2 (.agg [.str ⟨⟨[]⟩⟩, .d (.sl [] 0)]) v9) fun v12 =>
 b11_3 c nl lo x0 x1 x4 v12 M11
theorem t11_13 (c : CallT) (nl lo : Nat) (ρ : Rg) (M : MM) : k11_13 c nl lo ρ M = b11_13 c nl lo (ρ 0) (ρ 1) (ρ 4) (ρ 5) M := by
 have h : ∀ (z0 : Rg → MM → Option (AV × MM)), (execC c modeF lo nl p11_3 z0 noE (endK cf11.res)) ρ M = (opt (lenA (ρ 5)) fun v4 =>
 bnd (c 17 [(ρ 0), v4] lo M) fun v5 M6 =>
 opt (ixsA 1 (ρ 5) v5) fun v7 =>
 opt (ld1A (lk M6) v7) fun v8 =>
 opt ((fill [.str ⟨⟨[]⟩⟩, .d (.sl [] 0)] [(0, 1, v8)]).map .agg) fun v9 =>
 upK M6 M6.nx fun M11 =>
 opt (setcA 0 2 (.agg [.str ⟨⟨[]⟩⟩, .d (.sl [] 0)]) v9) fun v12 =>
 z0 (sF (sF (sF (sF (sF (sF (sF (sF (sF (sF ρ 9 (ρ 5)) 10 (ρ 0)) 11 (ρ 5)) 12 v4) 13 v5) 14 v7) 15 v8) 16 v9) 6 (.agg [.str ⟨⟨[]⟩⟩, .d (.sl [] 0)])) 6 v12) M11) := by intros; kernel_rfl
 refine (h (k11_3 c nl lo)).trans ?_
 unfold b11_13; simp only [(t11_3 c nl lo)] <;> (show _ = _; kernel_rfl)
def k11_2 (c : CallT) (nl lo : Nat) : Rg → MM → Option (AV × MM) := (execC c modeF lo nl p11_34 (endK cf11.res) noE (endK cf11.res))
@[reducible] def b11_2 (c : CallT) (nl lo : Nat) (x0 x1 x4 x5 : AV) (M : MM) : Option (AV × MM) :=
 b11_13 c nl lo x0 x1 x4 x5 M
theorem t11_2 (c : CallT) (nl lo : Nat) (ρ : Rg) (M : MM) : k11_2 c nl lo ρ M = b11_2 c nl lo (ρ 0) (ρ 1) (ρ 4) (ρ 5) M := by
 have h : k11_2 c nl lo ρ M = (k11_13 c nl lo ρ M) := execC_seq c modeF lo nl p11_3 p11_33 (endK cf11.res) noE (endK cf11.res) ρ M
 rw [h]
 unfold b11_2; simp only [(t11_13 c nl lo)] <;> (show _ = _; kernel_rfl)
def k11_14 (c : CallT) (nl lo : Nat) : Rg → MM → Option (AV × MM) := (execC c modeF lo nl p11_2 (k11_2 c nl lo) noE (endK cf11.res))
@[reducible] def b11_14 (c : CallT) (nl lo : Nat) (x0 x1 x4 : AV) (M : MM) : Option (AV × MM) :=
 opt (wslA 9 (fill [.str ⟨⟨[]⟩⟩, .str ⟨⟨[]⟩⟩, .str ⟨⟨[]⟩⟩, .str ⟨⟨[]⟩⟩, .str ⟨⟨[]⟩⟩, .str ⟨⟨[]⟩⟩, .str ⟨⟨[]⟩⟩, .str ⟨⟨[]⟩⟩, .str ⟨⟨[]⟩⟩] [(0, 1, (.str ⟨⟨[73, 110, 116]⟩⟩)), (1, 1, (.str ⟨⟨[66, 111, 111, 108]⟩⟩)), (2, 1, (.str ⟨⟨[84]⟩⟩)), (3, 1, (.str ⟨⟨[85]⟩⟩)), (4, 1, (.str ⟨⟨[83, 101, 108, 102]⟩⟩)), (5, 1, (.str ⟨⟨[65, 114, 114, 97, 121]⟩⟩)), (6, 1, (.str ⟨⟨[103, 101, 111, 46, 80]⟩⟩)), (7, 1, (.str ⟨⟨[103, 101, 111, 46, 81]⟩⟩)), (8, 1, (.str ⟨⟨[98, 97, 115, 101, 46, 82]⟩⟩))])) fun v1 =>
 upK M M.nx fun M2 =>
 b11_2 c nl lo x0 x1 x4 v1 M2
theorem t11_14 (c : CallT) (nl lo : Nat) (ρ : Rg) (M : MM) : k11_14 c nl lo ρ M = b11_14 c nl lo (ρ 0) (ρ 1) (ρ 4) M := by
 have h : ∀ (z0 : Rg → MM → Option (AV × MM)), (execC c modeF lo nl p11_2 z0 noE (endK cf11.res)) ρ M = (opt (wslA 9 (fill [.str ⟨⟨[]⟩⟩, .str ⟨⟨[]⟩⟩, .str ⟨⟨[]⟩⟩, .str ⟨⟨[]⟩⟩, .str ⟨⟨[]⟩⟩, .str ⟨⟨[]⟩⟩, .str ⟨⟨[]⟩⟩, .str ⟨⟨[]⟩⟩, .str ⟨⟨[]⟩⟩] [(0, 1, (.str ⟨⟨[73, 110, 116]⟩⟩)), (1, 1, (.str ⟨⟨[66, 111, 111, 108]⟩⟩)), (2, 1, (.str ⟨⟨[84]⟩⟩)), (3, 1, (.str ⟨⟨[85]⟩⟩)), (4, 1, (.str ⟨⟨[83, 101, 108, 102]⟩⟩)), (5, 1, (.str ⟨⟨[65, 114, 114, 97, 121]⟩⟩)), (6, 1, (.str ⟨⟨[103, 101, 111, 46, 80]⟩⟩)), (7, 1, (.str ⟨⟨[103, 101, 111, 46, 81]⟩⟩)), (8, 1, (.str ⟨⟨[98, 97, 115, 101, 46, 82]⟩⟩))])) fun v1 =>
 upK M M.nx fun M2 =>
 z0 (sF (sF ρ 8 v1) 5 v1) M2) := by intros; kernel_rfl
 refine (h (k11_2 c nl lo)).trans ?_
 unfold b11_14; simp only [(t11_2 c nl lo)] <;> (show _ = _; kernel_rfl)
def k11_1 (c : CallT) (nl lo : Nat) : Rg → MM → Option (AV × MM) := (execC c modeF lo nl p11_35 (endK cf11.res) noE (endK cf11.res))
@[reducible] def b11_1 (c : CallT) (nl lo : Nat) (x0 x1 x4 : AV) (M : MM) : Option (AV × MM) :=
 b11_14 c nl lo x0 x1 x4 M
theorem t11_1 (c : CallT) (nl lo : Nat) (ρ : Rg) (M : MM) : k11_1 c nl lo ρ M = b11_1 c nl lo (ρ 0) (ρ 1) (ρ 4) M := by
 have h : k11_1 c nl lo ρ M = (k11_14 c nl lo ρ M) := execC_seq c modeF lo nl p11_2 p11_34 (endK cf11.res) noE (endK cf11.res) ρ M
 rw [h]
 unfold b11_1; simp only [(t11_14 c nl lo)] <;> (show _ = _; kernel_rfl)
def k11_15 (c : CallT) (nl lo : Nat) : Rg → MM → Option (AV × MM) := (execC c modeF lo nl p11_1 (k11_1 c nl lo) noE (endK cf11.res))
@[reducible] def b11_15 (c : CallT) (nl lo : Nat) (x0 x1 : AV) (M : MM) : Option (AV × MM) :=
 upK M M.nx fun M2 =>
 b11_1 c nl lo x0 x1 (.agg [.str ⟨⟨[]⟩⟩, .d (.sl [] 0)]) M2
theorem t11_15 (c : CallT) (nl lo : Nat) (ρ : Rg) (M : MM) : k11_15 c nl lo ρ M = b11_15 c nl lo (ρ 0) (ρ 1) M := by
 have h : ∀ (z0 : Rg → MM → Option (AV × MM)), (execC c modeF lo nl p11_1 z0 noE (endK cf11.res)) ρ M = (upK M M.nx fun M2 =>
 z0 (sF ρ 4 (.agg [.str ⟨⟨[]⟩⟩, .d (.sl [] 0)])) M2) := by intros; kernel_rfl
 refine (h (k11_1 c nl lo)).trans ?_
 unfold b11_15; simp only [(t11_1 c nl lo)] <;> (show _ = _; kernel_rfl)
def k11_0 (c : CallT) (nl lo : Nat) : Rg → MM → Option (AV × MM) := (execC c modeF lo nl p11_36 (endK cf11.res) noE (endK cf11.res))
@[reducible] def b11_0 (c : CallT) (nl lo : Nat) (x0 x1 : AV) (M : MM) : Option (AV × MM) :=
 b11_15 c nl lo x0 x1 M
theorem t11_0 (c : CallT) (nl lo : Nat) (ρ : Rg) (M : MM) : k11_0 c nl lo ρ M = b11_0 c nl lo (ρ 0) (ρ 1) M := by
 have h : k11_0 c nl lo ρ M = (k11_15 c nl lo ρ M) := execC_seq c modeF lo nl p11_1 p11_35 (endK cf11.res) noE (endK cf11.res) ρ M
 rw [h]
 unfold b11_0; simp only [(t11_15 c nl lo)] <;> (show _ = _; kernel_rfl)
def k11_16 (c : CallT) (nl lo : Nat) : Rg → MM → Option (AV × MM) := (execC c modeF lo nl p11_0 (k11_0 c nl lo) noE (endK cf11.res))
@[reducible] def b11_16 (c : CallT) (nl lo : Nat) (x0 x1 : AV) (M : MM) : Option (AV × MM) :=
 b11_0 c nl lo x0 x1 M
theorem t11_16 (c : CallT) (nl lo : Nat) (ρ : Rg) (M : MM) : k11_16 c nl lo ρ M = b11_16 c nl lo (ρ 0) (ρ 1) M := by
 have h : ∀ (z0 : Rg → MM → Option (AV × MM)), (execC c modeF lo nl p11_0 z0 noE (endK cf11.res)) ρ M = (z0 (sF (sF ρ 4 (.tup [])) 6 (.tup [])) M) := by intros; kernel_rfl
 refine (h (k11_0 c nl lo)).trans ?_
 unfold b11_16; simp only [(t11_0 c nl lo)] <;> (show _ = _; kernel_rfl)
def s11 (c : CallT) (nl lo : Nat) (a0 a1 : AV) (M : MM) : Option (AV × MM) :=
 b11_16 c nl lo a0 a1 M
theorem e11 (c : CallT) (nl lo : Nat) (a0 a1 : AV) (M : MM) : execC c modeF lo nl cf11.body (endK cf11.res) noE (endK cf11.res) (aF [a0, a1]) M = s11 c nl lo a0 a1 M := by
 have h : execC c modeF lo nl cf11.body (endK cf11.res) noE (endK cf11.res) (aF [a0, a1]) M = (k11_16 c nl lo (aF [a0, a1]) M) := execC_seq c modeF lo nl p11_0 p11_36 (endK cf11.res) noE (endK cf11.res) (aF [a0, a1]) M
 refine h.trans ?_
 unfold s11; simp only [(t11_16 c nl lo)] <;> (show _ = _; kernel_rfl)
theorem q11 {c : CallT} (hc : Lim G c) (lo : Nat) (a0 a1 : AV) (M : MM) : c 11 [a0, a1] lo M = s11 c G.nl lo a0 a1 M :=
 (hc.flow (cf := cf11) rfl w11 [a0, a1] lo M).trans (e11 c G.nl lo a0 a1 M)

/-! ### function 12 -/
theorem w12 : wfK cf12.nt cf12.body = true := by kernel_rfl
def s12 (c : CallT) (nl lo : Nat) (a0 : AV) (M : MM) : Option (AV × MM) :=
 opt ((fill [.d (.sl [] 0), .i 0] [(0, 1, a0)]).map .agg) fun v3 =>
 bnd (istep c modeF false lo (.top M.nx) M.nx (.box 56 (.k v3)) [] M) fun v4 M5 =>
 some (v4, M5)
theorem e12 (c : CallT) (nl lo : Nat) (a0 : AV) (M : MM) : execC c modeF lo nl cf12.body (endK cf12.res) noE (endK cf12.res) (aF [a0]) M = s12 c nl lo a0 M := by
 kernel_rfl
theorem q12 {c : CallT} (hc : Lim G c) (lo : Nat) (a0 : AV) (M : MM) : c 12 [a0] lo M = s12 c G.nl lo a0 M :=
 (hc.flow (cf := cf12) rfl w12 [a0] lo M).trans (e12 c G.nl lo a0 M)

/-! ### function 14 -/
theorem w14 : wfK cf14.nt cf14.body = true := by kernel_rfl
def s14 (c : CallT) (nl lo : Nat) (a0 a1 : AV) (M : MM) : Option (AV × MM) :=
 opt (aggA a0) fun v3 =>
 upK M M.nx fun M4 =>
 opt (aggA a1) fun v5 =>
 upK M4 M4.nx fun M6 =>
 opt (fldA 0 0 true v3) fun v8 =>
 opt (fldA 0 1 false v3) fun v9 =>
 opt (fldA 0 0 true v5) fun v10 =>
 opt (fldA 0 1 false v5) fun v11 =>
 opt (binA .eql .none v9 v11) fun v12 =>
 opt (gdp v12 true (fldA 0 0 true v3)) fun v14 =>
 opt (gdp v12 true (fldA 1 1 false v3)) fun v15 =>
 opt (gdp v12 true (fldA 0 0 true v5)) fun v16 =>
 opt (gdp v12 true (fldA 1 1 false v5)) fun v17 =>
 bnd (gd v12 true M6 (c 41 [v15, v17, (.fn 14 [] [])] lo M6)) fun v18 M19 =>
 opt (pickA v12 v18 (.bool false)) fun v20 =>
 some (v20, M19)
theorem e14 (c : CallT) (nl lo : Nat) (a0 a1 : AV) (M : MM) : execC c modeF lo nl cf14.body (endK cf14.res) noE (endK cf14.res) (aF [a0, a1]) M = s14 c nl lo a0 a1 M := by
 kernel_rfl
theorem q14 {c : CallT} (hc : Lim G c) (lo : Nat) (a0 a1 : AV) (M : MM) : c 14 [a0, a1] lo M = s14 c G.nl lo a0 a1 M :=
 (hc.flow (cf := cf14) rfl w14 [a0, a1] lo M).trans (e14 c G.nl lo a0 a1 M)

/-! ### function 16 -/
theorem w16 : wfK cf16.nt cf16.body = true := by kernel_rfl
def k16_3 (c : CallT) (nl lo : Nat) : Rg → MM → Option (AV × MM) := (execC c modeF lo nl p16_26 (endK cf16.res) noE (endK cf16.res))
@[reducible] def b16_3 (c : CallT) (nl lo : Nat) (M : MM) : Option (AV × MM) :=
 some ((.bool true), M)
theorem t16_3 (c : CallT) (nl lo : Nat) (ρ : Rg) (M : MM) : k16_3 c nl lo ρ M = b16_3 c nl lo M := by
 kernel_rfl
def k16_5 (c : CallT) (nl lo : Nat) (n : Nat) : Rg → MM → Option (AV × MM) := iterC (fun k ρ M => execC c modeF lo nl p16_21 k (fun i ρ M => if i = 0 then (k16_3 c nl lo) ρ M else noE i ρ M) (endK cf16.res) ρ M) n
def b16_5 (c : CallT) (nl lo : Nat) : Nat → AV → AV → AV → AV → MM → Option (AV × MM)
 | 0, _, _, _, _, _ => none
 | n + 1, x1, x16, x17, x18, M =>
 opt (binA .lss .none x18 x17) fun v6 =>
 isB v6 fun c7 => if c7 then (opt (ixsA 2 x16 x18) fun v8 =>
 opt (ldnA (lk M) 2 v8) fun v9 =>
 upK M M.nx fun M11 =>
 opt (setcA 0 2 (.agg [.str ⟨⟨[]⟩⟩, .d (.sl [] 0)]) v9) fun v12 =>
 opt (fldA 0 2 true v12) fun v13 =>
 opt (binA .sub .none x1 (.i 1)) fun v15 =>
 opt (puA c (lk M11) 16 [v13, v15]) fun v16 =>
 opt (unA .not v16) fun v17 =>
 isB v17 fun c18 => if c18 then (some ((.bool false), M11))
 else (opt (binA .add .none x18 (.i 1)) fun v20 =>
 (b16_5 c nl lo n) x1 x16 x17 v20 M11))
 else (b16_3 c nl lo M)
theorem t16_5 (c : CallT) (nl lo : Nat) : ∀ (n : Nat) (ρ : Rg) (M : MM), k16_5 c nl lo n ρ M = b16_5 c nl lo n (ρ 1) (ρ 16) (ρ 17) (ρ 18) M
 | 0, ρ, M => rfl
 | n + 1, ρ, M => by
  have h : ∀ (zb z0 : Rg → MM → Option (AV × MM)), execC c modeF lo nl p16_21 zb (fun i ρ M => if i = 0 then z0 ρ M else noE i ρ M) (endK cf16.res) ρ M = (opt (binA .lss .none (ρ 18) (ρ 17)) fun v6 =>
  isB v6 fun c7 => if c7 then (opt (ixsA 2 (ρ 16) (ρ 18)) fun v8 =>
  opt (ldnA (lk M) 2 v8) fun v9 =>
  upK M M.nx fun M11 =>
  opt (setcA 0 2 (.agg [.str ⟨⟨[]⟩⟩, .d (.sl [] 0)]) v9) fun v12 =>
  opt (fldA 0 2 true v12) fun v13 =>
  opt (binA .sub .none (ρ 1) (.i 1)) fun v15 =>
  opt (puA c (lk M11) 16 [v13, v15]) fun v16 =>
  opt (unA .not v16) fun v17 =>
  isB v17 fun c18 => if c18 then (some ((.bool false), M11))
  else (opt (binA .add .none (ρ 18) (.i 1)) fun v20 =>
  zb (sF (sF (sF (sF (sF (sF (sF (sF (sF (sF (sF (sF ρ 19 v6) 20 v8) 21 v9) 6 (.agg [.str ⟨⟨[]⟩⟩, .d (.sl [] 0)])) 6 v12) 22 v13) 23 (ρ 1)) 24 v15) 25 v16) 26 v17) 27 v20) 18 v20) M11))
  else (z0 (sF ρ 19 v6) M)) := by intros; kernel_rfl
  refine (h (k16_5 c nl lo n) (k16_3 c nl lo)).trans ?_
  unfold b16_5; simp only [(t16_3 c nl lo), (t16_5 c nl lo n)] <;> (show _ = _; kernel_rfl)
def k16_4 (c : CallT) (nl lo : Nat) : Rg → MM → Option (AV × MM) := (execC c modeF lo nl p16_24 (k16_3 c nl lo) noE (endK cf16.res))
@[reducible] def b16_4 (c : CallT) (nl lo : Nat) (x1 x2 : AV) (M : MM) : Option (AV × MM) :=
 opt (fldA 0 0 true x2) fun v2 =>
 opt (fldA 1 1 false x2) fun v3 =>
 opt (lenA v3) fun v4 =>
 b16_5 c nl lo nl x1 v3 v4 (.i 0) M
theorem t16_4 (c : CallT) (nl lo : Nat) (ρ : Rg) (M : MM) : k16_4 c nl lo ρ M = b16_4 c nl lo (ρ 1) (ρ 2) M := by
 have h : k16_4 c nl lo ρ M = (opt (fldA 0 0 true (ρ 2)) fun v2 =>
 opt (fldA 1 1 false (ρ 2)) fun v3 =>
 opt (lenA v3) fun v4 =>
 k16_5 c nl lo nl (sF (sF (sF (sF ρ 15 v2) 16 v3) 17 v4) 18 (.i 0)) M) := by kernel_rfl
 rw [h]
 unfold b16_4; simp only [(t16_5 c nl lo nl)] <;> (show _ = _; kernel_rfl)
def k16_2 (c : CallT) (nl lo : Nat) : Rg → MM → Option (AV × MM) := (execC c modeF lo nl p16_27 (endK cf16.res) noE (endK cf16.res))
@[reducible] def b16_2 (c : CallT) (nl lo : Nat) (x1 x2 : AV) (M : MM) : Option (AV × MM) :=
 b16_4 c nl lo x1 x2 M
theorem t16_2 (c : CallT) (nl lo : Nat) (ρ : Rg) (M : MM) : k16_2 c nl lo ρ M = b16_2 c nl lo (ρ 1) (ρ 2) M := by
 have h : k16_2 c nl lo ρ M = (k16_4 c nl lo ρ M) := execC_seq c modeF lo nl p16_24 p16_26 (endK cf16.res) noE (endK cf16.res) ρ M
 rw [h]
 unfold b16_2; simp only [(t16_4 c nl lo)] <;> (show _ = _; kernel_rfl)
def k16_6 (c : CallT) (nl lo : Nat) : Rg → MM → Option (AV × MM) := (execC c modeF lo nl p16_6 (k16_2 c nl lo) noE (endK cf16.res))
@[reducible] def b16_6 (c : CallT) (nl lo : Nat) (x1 x2 : AV) (M : MM) : Option (AV × MM) :=
 opt (binA .leq .none x1 (.i 0)) fun v2 =>
 opt (gdp v2 false (fldA 0 0 true x2)) fun v4 =>
 opt (gdp v2 false (fldA 1 1 false x2)) fun v5 =>
 opt (gdp v2 false (lenA v5)) fun v6 =>
 opt (gdp v2 false (binA .gtr .none v6 (.i 6))) fun v7 =>
 opt (pickA v2 (.bool true) v7) fun v8 =>
 isB v8 fun c9 => if c9 then (some ((.bool false), M))
 else (b16_2 c nl lo x1 x2 M)
theorem t16_6 (c : CallT) (nl lo : Nat) (ρ : Rg) (M : MM) : k16_6 c nl lo ρ M = b16_6 c nl lo (ρ 1) (ρ 2) M := by
 have h : ∀ (z0 : Rg → MM → Option (AV × MM)), (execC c modeF lo nl p16_6 z0 noE (endK cf16.res)) ρ M = (opt (binA .leq .none (ρ 1) (.i 0)) fun v2 =>
 opt (gdp v2 false (fldA 0 0 true (ρ 2))) fun v4 =>
 opt (gdp v2 false (fldA 1 1 false (ρ 2))) fun v5 =>
 opt (gdp v2 false (lenA v5)) fun v6 =>
 opt (gdp v2 false (binA .gtr .none v6 (.i 6))) fun v7 =>
 opt (pickA v2 (.bool true) v7) fun v8 =>
 isB v8 fun c9 => if c9 then (some ((.bool false), M))
 else (z0 (sF (sF (sF (sF (sF (sF (sF (sF ρ 7 (ρ 1)) 8 v2) 9 v2) 10 v4) 11 v5) 12 v6) 13 v7) 14 v8) M)) := by intros; kernel_rfl
 refine (h (k16_2 c nl lo)).trans ?_
 unfold b16_6; simp only [(t16_2 c nl lo)] <;> (show _ = _; kernel_rfl)
def k16_1 (c : CallT) (nl lo : Nat) : Rg → MM → Option (AV × MM) := (execC c modeF lo nl p16_28 (endK cf16.res) noE (endK cf16.res))
@[reducible] def b16_1 (c : CallT) (nl lo : Nat) (x1 x2 : AV) (M : MM) : Option (AV × MM) :=
 b16_6 c nl lo x1 x2 M
theorem t16_1 (c : CallT) (nl lo : Nat) (ρ : Rg) (M : MM) : k16_1 c nl lo ρ M = b16_1 c nl lo (ρ 1) (ρ 2) M := by
 have h : k16_1 c nl lo ρ M = (k16_6 c nl lo ρ M) := execC_seq c modeF lo nl p16_6 p16_27 (endK cf16.res) noE (endK cf16.res) ρ M
 rw [h]
 unfold b16_1; simp only [(t16_6 c nl lo)] <;> (show _ = _; kernel_rfl)
def k16_7 (c : CallT) (nl lo : Nat) : Rg → MM → Option (AV × MM) := (execC c modeF lo nl p16_1 (k16_1 c nl lo) noE (endK cf16.res))
@[reducible] def b16_7 (c : CallT) (nl lo : Nat) (x0 x1 : AV) (M : MM) : Option (AV × MM) :=
 opt (aggA x0) fun v1 =>
 upK M M.nx fun M2 =>
 b16_1 c nl lo x1 v1 M2
theorem t16_7 (c : CallT) (nl lo : Nat) (ρ : Rg) (M : MM) : k16_7 c nl lo ρ M = b16_7 c nl lo (ρ 0) (ρ 1) M := by
 have h : ∀ (z0 : Rg → MM → Option (AV × MM)), (execC c modeF lo nl p16_1 z0 noE (endK cf16.res)) ρ M = (opt (aggA (ρ 0)) fun v1 =>
 upK M M.nx fun M2 =>
 z0 (sF (sF ρ 2 v1) 4 (.bool false)) M2) := by intros; kernel_rfl
 refine (h (k16_1 c nl lo)).trans ?_
 unfold b16_7; simp only [(t16_1 c nl lo)] <;> (show _ = _; kernel_rfl)
def k16_0 (c : CallT) (nl lo : Nat) : Rg → MM → Option (AV × MM) := (execC c modeF lo nl p16_29 (endK cf16.res) noE (endK cf16.res))
@[reducible] def b16_0 (c : CallT) (nl lo : Nat) (x0 x1 : AV) (M : MM) : Option (AV × MM) :=
 b16_7 c nl lo x0 x1 M
theorem t16_0 (c : CallT) (nl lo : Nat) (ρ : Rg) (M : MM) : k16_0 c nl lo ρ M = b16_0 c nl lo (ρ 0) (ρ 1) M := by
 have h : k16_0 c nl lo ρ M = (k16_7 c nl lo ρ M) := execC_seq c modeF lo nl p16_1 p16_28 (endK cf16.res) noE (endK cf16.res) ρ M
 rw [h]
 unfold b16_0; simp only [(t16_7 c nl lo)] <;> (show _ = _; kernel_rfl)
def k16_8 (c : CallT) (nl lo : Nat) : Rg → MM → Option (AV × MM) := (execC c modeF lo nl p16_0 (k16_0 c nl lo) noE (endK cf16.res))
@[reducible] def b16_8 (c : CallT) (nl lo : Nat) (x0 x1 : AV) (M : MM) : Option (AV × MM) :=
 b16_0 c nl lo x0 x1 M
theorem t16_8 (c : CallT) (nl lo : Nat) (ρ : Rg) (M : MM) : k16_8 c nl lo ρ M = b16_8 c nl lo (ρ 0) (ρ 1) M := by
 have h : ∀ (z0 : Rg → MM → Option (AV × MM)), (execC c modeF lo nl p16_0 z0 noE (endK cf16.res)) ρ M = (z0 (sF (sF ρ 2 (.tup [])) 6 (.tup [])) M) := by intros; kernel_rfl
 refine (h (k16_0 c nl lo)).trans ?_
 unfold b16_8; simp only [(t16_0 c nl lo)] <;> (show _ = _; kernel_rfl)
def s16 (c : CallT) (nl lo : Nat) (a0 a1 : AV) (M : MM) : Option (AV × MM) :=
 b16_8 c nl lo a0 a1 M
theorem e16 (c : CallT) (nl lo : Nat) (a0 a1 : AV) (M : MM) : execC c modeF lo nl cf16.body (endK cf16.res) noE (endK cf16.res) (aF [a0, a1]) M = s16 c nl lo a0 a1 M := by
 have h : execC c modeF lo nl cf16.body (endK cf16.res) noE (endK cf16.res) (aF [a0, a1]) M = (k16_8 c nl lo (aF [a0, a1]) M) := execC_seq c modeF lo nl p16_0 p16_29 (endK cf16.res) noE (endK cf16.res) (aF [a0, a1]) M
 refine h.trans ?_
 unfold s16; simp only [(t16_8 c nl lo)] <;> (show _ = _; kernel_rfl)
theorem q16 {c : CallT} (hc : Lim G c) (lo : Nat) (a0 a1 : AV) (M : MM) : c 16 [a0, a1] lo M = s16 c G.nl lo a0 a1 M :=
 (hc.flow (cf := cf16) rfl w16 [a0, a1] lo M).trans (e16 c G.nl lo a0 a1 M)

/-! ### function 17 -/
theorem w17 : wfK cf17.nt cf17.body = true := by kernel_rfl
def s17 (c : CallT) (nl lo : Nat) (a0 a1 : AV) (M : MM) : Option (AV × MM) :=
 bnd (c 43 [a0] lo M) fun v3 M4 =>
 opt (unA .not v3) fun v5 =>
 isB v5 fun c6 => if c6 then (some ((.i 0), M4))
 else (opt (nilcA a0) fun v9 =>
 opt (fadA 1 v9) fun v10 =>
 opt (ld1A (lk M4) v10) fun v11 =>
 opt (binA .add .none v11 (.i 1)) fun v12 =>
 opt (nilcA a0) fun v13 =>
 opt (fadA 1 v13) fun v14 =>
 bnd (istep c modeF false lo (.top M4.nx) M4.nx (.st 1 (.k v14) (.k v12)) [] M4) fun v15 M16 =>
 bumpK M16 14 fun M17 =>
 opt (nilcA a0) fun v19 =>
 opt (fadA 0 v19) fun v20 =>
 opt (ld1A (look M17.mem (.mk M16.nx 14 7 true)) v20) fun v21 =>
 opt (nilcA a0) fun v23 =>
 opt (fadA 1 v23) fun v24 =>
 opt (ld1A (look M17.mem (.mk M16.nx 14 112 true)) v24) fun v25 =>
 opt (binA .sub .none v25 (.i 1)) fun v26 =>
 opt (ixsA 1 v21 v26) fun v27 =>
 opt (ld1A (look M17.mem (.mk M16.nx 14 1023 true)) v27) fun v28 =>
 opt (puA c (look M17.mem (.mk M16.nx 14 4095 true)) 44 [v28, a1]) fun v30 =>
 some (v30, M17))
theorem e17 (c : CallT) (nl lo : Nat) (a0 a1 : AV) (M : MM) : execC c modeF lo nl cf17.body (endK cf17.res) noE (endK cf17.res) (aF [a0, a1]) M = s17 c nl lo a0 a1 M := by
 kernel_rfl
theorem q17 {c : CallT} (hc : Lim G c) (lo : Nat) (a0 a1 : AV) (M : MM) : c 17 [a0, a1] lo M = s17 c G.nl lo a0 a1 M :=
 (hc.flow (cf := cf17) rfl w17 [a0, a1] lo M).trans (e17 c G.nl lo a0 a1 M)

/-! ### function 18 -/
theorem w18 : wfK cf18.nt cf18.body = true := by kernel_rfl
def k18_4 (c : CallT) (nl lo : Nat) : Rg → MM → Option (AV × MM) := (execC c modeF lo nl p18_35 (endK cf18.res) noE (endK cf18.res))
@[reducible] def b18_4 (c : CallT) (nl lo : Nat) (x1 x2 x3 x6 x8 : AV) (M : MM) : Option (AV × MM) :=
 opt (fldA 0 2 true x3) fun v1 =>
 opt (puA c (lk M) 46 [v1, x1, x8]) fun v4 =>
 opt (binA .gtr .none v4 (.i 4096)) fun v5 =>
 isB v5 fun c6 => if c6 then (opt ((fill [.str ⟨⟨[]⟩⟩, .d (.sl [] 0)] []).map .agg) fun v7 =>
 opt (setcA 0 2 x6 v7) fun v8 =>
 opt (resL [locA 2 true v8, some (.i 4)]) fun r => some (r, M))
 else (opt (fldA 0 2 true x3) fun v10 =>
 opt (puA c (lk M) 47 [v10, x1, x2]) fun v13 =>
 opt (setcA 0 2 x6 v13) fun v14 =>
 opt (resL [locA 2 true v14, some (.i 0)]) fun r => some (r, M))
theorem t18_4 (c : CallT) (nl lo : Nat) (ρ : Rg) (M : MM) : k18_4 c nl lo ρ M = b18_4 c nl lo (ρ 1) (ρ 2) (ρ 3) (ρ 6) (ρ 8) M := by
 kernel_rfl
def k18_6 (c : CallT) (nl lo : Nat) (n : Nat) : Rg → MM → Option (AV × MM) := iterC (fun k ρ M => execC c modeF lo nl p18_24 k (fun i ρ M => if i = 1 then (k18_4 c nl lo) ρ M else noE i ρ M) (endK cf18.res) ρ M) n
def b18_6 (c : CallT) (nl lo : Nat) : Nat → AV → AV → AV → AV → AV → AV → AV → AV → MM → Option (AV × MM)
 | 0, _, _, _, _, _, _, _, _, _ => none
 | n + 1, x1, x2, x3, x6, x8, x25, x26, x27, M =>
 opt (binA .lss .none x27 x26) fun v19 =>
 isB v19 fun c20 => if c20 then (opt (ixsA 2 x25 x27) fun v22 =>
 opt (ldnA (lk M) 2 v22) fun v23 =>
 upK M M.nx fun M25 =>
 opt (setcA 0 2 (.agg [.str ⟨⟨[]⟩⟩, .d (.sl [] 0)]) v23) fun v27 =>
 opt (fldA 0 2 true v27) fun v30 =>
 opt (puA c (lk M25) 25 [v30]) fun v31 =>
 opt (ixsA 1 x8 x27) fun v32 =>
 bnd (istep c modeF false lo (.top M25.nx) M25.nx (.st 1 (.k v32) (.k v31)) [] M25) fun v33 M34 =>
 opt (binA .add .none x27 (.i 1)) fun v35 =>
 (b18_6 c nl lo n) x1 x2 x3 x6 x8 x25 x26 v35 M34)
 else (b18_4 c nl lo x1 x2 x3 x6 x8 M)
theorem t18_6 (c : CallT) (nl lo : Nat) : ∀ (n : Nat) (ρ : Rg) (M : MM), k18_6 c nl lo n ρ M = b18_6 c nl lo n (ρ 1) (ρ 2) (ρ 3) (ρ 6) (ρ 8) (ρ 25) (ρ 26) (ρ 27) M
 | 0, ρ, M => rfl
 | n + 1, ρ, M => by
  have h : ∀ (zb z0 : Rg → MM → Option (AV × MM)), execC c modeF lo nl p18_24 zb (fun i ρ M => if i = 1 then z0 ρ M else noE i ρ M) (endK cf18.res) ρ M = (opt (binA .lss .none (ρ 27) (ρ 26)) fun v19 =>
  isB v19 fun c20 => if c20 then (opt (ixsA 2 (ρ 25) (ρ 27)) fun v22 =>
  opt (ldnA (lk M) 2 v22) fun v23 =>
  upK M M.nx fun M25 =>
  opt (setcA 0 2 (.agg [.str ⟨⟨[]⟩⟩, .d (.sl [] 0)]) v23) fun v27 =>
  opt (fldA 0 2 true v27) fun v30 =>
  opt (puA c (lk M25) 25 [v30]) fun v31 =>
  opt (ixsA 1 (ρ 8) (ρ 27)) fun v32 =>
  bnd (istep c modeF false lo (.top M25.nx) M25.nx (.st 1 (.k v32) (.k v31)) [] M25) fun v33 M34 =>
  opt (binA .add .none (ρ 27) (.i 1)) fun v35 =>
  zb (sF (sF (sF (sF (sF (sF (sF (sF (sF (sF (sF (sF (sF (sF ρ 28 v19) 29 (ρ 27)) 30 v22) 31 v23) 10 (.agg [.str ⟨⟨[]⟩⟩, .d (.sl [] 0)])) 9 (ρ 27)) 10 v27) 32 (ρ 8)) 33 (ρ 27)) 34 v30) 35 v31) 36 v32) 37 v35) 27 v35) M34)
  else (z0 (sF ρ 28 v19) M)) := by intros; kernel_rfl
  refine (h (k18_6 c nl lo n) (k18_4 c nl lo)).trans ?_
  unfold b18_6; simp only [(t18_4 c nl lo), (t18_6 c nl lo n)] <;> (show _ = _; kernel_rfl)
def k18_5 (c : CallT) (nl lo : Nat) : Rg → MM → Option (AV × MM) := (execC c modeF lo nl p18_27 (k18_4 c nl lo) noE (endK cf18.res))
@[reducible] def b18_5 (c : CallT) (nl lo : Nat) (x1 x2 x3 x6 x8 : AV) (M : MM) : Option (AV × MM) :=
 opt (lenA x2) fun v17 =>
 b18_6 c nl lo nl x1 x2 x3 x6 x8 x2 v17 (.i 0) M
theorem t18_5 (c : CallT) (nl lo : Nat) (ρ : Rg) (M : MM) : k18_5 c nl lo ρ M = b18_5 c nl lo (ρ 1) (ρ 2) (ρ 3) (ρ 6) (ρ 8) M := by
 have h : k18_5 c nl lo ρ M = (opt (lenA (ρ 2)) fun v17 =>
 k18_6 c nl lo nl (sF (sF (sF ρ 25 (ρ 2)) 26 v17) 27 (.i 0)) M) := by kernel_rfl
 rw [h]
 unfold b18_5; simp only [(t18_6 c nl lo nl)] <;> (show _ = _; kernel_rfl)
def k18_3 (c : CallT) (nl lo : Nat) : Rg → MM → Option (AV × MM) := (execC c modeF lo nl p18_36 (endK cf18.res) noE (endK cf18.res))
@[reducible] def b18_3 (c : CallT) (nl lo : Nat) (x1 x2 x3 x6 x8 : AV) (M : MM) : Option (AV × MM) :=
 b18_5 c nl lo x1 x2 x3 x6 x8 M
theorem t18_3 (c : CallT) (nl lo : Nat) (ρ : Rg) (M : MM) : k18_3 c nl lo ρ M = b18_3 c nl lo (ρ 1) (ρ 2) (ρ 3) (ρ 6) (ρ 8) M := by
 have h : k18_3 c nl lo ρ M = (k18_5 c nl lo ρ M) := execC_seq c modeF lo nl p18_27 p18_35 (endK cf18.res) noE (endK cf18.res) ρ M
 rw [h]
 unfold b18_3; simp only [(t18_5 c nl lo)] <;> (show _ = _; kernel_rfl)
def k18_7 (c : CallT) (nl lo : Nat) : Rg → MM → Option (AV × MM) := (execC c modeF lo nl p18_13 (k18_3 c nl lo) noE (endK cf18.res))
@[reducible] def b18_7 (c : CallT) (nl lo : Nat) (x1 x2 x3 x6 : AV) (M : MM) : Option (AV × MM) :=
 opt (lenA x2) fun v2 =>
 bnd (istep c modeF false lo (.top M.nx) M.nx (.mkslice 3 1 8 [.i 0] (.k v2) (.k v2)) [] M) fun v3 M4 =>
 b18_3 c nl lo x1 x2 x3 x6 v3 M4
theorem t18_7 (c : CallT) (nl lo : Nat) (ρ : Rg) (M : MM) : k18_7 c nl lo ρ M = b18_7 c nl lo (ρ 1) (ρ 2) (ρ 3) (ρ 6) M := by
 have h : ∀ (z0 : Rg → MM → Option (AV × MM)), (execC c modeF lo nl p18_13 z0 noE (endK cf18.res)) ρ M = (opt (lenA (ρ 2)) fun v2 =>
 bnd (istep c modeF false lo (.top M.nx) M.nx (.mkslice 3 1 8 [.i 0] (.k v2) (.k v2)) [] M) fun v3 M4 =>
 z0 (sF (sF (sF (sF ρ 22 (ρ 2)) 23 v2) 24 v3) 8 v3) M4) := by intros; kernel_rfl
 refine (h (k18_3 c nl lo)).trans ?_
 unfold b18_7; simp only [(t18_3 c nl lo)] <;> (show _ = _; kernel_rfl)
def k18_2 (c : CallT) (nl lo : Nat) : Rg → MM → Option (AV × MM) := (execC c modeF lo nl p18_37 (endK cf18.res) noE (endK cf18.res))
@[reducible] def b18_2 (c : CallT) (nl lo : Nat) (x1 x2 x3 x6 : AV) (M : MM) : Option (AV × MM) :=
 b18_7 c nl lo x1 x2 x3 x6 M
theorem t18_2 (c : CallT) (nl lo : Nat) (ρ : Rg) (M : MM) : k18_2 c nl lo ρ M = b18_2 c nl lo (ρ 1) (ρ 2) (ρ 3) (ρ 6) M := by
 have h : k18_2 c nl lo ρ M = (k18_7 c nl lo ρ M) := execC_seq c modeF lo nl p18_13 p18_36 (endK cf18.res) noE (endK cf18.res) ρ M
 rw [h]
 unfold b18_2; simp only [(t18_7 c nl lo)] <;> (show _ = _; kernel_rfl)
def k18_8 (c : CallT) (nl lo : Nat) : Rg → MM → Option (AV × MM) := (execC c modeF lo nl p18_12 (k18_2 c nl lo) noE (endK cf18.res))
@[reducible] def b18_8 (c : CallT) (nl lo : Nat) (x1 x2 x3 x6 : AV) (M : MM) : Option (AV × MM) :=
 opt (lenA x1) fun v2 =>
 opt (lenA x2) fun v4 =>
 opt (binA .neq .none v2 v4) fun v5 =>
 isB v5 fun c7 => if c7 then (opt ((fill [.str ⟨⟨[]⟩⟩, .d (.sl [] 0)] []).map .agg) fun v8 =>
 opt (setcA 0 2 x6 v8) fun v9 =>
 opt (resL [locA 2 true v9, some (.i 9)]) fun r => some (r, M))
 else (opt (puA c (lk M) 45 [x1]) fun v12 =>
 isB v12 fun c14 => if c14 then (opt ((fill [.str ⟨⟨[]⟩⟩, .d (.sl [] 0)] []).map .agg) fun v15 =>
 opt (setcA 0 2 x6 v15) fun v16 =>
 opt (resL [locA 2 true v16, some (.i 5)]) fun r => some (r, M))
 else (b18_2 c nl lo x1 x2 x3 x6 M))
theorem t18_8 (c : CallT) (nl lo : Nat) (ρ : Rg) (M : MM) : k18_8 c nl lo ρ M = b18_8 c nl lo (ρ 1) (ρ 2) (ρ 3) (ρ 6) M := by
 have h : ∀ (z0 : Rg → MM → Option (AV × MM)), (execC c modeF lo nl p18_12 z0 noE (endK cf18.res)) ρ M = (opt (lenA (ρ 1)) fun v2 =>
 opt (lenA (ρ 2)) fun v4 =>
 opt (binA .neq .none v2 v4) fun v5 =>
 isB v5 fun c7 => if c7 then (opt ((fill [.str ⟨⟨[]⟩⟩, .d (.sl [] 0)] []).map .agg) fun v8 =>
 opt (setcA 0 2 (ρ 6) v8) fun v9 =>
 opt (resL [locA 2 true v9, some (.i 9)]) fun r => some (r, M))
 else (opt (puA c (lk M) 45 [(ρ 1)]) fun v12 =>
 isB v12 fun c14 => if c14 then (opt ((fill [.str ⟨⟨[]⟩⟩, .d (.sl [] 0)] []).map .agg) fun v15 =>
 opt (setcA 0 2 (ρ 6) v15) fun v16 =>
 opt (resL [locA 2 true v16, some (.i 5)]) fun r => some (r, M))
 else (z0 (sF (sF (sF (sF (sF (sF (sF (sF (sF ρ 12 (ρ 1)) 13 v2) 14 (ρ 2)) 15 v4) 16 v5) 11 v5) 19 (ρ 1)) 20 v12) 18 v12) M))) := by intros; kernel_rfl
 refine (h (k18_2 c nl lo)).trans ?_
 unfold b18_8; simp only [(t18_2 c nl lo)] <;> (show _ = _; kernel_rfl)
def k18_1 (c : CallT) (nl lo : Nat) : Rg → MM → Option (AV × MM) := (execC c modeF lo nl p18_38 (endK cf18.res) noE (endK cf18.res))
@[reducible] def b18_1 (c : CallT) (nl lo : Nat) (x1 x2 x3 x6 : AV) (M : MM) : Option (AV × MM) :=
 b18_8 c nl lo x1 x2 x3 x6 M
theorem t18_1 (c : CallT) (nl lo : Nat) (ρ : Rg) (M : MM) : k18_1 c nl lo ρ M = b18_1 c nl lo (ρ 1) (ρ 2) (ρ 3) (ρ 6) M := by
 have h : k18_1 c nl lo ρ M = (k18_8 c nl lo ρ M) := execC_seq c modeF lo nl p18_12 p18_37 (endK cf18.res) noE (endK cf18.res) ρ M
 rw [h]
 unfold b18_1; simp only [(t18_8 c nl lo)] <;> (show _ = _; kernel_rfl)
def k18_9 (c : CallT) (nl lo : Nat) : Rg → MM → Option (AV × MM) := (execC c modeF lo nl p18_1 (k18_1 c nl lo) noE (endK cf18.res))
@[reducible] def b18_9 (c : CallT) (nl lo : Nat) (x0 x1 x2 : AV) (M : MM) : Option (AV × MM) :=
 opt (aggA x0) fun v1 =>
 upK M M.nx fun M2 =>
 upK M2 M2.nx fun M4 =>
 b18_1 c nl lo x1 x2 v1 (.agg [.str ⟨⟨[]⟩⟩, .d (.sl [] 0)]) M4
theorem t18_9 (c : CallT) (nl lo : Nat) (ρ : Rg) (M : MM) : k18_9 c nl lo ρ M = b18_9 c nl lo (ρ 0) (ρ 1) (ρ 2) M := by
 have h : ∀ (z0 : Rg → MM → Option (AV × MM)), (execC c modeF lo nl p18_1 z0 noE (endK cf18.res)) ρ M = (opt (aggA (ρ 0)) fun v1 =>
 upK M M.nx fun M2 =>
 upK M2 M2.nx fun M4 =>
 z0 (sF (sF (sF ρ 3 v1) 6 (.agg [.str ⟨⟨[]⟩⟩, .d (.sl [] 0)])) 7 (.i 0)) M4) := by intros; kernel_rfl
 refine (h (k18_1 c nl lo)).trans ?_
 unfold b18_9; simp only [(t18_1 c nl lo)] <;> (show _ = _; kernel_rfl)
def k18_0 (c : CallT) (nl lo : Nat) : Rg → MM → Option (AV × MM) := (execC c modeF lo nl p18_39 (endK cf18.res) noE (endK cf18.res))
@[reducible] def b18_0 (c : CallT) (nl lo : Nat) (x0 x1 x2 : AV) (M : MM) : Option (AV × MM) :=
 b18_9 c nl lo x0 x1 x2 M
theorem t18_0 (c : CallT) (nl lo : Nat) (ρ : Rg) (M : MM) : k18_0 c nl lo ρ M = b18_0 c nl lo (ρ 0) (ρ 1) (ρ 2) M := by
 have h : k18_0 c nl lo ρ M = (k18_9 c nl lo ρ M) := execC_seq c modeF lo nl p18_1 p18_38 (endK cf18.res) noE (endK cf18.res) ρ M
 rw [h]
 unfold b18_0; simp only [(t18_9 c nl lo)] <;> (show _ = _; kernel_rfl)
def k18_10 (c : CallT) (nl lo : Nat) : Rg → MM → Option (AV × MM) := (execC c modeF lo nl p18_0 (k18_0 c nl lo) noE (endK cf18.res))
@[reducible] def b18_10 (c : CallT) (nl lo : Nat) (x0 x1 x2 : AV) (M : MM) : Option (AV × MM) :=
 b18_0 c nl lo x0 x1 x2 M
theorem t18_10 (c : CallT) (nl lo : Nat) (ρ : Rg) (M : MM) : k18_10 c nl lo ρ M = b18_10 c nl lo (ρ 0) (ρ 1) (ρ 2) M := by
 have h : ∀ (z0 : Rg → MM → Option (AV × MM)), (execC c modeF lo nl p18_0 z0 noE (endK cf18.res)) ρ M = (z0 (sF (sF (sF ρ 3 (.tup [])) 6 (.tup [])) 10 (.tup [])) M) := by intros; kernel_rfl
 refine (h (k18_0 c nl lo)).trans ?_
 unfold b18_10; simp only [(t18_0 c nl lo)] <;> (show _ = _; kernel_rfl)
def s18 (c : CallT) (nl lo : Nat) (a0 a1 a2 : AV) (M : MM) : Option (AV × MM) :=
 b18_10 c nl lo a0 a1 a2 M
theorem e18 (c : CallT) (nl lo : Nat) (a0 a1 a2 : AV) (M : MM) : execC c modeF lo nl cf18.body (endK cf18.res) noE (endK cf18.res) (aF [a0, a1, a2]) M = s18 c nl lo a0 a1 a2 M := by
 have h : execC c modeF lo nl cf18.body (endK cf18.res) noE (endK cf18.res) (aF [a0, a1, a2]) M = (k18_10 c nl lo (aF [a0, a1, a2]) M) := execC_seq c modeF lo nl p18_0 p18_39 (endK cf18.res) noE (endK cf18.res) (aF [a0, a1, a2]) M
 refine h.trans ?_
 unfold s18; simp only [(t18_10 c nl lo)] <;> (show _ = _; kernel_rfl)
theorem q18 {c : CallT} (hc : Lim G c) (lo : Nat) (a0 a1 a2 : AV) (M : MM) : c 18 [a0, a1, a2] lo M = s18 c G.nl lo a0 a1 a2 M :=
 (hc.flow (cf := cf18) rfl w18 [a0, a1, a2] lo M).trans (e18 c G.nl lo a0 a1 a2 M)

/-! ### function 19 -/
theorem w19 : wfK cf19.nt cf19.body = true := by kernel_rfl
def k19_4 (c : CallT) (nl lo : Nat) : Rg → MM → Option (AV × MM) := (execC c modeF lo nl p19_35 (endK cf19.res) noE (endK cf19.res))
@[reducible] def b19_4 (c : CallT) (nl lo : Nat) (x1 x2 x3 x6 x8 : AV) (M : MM) : Option (AV × MM) :=
 opt (fldA 0 2 true x3) fun v1 =>
 opt (puA c (lk M) 49 [v1, x1, x8]) fun v4 =>
 opt (binA .gtr .none v4 (.i 4096)) fun v5 =>
 isB v5 fun c6 => if c6 then (opt ((fill [.str ⟨⟨[]⟩⟩, .d (.sl [] 0)] []).map .agg) fun v7 =>
 opt (setcA 0 2 x6 v7) fun v8 =>
 opt (resL [locA 2 true v8, some (.i 4)]) fun r => some (r, M))
 else (opt (fldA 0 2 true x3) fun v10 =>
 opt (puA c (lk M) 50 [v10, x1, x2]) fun v13 =>
 opt (setcA 0 2 x6 v13) fun v14 =>
 opt (resL [locA 2 true v14, some (.i 0)]) fun r => some (r, M))
theorem t19_4 (c : CallT) (nl lo : Nat) (ρ : Rg) (M : MM) : k19_4 c nl lo ρ M = b19_4 c nl lo (ρ 1) (ρ 2) (ρ 3) (ρ 6) (ρ 8) M := by
 kernel_rfl
def k19_6 (c : CallT) (nl lo : Nat) (n : Nat) : Rg → MM → Option (AV × MM) := iterC (fun k ρ M => execC c modeF lo nl p19_24 k (fun i ρ M => if i = 0 then (k19_4 c nl lo) ρ M else noE i ρ M) (endK cf19.res) ρ M) n
def b19_6 (c : CallT) (nl lo : Nat) : Nat → AV → AV → AV → AV → AV → AV → AV → AV → MM → Option (AV × MM)
 | 0, _, _, _, _, _, _, _, _, _ => none
 | n + 1, x1, x2, x3, x6, x8, x17, x18, x19, M =>
 opt (binA .lss .none x19 x18) fun v19 =>
 isB v19 fun c20 => if c20 then (opt (ixsA 1 x17 x19) fun v22 =>
 opt (ld1A (lk M) v22) fun v23 =>
 opt (slslA 1 x1 none (some x19)) fun v28 =>
 opt (puA c (lk M) 48 [v28, v23]) fun v30 =>
 isB v30 fun c31 => if c31 then (opt ((fill [.str ⟨⟨[]⟩⟩, .d (.sl [] 0)] []).map .agg) fun v32 =>
 opt (setcA 0 2 x6 v32) fun v33 =>
 opt (resL [locA 2 true v33, some (.i 5)]) fun r => some (r, M))
 else (opt (ixsA 2 x2 x19) fun v38 =>
 opt (ldnA (lk M) 2 v38) fun v39 =>
 opt (puA c (lk M) 32 [v39]) fun v40 =>
 opt (wslA 1 (fill [.i 0] [(0, 1, v40)])) fun v41 =>
 upK M M.nx fun M42 =>
 opt (wappA M42.mem (.top M42.nx) 1 8 x8 v41) fun v43 =>
 upK M42 M42.nx fun M44 =>
 opt (binA .add .none x19 (.i 1)) fun v46 =>
 (b19_6 c nl lo n) x1 x2 x3 x6 v43 x17 x18 v46 M44))
 else (b19_4 c nl lo x1 x2 x3 x6 x8 M)
theorem t19_6 (c : CallT) (nl lo : Nat) : ∀ (n : Nat) (ρ : Rg) (M : MM), k19_6 c nl lo n ρ M = b19_6 c nl lo n (ρ 1) (ρ 2) (ρ 3) (ρ 6) (ρ 8) (ρ 17) (ρ 18) (ρ 19) M
 | 0, ρ, M => rfl
 | n + 1, ρ, M => by
  have h : ∀ (zb z0 : Rg → MM → Option (AV × MM)), execC c modeF lo nl p19_24 zb (fun i ρ M => if i = 0 then z0 ρ M else noE i ρ M) (endK cf19.res) ρ M = (opt (binA .lss .none (ρ 19) (ρ 18)) fun v19 =>
  isB v19 fun c20 => if c20 then (opt (ixsA 1 (ρ 17) (ρ 19)) fun v22 =>
  opt (ld1A (lk M) v22) fun v23 =>
  opt (slslA 1 (ρ 1) none (some (ρ 19))) fun v28 =>
  opt (puA c (lk M) 48 [v28, v23]) fun v30 =>
  isB v30 fun c31 => if c31 then (opt ((fill [.str ⟨⟨[]⟩⟩, .d (.sl [] 0)] []).map .agg) fun v32 =>
  opt (setcA 0 2 (ρ 6) v32) fun v33 =>
  opt (resL [locA 2 true v33, some (.i 5)]) fun r => some (r, M))
  else (opt (ixsA 2 (ρ 2) (ρ 19)) fun v38 =>
  opt (ldnA (lk M) 2 v38) fun v39 =>
  opt (puA c (lk M) 32 [v39]) fun v40 =>
  opt (wslA 1 (fill [.i 0] [(0, 1, v40)])) fun v41 =>
  upK M M.nx fun M42 =>
  opt (wappA M42.mem (.top M42.nx) 1 8 (ρ 8) v41) fun v43 =>
  upK M42 M42.nx fun M44 =>
  opt (binA .add .none (ρ 19) (.i 1)) fun v46 =>
  zb (sF (sF (sF (sF (sF (sF (sF (sF (sF (sF (sF (sF (sF (sF (sF (sF (sF (sF (sF (sF (sF (sF ρ 20 v19) 21 (ρ 19)) 22 v22) 23 v23) 9 (ρ 19)) 10 v23) 24 (ρ 1)) 25 (ρ 19)) 26 v28) 27 v23) 28 v30) 30 (ρ 8)) 31 (ρ 2)) 32 (ρ 19)) 33 v38) 34 v39) 35 v40) 36 v41) 37 v43) 8 v43) 38 v46) 19 v46) M44))
  else (z0 (sF ρ 20 v19) M)) := by intros; kernel_rfl
  refine (h (k19_6 c nl lo n) (k19_4 c nl lo)).trans ?_
  unfold b19_6; simp only [(t19_4 c nl lo), (t19_6 c nl lo n)] <;> (show _ = _; kernel_rfl)
def k19_5 (c : CallT) (nl lo : Nat) : Rg → MM → Option (AV × MM) := (execC c modeF lo nl p19_27 (k19_4 c nl lo) noE (endK cf19.res))
@[reducible] def b19_5 (c : CallT) (nl lo : Nat) (x1 x2 x3 x6 x8 : AV) (M : MM) : Option (AV × MM) :=
 opt (lenA x1) fun v17 =>
 b19_6 c nl lo nl x1 x2 x3 x6 x8 x1 v17 (.i 0) M
theorem t19_5 (c : CallT) (nl lo : Nat) (ρ : Rg) (M : MM) : k19_5 c nl lo ρ M = b19_5 c nl lo (ρ 1) (ρ 2) (ρ 3) (ρ 6) (ρ 8) M := by
 have h : k19_5 c nl lo ρ M = (opt (lenA (ρ 1)) fun v17 =>
 k19_6 c nl lo nl (sF (sF (sF ρ 17 (ρ 1)) 18 v17) 19 (.i 0)) M) := by kernel_rfl
 rw [h]
 unfold b19_5; simp only [(t19_6 c nl lo nl)] <;> (show _ = _; kernel_rfl)
def k19_3 (c : CallT) (nl lo : Nat) : Rg → MM → Option (AV × MM) := (execC c modeF lo nl p19_36 (endK cf19.res) noE (endK cf19.res))
@[reducible] def b19_3 (c : CallT) (nl lo : Nat) (x1 x2 x3 x6 x8 : AV) (M : MM) : Option (AV × MM) :=
 b19_5 c nl lo x1 x2 x3 x6 x8 M
theorem t19_3 (c : CallT) (nl lo : Nat) (ρ : Rg) (M : MM) : k19_3 c nl lo ρ M = b19_3 c nl lo (ρ 1) (ρ 2) (ρ 3) (ρ 6) (ρ 8) M := by
 have h : k19_3 c nl lo ρ M = (k19_5 c nl lo ρ M) := execC_seq c modeF lo nl p19_27 p19_35 (endK cf19.res) noE (endK cf19.res) ρ M
 rw [h]
 unfold b19_3; simp only [(t19_5 c nl lo)] <;> (show _ = _; kernel_rfl)
def k19_7 (c : CallT) (nl lo : Nat) : Rg → MM → Option (AV × MM) := (execC c modeF lo nl p19_7 (k19_3 c nl lo) noE (endK cf19.res))
@[reducible] def b19_7 (c : CallT) (nl lo : Nat) (x1 x2 x3 x6 : AV) (M : MM) : Option (AV × MM) :=
 b19_3 c nl lo x1 x2 x3 x6 (.d (.sl [] 0)) M
theorem t19_7 (c : CallT) (nl lo : Nat) (ρ : Rg) (M : MM) : k19_7 c nl lo ρ M = b19_7 c nl lo (ρ 1) (ρ 2) (ρ 3) (ρ 6) M := by
 have h : ∀ (z0 : Rg → MM → Option (AV × MM)), (execC c modeF lo nl p19_7 z0 noE (endK cf19.res)) ρ M = (z0 (sF ρ 8 (.d (.sl [] 0))) M) := by intros; kernel_rfl
 refine (h (k19_3 c nl lo)).trans ?_
 unfold b19_7; simp only [(t19_3 c nl lo)] <;> (show _ = _; kernel_rfl)
def k19_2 (c : CallT) (nl lo : Nat) : Rg → MM → Option (AV × MM) := (execC c modeF lo nl p19_37 (endK cf19.res) noE (endK cf19.res))
@[reducible] def b19_2 (c : CallT) (nl lo : Nat) (x1 x2 x3 x6 : AV) (M : MM) : Option (AV × MM) :=
 b19_7 c nl lo x1 x2 x3 x6 M
theorem t19_2 (c : CallT) (nl lo : Nat) (ρ : Rg) (M : MM) : k19_2 c nl lo ρ M = b19_2 c nl lo (ρ 1) (ρ 2) (ρ 3) (ρ 6) M := by
 have h : k19_2 c nl lo ρ M = (k19_7 c nl lo ρ M) := execC_seq c modeF lo nl p19_7 p19_36 (endK cf19.res) noE (endK cf19.res) ρ M
 rw [h]
 unfold b19_2; simp only [(t19_7 c nl lo)] <;> (show _ = _; kernel_rfl)
def k19_8 (c : CallT) (nl lo : Nat) : Rg → MM → Option (AV × MM) := (execC c modeF lo nl p19_6 (k19_2 c nl lo) noE (endK cf19.res))
@[reducible] def b19_8 (c : CallT) (nl lo : Nat) (x1 x2 x3 x6 : AV) (M : MM) : Option (AV × MM) :=
 opt (lenA x1) fun v2 =>
 opt (lenA x2) fun v4 =>
 opt (binA .neq .none v2 v4) fun v5 =>
 isB v5 fun c6 => if c6 then (opt ((fill [.str ⟨⟨[]⟩⟩, .d (.sl [] 0)] []).map .agg) fun v7 =>
 opt (setcA 0 2 x6 v7) fun v8 =>
 opt (resL [locA 2 true v8, some (.i 9)]) fun r => some (r, M))
 else (b19_2 c nl lo x1 x2 x3 x6 M)
theorem t19_8 (c : CallT) (nl lo : Nat) (ρ : Rg) (M : MM) : k19_8 c nl lo ρ M = b19_8 c nl lo (ρ 1) (ρ 2) (ρ 3) (ρ 6) M := by
 have h : ∀ (z0 : Rg → MM → Option (AV × MM)), (execC c modeF lo nl p19_6 z0 noE (endK cf19.res)) ρ M = (opt (lenA (ρ 1)) fun v2 =>
 opt (lenA (ρ 2)) fun v4 =>
 opt (binA .neq .none v2 v4) fun v5 =>
 isB v5 fun c6 => if c6 then (opt ((fill [.str ⟨⟨[]⟩⟩, .d (.sl [] 0)] []).map .agg) fun v7 =>
 opt (setcA 0 2 (ρ 6) v7) fun v8 =>
 opt (resL [locA 2 true v8, some (.i 9)]) fun r => some (r, M))
 else (z0 (sF (sF (sF (sF (sF ρ 11 (ρ 1)) 12 v2) 13 (ρ 2)) 14 v4) 15 v5) M)) := by intros; kernel_rfl
 refine (h (k19_2 c nl lo)).trans ?_
 unfold b19_8; simp only [(t19_2 c nl lo)] <;> (show _ = _; kernel_rfl)
def k19_1 (c : CallT) (nl lo : Nat) : Rg → MM → Option (AV × MM) := (execC c modeF lo nl p19_38 (endK cf19.res) noE (endK cf19.res))
@[reducible] def b19_1 (c : CallT) (nl lo : Nat) (x1 x2 x3 x6 : AV) (M : MM) : Option (AV × MM) :=
 b19_8 c nl lo x1 x2 x3 x6 M
theorem t19_1 (c : CallT) (nl lo : Nat) (ρ : Rg) (M : MM) : k19_1 c nl lo ρ M = b19_1 c nl lo (ρ 1) (ρ 2) (ρ 3) (ρ 6) M := by
 have h : k19_1 c nl lo ρ M = (k19_8 c nl lo ρ M) := execC_seq c modeF lo nl p19_6 p19_37 (endK cf19.res) noE (endK cf19.res) ρ M
 rw [h]
 unfold b19_1; simp only [(t19_8 c nl lo)] <;> (show _ = _; kernel_rfl)
def k19_9 (c : CallT) (nl lo : Nat) : Rg → MM → Option (AV × MM) := (execC c modeF lo nl p19_1 (k19_1 c nl lo) noE (endK cf19.res))
@[reducible] def b19_9 (c : CallT) (nl lo : Nat) (x0 x1 x2 : AV) (M : MM) : Option (AV × MM) :=
 opt (aggA x0) fun v1 =>
 upK M M.nx fun M2 =>
 upK M2 M2.nx fun M4 =>
 b19_1 c nl lo x1 x2 v1 (.agg [.str ⟨⟨[]⟩⟩, .d (.sl [] 0)]) M4
theorem t19_9 (c : CallT) (nl lo : Nat) (ρ : Rg) (M : MM) : k19_9 c nl lo ρ M = b19_9 c nl lo (ρ 0) (ρ 1) (ρ 2) M := by
 have h : ∀ (z0 : Rg → MM → Option (AV × MM)), (execC c modeF lo nl p19_1 z0 noE (endK cf19.res)) ρ M = (opt (aggA (ρ 0)) fun v1 =>
 upK M M.nx fun M2 =>
 upK M2 M2.nx fun M4 =>
 z0 (sF (sF (sF ρ 3 v1) 6 (.agg [.str ⟨⟨[]⟩⟩, .d (.sl [] 0)])) 7 (.i 0)) M4) := by intros; kernel_rfl
 refine (h (k19_1 c nl lo)).trans ?_
 unfold b19_9; simp only [(t19_1 c nl lo)] <;> (show _ = _; kernel_rfl)
def k19_0 (c : CallT) (nl lo : Nat) : Rg → MM → Option (AV × MM) := (execC c modeF lo nl p19_39 (endK cf19.res) noE (endK cf19.res))
@[reducible] def b19_0 (c : CallT) (nl lo : Nat) (x0 x1 x2 : AV) (M : MM) : Option (AV × MM) :=
 b19_9 c nl lo x0 x1 x2 M
theorem t19_0 (c : CallT) (nl lo : Nat) (ρ : Rg) (M : MM) : k19_0 c nl lo ρ M = b19_0 c nl lo (ρ 0) (ρ 1) (ρ 2) M := by
 have h : k19_0 c nl lo ρ M = (k19_9 c nl lo ρ M) := execC_seq c modeF lo nl p19_1 p19_38 (endK cf19.res) noE (endK cf19.res) ρ M
 rw [h]
 unfold b19_0; simp only [(t19_9 c nl lo)] <;> (show _ = _; kernel_rfl)
def k19_10 (c : CallT) (nl lo : Nat) : Rg → MM → Option (AV × MM) := (execC c modeF lo nl p19_0 (k19_0 c nl lo) noE (endK cf19.res))
@[reducible] def b19_10 (c : CallT) (nl lo : Nat) (x0 x1 x2 : AV) (M : MM) : Option (AV × MM) :=
 b19_0 c nl lo x0 x1 x2 M
theorem t19_10 (c : CallT) (nl lo : Nat) (ρ : Rg) (M : MM) : k19_10 c nl lo ρ M = b19_10 c nl lo (ρ 0) (ρ 1) (ρ 2) M := by
 have h : ∀ (z0 : Rg → MM → Option (AV × MM)), (execC c modeF lo nl p19_0 z0 noE (endK cf19.res)) ρ M = (z0 (sF (sF ρ 3 (.tup [])) 6 (.tup [])) M) := by intros; kernel_rfl
 refine (h (k19_0 c nl lo)).trans ?_
 unfold b19_10; simp only [(t19_0 c nl lo)] <;> (show _ = _; kernel_rfl)
def s19 (c : CallT) (nl lo : Nat) (a0 a1 a2 : AV) (M : MM) : Option (AV × MM) :=
 b19_10 c nl lo a0 a1 a2 M
theorem e19 (c : CallT) (nl lo : Nat) (a0 a1 a2 : AV) (M : MM) : execC c modeF lo nl cf19.body (endK cf19.res) noE (endK cf19.res) (aF [a0, a1, a2]) M = s19 c nl lo a0 a1 a2 M := by
 have h : execC c modeF lo nl cf19.body (endK cf19.res) noE (endK cf19.res) (aF [a0, a1, a2]) M = (k19_10 c nl lo (aF [a0, a1, a2]) M) := execC_seq c modeF lo nl p19_0 p19_39 (endK cf19.res) noE (endK cf19.res) (aF [a0, a1, a2]) M
 refine h.trans ?_
 unfold s19; simp only [(t19_10 c nl lo)] <;> (show _ = _; kernel_rfl)
theorem q19 {c : CallT} (hc : Lim G c) (lo : Nat) (a0 a1 a2 : AV) (M : MM) : c 19 [a0, a1, a2] lo M = s19 c G.nl lo a0 a1 a2 M :=
 (hc.flow (cf := cf19) rfl w19 [a0, a1, a2] lo M).trans (e19 c G.nl lo a0 a1 a2 M)

/-! ### function 20 -/
theorem w20 : wfK cf20.nt cf20.body = true := by kernel_rfl
def s20 (c : CallT) (nl lo : Nat) (a0 a1 : AV) (M : MM) : Option (AV × MM) :=
 opt (aggA a0) fun v3 =>
 upK M M.nx fun M4 =>
 opt (aggA a1) fun v5 =>
 upK M4 M4.nx fun M6 =>
 opt (fldA 0 2 true v3) fun v8 =>
 opt (fldA 0 2 true v5) fun v9 =>
 opt (puA c (lk M6) 51 [v8, v9]) fun v10 =>
 some (v10, M6)
theorem e20 (c : CallT) (nl lo : Nat) (a0 a1 : AV) (M : MM) : execC c modeF lo nl cf20.body (endK cf20.res) noE (endK cf20.res) (aF [a0, a1]) M = s20 c nl lo a0 a1 M := by
 kernel_rfl
theorem q20 {c : CallT} (hc : Lim G c) (lo : Nat) (a0 a1 : AV) (M : MM) : c 20 [a0, a1] lo M = s20 c G.nl lo a0 a1 M :=
 (hc.flow (cf := cf20) rfl w20 [a0, a1] lo M).trans (e20 c G.nl lo a0 a1 M)

/-! ### function 21 -/
theorem w21 : wfK cf21.nt cf21.body = true := by kernel_rfl
def s21 (c : CallT) (nl lo : Nat) (a0 : AV) (M : MM) : Option (AV × MM) :=
 opt (aggA a0) fun v2 =>
 upK M M.nx fun M3 =>
 opt (fldA 0 2 true v2) fun v5 =>
 bnd (c 52 [v5, (.d (.sl [] 0))] lo M3) fun v6 M7 =>
 some (v6, M7)
theorem e21 (c : CallT) (nl lo : Nat) (a0 : AV) (M : MM) : execC c modeF lo nl cf21.body (endK cf21.res) noE (endK cf21.res) (aF [a0]) M = s21 c nl lo a0 M := by
 kernel_rfl
theorem q21 {c : CallT} (hc : Lim G c) (lo : Nat) (a0 : AV) (M : MM) : c 21 [a0] lo M = s21 c G.nl lo a0 M :=
 (hc.flow (cf := cf21) rfl w21 [a0] lo M).trans (e21 c G.nl lo a0 M)

/-! ### function 22 -/
theorem w22 : wfK cf22.nt cf22.body = true := by kernel_rfl
def k22_5 (c : CallT) (nl lo : Nat) : Rg → MM → Option (AV × MM) := (execC c modeF lo nl p22_24 (endK cf22.res) noE (endK cf22.res))
@[reducible] def b22_5 (c : CallT) (nl lo : Nat) (x9 : AV) (M : MM) : Option (AV × MM) :=
 some (.tup [x9, (.bool true)], M)
theorem t22_5 (c : CallT) (nl lo : Nat) (ρ : Rg) (M : MM) : k22_5 c nl lo ρ M = b22_5 c nl lo (ρ 9) M := by
 kernel_rfl
def k22_7 (c : CallT) (nl lo : Nat) (n : Nat) : Rg → MM → Option (AV × MM) := iterC (fun k ρ M => execC c modeF lo nl p22_19 k (fun i ρ M => if i = 0 then (k22_5 c nl lo) ρ M else noE i ρ M) (endK cf22.res) ρ M) n
def b22_7 (c : CallT) (nl lo : Nat) : Nat → AV → AV → AV → AV → MM → Option (AV × MM)
 | 0, _, _, _, _, _ => none
 | n + 1, x9, x29, x30, x31, M =>
 opt (binA .lss .none x31 x30) fun v7 =>
 isB v7 fun c8 => if c8 then (opt (ixsA 1 x29 x31) fun v9 =>
 opt (ld1A (lk M) v9) fun v10 =>
 opt (nilcA v10) fun v14 =>
 opt (ldnA (lk M) 2 v14) fun v15 =>
 opt (puA c (lk M) 55 [v15]) fun v16 =>
 opt (wslA 1 (fill [.str ⟨⟨[]⟩⟩, .d (.sl [] 0)] [(0, 2, v16)])) fun v17 =>
 upK M M.nx fun M18 =>
 opt (wappA M18.mem (.top M18.nx) 2 40 x9 v17) fun v19 =>
 upK M18 M18.nx fun M20 =>
 opt (binA .add .none x31 (.i 1)) fun v22 =>
 (b22_7 c nl lo n) v19 x29 x30 v22 M20)
 else (b22_5 c nl lo x9 M)
theorem t22_7 (c : CallT) (nl lo : Nat) : ∀ (n : Nat) (ρ : Rg) (M : MM), k22_7 c nl lo n ρ M = b22_7 c nl lo n (ρ 9) (ρ 29) (ρ 30) (ρ 31) M
 | 0, ρ, M => rfl
 | n + 1, ρ, M => by
  have h : ∀ (zb z0 : Rg → MM → Option (AV × MM)), execC c modeF lo nl p22_19 zb (fun i ρ M => if i = 0 then z0 ρ M else noE i ρ M) (endK cf22.res) ρ M = (opt (binA .lss .none (ρ 31) (ρ 30)) fun v7 =>
  isB v7 fun c8 => if c8 then (opt (ixsA 1 (ρ 29) (ρ 31)) fun v9 =>
  opt (ld1A (lk M) v9) fun v10 =>
  opt (nilcA v10) fun v14 =>
  opt (ldnA (lk M) 2 v14) fun v15 =>
  opt (puA c (lk M) 55 [v15]) fun v16 =>
  opt (wslA 1 (fill [.str ⟨⟨[]⟩⟩, .d (.sl [] 0)] [(0, 2, v16)])) fun v17 =>
  upK M M.nx fun M18 =>
  opt (wappA M18.mem (.top M18.nx) 2 40 (ρ 9) v17) fun v19 =>
  upK M18 M18.nx fun M20 =>
  opt (binA .add .none (ρ 31) (.i 1)) fun v22 =>
  zb (sF (sF (sF (sF (sF (sF (sF (sF (sF (sF (sF (sF (sF (sF ρ 32 v7) 33 v9) 34 v10) 11 v10) 35 (ρ 9)) 36 v10) 37 v14) 38 v15) 39 v16) 40 v17) 41 v19) 9 v19) 42 v22) 31 v22) M20)
  else (z0 (sF ρ 32 v7) M)) := by intros; kernel_rfl
  refine (h (k22_7 c nl lo n) (k22_5 c nl lo)).trans ?_
  unfold b22_7; simp only [(t22_5 c nl lo), (t22_7 c nl lo n)] <;> (show _ = _; kernel_rfl)
def k22_6 (c : CallT) (nl lo : Nat) : Rg → MM → Option (AV × MM) := (execC c modeF lo nl p22_22 (k22_5 c nl lo) noE (endK cf22.res))
@[reducible] def b22_6 (c : CallT) (nl lo : Nat) (x8 x9 : AV) (M : MM) : Option (AV × MM) :=
 opt (lenA x8) fun v5 =>
 b22_7 c nl lo nl x9 x8 v5 (.i 0) M
theorem t22_6 (c : CallT) (nl lo : Nat) (ρ : Rg) (M : MM) : k22_6 c nl lo ρ M = b22_6 c nl lo (ρ 8) (ρ 9) M := by
 have h : k22_6 c nl lo ρ M = (opt (lenA (ρ 8)) fun v5 =>
 k22_7 c nl lo nl (sF (sF (sF ρ 29 (ρ 8)) 30 v5) 31 (.i 0)) M) := by kernel_rfl
 rw [h]
 unfold b22_6; simp only [(t22_7 c nl lo nl)] <;> (show _ = _; kernel_rfl)
def k22_4 (c : CallT) (nl lo : Nat) : Rg → MM → Option (AV × MM) := (execC c modeF lo nl p22_25 (endK cf22.res) noE (endK cf22.res))
@[reducible] def b22_4 (c : CallT) (nl lo : Nat) (x8 x9 : AV) (M : MM) : Option (AV × MM) :=
 b22_6 c nl lo x8 x9 M
theorem t22_4 (c : CallT) (nl lo : Nat) (ρ : Rg) (M : MM) : k22_4 c nl lo ρ M = b22_4 c nl lo (ρ 8) (ρ 9) M := by
 have h : k22_4 c nl lo ρ M = (k22_6 c nl lo ρ M) := execC_seq c modeF lo nl p22_22 p22_24 (endK cf22.res) noE (endK cf22.res) ρ M
 rw [h]
 unfold b22_4; simp only [(t22_6 c nl lo)] <;> (show _ = _; kernel_rfl)
def k22_8 (c : CallT) (nl lo : Nat) : Rg → MM → Option (AV × MM) := (execC c modeF lo nl p22_8 (k22_4 c nl lo) noE (endK cf22.res))
@[reducible] def b22_8 (c : CallT) (nl lo : Nat) (x8 : AV) (M : MM) : Option (AV × MM) :=
 b22_4 c nl lo x8 (.d (.sl [] 0)) M
theorem t22_8 (c : CallT) (nl lo : Nat) (ρ : Rg) (M : MM) : k22_8 c nl lo ρ M = b22_8 c nl lo (ρ 8) M := by
 have h : ∀ (z0 : Rg → MM → Option (AV × MM)), (execC c modeF lo nl p22_8 z0 noE (endK cf22.res)) ρ M = (z0 (sF ρ 9 (.d (.sl [] 0))) M) := by intros; kernel_rfl
 refine (h (k22_4 c nl lo)).trans ?_
 unfold b22_8; simp only [(t22_4 c nl lo)] <;> (show _ = _; kernel_rfl)
def k22_3 (c : CallT) (nl lo : Nat) : Rg → MM → Option (AV × MM) := (execC c modeF lo nl p22_26 (endK cf22.res) noE (endK cf22.res))
@[reducible] def b22_3 (c : CallT) (nl lo : Nat) (x8 : AV) (M : MM) : Option (AV × MM) :=
 b22_8 c nl lo x8 M
theorem t22_3 (c : CallT) (nl lo : Nat) (ρ : Rg) (M : MM) : k22_3 c nl lo ρ M = b22_3 c nl lo (ρ 8) M := by
 have h : k22_3 c nl lo ρ M = (k22_8 c nl lo ρ M) := execC_seq c modeF lo nl p22_8 p22_25 (endK cf22.res) noE (endK cf22.res) ρ M
 rw [h]
 unfold b22_3; simp only [(t22_8 c nl lo)] <;> (show _ = _; kernel_rfl)
def k22_9 (c : CallT) (nl lo : Nat) : Rg → MM → Option (AV × MM) := (execC c modeF lo nl p22_7 (k22_3 c nl lo) noE (endK cf22.res))
@[reducible] def b22_9 (c : CallT) (nl lo : Nat) (x2 x3 x4 x8 : AV) (M : MM) : Option (AV × MM) :=
 opt (puA c (lk M) 45 [x2]) fun v2 =>
 opt (gdp v2 false (fldA 0 2 true x3)) fun v4 =>
 opt (gdp v2 false (fldA 0 2 true x4)) fun v5 =>
 opt (gdp v2 false (some x2)) fun v6 =>
 opt (gdp v2 false (some x8)) fun v7 =>
 bnd (gd v2 false M (c 53 [v4, v5, v6, v7] lo M)) fun v8 M9 =>
 opt (gdp v2 false (unA .not v8)) fun v10 =>
 opt (pickA v2 (.bool true) v10) fun v11 =>
 opt (gdp v11 false (some x8)) fun v13 =>
 bnd (gd v11 false M9 (c 54 [v13, .nil] lo M9)) fun v14 M15 =>
 opt (pickA v11 (.bool true) v14) fun v16 =>
 isB v16 fun c17 => if c17 then (some (.tup [(.d (.sl [] 0)), (.bool false)], M15))
 else (b22_3 c nl lo x8 M15)
theorem t22_9 (c : CallT) (nl lo : Nat) (ρ : Rg) (M : MM) : k22_9 c nl lo ρ M = b22_9 c nl lo (ρ 2) (ρ 3) (ρ 4) (ρ 8) M := by
 have h : ∀ (z0 : Rg → MM → Option (AV × MM)), (execC c modeF lo nl p22_7 z0 noE (endK cf22.res)) ρ M = (opt (puA c (lk M) 45 [(ρ 2)]) fun v2 =>
 opt (gdp v2 false (fldA 0 2 true (ρ 3))) fun v4 =>
 opt (gdp v2 false (fldA 0 2 true (ρ 4))) fun v5 =>
 opt (gdp v2 false (some (ρ 2))) fun v6 =>
 opt (gdp v2 false (some (ρ 8))) fun v7 =>
 bnd (gd v2 false M (c 53 [v4, v5, v6, v7] lo M)) fun v8 M9 =>
 opt (gdp v2 false (unA .not v8)) fun v10 =>
 opt (pickA v2 (.bool true) v10) fun v11 =>
 opt (gdp v11 false (some (ρ 8))) fun v13 =>
 bnd (gd v11 false M9 (c 54 [v13, .nil] lo M9)) fun v14 M15 =>
 opt (pickA v11 (.bool true) v14) fun v16 =>
 isB v16 fun c17 => if c17 then (some (.tup [(.d (.sl [] 0)), (.bool false)], M15))
 else (z0 (sF (sF (sF (sF (sF (sF (sF (sF (sF (sF (sF (sF (sF (sF ρ 15 (ρ 2)) 16 v2) 17 v2) 18 v4) 19 v5) 20 v6) 21 v7) 22 v8) 23 v10) 24 v11) 25 v11) 26 v13) 27 v14) 28 v16) M15)) := by intros; kernel_rfl
 refine (h (k22_3 c nl lo)).trans ?_
 unfold b22_9; simp only [(t22_3 c nl lo)] <;> (show _ = _; kernel_rfl)
def k22_2 (c : CallT) (nl lo : Nat) : Rg → MM → Option (AV × MM) := (execC c modeF lo nl p22_27 (endK cf22.res) noE (endK cf22.res))
@[reducible] def b22_2 (c : CallT) (nl lo : Nat) (x2 x3 x4 x8 : AV) (M : MM) : Option (AV × MM) :=
 b22_9 c nl lo x2 x3 x4 x8 M
theorem t22_2 (c : CallT) (nl lo : Nat) (ρ : Rg) (M : MM) : k22_2 c nl lo ρ M = b22_2 c nl lo (ρ 2) (ρ 3) (ρ 4) (ρ 8) M := by
 have h : k22_2 c nl lo ρ M = (k22_9 c nl lo ρ M) := execC_seq c modeF lo nl p22_7 p22_26 (endK cf22.res) noE (endK cf22.res) ρ M
 rw [h]
 unfold b22_2; simp only [(t22_9 c nl lo)] <;> (show _ = _; kernel_rfl)
def k22_10 (c : CallT) (nl lo : Nat) : Rg → MM → Option (AV × MM) := (execC c modeF lo nl p22_2 (k22_2 c nl lo) noE (endK cf22.res))
@[reducible] def b22_10 (c : CallT) (nl lo : Nat) (x2 x3 x4 : AV) (M : MM) : Option (AV × MM) :=
 opt (lenA x2) fun v2 =>
 bnd (istep c modeF false lo (.top M.nx) M.nx (.mkslice 70 1 8 [.nil] (.k v2) (.k v2)) [] M) fun v3 M4 =>
 b22_2 c nl lo x2 x3 x4 v3 M4
theorem t22_10 (c : CallT) (nl lo : Nat) (ρ : Rg) (M : MM) : k22_10 c nl lo ρ M = b22_10 c nl lo (ρ 2) (ρ 3) (ρ 4) M := by
 have h : ∀ (z0 : Rg → MM → Option (AV × MM)), (execC c modeF lo nl p22_2 z0 noE (endK cf22.res)) ρ M = (opt (lenA (ρ 2)) fun v2 =>
 bnd (istep c modeF false lo (.top M.nx) M.nx (.mkslice 70 1 8 [.nil] (.k v2) (.k v2)) [] M) fun v3 M4 =>
 z0 (sF (sF (sF (sF ρ 12 (ρ 2)) 13 v2) 14 v3) 8 v3) M4) := by intros; kernel_rfl
 refine (h (k22_2 c nl lo)).trans ?_
 unfold b22_10; simp only [(t22_2 c nl lo)] <;> (show _ = _; kernel_rfl)
def k22_1 (c : CallT) (nl lo : Nat) : Rg → MM → Option (AV × MM) := (execC c modeF lo nl p22_28 (endK cf22.res) noE (endK cf22.res))
@[reducible] def b22_1 (c : CallT) (nl lo : Nat) (x2 x3 x4 : AV) (M : MM) : Option (AV × MM) :=
 b22_10 c nl lo x2 x3 x4 M
theorem t22_1 (c : CallT) (nl lo : Nat) (ρ : Rg) (M : MM) : k22_1 c nl lo ρ M = b22_1 c nl lo (ρ 2) (ρ 3) (ρ 4) M := by
 have h : k22_1 c nl lo ρ M = (k22_10 c nl lo ρ M) := execC_seq c modeF lo nl p22_2 p22_27 (endK cf22.res) noE (endK cf22.res) ρ M
 rw [h]
 unfold b22_1; simp only [(t22_10 c nl lo)] <;> (show _ = _; kernel_rfl)
def k22_11 (c : CallT) (nl lo : Nat) : Rg → MM → Option (AV × MM) := (execC c modeF lo nl p22_1 (k22_1 c nl lo) noE (endK cf22.res))
@[reducible] def b22_11 (c : CallT) (nl lo : Nat) (x0 x1 x2 : AV) (M : MM) : Option (AV × MM) :=
 opt (aggA x0) fun v1 =>
 upK M M.nx fun M2 =>
 opt (aggA x1) fun v3 =>
 upK M2 M2.nx fun M4 =>
 b22_1 c nl lo x2 v1 v3 M4
theorem t22_11 (c : CallT) (nl lo : Nat) (ρ : Rg) (M : MM) : k22_11 c nl lo ρ M = b22_11 c nl lo (ρ 0) (ρ 1) (ρ 2) M := by
 have h : ∀ (z0 : Rg → MM → Option (AV × MM)), (execC c modeF lo nl p22_1 z0 noE (endK cf22.res)) ρ M = (opt (aggA (ρ 0)) fun v1 =>
 upK M M.nx fun M2 =>
 opt (aggA (ρ 1)) fun v3 =>
 upK M2 M2.nx fun M4 =>
 z0 (sF (sF (sF (sF ρ 3 v1) 4 v3) 6 (.d (.sl [] 0))) 7 (.bool false)) M4) := by intros; kernel_rfl
 refine (h (k22_1 c nl lo)).trans ?_
 unfold b22_11; simp only [(t22_1 c nl lo)] <;> (show _ = _; kernel_rfl)
def k22_0 (c : CallT) (nl lo : Nat) : Rg → MM → Option (AV × MM) := (execC c modeF lo nl p22_29 (endK cf22.res) noE (endK cf22.res))
@[reducible] def b22_0 (c : CallT) (nl lo : Nat) (x0 x1 x2 : AV) (M : MM) : Option (AV × MM) :=
 b22_11 c nl lo x0 x1 x2 M
theorem t22_0 (c : CallT) (nl lo : Nat) (ρ : Rg) (M : MM) : k22_0 c nl lo ρ M = b22_0 c nl lo (ρ 0) (ρ 1) (ρ 2) M := by
 have h : k22_0 c nl lo ρ M = (k22_11 c nl lo ρ M) := execC_seq c modeF lo nl p22_1 p22_28 (endK cf22.res) noE (endK cf22.res) ρ M
 rw [h]
 unfold b22_0; simp only [(t22_11 c nl lo)] <;> (show _ = _; kernel_rfl)
def k22_12 (c : CallT) (nl lo : Nat) : Rg → MM → Option (AV × MM) := (execC c modeF lo nl p22_0 (k22_0 c nl lo) noE (endK cf22.res))
@[reducible] def b22_12 (c : CallT) (nl lo : Nat) (x0 x1 x2 : AV) (M : MM) : Option (AV × MM) :=
 b22_0 c nl lo x0 x1 x2 M
theorem t22_12 (c : CallT) (nl lo : Nat) (ρ : Rg) (M : MM) : k22_12 c nl lo ρ M = b22_12 c nl lo (ρ 0) (ρ 1) (ρ 2) M := by
 have h : ∀ (z0 : Rg → MM → Option (AV × MM)), (execC c modeF lo nl p22_0 z0 noE (endK cf22.res)) ρ M = (z0 (sF (sF ρ 3 (.tup [])) 4 (.tup [])) M) := by intros; kernel_rfl
 refine (h (k22_0 c nl lo)).trans ?_
 unfold b22_12; simp only [(t22_0 c nl lo)] <;> (show _ = _; kernel_rfl)
def s22 (c : CallT) (nl lo : Nat) (a0 a1 a2 : AV) (M : MM) : Option (AV × MM) :=
 b22_12 c nl lo a0 a1 a2 M
theorem e22 (c : CallT) (nl lo : Nat) (a0 a1 a2 : AV) (M : MM) : execC c modeF lo nl cf22.body (endK cf22.res) noE (endK cf22.res) (aF [a0, a1, a2]) M = s22 c nl lo a0 a1 a2 M := by
 have h : execC c modeF lo nl cf22.body (endK cf22.res) noE (endK cf22.res) (aF [a0, a1, a2]) M = (k22_12 c nl lo (aF [a0, a1, a2]) M) := execC_seq c modeF lo nl p22_0 p22_29 (endK cf22.res) noE (endK cf22.res) (aF [a0, a1, a2]) M
 refine h.trans ?_
 unfold s22; simp only [(t22_12 c nl lo)] <;> (show _ = _; kernel_rfl)
theorem q22 {c : CallT} (hc : Lim G c) (lo : Nat) (a0 a1 a2 : AV) (M : MM) : c 22 [a0, a1, a2] lo M = s22 c G.nl lo a0 a1 a2 M :=
 (hc.flow (cf := cf22) rfl w22 [a0, a1, a2] lo M).trans (e22 c G.nl lo a0 a1 a2 M)

/-! ### function 23 -/
theorem w23 : wfK cf23.nt cf23.body = true := by kernel_rfl
def k23_6 (c : CallT) (nl lo : Nat) : Rg → MM → Option (AV × MM) := (execC c modeF lo nl p23_46 (endK cf23.res) noE (endK cf23.res))
@[reducible] def b23_6 (c : CallT) (nl lo : Nat) (x11 : AV) (M : MM) : Option (AV × MM) :=
 some (.tup [x11, (.bool true)], M)
theorem t23_6 (c : CallT) (nl lo : Nat) (ρ : Rg) (M : MM) : k23_6 c nl lo ρ M = b23_6 c nl lo (ρ 11) M := by
 kernel_rfl
def k23_8 (c : CallT) (nl lo : Nat) (n : Nat) : Rg → MM → Option (AV × MM) := iterC (fun k ρ M => execC c modeF lo nl p23_41 k (fun i ρ M => if i = 2 then (k23_6 c nl lo) ρ M else noE i ρ M) (endK cf23.res) ρ M) n
def b23_8 (c : CallT) (nl lo : Nat) : Nat → AV → AV → AV → AV → MM → Option (AV × MM)
 | 0, _, _, _, _, _ => none
 | n + 1, x11, x40, x41, x42, M =>
 opt (binA .lss .none x42 x41) fun v7 =>
 isB v7 fun c8 => if c8 then (opt (ixsA 1 x40 x42) fun v9 =>
 opt (ld1A (lk M) v9) fun v10 =>
 opt (unA .not v10) fun v13 =>
 isB v13 fun c14 => if c14 then (some (.tup [(.d (.sl [] 0)), (.bool false)], M))
 else (opt (binA .add .none x42 (.i 1)) fun v17 =>
 (b23_8 c nl lo n) x11 x40 x41 v17 M))
 else (b23_6 c nl lo x11 M)
theorem t23_8 (c : CallT) (nl lo : Nat) : ∀ (n : Nat) (ρ : Rg) (M : MM), k23_8 c nl lo n ρ M = b23_8 c nl lo n (ρ 11) (ρ 40) (ρ 41) (ρ 42) M
 | 0, ρ, M => rfl
 | n + 1, ρ, M => by
  have h : ∀ (zb z0 : Rg → MM → Option (AV × MM)), execC c modeF lo nl p23_41 zb (fun i ρ M => if i = 2 then z0 ρ M else noE i ρ M) (endK cf23.res) ρ M = (opt (binA .lss .none (ρ 42) (ρ 41)) fun v7 =>
  isB v7 fun c8 => if c8 then (opt (ixsA 1 (ρ 40) (ρ 42)) fun v9 =>
  opt (ld1A (lk M) v9) fun v10 =>
  opt (unA .not v10) fun v13 =>
  isB v13 fun c14 => if c14 then (some (.tup [(.d (.sl [] 0)), (.bool false)], M))
  else (opt (binA .add .none (ρ 42) (.i 1)) fun v17 =>
  zb (sF (sF (sF (sF (sF (sF (sF (sF ρ 43 v7) 44 v9) 45 v10) 13 v10) 46 v10) 47 v13) 48 v17) 42 v17) M))
  else (z0 (sF ρ 43 v7) M)) := by intros; kernel_rfl
  refine (h (k23_8 c nl lo n) (k23_6 c nl lo)).trans ?_
  unfold b23_8; simp only [(t23_6 c nl lo), (t23_8 c nl lo n)] <;> (show _ = _; kernel_rfl)
def k23_7 (c : CallT) (nl lo : Nat) : Rg → MM → Option (AV × MM) := (execC c modeF lo nl p23_44 (k23_6 c nl lo) noE (endK cf23.res))
@[reducible] def b23_7 (c : CallT) (nl lo : Nat) (x10 x11 : AV) (M : MM) : Option (AV × MM) :=
 opt (lenA x10) fun v5 =>
 b23_8 c nl lo nl x11 x10 v5 (.i 0) M
theorem t23_7 (c : CallT) (nl lo : Nat) (ρ : Rg) (M : MM) : k23_7 c nl lo ρ M = b23_7 c nl lo (ρ 10) (ρ 11) M := by
 have h : k23_7 c nl lo ρ M = (opt (lenA (ρ 10)) fun v5 =>
 k23_8 c nl lo nl (sF (sF (sF ρ 40 (ρ 10)) 41 v5) 42 (.i 0)) M) := by kernel_rfl
 rw [h]
 unfold b23_7; simp only [(t23_8 c nl lo nl)] <;> (show _ = _; kernel_rfl)
def k23_5 (c : CallT) (nl lo : Nat) : Rg → MM → Option (AV × MM) := (execC c modeF lo nl p23_47 (endK cf23.res) noE (endK cf23.res))
@[reducible] def b23_5 (c : CallT) (nl lo : Nat) (x10 x11 : AV) (M : MM) : Option (AV × MM) :=
 b23_7 c nl lo x10 x11 M
theorem t23_5 (c : CallT) (nl lo : Nat) (ρ : Rg) (M : MM) : k23_5 c nl lo ρ M = b23_5 c nl lo (ρ 10) (ρ 11) M := by
 have h : k23_5 c nl lo ρ M = (k23_7 c nl lo ρ M) := execC_seq c modeF lo nl p23_44 p23_46 (endK cf23.res) noE (endK cf23.res) ρ M
 rw [h]
 unfold b23_5; simp only [(t23_7 c nl lo)] <;> (show _ = _; kernel_rfl)
def k23_9 (c : CallT) (nl lo : Nat) : Rg → MM → Option (AV × MM) := (execC c modeF lo nl p23_26 (k23_5 c nl lo) noE (endK cf23.res))
@[reducible] def b23_9 (c : CallT) (nl lo : Nat) (x2 x3 x4 x10 x11 : AV) (M : MM) : Option (AV × MM) :=
 opt (fldA 0 2 true x3) fun v1 =>
 opt (fldA 0 2 true x4) fun v2 =>
 bnd (c 56 [v1, v2, x2, x10, x11] lo M) fun v6 M7 =>
 opt (unA .not v6) fun v8 =>
 isB v8 fun c9 => if c9 then (some (.tup [(.d (.sl [] 0)), (.bool false)], M7))
 else (b23_5 c nl lo x10 x11 M7)
theorem t23_9 (c : CallT) (nl lo : Nat) (ρ : Rg) (M : MM) : k23_9 c nl lo ρ M = b23_9 c nl lo (ρ 2) (ρ 3) (ρ 4) (ρ 10) (ρ 11) M := by
 have h : ∀ (z0 : Rg → MM → Option (AV × MM)), (execC c modeF lo nl p23_26 z0 noE (endK cf23.res)) ρ M = (opt (fldA 0 2 true (ρ 3)) fun v1 =>
 opt (fldA 0 2 true (ρ 4)) fun v2 =>
 bnd (c 56 [v1, v2, (ρ 2), (ρ 10), (ρ 11)] lo M) fun v6 M7 =>
 opt (unA .not v6) fun v8 =>
 isB v8 fun c9 => if c9 then (some (.tup [(.d (.sl [] 0)), (.bool false)], M7))
 else (z0 (sF (sF (sF (sF (sF (sF (sF ρ 33 v1) 34 v2) 35 (ρ 2)) 36 (ρ 10)) 37 (ρ 11)) 38 v6) 39 v8) M7)) := by intros; kernel_rfl
 refine (h (k23_5 c nl lo)).trans ?_
 unfold b23_9; simp only [(t23_5 c nl lo)] <;> (show _ = _; kernel_rfl)
def k23_4 (c : CallT) (nl lo : Nat) : Rg → MM → Option (AV × MM) := (execC c modeF lo nl p23_48 (endK cf23.res) noE (endK cf23.res))
@[reducible] def b23_4 (c : CallT) (nl lo : Nat) (x2 x3 x4 x10 x11 : AV) (M : MM) : Option (AV × MM) :=
 b23_9 c nl lo x2 x3 x4 x10 x11 M
theorem t23_4 (c : CallT) (nl lo : Nat) (ρ : Rg) (M : MM) : k23_4 c nl lo ρ M = b23_4 c nl lo (ρ 2) (ρ 3) (ρ 4) (ρ 10) (ρ 11) M := by
 have h : k23_4 c nl lo ρ M = (k23_9 c nl lo ρ M) := execC_seq c modeF lo nl p23_26 p23_47 (endK cf23.res) noE (endK cf23.res) ρ M
 rw [h]
 unfold b23_4; simp only [(t23_9 c nl lo)] <;> (show _ = _; kernel_rfl)
def k23_10 (c : CallT) (nl lo : Nat) : Rg → MM → Option (AV × MM) := (execC c modeF lo nl p23_21 (k23_4 c nl lo) noE (endK cf23.res))
@[reducible] def b23_10 (c : CallT) (nl lo : Nat) (x2 x3 x4 x10 : AV) (M : MM) : Option (AV × MM) :=
 opt (lenA x2) fun v2 =>
 bnd (istep c modeF false lo (.top M.nx) M.nx (.mkslice 27 2 40 [.str ⟨⟨[]⟩⟩, .d (.sl [] 0)] (.k v2) (.k v2)) [] M) fun v3 M4 =>
 b23_4 c nl lo x2 x3 x4 x10 v3 M4
theorem t23_10 (c : CallT) (nl lo : Nat) (ρ : Rg) (M : MM) : k23_10 c nl lo ρ M = b23_10 c nl lo (ρ 2) (ρ 3) (ρ 4) (ρ 10) M := by
 have h : ∀ (z0 : Rg → MM → Option (AV × MM)), (execC c modeF lo nl p23_21 z0 noE (endK cf23.res)) ρ M = (opt (lenA (ρ 2)) fun v2 =>
 bnd (istep c modeF false lo (.top M.nx) M.nx (.mkslice 27 2 40 [.str ⟨⟨[]⟩⟩, .d (.sl [] 0)] (.k v2) (.k v2)) [] M) fun v3 M4 =>
 z0 (sF (sF (sF (sF ρ 30 (ρ 2)) 31 v2) 32 v3) 11 v3) M4) := by intros; kernel_rfl
 refine (h (k23_4 c nl lo)).trans ?_
 unfold b23_10; simp only [(t23_4 c nl lo)] <;> (show _ = _; kernel_rfl)
def k23_3 (c : CallT) (nl lo : Nat) : Rg → MM → Option (AV × MM) := (execC c modeF lo nl p23_49 (endK cf23.res) noE (endK cf23.res))
@[reducible] def b23_3 (c : CallT) (nl lo : Nat) (x2 x3 x4 x10 : AV) (M : MM) : Option (AV × MM) :=
 b23_10 c nl lo x2 x3 x4 x10 M
theorem t23_3 (c : CallT) (nl lo : Nat) (ρ : Rg) (M : MM) : k23_3 c nl lo ρ M = b23_3 c nl lo (ρ 2) (ρ 3) (ρ 4) (ρ 10) M := by
 have h : k23_3 c nl lo ρ M = (k23_10 c nl lo ρ M) := execC_seq c modeF lo nl p23_21 p23_48 (endK cf23.res) noE (endK cf23.res) ρ M
 rw [h]
 unfold b23_3; simp only [(t23_10 c nl lo)] <;> (show _ = _; kernel_rfl)
def k23_11 (c : CallT) (nl lo : Nat) : Rg → MM → Option (AV × MM) := (execC c modeF lo nl p23_20 (k23_3 c nl lo) noE (endK cf23.res))
@[reducible] def b23_11 (c : CallT) (nl lo : Nat) (x2 x3 x4 : AV) (M : MM) : Option (AV × MM) :=
 opt (lenA x2) fun v2 =>
 bnd (istep c modeF false lo (.top M.nx) M.nx (.mkslice 4 1 1 [.bool false] (.k v2) (.k v2)) [] M) fun v3 M4 =>
 b23_3 c nl lo x2 x3 x4 v3 M4
theorem t23_11 (c : CallT) (nl lo : Nat) (ρ : Rg) (M : MM) : k23_11 c nl lo ρ M = b23_11 c nl lo (ρ 2) (ρ 3) (ρ 4) M := by
 have h : ∀ (z0 : Rg → MM → Option (AV × MM)), (execC c modeF lo nl p23_20 z0 noE (endK cf23.res)) ρ M = (opt (lenA (ρ 2)) fun v2 =>
 bnd (istep c modeF false lo (.top M.nx) M.nx (.mkslice 4 1 1 [.bool false] (.k v2) (.k v2)) [] M) fun v3 M4 =>
 z0 (sF (sF (sF (sF ρ 27 (ρ 2)) 28 v2) 29 v3) 10 v3) M4) := by intros; kernel_rfl
 refine (h (k23_3 c nl lo)).trans ?_
 unfold b23_11; simp only [(t23_3 c nl lo)] <;> (show _ = _; kernel_rfl)
def k23_2 (c : CallT) (nl lo : Nat) : Rg → MM → Option (AV × MM) := (execC c modeF lo nl p23_50 (endK cf23.res) noE (endK cf23.res))
@[reducible] def b23_2 (c : CallT) (nl lo : Nat) (x2 x3 x4 : AV) (M : MM) : Option (AV × MM) :=
 b23_11 c nl lo x2 x3 x4 M
theorem t23_2 (c : CallT) (nl lo : Nat) (ρ : Rg) (M : MM) : k23_2 c nl lo ρ M = b23_2 c nl lo (ρ 2) (ρ 3) (ρ 4) M := by
 have h : k23_2 c nl lo ρ M = (k23_11 c nl lo ρ M) := execC_seq c modeF lo nl p23_20 p23_49 (endK cf23.res) noE (endK cf23.res) ρ M
 rw [h]
 unfold b23_2; simp only [(t23_11 c nl lo)] <;> (show _ = _; kernel_rfl)
def k23_13 (c : CallT) (nl lo : Nat) (n : Nat) : Rg → MM → Option (AV × MM) := iterC (fun k ρ M => execC c modeF lo nl p23_16 k (fun i ρ M => if i = 0 then (k23_2 c nl lo) ρ M else noE i ρ M) (endK cf23.res) ρ M) n
def b23_13 (c : CallT) (nl lo : Nat) : Nat → AV → AV → AV → AV → AV → AV → MM → Option (AV × MM)
 | 0, _, _, _, _, _, _, _ => none
 | n + 1, x2, x3, x4, x14, x15, x16, M =>
 opt (binA .lss .none x16 x15) fun v4 =>
 isB v4 fun c5 => if c5 then (opt (ixsA 1 x14 x16) fun v7 =>
 opt (ld1A (lk M) v7) fun v8 =>
 opt (slslA 1 x2 none (some x16)) fun v13 =>
 opt (puA c (lk M) 48 [v13, v8]) fun v15 =>
 isB v15 fun c16 => if c16 then (some (.tup [(.d (.sl [] 0)), (.bool false)], M))
 else (opt (binA .add .none x16 (.i 1)) fun v19 =>
 (b23_13 c nl lo n) x2 x3 x4 x14 x15 v19 M))
 else (b23_2 c nl lo x2 x3 x4 M)
theorem t23_13 (c : CallT) (nl lo : Nat) : ∀ (n : Nat) (ρ : Rg) (M : MM), k23_13 c nl lo n ρ M = b23_13 c nl lo n (ρ 2) (ρ 3) (ρ 4) (ρ 14) (ρ 15) (ρ 16) M
 | 0, ρ, M => rfl
 | n + 1, ρ, M => by
  have h : ∀ (zb z0 : Rg → MM → Option (AV × MM)), execC c modeF lo nl p23_16 zb (fun i ρ M => if i = 0 then z0 ρ M else noE i ρ M) (endK cf23.res) ρ M = (opt (binA .lss .none (ρ 16) (ρ 15)) fun v4 =>
  isB v4 fun c5 => if c5 then (opt (ixsA 1 (ρ 14) (ρ 16)) fun v7 =>
  opt (ld1A (lk M) v7) fun v8 =>
  opt (slslA 1 (ρ 2) none (some (ρ 16))) fun v13 =>
  opt (puA c (lk M) 48 [v13, v8]) fun v15 =>
  isB v15 fun c16 => if c16 then (some (.tup [(.d (.sl [] 0)), (.bool false)], M))
  else (opt (binA .add .none (ρ 16) (.i 1)) fun v19 =>
  zb (sF (sF (sF (sF (sF (sF (sF (sF (sF (sF (sF (sF (sF ρ 17 v4) 18 (ρ 16)) 19 v7) 20 v8) 8 (ρ 16)) 9 v8) 21 (ρ 2)) 22 (ρ 16)) 23 v13) 24 v8) 25 v15) 26 v19) 16 v19) M))
  else (z0 (sF ρ 17 v4) M)) := by intros; kernel_rfl
  refine (h (k23_13 c nl lo n) (k23_2 c nl lo)).trans ?_
  unfold b23_13; simp only [(t23_2 c nl lo), (t23_13 c nl lo n)] <;> (show _ = _; kernel_rfl)
def k23_12 (c : CallT) (nl lo : Nat) : Rg → MM → Option (AV × MM) := (execC c modeF lo nl p23_19 (k23_2 c nl lo) noE (endK cf23.res))
@[reducible] def b23_12 (c : CallT) (nl lo : Nat) (x2 x3 x4 : AV) (M : MM) : Option (AV × MM) :=
 opt (lenA x2) fun v2 =>
 b23_13 c nl lo nl x2 x3 x4 x2 v2 (.i 0) M
theorem t23_12 (c : CallT) (nl lo : Nat) (ρ : Rg) (M : MM) : k23_12 c nl lo ρ M = b23_12 c nl lo (ρ 2) (ρ 3) (ρ 4) M := by
 have h : k23_12 c nl lo ρ M = (opt (lenA (ρ 2)) fun v2 =>
 k23_13 c nl lo nl (sF (sF (sF ρ 14 (ρ 2)) 15 v2) 16 (.i 0)) M) := by kernel_rfl
 rw [h]
 unfold b23_12; simp only [(t23_13 c nl lo nl)] <;> (show _ = _; kernel_rfl)
def k23_1 (c : CallT) (nl lo : Nat) : Rg → MM → Option (AV × MM) := (execC c modeF lo nl p23_51 (endK cf23.res) noE (endK cf23.res))
@[reducible] def b23_1 (c : CallT) (nl lo : Nat) (x2 x3 x4 : AV) (M : MM) : Option (AV × MM) :=
 b23_12 c nl lo x2 x3 x4 M
theorem t23_1 (c : CallT) (nl lo : Nat) (ρ : Rg) (M : MM) : k23_1 c nl lo ρ M = b23_1 c nl lo (ρ 2) (ρ 3) (ρ 4) M := by
 have h : k23_1 c nl lo ρ M = (k23_12 c nl lo ρ M) := execC_seq c modeF lo nl p23_19 p23_50 (endK cf23.res) noE (endK cf23.res) ρ M
 rw [h]
 unfold b23_1; simp only [(t23_12 c nl lo)] <;> (show _ = _; kernel_rfl)
def k23_14 (c : CallT) (nl lo : Nat) : Rg → MM → Option (AV × MM) := (execC c modeF lo nl p23_1 (k23_1 c nl lo) noE (endK cf23.res))
@[reducible] def b23_14 (c : CallT) (nl lo : Nat) (x0 x1 x2 : AV) (M : MM) : Option (AV × MM) :=
 opt (aggA x0) fun v1 =>
 upK M M.nx fun M2 =>
 opt (aggA x1) fun v3 =>
 upK M2 M2.nx fun M4 =>
 b23_1 c nl lo x2 v1 v3 M4
theorem t23_14 (c : CallT) (nl lo : Nat) (ρ : Rg) (M : MM) : k23_14 c nl lo ρ M = b23_14 c nl lo (ρ 0) (ρ 1) (ρ 2) M := by
 have h : ∀ (z0 : Rg → MM → Option (AV × MM)), (execC c modeF lo nl p23_1 z0 noE (endK cf23.res)) ρ M = (opt (aggA (ρ 0)) fun v1 =>
 upK M M.nx fun M2 =>
 opt (aggA (ρ 1)) fun v3 =>
 upK M2 M2.nx fun M4 =>
 z0 (sF (sF (sF (sF ρ 3 v1) 4 v3) 6 (.d (.sl [] 0))) 7 (.bool false)) M4) := by intros; kernel_rfl
 refine (h (k23_1 c nl lo)).trans ?_
 unfold b23_14; simp only [(t23_1 c nl lo)] <;> (show _ = _; kernel_rfl)
def k23_0 (c : CallT) (nl lo : Nat) : Rg → MM → Option (AV × MM) := (execC c modeF lo nl p23_52 (endK cf23.res) noE (endK cf23.res))
@[reducible] def b23_0 (c : CallT) (nl lo : Nat) (x0 x1 x2 : AV) (M : MM) : Option (AV × MM) :=
 b23_14 c nl lo x0 x1 x2 M
theorem t23_0 (c : CallT) (nl lo : Nat) (ρ : Rg) (M : MM) : k23_0 c nl lo ρ M = b23_0 c nl lo (ρ 0) (ρ 1) (ρ 2) M := by
 have h : k23_0 c nl lo ρ M = (k23_14 c nl lo ρ M) := execC_seq c modeF lo nl p23_1 p23_51 (endK cf23.res) noE (endK cf23.res) ρ M
 rw [h]
 unfold b23_0; simp only [(t23_14 c nl lo)] <;> (show _ = _; kernel_rfl)
def k23_15 (c : CallT) (nl lo : Nat) : Rg → MM → Option (AV × MM) := (execC c modeF lo nl p23_0 (k23_0 c nl lo) noE (endK cf23.res))
@[reducible] def b23_15 (c : CallT) (nl lo : Nat) (x0 x1 x2 : AV) (M : MM) : Option (AV × MM) :=
 b23_0 c nl lo x0 x1 x2 M
theorem t23_15 (c : CallT) (nl lo : Nat) (ρ : Rg) (M : MM) : k23_15 c nl lo ρ M = b23_15 c nl lo (ρ 0) (ρ 1) (ρ 2) M := by
 have h : ∀ (z0 : Rg → MM → Option (AV × MM)), (execC c modeF lo nl p23_0 z0 noE (endK cf23.res)) ρ M = (z0 (sF (sF ρ 3 (.tup [])) 4 (.tup [])) M) := by intros; kernel_rfl
 refine (h (k23_0 c nl lo)).trans ?_
 unfold b23_15; simp only [(t23_0 c nl lo)] <;> (show _ = _; kernel_rfl)
def s23 (c : CallT) (nl lo : Nat) (a0 a1 a2 : AV) (M : MM) : Option (AV × MM) :=
 b23_15 c nl lo a0 a1 a2 M
theorem e23 (c : CallT) (nl lo : Nat) (a0 a1 a2 : AV) (M : MM) : execC c modeF lo nl cf23.body (endK cf23.res) noE (endK cf23.res) (aF [a0, a1, a2]) M = s23 c nl lo a0 a1 a2 M := by
 have h : execC c modeF lo nl cf23.body (endK cf23.res) noE (endK cf23.res) (aF [a0, a1, a2]) M = (k23_15 c nl lo (aF [a0, a1, a2]) M) := execC_seq c modeF lo nl p23_0 p23_52 (endK cf23.res) noE (endK cf23.res) (aF [a0, a1, a2]) M
 refine h.trans ?_
 unfold s23; simp only [(t23_15 c nl lo)] <;> (show _ = _; kernel_rfl)
theorem q23 {c : CallT} (hc : Lim G c) (lo : Nat) (a0 a1 a2 : AV) (M : MM) : c 23 [a0, a1, a2] lo M = s23 c G.nl lo a0 a1 a2 M :=
 (hc.flow (cf := cf23) rfl w23 [a0, a1, a2] lo M).trans (e23 c G.nl lo a0 a1 a2 M)

/-! ### function 25 -/
theorem w25 : wfK cf25.nt cf25.body = true := by kernel_rfl
def k25_3 (c : CallT) (nl lo : Nat) : Rg → MM → Option (AV × MM) := (execC c modeF lo nl p25_18 (endK cf25.res) noE (endK cf25.res))
@[reducible] def b25_3 (c : CallT) (nl lo : Nat) (x3 : AV) (M : MM) : Option (AV × MM) :=
 some (x3, M)
theorem t25_3 (c : CallT) (nl lo : Nat) (ρ : Rg) (M : MM) : k25_3 c nl lo ρ M = b25_3 c nl lo (ρ 3) M := by
 kernel_rfl
def k25_5 (c : CallT) (nl lo : Nat) (n : Nat) : Rg → MM → Option (AV × MM) := iterC (fun k ρ M => execC c modeF lo nl p25_13 k (fun i ρ M => if i = 0 then (k25_3 c nl lo) ρ M else noE i ρ M) (endK cf25.res) ρ M) n
def b25_5 (c : CallT) (nl lo : Nat) : Nat → AV → AV → AV → AV → MM → Option (AV × MM)
 | 0, _, _, _, _, _ => none
 | n + 1, x3, x7, x8, x9, M =>
 opt (binA .lss .none x9 x8) fun v7 =>
 isB v7 fun c8 => if c8 then (opt (ixsA 2 x7 x9) fun v9 =>
 opt (ldnA (lk M) 2 v9) fun v10 =>
 upK M M.nx fun M12 =>
 opt (setcA 0 2 (.agg [.str ⟨⟨[]⟩⟩, .d (.sl [] 0)]) v10) fun v13 =>
 opt (fldA 0 2 true v13) fun v15 =>
 opt (puA c (lk M12) 25 [v15]) fun v16 =>
 opt (binA .add .none x3 v16) fun v17 =>
 opt (binA .add .none x9 (.i 1)) fun v19 =>
 (b25_5 c nl lo n) v17 x7 x8 v19 M12)
 else (b25_3 c nl lo x3 M)
theorem t25_5 (c : CallT) (nl lo : Nat) : ∀ (n : Nat) (ρ : Rg) (M : MM), k25_5 c nl lo n ρ M = b25_5 c nl lo n (ρ 3) (ρ 7) (ρ 8) (ρ 9) M
 | 0, ρ, M => rfl
 | n + 1, ρ, M => by
  have h : ∀ (zb z0 : Rg → MM → Option (AV × MM)), execC c modeF lo nl p25_13 zb (fun i ρ M => if i = 0 then z0 ρ M else noE i ρ M) (endK cf25.res) ρ M = (opt (binA .lss .none (ρ 9) (ρ 8)) fun v7 =>
  isB v7 fun c8 => if c8 then (opt (ixsA 2 (ρ 7) (ρ 9)) fun v9 =>
  opt (ldnA (lk M) 2 v9) fun v10 =>
  upK M M.nx fun M12 =>
  opt (setcA 0 2 (.agg [.str ⟨⟨[]⟩⟩, .d (.sl [] 0)]) v10) fun v13 =>
  opt (fldA 0 2 true v13) fun v15 =>
  opt (puA c (lk M12) 25 [v15]) fun v16 =>
  opt (binA .add .none (ρ 3) v16) fun v17 =>
  opt (binA .add .none (ρ 9) (.i 1)) fun v19 =>
  zb (sF (sF (sF (sF (sF (sF (sF (sF (sF (sF (sF (sF ρ 10 v7) 11 v9) 12 v10) 5 (.agg [.str ⟨⟨[]⟩⟩, .d (.sl [] 0)])) 5 v13) 13 (ρ 3)) 14 v15) 15 v16) 16 v17) 3 v17) 17 v19) 9 v19) M12)
  else (z0 (sF ρ 10 v7) M)) := by intros; kernel_rfl
  refine (h (k25_5 c nl lo n) (k25_3 c nl lo)).trans ?_
  unfold b25_5; simp only [(t25_3 c nl lo), (t25_5 c nl lo n)] <;> (show _ = _; kernel_rfl)
def k25_4 (c : CallT) (nl lo : Nat) : Rg → MM → Option (AV × MM) := (execC c modeF lo nl p25_16 (k25_3 c nl lo) noE (endK cf25.res))
@[reducible] def b25_4 (c : CallT) (nl lo : Nat) (x1 x3 : AV) (M : MM) : Option (AV × MM) :=
 opt (fldA 0 0 true x1) fun v3 =>
 opt (fldA 1 1 false x1) fun v4 =>
 opt (lenA v4) fun v5 =>
 b25_5 c nl lo nl x3 v4 v5 (.i 0) M
theorem t25_4 (c : CallT) (nl lo : Nat) (ρ : Rg) (M : MM) : k25_4 c nl lo ρ M = b25_4 c nl lo (ρ 1) (ρ 3) M := by
 have h : k25_4 c nl lo ρ M = (opt (fldA 0 0 true (ρ 1)) fun v3 =>
 opt (fldA 1 1 false (ρ 1)) fun v4 =>
 opt (lenA v4) fun v5 =>
 k25_5 c nl lo nl (sF (sF (sF (sF ρ 6 v3) 7 v4) 8 v5) 9 (.i 0)) M) := by kernel_rfl
 rw [h]
 unfold b25_4; simp only [(t25_5 c nl lo nl)] <;> (show _ = _; kernel_rfl)
def k25_2 (c : CallT) (nl lo : Nat) : Rg → MM → Option (AV × MM) := (execC c modeF lo nl p25_19 (endK cf25.res) noE (endK cf25.res))
@[reducible] def b25_2 (c : CallT) (nl lo : Nat) (x1 x3 : AV) (M : MM) : Option (AV × MM) :=
 b25_4 c nl lo x1 x3 M
theorem t25_2 (c : CallT) (nl lo : Nat) (ρ : Rg) (M : MM) : k25_2 c nl lo ρ M = b25_2 c nl lo (ρ 1) (ρ 3) M := by
 have h : k25_2 c nl lo ρ M = (k25_4 c nl lo ρ M) := execC_seq c modeF lo nl p25_16 p25_18 (endK cf25.res) noE (endK cf25.res) ρ M
 rw [h]
 unfold b25_2; simp only [(t25_4 c nl lo)] <;> (show _ = _; kernel_rfl)
def k25_6 (c : CallT) (nl lo : Nat) : Rg → MM → Option (AV × MM) := (execC c modeF lo nl p25_2 (k25_2 c nl lo) noE (endK cf25.res))
@[reducible] def b25_6 (c : CallT) (nl lo : Nat) (x1 : AV) (M : MM) : Option (AV × MM) :=
 b25_2 c nl lo x1 (.i 1) M
theorem t25_6 (c : CallT) (nl lo : Nat) (ρ : Rg) (M : MM) : k25_6 c nl lo ρ M = b25_6 c nl lo (ρ 1) M := by
 have h : ∀ (z0 : Rg → MM → Option (AV × MM)), (execC c modeF lo nl p25_2 z0 noE (endK cf25.res)) ρ M = (z0 (sF ρ 3 (.i 1)) M) := by intros; kernel_rfl
 refine (h (k25_2 c nl lo)).trans ?_
 unfold b25_6; simp only [(t25_2 c nl lo)] <;> (show _ = _; kernel_rfl)
def k25_1 (c : CallT) (nl lo : Nat) : Rg → MM → Option (AV × MM) := (execC c modeF lo nl p25_20 (endK cf25.res) noE (endK cf25.res))
@[reducible] def b25_1 (c : CallT) (nl lo : Nat) (x1 : AV) (M : MM) : Option (AV × MM) :=
 b25_6 c nl lo x1 M
theorem t25_1 (c : CallT) (nl lo : Nat) (ρ : Rg) (M : MM) : k25_1 c nl lo ρ M = b25_1 c nl lo (ρ 1) M := by
 have h : k25_1 c nl lo ρ M = (k25_6 c nl lo ρ M) := execC_seq c modeF lo nl p25_2 p25_19 (endK cf25.res) noE (endK cf25.res) ρ M
 rw [h]
 unfold b25_1; simp only [(t25_6 c nl lo)] <;> (show _ = _; kernel_rfl)
def k25_7 (c : CallT) (nl lo : Nat) : Rg → MM → Option (AV × MM) := (execC c modeF lo nl p25_1 (k25_1 c nl lo) noE (endK cf25.res))
@[reducible] def b25_7 (c : CallT) (nl lo : Nat) (x0 : AV) (M : MM) : Option (AV × MM) :=
 opt (aggA x0) fun v1 =>
 upK M M.nx fun M2 =>
 b25_1 c nl lo v1 M2
theorem t25_7 (c : CallT) (nl lo : Nat) (ρ : Rg) (M : MM) : k25_7 c nl lo ρ M = b25_7 c nl lo (ρ 0) M := by
 have h : ∀ (z0 : Rg → MM → Option (AV × MM)), (execC c modeF lo nl p25_1 z0 noE (endK cf25.res)) ρ M = (opt (aggA (ρ 0)) fun v1 =>
 upK M M.nx fun M2 =>
 z0 (sF (sF ρ 1 v1) 2 (.i 0)) M2) := by intros; kernel_rfl
 refine (h (k25_1 c nl lo)).trans ?_
 unfold b25_7; simp only [(t25_1 c nl lo)] <;> (show _ = _; kernel_rfl)
def k25_0 (c : CallT) (nl lo : Nat) : Rg → MM → Option (AV × MM) := (execC c modeF lo nl p25_21 (endK cf25.res) noE (endK cf25.res))
@[reducible] def b25_0 (c : CallT) (nl lo : Nat) (x0 : AV) (M : MM) : Option (AV × MM) :=
 b25_7 c nl lo x0 M
theorem t25_0 (c : CallT) (nl lo : Nat) (ρ : Rg) (M : MM) : k25_0 c nl lo ρ M = b25_0 c nl lo (ρ 0) M := by
 have h : k25_0 c nl lo ρ M = (k25_7 c nl lo ρ M) := execC_seq c modeF lo nl p25_1 p25_20 (endK cf25.res) noE (endK cf25.res) ρ M
 rw [h]
 unfold b25_0; simp only [(t25_7 c nl lo)] <;> (show _ = _; kernel_rfl)
def k25_8 (c : CallT) (nl lo : Nat) : Rg → MM → Option (AV × MM) := (execC c modeF lo nl p25_0 (k25_0 c nl lo) noE (endK cf25.res))
@[reducible] def b25_8 (c : CallT) (nl lo : Nat) (x0 : AV) (M : MM) : Option (AV × MM) :=
 b25_0 c nl lo x0 M
theorem t25_8 (c : CallT) (nl lo : Nat) (ρ : Rg) (M : MM) : k25_8 c nl lo ρ M = b25_8 c nl lo (ρ 0) M := by
 have h : ∀ (z0 : Rg → MM → Option (AV × MM)), (execC c modeF lo nl p25_0 z0 noE (endK cf25.res)) ρ M = (z0 (sF (sF ρ 1 (.tup [])) 5 (.tup [])) M) := by intros; kernel_rfl
 refine (h (k25_0 c nl lo)).trans ?_
 unfold b25_8; simp only [(t25_0 c nl lo)] <;> (show _ = _; kernel_rfl)
def s25 (c : CallT) (nl lo : Nat) (a0 : AV) (M : MM) : Option (AV × MM) :=
 b25_8 c nl lo a0 M
theorem e25 (c : CallT) (nl lo : Nat) (a0 : AV) (M : MM) : execC c modeF lo nl cf25.body (endK cf25.res) noE (endK cf25.res) (aF [a0]) M = s25 c nl lo a0 M := by
 have h : execC c modeF lo nl cf25.body (endK cf25.res) noE (endK cf25.res) (aF [a0]) M = (k25_8 c nl lo (aF [a0]) M) := execC_seq c modeF lo nl p25_0 p25_21 (endK cf25.res) noE (endK cf25.res) (aF [a0]) M
 refine h.trans ?_
 unfold s25; simp only [(t25_8 c nl lo)] <;> (show _ = _; kernel_rfl)
theorem q25 {c : CallT} (hc : Lim G c) (lo : Nat) (a0 : AV) (M : MM) : c 25 [a0] lo M = s25 c G.nl lo a0 M :=
 (hc.flow (cf := cf25) rfl w25 [a0] lo M).trans (e25 c G.nl lo a0 M)

/-! ### function 32 -/
theorem w32 : wfK cf32.nt cf32.body = true := by kernel_rfl
def k32_3 (c : CallT) (nl lo : Nat) : Rg → MM → Option (AV × MM) := (execC c modeF lo nl p32_18 (endK cf32.res) noE (endK cf32.res))
@[reducible] def b32_3 (c : CallT) (nl lo : Nat) (x3 : AV) (M : MM) : Option (AV × MM) :=
 some (x3, M)
theorem t32_3 (c : CallT) (nl lo : Nat) (ρ : Rg) (M : MM) : k32_3 c nl lo ρ M = b32_3 c nl lo (ρ 3) M := by
 kernel_rfl
def k32_5 (c : CallT) (nl lo : Nat) (n : Nat) : Rg → MM → Option (AV × MM) := iterC (fun k ρ M => execC c modeF lo nl p32_13 k (fun i ρ M => if i = 0 then (k32_3 c nl lo) ρ M else noE i ρ M) (endK cf32.res) ρ M) n
def b32_5 (c : CallT) (nl lo : Nat) : Nat → AV → AV → AV → AV → MM → Option (AV × MM)
 | 0, _, _, _, _, _ => none
 | n + 1, x3, x7, x8, x9, M =>
 opt (binA .lss .none x9 x8) fun v7 =>
 isB v7 fun c8 => if c8 then (opt (ixsA 2 x7 x9) fun v9 =>
 opt (ldnA (lk M) 2 v9) fun v10 =>
 upK M M.nx fun M12 =>
 opt (setcA 0 2 (.agg [.str ⟨⟨[]⟩⟩, .d (.sl [] 0)]) v10) fun v13 =>
 opt (fldA 0 2 true v13) fun v15 =>
 opt (puA c (lk M12) 32 [v15]) fun v16 =>
 opt (binA .add .none x3 v16) fun v17 =>
 opt (binA .add .none x9 (.i 1)) fun v19 =>
 (b32_5 c nl lo n) v17 x7 x8 v19 M12)
 else (b32_3 c nl lo x3 M)
theorem t32_5 (c : CallT) (nl lo : Nat) : ∀ (n : Nat) (ρ : Rg) (M : MM), k32_5 c nl lo n ρ M = b32_5 c nl lo n (ρ 3) (ρ 7) (ρ 8) (ρ 9) M
 | 0, ρ, M => rfl
 | n + 1, ρ, M => by
  have h : ∀ (zb z0 : Rg → MM → Option (AV × MM)), execC c modeF lo nl p32_13 zb (fun i ρ M => if i = 0 then z0 ρ M else noE i ρ M) (endK cf32.res) ρ M = (opt (binA .lss .none (ρ 9) (ρ 8)) fun v7 =>
  isB v7 fun c8 => if c8 then (opt (ixsA 2 (ρ 7) (ρ 9)) fun v9 =>
  opt (ldnA (lk M) 2 v9) fun v10 =>
  upK M M.nx fun M12 =>
  opt (setcA 0 2 (.agg [.str ⟨⟨[]⟩⟩, .d (.sl [] 0)]) v10) fun v13 =>
  opt (fldA 0 2 true v13) fun v15 =>
  opt (puA c (lk M12) 32 [v15]) fun v16 =>
  opt (binA .add .none (ρ 3) v16) fun v17 =>
  opt (binA .add .none (ρ 9) (.i 1)) fun v19 =>
  zb (sF (sF (sF (sF (sF (sF (sF (sF (sF (sF (sF (sF ρ 10 v7) 11 v9) 12 v10) 5 (.agg [.str ⟨⟨[]⟩⟩, .d (.sl [] 0)])) 5 v13) 13 (ρ 3)) 14 v15) 15 v16) 16 v17) 3 v17) 17 v19) 9 v19) M12)
  else (z0 (sF ρ 10 v7) M)) := by intros; kernel_rfl
  refine (h (k32_5 c nl lo n) (k32_3 c nl lo)).trans ?_
  unfold b32_5; simp only [(t32_3 c nl lo), (t32_5 c nl lo n)] <;> (show _ = _; kernel_rfl)
def k32_4 (c : CallT) (nl lo : Nat) : Rg → MM → Option (AV × MM) := (execC c modeF lo nl p32_16 (k32_3 c nl lo) noE (endK cf32.res))
@[reducible] def b32_4 (c : CallT) (nl lo : Nat) (x1 x3 : AV) (M : MM) : Option (AV × MM) :=
 opt (fldA 0 0 true x1) fun v3 =>
 opt (fldA 1 1 false x1) fun v4 =>
 opt (lenA v4) fun v5 =>
 b32_5 c nl lo nl x3 v4 v5 (.i 0) M
theorem t32_4 (c : CallT) (nl lo : Nat) (ρ : Rg) (M : MM) : k32_4 c nl lo ρ M = b32_4 c nl lo (ρ 1) (ρ 3) M := by
 have h : k32_4 c nl lo ρ M = (opt (fldA 0 0 true (ρ 1)) fun v3 =>
 opt (fldA 1 1 false (ρ 1)) fun v4 =>
 opt (lenA v4) fun v5 =>
 k32_5 c nl lo nl (sF (sF (sF (sF ρ 6 v3) 7 v4) 8 v5) 9 (.i 0)) M) := by kernel_rfl
 rw [h]
 unfold b32_4; simp only [(t32_5 c nl lo nl)] <;> (show _ = _; kernel_rfl)
def k32_2 (c : CallT) (nl lo : Nat) : Rg → MM → Option (AV × MM) := (execC c modeF lo nl p32_19 (endK cf32.res) noE (endK cf32.res))
@[reducible] def b32_2 (c : CallT) (nl lo : Nat) (x1 x3 : AV) (M : MM) : Option (AV × MM) :=
 b32_4 c nl lo x1 x3 M
theorem t32_2 (c : CallT) (nl lo : Nat) (ρ : Rg) (M : MM) : k32_2 c nl lo ρ M = b32_2 c nl lo (ρ 1) (ρ 3) M := by
 have h : k32_2 c nl lo ρ M = (k32_4 c nl lo ρ M) := execC_seq c modeF lo nl p32_16 p32_18 (endK cf32.res) noE (endK cf32.res) ρ M
 rw [h]
 unfold b32_2; simp only [(t32_4 c nl lo)] <;> (show _ = _; kernel_rfl)
def k32_6 (c : CallT) (nl lo : Nat) : Rg → MM → Option (AV × MM) := (execC c modeF lo nl p32_2 (k32_2 c nl lo) noE (endK cf32.res))
@[reducible] def b32_6 (c : CallT) (nl lo : Nat) (x1 : AV) (M : MM) : Option (AV × MM) :=
 b32_2 c nl lo x1 (.i 1) M
theorem t32_6 (c : CallT) (nl lo : Nat) (ρ : Rg) (M : MM) : k32_6 c nl lo ρ M = b32_6 c nl lo (ρ 1) M := by
 have h : ∀ (z0 : Rg → MM → Option (AV × MM)), (execC c modeF lo nl p32_2 z0 noE (endK cf32.res)) ρ M = (z0 (sF ρ 3 (.i 1)) M) := by intros; kernel_rfl
 refine (h (k32_2 c nl lo)).trans ?_
 unfold b32_6; simp only [(t32_2 c nl lo)] <;> (show _ = _; kernel_rfl)
def k32_1 (c : CallT) (nl lo : Nat) : Rg → MM → Option (AV × MM) := (execC c modeF lo nl p32_20 (endK cf32.res) noE (endK cf32.res))
@[reducible] def b32_1 (c : CallT) (nl lo : Nat) (x1 : AV) (M : MM) : Option (AV × MM) :=
 b32_6 c nl lo x1 M
theorem t32_1 (c : CallT) (nl lo : Nat) (ρ : Rg) (M : MM) : k32_1 c nl lo ρ M = b32_1 c nl lo (ρ 1) M := by
 have h : k32_1 c nl lo ρ M = (k32_6 c nl lo ρ M) := execC_seq c modeF lo nl p32_2 p32_19 (endK cf32.res) noE (endK cf32.res) ρ M
 rw [h]
 unfold b32_1; simp only [(t32_6 c nl lo)] <;> (show _ = _; kernel_rfl)
def k32_7 (c : CallT) (nl lo : Nat) : Rg → MM → Option (AV × MM) := (execC c modeF lo nl p32_1 (k32_1 c nl lo) noE (endK cf32.res))
@[reducible] def b32_7 (c : CallT) (nl lo : Nat) (x0 : AV) (M : MM) : Option (AV × MM) :=
 opt (aggA x0) fun v1 =>
 upK M M.nx fun M2 =>
 b32_1 c nl lo v1 M2
theorem t32_7 (c : CallT) (nl lo : Nat) (ρ : Rg) (M : MM) : k32_7 c nl lo ρ M = b32_7 c nl lo (ρ 0) M := by
 have h : ∀ (z0 : Rg → MM → Option (AV × MM)), (execC c modeF lo nl p32_1 z0 noE (endK cf32.res)) ρ M = (opt (aggA (ρ 0)) fun v1 =>
 upK M M.nx fun M2 =>
 z0 (sF (sF ρ 1 v1) 2 (.i 0)) M2) := by intros; kernel_rfl
 refine (h (k32_1 c nl lo)).trans ?_
 unfold b32_7; simp only [(t32_1 c nl lo)] <;> (show _ = _; kernel_rfl)
def k32_0 (c : CallT) (nl lo : Nat) : Rg → MM → Option (AV × MM) := (execC c modeF lo nl p32_21 (endK cf32.res) noE (endK cf32.res))
@[reducible] def b32_0 (c : CallT) (nl lo : Nat) (x0 : AV) (M : MM) : Option (AV × MM) :=
 b32_7 c nl lo x0 M
theorem t32_0 (c : CallT) (nl lo : Nat) (ρ : Rg) (M : MM) : k32_0 c nl lo ρ M = b32_0 c nl lo (ρ 0) M := by
 have h : k32_0 c nl lo ρ M = (k32_7 c nl lo ρ M) := execC_seq c modeF lo nl p32_1 p32_20 (endK cf32.res) noE (endK cf32.res) ρ M
 rw [h]
 unfold b32_0; simp only [(t32_7 c nl lo)] <;> (show _ = _; kernel_rfl)
def k32_8 (c : CallT) (nl lo : Nat) : Rg → MM → Option (AV × MM) := (execC c modeF lo nl p32_0 (k32_0 c nl lo) noE (endK cf32.res))
@[reducible] def b32_8 (c : CallT) (nl lo : Nat) (x0 : AV) (M : MM) : Option (AV × MM) :=
 b32_0 c nl lo x0 M
theorem t32_8 (c : CallT) (nl lo : Nat) (ρ : Rg) (M : MM) : k32_8 c nl lo ρ M = b32_8 c nl lo (ρ 0) M := by
 have h : ∀ (z0 : Rg → MM → Option (AV × MM)), (execC c modeF lo nl p32_0 z0 noE (endK cf32.res)) ρ M = (z0 (sF (sF ρ 1 (.tup [])) 5 (.tup [])) M) := by intros; kernel_rfl
 refine (h (k32_0 c nl lo)).trans ?_
 unfold b32_8; simp only [(t32_0 c nl lo)] <;> (show _ = _; kernel_rfl)
def s32 (c : CallT) (nl lo : Nat) (a0 : AV) (M : MM) : Option (AV × MM) :=
 b32_8 c nl lo a0 M
theorem e32 (c : CallT) (nl lo : Nat) (a0 : AV) (M : MM) : execC c modeF lo nl cf32.body (endK cf32.res) noE (endK cf32.res) (aF [a0]) M = s32 c nl lo a0 M := by
 have h : execC c modeF lo nl cf32.body (endK cf32.res) noE (endK cf32.res) (aF [a0]) M = (k32_8 c nl lo (aF [a0]) M) := execC_seq c modeF lo nl p32_0 p32_21 (endK cf32.res) noE (endK cf32.res) (aF [a0]) M
 refine h.trans ?_
 unfold s32; simp only [(t32_8 c nl lo)] <;> (show _ = _; kernel_rfl)
theorem q32 {c : CallT} (hc : Lim G c) (lo : Nat) (a0 : AV) (M : MM) : c 32 [a0] lo M = s32 c G.nl lo a0 M :=
 (hc.flow (cf := cf32) rfl w32 [a0] lo M).trans (e32 c G.nl lo a0 M)

/-! ### function 37 -/
theorem w37 : wfK cf37.nt cf37.body = true := by kernel_rfl
def s37 (c : CallT) (nl lo : Nat) (a0 : AV) (M : MM) : Option (AV × MM) :=
 opt (binA .eql .none a0 (.str ⟨⟨[73, 110, 116]⟩⟩)) fun v3 =>
 opt (gdp v3 false (some a0)) fun v5 =>
 opt (gdp v3 false (binA .eql .none v5 (.str ⟨⟨[66, 121, 116, 101]⟩⟩))) fun v6 =>
 opt (pickA v3 (.bool true) v6) fun v7 =>
 opt (gdp v7 false (some a0)) fun v9 =>
 opt (gdp v7 false (binA .eql .none v9 (.str ⟨⟨[66, 111, 111, 108]⟩⟩))) fun v10 =>
 opt (pickA v7 (.bool true) v10) fun v11 =>
 opt (gdp v11 false (some a0)) fun v13 =>
 opt (gdp v11 false (binA .eql .none v13 (.str ⟨⟨[65, 114, 114, 97, 121]⟩⟩))) fun v14 =>
 opt (pickA v11 (.bool true) v14) fun v15 =>
 some (v15, M)
theorem e37 (c : CallT) (nl lo : Nat) (a0 : AV) (M : MM) : execC c modeF lo nl cf37.body (endK cf37.res) noE (endK cf37.res) (aF [a0]) M = s37 c nl lo a0 M := by
 kernel_rfl
theorem q37 {c : CallT} (hc : Lim G c) (lo : Nat) (a0 : AV) (M : MM) : c 37 [a0] lo M = s37 c G.nl lo a0 M :=
 (hc.flow (cf := cf37) rfl w37 [a0] lo M).trans (e37 c G.nl lo a0 M)

/-! ### function 38 -/
theorem w38 : wfK cf38.nt cf38.body = true := by kernel_rfl
def s38 (c : CallT) (nl lo : Nat) (a0 : AV) (M : MM) : Option (AV × MM) :=
 opt (binA .eql .none a0 (.str ⟨⟨[73, 110, 116]⟩⟩)) fun v3 =>
 opt (gdp v3 false (some a0)) fun v5 =>
 opt (gdp v3 false (binA .eql .none v5 (.str ⟨⟨[66, 121, 116, 101]⟩⟩))) fun v6 =>
 opt (pickA v3 (.bool true) v6) fun v7 =>
 opt (gdp v7 false (some a0)) fun v9 =>
 opt (gdp v7 false (binA .eql .none v9 (.str ⟨⟨[66, 111, 111, 108]⟩⟩))) fun v10 =>
 opt (pickA v7 (.bool true) v10) fun v11 =>
 opt (gdp v11 false (some a0)) fun v13 =>
 opt (gdp v11 false (binA .eql .none v13 (.str ⟨⟨[65, 114, 114, 97, 121]⟩⟩))) fun v14 =>
 opt (pickA v11 (.bool true) v14) fun v15 =>
 some (v15, M)
theorem e38 (c : CallT) (nl lo : Nat) (a0 : AV) (M : MM) : execC c modeF lo nl cf38.body (endK cf38.res) noE (endK cf38.res) (aF [a0]) M = s38 c nl lo a0 M := by
 kernel_rfl
theorem q38 {c : CallT} (hc : Lim G c) (lo : Nat) (a0 : AV) (M : MM) : c 38 [a0] lo M = s38 c G.nl lo a0 M :=
 (hc.flow (cf := cf38) rfl w38 [a0] lo M).trans (e38 c G.nl lo a0 M)

/-! ### function 41 -/
theorem w41 : wfK cf41.nt cf41.body = true := by kernel_rfl
def k41_3 (c : CallT) (nl lo : Nat) : Rg → MM → Option (AV × MM) := (execC c modeF lo nl p41_28 (endK cf41.res) noE (endK cf41.res))
@[reducible] def b41_3 (c : CallT) (nl lo : Nat) (M : MM) : Option (AV × MM) :=
 some ((.bool true), M)
theorem t41_3 (c : CallT) (nl lo : Nat) (ρ : Rg) (M : MM) : k41_3 c nl lo ρ M = b41_3 c nl lo M := by
 kernel_rfl
def k41_5 (c : CallT) (nl lo : Nat) (n : Nat) : Rg → MM → Option (AV × MM) := iterC (fun k ρ M => execC c modeF lo nl p41_23 k (fun i ρ M => if i = 0 then (k41_3 c nl lo) ρ M else noE i ρ M) (endK cf41.res) ρ M) n
def b41_5 (c : CallT) (nl lo : Nat) : Nat → AV → AV → AV → AV → AV → MM → Option (AV × MM)
 | 0, _, _, _, _, _, _ => none
 | n + 1, x1, x2, x15, x16, x17, M =>
 opt (binA .lss .none x17 x16) fun v5 =>
 isB v5 fun c6 => if c6 then (opt (ixsA 2 x15 x17) fun v8 =>
 opt (ldnA (lk M) 2 v8) fun v9 =>
 upK M M.nx fun M11 =>
 opt (setcA 0 2 (.agg [.str ⟨⟨[]⟩⟩, .d (.sl [] 0)]) v9) fun v13 =>
 opt (ixsA 2 x1 x17) fun v16 =>
 opt (ldnA (lk M11) 2 v16) fun v17 =>
 upK M11 M11.nx fun M19 =>
 opt (setcA 0 2 (.agg [.str ⟨⟨[]⟩⟩, .d (.sl [] 0)]) v17) fun v20 =>
 opt (fldA 0 2 true v13) fun v22 =>
 opt (fldA 0 2 true v20) fun v23 =>
 bnd (istep c modeF false lo (.top M19.nx) M19.nx (.callw [52] (.k x2) [(.k v22), (.k v23)]) [] M19) fun v24 M25 =>
 opt (unA .not v24) fun v26 =>
 isB v26 fun c27 => if c27 then (some ((.bool false), M25))
 else (opt (binA .add .none x17 (.i 1)) fun v29 =>
 (b41_5 c nl lo n) x1 x2 x15 x16 v29 M25))
 else (b41_3 c nl lo M)
theorem t41_5 (c : CallT) (nl lo : Nat) : ∀ (n : Nat) (ρ : Rg) (M : MM), k41_5 c nl lo n ρ M = b41_5 c nl lo n (ρ 1) (ρ 2) (ρ 15) (ρ 16) (ρ 17) M
 | 0, ρ, M => rfl
 | n + 1, ρ, M => by
  have h : ∀ (zb z0 : Rg → MM → Option (AV × MM)), execC c modeF lo nl p41_23 zb (fun i ρ M => if i = 0 then z0 ρ M else noE i ρ M) (endK cf41.res) ρ M = (opt (binA .lss .none (ρ 17) (ρ 16)) fun v5 =>
  isB v5 fun c6 => if c6 then (opt (ixsA 2 (ρ 15) (ρ 17)) fun v8 =>
  opt (ldnA (lk M) 2 v8) fun v9 =>
  upK M M.nx fun M11 =>
  opt (setcA 0 2 (.agg [.str ⟨⟨[]⟩⟩, .d (.sl [] 0)]) v9) fun v13 =>
  opt (ixsA 2 (ρ 1) (ρ 17)) fun v16 =>
  opt (ldnA (lk M11) 2 v16) fun v17 =>
  upK M11 M11.nx fun M19 =>
  opt (setcA 0 2 (.agg [.str ⟨⟨[]⟩⟩, .d (.sl [] 0)]) v17) fun v20 =>
  opt (fldA 0 2 true v13) fun v22 =>
  opt (fldA 0 2 true v20) fun v23 =>
  bnd (istep c modeF false lo (.top M19.nx) M19.nx (.callw [52] (.k (ρ 2)) [(.k v22), (.k v23)]) [] M19) fun v24 M25 =>
  opt (unA .not v24) fun v26 =>
  isB v26 fun c27 => if c27 then (some ((.bool false), M25))
  else (opt (binA .add .none (ρ 17) (.i 1)) fun v29 =>
  zb (sF (sF (sF (sF (sF (sF (sF (sF (sF (sF (sF (sF (sF (sF (sF (sF (sF (sF (sF (sF ρ 18 v5) 19 (ρ 17)) 20 v8) 21 v9) 8 (.agg [.str ⟨⟨[]⟩⟩, .d (.sl [] 0)])) 7 (ρ 17)) 8 v13) 22 (ρ 1)) 23 (ρ 17)) 24 v16) 25 v17) 9 (.agg [.str ⟨⟨[]⟩⟩, .d (.sl [] 0)])) 9 v20) 26 (ρ 2)) 27 v22) 28 v23) 29 v24) 30 v26) 31 v29) 17 v29) M25))
  else (z0 (sF ρ 18 v5) M)) := by intros; kernel_rfl
  refine (h (k41_5 c nl lo n) (k41_3 c nl lo)).trans ?_
  unfold b41_5; simp only [(t41_3 c nl lo), (t41_5 c nl lo n)] <;> (show _ = _; kernel_rfl)
def k41_4 (c : CallT) (nl lo : Nat) : Rg → MM → Option (AV × MM) := (execC c modeF lo nl p41_26 (k41_3 c nl lo) noE (endK cf41.res))
@[reducible] def b41_4 (c : CallT) (nl lo : Nat) (x0 x1 x2 : AV) (M : MM) : Option (AV × MM) :=
 opt (lenA x0) fun v3 =>
 b41_5 c nl lo nl x1 x2 x0 v3 (.i 0) M
theorem t41_4 (c : CallT) (nl lo : Nat) (ρ : Rg) (M : MM) : k41_4 c nl lo ρ M = b41_4 c nl lo (ρ 0) (ρ 1) (ρ 2) M := by
 have h : k41_4 c nl lo ρ M = (opt (lenA (ρ 0)) fun v3 =>
 k41_5 c nl lo nl (sF (sF (sF ρ 15 (ρ 0)) 16 v3) 17 (.i 0)) M) := by kernel_rfl
 rw [h]
 unfold b41_4; simp only [(t41_5 c nl lo nl)] <;> (show _ = _; kernel_rfl)
def k41_2 (c : CallT) (nl lo : Nat) : Rg → MM → Option (AV × MM) := (execC c modeF lo nl p41_29 (endK cf41.res) noE (endK cf41.res))
@[reducible] def b41_2 (c : CallT) (nl lo : Nat) (x0 x1 x2 : AV) (M : MM) : Option (AV × MM) :=
 b41_4 c nl lo x0 x1 x2 M
theorem t41_2 (c : CallT) (nl lo : Nat) (ρ : Rg) (M : MM) : k41_2 c nl lo ρ M = b41_2 c nl lo (ρ 0) (ρ 1) (ρ 2) M := by
 have h : k41_2 c nl lo ρ M = (k41_4 c nl lo ρ M) := execC_seq c modeF lo nl p41_26 p41_28 (endK cf41.res) noE (endK cf41.res) ρ M
 rw [h]
 unfold b41_2; simp only [(t41_4 c nl lo)] <;> (show _ = _; kernel_rfl)
def k41_6 (c : CallT) (nl lo : Nat) : Rg → MM → Option (AV × MM) := (execC c modeF lo nl p41_6 (k41_2 c nl lo) noE (endK cf41.res))
@[reducible] def b41_6 (c : CallT) (nl lo : Nat) (x0 x1 x2 : AV) (M : MM) : Option (AV × MM) :=
 opt (lenA x0) fun v2 =>
 opt (lenA x1) fun v4 =>
 opt (binA .neq .none v2 v4) fun v5 =>
 isB v5 fun c6 => if c6 then (some ((.bool false), M))
 else (b41_2 c nl lo x0 x1 x2 M)
theorem t41_6 (c : CallT) (nl lo : Nat) (ρ : Rg) (M : MM) : k41_6 c nl lo ρ M = b41_6 c nl lo (ρ 0) (ρ 1) (ρ 2) M := by
 have h : ∀ (z0 : Rg → MM → Option (AV × MM)), (execC c modeF lo nl p41_6 z0 noE (endK cf41.res)) ρ M = (opt (lenA (ρ 0)) fun v2 =>
 opt (lenA (ρ 1)) fun v4 =>
 opt (binA .neq .none v2 v4) fun v5 =>
 isB v5 fun c6 => if c6 then (some ((.bool false), M))
 else (z0 (sF (sF (sF (sF (sF ρ 10 (ρ 0)) 11 v2) 12 (ρ 1)) 13 v4) 14 v5) M)) := by intros; kernel_rfl
 refine (h (k41_2 c nl lo)).trans ?_
 unfold b41_6; simp only [(t41_2 c nl lo)] <;> (show _ = _; kernel_rfl)
def k41_1 (c : CallT) (nl lo : Nat) : Rg → MM → Option (AV × MM) := (execC c modeF lo nl p41_30 (endK cf41.res) noE (endK cf41.res))
@[reducible] def b41_1 (c : CallT) (nl lo : Nat) (x0 x1 x2 : AV) (M : MM) : Option (AV × MM) :=
 b41_6 c nl lo x0 x1 x2 M
theorem t41_1 (c : CallT) (nl lo : Nat) (ρ : Rg) (M : MM) : k41_1 c nl lo ρ M = b41_1 c nl lo (ρ 0) (ρ 1) (ρ 2) M := by
 have h : k41_1 c nl lo ρ M = (k41_6 c nl lo ρ M) := execC_seq c modeF lo nl p41_6 p41_29 (endK cf41.res) noE (endK cf41.res) ρ M
 rw [h]
 unfold b41_1; simp only [(t41_6 c nl lo)] <;> (show _ = _; kernel_rfl)
def k41_7 (c : CallT) (nl lo : Nat) : Rg → MM → Option (AV × MM) := (execC c modeF lo nl p41_1 (k41_1 c nl lo) noE (endK cf41.res))
@[reducible] def b41_7 (c : CallT) (nl lo : Nat) (x0 x1 x2 : AV) (M : MM) : Option (AV × MM) :=
 b41_1 c nl lo x0 x1 x2 M
theorem t41_7 (c : CallT) (nl lo : Nat) (ρ : Rg) (M : MM) : k41_7 c nl lo ρ M = b41_7 c nl lo (ρ 0) (ρ 1) (ρ 2) M := by
 have h : ∀ (z0 : Rg → MM → Option (AV × MM)), (execC c modeF lo nl p41_1 z0 noE (endK cf41.res)) ρ M = (z0 (sF ρ 6 (.bool false)) M) := by intros; kernel_rfl
 refine (h (k41_1 c nl lo)).trans ?_
 unfold b41_7; simp only [(t41_1 c nl lo)] <;> (show _ = _; kernel_rfl)
def k41_0 (c : CallT) (nl lo : Nat) : Rg → MM → Option (AV × MM) := (execC c modeF lo nl p41_31 (endK cf41.res) noE (endK cf41.res))
@[reducible] def b41_0 (c : CallT) (nl lo : Nat) (x0 x1 x2 : AV) (M : MM) : Option (AV × MM) :=
 b41_7 c nl lo x0 x1 x2 M
theorem t41_0 (c : CallT) (nl lo : Nat) (ρ : Rg) (M : MM) : k41_0 c nl lo ρ M = b41_0 c nl lo (ρ 0) (ρ 1) (ρ 2) M := by
 have h : k41_0 c nl lo ρ M = (k41_7 c nl lo ρ M) := execC_seq c modeF lo nl p41_1 p41_30 (endK cf41.res) noE (endK cf41.res) ρ M
 rw [h]
 unfold b41_0; simp only [(t41_7 c nl lo)] <;> (show _ = _; kernel_rfl)
def k41_8 (c : CallT) (nl lo : Nat) : Rg → MM → Option (AV × MM) := (execC c modeF lo nl p41_0 (k41_0 c nl lo) noE (endK cf41.res))
@[reducible] def b41_8 (c : CallT) (nl lo : Nat) (x0 x1 x2 : AV) (M : MM) : Option (AV × MM) :=
 b41_0 c nl lo x0 x1 x2 M
theorem t41_8 (c : CallT) (nl lo : Nat) (ρ : Rg) (M : MM) : k41_8 c nl lo ρ M = b41_8 c nl lo (ρ 0) (ρ 1) (ρ 2) M := by
 have h : ∀ (z0 : Rg → MM → Option (AV × MM)), (execC c modeF lo nl p41_0 z0 noE (endK cf41.res)) ρ M = (z0 (sF (sF ρ 8 (.tup [])) 9 (.tup [])) M) := by intros; kernel_rfl
 refine (h (k41_0 c nl lo)).trans ?_
 unfold b41_8; simp only [(t41_0 c nl lo)] <;> (show _ = _; kernel_rfl)
def s41 (c : CallT) (nl lo : Nat) (a0 a1 a2 : AV) (M : MM) : Option (AV × MM) :=
 b41_8 c nl lo a0 a1 a2 M
theorem e41 (c : CallT) (nl lo : Nat) (a0 a1 a2 : AV) (M : MM) : execC c modeF lo nl cf41.body (endK cf41.res) noE (endK cf41.res) (aF [a0, a1, a2]) M = s41 c nl lo a0 a1 a2 M := by
 have h : execC c modeF lo nl cf41.body (endK cf41.res) noE (endK cf41.res) (aF [a0, a1, a2]) M = (k41_8 c nl lo (aF [a0, a1, a2]) M) := execC_seq c modeF lo nl p41_0 p41_31 (endK cf41.res) noE (endK cf41.res) (aF [a0, a1, a2]) M
 refine h.trans ?_
 unfold s41; simp only [(t41_8 c nl lo)] <;> (show _ = _; kernel_rfl)
theorem q41 {c : CallT} (hc : Lim G c) (lo : Nat) (a0 a1 a2 : AV) (M : MM) : c 41 [a0, a1, a2] lo M = s41 c G.nl lo a0 a1 a2 M :=
 (hc.flow (cf := cf41) rfl w41 [a0, a1, a2] lo M).trans (e41 c G.nl lo a0 a1 a2 M)

/-! ### function 43 -/
theorem w43 : wfK cf43.nt cf43.body = true := by kernel_rfl
def s43 (c : CallT) (nl lo : Nat) (a0 : AV) (M : MM) : Option (AV × MM) :=
 bumpK M 11 fun M2 =>
 opt (nilcA a0) fun v4 =>
 opt (fadA 1 v4) fun v5 =>
 opt (ld1A (look M2.mem (.mk M.nx 11 7 true)) v5) fun v6 =>
 opt (nilcA a0) fun v8 =>
 opt (fadA 0 v8) fun v9 =>
 opt (ld1A (look M2.mem (.mk M.nx 11 112 true)) v9) fun v10 =>
 opt (lenA v10) fun v11 =>
 opt (binA .lss .none v6 v11) fun v12 =>
 some (v12, M2)
theorem e43 (c : CallT) (nl lo : Nat) (a0 : AV) (M : MM) : execC c modeF lo nl cf43.body (endK cf43.res) noE (endK cf43.res) (aF [a0]) M = s43 c nl lo a0 M := by
 kernel_rfl
theorem q43 {c : CallT} (hc : Lim G c) (lo : Nat) (a0 : AV) (M : MM) : c 43 [a0] lo M = s43 c G.nl lo a0 M :=
 (hc.flow (cf := cf43) rfl w43 [a0] lo M).trans (e43 c G.nl lo a0 M)

/-! ### function 44 -/
theorem w44 : wfK cf44.nt cf44.body = true := by kernel_rfl
def k44_4 (c : CallT) (nl lo : Nat) : Rg → MM → Option (AV × MM) := (execC c modeF lo nl p44_13 (endK cf44.res) noE (endK cf44.res))
@[reducible] def b44_4 (c : CallT) (nl lo : Nat) (x0 : AV) (M : MM) : Option (AV × MM) :=
 some (x0, M)
theorem t44_4 (c : CallT) (nl lo : Nat) (ρ : Rg) (M : MM) : k44_4 c nl lo ρ M = b44_4 c nl lo (ρ 0) M := by
 kernel_rfl
def k44_5 (c : CallT) (nl lo : Nat) : Rg → MM → Option (AV × MM) := (execC c modeF lo nl p44_11 (k44_4 c nl lo) noE (endK cf44.res))
@[reducible] def b44_5 (c : CallT) (nl lo : Nat) (x0 x1 : AV) (M : MM) : Option (AV × MM) :=
 opt (binA .lss .none x0 (.i 0)) fun v4 =>
 isB v4 fun c5 => if c5 then (opt (binA .add .none x0 x1) fun v8 =>
 b44_4 c nl lo v8 M)
 else (b44_4 c nl lo x0 M)
theorem t44_5 (c : CallT) (nl lo : Nat) (ρ : Rg) (M : MM) : k44_5 c nl lo ρ M = b44_5 c nl lo (ρ 0) (ρ 1) M := by
 have h : ∀ (z0 : Rg → MM → Option (AV × MM)), (execC c modeF lo nl p44_11 z0 noE (endK cf44.res)) ρ M = (opt (binA .lss .none (ρ 0) (.i 0)) fun v4 =>
 isB v4 fun c5 => if c5 then (opt (binA .add .none (ρ 0) (ρ 1)) fun v8 =>
 z0 (sF (sF (sF (sF (sF (sF ρ 10 (ρ 0)) 11 v4) 12 (ρ 0)) 13 (ρ 1)) 14 v8) 0 v8) M)
 else (z0 (sF (sF ρ 10 (ρ 0)) 11 v4) M)) := by intros; kernel_rfl
 refine (h (k44_4 c nl lo)).trans ?_
 unfold b44_5; simp only [(t44_4 c nl lo)] <;> (show _ = _; kernel_rfl)
def k44_3 (c : CallT) (nl lo : Nat) : Rg → MM → Option (AV × MM) := (execC c modeF lo nl p44_14 (endK cf44.res) noE (endK cf44.res))
@[reducible] def b44_3 (c : CallT) (nl lo : Nat) (x0 x1 : AV) (M : MM) : Option (AV × MM) :=
 b44_5 c nl lo x0 x1 M
theorem t44_3 (c : CallT) (nl lo : Nat) (ρ : Rg) (M : MM) : k44_3 c nl lo ρ M = b44_3 c nl lo (ρ 0) (ρ 1) M := by
 have h : k44_3 c nl lo ρ M = (k44_5 c nl lo ρ M) := execC_seq c modeF lo nl p44_11 p44_13 (endK cf44.res) noE (endK cf44.res) ρ M
 rw [h]
 unfold b44_3; simp only [(t44_5 c nl lo)] <;> (show _ = _; kernel_rfl)
def k44_6 (c : CallT) (nl lo : Nat) : Rg → MM → Option (AV × MM) := (execC c modeF lo nl p44_7 (k44_3 c nl lo) noE (endK cf44.res))
@[reducible] def b44_6 (c : CallT) (nl lo : Nat) (x0 x1 : AV) (M : MM) : Option (AV × MM) :=
 opt (binA .rem .none x0 x1) fun v3 =>
 b44_3 c nl lo v3 x1 M
theorem t44_6 (c : CallT) (nl lo : Nat) (ρ : Rg) (M : MM) : k44_6 c nl lo ρ M = b44_6 c nl lo (ρ 0) (ρ 1) M := by
 have h : ∀ (z0 : Rg → MM → Option (AV × MM)), (execC c modeF lo nl p44_7 z0 noE (endK cf44.res)) ρ M = (opt (binA .rem .none (ρ 0) (ρ 1)) fun v3 =>
 z0 (sF (sF (sF (sF ρ 7 (ρ 0)) 8 (ρ 1)) 9 v3) 0 v3) M) := by intros; kernel_rfl
 refine (h (k44_3 c nl lo)).trans ?_
 unfold b44_6; simp only [(t44_3 c nl lo)] <;> (show _ = _; kernel_rfl)
def k44_2 (c : CallT) (nl lo : Nat) : Rg → MM → Option (AV × MM) := (execC c modeF lo nl p44_15 (endK cf44.res) noE (endK cf44.res))
@[reducible] def b44_2 (c : CallT) (nl lo : Nat) (x0 x1 : AV) (M : MM) : Option (AV × MM) :=
 b44_6 c nl lo x0 x1 M
theorem t44_2 (c : CallT) (nl lo : Nat) (ρ : Rg) (M : MM) : k44_2 c nl lo ρ M = b44_2 c nl lo (ρ 0) (ρ 1) M := by
 have h : k44_2 c nl lo ρ M = (k44_6 c nl lo ρ M) := execC_seq c modeF lo nl p44_7 p44_14 (endK cf44.res) noE (endK cf44.res) ρ M
 rw [h]
 unfold b44_2; simp only [(t44_6 c nl lo)] <;> (show _ = _; kernel_rfl)
def k44_7 (c : CallT) (nl lo : Nat) : Rg → MM → Option (AV × MM) := (execC c modeF lo nl p44_6 (k44_2 c nl lo) noE (endK cf44.res))
@[reducible] def b44_7 (c : CallT) (nl lo : Nat) (x0 x1 : AV) (M : MM) : Option (AV × MM) :=
 opt (binA .lss .none x1 (.i 1)) fun v2 =>
 isB v2 fun c3 => if c3 then (some ((.i 0), M))
 else (b44_2 c nl lo x0 x1 M)
theorem t44_7 (c : CallT) (nl lo : Nat) (ρ : Rg) (M : MM) : k44_7 c nl lo ρ M = b44_7 c nl lo (ρ 0) (ρ 1) M := by
 have h : ∀ (z0 : Rg → MM → Option (AV × MM)), (execC c modeF lo nl p44_6 z0 noE (endK cf44.res)) ρ M = (opt (binA .lss .none (ρ 1) (.i 1)) fun v2 =>
 isB v2 fun c3 => if c3 then (some ((.i 0), M))
 else (z0 (sF (sF ρ 5 (ρ 1)) 6 v2) M)) := by intros; kernel_rfl
 refine (h (k44_2 c nl lo)).trans ?_
 unfold b44_7; simp only [(t44_2 c nl lo)] <;> (show _ = _; kernel_rfl)
def k44_1 (c : CallT) (nl lo : Nat) : Rg → MM → Option (AV × MM) := (execC c modeF lo nl p44_16 (endK cf44.res) noE (endK cf44.res))
@[reducible] def b44_1 (c : CallT) (nl lo : Nat) (x0 x1 : AV) (M : MM) : Option (AV × MM) :=
 b44_7 c nl lo x0 x1 M
theorem t44_1 (c : CallT) (nl lo : Nat) (ρ : Rg) (M : MM) : k44_1 c nl lo ρ M = b44_1 c nl lo (ρ 0) (ρ 1) M := by
 have h : k44_1 c nl lo ρ M = (k44_7 c nl lo ρ M) := execC_seq c modeF lo nl p44_6 p44_15 (endK cf44.res) noE (endK cf44.res) ρ M
 rw [h]
 unfold b44_1; simp only [(t44_7 c nl lo)] <;> (show _ = _; kernel_rfl)
def k44_8 (c : CallT) (nl lo : Nat) : Rg → MM → Option (AV × MM) := (execC c modeF lo nl p44_1 (k44_1 c nl lo) noE (endK cf44.res))
@[reducible] def b44_8 (c : CallT) (nl lo : Nat) (x0 x1 : AV) (M : MM) : Option (AV × MM) :=
 b44_1 c nl lo x0 x1 M
theorem t44_8 (c : CallT) (nl lo : Nat) (ρ : Rg) (M : MM) : k44_8 c nl lo ρ M = b44_8 c nl lo (ρ 0) (ρ 1) M := by
 have h : ∀ (z0 : Rg → MM → Option (AV × MM)), (execC c modeF lo nl p44_1 z0 noE (endK cf44.res)) ρ M = (z0 (sF ρ 4 (.i 0)) M) := by intros; kernel_rfl
 refine (h (k44_1 c nl lo)).trans ?_
 unfold b44_8; simp only [(t44_1 c nl lo)] <;> (show _ = _; kernel_rfl)
def k44_0 (c : CallT) (nl lo : Nat) : Rg → MM → Option (AV × MM) := (execC c modeF lo nl p44_17 (endK cf44.res) noE (endK cf44.res))
@[reducible] def b44_0 (c : CallT) (nl lo : Nat) (x0 x1 : AV) (M : MM) : Option (AV × MM) :=
 b44_8 c nl lo x0 x1 M
theorem t44_0 (c : CallT) (nl lo : Nat) (ρ : Rg) (M : MM) : k44_0 c nl lo ρ M = b44_0 c nl lo (ρ 0) (ρ 1) M := by
 have h : k44_0 c nl lo ρ M = (k44_8 c nl lo ρ M) := execC_seq c modeF lo nl p44_1 p44_16 (endK cf44.res) noE (endK cf44.res) ρ M
 rw [h]
 unfold b44_0; simp only [(t44_8 c nl lo)] <;> (show _ = _; kernel_rfl)
def k44_9 (c : CallT) (nl lo : Nat) : Rg → MM → Option (AV × MM) := (execC c modeF lo nl p44_0 (k44_0 c nl lo) noE (endK cf44.res))
@[reducible] def b44_9 (c : CallT) (nl lo : Nat) (x0 x1 : AV) (M : MM) : Option (AV × MM) :=
 b44_0 c nl lo x0 x1 M
theorem t44_9 (c : CallT) (nl lo : Nat) (ρ : Rg) (M : MM) : k44_9 c nl lo ρ M = b44_9 c nl lo (ρ 0) (ρ 1) M := by
 have h : ∀ (z0 : Rg → MM → Option (AV × MM)), (execC c modeF lo nl p44_0 z0 noE (endK cf44.res)) ρ M = (z0 ρ M) := by intros; kernel_rfl
 refine (h (k44_0 c nl lo)).trans ?_
 unfold b44_9; simp only [(t44_0 c nl lo)] <;> (show _ = _; kernel_rfl)
def s44 (c : CallT) (nl lo : Nat) (a0 a1 : AV) (M : MM) : Option (AV × MM) :=
 b44_9 c nl lo a0 a1 M
theorem e44 (c : CallT) (nl lo : Nat) (a0 a1 : AV) (M : MM) : execC c modeF lo nl cf44.body (endK cf44.res) noE (endK cf44.res) (aF [a0, a1]) M = s44 c nl lo a0 a1 M := by
 have h : execC c modeF lo nl cf44.body (endK cf44.res) noE (endK cf44.res) (aF [a0, a1]) M = (k44_9 c nl lo (aF [a0, a1]) M) := execC_seq c modeF lo nl p44_0 p44_17 (endK cf44.res) noE (endK cf44.res) (aF [a0, a1]) M
 refine h.trans ?_
 unfold s44; simp only [(t44_9 c nl lo)] <;> (show _ = _; kernel_rfl)
theorem q44 {c : CallT} (hc : Lim G c) (lo : Nat) (a0 a1 : AV) (M : MM) : c 44 [a0, a1] lo M = s44 c G.nl lo a0 a1 M :=
 (hc.flow (cf := cf44) rfl w44 [a0, a1] lo M).trans (e44 c G.nl lo a0 a1 M)

/-! ### function 45 -/
theorem w45 : wfK cf45.nt cf45.body = true := by kernel_rfl
def k45_2 (c : CallT) (nl lo : Nat) : Rg → MM → Option (AV × MM) := (execC c modeF lo nl p45_21 (endK cf45.res) noE (endK cf45.res))
@[reducible] def b45_2 (c : CallT) (nl lo : Nat) (M : MM) : Option (AV × MM) :=
 some ((.bool false), M)
theorem t45_2 (c : CallT) (nl lo : Nat) (ρ : Rg) (M : MM) : k45_2 c nl lo ρ M = b45_2 c nl lo M := by
 kernel_rfl
def k45_4 (c : CallT) (nl lo : Nat) (n : Nat) : Rg → MM → Option (AV × MM) := iterC (fun k ρ M => execC c modeF lo nl p45_16 k (fun i ρ M => if i = 0 then (k45_2 c nl lo) ρ M else noE i ρ M) (endK cf45.res) ρ M) n
def b45_4 (c : CallT) (nl lo : Nat) : Nat → AV → AV → AV → AV → MM → Option (AV × MM)
 | 0, _, _, _, _, _ => none
 | n + 1, x0, x5, x6, x7, M =>
 opt (binA .lss .none x7 x6) fun v5 =>
 isB v5 fun c6 => if c6 then (opt (ixsA 1 x5 x7) fun v8 =>
 opt (ld1A (lk M) v8) fun v9 =>
 opt (slslA 1 x0 none (some x7)) fun v14 =>
 opt (puA c (lk M) 70 [v14, v9]) fun v16 =>
 isB v16 fun c17 => if c17 then (some ((.bool true), M))
 else (opt (binA .add .none x7 (.i 1)) fun v19 =>
 (b45_4 c nl lo n) x0 x5 x6 v19 M))
 else (b45_2 c nl lo M)
theorem t45_4 (c : CallT) (nl lo : Nat) : ∀ (n : Nat) (ρ : Rg) (M : MM), k45_4 c nl lo n ρ M = b45_4 c nl lo n (ρ 0) (ρ 5) (ρ 6) (ρ 7) M
 | 0, ρ, M => rfl
 | n + 1, ρ, M => by
  have h : ∀ (zb z0 : Rg → MM → Option (AV × MM)), execC c modeF lo nl p45_16 zb (fun i ρ M => if i = 0 then z0 ρ M else noE i ρ M) (endK cf45.res) ρ M = (opt (binA .lss .none (ρ 7) (ρ 6)) fun v5 =>
  isB v5 fun c6 => if c6 then (opt (ixsA 1 (ρ 5) (ρ 7)) fun v8 =>
  opt (ld1A (lk M) v8) fun v9 =>
  opt (slslA 1 (ρ 0) none (some (ρ 7))) fun v14 =>
  opt (puA c (lk M) 70 [v14, v9]) fun v16 =>
  isB v16 fun c17 => if c17 then (some ((.bool true), M))
  else (opt (binA .add .none (ρ 7) (.i 1)) fun v19 =>
  zb (sF (sF (sF (sF (sF (sF (sF (sF (sF (sF (sF (sF (sF ρ 8 v5) 9 (ρ 7)) 10 v8) 11 v9) 3 (ρ 7)) 4 v9) 12 (ρ 0)) 13 (ρ 7)) 14 v14) 15 v9) 16 v16) 17 v19) 7 v19) M))
  else (z0 (sF ρ 8 v5) M)) := by intros; kernel_rfl
  refine (h (k45_4 c nl lo n) (k45_2 c nl lo)).trans ?_
  unfold b45_4; simp only [(t45_2 c nl lo), (t45_4 c nl lo n)] <;> (show _ = _; kernel_rfl)
def k45_3 (c : CallT) (nl lo : Nat) : Rg → MM → Option (AV × MM) := (execC c modeF lo nl p45_19 (k45_2 c nl lo) noE (endK cf45.res))
@[reducible] def b45_3 (c : CallT) (nl lo : Nat) (x0 : AV) (M : MM) : Option (AV × MM) :=
 opt (lenA x0) fun v3 =>
 b45_4 c nl lo nl x0 x0 v3 (.i 0) M
theorem t45_3 (c : CallT) (nl lo : Nat) (ρ : Rg) (M : MM) : k45_3 c nl lo ρ M = b45_3 c nl lo (ρ 0) M := by
 have h : k45_3 c nl lo ρ M = (opt (lenA (ρ 0)) fun v3 =>
 k45_4 c nl lo nl (sF (sF (sF ρ 5 (ρ 0)) 6 v3) 7 (.i 0)) M) := by kernel_rfl
 rw [h]
 unfold b45_3; simp only [(t45_4 c nl lo nl)] <;> (show _ = _; kernel_rfl)
def k45_1 (c : CallT) (nl lo : Nat) : Rg → MM → Option (AV × MM) := (execC c modeF lo nl p45_22 (endK cf45.res) noE (endK cf45.res))
@[reducible] def b45_1 (c : CallT) (nl lo : Nat) (x0 : AV) (M : MM) : Option (AV × MM) :=
 b45_3 c nl lo x0 M
theorem t45_1 (c : CallT) (nl lo : Nat) (ρ : Rg) (M : MM) : k45_1 c nl lo ρ M = b45_1 c nl lo (ρ 0) M := by
 have h : k45_1 c nl lo ρ M = (k45_3 c nl lo ρ M) := execC_seq c modeF lo nl p45_19 p45_21 (endK cf45.res) noE (endK cf45.res) ρ M
 rw [h]
 unfold b45_1; simp only [(t45_3 c nl lo)] <;> (show _ = _; kernel_rfl)
def k45_5 (c : CallT) (nl lo : Nat) : Rg → MM → Option (AV × MM) := (execC c modeF lo nl p45_1 (k45_1 c nl lo) noE (endK cf45.res))
@[reducible] def b45_5 (c : CallT) (nl lo : Nat) (x0 : AV) (M : MM) : Option (AV × MM) :=
 b45_1 c nl lo x0 M
theorem t45_5 (c : CallT) (nl lo : Nat) (ρ : Rg) (M : MM) : k45_5 c nl lo ρ M = b45_5 c nl lo (ρ 0) M := by
 have h : ∀ (z0 : Rg → MM → Option (AV × MM)), (execC c modeF lo nl p45_1 z0 noE (endK cf45.res)) ρ M = (z0 (sF ρ 2 (.bool false)) M) := by intros; kernel_rfl
 refine (h (k45_1 c nl lo)).trans ?_
 unfold b45_5; simp only [(t45_1 c nl lo)] <;> (show _ = _; kernel_rfl)
def k45_0 (c : CallT) (nl lo : Nat) : Rg → MM → Option (AV × MM) := (execC c modeF lo nl p45_23 (endK cf45.res) noE (endK cf45.res))
@[reducible] def b45_0 (c : CallT) (nl lo : Nat) (x0 : AV) (M : MM) : Option (AV × MM) :=
 b45_5 c nl lo x0 M
theorem t45_0 (c : CallT) (nl lo : Nat) (ρ : Rg) (M : MM) : k45_0 c nl lo ρ M = b45_0 c nl lo (ρ 0) M := by
 have h : k45_0 c nl lo ρ M = (k45_5 c nl lo ρ M) := execC_seq c modeF lo nl p45_1 p45_22 (endK cf45.res) noE (endK cf45.res) ρ M
 rw [h]
 unfold b45_0; simp only [(t45_5 c nl lo)] <;> (show _ = _; kernel_rfl)
def k45_6 (c : CallT) (nl lo : Nat) : Rg → MM → Option (AV × MM) := (execC c modeF lo nl p45_0 (k45_0 c nl lo) noE (endK cf45.res))
@[reducible] def b45_6 (c : CallT) (nl lo : Nat) (x0 : AV) (M : MM) : Option (AV × MM) :=
 b45_0 c nl lo x0 M
theorem t45_6 (c : CallT) (nl lo : Nat) (ρ : Rg) (M : MM) : k45_6 c nl lo ρ M = b45_6 c nl lo (ρ 0) M := by
 have h : ∀ (z0 : Rg → MM → Option (AV × MM)), (execC c modeF lo nl p45_0 z0 noE (endK cf45.res)) ρ M = (z0 ρ M) := by intros; kernel_rfl
 refine (h (k45_0 c nl lo)).trans ?_
 unfold b45_6; simp only [(t45_0 c nl lo)] <;> (show _ = _; kernel_rfl)
def s45 (c : CallT) (nl lo : Nat) (a0 : AV) (M : MM) : Option (AV × MM) :=
 b45_6 c nl lo a0 M
theorem e45 (c : CallT) (nl lo : Nat) (a0 : AV) (M : MM) : execC c modeF lo nl cf45.body (endK cf45.res) noE (endK cf45.res) (aF [a0]) M = s45 c nl lo a0 M := by
 have h : execC c modeF lo nl cf45.body (endK cf45.res) noE (endK cf45.res) (aF [a0]) M = (k45_6 c nl lo (aF [a0]) M) := execC_seq c modeF lo nl p45_0 p45_23 (endK cf45.res) noE (endK cf45.res) (aF [a0]) M
 refine h.trans ?_
 unfold s45; simp only [(t45_6 c nl lo)] <;> (show _ = _; kernel_rfl)
theorem q45 {c : CallT} (hc : Lim G c) (lo : Nat) (a0 : AV) (M : MM) : c 45 [a0] lo M = s45 c G.nl lo a0 M :=
 (hc.flow (cf := cf45) rfl w45 [a0] lo M).trans (e45 c G.nl lo a0 M)

/-! ### function 46 -/
theorem w46 : wfK cf46.nt cf46.body = true := by kernel_rfl
def k46_4 (c : CallT) (nl lo : Nat) : Rg → MM → Option (AV × MM) := (execC c modeF lo nl p46_31 (endK cf46.res) noE (endK cf46.res))
@[reducible] def b46_4 (c : CallT) (nl lo : Nat) (x8 : AV) (M : MM) : Option (AV × MM) :=
 some (x8, M)
theorem t46_4 (c : CallT) (nl lo : Nat) (ρ : Rg) (M : MM) : k46_4 c nl lo ρ M = b46_4 c nl lo (ρ 8) M := by
 kernel_rfl
def k46_6 (c : CallT) (nl lo : Nat) (n : Nat) : Rg → MM → Option (AV × MM) := iterC (fun k ρ M => execC c modeF lo nl p46_26 k (fun i ρ M => if i = 0 then (k46_4 c nl lo) ρ M else noE i ρ M) (endK cf46.res) ρ M) n
def b46_6 (c : CallT) (nl lo : Nat) : Nat → AV → AV → AV → AV → AV → AV → MM → Option (AV × MM)
 | 0, _, _, _, _, _, _, _ => none
 | n + 1, x1, x2, x8, x21, x22, x23, M =>
 opt (binA .lss .none x23 x22) fun v7 =>
 isB v7 fun c8 => if c8 then (opt (ixsA 2 x21 x23) fun v9 =>
 opt (ldnA (lk M) 2 v9) fun v10 =>
 upK M M.nx fun M12 =>
 opt (setcA 0 2 (.agg [.str ⟨⟨[]⟩⟩, .d (.sl [] 0)]) v10) fun v13 =>
 opt (fldA 0 2 true v13) fun v15 =>
 opt (puA c (lk M12) 46 [v15, x1, x2]) fun v18 =>
 opt (binA .add .none x8 v18) fun v19 =>
 opt (binA .gtr .none v19 (.i 4096)) fun v22 =>
 isB v22 fun c23 => if c23 then (some (v19, M12))
 else (opt (binA .add .none x23 (.i 1)) fun v26 =>
 (b46_6 c nl lo n) x1 x2 v19 x21 x22 v26 M12))
 else (b46_4 c nl lo x8 M)
theorem t46_6 (c : CallT) (nl lo : Nat) : ∀ (n : Nat) (ρ : Rg) (M : MM), k46_6 c nl lo n ρ M = b46_6 c nl lo n (ρ 1) (ρ 2) (ρ 8) (ρ 21) (ρ 22) (ρ 23) M
 | 0, ρ, M => rfl
 | n + 1, ρ, M => by
  have h : ∀ (zb z0 : Rg → MM → Option (AV × MM)), execC c modeF lo nl p46_26 zb (fun i ρ M => if i = 0 then z0 ρ M else noE i ρ M) (endK cf46.res) ρ M = (opt (binA .lss .none (ρ 23) (ρ 22)) fun v7 =>
  isB v7 fun c8 => if c8 then (opt (ixsA 2 (ρ 21) (ρ 23)) fun v9 =>
  opt (ldnA (lk M) 2 v9) fun v10 =>
  upK M M.nx fun M12 =>
  opt (setcA 0 2 (.agg [.str ⟨⟨[]⟩⟩, .d (.sl [] 0)]) v10) fun v13 =>
  opt (fldA 0 2 true v13) fun v15 =>
  opt (puA c (lk M12) 46 [v15, (ρ 1), (ρ 2)]) fun v18 =>
  opt (binA .add .none (ρ 8) v18) fun v19 =>
  opt (binA .gtr .none v19 (.i 4096)) fun v22 =>
  isB v22 fun c23 => if c23 then (some (v19, M12))
  else (opt (binA .add .none (ρ 23) (.i 1)) fun v26 =>
  zb (sF (sF (sF (sF (sF (sF (sF (sF (sF (sF (sF (sF (sF (sF (sF (sF ρ 24 v7) 25 v9) 26 v10) 10 (.agg [.str ⟨⟨[]⟩⟩, .d (.sl [] 0)])) 10 v13) 27 (ρ 8)) 28 v15) 29 (ρ 1)) 30 (ρ 2)) 31 v18) 32 v19) 8 v19) 33 v19) 34 v22) 36 v26) 23 v26) M12))
  else (z0 (sF ρ 24 v7) M)) := by intros; kernel_rfl
  refine (h (k46_6 c nl lo n) (k46_4 c nl lo)).trans ?_
  unfold b46_6; simp only [(t46_4 c nl lo), (t46_6 c nl lo n)] <;> (show _ = _; kernel_rfl)
def k46_5 (c : CallT) (nl lo : Nat) : Rg → MM → Option (AV × MM) := (execC c modeF lo nl p46_29 (k46_4 c nl lo) noE (endK cf46.res))
@[reducible] def b46_5 (c : CallT) (nl lo : Nat) (x1 x2 x3 x8 : AV) (M : MM) : Option (AV × MM) :=
 opt (fldA 0 0 true x3) fun v3 =>
 opt (fldA 1 1 false x3) fun v4 =>
 opt (lenA v4) fun v5 =>
 b46_6 c nl lo nl x1 x2 x8 v4 v5 (.i 0) M
theorem t46_5 (c : CallT) (nl lo : Nat) (ρ : Rg) (M : MM) : k46_5 c nl lo ρ M = b46_5 c nl lo (ρ 1) (ρ 2) (ρ 3) (ρ 8) M := by
 have h : k46_5 c nl lo ρ M = (opt (fldA 0 0 true (ρ 3)) fun v3 =>
 opt (fldA 1 1 false (ρ 3)) fun v4 =>
 opt (lenA v4) fun v5 =>
 k46_6 c nl lo nl (sF (sF (sF (sF ρ 20 v3) 21 v4) 22 v5) 23 (.i 0)) M) := by kernel_rfl
 rw [h]
 unfold b46_5; simp only [(t46_6 c nl lo nl)] <;> (show _ = _; kernel_rfl)
def k46_3 (c : CallT) (nl lo : Nat) : Rg → MM → Option (AV × MM) := (execC c modeF lo nl p46_32 (endK cf46.res) noE (endK cf46.res))
@[reducible] def b46_3 (c : CallT) (nl lo : Nat) (x1 x2 x3 x8 : AV) (M : MM) : Option (AV × MM) :=
 b46_5 c nl lo x1 x2 x3 x8 M
theorem t46_3 (c : CallT) (nl lo : Nat) (ρ : Rg) (M : MM) : k46_3 c nl lo ρ M = b46_3 c nl lo (ρ 1) (ρ 2) (ρ 3) (ρ 8) M := by
 have h : k46_3 c nl lo ρ M = (k46_5 c nl lo ρ M) := execC_seq c modeF lo nl p46_29 p46_31 (endK cf46.res) noE (endK cf46.res) ρ M
 rw [h]
 unfold b46_3; simp only [(t46_5 c nl lo)] <;> (show _ = _; kernel_rfl)
def k46_7 (c : CallT) (nl lo : Nat) : Rg → MM → Option (AV × MM) := (execC c modeF lo nl p46_9 (k46_3 c nl lo) noE (endK cf46.res))
@[reducible] def b46_7 (c : CallT) (nl lo : Nat) (x1 x2 x3 : AV) (M : MM) : Option (AV × MM) :=
 b46_3 c nl lo x1 x2 x3 (.i 1) M
theorem t46_7 (c : CallT) (nl lo : Nat) (ρ : Rg) (M : MM) : k46_7 c nl lo ρ M = b46_7 c nl lo (ρ 1) (ρ 2) (ρ 3) M := by
 have h : ∀ (z0 : Rg → MM → Option (AV × MM)), (execC c modeF lo nl p46_9 z0 noE (endK cf46.res)) ρ M = (z0 (sF ρ 8 (.i 1)) M) := by intros; kernel_rfl
 refine (h (k46_3 c nl lo)).trans ?_
 unfold b46_7; simp only [(t46_3 c nl lo)] <;> (show _ = _; kernel_rfl)
def k46_2 (c : CallT) (nl lo : Nat) : Rg → MM → Option (AV × MM) := (execC c modeF lo nl p46_33 (endK cf46.res) noE (endK cf46.res))
@[reducible] def b46_2 (c : CallT) (nl lo : Nat) (x1 x2 x3 : AV) (M : MM) : Option (AV × MM) :=
 b46_7 c nl lo x1 x2 x3 M
theorem t46_2 (c : CallT) (nl lo : Nat) (ρ : Rg) (M : MM) : k46_2 c nl lo ρ M = b46_2 c nl lo (ρ 1) (ρ 2) (ρ 3) M := by
 have h : k46_2 c nl lo ρ M = (k46_7 c nl lo ρ M) := execC_seq c modeF lo nl p46_9 p46_32 (endK cf46.res) noE (endK cf46.res) ρ M
 rw [h]
 unfold b46_2; simp only [(t46_7 c nl lo)] <;> (show _ = _; kernel_rfl)
def k46_8 (c : CallT) (nl lo : Nat) : Rg → MM → Option (AV × MM) := (execC c modeF lo nl p46_8 (k46_2 c nl lo) noE (endK cf46.res))
@[reducible] def b46_8 (c : CallT) (nl lo : Nat) (x1 x2 x3 : AV) (M : MM) : Option (AV × MM) :=
 opt (fldA 0 2 true x3) fun v1 =>
 opt (puA c (lk M) 71 [v1, x1]) fun v3 =>
 opt (binA .geq .none v3 (.i 0)) fun v6 =>
 isB v6 fun c7 => if c7 then (opt (ixsA 1 x2 v3) fun v10 =>
 opt (ld1A (lk M) v10) fun v11 =>
 some (v11, M))
 else (b46_2 c nl lo x1 x2 x3 M)
theorem t46_8 (c : CallT) (nl lo : Nat) (ρ : Rg) (M : MM) : k46_8 c nl lo ρ M = b46_8 c nl lo (ρ 1) (ρ 2) (ρ 3) M := by
 have h : ∀ (z0 : Rg → MM → Option (AV × MM)), (execC c modeF lo nl p46_8 z0 noE (endK cf46.res)) ρ M = (opt (fldA 0 2 true (ρ 3)) fun v1 =>
 opt (puA c (lk M) 71 [v1, (ρ 1)]) fun v3 =>
 opt (binA .geq .none v3 (.i 0)) fun v6 =>
 isB v6 fun c7 => if c7 then (opt (ixsA 1 (ρ 2) v3) fun v10 =>
 opt (ld1A (lk M) v10) fun v11 =>
 some (v11, M))
 else (z0 (sF (sF (sF (sF (sF (sF ρ 11 v1) 12 (ρ 1)) 13 v3) 7 v3) 14 v3) 15 v6) M)) := by intros; kernel_rfl
 refine (h (k46_2 c nl lo)).trans ?_
 unfold b46_8; simp only [(t46_2 c nl lo)] <;> (show _ = _; kernel_rfl)
def k46_1 (c : CallT) (nl lo : Nat) : Rg → MM → Option (AV × MM) := (execC c modeF lo nl p46_34 (endK cf46.res) noE (endK cf46.res))
@[reducible] def b46_1 (c : CallT) (nl lo : Nat) (x1 x2 x3 : AV) (M : MM) : Option (AV × MM) :=
 b46_8 c nl lo x1 x2 x3 M
theorem t46_1 (c : CallT) (nl lo : Nat) (ρ : Rg) (M : MM) : k46_1 c nl lo ρ M = b46_1 c nl lo (ρ 1) (ρ 2) (ρ 3) M := by
 have h : k46_1 c nl lo ρ M = (k46_8 c nl lo ρ M) := execC_seq c modeF lo nl p46_8 p46_33 (endK cf46.res) noE (endK cf46.res) ρ M
 rw [h]
 unfold b46_1; simp only [(t46_8 c nl lo)] <;> (show _ = _; kernel_rfl)
def k46_9 (c : CallT) (nl lo : Nat) : Rg → MM → Option (AV × MM) := (execC c modeF lo nl p46_1 (k46_1 c nl lo) noE (endK cf46.res))
@[reducible] def b46_9 (c : CallT) (nl lo : Nat) (x0 x1 x2 : AV) (M : MM) : Option (AV × MM) :=
 opt (aggA x0) fun v1 =>
 upK M M.nx fun M2 =>
 b46_1 c nl lo x1 x2 v1 M2
theorem t46_9 (c : CallT) (nl lo : Nat) (ρ : Rg) (M : MM) : k46_9 c nl lo ρ M = b46_9 c nl lo (ρ 0) (ρ 1) (ρ 2) M := by
 have h : ∀ (z0 : Rg → MM → Option (AV × MM)), (execC c modeF lo nl p46_1 z0 noE (endK cf46.res)) ρ M = (opt (aggA (ρ 0)) fun v1 =>
 upK M M.nx fun M2 =>
 z0 (sF (sF ρ 3 v1) 6 (.i 0)) M2) := by intros; kernel_rfl
 refine (h (k46_1 c nl lo)).trans ?_
 unfold b46_9; simp only [(t46_1 c nl lo)] <;> (show _ = _; kernel_rfl)
def k46_0 (c : CallT) (nl lo : Nat) : Rg → MM → Option (AV × MM) := (execC c modeF lo nl p46_35 (endK cf46.res) noE (endK cf46.res))
@[reducible] def b46_0 (c : CallT) (nl lo : Nat) (x0 x1 x2 : AV) (M : MM) : Option (AV × MM) :=
 b46_9 c nl lo x0 x1 x2 M
theorem t46_0 (c : CallT) (nl lo : Nat) (ρ : Rg) (M : MM) : k46_0 c nl lo ρ M = b46_0 c nl lo (ρ 0) (ρ 1) (ρ 2) M := by
 have h : k46_0 c nl lo ρ M = (k46_9 c nl lo ρ M) := execC_seq c modeF lo nl p46_1 p46_34 (endK cf46.res) noE (endK cf46.res) ρ M
 rw [h]
 unfold b46_0; simp only [(t46_9 c nl lo)] <;> (show _ = _; kernel_rfl)
def k46_10 (c : CallT) (nl lo : Nat) : Rg → MM → Option (AV × MM) := (execC c modeF lo nl p46_0 (k46_0 c nl lo) noE (endK cf46.res))
@[reducible] def b46_10 (c : CallT) (nl lo : Nat) (x0 x1 x2 : AV) (M : MM) : Option (AV × MM) :=
 b46_0 c nl lo x0 x1 x2 M
theorem t46_10 (c : CallT) (nl lo : Nat) (ρ : Rg) (M : MM) : k46_10 c nl lo ρ M = b46_10 c nl lo (ρ 0) (ρ 1) (ρ 2) M := by
 have h : ∀ (z0 : Rg → MM → Option (AV × MM)), (execC c modeF lo nl p46_0 z0 noE (endK cf46.res)) ρ M = (z0 (sF (sF ρ 3 (.tup [])) 10 (.tup [])) M) := by intros; kernel_rfl
 refine (h (k46_0 c nl lo)).trans ?_
 unfold b46_10; simp only [(t46_0 c nl lo)] <;> (show _ = _; kernel_rfl)
def s46 (c : CallT) (nl lo : Nat) (a0 a1 a2 : AV) (M : MM) : Option (AV × MM) :=
 b46_10 c nl lo a0 a1 a2 M
theorem e46 (c : CallT) (nl lo : Nat) (a0 a1 a2 : AV) (M : MM) : execC c modeF lo nl cf46.body (endK cf46.res) noE (endK cf46.res) (aF [a0, a1, a2]) M = s46 c nl lo a0 a1 a2 M := by
 have h : execC c modeF lo nl cf46.body (endK cf46.res) noE (endK cf46.res) (aF [a0, a1, a2]) M = (k46_10 c nl lo (aF [a0, a1, a2]) M) := execC_seq c modeF lo nl p46_0 p46_35 (endK cf46.res) noE (endK cf46.res) (aF [a0, a1, a2]) M
 refine h.trans ?_
 unfold s46; simp only [(t46_10 c nl lo)] <;> (show _ = _; kernel_rfl)
theorem q46 {c : CallT} (hc : Lim G c) (lo : Nat) (a0 a1 a2 : AV) (M : MM) : c 46 [a0, a1, a2] lo M = s46 c G.nl lo a0 a1 a2 M :=
 (hc.flow (cf := cf46) rfl w46 [a0, a1, a2] lo M).trans (e46 c G.nl lo a0 a1 a2 M)

/-! ### function 47 -/
theorem w47 : wfK cf47.nt cf47.body = true := by kernel_rfl
def k47_4 (c : CallT) (nl lo : Nat) : Rg → MM → Option (AV × MM) := (execC c modeF lo nl p47_25 (endK cf47.res) noE (endK cf47.res))
@[reducible] def b47_4 (c : CallT) (nl lo : Nat) (x6 x8 : AV) (M : MM) : Option (AV × MM) :=
 opt (fldA 0 2 true x8) fun v1 =>
 opt (setcA 0 2 x6 v1) fun v2 =>
 opt (locA 2 true v2) fun r => some (r, M)
theorem t47_4 (c : CallT) (nl lo : Nat) (ρ : Rg) (M : MM) : k47_4 c nl lo ρ M = b47_4 c nl lo (ρ 6) (ρ 8) M := by
 kernel_rfl
def k47_6 (c : CallT) (nl lo : Nat) (n : Nat) : Rg → MM → Option (AV × MM) := iterC (fun k ρ M => execC c modeF lo nl p47_20 k (fun i ρ M => if i = 0 then (k47_4 c nl lo) ρ M else noE i ρ M) (endK cf47.res) ρ M) n
def b47_6 (c : CallT) (nl lo : Nat) : Nat → AV → AV → AV → AV → AV → AV → AV → MM → Option (AV × MM)
 | 0, _, _, _, _, _, _, _, _ => none
 | n + 1, x1, x2, x6, x8, x25, x26, x27, M =>
 opt (binA .lss .none x27 x26) fun v7 =>
 isB v7 fun c8 => if c8 then (opt (ixsA 2 x25 x27) fun v9 =>
 opt (ldnA (lk M) 2 v9) fun v10 =>
 upK M M.nx fun M12 =>
 opt (setcA 0 2 (.agg [.str ⟨⟨[]⟩⟩, .d (.sl [] 0)]) v10) fun v13 =>
 bumpK M12 10 fun M14 =>
 opt (fldA 0 0 true x8) fun v15 =>
 opt (fldA 1 1 false x8) fun v16 =>
 opt (fldA 0 2 true v13) fun v17 =>
 opt (puA c (look M14.mem (.mk M12.nx 10 28 true)) 47 [v17, x1, x2]) fun v20 =>
 opt (wslA 1 (fill [.str ⟨⟨[]⟩⟩, .d (.sl [] 0)] [(0, 2, v20)])) fun v21 =>
 upK M14 (M12.nx + 6) fun M22 =>
 opt (wappA M22.mem (.top M22.nx) 2 40 v16 v21) fun v23 =>
 upK M22 (M12.nx + 7) fun M24 =>
 opt (fldA 0 0 true x8) fun v25 =>
 opt (setcA 1 1 x8 v23) fun v26 =>
 opt (binA .add .none x27 (.i 1)) fun v27 =>
 (b47_6 c nl lo n) x1 x2 x6 v26 x25 x26 v27 M24)
 else (b47_4 c nl lo x6 x8 M)
theorem t47_6 (c : CallT) (nl lo : Nat) : ∀ (n : Nat) (ρ : Rg) (M : MM), k47_6 c nl lo n ρ M = b47_6 c nl lo n (ρ 1) (ρ 2) (ρ 6) (ρ 8) (ρ 25) (ρ 26) (ρ 27) M
 | 0, ρ, M => rfl
 | n + 1, ρ, M => by
  have h : ∀ (zb z0 : Rg → MM → Option (AV × MM)), execC c modeF lo nl p47_20 zb (fun i ρ M => if i = 0 then z0 ρ M else noE i ρ M) (endK cf47.res) ρ M = (opt (binA .lss .none (ρ 27) (ρ 26)) fun v7 =>
  isB v7 fun c8 => if c8 then (opt (ixsA 2 (ρ 25) (ρ 27)) fun v9 =>
  opt (ldnA (lk M) 2 v9) fun v10 =>
  upK M M.nx fun M12 =>
  opt (setcA 0 2 (.agg [.str ⟨⟨[]⟩⟩, .d (.sl [] 0)]) v10) fun v13 =>
  bumpK M12 10 fun M14 =>
  opt (fldA 0 0 true (ρ 8)) fun v15 =>
  opt (fldA 1 1 false (ρ 8)) fun v16 =>
  opt (fldA 0 2 true v13) fun v17 =>
  opt (puA c (look M14.mem (.mk M12.nx 10 28 true)) 47 [v17, (ρ 1), (ρ 2)]) fun v20 =>
  opt (wslA 1 (fill [.str ⟨⟨[]⟩⟩, .d (.sl [] 0)] [(0, 2, v20)])) fun v21 =>
  upK M14 (M12.nx + 6) fun M22 =>
  opt (wappA M22.mem (.top M22.nx) 2 40 v16 v21) fun v23 =>
  upK M22 (M12.nx + 7) fun M24 =>
  opt (fldA 0 0 true (ρ 8)) fun v25 =>
  opt (setcA 1 1 (ρ 8) v23) fun v26 =>
  opt (binA .add .none (ρ 27) (.i 1)) fun v27 =>
  zb (sF (sF (sF (sF (sF (sF (sF (sF (sF (sF (sF (sF (sF (sF (sF (sF (sF ρ 28 v7) 29 v9) 30 v10) 10 (.agg [.str ⟨⟨[]⟩⟩, .d (.sl [] 0)])) 10 v13) 31 v15) 32 v16) 33 v17) 34 (ρ 1)) 35 (ρ 2)) 36 v20) 37 v21) 38 v23) 39 v25) 8 v26) 40 v27) 27 v27) M24)
  else (z0 (sF ρ 28 v7) M)) := by intros; kernel_rfl
  refine (h (k47_6 c nl lo n) (k47_4 c nl lo)).trans ?_
  unfold b47_6; simp only [(t47_4 c nl lo), (t47_6 c nl lo n)] <;> (show _ = _; kernel_rfl)
def k47_5 (c : CallT) (nl lo : Nat) : Rg → MM → Option (AV × MM) := (execC c modeF lo nl p47_23 (k47_4 c nl lo) noE (endK cf47.res))
@[reducible] def b47_5 (c : CallT) (nl lo : Nat) (x1 x2 x3 x6 x8 : AV) (M : MM) : Option (AV × MM) :=
 opt (fldA 0 0 true x3) fun v3 =>
 opt (fldA 1 1 false x3) fun v4 =>
 opt (lenA v4) fun v5 =>
 b47_6 c nl lo nl x1 x2 x6 x8 v4 v5 (.i 0) M
theorem t47_5 (c : CallT) (nl lo : Nat) (ρ : Rg) (M : MM) : k47_5 c nl lo ρ M = b47_5 c nl lo (ρ 1) (ρ 2) (ρ 3) (ρ 6) (ρ 8) M := by
 have h : k47_5 c nl lo ρ M = (opt (fldA 0 0 true (ρ 3)) fun v3 =>
 opt (fldA 1 1 false (ρ 3)) fun v4 =>
 opt (lenA v4) fun v5 =>
 k47_6 c nl lo nl (sF (sF (sF (sF ρ 24 v3) 25 v4) 26 v5) 27 (.i 0)) M) := by kernel_rfl
 rw [h]
 unfold b47_5; simp only [(t47_6 c nl lo nl)] <;> (show _ = _; kernel_rfl)
def k47_3 (c : CallT) (nl lo : Nat) : Rg → MM → Option (AV × MM) := (execC c modeF lo nl p47_26 (endK cf47.res) noE (endK cf47.res))
@[reducible] def b47_3 (c : CallT) (nl lo : Nat) (x1 x2 x3 x6 x8 : AV) (M : MM) : Option (AV × MM) :=
 b47_5 c nl lo x1 x2 x3 x6 x8 M
theorem t47_3 (c : CallT) (nl lo : Nat) (ρ : Rg) (M : MM) : k47_3 c nl lo ρ M = b47_3 c nl lo (ρ 1) (ρ 2) (ρ 3) (ρ 6) (ρ 8) M := by
 have h : k47_3 c nl lo ρ M = (k47_5 c nl lo ρ M) := execC_seq c modeF lo nl p47_23 p47_25 (endK cf47.res) noE (endK cf47.res) ρ M
 rw [h]
 unfold b47_3; simp only [(t47_5 c nl lo)] <;> (show _ = _; kernel_rfl)
def k47_7 (c : CallT) (nl lo : Nat) : Rg → MM → Option (AV × MM) := (execC c modeF lo nl p47_9 (k47_3 c nl lo) noE (endK cf47.res))
@[reducible] def b47_7 (c : CallT) (nl lo : Nat) (x1 x2 x3 x6 : AV) (M : MM) : Option (AV × MM) :=
 opt (fldA 0 0 true x3) fun v1 =>
 opt (fldA 0 1 false x3) fun v2 =>
 opt ((fill [.str ⟨⟨[]⟩⟩, .d (.sl [] 0)] [(0, 1, v2)]).map .agg) fun v3 =>
 upK M M.nx fun M5 =>
 opt (setcA 0 2 (.agg [.str ⟨⟨[]⟩⟩, .d (.sl [] 0)]) v3) fun v6 =>
 b47_3 c nl lo x1 x2 x3 x6 v6 M5
theorem t47_7 (c : CallT) (nl lo : Nat) (ρ : Rg) (M : MM) : k47_7 c nl lo ρ M = b47_7 c nl lo (ρ 1) (ρ 2) (ρ 3) (ρ 6) M := by
 have h : ∀ (z0 : Rg → MM → Option (AV × MM)), (execC c modeF lo nl p47_9 z0 noE (endK cf47.res)) ρ M = (opt (fldA 0 0 true (ρ 3)) fun v1 =>
 opt (fldA 0 1 false (ρ 3)) fun v2 =>
 opt ((fill [.str ⟨⟨[]⟩⟩, .d (.sl [] 0)] [(0, 1, v2)]).map .agg) fun v3 =>
 upK M M.nx fun M5 =>
 opt (setcA 0 2 (.agg [.str ⟨⟨[]⟩⟩, .d (.sl [] 0)]) v3) fun v6 =>
 z0 (sF (sF (sF (sF (sF ρ 21 v1) 22 v2) 23 v3) 8 (.agg [.str ⟨⟨[]⟩⟩, .d (.sl [] 0)])) 8 v6) M5) := by intros; kernel_rfl
 refine (h (k47_3 c nl lo)).trans ?_
 unfold b47_7; simp only [(t47_3 c nl lo)] <;> (show _ = _; kernel_rfl)
def k47_2 (c : CallT) (nl lo : Nat) : Rg → MM → Option (AV × MM) := (execC c modeF lo nl p47_27 (endK cf47.res) noE (endK cf47.res))
@[reducible] def b47_2 (c : CallT) (nl lo : Nat) (x1 x2 x3 x6 : AV) (M : MM) : Option (AV × MM) :=
 b47_7 c nl lo x1 x2 x3 x6 M
theorem t47_2 (c : CallT) (nl lo : Nat) (ρ : Rg) (M : MM) : k47_2 c nl lo ρ M = b47_2 c nl lo (ρ 1) (ρ 2) (ρ 3) (ρ 6) M := by
 have h : k47_2 c nl lo ρ M = (k47_7 c nl lo ρ M) := execC_seq c modeF lo nl p47_9 p47_26 (endK cf47.res) noE (endK cf47.res) ρ M
 rw [h]
 unfold b47_2; simp only [(t47_7 c nl lo)] <;> (show _ = _; kernel_rfl)
def k47_8 (c : CallT) (nl lo : Nat) : Rg → MM → Option (AV × MM) := (execC c modeF lo nl p47_8 (k47_2 c nl lo) noE (endK cf47.res))
@[reducible] def b47_8 (c : CallT) (nl lo : Nat) (x1 x2 x3 x6 : AV) (M : MM) : Option (AV × MM) :=
 opt (fldA 0 2 true x3) fun v1 =>
 opt (puA c (lk M) 71 [v1, x1]) fun v3 =>
 opt (binA .geq .none v3 (.i 0)) fun v6 =>
 isB v6 fun c7 => if c7 then (opt (ixsA 2 x2 v3) fun v10 =>
 opt (ldnA (lk M) 2 v10) fun v11 =>
 opt (puA c (lk M) 55 [v11]) fun v12 =>
 opt (setcA 0 2 x6 v12) fun v13 =>
 opt (locA 2 true v13) fun r => some (r, M))
 else (b47_2 c nl lo x1 x2 x3 x6 M)
theorem t47_8 (c : CallT) (nl lo : Nat) (ρ : Rg) (M : MM) : k47_8 c nl lo ρ M = b47_8 c nl lo (ρ 1) (ρ 2) (ρ 3) (ρ 6) M := by
 have h : ∀ (z0 : Rg → MM → Option (AV × MM)), (execC c modeF lo nl p47_8 z0 noE (endK cf47.res)) ρ M = (opt (fldA 0 2 true (ρ 3)) fun v1 =>
 opt (puA c (lk M) 71 [v1, (ρ 1)]) fun v3 =>
 opt (binA .geq .none v3 (.i 0)) fun v6 =>
 isB v6 fun c7 => if c7 then (opt (ixsA 2 (ρ 2) v3) fun v10 =>
 opt (ldnA (lk M) 2 v10) fun v11 =>
 opt (puA c (lk M) 55 [v11]) fun v12 =>
 opt (setcA 0 2 (ρ 6) v12) fun v13 =>
 opt (locA 2 true v13) fun r => some (r, M))
 else (z0 (sF (sF (sF (sF (sF (sF ρ 11 v1) 12 (ρ 1)) 13 v3) 7 v3) 14 v3) 15 v6) M)) := by intros; kernel_rfl
 refine (h (k47_2 c nl lo)).trans ?_
 unfold b47_8; simp only [(t47_2 c nl lo)] <;> (show _ = _; kernel_rfl)
def k47_1 (c : CallT) (nl lo : Nat) : Rg → MM → Option (AV × MM) := (execC c modeF lo nl p47_28 (endK cf47.res) noE (endK cf47.res))
@[reducible] def b47_1 (c : CallT) (nl lo : Nat) (x1 x2 x3 x6 : AV) (M : MM) : Option (AV × MM) :=
 b47_8 c nl lo x1 x2 x3 x6 M
theorem t47_1 (c : CallT) (nl lo : Nat) (ρ : Rg) (M : MM) : k47_1 c nl lo ρ M = b47_1 c nl lo (ρ 1) (ρ 2) (ρ 3) (ρ 6) M := by
 have h : k47_1 c nl lo ρ M = (k47_8 c nl lo ρ M) := execC_seq c modeF lo nl p47_8 p47_27 (endK cf47.res) noE (endK cf47.res) ρ M
 rw [h]
 unfold b47_1; simp only [(t47_8 c nl lo)] <;> (show _ = _; kernel_rfl)
def k47_9 (c : CallT) (nl lo : Nat) : Rg → MM → Option (AV × MM) := (execC c modeF lo nl p47_1 (k47_1 c nl lo) noE (endK cf47.res))
@[reducible] def b47_9 (c : CallT) (nl lo : Nat) (x0 x1 x2 : AV) (M : MM) : Option (AV × MM) :=
 opt (aggA x0) fun v1 =>
 upK M M.nx fun M2 =>
 upK M2 M2.nx fun M4 =>
 b47_1 c nl lo x1 x2 v1 (.agg [.str ⟨⟨[]⟩⟩, .d (.sl [] 0)]) M4
theorem t47_9 (c : CallT) (nl lo : Nat) (ρ : Rg) (M : MM) : k47_9 c nl lo ρ M = b47_9 c nl lo (ρ 0) (ρ 1) (ρ 2) M := by
 have h : ∀ (z0 : Rg → MM → Option (AV × MM)), (execC c modeF lo nl p47_1 z0 noE (endK cf47.res)) ρ M = (opt (aggA (ρ 0)) fun v1 =>
 upK M M.nx fun M2 =>
 upK M2 M2.nx fun M4 =>
 z0 (sF (sF ρ 3 v1) 6 (.agg [.str ⟨⟨[]⟩⟩, .d (.sl [] 0)])) M4) := by intros; kernel_rfl
 refine (h (k47_1 c nl lo)).trans ?_
 unfold b47_9; simp only [(t47_1 c nl lo)] <;> (show _ = _; kernel_rfl)
def k47_0 (c : CallT) (nl lo : Nat) : Rg → MM → Option (AV × MM) := (execC c modeF lo nl p47_29 (endK cf47.res) noE (endK cf47.res))
@[reducible] def b47_0 (c : CallT) (nl lo : Nat) (x0 x1 x2 : AV) (M : MM) : Option (AV × MM) :=
 b47_9 c nl lo x0 x1 x2 M
theorem t47_0 (c : CallT) (nl lo : Nat) (ρ : Rg) (M : MM) : k47_0 c nl lo ρ M = b47_0 c nl lo (ρ 0) (ρ 1) (ρ 2) M := by
 have h : k47_0 c nl lo ρ M = (k47_9 c nl lo ρ M) := execC_seq c modeF lo nl p47_1 p47_28 (endK cf47.res) noE (endK cf47.res) ρ M
 rw [h]
 unfold b47_0; simp only [(t47_9 c nl lo)] <;> (show _ = _; kernel_rfl)
def k47_10 (c : CallT) (nl lo : Nat) : Rg → MM → Option (AV × MM) := (execC c modeF lo nl p47_0 (k47_0 c nl lo) noE (endK cf47.res))
@[reducible] def b47_10 (c : CallT) (nl lo : Nat) (x0 x1 x2 : AV) (M : MM) : Option (AV × MM) :=
 b47_0 c nl lo x0 x1 x2 M
theorem t47_10 (c : CallT) (nl lo : Nat) (ρ : Rg) (M : MM) : k47_10 c nl lo ρ M = b47_10 c nl lo (ρ 0) (ρ 1) (ρ 2) M := by
 have h : ∀ (z0 : Rg → MM → Option (AV × MM)), (execC c modeF lo nl p47_0 z0 noE (endK cf47.res)) ρ M = (z0 (sF (sF (sF (sF ρ 3 (.tup [])) 6 (.tup [])) 8 (.tup [])) 10 (.tup [])) M) := by intros; kernel_rfl
 refine (h (k47_0 c nl lo)).trans ?_
 unfold b47_10; simp only [(t47_0 c nl lo)] <;> (show _ = _; kernel_rfl)
def s47 (c : CallT) (nl lo : Nat) (a0 a1 a2 : AV) (M : MM) : Option (AV × MM) :=
 b47_10 c nl lo a0 a1 a2 M
theorem e47 (c : CallT) (nl lo : Nat) (a0 a1 a2 : AV) (M : MM) : execC c modeF lo nl cf47.body (endK cf47.res) noE (endK cf47.res) (aF [a0, a1, a2]) M = s47 c nl lo a0 a1 a2 M := by
 have h : execC c modeF lo nl cf47.body (endK cf47.res) noE (endK cf47.res) (aF [a0, a1, a2]) M = (k47_10 c nl lo (aF [a0, a1, a2]) M) := execC_seq c modeF lo nl p47_0 p47_29 (endK cf47.res) noE (endK cf47.res) (aF [a0, a1, a2]) M
 refine h.trans ?_
 unfold s47; simp only [(t47_10 c nl lo)] <;> (show _ = _; kernel_rfl)
theorem q47 {c : CallT} (hc : Lim G c) (lo : Nat) (a0 a1 a2 : AV) (M : MM) : c 47 [a0, a1, a2] lo M = s47 c G.nl lo a0 a1 a2 M :=
 (hc.flow (cf := cf47) rfl w47 [a0, a1, a2] lo M).trans (e47 c G.nl lo a0 a1 a2 M)

/-! ### function 48 -/
theorem w48 : wfK cf48.nt cf48.body = true := by kernel_rfl
def k48_2 (c : CallT) (nl lo : Nat) : Rg → MM → Option (AV × MM) := (execC c modeF lo nl p48_21 (endK cf48.res) noE (endK cf48.res))
@[reducible] def b48_2 (c : CallT) (nl lo : Nat) (M : MM) : Option (AV × MM) :=
 some ((.bool false), M)
theorem t48_2 (c : CallT) (nl lo : Nat) (ρ : Rg) (M : MM) : k48_2 c nl lo ρ M = b48_2 c nl lo M := by
 kernel_rfl
def k48_4 (c : CallT) (nl lo : Nat) (n : Nat) : Rg → MM → Option (AV × MM) := iterC (fun k ρ M => execC c modeF lo nl p48_16 k (fun i ρ M => if i = 0 then (k48_2 c nl lo) ρ M else noE i ρ M) (endK cf48.res) ρ M) n
def b48_4 (c : CallT) (nl lo : Nat) : Nat → AV → AV → AV → AV → MM → Option (AV × MM)
 | 0, _, _, _, _, _ => none
 | n + 1, x1, x7, x8, x9, M =>
 opt (binA .lss .none x9 x8) fun v5 =>
 isB v5 fun c6 => if c6 then (opt (ixsA 1 x7 x9) fun v7 =>
 opt (ld1A (lk M) v7) fun v8 =>
 opt (binA .eql .none v8 x1) fun v12 =>
 isB v12 fun c13 => if c13 then (some ((.bool true), M))
 else (opt (binA .add .none x9 (.i 1)) fun v15 =>
 (b48_4 c nl lo n) x1 x7 x8 v15 M))
 else (b48_2 c nl lo M)
theorem t48_4 (c : CallT) (nl lo : Nat) : ∀ (n : Nat) (ρ : Rg) (M : MM), k48_4 c nl lo n ρ M = b48_4 c nl lo n (ρ 1) (ρ 7) (ρ 8) (ρ 9) M
 | 0, ρ, M => rfl
 | n + 1, ρ, M => by
  have h : ∀ (zb z0 : Rg → MM → Option (AV × MM)), execC c modeF lo nl p48_16 zb (fun i ρ M => if i = 0 then z0 ρ M else noE i ρ M) (endK cf48.res) ρ M = (opt (binA .lss .none (ρ 9) (ρ 8)) fun v5 =>
  isB v5 fun c6 => if c6 then (opt (ixsA 1 (ρ 7) (ρ 9)) fun v7 =>
  opt (ld1A (lk M) v7) fun v8 =>
  opt (binA .eql .none v8 (ρ 1)) fun v12 =>
  isB v12 fun c13 => if c13 then (some ((.bool true), M))
  else (opt (binA .add .none (ρ 9) (.i 1)) fun v15 =>
  zb (sF (sF (sF (sF (sF (sF (sF (sF (sF ρ 10 v5) 11 v7) 12 v8) 6 v8) 13 v8) 14 (ρ 1)) 15 v12) 16 v15) 9 v15) M))
  else (z0 (sF ρ 10 v5) M)) := by intros; kernel_rfl
  refine (h (k48_4 c nl lo n) (k48_2 c nl lo)).trans ?_
  unfold b48_4; simp only [(t48_2 c nl lo), (t48_4 c nl lo n)] <;> (show _ = _; kernel_rfl)
def k48_3 (c : CallT) (nl lo : Nat) : Rg → MM → Option (AV × MM) := (execC c modeF lo nl p48_19 (k48_2 c nl lo) noE (endK cf48.res))
@[reducible] def b48_3 (c : CallT) (nl lo : Nat) (x0 x1 : AV) (M : MM) : Option (AV × MM) :=
 opt (lenA x0) fun v3 =>
 b48_4 c nl lo nl x1 x0 v3 (.i 0) M
theorem t48_3 (c : CallT) (nl lo : Nat) (ρ : Rg) (M : MM) : k48_3 c nl lo ρ M = b48_3 c nl lo (ρ 0) (ρ 1) M := by
 have h : k48_3 c nl lo ρ M = (opt (lenA (ρ 0)) fun v3 =>
 k48_4 c nl lo nl (sF (sF (sF ρ 7 (ρ 0)) 8 v3) 9 (.i 0)) M) := by kernel_rfl
 rw [h]
 unfold b48_3; simp only [(t48_4 c nl lo nl)] <;> (show _ = _; kernel_rfl)
def k48_1 (c : CallT) (nl lo : Nat) : Rg → MM → Option (AV × MM) := (execC c modeF lo nl p48_22 (endK cf48.res) noE (endK cf48.res))
@[reducible] def b48_1 (c : CallT) (nl lo : Nat) (x0 x1 : AV) (M : MM) : Option (AV × MM) :=
 b48_3 c nl lo x0 x1 M
theorem t48_1 (c : CallT) (nl lo : Nat) (ρ : Rg) (M : MM) : k48_1 c nl lo ρ M = b48_1 c nl lo (ρ 0) (ρ 1) M := by
 have h : k48_1 c nl lo ρ M = (k48_3 c nl lo ρ M) := execC_seq c modeF lo nl p48_19 p48_21 (endK cf48.res) noE (endK cf48.res) ρ M
 rw [h]
 unfold b48_1; simp only [(t48_3 c nl lo)] <;> (show _ = _; kernel_rfl)
def k48_5 (c : CallT) (nl lo : Nat) : Rg → MM → Option (AV × MM) := (execC c modeF lo nl p48_1 (k48_1 c nl lo) noE (endK cf48.res))
@[reducible] def b48_5 (c : CallT) (nl lo : Nat) (x0 x1 : AV) (M : MM) : Option (AV × MM) :=
 b48_1 c nl lo x0 x1 M
theorem t48_5 (c : CallT) (nl lo : Nat) (ρ : Rg) (M : MM) : k48_5 c nl lo ρ M = b48_5 c nl lo (ρ 0) (ρ 1) M := by
 have h : ∀ (z0 : Rg → MM → Option (AV × MM)), (execC c modeF lo nl p48_1 z0 noE (endK cf48.res)) ρ M = (z0 (sF ρ 4 (.bool false)) M) := by intros; kernel_rfl
 refine (h (k48_1 c nl lo)).trans ?_
 unfold b48_5; simp only [(t48_1 c nl lo)] <;> (show _ = _; kernel_rfl)
def k48_0 (c : CallT) (nl lo : Nat) : Rg → MM → Option (AV × MM) := (execC c modeF lo nl p48_23 (endK cf48.res) noE (endK cf48.res))
@[reducible] def b48_0 (c : CallT) (nl lo : Nat) (x0 x1 : AV) (M : MM) : Option (AV × MM) :=
 b48_5 c nl lo x0 x1 M
theorem t48_0 (c : CallT) (nl lo : Nat) (ρ : Rg) (M : MM) : k48_0 c nl lo ρ M = b48_0 c nl lo (ρ 0) (ρ 1) M := by
 have h : k48_0 c nl lo ρ M = (k48_5 c nl lo ρ M) := execC_seq c modeF lo nl p48_1 p48_22 (endK cf48.res) noE (endK cf48.res) ρ M
 rw [h]
 unfold b48_0; simp only [(t48_5 c nl lo)] <;> (show _ = _; kernel_rfl)
def k48_6 (c : CallT) (nl lo : Nat) : Rg → MM → Option (AV × MM) := (execC c modeF lo nl p48_0 (k48_0 c nl lo) noE (endK cf48.res))
@[reducible] def b48_6 (c : CallT) (nl lo : Nat) (x0 x1 : AV) (M : MM) : Option (AV × MM) :=
 b48_0 c nl lo x0 x1 M
theorem t48_6 (c : CallT) (nl lo : Nat) (ρ : Rg) (M : MM) : k48_6 c nl lo ρ M = b48_6 c nl lo (ρ 0) (ρ 1) M := by
 have h : ∀ (z0 : Rg → MM → Option (AV × MM)), (execC c modeF lo nl p48_0 z0 noE (endK cf48.res)) ρ M = (z0 ρ M) := by intros; kernel_rfl
 refine (h (k48_0 c nl lo)).trans ?_
 unfold b48_6; simp only [(t48_0 c nl lo)] <;> (show _ = _; kernel_rfl)
def s48 (c : CallT) (nl lo : Nat) (a0 a1 : AV) (M : MM) : Option (AV × MM) :=
 b48_6 c nl lo a0 a1 M
theorem e48 (c : CallT) (nl lo : Nat) (a0 a1 : AV) (M : MM) : execC c modeF lo nl cf48.body (endK cf48.res) noE (endK cf48.res) (aF [a0, a1]) M = s48 c nl lo a0 a1 M := by
 have h : execC c modeF lo nl cf48.body (endK cf48.res) noE (endK cf48.res) (aF [a0, a1]) M = (k48_6 c nl lo (aF [a0, a1]) M) := execC_seq c modeF lo nl p48_0 p48_23 (endK cf48.res) noE (endK cf48.res) (aF [a0, a1]) M
 refine h.trans ?_
 unfold s48; simp only [(t48_6 c nl lo)] <;> (show _ = _; kernel_rfl)
theorem q48 {c : CallT} (hc : Lim G c) (lo : Nat) (a0 a1 : AV) (M : MM) : c 48 [a0, a1] lo M = s48 c G.nl lo a0 a1 M :=
 (hc.flow (cf := cf48) rfl w48 [a0, a1] lo M).trans (e48 c G.nl lo a0 a1 M)

/-! ### function 49 -/
theorem w49 : wfK cf49.nt cf49.body = true := by kernel_rfl
def k49_4 (c : CallT) (nl lo : Nat) : Rg → MM → Option (AV × MM) := (execC c modeF lo nl p49_31 (endK cf49.res) noE (endK cf49.res))
@[reducible] def b49_4 (c : CallT) (nl lo : Nat) (x8 : AV) (M : MM) : Option (AV × MM) :=
 some (x8, M)
theorem t49_4 (c : CallT) (nl lo : Nat) (ρ : Rg) (M : MM) : k49_4 c nl lo ρ M = b49_4 c nl lo (ρ 8) M := by
 kernel_rfl
def k49_6 (c : CallT) (nl lo : Nat) (n : Nat) : Rg → MM → Option (AV × MM) := iterC (fun k ρ M => execC c modeF lo nl p49_26 k (fun i ρ M => if i = 0 then (k49_4 c nl lo) ρ M else noE i ρ M) (endK cf49.res) ρ M) n
def b49_6 (c : CallT) (nl lo : Nat) : Nat → AV → AV → AV → AV → AV → AV → MM → Option (AV × MM)
 | 0, _, _, _, _, _, _, _ => none
 | n + 1, x1, x2, x8, x28, x29, x30, M =>
 opt (binA .lss .none x30 x29) fun v7 =>
 isB v7 fun c8 => if c8 then (opt (ixsA 2 x28 x30) fun v9 =>
 opt (ldnA (lk M) 2 v9) fun v10 =>
 upK M M.nx fun M12 =>
 opt (setcA 0 2 (.agg [.str ⟨⟨[]⟩⟩, .d (.sl [] 0)]) v10) fun v13 =>
 opt (fldA 0 2 true v13) fun v15 =>
 opt (puA c (lk M12) 49 [v15, x1, x2]) fun v18 =>
 opt (binA .add .none x8 v18) fun v19 =>
 opt (binA .gtr .none v19 (.i 4096)) fun v22 =>
 isB v22 fun c23 => if c23 then (some ((.i 4097), M12))
 else (opt (binA .add .none x30 (.i 1)) fun v25 =>
 (b49_6 c nl lo n) x1 x2 v19 x28 x29 v25 M12))
 else (b49_4 c nl lo x8 M)
theorem t49_6 (c : CallT) (nl lo : Nat) : ∀ (n : Nat) (ρ : Rg) (M : MM), k49_6 c nl lo n ρ M = b49_6 c nl lo n (ρ 1) (ρ 2) (ρ 8) (ρ 28) (ρ 29) (ρ 30) M
 | 0, ρ, M => rfl
 | n + 1, ρ, M => by
  have h : ∀ (zb z0 : Rg → MM → Option (AV × MM)), execC c modeF lo nl p49_26 zb (fun i ρ M => if i = 0 then z0 ρ M else noE i ρ M) (endK cf49.res) ρ M = (opt (binA .lss .none (ρ 30) (ρ 29)) fun v7 =>
  isB v7 fun c8 => if c8 then (opt (ixsA 2 (ρ 28) (ρ 30)) fun v9 =>
  opt (ldnA (lk M) 2 v9) fun v10 =>
  upK M M.nx fun M12 =>
  opt (setcA 0 2 (.agg [.str ⟨⟨[]⟩⟩, .d (.sl [] 0)]) v10) fun v13 =>
  opt (fldA 0 2 true v13) fun v15 =>
  opt (puA c (lk M12) 49 [v15, (ρ 1), (ρ 2)]) fun v18 =>
  opt (binA .add .none (ρ 8) v18) fun v19 =>
  opt (binA .gtr .none v19 (.i 4096)) fun v22 =>
  isB v22 fun c23 => if c23 then (some ((.i 4097), M12))
  else (opt (binA .add .none (ρ 30) (.i 1)) fun v25 =>
  zb (sF (sF (sF (sF (sF (sF (sF (sF (sF (sF (sF (sF (sF (sF (sF (sF ρ 31 v7) 32 v9) 33 v10) 10 (.agg [.str ⟨⟨[]⟩⟩, .d (.sl [] 0)])) 10 v13) 34 (ρ 8)) 35 v15) 36 (ρ 1)) 37 (ρ 2)) 38 v18) 39 v19) 8 v19) 40 v19) 41 v22) 42 v25) 30 v25) M12))
  else (z0 (sF ρ 31 v7) M)) := by intros; kernel_rfl
  refine (h (k49_6 c nl lo n) (k49_4 c nl lo)).trans ?_
  unfold b49_6; simp only [(t49_4 c nl lo), (t49_6 c nl lo n)] <;> (show _ = _; kernel_rfl)
def k49_5 (c : CallT) (nl lo : Nat) : Rg → MM → Option (AV × MM) := (execC c modeF lo nl p49_29 (k49_4 c nl lo) noE (endK cf49.res))
@[reducible] def b49_5 (c : CallT) (nl lo : Nat) (x1 x2 x3 x8 : AV) (M : MM) : Option (AV × MM) :=
 opt (fldA 0 0 true x3) fun v3 =>
 opt (fldA 1 1 false x3) fun v4 =>
 opt (lenA v4) fun v5 =>
 b49_6 c nl lo nl x1 x2 x8 v4 v5 (.i 0) M
theorem t49_5 (c : CallT) (nl lo : Nat) (ρ : Rg) (M : MM) : k49_5 c nl lo ρ M = b49_5 c nl lo (ρ 1) (ρ 2) (ρ 3) (ρ 8) M := by
 have h : k49_5 c nl lo ρ M = (opt (fldA 0 0 true (ρ 3)) fun v3 =>
 opt (fldA 1 1 false (ρ 3)) fun v4 =>
 opt (lenA v4) fun v5 =>
 k49_6 c nl lo nl (sF (sF (sF (sF ρ 27 v3) 28 v4) 29 v5) 30 (.i 0)) M) := by kernel_rfl
 rw [h]
 unfold b49_5; simp only [(t49_6 c nl lo nl)] <;> (show _ = _; kernel_rfl)
def k49_3 (c : CallT) (nl lo : Nat) : Rg → MM → Option (AV × MM) := (execC c modeF lo nl p49_32 (endK cf49.res) noE (endK cf49.res))
@[reducible] def b49_3 (c : CallT) (nl lo : Nat) (x1 x2 x3 x8 : AV) (M : MM) : Option (AV × MM) :=
 b49_5 c nl lo x1 x2 x3 x8 M
theorem t49_3 (c : CallT) (nl lo : Nat) (ρ : Rg) (M : MM) : k49_3 c nl lo ρ M = b49_3 c nl lo (ρ 1) (ρ 2) (ρ 3) (ρ 8) M := by
 have h : k49_3 c nl lo ρ M = (k49_5 c nl lo ρ M) := execC_seq c modeF lo nl p49_29 p49_31 (endK cf49.res) noE (endK cf49.res) ρ M
 rw [h]
 unfold b49_3; simp only [(t49_5 c nl lo)] <;> (show _ = _; kernel_rfl)
def k49_7 (c : CallT) (nl lo : Nat) : Rg → MM → Option (AV × MM) := (execC c modeF lo nl p49_9 (k49_3 c nl lo) noE (endK cf49.res))
@[reducible] def b49_7 (c : CallT) (nl lo : Nat) (x1 x2 x3 : AV) (M : MM) : Option (AV × MM) :=
 b49_3 c nl lo x1 x2 x3 (.i 1) M
theorem t49_7 (c : CallT) (nl lo : Nat) (ρ : Rg) (M : MM) : k49_7 c nl lo ρ M = b49_7 c nl lo (ρ 1) (ρ 2) (ρ 3) M := by
 have h : ∀ (z0 : Rg → MM → Option (AV × MM)), (execC c modeF lo nl p49_9 z0 noE (endK cf49.res)) ρ M = (z0 (sF ρ 8 (.i 1)) M) := by intros; kernel_rfl
 refine (h (k49_3 c nl lo)).trans ?_
 unfold b49_7; simp only [(t49_3 c nl lo)] <;> (show _ = _; kernel_rfl)
def k49_2 (c : CallT) (nl lo : Nat) : Rg → MM → Option (AV × MM) := (execC c modeF lo nl p49_33 (endK cf49.res) noE (endK cf49.res))
@[reducible] def b49_2 (c : CallT) (nl lo : Nat) (x1 x2 x3 : AV) (M : MM) : Option (AV × MM) :=
 b49_7 c nl lo x1 x2 x3 M
theorem t49_2 (c : CallT) (nl lo : Nat) (ρ : Rg) (M : MM) : k49_2 c nl lo ρ M = b49_2 c nl lo (ρ 1) (ρ 2) (ρ 3) M := by
 have h : k49_2 c nl lo ρ M = (k49_7 c nl lo ρ M) := execC_seq c modeF lo nl p49_9 p49_32 (endK cf49.res) noE (endK cf49.res) ρ M
 rw [h]
 unfold b49_2; simp only [(t49_7 c nl lo)] <;> (show _ = _; kernel_rfl)
def k49_8 (c : CallT) (nl lo : Nat) : Rg → MM → Option (AV × MM) := (execC c modeF lo nl p49_8 (k49_2 c nl lo) noE (endK cf49.res))
@[reducible] def b49_8 (c : CallT) (nl lo : Nat) (x1 x2 x3 : AV) (M : MM) : Option (AV × MM) :=
 opt (fldA 0 0 true x3) fun v2 =>
 opt (fldA 0 1 false x3) fun v3 =>
 opt (puA c (lk M) 72 [x1, v3]) fun v4 =>
 opt (binA .geq .none v4 (.i 0)) fun v7 =>
 opt (gdp v7 true (fldA 0 0 true x3)) fun v9 =>
 opt (gdp v7 true (fldA 1 1 false x3)) fun v10 =>
 opt (gdp v7 true (lenA v10)) fun v11 =>
 opt (gdp v7 true (binA .eql .none v11 (.i 0))) fun v12 =>
 opt (pickA v7 v12 (.bool false)) fun v13 =>
 isB v13 fun c14 => if c14 then (opt (ixsA 1 x2 v4) fun v17 =>
 opt (ld1A (lk M) v17) fun v18 =>
 some (v18, M))
 else (b49_2 c nl lo x1 x2 x3 M)
theorem t49_8 (c : CallT) (nl lo : Nat) (ρ : Rg) (M : MM) : k49_8 c nl lo ρ M = b49_8 c nl lo (ρ 1) (ρ 2) (ρ 3) M := by
 have h : ∀ (z0 : Rg → MM → Option (AV × MM)), (execC c modeF lo nl p49_8 z0 noE (endK cf49.res)) ρ M = (opt (fldA 0 0 true (ρ 3)) fun v2 =>
 opt (fldA 0 1 false (ρ 3)) fun v3 =>
 opt (puA c (lk M) 72 [(ρ 1), v3]) fun v4 =>
 opt (binA .geq .none v4 (.i 0)) fun v7 =>
 opt (gdp v7 true (fldA 0 0 true (ρ 3))) fun v9 =>
 opt (gdp v7 true (fldA 1 1 false (ρ 3))) fun v10 =>
 opt (gdp v7 true (lenA v10)) fun v11 =>
 opt (gdp v7 true (binA .eql .none v11 (.i 0))) fun v12 =>
 opt (pickA v7 v12 (.bool false)) fun v13 =>
 isB v13 fun c14 => if c14 then (opt (ixsA 1 (ρ 2) v4) fun v17 =>
 opt (ld1A (lk M) v17) fun v18 =>
 some (v18, M))
 else (z0 (sF (sF (sF (sF (sF (sF (sF (sF (sF (sF (sF (sF (sF ρ 11 (ρ 1)) 12 v2) 13 v3) 14 v4) 7 v4) 15 v4) 16 v7) 17 v7) 18 v9) 19 v10) 20 v11) 21 v12) 22 v13) M)) := by intros; kernel_rfl
 refine (h (k49_2 c nl lo)).trans ?_
 unfold b49_8; simp only [(t49_2 c nl lo)] <;> (show _ = _; kernel_rfl)
def k49_1 (c : CallT) (nl lo : Nat) : Rg → MM → Option (AV × MM) := (execC c modeF lo nl p49_34 (endK cf49.res) noE (endK cf49.res))
@[reducible] def b49_1 (c : CallT) (nl lo : Nat) (x1 x2 x3 : AV) (M : MM) : Option (AV × MM) :=
 b49_8 c nl lo x1 x2 x3 M
theorem t49_1 (c : CallT) (nl lo : Nat) (ρ : Rg) (M : MM) : k49_1 c nl lo ρ M = b49_1 c nl lo (ρ 1) (ρ 2) (ρ 3) M := by
 have h : k49_1 c nl lo ρ M = (k49_8 c nl lo ρ M) := execC_seq c modeF lo nl p49_8 p49_33 (endK cf49.res) noE (endK cf49.res) ρ M
 rw [h]
 unfold b49_1; simp only [(t49_8 c nl lo)] <;> (show _ = _; kernel_rfl)
def k49_9 (c : CallT) (nl lo : Nat) : Rg → MM → Option (AV × MM) := (execC c modeF lo nl p49_1 (k49_1 c nl lo) noE (endK cf49.res))
@[reducible] def b49_9 (c : CallT) (nl lo : Nat) (x0 x1 x2 : AV) (M : MM) : Option (AV × MM) :=
 opt (aggA x0) fun v1 =>
 upK M M.nx fun M2 =>
 b49_1 c nl lo x1 x2 v1 M2
theorem t49_9 (c : CallT) (nl lo : Nat) (ρ : Rg) (M : MM) : k49_9 c nl lo ρ M = b49_9 c nl lo (ρ 0) (ρ 1) (ρ 2) M := by
 have h : ∀ (z0 : Rg → MM → Option (AV × MM)), (execC c modeF lo nl p49_1 z0 noE (endK cf49.res)) ρ M = (opt (aggA (ρ 0)) fun v1 =>
 upK M M.nx fun M2 =>
 z0 (sF (sF ρ 3 v1) 6 (.i 0)) M2) := by intros; kernel_rfl
 refine (h (k49_1 c nl lo)).trans ?_
 unfold b49_9; simp only [(t49_1 c nl lo)] <;> (show _ = _; kernel_rfl)
def k49_0 (c : CallT) (nl lo : Nat) : Rg → MM → Option (AV × MM) := (execC c modeF lo nl p49_35 (endK cf49.res) noE (endK cf49.res))
@[reducible] def b49_0 (c : CallT) (nl lo : Nat) (x0 x1 x2 : AV) (M : MM) : Option (AV × MM) :=
 b49_9 c nl lo x0 x1 x2 M
theorem t49_0 (c : CallT) (nl lo : Nat) (ρ : Rg) (M : MM) : k49_0 c nl lo ρ M = b49_0 c nl lo (ρ 0) (ρ 1) (ρ 2) M := by
 have h : k49_0 c nl lo ρ M = (k49_9 c nl lo ρ M) := execC_seq c modeF lo nl p49_1 p49_34 (endK cf49.res) noE (endK cf49.res) ρ M
 rw [h]
 unfold b49_0; simp only [(t49_9 c nl lo)] <;> (show _ = _; kernel_rfl)
def k49_10 (c : CallT) (nl lo : Nat) : Rg → MM → Option (AV × MM) := (execC c modeF lo nl p49_0 (k49_0 c nl lo) noE (endK cf49.res))
@[reducible] def b49_10 (c : CallT) (nl lo : Nat) (x0 x1 x2 : AV) (M : MM) : Option (AV × MM) :=
 b49_0 c nl lo x0 x1 x2 M
theorem t49_10 (c : CallT) (nl lo : Nat) (ρ : Rg) (M : MM) : k49_10 c nl lo ρ M = b49_10 c nl lo (ρ 0) (ρ 1) (ρ 2) M := by
 have h : ∀ (z0 : Rg → MM → Option (AV × MM)), (execC c modeF lo nl p49_0 z0 noE (endK cf49.res)) ρ M = (z0 (sF (sF ρ 3 (.tup [])) 10 (.tup [])) M) := by intros; kernel_rfl
 refine (h (k49_0 c nl lo)).trans ?_
 unfold b49_10; simp only [(t49_0 c nl lo)] <;> (show _ = _; kernel_rfl)
def s49 (c : CallT) (nl lo : Nat) (a0 a1 a2 : AV) (M : MM) : Option (AV × MM) :=
 b49_10 c nl lo a0 a1 a2 M
theorem e49 (c : CallT) (nl lo : Nat) (a0 a1 a2 : AV) (M : MM) : execC c modeF lo nl cf49.body (endK cf49.res) noE (endK cf49.res) (aF [a0, a1, a2]) M = s49 c nl lo a0 a1 a2 M := by
 have h : execC c modeF lo nl cf49.body (endK cf49.res) noE (endK cf49.res) (aF [a0, a1, a2]) M = (k49_10 c nl lo (aF [a0, a1, a2]) M) := execC_seq c modeF lo nl p49_0 p49_35 (endK cf49.res) noE (endK cf49.res) (aF [a0, a1, a2]) M
 refine h.trans ?_
 unfold s49; simp only [(t49_10 c nl lo)] <;> (show _ = _; kernel_rfl)
theorem q49 {c : CallT} (hc : Lim G c) (lo : Nat) (a0 a1 a2 : AV) (M : MM) : c 49 [a0, a1, a2] lo M = s49 c G.nl lo a0 a1 a2 M :=
 (hc.flow (cf := cf49) rfl w49 [a0, a1, a2] lo M).trans (e49 c G.nl lo a0 a1 a2 M)
end Go.Proofs.Ytcoagkfjdpdohaa.Sx
