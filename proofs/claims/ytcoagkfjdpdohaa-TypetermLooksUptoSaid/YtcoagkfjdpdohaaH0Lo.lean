/- THE SEAT's FUNCTIONS AS DEFINITIONS WITHOUT REGISTERS, printed by program; 'eq..' holds each against the abstract machine's code. -/
import Derived.Test.YtcoagkfjdpdohaaGLo
import Derived.Test.YtcoagkfjdpdohaaSxM
namespace Go.Proofs.Ytcoagkfjdpdohaa.Sx
open Go
set_option maxRecDepth 1000000
set_option linter.unusedVariables false
set_option linter.unusedSimpArgs false

/-! ### function 8 -/
theorem w8 : wfK cf8.nt cf8.body = true := by kernel_rfl
def k8_6 (c : CallT) (nl lo : Nat) : Rg → MM → Option (AV × MM) := (execC c modeF lo nl p8_77 (endK cf8.res) noE (endK cf8.res))
@[reducible] def b8_6 (c : CallT) (nl lo : Nat) (M : MM) : Option (AV × MM) :=
 opt (puA c (lk M) 10 []) fun v1 =>
 some (v1, M)
theorem t8_6 (c : CallT) (nl lo : Nat) (ρ : Rg) (M : MM) : k8_6 c nl lo ρ M = b8_6 c nl lo M := by
 kernel_rfl
def k8_8 (c : CallT) (nl lo : Nat) (n : Nat) : Rg → MM → Option (AV × MM) := iterC (fun k ρ M => execC c modeF lo nl p8_72 k (fun i ρ M => if i = 4 then (k8_6 c nl lo) ρ M else noE i ρ M) (endK cf8.res) ρ M) n
def b8_8 (c : CallT) (nl lo : Nat) : Nat → AV → AV → AV → MM → Option (AV × MM)
 | 0, _, _, _, _ => none
 | n + 1, x164, x165, x166, M =>
 opt (binA .lss .none x166 x165) fun v12 =>
 isB v12 fun c13 => if c13 then (opt (ixsA 1 x164 x166) fun v14 =>
 opt (ld1A (lk M) v14) fun v15 =>
 opt (puA c (lk M) 35 [v15]) fun v18 =>
 opt (extA 0 v18) fun v20 =>
 opt (extA 1 v18) fun v21 =>
 opt (extA 2 v18) fun v22 =>
 opt (puA c (lk M) 36 [v15]) fun v27 =>
 opt (extA 0 v27) fun v29 =>
 opt (extA 1 v27) fun v30 =>
 opt (extA 2 v27) fun v31 =>
 opt (binA .neq .none v20 v29) fun v37 =>
 opt (gdp v37 false (some v21)) fun v39 =>
 opt (gdp v37 false (some v30)) fun v40 =>
 opt (gdp v37 false (binA .neq .none v39 v40)) fun v41 =>
 opt (pickA v37 (.bool true) v41) fun v42 =>
 opt (gdp v42 false (some v22)) fun v44 =>
 opt (gdp v42 false (some v31)) fun v45 =>
 opt (gdp v42 false (binA .neq .bool v44 v45)) fun v46 =>
 opt (pickA v42 (.bool true) v46) fun v47 =>
 opt (gdp v47 false (some v15)) fun v49 =>
 opt (gdp v47 false (puA c (lk M) 37 [v49])) fun v50 =>
 opt (gdp v47 false (some v15)) fun v51 =>
 opt (gdp v47 false (puA c (lk M) 38 [v51])) fun v52 =>
 opt (gdp v47 false (binA .neq .bool v50 v52)) fun v53 =>
 opt (pickA v47 (.bool true) v53) fun v54 =>
 isB v54 fun c55 => if c55 then (some ((.bool false), M))
 else (opt (binA .add .none x166 (.i 1)) fun v57 =>
 (b8_8 c nl lo n) x164 x165 v57 M))
 else (b8_6 c nl lo M)
theorem t8_8 (c : CallT) (nl lo : Nat) : ∀ (n : Nat) (ρ : Rg) (M : MM), k8_8 c nl lo n ρ M = b8_8 c nl lo n (ρ 164) (ρ 165) (ρ 166) M
 | 0, ρ, M => rfl
 | n + 1, ρ, M => by
  have h : ∀ (zb z0 : Rg → MM → Option (AV × MM)), execC c modeF lo nl p8_72 zb (fun i ρ M => if i = 4 then z0 ρ M else noE i ρ M) (endK cf8.res) ρ M = (opt (binA .lss .none (ρ 166) (ρ 165)) fun v12 =>
  isB v12 fun c13 => if c13 then (opt (ixsA 1 (ρ 164) (ρ 166)) fun v14 =>
  opt (ld1A (lk M) v14) fun v15 =>
  opt (puA c (lk M) 35 [v15]) fun v18 =>
  opt (extA 0 v18) fun v20 =>
  opt (extA 1 v18) fun v21 =>
  opt (extA 2 v18) fun v22 =>
  opt (puA c (lk M) 36 [v15]) fun v27 =>
  opt (extA 0 v27) fun v29 =>
  opt (extA 1 v27) fun v30 =>
  opt (extA 2 v27) fun v31 =>
  opt (binA .neq .none v20 v29) fun v37 =>
  opt (gdp v37 false (some v21)) fun v39 =>
  opt (gdp v37 false (some v30)) fun v40 =>
  opt (gdp v37 false (binA .neq .none v39 v40)) fun v41 =>
  opt (pickA v37 (.bool true) v41) fun v42 =>
  opt (gdp v42 false (some v22)) fun v44 =>
  opt (gdp v42 false (some v31)) fun v45 =>
  opt (gdp v42 false (binA .neq .bool v44 v45)) fun v46 =>
  opt (pickA v42 (.bool true) v46) fun v47 =>
  opt (gdp v47 false (some v15)) fun v49 =>
  opt (gdp v47 false (puA c (lk M) 37 [v49])) fun v50 =>
  opt (gdp v47 false (some v15)) fun v51 =>
  opt (gdp v47 false (puA c (lk M) 38 [v51])) fun v52 =>
  opt (gdp v47 false (binA .neq .bool v50 v52)) fun v53 =>
  opt (pickA v47 (.bool true) v53) fun v54 =>
  isB v54 fun c55 => if c55 then (some ((.bool false), M))
  else (opt (binA .add .none (ρ 166) (.i 1)) fun v57 =>
  zb (sF (sF (sF (sF (sF (sF (sF (sF (sF (sF (sF (sF (sF (sF (sF (sF (sF (sF (sF (sF (sF (sF (sF (sF (sF (sF (sF (sF (sF (sF (sF (sF (sF (sF (sF (sF (sF (sF (sF (sF (sF (sF (sF (sF ρ 167 v12) 168 v14) 169 v15) 18 v15) 171 v15) 172 v18) 170 v18) 173 v20) 174 v21) 175 v22) 19 v20) 20 v21) 21 v22) 177 v15) 178 v27) 176 v27) 179 v29) 180 v30) 181 v31) 22 v29) 23 v30) 24 v31) 182 v20) 183 v29) 184 v37) 185 v37) 186 v39) 187 v40) 188 v41) 189 v42) 190 v42) 191 v44) 192 v45) 193 v46) 194 v47) 195 v47) 196 v49) 197 v50) 198 v51) 199 v52) 200 v53) 201 v54) 202 v57) 166 v57) M))
  else (z0 (sF ρ 167 v12) M)) := by intros; kernel_rfl
  refine (h (k8_8 c nl lo n) (k8_6 c nl lo)).trans ?_
  unfold b8_8; simp only [(t8_6 c nl lo), (t8_8 c nl lo n)] <;> (show _ = _; kernel_rfl)
def k8_7 (c : CallT) (nl lo : Nat) : Rg → MM → Option (AV × MM) := (execC c modeF lo nl p8_75 (k8_6 c nl lo) noE (endK cf8.res))
@[reducible] def b8_7 (c : CallT) (nl lo : Nat) (x2 x4 x10 : AV) (M : MM) : Option (AV × MM) :=
 opt (fldA 0 0 true x4) fun v4 =>
 opt (fldA 0 1 false x4) fun v5 =>
 opt (fldA 0 0 true x10) fun v6 =>
 opt (fldA 0 1 false x10) fun v7 =>
 opt (wslA 6 (fill [.str ⟨⟨[]⟩⟩, .str ⟨⟨[]⟩⟩, .str ⟨⟨[]⟩⟩, .str ⟨⟨[]⟩⟩, .str ⟨⟨[]⟩⟩, .str ⟨⟨[]⟩⟩] [(0, 1, x2), (1, 1, v5), (2, 1, v7), (3, 1, (.str ⟨⟨[97, 46, 98, 46, 99]⟩⟩)), (4, 1, (.str ⟨⟨[46, 97]⟩⟩)), (5, 1, (.str ⟨⟨[97, 46]⟩⟩))])) fun v8 =>
 upK M M.nx fun M9 =>
 opt (lenA v8) fun v10 =>
 b8_8 c nl lo nl v8 v10 (.i 0) M9
theorem t8_7 (c : CallT) (nl lo : Nat) (ρ : Rg) (M : MM) : k8_7 c nl lo ρ M = b8_7 c nl lo (ρ 2) (ρ 4) (ρ 10) M := by
 have h : k8_7 c nl lo ρ M = (opt (fldA 0 0 true (ρ 4)) fun v4 =>
 opt (fldA 0 1 false (ρ 4)) fun v5 =>
 opt (fldA 0 0 true (ρ 10)) fun v6 =>
 opt (fldA 0 1 false (ρ 10)) fun v7 =>
 opt (wslA 6 (fill [.str ⟨⟨[]⟩⟩, .str ⟨⟨[]⟩⟩, .str ⟨⟨[]⟩⟩, .str ⟨⟨[]⟩⟩, .str ⟨⟨[]⟩⟩, .str ⟨⟨[]⟩⟩] [(0, 1, (ρ 2)), (1, 1, v5), (2, 1, v7), (3, 1, (.str ⟨⟨[97, 46, 98, 46, 99]⟩⟩)), (4, 1, (.str ⟨⟨[46, 97]⟩⟩)), (5, 1, (.str ⟨⟨[97, 46]⟩⟩))])) fun v8 =>
 upK M M.nx fun M9 =>
 opt (lenA v8) fun v10 =>
 k8_8 c nl lo nl (sF (sF (sF (sF (sF (sF (sF (sF ρ 159 (ρ 2)) 160 v4) 161 v5) 162 v6) 163 v7) 164 v8) 165 v10) 166 (.i 0)) M9) := by kernel_rfl
 rw [h]
 unfold b8_7; simp only [(t8_8 c nl lo nl)] <;> (show _ = _; kernel_rfl)
def k8_5 (c : CallT) (nl lo : Nat) : Rg → MM → Option (AV × MM) := (execC c modeF lo nl p8_78 (endK cf8.res) noE (endK cf8.res))
@[reducible] def b8_5 (c : CallT) (nl lo : Nat) (x2 x4 x10 : AV) (M : MM) : Option (AV × MM) :=
 b8_7 c nl lo x2 x4 x10 M
theorem t8_5 (c : CallT) (nl lo : Nat) (ρ : Rg) (M : MM) : k8_5 c nl lo ρ M = b8_5 c nl lo (ρ 2) (ρ 4) (ρ 10) M := by
 have h : k8_5 c nl lo ρ M = (k8_7 c nl lo ρ M) := execC_seq c modeF lo nl p8_75 p8_77 (endK cf8.res) noE (endK cf8.res) ρ M
 rw [h]
 unfold b8_5; simp only [(t8_7 c nl lo)] <;> (show _ = _; kernel_rfl)
def k8_13 (c : CallT) (nl lo : Nat) (q8_10 : Rg → MM → Option (AV × MM)) : Rg → MM → Option (AV × MM) := (execC c modeF lo nl p8_47 q8_10 (fun i ρ M => if i = 0 then (k8_5 c nl lo) ρ M else noE i ρ M) (endK cf8.res))
@[reducible] def b8_13 (c : CallT) (nl lo : Nat) (j8_10 : AV → AV → AV → AV → AV → AV → MM → Option (AV × MM)) (x2 x4 x10 x57 x58 x59 : AV) (M : MM) : Option (AV × MM) :=
 opt (binA .add .none x59 (.i 1)) fun v17 =>
 j8_10 x2 x4 x10 x57 x58 v17 M
theorem t8_13 (c : CallT) (nl lo : Nat) (q8_10 : Rg → MM → Option (AV × MM)) (j8_10 : AV → AV → AV → AV → AV → AV → MM → Option (AV × MM)) (h8_10 : ∀ (ρ : Rg) (M : MM), q8_10 ρ M = j8_10 (ρ 2) (ρ 4) (ρ 10) (ρ 57) (ρ 58) (ρ 59) M) (ρ : Rg) (M : MM) : k8_13 c nl lo q8_10 ρ M = b8_13 c nl lo j8_10 (ρ 2) (ρ 4) (ρ 10) (ρ 57) (ρ 58) (ρ 59) M := by
 have h : k8_13 c nl lo q8_10 ρ M = (opt (binA .add .none (ρ 59) (.i 1)) fun v17 =>
 q8_10 (sF (sF ρ 158 v17) 59 v17) M) := by kernel_rfl
 rw [h]
 unfold b8_13; simp only [h8_10] <;> (show _ = _; kernel_rfl)
def k8_18 (c : CallT) (nl lo : Nat) (q8_10 : Rg → MM → Option (AV × MM)) : Rg → MM → Option (AV × MM) := (execC c modeF lo nl p8_41 (k8_13 c nl lo q8_10) (fun i ρ M => if i = 1 then (k8_13 c nl lo q8_10) ρ M else (fun i ρ M => if i = 0 then (k8_5 c nl lo) ρ M else noE i ρ M) i ρ M) (endK cf8.res))
@[reducible] def b8_18 (c : CallT) (nl lo : Nat) (j8_10 : AV → AV → AV → AV → AV → AV → MM → Option (AV × MM)) (x2 x4 x10 x13 x57 x58 x59 : AV) (M : MM) : Option (AV × MM) :=
 bumpK M 69 fun M19 =>
 opt (ixpA 2 2 x13 (.i 0)) fun v20 =>
 opt (ldnA (look M19.mem (.mk M.nx 69 1 true)) 2 v20) fun v21 =>
 opt (puA c (look M19.mem (.mk M.nx 69 3 true)) 28 [v21]) fun v22 =>
 opt (ixpA 2 2 x13 (.i 0)) fun v23 =>
 opt (ldnA (look M19.mem (.mk M.nx 69 8 true)) 2 v23) fun v24 =>
 opt (puA c (look M19.mem (.mk M.nx 69 31 true)) 29 [v24]) fun v25 =>
 opt (binA .neq .bool v22 v25) fun v26 =>
 opt (gdp v26 false (ixpA 2 2 x13 (.i 0))) fun v28 =>
 opt (gdp v26 false (ldnA (look M19.mem (.mk M.nx 69 511 true)) 2 v28)) fun v29 =>
 opt (gdp v26 false (ixpA 2 2 x13 (.i 1))) fun v30 =>
 opt (gdp v26 false (ldnA (look M19.mem (.mk M.nx 69 1279 true)) 2 v30)) fun v31 =>
 opt (gdp v26 false (puA c (look M19.mem (.mk M.nx 69 4095 true)) 14 [v29, v31])) fun v32 =>
 opt (gdp v26 false (ixpA 2 2 x13 (.i 0))) fun v33 =>
 opt (gdp v26 false (ldnA (look M19.mem (.mk M.nx 69 8447 true)) 2 v33)) fun v34 =>
 opt (gdp v26 false (ixpA 2 2 x13 (.i 1))) fun v35 =>
 opt (gdp v26 false (ldnA (look M19.mem (.mk M.nx 69 33023 true)) 2 v35)) fun v36 =>
 opt (gdp v26 false (puA c (look M19.mem (.mk M.nx 69 131071 true)) 20 [v34, v36])) fun v37 =>
 opt (gdp v26 false (binA .neq .bool v32 v37)) fun v38 =>
 opt (pickA v26 (.bool true) v38) fun v39 =>
 opt (gdp v39 false (ixpA 2 2 x13 (.i 0))) fun v41 =>
 opt (gdp v39 false (ldnA (look M19.mem (.mk M.nx 69 4194303 true)) 2 v41)) fun v42 =>
 opt (gdp v39 false (ixpA 2 2 x13 (.i 1))) fun v43 =>
 opt (gdp v39 false (ldnA (look M19.mem (.mk M.nx 69 10485759 true)) 2 v43)) fun v44 =>
 opt (gdp v39 false (puA c (look M19.mem (.mk M.nx 69 33554431 true)) 13 [v42, v44])) fun v45 =>
 opt (gdp v39 false (ixpA 2 2 x13 (.i 0))) fun v46 =>
 opt (gdp v39 false (ldnA (look M19.mem (.mk M.nx 69 69206015 true)) 2 v46)) fun v47 =>
 opt (gdp v39 false (ixpA 2 2 x13 (.i 1))) fun v48 =>
 opt (gdp v39 false (ldnA (look M19.mem (.mk M.nx 69 270532607 true)) 2 v48)) fun v49 =>
 opt (gdp v39 false (puA c (look M19.mem (.mk M.nx 69 1073741823 true)) 30 [v47, v49])) fun v50 =>
 opt (gdp v39 false (binA .neq .none v45 v50)) fun v51 =>
 opt (pickA v39 (.bool true) v51) fun v52 =>
 opt (gdp v52 false (ixpA 2 2 x13 (.i 0))) fun v54 =>
 opt (gdp v52 false (ldnA (look M19.mem (.mk M.nx 69 34359738367 true)) 2 v54)) fun v55 =>
 opt (gdp v52 false (puA c (look M19.mem (.mk M.nx 69 68719476735 true)) 24 [v55])) fun v56 =>
 opt (gdp v52 false (ixpA 2 2 x13 (.i 0))) fun v57 =>
 opt (gdp v52 false (ldnA (look M19.mem (.mk M.nx 69 154618822655 true)) 2 v57)) fun v58 =>
 opt (gdp v52 false (puA c (look M19.mem (.mk M.nx 69 549755813887 true)) 31 [v58])) fun v59 =>
 opt (gdp v52 false (binA .neq .none v56 v59)) fun v60 =>
 opt (pickA v52 (.bool true) v60) fun v61 =>
 opt (gdp v61 false (ixpA 2 2 x13 (.i 0))) fun v63 =>
 opt (gdp v61 false (ldnA (look M19.mem (.mk M.nx 69 17592186044415 true)) 2 v63)) fun v64 =>
 opt (gdp v61 false (puA c (look M19.mem (.mk M.nx 69 35184372088831 true)) 25 [v64])) fun v65 =>
 opt (gdp v61 false (ixpA 2 2 x13 (.i 0))) fun v66 =>
 opt (gdp v61 false (ldnA (look M19.mem (.mk M.nx 69 79164837199871 true)) 2 v66)) fun v67 =>
 opt (gdp v61 false (puA c (look M19.mem (.mk M.nx 69 281474976710655 true)) 32 [v67])) fun v68 =>
 opt (gdp v61 false (binA .neq .none v65 v68)) fun v69 =>
 opt (pickA v61 (.bool true) v69) fun v70 =>
 opt (gdp v70 false (ixpA 2 2 x13 (.i 0))) fun v72 =>
 opt (gdp v70 false (ldnA (look M19.mem (.mk M.nx 69 9007199254740991 true)) 2 v72)) fun v73 =>
 opt (gdp v70 false (puA c (look M19.mem (.mk M.nx 69 18014398509481983 true)) 27 [v73])) fun v74 =>
 opt (gdp v70 false (ixpA 2 2 x13 (.i 0))) fun v75 =>
 opt (gdp v70 false (ldnA (look M19.mem (.mk M.nx 69 40532396646334463 true)) 2 v75)) fun v76 =>
 opt (gdp v70 false (puA c (look M19.mem (.mk M.nx 69 144115188075855871 true)) 33 [v76])) fun v77 =>
 opt (gdp v70 false (binA .neq .bool v74 v77)) fun v78 =>
 opt (pickA v70 (.bool true) v78) fun v79 =>
 opt (gdp v79 false (ixpA 2 2 x13 (.i 0))) fun v81 =>
 opt (gdp v79 false (ldnA (look M19.mem (.mk M.nx 69 4611686018427387903 true)) 2 v81)) fun v82 =>
 opt (gdp v79 false (puA c (look M19.mem (.mk M.nx 69 9223372036854775807 true)) 15 [v82])) fun v83 =>
 opt (gdp v79 false (ixpA 2 2 x13 (.i 0))) fun v84 =>
 opt (gdp v79 false (ldnA (look M19.mem (.mk M.nx 69 20752587082923245567 true)) 2 v84)) fun v85 =>
 opt (gdp v79 false (puA c (look M19.mem (.mk M.nx 69 73786976294838206463 true)) 34 [v85])) fun v86 =>
 opt (gdp v79 false (binA .neq .none v83 v86)) fun v87 =>
 opt (pickA v79 (.bool true) v87) fun v88 =>
 isB v88 fun c89 => if c89 then (some ((.bool false), M19))
 else (b8_13 c nl lo j8_10 x2 x4 x10 x57 x58 x59 M19)
theorem t8_18 (c : CallT) (nl lo : Nat) (q8_10 : Rg → MM → Option (AV × MM)) (j8_10 : AV → AV → AV → AV → AV → AV → MM → Option (AV × MM)) (h8_10 : ∀ (ρ : Rg) (M : MM), q8_10 ρ M = j8_10 (ρ 2) (ρ 4) (ρ 10) (ρ 57) (ρ 58) (ρ 59) M) (ρ : Rg) (M : MM) : k8_18 c nl lo q8_10 ρ M = b8_18 c nl lo j8_10 (ρ 2) (ρ 4) (ρ 10) (ρ 13) (ρ 57) (ρ 58) (ρ 59) M := by
 have h : ∀ (z0 : Rg → MM → Option (AV × MM)), (execC c modeF lo nl p8_41 z0 (fun i ρ M => if i = 1 then z0 ρ M else (fun i ρ M => if i = 0 then (k8_5 c nl lo) ρ M else noE i ρ M) i ρ M) (endK cf8.res)) ρ M = (bumpK M 69 fun M19 =>
 opt (ixpA 2 2 (ρ 13) (.i 0)) fun v20 =>
 opt (ldnA (look M19.mem (.mk M.nx 69 1 true)) 2 v20) fun v21 =>
 opt (puA c (look M19.mem (.mk M.nx 69 3 true)) 28 [v21]) fun v22 =>
 opt (ixpA 2 2 (ρ 13) (.i 0)) fun v23 =>
 opt (ldnA (look M19.mem (.mk M.nx 69 8 true)) 2 v23) fun v24 =>
 opt (puA c (look M19.mem (.mk M.nx 69 31 true)) 29 [v24]) fun v25 =>
 opt (binA .neq .bool v22 v25) fun v26 =>
 opt (gdp v26 false (ixpA 2 2 (ρ 13) (.i 0))) fun v28 =>
 opt (gdp v26 false (ldnA (look M19.mem (.mk M.nx 69 511 true)) 2 v28)) fun v29 =>
 opt (gdp v26 false (ixpA 2 2 (ρ 13) (.i 1))) fun v30 =>
 opt (gdp v26 false (ldnA (look M19.mem (.mk M.nx 69 1279 true)) 2 v30)) fun v31 =>
 opt (gdp v26 false (puA c (look M19.mem (.mk M.nx 69 4095 true)) 14 [v29, v31])) fun v32 =>
 opt (gdp v26 false (ixpA 2 2 (ρ 13) (.i 0))) fun v33 =>
 opt (gdp v26 false (ldnA (look M19.mem (.mk M.nx 69 8447 true)) 2 v33)) fun v34 =>
 opt (gdp v26 false (ixpA 2 2 (ρ 13) (.i 1))) fun v35 =>
 opt (gdp v26 false (ldnA (look M19.mem (.mk M.nx 69 33023 true)) 2 v35)) fun v36 =>
 opt (gdp v26 false (puA c (look M19.mem (.mk M.nx 69 131071 true)) 20 [v34, v36])) fun v37 =>
 opt (gdp v26 false (binA .neq .bool v32 v37)) fun v38 =>
 opt (pickA v26 (.bool true) v38) fun v39 =>
 opt (gdp v39 false (ixpA 2 2 (ρ 13) (.i 0))) fun v41 =>
 opt (gdp v39 false (ldnA (look M19.mem (.mk M.nx 69 4194303 true)) 2 v41)) fun v42 =>
 opt (gdp v39 false (ixpA 2 2 (ρ 13) (.i 1))) fun v43 =>
 opt (gdp v39 false (ldnA (look M19.mem (.mk M.nx 69 10485759 true)) 2 v43)) fun v44 =>
 opt (gdp v39 false (puA c (look M19.mem (.mk M.nx 69 33554431 true)) 13 [v42, v44])) fun v45 =>
 opt (gdp v39 false (ixpA 2 2 (ρ 13) (.i 0))) fun v46 =>
 opt (gdp v39 false (ldnA (look M19.mem (.mk M.nx 69 69206015 true)) 2 v46)) fun v47 =>
 opt (gdp v39 false (ixpA 2 2 (ρ 13) (.i 1))) fun v48 =>
 opt (gdp v39 false (ldnA (look M19.mem (.mk M.nx 69 270532607 true)) 2 v48)) fun v49 =>
 opt (gdp v39 false (puA c (look M19.mem (.mk M.nx 69 1073741823 true)) 30 [v47, v49])) fun v50 =>
 opt (gdp v39 false (binA .neq .none v45 v50)) fun v51 =>
 opt (pickA v39 (.bool true) v51) fun v52 =>
 opt (gdp v52 false (ixpA 2 2 (ρ 13) (.i 0))) fun v54 =>
 opt (gdp v52 false (ldnA (look M19.mem (.mk M.nx 69 34359738367 true)) 2 v54)) fun v55 =>
 opt (gdp v52 false (puA c (look M19.mem (.mk M.nx 69 68719476735 true)) 24 [v55])) fun v56 =>
 opt (gdp v52 false (ixpA 2 2 (ρ 13) (.i 0))) fun v57 =>
 opt (gdp v52 false (ldnA (look M19.mem (.mk M.nx 69 154618822655 true)) 2 v57)) fun v58 =>
 opt (gdp v52 false (puA c (look M19.mem (.mk M.nx 69 549755813887 true)) 31 [v58])) fun v59 =>
 opt (gdp v52 false (binA .neq .none v56 v59)) fun v60 =>
 opt (pickA v52 (.bool true) v60) fun v61 =>
 opt (gdp v61 false (ixpA 2 2 (ρ 13) (.i 0))) fun v63 =>
 opt (gdp v61 false (ldnA (look M19.mem (.mk M.nx 69 17592186044415 true)) 2 v63)) fun v64 =>
 opt (gdp v61 false (puA c (look M19.mem (.mk M.nx 69 35184372088831 true)) 25 [v64])) fun v65 =>
 opt (gdp v61 false (ixpA 2 2 (ρ 13) (.i 0))) fun v66 =>
 opt (gdp v61 false (ldnA (look M19.mem (.mk M.nx 69 79164837199871 true)) 2 v66)) fun v67 =>
 opt (gdp v61 false (puA c (look M19.mem (.mk M.nx 69 281474976710655 true)) 32 [v67])) fun v68 =>
 opt (gdp v61 false (binA .neq .none v65 v68)) fun v69 =>
 opt (pickA v61 (.bool true) v69) fun v70 =>
 opt (gdp v70 false (ixpA 2 2 (ρ 13) (.i 0))) fun v72 =>
 opt (gdp v70 false (ldnA (look M19.mem (.mk M.nx 69 9007199254740991 true)) 2 v72)) fun v73 =>
 opt (gdp v70 false (puA c (look M19.mem (.mk M.nx 69 18014398509481983 true)) 27 [v73])) fun v74 =>
 opt (gdp v70 false (ixpA 2 2 (ρ 13) (.i 0))) fun v75 =>
 opt (gdp v70 false (ldnA (look M19.mem (.mk M.nx 69 40532396646334463 true)) 2 v75)) fun v76 =>
 opt (gdp v70 false (puA c (look M19.mem (.mk M.nx 69 144115188075855871 true)) 33 [v76])) fun v77 =>
 opt (gdp v70 false (binA .neq .bool v74 v77)) fun v78 =>
 opt (pickA v70 (.bool true) v78) fun v79 =>
 opt (gdp v79 false (ixpA 2 2 (ρ 13) (.i 0))) fun v81 =>
 opt (gdp v79 false (ldnA (look M19.mem (.mk M.nx 69 4611686018427387903 true)) 2 v81)) fun v82 =>
 opt (gdp v79 false (puA c (look M19.mem (.mk M.nx 69 9223372036854775807 true)) 15 [v82])) fun v83 =>
 opt (gdp v79 false (ixpA 2 2 (ρ 13) (.i 0))) fun v84 =>
 opt (gdp v79 false (ldnA (look M19.mem (.mk M.nx 69 20752587082923245567 true)) 2 v84)) fun v85 =>
 opt (gdp v79 false (puA c (look M19.mem (.mk M.nx 69 73786976294838206463 true)) 34 [v85])) fun v86 =>
 opt (gdp v79 false (binA .neq .none v83 v86)) fun v87 =>
 opt (pickA v79 (.bool true) v87) fun v88 =>
 isB v88 fun c89 => if c89 then (some ((.bool false), M19))
 else (z0 (sF (sF (sF (sF (sF (sF (sF (sF (sF (sF (sF (sF (sF (sF (sF (sF (sF (sF (sF (sF (sF (sF (sF (sF (sF (sF (sF (sF (sF (sF (sF (sF (sF (sF (sF (sF (sF (sF (sF (sF (sF (sF (sF (sF (sF (sF (sF (sF (sF (sF (sF (sF (sF (sF (sF (sF (sF (sF (sF (sF (sF (sF (sF (sF (sF (sF (sF (sF (sF ρ 89 v20) 90 v21) 91 v22) 92 v23) 93 v24) 94 v25) 95 v26) 96 v26) 97 v28) 98 v29) 99 v30) 100 v31) 101 v32) 102 v33) 103 v34) 104 v35) 105 v36) 106 v37) 107 v38) 108 v39) 109 v39) 110 v41) 111 v42) 112 v43) 113 v44) 114 v45) 115 v46) 116 v47) 117 v48) 118 v49) 119 v50) 120 v51) 121 v52) 122 v52) 123 v54) 124 v55) 125 v56) 126 v57) 127 v58) 128 v59) 129 v60) 130 v61) 131 v61) 132 v63) 133 v64) 134 v65) 135 v66) 136 v67) 137 v68) 138 v69) 139 v70) 140 v70) 141 v72) 142 v73) 143 v74) 144 v75) 145 v76) 146 v77) 147 v78) 148 v79) 149 v79) 150 v81) 151 v82) 152 v83) 153 v84) 154 v85) 155 v86) 156 v87) 157 v88) M19)) := by intros; kernel_rfl
 refine (h (k8_13 c nl lo q8_10)).trans ?_
 unfold b8_18; simp only [(t8_13 c nl lo q8_10 j8_10 h8_10), h8_10] <;> (show _ = _; kernel_rfl)
def k8_20 (c : CallT) (nl lo : Nat) (q8_10 : Rg → MM → Option (AV × MM)) (n : Nat) : Rg → MM → Option (AV × MM) := iterC (fun k ρ M => execC c modeF lo nl p8_33 k (fun i ρ M => if i = 2 then (k8_18 c nl lo q8_10) ρ M else (fun i ρ M => if i = 1 then (k8_13 c nl lo q8_10) ρ M else (fun i ρ M => if i = 0 then (k8_5 c nl lo) ρ M else noE i ρ M) i ρ M) i ρ M) (endK cf8.res) ρ M) n
def b8_20 (c : CallT) (nl lo : Nat) (j8_10 : AV → AV → AV → AV → AV → AV → MM → Option (AV × MM)) : Nat → AV → AV → AV → AV → AV → AV → AV → AV → AV → AV → AV → MM → Option (AV × MM)
 | 0, _, _, _, _, _, _, _, _, _, _, _, _ => none
 | n + 1, x2, x4, x10, x13, x14, x15, x57, x58, x59, x75, x76, M =>
 opt (binA .lss .none x76 x75) fun v94 =>
 isB v94 fun c95 => if c95 then (bumpK M 9 fun M98 =>
 opt (ixsA 1 x14 x76) fun v101 =>
 opt (ld1A (look M98.mem (.mk M.nx 9 7 true)) v101) fun v102 =>
 opt (ixsA 1 x15 x76) fun v105 =>
 opt (ld1A (look M98.mem (.mk M.nx 9 112 true)) v105) fun v106 =>
 opt (binA .neq .none v102 v106) fun v107 =>
 isB v107 fun c108 => if c108 then (some ((.bool false), M98))
 else (opt (binA .add .none x76 (.i 1)) fun v110 =>
 (b8_20 c nl lo j8_10 n) x2 x4 x10 x13 x14 x15 x57 x58 x59 x75 v110 M98))
 else (b8_18 c nl lo j8_10 x2 x4 x10 x13 x57 x58 x59 M)
theorem t8_20 (c : CallT) (nl lo : Nat) (q8_10 : Rg → MM → Option (AV × MM)) (j8_10 : AV → AV → AV → AV → AV → AV → MM → Option (AV × MM)) (h8_10 : ∀ (ρ : Rg) (M : MM), q8_10 ρ M = j8_10 (ρ 2) (ρ 4) (ρ 10) (ρ 57) (ρ 58) (ρ 59) M) : ∀ (n : Nat) (ρ : Rg) (M : MM), k8_20 c nl lo q8_10 n ρ M = b8_20 c nl lo j8_10 n (ρ 2) (ρ 4) (ρ 10) (ρ 13) (ρ 14) (ρ 15) (ρ 57) (ρ 58) (ρ 59) (ρ 75) (ρ 76) M
 | 0, ρ, M => rfl
 | n + 1, ρ, M => by
  have h : ∀ (zb z0 : Rg → MM → Option (AV × MM)), execC c modeF lo nl p8_33 zb (fun i ρ M => if i = 2 then z0 ρ M else (fun i ρ M => if i = 1 then (k8_13 c nl lo q8_10) ρ M else (fun i ρ M => if i = 0 then (k8_5 c nl lo) ρ M else noE i ρ M) i ρ M) i ρ M) (endK cf8.res) ρ M = (opt (binA .lss .none (ρ 76) (ρ 75)) fun v94 =>
  isB v94 fun c95 => if c95 then (bumpK M 9 fun M98 =>
  opt (ixsA 1 (ρ 14) (ρ 76)) fun v101 =>
  opt (ld1A (look M98.mem (.mk M.nx 9 7 true)) v101) fun v102 =>
  opt (ixsA 1 (ρ 15) (ρ 76)) fun v105 =>
  opt (ld1A (look M98.mem (.mk M.nx 9 112 true)) v105) fun v106 =>
  opt (binA .neq .none v102 v106) fun v107 =>
  isB v107 fun c108 => if c108 then (some ((.bool false), M98))
  else (opt (binA .add .none (ρ 76) (.i 1)) fun v110 =>
  zb (sF (sF (sF (sF (sF (sF (sF (sF (sF (sF (sF (sF (sF (sF ρ 77 v94) 78 (ρ 76)) 16 (ρ 76)) 79 (ρ 14)) 80 (ρ 76)) 81 v101) 82 v102) 83 (ρ 15)) 84 (ρ 76)) 85 v105) 86 v106) 87 v107) 88 v110) 76 v110) M98))
  else (z0 (sF ρ 77 v94) M)) := by intros; kernel_rfl
  refine (h (k8_20 c nl lo q8_10 n) (k8_18 c nl lo q8_10)).trans ?_
  unfold b8_20; simp only [(t8_18 c nl lo q8_10 j8_10 h8_10), h8_10, (t8_20 c nl lo q8_10 j8_10 h8_10 n)] <;> (show _ = _; kernel_rfl)
def k8_19 (c : CallT) (nl lo : Nat) (q8_10 : Rg → MM → Option (AV × MM)) : Rg → MM → Option (AV × MM) := (execC c modeF lo nl p8_36 (k8_18 c nl lo q8_10) (fun i ρ M => if i = 1 then (k8_13 c nl lo q8_10) ρ M else (fun i ρ M => if i = 0 then (k8_5 c nl lo) ρ M else noE i ρ M) i ρ M) (endK cf8.res))
@[reducible] def b8_19 (c : CallT) (nl lo : Nat) (j8_10 : AV → AV → AV → AV → AV → AV → MM → Option (AV × MM)) (x2 x4 x10 x13 x14 x15 x57 x58 x59 : AV) (M : MM) : Option (AV × MM) :=
 opt (lenA x14) fun v92 =>
 b8_20 c nl lo j8_10 nl x2 x4 x10 x13 x14 x15 x57 x58 x59 v92 (.i 0) M
theorem t8_19 (c : CallT) (nl lo : Nat) (q8_10 : Rg → MM → Option (AV × MM)) (j8_10 : AV → AV → AV → AV → AV → AV → MM → Option (AV × MM)) (h8_10 : ∀ (ρ : Rg) (M : MM), q8_10 ρ M = j8_10 (ρ 2) (ρ 4) (ρ 10) (ρ 57) (ρ 58) (ρ 59) M) (ρ : Rg) (M : MM) : k8_19 c nl lo q8_10 ρ M = b8_19 c nl lo j8_10 (ρ 2) (ρ 4) (ρ 10) (ρ 13) (ρ 14) (ρ 15) (ρ 57) (ρ 58) (ρ 59) M := by
 have h : k8_19 c nl lo q8_10 ρ M = (opt (lenA (ρ 14)) fun v92 =>
 k8_20 c nl lo q8_10 nl (sF (sF (sF ρ 74 (ρ 14)) 75 v92) 76 (.i 0)) M) := by kernel_rfl
 rw [h]
 unfold b8_19; simp only [(t8_20 c nl lo q8_10 j8_10 h8_10 nl), h8_10] <;> (show _ = _; kernel_rfl)
def k8_17 (c : CallT) (nl lo : Nat) (q8_10 : Rg → MM → Option (AV × MM)) : Rg → MM → Option (AV × MM) := (execC c modeF lo nl p8_42 (k8_13 c nl lo q8_10) (fun i ρ M => if i = 1 then (k8_13 c nl lo q8_10) ρ M else (fun i ρ M => if i = 0 then (k8_5 c nl lo) ρ M else noE i ρ M) i ρ M) (endK cf8.res))
@[reducible] def b8_17 (c : CallT) (nl lo : Nat) (j8_10 : AV → AV → AV → AV → AV → AV → MM → Option (AV × MM)) (x2 x4 x10 x13 x14 x15 x57 x58 x59 : AV) (M : MM) : Option (AV × MM) :=
 b8_19 c nl lo j8_10 x2 x4 x10 x13 x14 x15 x57 x58 x59 M
theorem t8_17 (c : CallT) (nl lo : Nat) (q8_10 : Rg → MM → Option (AV × MM)) (j8_10 : AV → AV → AV → AV → AV → AV → MM → Option (AV × MM)) (h8_10 : ∀ (ρ : Rg) (M : MM), q8_10 ρ M = j8_10 (ρ 2) (ρ 4) (ρ 10) (ρ 57) (ρ 58) (ρ 59) M) (ρ : Rg) (M : MM) : k8_17 c nl lo q8_10 ρ M = b8_17 c nl lo j8_10 (ρ 2) (ρ 4) (ρ 10) (ρ 13) (ρ 14) (ρ 15) (ρ 57) (ρ 58) (ρ 59) M := by
 have h : k8_17 c nl lo q8_10 ρ M = (k8_19 c nl lo q8_10 ρ M) := execC_seq c modeF lo nl p8_36 p8_41 (k8_13 c nl lo q8_10) (fun i ρ M => if i = 1 then (k8_13 c nl lo q8_10) ρ M else (fun i ρ M => if i = 0 then (k8_5 c nl lo) ρ M else noE i ρ M) i ρ M) (endK cf8.res) ρ M
 rw [h]
 unfold b8_17; simp only [(t8_19 c nl lo q8_10 j8_10 h8_10), h8_10] <;> (show _ = _; kernel_rfl)
def k8_21 (c : CallT) (nl lo : Nat) (q8_10 : Rg → MM → Option (AV × MM)) : Rg → MM → Option (AV × MM) := (execC c modeF lo nl p8_18 (k8_17 c nl lo q8_10) (fun i ρ M => if i = 1 then (k8_13 c nl lo q8_10) ρ M else (fun i ρ M => if i = 0 then (k8_5 c nl lo) ρ M else noE i ρ M) i ρ M) (endK cf8.res))
@[reducible] def b8_21 (c : CallT) (nl lo : Nat) (j8_10 : AV → AV → AV → AV → AV → AV → MM → Option (AV × MM)) (x2 x4 x10 x13 x14 x15 x57 x58 x59 : AV) (M : MM) : Option (AV × MM) :=
 opt (lenA x14) fun v20 =>
 opt (lenA x15) fun v22 =>
 opt (binA .neq .none v20 v22) fun v23 =>
 isB v23 fun c24 => if c24 then (some ((.bool false), M))
 else (b8_17 c nl lo j8_10 x2 x4 x10 x13 x14 x15 x57 x58 x59 M)
theorem t8_21 (c : CallT) (nl lo : Nat) (q8_10 : Rg → MM → Option (AV × MM)) (j8_10 : AV → AV → AV → AV → AV → AV → MM → Option (AV × MM)) (h8_10 : ∀ (ρ : Rg) (M : MM), q8_10 ρ M = j8_10 (ρ 2) (ρ 4) (ρ 10) (ρ 57) (ρ 58) (ρ 59) M) (ρ : Rg) (M : MM) : k8_21 c nl lo q8_10 ρ M = b8_21 c nl lo j8_10 (ρ 2) (ρ 4) (ρ 10) (ρ 13) (ρ 14) (ρ 15) (ρ 57) (ρ 58) (ρ 59) M := by
 have h : ∀ (z0 : Rg → MM → Option (AV × MM)), (execC c modeF lo nl p8_18 z0 (fun i ρ M => if i = 1 then (k8_13 c nl lo q8_10) ρ M else (fun i ρ M => if i = 0 then (k8_5 c nl lo) ρ M else noE i ρ M) i ρ M) (endK cf8.res)) ρ M = (opt (lenA (ρ 14)) fun v20 =>
 opt (lenA (ρ 15)) fun v22 =>
 opt (binA .neq .none v20 v22) fun v23 =>
 isB v23 fun c24 => if c24 then (some ((.bool false), M))
 else (z0 (sF (sF (sF (sF (sF ρ 69 (ρ 14)) 70 v20) 71 (ρ 15)) 72 v22) 73 v23) M)) := by intros; kernel_rfl
 refine (h (k8_17 c nl lo q8_10)).trans ?_
 unfold b8_21; simp only [(t8_17 c nl lo q8_10 j8_10 h8_10), h8_10] <;> (show _ = _; kernel_rfl)
def k8_16 (c : CallT) (nl lo : Nat) (q8_10 : Rg → MM → Option (AV × MM)) : Rg → MM → Option (AV × MM) := (execC c modeF lo nl p8_43 (k8_13 c nl lo q8_10) (fun i ρ M => if i = 1 then (k8_13 c nl lo q8_10) ρ M else (fun i ρ M => if i = 0 then (k8_5 c nl lo) ρ M else noE i ρ M) i ρ M) (endK cf8.res))
@[reducible] def b8_16 (c : CallT) (nl lo : Nat) (j8_10 : AV → AV → AV → AV → AV → AV → MM → Option (AV × MM)) (x2 x4 x10 x13 x14 x15 x57 x58 x59 : AV) (M : MM) : Option (AV × MM) :=
 b8_21 c nl lo j8_10 x2 x4 x10 x13 x14 x15 x57 x58 x59 M
theorem t8_16 (c : CallT) (nl lo : Nat) (q8_10 : Rg → MM → Option (AV × MM)) (j8_10 : AV → AV → AV → AV → AV → AV → MM → Option (AV × MM)) (h8_10 : ∀ (ρ : Rg) (M : MM), q8_10 ρ M = j8_10 (ρ 2) (ρ 4) (ρ 10) (ρ 57) (ρ 58) (ρ 59) M) (ρ : Rg) (M : MM) : k8_16 c nl lo q8_10 ρ M = b8_16 c nl lo j8_10 (ρ 2) (ρ 4) (ρ 10) (ρ 13) (ρ 14) (ρ 15) (ρ 57) (ρ 58) (ρ 59) M := by
 have h : k8_16 c nl lo q8_10 ρ M = (k8_21 c nl lo q8_10 ρ M) := execC_seq c modeF lo nl p8_18 p8_42 (k8_13 c nl lo q8_10) (fun i ρ M => if i = 1 then (k8_13 c nl lo q8_10) ρ M else (fun i ρ M => if i = 0 then (k8_5 c nl lo) ρ M else noE i ρ M) i ρ M) (endK cf8.res) ρ M
 rw [h]
 unfold b8_16; simp only [(t8_21 c nl lo q8_10 j8_10 h8_10), h8_10] <;> (show _ = _; kernel_rfl)
def k8_22 (c : CallT) (nl lo : Nat) (q8_10 : Rg → MM → Option (AV × MM)) : Rg → MM → Option (AV × MM) := (execC c modeF lo nl p8_13 (k8_16 c nl lo q8_10) (fun i ρ M => if i = 1 then (k8_13 c nl lo q8_10) ρ M else (fun i ρ M => if i = 0 then (k8_5 c nl lo) ρ M else noE i ρ M) i ρ M) (endK cf8.res))
@[reducible] def b8_22 (c : CallT) (nl lo : Nat) (j8_10 : AV → AV → AV → AV → AV → AV → MM → Option (AV × MM)) (x2 x4 x10 x13 x57 x58 x59 : AV) (M : MM) : Option (AV × MM) :=
 bumpK M 8 fun M19 =>
 opt (ixpA 2 2 x13 (.i 0)) fun v20 =>
 opt (ldnA (look M19.mem (.mk M.nx 8 1 true)) 2 v20) fun v21 =>
 opt (puA c (look M19.mem (.mk M.nx 8 3 true)) 26 [v21]) fun v22 =>
 opt (ixpA 2 2 x13 (.i 0)) fun v23 =>
 opt (ldnA (look M19.mem (.mk M.nx 8 8 true)) 2 v23) fun v24 =>
 opt (puA c (look M19.mem (.mk M.nx 8 31 true)) 21 [v24]) fun v25 =>
 b8_16 c nl lo j8_10 x2 x4 x10 x13 v22 v25 x57 x58 x59 M19
theorem t8_22 (c : CallT) (nl lo : Nat) (q8_10 : Rg → MM → Option (AV × MM)) (j8_10 : AV → AV → AV → AV → AV → AV → MM → Option (AV × MM)) (h8_10 : ∀ (ρ : Rg) (M : MM), q8_10 ρ M = j8_10 (ρ 2) (ρ 4) (ρ 10) (ρ 57) (ρ 58) (ρ 59) M) (ρ : Rg) (M : MM) : k8_22 c nl lo q8_10 ρ M = b8_22 c nl lo j8_10 (ρ 2) (ρ 4) (ρ 10) (ρ 13) (ρ 57) (ρ 58) (ρ 59) M := by
 have h : ∀ (z0 : Rg → MM → Option (AV × MM)), (execC c modeF lo nl p8_13 z0 (fun i ρ M => if i = 1 then (k8_13 c nl lo q8_10) ρ M else (fun i ρ M => if i = 0 then (k8_5 c nl lo) ρ M else noE i ρ M) i ρ M) (endK cf8.res)) ρ M = (bumpK M 8 fun M19 =>
 opt (ixpA 2 2 (ρ 13) (.i 0)) fun v20 =>
 opt (ldnA (look M19.mem (.mk M.nx 8 1 true)) 2 v20) fun v21 =>
 opt (puA c (look M19.mem (.mk M.nx 8 3 true)) 26 [v21]) fun v22 =>
 opt (ixpA 2 2 (ρ 13) (.i 0)) fun v23 =>
 opt (ldnA (look M19.mem (.mk M.nx 8 8 true)) 2 v23) fun v24 =>
 opt (puA c (look M19.mem (.mk M.nx 8 31 true)) 21 [v24]) fun v25 =>
 z0 (sF (sF (sF (sF (sF (sF (sF (sF ρ 63 v20) 64 v21) 65 v22) 66 v23) 67 v24) 68 v25) 14 v22) 15 v25) M19) := by intros; kernel_rfl
 refine (h (k8_16 c nl lo q8_10)).trans ?_
 unfold b8_22; simp only [(t8_16 c nl lo q8_10 j8_10 h8_10), h8_10] <;> (show _ = _; kernel_rfl)
def k8_15 (c : CallT) (nl lo : Nat) (q8_10 : Rg → MM → Option (AV × MM)) : Rg → MM → Option (AV × MM) := (execC c modeF lo nl p8_44 (k8_13 c nl lo q8_10) (fun i ρ M => if i = 1 then (k8_13 c nl lo q8_10) ρ M else (fun i ρ M => if i = 0 then (k8_5 c nl lo) ρ M else noE i ρ M) i ρ M) (endK cf8.res))
@[reducible] def b8_15 (c : CallT) (nl lo : Nat) (j8_10 : AV → AV → AV → AV → AV → AV → MM → Option (AV × MM)) (x2 x4 x10 x13 x57 x58 x59 : AV) (M : MM) : Option (AV × MM) :=
 b8_22 c nl lo j8_10 x2 x4 x10 x13 x57 x58 x59 M
theorem t8_15 (c : CallT) (nl lo : Nat) (q8_10 : Rg → MM → Option (AV × MM)) (j8_10 : AV → AV → AV → AV → AV → AV → MM → Option (AV × MM)) (h8_10 : ∀ (ρ : Rg) (M : MM), q8_10 ρ M = j8_10 (ρ 2) (ρ 4) (ρ 10) (ρ 57) (ρ 58) (ρ 59) M) (ρ : Rg) (M : MM) : k8_15 c nl lo q8_10 ρ M = b8_15 c nl lo j8_10 (ρ 2) (ρ 4) (ρ 10) (ρ 13) (ρ 57) (ρ 58) (ρ 59) M := by
 have h : k8_15 c nl lo q8_10 ρ M = (k8_22 c nl lo q8_10 ρ M) := execC_seq c modeF lo nl p8_13 p8_43 (k8_13 c nl lo q8_10) (fun i ρ M => if i = 1 then (k8_13 c nl lo q8_10) ρ M else (fun i ρ M => if i = 0 then (k8_5 c nl lo) ρ M else noE i ρ M) i ρ M) (endK cf8.res) ρ M
 rw [h]
 unfold b8_15; simp only [(t8_22 c nl lo q8_10 j8_10 h8_10), h8_10] <;> (show _ = _; kernel_rfl)
def k8_23 (c : CallT) (nl lo : Nat) (q8_10 : Rg → MM → Option (AV × MM)) : Rg → MM → Option (AV × MM) := (execC c modeF lo nl p8_12 (k8_15 c nl lo q8_10) (fun i ρ M => if i = 1 then (k8_13 c nl lo q8_10) ρ M else (fun i ρ M => if i = 0 then (k8_5 c nl lo) ρ M else noE i ρ M) i ρ M) (endK cf8.res))
@[reducible] def b8_23 (c : CallT) (nl lo : Nat) (j8_10 : AV → AV → AV → AV → AV → AV → MM → Option (AV × MM)) (x2 x4 x10 x57 x58 x59 : AV) (M : MM) : Option (AV × MM) :=
 opt (ixsA 4 x57 x59) fun v19 =>
 opt (ldnA (lk M) 4 v19) fun v20 =>
 bnd (istep c modeF false lo (.top M.nx) M.nx (.new 42 [.str ⟨⟨[]⟩⟩, .d (.sl [] 0), .str ⟨⟨[]⟩⟩, .d (.sl [] 0)]) [] M) fun v21 M22 =>
 bnd (istep c modeF false lo (.top M22.nx) M22.nx (.st 4 (.k v21) (.k v20)) [] M22) fun v23 M24 =>
 b8_15 c nl lo j8_10 x2 x4 x10 v21 x57 x58 x59 M24
theorem t8_23 (c : CallT) (nl lo : Nat) (q8_10 : Rg → MM → Option (AV × MM)) (j8_10 : AV → AV → AV → AV → AV → AV → MM → Option (AV × MM)) (h8_10 : ∀ (ρ : Rg) (M : MM), q8_10 ρ M = j8_10 (ρ 2) (ρ 4) (ρ 10) (ρ 57) (ρ 58) (ρ 59) M) (ρ : Rg) (M : MM) : k8_23 c nl lo q8_10 ρ M = b8_23 c nl lo j8_10 (ρ 2) (ρ 4) (ρ 10) (ρ 57) (ρ 58) (ρ 59) M := by
 have h : ∀ (z0 : Rg → MM → Option (AV × MM)), (execC c modeF lo nl p8_12 z0 (fun i ρ M => if i = 1 then (k8_13 c nl lo q8_10) ρ M else (fun i ρ M => if i = 0 then (k8_5 c nl lo) ρ M else noE i ρ M) i ρ M) (endK cf8.res)) ρ M = (opt (ixsA 4 (ρ 57) (ρ 59)) fun v19 =>
 opt (ldnA (lk M) 4 v19) fun v20 =>
 bnd (istep c modeF false lo (.top M.nx) M.nx (.new 42 [.str ⟨⟨[]⟩⟩, .d (.sl [] 0), .str ⟨⟨[]⟩⟩, .d (.sl [] 0)]) [] M) fun v21 M22 =>
 bnd (istep c modeF false lo (.top M22.nx) M22.nx (.st 4 (.k v21) (.k v20)) [] M22) fun v23 M24 =>
 z0 (sF (sF (sF ρ 61 v19) 62 v20) 13 v21) M24) := by intros; kernel_rfl
 refine (h (k8_15 c nl lo q8_10)).trans ?_
 unfold b8_23; simp only [(t8_15 c nl lo q8_10 j8_10 h8_10), h8_10] <;> (show _ = _; kernel_rfl)
def k8_14 (c : CallT) (nl lo : Nat) (q8_10 : Rg → MM → Option (AV × MM)) : Rg → MM → Option (AV × MM) := (execC c modeF lo nl p8_46 (k8_13 c nl lo q8_10) (fun i ρ M => if i = 0 then (k8_5 c nl lo) ρ M else noE i ρ M) (endK cf8.res))
@[reducible] def b8_14 (c : CallT) (nl lo : Nat) (j8_10 : AV → AV → AV → AV → AV → AV → MM → Option (AV × MM)) (x2 x4 x10 x57 x58 x59 : AV) (M : MM) : Option (AV × MM) :=
 b8_23 c nl lo j8_10 x2 x4 x10 x57 x58 x59 M
theorem t8_14 (c : CallT) (nl lo : Nat) (q8_10 : Rg → MM → Option (AV × MM)) (j8_10 : AV → AV → AV → AV → AV → AV → MM → Option (AV × MM)) (h8_10 : ∀ (ρ : Rg) (M : MM), q8_10 ρ M = j8_10 (ρ 2) (ρ 4) (ρ 10) (ρ 57) (ρ 58) (ρ 59) M) (ρ : Rg) (M : MM) : k8_14 c nl lo q8_10 ρ M = b8_14 c nl lo j8_10 (ρ 2) (ρ 4) (ρ 10) (ρ 57) (ρ 58) (ρ 59) M := by
 have h : k8_14 c nl lo q8_10 ρ M = (k8_23 c nl lo q8_10 ρ M) := by kernel_rfl
 rw [h]
 unfold b8_14; simp only [(t8_23 c nl lo q8_10 j8_10 h8_10), h8_10] <;> (show _ = _; kernel_rfl)
def k8_12 (c : CallT) (nl lo : Nat) (q8_10 : Rg → MM → Option (AV × MM)) : Rg → MM → Option (AV × MM) := (execC c modeF lo nl p8_48 q8_10 (fun i ρ M => if i = 0 then (k8_5 c nl lo) ρ M else noE i ρ M) (endK cf8.res))
@[reducible] def b8_12 (c : CallT) (nl lo : Nat) (j8_10 : AV → AV → AV → AV → AV → AV → MM → Option (AV × MM)) (x2 x4 x10 x57 x58 x59 : AV) (M : MM) : Option (AV × MM) :=
 b8_14 c nl lo j8_10 x2 x4 x10 x57 x58 x59 M
theorem t8_12 (c : CallT) (nl lo : Nat) (q8_10 : Rg → MM → Option (AV × MM)) (j8_10 : AV → AV → AV → AV → AV → AV → MM → Option (AV × MM)) (h8_10 : ∀ (ρ : Rg) (M : MM), q8_10 ρ M = j8_10 (ρ 2) (ρ 4) (ρ 10) (ρ 57) (ρ 58) (ρ 59) M) (ρ : Rg) (M : MM) : k8_12 c nl lo q8_10 ρ M = b8_12 c nl lo j8_10 (ρ 2) (ρ 4) (ρ 10) (ρ 57) (ρ 58) (ρ 59) M := by
 have h : k8_12 c nl lo q8_10 ρ M = (k8_14 c nl lo q8_10 ρ M) := execC_seq c modeF lo nl p8_46 p8_47 q8_10 (fun i ρ M => if i = 0 then (k8_5 c nl lo) ρ M else noE i ρ M) (endK cf8.res) ρ M
 rw [h]
 unfold b8_12; simp only [(t8_14 c nl lo q8_10 j8_10 h8_10), h8_10] <;> (show _ = _; kernel_rfl)
def k8_24 (c : CallT) (nl lo : Nat) (q8_10 : Rg → MM → Option (AV × MM)) : Rg → MM → Option (AV × MM) := (execC c modeF lo nl p8_11 (k8_12 c nl lo q8_10) (fun i ρ M => if i = 0 then (k8_5 c nl lo) ρ M else noE i ρ M) (endK cf8.res))
@[reducible] def b8_24 (c : CallT) (nl lo : Nat) (j8_10 : AV → AV → AV → AV → AV → AV → MM → Option (AV × MM)) (x2 x4 x10 x57 x58 x59 x60 : AV) (M : MM) : Option (AV × MM) :=
 isB x60 fun c17 => if c17 then (b8_12 c nl lo j8_10 x2 x4 x10 x57 x58 x59 M)
 else (b8_5 c nl lo x2 x4 x10 M)
theorem t8_24 (c : CallT) (nl lo : Nat) (q8_10 : Rg → MM → Option (AV × MM)) (j8_10 : AV → AV → AV → AV → AV → AV → MM → Option (AV × MM)) (h8_10 : ∀ (ρ : Rg) (M : MM), q8_10 ρ M = j8_10 (ρ 2) (ρ 4) (ρ 10) (ρ 57) (ρ 58) (ρ 59) M) (ρ : Rg) (M : MM) : k8_24 c nl lo q8_10 ρ M = b8_24 c nl lo j8_10 (ρ 2) (ρ 4) (ρ 10) (ρ 57) (ρ 58) (ρ 59) (ρ 60) M := by
 have h : ∀ (z0 z1 : Rg → MM → Option (AV × MM)), (execC c modeF lo nl p8_11 z1 (fun i ρ M => if i = 0 then z0 ρ M else noE i ρ M) (endK cf8.res)) ρ M = (isB (ρ 60) fun c17 => if c17 then (z1 ρ M)
 else (z0 ρ M)) := by intros; kernel_rfl
 refine (h (k8_5 c nl lo) (k8_12 c nl lo q8_10)).trans ?_
 unfold b8_24; simp only [(t8_5 c nl lo), (t8_12 c nl lo q8_10 j8_10 h8_10), h8_10] <;> (show _ = _; kernel_rfl)
def k8_11 (c : CallT) (nl lo : Nat) (q8_10 : Rg → MM → Option (AV × MM)) : Rg → MM → Option (AV × MM) := (execC c modeF lo nl p8_49 q8_10 (fun i ρ M => if i = 0 then (k8_5 c nl lo) ρ M else noE i ρ M) (endK cf8.res))
@[reducible] def b8_11 (c : CallT) (nl lo : Nat) (j8_10 : AV → AV → AV → AV → AV → AV → MM → Option (AV × MM)) (x2 x4 x10 x57 x58 x59 x60 : AV) (M : MM) : Option (AV × MM) :=
 b8_24 c nl lo j8_10 x2 x4 x10 x57 x58 x59 x60 M
theorem t8_11 (c : CallT) (nl lo : Nat) (q8_10 : Rg → MM → Option (AV × MM)) (j8_10 : AV → AV → AV → AV → AV → AV → MM → Option (AV × MM)) (h8_10 : ∀ (ρ : Rg) (M : MM), q8_10 ρ M = j8_10 (ρ 2) (ρ 4) (ρ 10) (ρ 57) (ρ 58) (ρ 59) M) (ρ : Rg) (M : MM) : k8_11 c nl lo q8_10 ρ M = b8_11 c nl lo j8_10 (ρ 2) (ρ 4) (ρ 10) (ρ 57) (ρ 58) (ρ 59) (ρ 60) M := by
 have h : k8_11 c nl lo q8_10 ρ M = (k8_24 c nl lo q8_10 ρ M) := execC_seq c modeF lo nl p8_11 p8_48 q8_10 (fun i ρ M => if i = 0 then (k8_5 c nl lo) ρ M else noE i ρ M) (endK cf8.res) ρ M
 rw [h]
 unfold b8_11; simp only [(t8_24 c nl lo q8_10 j8_10 h8_10), h8_10] <;> (show _ = _; kernel_rfl)
def k8_25 (c : CallT) (nl lo : Nat) (q8_10 : Rg → MM → Option (AV × MM)) : Rg → MM → Option (AV × MM) := (execC c modeF lo nl p8_10 (k8_11 c nl lo q8_10) (fun i ρ M => if i = 0 then (k8_5 c nl lo) ρ M else noE i ρ M) (endK cf8.res))
@[reducible] def b8_25 (c : CallT) (nl lo : Nat) (j8_10 : AV → AV → AV → AV → AV → AV → MM → Option (AV × MM)) (x2 x4 x10 x57 x58 x59 : AV) (M : MM) : Option (AV × MM) :=
 opt (binA .lss .none x59 x58) fun v17 =>
 b8_11 c nl lo j8_10 x2 x4 x10 x57 x58 x59 v17 M
theorem t8_25 (c : CallT) (nl lo : Nat) (q8_10 : Rg → MM → Option (AV × MM)) (j8_10 : AV → AV → AV → AV → AV → AV → MM → Option (AV × MM)) (h8_10 : ∀ (ρ : Rg) (M : MM), q8_10 ρ M = j8_10 (ρ 2) (ρ 4) (ρ 10) (ρ 57) (ρ 58) (ρ 59) M) (ρ : Rg) (M : MM) : k8_25 c nl lo q8_10 ρ M = b8_25 c nl lo j8_10 (ρ 2) (ρ 4) (ρ 10) (ρ 57) (ρ 58) (ρ 59) M := by
 have h : ∀ (z0 : Rg → MM → Option (AV × MM)), (execC c modeF lo nl p8_10 z0 (fun i ρ M => if i = 0 then (k8_5 c nl lo) ρ M else noE i ρ M) (endK cf8.res)) ρ M = (opt (binA .lss .none (ρ 59) (ρ 58)) fun v17 =>
 z0 (sF ρ 60 v17) M) := by intros; kernel_rfl
 refine (h (k8_11 c nl lo q8_10)).trans ?_
 unfold b8_25; simp only [(t8_11 c nl lo q8_10 j8_10 h8_10), h8_10] <;> (show _ = _; kernel_rfl)
def k8_10 (c : CallT) (nl lo : Nat) (n : Nat) : Rg → MM → Option (AV × MM) := iterC (fun k ρ M => execC c modeF lo nl p8_50 k (fun i ρ M => if i = 0 then (k8_5 c nl lo) ρ M else noE i ρ M) (endK cf8.res) ρ M) n
def b8_10 (c : CallT) (nl lo : Nat) : Nat → AV → AV → AV → AV → AV → AV → MM → Option (AV × MM)
 | 0, _, _, _, _, _, _, _ => none
 | n + 1, x2, x4, x10, x57, x58, x59, M =>
 b8_25 c nl lo (b8_10 c nl lo n) x2 x4 x10 x57 x58 x59 M
theorem t8_10 (c : CallT) (nl lo : Nat) : ∀ (n : Nat) (ρ : Rg) (M : MM), k8_10 c nl lo n ρ M = b8_10 c nl lo n (ρ 2) (ρ 4) (ρ 10) (ρ 57) (ρ 58) (ρ 59) M
 | 0, ρ, M => rfl
 | n + 1, ρ, M => by
  have h : k8_10 c nl lo (n + 1) ρ M = (k8_25 c nl lo (k8_10 c nl lo n) ρ M) := execC_seq c modeF lo nl p8_10 p8_49 (k8_10 c nl lo n) (fun i ρ M => if i = 0 then (k8_5 c nl lo) ρ M else noE i ρ M) (endK cf8.res) ρ M
  rw [h]
  unfold b8_10; simp only [(t8_25 c nl lo (k8_10 c nl lo n) (b8_10 c nl lo n) (t8_10 c nl lo n)), (t8_10 c nl lo n)] <;> (show _ = _; kernel_rfl)
def k8_9 (c : CallT) (nl lo : Nat) : Rg → MM → Option (AV × MM) := (execC c modeF lo nl p8_53 (k8_5 c nl lo) noE (endK cf8.res))
@[reducible] def b8_9 (c : CallT) (nl lo : Nat) (x2 x4 x5 x10 x11 : AV) (M : MM) : Option (AV × MM) :=
 opt (fldA 0 2 true x4) fun v1 =>
 opt (fldA 0 2 true x5) fun v2 =>
 opt ((fill [.str ⟨⟨[]⟩⟩, .d (.sl [] 0), .str ⟨⟨[]⟩⟩, .d (.sl [] 0)] [(0, 2, v1), (2, 2, v2)]).map .agg) fun v3 =>
 opt (fldA 0 2 true x10) fun v4 =>
 opt (fldA 0 2 true x11) fun v5 =>
 opt ((fill [.str ⟨⟨[]⟩⟩, .d (.sl [] 0), .str ⟨⟨[]⟩⟩, .d (.sl [] 0)] [(0, 2, v4), (2, 2, v5)]).map .agg) fun v6 =>
 opt (fldA 0 2 true x10) fun v7 =>
 opt (fldA 0 2 true x4) fun v8 =>
 opt ((fill [.str ⟨⟨[]⟩⟩, .d (.sl [] 0), .str ⟨⟨[]⟩⟩, .d (.sl [] 0)] [(0, 2, v7), (2, 2, v8)]).map .agg) fun v9 =>
 opt (fldA 0 2 true x10) fun v10 =>
 opt (fldA 0 2 true x10) fun v11 =>
 opt ((fill [.str ⟨⟨[]⟩⟩, .d (.sl [] 0), .str ⟨⟨[]⟩⟩, .d (.sl [] 0)] [(0, 2, v10), (2, 2, v11)]).map .agg) fun v12 =>
 opt (wslA 4 (fill [.str ⟨⟨[]⟩⟩, .d (.sl [] 0), .str ⟨⟨[]⟩⟩, .d (.sl [] 0), .str ⟨⟨[]⟩⟩, .d (.sl [] 0), .str ⟨⟨[]⟩⟩, .d (.sl [] 0), .str ⟨⟨[]⟩⟩, .d (.sl [] 0), .str ⟨⟨[]⟩⟩, .d (.sl [] 0), .str ⟨⟨[]⟩⟩, .d (.sl [] 0), .str ⟨⟨[]⟩⟩, .d (.sl [] 0)] [(0, 4, v3), (4, 4, v6), (8, 4, v9), (12, 4, v12)])) fun v13 =>
 upK M M.nx fun M14 =>
 opt (lenA v13) fun v15 =>
 b8_10 c nl lo nl x2 x4 x10 v13 v15 (.i 0) M14
theorem t8_9 (c : CallT) (nl lo : Nat) (ρ : Rg) (M : MM) : k8_9 c nl lo ρ M = b8_9 c nl lo (ρ 2) (ρ 4) (ρ 5) (ρ 10) (ρ 11) M := by
 have h : k8_9 c nl lo ρ M = (opt (fldA 0 2 true (ρ 4)) fun v1 =>
 opt (fldA 0 2 true (ρ 5)) fun v2 =>
 opt ((fill [.str ⟨⟨[]⟩⟩, .d (.sl [] 0), .str ⟨⟨[]⟩⟩, .d (.sl [] 0)] [(0, 2, v1), (2, 2, v2)]).map .agg) fun v3 =>
 opt (fldA 0 2 true (ρ 10)) fun v4 =>
 opt (fldA 0 2 true (ρ 11)) fun v5 =>
 opt ((fill [.str ⟨⟨[]⟩⟩, .d (.sl [] 0), .str ⟨⟨[]⟩⟩, .d (.sl [] 0)] [(0, 2, v4), (2, 2, v5)]).map .agg) fun v6 =>
 opt (fldA 0 2 true (ρ 10)) fun v7 =>
 opt (fldA 0 2 true (ρ 4)) fun v8 =>
 opt ((fill [.str ⟨⟨[]⟩⟩, .d (.sl [] 0), .str ⟨⟨[]⟩⟩, .d (.sl [] 0)] [(0, 2, v7), (2, 2, v8)]).map .agg) fun v9 =>
 opt (fldA 0 2 true (ρ 10)) fun v10 =>
 opt (fldA 0 2 true (ρ 10)) fun v11 =>
 opt ((fill [.str ⟨⟨[]⟩⟩, .d (.sl [] 0), .str ⟨⟨[]⟩⟩, .d (.sl [] 0)] [(0, 2, v10), (2, 2, v11)]).map .agg) fun v12 =>
 opt (wslA 4 (fill [.str ⟨⟨[]⟩⟩, .d (.sl [] 0), .str ⟨⟨[]⟩⟩, .d (.sl [] 0), .str ⟨⟨[]⟩⟩, .d (.sl [] 0), .str ⟨⟨[]⟩⟩, .d (.sl [] 0), .str ⟨⟨[]⟩⟩, .d (.sl [] 0), .str ⟨⟨[]⟩⟩, .d (.sl [] 0), .str ⟨⟨[]⟩⟩, .d (.sl [] 0), .str ⟨⟨[]⟩⟩, .d (.sl [] 0)] [(0, 4, v3), (4, 4, v6), (8, 4, v9), (12, 4, v12)])) fun v13 =>
 upK M M.nx fun M14 =>
 opt (lenA v13) fun v15 =>
 k8_10 c nl lo nl (sF (sF (sF (sF (sF (sF (sF (sF (sF (sF (sF (sF (sF (sF (sF ρ 45 v1) 46 v2) 47 v3) 48 v4) 49 v5) 50 v6) 51 v7) 52 v8) 53 v9) 54 v10) 55 v11) 56 v12) 57 v13) 58 v15) 59 (.i 0)) M14) := by kernel_rfl
 rw [h]
 unfold b8_9; simp only [(t8_10 c nl lo nl)] <;> (show _ = _; kernel_rfl)
def k8_4 (c : CallT) (nl lo : Nat) : Rg → MM → Option (AV × MM) := (execC c modeF lo nl p8_79 (endK cf8.res) noE (endK cf8.res))
@[reducible] def b8_4 (c : CallT) (nl lo : Nat) (x2 x4 x5 x10 x11 : AV) (M : MM) : Option (AV × MM) :=
 b8_9 c nl lo x2 x4 x5 x10 x11 M
theorem t8_4 (c : CallT) (nl lo : Nat) (ρ : Rg) (M : MM) : k8_4 c nl lo ρ M = b8_4 c nl lo (ρ 2) (ρ 4) (ρ 5) (ρ 10) (ρ 11) M := by
 have h : k8_4 c nl lo ρ M = (k8_9 c nl lo ρ M) := execC_seq c modeF lo nl p8_53 p8_78 (endK cf8.res) noE (endK cf8.res) ρ M
 rw [h]
 unfold b8_4; simp only [(t8_9 c nl lo)] <;> (show _ = _; kernel_rfl)
def k8_26 (c : CallT) (nl lo : Nat) : Rg → MM → Option (AV × MM) := (execC c modeF lo nl p8_8 (k8_4 c nl lo) noE (endK cf8.res))
@[reducible] def b8_26 (c : CallT) (nl lo : Nat) (x2 x4 x5 x9 : AV) (M : MM) : Option (AV × MM) :=
 bnd (c 11 [x9, (.i 3)] lo M) fun v2 M3 =>
 bnd (c 11 [x9, (.i 3)] lo M3) fun v5 M6 =>
 upK M6 M6.nx fun M8 =>
 upK M8 M8.nx fun M10 =>
 opt (setcA 0 2 (.agg [.str ⟨⟨[]⟩⟩, .d (.sl [] 0)]) v2) fun v11 =>
 opt (setcA 0 2 (.agg [.str ⟨⟨[]⟩⟩, .d (.sl [] 0)]) v5) fun v12 =>
 b8_4 c nl lo x2 x4 x5 v11 v12 M10
theorem t8_26 (c : CallT) (nl lo : Nat) (ρ : Rg) (M : MM) : k8_26 c nl lo ρ M = b8_26 c nl lo (ρ 2) (ρ 4) (ρ 5) (ρ 9) M := by
 have h : ∀ (z0 : Rg → MM → Option (AV × MM)), (execC c modeF lo nl p8_8 z0 noE (endK cf8.res)) ρ M = (bnd (c 11 [(ρ 9), (.i 3)] lo M) fun v2 M3 =>
 bnd (c 11 [(ρ 9), (.i 3)] lo M3) fun v5 M6 =>
 upK M6 M6.nx fun M8 =>
 upK M8 M8.nx fun M10 =>
 opt (setcA 0 2 (.agg [.str ⟨⟨[]⟩⟩, .d (.sl [] 0)]) v2) fun v11 =>
 opt (setcA 0 2 (.agg [.str ⟨⟨[]⟩⟩, .d (.sl [] 0)]) v5) fun v12 =>
 z0 (sF (sF (sF (sF (sF (sF (sF (sF ρ 41 (ρ 9)) 42 v2) 43 (ρ 9)) 44 v5) 10 (.agg [.str ⟨⟨[]⟩⟩, .d (.sl [] 0)])) 11 (.agg [.str ⟨⟨[]⟩⟩, .d (.sl [] 0)])) 10 v11) 11 v12) M10) := by intros; kernel_rfl
 refine (h (k8_4 c nl lo)).trans ?_
 unfold b8_26; simp only [(t8_4 c nl lo)] <;> (show _ = _; kernel_rfl)
def k8_3 (c : CallT) (nl lo : Nat) : Rg → MM → Option (AV × MM) := (execC c modeF lo nl p8_80 (endK cf8.res) noE (endK cf8.res))
@[reducible] def b8_3 (c : CallT) (nl lo : Nat) (x2 x4 x5 x9 : AV) (M : MM) : Option (AV × MM) :=
 b8_26 c nl lo x2 x4 x5 x9 M
theorem t8_3 (c : CallT) (nl lo : Nat) (ρ : Rg) (M : MM) : k8_3 c nl lo ρ M = b8_3 c nl lo (ρ 2) (ρ 4) (ρ 5) (ρ 9) M := by
 have h : k8_3 c nl lo ρ M = (k8_26 c nl lo ρ M) := execC_seq c modeF lo nl p8_8 p8_79 (endK cf8.res) noE (endK cf8.res) ρ M
 rw [h]
 unfold b8_3; simp only [(t8_26 c nl lo)] <;> (show _ = _; kernel_rfl)
def k8_27 (c : CallT) (nl lo : Nat) : Rg → MM → Option (AV × MM) := (execC c modeF lo nl p8_7 (k8_3 c nl lo) noE (endK cf8.res))
@[reducible] def b8_27 (c : CallT) (nl lo : Nat) (x2 x3 x4 x5 : AV) (M : MM) : Option (AV × MM) :=
 bnd (c 12 [x3] lo M) fun v2 M3 =>
 b8_3 c nl lo x2 x4 x5 v2 M3
theorem t8_27 (c : CallT) (nl lo : Nat) (ρ : Rg) (M : MM) : k8_27 c nl lo ρ M = b8_27 c nl lo (ρ 2) (ρ 3) (ρ 4) (ρ 5) M := by
 have h : ∀ (z0 : Rg → MM → Option (AV × MM)), (execC c modeF lo nl p8_7 z0 noE (endK cf8.res)) ρ M = (bnd (c 12 [(ρ 3)] lo M) fun v2 M3 =>
 z0 (sF (sF (sF ρ 39 (ρ 3)) 40 v2) 9 v2) M3) := by intros; kernel_rfl
 refine (h (k8_3 c nl lo)).trans ?_
 unfold b8_27; simp only [(t8_3 c nl lo)] <;> (show _ = _; kernel_rfl)
def k8_2 (c : CallT) (nl lo : Nat) : Rg → MM → Option (AV × MM) := (execC c modeF lo nl p8_81 (endK cf8.res) noE (endK cf8.res))
@[reducible] def b8_2 (c : CallT) (nl lo : Nat) (x2 x3 x4 x5 : AV) (M : MM) : Option (AV × MM) :=
 b8_27 c nl lo x2 x3 x4 x5 M
theorem t8_2 (c : CallT) (nl lo : Nat) (ρ : Rg) (M : MM) : k8_2 c nl lo ρ M = b8_2 c nl lo (ρ 2) (ρ 3) (ρ 4) (ρ 5) M := by
 have h : k8_2 c nl lo ρ M = (k8_27 c nl lo ρ M) := execC_seq c modeF lo nl p8_7 p8_80 (endK cf8.res) noE (endK cf8.res) ρ M
 rw [h]
 unfold b8_2; simp only [(t8_27 c nl lo)] <;> (show _ = _; kernel_rfl)
def k8_28 (c : CallT) (nl lo : Nat) : Rg → MM → Option (AV × MM) := (execC c modeF lo nl p8_6 (k8_2 c nl lo) noE (endK cf8.res))
@[reducible] def b8_28 (c : CallT) (nl lo : Nat) (x2 x3 x4 x5 : AV) (M : MM) : Option (AV × MM) :=
 opt (fldA 0 2 true x4) fun v1 =>
 opt (puA c (lk M) 16 [v1, (.i 6)]) fun v2 =>
 opt (unA .not v2) fun v3 =>
 opt (gdp v3 false (fldA 0 2 true x5)) fun v5 =>
 opt (gdp v3 false (puA c (lk M) 16 [v5, (.i 6)])) fun v6 =>
 opt (gdp v3 false (unA .not v6)) fun v7 =>
 opt (pickA v3 (.bool true) v7) fun v8 =>
 opt (gdp v8 false (some x3)) fun v10 =>
 opt (gdp v8 false (puA c (lk M) 9 [v10])) fun v11 =>
 opt (gdp v8 false (unA .not v11)) fun v12 =>
 opt (pickA v8 (.bool true) v12) fun v13 =>
 isB v13 fun c14 => if c14 then (opt (puA c (lk M) 10 []) fun v15 =>
 some (v15, M))
 else (b8_2 c nl lo x2 x3 x4 x5 M)
theorem t8_28 (c : CallT) (nl lo : Nat) (ρ : Rg) (M : MM) : k8_28 c nl lo ρ M = b8_28 c nl lo (ρ 2) (ρ 3) (ρ 4) (ρ 5) M := by
 have h : ∀ (z0 : Rg → MM → Option (AV × MM)), (execC c modeF lo nl p8_6 z0 noE (endK cf8.res)) ρ M = (opt (fldA 0 2 true (ρ 4)) fun v1 =>
 opt (puA c (lk M) 16 [v1, (.i 6)]) fun v2 =>
 opt (unA .not v2) fun v3 =>
 opt (gdp v3 false (fldA 0 2 true (ρ 5))) fun v5 =>
 opt (gdp v3 false (puA c (lk M) 16 [v5, (.i 6)])) fun v6 =>
 opt (gdp v3 false (unA .not v6)) fun v7 =>
 opt (pickA v3 (.bool true) v7) fun v8 =>
 opt (gdp v8 false (some (ρ 3))) fun v10 =>
 opt (gdp v8 false (puA c (lk M) 9 [v10])) fun v11 =>
 opt (gdp v8 false (unA .not v11)) fun v12 =>
 opt (pickA v8 (.bool true) v12) fun v13 =>
 isB v13 fun c14 => if c14 then (opt (puA c (lk M) 10 []) fun v15 =>
 some (v15, M))
 else (z0 (sF (sF (sF (sF (sF (sF (sF (sF (sF (sF (sF (sF (sF ρ 25 v1) 26 v2) 27 v3) 28 v3) 29 v5) 30 v6) 31 v7) 32 v8) 33 v8) 34 v10) 35 v11) 36 v12) 37 v13) M)) := by intros; kernel_rfl
 refine (h (k8_2 c nl lo)).trans ?_
 unfold b8_28; simp only [(t8_2 c nl lo)] <;> (show _ = _; kernel_rfl)
def k8_1 (c : CallT) (nl lo : Nat) : Rg → MM → Option (AV × MM) := (execC c modeF lo nl p8_82 (endK cf8.res) noE (endK cf8.res))
@[reducible] def b8_1 (c : CallT) (nl lo : Nat) (x2 x3 x4 x5 : AV) (M : MM) : Option (AV × MM) :=
 b8_28 c nl lo x2 x3 x4 x5 M
theorem t8_1 (c : CallT) (nl lo : Nat) (ρ : Rg) (M : MM) : k8_1 c nl lo ρ M = b8_1 c nl lo (ρ 2) (ρ 3) (ρ 4) (ρ 5) M := by
 have h : k8_1 c nl lo ρ M = (k8_28 c nl lo ρ M) := execC_seq c modeF lo nl p8_6 p8_81 (endK cf8.res) noE (endK cf8.res) ρ M
 rw [h]
 unfold b8_1; simp only [(t8_28 c nl lo)] <;> (show _ = _; kernel_rfl)
def k8_29 (c : CallT) (nl lo : Nat) : Rg → MM → Option (AV × MM) := (execC c modeF lo nl p8_1 (k8_1 c nl lo) noE (endK cf8.res))
@[reducible] def b8_29 (c : CallT) (nl lo : Nat) (x0 x1 x2 x3 : AV) (M : MM) : Option (AV × MM) :=
 opt (aggA x0) fun v1 =>
 upK M M.nx fun M2 =>
 opt (aggA x1) fun v3 =>
 upK M2 M2.nx fun M4 =>
 b8_1 c nl lo x2 x3 v1 v3 M4
theorem t8_29 (c : CallT) (nl lo : Nat) (ρ : Rg) (M : MM) : k8_29 c nl lo ρ M = b8_29 c nl lo (ρ 0) (ρ 1) (ρ 2) (ρ 3) M := by
 have h : ∀ (z0 : Rg → MM → Option (AV × MM)), (execC c modeF lo nl p8_1 z0 noE (endK cf8.res)) ρ M = (opt (aggA (ρ 0)) fun v1 =>
 upK M M.nx fun M2 =>
 opt (aggA (ρ 1)) fun v3 =>
 upK M2 M2.nx fun M4 =>
 z0 (sF (sF (sF ρ 4 v1) 5 v3) 8 (.bool false)) M4) := by intros; kernel_rfl
 refine (h (k8_1 c nl lo)).trans ?_
 unfold b8_29; simp only [(t8_1 c nl lo)] <;> (show _ = _; kernel_rfl)
def k8_0 (c : CallT) (nl lo : Nat) : Rg → MM → Option (AV × MM) := (execC c modeF lo nl p8_83 (endK cf8.res) noE (endK cf8.res))
@[reducible] def b8_0 (c : CallT) (nl lo : Nat) (x0 x1 x2 x3 : AV) (M : MM) : Option (AV × MM) :=
 b8_29 c nl lo x0 x1 x2 x3 M
theorem t8_0 (c : CallT) (nl lo : Nat) (ρ : Rg) (M : MM) : k8_0 c nl lo ρ M = b8_0 c nl lo (ρ 0) (ρ 1) (ρ 2) (ρ 3) M := by
 have h : k8_0 c nl lo ρ M = (k8_29 c nl lo ρ M) := execC_seq c modeF lo nl p8_1 p8_82 (endK cf8.res) noE (endK cf8.res) ρ M
 rw [h]
 unfold b8_0; simp only [(t8_29 c nl lo)] <;> (show _ = _; kernel_rfl)
def k8_30 (c : CallT) (nl lo : Nat) : Rg → MM → Option (AV × MM) := (execC c modeF lo nl p8_0 (k8_0 c nl lo) noE (endK cf8.res))
@[reducible] def b8_30 (c : CallT) (nl lo : Nat) (x0 x1 x2 x3 : AV) (M : MM) : Option (AV × MM) :=
 b8_0 c nl lo x0 x1 x2 x3 M
theorem t8_30 (c : CallT) (nl lo : Nat) (ρ : Rg) (M : MM) : k8_30 c nl lo ρ M = b8_30 c nl lo (ρ 0) (ρ 1) (ρ 2) (ρ 3) M := by
 have h : ∀ (z0 : Rg → MM → Option (AV × MM)), (execC c modeF lo nl p8_0 z0 noE (endK cf8.res)) ρ M = (z0 (sF (sF (sF (sF ρ 4 (.tup [])) 5 (.tup [])) 10 (.tup [])) 11 (.tup [])) M) := by intros; kernel_rfl
 refine (h (k8_0 c nl lo)).trans ?_
 unfold b8_30; simp only [(t8_0 c nl lo)] <;> (show _ = _; kernel_rfl)
def s8 (c : CallT) (nl lo : Nat) (a0 a1 a2 a3 : AV) (M : MM) : Option (AV × MM) :=
 b8_30 c nl lo a0 a1 a2 a3 M
theorem e8 (c : CallT) (nl lo : Nat) (a0 a1 a2 a3 : AV) (M : MM) : execC c modeF lo nl cf8.body (endK cf8.res) noE (endK cf8.res) (aF [a0, a1, a2, a3]) M = s8 c nl lo a0 a1 a2 a3 M := by
 have h : execC c modeF lo nl cf8.body (endK cf8.res) noE (endK cf8.res) (aF [a0, a1, a2, a3]) M = (k8_30 c nl lo (aF [a0, a1, a2, a3]) M) := execC_seq c modeF lo nl p8_0 p8_83 (endK cf8.res) noE (endK cf8.res) (aF [a0, a1, a2, a3]) M
 refine h.trans ?_
 unfold s8; simp only [(t8_30 c nl lo)] <;> (show _ = _; kernel_rfl)
theorem q8 {c : CallT} (hc : Lim G c) (lo : Nat) (a0 a1 a2 a3 : AV) (M : MM) : c 8 [a0, a1, a2, a3] lo M = s8 c G.nl lo a0 a1 a2 a3 M :=
 (hc.flow (cf := cf8) rfl w8 [a0, a1, a2, a3] lo M).trans (e8 c G.nl lo a0 a1 a2 a3 M)

/-! ### function 9 -/
theorem w9 : wfK cf9.nt cf9.body = true := by kernel_rfl
def s9 (c : CallT) (nl lo : Nat) (a0 : AV) (M : MM) : Option (AV × MM) :=
 opt (lenA a0) fun v3 =>
 opt (binA .leq .none v3 (.i 700)) fun v4 =>
 some (v4, M)
theorem e9 (c : CallT) (nl lo : Nat) (a0 : AV) (M : MM) : execC c modeF lo nl cf9.body (endK cf9.res) noE (endK cf9.res) (aF [a0]) M = s9 c nl lo a0 M := by
 kernel_rfl
theorem q9 {c : CallT} (hc : Lim G c) (lo : Nat) (a0 : AV) (M : MM) : c 9 [a0] lo M = s9 c G.nl lo a0 M :=
 (hc.flow (cf := cf9) rfl w9 [a0] lo M).trans (e9 c G.nl lo a0 M)

/-! ### function 11 -/
theorem w11 : wfK cf11.nt cf11.body = true := by kernel_rfl
def k11_7 (c : CallT) (nl lo : Nat) : Rg → MM → Option (AV × MM) := (execC c modeF lo nl p11_29 (endK cf11.res) noE (endK cf11.res))
@[reducible] def b11_7 (c : CallT) (nl lo : Nat) (x4 x6 : AV) (M : MM) : Option (AV × MM) :=
 opt (fldA 0 2 true x6) fun v1 =>
 opt (setcA 0 2 x4 v1) fun v2 =>
 opt (locA 2 true v2) fun r => some (r, M)
theorem t11_7 (c : CallT) (nl lo : Nat) (ρ : Rg) (M : MM) : k11_7 c nl lo ρ M = b11_7 c nl lo (ρ 4) (ρ 6) M := by
 kernel_rfl
def k11_9 (c : CallT) (nl lo : Nat) (n : Nat) : Rg → MM → Option (AV × MM) := iterC (fun k ρ M => execC c modeF lo nl p11_25 k (fun i ρ M => if i = 0 then (k11_7 c nl lo) ρ M else noE i ρ M) (endK cf11.res) ρ M) n
def b11_9 (c : CallT) (nl lo : Nat) : Nat → AV → AV → AV → AV → AV → MM → Option (AV × MM)
 | 0, _, _, _, _, _, _ => none
 | n + 1, x0, x1, x4, x6, x7, M =>
 opt (binA .gtr .none x7 (.i 0)) fun v4 =>
 isB v4 fun c5 => if c5 then (bumpK M 10 fun M6 =>
 opt (fldA 0 0 true x6) fun v7 =>
 opt (fldA 1 1 false x6) fun v8 =>
 opt (binA .sub .none x1 (.i 1)) fun v11 =>
 bnd (istep c modeF true lo (.mk M.nx 10 28 true) (M.nx + 5) (.callk 11 [(.k x0), (.k v11)] [(.k x6)]) [] M6) fun v12 M13 =>
 opt (wslA 1 (fill [.str ⟨⟨[]⟩⟩, .d (.sl [] 0)] [(0, 2, v12)])) fun v14 =>
 upK M13 (M.nx + 6) fun M15 =>
 opt (wappA M15.mem (.top M15.nx) 2 40 v8 v14) fun v16 =>
 upK M15 (M.nx + 7) fun M17 =>
 opt (fldA 0 0 true x6) fun v18 =>
 opt (setcA 1 1 x6 v16) fun v19 =>
 opt (binA .sub .none x7 (.i 1)) fun v21 =>
 (b11_9 c nl lo n) x0 x1 x4 v19 v21 M17)
 else (b11_7 c nl lo x4 x6 M)
theorem t11_9 (c : CallT) (nl lo : Nat) : ∀ (n : Nat) (ρ : Rg) (M : MM), k11_9 c nl lo n ρ M = b11_9 c nl lo n (ρ 0) (ρ 1) (ρ 4) (ρ 6) (ρ 7) M
 | 0, ρ, M => rfl
 | n + 1, ρ, M => by
  have h : ∀ (zb z0 : Rg → MM → Option (AV × MM)), execC c modeF lo nl p11_25 zb (fun i ρ M => if i = 0 then z0 ρ M else noE i ρ M) (endK cf11.res) ρ M = (opt (binA .gtr .none (ρ 7) (.i 0)) fun v4 =>
  isB v4 fun c5 => if c5 then (bumpK M 10 fun M6 =>
  opt (fldA 0 0 true (ρ 6)) fun v7 =>
  opt (fldA 1 1 false (ρ 6)) fun v8 =>
  opt (binA .sub .none (ρ 1) (.i 1)) fun v11 =>
  bnd (istep c modeF true lo (.mk M.nx 10 28 true) (M.nx + 5) (.callk 11 [(.k (ρ 0)), (.k v11)] [(.k (ρ 6))]) [] M6) fun v12 M13 =>
  opt (wslA 1 (fill [.str ⟨⟨[]⟩⟩, .d (.sl [] 0)] [(0, 2, v12)])) fun v14 =>
  upK M13 (M.nx + 6) fun M15 =>
  opt (wappA M15.mem (.top M15.nx) 2 40 v8 v14) fun v16 =>
  upK M15 (M.nx + 7) fun M17 =>
  opt (fldA 0 0 true (ρ 6)) fun v18 =>
  opt (setcA 1 1 (ρ 6) v16) fun v19 =>
  opt (binA .sub .none (ρ 7) (.i 1)) fun v21 =>
  zb (sF (sF (sF (sF (sF (sF (sF (sF (sF (sF (sF (sF (sF (sF (sF ρ 33 (ρ 7)) 34 v4) 37 v7) 38 v8) 39 (ρ 0)) 40 (ρ 1)) 41 v11) 42 v12) 43 v14) 44 v16) 45 v18) 6 v19) 35 (ρ 7)) 36 v21) 7 v21) M17)
  else (z0 (sF (sF ρ 33 (ρ 7)) 34 v4) M)) := by intros; kernel_rfl
  refine (h (k11_9 c nl lo n) (k11_7 c nl lo)).trans ?_
  unfold b11_9; simp only [(t11_7 c nl lo), (t11_9 c nl lo n)] <;> (show _ = _; kernel_rfl)
def k11_8 (c : CallT) (nl lo : Nat) : Rg → MM → Option (AV × MM) := (execC c modeF lo nl p11_27 (k11_7 c nl lo) noE (endK cf11.res))
@[reducible] def b11_8 (c : CallT) (nl lo : Nat) (x0 x1 x4 x6 x7 : AV) (M : MM) : Option (AV × MM) :=
 b11_9 c nl lo nl x0 x1 x4 x6 x7 M
theorem t11_8 (c : CallT) (nl lo : Nat) (ρ : Rg) (M : MM) : k11_8 c nl lo ρ M = b11_8 c nl lo (ρ 0) (ρ 1) (ρ 4) (ρ 6) (ρ 7) M := by
 have h : k11_8 c nl lo ρ M = (k11_9 c nl lo nl ρ M) := by kernel_rfl
 rw [h]
 unfold b11_8; simp only [(t11_9 c nl lo nl)] <;> (show _ = _; kernel_rfl)
def k11_6 (c : CallT) (nl lo : Nat) : Rg → MM → Option (AV × MM) := (execC c modeF lo nl p11_30 (endK cf11.res) noE (endK cf11.res))
@[reducible] def b11_6 (c : CallT) (nl lo : Nat) (x0 x1 x4 x6 x7 : AV) (M : MM) : Option (AV × MM) :=
 b11_8 c nl lo x0 x1 x4 x6 x7 M
theorem t11_6 (c : CallT) (nl lo : Nat) (ρ : Rg) (M : MM) : k11_6 c nl lo ρ M = b11_6 c nl lo (ρ 0) (ρ 1) (ρ 4) (ρ 6) (ρ 7) M := by
 have h : k11_6 c nl lo ρ M = (k11_8 c nl lo ρ M) := execC_seq c modeF lo nl p11_27 p11_29 (endK cf11.res) noE (endK cf11.res) ρ M
 rw [h]
 unfold b11_6; simp only [(t11_8 c nl lo)] <;> (show _ = _; kernel_rfl)
def k11_10 (c : CallT) (nl lo : Nat) : Rg → MM → Option (AV × MM) := (execC c modeF lo nl p11_17 (k11_6 c nl lo) noE (endK cf11.res))
@[reducible] def b11_10 (c : CallT) (nl lo : Nat) (x0 x1 x4 x6 x7 : AV) (M : MM) : Option (AV × MM) :=
 opt (fldA 0 0 true x6) fun v1 =>
 opt (fldA 0 1 false x6) fun v2 =>
 opt (binA .eql .none v2 (.str ⟨⟨[65, 114, 114, 97, 121]⟩⟩)) fun v3 =>
 isB v3 fun c4 => if c4 then (opt (binA .lss .none x1 (.i 0)) fun v7 =>
 isB v7 fun c8 => if c8 then (opt (fldA 0 0 true x6) fun v9 =>
 opt (setcA 0 1 x6 (.str ⟨⟨[73, 110, 116]⟩⟩)) fun v10 =>
 b11_6 c nl lo x0 x1 x4 v10 (.i 0) M)
 else (b11_6 c nl lo x0 x1 x4 x6 (.i 1) M))
 else (b11_6 c nl lo x0 x1 x4 x6 x7 M)
theorem t11_10 (c : CallT) (nl lo : Nat) (ρ : Rg) (M : MM) : k11_10 c nl lo ρ M = b11_10 c nl lo (ρ 0) (ρ 1) (ρ 4) (ρ 6) (ρ 7) M := by
 have h : ∀ (z0 : Rg → MM → Option (AV × MM)), (execC c modeF lo nl p11_17 z0 noE (endK cf11.res)) ρ M = (opt (fldA 0 0 true (ρ 6)) fun v1 =>
 opt (fldA 0 1 false (ρ 6)) fun v2 =>
 opt (binA .eql .none v2 (.str ⟨⟨[65, 114, 114, 97, 121]⟩⟩)) fun v3 =>
 isB v3 fun c4 => if c4 then (opt (binA .lss .none (ρ 1) (.i 0)) fun v7 =>
 isB v7 fun c8 => if c8 then (opt (fldA 0 0 true (ρ 6)) fun v9 =>
 opt (setcA 0 1 (ρ 6) (.str ⟨⟨[73, 110, 116]⟩⟩)) fun v10 =>
 z0 (sF (sF (sF (sF (sF (sF (sF (sF (sF ρ 27 v1) 28 v2) 29 v3) 7 (.i 1)) 30 (ρ 1)) 31 v7) 32 v9) 6 v10) 7 (.i 0)) M)
 else (z0 (sF (sF (sF (sF (sF (sF ρ 27 v1) 28 v2) 29 v3) 7 (.i 1)) 30 (ρ 1)) 31 v7) M))
 else (z0 (sF (sF (sF ρ 27 v1) 28 v2) 29 v3) M)) := by intros; kernel_rfl
 refine (h (k11_6 c nl lo)).trans ?_
 unfold b11_10; simp only [(t11_6 c nl lo)] <;> (show _ = _; kernel_rfl)
def k11_5 (c : CallT) (nl lo : Nat) : Rg → MM → Option (AV × MM) := (execC c modeF lo nl p11_31 (endK cf11.res) noE (endK cf11.res))
@[reducible] def b11_5 (c : CallT) (nl lo : Nat) (x0 x1 x4 x6 x7 : AV) (M : MM) : Option (AV × MM) :=
 b11_10 c nl lo x0 x1 x4 x6 x7 M
theorem t11_5 (c : CallT) (nl lo : Nat) (ρ : Rg) (M : MM) : k11_5 c nl lo ρ M = b11_5 c nl lo (ρ 0) (ρ 1) (ρ 4) (ρ 6) (ρ 7) M := by
 have h : k11_5 c nl lo ρ M = (k11_10 c nl lo ρ M) := execC_seq c modeF lo nl p11_17 p11_30 (endK cf11.res) noE (endK cf11.res) ρ M
 rw [h]
 unfold b11_5; simp only [(t11_10 c nl lo)] <;> (show _ = _; kernel_rfl)
def k11_11 (c : CallT) (nl lo : Nat) : Rg → MM → Option (AV × MM) := (execC c modeF lo nl p11_8 (k11_5 c nl lo) noE (endK cf11.res))
@[reducible] def b11_11 (c : CallT) (nl lo : Nat) (x0 x1 x4 x6 x7 : AV) (M : MM) : Option (AV × MM) :=
 opt (binA .gtr .none x1 (.i 0)) fun v2 =>
 opt (gdp v2 true (fldA 0 0 true x6)) fun v4 =>
 opt (gdp v2 true (fldA 0 1 false x6)) fun v5 =>
 opt (gdp v2 true (ixcA v5 (.i 0))) fun v6 =>
 opt (gdp v2 true (binA .geq .none v6 (.int .u8 97))) fun v7 =>
 opt (pickA v2 v7 (.bool false)) fun v8 =>
 isB v8 fun c9 => if c9 then (bnd (c 17 [x0, (.i 4)] lo M) fun v11 M12 =>
 b11_5 c nl lo x0 x1 x4 x6 v11 M12)
 else (b11_5 c nl lo x0 x1 x4 x6 x7 M)
theorem t11_11 (c : CallT) (nl lo : Nat) (ρ : Rg) (M : MM) : k11_11 c nl lo ρ M = b11_11 c nl lo (ρ 0) (ρ 1) (ρ 4) (ρ 6) (ρ 7) M := by
 have h : ∀ (z0 : Rg → MM → Option (AV × MM)), (execC c modeF lo nl p11_8 z0 noE (endK cf11.res)) ρ M = (opt (binA .gtr .none (ρ 1) (.i 0)) fun v2 =>
 opt (gdp v2 true (fldA 0 0 true (ρ 6))) fun v4 =>
 opt (gdp v2 true (fldA 0 1 false (ρ 6))) fun v5 =>
 opt (gdp v2 true (ixcA v5 (.i 0))) fun v6 =>
 opt (gdp v2 true (binA .geq .none v6 (.int .u8 97))) fun v7 =>
 opt (pickA v2 v7 (.bool false)) fun v8 =>
 isB v8 fun c9 => if c9 then (bnd (c 17 [(ρ 0), (.i 4)] lo M) fun v11 M12 =>
 z0 (sF (sF (sF (sF (sF (sF (sF (sF (sF (sF (sF ρ 17 (ρ 1)) 18 v2) 19 v2) 20 v4) 21 v5) 22 v6) 23 v7) 24 v8) 25 (ρ 0)) 26 v11) 7 v11) M12)
 else (z0 (sF (sF (sF (sF (sF (sF (sF (sF ρ 17 (ρ 1)) 18 v2) 19 v2) 20 v4) 21 v5) 22 v6) 23 v7) 24 v8) M)) := by intros; kernel_rfl
 refine (h (k11_5 c nl lo)).trans ?_
 unfold b11_11; simp only [(t11_5 c nl lo)] <;> (show _ = _; kernel_rfl)
def k11_4 (c : CallT) (nl lo : Nat) : Rg → MM → Option (AV × MM) := (execC c modeF lo nl p11_32 (endK cf11.res) noE (endK cf11.res))
@[reducible] def b11_4 (c : CallT) (nl lo : Nat) (x0 x1 x4 x6 x7 : AV) (M : MM) : Option (AV × MM) :=
 b11_11 c nl lo x0 x1 x4 x6 x7 M
theorem t11_4 (c : CallT) (nl lo : Nat) (ρ : Rg) (M : MM) : k11_4 c nl lo ρ M = b11_4 c nl lo (ρ 0) (ρ 1) (ρ 4) (ρ 6) (ρ 7) M := by
 have h : k11_4 c nl lo ρ M = (k11_11 c nl lo ρ M) := execC_seq c modeF lo nl p11_8 p11_31 (endK cf11.res) noE (endK cf11.res) ρ M
 rw [h]
 unfold b11_4; simp only [(t11_11 c nl lo)] <;> (show _ = _; kernel_rfl)
def k11_12 (c : CallT) (nl lo : Nat) : Rg → MM → Option (AV × MM) := (execC c modeF lo nl p11_4 (k11_4 c nl lo) noE (endK cf11.res))
@[reducible] def b11_12 (c : CallT) (nl lo : Nat) (x0 x1 x4 x6 : AV) (M : MM) : Option (AV × MM) :=
 b11_4 c nl lo x0 x1 x4 x6 (.i 0) M
theorem t11_12 (c : CallT) (nl lo : Nat) (ρ : Rg) (M : MM) : k11_12 c nl lo ρ M = b11_12 c nl lo (ρ 0) (ρ 1) (ρ 4) (ρ 6) M := by
 have h : ∀ (z0 : Rg → MM → Option (AV × MM)), (execC c modeF lo nl p11_4 z0 noE (endK cf11.res)) ρ M = (z0 (sF ρ 7 (.i 0)) M) := by intros; kernel_rfl
 refine (h (k11_4 c nl lo)).trans ?_
 unfold b11_12; simp only [(t11_4 c nl lo)] <;> (show _ = _; kernel_rfl)
def k11_3 (c : CallT) (nl lo : Nat) : Rg → MM → Option (AV × MM) := (execC c modeF lo nl p11_33 (endK cf11.res) noE (endK cf11.res))
@[reducible] def b11_3 (c : CallT) (nl lo : Nat) (x0 x1 x4 x6 : AV) (M : MM) : Option (AV × MM) :=
 b11_12 c nl lo x0 x1 x4 x6 M
theorem t11_3 (c : CallT) (nl lo : Nat) (ρ : Rg) (M : MM) : k11_3 c nl lo ρ M = b11_3 c nl lo (ρ 0) (ρ 1) (ρ 4) (ρ 6) M := by
 have h : k11_3 c nl lo ρ M = (k11_12 c nl lo ρ M) := execC_seq c modeF lo nl p11_4 p11_32 (endK cf11.res) noE (endK cf11.res) ρ M
 rw [h]
 unfold b11_3; simp only [(t11_12 c nl lo)] <;> (show _ = _; kernel_rfl)
def k11_13 (c : CallT) (nl lo : Nat) : Rg → MM → Option (AV × MM) := (execC c modeF lo nl p11_3 (k11_3 c nl lo) noE (endK cf11.res))
@[reducible] def b11_13 (c : CallT) (nl lo : Nat) (x0 x1 x4 x5 : AV) (M : MM) : Option (AV × MM) :=
 opt (lenA x5) fun v4 =>
 bnd (c 17 [x0, v4] lo M) fun v5 M6 =>
 opt (ixsA 1 x5 v5) fun v7 =>
 opt (ld1A (lk M6) v7) fun v8 =>
 opt ((fill [.str ⟨⟨[]⟩⟩, .d (.sl [] 0)] [(0, 1, v8)]).map .agg) fun v9 =>
 upK M6 M6.nx fun M11 =>
 opt (setcA 0 2 (.agg [.str ⟨⟨[]⟩⟩, .d (.sl [] 0)]) v9) fun v12 =>
 b11_3 c nl lo x0 x1 x4 v12 M11
theorem t11_13 (c : CallT) (nl lo : Nat) (ρ : Rg) (M : MM) : k11_13 c nl lo ρ M = b11_13 c nl lo (ρ 0) (ρ 1) (ρ 4) (ρ 5) M := by
 have h : ∀ (z0 : Rg → MM → Option (AV × MM)), (execC c modeF lo nl p11_3 z0 noE (endK cf11.res)) ρ M = (opt (lenA (ρ 5)) fun v4 =>
 bnd (c 17 [(ρ 0), v4] lo M) fun v5 M6 =>
 opt (ixsA 1 (ρ 5) v5) fun v7 =>
 opt (ld1A (lk M6) v7) fun v8 =>
 opt ((fill [.str ⟨⟨[]⟩⟩, .d (.sl [] 0)] [(0, 1, v8)]).map .agg) fun v9 =>
 upK M6 M6.nx fun M11 =>
 opt (setcA 0 2 (.agg [.str ⟨⟨[]⟩⟩, .d (.sl [] 0)]) v9) fun v12 =>
 z0 (sF (sF (sF (sF (sF (sF (sF (sF (sF (sF ρ 9 (ρ 5)) 10 (ρ 0)) 11 (ρ 5)) 12 v4) 13 v5) 14 v7) 15 v8) 16 v9) 6 (.agg [.str ⟨⟨[]⟩⟩, .d (.sl [] 0)])) 6 v12) M11) := by intros; kernel_rfl
 refine (h (k11_3 c nl lo)).trans ?_
 unfold b11_13; simp only [(t11_3 c nl lo)] <;> (show _ = _; kernel_rfl)
def k11_2 (c : CallT) (nl lo : Nat) : Rg → MM → Option (AV × MM) := (execC c modeF lo nl p11_34 (endK cf11.res) noE (endK cf11.res))
@[reducible] def b11_2 (c : CallT) (nl lo : Nat) (x0 x1 x4 x5 : AV) (M : MM) : Option (AV × MM) :=
 b11_13 c nl lo x0 x1 x4 x5 M
theorem t11_2 (c : CallT) (nl lo : Nat) (ρ : Rg) (M : MM) : k11_2 c nl lo ρ M = b11_2 c nl lo (ρ 0) (ρ 1) (ρ 4) (ρ 5) M := by
 have h : k11_2 c nl lo ρ M = (k11_13 c nl lo ρ M) := execC_seq c modeF lo nl p11_3 p11_33 (endK cf11.res) noE (endK cf11.res) ρ M
 rw [h]
 unfold b11_2; simp only [(t11_13 c nl lo)] <;> (show _ = _; kernel_rfl)
def k11_14 (c : CallT) (nl lo : Nat) : Rg → MM → Option (AV × MM) := (execC c modeF lo nl p11_2 (k11_2 c nl lo) noE (endK cf11.res))
@[reducible] def b11_14 (c : CallT) (nl lo : Nat) (x0 x1 x4 : AV) (M : MM) : Option (AV × MM) :=
 opt (wslA 9 (fill [.str ⟨⟨[]⟩⟩, .str ⟨⟨[]⟩⟩, .str ⟨⟨[]⟩⟩, .str ⟨⟨[]⟩⟩, .str ⟨⟨[]⟩⟩, .str ⟨⟨[]⟩⟩, .str ⟨⟨[]⟩⟩, .str ⟨⟨[]⟩⟩, .str ⟨⟨[]⟩⟩] [(0, 1, (.str ⟨⟨[73, 110, 116]⟩⟩)), (1, 1, (.str ⟨⟨[66, 111, 111, 108]⟩⟩)), (2, 1, (.str ⟨⟨[84]⟩⟩)), (3, 1, (.str ⟨⟨[85]⟩⟩)), (4, 1, (.str ⟨⟨[83, 101, 108, 102]⟩⟩)), (5, 1, (.str ⟨⟨[65, 114, 114, 97, 121]⟩⟩)), (6, 1, (.str ⟨⟨[103, 101, 111, 46, 80]⟩⟩)), (7, 1, (.str ⟨⟨[103, 101, 111, 46, 81]⟩⟩)), (8, 1, (.str ⟨⟨[98, 97, 115, 101, 46, 82]⟩⟩))])) fun v1 =>
 upK M M.nx fun M2 =>
 b11_2 c nl lo x0 x1 x4 v1 M2
theorem t11_14 (c : CallT) (nl lo : Nat) (ρ : Rg) (M : MM) : k11_14 c nl lo ρ M = b11_14 c nl lo (ρ 0) (ρ 1) (ρ 4) M := by
 have h : ∀ (z0 : Rg → MM → Option (AV × MM)), (execC c modeF lo nl p11_2 z0 noE (endK cf11.res)) ρ M = (opt (wslA 9 (fill [.str ⟨⟨[]⟩⟩, .str ⟨⟨[]⟩⟩, .str ⟨⟨[]⟩⟩, .str ⟨⟨[]⟩⟩, .str ⟨⟨[]⟩⟩, .str ⟨⟨[]⟩⟩, .str ⟨⟨[]⟩⟩, .str ⟨⟨[]⟩⟩, .str ⟨⟨[]⟩⟩] [(0, 1, (.str ⟨⟨[73, 110, 116]⟩⟩)), (1, 1, (.str ⟨⟨[66, 111, 111, 108]⟩⟩)), (2, 1, (.str ⟨⟨[84]⟩⟩)), (3, 1, (.str ⟨⟨[85]⟩⟩)), (4, 1, (.str ⟨⟨[83, 101, 108, 102]⟩⟩)), (5, 1, (.str ⟨⟨[65, 114, 114, 97, 121]⟩⟩)), (6, 1, (.str ⟨⟨[103, 101, 111, 46, 80]⟩⟩)), (7, 1, (.str ⟨⟨[103, 101, 111, 46, 81]⟩⟩)), (8, 1, (.str ⟨⟨[98, 97, 115, 101, 46, 82]⟩⟩))])) fun v1 =>
 upK M M.nx fun M2 =>
 z0 (sF (sF ρ 8 v1) 5 v1) M2) := by intros; kernel_rfl
 refine (h (k11_2 c nl lo)).trans ?_
 unfold b11_14; simp only [(t11_2 c nl lo)] <;> (show _ = _; kernel_rfl)
def k11_1 (c : CallT) (nl lo : Nat) : Rg → MM → Option (AV × MM) := (execC c modeF lo nl p11_35 (endK cf11.res) noE (endK cf11.res))
@[reducible] def b11_1 (c : CallT) (nl lo : Nat) (x0 x1 x4 : AV) (M : MM) : Option (AV × MM) :=
 b11_14 c nl lo x0 x1 x4 M
theorem t11_1 (c : CallT) (nl lo : Nat) (ρ : Rg) (M : MM) : k11_1 c nl lo ρ M = b11_1 c nl lo (ρ 0) (ρ 1) (ρ 4) M := by
 have h : k11_1 c nl lo ρ M = (k11_14 c nl lo ρ M) := execC_seq c modeF lo nl p11_2 p11_34 (endK cf11.res) noE (endK cf11.res) ρ M
 rw [h]
 unfold b11_1; simp only [(t11_14 c nl lo)] <;> (show _ = _; kernel_rfl)
def k11_15 (c : CallT) (nl lo : Nat) : Rg → MM → Option (AV × MM) := (execC c modeF lo nl p11_1 (k11_1 c nl lo) noE (endK cf11.res))
@[reducible] def b11_15 (c : CallT) (nl lo : Nat) (x0 x1 : AV) (M : MM) : Option (AV × MM) :=
 upK M M.nx fun M2 =>
 b11_1 c nl lo x0 x1 (.agg [.str ⟨⟨[]⟩⟩, .d (.sl [] 0)]) M2
theorem t11_15 (c : CallT) (nl lo : Nat) (ρ : Rg) (M : MM) : k11_15 c nl lo ρ M = b11_15 c nl lo (ρ 0) (ρ 1) M := by
 have h : ∀ (z0 : Rg → MM → Option (AV × MM)), (execC c modeF lo nl p11_1 z0 noE (endK cf11.res)) ρ M = (upK M M.nx fun M2 =>
 z0 (sF ρ 4 (.agg [.str ⟨⟨[]⟩⟩, .d (.sl [] 0)])) M2) := by intros; kernel_rfl
 refine (h (k11_1 c nl lo)).trans ?_
 unfold b11_15; simp only [(t11_1 c nl lo)] <;> (show _ = _; kernel_rfl)
def k11_0 (c : CallT) (nl lo : Nat) : Rg → MM → Option (AV × MM) := (execC c modeF lo nl p11_36 (endK cf11.res) noE (endK cf11.res))
@[reducible] def b11_0 (c : CallT) (nl lo : Nat) (x0 x1 : AV) (M : MM) : Option (AV × MM) :=
 b11_15 c nl lo x0 x1 M
theorem t11_0 (c : CallT) (nl lo : Nat) (ρ : Rg) (M : MM) : k11_0 c nl lo ρ M = b11_0 c nl lo (ρ 0) (ρ 1) M := by
 have h : k11_0 c nl lo ρ M = (k11_15 c nl lo ρ M) := execC_seq c modeF lo nl p11_1 p11_35 (endK cf11.res) noE (endK cf11.res) ρ M
 rw [h]
 unfold b11_0; simp only [(t11_15 c nl lo)] <;> (show _ = _; kernel_rfl)
def k11_16 (c : CallT) (nl lo : Nat) : Rg → MM → Option (AV × MM) := (execC c modeF lo nl p11_0 (k11_0 c nl lo) noE (endK cf11.res))
@[reducible] def b11_16 (c : CallT) (nl lo : Nat) (x0 x1 : AV) (M : MM) : Option (AV × MM) :=
 b11_0 c nl lo x0 x1 M
theorem t11_16 (c : CallT) (nl lo : Nat) (ρ : Rg) (M : MM) : k11_16 c nl lo ρ M = b11_16 c nl lo (ρ 0) (ρ 1) M := by
 have h : ∀ (z0 : Rg → MM → Option (AV × MM)), (execC c modeF lo nl p11_0 z0 noE (endK cf11.res)) ρ M = (z0 (sF (sF ρ 4 (.tup [])) 6 (.tup [])) M) := by intros; kernel_rfl
 refine (h (k11_0 c nl lo)).trans ?_
 unfold b11_16; simp only [(t11_0 c nl lo)] <;> (show _ = _; kernel_rfl)
def s11 (c : CallT) (nl lo : Nat) (a0 a1 : AV) (M : MM) : Option (AV × MM) :=
 b11_16 c nl lo a0 a1 M
theorem e11 (c : CallT) (nl lo : Nat) (a0 a1 : AV) (M : MM) : execC c modeF lo nl cf11.body (endK cf11.res) noE (endK cf11.res) (aF [a0, a1]) M = s11 c nl lo a0 a1 M := by
 have h : execC c modeF lo nl cf11.body (endK cf11.res) noE (endK cf11.res) (aF [a0, a1]) M = (k11_16 c nl lo (aF [a0, a1]) M) := execC_seq c modeF lo nl p11_0 p11_36 (endK cf11.res) noE (endK cf11.res) (aF [a0, a1]) M
 refine h.trans ?_
 unfold s11; simp only [(t11_16 c nl lo)] <;> (show _ = _; kernel_rfl)
theorem q11 {c : CallT} (hc : Lim G c) (lo : Nat) (a0 a1 : AV) (M : MM) : c 11 [a0, a1] lo M = s11 c G.nl lo a0 a1 M :=
 (hc.flow (cf := cf11) rfl w11 [a0, a1] lo M).trans (e11 c G.nl lo a0 a1 M)

/-! ### function 12 -/
theorem w12 : wfK cf12.nt cf12.body = true := by kernel_rfl
def s12 (c : CallT) (nl lo : Nat) (a0 : AV) (M : MM) : Option (AV × MM) :=
 opt ((fill [.d (.sl [] 0), .i 0] [(0, 1, a0)]).map .agg) fun v3 =>
 bnd (istep c modeF false lo (.top M.nx) M.nx (.box 56 (.k v3)) [] M) fun v4 M5 =>
 some (v4, M5)
theorem e12 (c : CallT) (nl lo : Nat) (a0 : AV) (M : MM) : execC c modeF lo nl cf12.body (endK cf12.res) noE (endK cf12.res) (aF [a0]) M = s12 c nl lo a0 M := by
 kernel_rfl
theorem q12 {c : CallT} (hc : Lim G c) (lo : Nat) (a0 : AV) (M : MM) : c 12 [a0] lo M = s12 c G.nl lo a0 M :=
 (hc.flow (cf := cf12) rfl w12 [a0] lo M).trans (e12 c G.nl lo a0 M)

/-! ### function 13 -/
theorem w13 : wfK cf13.nt cf13.body = true := by kernel_rfl
def s13 (c : CallT) (nl lo : Nat) (a0 a1 : AV) (M : MM) : Option (AV × MM) :=
 opt (aggA a0) fun v3 =>
 upK M M.nx fun M4 =>
 opt (aggA a1) fun v5 =>
 upK M4 M4.nx fun M6 =>
 opt (fldA 0 0 true v3) fun v8 =>
 opt (fldA 0 1 false v3) fun v9 =>
 opt (fldA 0 0 true v5) fun v10 =>
 opt (fldA 0 1 false v5) fun v11 =>
 opt (puA c (lk M6) 39 [v9, v11]) fun v12 =>
 opt (binA .neq .none v12 (.i 0)) fun v15 =>
 isB v15 fun c16 => if c16 then (some (v12, M6))
 else (opt (fldA 0 0 true v3) fun v19 =>
 opt (fldA 1 1 false v3) fun v20 =>
 opt (fldA 0 0 true v5) fun v21 =>
 opt (fldA 1 1 false v5) fun v22 =>
 bnd (c 40 [v20, v22, (.fn 13 [] [])] lo M6) fun v23 M24 =>
 some (v23, M24))
theorem e13 (c : CallT) (nl lo : Nat) (a0 a1 : AV) (M : MM) : execC c modeF lo nl cf13.body (endK cf13.res) noE (endK cf13.res) (aF [a0, a1]) M = s13 c nl lo a0 a1 M := by
 kernel_rfl
theorem q13 {c : CallT} (hc : Lim G c) (lo : Nat) (a0 a1 : AV) (M : MM) : c 13 [a0, a1] lo M = s13 c G.nl lo a0 a1 M :=
 (hc.flow (cf := cf13) rfl w13 [a0, a1] lo M).trans (e13 c G.nl lo a0 a1 M)

/-! ### function 14 -/
theorem w14 : wfK cf14.nt cf14.body = true := by kernel_rfl
def s14 (c : CallT) (nl lo : Nat) (a0 a1 : AV) (M : MM) : Option (AV × MM) :=
 opt (aggA a0) fun v3 =>
 upK M M.nx fun M4 =>
 opt (aggA a1) fun v5 =>
 upK M4 M4.nx fun M6 =>
 opt (fldA 0 0 true v3) fun v8 =>
 opt (fldA 0 1 false v3) fun v9 =>
 opt (fldA 0 0 true v5) fun v10 =>
 opt (fldA 0 1 false v5) fun v11 =>
 opt (binA .eql .none v9 v11) fun v12 =>
 opt (gdp v12 true (fldA 0 0 true v3)) fun v14 =>
 opt (gdp v12 true (fldA 1 1 false v3)) fun v15 =>
 opt (gdp v12 true (fldA 0 0 true v5)) fun v16 =>
 opt (gdp v12 true (fldA 1 1 false v5)) fun v17 =>
 bnd (gd v12 true M6 (c 41 [v15, v17, (.fn 14 [] [])] lo M6)) fun v18 M19 =>
 opt (pickA v12 v18 (.bool false)) fun v20 =>
 some (v20, M19)
theorem e14 (c : CallT) (nl lo : Nat) (a0 a1 : AV) (M : MM) : execC c modeF lo nl cf14.body (endK cf14.res) noE (endK cf14.res) (aF [a0, a1]) M = s14 c nl lo a0 a1 M := by
 kernel_rfl
theorem q14 {c : CallT} (hc : Lim G c) (lo : Nat) (a0 a1 : AV) (M : MM) : c 14 [a0, a1] lo M = s14 c G.nl lo a0 a1 M :=
 (hc.flow (cf := cf14) rfl w14 [a0, a1] lo M).trans (e14 c G.nl lo a0 a1 M)

/-! ### function 15 -/
theorem w15 : wfK cf15.nt cf15.body = true := by kernel_rfl
def k15_4 (c : CallT) (nl lo : Nat) : Rg → MM → Option (AV × MM) := (execC c modeF lo nl p15_23 (endK cf15.res) noE (endK cf15.res))
@[reducible] def b15_4 (c : CallT) (nl lo : Nat) (x1 x3 : AV) (M : MM) : Option (AV × MM) :=
 bumpK M 8 fun M1 =>
 opt (fldA 0 0 true x1) fun v2 =>
 opt (fldA 0 1 false x1) fun v3 =>
 opt (binA .add .none v3 (.str ⟨⟨[91]⟩⟩)) fun v4 =>
 opt (puA c (look M1.mem (.mk M.nx 8 8 true)) 42 [x3, (.str ⟨⟨[44, 32]⟩⟩)]) fun v6 =>
 opt (binA .add .none v4 v6) fun v7 =>
 opt (binA .add .none v7 (.str ⟨⟨[93]⟩⟩)) fun v8 =>
 some (v8, M1)
theorem t15_4 (c : CallT) (nl lo : Nat) (ρ : Rg) (M : MM) : k15_4 c nl lo ρ M = b15_4 c nl lo (ρ 1) (ρ 3) M := by
 kernel_rfl
def k15_6 (c : CallT) (nl lo : Nat) (n : Nat) : Rg → MM → Option (AV × MM) := iterC (fun k ρ M => execC c modeF lo nl p15_18 k (fun i ρ M => if i = 0 then (k15_4 c nl lo) ρ M else noE i ρ M) (endK cf15.res) ρ M) n
def b15_6 (c : CallT) (nl lo : Nat) : Nat → AV → AV → AV → AV → AV → MM → Option (AV × MM)
 | 0, _, _, _, _, _, _ => none
 | n + 1, x1, x3, x13, x14, x15, M =>
 opt (binA .lss .none x15 x14) fun v14 =>
 isB v14 fun c15 => if c15 then (opt (ixsA 2 x13 x15) fun v16 =>
 opt (ldnA (lk M) 2 v16) fun v17 =>
 upK M M.nx fun M19 =>
 opt (setcA 0 2 (.agg [.str ⟨⟨[]⟩⟩, .d (.sl [] 0)]) v17) fun v20 =>
 opt (fldA 0 2 true v20) fun v22 =>
 opt (puA c (lk M19) 15 [v22]) fun v23 =>
 opt (wslA 1 (fill [.str ⟨⟨[]⟩⟩] [(0, 1, v23)])) fun v24 =>
 upK M19 M19.nx fun M25 =>
 opt (wappA M25.mem (.top M25.nx) 1 16 x3 v24) fun v26 =>
 upK M25 M25.nx fun M27 =>
 opt (binA .add .none x15 (.i 1)) fun v29 =>
 (b15_6 c nl lo n) x1 v26 x13 x14 v29 M27)
 else (b15_4 c nl lo x1 x3 M)
theorem t15_6 (c : CallT) (nl lo : Nat) : ∀ (n : Nat) (ρ : Rg) (M : MM), k15_6 c nl lo n ρ M = b15_6 c nl lo n (ρ 1) (ρ 3) (ρ 13) (ρ 14) (ρ 15) M
 | 0, ρ, M => rfl
 | n + 1, ρ, M => by
  have h : ∀ (zb z0 : Rg → MM → Option (AV × MM)), execC c modeF lo nl p15_18 zb (fun i ρ M => if i = 0 then z0 ρ M else noE i ρ M) (endK cf15.res) ρ M = (opt (binA .lss .none (ρ 15) (ρ 14)) fun v14 =>
  isB v14 fun c15 => if c15 then (opt (ixsA 2 (ρ 13) (ρ 15)) fun v16 =>
  opt (ldnA (lk M) 2 v16) fun v17 =>
  upK M M.nx fun M19 =>
  opt (setcA 0 2 (.agg [.str ⟨⟨[]⟩⟩, .d (.sl [] 0)]) v17) fun v20 =>
  opt (fldA 0 2 true v20) fun v22 =>
  opt (puA c (lk M19) 15 [v22]) fun v23 =>
  opt (wslA 1 (fill [.str ⟨⟨[]⟩⟩] [(0, 1, v23)])) fun v24 =>
  upK M19 M19.nx fun M25 =>
  opt (wappA M25.mem (.top M25.nx) 1 16 (ρ 3) v24) fun v26 =>
  upK M25 M25.nx fun M27 =>
  opt (binA .add .none (ρ 15) (.i 1)) fun v29 =>
  zb (sF (sF (sF (sF (sF (sF (sF (sF (sF (sF (sF (sF (sF ρ 16 v14) 17 v16) 18 v17) 5 (.agg [.str ⟨⟨[]⟩⟩, .d (.sl [] 0)])) 5 v20) 19 (ρ 3)) 20 v22) 21 v23) 22 v24) 23 v26) 3 v26) 24 v29) 15 v29) M27)
  else (z0 (sF ρ 16 v14) M)) := by intros; kernel_rfl
  refine (h (k15_6 c nl lo n) (k15_4 c nl lo)).trans ?_
  unfold b15_6; simp only [(t15_4 c nl lo), (t15_6 c nl lo n)] <;> (show _ = _; kernel_rfl)
def k15_5 (c : CallT) (nl lo : Nat) : Rg → MM → Option (AV × MM) := (execC c modeF lo nl p15_21 (k15_4 c nl lo) noE (endK cf15.res))
@[reducible] def b15_5 (c : CallT) (nl lo : Nat) (x1 x3 : AV) (M : MM) : Option (AV × MM) :=
 opt (fldA 0 0 true x1) fun v10 =>
 opt (fldA 1 1 false x1) fun v11 =>
 opt (lenA v11) fun v12 =>
 b15_6 c nl lo nl x1 x3 v11 v12 (.i 0) M
theorem t15_5 (c : CallT) (nl lo : Nat) (ρ : Rg) (M : MM) : k15_5 c nl lo ρ M = b15_5 c nl lo (ρ 1) (ρ 3) M := by
 have h : k15_5 c nl lo ρ M = (opt (fldA 0 0 true (ρ 1)) fun v10 =>
 opt (fldA 1 1 false (ρ 1)) fun v11 =>
 opt (lenA v11) fun v12 =>
 k15_6 c nl lo nl (sF (sF (sF (sF ρ 12 v10) 13 v11) 14 v12) 15 (.i 0)) M) := by kernel_rfl
 rw [h]
 unfold b15_5; simp only [(t15_6 c nl lo nl)] <;> (show _ = _; kernel_rfl)
def k15_3 (c : CallT) (nl lo : Nat) : Rg → MM → Option (AV × MM) := (execC c modeF lo nl p15_24 (endK cf15.res) noE (endK cf15.res))
@[reducible] def b15_3 (c : CallT) (nl lo : Nat) (x1 x3 : AV) (M : MM) : Option (AV × MM) :=
 b15_5 c nl lo x1 x3 M
theorem t15_3 (c : CallT) (nl lo : Nat) (ρ : Rg) (M : MM) : k15_3 c nl lo ρ M = b15_3 c nl lo (ρ 1) (ρ 3) M := by
 have h : k15_3 c nl lo ρ M = (k15_5 c nl lo ρ M) := execC_seq c modeF lo nl p15_21 p15_23 (endK cf15.res) noE (endK cf15.res) ρ M
 rw [h]
 unfold b15_3; simp only [(t15_5 c nl lo)] <;> (show _ = _; kernel_rfl)
def k15_7 (c : CallT) (nl lo : Nat) : Rg → MM → Option (AV × MM) := (execC c modeF lo nl p15_7 (k15_3 c nl lo) noE (endK cf15.res))
@[reducible] def b15_7 (c : CallT) (nl lo : Nat) (x1 : AV) (M : MM) : Option (AV × MM) :=
 b15_3 c nl lo x1 (.d (.sl [] 0)) M
theorem t15_7 (c : CallT) (nl lo : Nat) (ρ : Rg) (M : MM) : k15_7 c nl lo ρ M = b15_7 c nl lo (ρ 1) M := by
 have h : ∀ (z0 : Rg → MM → Option (AV × MM)), (execC c modeF lo nl p15_7 z0 noE (endK cf15.res)) ρ M = (z0 (sF ρ 3 (.d (.sl [] 0))) M) := by intros; kernel_rfl
 refine (h (k15_3 c nl lo)).trans ?_
 unfold b15_7; simp only [(t15_3 c nl lo)] <;> (show _ = _; kernel_rfl)
def k15_2 (c : CallT) (nl lo : Nat) : Rg → MM → Option (AV × MM) := (execC c modeF lo nl p15_25 (endK cf15.res) noE (endK cf15.res))
@[reducible] def b15_2 (c : CallT) (nl lo : Nat) (x1 : AV) (M : MM) : Option (AV × MM) :=
 b15_7 c nl lo x1 M
theorem t15_2 (c : CallT) (nl lo : Nat) (ρ : Rg) (M : MM) : k15_2 c nl lo ρ M = b15_2 c nl lo (ρ 1) M := by
 have h : k15_2 c nl lo ρ M = (k15_7 c nl lo ρ M) := execC_seq c modeF lo nl p15_7 p15_24 (endK cf15.res) noE (endK cf15.res) ρ M
 rw [h]
 unfold b15_2; simp only [(t15_7 c nl lo)] <;> (show _ = _; kernel_rfl)
def k15_8 (c : CallT) (nl lo : Nat) : Rg → MM → Option (AV × MM) := (execC c modeF lo nl p15_6 (k15_2 c nl lo) noE (endK cf15.res))
@[reducible] def b15_8 (c : CallT) (nl lo : Nat) (x1 : AV) (M : MM) : Option (AV × MM) :=
 opt (fldA 0 0 true x1) fun v1 =>
 opt (fldA 1 1 false x1) fun v2 =>
 opt (lenA v2) fun v3 =>
 opt (binA .eql .none v3 (.i 0)) fun v4 =>
 isB v4 fun c5 => if c5 then (opt (fldA 0 0 true x1) fun v6 =>
 opt (fldA 0 1 false x1) fun v7 =>
 some (v7, M))
 else (b15_2 c nl lo x1 M)
theorem t15_8 (c : CallT) (nl lo : Nat) (ρ : Rg) (M : MM) : k15_8 c nl lo ρ M = b15_8 c nl lo (ρ 1) M := by
 have h : ∀ (z0 : Rg → MM → Option (AV × MM)), (execC c modeF lo nl p15_6 z0 noE (endK cf15.res)) ρ M = (opt (fldA 0 0 true (ρ 1)) fun v1 =>
 opt (fldA 1 1 false (ρ 1)) fun v2 =>
 opt (lenA v2) fun v3 =>
 opt (binA .eql .none v3 (.i 0)) fun v4 =>
 isB v4 fun c5 => if c5 then (opt (fldA 0 0 true (ρ 1)) fun v6 =>
 opt (fldA 0 1 false (ρ 1)) fun v7 =>
 some (v7, M))
 else (z0 (sF (sF (sF (sF ρ 6 v1) 7 v2) 8 v3) 9 v4) M)) := by intros; kernel_rfl
 refine (h (k15_2 c nl lo)).trans ?_
 unfold b15_8; simp only [(t15_2 c nl lo)] <;> (show _ = _; kernel_rfl)
def k15_1 (c : CallT) (nl lo : Nat) : Rg → MM → Option (AV × MM) := (execC c modeF lo nl p15_26 (endK cf15.res) noE (endK cf15.res))
@[reducible] def b15_1 (c : CallT) (nl lo : Nat) (x1 : AV) (M : MM) : Option (AV × MM) :=
 b15_8 c nl lo x1 M
theorem t15_1 (c : CallT) (nl lo : Nat) (ρ : Rg) (M : MM) : k15_1 c nl lo ρ M = b15_1 c nl lo (ρ 1) M := by
 have h : k15_1 c nl lo ρ M = (k15_8 c nl lo ρ M) := execC_seq c modeF lo nl p15_6 p15_25 (endK cf15.res) noE (endK cf15.res) ρ M
 rw [h]
 unfold b15_1; simp only [(t15_8 c nl lo)] <;> (show _ = _; kernel_rfl)
def k15_9 (c : CallT) (nl lo : Nat) : Rg → MM → Option (AV × MM) := (execC c modeF lo nl p15_1 (k15_1 c nl lo) noE (endK cf15.res))
@[reducible] def b15_9 (c : CallT) (nl lo : Nat) (x0 : AV) (M : MM) : Option (AV × MM) :=
 opt (aggA x0) fun v1 =>
 upK M M.nx fun M2 =>
 b15_1 c nl lo v1 M2
theorem t15_9 (c : CallT) (nl lo : Nat) (ρ : Rg) (M : MM) : k15_9 c nl lo ρ M = b15_9 c nl lo (ρ 0) M := by
 have h : ∀ (z0 : Rg → MM → Option (AV × MM)), (execC c modeF lo nl p15_1 z0 noE (endK cf15.res)) ρ M = (opt (aggA (ρ 0)) fun v1 =>
 upK M M.nx fun M2 =>
 z0 (sF (sF ρ 1 v1) 2 (.str ⟨⟨[]⟩⟩)) M2) := by intros; kernel_rfl
 refine (h (k15_1 c nl lo)).trans ?_
 unfold b15_9; simp only [(t15_1 c nl lo)] <;> (show _ = _; kernel_rfl)
def k15_0 (c : CallT) (nl lo : Nat) : Rg → MM → Option (AV × MM) := (execC c modeF lo nl p15_27 (endK cf15.res) noE (endK cf15.res))
@[reducible] def b15_0 (c : CallT) (nl lo : Nat) (x0 : AV) (M : MM) : Option (AV × MM) :=
 b15_9 c nl lo x0 M
theorem t15_0 (c : CallT) (nl lo : Nat) (ρ : Rg) (M : MM) : k15_0 c nl lo ρ M = b15_0 c nl lo (ρ 0) M := by
 have h : k15_0 c nl lo ρ M = (k15_9 c nl lo ρ M) := execC_seq c modeF lo nl p15_1 p15_26 (endK cf15.res) noE (endK cf15.res) ρ M
 rw [h]
 unfold b15_0; simp only [(t15_9 c nl lo)] <;> (show _ = _; kernel_rfl)
def k15_10 (c : CallT) (nl lo : Nat) : Rg → MM → Option (AV × MM) := (execC c modeF lo nl p15_0 (k15_0 c nl lo) noE (endK cf15.res))
@[reducible] def b15_10 (c : CallT) (nl lo : Nat) (x0 : AV) (M : MM) : Option (AV × MM) :=
 b15_0 c nl lo x0 M
theorem t15_10 (c : CallT) (nl lo : Nat) (ρ : Rg) (M : MM) : k15_10 c nl lo ρ M = b15_10 c nl lo (ρ 0) M := by
 have h : ∀ (z0 : Rg → MM → Option (AV × MM)), (execC c modeF lo nl p15_0 z0 noE (endK cf15.res)) ρ M = (z0 (sF (sF ρ 1 (.tup [])) 5 (.tup [])) M) := by intros; kernel_rfl
 refine (h (k15_0 c nl lo)).trans ?_
 unfold b15_10; simp only [(t15_0 c nl lo)] <;> (show _ = _; kernel_rfl)
def s15 (c : CallT) (nl lo : Nat) (a0 : AV) (M : MM) : Option (AV × MM) :=
 b15_10 c nl lo a0 M
theorem e15 (c : CallT) (nl lo : Nat) (a0 : AV) (M : MM) : execC c modeF lo nl cf15.body (endK cf15.res) noE (endK cf15.res) (aF [a0]) M = s15 c nl lo a0 M := by
 have h : execC c modeF lo nl cf15.body (endK cf15.res) noE (endK cf15.res) (aF [a0]) M = (k15_10 c nl lo (aF [a0]) M) := execC_seq c modeF lo nl p15_0 p15_27 (endK cf15.res) noE (endK cf15.res) (aF [a0]) M
 refine h.trans ?_
 unfold s15; simp only [(t15_10 c nl lo)] <;> (show _ = _; kernel_rfl)
theorem q15 {c : CallT} (hc : Lim G c) (lo : Nat) (a0 : AV) (M : MM) : c 15 [a0] lo M = s15 c G.nl lo a0 M :=
 (hc.flow (cf := cf15) rfl w15 [a0] lo M).trans (e15 c G.nl lo a0 M)

/-! ### function 16 -/
theorem w16 : wfK cf16.nt cf16.body = true := by kernel_rfl
def k16_3 (c : CallT) (nl lo : Nat) : Rg → MM → Option (AV × MM) := (execC c modeF lo nl p16_26 (endK cf16.res) noE (endK cf16.res))
@[reducible] def b16_3 (c : CallT) (nl lo : Nat) (M : MM) : Option (AV × MM) :=
 some ((.bool true), M)
theorem t16_3 (c : CallT) (nl lo : Nat) (ρ : Rg) (M : MM) : k16_3 c nl lo ρ M = b16_3 c nl lo M := by
 kernel_rfl
def k16_5 (c : CallT) (nl lo : Nat) (n : Nat) : Rg → MM → Option (AV × MM) := iterC (fun k ρ M => execC c modeF lo nl p16_21 k (fun i ρ M => if i = 0 then (k16_3 c nl lo) ρ M else noE i ρ M) (endK cf16.res) ρ M) n
def b16_5 (c : CallT) (nl lo : Nat) : Nat → AV → AV → AV → AV → MM → Option (AV × MM)
 | 0, _, _, _, _, _ => none
 | n + 1, x1, x16, x17, x18, M =>
 opt (binA .lss .none x18 x17) fun v6 =>
 isB v6 fun c7 => if c7 then (opt (ixsA 2 x16 x18) fun v8 =>
 opt (ldnA (lk M) 2 v8) fun v9 =>
 upK M M.nx fun M11 =>
 opt (setcA 0 2 (.agg [.str ⟨⟨[]⟩⟩, .d (.sl [] 0)]) v9) fun v12 =>
 opt (fldA 0 2 true v12) fun v13 =>
 opt (binA .sub .none x1 (.i 1)) fun v15 =>
 opt (puA c (lk M11) 16 [v13, v15]) fun v16 =>
 opt (unA .not v16) fun v17 =>
 isB v17 fun c18 => if c18 then (some ((.bool false), M11))
 else (opt (binA .add .none x18 (.i 1)) fun v20 =>
 (b16_5 c nl lo n) x1 x16 x17 v20 M11))
 else (b16_3 c nl lo M)
theorem t16_5 (c : CallT) (nl lo : Nat) : ∀ (n : Nat) (ρ : Rg) (M : MM), k16_5 c nl lo n ρ M = b16_5 c nl lo n (ρ 1) (ρ 16) (ρ 17) (ρ 18) M
 | 0, ρ, M => rfl
 | n + 1, ρ, M => by
  have h : ∀ (zb z0 : Rg → MM → Option (AV × MM)), execC c modeF lo nl p16_21 zb (fun i ρ M => if i = 0 then z0 ρ M else noE i ρ M) (endK cf16.res) ρ M = (opt (binA .lss .none (ρ 18) (ρ 17)) fun v6 =>
  isB v6 fun c7 => if c7 then (opt (ixsA 2 (ρ 16) (ρ 18)) fun v8 =>
  opt (ldnA (lk M) 2 v8) fun v9 =>
  upK M M.nx fun M11 =>
  opt (setcA 0 2 (.agg [.str ⟨⟨[]⟩⟩, .d (.sl [] 0)]) v9) fun v12 =>
  opt (fldA 0 2 true v12) fun v13 =>
  opt (binA .sub .none (ρ 1) (.i 1)) fun v15 =>
  opt (puA c (lk M11) 16 [v13, v15]) fun v16 =>
  opt (unA .not v16) fun v17 =>
  isB v17 fun c18 => if c18 then (some ((.bool false), M11))
  else (opt (binA .add .none (ρ 18) (.i 1)) fun v20 =>
  zb (sF (sF (sF (sF (sF (sF (sF (sF (sF (sF (sF (sF ρ 19 v6) 20 v8) 21 v9) 6 (.agg [.str ⟨⟨[]⟩⟩, .d (.sl [] 0)])) 6 v12) 22 v13) 23 (ρ 1)) 24 v15) 25 v16) 26 v17) 27 v20) 18 v20) M11))
  else (z0 (sF ρ 19 v6) M)) := by intros; kernel_rfl
  refine (h (k16_5 c nl lo n) (k16_3 c nl lo)).trans ?_
  unfold b16_5; simp only [(t16_3 c nl lo), (t16_5 c nl lo n)] <;> (show _ = _; kernel_rfl)
def k16_4 (c : CallT) (nl lo : Nat) : Rg → MM → Option (AV × MM) := (execC c modeF lo nl p16_24 (k16_3 c nl lo) noE (endK cf16.res))
@[reducible] def b16_4 (c : CallT) (nl lo : Nat) (x1 x2 : AV) (M : MM) : Option (AV × MM) :=
 opt (fldA 0 0 true x2) fun v2 =>
 opt (fldA 1 1 false x2) fun v3 =>
 opt (lenA v3) fun v4 =>
 b16_5 c nl lo nl x1 v3 v4 (.i 0) M
theorem t16_4 (c : CallT) (nl lo : Nat) (ρ : Rg) (M : MM) : k16_4 c nl lo ρ M = b16_4 c nl lo (ρ 1) (ρ 2) M := by
 have h : k16_4 c nl lo ρ M = (opt (fldA 0 0 true (ρ 2)) fun v2 =>
 opt (fldA 1 1 false (ρ 2)) fun v3 =>
 opt (lenA v3) fun v4 =>
 k16_5 c nl lo nl (sF (sF (sF (sF ρ 15 v2) 16 v3) 17 v4) 18 (.i 0)) M) := by kernel_rfl
 rw [h]
 unfold b16_4; simp only [(t16_5 c nl lo nl)] <;> (show _ = _; kernel_rfl)
def k16_2 (c : CallT) (nl lo : Nat) : Rg → MM → Option (AV × MM) := (execC c modeF lo nl p16_27 (endK cf16.res) noE (endK cf16.res))
@[reducible] def b16_2 (c : CallT) (nl lo : Nat) (x1 x2 : AV) (M : MM) : Option (AV × MM) :=
 b16_4 c nl lo x1 x2 M
theorem t16_2 (c : CallT) (nl lo : Nat) (ρ : Rg) (M : MM) : k16_2 c nl lo ρ M = b16_2 c nl lo (ρ 1) (ρ 2) M := by
 have h : k16_2 c nl lo ρ M = (k16_4 c nl lo ρ M) := execC_seq c modeF lo nl p16_24 p16_26 (endK cf16.res) noE (endK cf16.res) ρ M
 rw [h]
 unfold b16_2; simp only [(t16_4 c nl lo)] <;> (show _ = _; kernel_rfl)
def k16_6 (c : CallT) (nl lo : Nat) : Rg → MM → Option (AV × MM) := (execC c modeF lo nl p16_6 (k16_2 c nl lo) noE (endK cf16.res))
@[reducible] def b16_6 (c : CallT) (nl lo : Nat) (x1 x2 : AV) (M : MM) : Option (AV × MM) :=
 opt (binA .leq .none x1 (.i 0)) fun v2 =>
 opt (gdp v2 false (fldA 0 0 true x2)) fun v4 =>
 opt (gdp v2 false (fldA 1 1 false x2)) fun v5 =>
 opt (gdp v2 false (lenA v5)) fun v6 =>
 opt (gdp v2 false (binA .gtr .none v6 (.i 6))) fun v7 =>
 opt (pickA v2 (.bool true) v7) fun v8 =>
 isB v8 fun c9 => if c9 then (some ((.bool false), M))
 else (b16_2 c nl lo x1 x2 M)
theorem t16_6 (c : CallT) (nl lo : Nat) (ρ : Rg) (M : MM) : k16_6 c nl lo ρ M = b16_6 c nl lo (ρ 1) (ρ 2) M := by
 have h : ∀ (z0 : Rg → MM → Option (AV × MM)), (execC c modeF lo nl p16_6 z0 noE (endK cf16.res)) ρ M = (opt (binA .leq .none (ρ 1) (.i 0)) fun v2 =>
 opt (gdp v2 false (fldA 0 0 true (ρ 2))) fun v4 =>
 opt (gdp v2 false (fldA 1 1 false (ρ 2))) fun v5 =>
 opt (gdp v2 false (lenA v5)) fun v6 =>
 opt (gdp v2 false (binA .gtr .none v6 (.i 6))) fun v7 =>
 opt (pickA v2 (.bool true) v7) fun v8 =>
 isB v8 fun c9 => if c9 then (some ((.bool false), M))
 else (z0 (sF (sF (sF (sF (sF (sF (sF (sF ρ 7 (ρ 1)) 8 v2) 9 v2) 10 v4) 11 v5) 12 v6) 13 v7) 14 v8) M)) := by intros; kernel_rfl
 refine (h (k16_2 c nl lo)).trans ?_
 unfold b16_6; simp only [(t16_2 c nl lo)] <;> (show _ = _; kernel_rfl)
def k16_1 (c : CallT) (nl lo : Nat) : Rg → MM → Option (AV × MM) := (execC c modeF lo nl p16_28 (endK cf16.res) noE (endK cf16.res))
@[reducible] def b16_1 (c : CallT) (nl lo : Nat) (x1 x2 : AV) (M : MM) : Option (AV × MM) :=
 b16_6 c nl lo x1 x2 M
theorem t16_1 (c : CallT) (nl lo : Nat) (ρ : Rg) (M : MM) : k16_1 c nl lo ρ M = b16_1 c nl lo (ρ 1) (ρ 2) M := by
 have h : k16_1 c nl lo ρ M = (k16_6 c nl lo ρ M) := execC_seq c modeF lo nl p16_6 p16_27 (endK cf16.res) noE (endK cf16.res) ρ M
 rw [h]
 unfold b16_1; simp only [(t16_6 c nl lo)] <;> (show _ = _; kernel_rfl)
def k16_7 (c : CallT) (nl lo : Nat) : Rg → MM → Option (AV × MM) := (execC c modeF lo nl p16_1 (k16_1 c nl lo) noE (endK cf16.res))
@[reducible] def b16_7 (c : CallT) (nl lo : Nat) (x0 x1 : AV) (M : MM) : Option (AV × MM) :=
 opt (aggA x0) fun v1 =>
 upK M M.nx fun M2 =>
 b16_1 c nl lo x1 v1 M2
theorem t16_7 (c : CallT) (nl lo : Nat) (ρ : Rg) (M : MM) : k16_7 c nl lo ρ M = b16_7 c nl lo (ρ 0) (ρ 1) M := by
 have h : ∀ (z0 : Rg → MM → Option (AV × MM)), (execC c modeF lo nl p16_1 z0 noE (endK cf16.res)) ρ M = (opt (aggA (ρ 0)) fun v1 =>
 upK M M.nx fun M2 =>
 z0 (sF (sF ρ 2 v1) 4 (.bool false)) M2) := by intros; kernel_rfl
 refine (h (k16_1 c nl lo)).trans ?_
 unfold b16_7; simp only [(t16_1 c nl lo)] <;> (show _ = _; kernel_rfl)
def k16_0 (c : CallT) (nl lo : Nat) : Rg → MM → Option (AV × MM) := (execC c modeF lo nl p16_29 (endK cf16.res) noE (endK cf16.res))
@[reducible] def b16_0 (c : CallT) (nl lo : Nat) (x0 x1 : AV) (M : MM) : Option (AV × MM) :=
 b16_7 c nl lo x0 x1 M
theorem t16_0 (c : CallT) (nl lo : Nat) (ρ : Rg) (M : MM) : k16_0 c nl lo ρ M = b16_0 c nl lo (ρ 0) (ρ 1) M := by
 have h : k16_0 c nl lo ρ M = (k16_7 c nl lo ρ M) := execC_seq c modeF lo nl p16_1 p16_28 (endK cf16.res) noE (endK cf16.res) ρ M
 rw [h]
 unfold b16_0; simp only [(t16_7 c nl lo)] <;> (show _ = _; kernel_rfl)
def k16_8 (c : CallT) (nl lo : Nat) : Rg → MM → Option (AV × MM) := (execC c modeF lo nl p16_0 (k16_0 c nl lo) noE (endK cf16.res))
@[reducible] def b16_8 (c : CallT) (nl lo : Nat) (x0 x1 : AV) (M : MM) : Option (AV × MM) :=
 b16_0 c nl lo x0 x1 M
theorem t16_8 (c : CallT) (nl lo : Nat) (ρ : Rg) (M : MM) : k16_8 c nl lo ρ M = b16_8 c nl lo (ρ 0) (ρ 1) M := by
 have h : ∀ (z0 : Rg → MM → Option (AV × MM)), (execC c modeF lo nl p16_0 z0 noE (endK cf16.res)) ρ M = (z0 (sF (sF ρ 2 (.tup [])) 6 (.tup [])) M) := by intros; kernel_rfl
 refine (h (k16_0 c nl lo)).trans ?_
 unfold b16_8; simp only [(t16_0 c nl lo)] <;> (show _ = _; kernel_rfl)
def s16 (c : CallT) (nl lo : Nat) (a0 a1 : AV) (M : MM) : Option (AV × MM) :=
 b16_8 c nl lo a0 a1 M
theorem e16 (c : CallT) (nl lo : Nat) (a0 a1 : AV) (M : MM) : execC c modeF lo nl cf16.body (endK cf16.res) noE (endK cf16.res) (aF [a0, a1]) M = s16 c nl lo a0 a1 M := by
 have h : execC c modeF lo nl cf16.body (endK cf16.res) noE (endK cf16.res) (aF [a0, a1]) M = (k16_8 c nl lo (aF [a0, a1]) M) := execC_seq c modeF lo nl p16_0 p16_29 (endK cf16.res) noE (endK cf16.res) (aF [a0, a1]) M
 refine h.trans ?_
 unfold s16; simp only [(t16_8 c nl lo)] <;> (show _ = _; kernel_rfl)
theorem q16 {c : CallT} (hc : Lim G c) (lo : Nat) (a0 a1 : AV) (M : MM) : c 16 [a0, a1] lo M = s16 c G.nl lo a0 a1 M :=
 (hc.flow (cf := cf16) rfl w16 [a0, a1] lo M).trans (e16 c G.nl lo a0 a1 M)

/-! ### function 17 -/
theorem w17 : wfK cf17.nt cf17.body = true := by kernel_rfl
def s17 (c : CallT) (nl lo : Nat) (a0 a1 : AV) (M : MM) : Option (AV × MM) :=
 bnd (c 43 [a0] lo M) fun v3 M4 =>
 opt (unA .not v3) fun v5 =>
 isB v5 fun c6 => if c6 then (some ((.i 0), M4))
 else (opt (nilcA a0) fun v9 =>
 opt (fadA 1 v9) fun v10 =>
 opt (ld1A (lk M4) v10) fun v11 =>
 opt (binA .add .none v11 (.i 1)) fun v12 =>
 opt (nilcA a0) fun v13 =>
 opt (fadA 1 v13) fun v14 =>
 bnd (istep c modeF false lo (.top M4.nx) M4.nx (.st 1 (.k v14) (.k v12)) [] M4) fun v15 M16 =>
 bumpK M16 14 fun M17 =>
 opt (nilcA a0) fun v19 =>
 opt (fadA 0 v19) fun v20 =>
 opt (ld1A (look M17.mem (.mk M16.nx 14 7 true)) v20) fun v21 =>
 opt (nilcA a0) fun v23 =>
 opt (fadA 1 v23) fun v24 =>
 opt (ld1A (look M17.mem (.mk M16.nx 14 112 true)) v24) fun v25 =>
 opt (binA .sub .none v25 (.i 1)) fun v26 =>
 opt (ixsA 1 v21 v26) fun v27 =>
 opt (ld1A (look M17.mem (.mk M16.nx 14 1023 true)) v27) fun v28 =>
 opt (puA c (look M17.mem (.mk M16.nx 14 4095 true)) 44 [v28, a1]) fun v30 =>
 some (v30, M17))
theorem e17 (c : CallT) (nl lo : Nat) (a0 a1 : AV) (M : MM) : execC c modeF lo nl cf17.body (endK cf17.res) noE (endK cf17.res) (aF [a0, a1]) M = s17 c nl lo a0 a1 M := by
 kernel_rfl
theorem q17 {c : CallT} (hc : Lim G c) (lo : Nat) (a0 a1 : AV) (M : MM) : c 17 [a0, a1] lo M = s17 c G.nl lo a0 a1 M :=
 (hc.flow (cf := cf17) rfl w17 [a0, a1] lo M).trans (e17 c G.nl lo a0 a1 M)

/-! ### function 20 -/
theorem w20 : wfK cf20.nt cf20.body = true := by kernel_rfl
def s20 (c : CallT) (nl lo : Nat) (a0 a1 : AV) (M : MM) : Option (AV × MM) :=
 opt (aggA a0) fun v3 =>
 upK M M.nx fun M4 =>
 opt (aggA a1) fun v5 =>
 upK M4 M4.nx fun M6 =>
 opt (fldA 0 2 true v3) fun v8 =>
 opt (fldA 0 2 true v5) fun v9 =>
 opt (puA c (lk M6) 51 [v8, v9]) fun v10 =>
 some (v10, M6)
theorem e20 (c : CallT) (nl lo : Nat) (a0 a1 : AV) (M : MM) : execC c modeF lo nl cf20.body (endK cf20.res) noE (endK cf20.res) (aF [a0, a1]) M = s20 c nl lo a0 a1 M := by
 kernel_rfl
theorem q20 {c : CallT} (hc : Lim G c) (lo : Nat) (a0 a1 : AV) (M : MM) : c 20 [a0, a1] lo M = s20 c G.nl lo a0 a1 M :=
 (hc.flow (cf := cf20) rfl w20 [a0, a1] lo M).trans (e20 c G.nl lo a0 a1 M)

/-! ### function 21 -/
theorem w21 : wfK cf21.nt cf21.body = true := by kernel_rfl
def s21 (c : CallT) (nl lo : Nat) (a0 : AV) (M : MM) : Option (AV × MM) :=
 opt (aggA a0) fun v2 =>
 upK M M.nx fun M3 =>
 opt (fldA 0 2 true v2) fun v5 =>
 bnd (c 52 [v5, (.d (.sl [] 0))] lo M3) fun v6 M7 =>
 some (v6, M7)
theorem e21 (c : CallT) (nl lo : Nat) (a0 : AV) (M : MM) : execC c modeF lo nl cf21.body (endK cf21.res) noE (endK cf21.res) (aF [a0]) M = s21 c nl lo a0 M := by
 kernel_rfl
theorem q21 {c : CallT} (hc : Lim G c) (lo : Nat) (a0 : AV) (M : MM) : c 21 [a0] lo M = s21 c G.nl lo a0 M :=
 (hc.flow (cf := cf21) rfl w21 [a0] lo M).trans (e21 c G.nl lo a0 M)

/-! ### function 24 -/
theorem w24 : wfK cf24.nt cf24.body = true := by kernel_rfl
def k24_3 (c : CallT) (nl lo : Nat) : Rg → MM → Option (AV × MM) := (execC c modeF lo nl p24_18 (endK cf24.res) noE (endK cf24.res))
@[reducible] def b24_3 (c : CallT) (nl lo : Nat) (x3 : AV) (M : MM) : Option (AV × MM) :=
 opt (binA .add .none (.i 1) x3) fun v2 =>
 some (v2, M)
theorem t24_3 (c : CallT) (nl lo : Nat) (ρ : Rg) (M : MM) : k24_3 c nl lo ρ M = b24_3 c nl lo (ρ 3) M := by
 kernel_rfl
def k24_5 (c : CallT) (nl lo : Nat) (n : Nat) : Rg → MM → Option (AV × MM) := iterC (fun k ρ M => execC c modeF lo nl p24_13 k (fun i ρ M => if i = 0 then (k24_3 c nl lo) ρ M else noE i ρ M) (endK cf24.res) ρ M) n
def b24_5 (c : CallT) (nl lo : Nat) : Nat → AV → AV → AV → AV → MM → Option (AV × MM)
 | 0, _, _, _, _, _ => none
 | n + 1, x3, x7, x8, x9, M =>
 opt (binA .lss .none x9 x8) fun v8 =>
 isB v8 fun c9 => if c9 then (opt (ixsA 2 x7 x9) fun v10 =>
 opt (ldnA (lk M) 2 v10) fun v11 =>
 upK M M.nx fun M13 =>
 opt (setcA 0 2 (.agg [.str ⟨⟨[]⟩⟩, .d (.sl [] 0)]) v11) fun v14 =>
 opt (fldA 0 2 true v14) fun v16 =>
 opt (puA c (lk M13) 24 [v16]) fun v17 =>
 opt (mmaxA true x3 v17) fun v18 =>
 opt (binA .add .none x9 (.i 1)) fun v20 =>
 (b24_5 c nl lo n) v18 x7 x8 v20 M13)
 else (b24_3 c nl lo x3 M)
theorem t24_5 (c : CallT) (nl lo : Nat) : ∀ (n : Nat) (ρ : Rg) (M : MM), k24_5 c nl lo n ρ M = b24_5 c nl lo n (ρ 3) (ρ 7) (ρ 8) (ρ 9) M
 | 0, ρ, M => rfl
 | n + 1, ρ, M => by
  have h : ∀ (zb z0 : Rg → MM → Option (AV × MM)), execC c modeF lo nl p24_13 zb (fun i ρ M => if i = 0 then z0 ρ M else noE i ρ M) (endK cf24.res) ρ M = (opt (binA .lss .none (ρ 9) (ρ 8)) fun v8 =>
  isB v8 fun c9 => if c9 then (opt (ixsA 2 (ρ 7) (ρ 9)) fun v10 =>
  opt (ldnA (lk M) 2 v10) fun v11 =>
  upK M M.nx fun M13 =>
  opt (setcA 0 2 (.agg [.str ⟨⟨[]⟩⟩, .d (.sl [] 0)]) v11) fun v14 =>
  opt (fldA 0 2 true v14) fun v16 =>
  opt (puA c (lk M13) 24 [v16]) fun v17 =>
  opt (mmaxA true (ρ 3) v17) fun v18 =>
  opt (binA .add .none (ρ 9) (.i 1)) fun v20 =>
  zb (sF (sF (sF (sF (sF (sF (sF (sF (sF (sF (sF (sF ρ 10 v8) 11 v10) 12 v11) 5 (.agg [.str ⟨⟨[]⟩⟩, .d (.sl [] 0)])) 5 v14) 13 (ρ 3)) 14 v16) 15 v17) 16 v18) 3 v18) 17 v20) 9 v20) M13)
  else (z0 (sF ρ 10 v8) M)) := by intros; kernel_rfl
  refine (h (k24_5 c nl lo n) (k24_3 c nl lo)).trans ?_
  unfold b24_5; simp only [(t24_3 c nl lo), (t24_5 c nl lo n)] <;> (show _ = _; kernel_rfl)
def k24_4 (c : CallT) (nl lo : Nat) : Rg → MM → Option (AV × MM) := (execC c modeF lo nl p24_16 (k24_3 c nl lo) noE (endK cf24.res))
@[reducible] def b24_4 (c : CallT) (nl lo : Nat) (x1 x3 : AV) (M : MM) : Option (AV × MM) :=
 opt (fldA 0 0 true x1) fun v4 =>
 opt (fldA 1 1 false x1) fun v5 =>
 opt (lenA v5) fun v6 =>
 b24_5 c nl lo nl x3 v5 v6 (.i 0) M
theorem t24_4 (c : CallT) (nl lo : Nat) (ρ : Rg) (M : MM) : k24_4 c nl lo ρ M = b24_4 c nl lo (ρ 1) (ρ 3) M := by
 have h : k24_4 c nl lo ρ M = (opt (fldA 0 0 true (ρ 1)) fun v4 =>
 opt (fldA 1 1 false (ρ 1)) fun v5 =>
 opt (lenA v5) fun v6 =>
 k24_5 c nl lo nl (sF (sF (sF (sF ρ 6 v4) 7 v5) 8 v6) 9 (.i 0)) M) := by kernel_rfl
 rw [h]
 unfold b24_4; simp only [(t24_5 c nl lo nl)] <;> (show _ = _; kernel_rfl)
def k24_2 (c : CallT) (nl lo : Nat) : Rg → MM → Option (AV × MM) := (execC c modeF lo nl p24_19 (endK cf24.res) noE (endK cf24.res))
@[reducible] def b24_2 (c : CallT) (nl lo : Nat) (x1 x3 : AV) (M : MM) : Option (AV × MM) :=
 b24_4 c nl lo x1 x3 M
theorem t24_2 (c : CallT) (nl lo : Nat) (ρ : Rg) (M : MM) : k24_2 c nl lo ρ M = b24_2 c nl lo (ρ 1) (ρ 3) M := by
 have h : k24_2 c nl lo ρ M = (k24_4 c nl lo ρ M) := execC_seq c modeF lo nl p24_16 p24_18 (endK cf24.res) noE (endK cf24.res) ρ M
 rw [h]
 unfold b24_2; simp only [(t24_4 c nl lo)] <;> (show _ = _; kernel_rfl)
def k24_6 (c : CallT) (nl lo : Nat) : Rg → MM → Option (AV × MM) := (execC c modeF lo nl p24_2 (k24_2 c nl lo) noE (endK cf24.res))
@[reducible] def b24_6 (c : CallT) (nl lo : Nat) (x1 : AV) (M : MM) : Option (AV × MM) :=
 b24_2 c nl lo x1 (.i 0) M
theorem t24_6 (c : CallT) (nl lo : Nat) (ρ : Rg) (M : MM) : k24_6 c nl lo ρ M = b24_6 c nl lo (ρ 1) M := by
 have h : ∀ (z0 : Rg → MM → Option (AV × MM)), (execC c modeF lo nl p24_2 z0 noE (endK cf24.res)) ρ M = (z0 (sF ρ 3 (.i 0)) M) := by intros; kernel_rfl
 refine (h (k24_2 c nl lo)).trans ?_
 unfold b24_6; simp only [(t24_2 c nl lo)] <;> (show _ = _; kernel_rfl)
def k24_1 (c : CallT) (nl lo : Nat) : Rg → MM → Option (AV × MM) := (execC c modeF lo nl p24_20 (endK cf24.res) noE (endK cf24.res))
@[reducible] def b24_1 (c : CallT) (nl lo : Nat) (x1 : AV) (M : MM) : Option (AV × MM) :=
 b24_6 c nl lo x1 M
theorem t24_1 (c : CallT) (nl lo : Nat) (ρ : Rg) (M : MM) : k24_1 c nl lo ρ M = b24_1 c nl lo (ρ 1) M := by
 have h : k24_1 c nl lo ρ M = (k24_6 c nl lo ρ M) := execC_seq c modeF lo nl p24_2 p24_19 (endK cf24.res) noE (endK cf24.res) ρ M
 rw [h]
 unfold b24_1; simp only [(t24_6 c nl lo)] <;> (show _ = _; kernel_rfl)
def k24_7 (c : CallT) (nl lo : Nat) : Rg → MM → Option (AV × MM) := (execC c modeF lo nl p24_1 (k24_1 c nl lo) noE (endK cf24.res))
@[reducible] def b24_7 (c : CallT) (nl lo : Nat) (x0 : AV) (M : MM) : Option (AV × MM) :=
 opt (aggA x0) fun v1 =>
 upK M M.nx fun M2 =>
 b24_1 c nl lo v1 M2
theorem t24_7 (c : CallT) (nl lo : Nat) (ρ : Rg) (M : MM) : k24_7 c nl lo ρ M = b24_7 c nl lo (ρ 0) M := by
 have h : ∀ (z0 : Rg → MM → Option (AV × MM)), (execC c modeF lo nl p24_1 z0 noE (endK cf24.res)) ρ M = (opt (aggA (ρ 0)) fun v1 =>
 upK M M.nx fun M2 =>
 z0 (sF (sF ρ 1 v1) 2 (.i 0)) M2) := by intros; kernel_rfl
 refine (h (k24_1 c nl lo)).trans ?_
 unfold b24_7; simp only [(t24_1 c nl lo)] <;> (show _ = _; kernel_rfl)
def k24_0 (c : CallT) (nl lo : Nat) : Rg → MM → Option (AV × MM) := (execC c modeF lo nl p24_21 (endK cf24.res) noE (endK cf24.res))
@[reducible] def b24_0 (c : CallT) (nl lo : Nat) (x0 : AV) (M : MM) : Option (AV × MM) :=
 b24_7 c nl lo x0 M
theorem t24_0 (c : CallT) (nl lo : Nat) (ρ : Rg) (M : MM) : k24_0 c nl lo ρ M = b24_0 c nl lo (ρ 0) M := by
 have h : k24_0 c nl lo ρ M = (k24_7 c nl lo ρ M) := execC_seq c modeF lo nl p24_1 p24_20 (endK cf24.res) noE (endK cf24.res) ρ M
 rw [h]
 unfold b24_0; simp only [(t24_7 c nl lo)] <;> (show _ = _; kernel_rfl)
def k24_8 (c : CallT) (nl lo : Nat) : Rg → MM → Option (AV × MM) := (execC c modeF lo nl p24_0 (k24_0 c nl lo) noE (endK cf24.res))
@[reducible] def b24_8 (c : CallT) (nl lo : Nat) (x0 : AV) (M : MM) : Option (AV × MM) :=
 b24_0 c nl lo x0 M
theorem t24_8 (c : CallT) (nl lo : Nat) (ρ : Rg) (M : MM) : k24_8 c nl lo ρ M = b24_8 c nl lo (ρ 0) M := by
 have h : ∀ (z0 : Rg → MM → Option (AV × MM)), (execC c modeF lo nl p24_0 z0 noE (endK cf24.res)) ρ M = (z0 (sF (sF ρ 1 (.tup [])) 5 (.tup [])) M) := by intros; kernel_rfl
 refine (h (k24_0 c nl lo)).trans ?_
 unfold b24_8; simp only [(t24_0 c nl lo)] <;> (show _ = _; kernel_rfl)
def s24 (c : CallT) (nl lo : Nat) (a0 : AV) (M : MM) : Option (AV × MM) :=
 b24_8 c nl lo a0 M
theorem e24 (c : CallT) (nl lo : Nat) (a0 : AV) (M : MM) : execC c modeF lo nl cf24.body (endK cf24.res) noE (endK cf24.res) (aF [a0]) M = s24 c nl lo a0 M := by
 have h : execC c modeF lo nl cf24.body (endK cf24.res) noE (endK cf24.res) (aF [a0]) M = (k24_8 c nl lo (aF [a0]) M) := execC_seq c modeF lo nl p24_0 p24_21 (endK cf24.res) noE (endK cf24.res) (aF [a0]) M
 refine h.trans ?_
 unfold s24; simp only [(t24_8 c nl lo)] <;> (show _ = _; kernel_rfl)
theorem q24 {c : CallT} (hc : Lim G c) (lo : Nat) (a0 : AV) (M : MM) : c 24 [a0] lo M = s24 c G.nl lo a0 M :=
 (hc.flow (cf := cf24) rfl w24 [a0] lo M).trans (e24 c G.nl lo a0 M)

/-! ### function 25 -/
theorem w25 : wfK cf25.nt cf25.body = true := by kernel_rfl
def k25_3 (c : CallT) (nl lo : Nat) : Rg → MM → Option (AV × MM) := (execC c modeF lo nl p25_18 (endK cf25.res) noE (endK cf25.res))
@[reducible] def b25_3 (c : CallT) (nl lo : Nat) (x3 : AV) (M : MM) : Option (AV × MM) :=
 some (x3, M)
theorem t25_3 (c : CallT) (nl lo : Nat) (ρ : Rg) (M : MM) : k25_3 c nl lo ρ M = b25_3 c nl lo (ρ 3) M := by
 kernel_rfl
def k25_5 (c : CallT) (nl lo : Nat) (n : Nat) : Rg → MM → Option (AV × MM) := iterC (fun k ρ M => execC c modeF lo nl p25_13 k (fun i ρ M => if i = 0 then (k25_3 c nl lo) ρ M else noE i ρ M) (endK cf25.res) ρ M) n
def b25_5 (c : CallT) (nl lo : Nat) : Nat → AV → AV → AV → AV → MM → Option (AV × MM)
 | 0, _, _, _, _, _ => none
 | n + 1, x3, x7, x8, x9, M =>
 opt (binA .lss .none x9 x8) fun v7 =>
 isB v7 fun c8 => if c8 then (opt (ixsA 2 x7 x9) fun v9 =>
 opt (ldnA (lk M) 2 v9) fun v10 =>
 upK M M.nx fun M12 =>
 opt (setcA 0 2 (.agg [.str ⟨⟨[]⟩⟩, .d (.sl [] 0)]) v10) fun v13 =>
 opt (fldA 0 2 true v13) fun v15 =>
 opt (puA c (lk M12) 25 [v15]) fun v16 =>
 opt (binA .add .none x3 v16) fun v17 =>
 opt (binA .add .none x9 (.i 1)) fun v19 =>
 (b25_5 c nl lo n) v17 x7 x8 v19 M12)
 else (b25_3 c nl lo x3 M)
theorem t25_5 (c : CallT) (nl lo : Nat) : ∀ (n : Nat) (ρ : Rg) (M : MM), k25_5 c nl lo n ρ M = b25_5 c nl lo n (ρ 3) (ρ 7) (ρ 8) (ρ 9) M
 | 0, ρ, M => rfl
 | n + 1, ρ, M => by
  have h : ∀ (zb z0 : Rg → MM → Option (AV × MM)), execC c modeF lo nl p25_13 zb (fun i ρ M => if i = 0 then z0 ρ M else noE i ρ M) (endK cf25.res) ρ M = (opt (binA .lss .none (ρ 9) (ρ 8)) fun v7 =>
  isB v7 fun c8 => if c8 then (opt (ixsA 2 (ρ 7) (ρ 9)) fun v9 =>
  opt (ldnA (lk M) 2 v9) fun v10 =>
  upK M M.nx fun M12 =>
  opt (setcA 0 2 (.agg [.str ⟨⟨[]⟩⟩, .d (.sl [] 0)]) v10) fun v13 =>
  opt (fldA 0 2 true v13) fun v15 =>
  opt (puA c (lk M12) 25 [v15]) fun v16 =>
  opt (binA .add .none (ρ 3) v16) fun v17 =>
  opt (binA .add .none (ρ 9) (.i 1)) fun v19 =>
  zb (sF (sF (sF (sF (sF (sF (sF (sF (sF (sF (sF (sF ρ 10 v7) 11 v9) 12 v10) 5 (.agg [.str ⟨⟨[]⟩⟩, .d (.sl [] 0)])) 5 v13) 13 (ρ 3)) 14 v15) 15 v16) 16 v17) 3 v17) 17 v19) 9 v19) M12)
  else (z0 (sF ρ 10 v7) M)) := by intros; kernel_rfl
  refine (h (k25_5 c nl lo n) (k25_3 c nl lo)).trans ?_
  unfold b25_5; simp only [(t25_3 c nl lo), (t25_5 c nl lo n)] <;> (show _ = _; kernel_rfl)
def k25_4 (c : CallT) (nl lo : Nat) : Rg → MM → Option (AV × MM) := (execC c modeF lo nl p25_16 (k25_3 c nl lo) noE (endK cf25.res))
@[reducible] def b25_4 (c : CallT) (nl lo : Nat) (x1 x3 : AV) (M : MM) : Option (AV × MM) :=
 opt (fldA 0 0 true x1) fun v3 =>
 opt (fldA 1 1 false x1) fun v4 =>
 opt (lenA v4) fun v5 =>
 b25_5 c nl lo nl x3 v4 v5 (.i 0) M
theorem t25_4 (c : CallT) (nl lo : Nat) (ρ : Rg) (M : MM) : k25_4 c nl lo ρ M = b25_4 c nl lo (ρ 1) (ρ 3) M := by
 have h : k25_4 c nl lo ρ M = (opt (fldA 0 0 true (ρ 1)) fun v3 =>
 opt (fldA 1 1 false (ρ 1)) fun v4 =>
 opt (lenA v4) fun v5 =>
 k25_5 c nl lo nl (sF (sF (sF (sF ρ 6 v3) 7 v4) 8 v5) 9 (.i 0)) M) := by kernel_rfl
 rw [h]
 unfold b25_4; simp only [(t25_5 c nl lo nl)] <;> (show _ = _; kernel_rfl)
def k25_2 (c : CallT) (nl lo : Nat) : Rg → MM → Option (AV × MM) := (execC c modeF lo nl p25_19 (endK cf25.res) noE (endK cf25.res))
@[reducible] def b25_2 (c : CallT) (nl lo : Nat) (x1 x3 : AV) (M : MM) : Option (AV × MM) :=
 b25_4 c nl lo x1 x3 M
theorem t25_2 (c : CallT) (nl lo : Nat) (ρ : Rg) (M : MM) : k25_2 c nl lo ρ M = b25_2 c nl lo (ρ 1) (ρ 3) M := by
 have h : k25_2 c nl lo ρ M = (k25_4 c nl lo ρ M) := execC_seq c modeF lo nl p25_16 p25_18 (endK cf25.res) noE (endK cf25.res) ρ M
 rw [h]
 unfold b25_2; simp only [(t25_4 c nl lo)] <;> (show _ = _; kernel_rfl)
def k25_6 (c : CallT) (nl lo : Nat) : Rg → MM → Option (AV × MM) := (execC c modeF lo nl p25_2 (k25_2 c nl lo) noE (endK cf25.res))
@[reducible] def b25_6 (c : CallT) (nl lo : Nat) (x1 : AV) (M : MM) : Option (AV × MM) :=
 b25_2 c nl lo x1 (.i 1) M
theorem t25_6 (c : CallT) (nl lo : Nat) (ρ : Rg) (M : MM) : k25_6 c nl lo ρ M = b25_6 c nl lo (ρ 1) M := by
 have h : ∀ (z0 : Rg → MM → Option (AV × MM)), (execC c modeF lo nl p25_2 z0 noE (endK cf25.res)) ρ M = (z0 (sF ρ 3 (.i 1)) M) := by intros; kernel_rfl
 refine (h (k25_2 c nl lo)).trans ?_
 unfold b25_6; simp only [(t25_2 c nl lo)] <;> (show _ = _; kernel_rfl)
def k25_1 (c : CallT) (nl lo : Nat) : Rg → MM → Option (AV × MM) := (execC c modeF lo nl p25_20 (endK cf25.res) noE (endK cf25.res))
@[reducible] def b25_1 (c : CallT) (nl lo : Nat) (x1 : AV) (M : MM) : Option (AV × MM) :=
 b25_6 c nl lo x1 M
theorem t25_1 (c : CallT) (nl lo : Nat) (ρ : Rg) (M : MM) : k25_1 c nl lo ρ M = b25_1 c nl lo (ρ 1) M := by
 have h : k25_1 c nl lo ρ M = (k25_6 c nl lo ρ M) := execC_seq c modeF lo nl p25_2 p25_19 (endK cf25.res) noE (endK cf25.res) ρ M
 rw [h]
 unfold b25_1; simp only [(t25_6 c nl lo)] <;> (show _ = _; kernel_rfl)
def k25_7 (c : CallT) (nl lo : Nat) : Rg → MM → Option (AV × MM) := (execC c modeF lo nl p25_1 (k25_1 c nl lo) noE (endK cf25.res))
@[reducible] def b25_7 (c : CallT) (nl lo : Nat) (x0 : AV) (M : MM) : Option (AV × MM) :=
 opt (aggA x0) fun v1 =>
 upK M M.nx fun M2 =>
 b25_1 c nl lo v1 M2
theorem t25_7 (c : CallT) (nl lo : Nat) (ρ : Rg) (M : MM) : k25_7 c nl lo ρ M = b25_7 c nl lo (ρ 0) M := by
 have h : ∀ (z0 : Rg → MM → Option (AV × MM)), (execC c modeF lo nl p25_1 z0 noE (endK cf25.res)) ρ M = (opt (aggA (ρ 0)) fun v1 =>
 upK M M.nx fun M2 =>
 z0 (sF (sF ρ 1 v1) 2 (.i 0)) M2) := by intros; kernel_rfl
 refine (h (k25_1 c nl lo)).trans ?_
 unfold b25_7; simp only [(t25_1 c nl lo)] <;> (show _ = _; kernel_rfl)
def k25_0 (c : CallT) (nl lo : Nat) : Rg → MM → Option (AV × MM) := (execC c modeF lo nl p25_21 (endK cf25.res) noE (endK cf25.res))
@[reducible] def b25_0 (c : CallT) (nl lo : Nat) (x0 : AV) (M : MM) : Option (AV × MM) :=
 b25_7 c nl lo x0 M
theorem t25_0 (c : CallT) (nl lo : Nat) (ρ : Rg) (M : MM) : k25_0 c nl lo ρ M = b25_0 c nl lo (ρ 0) M := by
 have h : k25_0 c nl lo ρ M = (k25_7 c nl lo ρ M) := execC_seq c modeF lo nl p25_1 p25_20 (endK cf25.res) noE (endK cf25.res) ρ M
 rw [h]
 unfold b25_0; simp only [(t25_7 c nl lo)] <;> (show _ = _; kernel_rfl)
def k25_8 (c : CallT) (nl lo : Nat) : Rg → MM → Option (AV × MM) := (execC c modeF lo nl p25_0 (k25_0 c nl lo) noE (endK cf25.res))
@[reducible] def b25_8 (c : CallT) (nl lo : Nat) (x0 : AV) (M : MM) : Option (AV × MM) :=
 b25_0 c nl lo x0 M
theorem t25_8 (c : CallT) (nl lo : Nat) (ρ : Rg) (M : MM) : k25_8 c nl lo ρ M = b25_8 c nl lo (ρ 0) M := by
 have h : ∀ (z0 : Rg → MM → Option (AV × MM)), (execC c modeF lo nl p25_0 z0 noE (endK cf25.res)) ρ M = (z0 (sF (sF ρ 1 (.tup [])) 5 (.tup [])) M) := by intros; kernel_rfl
 refine (h (k25_0 c nl lo)).trans ?_
 unfold b25_8; simp only [(t25_0 c nl lo)] <;> (show _ = _; kernel_rfl)
def s25 (c : CallT) (nl lo : Nat) (a0 : AV) (M : MM) : Option (AV × MM) :=
 b25_8 c nl lo a0 M
theorem e25 (c : CallT) (nl lo : Nat) (a0 : AV) (M : MM) : execC c modeF lo nl cf25.body (endK cf25.res) noE (endK cf25.res) (aF [a0]) M = s25 c nl lo a0 M := by
 have h : execC c modeF lo nl cf25.body (endK cf25.res) noE (endK cf25.res) (aF [a0]) M = (k25_8 c nl lo (aF [a0]) M) := execC_seq c modeF lo nl p25_0 p25_21 (endK cf25.res) noE (endK cf25.res) (aF [a0]) M
 refine h.trans ?_
 unfold s25; simp only [(t25_8 c nl lo)] <;> (show _ = _; kernel_rfl)
theorem q25 {c : CallT} (hc : Lim G c) (lo : Nat) (a0 : AV) (M : MM) : c 25 [a0] lo M = s25 c G.nl lo a0 M :=
 (hc.flow (cf := cf25) rfl w25 [a0] lo M).trans (e25 c G.nl lo a0 M)

/-! ### function 26 -/
theorem w26 : wfK cf26.nt cf26.body = true := by kernel_rfl
def s26 (c : CallT) (nl lo : Nat) (a0 : AV) (M : MM) : Option (AV × MM) :=
 opt (aggA a0) fun v2 =>
 upK M M.nx fun M3 =>
 opt (fldA 0 2 true v2) fun v5 =>
 bnd (c 57 [(.d (.sl [] 0)), v5] lo M3) fun v6 M7 =>
 some (v6, M7)
theorem e26 (c : CallT) (nl lo : Nat) (a0 : AV) (M : MM) : execC c modeF lo nl cf26.body (endK cf26.res) noE (endK cf26.res) (aF [a0]) M = s26 c nl lo a0 M := by
 kernel_rfl
theorem q26 {c : CallT} (hc : Lim G c) (lo : Nat) (a0 : AV) (M : MM) : c 26 [a0] lo M = s26 c G.nl lo a0 M :=
 (hc.flow (cf := cf26) rfl w26 [a0] lo M).trans (e26 c G.nl lo a0 M)

/-! ### function 27 -/
theorem w27 : wfK cf27.nt cf27.body = true := by kernel_rfl
def s27 (c : CallT) (nl lo : Nat) (a0 : AV) (M : MM) : Option (AV × MM) :=
 opt (aggA a0) fun v2 =>
 upK M M.nx fun M3 =>
 opt (fldA 0 0 true v2) fun v5 =>
 opt (fldA 0 1 false v2) fun v6 =>
 opt (puA c (lk M3) 58 [v6]) fun v7 =>
 opt (unA .not v7) fun v8 =>
 opt (gdp v8 true (fldA 0 0 true v2)) fun v10 =>
 opt (gdp v8 true (fldA 1 1 false v2)) fun v11 =>
 bnd (gd v8 true M3 (c 59 [v11, (.fn 60 [] [])] lo M3)) fun v12 M13 =>
 opt (gdp v8 true (unA .not v12)) fun v14 =>
 opt (pickA v8 v14 (.bool false)) fun v15 =>
 some (v15, M13)
theorem e27 (c : CallT) (nl lo : Nat) (a0 : AV) (M : MM) : execC c modeF lo nl cf27.body (endK cf27.res) noE (endK cf27.res) (aF [a0]) M = s27 c nl lo a0 M := by
 kernel_rfl
theorem q27 {c : CallT} (hc : Lim G c) (lo : Nat) (a0 : AV) (M : MM) : c 27 [a0] lo M = s27 c G.nl lo a0 M :=
 (hc.flow (cf := cf27) rfl w27 [a0] lo M).trans (e27 c G.nl lo a0 M)

/-! ### function 28 -/
theorem w28 : wfK cf28.nt cf28.body = true := by kernel_rfl
def k28_3 (c : CallT) (nl lo : Nat) : Rg → MM → Option (AV × MM) := (execC c modeF lo nl p28_16 (endK cf28.res) noE (endK cf28.res))
@[reducible] def b28_3 (c : CallT) (nl lo : Nat) (x1 x3 : AV) (M : MM) : Option (AV × MM) :=
 opt (fldA 0 0 true x1) fun v1 =>
 opt (fldA 0 1 false x1) fun v2 =>
 opt (puA c (lk M) 35 [v2]) fun v3 =>
 opt (extA 0 v3) fun v5 =>
 opt (extA 1 v3) fun v6 =>
 opt (extA 2 v3) fun v7 =>
 opt (unA .not v7) fun v12 =>
 opt (gdp v12 true (fldA 0 0 true x1)) fun v14 =>
 opt (gdp v12 true (fldA 0 1 false x1)) fun v15 =>
 opt (gdp v12 true (binA .eql .none v15 (.str ⟨⟨[]⟩⟩))) fun v16 =>
 opt (gdp v12 true (some v16)) fun v17 =>
 opt (gdp v17 false (fldA 0 0 true x1)) fun v18 =>
 opt (gdp v17 false (fldA 0 1 false x1)) fun v19 =>
 opt (gdp v17 false (puA c (lk M) 61 [v19, (.str ⟨⟨[46]⟩⟩)])) fun v20 =>
 opt (gdp v12 true (pickA v17 (.bool true) v20)) fun v21 =>
 opt (gdp v12 true (some v21)) fun v22 =>
 opt (gdp v22 false (fldA 0 0 true x1)) fun v23 =>
 opt (gdp v22 false (fldA 1 1 false x1)) fun v24 =>
 opt (gdp v22 false (lenA v24)) fun v25 =>
 opt (gdp v22 false (some x3)) fun v26 =>
 opt (gdp v22 false (binA .neq .none v25 v26)) fun v27 =>
 opt (gdp v12 true (pickA v22 (.bool true) v27)) fun v28 =>
 opt (pickA v12 v28 (.bool false)) fun v29 =>
 isB v29 fun c30 => if c30 then (some ((.bool false), M))
 else (opt (fldA 0 0 true x1) fun v32 =>
 opt (fldA 1 1 false x1) fun v33 =>
 bnd (c 59 [v33, (.fn 62 [] [])] lo M) fun v34 M35 =>
 opt (unA .not v34) fun v36 =>
 some (v36, M35))
theorem t28_3 (c : CallT) (nl lo : Nat) (ρ : Rg) (M : MM) : k28_3 c nl lo ρ M = b28_3 c nl lo (ρ 1) (ρ 3) M := by
 kernel_rfl
def k28_4 (c : CallT) (nl lo : Nat) : Rg → MM → Option (AV × MM) := (execC c modeF lo nl p28_6 (k28_3 c nl lo) noE (endK cf28.res))
@[reducible] def b28_4 (c : CallT) (nl lo : Nat) (x1 x3 : AV) (M : MM) : Option (AV × MM) :=
 opt (fldA 0 0 true x1) fun v38 =>
 opt (fldA 0 1 false x1) fun v39 =>
 opt (binA .eql .none v39 (.str ⟨⟨[65, 114, 114, 97, 121]⟩⟩)) fun v40 =>
 isB v40 fun c41 => if c41 then (b28_3 c nl lo x1 (.i 1) M)
 else (b28_3 c nl lo x1 x3 M)
theorem t28_4 (c : CallT) (nl lo : Nat) (ρ : Rg) (M : MM) : k28_4 c nl lo ρ M = b28_4 c nl lo (ρ 1) (ρ 3) M := by
 have h : ∀ (z0 : Rg → MM → Option (AV × MM)), (execC c modeF lo nl p28_6 z0 noE (endK cf28.res)) ρ M = (opt (fldA 0 0 true (ρ 1)) fun v38 =>
 opt (fldA 0 1 false (ρ 1)) fun v39 =>
 opt (binA .eql .none v39 (.str ⟨⟨[65, 114, 114, 97, 121]⟩⟩)) fun v40 =>
 isB v40 fun c41 => if c41 then (z0 (sF (sF (sF (sF ρ 7 v38) 8 v39) 9 v40) 3 (.i 1)) M)
 else (z0 (sF (sF (sF ρ 7 v38) 8 v39) 9 v40) M)) := by intros; kernel_rfl
 refine (h (k28_3 c nl lo)).trans ?_
 unfold b28_4; simp only [(t28_3 c nl lo)] <;> (show _ = _; kernel_rfl)
def k28_2 (c : CallT) (nl lo : Nat) : Rg → MM → Option (AV × MM) := (execC c modeF lo nl p28_17 (endK cf28.res) noE (endK cf28.res))
@[reducible] def b28_2 (c : CallT) (nl lo : Nat) (x1 x3 : AV) (M : MM) : Option (AV × MM) :=
 b28_4 c nl lo x1 x3 M
theorem t28_2 (c : CallT) (nl lo : Nat) (ρ : Rg) (M : MM) : k28_2 c nl lo ρ M = b28_2 c nl lo (ρ 1) (ρ 3) M := by
 have h : k28_2 c nl lo ρ M = (k28_4 c nl lo ρ M) := execC_seq c modeF lo nl p28_6 p28_16 (endK cf28.res) noE (endK cf28.res) ρ M
 rw [h]
 unfold b28_2; simp only [(t28_4 c nl lo)] <;> (show _ = _; kernel_rfl)
def k28_5 (c : CallT) (nl lo : Nat) : Rg → MM → Option (AV × MM) := (execC c modeF lo nl p28_2 (k28_2 c nl lo) noE (endK cf28.res))
@[reducible] def b28_5 (c : CallT) (nl lo : Nat) (x1 : AV) (M : MM) : Option (AV × MM) :=
 b28_2 c nl lo x1 (.i 0) M
theorem t28_5 (c : CallT) (nl lo : Nat) (ρ : Rg) (M : MM) : k28_5 c nl lo ρ M = b28_5 c nl lo (ρ 1) M := by
 have h : ∀ (z0 : Rg → MM → Option (AV × MM)), (execC c modeF lo nl p28_2 z0 noE (endK cf28.res)) ρ M = (z0 (sF ρ 3 (.i 0)) M) := by intros; kernel_rfl
 refine (h (k28_2 c nl lo)).trans ?_
 unfold b28_5; simp only [(t28_2 c nl lo)] <;> (show _ = _; kernel_rfl)
def k28_1 (c : CallT) (nl lo : Nat) : Rg → MM → Option (AV × MM) := (execC c modeF lo nl p28_18 (endK cf28.res) noE (endK cf28.res))
@[reducible] def b28_1 (c : CallT) (nl lo : Nat) (x1 : AV) (M : MM) : Option (AV × MM) :=
 b28_5 c nl lo x1 M
theorem t28_1 (c : CallT) (nl lo : Nat) (ρ : Rg) (M : MM) : k28_1 c nl lo ρ M = b28_1 c nl lo (ρ 1) M := by
 have h : k28_1 c nl lo ρ M = (k28_5 c nl lo ρ M) := execC_seq c modeF lo nl p28_2 p28_17 (endK cf28.res) noE (endK cf28.res) ρ M
 rw [h]
 unfold b28_1; simp only [(t28_5 c nl lo)] <;> (show _ = _; kernel_rfl)
def k28_6 (c : CallT) (nl lo : Nat) : Rg → MM → Option (AV × MM) := (execC c modeF lo nl p28_1 (k28_1 c nl lo) noE (endK cf28.res))
@[reducible] def b28_6 (c : CallT) (nl lo : Nat) (x0 : AV) (M : MM) : Option (AV × MM) :=
 opt (aggA x0) fun v1 =>
 upK M M.nx fun M2 =>
 b28_1 c nl lo v1 M2
theorem t28_6 (c : CallT) (nl lo : Nat) (ρ : Rg) (M : MM) : k28_6 c nl lo ρ M = b28_6 c nl lo (ρ 0) M := by
 have h : ∀ (z0 : Rg → MM → Option (AV × MM)), (execC c modeF lo nl p28_1 z0 noE (endK cf28.res)) ρ M = (opt (aggA (ρ 0)) fun v1 =>
 upK M M.nx fun M2 =>
 z0 (sF (sF ρ 1 v1) 2 (.bool false)) M2) := by intros; kernel_rfl
 refine (h (k28_1 c nl lo)).trans ?_
 unfold b28_6; simp only [(t28_1 c nl lo)] <;> (show _ = _; kernel_rfl)
def k28_0 (c : CallT) (nl lo : Nat) : Rg → MM → Option (AV × MM) := (execC c modeF lo nl p28_19 (endK cf28.res) noE (endK cf28.res))
@[reducible] def b28_0 (c : CallT) (nl lo : Nat) (x0 : AV) (M : MM) : Option (AV × MM) :=
 b28_6 c nl lo x0 M
theorem t28_0 (c : CallT) (nl lo : Nat) (ρ : Rg) (M : MM) : k28_0 c nl lo ρ M = b28_0 c nl lo (ρ 0) M := by
 have h : k28_0 c nl lo ρ M = (k28_6 c nl lo ρ M) := execC_seq c modeF lo nl p28_1 p28_18 (endK cf28.res) noE (endK cf28.res) ρ M
 rw [h]
 unfold b28_0; simp only [(t28_6 c nl lo)] <;> (show _ = _; kernel_rfl)
def k28_7 (c : CallT) (nl lo : Nat) : Rg → MM → Option (AV × MM) := (execC c modeF lo nl p28_0 (k28_0 c nl lo) noE (endK cf28.res))
@[reducible] def b28_7 (c : CallT) (nl lo : Nat) (x0 : AV) (M : MM) : Option (AV × MM) :=
 b28_0 c nl lo x0 M
theorem t28_7 (c : CallT) (nl lo : Nat) (ρ : Rg) (M : MM) : k28_7 c nl lo ρ M = b28_7 c nl lo (ρ 0) M := by
 have h : ∀ (z0 : Rg → MM → Option (AV × MM)), (execC c modeF lo nl p28_0 z0 noE (endK cf28.res)) ρ M = (z0 (sF ρ 1 (.tup [])) M) := by intros; kernel_rfl
 refine (h (k28_0 c nl lo)).trans ?_
 unfold b28_7; simp only [(t28_0 c nl lo)] <;> (show _ = _; kernel_rfl)
def s28 (c : CallT) (nl lo : Nat) (a0 : AV) (M : MM) : Option (AV × MM) :=
 b28_7 c nl lo a0 M
theorem e28 (c : CallT) (nl lo : Nat) (a0 : AV) (M : MM) : execC c modeF lo nl cf28.body (endK cf28.res) noE (endK cf28.res) (aF [a0]) M = s28 c nl lo a0 M := by
 have h : execC c modeF lo nl cf28.body (endK cf28.res) noE (endK cf28.res) (aF [a0]) M = (k28_7 c nl lo (aF [a0]) M) := execC_seq c modeF lo nl p28_0 p28_19 (endK cf28.res) noE (endK cf28.res) (aF [a0]) M
 refine h.trans ?_
 unfold s28; simp only [(t28_7 c nl lo)] <;> (show _ = _; kernel_rfl)
theorem q28 {c : CallT} (hc : Lim G c) (lo : Nat) (a0 : AV) (M : MM) : c 28 [a0] lo M = s28 c G.nl lo a0 M :=
 (hc.flow (cf := cf28) rfl w28 [a0] lo M).trans (e28 c G.nl lo a0 M)

/-! ### function 29 -/
theorem w29 : wfK cf29.nt cf29.body = true := by kernel_rfl
def k29_3 (c : CallT) (nl lo : Nat) : Rg → MM → Option (AV × MM) := (execC c modeF lo nl p29_50 (endK cf29.res) noE (endK cf29.res))
@[reducible] def b29_3 (c : CallT) (nl lo : Nat) (M : MM) : Option (AV × MM) :=
 some ((.bool true), M)
theorem t29_3 (c : CallT) (nl lo : Nat) (ρ : Rg) (M : MM) : k29_3 c nl lo ρ M = b29_3 c nl lo M := by
 kernel_rfl
def k29_5 (c : CallT) (nl lo : Nat) (n : Nat) : Rg → MM → Option (AV × MM) := iterC (fun k ρ M => execC c modeF lo nl p29_45 k (fun i ρ M => if i = 1 then (k29_3 c nl lo) ρ M else noE i ρ M) (endK cf29.res) ρ M) n
def b29_5 (c : CallT) (nl lo : Nat) : Nat → AV → AV → AV → MM → Option (AV × MM)
 | 0, _, _, _, _ => none
 | n + 1, x40, x41, x42, M =>
 opt (binA .lss .none x42 x41) fun v6 =>
 isB v6 fun c7 => if c7 then (opt (ixsA 2 x40 x42) fun v8 =>
 opt (ldnA (lk M) 2 v8) fun v9 =>
 upK M M.nx fun M11 =>
 opt (setcA 0 2 (.agg [.str ⟨⟨[]⟩⟩, .d (.sl [] 0)]) v9) fun v12 =>
 opt (fldA 0 2 true v12) fun v13 =>
 opt (puA c (lk M11) 29 [v13]) fun v14 =>
 opt (unA .not v14) fun v15 =>
 isB v15 fun c16 => if c16 then (some ((.bool false), M11))
 else (opt (binA .add .none x42 (.i 1)) fun v18 =>
 (b29_5 c nl lo n) x40 x41 v18 M11))
 else (b29_3 c nl lo M)
theorem t29_5 (c : CallT) (nl lo : Nat) : ∀ (n : Nat) (ρ : Rg) (M : MM), k29_5 c nl lo n ρ M = b29_5 c nl lo n (ρ 40) (ρ 41) (ρ 42) M
 | 0, ρ, M => rfl
 | n + 1, ρ, M => by
  have h : ∀ (zb z0 : Rg → MM → Option (AV × MM)), execC c modeF lo nl p29_45 zb (fun i ρ M => if i = 1 then z0 ρ M else noE i ρ M) (endK cf29.res) ρ M = (opt (binA .lss .none (ρ 42) (ρ 41)) fun v6 =>
  isB v6 fun c7 => if c7 then (opt (ixsA 2 (ρ 40) (ρ 42)) fun v8 =>
  opt (ldnA (lk M) 2 v8) fun v9 =>
  upK M M.nx fun M11 =>
  opt (setcA 0 2 (.agg [.str ⟨⟨[]⟩⟩, .d (.sl [] 0)]) v9) fun v12 =>
  opt (fldA 0 2 true v12) fun v13 =>
  opt (puA c (lk M11) 29 [v13]) fun v14 =>
  opt (unA .not v14) fun v15 =>
  isB v15 fun c16 => if c16 then (some ((.bool false), M11))
  else (opt (binA .add .none (ρ 42) (.i 1)) fun v18 =>
  zb (sF (sF (sF (sF (sF (sF (sF (sF (sF (sF ρ 43 v6) 44 v8) 45 v9) 7 (.agg [.str ⟨⟨[]⟩⟩, .d (.sl [] 0)])) 7 v12) 46 v13) 47 v14) 48 v15) 49 v18) 42 v18) M11))
  else (z0 (sF ρ 43 v6) M)) := by intros; kernel_rfl
  refine (h (k29_5 c nl lo n) (k29_3 c nl lo)).trans ?_
  unfold b29_5; simp only [(t29_3 c nl lo), (t29_5 c nl lo n)] <;> (show _ = _; kernel_rfl)
def k29_4 (c : CallT) (nl lo : Nat) : Rg → MM → Option (AV × MM) := (execC c modeF lo nl p29_48 (k29_3 c nl lo) noE (endK cf29.res))
@[reducible] def b29_4 (c : CallT) (nl lo : Nat) (x1 : AV) (M : MM) : Option (AV × MM) :=
 opt (fldA 0 0 true x1) fun v2 =>
 opt (fldA 1 1 false x1) fun v3 =>
 opt (lenA v3) fun v4 =>
 b29_5 c nl lo nl v3 v4 (.i 0) M
theorem t29_4 (c : CallT) (nl lo : Nat) (ρ : Rg) (M : MM) : k29_4 c nl lo ρ M = b29_4 c nl lo (ρ 1) M := by
 have h : k29_4 c nl lo ρ M = (opt (fldA 0 0 true (ρ 1)) fun v2 =>
 opt (fldA 1 1 false (ρ 1)) fun v3 =>
 opt (lenA v3) fun v4 =>
 k29_5 c nl lo nl (sF (sF (sF (sF ρ 39 v2) 40 v3) 41 v4) 42 (.i 0)) M) := by kernel_rfl
 rw [h]
 unfold b29_4; simp only [(t29_5 c nl lo nl)] <;> (show _ = _; kernel_rfl)
def k29_2 (c : CallT) (nl lo : Nat) : Rg → MM → Option (AV × MM) := (execC c modeF lo nl p29_51 (endK cf29.res) noE (endK cf29.res))
@[reducible] def b29_2 (c : CallT) (nl lo : Nat) (x1 : AV) (M : MM) : Option (AV × MM) :=
 b29_4 c nl lo x1 M
theorem t29_2 (c : CallT) (nl lo : Nat) (ρ : Rg) (M : MM) : k29_2 c nl lo ρ M = b29_2 c nl lo (ρ 1) M := by
 have h : k29_2 c nl lo ρ M = (k29_4 c nl lo ρ M) := execC_seq c modeF lo nl p29_48 p29_50 (endK cf29.res) noE (endK cf29.res) ρ M
 rw [h]
 unfold b29_2; simp only [(t29_4 c nl lo)] <;> (show _ = _; kernel_rfl)
def k29_6 (c : CallT) (nl lo : Nat) : Rg → MM → Option (AV × MM) := (execC c modeF lo nl p29_30 (k29_2 c nl lo) noE (endK cf29.res))
@[reducible] def b29_6 (c : CallT) (nl lo : Nat) (x1 : AV) (M : MM) : Option (AV × MM) :=
 opt (fldA 0 0 true x1) fun v1 =>
 opt (fldA 0 1 false x1) fun v2 =>
 opt (binA .eql .none v2 (.str ⟨⟨[]⟩⟩)) fun v3 =>
 isB v3 fun c5 => if c5 then (some ((.bool false), M))
 else (opt (fldA 0 0 true x1) fun v7 =>
 opt (fldA 0 1 false x1) fun v8 =>
 opt (puA c (lk M) 63 [v8]) fun v9 =>
 opt (binA .gtr .none v9 (.i 0)) fun v10 =>
 isB v10 fun c12 => if c12 then (opt (fldA 0 0 true x1) fun v13 =>
 opt (fldA 0 1 false x1) fun v14 =>
 opt (puA c (lk M) 36 [v14]) fun v15 =>
 opt (extA 0 v15) fun v17 =>
 opt (extA 1 v15) fun v18 =>
 opt (extA 2 v15) fun v19 =>
 opt (unA .not v19) fun v24 =>
 isB v24 fun c25 => if c25 then (some ((.bool false), M))
 else (b29_2 c nl lo x1 M))
 else (opt (fldA 0 0 true x1) fun v27 =>
 opt (fldA 0 1 false x1) fun v28 =>
 opt (binA .eql .none v28 (.str ⟨⟨[65, 114, 114, 97, 121]⟩⟩)) fun v29 =>
 isB v29 fun c31 => if c31 then (opt (fldA 0 0 true x1) fun v32 =>
 opt (fldA 1 1 false x1) fun v33 =>
 opt (lenA v33) fun v34 =>
 opt (binA .neq .none v34 (.i 1)) fun v35 =>
 isB v35 fun c36 => if c36 then (some ((.bool false), M))
 else (b29_2 c nl lo x1 M))
 else (opt (fldA 0 0 true x1) fun v38 =>
 opt (fldA 1 1 false x1) fun v39 =>
 opt (lenA v39) fun v40 =>
 opt (binA .gtr .none v40 (.i 0)) fun v41 =>
 isB v41 fun c43 => if c43 then (some ((.bool false), M))
 else (b29_2 c nl lo x1 M))))
theorem t29_6 (c : CallT) (nl lo : Nat) (ρ : Rg) (M : MM) : k29_6 c nl lo ρ M = b29_6 c nl lo (ρ 1) M := by
 have h : ∀ (z0 : Rg → MM → Option (AV × MM)), (execC c modeF lo nl p29_30 z0 noE (endK cf29.res)) ρ M = (opt (fldA 0 0 true (ρ 1)) fun v1 =>
 opt (fldA 0 1 false (ρ 1)) fun v2 =>
 opt (binA .eql .none v2 (.str ⟨⟨[]⟩⟩)) fun v3 =>
 isB v3 fun c5 => if c5 then (some ((.bool false), M))
 else (opt (fldA 0 0 true (ρ 1)) fun v7 =>
 opt (fldA 0 1 false (ρ 1)) fun v8 =>
 opt (puA c (lk M) 63 [v8]) fun v9 =>
 opt (binA .gtr .none v9 (.i 0)) fun v10 =>
 isB v10 fun c12 => if c12 then (opt (fldA 0 0 true (ρ 1)) fun v13 =>
 opt (fldA 0 1 false (ρ 1)) fun v14 =>
 opt (puA c (lk M) 36 [v14]) fun v15 =>
 opt (extA 0 v15) fun v17 =>
 opt (extA 1 v15) fun v18 =>
 opt (extA 2 v15) fun v19 =>
 opt (unA .not v19) fun v24 =>
 isB v24 fun c25 => if c25 then (some ((.bool false), M))
 else (z0 (sF (sF (sF (sF (sF (sF (sF (sF (sF (sF (sF (sF (sF (sF (sF (sF (sF (sF (sF (sF (sF ρ 9 v1) 10 v2) 11 v3) 8 v3) 13 v7) 14 v8) 15 v9) 16 v10) 12 v10) 18 v13) 19 v14) 20 v15) 17 v15) 21 v17) 22 v18) 23 v19) 3 v17) 4 v18) 5 v19) 24 v19) 25 v24) M))
 else (opt (fldA 0 0 true (ρ 1)) fun v27 =>
 opt (fldA 0 1 false (ρ 1)) fun v28 =>
 opt (binA .eql .none v28 (.str ⟨⟨[65, 114, 114, 97, 121]⟩⟩)) fun v29 =>
 isB v29 fun c31 => if c31 then (opt (fldA 0 0 true (ρ 1)) fun v32 =>
 opt (fldA 1 1 false (ρ 1)) fun v33 =>
 opt (lenA v33) fun v34 =>
 opt (binA .neq .none v34 (.i 1)) fun v35 =>
 isB v35 fun c36 => if c36 then (some ((.bool false), M))
 else (z0 (sF (sF (sF (sF (sF (sF (sF (sF (sF (sF (sF (sF (sF (sF (sF (sF (sF ρ 9 v1) 10 v2) 11 v3) 8 v3) 13 v7) 14 v8) 15 v9) 16 v10) 12 v10) 27 v27) 28 v28) 29 v29) 26 v29) 30 v32) 31 v33) 32 v34) 33 v35) M))
 else (opt (fldA 0 0 true (ρ 1)) fun v38 =>
 opt (fldA 1 1 false (ρ 1)) fun v39 =>
 opt (lenA v39) fun v40 =>
 opt (binA .gtr .none v40 (.i 0)) fun v41 =>
 isB v41 fun c43 => if c43 then (some ((.bool false), M))
 else (z0 (sF (sF (sF (sF (sF (sF (sF (sF (sF (sF (sF (sF (sF (sF (sF (sF (sF (sF ρ 9 v1) 10 v2) 11 v3) 8 v3) 13 v7) 14 v8) 15 v9) 16 v10) 12 v10) 27 v27) 28 v28) 29 v29) 26 v29) 35 v38) 36 v39) 37 v40) 38 v41) 34 v41) M))))) := by intros; kernel_rfl
 refine (h (k29_2 c nl lo)).trans ?_
 unfold b29_6; simp only [(t29_2 c nl lo)] <;> (show _ = _; kernel_rfl)
def k29_1 (c : CallT) (nl lo : Nat) : Rg → MM → Option (AV × MM) := (execC c modeF lo nl p29_52 (endK cf29.res) noE (endK cf29.res))
@[reducible] def b29_1 (c : CallT) (nl lo : Nat) (x1 : AV) (M : MM) : Option (AV × MM) :=
 b29_6 c nl lo x1 M
theorem t29_1 (c : CallT) (nl lo : Nat) (ρ : Rg) (M : MM) : k29_1 c nl lo ρ M = b29_1 c nl lo (ρ 1) M := by
 have h : k29_1 c nl lo ρ M = (k29_6 c nl lo ρ M) := execC_seq c modeF lo nl p29_30 p29_51 (endK cf29.res) noE (endK cf29.res) ρ M
 rw [h]
 unfold b29_1; simp only [(t29_6 c nl lo)] <;> (show _ = _; kernel_rfl)
def k29_7 (c : CallT) (nl lo : Nat) : Rg → MM → Option (AV × MM) := (execC c modeF lo nl p29_1 (k29_1 c nl lo) noE (endK cf29.res))
@[reducible] def b29_7 (c : CallT) (nl lo : Nat) (x0 : AV) (M : MM) : Option (AV × MM) :=
 opt (aggA x0) fun v1 =>
 upK M M.nx fun M2 =>
 b29_1 c nl lo v1 M2
theorem t29_7 (c : CallT) (nl lo : Nat) (ρ : Rg) (M : MM) : k29_7 c nl lo ρ M = b29_7 c nl lo (ρ 0) M := by
 have h : ∀ (z0 : Rg → MM → Option (AV × MM)), (execC c modeF lo nl p29_1 z0 noE (endK cf29.res)) ρ M = (opt (aggA (ρ 0)) fun v1 =>
 upK M M.nx fun M2 =>
 z0 (sF (sF ρ 1 v1) 2 (.bool false)) M2) := by intros; kernel_rfl
 refine (h (k29_1 c nl lo)).trans ?_
 unfold b29_7; simp only [(t29_1 c nl lo)] <;> (show _ = _; kernel_rfl)
def k29_0 (c : CallT) (nl lo : Nat) : Rg → MM → Option (AV × MM) := (execC c modeF lo nl p29_53 (endK cf29.res) noE (endK cf29.res))
@[reducible] def b29_0 (c : CallT) (nl lo : Nat) (x0 : AV) (M : MM) : Option (AV × MM) :=
 b29_7 c nl lo x0 M
theorem t29_0 (c : CallT) (nl lo : Nat) (ρ : Rg) (M : MM) : k29_0 c nl lo ρ M = b29_0 c nl lo (ρ 0) M := by
 have h : k29_0 c nl lo ρ M = (k29_7 c nl lo ρ M) := execC_seq c modeF lo nl p29_1 p29_52 (endK cf29.res) noE (endK cf29.res) ρ M
 rw [h]
 unfold b29_0; simp only [(t29_7 c nl lo)] <;> (show _ = _; kernel_rfl)
def k29_8 (c : CallT) (nl lo : Nat) : Rg → MM → Option (AV × MM) := (execC c modeF lo nl p29_0 (k29_0 c nl lo) noE (endK cf29.res))
@[reducible] def b29_8 (c : CallT) (nl lo : Nat) (x0 : AV) (M : MM) : Option (AV × MM) :=
 b29_0 c nl lo x0 M
theorem t29_8 (c : CallT) (nl lo : Nat) (ρ : Rg) (M : MM) : k29_8 c nl lo ρ M = b29_8 c nl lo (ρ 0) M := by
 have h : ∀ (z0 : Rg → MM → Option (AV × MM)), (execC c modeF lo nl p29_0 z0 noE (endK cf29.res)) ρ M = (z0 (sF (sF ρ 1 (.tup [])) 7 (.tup [])) M) := by intros; kernel_rfl
 refine (h (k29_0 c nl lo)).trans ?_
 unfold b29_8; simp only [(t29_0 c nl lo)] <;> (show _ = _; kernel_rfl)
def s29 (c : CallT) (nl lo : Nat) (a0 : AV) (M : MM) : Option (AV × MM) :=
 b29_8 c nl lo a0 M
theorem e29 (c : CallT) (nl lo : Nat) (a0 : AV) (M : MM) : execC c modeF lo nl cf29.body (endK cf29.res) noE (endK cf29.res) (aF [a0]) M = s29 c nl lo a0 M := by
 have h : execC c modeF lo nl cf29.body (endK cf29.res) noE (endK cf29.res) (aF [a0]) M = (k29_8 c nl lo (aF [a0]) M) := execC_seq c modeF lo nl p29_0 p29_53 (endK cf29.res) noE (endK cf29.res) (aF [a0]) M
 refine h.trans ?_
 unfold s29; simp only [(t29_8 c nl lo)] <;> (show _ = _; kernel_rfl)
theorem q29 {c : CallT} (hc : Lim G c) (lo : Nat) (a0 : AV) (M : MM) : c 29 [a0] lo M = s29 c G.nl lo a0 M :=
 (hc.flow (cf := cf29) rfl w29 [a0] lo M).trans (e29 c G.nl lo a0 M)

/-! ### function 30 -/
theorem w30 : wfK cf30.nt cf30.body = true := by kernel_rfl
def k30_3 (c : CallT) (nl lo : Nat) : Rg → MM → Option (AV × MM) := (execC c modeF lo nl p30_44 (endK cf30.res) noE (endK cf30.res))
@[reducible] def b30_3 (c : CallT) (nl lo : Nat) (x2 x3 : AV) (M : MM) : Option (AV × MM) :=
 opt (fldA 0 0 true x2) fun v1 =>
 opt (fldA 1 1 false x2) fun v2 =>
 opt (lenA v2) fun v3 =>
 opt (fldA 0 0 true x3) fun v4 =>
 opt (fldA 1 1 false x3) fun v5 =>
 opt (lenA v5) fun v6 =>
 opt (binA .lss .none v3 v6) fun v7 =>
 isB v7 fun c9 => if c9 then (some ((.i (-1)), M))
 else (opt (fldA 0 0 true x2) fun v11 =>
 opt (fldA 1 1 false x2) fun v12 =>
 opt (lenA v12) fun v13 =>
 opt (fldA 0 0 true x3) fun v14 =>
 opt (fldA 1 1 false x3) fun v15 =>
 opt (lenA v15) fun v16 =>
 opt (binA .gtr .none v13 v16) fun v17 =>
 isB v17 fun c19 => if c19 then (some ((.i 1), M))
 else (some ((.i 0), M)))
theorem t30_3 (c : CallT) (nl lo : Nat) (ρ : Rg) (M : MM) : k30_3 c nl lo ρ M = b30_3 c nl lo (ρ 2) (ρ 3) M := by
 kernel_rfl
def k30_5 (c : CallT) (nl lo : Nat) (n : Nat) : Rg → MM → Option (AV × MM) := iterC (fun k ρ M => execC c modeF lo nl p30_27 k (fun i ρ M => if i = 0 then (k30_3 c nl lo) ρ M else noE i ρ M) (endK cf30.res) ρ M) n
def b30_5 (c : CallT) (nl lo : Nat) : Nat → AV → AV → AV → MM → Option (AV × MM)
 | 0, _, _, _, _ => none
 | n + 1, x2, x3, x5, M =>
 opt (fldA 0 0 true x2) fun v24 =>
 opt (fldA 1 1 false x2) fun v25 =>
 opt (lenA v25) fun v26 =>
 opt (binA .lss .none x5 v26) fun v27 =>
 opt (gdp v27 true (some x5)) fun v29 =>
 opt (gdp v27 true (fldA 0 0 true x3)) fun v30 =>
 opt (gdp v27 true (fldA 1 1 false x3)) fun v31 =>
 opt (gdp v27 true (lenA v31)) fun v32 =>
 opt (gdp v27 true (binA .lss .none v29 v32)) fun v33 =>
 opt (pickA v27 v33 (.bool false)) fun v34 =>
 isB v34 fun c35 => if c35 then (bumpK M 12 fun M36 =>
 opt (fldA 0 0 true x2) fun v37 =>
 opt (fldA 1 1 false x2) fun v38 =>
 opt (ixsA 2 v38 x5) fun v40 =>
 opt (ldnA (look M36.mem (.mk M.nx 12 15 true)) 2 v40) fun v41 =>
 opt (fldA 0 0 true x3) fun v42 =>
 opt (fldA 1 1 false x3) fun v43 =>
 opt (ixsA 2 v43 x5) fun v45 =>
 opt (ldnA (look M36.mem (.mk M.nx 12 480 true)) 2 v45) fun v46 =>
 opt (puA c (look M36.mem (.mk M.nx 12 1023 true)) 30 [v41, v46]) fun v47 =>
 opt (binA .neq .none v47 (.i 0)) fun v50 =>
 isB v50 fun c51 => if c51 then (some (v47, M36))
 else (opt (binA .add .none x5 (.i 1)) fun v55 =>
 (b30_5 c nl lo n) x2 x3 v55 M36))
 else (b30_3 c nl lo x2 x3 M)
theorem t30_5 (c : CallT) (nl lo : Nat) : ∀ (n : Nat) (ρ : Rg) (M : MM), k30_5 c nl lo n ρ M = b30_5 c nl lo n (ρ 2) (ρ 3) (ρ 5) M
 | 0, ρ, M => rfl
 | n + 1, ρ, M => by
  have h : ∀ (zb z0 : Rg → MM → Option (AV × MM)), execC c modeF lo nl p30_27 zb (fun i ρ M => if i = 0 then z0 ρ M else noE i ρ M) (endK cf30.res) ρ M = (opt (fldA 0 0 true (ρ 2)) fun v24 =>
  opt (fldA 1 1 false (ρ 2)) fun v25 =>
  opt (lenA v25) fun v26 =>
  opt (binA .lss .none (ρ 5) v26) fun v27 =>
  opt (gdp v27 true (some (ρ 5))) fun v29 =>
  opt (gdp v27 true (fldA 0 0 true (ρ 3))) fun v30 =>
  opt (gdp v27 true (fldA 1 1 false (ρ 3))) fun v31 =>
  opt (gdp v27 true (lenA v31)) fun v32 =>
  opt (gdp v27 true (binA .lss .none v29 v32)) fun v33 =>
  opt (pickA v27 v33 (.bool false)) fun v34 =>
  isB v34 fun c35 => if c35 then (bumpK M 12 fun M36 =>
  opt (fldA 0 0 true (ρ 2)) fun v37 =>
  opt (fldA 1 1 false (ρ 2)) fun v38 =>
  opt (ixsA 2 v38 (ρ 5)) fun v40 =>
  opt (ldnA (look M36.mem (.mk M.nx 12 15 true)) 2 v40) fun v41 =>
  opt (fldA 0 0 true (ρ 3)) fun v42 =>
  opt (fldA 1 1 false (ρ 3)) fun v43 =>
  opt (ixsA 2 v43 (ρ 5)) fun v45 =>
  opt (ldnA (look M36.mem (.mk M.nx 12 480 true)) 2 v45) fun v46 =>
  opt (puA c (look M36.mem (.mk M.nx 12 1023 true)) 30 [v41, v46]) fun v47 =>
  opt (binA .neq .none v47 (.i 0)) fun v50 =>
  isB v50 fun c51 => if c51 then (some (v47, M36))
  else (opt (binA .add .none (ρ 5) (.i 1)) fun v55 =>
  zb (sF (sF (sF (sF (sF (sF (sF (sF (sF (sF (sF (sF (sF (sF (sF (sF (sF (sF (sF (sF (sF (sF (sF (sF (sF (sF (sF (sF (sF ρ 17 (ρ 5)) 18 v24) 19 v25) 20 v26) 21 v27) 22 v27) 23 v29) 24 v30) 25 v31) 26 v32) 27 v33) 28 v34) 31 v37) 32 v38) 33 (ρ 5)) 34 v40) 35 v41) 36 v42) 37 v43) 38 (ρ 5)) 39 v45) 40 v46) 41 v47) 6 v47) 42 v47) 43 v50) 29 (ρ 5)) 30 v55) 5 v55) M36))
  else (z0 (sF (sF (sF (sF (sF (sF (sF (sF (sF (sF (sF (sF ρ 17 (ρ 5)) 18 v24) 19 v25) 20 v26) 21 v27) 22 v27) 23 v29) 24 v30) 25 v31) 26 v32) 27 v33) 28 v34) M)) := by intros; kernel_rfl
  refine (h (k30_5 c nl lo n) (k30_3 c nl lo)).trans ?_
  unfold b30_5; simp only [(t30_3 c nl lo), (t30_5 c nl lo n)] <;> (show _ = _; kernel_rfl)
def k30_4 (c : CallT) (nl lo : Nat) : Rg → MM → Option (AV × MM) := (execC c modeF lo nl p30_30 (k30_3 c nl lo) noE (endK cf30.res))
@[reducible] def b30_4 (c : CallT) (nl lo : Nat) (x2 x3 : AV) (M : MM) : Option (AV × MM) :=
 b30_5 c nl lo nl x2 x3 (.i 0) M
theorem t30_4 (c : CallT) (nl lo : Nat) (ρ : Rg) (M : MM) : k30_4 c nl lo ρ M = b30_4 c nl lo (ρ 2) (ρ 3) M := by
 have h : k30_4 c nl lo ρ M = (k30_5 c nl lo nl (sF ρ 5 (.i 0)) M) := by kernel_rfl
 rw [h]
 unfold b30_4; simp only [(t30_5 c nl lo nl)] <;> (show _ = _; kernel_rfl)
def k30_2 (c : CallT) (nl lo : Nat) : Rg → MM → Option (AV × MM) := (execC c modeF lo nl p30_45 (endK cf30.res) noE (endK cf30.res))
@[reducible] def b30_2 (c : CallT) (nl lo : Nat) (x2 x3 : AV) (M : MM) : Option (AV × MM) :=
 b30_4 c nl lo x2 x3 M
theorem t30_2 (c : CallT) (nl lo : Nat) (ρ : Rg) (M : MM) : k30_2 c nl lo ρ M = b30_2 c nl lo (ρ 2) (ρ 3) M := by
 have h : k30_2 c nl lo ρ M = (k30_4 c nl lo ρ M) := execC_seq c modeF lo nl p30_30 p30_44 (endK cf30.res) noE (endK cf30.res) ρ M
 rw [h]
 unfold b30_2; simp only [(t30_4 c nl lo)] <;> (show _ = _; kernel_rfl)
def k30_6 (c : CallT) (nl lo : Nat) : Rg → MM → Option (AV × MM) := (execC c modeF lo nl p30_12 (k30_2 c nl lo) noE (endK cf30.res))
@[reducible] def b30_6 (c : CallT) (nl lo : Nat) (x2 x3 : AV) (M : MM) : Option (AV × MM) :=
 opt (fldA 0 0 true x2) fun v1 =>
 opt (fldA 0 1 false x2) fun v2 =>
 opt (fldA 0 0 true x3) fun v3 =>
 opt (fldA 0 1 false x3) fun v4 =>
 opt (binA .neq .none v2 v4) fun v5 =>
 isB v5 fun c6 => if c6 then (opt (fldA 0 0 true x2) fun v7 =>
 opt (fldA 0 1 false x2) fun v8 =>
 opt (fldA 0 0 true x3) fun v9 =>
 opt (fldA 0 1 false x3) fun v10 =>
 opt (binA .lss .none v8 v10) fun v11 =>
 isB v11 fun c12 => if c12 then (some ((.i (-1)), M))
 else (some ((.i 1), M)))
 else (b30_2 c nl lo x2 x3 M)
theorem t30_6 (c : CallT) (nl lo : Nat) (ρ : Rg) (M : MM) : k30_6 c nl lo ρ M = b30_6 c nl lo (ρ 2) (ρ 3) M := by
 have h : ∀ (z0 : Rg → MM → Option (AV × MM)), (execC c modeF lo nl p30_12 z0 noE (endK cf30.res)) ρ M = (opt (fldA 0 0 true (ρ 2)) fun v1 =>
 opt (fldA 0 1 false (ρ 2)) fun v2 =>
 opt (fldA 0 0 true (ρ 3)) fun v3 =>
 opt (fldA 0 1 false (ρ 3)) fun v4 =>
 opt (binA .neq .none v2 v4) fun v5 =>
 isB v5 fun c6 => if c6 then (opt (fldA 0 0 true (ρ 2)) fun v7 =>
 opt (fldA 0 1 false (ρ 2)) fun v8 =>
 opt (fldA 0 0 true (ρ 3)) fun v9 =>
 opt (fldA 0 1 false (ρ 3)) fun v10 =>
 opt (binA .lss .none v8 v10) fun v11 =>
 isB v11 fun c12 => if c12 then (some ((.i (-1)), M))
 else (some ((.i 1), M)))
 else (z0 (sF (sF (sF (sF (sF ρ 7 v1) 8 v2) 9 v3) 10 v4) 11 v5) M)) := by intros; kernel_rfl
 refine (h (k30_2 c nl lo)).trans ?_
 unfold b30_6; simp only [(t30_2 c nl lo)] <;> (show _ = _; kernel_rfl)
def k30_1 (c : CallT) (nl lo : Nat) : Rg → MM → Option (AV × MM) := (execC c modeF lo nl p30_46 (endK cf30.res) noE (endK cf30.res))
@[reducible] def b30_1 (c : CallT) (nl lo : Nat) (x2 x3 : AV) (M : MM) : Option (AV × MM) :=
 b30_6 c nl lo x2 x3 M
theorem t30_1 (c : CallT) (nl lo : Nat) (ρ : Rg) (M : MM) : k30_1 c nl lo ρ M = b30_1 c nl lo (ρ 2) (ρ 3) M := by
 have h : k30_1 c nl lo ρ M = (k30_6 c nl lo ρ M) := execC_seq c modeF lo nl p30_12 p30_45 (endK cf30.res) noE (endK cf30.res) ρ M
 rw [h]
 unfold b30_1; simp only [(t30_6 c nl lo)] <;> (show _ = _; kernel_rfl)
def k30_7 (c : CallT) (nl lo : Nat) : Rg → MM → Option (AV × MM) := (execC c modeF lo nl p30_1 (k30_1 c nl lo) noE (endK cf30.res))
@[reducible] def b30_7 (c : CallT) (nl lo : Nat) (x0 x1 : AV) (M : MM) : Option (AV × MM) :=
 opt (aggA x0) fun v1 =>
 upK M M.nx fun M2 =>
 opt (aggA x1) fun v3 =>
 upK M2 M2.nx fun M4 =>
 b30_1 c nl lo v1 v3 M4
theorem t30_7 (c : CallT) (nl lo : Nat) (ρ : Rg) (M : MM) : k30_7 c nl lo ρ M = b30_7 c nl lo (ρ 0) (ρ 1) M := by
 have h : ∀ (z0 : Rg → MM → Option (AV × MM)), (execC c modeF lo nl p30_1 z0 noE (endK cf30.res)) ρ M = (opt (aggA (ρ 0)) fun v1 =>
 upK M M.nx fun M2 =>
 opt (aggA (ρ 1)) fun v3 =>
 upK M2 M2.nx fun M4 =>
 z0 (sF (sF (sF ρ 2 v1) 3 v3) 4 (.i 0)) M4) := by intros; kernel_rfl
 refine (h (k30_1 c nl lo)).trans ?_
 unfold b30_7; simp only [(t30_1 c nl lo)] <;> (show _ = _; kernel_rfl)
def k30_0 (c : CallT) (nl lo : Nat) : Rg → MM → Option (AV × MM) := (execC c modeF lo nl p30_47 (endK cf30.res) noE (endK cf30.res))
@[reducible] def b30_0 (c : CallT) (nl lo : Nat) (x0 x1 : AV) (M : MM) : Option (AV × MM) :=
 b30_7 c nl lo x0 x1 M
theorem t30_0 (c : CallT) (nl lo : Nat) (ρ : Rg) (M : MM) : k30_0 c nl lo ρ M = b30_0 c nl lo (ρ 0) (ρ 1) M := by
 have h : k30_0 c nl lo ρ M = (k30_7 c nl lo ρ M) := execC_seq c modeF lo nl p30_1 p30_46 (endK cf30.res) noE (endK cf30.res) ρ M
 rw [h]
 unfold b30_0; simp only [(t30_7 c nl lo)] <;> (show _ = _; kernel_rfl)
def k30_8 (c : CallT) (nl lo : Nat) : Rg → MM → Option (AV × MM) := (execC c modeF lo nl p30_0 (k30_0 c nl lo) noE (endK cf30.res))
@[reducible] def b30_8 (c : CallT) (nl lo : Nat) (x0 x1 : AV) (M : MM) : Option (AV × MM) :=
 b30_0 c nl lo x0 x1 M
theorem t30_8 (c : CallT) (nl lo : Nat) (ρ : Rg) (M : MM) : k30_8 c nl lo ρ M = b30_8 c nl lo (ρ 0) (ρ 1) M := by
 have h : ∀ (z0 : Rg → MM → Option (AV × MM)), (execC c modeF lo nl p30_0 z0 noE (endK cf30.res)) ρ M = (z0 (sF (sF ρ 2 (.tup [])) 3 (.tup [])) M) := by intros; kernel_rfl
 refine (h (k30_0 c nl lo)).trans ?_
 unfold b30_8; simp only [(t30_0 c nl lo)] <;> (show _ = _; kernel_rfl)
def s30 (c : CallT) (nl lo : Nat) (a0 a1 : AV) (M : MM) : Option (AV × MM) :=
 b30_8 c nl lo a0 a1 M
theorem e30 (c : CallT) (nl lo : Nat) (a0 a1 : AV) (M : MM) : execC c modeF lo nl cf30.body (endK cf30.res) noE (endK cf30.res) (aF [a0, a1]) M = s30 c nl lo a0 a1 M := by
 have h : execC c modeF lo nl cf30.body (endK cf30.res) noE (endK cf30.res) (aF [a0, a1]) M = (k30_8 c nl lo (aF [a0, a1]) M) := execC_seq c modeF lo nl p30_0 p30_47 (endK cf30.res) noE (endK cf30.res) (aF [a0, a1]) M
 refine h.trans ?_
 unfold s30; simp only [(t30_8 c nl lo)] <;> (show _ = _; kernel_rfl)
theorem q30 {c : CallT} (hc : Lim G c) (lo : Nat) (a0 a1 : AV) (M : MM) : c 30 [a0, a1] lo M = s30 c G.nl lo a0 a1 M :=
 (hc.flow (cf := cf30) rfl w30 [a0, a1] lo M).trans (e30 c G.nl lo a0 a1 M)

/-! ### function 31 -/
theorem w31 : wfK cf31.nt cf31.body = true := by kernel_rfl
def k31_3 (c : CallT) (nl lo : Nat) : Rg → MM → Option (AV × MM) := (execC c modeF lo nl p31_18 (endK cf31.res) noE (endK cf31.res))
@[reducible] def b31_3 (c : CallT) (nl lo : Nat) (x3 : AV) (M : MM) : Option (AV × MM) :=
 opt (binA .add .none x3 (.i 1)) fun v2 =>
 some (v2, M)
theorem t31_3 (c : CallT) (nl lo : Nat) (ρ : Rg) (M : MM) : k31_3 c nl lo ρ M = b31_3 c nl lo (ρ 3) M := by
 kernel_rfl
def k31_5 (c : CallT) (nl lo : Nat) (n : Nat) : Rg → MM → Option (AV × MM) := iterC (fun k ρ M => execC c modeF lo nl p31_13 k (fun i ρ M => if i = 0 then (k31_3 c nl lo) ρ M else noE i ρ M) (endK cf31.res) ρ M) n
def b31_5 (c : CallT) (nl lo : Nat) : Nat → AV → AV → AV → AV → MM → Option (AV × MM)
 | 0, _, _, _, _, _ => none
 | n + 1, x3, x7, x8, x9, M =>
 opt (binA .lss .none x9 x8) fun v8 =>
 isB v8 fun c9 => if c9 then (opt (ixsA 2 x7 x9) fun v10 =>
 opt (ldnA (lk M) 2 v10) fun v11 =>
 upK M M.nx fun M13 =>
 opt (setcA 0 2 (.agg [.str ⟨⟨[]⟩⟩, .d (.sl [] 0)]) v11) fun v14 =>
 opt (fldA 0 2 true v14) fun v16 =>
 opt (puA c (lk M13) 31 [v16]) fun v17 =>
 opt (mmaxA true x3 v17) fun v18 =>
 opt (binA .add .none x9 (.i 1)) fun v20 =>
 (b31_5 c nl lo n) v18 x7 x8 v20 M13)
 else (b31_3 c nl lo x3 M)
theorem t31_5 (c : CallT) (nl lo : Nat) : ∀ (n : Nat) (ρ : Rg) (M : MM), k31_5 c nl lo n ρ M = b31_5 c nl lo n (ρ 3) (ρ 7) (ρ 8) (ρ 9) M
 | 0, ρ, M => rfl
 | n + 1, ρ, M => by
  have h : ∀ (zb z0 : Rg → MM → Option (AV × MM)), execC c modeF lo nl p31_13 zb (fun i ρ M => if i = 0 then z0 ρ M else noE i ρ M) (endK cf31.res) ρ M = (opt (binA .lss .none (ρ 9) (ρ 8)) fun v8 =>
  isB v8 fun c9 => if c9 then (opt (ixsA 2 (ρ 7) (ρ 9)) fun v10 =>
  opt (ldnA (lk M) 2 v10) fun v11 =>
  upK M M.nx fun M13 =>
  opt (setcA 0 2 (.agg [.str ⟨⟨[]⟩⟩, .d (.sl [] 0)]) v11) fun v14 =>
  opt (fldA 0 2 true v14) fun v16 =>
  opt (puA c (lk M13) 31 [v16]) fun v17 =>
  opt (mmaxA true (ρ 3) v17) fun v18 =>
  opt (binA .add .none (ρ 9) (.i 1)) fun v20 =>
  zb (sF (sF (sF (sF (sF (sF (sF (sF (sF (sF (sF (sF ρ 10 v8) 11 v10) 12 v11) 5 (.agg [.str ⟨⟨[]⟩⟩, .d (.sl [] 0)])) 5 v14) 13 (ρ 3)) 14 v16) 15 v17) 16 v18) 3 v18) 17 v20) 9 v20) M13)
  else (z0 (sF ρ 10 v8) M)) := by intros; kernel_rfl
  refine (h (k31_5 c nl lo n) (k31_3 c nl lo)).trans ?_
  unfold b31_5; simp only [(t31_3 c nl lo), (t31_5 c nl lo n)] <;> (show _ = _; kernel_rfl)
def k31_4 (c : CallT) (nl lo : Nat) : Rg → MM → Option (AV × MM) := (execC c modeF lo nl p31_16 (k31_3 c nl lo) noE (endK cf31.res))
@[reducible] def b31_4 (c : CallT) (nl lo : Nat) (x1 x3 : AV) (M : MM) : Option (AV × MM) :=
 opt (fldA 0 0 true x1) fun v4 =>
 opt (fldA 1 1 false x1) fun v5 =>
 opt (lenA v5) fun v6 =>
 b31_5 c nl lo nl x3 v5 v6 (.i 0) M
theorem t31_4 (c : CallT) (nl lo : Nat) (ρ : Rg) (M : MM) : k31_4 c nl lo ρ M = b31_4 c nl lo (ρ 1) (ρ 3) M := by
 have h : k31_4 c nl lo ρ M = (opt (fldA 0 0 true (ρ 1)) fun v4 =>
 opt (fldA 1 1 false (ρ 1)) fun v5 =>
 opt (lenA v5) fun v6 =>
 k31_5 c nl lo nl (sF (sF (sF (sF ρ 6 v4) 7 v5) 8 v6) 9 (.i 0)) M) := by kernel_rfl
 rw [h]
 unfold b31_4; simp only [(t31_5 c nl lo nl)] <;> (show _ = _; kernel_rfl)
def k31_2 (c : CallT) (nl lo : Nat) : Rg → MM → Option (AV × MM) := (execC c modeF lo nl p31_19 (endK cf31.res) noE (endK cf31.res))
@[reducible] def b31_2 (c : CallT) (nl lo : Nat) (x1 x3 : AV) (M : MM) : Option (AV × MM) :=
 b31_4 c nl lo x1 x3 M
theorem t31_2 (c : CallT) (nl lo : Nat) (ρ : Rg) (M : MM) : k31_2 c nl lo ρ M = b31_2 c nl lo (ρ 1) (ρ 3) M := by
 have h : k31_2 c nl lo ρ M = (k31_4 c nl lo ρ M) := execC_seq c modeF lo nl p31_16 p31_18 (endK cf31.res) noE (endK cf31.res) ρ M
 rw [h]
 unfold b31_2; simp only [(t31_4 c nl lo)] <;> (show _ = _; kernel_rfl)
def k31_6 (c : CallT) (nl lo : Nat) : Rg → MM → Option (AV × MM) := (execC c modeF lo nl p31_2 (k31_2 c nl lo) noE (endK cf31.res))
@[reducible] def b31_6 (c : CallT) (nl lo : Nat) (x1 : AV) (M : MM) : Option (AV × MM) :=
 b31_2 c nl lo x1 (.i 0) M
theorem t31_6 (c : CallT) (nl lo : Nat) (ρ : Rg) (M : MM) : k31_6 c nl lo ρ M = b31_6 c nl lo (ρ 1) M := by
 have h : ∀ (z0 : Rg → MM → Option (AV × MM)), (execC c modeF lo nl p31_2 z0 noE (endK cf31.res)) ρ M = (z0 (sF ρ 3 (.i 0)) M) := by intros; kernel_rfl
 refine (h (k31_2 c nl lo)).trans ?_
 unfold b31_6; simp only [(t31_2 c nl lo)] <;> (show _ = _; kernel_rfl)
def k31_1 (c : CallT) (nl lo : Nat) : Rg → MM → Option (AV × MM) := (execC c modeF lo nl p31_20 (endK cf31.res) noE (endK cf31.res))
@[reducible] def b31_1 (c : CallT) (nl lo : Nat) (x1 : AV) (M : MM) : Option (AV × MM) :=
 b31_6 c nl lo x1 M
theorem t31_1 (c : CallT) (nl lo : Nat) (ρ : Rg) (M : MM) : k31_1 c nl lo ρ M = b31_1 c nl lo (ρ 1) M := by
 have h : k31_1 c nl lo ρ M = (k31_6 c nl lo ρ M) := execC_seq c modeF lo nl p31_2 p31_19 (endK cf31.res) noE (endK cf31.res) ρ M
 rw [h]
 unfold b31_1; simp only [(t31_6 c nl lo)] <;> (show _ = _; kernel_rfl)
def k31_7 (c : CallT) (nl lo : Nat) : Rg → MM → Option (AV × MM) := (execC c modeF lo nl p31_1 (k31_1 c nl lo) noE (endK cf31.res))
@[reducible] def b31_7 (c : CallT) (nl lo : Nat) (x0 : AV) (M : MM) : Option (AV × MM) :=
 opt (aggA x0) fun v1 =>
 upK M M.nx fun M2 =>
 b31_1 c nl lo v1 M2
theorem t31_7 (c : CallT) (nl lo : Nat) (ρ : Rg) (M : MM) : k31_7 c nl lo ρ M = b31_7 c nl lo (ρ 0) M := by
 have h : ∀ (z0 : Rg → MM → Option (AV × MM)), (execC c modeF lo nl p31_1 z0 noE (endK cf31.res)) ρ M = (opt (aggA (ρ 0)) fun v1 =>
 upK M M.nx fun M2 =>
 z0 (sF (sF ρ 1 v1) 2 (.i 0)) M2) := by intros; kernel_rfl
 refine (h (k31_1 c nl lo)).trans ?_
 unfold b31_7; simp only [(t31_1 c nl lo)] <;> (show _ = _; kernel_rfl)
def k31_0 (c : CallT) (nl lo : Nat) : Rg → MM → Option (AV × MM) := (execC c modeF lo nl p31_21 (endK cf31.res) noE (endK cf31.res))
@[reducible] def b31_0 (c : CallT) (nl lo : Nat) (x0 : AV) (M : MM) : Option (AV × MM) :=
 b31_7 c nl lo x0 M
theorem t31_0 (c : CallT) (nl lo : Nat) (ρ : Rg) (M : MM) : k31_0 c nl lo ρ M = b31_0 c nl lo (ρ 0) M := by
 have h : k31_0 c nl lo ρ M = (k31_7 c nl lo ρ M) := execC_seq c modeF lo nl p31_1 p31_20 (endK cf31.res) noE (endK cf31.res) ρ M
 rw [h]
 unfold b31_0; simp only [(t31_7 c nl lo)] <;> (show _ = _; kernel_rfl)
def k31_8 (c : CallT) (nl lo : Nat) : Rg → MM → Option (AV × MM) := (execC c modeF lo nl p31_0 (k31_0 c nl lo) noE (endK cf31.res))
@[reducible] def b31_8 (c : CallT) (nl lo : Nat) (x0 : AV) (M : MM) : Option (AV × MM) :=
 b31_0 c nl lo x0 M
theorem t31_8 (c : CallT) (nl lo : Nat) (ρ : Rg) (M : MM) : k31_8 c nl lo ρ M = b31_8 c nl lo (ρ 0) M := by
 have h : ∀ (z0 : Rg → MM → Option (AV × MM)), (execC c modeF lo nl p31_0 z0 noE (endK cf31.res)) ρ M = (z0 (sF (sF ρ 1 (.tup [])) 5 (.tup [])) M) := by intros; kernel_rfl
 refine (h (k31_0 c nl lo)).trans ?_
 unfold b31_8; simp only [(t31_0 c nl lo)] <;> (show _ = _; kernel_rfl)
def s31 (c : CallT) (nl lo : Nat) (a0 : AV) (M : MM) : Option (AV × MM) :=
 b31_8 c nl lo a0 M
theorem e31 (c : CallT) (nl lo : Nat) (a0 : AV) (M : MM) : execC c modeF lo nl cf31.body (endK cf31.res) noE (endK cf31.res) (aF [a0]) M = s31 c nl lo a0 M := by
 have h : execC c modeF lo nl cf31.body (endK cf31.res) noE (endK cf31.res) (aF [a0]) M = (k31_8 c nl lo (aF [a0]) M) := execC_seq c modeF lo nl p31_0 p31_21 (endK cf31.res) noE (endK cf31.res) (aF [a0]) M
 refine h.trans ?_
 unfold s31; simp only [(t31_8 c nl lo)] <;> (show _ = _; kernel_rfl)
theorem q31 {c : CallT} (hc : Lim G c) (lo : Nat) (a0 : AV) (M : MM) : c 31 [a0] lo M = s31 c G.nl lo a0 M :=
 (hc.flow (cf := cf31) rfl w31 [a0] lo M).trans (e31 c G.nl lo a0 M)

/-! ### function 32 -/
theorem w32 : wfK cf32.nt cf32.body = true := by kernel_rfl
def k32_3 (c : CallT) (nl lo : Nat) : Rg → MM → Option (AV × MM) := (execC c modeF lo nl p32_18 (endK cf32.res) noE (endK cf32.res))
@[reducible] def b32_3 (c : CallT) (nl lo : Nat) (x3 : AV) (M : MM) : Option (AV × MM) :=
 some (x3, M)
theorem t32_3 (c : CallT) (nl lo : Nat) (ρ : Rg) (M : MM) : k32_3 c nl lo ρ M = b32_3 c nl lo (ρ 3) M := by
 kernel_rfl
def k32_5 (c : CallT) (nl lo : Nat) (n : Nat) : Rg → MM → Option (AV × MM) := iterC (fun k ρ M => execC c modeF lo nl p32_13 k (fun i ρ M => if i = 0 then (k32_3 c nl lo) ρ M else noE i ρ M) (endK cf32.res) ρ M) n
def b32_5 (c : CallT) (nl lo : Nat) : Nat → AV → AV → AV → AV → MM → Option (AV × MM)
 | 0, _, _, _, _, _ => none
 | n + 1, x3, x7, x8, x9, M =>
 opt (binA .lss .none x9 x8) fun v7 =>
 isB v7 fun c8 => if c8 then (opt (ixsA 2 x7 x9) fun v9 =>
 opt (ldnA (lk M) 2 v9) fun v10 =>
 upK M M.nx fun M12 =>
 opt (setcA 0 2 (.agg [.str ⟨⟨[]⟩⟩, .d (.sl [] 0)]) v10) fun v13 =>
 opt (fldA 0 2 true v13) fun v15 =>
 opt (puA c (lk M12) 32 [v15]) fun v16 =>
 opt (binA .add .none x3 v16) fun v17 =>
 opt (binA .add .none x9 (.i 1)) fun v19 =>
 (b32_5 c nl lo n) v17 x7 x8 v19 M12)
 else (b32_3 c nl lo x3 M)
theorem t32_5 (c : CallT) (nl lo : Nat) : ∀ (n : Nat) (ρ : Rg) (M : MM), k32_5 c nl lo n ρ M = b32_5 c nl lo n (ρ 3) (ρ 7) (ρ 8) (ρ 9) M
 | 0, ρ, M => rfl
 | n + 1, ρ, M => by
  have h : ∀ (zb z0 : Rg → MM → Option (AV × MM)), execC c modeF lo nl p32_13 zb (fun i ρ M => if i = 0 then z0 ρ M else noE i ρ M) (endK cf32.res) ρ M = (opt (binA .lss .none (ρ 9) (ρ 8)) fun v7 =>
  isB v7 fun c8 => if c8 then (opt (ixsA 2 (ρ 7) (ρ 9)) fun v9 =>
  opt (ldnA (lk M) 2 v9) fun v10 =>
  upK M M.nx fun M12 =>
  opt (setcA 0 2 (.agg [.str ⟨⟨[]⟩⟩, .d (.sl [] 0)]) v10) fun v13 =>
  opt (fldA 0 2 true v13) fun v15 =>
  opt (puA c (lk M12) 32 [v15]) fun v16 =>
  opt (binA .add .none (ρ 3) v16) fun v17 =>
  opt (binA .add .none (ρ 9) (.i 1)) fun v19 =>
  zb (sF (sF (sF (sF (sF (sF (sF (sF (sF (sF (sF (sF ρ 10 v7) 11 v9) 12 v10) 5 (.agg [.str ⟨⟨[]⟩⟩, .d (.sl [] 0)])) 5 v13) 13 (ρ 3)) 14 v15) 15 v16) 16 v17) 3 v17) 17 v19) 9 v19) M12)
  else (z0 (sF ρ 10 v7) M)) := by intros; kernel_rfl
  refine (h (k32_5 c nl lo n) (k32_3 c nl lo)).trans ?_
  unfold b32_5; simp only [(t32_3 c nl lo), (t32_5 c nl lo n)] <;> (show _ = _; kernel_rfl)
def k32_4 (c : CallT) (nl lo : Nat) : Rg → MM → Option (AV × MM) := (execC c modeF lo nl p32_16 (k32_3 c nl lo) noE (endK cf32.res))
@[reducible] def b32_4 (c : CallT) (nl lo : Nat) (x1 x3 : AV) (M : MM) : Option (AV × MM) :=
 opt (fldA 0 0 true x1) fun v3 =>
 opt (fldA 1 1 false x1) fun v4 =>
 opt (lenA v4) fun v5 =>
 b32_5 c nl lo nl x3 v4 v5 (.i 0) M
theorem t32_4 (c : CallT) (nl lo : Nat) (ρ : Rg) (M : MM) : k32_4 c nl lo ρ M = b32_4 c nl lo (ρ 1) (ρ 3) M := by
 have h : k32_4 c nl lo ρ M = (opt (fldA 0 0 true (ρ 1)) fun v3 =>
 opt (fldA 1 1 false (ρ 1)) fun v4 =>
 opt (lenA v4) fun v5 =>
 k32_5 c nl lo nl (sF (sF (sF (sF ρ 6 v3) 7 v4) 8 v5) 9 (.i 0)) M) := by kernel_rfl
 rw [h]
 unfold b32_4; simp only [(t32_5 c nl lo nl)] <;> (show _ = _; kernel_rfl)
def k32_2 (c : CallT) (nl lo : Nat) : Rg → MM → Option (AV × MM) := (execC c modeF lo nl p32_19 (endK cf32.res) noE (endK cf32.res))
@[reducible] def b32_2 (c : CallT) (nl lo : Nat) (x1 x3 : AV) (M : MM) : Option (AV × MM) :=
 b32_4 c nl lo x1 x3 M
theorem t32_2 (c : CallT) (nl lo : Nat) (ρ : Rg) (M : MM) : k32_2 c nl lo ρ M = b32_2 c nl lo (ρ 1) (ρ 3) M := by
 have h : k32_2 c nl lo ρ M = (k32_4 c nl lo ρ M) := execC_seq c modeF lo nl p32_16 p32_18 (endK cf32.res) noE (endK cf32.res) ρ M
 rw [h]
 unfold b32_2; simp only [(t32_4 c nl lo)] <;> (show _ = _; kernel_rfl)
def k32_6 (c : CallT) (nl lo : Nat) : Rg → MM → Option (AV × MM) := (execC c modeF lo nl p32_2 (k32_2 c nl lo) noE (endK cf32.res))
@[reducible] def b32_6 (c : CallT) (nl lo : Nat) (x1 : AV) (M : MM) : Option (AV × MM) :=
 b32_2 c nl lo x1 (.i 1) M
theorem t32_6 (c : CallT) (nl lo : Nat) (ρ : Rg) (M : MM) : k32_6 c nl lo ρ M = b32_6 c nl lo (ρ 1) M := by
 have h : ∀ (z0 : Rg → MM → Option (AV × MM)), (execC c modeF lo nl p32_2 z0 noE (endK cf32.res)) ρ M = (z0 (sF ρ 3 (.i 1)) M) := by intros; kernel_rfl
 refine (h (k32_2 c nl lo)).trans ?_
 unfold b32_6; simp only [(t32_2 c nl lo)] <;> (show _ = _; kernel_rfl)
def k32_1 (c : CallT) (nl lo : Nat) : Rg → MM → Option (AV × MM) := (execC c modeF lo nl p32_20 (endK cf32.res) noE (endK cf32.res))
@[reducible] def b32_1 (c : CallT) (nl lo : Nat) (x1 : AV) (M : MM) : Option (AV × MM) :=
 b32_6 c nl lo x1 M
theorem t32_1 (c : CallT) (nl lo : Nat) (ρ : Rg) (M : MM) : k32_1 c nl lo ρ M = b32_1 c nl lo (ρ 1) M := by
 have h : k32_1 c nl lo ρ M = (k32_6 c nl lo ρ M) := execC_seq c modeF lo nl p32_2 p32_19 (endK cf32.res) noE (endK cf32.res) ρ M
 rw [h]
 unfold b32_1; simp only [(t32_6 c nl lo)] <;> (show _ = _; kernel_rfl)
def k32_7 (c : CallT) (nl lo : Nat) : Rg → MM → Option (AV × MM) := (execC c modeF lo nl p32_1 (k32_1 c nl lo) noE (endK cf32.res))
@[reducible] def b32_7 (c : CallT) (nl lo : Nat) (x0 : AV) (M : MM) : Option (AV × MM) :=
 opt (aggA x0) fun v1 =>
 upK M M.nx fun M2 =>
 b32_1 c nl lo v1 M2
theorem t32_7 (c : CallT) (nl lo : Nat) (ρ : Rg) (M : MM) : k32_7 c nl lo ρ M = b32_7 c nl lo (ρ 0) M := by
 have h : ∀ (z0 : Rg → MM → Option (AV × MM)), (execC c modeF lo nl p32_1 z0 noE (endK cf32.res)) ρ M = (opt (aggA (ρ 0)) fun v1 =>
 upK M M.nx fun M2 =>
 z0 (sF (sF ρ 1 v1) 2 (.i 0)) M2) := by intros; kernel_rfl
 refine (h (k32_1 c nl lo)).trans ?_
 unfold b32_7; simp only [(t32_1 c nl lo)] <;> (show _ = _; kernel_rfl)
def k32_0 (c : CallT) (nl lo : Nat) : Rg → MM → Option (AV × MM) := (execC c modeF lo nl p32_21 (endK cf32.res) noE (endK cf32.res))
@[reducible] def b32_0 (c : CallT) (nl lo : Nat) (x0 : AV) (M : MM) : Option (AV × MM) :=
 b32_7 c nl lo x0 M
theorem t32_0 (c : CallT) (nl lo : Nat) (ρ : Rg) (M : MM) : k32_0 c nl lo ρ M = b32_0 c nl lo (ρ 0) M := by
 have h : k32_0 c nl lo ρ M = (k32_7 c nl lo ρ M) := execC_seq c modeF lo nl p32_1 p32_20 (endK cf32.res) noE (endK cf32.res) ρ M
 rw [h]
 unfold b32_0; simp only [(t32_7 c nl lo)] <;> (show _ = _; kernel_rfl)
def k32_8 (c : CallT) (nl lo : Nat) : Rg → MM → Option (AV × MM) := (execC c modeF lo nl p32_0 (k32_0 c nl lo) noE (endK cf32.res))
@[reducible] def b32_8 (c : CallT) (nl lo : Nat) (x0 : AV) (M : MM) : Option (AV × MM) :=
 b32_0 c nl lo x0 M
theorem t32_8 (c : CallT) (nl lo : Nat) (ρ : Rg) (M : MM) : k32_8 c nl lo ρ M = b32_8 c nl lo (ρ 0) M := by
 have h : ∀ (z0 : Rg → MM → Option (AV × MM)), (execC c modeF lo nl p32_0 z0 noE (endK cf32.res)) ρ M = (z0 (sF (sF ρ 1 (.tup [])) 5 (.tup [])) M) := by intros; kernel_rfl
 refine (h (k32_0 c nl lo)).trans ?_
 unfold b32_8; simp only [(t32_0 c nl lo)] <;> (show _ = _; kernel_rfl)
def s32 (c : CallT) (nl lo : Nat) (a0 : AV) (M : MM) : Option (AV × MM) :=
 b32_8 c nl lo a0 M
theorem e32 (c : CallT) (nl lo : Nat) (a0 : AV) (M : MM) : execC c modeF lo nl cf32.body (endK cf32.res) noE (endK cf32.res) (aF [a0]) M = s32 c nl lo a0 M := by
 have h : execC c modeF lo nl cf32.body (endK cf32.res) noE (endK cf32.res) (aF [a0]) M = (k32_8 c nl lo (aF [a0]) M) := execC_seq c modeF lo nl p32_0 p32_21 (endK cf32.res) noE (endK cf32.res) (aF [a0]) M
 refine h.trans ?_
 unfold s32; simp only [(t32_8 c nl lo)] <;> (show _ = _; kernel_rfl)
theorem q32 {c : CallT} (hc : Lim G c) (lo : Nat) (a0 : AV) (M : MM) : c 32 [a0] lo M = s32 c G.nl lo a0 M :=
 (hc.flow (cf := cf32) rfl w32 [a0] lo M).trans (e32 c G.nl lo a0 M)

/-! ### function 33 -/
theorem w33 : wfK cf33.nt cf33.body = true := by kernel_rfl
def s33 (c : CallT) (nl lo : Nat) (a0 : AV) (M : MM) : Option (AV × MM) :=
 opt (aggA a0) fun v2 =>
 upK M M.nx fun M3 =>
 opt (fldA 0 2 true v2) fun v5 =>
 opt (puA c (lk M3) 21 [v5]) fun v6 =>
 opt (lenA v6) fun v7 =>
 opt (binA .eql .none v7 (.i 0)) fun v8 =>
 some (v8, M3)
theorem e33 (c : CallT) (nl lo : Nat) (a0 : AV) (M : MM) : execC c modeF lo nl cf33.body (endK cf33.res) noE (endK cf33.res) (aF [a0]) M = s33 c nl lo a0 M := by
 kernel_rfl
theorem q33 {c : CallT} (hc : Lim G c) (lo : Nat) (a0 : AV) (M : MM) : c 33 [a0] lo M = s33 c G.nl lo a0 M :=
 (hc.flow (cf := cf33) rfl w33 [a0] lo M).trans (e33 c G.nl lo a0 M)

/-! ### function 34 -/
theorem w34 : wfK cf34.nt cf34.body = true := by kernel_rfl
def s34 (c : CallT) (nl lo : Nat) (a0 : AV) (M : MM) : Option (AV × MM) :=
 opt (aggA a0) fun v2 =>
 upK M M.nx fun M3 =>
 opt (fldA 0 2 true v2) fun v5 =>
 opt (puA c (lk M3) 64 [v5]) fun v6 =>
 some (v6, M3)
theorem e34 (c : CallT) (nl lo : Nat) (a0 : AV) (M : MM) : execC c modeF lo nl cf34.body (endK cf34.res) noE (endK cf34.res) (aF [a0]) M = s34 c nl lo a0 M := by
 kernel_rfl
theorem q34 {c : CallT} (hc : Lim G c) (lo : Nat) (a0 : AV) (M : MM) : c 34 [a0] lo M = s34 c G.nl lo a0 M :=
 (hc.flow (cf := cf34) rfl w34 [a0] lo M).trans (e34 c G.nl lo a0 M)

/-! ### function 35 -/
theorem w35 : wfK cf35.nt cf35.body = true := by kernel_rfl
def s35 (c : CallT) (nl lo : Nat) (a0 : AV) (M : MM) : Option (AV × MM) :=
 opt (puA c (lk M) 65 [a0, (.str ⟨⟨[46]⟩⟩)]) fun v5 =>
 opt (extA 0 v5) fun v7 =>
 opt (extA 1 v5) fun v8 =>
 opt (extA 2 v5) fun v9 =>
 opt (unA .not v9) fun v14 =>
 opt (gdp v14 false (some v7)) fun v16 =>
 opt (gdp v14 false (binA .eql .none v16 (.str ⟨⟨[]⟩⟩))) fun v17 =>
 opt (pickA v14 (.bool true) v17) fun v18 =>
 opt (gdp v18 false (some v8)) fun v20 =>
 opt (gdp v18 false (binA .eql .none v20 (.str ⟨⟨[]⟩⟩))) fun v21 =>
 opt (pickA v18 (.bool true) v21) fun v22 =>
 opt (gdp v22 false (some v8)) fun v24 =>
 opt (gdp v22 false (puA c (lk M) 61 [v24, (.str ⟨⟨[46]⟩⟩)])) fun v25 =>
 opt (pickA v22 (.bool true) v25) fun v26 =>
 isB v26 fun c27 => if c27 then (some (.tup [(.str ⟨⟨[]⟩⟩), (.str ⟨⟨[]⟩⟩), (.bool false)], M))
 else (some (.tup [v7, v8, (.bool true)], M))
theorem e35 (c : CallT) (nl lo : Nat) (a0 : AV) (M : MM) : execC c modeF lo nl cf35.body (endK cf35.res) noE (endK cf35.res) (aF [a0]) M = s35 c nl lo a0 M := by
 kernel_rfl
theorem q35 {c : CallT} (hc : Lim G c) (lo : Nat) (a0 : AV) (M : MM) : c 35 [a0] lo M = s35 c G.nl lo a0 M :=
 (hc.flow (cf := cf35) rfl w35 [a0] lo M).trans (e35 c G.nl lo a0 M)

/-! ### function 36 -/
theorem w36 : wfK cf36.nt cf36.body = true := by kernel_rfl
def k36_4 (c : CallT) (nl lo : Nat) : Rg → MM → Option (AV × MM) := (execC c modeF lo nl p36_17 (endK cf36.res) noE (endK cf36.res))
@[reducible] def b36_4 (c : CallT) (nl lo : Nat) (x0 x5 : AV) (M : MM) : Option (AV × MM) :=
 bumpK M 10 fun M1 =>
 opt (slstrA x0 none (some x5)) fun v4 =>
 opt (binA .add .none x5 (.i 1)) fun v7 =>
 opt (slstrA x0 (some v7) none) fun v8 =>
 some (.tup [v4, v8, (.bool true)], M1)
theorem t36_4 (c : CallT) (nl lo : Nat) (ρ : Rg) (M : MM) : k36_4 c nl lo ρ M = b36_4 c nl lo (ρ 0) (ρ 5) M := by
 kernel_rfl
def k36_6 (c : CallT) (nl lo : Nat) (n : Nat) : Rg → MM → Option (AV × MM) := iterC (fun k ρ M => execC c modeF lo nl p36_13 k (fun i ρ M => if i = 0 then (k36_4 c nl lo) ρ M else noE i ρ M) (endK cf36.res) ρ M) n
def b36_6 (c : CallT) (nl lo : Nat) : Nat → AV → AV → MM → Option (AV × MM)
 | 0, _, _, _ => none
 | n + 1, x0, x5, M =>
 opt (ixcA x0 x5) fun v14 =>
 opt (binA .neq .none v14 (.int .u8 46)) fun v15 =>
 isB v15 fun c16 => if c16 then (opt (binA .add .none x5 (.i 1)) fun v18 =>
 (b36_6 c nl lo n) x0 v18 M)
 else (b36_4 c nl lo x0 x5 M)
theorem t36_6 (c : CallT) (nl lo : Nat) : ∀ (n : Nat) (ρ : Rg) (M : MM), k36_6 c nl lo n ρ M = b36_6 c nl lo n (ρ 0) (ρ 5) M
 | 0, ρ, M => rfl
 | n + 1, ρ, M => by
  have h : ∀ (zb z0 : Rg → MM → Option (AV × MM)), execC c modeF lo nl p36_13 zb (fun i ρ M => if i = 0 then z0 ρ M else noE i ρ M) (endK cf36.res) ρ M = (opt (ixcA (ρ 0) (ρ 5)) fun v14 =>
  opt (binA .neq .none v14 (.int .u8 46)) fun v15 =>
  isB v15 fun c16 => if c16 then (opt (binA .add .none (ρ 5) (.i 1)) fun v18 =>
  zb (sF (sF (sF (sF (sF (sF (sF ρ 22 (ρ 0)) 23 (ρ 5)) 24 v14) 25 v15) 26 (ρ 5)) 27 v18) 5 v18) M)
  else (z0 (sF (sF (sF (sF ρ 22 (ρ 0)) 23 (ρ 5)) 24 v14) 25 v15) M)) := by intros; kernel_rfl
  refine (h (k36_6 c nl lo n) (k36_4 c nl lo)).trans ?_
  unfold b36_6; simp only [(t36_4 c nl lo), (t36_6 c nl lo n)] <;> (show _ = _; kernel_rfl)
def k36_5 (c : CallT) (nl lo : Nat) : Rg → MM → Option (AV × MM) := (execC c modeF lo nl p36_15 (k36_4 c nl lo) noE (endK cf36.res))
@[reducible] def b36_5 (c : CallT) (nl lo : Nat) (x0 x5 : AV) (M : MM) : Option (AV × MM) :=
 b36_6 c nl lo nl x0 x5 M
theorem t36_5 (c : CallT) (nl lo : Nat) (ρ : Rg) (M : MM) : k36_5 c nl lo ρ M = b36_5 c nl lo (ρ 0) (ρ 5) M := by
 have h : k36_5 c nl lo ρ M = (k36_6 c nl lo nl ρ M) := by kernel_rfl
 rw [h]
 unfold b36_5; simp only [(t36_6 c nl lo nl)] <;> (show _ = _; kernel_rfl)
def k36_3 (c : CallT) (nl lo : Nat) : Rg → MM → Option (AV × MM) := (execC c modeF lo nl p36_18 (endK cf36.res) noE (endK cf36.res))
@[reducible] def b36_3 (c : CallT) (nl lo : Nat) (x0 x5 : AV) (M : MM) : Option (AV × MM) :=
 b36_5 c nl lo x0 x5 M
theorem t36_3 (c : CallT) (nl lo : Nat) (ρ : Rg) (M : MM) : k36_3 c nl lo ρ M = b36_3 c nl lo (ρ 0) (ρ 5) M := by
 have h : k36_3 c nl lo ρ M = (k36_5 c nl lo ρ M) := execC_seq c modeF lo nl p36_15 p36_17 (endK cf36.res) noE (endK cf36.res) ρ M
 rw [h]
 unfold b36_3; simp only [(t36_5 c nl lo)] <;> (show _ = _; kernel_rfl)
def k36_7 (c : CallT) (nl lo : Nat) : Rg → MM → Option (AV × MM) := (execC c modeF lo nl p36_7 (k36_3 c nl lo) noE (endK cf36.res))
@[reducible] def b36_7 (c : CallT) (nl lo : Nat) (x0 : AV) (M : MM) : Option (AV × MM) :=
 b36_3 c nl lo x0 (.i 0) M
theorem t36_7 (c : CallT) (nl lo : Nat) (ρ : Rg) (M : MM) : k36_7 c nl lo ρ M = b36_7 c nl lo (ρ 0) M := by
 have h : ∀ (z0 : Rg → MM → Option (AV × MM)), (execC c modeF lo nl p36_7 z0 noE (endK cf36.res)) ρ M = (z0 (sF ρ 5 (.i 0)) M) := by intros; kernel_rfl
 refine (h (k36_3 c nl lo)).trans ?_
 unfold b36_7; simp only [(t36_3 c nl lo)] <;> (show _ = _; kernel_rfl)
def k36_2 (c : CallT) (nl lo : Nat) : Rg → MM → Option (AV × MM) := (execC c modeF lo nl p36_19 (endK cf36.res) noE (endK cf36.res))
@[reducible] def b36_2 (c : CallT) (nl lo : Nat) (x0 : AV) (M : MM) : Option (AV × MM) :=
 b36_7 c nl lo x0 M
theorem t36_2 (c : CallT) (nl lo : Nat) (ρ : Rg) (M : MM) : k36_2 c nl lo ρ M = b36_2 c nl lo (ρ 0) M := by
 have h : k36_2 c nl lo ρ M = (k36_7 c nl lo ρ M) := execC_seq c modeF lo nl p36_7 p36_18 (endK cf36.res) noE (endK cf36.res) ρ M
 rw [h]
 unfold b36_2; simp only [(t36_7 c nl lo)] <;> (show _ = _; kernel_rfl)
def k36_8 (c : CallT) (nl lo : Nat) : Rg → MM → Option (AV × MM) := (execC c modeF lo nl p36_6 (k36_2 c nl lo) noE (endK cf36.res))
@[reducible] def b36_8 (c : CallT) (nl lo : Nat) (x0 : AV) (M : MM) : Option (AV × MM) :=
 opt (puA c (lk M) 63 [x0]) fun v2 =>
 opt (binA .neq .none v2 (.i 1)) fun v3 =>
 opt (gdp v3 false (some x0)) fun v5 =>
 opt (gdp v3 false (ixcA v5 (.i 0))) fun v6 =>
 opt (gdp v3 false (binA .eql .none v6 (.int .u8 46))) fun v7 =>
 opt (pickA v3 (.bool true) v7) fun v8 =>
 opt (gdp v8 false (some x0)) fun v10 =>
 opt (gdp v8 false (some x0)) fun v11 =>
 opt (gdp v8 false (lensA v11)) fun v12 =>
 opt (gdp v8 false (binA .sub .none v12 (.i 1))) fun v13 =>
 opt (gdp v8 false (ixcA v10 v13)) fun v14 =>
 opt (gdp v8 false (binA .eql .none v14 (.int .u8 46))) fun v15 =>
 opt (pickA v8 (.bool true) v15) fun v16 =>
 isB v16 fun c17 => if c17 then (some (.tup [(.str ⟨⟨[]⟩⟩), (.str ⟨⟨[]⟩⟩), (.bool false)], M))
 else (b36_2 c nl lo x0 M)
theorem t36_8 (c : CallT) (nl lo : Nat) (ρ : Rg) (M : MM) : k36_8 c nl lo ρ M = b36_8 c nl lo (ρ 0) M := by
 have h : ∀ (z0 : Rg → MM → Option (AV × MM)), (execC c modeF lo nl p36_6 z0 noE (endK cf36.res)) ρ M = (opt (puA c (lk M) 63 [(ρ 0)]) fun v2 =>
 opt (binA .neq .none v2 (.i 1)) fun v3 =>
 opt (gdp v3 false (some (ρ 0))) fun v5 =>
 opt (gdp v3 false (ixcA v5 (.i 0))) fun v6 =>
 opt (gdp v3 false (binA .eql .none v6 (.int .u8 46))) fun v7 =>
 opt (pickA v3 (.bool true) v7) fun v8 =>
 opt (gdp v8 false (some (ρ 0))) fun v10 =>
 opt (gdp v8 false (some (ρ 0))) fun v11 =>
 opt (gdp v8 false (lensA v11)) fun v12 =>
 opt (gdp v8 false (binA .sub .none v12 (.i 1))) fun v13 =>
 opt (gdp v8 false (ixcA v10 v13)) fun v14 =>
 opt (gdp v8 false (binA .eql .none v14 (.int .u8 46))) fun v15 =>
 opt (pickA v8 (.bool true) v15) fun v16 =>
 isB v16 fun c17 => if c17 then (some (.tup [(.str ⟨⟨[]⟩⟩), (.str ⟨⟨[]⟩⟩), (.bool false)], M))
 else (z0 (sF (sF (sF (sF (sF (sF (sF (sF (sF (sF (sF (sF (sF (sF (sF (sF ρ 6 (ρ 0)) 7 v2) 8 v3) 9 v3) 10 v5) 11 v6) 12 v7) 13 v8) 14 v8) 15 v10) 16 v11) 17 v12) 18 v13) 19 v14) 20 v15) 21 v16) M)) := by intros; kernel_rfl
 refine (h (k36_2 c nl lo)).trans ?_
 unfold b36_8; simp only [(t36_2 c nl lo)] <;> (show _ = _; kernel_rfl)
def k36_1 (c : CallT) (nl lo : Nat) : Rg → MM → Option (AV × MM) := (execC c modeF lo nl p36_20 (endK cf36.res) noE (endK cf36.res))
@[reducible] def b36_1 (c : CallT) (nl lo : Nat) (x0 : AV) (M : MM) : Option (AV × MM) :=
 b36_8 c nl lo x0 M
theorem t36_1 (c : CallT) (nl lo : Nat) (ρ : Rg) (M : MM) : k36_1 c nl lo ρ M = b36_1 c nl lo (ρ 0) M := by
 have h : k36_1 c nl lo ρ M = (k36_8 c nl lo ρ M) := execC_seq c modeF lo nl p36_6 p36_19 (endK cf36.res) noE (endK cf36.res) ρ M
 rw [h]
 unfold b36_1; simp only [(t36_8 c nl lo)] <;> (show _ = _; kernel_rfl)
def k36_9 (c : CallT) (nl lo : Nat) : Rg → MM → Option (AV × MM) := (execC c modeF lo nl p36_1 (k36_1 c nl lo) noE (endK cf36.res))
@[reducible] def b36_9 (c : CallT) (nl lo : Nat) (x0 : AV) (M : MM) : Option (AV × MM) :=
 b36_1 c nl lo x0 M
theorem t36_9 (c : CallT) (nl lo : Nat) (ρ : Rg) (M : MM) : k36_9 c nl lo ρ M = b36_9 c nl lo (ρ 0) M := by
 have h : ∀ (z0 : Rg → MM → Option (AV × MM)), (execC c modeF lo nl p36_1 z0 noE (endK cf36.res)) ρ M = (z0 (sF (sF (sF ρ 2 (.str ⟨⟨[]⟩⟩)) 3 (.str ⟨⟨[]⟩⟩)) 4 (.bool false)) M) := by intros; kernel_rfl
 refine (h (k36_1 c nl lo)).trans ?_
 unfold b36_9; simp only [(t36_1 c nl lo)] <;> (show _ = _; kernel_rfl)
def k36_0 (c : CallT) (nl lo : Nat) : Rg → MM → Option (AV × MM) := (execC c modeF lo nl p36_21 (endK cf36.res) noE (endK cf36.res))
@[reducible] def b36_0 (c : CallT) (nl lo : Nat) (x0 : AV) (M : MM) : Option (AV × MM) :=
 b36_9 c nl lo x0 M
theorem t36_0 (c : CallT) (nl lo : Nat) (ρ : Rg) (M : MM) : k36_0 c nl lo ρ M = b36_0 c nl lo (ρ 0) M := by
 have h : k36_0 c nl lo ρ M = (k36_9 c nl lo ρ M) := execC_seq c modeF lo nl p36_1 p36_20 (endK cf36.res) noE (endK cf36.res) ρ M
 rw [h]
 unfold b36_0; simp only [(t36_9 c nl lo)] <;> (show _ = _; kernel_rfl)
def k36_10 (c : CallT) (nl lo : Nat) : Rg → MM → Option (AV × MM) := (execC c modeF lo nl p36_0 (k36_0 c nl lo) noE (endK cf36.res))
@[reducible] def b36_10 (c : CallT) (nl lo : Nat) (x0 : AV) (M : MM) : Option (AV × MM) :=
 b36_0 c nl lo x0 M
theorem t36_10 (c : CallT) (nl lo : Nat) (ρ : Rg) (M : MM) : k36_10 c nl lo ρ M = b36_10 c nl lo (ρ 0) M := by
 have h : ∀ (z0 : Rg → MM → Option (AV × MM)), (execC c modeF lo nl p36_0 z0 noE (endK cf36.res)) ρ M = (z0 ρ M) := by intros; kernel_rfl
 refine (h (k36_0 c nl lo)).trans ?_
 unfold b36_10; simp only [(t36_0 c nl lo)] <;> (show _ = _; kernel_rfl)
def s36 (c : CallT) (nl lo : Nat) (a0 : AV) (M : MM) : Option (AV × MM) :=
 b36_10 c nl lo a0 M
theorem e36 (c : CallT) (nl lo : Nat) (a0 : AV) (M : MM) : execC c modeF lo nl cf36.body (endK cf36.res) noE (endK cf36.res) (aF [a0]) M = s36 c nl lo a0 M := by
 have h : execC c modeF lo nl cf36.body (endK cf36.res) noE (endK cf36.res) (aF [a0]) M = (k36_10 c nl lo (aF [a0]) M) := execC_seq c modeF lo nl p36_0 p36_21 (endK cf36.res) noE (endK cf36.res) (aF [a0]) M
 refine h.trans ?_
 unfold s36; simp only [(t36_10 c nl lo)] <;> (show _ = _; kernel_rfl)
theorem q36 {c : CallT} (hc : Lim G c) (lo : Nat) (a0 : AV) (M : MM) : c 36 [a0] lo M = s36 c G.nl lo a0 M :=
 (hc.flow (cf := cf36) rfl w36 [a0] lo M).trans (e36 c G.nl lo a0 M)

/-! ### function 37 -/
theorem w37 : wfK cf37.nt cf37.body = true := by kernel_rfl
def s37 (c : CallT) (nl lo : Nat) (a0 : AV) (M : MM) : Option (AV × MM) :=
 opt (binA .eql .none a0 (.str ⟨⟨[73, 110, 116]⟩⟩)) fun v3 =>
 opt (gdp v3 false (some a0)) fun v5 =>
 opt (gdp v3 false (binA .eql .none v5 (.str ⟨⟨[66, 121, 116, 101]⟩⟩))) fun v6 =>
 opt (pickA v3 (.bool true) v6) fun v7 =>
 opt (gdp v7 false (some a0)) fun v9 =>
 opt (gdp v7 false (binA .eql .none v9 (.str ⟨⟨[66, 111, 111, 108]⟩⟩))) fun v10 =>
 opt (pickA v7 (.bool true) v10) fun v11 =>
 opt (gdp v11 false (some a0)) fun v13 =>
 opt (gdp v11 false (binA .eql .none v13 (.str ⟨⟨[65, 114, 114, 97, 121]⟩⟩))) fun v14 =>
 opt (pickA v11 (.bool true) v14) fun v15 =>
 some (v15, M)
theorem e37 (c : CallT) (nl lo : Nat) (a0 : AV) (M : MM) : execC c modeF lo nl cf37.body (endK cf37.res) noE (endK cf37.res) (aF [a0]) M = s37 c nl lo a0 M := by
 kernel_rfl
theorem q37 {c : CallT} (hc : Lim G c) (lo : Nat) (a0 : AV) (M : MM) : c 37 [a0] lo M = s37 c G.nl lo a0 M :=
 (hc.flow (cf := cf37) rfl w37 [a0] lo M).trans (e37 c G.nl lo a0 M)

/-! ### function 38 -/
theorem w38 : wfK cf38.nt cf38.body = true := by kernel_rfl
def s38 (c : CallT) (nl lo : Nat) (a0 : AV) (M : MM) : Option (AV × MM) :=
 opt (binA .eql .none a0 (.str ⟨⟨[73, 110, 116]⟩⟩)) fun v3 =>
 opt (gdp v3 false (some a0)) fun v5 =>
 opt (gdp v3 false (binA .eql .none v5 (.str ⟨⟨[66, 121, 116, 101]⟩⟩))) fun v6 =>
 opt (pickA v3 (.bool true) v6) fun v7 =>
 opt (gdp v7 false (some a0)) fun v9 =>
 opt (gdp v7 false (binA .eql .none v9 (.str ⟨⟨[66, 111, 111, 108]⟩⟩))) fun v10 =>
 opt (pickA v7 (.bool true) v10) fun v11 =>
 opt (gdp v11 false (some a0)) fun v13 =>
 opt (gdp v11 false (binA .eql .none v13 (.str ⟨⟨[65, 114, 114, 97, 121]⟩⟩))) fun v14 =>
 opt (pickA v11 (.bool true) v14) fun v15 =>
 some (v15, M)
theorem e38 (c : CallT) (nl lo : Nat) (a0 : AV) (M : MM) : execC c modeF lo nl cf38.body (endK cf38.res) noE (endK cf38.res) (aF [a0]) M = s38 c nl lo a0 M := by
 kernel_rfl
theorem q38 {c : CallT} (hc : Lim G c) (lo : Nat) (a0 : AV) (M : MM) : c 38 [a0] lo M = s38 c G.nl lo a0 M :=
 (hc.flow (cf := cf38) rfl w38 [a0] lo M).trans (e38 c G.nl lo a0 M)

/-! ### function 39 -/
theorem w39 : wfK cf39.nt cf39.body = true := by kernel_rfl
def s39 (c : CallT) (nl lo : Nat) (a0 a1 : AV) (M : MM) : Option (AV × MM) :=
 opt (puA c (lk M) 66 [a0, a1]) fun v4 =>
 some (v4, M)
theorem e39 (c : CallT) (nl lo : Nat) (a0 a1 : AV) (M : MM) : execC c modeF lo nl cf39.body (endK cf39.res) noE (endK cf39.res) (aF [a0, a1]) M = s39 c nl lo a0 a1 M := by
 kernel_rfl
theorem q39 {c : CallT} (hc : Lim G c) (lo : Nat) (a0 a1 : AV) (M : MM) : c 39 [a0, a1] lo M = s39 c G.nl lo a0 a1 M :=
 (hc.flow (cf := cf39) rfl w39 [a0, a1] lo M).trans (e39 c G.nl lo a0 a1 M)

/-! ### function 40 -/
theorem w40 : wfK cf40.nt cf40.body = true := by kernel_rfl
def k40_2 (c : CallT) (nl lo : Nat) : Rg → MM → Option (AV × MM) := (execC c modeF lo nl p40_37 (endK cf40.res) noE (endK cf40.res))
@[reducible] def b40_2 (c : CallT) (nl lo : Nat) (x0 x1 : AV) (M : MM) : Option (AV × MM) :=
 opt (lenA x0) fun v2 =>
 opt (lenA x1) fun v4 =>
 opt (binA .lss .none v2 v4) fun v5 =>
 isB v5 fun c6 => if c6 then (some ((.i (-1)), M))
 else (some ((.i 0), M))
theorem t40_2 (c : CallT) (nl lo : Nat) (ρ : Rg) (M : MM) : k40_2 c nl lo ρ M = b40_2 c nl lo (ρ 0) (ρ 1) M := by
 kernel_rfl
def k40_4 (c : CallT) (nl lo : Nat) (n : Nat) : Rg → MM → Option (AV × MM) := iterC (fun k ρ M => execC c modeF lo nl p40_26 k (fun i ρ M => if i = 0 then (k40_2 c nl lo) ρ M else noE i ρ M) (endK cf40.res) ρ M) n
def b40_4 (c : CallT) (nl lo : Nat) : Nat → AV → AV → AV → AV → AV → AV → MM → Option (AV × MM)
 | 0, _, _, _, _, _, _, _ => none
 | n + 1, x0, x1, x2, x11, x12, x13, M =>
 opt (binA .lss .none x13 x12) fun v12 =>
 isB v12 fun c13 => if c13 then (opt (ixsA 2 x11 x13) fun v15 =>
 opt (ldnA (lk M) 2 v15) fun v16 =>
 upK M M.nx fun M18 =>
 opt (setcA 0 2 (.agg [.str ⟨⟨[]⟩⟩, .d (.sl [] 0)]) v16) fun v20 =>
 opt (lenA x1) fun v23 =>
 opt (binA .geq .none x13 v23) fun v24 =>
 isB v24 fun c25 => if c25 then (some ((.i 1), M18))
 else (opt (ixsA 2 x1 x13) fun v29 =>
 opt (ldnA (lk M18) 2 v29) fun v30 =>
 upK M18 M18.nx fun M32 =>
 opt (setcA 0 2 (.agg [.str ⟨⟨[]⟩⟩, .d (.sl [] 0)]) v30) fun v33 =>
 opt (fldA 0 2 true v20) fun v35 =>
 opt (fldA 0 2 true v33) fun v36 =>
 bnd (istep c modeF false lo (.top M32.nx) M32.nx (.callw [52, 57] (.k x2) [(.k v35), (.k v36)]) [] M32) fun v37 M38 =>
 opt (binA .neq .none v37 (.i 0)) fun v41 =>
 isB v41 fun c42 => if c42 then (some (v37, M38))
 else (opt (binA .add .none x13 (.i 1)) fun v45 =>
 (b40_4 c nl lo n) x0 x1 x2 x11 x12 v45 M38)))
 else (b40_2 c nl lo x0 x1 M)
theorem t40_4 (c : CallT) (nl lo : Nat) : ∀ (n : Nat) (ρ : Rg) (M : MM), k40_4 c nl lo n ρ M = b40_4 c nl lo n (ρ 0) (ρ 1) (ρ 2) (ρ 11) (ρ 12) (ρ 13) M
 | 0, ρ, M => rfl
 | n + 1, ρ, M => by
  have h : ∀ (zb z0 : Rg → MM → Option (AV × MM)), execC c modeF lo nl p40_26 zb (fun i ρ M => if i = 0 then z0 ρ M else noE i ρ M) (endK cf40.res) ρ M = (opt (binA .lss .none (ρ 13) (ρ 12)) fun v12 =>
  isB v12 fun c13 => if c13 then (opt (ixsA 2 (ρ 11) (ρ 13)) fun v15 =>
  opt (ldnA (lk M) 2 v15) fun v16 =>
  upK M M.nx fun M18 =>
  opt (setcA 0 2 (.agg [.str ⟨⟨[]⟩⟩, .d (.sl [] 0)]) v16) fun v20 =>
  opt (lenA (ρ 1)) fun v23 =>
  opt (binA .geq .none (ρ 13) v23) fun v24 =>
  isB v24 fun c25 => if c25 then (some ((.i 1), M18))
  else (opt (ixsA 2 (ρ 1) (ρ 13)) fun v29 =>
  opt (ldnA (lk M18) 2 v29) fun v30 =>
  upK M18 M18.nx fun M32 =>
  opt (setcA 0 2 (.agg [.str ⟨⟨[]⟩⟩, .d (.sl [] 0)]) v30) fun v33 =>
  opt (fldA 0 2 true v20) fun v35 =>
  opt (fldA 0 2 true v33) fun v36 =>
  bnd (istep c modeF false lo (.top M32.nx) M32.nx (.callw [52, 57] (.k (ρ 2)) [(.k v35), (.k v36)]) [] M32) fun v37 M38 =>
  opt (binA .neq .none v37 (.i 0)) fun v41 =>
  isB v41 fun c42 => if c42 then (some (v37, M38))
  else (opt (binA .add .none (ρ 13) (.i 1)) fun v45 =>
  zb (sF (sF (sF (sF (sF (sF (sF (sF (sF (sF (sF (sF (sF (sF (sF (sF (sF (sF (sF (sF (sF (sF (sF (sF (sF (sF ρ 14 v12) 15 (ρ 13)) 16 v15) 17 v16) 8 (.agg [.str ⟨⟨[]⟩⟩, .d (.sl [] 0)])) 7 (ρ 13)) 8 v20) 18 (ρ 13)) 19 (ρ 1)) 20 v23) 21 v24) 22 (ρ 1)) 23 (ρ 13)) 24 v29) 25 v30) 9 (.agg [.str ⟨⟨[]⟩⟩, .d (.sl [] 0)])) 9 v33) 26 (ρ 2)) 27 v35) 28 v36) 29 v37) 10 v37) 30 v37) 31 v41) 33 v45) 13 v45) M38)))
  else (z0 (sF ρ 14 v12) M)) := by intros; kernel_rfl
  refine (h (k40_4 c nl lo n) (k40_2 c nl lo)).trans ?_
  unfold b40_4; simp only [(t40_2 c nl lo), (t40_4 c nl lo n)] <;> (show _ = _; kernel_rfl)
def k40_3 (c : CallT) (nl lo : Nat) : Rg → MM → Option (AV × MM) := (execC c modeF lo nl p40_29 (k40_2 c nl lo) noE (endK cf40.res))
@[reducible] def b40_3 (c : CallT) (nl lo : Nat) (x0 x1 x2 : AV) (M : MM) : Option (AV × MM) :=
 opt (lenA x0) fun v10 =>
 b40_4 c nl lo nl x0 x1 x2 x0 v10 (.i 0) M
theorem t40_3 (c : CallT) (nl lo : Nat) (ρ : Rg) (M : MM) : k40_3 c nl lo ρ M = b40_3 c nl lo (ρ 0) (ρ 1) (ρ 2) M := by
 have h : k40_3 c nl lo ρ M = (opt (lenA (ρ 0)) fun v10 =>
 k40_4 c nl lo nl (sF (sF (sF ρ 11 (ρ 0)) 12 v10) 13 (.i 0)) M) := by kernel_rfl
 rw [h]
 unfold b40_3; simp only [(t40_4 c nl lo nl)] <;> (show _ = _; kernel_rfl)
def k40_1 (c : CallT) (nl lo : Nat) : Rg → MM → Option (AV × MM) := (execC c modeF lo nl p40_38 (endK cf40.res) noE (endK cf40.res))
@[reducible] def b40_1 (c : CallT) (nl lo : Nat) (x0 x1 x2 : AV) (M : MM) : Option (AV × MM) :=
 b40_3 c nl lo x0 x1 x2 M
theorem t40_1 (c : CallT) (nl lo : Nat) (ρ : Rg) (M : MM) : k40_1 c nl lo ρ M = b40_1 c nl lo (ρ 0) (ρ 1) (ρ 2) M := by
 have h : k40_1 c nl lo ρ M = (k40_3 c nl lo ρ M) := execC_seq c modeF lo nl p40_29 p40_37 (endK cf40.res) noE (endK cf40.res) ρ M
 rw [h]
 unfold b40_1; simp only [(t40_3 c nl lo)] <;> (show _ = _; kernel_rfl)
def k40_5 (c : CallT) (nl lo : Nat) : Rg → MM → Option (AV × MM) := (execC c modeF lo nl p40_1 (k40_1 c nl lo) noE (endK cf40.res))
@[reducible] def b40_5 (c : CallT) (nl lo : Nat) (x0 x1 x2 : AV) (M : MM) : Option (AV × MM) :=
 b40_1 c nl lo x0 x1 x2 M
theorem t40_5 (c : CallT) (nl lo : Nat) (ρ : Rg) (M : MM) : k40_5 c nl lo ρ M = b40_5 c nl lo (ρ 0) (ρ 1) (ρ 2) M := by
 have h : ∀ (z0 : Rg → MM → Option (AV × MM)), (execC c modeF lo nl p40_1 z0 noE (endK cf40.res)) ρ M = (z0 (sF ρ 6 (.i 0)) M) := by intros; kernel_rfl
 refine (h (k40_1 c nl lo)).trans ?_
 unfold b40_5; simp only [(t40_1 c nl lo)] <;> (show _ = _; kernel_rfl)
def k40_0 (c : CallT) (nl lo : Nat) : Rg → MM → Option (AV × MM) := (execC c modeF lo nl p40_39 (endK cf40.res) noE (endK cf40.res))
@[reducible] def b40_0 (c : CallT) (nl lo : Nat) (x0 x1 x2 : AV) (M : MM) : Option (AV × MM) :=
 b40_5 c nl lo x0 x1 x2 M
theorem t40_0 (c : CallT) (nl lo : Nat) (ρ : Rg) (M : MM) : k40_0 c nl lo ρ M = b40_0 c nl lo (ρ 0) (ρ 1) (ρ 2) M := by
 have h : k40_0 c nl lo ρ M = (k40_5 c nl lo ρ M) := execC_seq c modeF lo nl p40_1 p40_38 (endK cf40.res) noE (endK cf40.res) ρ M
 rw [h]
 unfold b40_0; simp only [(t40_5 c nl lo)] <;> (show _ = _; kernel_rfl)
def k40_6 (c : CallT) (nl lo : Nat) : Rg → MM → Option (AV × MM) := (execC c modeF lo nl p40_0 (k40_0 c nl lo) noE (endK cf40.res))
@[reducible] def b40_6 (c : CallT) (nl lo : Nat) (x0 x1 x2 : AV) (M : MM) : Option (AV × MM) :=
 b40_0 c nl lo x0 x1 x2 M
theorem t40_6 (c : CallT) (nl lo : Nat) (ρ : Rg) (M : MM) : k40_6 c nl lo ρ M = b40_6 c nl lo (ρ 0) (ρ 1) (ρ 2) M := by
 have h : ∀ (z0 : Rg → MM → Option (AV × MM)), (execC c modeF lo nl p40_0 z0 noE (endK cf40.res)) ρ M = (z0 (sF (sF ρ 8 (.tup [])) 9 (.tup [])) M) := by intros; kernel_rfl
 refine (h (k40_0 c nl lo)).trans ?_
 unfold b40_6; simp only [(t40_0 c nl lo)] <;> (show _ = _; kernel_rfl)
def s40 (c : CallT) (nl lo : Nat) (a0 a1 a2 : AV) (M : MM) : Option (AV × MM) :=
 b40_6 c nl lo a0 a1 a2 M
theorem e40 (c : CallT) (nl lo : Nat) (a0 a1 a2 : AV) (M : MM) : execC c modeF lo nl cf40.body (endK cf40.res) noE (endK cf40.res) (aF [a0, a1, a2]) M = s40 c nl lo a0 a1 a2 M := by
 have h : execC c modeF lo nl cf40.body (endK cf40.res) noE (endK cf40.res) (aF [a0, a1, a2]) M = (k40_6 c nl lo (aF [a0, a1, a2]) M) := execC_seq c modeF lo nl p40_0 p40_39 (endK cf40.res) noE (endK cf40.res) (aF [a0, a1, a2]) M
 refine h.trans ?_
 unfold s40; simp only [(t40_6 c nl lo)] <;> (show _ = _; kernel_rfl)
theorem q40 {c : CallT} (hc : Lim G c) (lo : Nat) (a0 a1 a2 : AV) (M : MM) : c 40 [a0, a1, a2] lo M = s40 c G.nl lo a0 a1 a2 M :=
 (hc.flow (cf := cf40) rfl w40 [a0, a1, a2] lo M).trans (e40 c G.nl lo a0 a1 a2 M)

/-! ### function 41 -/
theorem w41 : wfK cf41.nt cf41.body = true := by kernel_rfl
def k41_3 (c : CallT) (nl lo : Nat) : Rg → MM → Option (AV × MM) := (execC c modeF lo nl p41_28 (endK cf41.res) noE (endK cf41.res))
@[reducible] def b41_3 (c : CallT) (nl lo : Nat) (M : MM) : Option (AV × MM) :=
 some ((.bool true), M)
theorem t41_3 (c : CallT) (nl lo : Nat) (ρ : Rg) (M : MM) : k41_3 c nl lo ρ M = b41_3 c nl lo M := by
 kernel_rfl
def k41_5 (c : CallT) (nl lo : Nat) (n : Nat) : Rg → MM → Option (AV × MM) := iterC (fun k ρ M => execC c modeF lo nl p41_23 k (fun i ρ M => if i = 0 then (k41_3 c nl lo) ρ M else noE i ρ M) (endK cf41.res) ρ M) n
def b41_5 (c : CallT) (nl lo : Nat) : Nat → AV → AV → AV → AV → AV → MM → Option (AV × MM)
 | 0, _, _, _, _, _, _ => none
 | n + 1, x1, x2, x15, x16, x17, M =>
 opt (binA .lss .none x17 x16) fun v5 =>
 isB v5 fun c6 => if c6 then (opt (ixsA 2 x15 x17) fun v8 =>
 opt (ldnA (lk M) 2 v8) fun v9 =>
 upK M M.nx fun M11 =>
 opt (setcA 0 2 (.agg [.str ⟨⟨[]⟩⟩, .d (.sl [] 0)]) v9) fun v13 =>
 opt (ixsA 2 x1 x17) fun v16 =>
 opt (ldnA (lk M11) 2 v16) fun v17 =>
 upK M11 M11.nx fun M19 =>
 opt (setcA 0 2 (.agg [.str ⟨⟨[]⟩⟩, .d (.sl [] 0)]) v17) fun v20 =>
 opt (fldA 0 2 true v13) fun v22 =>
 opt (fldA 0 2 true v20) fun v23 =>
 bnd (istep c modeF false lo (.top M19.nx) M19.nx (.callw [52, 57] (.k x2) [(.k v22), (.k v23)]) [] M19) fun v24 M25 =>
 opt (unA .not v24) fun v26 =>
 isB v26 fun c27 => if c27 then (some ((.bool false), M25))
 else (opt (binA .add .none x17 (.i 1)) fun v29 =>
 (b41_5 c nl lo n) x1 x2 x15 x16 v29 M25))
 else (b41_3 c nl lo M)
theorem t41_5 (c : CallT) (nl lo : Nat) : ∀ (n : Nat) (ρ : Rg) (M : MM), k41_5 c nl lo n ρ M = b41_5 c nl lo n (ρ 1) (ρ 2) (ρ 15) (ρ 16) (ρ 17) M
 | 0, ρ, M => rfl
 | n + 1, ρ, M => by
  have h : ∀ (zb z0 : Rg → MM → Option (AV × MM)), execC c modeF lo nl p41_23 zb (fun i ρ M => if i = 0 then z0 ρ M else noE i ρ M) (endK cf41.res) ρ M = (opt (binA .lss .none (ρ 17) (ρ 16)) fun v5 =>
  isB v5 fun c6 => if c6 then (opt (ixsA 2 (ρ 15) (ρ 17)) fun v8 =>
  opt (ldnA (lk M) 2 v8) fun v9 =>
  upK M M.nx fun M11 =>
  opt (setcA 0 2 (.agg [.str ⟨⟨[]⟩⟩, .d (.sl [] 0)]) v9) fun v13 =>
  opt (ixsA 2 (ρ 1) (ρ 17)) fun v16 =>
  opt (ldnA (lk M11) 2 v16) fun v17 =>
  upK M11 M11.nx fun M19 =>
  opt (setcA 0 2 (.agg [.str ⟨⟨[]⟩⟩, .d (.sl [] 0)]) v17) fun v20 =>
  opt (fldA 0 2 true v13) fun v22 =>
  opt (fldA 0 2 true v20) fun v23 =>
  bnd (istep c modeF false lo (.top M19.nx) M19.nx (.callw [52, 57] (.k (ρ 2)) [(.k v22), (.k v23)]) [] M19) fun v24 M25 =>
  opt (unA .not v24) fun v26 =>
  isB v26 fun c27 => if c27 then (some ((.bool false), M25))
  else (opt (binA .add .none (ρ 17) (.i 1)) fun v29 =>
  zb (sF (sF (sF (sF (sF (sF (sF (sF (sF (sF (sF (sF (sF (sF (sF (sF (sF (sF (sF (sF ρ 18 v5) 19 (ρ 17)) 20 v8) 21 v9) 8 (.agg [.str ⟨⟨[]⟩⟩, .d (.sl [] 0)])) 7 (ρ 17)) 8 v13) 22 (ρ 1)) 23 (ρ 17)) 24 v16) 25 v17) 9 (.agg [.str ⟨⟨[]⟩⟩, .d (.sl [] 0)])) 9 v20) 26 (ρ 2)) 27 v22) 28 v23) 29 v24) 30 v26) 31 v29) 17 v29) M25))
  else (z0 (sF ρ 18 v5) M)) := by intros; kernel_rfl
  refine (h (k41_5 c nl lo n) (k41_3 c nl lo)).trans ?_
  unfold b41_5; simp only [(t41_3 c nl lo), (t41_5 c nl lo n)] <;> (show _ = _; kernel_rfl)
def k41_4 (c : CallT) (nl lo : Nat) : Rg → MM → Option (AV × MM) := (execC c modeF lo nl p41_26 (k41_3 c nl lo) noE (endK cf41.res))
@[reducible] def b41_4 (c : CallT) (nl lo : Nat) (x0 x1 x2 : AV) (M : MM) : Option (AV × MM) :=
 opt (lenA x0) fun v3 =>
 b41_5 c nl lo nl x1 x2 x0 v3 (.i 0) M
theorem t41_4 (c : CallT) (nl lo : Nat) (ρ : Rg) (M : MM) : k41_4 c nl lo ρ M = b41_4 c nl lo (ρ 0) (ρ 1) (ρ 2) M := by
 have h : k41_4 c nl lo ρ M = (opt (lenA (ρ 0)) fun v3 =>
 k41_5 c nl lo nl (sF (sF (sF ρ 15 (ρ 0)) 16 v3) 17 (.i 0)) M) := by kernel_rfl
 rw [h]
 unfold b41_4; simp only [(t41_5 c nl lo nl)] <;> (show _ = _; kernel_rfl)
def k41_2 (c : CallT) (nl lo : Nat) : Rg → MM → Option (AV × MM) := (execC c modeF lo nl p41_29 (endK cf41.res) noE (endK cf41.res))
@[reducible] def b41_2 (c : CallT) (nl lo : Nat) (x0 x1 x2 : AV) (M : MM) : Option (AV × MM) :=
 b41_4 c nl lo x0 x1 x2 M
theorem t41_2 (c : CallT) (nl lo : Nat) (ρ : Rg) (M : MM) : k41_2 c nl lo ρ M = b41_2 c nl lo (ρ 0) (ρ 1) (ρ 2) M := by
 have h : k41_2 c nl lo ρ M = (k41_4 c nl lo ρ M) := execC_seq c modeF lo nl p41_26 p41_28 (endK cf41.res) noE (endK cf41.res) ρ M
 rw [h]
 unfold b41_2; simp only [(t41_4 c nl lo)] <;> (show _ = _; kernel_rfl)
def k41_6 (c : CallT) (nl lo : Nat) : Rg → MM → Option (AV × MM) := (execC c modeF lo nl p41_6 (k41_2 c nl lo) noE (endK cf41.res))
@[reducible] def b41_6 (c : CallT) (nl lo : Nat) (x0 x1 x2 : AV) (M : MM) : Option (AV × MM) :=
 opt (lenA x0) fun v2 =>
 opt (lenA x1) fun v4 =>
 opt (binA .neq .none v2 v4) fun v5 =>
 isB v5 fun c6 => if c6 then (some ((.bool false), M))
 else (b41_2 c nl lo x0 x1 x2 M)
theorem t41_6 (c : CallT) (nl lo : Nat) (ρ : Rg) (M : MM) : k41_6 c nl lo ρ M = b41_6 c nl lo (ρ 0) (ρ 1) (ρ 2) M := by
 have h : ∀ (z0 : Rg → MM → Option (AV × MM)), (execC c modeF lo nl p41_6 z0 noE (endK cf41.res)) ρ M = (opt (lenA (ρ 0)) fun v2 =>
 opt (lenA (ρ 1)) fun v4 =>
 opt (binA .neq .none v2 v4) fun v5 =>
 isB v5 fun c6 => if c6 then (some ((.bool false), M))
 else (z0 (sF (sF (sF (sF (sF ρ 10 (ρ 0)) 11 v2) 12 (ρ 1)) 13 v4) 14 v5) M)) := by intros; kernel_rfl
 refine (h (k41_2 c nl lo)).trans ?_
 unfold b41_6; simp only [(t41_2 c nl lo)] <;> (show _ = _; kernel_rfl)
def k41_1 (c : CallT) (nl lo : Nat) : Rg → MM → Option (AV × MM) := (execC c modeF lo nl p41_30 (endK cf41.res) noE (endK cf41.res))
@[reducible] def b41_1 (c : CallT) (nl lo : Nat) (x0 x1 x2 : AV) (M : MM) : Option (AV × MM) :=
 b41_6 c nl lo x0 x1 x2 M
theorem t41_1 (c : CallT) (nl lo : Nat) (ρ : Rg) (M : MM) : k41_1 c nl lo ρ M = b41_1 c nl lo (ρ 0) (ρ 1) (ρ 2) M := by
 have h : k41_1 c nl lo ρ M = (k41_6 c nl lo ρ M) := execC_seq c modeF lo nl p41_6 p41_29 (endK cf41.res) noE (endK cf41.res) ρ M
 rw [h]
 unfold b41_1; simp only [(t41_6 c nl lo)] <;> (show _ = _; kernel_rfl)
def k41_7 (c : CallT) (nl lo : Nat) : Rg → MM → Option (AV × MM) := (execC c modeF lo nl p41_1 (k41_1 c nl lo) noE (endK cf41.res))
@[reducible] def b41_7 (c : CallT) (nl lo : Nat) (x0 x1 x2 : AV) (M : MM) : Option (AV × MM) :=
 b41_1 c nl lo x0 x1 x2 M
theorem t41_7 (c : CallT) (nl lo : Nat) (ρ : Rg) (M : MM) : k41_7 c nl lo ρ M = b41_7 c nl lo (ρ 0) (ρ 1) (ρ 2) M := by
 have h : ∀ (z0 : Rg → MM → Option (AV × MM)), (execC c modeF lo nl p41_1 z0 noE (endK cf41.res)) ρ M = (z0 (sF ρ 6 (.bool false)) M) := by intros; kernel_rfl
 refine (h (k41_1 c nl lo)).trans ?_
 unfold b41_7; simp only [(t41_1 c nl lo)] <;> (show _ = _; kernel_rfl)
def k41_0 (c : CallT) (nl lo : Nat) : Rg → MM → Option (AV × MM) := (execC c modeF lo nl p41_31 (endK cf41.res) noE (endK cf41.res))
@[reducible] def b41_0 (c : CallT) (nl lo : Nat) (x0 x1 x2 : AV) (M : MM) : Option (AV × MM) :=
 b41_7 c nl lo x0 x1 x2 M
theorem t41_0 (c : CallT) (nl lo : Nat) (ρ : Rg) (M : MM) : k41_0 c nl lo ρ M = b41_0 c nl lo (ρ 0) (ρ 1) (ρ 2) M := by
 have h : k41_0 c nl lo ρ M = (k41_7 c nl lo ρ M) := execC_seq c modeF lo nl p41_1 p41_30 (endK cf41.res) noE (endK cf41.res) ρ M
 rw [h]
 unfold b41_0; simp only [(t41_7 c nl lo)] <;> (show _ = _; kernel_rfl)
def k41_8 (c : CallT) (nl lo : Nat) : Rg → MM → Option (AV × MM) := (execC c modeF lo nl p41_0 (k41_0 c nl lo) noE (endK cf41.res))
@[reducible] def b41_8 (c : CallT) (nl lo : Nat) (x0 x1 x2 : AV) (M : MM) : Option (AV × MM) :=
 b41_0 c nl lo x0 x1 x2 M
theorem t41_8 (c : CallT) (nl lo : Nat) (ρ : Rg) (M : MM) : k41_8 c nl lo ρ M = b41_8 c nl lo (ρ 0) (ρ 1) (ρ 2) M := by
 have h : ∀ (z0 : Rg → MM → Option (AV × MM)), (execC c modeF lo nl p41_0 z0 noE (endK cf41.res)) ρ M = (z0 (sF (sF ρ 8 (.tup [])) 9 (.tup [])) M) := by intros; kernel_rfl
 refine (h (k41_0 c nl lo)).trans ?_
 unfold b41_8; simp only [(t41_0 c nl lo)] <;> (show _ = _; kernel_rfl)
def s41 (c : CallT) (nl lo : Nat) (a0 a1 a2 : AV) (M : MM) : Option (AV × MM) :=
 b41_8 c nl lo a0 a1 a2 M
theorem e41 (c : CallT) (nl lo : Nat) (a0 a1 a2 : AV) (M : MM) : execC c modeF lo nl cf41.body (endK cf41.res) noE (endK cf41.res) (aF [a0, a1, a2]) M = s41 c nl lo a0 a1 a2 M := by
 have h : execC c modeF lo nl cf41.body (endK cf41.res) noE (endK cf41.res) (aF [a0, a1, a2]) M = (k41_8 c nl lo (aF [a0, a1, a2]) M) := execC_seq c modeF lo nl p41_0 p41_31 (endK cf41.res) noE (endK cf41.res) (aF [a0, a1, a2]) M
 refine h.trans ?_
 unfold s41; simp only [(t41_8 c nl lo)] <;> (show _ = _; kernel_rfl)
theorem q41 {c : CallT} (hc : Lim G c) (lo : Nat) (a0 a1 a2 : AV) (M : MM) : c 41 [a0, a1, a2] lo M = s41 c G.nl lo a0 a1 a2 M :=
 (hc.flow (cf := cf41) rfl w41 [a0, a1, a2] lo M).trans (e41 c G.nl lo a0 a1 a2 M)

/-! ### function 43 -/
theorem w43 : wfK cf43.nt cf43.body = true := by kernel_rfl
def s43 (c : CallT) (nl lo : Nat) (a0 : AV) (M : MM) : Option (AV × MM) :=
 bumpK M 11 fun M2 =>
 opt (nilcA a0) fun v4 =>
 opt (fadA 1 v4) fun v5 =>
 opt (ld1A (look M2.mem (.mk M.nx 11 7 true)) v5) fun v6 =>
 opt (nilcA a0) fun v8 =>
 opt (fadA 0 v8) fun v9 =>
 opt (ld1A (look M2.mem (.mk M.nx 11 112 true)) v9) fun v10 =>
 opt (lenA v10) fun v11 =>
 opt (binA .lss .none v6 v11) fun v12 =>
 some (v12, M2)
theorem e43 (c : CallT) (nl lo : Nat) (a0 : AV) (M : MM) : execC c modeF lo nl cf43.body (endK cf43.res) noE (endK cf43.res) (aF [a0]) M = s43 c nl lo a0 M := by
 kernel_rfl
theorem q43 {c : CallT} (hc : Lim G c) (lo : Nat) (a0 : AV) (M : MM) : c 43 [a0] lo M = s43 c G.nl lo a0 M :=
 (hc.flow (cf := cf43) rfl w43 [a0] lo M).trans (e43 c G.nl lo a0 M)

/-! ### function 44 -/
theorem w44 : wfK cf44.nt cf44.body = true := by kernel_rfl
def k44_4 (c : CallT) (nl lo : Nat) : Rg → MM → Option (AV × MM) := (execC c modeF lo nl p44_13 (endK cf44.res) noE (endK cf44.res))
@[reducible] def b44_4 (c : CallT) (nl lo : Nat) (x0 : AV) (M : MM) : Option (AV × MM) :=
 some (x0, M)
theorem t44_4 (c : CallT) (nl lo : Nat) (ρ : Rg) (M : MM) : k44_4 c nl lo ρ M = b44_4 c nl lo (ρ 0) M := by
 kernel_rfl
def k44_5 (c : CallT) (nl lo : Nat) : Rg → MM → Option (AV × MM) := (execC c modeF lo nl p44_11 (k44_4 c nl lo) noE (endK cf44.res))
@[reducible] def b44_5 (c : CallT) (nl lo : Nat) (x0 x1 : AV) (M : MM) : Option (AV × MM) :=
 opt (binA .lss .none x0 (.i 0)) fun v4 =>
 isB v4 fun c5 => if c5 then (opt (binA .add .none x0 x1) fun v8 =>
 b44_4 c nl lo v8 M)
 else (b44_4 c nl lo x0 M)
theorem t44_5 (c : CallT) (nl lo : Nat) (ρ : Rg) (M : MM) : k44_5 c nl lo ρ M = b44_5 c nl lo (ρ 0) (ρ 1) M := by
 have h : ∀ (z0 : Rg → MM → Option (AV × MM)), (execC c modeF lo nl p44_11 z0 noE (endK cf44.res)) ρ M = (opt (binA .lss .none (ρ 0) (.i 0)) fun v4 =>
 isB v4 fun c5 => if c5 then (opt (binA .add .none (ρ 0) (ρ 1)) fun v8 =>
 z0 (sF (sF (sF (sF (sF (sF ρ 10 (ρ 0)) 11 v4) 12 (ρ 0)) 13 (ρ 1)) 14 v8) 0 v8) M)
 else (z0 (sF (sF ρ 10 (ρ 0)) 11 v4) M)) := by intros; kernel_rfl
 refine (h (k44_4 c nl lo)).trans ?_
 unfold b44_5; simp only [(t44_4 c nl lo)] <;> (show _ = _; kernel_rfl)
def k44_3 (c : CallT) (nl lo : Nat) : Rg → MM → Option (AV × MM) := (execC c modeF lo nl p44_14 (endK cf44.res) noE (endK cf44.res))
@[reducible] def b44_3 (c : CallT) (nl lo : Nat) (x0 x1 : AV) (M : MM) : Option (AV × MM) :=
 b44_5 c nl lo x0 x1 M
theorem t44_3 (c : CallT) (nl lo : Nat) (ρ : Rg) (M : MM) : k44_3 c nl lo ρ M = b44_3 c nl lo (ρ 0) (ρ 1) M := by
 have h : k44_3 c nl lo ρ M = (k44_5 c nl lo ρ M) := execC_seq c modeF lo nl p44_11 p44_13 (endK cf44.res) noE (endK cf44.res) ρ M
 rw [h]
 unfold b44_3; simp only [(t44_5 c nl lo)] <;> (show _ = _; kernel_rfl)
def k44_6 (c : CallT) (nl lo : Nat) : Rg → MM → Option (AV × MM) := (execC c modeF lo nl p44_7 (k44_3 c nl lo) noE (endK cf44.res))
@[reducible] def b44_6 (c : CallT) (nl lo : Nat) (x0 x1 : AV) (M : MM) : Option (AV × MM) :=
 opt (binA .rem .none x0 x1) fun v3 =>
 b44_3 c nl lo v3 x1 M
theorem t44_6 (c : CallT) (nl lo : Nat) (ρ : Rg) (M : MM) : k44_6 c nl lo ρ M = b44_6 c nl lo (ρ 0) (ρ 1) M := by
 have h : ∀ (z0 : Rg → MM → Option (AV × MM)), (execC c modeF lo nl p44_7 z0 noE (endK cf44.res)) ρ M = (opt (binA .rem .none (ρ 0) (ρ 1)) fun v3 =>
 z0 (sF (sF (sF (sF ρ 7 (ρ 0)) 8 (ρ 1)) 9 v3) 0 v3) M) := by intros; kernel_rfl
 refine (h (k44_3 c nl lo)).trans ?_
 unfold b44_6; simp only [(t44_3 c nl lo)] <;> (show _ = _; kernel_rfl)
def k44_2 (c : CallT) (nl lo : Nat) : Rg → MM → Option (AV × MM) := (execC c modeF lo nl p44_15 (endK cf44.res) noE (endK cf44.res))
@[reducible] def b44_2 (c : CallT) (nl lo : Nat) (x0 x1 : AV) (M : MM) : Option (AV × MM) :=
 b44_6 c nl lo x0 x1 M
theorem t44_2 (c : CallT) (nl lo : Nat) (ρ : Rg) (M : MM) : k44_2 c nl lo ρ M = b44_2 c nl lo (ρ 0) (ρ 1) M := by
 have h : k44_2 c nl lo ρ M = (k44_6 c nl lo ρ M) := execC_seq c modeF lo nl p44_7 p44_14 (endK cf44.res) noE (endK cf44.res) ρ M
 rw [h]
 unfold b44_2; simp only [(t44_6 c nl lo)] <;> (show _ = _; kernel_rfl)
def k44_7 (c : CallT) (nl lo : Nat) : Rg → MM → Option (AV × MM) := (execC c modeF lo nl p44_6 (k44_2 c nl lo) noE (endK cf44.res))
@[reducible] def b44_7 (c : CallT) (nl lo : Nat) (x0 x1 : AV) (M : MM) : Option (AV × MM) :=
 opt (binA .lss .none x1 (.i 1)) fun v2 =>
 isB v2 fun c3 => if c3 then (some ((.i 0), M))
 else (b44_2 c nl lo x0 x1 M)
theorem t44_7 (c : CallT) (nl lo : Nat) (ρ : Rg) (M : MM) : k44_7 c nl lo ρ M = b44_7 c nl lo (ρ 0) (ρ 1) M := by
 have h : ∀ (z0 : Rg → MM → Option (AV × MM)), (execC c modeF lo nl p44_6 z0 noE (endK cf44.res)) ρ M = (opt (binA .lss .none (ρ 1) (.i 1)) fun v2 =>
 isB v2 fun c3 => if c3 then (some ((.i 0), M))
 else (z0 (sF (sF ρ 5 (ρ 1)) 6 v2) M)) := by intros; kernel_rfl
 refine (h (k44_2 c nl lo)).trans ?_
 unfold b44_7; simp only [(t44_2 c nl lo)] <;> (show _ = _; kernel_rfl)
def k44_1 (c : CallT) (nl lo : Nat) : Rg → MM → Option (AV × MM) := (execC c modeF lo nl p44_16 (endK cf44.res) noE (endK cf44.res))
@[reducible] def b44_1 (c : CallT) (nl lo : Nat) (x0 x1 : AV) (M : MM) : Option (AV × MM) :=
 b44_7 c nl lo x0 x1 M
theorem t44_1 (c : CallT) (nl lo : Nat) (ρ : Rg) (M : MM) : k44_1 c nl lo ρ M = b44_1 c nl lo (ρ 0) (ρ 1) M := by
 have h : k44_1 c nl lo ρ M = (k44_7 c nl lo ρ M) := execC_seq c modeF lo nl p44_6 p44_15 (endK cf44.res) noE (endK cf44.res) ρ M
 rw [h]
 unfold b44_1; simp only [(t44_7 c nl lo)] <;> (show _ = _; kernel_rfl)
def k44_8 (c : CallT) (nl lo : Nat) : Rg → MM → Option (AV × MM) := (execC c modeF lo nl p44_1 (k44_1 c nl lo) noE (endK cf44.res))
@[reducible] def b44_8 (c : CallT) (nl lo : Nat) (x0 x1 : AV) (M : MM) : Option (AV × MM) :=
 b44_1 c nl lo x0 x1 M
theorem t44_8 (c : CallT) (nl lo : Nat) (ρ : Rg) (M : MM) : k44_8 c nl lo ρ M = b44_8 c nl lo (ρ 0) (ρ 1) M := by
 have h : ∀ (z0 : Rg → MM → Option (AV × MM)), (execC c modeF lo nl p44_1 z0 noE (endK cf44.res)) ρ M = (z0 (sF ρ 4 (.i 0)) M) := by intros; kernel_rfl
 refine (h (k44_1 c nl lo)).trans ?_
 unfold b44_8; simp only [(t44_1 c nl lo)] <;> (show _ = _; kernel_rfl)
def k44_0 (c : CallT) (nl lo : Nat) : Rg → MM → Option (AV × MM) := (execC c modeF lo nl p44_17 (endK cf44.res) noE (endK cf44.res))
@[reducible] def b44_0 (c : CallT) (nl lo : Nat) (x0 x1 : AV) (M : MM) : Option (AV × MM) :=
 b44_8 c nl lo x0 x1 M
theorem t44_0 (c : CallT) (nl lo : Nat) (ρ : Rg) (M : MM) : k44_0 c nl lo ρ M = b44_0 c nl lo (ρ 0) (ρ 1) M := by
 have h : k44_0 c nl lo ρ M = (k44_8 c nl lo ρ M) := execC_seq c modeF lo nl p44_1 p44_16 (endK cf44.res) noE (endK cf44.res) ρ M
 rw [h]
 unfold b44_0; simp only [(t44_8 c nl lo)] <;> (show _ = _; kernel_rfl)
def k44_9 (c : CallT) (nl lo : Nat) : Rg → MM → Option (AV × MM) := (execC c modeF lo nl p44_0 (k44_0 c nl lo) noE (endK cf44.res))
@[reducible] def b44_9 (c : CallT) (nl lo : Nat) (x0 x1 : AV) (M : MM) : Option (AV × MM) :=
 b44_0 c nl lo x0 x1 M
theorem t44_9 (c : CallT) (nl lo : Nat) (ρ : Rg) (M : MM) : k44_9 c nl lo ρ M = b44_9 c nl lo (ρ 0) (ρ 1) M := by
 have h : ∀ (z0 : Rg → MM → Option (AV × MM)), (execC c modeF lo nl p44_0 z0 noE (endK cf44.res)) ρ M = (z0 ρ M) := by intros; kernel_rfl
 refine (h (k44_0 c nl lo)).trans ?_
 unfold b44_9; simp only [(t44_0 c nl lo)] <;> (show _ = _; kernel_rfl)
def s44 (c : CallT) (nl lo : Nat) (a0 a1 : AV) (M : MM) : Option (AV × MM) :=
 b44_9 c nl lo a0 a1 M
theorem e44 (c : CallT) (nl lo : Nat) (a0 a1 : AV) (M : MM) : execC c modeF lo nl cf44.body (endK cf44.res) noE (endK cf44.res) (aF [a0, a1]) M = s44 c nl lo a0 a1 M := by
 have h : execC c modeF lo nl cf44.body (endK cf44.res) noE (endK cf44.res) (aF [a0, a1]) M = (k44_9 c nl lo (aF [a0, a1]) M) := execC_seq c modeF lo nl p44_0 p44_17 (endK cf44.res) noE (endK cf44.res) (aF [a0, a1]) M
 refine h.trans ?_
 unfold s44; simp only [(t44_9 c nl lo)] <;> (show _ = _; kernel_rfl)
theorem q44 {c : CallT} (hc : Lim G c) (lo : Nat) (a0 a1 : AV) (M : MM) : c 44 [a0, a1] lo M = s44 c G.nl lo a0 a1 M :=
 (hc.flow (cf := cf44) rfl w44 [a0, a1] lo M).trans (e44 c G.nl lo a0 a1 M)

/-! ### function 48 -/
theorem w48 : wfK cf48.nt cf48.body = true := by kernel_rfl
def k48_2 (c : CallT) (nl lo : Nat) : Rg → MM → Option (AV × MM) := (execC c modeF lo nl p48_21 (endK cf48.res) noE (endK cf48.res))
@[reducible] def b48_2 (c : CallT) (nl lo : Nat) (M : MM) : Option (AV × MM) :=
 some ((.bool false), M)
theorem t48_2 (c : CallT) (nl lo : Nat) (ρ : Rg) (M : MM) : k48_2 c nl lo ρ M = b48_2 c nl lo M := by
 kernel_rfl
def k48_4 (c : CallT) (nl lo : Nat) (n : Nat) : Rg → MM → Option (AV × MM) := iterC (fun k ρ M => execC c modeF lo nl p48_16 k (fun i ρ M => if i = 0 then (k48_2 c nl lo) ρ M else noE i ρ M) (endK cf48.res) ρ M) n
def b48_4 (c : CallT) (nl lo : Nat) : Nat → AV → AV → AV → AV → MM → Option (AV × MM)
 | 0, _, _, _, _, _ => none
 | n + 1, x1, x7, x8, x9, M =>
 opt (binA .lss .none x9 x8) fun v5 =>
 isB v5 fun c6 => if c6 then (opt (ixsA 1 x7 x9) fun v7 =>
 opt (ld1A (lk M) v7) fun v8 =>
 opt (binA .eql .none v8 x1) fun v12 =>
 isB v12 fun c13 => if c13 then (some ((.bool true), M))
 else (opt (binA .add .none x9 (.i 1)) fun v15 =>
 (b48_4 c nl lo n) x1 x7 x8 v15 M))
 else (b48_2 c nl lo M)
theorem t48_4 (c : CallT) (nl lo : Nat) : ∀ (n : Nat) (ρ : Rg) (M : MM), k48_4 c nl lo n ρ M = b48_4 c nl lo n (ρ 1) (ρ 7) (ρ 8) (ρ 9) M
 | 0, ρ, M => rfl
 | n + 1, ρ, M => by
  have h : ∀ (zb z0 : Rg → MM → Option (AV × MM)), execC c modeF lo nl p48_16 zb (fun i ρ M => if i = 0 then z0 ρ M else noE i ρ M) (endK cf48.res) ρ M = (opt (binA .lss .none (ρ 9) (ρ 8)) fun v5 =>
  isB v5 fun c6 => if c6 then (opt (ixsA 1 (ρ 7) (ρ 9)) fun v7 =>
  opt (ld1A (lk M) v7) fun v8 =>
  opt (binA .eql .none v8 (ρ 1)) fun v12 =>
  isB v12 fun c13 => if c13 then (some ((.bool true), M))
  else (opt (binA .add .none (ρ 9) (.i 1)) fun v15 =>
  zb (sF (sF (sF (sF (sF (sF (sF (sF (sF ρ 10 v5) 11 v7) 12 v8) 6 v8) 13 v8) 14 (ρ 1)) 15 v12) 16 v15) 9 v15) M))
  else (z0 (sF ρ 10 v5) M)) := by intros; kernel_rfl
  refine (h (k48_4 c nl lo n) (k48_2 c nl lo)).trans ?_
  unfold b48_4; simp only [(t48_2 c nl lo), (t48_4 c nl lo n)] <;> (show _ = _; kernel_rfl)
def k48_3 (c : CallT) (nl lo : Nat) : Rg → MM → Option (AV × MM) := (execC c modeF lo nl p48_19 (k48_2 c nl lo) noE (endK cf48.res))
@[reducible] def b48_3 (c : CallT) (nl lo : Nat) (x0 x1 : AV) (M : MM) : Option (AV × MM) :=
 opt (lenA x0) fun v3 =>
 b48_4 c nl lo nl x1 x0 v3 (.i 0) M
theorem t48_3 (c : CallT) (nl lo : Nat) (ρ : Rg) (M : MM) : k48_3 c nl lo ρ M = b48_3 c nl lo (ρ 0) (ρ 1) M := by
 have h : k48_3 c nl lo ρ M = (opt (lenA (ρ 0)) fun v3 =>
 k48_4 c nl lo nl (sF (sF (sF ρ 7 (ρ 0)) 8 v3) 9 (.i 0)) M) := by kernel_rfl
 rw [h]
 unfold b48_3; simp only [(t48_4 c nl lo nl)] <;> (show _ = _; kernel_rfl)
def k48_1 (c : CallT) (nl lo : Nat) : Rg → MM → Option (AV × MM) := (execC c modeF lo nl p48_22 (endK cf48.res) noE (endK cf48.res))
@[reducible] def b48_1 (c : CallT) (nl lo : Nat) (x0 x1 : AV) (M : MM) : Option (AV × MM) :=
 b48_3 c nl lo x0 x1 M
theorem t48_1 (c : CallT) (nl lo : Nat) (ρ : Rg) (M : MM) : k48_1 c nl lo ρ M = b48_1 c nl lo (ρ 0) (ρ 1) M := by
 have h : k48_1 c nl lo ρ M = (k48_3 c nl lo ρ M) := execC_seq c modeF lo nl p48_19 p48_21 (endK cf48.res) noE (endK cf48.res) ρ M
 rw [h]
 unfold b48_1; simp only [(t48_3 c nl lo)] <;> (show _ = _; kernel_rfl)
def k48_5 (c : CallT) (nl lo : Nat) : Rg → MM → Option (AV × MM) := (execC c modeF lo nl p48_1 (k48_1 c nl lo) noE (endK cf48.res))
@[reducible] def b48_5 (c : CallT) (nl lo : Nat) (x0 x1 : AV) (M : MM) : Option (AV × MM) :=
 b48_1 c nl lo x0 x1 M
theorem t48_5 (c : CallT) (nl lo : Nat) (ρ : Rg) (M : MM) : k48_5 c nl lo ρ M = b48_5 c nl lo (ρ 0) (ρ 1) M := by
 have h : ∀ (z0 : Rg → MM → Option (AV × MM)), (execC c modeF lo nl p48_1 z0 noE (endK cf48.res)) ρ M = (z0 (sF ρ 4 (.bool false)) M) := by intros; kernel_rfl
 refine (h (k48_1 c nl lo)).trans ?_
 unfold b48_5; simp only [(t48_1 c nl lo)] <;> (show _ = _; kernel_rfl)
def k48_0 (c : CallT) (nl lo : Nat) : Rg → MM → Option (AV × MM) := (execC c modeF lo nl p48_23 (endK cf48.res) noE (endK cf48.res))
@[reducible] def b48_0 (c : CallT) (nl lo : Nat) (x0 x1 : AV) (M : MM) : Option (AV × MM) :=
 b48_5 c nl lo x0 x1 M
theorem t48_0 (c : CallT) (nl lo : Nat) (ρ : Rg) (M : MM) : k48_0 c nl lo ρ M = b48_0 c nl lo (ρ 0) (ρ 1) M := by
 have h : k48_0 c nl lo ρ M = (k48_5 c nl lo ρ M) := execC_seq c modeF lo nl p48_1 p48_22 (endK cf48.res) noE (endK cf48.res) ρ M
 rw [h]
 unfold b48_0; simp only [(t48_5 c nl lo)] <;> (show _ = _; kernel_rfl)
def k48_6 (c : CallT) (nl lo : Nat) : Rg → MM → Option (AV × MM) := (execC c modeF lo nl p48_0 (k48_0 c nl lo) noE (endK cf48.res))
@[reducible] def b48_6 (c : CallT) (nl lo : Nat) (x0 x1 : AV) (M : MM) : Option (AV × MM) :=
 b48_0 c nl lo x0 x1 M
theorem t48_6 (c : CallT) (nl lo : Nat) (ρ : Rg) (M : MM) : k48_6 c nl lo ρ M = b48_6 c nl lo (ρ 0) (ρ 1) M := by
 have h : ∀ (z0 : Rg → MM → Option (AV × MM)), (execC c modeF lo nl p48_0 z0 noE (endK cf48.res)) ρ M = (z0 ρ M) := by intros; kernel_rfl
 refine (h (k48_0 c nl lo)).trans ?_
 unfold b48_6; simp only [(t48_0 c nl lo)] <;> (show _ = _; kernel_rfl)
def s48 (c : CallT) (nl lo : Nat) (a0 a1 : AV) (M : MM) : Option (AV × MM) :=
 b48_6 c nl lo a0 a1 M
theorem e48 (c : CallT) (nl lo : Nat) (a0 a1 : AV) (M : MM) : execC c modeF lo nl cf48.body (endK cf48.res) noE (endK cf48.res) (aF [a0, a1]) M = s48 c nl lo a0 a1 M := by
 have h : execC c modeF lo nl cf48.body (endK cf48.res) noE (endK cf48.res) (aF [a0, a1]) M = (k48_6 c nl lo (aF [a0, a1]) M) := execC_seq c modeF lo nl p48_0 p48_23 (endK cf48.res) noE (endK cf48.res) (aF [a0, a1]) M
 refine h.trans ?_
 unfold s48; simp only [(t48_6 c nl lo)] <;> (show _ = _; kernel_rfl)
theorem q48 {c : CallT} (hc : Lim G c) (lo : Nat) (a0 a1 : AV) (M : MM) : c 48 [a0, a1] lo M = s48 c G.nl lo a0 a1 M :=
 (hc.flow (cf := cf48) rfl w48 [a0, a1] lo M).trans (e48 c G.nl lo a0 a1 M)

/-! ### function 51 -/
theorem w51 : wfK cf51.nt cf51.body = true := by kernel_rfl
def s51 (c : CallT) (nl lo : Nat) (a0 a1 : AV) (M : MM) : Option (AV × MM) :=
 opt (aggA a0) fun v3 =>
 upK M M.nx fun M4 =>
 opt (aggA a1) fun v5 =>
 upK M4 M4.nx fun M6 =>
 opt (fldA 0 0 true v3) fun v8 =>
 opt (fldA 0 1 false v3) fun v9 =>
 opt (fldA 0 0 true v5) fun v10 =>
 opt (fldA 0 1 false v5) fun v11 =>
 opt (binA .eql .none v9 v11) fun v12 =>
 opt (gdp v12 true (fldA 0 0 true v3)) fun v14 =>
 opt (gdp v12 true (fldA 1 1 false v3)) fun v15 =>
 opt (gdp v12 true (fldA 0 0 true v5)) fun v16 =>
 opt (gdp v12 true (fldA 1 1 false v5)) fun v17 =>
 opt (gdp v12 true (puA c (lk M6) 74 [v15, v17])) fun v18 =>
 opt (pickA v12 v18 (.bool false)) fun v19 =>
 some (v19, M6)
theorem e51 (c : CallT) (nl lo : Nat) (a0 a1 : AV) (M : MM) : execC c modeF lo nl cf51.body (endK cf51.res) noE (endK cf51.res) (aF [a0, a1]) M = s51 c nl lo a0 a1 M := by
 kernel_rfl
theorem q51 {c : CallT} (hc : Lim G c) (lo : Nat) (a0 a1 : AV) (M : MM) : c 51 [a0, a1] lo M = s51 c G.nl lo a0 a1 M :=
 (hc.flow (cf := cf51) rfl w51 [a0, a1] lo M).trans (e51 c G.nl lo a0 a1 M)

/-! ### function 52 -/
theorem w52 : wfK cf52.nt cf52.body = true := by kernel_rfl
def k52_3 (c : CallT) (nl lo : Nat) : Rg → MM → Option (AV × MM) := (execC c modeF lo nl p52_21 (endK cf52.res) noE (endK cf52.res))
@[reducible] def b52_3 (c : CallT) (nl lo : Nat) (x1 : AV) (M : MM) : Option (AV × MM) :=
 some (x1, M)
theorem t52_3 (c : CallT) (nl lo : Nat) (ρ : Rg) (M : MM) : k52_3 c nl lo ρ M = b52_3 c nl lo (ρ 1) M := by
 kernel_rfl
def k52_5 (c : CallT) (nl lo : Nat) (n : Nat) : Rg → MM → Option (AV × MM) := iterC (fun k ρ M => execC c modeF lo nl p52_16 k (fun i ρ M => if i = 0 then (k52_3 c nl lo) ρ M else noE i ρ M) (endK cf52.res) ρ M) n
def b52_5 (c : CallT) (nl lo : Nat) : Nat → AV → AV → AV → AV → MM → Option (AV × MM)
 | 0, _, _, _, _, _ => none
 | n + 1, x1, x23, x24, x25, M =>
 opt (binA .lss .none x25 x24) fun v7 =>
 isB v7 fun c8 => if c8 then (opt (ixsA 2 x23 x25) fun v9 =>
 opt (ldnA (lk M) 2 v9) fun v10 =>
 upK M M.nx fun M12 =>
 opt (setcA 0 2 (.agg [.str ⟨⟨[]⟩⟩, .d (.sl [] 0)]) v10) fun v13 =>
 opt (fldA 0 2 true v13) fun v14 =>
 bnd (c 52 [v14, x1] lo M12) fun v16 M17 =>
 opt (binA .add .none x25 (.i 1)) fun v19 =>
 (b52_5 c nl lo n) v16 x23 x24 v19 M17)
 else (b52_3 c nl lo x1 M)
theorem t52_5 (c : CallT) (nl lo : Nat) : ∀ (n : Nat) (ρ : Rg) (M : MM), k52_5 c nl lo n ρ M = b52_5 c nl lo n (ρ 1) (ρ 23) (ρ 24) (ρ 25) M
 | 0, ρ, M => rfl
 | n + 1, ρ, M => by
  have h : ∀ (zb z0 : Rg → MM → Option (AV × MM)), execC c modeF lo nl p52_16 zb (fun i ρ M => if i = 0 then z0 ρ M else noE i ρ M) (endK cf52.res) ρ M = (opt (binA .lss .none (ρ 25) (ρ 24)) fun v7 =>
  isB v7 fun c8 => if c8 then (opt (ixsA 2 (ρ 23) (ρ 25)) fun v9 =>
  opt (ldnA (lk M) 2 v9) fun v10 =>
  upK M M.nx fun M12 =>
  opt (setcA 0 2 (.agg [.str ⟨⟨[]⟩⟩, .d (.sl [] 0)]) v10) fun v13 =>
  opt (fldA 0 2 true v13) fun v14 =>
  bnd (c 52 [v14, (ρ 1)] lo M12) fun v16 M17 =>
  opt (binA .add .none (ρ 25) (.i 1)) fun v19 =>
  zb (sF (sF (sF (sF (sF (sF (sF (sF (sF (sF (sF ρ 26 v7) 27 v9) 28 v10) 6 (.agg [.str ⟨⟨[]⟩⟩, .d (.sl [] 0)])) 6 v13) 29 v14) 30 (ρ 1)) 31 v16) 1 v16) 32 v19) 25 v19) M17)
  else (z0 (sF ρ 26 v7) M)) := by intros; kernel_rfl
  refine (h (k52_5 c nl lo n) (k52_3 c nl lo)).trans ?_
  unfold b52_5; simp only [(t52_3 c nl lo), (t52_5 c nl lo n)] <;> (show _ = _; kernel_rfl)
def k52_4 (c : CallT) (nl lo : Nat) : Rg → MM → Option (AV × MM) := (execC c modeF lo nl p52_19 (k52_3 c nl lo) noE (endK cf52.res))
@[reducible] def b52_4 (c : CallT) (nl lo : Nat) (x1 x2 : AV) (M : MM) : Option (AV × MM) :=
 opt (fldA 0 0 true x2) fun v3 =>
 opt (fldA 1 1 false x2) fun v4 =>
 opt (lenA v4) fun v5 =>
 b52_5 c nl lo nl x1 v4 v5 (.i 0) M
theorem t52_4 (c : CallT) (nl lo : Nat) (ρ : Rg) (M : MM) : k52_4 c nl lo ρ M = b52_4 c nl lo (ρ 1) (ρ 2) M := by
 have h : k52_4 c nl lo ρ M = (opt (fldA 0 0 true (ρ 2)) fun v3 =>
 opt (fldA 1 1 false (ρ 2)) fun v4 =>
 opt (lenA v4) fun v5 =>
 k52_5 c nl lo nl (sF (sF (sF (sF ρ 22 v3) 23 v4) 24 v5) 25 (.i 0)) M) := by kernel_rfl
 rw [h]
 unfold b52_4; simp only [(t52_5 c nl lo nl)] <;> (show _ = _; kernel_rfl)
def k52_2 (c : CallT) (nl lo : Nat) : Rg → MM → Option (AV × MM) := (execC c modeF lo nl p52_22 (endK cf52.res) noE (endK cf52.res))
@[reducible] def b52_2 (c : CallT) (nl lo : Nat) (x1 x2 : AV) (M : MM) : Option (AV × MM) :=
 b52_4 c nl lo x1 x2 M
theorem t52_2 (c : CallT) (nl lo : Nat) (ρ : Rg) (M : MM) : k52_2 c nl lo ρ M = b52_2 c nl lo (ρ 1) (ρ 2) M := by
 have h : k52_2 c nl lo ρ M = (k52_4 c nl lo ρ M) := execC_seq c modeF lo nl p52_19 p52_21 (endK cf52.res) noE (endK cf52.res) ρ M
 rw [h]
 unfold b52_2; simp only [(t52_4 c nl lo)] <;> (show _ = _; kernel_rfl)
def k52_6 (c : CallT) (nl lo : Nat) : Rg → MM → Option (AV × MM) := (execC c modeF lo nl p52_5 (k52_2 c nl lo) noE (endK cf52.res))
@[reducible] def b52_6 (c : CallT) (nl lo : Nat) (x1 x2 : AV) (M : MM) : Option (AV × MM) :=
 opt (fldA 0 0 true x2) fun v1 =>
 opt (fldA 0 1 false x2) fun v2 =>
 opt (puA c (lk M) 75 [v2]) fun v3 =>
 opt (gdp v3 true (some x1)) fun v5 =>
 opt (gdp v3 true (fldA 0 0 true x2)) fun v6 =>
 opt (gdp v3 true (fldA 0 1 false x2)) fun v7 =>
 opt (gdp v3 true (puA c (lk M) 48 [v5, v7])) fun v8 =>
 opt (gdp v3 true (unA .not v8)) fun v9 =>
 opt (pickA v3 v9 (.bool false)) fun v10 =>
 isB v10 fun c11 => if c11 then (opt (fldA 0 0 true x2) fun v13 =>
 opt (fldA 0 1 false x2) fun v14 =>
 opt (wslA 1 (fill [.str ⟨⟨[]⟩⟩] [(0, 1, v14)])) fun v15 =>
 upK M M.nx fun M16 =>
 opt (wappA M16.mem (.top M16.nx) 1 16 x1 v15) fun v17 =>
 upK M16 M16.nx fun M18 =>
 b52_2 c nl lo v17 x2 M18)
 else (b52_2 c nl lo x1 x2 M)
theorem t52_6 (c : CallT) (nl lo : Nat) (ρ : Rg) (M : MM) : k52_6 c nl lo ρ M = b52_6 c nl lo (ρ 1) (ρ 2) M := by
 have h : ∀ (z0 : Rg → MM → Option (AV × MM)), (execC c modeF lo nl p52_5 z0 noE (endK cf52.res)) ρ M = (opt (fldA 0 0 true (ρ 2)) fun v1 =>
 opt (fldA 0 1 false (ρ 2)) fun v2 =>
 opt (puA c (lk M) 75 [v2]) fun v3 =>
 opt (gdp v3 true (some (ρ 1))) fun v5 =>
 opt (gdp v3 true (fldA 0 0 true (ρ 2))) fun v6 =>
 opt (gdp v3 true (fldA 0 1 false (ρ 2))) fun v7 =>
 opt (gdp v3 true (puA c (lk M) 48 [v5, v7])) fun v8 =>
 opt (gdp v3 true (unA .not v8)) fun v9 =>
 opt (pickA v3 v9 (.bool false)) fun v10 =>
 isB v10 fun c11 => if c11 then (opt (fldA 0 0 true (ρ 2)) fun v13 =>
 opt (fldA 0 1 false (ρ 2)) fun v14 =>
 opt (wslA 1 (fill [.str ⟨⟨[]⟩⟩] [(0, 1, v14)])) fun v15 =>
 upK M M.nx fun M16 =>
 opt (wappA M16.mem (.top M16.nx) 1 16 (ρ 1) v15) fun v17 =>
 upK M16 M16.nx fun M18 =>
 z0 (sF (sF (sF (sF (sF (sF (sF (sF (sF (sF (sF (sF (sF (sF (sF (sF ρ 7 v1) 8 v2) 9 v3) 10 v3) 11 v5) 12 v6) 13 v7) 14 v8) 15 v9) 16 v10) 17 (ρ 1)) 18 v13) 19 v14) 20 v15) 21 v17) 1 v17) M18)
 else (z0 (sF (sF (sF (sF (sF (sF (sF (sF (sF (sF ρ 7 v1) 8 v2) 9 v3) 10 v3) 11 v5) 12 v6) 13 v7) 14 v8) 15 v9) 16 v10) M)) := by intros; kernel_rfl
 refine (h (k52_2 c nl lo)).trans ?_
 unfold b52_6; simp only [(t52_2 c nl lo)] <;> (show _ = _; kernel_rfl)
def k52_1 (c : CallT) (nl lo : Nat) : Rg → MM → Option (AV × MM) := (execC c modeF lo nl p52_23 (endK cf52.res) noE (endK cf52.res))
@[reducible] def b52_1 (c : CallT) (nl lo : Nat) (x1 x2 : AV) (M : MM) : Option (AV × MM) :=
 b52_6 c nl lo x1 x2 M
theorem t52_1 (c : CallT) (nl lo : Nat) (ρ : Rg) (M : MM) : k52_1 c nl lo ρ M = b52_1 c nl lo (ρ 1) (ρ 2) M := by
 have h : k52_1 c nl lo ρ M = (k52_6 c nl lo ρ M) := execC_seq c modeF lo nl p52_5 p52_22 (endK cf52.res) noE (endK cf52.res) ρ M
 rw [h]
 unfold b52_1; simp only [(t52_6 c nl lo)] <;> (show _ = _; kernel_rfl)
def k52_7 (c : CallT) (nl lo : Nat) : Rg → MM → Option (AV × MM) := (execC c modeF lo nl p52_1 (k52_1 c nl lo) noE (endK cf52.res))
@[reducible] def b52_7 (c : CallT) (nl lo : Nat) (x0 x1 : AV) (M : MM) : Option (AV × MM) :=
 opt (aggA x0) fun v1 =>
 upK M M.nx fun M2 =>
 b52_1 c nl lo x1 v1 M2
theorem t52_7 (c : CallT) (nl lo : Nat) (ρ : Rg) (M : MM) : k52_7 c nl lo ρ M = b52_7 c nl lo (ρ 0) (ρ 1) M := by
 have h : ∀ (z0 : Rg → MM → Option (AV × MM)), (execC c modeF lo nl p52_1 z0 noE (endK cf52.res)) ρ M = (opt (aggA (ρ 0)) fun v1 =>
 upK M M.nx fun M2 =>
 z0 (sF (sF ρ 2 v1) 4 (.d (.sl [] 0))) M2) := by intros; kernel_rfl
 refine (h (k52_1 c nl lo)).trans ?_
 unfold b52_7; simp only [(t52_1 c nl lo)] <;> (show _ = _; kernel_rfl)
def k52_0 (c : CallT) (nl lo : Nat) : Rg → MM → Option (AV × MM) := (execC c modeF lo nl p52_24 (endK cf52.res) noE (endK cf52.res))
@[reducible] def b52_0 (c : CallT) (nl lo : Nat) (x0 x1 : AV) (M : MM) : Option (AV × MM) :=
 b52_7 c nl lo x0 x1 M
theorem t52_0 (c : CallT) (nl lo : Nat) (ρ : Rg) (M : MM) : k52_0 c nl lo ρ M = b52_0 c nl lo (ρ 0) (ρ 1) M := by
 have h : k52_0 c nl lo ρ M = (k52_7 c nl lo ρ M) := execC_seq c modeF lo nl p52_1 p52_23 (endK cf52.res) noE (endK cf52.res) ρ M
 rw [h]
 unfold b52_0; simp only [(t52_7 c nl lo)] <;> (show _ = _; kernel_rfl)
def k52_8 (c : CallT) (nl lo : Nat) : Rg → MM → Option (AV × MM) := (execC c modeF lo nl p52_0 (k52_0 c nl lo) noE (endK cf52.res))
@[reducible] def b52_8 (c : CallT) (nl lo : Nat) (x0 x1 : AV) (M : MM) : Option (AV × MM) :=
 b52_0 c nl lo x0 x1 M
theorem t52_8 (c : CallT) (nl lo : Nat) (ρ : Rg) (M : MM) : k52_8 c nl lo ρ M = b52_8 c nl lo (ρ 0) (ρ 1) M := by
 have h : ∀ (z0 : Rg → MM → Option (AV × MM)), (execC c modeF lo nl p52_0 z0 noE (endK cf52.res)) ρ M = (z0 (sF (sF ρ 2 (.tup [])) 6 (.tup [])) M) := by intros; kernel_rfl
 refine (h (k52_0 c nl lo)).trans ?_
 unfold b52_8; simp only [(t52_0 c nl lo)] <;> (show _ = _; kernel_rfl)
def s52 (c : CallT) (nl lo : Nat) (a0 a1 : AV) (M : MM) : Option (AV × MM) :=
 b52_8 c nl lo a0 a1 M
theorem e52 (c : CallT) (nl lo : Nat) (a0 a1 : AV) (M : MM) : execC c modeF lo nl cf52.body (endK cf52.res) noE (endK cf52.res) (aF [a0, a1]) M = s52 c nl lo a0 a1 M := by
 have h : execC c modeF lo nl cf52.body (endK cf52.res) noE (endK cf52.res) (aF [a0, a1]) M = (k52_8 c nl lo (aF [a0, a1]) M) := execC_seq c modeF lo nl p52_0 p52_24 (endK cf52.res) noE (endK cf52.res) (aF [a0, a1]) M
 refine h.trans ?_
 unfold s52; simp only [(t52_8 c nl lo)] <;> (show _ = _; kernel_rfl)
theorem q52 {c : CallT} (hc : Lim G c) (lo : Nat) (a0 a1 : AV) (M : MM) : c 52 [a0, a1] lo M = s52 c G.nl lo a0 a1 M :=
 (hc.flow (cf := cf52) rfl w52 [a0, a1] lo M).trans (e52 c G.nl lo a0 a1 M)

/-! ### function 57 -/
theorem w57 : wfK cf57.nt cf57.body = true := by kernel_rfl
def k57_3 (c : CallT) (nl lo : Nat) : Rg → MM → Option (AV × MM) := (execC c modeF lo nl p57_21 (endK cf57.res) noE (endK cf57.res))
@[reducible] def b57_3 (c : CallT) (nl lo : Nat) (x0 : AV) (M : MM) : Option (AV × MM) :=
 some (x0, M)
theorem t57_3 (c : CallT) (nl lo : Nat) (ρ : Rg) (M : MM) : k57_3 c nl lo ρ M = b57_3 c nl lo (ρ 0) M := by
 kernel_rfl
def k57_5 (c : CallT) (nl lo : Nat) (n : Nat) : Rg → MM → Option (AV × MM) := iterC (fun k ρ M => execC c modeF lo nl p57_16 k (fun i ρ M => if i = 0 then (k57_3 c nl lo) ρ M else noE i ρ M) (endK cf57.res) ρ M) n
def b57_5 (c : CallT) (nl lo : Nat) : Nat → AV → AV → AV → AV → MM → Option (AV × MM)
 | 0, _, _, _, _, _ => none
 | n + 1, x0, x23, x24, x25, M =>
 opt (binA .lss .none x25 x24) fun v7 =>
 isB v7 fun c8 => if c8 then (opt (ixsA 2 x23 x25) fun v9 =>
 opt (ldnA (lk M) 2 v9) fun v10 =>
 upK M M.nx fun M12 =>
 opt (setcA 0 2 (.agg [.str ⟨⟨[]⟩⟩, .d (.sl [] 0)]) v10) fun v13 =>
 opt (fldA 0 2 true v13) fun v15 =>
 bnd (c 57 [x0, v15] lo M12) fun v16 M17 =>
 opt (binA .add .none x25 (.i 1)) fun v19 =>
 (b57_5 c nl lo n) v16 x23 x24 v19 M17)
 else (b57_3 c nl lo x0 M)
theorem t57_5 (c : CallT) (nl lo : Nat) : ∀ (n : Nat) (ρ : Rg) (M : MM), k57_5 c nl lo n ρ M = b57_5 c nl lo n (ρ 0) (ρ 23) (ρ 24) (ρ 25) M
 | 0, ρ, M => rfl
 | n + 1, ρ, M => by
  have h : ∀ (zb z0 : Rg → MM → Option (AV × MM)), execC c modeF lo nl p57_16 zb (fun i ρ M => if i = 0 then z0 ρ M else noE i ρ M) (endK cf57.res) ρ M = (opt (binA .lss .none (ρ 25) (ρ 24)) fun v7 =>
  isB v7 fun c8 => if c8 then (opt (ixsA 2 (ρ 23) (ρ 25)) fun v9 =>
  opt (ldnA (lk M) 2 v9) fun v10 =>
  upK M M.nx fun M12 =>
  opt (setcA 0 2 (.agg [.str ⟨⟨[]⟩⟩, .d (.sl [] 0)]) v10) fun v13 =>
  opt (fldA 0 2 true v13) fun v15 =>
  bnd (c 57 [(ρ 0), v15] lo M12) fun v16 M17 =>
  opt (binA .add .none (ρ 25) (.i 1)) fun v19 =>
  zb (sF (sF (sF (sF (sF (sF (sF (sF (sF (sF (sF ρ 26 v7) 27 v9) 28 v10) 6 (.agg [.str ⟨⟨[]⟩⟩, .d (.sl [] 0)])) 6 v13) 29 (ρ 0)) 30 v15) 31 v16) 0 v16) 32 v19) 25 v19) M17)
  else (z0 (sF ρ 26 v7) M)) := by intros; kernel_rfl
  refine (h (k57_5 c nl lo n) (k57_3 c nl lo)).trans ?_
  unfold b57_5; simp only [(t57_3 c nl lo), (t57_5 c nl lo n)] <;> (show _ = _; kernel_rfl)
def k57_4 (c : CallT) (nl lo : Nat) : Rg → MM → Option (AV × MM) := (execC c modeF lo nl p57_19 (k57_3 c nl lo) noE (endK cf57.res))
@[reducible] def b57_4 (c : CallT) (nl lo : Nat) (x0 x3 : AV) (M : MM) : Option (AV × MM) :=
 opt (fldA 0 0 true x3) fun v3 =>
 opt (fldA 1 1 false x3) fun v4 =>
 opt (lenA v4) fun v5 =>
 b57_5 c nl lo nl x0 v4 v5 (.i 0) M
theorem t57_4 (c : CallT) (nl lo : Nat) (ρ : Rg) (M : MM) : k57_4 c nl lo ρ M = b57_4 c nl lo (ρ 0) (ρ 3) M := by
 have h : k57_4 c nl lo ρ M = (opt (fldA 0 0 true (ρ 3)) fun v3 =>
 opt (fldA 1 1 false (ρ 3)) fun v4 =>
 opt (lenA v4) fun v5 =>
 k57_5 c nl lo nl (sF (sF (sF (sF ρ 22 v3) 23 v4) 24 v5) 25 (.i 0)) M) := by kernel_rfl
 rw [h]
 unfold b57_4; simp only [(t57_5 c nl lo nl)] <;> (show _ = _; kernel_rfl)
def k57_2 (c : CallT) (nl lo : Nat) : Rg → MM → Option (AV × MM) := (execC c modeF lo nl p57_22 (endK cf57.res) noE (endK cf57.res))
@[reducible] def b57_2 (c : CallT) (nl lo : Nat) (x0 x3 : AV) (M : MM) : Option (AV × MM) :=
 b57_4 c nl lo x0 x3 M
theorem t57_2 (c : CallT) (nl lo : Nat) (ρ : Rg) (M : MM) : k57_2 c nl lo ρ M = b57_2 c nl lo (ρ 0) (ρ 3) M := by
 have h : k57_2 c nl lo ρ M = (k57_4 c nl lo ρ M) := execC_seq c modeF lo nl p57_19 p57_21 (endK cf57.res) noE (endK cf57.res) ρ M
 rw [h]
 unfold b57_2; simp only [(t57_4 c nl lo)] <;> (show _ = _; kernel_rfl)
def k57_6 (c : CallT) (nl lo : Nat) : Rg → MM → Option (AV × MM) := (execC c modeF lo nl p57_5 (k57_2 c nl lo) noE (endK cf57.res))
@[reducible] def b57_6 (c : CallT) (nl lo : Nat) (x0 x3 : AV) (M : MM) : Option (AV × MM) :=
 opt (fldA 0 0 true x3) fun v1 =>
 opt (fldA 0 1 false x3) fun v2 =>
 opt (puA c (lk M) 58 [v2]) fun v3 =>
 opt (gdp v3 true (some x0)) fun v5 =>
 opt (gdp v3 true (fldA 0 0 true x3)) fun v6 =>
 opt (gdp v3 true (fldA 0 1 false x3)) fun v7 =>
 opt (gdp v3 true (puA c (lk M) 70 [v5, v7])) fun v8 =>
 opt (gdp v3 true (unA .not v8)) fun v9 =>
 opt (pickA v3 v9 (.bool false)) fun v10 =>
 isB v10 fun c11 => if c11 then (opt (fldA 0 0 true x3) fun v13 =>
 opt (fldA 0 1 false x3) fun v14 =>
 opt (wslA 1 (fill [.str ⟨⟨[]⟩⟩] [(0, 1, v14)])) fun v15 =>
 upK M M.nx fun M16 =>
 opt (wappA M16.mem (.top M16.nx) 1 16 x0 v15) fun v17 =>
 upK M16 M16.nx fun M18 =>
 b57_2 c nl lo v17 x3 M18)
 else (b57_2 c nl lo x0 x3 M)
theorem t57_6 (c : CallT) (nl lo : Nat) (ρ : Rg) (M : MM) : k57_6 c nl lo ρ M = b57_6 c nl lo (ρ 0) (ρ 3) M := by
 have h : ∀ (z0 : Rg → MM → Option (AV × MM)), (execC c modeF lo nl p57_5 z0 noE (endK cf57.res)) ρ M = (opt (fldA 0 0 true (ρ 3)) fun v1 =>
 opt (fldA 0 1 false (ρ 3)) fun v2 =>
 opt (puA c (lk M) 58 [v2]) fun v3 =>
 opt (gdp v3 true (some (ρ 0))) fun v5 =>
 opt (gdp v3 true (fldA 0 0 true (ρ 3))) fun v6 =>
 opt (gdp v3 true (fldA 0 1 false (ρ 3))) fun v7 =>
 opt (gdp v3 true (puA c (lk M) 70 [v5, v7])) fun v8 =>
 opt (gdp v3 true (unA .not v8)) fun v9 =>
 opt (pickA v3 v9 (.bool false)) fun v10 =>
 isB v10 fun c11 => if c11 then (opt (fldA 0 0 true (ρ 3)) fun v13 =>
 opt (fldA 0 1 false (ρ 3)) fun v14 =>
 opt (wslA 1 (fill [.str ⟨⟨[]⟩⟩] [(0, 1, v14)])) fun v15 =>
 upK M M.nx fun M16 =>
 opt (wappA M16.mem (.top M16.nx) 1 16 (ρ 0) v15) fun v17 =>
 upK M16 M16.nx fun M18 =>
 z0 (sF (sF (sF (sF (sF (sF (sF (sF (sF (sF (sF (sF (sF (sF (sF (sF ρ 7 v1) 8 v2) 9 v3) 10 v3) 11 v5) 12 v6) 13 v7) 14 v8) 15 v9) 16 v10) 17 (ρ 0)) 18 v13) 19 v14) 20 v15) 21 v17) 0 v17) M18)
 else (z0 (sF (sF (sF (sF (sF (sF (sF (sF (sF (sF ρ 7 v1) 8 v2) 9 v3) 10 v3) 11 v5) 12 v6) 13 v7) 14 v8) 15 v9) 16 v10) M)) := by intros; kernel_rfl
 refine (h (k57_2 c nl lo)).trans ?_
 unfold b57_6; simp only [(t57_2 c nl lo)] <;> (show _ = _; kernel_rfl)
def k57_1 (c : CallT) (nl lo : Nat) : Rg → MM → Option (AV × MM) := (execC c modeF lo nl p57_23 (endK cf57.res) noE (endK cf57.res))
@[reducible] def b57_1 (c : CallT) (nl lo : Nat) (x0 x3 : AV) (M : MM) : Option (AV × MM) :=
 b57_6 c nl lo x0 x3 M
theorem t57_1 (c : CallT) (nl lo : Nat) (ρ : Rg) (M : MM) : k57_1 c nl lo ρ M = b57_1 c nl lo (ρ 0) (ρ 3) M := by
 have h : k57_1 c nl lo ρ M = (k57_6 c nl lo ρ M) := execC_seq c modeF lo nl p57_5 p57_22 (endK cf57.res) noE (endK cf57.res) ρ M
 rw [h]
 unfold b57_1; simp only [(t57_6 c nl lo)] <;> (show _ = _; kernel_rfl)
def k57_7 (c : CallT) (nl lo : Nat) : Rg → MM → Option (AV × MM) := (execC c modeF lo nl p57_1 (k57_1 c nl lo) noE (endK cf57.res))
@[reducible] def b57_7 (c : CallT) (nl lo : Nat) (x0 x1 : AV) (M : MM) : Option (AV × MM) :=
 opt (aggA x1) fun v1 =>
 upK M M.nx fun M2 =>
 b57_1 c nl lo x0 v1 M2
theorem t57_7 (c : CallT) (nl lo : Nat) (ρ : Rg) (M : MM) : k57_7 c nl lo ρ M = b57_7 c nl lo (ρ 0) (ρ 1) M := by
 have h : ∀ (z0 : Rg → MM → Option (AV × MM)), (execC c modeF lo nl p57_1 z0 noE (endK cf57.res)) ρ M = (opt (aggA (ρ 1)) fun v1 =>
 upK M M.nx fun M2 =>
 z0 (sF (sF ρ 3 v1) 4 (.d (.sl [] 0))) M2) := by intros; kernel_rfl
 refine (h (k57_1 c nl lo)).trans ?_
 unfold b57_7; simp only [(t57_1 c nl lo)] <;> (show _ = _; kernel_rfl)
def k57_0 (c : CallT) (nl lo : Nat) : Rg → MM → Option (AV × MM) := (execC c modeF lo nl p57_24 (endK cf57.res) noE (endK cf57.res))
@[reducible] def b57_0 (c : CallT) (nl lo : Nat) (x0 x1 : AV) (M : MM) : Option (AV × MM) :=
 b57_7 c nl lo x0 x1 M
theorem t57_0 (c : CallT) (nl lo : Nat) (ρ : Rg) (M : MM) : k57_0 c nl lo ρ M = b57_0 c nl lo (ρ 0) (ρ 1) M := by
 have h : k57_0 c nl lo ρ M = (k57_7 c nl lo ρ M) := execC_seq c modeF lo nl p57_1 p57_23 (endK cf57.res) noE (endK cf57.res) ρ M
 rw [h]
 unfold b57_0; simp only [(t57_7 c nl lo)] <;> (show _ = _; kernel_rfl)
def k57_8 (c : CallT) (nl lo : Nat) : Rg → MM → Option (AV × MM) := (execC c modeF lo nl p57_0 (k57_0 c nl lo) noE (endK cf57.res))
@[reducible] def b57_8 (c : CallT) (nl lo : Nat) (x0 x1 : AV) (M : MM) : Option (AV × MM) :=
 b57_0 c nl lo x0 x1 M
theorem t57_8 (c : CallT) (nl lo : Nat) (ρ : Rg) (M : MM) : k57_8 c nl lo ρ M = b57_8 c nl lo (ρ 0) (ρ 1) M := by
 have h : ∀ (z0 : Rg → MM → Option (AV × MM)), (execC c modeF lo nl p57_0 z0 noE (endK cf57.res)) ρ M = (z0 (sF (sF ρ 3 (.tup [])) 6 (.tup [])) M) := by intros; kernel_rfl
 refine (h (k57_0 c nl lo)).trans ?_
 unfold b57_8; simp only [(t57_0 c nl lo)] <;> (show _ = _; kernel_rfl)
def s57 (c : CallT) (nl lo : Nat) (a0 a1 : AV) (M : MM) : Option (AV × MM) :=
 b57_8 c nl lo a0 a1 M
theorem e57 (c : CallT) (nl lo : Nat) (a0 a1 : AV) (M : MM) : execC c modeF lo nl cf57.body (endK cf57.res) noE (endK cf57.res) (aF [a0, a1]) M = s57 c nl lo a0 a1 M := by
 have h : execC c modeF lo nl cf57.body (endK cf57.res) noE (endK cf57.res) (aF [a0, a1]) M = (k57_8 c nl lo (aF [a0, a1]) M) := execC_seq c modeF lo nl p57_0 p57_24 (endK cf57.res) noE (endK cf57.res) (aF [a0, a1]) M
 refine h.trans ?_
 unfold s57; simp only [(t57_8 c nl lo)] <;> (show _ = _; kernel_rfl)
theorem q57 {c : CallT} (hc : Lim G c) (lo : Nat) (a0 a1 : AV) (M : MM) : c 57 [a0, a1] lo M = s57 c G.nl lo a0 a1 M :=
 (hc.flow (cf := cf57) rfl w57 [a0, a1] lo M).trans (e57 c G.nl lo a0 a1 M)

/-! ### function 58 -/
theorem w58 : wfK cf58.nt cf58.body = true := by kernel_rfl
def s58 (c : CallT) (nl lo : Nat) (a0 : AV) (M : MM) : Option (AV × MM) :=
 opt (puA c (lk M) 37 [a0]) fun v3 =>
 opt (unA .not v3) fun v4 =>
 opt (gdp v4 true (some a0)) fun v6 =>
 opt (gdp v4 true (puA c (lk M) 61 [v6, (.str ⟨⟨[46]⟩⟩)])) fun v7 =>
 opt (gdp v4 true (unA .not v7)) fun v8 =>
 opt (pickA v4 v8 (.bool false)) fun v9 =>
 some (v9, M)
theorem e58 (c : CallT) (nl lo : Nat) (a0 : AV) (M : MM) : execC c modeF lo nl cf58.body (endK cf58.res) noE (endK cf58.res) (aF [a0]) M = s58 c nl lo a0 M := by
 kernel_rfl
theorem q58 {c : CallT} (hc : Lim G c) (lo : Nat) (a0 : AV) (M : MM) : c 58 [a0] lo M = s58 c G.nl lo a0 M :=
 (hc.flow (cf := cf58) rfl w58 [a0] lo M).trans (e58 c G.nl lo a0 M)

/-! ### function 59 -/
theorem w59 : wfK cf59.nt cf59.body = true := by kernel_rfl
def s59 (c : CallT) (nl lo : Nat) (a0 a1 : AV) (M : MM) : Option (AV × MM) :=
 bnd (c 78 [a0, a1] lo M) fun v4 M5 =>
 opt (binA .geq .none v4 (.i 0)) fun v6 =>
 some (v6, M5)
theorem e59 (c : CallT) (nl lo : Nat) (a0 a1 : AV) (M : MM) : execC c modeF lo nl cf59.body (endK cf59.res) noE (endK cf59.res) (aF [a0, a1]) M = s59 c nl lo a0 a1 M := by
 kernel_rfl
theorem q59 {c : CallT} (hc : Lim G c) (lo : Nat) (a0 a1 : AV) (M : MM) : c 59 [a0, a1] lo M = s59 c G.nl lo a0 a1 M :=
 (hc.flow (cf := cf59) rfl w59 [a0, a1] lo M).trans (e59 c G.nl lo a0 a1 M)

/-! ### function 60 -/
theorem w60 : wfK cf60.nt cf60.body = true := by kernel_rfl
def s60 (c : CallT) (nl lo : Nat) (a0 : AV) (M : MM) : Option (AV × MM) :=
 opt (aggA a0) fun v2 =>
 upK M M.nx fun M3 =>
 opt (fldA 0 2 true v2) fun v5 =>
 opt (puA c (lk M3) 27 [v5]) fun v6 =>
 opt (unA .not v6) fun v7 =>
 some (v7, M3)
theorem e60 (c : CallT) (nl lo : Nat) (a0 : AV) (M : MM) : execC c modeF lo nl cf60.body (endK cf60.res) noE (endK cf60.res) (aF [a0]) M = s60 c nl lo a0 M := by
 kernel_rfl
theorem q60 {c : CallT} (hc : Lim G c) (lo : Nat) (a0 : AV) (M : MM) : c 60 [a0] lo M = s60 c G.nl lo a0 M :=
 (hc.flow (cf := cf60) rfl w60 [a0] lo M).trans (e60 c G.nl lo a0 M)

/-! ### function 61 -/
theorem w61 : wfK cf61.nt cf61.body = true := by kernel_rfl
def s61 (c : CallT) (nl lo : Nat) (a0 a1 : AV) (M : MM) : Option (AV × MM) :=
 opt (puA c (lk M) 79 [a0, a1]) fun v4 =>
 opt (binA .geq .none v4 (.i 0)) fun v5 =>
 some (v5, M)
theorem e61 (c : CallT) (nl lo : Nat) (a0 a1 : AV) (M : MM) : execC c modeF lo nl cf61.body (endK cf61.res) noE (endK cf61.res) (aF [a0, a1]) M = s61 c nl lo a0 a1 M := by
 kernel_rfl
theorem q61 {c : CallT} (hc : Lim G c) (lo : Nat) (a0 a1 : AV) (M : MM) : c 61 [a0, a1] lo M = s61 c G.nl lo a0 a1 M :=
 (hc.flow (cf := cf61) rfl w61 [a0, a1] lo M).trans (e61 c G.nl lo a0 a1 M)

/-! ### function 62 -/
theorem w62 : wfK cf62.nt cf62.body = true := by kernel_rfl
def s62 (c : CallT) (nl lo : Nat) (a0 : AV) (M : MM) : Option (AV × MM) :=
 opt (aggA a0) fun v2 =>
 upK M M.nx fun M3 =>
 opt (fldA 0 2 true v2) fun v5 =>
 opt (puA c (lk M3) 28 [v5]) fun v6 =>
 opt (unA .not v6) fun v7 =>
 some (v7, M3)
theorem e62 (c : CallT) (nl lo : Nat) (a0 : AV) (M : MM) : execC c modeF lo nl cf62.body (endK cf62.res) noE (endK cf62.res) (aF [a0]) M = s62 c nl lo a0 M := by
 kernel_rfl
theorem q62 {c : CallT} (hc : Lim G c) (lo : Nat) (a0 : AV) (M : MM) : c 62 [a0] lo M = s62 c G.nl lo a0 M :=
 (hc.flow (cf := cf62) rfl w62 [a0] lo M).trans (e62 c G.nl lo a0 M)
end Go.Proofs.Ytcoagkfjdpdohaa.Sx
