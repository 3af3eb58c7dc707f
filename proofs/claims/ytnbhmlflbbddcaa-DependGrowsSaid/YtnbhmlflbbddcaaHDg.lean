/- THE SEAT's FUNCTIONS AS DEFINITIONS WITHOUT REGISTERS, printed by program; 'eq..' holds each against the abstract machine's code. -/
import Derived.Test.YtnbhmlflbbddcaaGDg
import Derived.Test.YtnbhmlflbbddcaaSxMDg
namespace Go.Proofs.Ytnbhmlflbbddcaa.Sx
open Go
set_option maxRecDepth 1000000
set_option linter.unusedVariables false
set_option linter.unusedSimpArgs false
abbrev OR := Option (AV × MM)
set_option maxHeartbeats 4000000

/-! ### function 3 -/
theorem w3 : wfK cf3.nt cf3.body = true := by kernel_rfl
def k3_1 (c : CallT) (nl lo : Nat) : Rg → MM → OR := (execC c modeF lo nl p3_17 (endK cf3.res) noE (endK cf3.res))
@[reducible] def b3_1 (c : CallT) (nl lo : Nat) (x9 x11 x12 : AV) (M : MM) : OR :=
 opt (binA .eql .none x9 x12) fun v70 =>
 opt (gdp v70 true (some x11)) fun v72 =>
 opt (gdp v70 true (binA .eql .none v72 (.i 4))) fun v73 =>
 opt (pickA v70 v73 (.bool false)) fun v74 =>
 opt (gdp v74 true (puA c (lk M) 6 [])) fun v76 =>
 opt (pickA v74 v76 (.bool false)) fun v77 =>
 some (v77, M)
theorem t3_1 (c : CallT) (nl lo : Nat) (ρ : Rg) (M : MM) : k3_1 c nl lo ρ M = b3_1 c nl lo (ρ 9) (ρ 11) (ρ 12) M := by
 kernel_rfl
def k3_2 (c : CallT) (nl lo : Nat) : Rg → MM → OR := (execC c modeF lo nl p3_15 (k3_1 c nl lo) noE (endK cf3.res))
@[reducible] def b3_2 (c : CallT) (nl lo : Nat) (x1 x9 x11 x12 : AV) (M : MM) : OR :=
 isB x1 fun c80 => if c80 then (b3_1 c nl lo x9 x11 (.i 4) M)
 else (b3_1 c nl lo x9 x11 x12 M)
theorem t3_2 (c : CallT) (nl lo : Nat) (ρ : Rg) (M : MM) : k3_2 c nl lo ρ M = b3_2 c nl lo (ρ 1) (ρ 9) (ρ 11) (ρ 12) M := by
 have h : ∀ (z0 : Rg → MM → OR), (execC c modeF lo nl p3_15 z0 noE (endK cf3.res)) ρ M = (isB (ρ 1) fun c80 => if c80 then (z0 (sF (sF ρ 57 (ρ 1)) 12 (.i 4)) M)
 else (z0 (sF ρ 57 (ρ 1)) M)) := by intros; kernel_rfl
 refine (h (k3_1 c nl lo)).trans ?_
 unfold b3_2; simp only [(t3_1 c nl lo)] <;> (show _ = _; kernel_rfl)
def k3_0 (c : CallT) (nl lo : Nat) : Rg → MM → OR := (execC c modeF lo nl p3_23 (endK cf3.res) noE (endK cf3.res))
@[reducible] def b3_0 (c : CallT) (nl lo : Nat) (x1 x5 : AV) (M : MM) : OR :=
 bnd (istep c modeF false lo (.top M.nx) M.nx (.vsl 9 2 1 [.str ⟨⟨[]⟩⟩, .str ⟨⟨[]⟩⟩] [(0, 1, .k (.str ⟨⟨[65]⟩⟩)), (1, 1, .k (.str ⟨⟨[66]⟩⟩))]) [] M) fun v15 M16 =>
 opt ((fill [.i 0, .bool false, .bool false, .str ⟨⟨[]⟩⟩, .nilsl, .nilsl] [(3, 1, (.str ⟨⟨[80]⟩⟩)), (4, 1, v15)]).map .agg) fun v17 =>
 bnd (istep c modeF false lo (.top M16.nx) M16.nx (.vsl 28 1 6 [.i 0, .bool false, .bool false, .str ⟨⟨[]⟩⟩, .nilsl, .nilsl] [(0, 6, (.k v17))]) [] M16) fun v18 M19 =>
 bnd (istep c modeF false lo (.top M19.nx) M19.nx (.vsl 9 1 1 [.str ⟨⟨[]⟩⟩] [(0, 1, .k (.str ⟨⟨[84]⟩⟩))]) [] M19) fun v20 M21 =>
 opt ((fill [.bool false, .str ⟨⟨[]⟩⟩, .nilsl] [(1, 1, (.str ⟨⟨[99, 97]⟩⟩))]).map .agg) fun v22 =>
 opt (fldA 0 2 true x5) fun v23 =>
 bnd (istep c modeF false lo (.top M21.nx) M21.nx (.vsl 24 1 2 [.str ⟨⟨[]⟩⟩, .nilsl] [(0, 2, (.k v23))]) [] M21) fun v24 M25 =>
 opt (unA .not x1) fun v27 =>
 opt ((fill [.bool false, .str ⟨⟨[]⟩⟩, .nilsl] [(1, 1, (.str ⟨⟨[99, 98]⟩⟩)), (2, 1, v24), (0, 1, v27)]).map .agg) fun v28 =>
 bnd (istep c modeF false lo (.top M25.nx) M25.nx (.vsl 31 2 3 [.bool false, .str ⟨⟨[]⟩⟩, .nilsl, .bool false, .str ⟨⟨[]⟩⟩, .nilsl] [(0, 3, (.k v22)), (3, 3, (.k v28))]) [] M25) fun v29 M30 =>
 opt ((fill [.i 0, .bool false, .bool false, .str ⟨⟨[]⟩⟩, .nilsl, .nilsl] [(3, 1, (.str ⟨⟨[71]⟩⟩)), (4, 1, v20), (5, 1, v29)]).map .agg) fun v31 =>
 bnd (istep c modeF false lo (.top M30.nx) M30.nx (.vsl 34 1 6 [.i 0, .bool false, .bool false, .str ⟨⟨[]⟩⟩, .nilsl, .nilsl] [(0, 6, (.k v31))]) [] M30) fun v32 M33 =>
 opt ((fill [.i 0, .str ⟨⟨[]⟩⟩, .i 0, .nilsl, .nilsl, .nilsl, .nilsl, .nilsl, .nilsl] [(0, 1, (.i 1)), (1, 1, (.str ⟨⟨[103, 101, 111]⟩⟩)), (2, 1, (.i 1)), (4, 1, v18), (5, 1, v32)]).map .agg) fun v34 =>
 upK M33 M33.nx fun M36 =>
 opt (setcA 0 9 (.agg [.i 0, .str ⟨⟨[]⟩⟩, .i 0, .nilsl, .nilsl, .nilsl, .nilsl, .nilsl, .nilsl]) v34) fun v37 =>
 opt ((fill [.str ⟨⟨[]⟩⟩, .nilsl] [(0, 1, (.str ⟨⟨[73, 110, 116]⟩⟩))]).map .agg) fun v38 =>
 bnd (istep c modeF false lo (.top M36.nx) M36.nx (.vsl 24 1 2 [.str ⟨⟨[]⟩⟩, .nilsl] [(0, 2, (.k v38))]) [] M36) fun v39 M40 =>
 opt ((fill [.str ⟨⟨[]⟩⟩, .nilsl] [(0, 1, (.str ⟨⟨[103, 101, 111, 46, 71]⟩⟩)), (1, 1, v39)]).map .agg) fun v41 =>
 upK M40 M40.nx fun M43 =>
 opt (setcA 0 2 (.agg [.str ⟨⟨[]⟩⟩, .nilsl]) v41) fun v44 =>
 opt (fldA 0 9 true v37) fun v45 =>
 bnd (istep c modeF false lo (.top M43.nx) M43.nx (.vsl 41 1 9 [.i 0, .str ⟨⟨[]⟩⟩, .i 0, .nilsl, .nilsl, .nilsl, .nilsl, .nilsl, .nilsl] [(0, 9, (.k v45))]) [] M43) fun v46 M47 =>
 opt (fldA 0 2 true v44) fun v48 =>
 bnd (istep c modeF false lo (.top M47.nx) M47.nx (.vsl 24 1 2 [.str ⟨⟨[]⟩⟩, .nilsl] [(0, 2, (.k v48))]) [] M47) fun v49 M50 =>
 opt (puA c (lk M50) 4 [v46, v49]) fun v51 =>
 opt (extA 0 v51) fun v53 =>
 opt (extA 1 v51) fun v54 =>
 opt (fldA 0 9 true v37) fun v57 =>
 bnd (istep c modeF false lo (.top M50.nx) M50.nx (.vsl 41 1 9 [.i 0, .str ⟨⟨[]⟩⟩, .i 0, .nilsl, .nilsl, .nilsl, .nilsl, .nilsl, .nilsl] [(0, 9, (.k v57))]) [] M50) fun v58 M59 =>
 opt (fldA 0 2 true v44) fun v60 =>
 opt (puA c (lk M59) 5 [v58, v60]) fun v61 =>
 opt (extA 0 v61) fun v63 =>
 opt (extA 1 v61) fun v64 =>
 b3_2 c nl lo x1 v54 v64 (.i 0) M59
theorem t3_0 (c : CallT) (nl lo : Nat) (ρ : Rg) (M : MM) : k3_0 c nl lo ρ M = b3_0 c nl lo (ρ 1) (ρ 5) M := by
 have h : k3_0 c nl lo ρ M = (bnd (istep c modeF false lo (.top M.nx) M.nx (.vsl 9 2 1 [.str ⟨⟨[]⟩⟩, .str ⟨⟨[]⟩⟩] [(0, 1, .k (.str ⟨⟨[65]⟩⟩)), (1, 1, .k (.str ⟨⟨[66]⟩⟩))]) [] M) fun v15 M16 =>
 opt ((fill [.i 0, .bool false, .bool false, .str ⟨⟨[]⟩⟩, .nilsl, .nilsl] [(3, 1, (.str ⟨⟨[80]⟩⟩)), (4, 1, v15)]).map .agg) fun v17 =>
 bnd (istep c modeF false lo (.top M16.nx) M16.nx (.vsl 28 1 6 [.i 0, .bool false, .bool false, .str ⟨⟨[]⟩⟩, .nilsl, .nilsl] [(0, 6, (.k v17))]) [] M16) fun v18 M19 =>
 bnd (istep c modeF false lo (.top M19.nx) M19.nx (.vsl 9 1 1 [.str ⟨⟨[]⟩⟩] [(0, 1, .k (.str ⟨⟨[84]⟩⟩))]) [] M19) fun v20 M21 =>
 opt ((fill [.bool false, .str ⟨⟨[]⟩⟩, .nilsl] [(1, 1, (.str ⟨⟨[99, 97]⟩⟩))]).map .agg) fun v22 =>
 opt (fldA 0 2 true (ρ 5)) fun v23 =>
 bnd (istep c modeF false lo (.top M21.nx) M21.nx (.vsl 24 1 2 [.str ⟨⟨[]⟩⟩, .nilsl] [(0, 2, (.k v23))]) [] M21) fun v24 M25 =>
 opt (unA .not (ρ 1)) fun v27 =>
 opt ((fill [.bool false, .str ⟨⟨[]⟩⟩, .nilsl] [(1, 1, (.str ⟨⟨[99, 98]⟩⟩)), (2, 1, v24), (0, 1, v27)]).map .agg) fun v28 =>
 bnd (istep c modeF false lo (.top M25.nx) M25.nx (.vsl 31 2 3 [.bool false, .str ⟨⟨[]⟩⟩, .nilsl, .bool false, .str ⟨⟨[]⟩⟩, .nilsl] [(0, 3, (.k v22)), (3, 3, (.k v28))]) [] M25) fun v29 M30 =>
 opt ((fill [.i 0, .bool false, .bool false, .str ⟨⟨[]⟩⟩, .nilsl, .nilsl] [(3, 1, (.str ⟨⟨[71]⟩⟩)), (4, 1, v20), (5, 1, v29)]).map .agg) fun v31 =>
 bnd (istep c modeF false lo (.top M30.nx) M30.nx (.vsl 34 1 6 [.i 0, .bool false, .bool false, .str ⟨⟨[]⟩⟩, .nilsl, .nilsl] [(0, 6, (.k v31))]) [] M30) fun v32 M33 =>
 opt ((fill [.i 0, .str ⟨⟨[]⟩⟩, .i 0, .nilsl, .nilsl, .nilsl, .nilsl, .nilsl, .nilsl] [(0, 1, (.i 1)), (1, 1, (.str ⟨⟨[103, 101, 111]⟩⟩)), (2, 1, (.i 1)), (4, 1, v18), (5, 1, v32)]).map .agg) fun v34 =>
 upK M33 M33.nx fun M36 =>
 opt (setcA 0 9 (.agg [.i 0, .str ⟨⟨[]⟩⟩, .i 0, .nilsl, .nilsl, .nilsl, .nilsl, .nilsl, .nilsl]) v34) fun v37 =>
 opt ((fill [.str ⟨⟨[]⟩⟩, .nilsl] [(0, 1, (.str ⟨⟨[73, 110, 116]⟩⟩))]).map .agg) fun v38 =>
 bnd (istep c modeF false lo (.top M36.nx) M36.nx (.vsl 24 1 2 [.str ⟨⟨[]⟩⟩, .nilsl] [(0, 2, (.k v38))]) [] M36) fun v39 M40 =>
 opt ((fill [.str ⟨⟨[]⟩⟩, .nilsl] [(0, 1, (.str ⟨⟨[103, 101, 111, 46, 71]⟩⟩)), (1, 1, v39)]).map .agg) fun v41 =>
 upK M40 M40.nx fun M43 =>
 opt (setcA 0 2 (.agg [.str ⟨⟨[]⟩⟩, .nilsl]) v41) fun v44 =>
 opt (fldA 0 9 true v37) fun v45 =>
 bnd (istep c modeF false lo (.top M43.nx) M43.nx (.vsl 41 1 9 [.i 0, .str ⟨⟨[]⟩⟩, .i 0, .nilsl, .nilsl, .nilsl, .nilsl, .nilsl, .nilsl] [(0, 9, (.k v45))]) [] M43) fun v46 M47 =>
 opt (fldA 0 2 true v44) fun v48 =>
 bnd (istep c modeF false lo (.top M47.nx) M47.nx (.vsl 24 1 2 [.str ⟨⟨[]⟩⟩, .nilsl] [(0, 2, (.k v48))]) [] M47) fun v49 M50 =>
 opt (puA c (lk M50) 4 [v46, v49]) fun v51 =>
 opt (extA 0 v51) fun v53 =>
 opt (extA 1 v51) fun v54 =>
 opt (fldA 0 9 true v37) fun v57 =>
 bnd (istep c modeF false lo (.top M50.nx) M50.nx (.vsl 41 1 9 [.i 0, .str ⟨⟨[]⟩⟩, .i 0, .nilsl, .nilsl, .nilsl, .nilsl, .nilsl, .nilsl] [(0, 9, (.k v57))]) [] M50) fun v58 M59 =>
 opt (fldA 0 2 true v44) fun v60 =>
 opt (puA c (lk M59) 5 [v58, v60]) fun v61 =>
 opt (extA 0 v61) fun v63 =>
 opt (extA 1 v61) fun v64 =>
 k3_2 c nl lo (sF (sF (sF (sF (sF (sF (sF (sF (sF (sF (sF (sF (sF (sF (sF (sF (sF (sF (sF (sF (sF (sF (sF (sF (sF (sF (sF (sF (sF (sF (sF (sF (sF (sF (sF (sF (sF (sF (sF (sF (sF ρ 25 v15) 26 v17) 27 v18) 28 v20) 29 v22) 30 v23) 31 v24) 32 (ρ 1)) 33 v27) 34 v28) 35 v29) 36 v31) 37 v32) 38 v34) 6 (.agg [.i 0, .str ⟨⟨[]⟩⟩, .i 0, .nilsl, .nilsl, .nilsl, .nilsl, .nilsl, .nilsl])) 6 v37) 39 v38) 40 v39) 41 v41) 7 (.agg [.str ⟨⟨[]⟩⟩, .nilsl])) 7 v44) 43 v45) 44 v46) 45 v48) 46 v49) 47 v51) 42 v51) 48 v53) 49 v54) 8 v53) 9 v54) 51 v57) 52 v58) 53 v60) 54 v61) 50 v61) 55 v63) 56 v64) 10 v63) 11 v64) 12 (.i 0)) M59) := by kernel_rfl
 rw [h]
 unfold b3_0; simp only [(t3_2 c nl lo)] <;> (show _ = _; kernel_rfl)
def k3_3 (c : CallT) (nl lo : Nat) : Rg → MM → OR := (execC c modeF lo nl p3_6 (k3_0 c nl lo) noE (endK cf3.res))
@[reducible] def b3_3 (c : CallT) (nl lo : Nat) (x0 x1 x5 : AV) (M : MM) : OR :=
 isB x0 fun c69 => if c69 then (opt ((fill [.str ⟨⟨[]⟩⟩, .nilsl] [(0, 1, (.str ⟨⟨[84]⟩⟩))]).map .agg) fun v70 =>
 opt ((fill [.str ⟨⟨[]⟩⟩, .nilsl] [(0, 1, (.str ⟨⟨[84]⟩⟩))]).map .agg) fun v71 =>
 bnd (istep c modeF false lo (.top M.nx) M.nx (.vsl 24 2 2 [.str ⟨⟨[]⟩⟩, .nilsl, .str ⟨⟨[]⟩⟩, .nilsl] [(0, 2, (.k v70)), (2, 2, (.k v71))]) [] M) fun v72 M73 =>
 opt ((fill [.str ⟨⟨[]⟩⟩, .nilsl] [(0, 1, (.str ⟨⟨[103, 101, 111, 46, 80]⟩⟩)), (1, 1, v72)]).map .agg) fun v74 =>
 bnd (istep c modeF false lo (.top M73.nx) M73.nx (.vsl 24 1 2 [.str ⟨⟨[]⟩⟩, .nilsl] [(0, 2, (.k v74))]) [] M73) fun v75 M76 =>
 opt ((fill [.str ⟨⟨[]⟩⟩, .nilsl] [(0, 1, (.str ⟨⟨[103, 101, 111, 46, 71]⟩⟩)), (1, 1, v75)]).map .agg) fun v77 =>
 opt (setcA 0 2 x5 v77) fun v78 =>
 b3_0 c nl lo x1 v78 M76)
 else (b3_0 c nl lo x1 x5 M)
theorem t3_3 (c : CallT) (nl lo : Nat) (ρ : Rg) (M : MM) : k3_3 c nl lo ρ M = b3_3 c nl lo (ρ 0) (ρ 1) (ρ 5) M := by
 have h : ∀ (z0 : Rg → MM → OR), (execC c modeF lo nl p3_6 z0 noE (endK cf3.res)) ρ M = (isB (ρ 0) fun c69 => if c69 then (opt ((fill [.str ⟨⟨[]⟩⟩, .nilsl] [(0, 1, (.str ⟨⟨[84]⟩⟩))]).map .agg) fun v70 =>
 opt ((fill [.str ⟨⟨[]⟩⟩, .nilsl] [(0, 1, (.str ⟨⟨[84]⟩⟩))]).map .agg) fun v71 =>
 bnd (istep c modeF false lo (.top M.nx) M.nx (.vsl 24 2 2 [.str ⟨⟨[]⟩⟩, .nilsl, .str ⟨⟨[]⟩⟩, .nilsl] [(0, 2, (.k v70)), (2, 2, (.k v71))]) [] M) fun v72 M73 =>
 opt ((fill [.str ⟨⟨[]⟩⟩, .nilsl] [(0, 1, (.str ⟨⟨[103, 101, 111, 46, 80]⟩⟩)), (1, 1, v72)]).map .agg) fun v74 =>
 bnd (istep c modeF false lo (.top M73.nx) M73.nx (.vsl 24 1 2 [.str ⟨⟨[]⟩⟩, .nilsl] [(0, 2, (.k v74))]) [] M73) fun v75 M76 =>
 opt ((fill [.str ⟨⟨[]⟩⟩, .nilsl] [(0, 1, (.str ⟨⟨[103, 101, 111, 46, 71]⟩⟩)), (1, 1, v75)]).map .agg) fun v77 =>
 opt (setcA 0 2 (ρ 5) v77) fun v78 =>
 z0 (sF (sF (sF (sF (sF (sF (sF (sF ρ 18 (ρ 0)) 19 v70) 20 v71) 21 v72) 22 v74) 23 v75) 24 v77) 5 v78) M76)
 else (z0 (sF ρ 18 (ρ 0)) M)) := by intros; kernel_rfl
 refine (h (k3_0 c nl lo)).trans ?_
 unfold b3_3; simp only [(t3_0 c nl lo)] <;> (show _ = _; kernel_rfl)
def s3 (c : CallT) (nl lo : Nat) (a0 a1 : AV) (M : MM) : OR :=
 opt ((fill [.str ⟨⟨[]⟩⟩, .nilsl] [(0, 1, (.str ⟨⟨[84]⟩⟩))]).map .agg) fun v5 =>
 bnd (istep c modeF false lo (.top M.nx) M.nx (.vsl 24 1 2 [.str ⟨⟨[]⟩⟩, .nilsl] [(0, 2, (.k v5))]) [] M) fun v6 M7 =>
 opt ((fill [.str ⟨⟨[]⟩⟩, .nilsl] [(0, 1, (.str ⟨⟨[65, 114, 114, 97, 121]⟩⟩)), (1, 1, v6)]).map .agg) fun v8 =>
 bnd (istep c modeF false lo (.top M7.nx) M7.nx (.vsl 24 1 2 [.str ⟨⟨[]⟩⟩, .nilsl] [(0, 2, (.k v8))]) [] M7) fun v9 M10 =>
 opt ((fill [.str ⟨⟨[]⟩⟩, .nilsl] [(0, 1, (.str ⟨⟨[103, 101, 111, 46, 71]⟩⟩)), (1, 1, v9)]).map .agg) fun v11 =>
 upK M10 M10.nx fun M13 =>
 opt (setcA 0 2 (.agg [.str ⟨⟨[]⟩⟩, .nilsl]) v11) fun v14 =>
 b3_3 c nl lo a0 a1 v14 M13
theorem e3 (c : CallT) (nl lo : Nat) (a0 a1 : AV) (M : MM) : execC c modeF lo nl cf3.body (endK cf3.res) noE (endK cf3.res) (aF [a0, a1]) M = s3 c nl lo a0 a1 M := by
 have h : execC c modeF lo nl cf3.body (endK cf3.res) noE (endK cf3.res) (aF [a0, a1]) M = (opt ((fill [.str ⟨⟨[]⟩⟩, .nilsl] [(0, 1, (.str ⟨⟨[84]⟩⟩))]).map .agg) fun v5 =>
 bnd (istep c modeF false lo (.top M.nx) M.nx (.vsl 24 1 2 [.str ⟨⟨[]⟩⟩, .nilsl] [(0, 2, (.k v5))]) [] M) fun v6 M7 =>
 opt ((fill [.str ⟨⟨[]⟩⟩, .nilsl] [(0, 1, (.str ⟨⟨[65, 114, 114, 97, 121]⟩⟩)), (1, 1, v6)]).map .agg) fun v8 =>
 bnd (istep c modeF false lo (.top M7.nx) M7.nx (.vsl 24 1 2 [.str ⟨⟨[]⟩⟩, .nilsl] [(0, 2, (.k v8))]) [] M7) fun v9 M10 =>
 opt ((fill [.str ⟨⟨[]⟩⟩, .nilsl] [(0, 1, (.str ⟨⟨[103, 101, 111, 46, 71]⟩⟩)), (1, 1, v9)]).map .agg) fun v11 =>
 upK M10 M10.nx fun M13 =>
 opt (setcA 0 2 (.agg [.str ⟨⟨[]⟩⟩, .nilsl]) v11) fun v14 =>
 k3_3 c nl lo (sF (sF (sF (sF (sF (sF (sF (sF (sF (sF (sF (aF [a0, a1]) 5 (.tup [])) 6 (.tup [])) 7 (.tup [])) 4 (.bool false)) 13 v5) 14 v6) 15 v8) 16 v9) 17 v11) 5 (.agg [.str ⟨⟨[]⟩⟩, .nilsl])) 5 v14) M13) := by kernel_rfl
 refine h.trans ?_
 unfold s3; simp only [(t3_3 c nl lo)] <;> (show _ = _; kernel_rfl)
theorem q3 {c : CallT} (hc : Lim GK c) (lo : Nat) (a0 a1 : AV) (M : MM) : c 3 [a0, a1] lo M = s3 c GK.nl lo a0 a1 M :=
 (hc.flow (cf := cf3) rfl w3 [a0, a1] lo M).trans (e3 c GK.nl lo a0 a1 M)

/-! ### function 4 -/
theorem w4 : wfK cf4.nt cf4.body = true := by kernel_rfl
def s4 (c : CallT) (nl lo : Nat) (a0 a1 : AV) (M : MM) : OR :=
 bnd (c 7 [a0, a1] lo M) fun v5 M6 =>
 opt (extA 0 v5) fun v8 =>
 opt (extA 1 v5) fun v9 =>
 opt (binA .neq .none v9 (.i 0)) fun v13 =>
 isB v13 fun c14 => if c14 then (some (.tup [.nilsl, v9], M6))
 else (opt (nilcA v8) fun v19 =>
 opt (fadA 3 v19) fun v20 =>
 opt (ld1A (lk M6) v20) fun v21 =>
 some (.tup [v21, (.i 0)], M6))
theorem e4 (c : CallT) (nl lo : Nat) (a0 a1 : AV) (M : MM) : execC c modeF lo nl cf4.body (endK cf4.res) noE (endK cf4.res) (aF [a0, a1]) M = s4 c nl lo a0 a1 M := by
 kernel_rfl
theorem q4 {c : CallT} (hc : Lim GK c) (lo : Nat) (a0 a1 : AV) (M : MM) : c 4 [a0, a1] lo M = s4 c GK.nl lo a0 a1 M :=
 (hc.flow (cf := cf4) rfl w4 [a0, a1] lo M).trans (e4 c GK.nl lo a0 a1 M)

/-! ### function 5 -/
theorem w5 : wfK cf5.nt cf5.body = true := by kernel_rfl
def s5 (c : CallT) (nl lo : Nat) (a0 a1 : AV) (M : MM) : OR :=
 opt (aggA a1) fun v2 =>
 upK M M.nx fun M3 =>
 bnd (istep c modeF false lo (.top M3.nx) M3.nx (.mkmap .string) [] M3) fun v7 M8 =>
 opt ((fill [.nilsl, .d (.v (.map none)), .nilsl, .nilsl] [(0, 1, a0), (1, 1, v7)]).map .agg) fun v9 =>
 bnd (istep c modeF false lo (.top M8.nx) M8.nx (.box 54 (.k v9)) [] M8) fun v10 M11 =>
 opt (fldA 0 2 true v2) fun v14 =>
 bnd (c 8 [v10, v14] lo M11) fun v15 M16 =>
 opt (binA .neq .none v15 (.i 0)) fun v19 =>
 isB v19 fun c20 => if c20 then (some (.tup [.nilsl, v15], M16))
 else (opt (nilcA v10) fun v25 =>
 opt (fadA 3 v25) fun v26 =>
 opt (ld1A (lk M16) v26) fun v27 =>
 some (.tup [v27, (.i 0)], M16))
theorem e5 (c : CallT) (nl lo : Nat) (a0 a1 : AV) (M : MM) : execC c modeF lo nl cf5.body (endK cf5.res) noE (endK cf5.res) (aF [a0, a1]) M = s5 c nl lo a0 a1 M := by
 kernel_rfl
theorem q5 {c : CallT} (hc : Lim GK c) (lo : Nat) (a0 a1 : AV) (M : MM) : c 5 [a0, a1] lo M = s5 c GK.nl lo a0 a1 M :=
 (hc.flow (cf := cf5) rfl w5 [a0, a1] lo M).trans (e5 c GK.nl lo a0 a1 M)

/-! ### function 7 -/
theorem w7 : wfK cf7.nt cf7.body = true := by kernel_rfl
def k7_100 (c : CallT) (nl lo : Nat) : Rg → MM → OR := (execC c modeF lo nl p7_24 (endK cf7.res) noE (endK cf7.res))
@[reducible] def b7_100 (c : CallT) (nl lo : Nat) (x6 : AV) (M : MM) : OR :=
 some (.tup [x6, (.i 0)], M)
theorem t7_100 (c : CallT) (nl lo : Nat) (ρ : Rg) (M : MM) : k7_100 c nl lo ρ M = b7_100 c nl lo (ρ 6) M := by
 kernel_rfl
def k7_5 (c : CallT) (nl lo : Nat) (n : Nat) : Rg → MM → OR := iterC (fun k ρ M => execC c modeF lo nl p7_19 k (fun i ρ M => if i = 0 then (k7_100 c nl lo) ρ M else noE i ρ M) (endK cf7.res) ρ M) n
def b7_5 (c : CallT) (nl lo : Nat) : Nat → AV → AV → AV → AV → MM → OR
 | 0, _, _, _, _, _ => none
 | n + 1, x6, x14, x15, x16, M =>
 opt (binA .lss .none x16 x15) fun v17 =>
 isB v17 fun c18 => if c18 then (opt (ixsA 2 x14 x16) fun v19 =>
 opt (ldnA (lk M) 2 v19) fun v20 =>
 upK M M.nx fun M22 =>
 opt (setcA 0 2 (.agg [.str ⟨⟨[]⟩⟩, .nilsl]) v20) fun v23 =>
 opt (fldA 0 2 true v23) fun v25 =>
 bnd (c 11 [x6, v25] lo M22) fun v26 M27 =>
 opt (binA .neq .none v26 (.i 0)) fun v30 =>
 isB v30 fun c31 => if c31 then (some (.tup [x6, v26], M27))
 else (opt (binA .add .none x16 (.i 1)) fun v36 =>
 (b7_5 c nl lo n) x6 x14 x15 v36 M27))
 else (b7_100 c nl lo x6 M)
theorem t7_5 (c : CallT) (nl lo : Nat) : ∀ (n : Nat) (ρ : Rg) (M : MM), k7_5 c nl lo n ρ M = b7_5 c nl lo n (ρ 6) (ρ 14) (ρ 15) (ρ 16) M
 | 0, ρ, M => rfl
 | n + 1, ρ, M => by
  have h : ∀ (zb z0 : Rg → MM → OR), execC c modeF lo nl p7_19 zb (fun i ρ M => if i = 0 then z0 ρ M else noE i ρ M) (endK cf7.res) ρ M = (opt (binA .lss .none (ρ 16) (ρ 15)) fun v17 =>
  isB v17 fun c18 => if c18 then (opt (ixsA 2 (ρ 14) (ρ 16)) fun v19 =>
  opt (ldnA (lk M) 2 v19) fun v20 =>
  upK M M.nx fun M22 =>
  opt (setcA 0 2 (.agg [.str ⟨⟨[]⟩⟩, .nilsl]) v20) fun v23 =>
  opt (fldA 0 2 true v23) fun v25 =>
  bnd (c 11 [(ρ 6), v25] lo M22) fun v26 M27 =>
  opt (binA .neq .none v26 (.i 0)) fun v30 =>
  isB v30 fun c31 => if c31 then (some (.tup [(ρ 6), v26], M27))
  else (opt (binA .add .none (ρ 16) (.i 1)) fun v36 =>
  zb (sF (sF (sF (sF (sF (sF (sF (sF (sF (sF (sF (sF (sF ρ 17 v17) 18 v19) 19 v20) 8 (.agg [.str ⟨⟨[]⟩⟩, .nilsl])) 8 v23) 20 (ρ 6)) 21 v25) 22 v26) 9 v26) 23 v26) 24 v30) 27 v36) 16 v36) M27))
  else (z0 (sF ρ 17 v17) M)) := by intros; kernel_rfl
  refine (h (k7_5 c nl lo n) (k7_100 c nl lo)).trans ?_
  unfold b7_5; simp only [(t7_100 c nl lo), (t7_5 c nl lo n)] <;> (show _ = _; kernel_rfl)
def k7_101 (c : CallT) (nl lo : Nat) : Rg → MM → OR := (execC c modeF lo nl p7_22 (k7_100 c nl lo) noE (endK cf7.res))
@[reducible] def b7_101 (c : CallT) (nl lo : Nat) (x1 x6 : AV) (M : MM) : OR :=
 opt (lenA x1) fun v15 =>
 b7_5 c nl lo nl x6 x1 v15 (.i 0) M
theorem t7_101 (c : CallT) (nl lo : Nat) (ρ : Rg) (M : MM) : k7_101 c nl lo ρ M = b7_101 c nl lo (ρ 1) (ρ 6) M := by
 have h : k7_101 c nl lo ρ M = (opt (lenA (ρ 1)) fun v15 =>
 k7_5 c nl lo nl (sF (sF (sF ρ 14 (ρ 1)) 15 v15) 16 (.i 0)) M) := by kernel_rfl
 rw [h]
 unfold b7_101; simp only [(t7_5 c nl lo nl)] <;> (show _ = _; kernel_rfl)
def s7 (c : CallT) (nl lo : Nat) (a0 a1 : AV) (M : MM) : OR :=
 bnd (istep c modeF false lo (.top M.nx) M.nx (.mkmap .string) [] M) fun v5 M6 =>
 opt ((fill [.nilsl, .d (.v (.map none)), .nilsl, .nilsl] [(0, 1, a0), (1, 1, v5)]).map .agg) fun v7 =>
 bnd (istep c modeF false lo (.top M6.nx) M6.nx (.box 54 (.k v7)) [] M6) fun v8 M9 =>
 b7_101 c nl lo a1 v8 M9
theorem e7 (c : CallT) (nl lo : Nat) (a0 a1 : AV) (M : MM) : execC c modeF lo nl cf7.body (endK cf7.res) noE (endK cf7.res) (aF [a0, a1]) M = s7 c nl lo a0 a1 M := by
 have h : execC c modeF lo nl cf7.body (endK cf7.res) noE (endK cf7.res) (aF [a0, a1]) M = (bnd (istep c modeF false lo (.top M.nx) M.nx (.mkmap .string) [] M) fun v5 M6 =>
 opt ((fill [.nilsl, .d (.v (.map none)), .nilsl, .nilsl] [(0, 1, a0), (1, 1, v5)]).map .agg) fun v7 =>
 bnd (istep c modeF false lo (.top M6.nx) M6.nx (.box 54 (.k v7)) [] M6) fun v8 M9 =>
 k7_101 c nl lo (sF (sF (sF (sF (sF (sF (sF (sF (aF [a0, a1]) 8 (.tup [])) 4 .nil) 5 (.i 0)) 10 a0) 11 v5) 12 v7) 13 v8) 6 v8) M9) := by kernel_rfl
 refine h.trans ?_
 unfold s7; simp only [(t7_101 c nl lo)] <;> (show _ = _; kernel_rfl)
theorem q7 {c : CallT} (hc : Lim GK c) (lo : Nat) (a0 a1 : AV) (M : MM) : c 7 [a0, a1] lo M = s7 c GK.nl lo a0 a1 M :=
 (hc.flow (cf := cf7) rfl w7 [a0, a1] lo M).trans (e7 c GK.nl lo a0 a1 M)

/-! ### function 8 -/
theorem w8 : wfK cf8.nt cf8.body = true := by kernel_rfl
def k8_100 (c : CallT) (nl lo : Nat) : Rg → MM → OR := (execC c modeF lo nl p8_36 (endK cf8.res) noE (endK cf8.res))
@[reducible] def b8_100 (c : CallT) (nl lo : Nat) (M : MM) : OR :=
 some ((.i 0), M)
theorem t8_100 (c : CallT) (nl lo : Nat) (ρ : Rg) (M : MM) : k8_100 c nl lo ρ M = b8_100 c nl lo M := by
 kernel_rfl
def k8_9 (c : CallT) (nl lo : Nat) (n : Nat) : Rg → MM → OR := iterC (fun k ρ M => execC c modeF lo nl p8_31 k (fun i ρ M => if i = 0 then (k8_100 c nl lo) ρ M else noE i ρ M) (endK cf8.res) ρ M) n
def b8_9 (c : CallT) (nl lo : Nat) : Nat → AV → AV → AV → AV → MM → OR
 | 0, _, _, _, _, _ => none
 | n + 1, x0, x43, x44, x45, M =>
 opt (binA .lss .none x45 x44) fun v60 =>
 isB v60 fun c61 => if c61 then (opt (ixsA 2 x43 x45) fun v62 =>
 opt (ldnA (lk M) 2 v62) fun v63 =>
 upK M M.nx fun M65 =>
 opt (setcA 0 2 (.agg [.str ⟨⟨[]⟩⟩, .nilsl]) v63) fun v66 =>
 opt (fldA 0 2 true v66) fun v68 =>
 bnd (c 8 [x0, v68] lo M65) fun v69 M70 =>
 opt (binA .neq .none v69 (.i 0)) fun v73 =>
 isB v73 fun c74 => if c74 then (some (v69, M70))
 else (opt (binA .add .none x45 (.i 1)) fun v77 =>
 (b8_9 c nl lo n) x0 x43 x44 v77 M70))
 else (b8_100 c nl lo M)
theorem t8_9 (c : CallT) (nl lo : Nat) : ∀ (n : Nat) (ρ : Rg) (M : MM), k8_9 c nl lo n ρ M = b8_9 c nl lo n (ρ 0) (ρ 43) (ρ 44) (ρ 45) M
 | 0, ρ, M => rfl
 | n + 1, ρ, M => by
  have h : ∀ (zb z0 : Rg → MM → OR), execC c modeF lo nl p8_31 zb (fun i ρ M => if i = 0 then z0 ρ M else noE i ρ M) (endK cf8.res) ρ M = (opt (binA .lss .none (ρ 45) (ρ 44)) fun v60 =>
  isB v60 fun c61 => if c61 then (opt (ixsA 2 (ρ 43) (ρ 45)) fun v62 =>
  opt (ldnA (lk M) 2 v62) fun v63 =>
  upK M M.nx fun M65 =>
  opt (setcA 0 2 (.agg [.str ⟨⟨[]⟩⟩, .nilsl]) v63) fun v66 =>
  opt (fldA 0 2 true v66) fun v68 =>
  bnd (c 8 [(ρ 0), v68] lo M65) fun v69 M70 =>
  opt (binA .neq .none v69 (.i 0)) fun v73 =>
  isB v73 fun c74 => if c74 then (some (v69, M70))
  else (opt (binA .add .none (ρ 45) (.i 1)) fun v77 =>
  zb (sF (sF (sF (sF (sF (sF (sF (sF (sF (sF (sF (sF (sF ρ 46 v60) 47 v62) 48 v63) 9 (.agg [.str ⟨⟨[]⟩⟩, .nilsl])) 9 v66) 49 (ρ 0)) 50 v68) 51 v69) 6 v69) 52 v69) 53 v73) 55 v77) 45 v77) M70))
  else (z0 (sF ρ 46 v60) M)) := by intros; kernel_rfl
  refine (h (k8_9 c nl lo n) (k8_100 c nl lo)).trans ?_
  unfold b8_9; simp only [(t8_100 c nl lo), (t8_9 c nl lo n)] <;> (show _ = _; kernel_rfl)
def k8_101 (c : CallT) (nl lo : Nat) : Rg → MM → OR := (execC c modeF lo nl p8_34 (k8_100 c nl lo) noE (endK cf8.res))
@[reducible] def b8_101 (c : CallT) (nl lo : Nat) (x0 x7 : AV) (M : MM) : OR :=
 opt (lenA x7) fun v58 =>
 b8_9 c nl lo nl x0 x7 v58 (.i 0) M
theorem t8_101 (c : CallT) (nl lo : Nat) (ρ : Rg) (M : MM) : k8_101 c nl lo ρ M = b8_101 c nl lo (ρ 0) (ρ 7) M := by
 have h : k8_101 c nl lo ρ M = (opt (lenA (ρ 7)) fun v58 =>
 k8_9 c nl lo nl (sF (sF (sF ρ 43 (ρ 7)) 44 v58) 45 (.i 0)) M) := by kernel_rfl
 rw [h]
 unfold b8_101; simp only [(t8_9 c nl lo nl)] <;> (show _ = _; kernel_rfl)
def s8 (c : CallT) (nl lo : Nat) (a0 a1 : AV) (M : MM) : OR :=
 opt (aggA a1) fun v3 =>
 upK M M.nx fun M4 =>
 opt (fldA 0 2 true v3) fun v7 =>
 bnd (c 12 [a0, v7] lo M4) fun v8 M9 =>
 opt (extA 0 v8) fun v11 =>
 opt (extA 1 v8) fun v12 =>
 opt (unA .not v11) fun v16 =>
 isB v16 fun c17 => if c17 then (some (v12, M9))
 else (bumpK M9 11 fun M20 =>
 opt (nilcA a0) fun v22 =>
 opt (fadA 0 v22) fun v23 =>
 opt (ld1A (look M20.mem (.mk M9.nx 11 7 true)) v23) fun v24 =>
 opt (fldA 0 2 true v3) fun v25 =>
 opt (puA c (look M20.mem (.mk M9.nx 11 31 true)) 13 [v24, v25, (.bool true)]) fun v26 =>
 opt (extA 0 v26) fun v28 =>
 opt (extA 1 v26) fun v29 =>
 opt (binA .neq .none v29 (.i 0)) fun v33 =>
 isB v33 fun c34 => if c34 then (some (v29, M20))
 else (bumpK M20 14 fun M37 =>
 opt (nilcA a0) fun v39 =>
 opt (fadA 3 v39) fun v40 =>
 opt (ld1A (look M37.mem (.mk M20.nx 14 7 true)) v40) fun v41 =>
 opt (fldA 0 2 true v3) fun v42 =>
 opt (puA c (look M37.mem (.mk M20.nx 14 16 true)) 14 [v42]) fun v43 =>
 opt (lenA v41) fun v44 =>
 bnd (istep c modeF true lo (.mk M20.nx 14 0 true) (M20.nx + 7) (.mksl 24 1 2 [.str ⟨⟨[]⟩⟩, .nilsl] [(0, 2, .k (.agg [.str ⟨⟨[]⟩⟩, .nilsl]))]) [] M37) fun v45 M46 =>
 bnd (istep c modeF true lo (.mk M20.nx 14 255 true) (M20.nx + 8) (.app 24 2 40 [.str ⟨⟨[]⟩⟩, .nilsl] (.k v41) (.k v45)) [] M46) fun v47 M48 =>
 opt (ixsA 2 v47 v44) fun v49 =>
 bnd (istep c modeF true lo (.mk M20.nx 14 1023 true) (M20.nx + 10) (.str 2 (.k v47) [(.k a0)] (.k v49) (.k v43)) [] M48) fun v50 M51 =>
 opt (nilcA a0) fun v52 =>
 opt (fadA 3 v52) fun v53 =>
 bnd (istep c modeF true lo (.mk M20.nx 14 6655 true) (M20.nx + 13) (.str 1 (.k a0) [] (.k v53) (.k v47)) [] M51) fun v54 M55 =>
 b8_101 c nl lo a0 v28 M55))
theorem e8 (c : CallT) (nl lo : Nat) (a0 a1 : AV) (M : MM) : execC c modeF lo nl cf8.body (endK cf8.res) noE (endK cf8.res) (aF [a0, a1]) M = s8 c nl lo a0 a1 M := by
 have h : execC c modeF lo nl cf8.body (endK cf8.res) noE (endK cf8.res) (aF [a0, a1]) M = (opt (aggA a1) fun v3 =>
 upK M M.nx fun M4 =>
 opt (fldA 0 2 true v3) fun v7 =>
 bnd (c 12 [a0, v7] lo M4) fun v8 M9 =>
 opt (extA 0 v8) fun v11 =>
 opt (extA 1 v8) fun v12 =>
 opt (unA .not v11) fun v16 =>
 isB v16 fun c17 => if c17 then (some (v12, M9))
 else (bumpK M9 11 fun M20 =>
 opt (nilcA a0) fun v22 =>
 opt (fadA 0 v22) fun v23 =>
 opt (ld1A (look M20.mem (.mk M9.nx 11 7 true)) v23) fun v24 =>
 opt (fldA 0 2 true v3) fun v25 =>
 opt (puA c (look M20.mem (.mk M9.nx 11 31 true)) 13 [v24, v25, (.bool true)]) fun v26 =>
 opt (extA 0 v26) fun v28 =>
 opt (extA 1 v26) fun v29 =>
 opt (binA .neq .none v29 (.i 0)) fun v33 =>
 isB v33 fun c34 => if c34 then (some (v29, M20))
 else (bumpK M20 14 fun M37 =>
 opt (nilcA a0) fun v39 =>
 opt (fadA 3 v39) fun v40 =>
 opt (ld1A (look M37.mem (.mk M20.nx 14 7 true)) v40) fun v41 =>
 opt (fldA 0 2 true v3) fun v42 =>
 opt (puA c (look M37.mem (.mk M20.nx 14 16 true)) 14 [v42]) fun v43 =>
 opt (lenA v41) fun v44 =>
 bnd (istep c modeF true lo (.mk M20.nx 14 0 true) (M20.nx + 7) (.mksl 24 1 2 [.str ⟨⟨[]⟩⟩, .nilsl] [(0, 2, .k (.agg [.str ⟨⟨[]⟩⟩, .nilsl]))]) [] M37) fun v45 M46 =>
 bnd (istep c modeF true lo (.mk M20.nx 14 255 true) (M20.nx + 8) (.app 24 2 40 [.str ⟨⟨[]⟩⟩, .nilsl] (.k v41) (.k v45)) [] M46) fun v47 M48 =>
 opt (ixsA 2 v47 v44) fun v49 =>
 bnd (istep c modeF true lo (.mk M20.nx 14 1023 true) (M20.nx + 10) (.str 2 (.k v47) [(.k a0)] (.k v49) (.k v43)) [] M48) fun v50 M51 =>
 opt (nilcA a0) fun v52 =>
 opt (fadA 3 v52) fun v53 =>
 bnd (istep c modeF true lo (.mk M20.nx 14 6655 true) (M20.nx + 13) (.str 1 (.k a0) [] (.k v53) (.k v47)) [] M51) fun v54 M55 =>
 k8_101 c nl lo (sF (sF (sF (sF (sF (sF (sF (sF (sF (sF (sF (sF (sF (sF (sF (sF (sF (sF (sF (sF (sF (sF (sF (sF (sF (sF (sF (sF (sF (sF (sF (sF (sF (sF (sF (sF (sF (sF (sF (aF [a0, a1]) 3 (.tup [])) 9 (.tup [])) 3 v3) 4 (.i 0)) 11 a0) 12 v7) 13 v8) 10 v8) 14 v11) 15 v12) 5 v11) 6 v12) 16 v11) 17 v16) 20 a0) 21 v22) 22 v23) 23 v24) 24 v25) 25 v26) 19 v26) 26 v28) 27 v29) 7 v28) 6 v29) 28 v29) 29 v33) 31 a0) 32 v39) 33 v40) 34 v41) 35 v42) 36 v43) 37 v44) 38 v45) 39 v47) 40 v49) 41 v52) 42 v53) M55))) := by kernel_rfl
 refine h.trans ?_
 unfold s8; simp only [(t8_101 c nl lo)] <;> (show _ = _; kernel_rfl)
theorem q8 {c : CallT} (hc : Lim GK c) (lo : Nat) (a0 a1 : AV) (M : MM) : c 8 [a0, a1] lo M = s8 c GK.nl lo a0 a1 M :=
 (hc.flow (cf := cf8) rfl w8 [a0, a1] lo M).trans (e8 c GK.nl lo a0 a1 M)

/-! ### function 11 -/
theorem w11 : wfK cf11.nt cf11.body = true := by kernel_rfl
def k11_8 (c : CallT) (nl lo : Nat) : Rg → MM → OR := (execC c modeF lo nl p11_57 (endK cf11.res) noE (endK cf11.res))
@[reducible] def b11_8 (c : CallT) (nl lo : Nat) (x0 x3 : AV) (M : MM) : OR :=
 bumpK M 15 fun M1 =>
 opt (nilcA x0) fun v4 =>
 opt (fadA 2 v4) fun v5 =>
 opt (ld1A (look M1.mem (.mk M.nx 15 14 true)) v5) fun v6 =>
 opt (nilcA x0) fun v8 =>
 opt (fadA 2 v8) fun v9 =>
 opt (ld1A (look M1.mem (.mk M.nx 15 224 true)) v9) fun v10 =>
 opt (lenA v10) fun v11 =>
 opt (binA .sub .none v11 (.i 1)) fun v12 =>
 opt (slslA 2 v6 none (some v12)) fun v13 =>
 opt (nilcA x0) fun v14 =>
 opt (fadA 2 v14) fun v15 =>
 bnd (istep c modeF true lo (.mk M.nx 15 16383 true) (M.nx + 14) (.st 1 (.k v15) (.k v13)) [] M1) fun v16 M17 =>
 bumpK M17 14 fun M18 =>
 opt (nilcA x0) fun v20 =>
 opt (fadA 3 v20) fun v21 =>
 opt (ld1A (look M18.mem (.mk M17.nx 14 7 true)) v21) fun v22 =>
 opt (ldnA (look M18.mem (.mk M17.nx 14 0 true)) 2 x3) fun v23 =>
 opt (puA c (look M18.mem (.mk M17.nx 14 16 true)) 14 [v23]) fun v24 =>
 opt (lenA v22) fun v25 =>
 bnd (istep c modeF true lo (.mk M17.nx 14 0 true) (M17.nx + 7) (.mksl 24 1 2 [.str ⟨⟨[]⟩⟩, .nilsl] [(0, 2, .k (.agg [.str ⟨⟨[]⟩⟩, .nilsl]))]) [] M18) fun v26 M27 =>
 bnd (istep c modeF true lo (.mk M17.nx 14 255 true) (M17.nx + 8) (.app 24 2 40 [.str ⟨⟨[]⟩⟩, .nilsl] (.k v22) (.k v26)) [] M27) fun v28 M29 =>
 opt (ixsA 2 v28 v25) fun v30 =>
 bnd (istep c modeF true lo (.mk M17.nx 14 1023 true) (M17.nx + 10) (.str 2 (.k v28) [(.k x0)] (.k v30) (.k v24)) [] M29) fun v31 M32 =>
 opt (nilcA x0) fun v33 =>
 opt (fadA 3 v33) fun v34 =>
 bnd (istep c modeF true lo (.mk M17.nx 14 6655 true) (M17.nx + 13) (.str 1 (.k x0) [] (.k v34) (.k v28)) [] M32) fun v35 M36 =>
 some ((.i 0), M36)
theorem t11_8 (c : CallT) (nl lo : Nat) (ρ : Rg) (M : MM) : k11_8 c nl lo ρ M = b11_8 c nl lo (ρ 0) (ρ 3) M := by
 kernel_rfl
def k11_10 (c : CallT) (nl lo : Nat) (n : Nat) : Rg → MM → OR := iterC (fun k ρ M => execC c modeF lo nl p11_48 k (fun i ρ M => if i = 0 then (k11_8 c nl lo) ρ M else noE i ρ M) (endK cf11.res) ρ M) n
def b11_10 (c : CallT) (nl lo : Nat) : Nat → AV → AV → AV → AV → AV → MM → OR
 | 0, _, _, _, _, _, _ => none
 | n + 1, x0, x3, x83, x84, x85, M =>
 opt (binA .lss .none x85 x84) fun v41 =>
 isB v41 fun c42 => if c42 then (opt (ixsA 2 x83 x85) fun v43 =>
 opt (ldnA (lk M) 2 v43) fun v44 =>
 upK M M.nx fun M46 =>
 opt (setcA 0 2 (.agg [.str ⟨⟨[]⟩⟩, .nilsl]) v44) fun v47 =>
 opt (fldA 0 2 true v47) fun v49 =>
 bnd (c 11 [x0, v49] lo M46) fun v50 M51 =>
 opt (binA .neq .none v50 (.i 0)) fun v54 =>
 isB v54 fun c55 => if c55 then (some (v50, M51))
 else (opt (binA .add .none x85 (.i 1)) fun v58 =>
 (b11_10 c nl lo n) x0 x3 x83 x84 v58 M51))
 else (b11_8 c nl lo x0 x3 M)
theorem t11_10 (c : CallT) (nl lo : Nat) : ∀ (n : Nat) (ρ : Rg) (M : MM), k11_10 c nl lo n ρ M = b11_10 c nl lo n (ρ 0) (ρ 3) (ρ 83) (ρ 84) (ρ 85) M
 | 0, ρ, M => rfl
 | n + 1, ρ, M => by
  have h : ∀ (zb z0 : Rg → MM → OR), execC c modeF lo nl p11_48 zb (fun i ρ M => if i = 0 then z0 ρ M else noE i ρ M) (endK cf11.res) ρ M = (opt (binA .lss .none (ρ 85) (ρ 84)) fun v41 =>
  isB v41 fun c42 => if c42 then (opt (ixsA 2 (ρ 83) (ρ 85)) fun v43 =>
  opt (ldnA (lk M) 2 v43) fun v44 =>
  upK M M.nx fun M46 =>
  opt (setcA 0 2 (.agg [.str ⟨⟨[]⟩⟩, .nilsl]) v44) fun v47 =>
  opt (fldA 0 2 true v47) fun v49 =>
  bnd (c 11 [(ρ 0), v49] lo M46) fun v50 M51 =>
  opt (binA .neq .none v50 (.i 0)) fun v54 =>
  isB v54 fun c55 => if c55 then (some (v50, M51))
  else (opt (binA .add .none (ρ 85) (.i 1)) fun v58 =>
  zb (sF (sF (sF (sF (sF (sF (sF (sF (sF (sF (sF (sF (sF ρ 86 v41) 87 v43) 88 v44) 9 (.agg [.str ⟨⟨[]⟩⟩, .nilsl])) 9 v47) 89 (ρ 0)) 90 v49) 91 v50) 6 v50) 92 v50) 93 v54) 95 v58) 85 v58) M51))
  else (z0 (sF ρ 86 v41) M)) := by intros; kernel_rfl
  refine (h (k11_10 c nl lo n) (k11_8 c nl lo)).trans ?_
  unfold b11_10; simp only [(t11_8 c nl lo), (t11_10 c nl lo n)] <;> (show _ = _; kernel_rfl)
def k11_9 (c : CallT) (nl lo : Nat) : Rg → MM → OR := (execC c modeF lo nl p11_51 (k11_8 c nl lo) noE (endK cf11.res))
@[reducible] def b11_9 (c : CallT) (nl lo : Nat) (x0 x3 x7 : AV) (M : MM) : OR :=
 opt (lenA x7) fun v39 =>
 b11_10 c nl lo nl x0 x3 x7 v39 (.i 0) M
theorem t11_9 (c : CallT) (nl lo : Nat) (ρ : Rg) (M : MM) : k11_9 c nl lo ρ M = b11_9 c nl lo (ρ 0) (ρ 3) (ρ 7) M := by
 have h : k11_9 c nl lo ρ M = (opt (lenA (ρ 7)) fun v39 =>
 k11_10 c nl lo nl (sF (sF (sF ρ 83 (ρ 7)) 84 v39) 85 (.i 0)) M) := by kernel_rfl
 rw [h]
 unfold b11_9; simp only [(t11_10 c nl lo nl)] <;> (show _ = _; kernel_rfl)
def k11_7 (c : CallT) (nl lo : Nat) : Rg → MM → OR := (execC c modeF lo nl p11_58 (endK cf11.res) noE (endK cf11.res))
@[reducible] def b11_7 (c : CallT) (nl lo : Nat) (x0 x3 x7 : AV) (M : MM) : OR :=
 b11_9 c nl lo x0 x3 x7 M
theorem t11_7 (c : CallT) (nl lo : Nat) (ρ : Rg) (M : MM) : k11_7 c nl lo ρ M = b11_7 c nl lo (ρ 0) (ρ 3) (ρ 7) M := by
 have h : k11_7 c nl lo ρ M = (k11_9 c nl lo ρ M) := execC_seq c modeF lo nl p11_51 p11_57 (endK cf11.res) noE (endK cf11.res) ρ M
 rw [h]
 unfold b11_7; simp only [(t11_9 c nl lo)] <;> (show _ = _; kernel_rfl)
def k11_11 (c : CallT) (nl lo : Nat) : Rg → MM → OR := (execC c modeF lo nl p11_31 (k11_7 c nl lo) noE (endK cf11.res))
@[reducible] def b11_11 (c : CallT) (nl lo : Nat) (x0 x3 x7 : AV) (M : MM) : OR :=
 bumpK M 23 fun M1 =>
 bumpK M1 11 fun M25 =>
 opt (nilcA x0) fun v28 =>
 opt (fadA 2 v28) fun v29 =>
 opt (ld1A (look M25.mem (.mk M1.nx 11 14 true)) v29) fun v30 =>
 opt (ldnA (look M25.mem (.mk M1.nx 11 0 true)) 2 x3) fun v31 =>
 opt (wslA 1 (fill [.str ⟨⟨[]⟩⟩, .nilsl] [(0, 2, v31)])) fun v32 =>
 upK M25 (M1.nx + 6) fun M33 =>
 bnd (istep c modeF true lo (.mk M1.nx 11 126 true) (M1.nx + 7) (.app 24 2 40 [.str ⟨⟨[]⟩⟩, .nilsl] (.k v30) (.k v32)) [] M33) fun v34 M35 =>
 opt (nilcA x0) fun v36 =>
 opt (fadA 2 v36) fun v37 =>
 bnd (istep c modeF true lo (.mk M1.nx 11 1023 true) (M1.nx + 10) (.st 1 (.k v37) (.k v34)) [] M35) fun v38 M39 =>
 opt (ldnA (lk M39) 2 x3) fun v40 =>
 bnd (istep c modeF false lo (.top M39.nx) M39.nx (.str 1 (.k x0) [(.k x3)] (.k v37) (.k v34)) [] M39) fun v41 M42 =>
 b11_7 c nl lo x0 x3 x7 M42
theorem t11_11 (c : CallT) (nl lo : Nat) (ρ : Rg) (M : MM) : k11_11 c nl lo ρ M = b11_11 c nl lo (ρ 0) (ρ 3) (ρ 7) M := by
 have h : ∀ (z0 : Rg → MM → OR), (execC c modeF lo nl p11_31 z0 noE (endK cf11.res)) ρ M = (bumpK M 23 fun M1 =>
 bumpK M1 11 fun M25 =>
 opt (nilcA (ρ 0)) fun v28 =>
 opt (fadA 2 v28) fun v29 =>
 opt (ld1A (look M25.mem (.mk M1.nx 11 14 true)) v29) fun v30 =>
 opt (ldnA (look M25.mem (.mk M1.nx 11 0 true)) 2 (ρ 3)) fun v31 =>
 opt (wslA 1 (fill [.str ⟨⟨[]⟩⟩, .nilsl] [(0, 2, v31)])) fun v32 =>
 upK M25 (M1.nx + 6) fun M33 =>
 bnd (istep c modeF true lo (.mk M1.nx 11 126 true) (M1.nx + 7) (.app 24 2 40 [.str ⟨⟨[]⟩⟩, .nilsl] (.k v30) (.k v32)) [] M33) fun v34 M35 =>
 opt (nilcA (ρ 0)) fun v36 =>
 opt (fadA 2 v36) fun v37 =>
 bnd (istep c modeF true lo (.mk M1.nx 11 1023 true) (M1.nx + 10) (.st 1 (.k v37) (.k v34)) [] M35) fun v38 M39 =>
 opt (ldnA (lk M39) 2 (ρ 3)) fun v40 =>
 bnd (istep c modeF false lo (.top M39.nx) M39.nx (.str 1 (.k (ρ 0)) [(.k (ρ 3))] (.k v37) (.k v34)) [] M39) fun v41 M42 =>
 z0 (sF (sF (sF (sF (sF (sF (sF (sF (sF (sF (sF (sF (sF (sF (sF (sF (sF (sF (sF (sF (sF (sF (sF (sF (sF (sF (sF (sF (sF (sF (sF (sF (sF (sF (sF (sF (sF (sF (sF (sF (sF (sF (sF (sF (sF (sF (sF (sF (sF (sF (sF (sF (sF (sF (sF (sF (sF ρ 60 (.tup [])) 61 (.tup [])) 62 (.tup [])) 63 (.tup [])) 64 (.tup [])) 65 (.tup [])) 66 (.tup [])) 67 (.tup [])) 68 (.tup [])) 69 (.tup [])) 70 (.tup [])) 71 (.tup [])) 72 (.tup [])) 73 (.tup [])) 74 (.tup [])) 75 (.tup [])) 76 (.tup [])) 77 (.tup [])) 78 (.tup [])) 79 (.tup [])) 80 (.tup [])) 81 (.tup [])) 82 (.tup [])) 73 (ρ 0)) 74 (ρ 0)) 75 v28) 76 v29) 77 v30) 78 v31) 79 v32) 80 v34) 81 v36) 82 v37) 60 v40) 60 (.tup [])) 61 (.tup [])) 62 (.tup [])) 63 (.tup [])) 64 (.tup [])) 65 (.tup [])) 66 (.tup [])) 67 (.tup [])) 68 (.tup [])) 69 (.tup [])) 70 (.tup [])) 71 (.tup [])) 72 (.tup [])) 73 (.tup [])) 74 (.tup [])) 75 (.tup [])) 76 (.tup [])) 77 (.tup [])) 78 (.tup [])) 79 (.tup [])) 80 (.tup [])) 81 (.tup [])) 82 (.tup [])) M42) := by intros; kernel_rfl
 refine (h (k11_7 c nl lo)).trans ?_
 unfold b11_11; simp only [(t11_7 c nl lo)] <;> (show _ = _; kernel_rfl)
def k11_6 (c : CallT) (nl lo : Nat) : Rg → MM → OR := (execC c modeF lo nl p11_59 (endK cf11.res) noE (endK cf11.res))
@[reducible] def b11_6 (c : CallT) (nl lo : Nat) (x0 x3 x7 : AV) (M : MM) : OR :=
 b11_11 c nl lo x0 x3 x7 M
theorem t11_6 (c : CallT) (nl lo : Nat) (ρ : Rg) (M : MM) : k11_6 c nl lo ρ M = b11_6 c nl lo (ρ 0) (ρ 3) (ρ 7) M := by
 have h : k11_6 c nl lo ρ M = (k11_11 c nl lo ρ M) := execC_seq c modeF lo nl p11_31 p11_58 (endK cf11.res) noE (endK cf11.res) ρ M
 rw [h]
 unfold b11_6; simp only [(t11_11 c nl lo)] <;> (show _ = _; kernel_rfl)
def k11_12 (c : CallT) (nl lo : Nat) : Rg → MM → OR := (execC c modeF lo nl p11_25 (k11_6 c nl lo) noE (endK cf11.res))
@[reducible] def b11_12 (c : CallT) (nl lo : Nat) (x0 x3 x6 x7 : AV) (M : MM) : OR :=
 opt (binA .neq .none x6 (.i 0)) fun v2 =>
 isB v2 fun c3 => if c3 then (some (x6, M))
 else (b11_6 c nl lo x0 x3 x7 M)
theorem t11_12 (c : CallT) (nl lo : Nat) (ρ : Rg) (M : MM) : k11_12 c nl lo ρ M = b11_12 c nl lo (ρ 0) (ρ 3) (ρ 6) (ρ 7) M := by
 have h : ∀ (z0 : Rg → MM → OR), (execC c modeF lo nl p11_25 z0 noE (endK cf11.res)) ρ M = (opt (binA .neq .none (ρ 6) (.i 0)) fun v2 =>
 isB v2 fun c3 => if c3 then (some ((ρ 6), M))
 else (z0 (sF (sF ρ 57 (ρ 6)) 58 v2) M)) := by intros; kernel_rfl
 refine (h (k11_6 c nl lo)).trans ?_
 unfold b11_12; simp only [(t11_6 c nl lo)] <;> (show _ = _; kernel_rfl)
def k11_5 (c : CallT) (nl lo : Nat) : Rg → MM → OR := (execC c modeF lo nl p11_60 (endK cf11.res) noE (endK cf11.res))
@[reducible] def b11_5 (c : CallT) (nl lo : Nat) (x0 x3 x6 x7 : AV) (M : MM) : OR :=
 b11_12 c nl lo x0 x3 x6 x7 M
theorem t11_5 (c : CallT) (nl lo : Nat) (ρ : Rg) (M : MM) : k11_5 c nl lo ρ M = b11_5 c nl lo (ρ 0) (ρ 3) (ρ 6) (ρ 7) M := by
 have h : k11_5 c nl lo ρ M = (k11_12 c nl lo ρ M) := execC_seq c modeF lo nl p11_25 p11_59 (endK cf11.res) noE (endK cf11.res) ρ M
 rw [h]
 unfold b11_5; simp only [(t11_12 c nl lo)] <;> (show _ = _; kernel_rfl)
def k11_13 (c : CallT) (nl lo : Nat) : Rg → MM → OR := (execC c modeF lo nl p11_20 (k11_5 c nl lo) noE (endK cf11.res))
@[reducible] def b11_13 (c : CallT) (nl lo : Nat) (x0 x3 : AV) (M : MM) : OR :=
 bumpK M 11 fun M1 =>
 opt (nilcA x0) fun v3 =>
 opt (fadA 0 v3) fun v4 =>
 opt (ld1A (look M1.mem (.mk M.nx 11 7 true)) v4) fun v5 =>
 opt (ldnA (look M1.mem (.mk M.nx 11 0 true)) 2 x3) fun v6 =>
 opt (puA c (look M1.mem (.mk M.nx 11 31 true)) 13 [v5, v6, (.bool false)]) fun v7 =>
 opt (extA 0 v7) fun v9 =>
 opt (extA 1 v7) fun v10 =>
 b11_5 c nl lo x0 x3 v10 v9 M1
theorem t11_13 (c : CallT) (nl lo : Nat) (ρ : Rg) (M : MM) : k11_13 c nl lo ρ M = b11_13 c nl lo (ρ 0) (ρ 3) M := by
 have h : ∀ (z0 : Rg → MM → OR), (execC c modeF lo nl p11_20 z0 noE (endK cf11.res)) ρ M = (bumpK M 11 fun M1 =>
 opt (nilcA (ρ 0)) fun v3 =>
 opt (fadA 0 v3) fun v4 =>
 opt (ld1A (look M1.mem (.mk M.nx 11 7 true)) v4) fun v5 =>
 opt (ldnA (look M1.mem (.mk M.nx 11 0 true)) 2 (ρ 3)) fun v6 =>
 opt (puA c (look M1.mem (.mk M.nx 11 31 true)) 13 [v5, v6, (.bool false)]) fun v7 =>
 opt (extA 0 v7) fun v9 =>
 opt (extA 1 v7) fun v10 =>
 z0 (sF (sF (sF (sF (sF (sF (sF (sF (sF (sF (sF ρ 49 (ρ 0)) 50 v3) 51 v4) 52 v5) 53 v6) 54 v7) 48 v7) 55 v9) 56 v10) 7 v9) 6 v10) M1) := by intros; kernel_rfl
 refine (h (k11_5 c nl lo)).trans ?_
 unfold b11_13; simp only [(t11_5 c nl lo)] <;> (show _ = _; kernel_rfl)
def k11_4 (c : CallT) (nl lo : Nat) : Rg → MM → OR := (execC c modeF lo nl p11_61 (endK cf11.res) noE (endK cf11.res))
@[reducible] def b11_4 (c : CallT) (nl lo : Nat) (x0 x3 : AV) (M : MM) : OR :=
 b11_13 c nl lo x0 x3 M
theorem t11_4 (c : CallT) (nl lo : Nat) (ρ : Rg) (M : MM) : k11_4 c nl lo ρ M = b11_4 c nl lo (ρ 0) (ρ 3) M := by
 have h : k11_4 c nl lo ρ M = (k11_13 c nl lo ρ M) := execC_seq c modeF lo nl p11_20 p11_60 (endK cf11.res) noE (endK cf11.res) ρ M
 rw [h]
 unfold b11_4; simp only [(t11_13 c nl lo)] <;> (show _ = _; kernel_rfl)
def k11_14 (c : CallT) (nl lo : Nat) : Rg → MM → OR := (execC c modeF lo nl p11_19 (k11_4 c nl lo) noE (endK cf11.res))
@[reducible] def b11_14 (c : CallT) (nl lo : Nat) (x0 x3 x5 x6 : AV) (M : MM) : OR :=
 opt (unA .not x5) fun v2 =>
 isB v2 fun c3 => if c3 then (some (x6, M))
 else (b11_4 c nl lo x0 x3 M)
theorem t11_14 (c : CallT) (nl lo : Nat) (ρ : Rg) (M : MM) : k11_14 c nl lo ρ M = b11_14 c nl lo (ρ 0) (ρ 3) (ρ 5) (ρ 6) M := by
 have h : ∀ (z0 : Rg → MM → OR), (execC c modeF lo nl p11_19 z0 noE (endK cf11.res)) ρ M = (opt (unA .not (ρ 5)) fun v2 =>
 isB v2 fun c3 => if c3 then (some ((ρ 6), M))
 else (z0 (sF (sF ρ 45 (ρ 5)) 46 v2) M)) := by intros; kernel_rfl
 refine (h (k11_4 c nl lo)).trans ?_
 unfold b11_14; simp only [(t11_4 c nl lo)] <;> (show _ = _; kernel_rfl)
def k11_3 (c : CallT) (nl lo : Nat) : Rg → MM → OR := (execC c modeF lo nl p11_62 (endK cf11.res) noE (endK cf11.res))
@[reducible] def b11_3 (c : CallT) (nl lo : Nat) (x0 x3 x5 x6 : AV) (M : MM) : OR :=
 b11_14 c nl lo x0 x3 x5 x6 M
theorem t11_3 (c : CallT) (nl lo : Nat) (ρ : Rg) (M : MM) : k11_3 c nl lo ρ M = b11_3 c nl lo (ρ 0) (ρ 3) (ρ 5) (ρ 6) M := by
 have h : k11_3 c nl lo ρ M = (k11_14 c nl lo ρ M) := execC_seq c modeF lo nl p11_19 p11_61 (endK cf11.res) noE (endK cf11.res) ρ M
 rw [h]
 unfold b11_3; simp only [(t11_14 c nl lo)] <;> (show _ = _; kernel_rfl)
def k11_15 (c : CallT) (nl lo : Nat) : Rg → MM → OR := (execC c modeF lo nl p11_14 (k11_3 c nl lo) noE (endK cf11.res))
@[reducible] def b11_15 (c : CallT) (nl lo : Nat) (x0 x3 : AV) (M : MM) : OR :=
 opt (ldnA (lk M) 2 x3) fun v2 =>
 bnd (c 12 [x0, v2] lo M) fun v3 M4 =>
 opt (extA 0 v3) fun v6 =>
 opt (extA 1 v3) fun v7 =>
 b11_3 c nl lo x0 x3 v6 v7 M4
theorem t11_15 (c : CallT) (nl lo : Nat) (ρ : Rg) (M : MM) : k11_15 c nl lo ρ M = b11_15 c nl lo (ρ 0) (ρ 3) M := by
 have h : ∀ (z0 : Rg → MM → OR), (execC c modeF lo nl p11_14 z0 noE (endK cf11.res)) ρ M = (opt (ldnA (lk M) 2 (ρ 3)) fun v2 =>
 bnd (c 12 [(ρ 0), v2] lo M) fun v3 M4 =>
 opt (extA 0 v3) fun v6 =>
 opt (extA 1 v3) fun v7 =>
 z0 (sF (sF (sF (sF (sF (sF (sF (sF ρ 40 (ρ 0)) 41 v2) 42 v3) 39 v3) 43 v6) 44 v7) 5 v6) 6 v7) M4) := by intros; kernel_rfl
 refine (h (k11_3 c nl lo)).trans ?_
 unfold b11_15; simp only [(t11_3 c nl lo)] <;> (show _ = _; kernel_rfl)
def k11_2 (c : CallT) (nl lo : Nat) : Rg → MM → OR := (execC c modeF lo nl p11_63 (endK cf11.res) noE (endK cf11.res))
@[reducible] def b11_2 (c : CallT) (nl lo : Nat) (x0 x3 : AV) (M : MM) : OR :=
 b11_15 c nl lo x0 x3 M
theorem t11_2 (c : CallT) (nl lo : Nat) (ρ : Rg) (M : MM) : k11_2 c nl lo ρ M = b11_2 c nl lo (ρ 0) (ρ 3) M := by
 have h : k11_2 c nl lo ρ M = (k11_15 c nl lo ρ M) := execC_seq c modeF lo nl p11_14 p11_62 (endK cf11.res) noE (endK cf11.res) ρ M
 rw [h]
 unfold b11_2; simp only [(t11_15 c nl lo)] <;> (show _ = _; kernel_rfl)
def k11_16 (c : CallT) (nl lo : Nat) : Rg → MM → OR := (execC c modeF lo nl p11_13 (k11_2 c nl lo) noE (endK cf11.res))
@[reducible] def b11_16 (c : CallT) (nl lo : Nat) (x0 x3 : AV) (M : MM) : OR :=
 opt (nilcA x0) fun v2 =>
 opt (fadA 2 v2) fun v3 =>
 opt (ld1A (lk M) v3) fun v4 =>
 opt (roA c (.top M.nx) 19 [v4, (.fn 20 [] [x3])] M) fun v6 =>
 isB v6 fun c7 => if c7 then (bumpK M 23 fun M8 =>
 bumpK M8 11 fun M32 =>
 opt (nilcA x0) fun v35 =>
 opt (fadA 2 v35) fun v36 =>
 opt (ld1A (look M32.mem (.mk M8.nx 11 14 true)) v36) fun v37 =>
 opt (ldnA (look M32.mem (.mk M8.nx 11 0 true)) 2 x3) fun v38 =>
 opt (wslA 1 (fill [.str ⟨⟨[]⟩⟩, .nilsl] [(0, 2, v38)])) fun v39 =>
 upK M32 (M8.nx + 6) fun M40 =>
 bnd (istep c modeF true lo (.mk M8.nx 11 126 true) (M8.nx + 7) (.app 24 2 40 [.str ⟨⟨[]⟩⟩, .nilsl] (.k v37) (.k v39)) [] M40) fun v41 M42 =>
 opt (nilcA x0) fun v43 =>
 opt (fadA 2 v43) fun v44 =>
 bnd (istep c modeF true lo (.mk M8.nx 11 1023 true) (M8.nx + 10) (.st 1 (.k v44) (.k v41)) [] M42) fun v45 M46 =>
 opt (ldnA (lk M46) 2 x3) fun v47 =>
 bnd (istep c modeF false lo (.top M46.nx) M46.nx (.str 1 (.k x0) [(.k x3)] (.k v44) (.k v41)) [] M46) fun v48 M49 =>
 some ((.i 18), M49))
 else (b11_2 c nl lo x0 x3 M)
theorem t11_16 (c : CallT) (nl lo : Nat) (ρ : Rg) (M : MM) : k11_16 c nl lo ρ M = b11_16 c nl lo (ρ 0) (ρ 3) M := by
 have h : ∀ (z0 : Rg → MM → OR), (execC c modeF lo nl p11_13 z0 noE (endK cf11.res)) ρ M = (opt (nilcA (ρ 0)) fun v2 =>
 opt (fadA 2 v2) fun v3 =>
 opt (ld1A (lk M) v3) fun v4 =>
 opt (roA c (.top M.nx) 19 [v4, (.fn 20 [] [(ρ 3)])] M) fun v6 =>
 isB v6 fun c7 => if c7 then (bumpK M 23 fun M8 =>
 bumpK M8 11 fun M32 =>
 opt (nilcA (ρ 0)) fun v35 =>
 opt (fadA 2 v35) fun v36 =>
 opt (ld1A (look M32.mem (.mk M8.nx 11 14 true)) v36) fun v37 =>
 opt (ldnA (look M32.mem (.mk M8.nx 11 0 true)) 2 (ρ 3)) fun v38 =>
 opt (wslA 1 (fill [.str ⟨⟨[]⟩⟩, .nilsl] [(0, 2, v38)])) fun v39 =>
 upK M32 (M8.nx + 6) fun M40 =>
 bnd (istep c modeF true lo (.mk M8.nx 11 126 true) (M8.nx + 7) (.app 24 2 40 [.str ⟨⟨[]⟩⟩, .nilsl] (.k v37) (.k v39)) [] M40) fun v41 M42 =>
 opt (nilcA (ρ 0)) fun v43 =>
 opt (fadA 2 v43) fun v44 =>
 bnd (istep c modeF true lo (.mk M8.nx 11 1023 true) (M8.nx + 10) (.st 1 (.k v44) (.k v41)) [] M42) fun v45 M46 =>
 opt (ldnA (lk M46) 2 (ρ 3)) fun v47 =>
 bnd (istep c modeF false lo (.top M46.nx) M46.nx (.str 1 (.k (ρ 0)) [(.k (ρ 3))] (.k v44) (.k v41)) [] M46) fun v48 M49 =>
 some ((.i 18), M49))
 else (z0 (sF (sF (sF (sF (sF (sF ρ 10 (ρ 0)) 11 v2) 12 v3) 13 v4) 14 (.fn 20 [] [(ρ 3)])) 15 v6) M)) := by intros; kernel_rfl
 refine (h (k11_2 c nl lo)).trans ?_
 unfold b11_16; simp only [(t11_2 c nl lo)] <;> (show _ = _; kernel_rfl)
def k11_1 (c : CallT) (nl lo : Nat) : Rg → MM → OR := (execC c modeF lo nl p11_64 (endK cf11.res) noE (endK cf11.res))
@[reducible] def b11_1 (c : CallT) (nl lo : Nat) (x0 x3 : AV) (M : MM) : OR :=
 b11_16 c nl lo x0 x3 M
theorem t11_1 (c : CallT) (nl lo : Nat) (ρ : Rg) (M : MM) : k11_1 c nl lo ρ M = b11_1 c nl lo (ρ 0) (ρ 3) M := by
 have h : k11_1 c nl lo ρ M = (k11_16 c nl lo ρ M) := execC_seq c modeF lo nl p11_13 p11_63 (endK cf11.res) noE (endK cf11.res) ρ M
 rw [h]
 unfold b11_1; simp only [(t11_16 c nl lo)] <;> (show _ = _; kernel_rfl)
def k11_17 (c : CallT) (nl lo : Nat) : Rg → MM → OR := (execC c modeF lo nl p11_1 (k11_1 c nl lo) noE (endK cf11.res))
@[reducible] def b11_17 (c : CallT) (nl lo : Nat) (x0 x1 : AV) (M : MM) : OR :=
 bnd (istep c modeF false lo (.top M.nx) M.nx (.box 24 (.k x1)) [] M) fun v1 M2 =>
 b11_1 c nl lo x0 v1 M2
theorem t11_17 (c : CallT) (nl lo : Nat) (ρ : Rg) (M : MM) : k11_17 c nl lo ρ M = b11_17 c nl lo (ρ 0) (ρ 1) M := by
 have h : ∀ (z0 : Rg → MM → OR), (execC c modeF lo nl p11_1 z0 noE (endK cf11.res)) ρ M = (bnd (istep c modeF false lo (.top M.nx) M.nx (.box 24 (.k (ρ 1))) [] M) fun v1 M2 =>
 z0 (sF (sF ρ 3 v1) 4 (.i 0)) M2) := by intros; kernel_rfl
 refine (h (k11_1 c nl lo)).trans ?_
 unfold b11_17; simp only [(t11_1 c nl lo)] <;> (show _ = _; kernel_rfl)
def k11_0 (c : CallT) (nl lo : Nat) : Rg → MM → OR := (execC c modeF lo nl p11_65 (endK cf11.res) noE (endK cf11.res))
@[reducible] def b11_0 (c : CallT) (nl lo : Nat) (x0 x1 : AV) (M : MM) : OR :=
 b11_17 c nl lo x0 x1 M
theorem t11_0 (c : CallT) (nl lo : Nat) (ρ : Rg) (M : MM) : k11_0 c nl lo ρ M = b11_0 c nl lo (ρ 0) (ρ 1) M := by
 have h : k11_0 c nl lo ρ M = (k11_17 c nl lo ρ M) := execC_seq c modeF lo nl p11_1 p11_64 (endK cf11.res) noE (endK cf11.res) ρ M
 rw [h]
 unfold b11_0; simp only [(t11_17 c nl lo)] <;> (show _ = _; kernel_rfl)
def k11_18 (c : CallT) (nl lo : Nat) : Rg → MM → OR := (execC c modeF lo nl p11_0 (k11_0 c nl lo) noE (endK cf11.res))
@[reducible] def b11_18 (c : CallT) (nl lo : Nat) (x0 x1 : AV) (M : MM) : OR :=
 b11_0 c nl lo x0 x1 M
theorem t11_18 (c : CallT) (nl lo : Nat) (ρ : Rg) (M : MM) : k11_18 c nl lo ρ M = b11_18 c nl lo (ρ 0) (ρ 1) M := by
 have h : ∀ (z0 : Rg → MM → OR), (execC c modeF lo nl p11_0 z0 noE (endK cf11.res)) ρ M = (z0 (sF ρ 9 (.tup [])) M) := by intros; kernel_rfl
 refine (h (k11_0 c nl lo)).trans ?_
 unfold b11_18; simp only [(t11_0 c nl lo)] <;> (show _ = _; kernel_rfl)
def s11 (c : CallT) (nl lo : Nat) (a0 a1 : AV) (M : MM) : OR :=
 b11_18 c nl lo a0 a1 M
theorem e11 (c : CallT) (nl lo : Nat) (a0 a1 : AV) (M : MM) : execC c modeF lo nl cf11.body (endK cf11.res) noE (endK cf11.res) (aF [a0, a1]) M = s11 c nl lo a0 a1 M := by
 have h : execC c modeF lo nl cf11.body (endK cf11.res) noE (endK cf11.res) (aF [a0, a1]) M = (k11_18 c nl lo (aF [a0, a1]) M) := execC_seq c modeF lo nl p11_0 p11_65 (endK cf11.res) noE (endK cf11.res) (aF [a0, a1]) M
 refine h.trans ?_
 unfold s11; simp only [(t11_18 c nl lo)] <;> (show _ = _; kernel_rfl)
theorem q11 {c : CallT} (hc : Lim GK c) (lo : Nat) (a0 a1 : AV) (M : MM) : c 11 [a0, a1] lo M = s11 c GK.nl lo a0 a1 M :=
 (hc.flow (cf := cf11) rfl w11 [a0, a1] lo M).trans (e11 c GK.nl lo a0 a1 M)

/-! ### function 12 -/
theorem w12 : wfK cf12.nt cf12.body = true := by kernel_rfl
def s12 (c : CallT) (nl lo : Nat) (a0 a1 : AV) (M : MM) : OR :=
 opt (aggA a1) fun v2 =>
 upK M M.nx fun M3 =>
 opt (fldA 0 2 true v2) fun v6 =>
 opt (puA c (lk M3) 21 [v6]) fun v7 =>
 opt (nilcA a0) fun v10 =>
 opt (fadA 1 v10) fun v11 =>
 opt (ld1A (lk M3) v11) fun v12 =>
 opt (lkpA (lk M3) .string false (.bool false) v12 v7) fun v14 =>
 isB v14 fun c15 => if c15 then (some (.tup [(.bool false), (.i 0)], M3))
 else (opt (nilcA a0) fun v19 =>
 opt (fadA 1 v19) fun v20 =>
 opt (ld1A (lk M3) v20) fun v21 =>
 opt (lenmA (lk M3) v21) fun v22 =>
 opt (binA .eql .none v22 (.i 300)) fun v23 =>
 isB v23 fun c24 => if c24 then (some (.tup [(.bool false), (.i 4)], M3))
 else (opt (nilcA a0) fun v28 =>
 opt (fadA 1 v28) fun v29 =>
 opt (ld1A (lk M3) v29) fun v30 =>
 bnd (istep c modeF false lo (.top M3.nx) M3.nx (.mset .string (.k v30) (.k v7) (.k (.bool true))) [] M3) fun v32 M33 =>
 some (.tup [(.bool true), (.i 0)], M33)))
theorem e12 (c : CallT) (nl lo : Nat) (a0 a1 : AV) (M : MM) : execC c modeF lo nl cf12.body (endK cf12.res) noE (endK cf12.res) (aF [a0, a1]) M = s12 c nl lo a0 a1 M := by
 kernel_rfl
theorem q12 {c : CallT} (hc : Lim GK c) (lo : Nat) (a0 a1 : AV) (M : MM) : c 12 [a0, a1] lo M = s12 c GK.nl lo a0 a1 M :=
 (hc.flow (cf := cf12) rfl w12 [a0, a1] lo M).trans (e12 c GK.nl lo a0 a1 M)

/-! ### function 13 -/
theorem w13 : wfK cf13.nt cf13.body = true := by kernel_rfl
def k13_100 (c : CallT) (nl lo : Nat) : Rg → MM → OR := (execC c modeF lo nl p13_28 (execC c modeF lo nl p13_81 (endK cf13.res) noE (endK cf13.res)) noE (endK cf13.res))
@[reducible] def b13_100 (c : CallT) (nl lo : Nat) (x2 x4 x8 : AV) (M : MM) : OR :=
 opt (fldA 0 0 true x4) fun v19 =>
 opt (fldA 1 1 false x4) fun v20 =>
 opt (lenA v20) fun v21 =>
 opt (binA .neq .none v21 x8) fun v23 =>
 isB v23 fun c24 => if c24 then (some (.tup [(.d (.sl [] 0)), (.i 9)], M))
 else (opt (gdp x2 true (some x8)) fun v29 =>
 opt (gdp x2 true (binA .eql .none v29 (.i 1))) fun v30 =>
 opt (pickA x2 v30 (.bool false)) fun v31 =>
 isB v31 fun c32 => if c32 then (opt (fldA 0 0 true x4) fun v33 =>
 opt (fldA 1 1 false x4) fun v34 =>
 opt (ixsA 2 v34 (.i 0)) fun v35 =>
 opt (ldnA (lk M) 2 v35) fun v36 =>
 opt (puA c (lk M) 24 [v36, (.d (.sl [] 0)), (.d (.sl [] 0))]) fun v37 =>
 opt (extA 0 v37) fun v39 =>
 opt (extA 1 v37) fun v40 =>
 upK M M.nx fun M42 =>
 opt (setcA 0 2 (.agg [.str ⟨⟨[]⟩⟩, .d (.sl [] 0)]) v39) fun v43 =>
 opt (fldA 0 2 true v43) fun v45 =>
 opt (wslA 1 (fill [.str ⟨⟨[]⟩⟩, .d (.sl [] 0)] [(0, 2, v45)])) fun v46 =>
 upK M42 M42.nx fun M47 =>
 some (.tup [v46, (.i 0)], M47))
 else (some (.tup [(.d (.sl [] 0)), (.i 0)], M)))
theorem t13_100 (c : CallT) (nl lo : Nat) (ρ : Rg) (M : MM) : k13_100 c nl lo ρ M = b13_100 c nl lo (ρ 2) (ρ 4) (ρ 8) M := by
 kernel_rfl
def k13_101 (c : CallT) (nl lo : Nat) : Rg → MM → OR := (execC c modeF lo nl p13_12 (k13_100 c nl lo) noE (endK cf13.res))
@[reducible] def b13_101 (c : CallT) (nl lo : Nat) (x2 x4 x8 : AV) (M : MM) : OR :=
 opt (fldA 0 0 true x4) fun v52 =>
 opt (fldA 0 1 false x4) fun v53 =>
 opt (binA .eql .none v53 (.str ⟨⟨[65, 114, 114, 97, 121]⟩⟩)) fun v54 =>
 isB v54 fun c55 => if c55 then (b13_100 c nl lo x2 x4 (.i 1) M)
 else (b13_100 c nl lo x2 x4 x8 M)
theorem t13_101 (c : CallT) (nl lo : Nat) (ρ : Rg) (M : MM) : k13_101 c nl lo ρ M = b13_101 c nl lo (ρ 2) (ρ 4) (ρ 8) M := by
 have h : ∀ (z0 : Rg → MM → OR), (execC c modeF lo nl p13_12 z0 noE (endK cf13.res)) ρ M = (opt (fldA 0 0 true (ρ 4)) fun v52 =>
 opt (fldA 0 1 false (ρ 4)) fun v53 =>
 opt (binA .eql .none v53 (.str ⟨⟨[65, 114, 114, 97, 121]⟩⟩)) fun v54 =>
 isB v54 fun c55 => if c55 then (z0 (sF (sF (sF (sF ρ 26 v52) 27 v53) 28 v54) 8 (.i 1)) M)
 else (z0 (sF (sF (sF ρ 26 v52) 27 v53) 28 v54) M)) := by intros; kernel_rfl
 refine (h (k13_100 c nl lo)).trans ?_
 unfold b13_101; simp only [(t13_100 c nl lo)] <;> (show _ = _; kernel_rfl)
def k13_102 (c : CallT) (nl lo : Nat) : Rg → MM → OR := (execC c modeF lo nl p13_77 (endK cf13.res) noE (endK cf13.res))
@[reducible] def b13_102 (c : CallT) (nl lo : Nat) (x15 : AV) (M : MM) : OR :=
 some (.tup [x15, (.i 0)], M)
theorem t13_102 (c : CallT) (nl lo : Nat) (ρ : Rg) (M : MM) : k13_102 c nl lo ρ M = b13_102 c nl lo (ρ 15) M := by
 kernel_rfl
def k13_105 (c : CallT) (nl lo : Nat) (q13_9 : Rg → MM → OR) : Rg → MM → OR := (execC c modeF lo nl p13_69 q13_9 (fun i ρ M => if i = 1 then (k13_102 c nl lo) ρ M else noE i ρ M) (endK cf13.res))
@[reducible] def b13_105 (c : CallT) (nl lo : Nat) (j13_9 : AV → AV → AV → AV → AV → AV → MM → OR) (x4 x12 x15 x72 x73 x74 : AV) (M : MM) : OR :=
 opt (binA .add .none x74 (.i 1)) fun v102 =>
 j13_9 x4 x12 x15 x72 x73 v102 M
theorem t13_105 (c : CallT) (nl lo : Nat) (q13_9 : Rg → MM → OR) (j13_9 : AV → AV → AV → AV → AV → AV → MM → OR) (h13_9 : ∀ (ρ : Rg) (M : MM), q13_9 ρ M = j13_9 (ρ 4) (ρ 12) (ρ 15) (ρ 72) (ρ 73) (ρ 74) M) (ρ : Rg) (M : MM) : k13_105 c nl lo q13_9 ρ M = b13_105 c nl lo j13_9 (ρ 4) (ρ 12) (ρ 15) (ρ 72) (ρ 73) (ρ 74) M := by
 have h : k13_105 c nl lo q13_9 ρ M = (opt (binA .add .none (ρ 74) (.i 1)) fun v102 =>
 q13_9 (sF (sF ρ 97 v102) 74 v102) M) := by kernel_rfl
 rw [h]
 unfold b13_105; simp only [h13_9] <;> (show _ = _; kernel_rfl)
def k13_106 (c : CallT) (nl lo : Nat) (q13_9 : Rg → MM → OR) : Rg → MM → OR := (execC c modeF lo nl p13_68 (k13_105 c nl lo q13_9) (fun i ρ M => if i = 1 then (k13_102 c nl lo) ρ M else noE i ρ M) (endK cf13.res))
@[reducible] def b13_106 (c : CallT) (nl lo : Nat) (j13_9 : AV → AV → AV → AV → AV → AV → MM → OR) (x4 x12 x15 x72 x73 x74 : AV) (M : MM) : OR :=
 opt (ixsA 2 x72 x74) fun v104 =>
 opt (ldnA (lk M) 2 v104) fun v105 =>
 upK M M.nx fun M107 =>
 opt (setcA 0 2 (.agg [.str ⟨⟨[]⟩⟩, .d (.sl [] 0)]) v105) fun v108 =>
 opt (fldA 0 2 true v108) fun v109 =>
 opt (fldA 0 0 true x4) fun v111 =>
 opt (fldA 1 1 false x4) fun v112 =>
 opt (puA c (lk M107) 24 [v109, x12, v112]) fun v113 =>
 opt (extA 0 v113) fun v115 =>
 opt (extA 1 v113) fun v116 =>
 bnd (istep c modeF false lo (.top M107.nx) M107.nx (.new 24 [.str ⟨⟨[]⟩⟩, .d (.sl [] 0)]) [] M107) fun v117 M118 =>
 bnd (istep c modeF false lo (.top M118.nx) M118.nx (.st 2 (.k v117) (.k v115)) [] M118) fun v119 M120 =>
 opt (binA .neq .none v116 (.i 0)) fun v123 =>
 isB v123 fun c124 => if c124 then (some (.tup [(.d (.sl [] 0)), v116], M120))
 else (opt (roA c (.top M120.nx) 19 [x15, (.fn 26 [] [v117])] M120) fun v130 =>
 opt (unA .not v130) fun v131 =>
 isB v131 fun c132 => if c132 then (opt (ldnA (lk M120) 2 v117) fun v134 =>
 opt (wslA 1 (fill [.str ⟨⟨[]⟩⟩, .d (.sl [] 0)] [(0, 2, v134)])) fun v135 =>
 upK M120 M120.nx fun M136 =>
 opt (wappA M136.mem (.top M136.nx) 2 40 x15 v135) fun v137 =>
 upK M136 M136.nx fun M138 =>
 b13_105 c nl lo j13_9 x4 x12 v137 x72 x73 x74 M138)
 else (b13_105 c nl lo j13_9 x4 x12 x15 x72 x73 x74 M120))
theorem t13_106 (c : CallT) (nl lo : Nat) (q13_9 : Rg → MM → OR) (j13_9 : AV → AV → AV → AV → AV → AV → MM → OR) (h13_9 : ∀ (ρ : Rg) (M : MM), q13_9 ρ M = j13_9 (ρ 4) (ρ 12) (ρ 15) (ρ 72) (ρ 73) (ρ 74) M) (ρ : Rg) (M : MM) : k13_106 c nl lo q13_9 ρ M = b13_106 c nl lo j13_9 (ρ 4) (ρ 12) (ρ 15) (ρ 72) (ρ 73) (ρ 74) M := by
 have h : ∀ (z0 : Rg → MM → OR), (execC c modeF lo nl p13_68 z0 (fun i ρ M => if i = 1 then (k13_102 c nl lo) ρ M else noE i ρ M) (endK cf13.res)) ρ M = (opt (ixsA 2 (ρ 72) (ρ 74)) fun v104 =>
 opt (ldnA (lk M) 2 v104) fun v105 =>
 upK M M.nx fun M107 =>
 opt (setcA 0 2 (.agg [.str ⟨⟨[]⟩⟩, .d (.sl [] 0)]) v105) fun v108 =>
 opt (fldA 0 2 true v108) fun v109 =>
 opt (fldA 0 0 true (ρ 4)) fun v111 =>
 opt (fldA 1 1 false (ρ 4)) fun v112 =>
 opt (puA c (lk M107) 24 [v109, (ρ 12), v112]) fun v113 =>
 opt (extA 0 v113) fun v115 =>
 opt (extA 1 v113) fun v116 =>
 bnd (istep c modeF false lo (.top M107.nx) M107.nx (.new 24 [.str ⟨⟨[]⟩⟩, .d (.sl [] 0)]) [] M107) fun v117 M118 =>
 bnd (istep c modeF false lo (.top M118.nx) M118.nx (.st 2 (.k v117) (.k v115)) [] M118) fun v119 M120 =>
 opt (binA .neq .none v116 (.i 0)) fun v123 =>
 isB v123 fun c124 => if c124 then (some (.tup [(.d (.sl [] 0)), v116], M120))
 else (opt (roA c (.top M120.nx) 19 [(ρ 15), (.fn 26 [] [v117])] M120) fun v130 =>
 opt (unA .not v130) fun v131 =>
 isB v131 fun c132 => if c132 then (opt (ldnA (lk M120) 2 v117) fun v134 =>
 opt (wslA 1 (fill [.str ⟨⟨[]⟩⟩, .d (.sl [] 0)] [(0, 2, v134)])) fun v135 =>
 upK M120 M120.nx fun M136 =>
 opt (wappA M136.mem (.top M136.nx) 2 40 (ρ 15) v135) fun v137 =>
 upK M136 M136.nx fun M138 =>
 z0 (sF (sF (sF (sF (sF (sF (sF (sF (sF (sF (sF (sF (sF (sF (sF (sF (sF (sF (sF (sF (sF (sF (sF (sF (sF ρ 76 v104) 77 v105) 17 (.agg [.str ⟨⟨[]⟩⟩, .d (.sl [] 0)])) 17 v108) 79 v109) 80 (ρ 12)) 81 v111) 82 v112) 83 v113) 78 v113) 84 v115) 85 v116) 18 v117) 19 v116) 86 v116) 87 v123) 89 (ρ 15)) 90 (.fn 26 [] [v117])) 91 v130) 92 v131) 93 (ρ 15)) 94 v134) 95 v135) 96 v137) 15 v137) M138)
 else (z0 (sF (sF (sF (sF (sF (sF (sF (sF (sF (sF (sF (sF (sF (sF (sF (sF (sF (sF (sF (sF ρ 76 v104) 77 v105) 17 (.agg [.str ⟨⟨[]⟩⟩, .d (.sl [] 0)])) 17 v108) 79 v109) 80 (ρ 12)) 81 v111) 82 v112) 83 v113) 78 v113) 84 v115) 85 v116) 18 v117) 19 v116) 86 v116) 87 v123) 89 (ρ 15)) 90 (.fn 26 [] [v117])) 91 v130) 92 v131) M120))) := by intros; kernel_rfl
 refine (h (k13_105 c nl lo q13_9)).trans ?_
 unfold b13_106; simp only [(t13_105 c nl lo q13_9 j13_9 h13_9), h13_9] <;> (show _ = _; kernel_rfl)
def k13_9 (c : CallT) (nl lo : Nat) (n : Nat) : Rg → MM → OR := iterC (fun k ρ M => execC c modeF lo nl p13_72 k (fun i ρ M => if i = 1 then (k13_102 c nl lo) ρ M else noE i ρ M) (endK cf13.res) ρ M) n
def b13_9 (c : CallT) (nl lo : Nat) : Nat → AV → AV → AV → AV → AV → AV → MM → OR
 | 0, _, _, _, _, _, _, _ => none
 | n + 1, x4, x12, x15, x72, x73, x74, M =>
 opt (binA .lss .none x74 x73) fun v100 =>
 isB v100 fun c101 => if c101 then (b13_106 c nl lo (b13_9 c nl lo n) x4 x12 x15 x72 x73 x74 M)
 else (b13_102 c nl lo x15 M)
theorem t13_9 (c : CallT) (nl lo : Nat) : ∀ (n : Nat) (ρ : Rg) (M : MM), k13_9 c nl lo n ρ M = b13_9 c nl lo n (ρ 4) (ρ 12) (ρ 15) (ρ 72) (ρ 73) (ρ 74) M
 | 0, ρ, M => rfl
 | n + 1, ρ, M => by
  have h : ∀ (zb z0 : Rg → MM → OR), execC c modeF lo nl p13_72 zb (fun i ρ M => if i = 1 then z0 ρ M else noE i ρ M) (endK cf13.res) ρ M = (opt (binA .lss .none (ρ 74) (ρ 73)) fun v100 =>
  isB v100 fun c101 => if c101 then (k13_106 c nl lo zb (sF ρ 75 v100) M)
  else (z0 (sF ρ 75 v100) M)) := by intros; kernel_rfl
  refine (h (k13_9 c nl lo n) (k13_102 c nl lo)).trans ?_
  unfold b13_9; simp only [(t13_102 c nl lo), (t13_106 c nl lo (k13_9 c nl lo n) (b13_9 c nl lo n) (t13_9 c nl lo n)), (t13_9 c nl lo n)] <;> (show _ = _; kernel_rfl)
def k13_103 (c : CallT) (nl lo : Nat) : Rg → MM → OR := (execC c modeF lo nl p13_75 (k13_102 c nl lo) noE (endK cf13.res))
@[reducible] def b13_103 (c : CallT) (nl lo : Nat) (x4 x11 x12 x15 : AV) (M : MM) : OR :=
 opt (lenA x11) fun v98 =>
 b13_9 c nl lo nl x4 x12 x15 x11 v98 (.i 0) M
theorem t13_103 (c : CallT) (nl lo : Nat) (ρ : Rg) (M : MM) : k13_103 c nl lo ρ M = b13_103 c nl lo (ρ 4) (ρ 11) (ρ 12) (ρ 15) M := by
 have h : k13_103 c nl lo ρ M = (opt (lenA (ρ 11)) fun v98 =>
 k13_9 c nl lo nl (sF (sF (sF ρ 72 (ρ 11)) 73 v98) 74 (.i 0)) M) := by kernel_rfl
 rw [h]
 unfold b13_103; simp only [(t13_9 c nl lo nl)] <;> (show _ = _; kernel_rfl)
def s13 (c : CallT) (nl lo : Nat) (a0 a1 a2 : AV) (M : MM) : OR :=
 opt (aggA a1) fun v4 =>
 upK M M.nx fun M5 =>
 opt (fldA 0 2 true v4) fun v8 =>
 opt (puA c (lk M5) 22 [v8]) fun v9 =>
 opt (unA .not v9) fun v10 =>
 isB v10 fun c11 => if c11 then (some (.tup [(.d (.sl [] 0)), (.i 19)], M5))
 else (opt (fldA 0 0 true v4) fun v14 =>
 opt (fldA 0 1 false v4) fun v15 =>
 opt (puA c (lk M5) 23 [v15]) fun v16 =>
 isB v16 fun c17 => if c17 then (b13_101 c nl lo a2 v4 (.i 0) M5)
 else (opt (fldA 0 0 true v4) fun v58 =>
 opt (fldA 0 1 false v4) fun v59 =>
 opt (puA c (lk M5) 25 [a0, v59, a2]) fun v61 =>
 opt (extA 0 v61) fun v63 =>
 opt (extA 1 v61) fun v64 =>
 opt (extA 2 v61) fun v65 =>
 opt (extA 3 v61) fun v66 =>
 opt (unA .not v66) fun v72 =>
 isB v72 fun c74 => if c74 then (some (.tup [(.d (.sl [] 0)), (.i 6)], M5))
 else (opt (lenA v64) fun v78 =>
 opt (fldA 0 0 true v4) fun v79 =>
 opt (fldA 1 1 false v4) fun v80 =>
 opt (lenA v80) fun v81 =>
 opt (binA .neq .none v78 v81) fun v82 =>
 isB v82 fun c84 => if c84 then (some (.tup [(.d (.sl [] 0)), (.i 9)], M5))
 else (opt (unA .not v65) fun v88 =>
 isB v88 fun c90 => if c90 then (some (.tup [(.d (.sl [] 0)), (.i 15)], M5))
 else (b13_103 c nl lo v4 v63 v64 (.d (.sl [] 0)) M5)))))
theorem e13 (c : CallT) (nl lo : Nat) (a0 a1 a2 : AV) (M : MM) : execC c modeF lo nl cf13.body (endK cf13.res) noE (endK cf13.res) (aF [a0, a1, a2]) M = s13 c nl lo a0 a1 a2 M := by
 have h : execC c modeF lo nl cf13.body (endK cf13.res) noE (endK cf13.res) (aF [a0, a1, a2]) M = (opt (aggA a1) fun v4 =>
 upK M M.nx fun M5 =>
 opt (fldA 0 2 true v4) fun v8 =>
 opt (puA c (lk M5) 22 [v8]) fun v9 =>
 opt (unA .not v9) fun v10 =>
 isB v10 fun c11 => if c11 then (some (.tup [(.d (.sl [] 0)), (.i 19)], M5))
 else (opt (fldA 0 0 true v4) fun v14 =>
 opt (fldA 0 1 false v4) fun v15 =>
 opt (puA c (lk M5) 23 [v15]) fun v16 =>
 isB v16 fun c17 => if c17 then (k13_101 c nl lo (sF (sF (sF (sF (sF (sF (sF (sF (sF (sF (sF (sF (sF (aF [a0, a1, a2]) 4 (.tup [])) 9 (.tup [])) 17 (.tup [])) 4 v4) 6 (.d (.sl [] 0))) 7 (.i 0)) 20 v8) 21 v9) 22 v10) 23 v14) 24 v15) 25 v16) 8 (.i 0)) M5)
 else (opt (fldA 0 0 true v4) fun v20 =>
 opt (fldA 0 1 false v4) fun v21 =>
 opt (puA c (lk M5) 25 [a0, v21, a2]) fun v23 =>
 opt (extA 0 v23) fun v25 =>
 opt (extA 1 v23) fun v26 =>
 opt (extA 2 v23) fun v27 =>
 opt (extA 3 v23) fun v28 =>
 opt (unA .not v28) fun v34 =>
 isB v34 fun c36 => if c36 then (some (.tup [(.d (.sl [] 0)), (.i 6)], M5))
 else (opt (lenA v26) fun v40 =>
 opt (fldA 0 0 true v4) fun v41 =>
 opt (fldA 1 1 false v4) fun v42 =>
 opt (lenA v42) fun v43 =>
 opt (binA .neq .none v40 v43) fun v44 =>
 isB v44 fun c46 => if c46 then (some (.tup [(.d (.sl [] 0)), (.i 9)], M5))
 else (opt (unA .not v27) fun v50 =>
 isB v50 fun c52 => if c52 then (some (.tup [(.d (.sl [] 0)), (.i 15)], M5))
 else (k13_103 c nl lo (sF (sF (sF (sF (sF (sF (sF (sF (sF (sF (sF (sF (sF (sF (sF (sF (sF (sF (sF (sF (sF (sF (sF (sF (sF (sF (sF (sF (sF (sF (sF (sF (sF (sF (sF (sF (sF (sF (sF (sF (aF [a0, a1, a2]) 4 (.tup [])) 9 (.tup [])) 17 (.tup [])) 4 v4) 6 (.d (.sl [] 0))) 7 (.i 0)) 20 v8) 21 v9) 22 v10) 23 v14) 24 v15) 25 v16) 50 a0) 51 v20) 52 v21) 53 a2) 54 v23) 49 v23) 55 v25) 56 v26) 57 v27) 58 v28) 11 v25) 12 v26) 13 v27) 14 v28) 60 v28) 61 v34) 59 v34) 63 v26) 64 v40) 65 v41) 66 v42) 67 v43) 68 v44) 62 v44) 70 v27) 71 v50) 69 v50) 15 (.d (.sl [] 0))) M5)))))) := by kernel_rfl
 refine h.trans ?_
 unfold s13; simp only [(t13_101 c nl lo), (t13_103 c nl lo)] <;> (show _ = _; kernel_rfl)
theorem q13 {c : CallT} (hc : Lim G c) (lo : Nat) (a0 a1 a2 : AV) (M : MM) : c 13 [a0, a1, a2] lo M = s13 c G.nl lo a0 a1 a2 M :=
 (hc.flow (cf := cf13) rfl w13 [a0, a1, a2] lo M).trans (e13 c G.nl lo a0 a1 a2 M)

/-! ### function 14 -/
theorem w14 : wfK cf14.nt cf14.body = true := by kernel_rfl
def k14_100 (c : CallT) (nl lo : Nat) : Rg → MM → OR := (execC c modeF lo nl p14_18 (endK cf14.res) noE (endK cf14.res))
@[reducible] def b14_100 (c : CallT) (nl lo : Nat) (x2 x3 : AV) (M : MM) : OR :=
 opt (fldA 0 2 true x3) fun v15 =>
 opt (setcA 0 2 x2 v15) fun v16 =>
 opt (locA 2 true v16) fun r => some (r, M)
theorem t14_100 (c : CallT) (nl lo : Nat) (ρ : Rg) (M : MM) : k14_100 c nl lo ρ M = b14_100 c nl lo (ρ 2) (ρ 3) M := by
 kernel_rfl
def k14_5 (c : CallT) (nl lo : Nat) (n : Nat) : Rg → MM → OR := iterC (fun k ρ M => execC c modeF lo nl p14_13 k (fun i ρ M => if i = 0 then (k14_100 c nl lo) ρ M else noE i ρ M) (endK cf14.res) ρ M) n
def b14_5 (c : CallT) (nl lo : Nat) : Nat → AV → AV → AV → AV → AV → MM → OR
 | 0, _, _, _, _, _, _ => none
 | n + 1, x2, x3, x10, x11, x12, M =>
 opt (binA .lss .none x12 x11) fun v21 =>
 isB v21 fun c22 => if c22 then (opt (ixsA 2 x10 x12) fun v23 =>
 opt (ldnA (lk M) 2 v23) fun v24 =>
 upK M M.nx fun M26 =>
 opt (setcA 0 2 (.agg [.str ⟨⟨[]⟩⟩, .d (.sl [] 0)]) v24) fun v27 =>
 bumpK M26 8 fun M28 =>
 opt (fldA 0 0 true x3) fun v29 =>
 opt (fldA 1 1 false x3) fun v30 =>
 opt (fldA 0 2 true v27) fun v31 =>
 opt (puA c (look M28.mem (.mk M26.nx 8 4 true)) 14 [v31]) fun v32 =>
 opt (wslA 1 (fill [.str ⟨⟨[]⟩⟩, .d (.sl [] 0)] [(0, 2, v32)])) fun v33 =>
 upK M28 (M26.nx + 4) fun M34 =>
 opt (wappA M34.mem (.mk M26.nx 8 31 true) 2 40 v30 v33) fun v35 =>
 upK M34 (M26.nx + 5) fun M36 =>
 opt (fldA 0 0 true x3) fun v37 =>
 opt (setcA 1 1 x3 v35) fun v38 =>
 opt (binA .add .none x12 (.i 1)) fun v39 =>
 (b14_5 c nl lo n) x2 v38 x10 x11 v39 M36)
 else (b14_100 c nl lo x2 x3 M)
theorem t14_5 (c : CallT) (nl lo : Nat) : ∀ (n : Nat) (ρ : Rg) (M : MM), k14_5 c nl lo n ρ M = b14_5 c nl lo n (ρ 2) (ρ 3) (ρ 10) (ρ 11) (ρ 12) M
 | 0, ρ, M => rfl
 | n + 1, ρ, M => by
  have h : ∀ (zb z0 : Rg → MM → OR), execC c modeF lo nl p14_13 zb (fun i ρ M => if i = 0 then z0 ρ M else noE i ρ M) (endK cf14.res) ρ M = (opt (binA .lss .none (ρ 12) (ρ 11)) fun v21 =>
  isB v21 fun c22 => if c22 then (opt (ixsA 2 (ρ 10) (ρ 12)) fun v23 =>
  opt (ldnA (lk M) 2 v23) fun v24 =>
  upK M M.nx fun M26 =>
  opt (setcA 0 2 (.agg [.str ⟨⟨[]⟩⟩, .d (.sl [] 0)]) v24) fun v27 =>
  bumpK M26 8 fun M28 =>
  opt (fldA 0 0 true (ρ 3)) fun v29 =>
  opt (fldA 1 1 false (ρ 3)) fun v30 =>
  opt (fldA 0 2 true v27) fun v31 =>
  opt (puA c (look M28.mem (.mk M26.nx 8 4 true)) 14 [v31]) fun v32 =>
  opt (wslA 1 (fill [.str ⟨⟨[]⟩⟩, .d (.sl [] 0)] [(0, 2, v32)])) fun v33 =>
  upK M28 (M26.nx + 4) fun M34 =>
  opt (wappA M34.mem (.mk M26.nx 8 31 true) 2 40 v30 v33) fun v35 =>
  upK M34 (M26.nx + 5) fun M36 =>
  opt (fldA 0 0 true (ρ 3)) fun v37 =>
  opt (setcA 1 1 (ρ 3) v35) fun v38 =>
  opt (binA .add .none (ρ 12) (.i 1)) fun v39 =>
  zb (sF (sF (sF (sF (sF (sF (sF (sF (sF (sF (sF (sF (sF (sF (sF ρ 13 v21) 14 v23) 15 v24) 5 (.agg [.str ⟨⟨[]⟩⟩, .d (.sl [] 0)])) 5 v27) 16 v29) 17 v30) 18 v31) 19 v32) 20 v33) 21 v35) 22 v37) 3 v38) 23 v39) 12 v39) M36)
  else (z0 (sF ρ 13 v21) M)) := by intros; kernel_rfl
  refine (h (k14_5 c nl lo n) (k14_100 c nl lo)).trans ?_
  unfold b14_5; simp only [(t14_100 c nl lo), (t14_5 c nl lo n)] <;> (show _ = _; kernel_rfl)
def k14_101 (c : CallT) (nl lo : Nat) : Rg → MM → OR := (execC c modeF lo nl p14_16 (k14_100 c nl lo) noE (endK cf14.res))
@[reducible] def b14_101 (c : CallT) (nl lo : Nat) (x1 x2 x3 : AV) (M : MM) : OR :=
 opt (fldA 0 0 true x1) fun v17 =>
 opt (fldA 1 1 false x1) fun v18 =>
 opt (lenA v18) fun v19 =>
 b14_5 c nl lo nl x2 x3 v18 v19 (.i 0) M
theorem t14_101 (c : CallT) (nl lo : Nat) (ρ : Rg) (M : MM) : k14_101 c nl lo ρ M = b14_101 c nl lo (ρ 1) (ρ 2) (ρ 3) M := by
 have h : k14_101 c nl lo ρ M = (opt (fldA 0 0 true (ρ 1)) fun v17 =>
 opt (fldA 1 1 false (ρ 1)) fun v18 =>
 opt (lenA v18) fun v19 =>
 k14_5 c nl lo nl (sF (sF (sF (sF ρ 9 v17) 10 v18) 11 v19) 12 (.i 0)) M) := by kernel_rfl
 rw [h]
 unfold b14_101; simp only [(t14_5 c nl lo nl)] <;> (show _ = _; kernel_rfl)
def s14 (c : CallT) (nl lo : Nat) (a0 : AV) (M : MM) : OR :=
 opt (aggA a0) fun v5 =>
 upK M M.nx fun M6 =>
 upK M6 M6.nx fun M8 =>
 opt (fldA 0 0 true v5) fun v9 =>
 opt (fldA 0 1 false v5) fun v10 =>
 opt ((fill [.str ⟨⟨[]⟩⟩, .d (.sl [] 0)] [(0, 1, v10)]).map .agg) fun v11 =>
 upK M8 M8.nx fun M13 =>
 opt (setcA 0 2 (.agg [.str ⟨⟨[]⟩⟩, .d (.sl [] 0)]) v11) fun v14 =>
 b14_101 c nl lo v5 (.agg [.str ⟨⟨[]⟩⟩, .d (.sl [] 0)]) v14 M13
theorem e14 (c : CallT) (nl lo : Nat) (a0 : AV) (M : MM) : execC c modeF lo nl cf14.body (endK cf14.res) noE (endK cf14.res) (aF [a0]) M = s14 c nl lo a0 M := by
 have h : execC c modeF lo nl cf14.body (endK cf14.res) noE (endK cf14.res) (aF [a0]) M = (opt (aggA a0) fun v5 =>
 upK M M.nx fun M6 =>
 upK M6 M6.nx fun M8 =>
 opt (fldA 0 0 true v5) fun v9 =>
 opt (fldA 0 1 false v5) fun v10 =>
 opt ((fill [.str ⟨⟨[]⟩⟩, .d (.sl [] 0)] [(0, 1, v10)]).map .agg) fun v11 =>
 upK M8 M8.nx fun M13 =>
 opt (setcA 0 2 (.agg [.str ⟨⟨[]⟩⟩, .d (.sl [] 0)]) v11) fun v14 =>
 k14_101 c nl lo (sF (sF (sF (sF (sF (sF (sF (sF (sF (sF (sF (aF [a0]) 1 (.tup [])) 2 (.tup [])) 3 (.tup [])) 5 (.tup [])) 1 v5) 2 (.agg [.str ⟨⟨[]⟩⟩, .d (.sl [] 0)])) 6 v9) 7 v10) 8 v11) 3 (.agg [.str ⟨⟨[]⟩⟩, .d (.sl [] 0)])) 3 v14) M13) := by kernel_rfl
 refine h.trans ?_
 unfold s14; simp only [(t14_101 c nl lo)] <;> (show _ = _; kernel_rfl)
theorem q14 {c : CallT} (hc : Lim G c) (lo : Nat) (a0 : AV) (M : MM) : c 14 [a0] lo M = s14 c G.nl lo a0 M :=
 (hc.flow (cf := cf14) rfl w14 [a0] lo M).trans (e14 c G.nl lo a0 M)

/-! ### function 15 -/
theorem w15 : wfK cf15.nt cf15.body = true := by kernel_rfl
def k15_100 (c : CallT) (nl lo : Nat) : Rg → MM → OR := (execC c modeF lo nl p15_21 (endK cf15.res) noE (endK cf15.res))
@[reducible] def b15_100 (c : CallT) (nl lo : Nat) (M : MM) : OR :=
 some ((.i (-1)), M)
theorem t15_100 (c : CallT) (nl lo : Nat) (ρ : Rg) (M : MM) : k15_100 c nl lo ρ M = b15_100 c nl lo M := by
 kernel_rfl
def k15_4 (c : CallT) (nl lo : Nat) (n : Nat) : Rg → MM → OR := iterC (fun k ρ M => execC c modeF lo nl p15_16 k (fun i ρ M => if i = 0 then (k15_100 c nl lo) ρ M else noE i ρ M) (endK cf15.res) ρ M) n
def b15_4 (c : CallT) (nl lo : Nat) : Nat → AV → AV → AV → AV → MM → OR
 | 0, _, _, _, _, _ => none
 | n + 1, x0, x1, x7, x8, M =>
 opt (binA .lss .none x8 x7) fun v6 =>
 isB v6 fun c7 => if c7 then (opt (ixsA 2 x0 x8) fun v13 =>
 opt (ldnA (lk M) 2 v13) fun v14 =>
 bnd (istep c modeF false lo (.top M.nx) M.nx (.callw [] (.k x1) [(.k v14)]) [] M) fun v15 M16 =>
 isB v15 fun c17 => if c17 then (some (x8, M16))
 else (opt (binA .add .none x8 (.i 1)) fun v20 =>
 (b15_4 c nl lo n) x0 x1 x7 v20 M16))
 else (b15_100 c nl lo M)
theorem t15_4 (c : CallT) (nl lo : Nat) : ∀ (n : Nat) (ρ : Rg) (M : MM), k15_4 c nl lo n ρ M = b15_4 c nl lo n (ρ 0) (ρ 1) (ρ 7) (ρ 8) M
 | 0, ρ, M => rfl
 | n + 1, ρ, M => by
  have h : ∀ (zb z0 : Rg → MM → OR), execC c modeF lo nl p15_16 zb (fun i ρ M => if i = 0 then z0 ρ M else noE i ρ M) (endK cf15.res) ρ M = (opt (binA .lss .none (ρ 8) (ρ 7)) fun v6 =>
  isB v6 fun c7 => if c7 then (opt (ixsA 2 (ρ 0) (ρ 8)) fun v13 =>
  opt (ldnA (lk M) 2 v13) fun v14 =>
  bnd (istep c modeF false lo (.top M.nx) M.nx (.callw [] (.k (ρ 1)) [(.k v14)]) [] M) fun v15 M16 =>
  isB v15 fun c17 => if c17 then (some ((ρ 8), M16))
  else (opt (binA .add .none (ρ 8) (.i 1)) fun v20 =>
  zb (sF (sF (sF (sF (sF (sF (sF (sF (sF (sF (sF ρ 9 v6) 10 (ρ 8)) 5 (ρ 8)) 11 (ρ 1)) 12 (ρ 0)) 13 (ρ 8)) 14 v13) 15 v14) 16 v15) 18 v20) 8 v20) M16))
  else (z0 (sF ρ 9 v6) M)) := by intros; kernel_rfl
  refine (h (k15_4 c nl lo n) (k15_100 c nl lo)).trans ?_
  unfold b15_4; simp only [(t15_100 c nl lo), (t15_4 c nl lo n)] <;> (show _ = _; kernel_rfl)
def k15_101 (c : CallT) (nl lo : Nat) : Rg → MM → OR := (execC c modeF lo nl p15_19 (k15_100 c nl lo) noE (endK cf15.res))
@[reducible] def b15_101 (c : CallT) (nl lo : Nat) (x0 x1 : AV) (M : MM) : OR :=
 opt (lenA x0) fun v4 =>
 b15_4 c nl lo nl x0 x1 v4 (.i 0) M
theorem t15_101 (c : CallT) (nl lo : Nat) (ρ : Rg) (M : MM) : k15_101 c nl lo ρ M = b15_101 c nl lo (ρ 0) (ρ 1) M := by
 have h : k15_101 c nl lo ρ M = (opt (lenA (ρ 0)) fun v4 =>
 k15_4 c nl lo nl (sF (sF (sF ρ 6 (ρ 0)) 7 v4) 8 (.i 0)) M) := by kernel_rfl
 rw [h]
 unfold b15_101; simp only [(t15_4 c nl lo nl)] <;> (show _ = _; kernel_rfl)
def s15 (c : CallT) (nl lo : Nat) (a0 a1 : AV) (M : MM) : OR :=
 b15_101 c nl lo a0 a1 M
theorem e15 (c : CallT) (nl lo : Nat) (a0 a1 : AV) (M : MM) : execC c modeF lo nl cf15.body (endK cf15.res) noE (endK cf15.res) (aF [a0, a1]) M = s15 c nl lo a0 a1 M := by
 have h : execC c modeF lo nl cf15.body (endK cf15.res) noE (endK cf15.res) (aF [a0, a1]) M = (k15_101 c nl lo (sF (aF [a0, a1]) 4 (.i 0)) M) := by kernel_rfl
 refine h.trans ?_
 unfold s15; simp only [(t15_101 c nl lo)] <;> (show _ = _; kernel_rfl)
theorem q15 {c : CallT} (hc : Lim G c) (lo : Nat) (a0 a1 : AV) (M : MM) : c 15 [a0, a1] lo M = s15 c G.nl lo a0 a1 M :=
 (hc.flow (cf := cf15) rfl w15 [a0, a1] lo M).trans (e15 c G.nl lo a0 a1 M)

/-! ### function 17 -/
theorem w17 : wfK cf17.nt cf17.body = true := by kernel_rfl
def s17 (c : CallT) (nl lo : Nat) (a0 a1 : AV) (M : MM) : OR :=
 opt (aggA a0) fun v3 =>
 upK M M.nx fun M4 =>
 opt (aggA a1) fun v5 =>
 upK M4 M4.nx fun M6 =>
 opt (fldA 0 0 true v3) fun v8 =>
 opt (fldA 0 1 false v3) fun v9 =>
 opt (fldA 0 0 true v5) fun v10 =>
 opt (fldA 0 1 false v5) fun v11 =>
 opt (binA .eql .none v9 v11) fun v12 =>
 opt (gdp v12 true (fldA 0 0 true v3)) fun v14 =>
 opt (gdp v12 true (fldA 1 1 false v3)) fun v15 =>
 opt (gdp v12 true (fldA 0 0 true v5)) fun v16 =>
 opt (gdp v12 true (fldA 1 1 false v5)) fun v17 =>
 bnd (gd v12 true M6 (c 27 [v15, v17, (.fn 17 [] [])] lo M6)) fun v18 M19 =>
 opt (pickA v12 v18 (.bool false)) fun v20 =>
 some (v20, M19)
theorem e17 (c : CallT) (nl lo : Nat) (a0 a1 : AV) (M : MM) : execC c modeF lo nl cf17.body (endK cf17.res) noE (endK cf17.res) (aF [a0, a1]) M = s17 c nl lo a0 a1 M := by
 kernel_rfl
theorem q17 {c : CallT} (hc : Lim G c) (lo : Nat) (a0 a1 : AV) (M : MM) : c 17 [a0, a1] lo M = s17 c G.nl lo a0 a1 M :=
 (hc.flow (cf := cf17) rfl w17 [a0, a1] lo M).trans (e17 c G.nl lo a0 a1 M)

/-! ### function 19 -/
theorem w19 : wfK cf19.nt cf19.body = true := by kernel_rfl
def s19 (c : CallT) (nl lo : Nat) (a0 a1 : AV) (M : MM) : OR :=
 opt (roA c (.top M.nx) 15 [a0, a1] M) fun v4 =>
 opt (binA .geq .none v4 (.i 0)) fun v5 =>
 some (v5, M)
theorem e19 (c : CallT) (nl lo : Nat) (a0 a1 : AV) (M : MM) : execC c modeF lo nl cf19.body (endK cf19.res) noE (endK cf19.res) (aF [a0, a1]) M = s19 c nl lo a0 a1 M := by
 kernel_rfl
theorem q19 {c : CallT} (hc : Lim G c) (lo : Nat) (a0 a1 : AV) (M : MM) : c 19 [a0, a1] lo M = s19 c G.nl lo a0 a1 M :=
 (hc.flow (cf := cf19) rfl w19 [a0, a1] lo M).trans (e19 c G.nl lo a0 a1 M)

/-! ### function 20 -/
theorem w20 : wfK cf20.nt cf20.body = true := by kernel_rfl
def s20 (c : CallT) (nl lo : Nat) (a0 a1 : AV) (M : MM) : OR :=
 opt (aggA a0) fun v2 =>
 upK M M.nx fun M3 =>
 opt (ldnA (lk M3) 2 a1) fun v5 =>
 opt (fldA 0 2 true v2) fun v6 =>
 opt (puA c (lk M3) 17 [v5, v6]) fun v7 =>
 some (v7, M3)
theorem e20 (c : CallT) (nl lo : Nat) (a0 a1 : AV) (M : MM) : execC c modeF lo nl cf20.body (endK cf20.res) noE (endK cf20.res) (aF [a0, a1]) M = s20 c nl lo a0 a1 M := by
 kernel_rfl
theorem q20 {c : CallT} (hc : Lim G c) (lo : Nat) (a0 a1 : AV) (M : MM) : c 20 [a0, a1] lo M = s20 c G.nl lo a0 a1 M :=
 (hc.flow (cf := cf20) rfl w20 [a0, a1] lo M).trans (e20 c G.nl lo a0 a1 M)

/-! ### function 21 -/
theorem w21 : wfK cf21.nt cf21.body = true := by kernel_rfl
def k21_100 (c : CallT) (nl lo : Nat) : Rg → MM → OR := (execC c modeF lo nl p21_23 (endK cf21.res) noE (endK cf21.res))
@[reducible] def b21_100 (c : CallT) (nl lo : Nat) (x1 x3 : AV) (M : MM) : OR :=
 bumpK M 8 fun M15 =>
 opt (fldA 0 0 true x1) fun v16 =>
 opt (fldA 0 1 false x1) fun v17 =>
 opt (binA .add .none v17 (.str ⟨⟨[91]⟩⟩)) fun v18 =>
 opt (puA c (look M15.mem (.mk M.nx 8 8 true)) 28 [x3, (.str ⟨⟨[44, 32]⟩⟩)]) fun v20 =>
 opt (binA .add .none v18 v20) fun v21 =>
 opt (binA .add .none v21 (.str ⟨⟨[93]⟩⟩)) fun v22 =>
 some (v22, M15)
theorem t21_100 (c : CallT) (nl lo : Nat) (ρ : Rg) (M : MM) : k21_100 c nl lo ρ M = b21_100 c nl lo (ρ 1) (ρ 3) M := by
 kernel_rfl
def k21_6 (c : CallT) (nl lo : Nat) (n : Nat) : Rg → MM → OR := iterC (fun k ρ M => execC c modeF lo nl p21_18 k (fun i ρ M => if i = 0 then (k21_100 c nl lo) ρ M else noE i ρ M) (endK cf21.res) ρ M) n
def b21_6 (c : CallT) (nl lo : Nat) : Nat → AV → AV → AV → AV → AV → MM → OR
 | 0, _, _, _, _, _, _ => none
 | n + 1, x1, x3, x13, x14, x15, M =>
 opt (binA .lss .none x15 x14) fun v28 =>
 isB v28 fun c29 => if c29 then (opt (ixsA 2 x13 x15) fun v30 =>
 opt (ldnA (lk M) 2 v30) fun v31 =>
 upK M M.nx fun M33 =>
 opt (setcA 0 2 (.agg [.str ⟨⟨[]⟩⟩, .d (.sl [] 0)]) v31) fun v34 =>
 opt (fldA 0 2 true v34) fun v36 =>
 opt (puA c (lk M33) 21 [v36]) fun v37 =>
 opt (wslA 1 (fill [.str ⟨⟨[]⟩⟩] [(0, 1, v37)])) fun v38 =>
 upK M33 M33.nx fun M39 =>
 opt (wappA M39.mem (.top M39.nx) 1 16 x3 v38) fun v40 =>
 upK M39 M39.nx fun M41 =>
 opt (binA .add .none x15 (.i 1)) fun v43 =>
 (b21_6 c nl lo n) x1 v40 x13 x14 v43 M41)
 else (b21_100 c nl lo x1 x3 M)
theorem t21_6 (c : CallT) (nl lo : Nat) : ∀ (n : Nat) (ρ : Rg) (M : MM), k21_6 c nl lo n ρ M = b21_6 c nl lo n (ρ 1) (ρ 3) (ρ 13) (ρ 14) (ρ 15) M
 | 0, ρ, M => rfl
 | n + 1, ρ, M => by
  have h : ∀ (zb z0 : Rg → MM → OR), execC c modeF lo nl p21_18 zb (fun i ρ M => if i = 0 then z0 ρ M else noE i ρ M) (endK cf21.res) ρ M = (opt (binA .lss .none (ρ 15) (ρ 14)) fun v28 =>
  isB v28 fun c29 => if c29 then (opt (ixsA 2 (ρ 13) (ρ 15)) fun v30 =>
  opt (ldnA (lk M) 2 v30) fun v31 =>
  upK M M.nx fun M33 =>
  opt (setcA 0 2 (.agg [.str ⟨⟨[]⟩⟩, .d (.sl [] 0)]) v31) fun v34 =>
  opt (fldA 0 2 true v34) fun v36 =>
  opt (puA c (lk M33) 21 [v36]) fun v37 =>
  opt (wslA 1 (fill [.str ⟨⟨[]⟩⟩] [(0, 1, v37)])) fun v38 =>
  upK M33 M33.nx fun M39 =>
  opt (wappA M39.mem (.top M39.nx) 1 16 (ρ 3) v38) fun v40 =>
  upK M39 M39.nx fun M41 =>
  opt (binA .add .none (ρ 15) (.i 1)) fun v43 =>
  zb (sF (sF (sF (sF (sF (sF (sF (sF (sF (sF (sF (sF (sF ρ 16 v28) 17 v30) 18 v31) 5 (.agg [.str ⟨⟨[]⟩⟩, .d (.sl [] 0)])) 5 v34) 19 (ρ 3)) 20 v36) 21 v37) 22 v38) 23 v40) 3 v40) 24 v43) 15 v43) M41)
  else (z0 (sF ρ 16 v28) M)) := by intros; kernel_rfl
  refine (h (k21_6 c nl lo n) (k21_100 c nl lo)).trans ?_
  unfold b21_6; simp only [(t21_100 c nl lo), (t21_6 c nl lo n)] <;> (show _ = _; kernel_rfl)
def k21_101 (c : CallT) (nl lo : Nat) : Rg → MM → OR := (execC c modeF lo nl p21_21 (k21_100 c nl lo) noE (endK cf21.res))
@[reducible] def b21_101 (c : CallT) (nl lo : Nat) (x1 x3 : AV) (M : MM) : OR :=
 opt (fldA 0 0 true x1) fun v24 =>
 opt (fldA 1 1 false x1) fun v25 =>
 opt (lenA v25) fun v26 =>
 b21_6 c nl lo nl x1 x3 v25 v26 (.i 0) M
theorem t21_101 (c : CallT) (nl lo : Nat) (ρ : Rg) (M : MM) : k21_101 c nl lo ρ M = b21_101 c nl lo (ρ 1) (ρ 3) M := by
 have h : k21_101 c nl lo ρ M = (opt (fldA 0 0 true (ρ 1)) fun v24 =>
 opt (fldA 1 1 false (ρ 1)) fun v25 =>
 opt (lenA v25) fun v26 =>
 k21_6 c nl lo nl (sF (sF (sF (sF ρ 12 v24) 13 v25) 14 v26) 15 (.i 0)) M) := by kernel_rfl
 rw [h]
 unfold b21_101; simp only [(t21_6 c nl lo nl)] <;> (show _ = _; kernel_rfl)
def s21 (c : CallT) (nl lo : Nat) (a0 : AV) (M : MM) : OR :=
 opt (aggA a0) fun v3 =>
 upK M M.nx fun M4 =>
 opt (fldA 0 0 true v3) fun v6 =>
 opt (fldA 1 1 false v3) fun v7 =>
 opt (lenA v7) fun v8 =>
 opt (binA .eql .none v8 (.i 0)) fun v9 =>
 isB v9 fun c10 => if c10 then (opt (fldA 0 0 true v3) fun v11 =>
 opt (fldA 0 1 false v3) fun v12 =>
 some (v12, M4))
 else (b21_101 c nl lo v3 (.d (.sl [] 0)) M4)
theorem e21 (c : CallT) (nl lo : Nat) (a0 : AV) (M : MM) : execC c modeF lo nl cf21.body (endK cf21.res) noE (endK cf21.res) (aF [a0]) M = s21 c nl lo a0 M := by
 have h : execC c modeF lo nl cf21.body (endK cf21.res) noE (endK cf21.res) (aF [a0]) M = (opt (aggA a0) fun v3 =>
 upK M M.nx fun M4 =>
 opt (fldA 0 0 true v3) fun v6 =>
 opt (fldA 1 1 false v3) fun v7 =>
 opt (lenA v7) fun v8 =>
 opt (binA .eql .none v8 (.i 0)) fun v9 =>
 isB v9 fun c10 => if c10 then (opt (fldA 0 0 true v3) fun v11 =>
 opt (fldA 0 1 false v3) fun v12 =>
 some (v12, M4))
 else (k21_101 c nl lo (sF (sF (sF (sF (sF (sF (sF (sF (sF (aF [a0]) 1 (.tup [])) 5 (.tup [])) 1 v3) 2 (.str ⟨⟨[]⟩⟩)) 6 v6) 7 v7) 8 v8) 9 v9) 3 (.d (.sl [] 0))) M4)) := by kernel_rfl
 refine h.trans ?_
 unfold s21; simp only [(t21_101 c nl lo)] <;> (show _ = _; kernel_rfl)
theorem q21 {c : CallT} (hc : Lim G c) (lo : Nat) (a0 : AV) (M : MM) : c 21 [a0] lo M = s21 c G.nl lo a0 M :=
 (hc.flow (cf := cf21) rfl w21 [a0] lo M).trans (e21 c G.nl lo a0 M)

/-! ### function 22 -/
theorem w22 : wfK cf22.nt cf22.body = true := by kernel_rfl
def s22 (c : CallT) (nl lo : Nat) (a0 : AV) (M : MM) : OR :=
 opt (aggA a0) fun v2 =>
 upK M M.nx fun M3 =>
 opt (fldA 0 0 true v2) fun v5 =>
 opt (fldA 0 1 false v2) fun v6 =>
 opt (puA c (lk M3) 29 [v6]) fun v7 =>
 opt (unA .not v7) fun v8 =>
 opt (gdp v8 true (fldA 0 0 true v2)) fun v10 =>
 opt (gdp v8 true (fldA 1 1 false v2)) fun v11 =>
 opt (gdp v8 true (roA c (.top M3.nx) 19 [v11, (.fn 30 [] [])] M3)) fun v12 =>
 opt (gdp v8 true (unA .not v12)) fun v13 =>
 opt (pickA v8 v13 (.bool false)) fun v14 =>
 some (v14, M3)
theorem e22 (c : CallT) (nl lo : Nat) (a0 : AV) (M : MM) : execC c modeF lo nl cf22.body (endK cf22.res) noE (endK cf22.res) (aF [a0]) M = s22 c nl lo a0 M := by
 kernel_rfl
theorem q22 {c : CallT} (hc : Lim G c) (lo : Nat) (a0 : AV) (M : MM) : c 22 [a0] lo M = s22 c G.nl lo a0 M :=
 (hc.flow (cf := cf22) rfl w22 [a0] lo M).trans (e22 c G.nl lo a0 M)

/-! ### function 23 -/
theorem w23 : wfK cf23.nt cf23.body = true := by kernel_rfl
def s23 (c : CallT) (nl lo : Nat) (a0 : AV) (M : MM) : OR :=
 opt (binA .eql .none a0 (.str ⟨⟨[73, 110, 116]⟩⟩)) fun v3 =>
 opt (gdp v3 false (some a0)) fun v5 =>
 opt (gdp v3 false (binA .eql .none v5 (.str ⟨⟨[66, 121, 116, 101]⟩⟩))) fun v6 =>
 opt (pickA v3 (.bool true) v6) fun v7 =>
 opt (gdp v7 false (some a0)) fun v9 =>
 opt (gdp v7 false (binA .eql .none v9 (.str ⟨⟨[66, 111, 111, 108]⟩⟩))) fun v10 =>
 opt (pickA v7 (.bool true) v10) fun v11 =>
 opt (gdp v11 false (some a0)) fun v13 =>
 opt (gdp v11 false (binA .eql .none v13 (.str ⟨⟨[65, 114, 114, 97, 121]⟩⟩))) fun v14 =>
 opt (pickA v11 (.bool true) v14) fun v15 =>
 some (v15, M)
theorem e23 (c : CallT) (nl lo : Nat) (a0 : AV) (M : MM) : execC c modeF lo nl cf23.body (endK cf23.res) noE (endK cf23.res) (aF [a0]) M = s23 c nl lo a0 M := by
 kernel_rfl
theorem q23 {c : CallT} (hc : Lim G c) (lo : Nat) (a0 : AV) (M : MM) : c 23 [a0] lo M = s23 c G.nl lo a0 M :=
 (hc.flow (cf := cf23) rfl w23 [a0] lo M).trans (e23 c G.nl lo a0 M)

/-! ### function 24 -/
theorem w24 : wfK cf24.nt cf24.body = true := by kernel_rfl
def k24_100 (c : CallT) (nl lo : Nat) : Rg → MM → OR := (execC c modeF lo nl p24_35 (endK cf24.res) noE (endK cf24.res))
@[reducible] def b24_100 (c : CallT) (nl lo : Nat) (x1 x2 x3 x6 x8 : AV) (M : MM) : OR :=
 opt (fldA 0 2 true x3) fun v31 =>
 opt (puA c (lk M) 33 [v31, x1, x8]) fun v34 =>
 opt (binA .gtr .none v34 (.i 4096)) fun v35 =>
 isB v35 fun c36 => if c36 then (opt ((fill [.str ⟨⟨[]⟩⟩, .d (.sl [] 0)] []).map .agg) fun v37 =>
 opt (setcA 0 2 x6 v37) fun v38 =>
 opt (resL [locA 2 true v38, some (.i 4)]) fun r => some (r, M))
 else (opt (fldA 0 2 true x3) fun v40 =>
 opt (puA c (lk M) 34 [v40, x1, x2]) fun v43 =>
 opt (setcA 0 2 x6 v43) fun v44 =>
 opt (resL [locA 2 true v44, some (.i 0)]) fun r => some (r, M))
theorem t24_100 (c : CallT) (nl lo : Nat) (ρ : Rg) (M : MM) : k24_100 c nl lo ρ M = b24_100 c nl lo (ρ 1) (ρ 2) (ρ 3) (ρ 6) (ρ 8) M := by
 kernel_rfl
def k24_6 (c : CallT) (nl lo : Nat) (n : Nat) : Rg → MM → OR := iterC (fun k ρ M => execC c modeF lo nl p24_24 k (fun i ρ M => if i = 1 then (k24_100 c nl lo) ρ M else noE i ρ M) (endK cf24.res) ρ M) n
def b24_6 (c : CallT) (nl lo : Nat) : Nat → AV → AV → AV → AV → AV → AV → AV → AV → MM → OR
 | 0, _, _, _, _, _, _, _, _, _ => none
 | n + 1, x1, x2, x3, x6, x8, x25, x26, x27, M =>
 opt (binA .lss .none x27 x26) fun v49 =>
 isB v49 fun c50 => if c50 then (opt (ixsA 2 x25 x27) fun v52 =>
 opt (ldnA (lk M) 2 v52) fun v53 =>
 upK M M.nx fun M55 =>
 opt (setcA 0 2 (.agg [.str ⟨⟨[]⟩⟩, .d (.sl [] 0)]) v53) fun v57 =>
 opt (fldA 0 2 true v57) fun v60 =>
 opt (puA c (lk M55) 32 [v60]) fun v61 =>
 opt (ixsA 1 x8 x27) fun v62 =>
 bnd (istep c modeF false lo (.top M55.nx) M55.nx (.st 1 (.k v62) (.k v61)) [] M55) fun v63 M64 =>
 opt (binA .add .none x27 (.i 1)) fun v65 =>
 (b24_6 c nl lo n) x1 x2 x3 x6 x8 x25 x26 v65 M64)
 else (b24_100 c nl lo x1 x2 x3 x6 x8 M)
theorem t24_6 (c : CallT) (nl lo : Nat) : ∀ (n : Nat) (ρ : Rg) (M : MM), k24_6 c nl lo n ρ M = b24_6 c nl lo n (ρ 1) (ρ 2) (ρ 3) (ρ 6) (ρ 8) (ρ 25) (ρ 26) (ρ 27) M
 | 0, ρ, M => rfl
 | n + 1, ρ, M => by
  have h : ∀ (zb z0 : Rg → MM → OR), execC c modeF lo nl p24_24 zb (fun i ρ M => if i = 1 then z0 ρ M else noE i ρ M) (endK cf24.res) ρ M = (opt (binA .lss .none (ρ 27) (ρ 26)) fun v49 =>
  isB v49 fun c50 => if c50 then (opt (ixsA 2 (ρ 25) (ρ 27)) fun v52 =>
  opt (ldnA (lk M) 2 v52) fun v53 =>
  upK M M.nx fun M55 =>
  opt (setcA 0 2 (.agg [.str ⟨⟨[]⟩⟩, .d (.sl [] 0)]) v53) fun v57 =>
  opt (fldA 0 2 true v57) fun v60 =>
  opt (puA c (lk M55) 32 [v60]) fun v61 =>
  opt (ixsA 1 (ρ 8) (ρ 27)) fun v62 =>
  bnd (istep c modeF false lo (.top M55.nx) M55.nx (.st 1 (.k v62) (.k v61)) [] M55) fun v63 M64 =>
  opt (binA .add .none (ρ 27) (.i 1)) fun v65 =>
  zb (sF (sF (sF (sF (sF (sF (sF (sF (sF (sF (sF (sF (sF (sF ρ 28 v49) 29 (ρ 27)) 30 v52) 31 v53) 10 (.agg [.str ⟨⟨[]⟩⟩, .d (.sl [] 0)])) 9 (ρ 27)) 10 v57) 32 (ρ 8)) 33 (ρ 27)) 34 v60) 35 v61) 36 v62) 37 v65) 27 v65) M64)
  else (z0 (sF ρ 28 v49) M)) := by intros; kernel_rfl
  refine (h (k24_6 c nl lo n) (k24_100 c nl lo)).trans ?_
  unfold b24_6; simp only [(t24_100 c nl lo), (t24_6 c nl lo n)] <;> (show _ = _; kernel_rfl)
def k24_101 (c : CallT) (nl lo : Nat) : Rg → MM → OR := (execC c modeF lo nl p24_27 (k24_100 c nl lo) noE (endK cf24.res))
@[reducible] def b24_101 (c : CallT) (nl lo : Nat) (x1 x2 x3 x6 x8 : AV) (M : MM) : OR :=
 opt (lenA x2) fun v47 =>
 b24_6 c nl lo nl x1 x2 x3 x6 x8 x2 v47 (.i 0) M
theorem t24_101 (c : CallT) (nl lo : Nat) (ρ : Rg) (M : MM) : k24_101 c nl lo ρ M = b24_101 c nl lo (ρ 1) (ρ 2) (ρ 3) (ρ 6) (ρ 8) M := by
 have h : k24_101 c nl lo ρ M = (opt (lenA (ρ 2)) fun v47 =>
 k24_6 c nl lo nl (sF (sF (sF ρ 25 (ρ 2)) 26 v47) 27 (.i 0)) M) := by kernel_rfl
 rw [h]
 unfold b24_101; simp only [(t24_6 c nl lo nl)] <;> (show _ = _; kernel_rfl)
def s24 (c : CallT) (nl lo : Nat) (a0 a1 a2 : AV) (M : MM) : OR :=
 opt (aggA a0) fun v4 =>
 upK M M.nx fun M5 =>
 upK M5 M5.nx fun M7 =>
 opt (lenA a1) fun v10 =>
 opt (lenA a2) fun v12 =>
 opt (binA .neq .none v10 v12) fun v13 =>
 isB v13 fun c15 => if c15 then (opt ((fill [.str ⟨⟨[]⟩⟩, .d (.sl [] 0)] []).map .agg) fun v16 =>
 opt (setcA 0 2 (.agg [.str ⟨⟨[]⟩⟩, .d (.sl [] 0)]) v16) fun v17 =>
 opt (resL [locA 2 true v17, some (.i 9)]) fun r => some (r, M7))
 else (opt (puA c (lk M7) 31 [a1]) fun v20 =>
 isB v20 fun c22 => if c22 then (opt ((fill [.str ⟨⟨[]⟩⟩, .d (.sl [] 0)] []).map .agg) fun v23 =>
 opt (setcA 0 2 (.agg [.str ⟨⟨[]⟩⟩, .d (.sl [] 0)]) v23) fun v24 =>
 opt (resL [locA 2 true v24, some (.i 5)]) fun r => some (r, M7))
 else (opt (lenA a2) fun v27 =>
 bnd (istep c modeF false lo (.top M7.nx) M7.nx (.mkslice 3 1 8 [.i 0] (.k v27) (.k v27)) [] M7) fun v28 M29 =>
 b24_101 c nl lo a1 a2 v4 (.agg [.str ⟨⟨[]⟩⟩, .d (.sl [] 0)]) v28 M29))
theorem e24 (c : CallT) (nl lo : Nat) (a0 a1 a2 : AV) (M : MM) : execC c modeF lo nl cf24.body (endK cf24.res) noE (endK cf24.res) (aF [a0, a1, a2]) M = s24 c nl lo a0 a1 a2 M := by
 have h : execC c modeF lo nl cf24.body (endK cf24.res) noE (endK cf24.res) (aF [a0, a1, a2]) M = (opt (aggA a0) fun v4 =>
 upK M M.nx fun M5 =>
 upK M5 M5.nx fun M7 =>
 opt (lenA a1) fun v10 =>
 opt (lenA a2) fun v12 =>
 opt (binA .neq .none v10 v12) fun v13 =>
 isB v13 fun c15 => if c15 then (opt ((fill [.str ⟨⟨[]⟩⟩, .d (.sl [] 0)] []).map .agg) fun v16 =>
 opt (setcA 0 2 (.agg [.str ⟨⟨[]⟩⟩, .d (.sl [] 0)]) v16) fun v17 =>
 opt (resL [locA 2 true v17, some (.i 9)]) fun r => some (r, M7))
 else (opt (puA c (lk M7) 31 [a1]) fun v20 =>
 isB v20 fun c22 => if c22 then (opt ((fill [.str ⟨⟨[]⟩⟩, .d (.sl [] 0)] []).map .agg) fun v23 =>
 opt (setcA 0 2 (.agg [.str ⟨⟨[]⟩⟩, .d (.sl [] 0)]) v23) fun v24 =>
 opt (resL [locA 2 true v24, some (.i 5)]) fun r => some (r, M7))
 else (opt (lenA a2) fun v27 =>
 bnd (istep c modeF false lo (.top M7.nx) M7.nx (.mkslice 3 1 8 [.i 0] (.k v27) (.k v27)) [] M7) fun v28 M29 =>
 k24_101 c nl lo (sF (sF (sF (sF (sF (sF (sF (sF (sF (sF (sF (sF (sF (sF (sF (sF (sF (sF (sF (aF [a0, a1, a2]) 3 (.tup [])) 6 (.tup [])) 10 (.tup [])) 3 v4) 6 (.agg [.str ⟨⟨[]⟩⟩, .d (.sl [] 0)])) 7 (.i 0)) 12 a1) 13 v10) 14 a2) 15 v12) 16 v13) 11 v13) 19 a1) 20 v20) 18 v20) 22 a2) 23 v27) 24 v28) 8 v28) M29))) := by kernel_rfl
 refine h.trans ?_
 unfold s24; simp only [(t24_101 c nl lo)] <;> (show _ = _; kernel_rfl)
theorem q24 {c : CallT} (hc : Lim G c) (lo : Nat) (a0 a1 a2 : AV) (M : MM) : c 24 [a0, a1, a2] lo M = s24 c G.nl lo a0 a1 a2 M :=
 (hc.flow (cf := cf24) rfl w24 [a0, a1, a2] lo M).trans (e24 c G.nl lo a0 a1 a2 M)

/-! ### function 26 -/
theorem w26 : wfK cf26.nt cf26.body = true := by kernel_rfl
def s26 (c : CallT) (nl lo : Nat) (a0 a1 : AV) (M : MM) : OR :=
 opt (aggA a0) fun v2 =>
 upK M M.nx fun M3 =>
 opt (ldnA (lk M3) 2 a1) fun v5 =>
 opt (fldA 0 2 true v2) fun v6 =>
 opt (puA c (lk M3) 17 [v5, v6]) fun v7 =>
 some (v7, M3)
theorem e26 (c : CallT) (nl lo : Nat) (a0 a1 : AV) (M : MM) : execC c modeF lo nl cf26.body (endK cf26.res) noE (endK cf26.res) (aF [a0, a1]) M = s26 c nl lo a0 a1 M := by
 kernel_rfl
theorem q26 {c : CallT} (hc : Lim G c) (lo : Nat) (a0 a1 : AV) (M : MM) : c 26 [a0, a1] lo M = s26 c G.nl lo a0 a1 M :=
 (hc.flow (cf := cf26) rfl w26 [a0, a1] lo M).trans (e26 c G.nl lo a0 a1 M)

/-! ### function 27 -/
theorem w27 : wfK cf27.nt cf27.body = true := by kernel_rfl
def k27_100 (c : CallT) (nl lo : Nat) : Rg → MM → OR := (execC c modeF lo nl p27_28 (endK cf27.res) noE (endK cf27.res))
@[reducible] def b27_100 (c : CallT) (nl lo : Nat) (M : MM) : OR :=
 some ((.bool true), M)
theorem t27_100 (c : CallT) (nl lo : Nat) (ρ : Rg) (M : MM) : k27_100 c nl lo ρ M = b27_100 c nl lo M := by
 kernel_rfl
def k27_5 (c : CallT) (nl lo : Nat) (n : Nat) : Rg → MM → OR := iterC (fun k ρ M => execC c modeF lo nl p27_23 k (fun i ρ M => if i = 0 then (k27_100 c nl lo) ρ M else noE i ρ M) (endK cf27.res) ρ M) n
def b27_5 (c : CallT) (nl lo : Nat) : Nat → AV → AV → AV → AV → AV → MM → OR
 | 0, _, _, _, _, _, _ => none
 | n + 1, x1, x2, x15, x16, x17, M =>
 opt (binA .lss .none x17 x16) fun v15 =>
 isB v15 fun c16 => if c16 then (opt (ixsA 2 x15 x17) fun v18 =>
 opt (ldnA (lk M) 2 v18) fun v19 =>
 upK M M.nx fun M21 =>
 opt (setcA 0 2 (.agg [.str ⟨⟨[]⟩⟩, .d (.sl [] 0)]) v19) fun v23 =>
 opt (ixsA 2 x1 x17) fun v26 =>
 opt (ldnA (lk M21) 2 v26) fun v27 =>
 upK M21 M21.nx fun M29 =>
 opt (setcA 0 2 (.agg [.str ⟨⟨[]⟩⟩, .d (.sl [] 0)]) v27) fun v30 =>
 opt (fldA 0 2 true v23) fun v32 =>
 opt (fldA 0 2 true v30) fun v33 =>
 bnd (istep c modeF false lo (.top M29.nx) M29.nx (.callw [] (.k x2) [(.k v32), (.k v33)]) [] M29) fun v34 M35 =>
 opt (unA .not v34) fun v36 =>
 isB v36 fun c37 => if c37 then (some ((.bool false), M35))
 else (opt (binA .add .none x17 (.i 1)) fun v39 =>
 (b27_5 c nl lo n) x1 x2 x15 x16 v39 M35))
 else (b27_100 c nl lo M)
theorem t27_5 (c : CallT) (nl lo : Nat) : ∀ (n : Nat) (ρ : Rg) (M : MM), k27_5 c nl lo n ρ M = b27_5 c nl lo n (ρ 1) (ρ 2) (ρ 15) (ρ 16) (ρ 17) M
 | 0, ρ, M => rfl
 | n + 1, ρ, M => by
  have h : ∀ (zb z0 : Rg → MM → OR), execC c modeF lo nl p27_23 zb (fun i ρ M => if i = 0 then z0 ρ M else noE i ρ M) (endK cf27.res) ρ M = (opt (binA .lss .none (ρ 17) (ρ 16)) fun v15 =>
  isB v15 fun c16 => if c16 then (opt (ixsA 2 (ρ 15) (ρ 17)) fun v18 =>
  opt (ldnA (lk M) 2 v18) fun v19 =>
  upK M M.nx fun M21 =>
  opt (setcA 0 2 (.agg [.str ⟨⟨[]⟩⟩, .d (.sl [] 0)]) v19) fun v23 =>
  opt (ixsA 2 (ρ 1) (ρ 17)) fun v26 =>
  opt (ldnA (lk M21) 2 v26) fun v27 =>
  upK M21 M21.nx fun M29 =>
  opt (setcA 0 2 (.agg [.str ⟨⟨[]⟩⟩, .d (.sl [] 0)]) v27) fun v30 =>
  opt (fldA 0 2 true v23) fun v32 =>
  opt (fldA 0 2 true v30) fun v33 =>
  bnd (istep c modeF false lo (.top M29.nx) M29.nx (.callw [] (.k (ρ 2)) [(.k v32), (.k v33)]) [] M29) fun v34 M35 =>
  opt (unA .not v34) fun v36 =>
  isB v36 fun c37 => if c37 then (some ((.bool false), M35))
  else (opt (binA .add .none (ρ 17) (.i 1)) fun v39 =>
  zb (sF (sF (sF (sF (sF (sF (sF (sF (sF (sF (sF (sF (sF (sF (sF (sF (sF (sF (sF (sF ρ 18 v15) 19 (ρ 17)) 20 v18) 21 v19) 8 (.agg [.str ⟨⟨[]⟩⟩, .d (.sl [] 0)])) 7 (ρ 17)) 8 v23) 22 (ρ 1)) 23 (ρ 17)) 24 v26) 25 v27) 9 (.agg [.str ⟨⟨[]⟩⟩, .d (.sl [] 0)])) 9 v30) 26 (ρ 2)) 27 v32) 28 v33) 29 v34) 30 v36) 31 v39) 17 v39) M35))
  else (z0 (sF ρ 18 v15) M)) := by intros; kernel_rfl
  refine (h (k27_5 c nl lo n) (k27_100 c nl lo)).trans ?_
  unfold b27_5; simp only [(t27_100 c nl lo), (t27_5 c nl lo n)] <;> (show _ = _; kernel_rfl)
def k27_101 (c : CallT) (nl lo : Nat) : Rg → MM → OR := (execC c modeF lo nl p27_26 (k27_100 c nl lo) noE (endK cf27.res))
@[reducible] def b27_101 (c : CallT) (nl lo : Nat) (x0 x1 x2 : AV) (M : MM) : OR :=
 opt (lenA x0) fun v13 =>
 b27_5 c nl lo nl x1 x2 x0 v13 (.i 0) M
theorem t27_101 (c : CallT) (nl lo : Nat) (ρ : Rg) (M : MM) : k27_101 c nl lo ρ M = b27_101 c nl lo (ρ 0) (ρ 1) (ρ 2) M := by
 have h : k27_101 c nl lo ρ M = (opt (lenA (ρ 0)) fun v13 =>
 k27_5 c nl lo nl (sF (sF (sF ρ 15 (ρ 0)) 16 v13) 17 (.i 0)) M) := by kernel_rfl
 rw [h]
 unfold b27_101; simp only [(t27_5 c nl lo nl)] <;> (show _ = _; kernel_rfl)
def s27 (c : CallT) (nl lo : Nat) (a0 a1 a2 : AV) (M : MM) : OR :=
 opt (lenA a0) fun v5 =>
 opt (lenA a1) fun v7 =>
 opt (binA .neq .none v5 v7) fun v8 =>
 isB v8 fun c9 => if c9 then (some ((.bool false), M))
 else (b27_101 c nl lo a0 a1 a2 M)
theorem e27 (c : CallT) (nl lo : Nat) (a0 a1 a2 : AV) (M : MM) : execC c modeF lo nl cf27.body (endK cf27.res) noE (endK cf27.res) (aF [a0, a1, a2]) M = s27 c nl lo a0 a1 a2 M := by
 have h : execC c modeF lo nl cf27.body (endK cf27.res) noE (endK cf27.res) (aF [a0, a1, a2]) M = (opt (lenA a0) fun v5 =>
 opt (lenA a1) fun v7 =>
 opt (binA .neq .none v5 v7) fun v8 =>
 isB v8 fun c9 => if c9 then (some ((.bool false), M))
 else (k27_101 c nl lo (sF (sF (sF (sF (sF (sF (sF (sF (aF [a0, a1, a2]) 8 (.tup [])) 9 (.tup [])) 6 (.bool false)) 10 a0) 11 v5) 12 a1) 13 v7) 14 v8) M)) := by kernel_rfl
 refine h.trans ?_
 unfold s27; simp only [(t27_101 c nl lo)] <;> (show _ = _; kernel_rfl)
theorem q27 {c : CallT} (hc : Lim G c) (lo : Nat) (a0 a1 a2 : AV) (M : MM) : c 27 [a0, a1, a2] lo M = s27 c G.nl lo a0 a1 a2 M :=
 (hc.flow (cf := cf27) rfl w27 [a0, a1, a2] lo M).trans (e27 c G.nl lo a0 a1 a2 M)

/-! ### function 29 -/
theorem w29 : wfK cf29.nt cf29.body = true := by kernel_rfl
def s29 (c : CallT) (nl lo : Nat) (a0 : AV) (M : MM) : OR :=
 opt (puA c (lk M) 23 [a0]) fun v3 =>
 opt (unA .not v3) fun v4 =>
 opt (gdp v4 true (some a0)) fun v6 =>
 opt (gdp v4 true (puA c (lk M) 43 [v6, (.str ⟨⟨[46]⟩⟩)])) fun v7 =>
 opt (gdp v4 true (unA .not v7)) fun v8 =>
 opt (pickA v4 v8 (.bool false)) fun v9 =>
 some (v9, M)
theorem e29 (c : CallT) (nl lo : Nat) (a0 : AV) (M : MM) : execC c modeF lo nl cf29.body (endK cf29.res) noE (endK cf29.res) (aF [a0]) M = s29 c nl lo a0 M := by
 kernel_rfl
theorem q29 {c : CallT} (hc : Lim G c) (lo : Nat) (a0 : AV) (M : MM) : c 29 [a0] lo M = s29 c G.nl lo a0 M :=
 (hc.flow (cf := cf29) rfl w29 [a0] lo M).trans (e29 c G.nl lo a0 M)

/-! ### function 30 -/
theorem w30 : wfK cf30.nt cf30.body = true := by kernel_rfl
def s30 (c : CallT) (nl lo : Nat) (a0 : AV) (M : MM) : OR :=
 opt (aggA a0) fun v2 =>
 upK M M.nx fun M3 =>
 opt (fldA 0 2 true v2) fun v5 =>
 opt (puA c (lk M3) 22 [v5]) fun v6 =>
 opt (unA .not v6) fun v7 =>
 some (v7, M3)
theorem e30 (c : CallT) (nl lo : Nat) (a0 : AV) (M : MM) : execC c modeF lo nl cf30.body (endK cf30.res) noE (endK cf30.res) (aF [a0]) M = s30 c nl lo a0 M := by
 kernel_rfl
theorem q30 {c : CallT} (hc : Lim G c) (lo : Nat) (a0 : AV) (M : MM) : c 30 [a0] lo M = s30 c G.nl lo a0 M :=
 (hc.flow (cf := cf30) rfl w30 [a0] lo M).trans (e30 c G.nl lo a0 M)

/-! ### function 31 -/
theorem w31 : wfK cf31.nt cf31.body = true := by kernel_rfl
def k31_100 (c : CallT) (nl lo : Nat) : Rg → MM → OR := (execC c modeF lo nl p31_21 (endK cf31.res) noE (endK cf31.res))
@[reducible] def b31_100 (c : CallT) (nl lo : Nat) (M : MM) : OR :=
 some ((.bool false), M)
theorem t31_100 (c : CallT) (nl lo : Nat) (ρ : Rg) (M : MM) : k31_100 c nl lo ρ M = b31_100 c nl lo M := by
 kernel_rfl
def k31_4 (c : CallT) (nl lo : Nat) (n : Nat) : Rg → MM → OR := iterC (fun k ρ M => execC c modeF lo nl p31_16 k (fun i ρ M => if i = 0 then (k31_100 c nl lo) ρ M else noE i ρ M) (endK cf31.res) ρ M) n
def b31_4 (c : CallT) (nl lo : Nat) : Nat → AV → AV → AV → AV → MM → OR
 | 0, _, _, _, _, _ => none
 | n + 1, x0, x5, x6, x7, M =>
 opt (binA .lss .none x7 x6) fun v6 =>
 isB v6 fun c7 => if c7 then (opt (ixsA 1 x5 x7) fun v9 =>
 opt (ld1A (lk M) v9) fun v10 =>
 opt (slslA 1 x0 none (some x7)) fun v15 =>
 opt (puA c (lk M) 44 [v15, v10]) fun v17 =>
 isB v17 fun c18 => if c18 then (some ((.bool true), M))
 else (opt (binA .add .none x7 (.i 1)) fun v20 =>
 (b31_4 c nl lo n) x0 x5 x6 v20 M))
 else (b31_100 c nl lo M)
theorem t31_4 (c : CallT) (nl lo : Nat) : ∀ (n : Nat) (ρ : Rg) (M : MM), k31_4 c nl lo n ρ M = b31_4 c nl lo n (ρ 0) (ρ 5) (ρ 6) (ρ 7) M
 | 0, ρ, M => rfl
 | n + 1, ρ, M => by
  have h : ∀ (zb z0 : Rg → MM → OR), execC c modeF lo nl p31_16 zb (fun i ρ M => if i = 0 then z0 ρ M else noE i ρ M) (endK cf31.res) ρ M = (opt (binA .lss .none (ρ 7) (ρ 6)) fun v6 =>
  isB v6 fun c7 => if c7 then (opt (ixsA 1 (ρ 5) (ρ 7)) fun v9 =>
  opt (ld1A (lk M) v9) fun v10 =>
  opt (slslA 1 (ρ 0) none (some (ρ 7))) fun v15 =>
  opt (puA c (lk M) 44 [v15, v10]) fun v17 =>
  isB v17 fun c18 => if c18 then (some ((.bool true), M))
  else (opt (binA .add .none (ρ 7) (.i 1)) fun v20 =>
  zb (sF (sF (sF (sF (sF (sF (sF (sF (sF (sF (sF (sF (sF ρ 8 v6) 9 (ρ 7)) 10 v9) 11 v10) 3 (ρ 7)) 4 v10) 12 (ρ 0)) 13 (ρ 7)) 14 v15) 15 v10) 16 v17) 17 v20) 7 v20) M))
  else (z0 (sF ρ 8 v6) M)) := by intros; kernel_rfl
  refine (h (k31_4 c nl lo n) (k31_100 c nl lo)).trans ?_
  unfold b31_4; simp only [(t31_100 c nl lo), (t31_4 c nl lo n)] <;> (show _ = _; kernel_rfl)
def k31_101 (c : CallT) (nl lo : Nat) : Rg → MM → OR := (execC c modeF lo nl p31_19 (k31_100 c nl lo) noE (endK cf31.res))
@[reducible] def b31_101 (c : CallT) (nl lo : Nat) (x0 : AV) (M : MM) : OR :=
 opt (lenA x0) fun v4 =>
 b31_4 c nl lo nl x0 x0 v4 (.i 0) M
theorem t31_101 (c : CallT) (nl lo : Nat) (ρ : Rg) (M : MM) : k31_101 c nl lo ρ M = b31_101 c nl lo (ρ 0) M := by
 have h : k31_101 c nl lo ρ M = (opt (lenA (ρ 0)) fun v4 =>
 k31_4 c nl lo nl (sF (sF (sF ρ 5 (ρ 0)) 6 v4) 7 (.i 0)) M) := by kernel_rfl
 rw [h]
 unfold b31_101; simp only [(t31_4 c nl lo nl)] <;> (show _ = _; kernel_rfl)
def s31 (c : CallT) (nl lo : Nat) (a0 : AV) (M : MM) : OR :=
 b31_101 c nl lo a0 M
theorem e31 (c : CallT) (nl lo : Nat) (a0 : AV) (M : MM) : execC c modeF lo nl cf31.body (endK cf31.res) noE (endK cf31.res) (aF [a0]) M = s31 c nl lo a0 M := by
 have h : execC c modeF lo nl cf31.body (endK cf31.res) noE (endK cf31.res) (aF [a0]) M = (k31_101 c nl lo (sF (aF [a0]) 2 (.bool false)) M) := by kernel_rfl
 refine h.trans ?_
 unfold s31; simp only [(t31_101 c nl lo)] <;> (show _ = _; kernel_rfl)
theorem q31 {c : CallT} (hc : Lim G c) (lo : Nat) (a0 : AV) (M : MM) : c 31 [a0] lo M = s31 c G.nl lo a0 M :=
 (hc.flow (cf := cf31) rfl w31 [a0] lo M).trans (e31 c G.nl lo a0 M)

/-! ### function 32 -/
theorem w32 : wfK cf32.nt cf32.body = true := by kernel_rfl
def k32_100 (c : CallT) (nl lo : Nat) : Rg → MM → OR := (execC c modeF lo nl p32_18 (endK cf32.res) noE (endK cf32.res))
@[reducible] def b32_100 (c : CallT) (nl lo : Nat) (x3 : AV) (M : MM) : OR :=
 some (x3, M)
theorem t32_100 (c : CallT) (nl lo : Nat) (ρ : Rg) (M : MM) : k32_100 c nl lo ρ M = b32_100 c nl lo (ρ 3) M := by
 kernel_rfl
def k32_5 (c : CallT) (nl lo : Nat) (n : Nat) : Rg → MM → OR := iterC (fun k ρ M => execC c modeF lo nl p32_13 k (fun i ρ M => if i = 0 then (k32_100 c nl lo) ρ M else noE i ρ M) (endK cf32.res) ρ M) n
def b32_5 (c : CallT) (nl lo : Nat) : Nat → AV → AV → AV → AV → MM → OR
 | 0, _, _, _, _, _ => none
 | n + 1, x3, x7, x8, x9, M =>
 opt (binA .lss .none x9 x8) fun v13 =>
 isB v13 fun c14 => if c14 then (opt (ixsA 2 x7 x9) fun v15 =>
 opt (ldnA (lk M) 2 v15) fun v16 =>
 upK M M.nx fun M18 =>
 opt (setcA 0 2 (.agg [.str ⟨⟨[]⟩⟩, .d (.sl [] 0)]) v16) fun v19 =>
 opt (fldA 0 2 true v19) fun v21 =>
 opt (puA c (lk M18) 32 [v21]) fun v22 =>
 opt (binA .add .none x3 v22) fun v23 =>
 opt (binA .add .none x9 (.i 1)) fun v25 =>
 (b32_5 c nl lo n) v23 x7 x8 v25 M18)
 else (b32_100 c nl lo x3 M)
theorem t32_5 (c : CallT) (nl lo : Nat) : ∀ (n : Nat) (ρ : Rg) (M : MM), k32_5 c nl lo n ρ M = b32_5 c nl lo n (ρ 3) (ρ 7) (ρ 8) (ρ 9) M
 | 0, ρ, M => rfl
 | n + 1, ρ, M => by
  have h : ∀ (zb z0 : Rg → MM → OR), execC c modeF lo nl p32_13 zb (fun i ρ M => if i = 0 then z0 ρ M else noE i ρ M) (endK cf32.res) ρ M = (opt (binA .lss .none (ρ 9) (ρ 8)) fun v13 =>
  isB v13 fun c14 => if c14 then (opt (ixsA 2 (ρ 7) (ρ 9)) fun v15 =>
  opt (ldnA (lk M) 2 v15) fun v16 =>
  upK M M.nx fun M18 =>
  opt (setcA 0 2 (.agg [.str ⟨⟨[]⟩⟩, .d (.sl [] 0)]) v16) fun v19 =>
  opt (fldA 0 2 true v19) fun v21 =>
  opt (puA c (lk M18) 32 [v21]) fun v22 =>
  opt (binA .add .none (ρ 3) v22) fun v23 =>
  opt (binA .add .none (ρ 9) (.i 1)) fun v25 =>
  zb (sF (sF (sF (sF (sF (sF (sF (sF (sF (sF (sF (sF ρ 10 v13) 11 v15) 12 v16) 5 (.agg [.str ⟨⟨[]⟩⟩, .d (.sl [] 0)])) 5 v19) 13 (ρ 3)) 14 v21) 15 v22) 16 v23) 3 v23) 17 v25) 9 v25) M18)
  else (z0 (sF ρ 10 v13) M)) := by intros; kernel_rfl
  refine (h (k32_5 c nl lo n) (k32_100 c nl lo)).trans ?_
  unfold b32_5; simp only [(t32_100 c nl lo), (t32_5 c nl lo n)] <;> (show _ = _; kernel_rfl)
def k32_101 (c : CallT) (nl lo : Nat) : Rg → MM → OR := (execC c modeF lo nl p32_16 (k32_100 c nl lo) noE (endK cf32.res))
@[reducible] def b32_101 (c : CallT) (nl lo : Nat) (x1 x3 : AV) (M : MM) : OR :=
 opt (fldA 0 0 true x1) fun v9 =>
 opt (fldA 1 1 false x1) fun v10 =>
 opt (lenA v10) fun v11 =>
 b32_5 c nl lo nl x3 v10 v11 (.i 0) M
theorem t32_101 (c : CallT) (nl lo : Nat) (ρ : Rg) (M : MM) : k32_101 c nl lo ρ M = b32_101 c nl lo (ρ 1) (ρ 3) M := by
 have h : k32_101 c nl lo ρ M = (opt (fldA 0 0 true (ρ 1)) fun v9 =>
 opt (fldA 1 1 false (ρ 1)) fun v10 =>
 opt (lenA v10) fun v11 =>
 k32_5 c nl lo nl (sF (sF (sF (sF ρ 6 v9) 7 v10) 8 v11) 9 (.i 0)) M) := by kernel_rfl
 rw [h]
 unfold b32_101; simp only [(t32_5 c nl lo nl)] <;> (show _ = _; kernel_rfl)
def s32 (c : CallT) (nl lo : Nat) (a0 : AV) (M : MM) : OR :=
 opt (aggA a0) fun v3 =>
 upK M M.nx fun M4 =>
 b32_101 c nl lo v3 (.i 1) M4
theorem e32 (c : CallT) (nl lo : Nat) (a0 : AV) (M : MM) : execC c modeF lo nl cf32.body (endK cf32.res) noE (endK cf32.res) (aF [a0]) M = s32 c nl lo a0 M := by
 have h : execC c modeF lo nl cf32.body (endK cf32.res) noE (endK cf32.res) (aF [a0]) M = (opt (aggA a0) fun v3 =>
 upK M M.nx fun M4 =>
 k32_101 c nl lo (sF (sF (sF (sF (sF (aF [a0]) 1 (.tup [])) 5 (.tup [])) 1 v3) 2 (.i 0)) 3 (.i 1)) M4) := by kernel_rfl
 refine h.trans ?_
 unfold s32; simp only [(t32_101 c nl lo)] <;> (show _ = _; kernel_rfl)
theorem q32 {c : CallT} (hc : Lim G c) (lo : Nat) (a0 : AV) (M : MM) : c 32 [a0] lo M = s32 c G.nl lo a0 M :=
 (hc.flow (cf := cf32) rfl w32 [a0] lo M).trans (e32 c G.nl lo a0 M)

/-! ### function 33 -/
theorem w33 : wfK cf33.nt cf33.body = true := by kernel_rfl
def k33_4 (c : CallT) (nl lo : Nat) : Rg → MM → OR := (execC c modeF lo nl p33_31 (endK cf33.res) noE (endK cf33.res))
@[reducible] def b33_4 (c : CallT) (nl lo : Nat) (x8 : AV) (M : MM) : OR :=
 some (x8, M)
theorem t33_4 (c : CallT) (nl lo : Nat) (ρ : Rg) (M : MM) : k33_4 c nl lo ρ M = b33_4 c nl lo (ρ 8) M := by
 kernel_rfl
def k33_6 (c : CallT) (nl lo : Nat) (n : Nat) : Rg → MM → OR := iterC (fun k ρ M => execC c modeF lo nl p33_26 k (fun i ρ M => if i = 0 then (k33_4 c nl lo) ρ M else noE i ρ M) (endK cf33.res) ρ M) n
def b33_6 (c : CallT) (nl lo : Nat) : Nat → AV → AV → AV → AV → AV → AV → MM → OR
 | 0, _, _, _, _, _, _, _ => none
 | n + 1, x1, x2, x8, x21, x22, x23, M =>
 opt (binA .lss .none x23 x22) fun v7 =>
 isB v7 fun c8 => if c8 then (opt (ixsA 2 x21 x23) fun v9 =>
 opt (ldnA (lk M) 2 v9) fun v10 =>
 upK M M.nx fun M12 =>
 opt (setcA 0 2 (.agg [.str ⟨⟨[]⟩⟩, .d (.sl [] 0)]) v10) fun v13 =>
 opt (fldA 0 2 true v13) fun v15 =>
 opt (puA c (lk M12) 33 [v15, x1, x2]) fun v18 =>
 opt (binA .add .none x8 v18) fun v19 =>
 opt (binA .gtr .none v19 (.i 4096)) fun v22 =>
 isB v22 fun c23 => if c23 then (some (v19, M12))
 else (opt (binA .add .none x23 (.i 1)) fun v26 =>
 (b33_6 c nl lo n) x1 x2 v19 x21 x22 v26 M12))
 else (b33_4 c nl lo x8 M)
theorem t33_6 (c : CallT) (nl lo : Nat) : ∀ (n : Nat) (ρ : Rg) (M : MM), k33_6 c nl lo n ρ M = b33_6 c nl lo n (ρ 1) (ρ 2) (ρ 8) (ρ 21) (ρ 22) (ρ 23) M
 | 0, ρ, M => rfl
 | n + 1, ρ, M => by
  have h : ∀ (zb z0 : Rg → MM → OR), execC c modeF lo nl p33_26 zb (fun i ρ M => if i = 0 then z0 ρ M else noE i ρ M) (endK cf33.res) ρ M = (opt (binA .lss .none (ρ 23) (ρ 22)) fun v7 =>
  isB v7 fun c8 => if c8 then (opt (ixsA 2 (ρ 21) (ρ 23)) fun v9 =>
  opt (ldnA (lk M) 2 v9) fun v10 =>
  upK M M.nx fun M12 =>
  opt (setcA 0 2 (.agg [.str ⟨⟨[]⟩⟩, .d (.sl [] 0)]) v10) fun v13 =>
  opt (fldA 0 2 true v13) fun v15 =>
  opt (puA c (lk M12) 33 [v15, (ρ 1), (ρ 2)]) fun v18 =>
  opt (binA .add .none (ρ 8) v18) fun v19 =>
  opt (binA .gtr .none v19 (.i 4096)) fun v22 =>
  isB v22 fun c23 => if c23 then (some (v19, M12))
  else (opt (binA .add .none (ρ 23) (.i 1)) fun v26 =>
  zb (sF (sF (sF (sF (sF (sF (sF (sF (sF (sF (sF (sF (sF (sF (sF (sF ρ 24 v7) 25 v9) 26 v10) 10 (.agg [.str ⟨⟨[]⟩⟩, .d (.sl [] 0)])) 10 v13) 27 (ρ 8)) 28 v15) 29 (ρ 1)) 30 (ρ 2)) 31 v18) 32 v19) 8 v19) 33 v19) 34 v22) 36 v26) 23 v26) M12))
  else (z0 (sF ρ 24 v7) M)) := by intros; kernel_rfl
  refine (h (k33_6 c nl lo n) (k33_4 c nl lo)).trans ?_
  unfold b33_6; simp only [(t33_4 c nl lo), (t33_6 c nl lo n)] <;> (show _ = _; kernel_rfl)
def k33_5 (c : CallT) (nl lo : Nat) : Rg → MM → OR := (execC c modeF lo nl p33_29 (k33_4 c nl lo) noE (endK cf33.res))
@[reducible] def b33_5 (c : CallT) (nl lo : Nat) (x1 x2 x3 x8 : AV) (M : MM) : OR :=
 opt (fldA 0 0 true x3) fun v3 =>
 opt (fldA 1 1 false x3) fun v4 =>
 opt (lenA v4) fun v5 =>
 b33_6 c nl lo nl x1 x2 x8 v4 v5 (.i 0) M
theorem t33_5 (c : CallT) (nl lo : Nat) (ρ : Rg) (M : MM) : k33_5 c nl lo ρ M = b33_5 c nl lo (ρ 1) (ρ 2) (ρ 3) (ρ 8) M := by
 have h : k33_5 c nl lo ρ M = (opt (fldA 0 0 true (ρ 3)) fun v3 =>
 opt (fldA 1 1 false (ρ 3)) fun v4 =>
 opt (lenA v4) fun v5 =>
 k33_6 c nl lo nl (sF (sF (sF (sF ρ 20 v3) 21 v4) 22 v5) 23 (.i 0)) M) := by kernel_rfl
 rw [h]
 unfold b33_5; simp only [(t33_6 c nl lo nl)] <;> (show _ = _; kernel_rfl)
def k33_3 (c : CallT) (nl lo : Nat) : Rg → MM → OR := (execC c modeF lo nl p33_32 (endK cf33.res) noE (endK cf33.res))
@[reducible] def b33_3 (c : CallT) (nl lo : Nat) (x1 x2 x3 x8 : AV) (M : MM) : OR :=
 b33_5 c nl lo x1 x2 x3 x8 M
theorem t33_3 (c : CallT) (nl lo : Nat) (ρ : Rg) (M : MM) : k33_3 c nl lo ρ M = b33_3 c nl lo (ρ 1) (ρ 2) (ρ 3) (ρ 8) M := by
 have h : k33_3 c nl lo ρ M = (k33_5 c nl lo ρ M) := execC_seq c modeF lo nl p33_29 p33_31 (endK cf33.res) noE (endK cf33.res) ρ M
 rw [h]
 unfold b33_3; simp only [(t33_5 c nl lo)] <;> (show _ = _; kernel_rfl)
def k33_7 (c : CallT) (nl lo : Nat) : Rg → MM → OR := (execC c modeF lo nl p33_9 (k33_3 c nl lo) noE (endK cf33.res))
@[reducible] def b33_7 (c : CallT) (nl lo : Nat) (x1 x2 x3 : AV) (M : MM) : OR :=
 b33_3 c nl lo x1 x2 x3 (.i 1) M
theorem t33_7 (c : CallT) (nl lo : Nat) (ρ : Rg) (M : MM) : k33_7 c nl lo ρ M = b33_7 c nl lo (ρ 1) (ρ 2) (ρ 3) M := by
 have h : ∀ (z0 : Rg → MM → OR), (execC c modeF lo nl p33_9 z0 noE (endK cf33.res)) ρ M = (z0 (sF ρ 8 (.i 1)) M) := by intros; kernel_rfl
 refine (h (k33_3 c nl lo)).trans ?_
 unfold b33_7; simp only [(t33_3 c nl lo)] <;> (show _ = _; kernel_rfl)
def k33_2 (c : CallT) (nl lo : Nat) : Rg → MM → OR := (execC c modeF lo nl p33_33 (endK cf33.res) noE (endK cf33.res))
@[reducible] def b33_2 (c : CallT) (nl lo : Nat) (x1 x2 x3 : AV) (M : MM) : OR :=
 b33_7 c nl lo x1 x2 x3 M
theorem t33_2 (c : CallT) (nl lo : Nat) (ρ : Rg) (M : MM) : k33_2 c nl lo ρ M = b33_2 c nl lo (ρ 1) (ρ 2) (ρ 3) M := by
 have h : k33_2 c nl lo ρ M = (k33_7 c nl lo ρ M) := execC_seq c modeF lo nl p33_9 p33_32 (endK cf33.res) noE (endK cf33.res) ρ M
 rw [h]
 unfold b33_2; simp only [(t33_7 c nl lo)] <;> (show _ = _; kernel_rfl)
def k33_8 (c : CallT) (nl lo : Nat) : Rg → MM → OR := (execC c modeF lo nl p33_8 (k33_2 c nl lo) noE (endK cf33.res))
@[reducible] def b33_8 (c : CallT) (nl lo : Nat) (x1 x2 x3 : AV) (M : MM) : OR :=
 opt (fldA 0 2 true x3) fun v1 =>
 opt (puA c (lk M) 45 [v1, x1]) fun v3 =>
 opt (binA .geq .none v3 (.i 0)) fun v6 =>
 isB v6 fun c7 => if c7 then (opt (ixsA 1 x2 v3) fun v10 =>
 opt (ld1A (lk M) v10) fun v11 =>
 some (v11, M))
 else (b33_2 c nl lo x1 x2 x3 M)
theorem t33_8 (c : CallT) (nl lo : Nat) (ρ : Rg) (M : MM) : k33_8 c nl lo ρ M = b33_8 c nl lo (ρ 1) (ρ 2) (ρ 3) M := by
 have h : ∀ (z0 : Rg → MM → OR), (execC c modeF lo nl p33_8 z0 noE (endK cf33.res)) ρ M = (opt (fldA 0 2 true (ρ 3)) fun v1 =>
 opt (puA c (lk M) 45 [v1, (ρ 1)]) fun v3 =>
 opt (binA .geq .none v3 (.i 0)) fun v6 =>
 isB v6 fun c7 => if c7 then (opt (ixsA 1 (ρ 2) v3) fun v10 =>
 opt (ld1A (lk M) v10) fun v11 =>
 some (v11, M))
 else (z0 (sF (sF (sF (sF (sF (sF ρ 11 v1) 12 (ρ 1)) 13 v3) 7 v3) 14 v3) 15 v6) M)) := by intros; kernel_rfl
 refine (h (k33_2 c nl lo)).trans ?_
 unfold b33_8; simp only [(t33_2 c nl lo)] <;> (show _ = _; kernel_rfl)
def k33_1 (c : CallT) (nl lo : Nat) : Rg → MM → OR := (execC c modeF lo nl p33_34 (endK cf33.res) noE (endK cf33.res))
@[reducible] def b33_1 (c : CallT) (nl lo : Nat) (x1 x2 x3 : AV) (M : MM) : OR :=
 b33_8 c nl lo x1 x2 x3 M
theorem t33_1 (c : CallT) (nl lo : Nat) (ρ : Rg) (M : MM) : k33_1 c nl lo ρ M = b33_1 c nl lo (ρ 1) (ρ 2) (ρ 3) M := by
 have h : k33_1 c nl lo ρ M = (k33_8 c nl lo ρ M) := execC_seq c modeF lo nl p33_8 p33_33 (endK cf33.res) noE (endK cf33.res) ρ M
 rw [h]
 unfold b33_1; simp only [(t33_8 c nl lo)] <;> (show _ = _; kernel_rfl)
def k33_9 (c : CallT) (nl lo : Nat) : Rg → MM → OR := (execC c modeF lo nl p33_1 (k33_1 c nl lo) noE (endK cf33.res))
@[reducible] def b33_9 (c : CallT) (nl lo : Nat) (x0 x1 x2 : AV) (M : MM) : OR :=
 opt (aggA x0) fun v1 =>
 upK M M.nx fun M2 =>
 b33_1 c nl lo x1 x2 v1 M2
theorem t33_9 (c : CallT) (nl lo : Nat) (ρ : Rg) (M : MM) : k33_9 c nl lo ρ M = b33_9 c nl lo (ρ 0) (ρ 1) (ρ 2) M := by
 have h : ∀ (z0 : Rg → MM → OR), (execC c modeF lo nl p33_1 z0 noE (endK cf33.res)) ρ M = (opt (aggA (ρ 0)) fun v1 =>
 upK M M.nx fun M2 =>
 z0 (sF (sF ρ 3 v1) 6 (.i 0)) M2) := by intros; kernel_rfl
 refine (h (k33_1 c nl lo)).trans ?_
 unfold b33_9; simp only [(t33_1 c nl lo)] <;> (show _ = _; kernel_rfl)
def k33_0 (c : CallT) (nl lo : Nat) : Rg → MM → OR := (execC c modeF lo nl p33_35 (endK cf33.res) noE (endK cf33.res))
@[reducible] def b33_0 (c : CallT) (nl lo : Nat) (x0 x1 x2 : AV) (M : MM) : OR :=
 b33_9 c nl lo x0 x1 x2 M
theorem t33_0 (c : CallT) (nl lo : Nat) (ρ : Rg) (M : MM) : k33_0 c nl lo ρ M = b33_0 c nl lo (ρ 0) (ρ 1) (ρ 2) M := by
 have h : k33_0 c nl lo ρ M = (k33_9 c nl lo ρ M) := execC_seq c modeF lo nl p33_1 p33_34 (endK cf33.res) noE (endK cf33.res) ρ M
 rw [h]
 unfold b33_0; simp only [(t33_9 c nl lo)] <;> (show _ = _; kernel_rfl)
def k33_10 (c : CallT) (nl lo : Nat) : Rg → MM → OR := (execC c modeF lo nl p33_0 (k33_0 c nl lo) noE (endK cf33.res))
@[reducible] def b33_10 (c : CallT) (nl lo : Nat) (x0 x1 x2 : AV) (M : MM) : OR :=
 b33_0 c nl lo x0 x1 x2 M
theorem t33_10 (c : CallT) (nl lo : Nat) (ρ : Rg) (M : MM) : k33_10 c nl lo ρ M = b33_10 c nl lo (ρ 0) (ρ 1) (ρ 2) M := by
 have h : ∀ (z0 : Rg → MM → OR), (execC c modeF lo nl p33_0 z0 noE (endK cf33.res)) ρ M = (z0 (sF (sF ρ 3 (.tup [])) 10 (.tup [])) M) := by intros; kernel_rfl
 refine (h (k33_0 c nl lo)).trans ?_
 unfold b33_10; simp only [(t33_0 c nl lo)] <;> (show _ = _; kernel_rfl)
def s33 (c : CallT) (nl lo : Nat) (a0 a1 a2 : AV) (M : MM) : OR :=
 b33_10 c nl lo a0 a1 a2 M
theorem e33 (c : CallT) (nl lo : Nat) (a0 a1 a2 : AV) (M : MM) : execC c modeF lo nl cf33.body (endK cf33.res) noE (endK cf33.res) (aF [a0, a1, a2]) M = s33 c nl lo a0 a1 a2 M := by
 have h : execC c modeF lo nl cf33.body (endK cf33.res) noE (endK cf33.res) (aF [a0, a1, a2]) M = (k33_10 c nl lo (aF [a0, a1, a2]) M) := execC_seq c modeF lo nl p33_0 p33_35 (endK cf33.res) noE (endK cf33.res) (aF [a0, a1, a2]) M
 refine h.trans ?_
 unfold s33; simp only [(t33_10 c nl lo)] <;> (show _ = _; kernel_rfl)
theorem q33 {c : CallT} (hc : Lim G c) (lo : Nat) (a0 a1 a2 : AV) (M : MM) : c 33 [a0, a1, a2] lo M = s33 c G.nl lo a0 a1 a2 M :=
 (hc.flow (cf := cf33) rfl w33 [a0, a1, a2] lo M).trans (e33 c G.nl lo a0 a1 a2 M)

/-! ### function 34 -/
theorem w34 : wfK cf34.nt cf34.body = true := by kernel_rfl
def k34_4 (c : CallT) (nl lo : Nat) : Rg → MM → OR := (execC c modeF lo nl p34_25 (endK cf34.res) noE (endK cf34.res))
@[reducible] def b34_4 (c : CallT) (nl lo : Nat) (x6 x8 : AV) (M : MM) : OR :=
 opt (fldA 0 2 true x8) fun v1 =>
 opt (setcA 0 2 x6 v1) fun v2 =>
 opt (locA 2 true v2) fun r => some (r, M)
theorem t34_4 (c : CallT) (nl lo : Nat) (ρ : Rg) (M : MM) : k34_4 c nl lo ρ M = b34_4 c nl lo (ρ 6) (ρ 8) M := by
 kernel_rfl
def k34_6 (c : CallT) (nl lo : Nat) (n : Nat) : Rg → MM → OR := iterC (fun k ρ M => execC c modeF lo nl p34_20 k (fun i ρ M => if i = 0 then (k34_4 c nl lo) ρ M else noE i ρ M) (endK cf34.res) ρ M) n
def b34_6 (c : CallT) (nl lo : Nat) : Nat → AV → AV → AV → AV → AV → AV → AV → MM → OR
 | 0, _, _, _, _, _, _, _, _ => none
 | n + 1, x1, x2, x6, x8, x25, x26, x27, M =>
 opt (binA .lss .none x27 x26) fun v7 =>
 isB v7 fun c8 => if c8 then (opt (ixsA 2 x25 x27) fun v9 =>
 opt (ldnA (lk M) 2 v9) fun v10 =>
 upK M M.nx fun M12 =>
 opt (setcA 0 2 (.agg [.str ⟨⟨[]⟩⟩, .d (.sl [] 0)]) v10) fun v13 =>
 bumpK M12 10 fun M14 =>
 opt (fldA 0 0 true x8) fun v15 =>
 opt (fldA 1 1 false x8) fun v16 =>
 opt (fldA 0 2 true v13) fun v17 =>
 opt (puA c (look M14.mem (.mk M12.nx 10 28 true)) 34 [v17, x1, x2]) fun v20 =>
 opt (wslA 1 (fill [.str ⟨⟨[]⟩⟩, .d (.sl [] 0)] [(0, 2, v20)])) fun v21 =>
 upK M14 (M12.nx + 6) fun M22 =>
 opt (wappA M22.mem (.mk M12.nx 10 127 true) 2 40 v16 v21) fun v23 =>
 upK M22 (M12.nx + 7) fun M24 =>
 opt (fldA 0 0 true x8) fun v25 =>
 opt (setcA 1 1 x8 v23) fun v26 =>
 opt (binA .add .none x27 (.i 1)) fun v27 =>
 (b34_6 c nl lo n) x1 x2 x6 v26 x25 x26 v27 M24)
 else (b34_4 c nl lo x6 x8 M)
theorem t34_6 (c : CallT) (nl lo : Nat) : ∀ (n : Nat) (ρ : Rg) (M : MM), k34_6 c nl lo n ρ M = b34_6 c nl lo n (ρ 1) (ρ 2) (ρ 6) (ρ 8) (ρ 25) (ρ 26) (ρ 27) M
 | 0, ρ, M => rfl
 | n + 1, ρ, M => by
  have h : ∀ (zb z0 : Rg → MM → OR), execC c modeF lo nl p34_20 zb (fun i ρ M => if i = 0 then z0 ρ M else noE i ρ M) (endK cf34.res) ρ M = (opt (binA .lss .none (ρ 27) (ρ 26)) fun v7 =>
  isB v7 fun c8 => if c8 then (opt (ixsA 2 (ρ 25) (ρ 27)) fun v9 =>
  opt (ldnA (lk M) 2 v9) fun v10 =>
  upK M M.nx fun M12 =>
  opt (setcA 0 2 (.agg [.str ⟨⟨[]⟩⟩, .d (.sl [] 0)]) v10) fun v13 =>
  bumpK M12 10 fun M14 =>
  opt (fldA 0 0 true (ρ 8)) fun v15 =>
  opt (fldA 1 1 false (ρ 8)) fun v16 =>
  opt (fldA 0 2 true v13) fun v17 =>
  opt (puA c (look M14.mem (.mk M12.nx 10 28 true)) 34 [v17, (ρ 1), (ρ 2)]) fun v20 =>
  opt (wslA 1 (fill [.str ⟨⟨[]⟩⟩, .d (.sl [] 0)] [(0, 2, v20)])) fun v21 =>
  upK M14 (M12.nx + 6) fun M22 =>
  opt (wappA M22.mem (.mk M12.nx 10 127 true) 2 40 v16 v21) fun v23 =>
  upK M22 (M12.nx + 7) fun M24 =>
  opt (fldA 0 0 true (ρ 8)) fun v25 =>
  opt (setcA 1 1 (ρ 8) v23) fun v26 =>
  opt (binA .add .none (ρ 27) (.i 1)) fun v27 =>
  zb (sF (sF (sF (sF (sF (sF (sF (sF (sF (sF (sF (sF (sF (sF (sF (sF (sF ρ 28 v7) 29 v9) 30 v10) 10 (.agg [.str ⟨⟨[]⟩⟩, .d (.sl [] 0)])) 10 v13) 31 v15) 32 v16) 33 v17) 34 (ρ 1)) 35 (ρ 2)) 36 v20) 37 v21) 38 v23) 39 v25) 8 v26) 40 v27) 27 v27) M24)
  else (z0 (sF ρ 28 v7) M)) := by intros; kernel_rfl
  refine (h (k34_6 c nl lo n) (k34_4 c nl lo)).trans ?_
  unfold b34_6; simp only [(t34_4 c nl lo), (t34_6 c nl lo n)] <;> (show _ = _; kernel_rfl)
def k34_5 (c : CallT) (nl lo : Nat) : Rg → MM → OR := (execC c modeF lo nl p34_23 (k34_4 c nl lo) noE (endK cf34.res))
@[reducible] def b34_5 (c : CallT) (nl lo : Nat) (x1 x2 x3 x6 x8 : AV) (M : MM) : OR :=
 opt (fldA 0 0 true x3) fun v3 =>
 opt (fldA 1 1 false x3) fun v4 =>
 opt (lenA v4) fun v5 =>
 b34_6 c nl lo nl x1 x2 x6 x8 v4 v5 (.i 0) M
theorem t34_5 (c : CallT) (nl lo : Nat) (ρ : Rg) (M : MM) : k34_5 c nl lo ρ M = b34_5 c nl lo (ρ 1) (ρ 2) (ρ 3) (ρ 6) (ρ 8) M := by
 have h : k34_5 c nl lo ρ M = (opt (fldA 0 0 true (ρ 3)) fun v3 =>
 opt (fldA 1 1 false (ρ 3)) fun v4 =>
 opt (lenA v4) fun v5 =>
 k34_6 c nl lo nl (sF (sF (sF (sF ρ 24 v3) 25 v4) 26 v5) 27 (.i 0)) M) := by kernel_rfl
 rw [h]
 unfold b34_5; simp only [(t34_6 c nl lo nl)] <;> (show _ = _; kernel_rfl)
def k34_3 (c : CallT) (nl lo : Nat) : Rg → MM → OR := (execC c modeF lo nl p34_26 (endK cf34.res) noE (endK cf34.res))
@[reducible] def b34_3 (c : CallT) (nl lo : Nat) (x1 x2 x3 x6 x8 : AV) (M : MM) : OR :=
 b34_5 c nl lo x1 x2 x3 x6 x8 M
theorem t34_3 (c : CallT) (nl lo : Nat) (ρ : Rg) (M : MM) : k34_3 c nl lo ρ M = b34_3 c nl lo (ρ 1) (ρ 2) (ρ 3) (ρ 6) (ρ 8) M := by
 have h : k34_3 c nl lo ρ M = (k34_5 c nl lo ρ M) := execC_seq c modeF lo nl p34_23 p34_25 (endK cf34.res) noE (endK cf34.res) ρ M
 rw [h]
 unfold b34_3; simp only [(t34_5 c nl lo)] <;> (show _ = _; kernel_rfl)
def k34_7 (c : CallT) (nl lo : Nat) : Rg → MM → OR := (execC c modeF lo nl p34_9 (k34_3 c nl lo) noE (endK cf34.res))
@[reducible] def b34_7 (c : CallT) (nl lo : Nat) (x1 x2 x3 x6 : AV) (M : MM) : OR :=
 opt (fldA 0 0 true x3) fun v1 =>
 opt (fldA 0 1 false x3) fun v2 =>
 opt ((fill [.str ⟨⟨[]⟩⟩, .d (.sl [] 0)] [(0, 1, v2)]).map .agg) fun v3 =>
 upK M M.nx fun M5 =>
 opt (setcA 0 2 (.agg [.str ⟨⟨[]⟩⟩, .d (.sl [] 0)]) v3) fun v6 =>
 b34_3 c nl lo x1 x2 x3 x6 v6 M5
theorem t34_7 (c : CallT) (nl lo : Nat) (ρ : Rg) (M : MM) : k34_7 c nl lo ρ M = b34_7 c nl lo (ρ 1) (ρ 2) (ρ 3) (ρ 6) M := by
 have h : ∀ (z0 : Rg → MM → OR), (execC c modeF lo nl p34_9 z0 noE (endK cf34.res)) ρ M = (opt (fldA 0 0 true (ρ 3)) fun v1 =>
 opt (fldA 0 1 false (ρ 3)) fun v2 =>
 opt ((fill [.str ⟨⟨[]⟩⟩, .d (.sl [] 0)] [(0, 1, v2)]).map .agg) fun v3 =>
 upK M M.nx fun M5 =>
 opt (setcA 0 2 (.agg [.str ⟨⟨[]⟩⟩, .d (.sl [] 0)]) v3) fun v6 =>
 z0 (sF (sF (sF (sF (sF ρ 21 v1) 22 v2) 23 v3) 8 (.agg [.str ⟨⟨[]⟩⟩, .d (.sl [] 0)])) 8 v6) M5) := by intros; kernel_rfl
 refine (h (k34_3 c nl lo)).trans ?_
 unfold b34_7; simp only [(t34_3 c nl lo)] <;> (show _ = _; kernel_rfl)
def k34_2 (c : CallT) (nl lo : Nat) : Rg → MM → OR := (execC c modeF lo nl p34_27 (endK cf34.res) noE (endK cf34.res))
@[reducible] def b34_2 (c : CallT) (nl lo : Nat) (x1 x2 x3 x6 : AV) (M : MM) : OR :=
 b34_7 c nl lo x1 x2 x3 x6 M
theorem t34_2 (c : CallT) (nl lo : Nat) (ρ : Rg) (M : MM) : k34_2 c nl lo ρ M = b34_2 c nl lo (ρ 1) (ρ 2) (ρ 3) (ρ 6) M := by
 have h : k34_2 c nl lo ρ M = (k34_7 c nl lo ρ M) := execC_seq c modeF lo nl p34_9 p34_26 (endK cf34.res) noE (endK cf34.res) ρ M
 rw [h]
 unfold b34_2; simp only [(t34_7 c nl lo)] <;> (show _ = _; kernel_rfl)
def k34_8 (c : CallT) (nl lo : Nat) : Rg → MM → OR := (execC c modeF lo nl p34_8 (k34_2 c nl lo) noE (endK cf34.res))
@[reducible] def b34_8 (c : CallT) (nl lo : Nat) (x1 x2 x3 x6 : AV) (M : MM) : OR :=
 opt (fldA 0 2 true x3) fun v1 =>
 opt (puA c (lk M) 45 [v1, x1]) fun v3 =>
 opt (binA .geq .none v3 (.i 0)) fun v6 =>
 isB v6 fun c7 => if c7 then (opt (ixsA 2 x2 v3) fun v10 =>
 opt (ldnA (lk M) 2 v10) fun v11 =>
 opt (puA c (lk M) 46 [v11]) fun v12 =>
 opt (setcA 0 2 x6 v12) fun v13 =>
 opt (locA 2 true v13) fun r => some (r, M))
 else (b34_2 c nl lo x1 x2 x3 x6 M)
theorem t34_8 (c : CallT) (nl lo : Nat) (ρ : Rg) (M : MM) : k34_8 c nl lo ρ M = b34_8 c nl lo (ρ 1) (ρ 2) (ρ 3) (ρ 6) M := by
 have h : ∀ (z0 : Rg → MM → OR), (execC c modeF lo nl p34_8 z0 noE (endK cf34.res)) ρ M = (opt (fldA 0 2 true (ρ 3)) fun v1 =>
 opt (puA c (lk M) 45 [v1, (ρ 1)]) fun v3 =>
 opt (binA .geq .none v3 (.i 0)) fun v6 =>
 isB v6 fun c7 => if c7 then (opt (ixsA 2 (ρ 2) v3) fun v10 =>
 opt (ldnA (lk M) 2 v10) fun v11 =>
 opt (puA c (lk M) 46 [v11]) fun v12 =>
 opt (setcA 0 2 (ρ 6) v12) fun v13 =>
 opt (locA 2 true v13) fun r => some (r, M))
 else (z0 (sF (sF (sF (sF (sF (sF ρ 11 v1) 12 (ρ 1)) 13 v3) 7 v3) 14 v3) 15 v6) M)) := by intros; kernel_rfl
 refine (h (k34_2 c nl lo)).trans ?_
 unfold b34_8; simp only [(t34_2 c nl lo)] <;> (show _ = _; kernel_rfl)
def k34_1 (c : CallT) (nl lo : Nat) : Rg → MM → OR := (execC c modeF lo nl p34_28 (endK cf34.res) noE (endK cf34.res))
@[reducible] def b34_1 (c : CallT) (nl lo : Nat) (x1 x2 x3 x6 : AV) (M : MM) : OR :=
 b34_8 c nl lo x1 x2 x3 x6 M
theorem t34_1 (c : CallT) (nl lo : Nat) (ρ : Rg) (M : MM) : k34_1 c nl lo ρ M = b34_1 c nl lo (ρ 1) (ρ 2) (ρ 3) (ρ 6) M := by
 have h : k34_1 c nl lo ρ M = (k34_8 c nl lo ρ M) := execC_seq c modeF lo nl p34_8 p34_27 (endK cf34.res) noE (endK cf34.res) ρ M
 rw [h]
 unfold b34_1; simp only [(t34_8 c nl lo)] <;> (show _ = _; kernel_rfl)
def k34_9 (c : CallT) (nl lo : Nat) : Rg → MM → OR := (execC c modeF lo nl p34_1 (k34_1 c nl lo) noE (endK cf34.res))
@[reducible] def b34_9 (c : CallT) (nl lo : Nat) (x0 x1 x2 : AV) (M : MM) : OR :=
 opt (aggA x0) fun v1 =>
 upK M M.nx fun M2 =>
 upK M2 M2.nx fun M4 =>
 b34_1 c nl lo x1 x2 v1 (.agg [.str ⟨⟨[]⟩⟩, .d (.sl [] 0)]) M4
theorem t34_9 (c : CallT) (nl lo : Nat) (ρ : Rg) (M : MM) : k34_9 c nl lo ρ M = b34_9 c nl lo (ρ 0) (ρ 1) (ρ 2) M := by
 have h : ∀ (z0 : Rg → MM → OR), (execC c modeF lo nl p34_1 z0 noE (endK cf34.res)) ρ M = (opt (aggA (ρ 0)) fun v1 =>
 upK M M.nx fun M2 =>
 upK M2 M2.nx fun M4 =>
 z0 (sF (sF ρ 3 v1) 6 (.agg [.str ⟨⟨[]⟩⟩, .d (.sl [] 0)])) M4) := by intros; kernel_rfl
 refine (h (k34_1 c nl lo)).trans ?_
 unfold b34_9; simp only [(t34_1 c nl lo)] <;> (show _ = _; kernel_rfl)
def k34_0 (c : CallT) (nl lo : Nat) : Rg → MM → OR := (execC c modeF lo nl p34_29 (endK cf34.res) noE (endK cf34.res))
@[reducible] def b34_0 (c : CallT) (nl lo : Nat) (x0 x1 x2 : AV) (M : MM) : OR :=
 b34_9 c nl lo x0 x1 x2 M
theorem t34_0 (c : CallT) (nl lo : Nat) (ρ : Rg) (M : MM) : k34_0 c nl lo ρ M = b34_0 c nl lo (ρ 0) (ρ 1) (ρ 2) M := by
 have h : k34_0 c nl lo ρ M = (k34_9 c nl lo ρ M) := execC_seq c modeF lo nl p34_1 p34_28 (endK cf34.res) noE (endK cf34.res) ρ M
 rw [h]
 unfold b34_0; simp only [(t34_9 c nl lo)] <;> (show _ = _; kernel_rfl)
def k34_10 (c : CallT) (nl lo : Nat) : Rg → MM → OR := (execC c modeF lo nl p34_0 (k34_0 c nl lo) noE (endK cf34.res))
@[reducible] def b34_10 (c : CallT) (nl lo : Nat) (x0 x1 x2 : AV) (M : MM) : OR :=
 b34_0 c nl lo x0 x1 x2 M
theorem t34_10 (c : CallT) (nl lo : Nat) (ρ : Rg) (M : MM) : k34_10 c nl lo ρ M = b34_10 c nl lo (ρ 0) (ρ 1) (ρ 2) M := by
 have h : ∀ (z0 : Rg → MM → OR), (execC c modeF lo nl p34_0 z0 noE (endK cf34.res)) ρ M = (z0 (sF (sF (sF (sF ρ 3 (.tup [])) 6 (.tup [])) 8 (.tup [])) 10 (.tup [])) M) := by intros; kernel_rfl
 refine (h (k34_0 c nl lo)).trans ?_
 unfold b34_10; simp only [(t34_0 c nl lo)] <;> (show _ = _; kernel_rfl)
def s34 (c : CallT) (nl lo : Nat) (a0 a1 a2 : AV) (M : MM) : OR :=
 b34_10 c nl lo a0 a1 a2 M
theorem e34 (c : CallT) (nl lo : Nat) (a0 a1 a2 : AV) (M : MM) : execC c modeF lo nl cf34.body (endK cf34.res) noE (endK cf34.res) (aF [a0, a1, a2]) M = s34 c nl lo a0 a1 a2 M := by
 have h : execC c modeF lo nl cf34.body (endK cf34.res) noE (endK cf34.res) (aF [a0, a1, a2]) M = (k34_10 c nl lo (aF [a0, a1, a2]) M) := execC_seq c modeF lo nl p34_0 p34_29 (endK cf34.res) noE (endK cf34.res) (aF [a0, a1, a2]) M
 refine h.trans ?_
 unfold s34; simp only [(t34_10 c nl lo)] <;> (show _ = _; kernel_rfl)
theorem q34 {c : CallT} (hc : Lim G c) (lo : Nat) (a0 a1 a2 : AV) (M : MM) : c 34 [a0, a1, a2] lo M = s34 c G.nl lo a0 a1 a2 M :=
 (hc.flow (cf := cf34) rfl w34 [a0, a1, a2] lo M).trans (e34 c G.nl lo a0 a1 a2 M)

/-! ### function 43 -/
theorem w43 : wfK cf43.nt cf43.body = true := by kernel_rfl
def s43 (c : CallT) (nl lo : Nat) (a0 a1 : AV) (M : MM) : OR :=
 opt (puA c (lk M) 50 [a0, a1]) fun v4 =>
 opt (binA .geq .none v4 (.i 0)) fun v5 =>
 some (v5, M)
theorem e43 (c : CallT) (nl lo : Nat) (a0 a1 : AV) (M : MM) : execC c modeF lo nl cf43.body (endK cf43.res) noE (endK cf43.res) (aF [a0, a1]) M = s43 c nl lo a0 a1 M := by
 kernel_rfl
theorem q43 {c : CallT} (hc : Lim G c) (lo : Nat) (a0 a1 : AV) (M : MM) : c 43 [a0, a1] lo M = s43 c G.nl lo a0 a1 M :=
 (hc.flow (cf := cf43) rfl w43 [a0, a1] lo M).trans (e43 c G.nl lo a0 a1 M)

/-! ### function 44 -/
theorem w44 : wfK cf44.nt cf44.body = true := by kernel_rfl
def s44 (c : CallT) (nl lo : Nat) (a0 a1 : AV) (M : MM) : OR :=
 opt (puA c (lk M) 51 [a0, a1]) fun v4 =>
 opt (binA .geq .none v4 (.i 0)) fun v5 =>
 some (v5, M)
theorem e44 (c : CallT) (nl lo : Nat) (a0 a1 : AV) (M : MM) : execC c modeF lo nl cf44.body (endK cf44.res) noE (endK cf44.res) (aF [a0, a1]) M = s44 c nl lo a0 a1 M := by
 kernel_rfl
theorem q44 {c : CallT} (hc : Lim G c) (lo : Nat) (a0 a1 : AV) (M : MM) : c 44 [a0, a1] lo M = s44 c G.nl lo a0 a1 M :=
 (hc.flow (cf := cf44) rfl w44 [a0, a1] lo M).trans (e44 c G.nl lo a0 a1 M)

/-! ### function 45 -/
theorem w45 : wfK cf45.nt cf45.body = true := by kernel_rfl
def s45 (c : CallT) (nl lo : Nat) (a0 a1 : AV) (M : MM) : OR :=
 opt (aggA a0) fun v2 =>
 upK M M.nx fun M3 =>
 opt (fldA 0 0 true v2) fun v5 =>
 opt (fldA 1 1 false v2) fun v6 =>
 opt (lenA v6) fun v7 =>
 opt (binA .gtr .none v7 (.i 0)) fun v8 =>
 isB v8 fun c9 => if c9 then (some ((.i (-1)), M3))
 else (opt (fldA 0 0 true v2) fun v12 =>
 opt (fldA 0 1 false v2) fun v13 =>
 opt (puA c (lk M3) 51 [a1, v13]) fun v14 =>
 some (v14, M3))
theorem e45 (c : CallT) (nl lo : Nat) (a0 a1 : AV) (M : MM) : execC c modeF lo nl cf45.body (endK cf45.res) noE (endK cf45.res) (aF [a0, a1]) M = s45 c nl lo a0 a1 M := by
 kernel_rfl
theorem q45 {c : CallT} (hc : Lim G c) (lo : Nat) (a0 a1 : AV) (M : MM) : c 45 [a0, a1] lo M = s45 c G.nl lo a0 a1 M :=
 (hc.flow (cf := cf45) rfl w45 [a0, a1] lo M).trans (e45 c G.nl lo a0 a1 M)

/-! ### function 46 -/
theorem w46 : wfK cf46.nt cf46.body = true := by kernel_rfl
def k46_100 (c : CallT) (nl lo : Nat) : Rg → MM → OR := (execC c modeF lo nl p46_18 (endK cf46.res) noE (endK cf46.res))
@[reducible] def b46_100 (c : CallT) (nl lo : Nat) (x2 x3 : AV) (M : MM) : OR :=
 opt (fldA 0 2 true x3) fun v15 =>
 opt (setcA 0 2 x2 v15) fun v16 =>
 opt (locA 2 true v16) fun r => some (r, M)
theorem t46_100 (c : CallT) (nl lo : Nat) (ρ : Rg) (M : MM) : k46_100 c nl lo ρ M = b46_100 c nl lo (ρ 2) (ρ 3) M := by
 kernel_rfl
def k46_5 (c : CallT) (nl lo : Nat) (n : Nat) : Rg → MM → OR := iterC (fun k ρ M => execC c modeF lo nl p46_13 k (fun i ρ M => if i = 0 then (k46_100 c nl lo) ρ M else noE i ρ M) (endK cf46.res) ρ M) n
def b46_5 (c : CallT) (nl lo : Nat) : Nat → AV → AV → AV → AV → AV → MM → OR
 | 0, _, _, _, _, _, _ => none
 | n + 1, x2, x3, x10, x11, x12, M =>
 opt (binA .lss .none x12 x11) fun v21 =>
 isB v21 fun c22 => if c22 then (opt (ixsA 2 x10 x12) fun v23 =>
 opt (ldnA (lk M) 2 v23) fun v24 =>
 upK M M.nx fun M26 =>
 opt (setcA 0 2 (.agg [.str ⟨⟨[]⟩⟩, .d (.sl [] 0)]) v24) fun v27 =>
 bumpK M26 8 fun M28 =>
 opt (fldA 0 0 true x3) fun v29 =>
 opt (fldA 1 1 false x3) fun v30 =>
 opt (fldA 0 2 true v27) fun v31 =>
 opt (puA c (look M28.mem (.mk M26.nx 8 4 true)) 46 [v31]) fun v32 =>
 opt (wslA 1 (fill [.str ⟨⟨[]⟩⟩, .d (.sl [] 0)] [(0, 2, v32)])) fun v33 =>
 upK M28 (M26.nx + 4) fun M34 =>
 opt (wappA M34.mem (.mk M26.nx 8 31 true) 2 40 v30 v33) fun v35 =>
 upK M34 (M26.nx + 5) fun M36 =>
 opt (fldA 0 0 true x3) fun v37 =>
 opt (setcA 1 1 x3 v35) fun v38 =>
 opt (binA .add .none x12 (.i 1)) fun v39 =>
 (b46_5 c nl lo n) x2 v38 x10 x11 v39 M36)
 else (b46_100 c nl lo x2 x3 M)
theorem t46_5 (c : CallT) (nl lo : Nat) : ∀ (n : Nat) (ρ : Rg) (M : MM), k46_5 c nl lo n ρ M = b46_5 c nl lo n (ρ 2) (ρ 3) (ρ 10) (ρ 11) (ρ 12) M
 | 0, ρ, M => rfl
 | n + 1, ρ, M => by
  have h : ∀ (zb z0 : Rg → MM → OR), execC c modeF lo nl p46_13 zb (fun i ρ M => if i = 0 then z0 ρ M else noE i ρ M) (endK cf46.res) ρ M = (opt (binA .lss .none (ρ 12) (ρ 11)) fun v21 =>
  isB v21 fun c22 => if c22 then (opt (ixsA 2 (ρ 10) (ρ 12)) fun v23 =>
  opt (ldnA (lk M) 2 v23) fun v24 =>
  upK M M.nx fun M26 =>
  opt (setcA 0 2 (.agg [.str ⟨⟨[]⟩⟩, .d (.sl [] 0)]) v24) fun v27 =>
  bumpK M26 8 fun M28 =>
  opt (fldA 0 0 true (ρ 3)) fun v29 =>
  opt (fldA 1 1 false (ρ 3)) fun v30 =>
  opt (fldA 0 2 true v27) fun v31 =>
  opt (puA c (look M28.mem (.mk M26.nx 8 4 true)) 46 [v31]) fun v32 =>
  opt (wslA 1 (fill [.str ⟨⟨[]⟩⟩, .d (.sl [] 0)] [(0, 2, v32)])) fun v33 =>
  upK M28 (M26.nx + 4) fun M34 =>
  opt (wappA M34.mem (.mk M26.nx 8 31 true) 2 40 v30 v33) fun v35 =>
  upK M34 (M26.nx + 5) fun M36 =>
  opt (fldA 0 0 true (ρ 3)) fun v37 =>
  opt (setcA 1 1 (ρ 3) v35) fun v38 =>
  opt (binA .add .none (ρ 12) (.i 1)) fun v39 =>
  zb (sF (sF (sF (sF (sF (sF (sF (sF (sF (sF (sF (sF (sF (sF (sF ρ 13 v21) 14 v23) 15 v24) 5 (.agg [.str ⟨⟨[]⟩⟩, .d (.sl [] 0)])) 5 v27) 16 v29) 17 v30) 18 v31) 19 v32) 20 v33) 21 v35) 22 v37) 3 v38) 23 v39) 12 v39) M36)
  else (z0 (sF ρ 13 v21) M)) := by intros; kernel_rfl
  refine (h (k46_5 c nl lo n) (k46_100 c nl lo)).trans ?_
  unfold b46_5; simp only [(t46_100 c nl lo), (t46_5 c nl lo n)] <;> (show _ = _; kernel_rfl)
def k46_101 (c : CallT) (nl lo : Nat) : Rg → MM → OR := (execC c modeF lo nl p46_16 (k46_100 c nl lo) noE (endK cf46.res))
@[reducible] def b46_101 (c : CallT) (nl lo : Nat) (x1 x2 x3 : AV) (M : MM) : OR :=
 opt (fldA 0 0 true x1) fun v17 =>
 opt (fldA 1 1 false x1) fun v18 =>
 opt (lenA v18) fun v19 =>
 b46_5 c nl lo nl x2 x3 v18 v19 (.i 0) M
theorem t46_101 (c : CallT) (nl lo : Nat) (ρ : Rg) (M : MM) : k46_101 c nl lo ρ M = b46_101 c nl lo (ρ 1) (ρ 2) (ρ 3) M := by
 have h : k46_101 c nl lo ρ M = (opt (fldA 0 0 true (ρ 1)) fun v17 =>
 opt (fldA 1 1 false (ρ 1)) fun v18 =>
 opt (lenA v18) fun v19 =>
 k46_5 c nl lo nl (sF (sF (sF (sF ρ 9 v17) 10 v18) 11 v19) 12 (.i 0)) M) := by kernel_rfl
 rw [h]
 unfold b46_101; simp only [(t46_5 c nl lo nl)] <;> (show _ = _; kernel_rfl)
def s46 (c : CallT) (nl lo : Nat) (a0 : AV) (M : MM) : OR :=
 opt (aggA a0) fun v5 =>
 upK M M.nx fun M6 =>
 upK M6 M6.nx fun M8 =>
 opt (fldA 0 0 true v5) fun v9 =>
 opt (fldA 0 1 false v5) fun v10 =>
 opt ((fill [.str ⟨⟨[]⟩⟩, .d (.sl [] 0)] [(0, 1, v10)]).map .agg) fun v11 =>
 upK M8 M8.nx fun M13 =>
 opt (setcA 0 2 (.agg [.str ⟨⟨[]⟩⟩, .d (.sl [] 0)]) v11) fun v14 =>
 b46_101 c nl lo v5 (.agg [.str ⟨⟨[]⟩⟩, .d (.sl [] 0)]) v14 M13
theorem e46 (c : CallT) (nl lo : Nat) (a0 : AV) (M : MM) : execC c modeF lo nl cf46.body (endK cf46.res) noE (endK cf46.res) (aF [a0]) M = s46 c nl lo a0 M := by
 have h : execC c modeF lo nl cf46.body (endK cf46.res) noE (endK cf46.res) (aF [a0]) M = (opt (aggA a0) fun v5 =>
 upK M M.nx fun M6 =>
 upK M6 M6.nx fun M8 =>
 opt (fldA 0 0 true v5) fun v9 =>
 opt (fldA 0 1 false v5) fun v10 =>
 opt ((fill [.str ⟨⟨[]⟩⟩, .d (.sl [] 0)] [(0, 1, v10)]).map .agg) fun v11 =>
 upK M8 M8.nx fun M13 =>
 opt (setcA 0 2 (.agg [.str ⟨⟨[]⟩⟩, .d (.sl [] 0)]) v11) fun v14 =>
 k46_101 c nl lo (sF (sF (sF (sF (sF (sF (sF (sF (sF (sF (sF (aF [a0]) 1 (.tup [])) 2 (.tup [])) 3 (.tup [])) 5 (.tup [])) 1 v5) 2 (.agg [.str ⟨⟨[]⟩⟩, .d (.sl [] 0)])) 6 v9) 7 v10) 8 v11) 3 (.agg [.str ⟨⟨[]⟩⟩, .d (.sl [] 0)])) 3 v14) M13) := by kernel_rfl
 refine h.trans ?_
 unfold s46; simp only [(t46_101 c nl lo)] <;> (show _ = _; kernel_rfl)
theorem q46 {c : CallT} (hc : Lim G c) (lo : Nat) (a0 : AV) (M : MM) : c 46 [a0] lo M = s46 c G.nl lo a0 M :=
 (hc.flow (cf := cf46) rfl w46 [a0] lo M).trans (e46 c G.nl lo a0 M)

/-! ### function 50 -/
theorem w50 : wfK cf50.nt cf50.body = true := by kernel_rfl
def s50 (c : CallT) (nl lo : Nat) (a0 a1 : AV) (M : MM) : OR :=
 opt (puA c (lk M) 55 [a0, a1]) fun v4 =>
 some (v4, M)
theorem e50 (c : CallT) (nl lo : Nat) (a0 a1 : AV) (M : MM) : execC c modeF lo nl cf50.body (endK cf50.res) noE (endK cf50.res) (aF [a0, a1]) M = s50 c nl lo a0 a1 M := by
 kernel_rfl
theorem q50 {c : CallT} (hc : Lim G c) (lo : Nat) (a0 a1 : AV) (M : MM) : c 50 [a0, a1] lo M = s50 c G.nl lo a0 a1 M :=
 (hc.flow (cf := cf50) rfl w50 [a0, a1] lo M).trans (e50 c G.nl lo a0 a1 M)

/-! ### function 51 -/
theorem w51 : wfK cf51.nt cf51.body = true := by kernel_rfl
def k51_100 (c : CallT) (nl lo : Nat) : Rg → MM → OR := (execC c modeF lo nl p51_21 (endK cf51.res) noE (endK cf51.res))
@[reducible] def b51_100 (c : CallT) (nl lo : Nat) (M : MM) : OR :=
 some ((.i (-1)), M)
theorem t51_100 (c : CallT) (nl lo : Nat) (ρ : Rg) (M : MM) : k51_100 c nl lo ρ M = b51_100 c nl lo M := by
 kernel_rfl
def k51_4 (c : CallT) (nl lo : Nat) (n : Nat) : Rg → MM → OR := iterC (fun k ρ M => execC c modeF lo nl p51_16 k (fun i ρ M => if i = 0 then (k51_100 c nl lo) ρ M else noE i ρ M) (endK cf51.res) ρ M) n
def b51_4 (c : CallT) (nl lo : Nat) : Nat → AV → AV → AV → AV → MM → OR
 | 0, _, _, _, _, _ => none
 | n + 1, x0, x1, x7, x8, M =>
 opt (binA .lss .none x8 x7) fun v6 =>
 isB v6 fun c7 => if c7 then (opt (ixsA 1 x0 x8) fun v13 =>
 opt (ld1A (lk M) v13) fun v14 =>
 opt (binA .eql .none x1 v14) fun v15 =>
 isB v15 fun c16 => if c16 then (some (x8, M))
 else (opt (binA .add .none x8 (.i 1)) fun v19 =>
 (b51_4 c nl lo n) x0 x1 x7 v19 M))
 else (b51_100 c nl lo M)
theorem t51_4 (c : CallT) (nl lo : Nat) : ∀ (n : Nat) (ρ : Rg) (M : MM), k51_4 c nl lo n ρ M = b51_4 c nl lo n (ρ 0) (ρ 1) (ρ 7) (ρ 8) M
 | 0, ρ, M => rfl
 | n + 1, ρ, M => by
  have h : ∀ (zb z0 : Rg → MM → OR), execC c modeF lo nl p51_16 zb (fun i ρ M => if i = 0 then z0 ρ M else noE i ρ M) (endK cf51.res) ρ M = (opt (binA .lss .none (ρ 8) (ρ 7)) fun v6 =>
  isB v6 fun c7 => if c7 then (opt (ixsA 1 (ρ 0) (ρ 8)) fun v13 =>
  opt (ld1A (lk M) v13) fun v14 =>
  opt (binA .eql .none (ρ 1) v14) fun v15 =>
  isB v15 fun c16 => if c16 then (some ((ρ 8), M))
  else (opt (binA .add .none (ρ 8) (.i 1)) fun v19 =>
  zb (sF (sF (sF (sF (sF (sF (sF (sF (sF (sF (sF ρ 9 v6) 10 (ρ 8)) 5 (ρ 8)) 11 (ρ 1)) 12 (ρ 0)) 13 (ρ 8)) 14 v13) 15 v14) 16 v15) 18 v19) 8 v19) M))
  else (z0 (sF ρ 9 v6) M)) := by intros; kernel_rfl
  refine (h (k51_4 c nl lo n) (k51_100 c nl lo)).trans ?_
  unfold b51_4; simp only [(t51_100 c nl lo), (t51_4 c nl lo n)] <;> (show _ = _; kernel_rfl)
def k51_101 (c : CallT) (nl lo : Nat) : Rg → MM → OR := (execC c modeF lo nl p51_19 (k51_100 c nl lo) noE (endK cf51.res))
@[reducible] def b51_101 (c : CallT) (nl lo : Nat) (x0 x1 : AV) (M : MM) : OR :=
 opt (lenA x0) fun v4 =>
 b51_4 c nl lo nl x0 x1 v4 (.i 0) M
theorem t51_101 (c : CallT) (nl lo : Nat) (ρ : Rg) (M : MM) : k51_101 c nl lo ρ M = b51_101 c nl lo (ρ 0) (ρ 1) M := by
 have h : k51_101 c nl lo ρ M = (opt (lenA (ρ 0)) fun v4 =>
 k51_4 c nl lo nl (sF (sF (sF ρ 6 (ρ 0)) 7 v4) 8 (.i 0)) M) := by kernel_rfl
 rw [h]
 unfold b51_101; simp only [(t51_4 c nl lo nl)] <;> (show _ = _; kernel_rfl)
def s51 (c : CallT) (nl lo : Nat) (a0 a1 : AV) (M : MM) : OR :=
 b51_101 c nl lo a0 a1 M
theorem e51 (c : CallT) (nl lo : Nat) (a0 a1 : AV) (M : MM) : execC c modeF lo nl cf51.body (endK cf51.res) noE (endK cf51.res) (aF [a0, a1]) M = s51 c nl lo a0 a1 M := by
 have h : execC c modeF lo nl cf51.body (endK cf51.res) noE (endK cf51.res) (aF [a0, a1]) M = (k51_101 c nl lo (sF (aF [a0, a1]) 4 (.i 0)) M) := by kernel_rfl
 refine h.trans ?_
 unfold s51; simp only [(t51_101 c nl lo)] <;> (show _ = _; kernel_rfl)
theorem q51 {c : CallT} (hc : Lim G c) (lo : Nat) (a0 a1 : AV) (M : MM) : c 51 [a0, a1] lo M = s51 c G.nl lo a0 a1 M :=
 (hc.flow (cf := cf51) rfl w51 [a0, a1] lo M).trans (e51 c G.nl lo a0 a1 M)
end Go.Proofs.Ytnbhmlflbbddcaa.Sx
