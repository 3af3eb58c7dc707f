/-
  SX, PART L: LAWS for the simplifier: each step of a printed definition at arguments of a known shape. The list 'XE' + 'VV' of tpl.py names them.
-/
import Derived.Test.YtabhppamkhldeaaSxF
namespace Go.Proofs.Ytabhppamkhldeaa.Sx
open Go
section
variable {R : Type} {A : Type}
@[congr] theorem bnd_congr {o o' : Option (AV × MM)} {k : AV → MM → Option R} (h : o = o') : bnd o k = bnd o' k := by rw [h]
@[congr] theorem opt_congr {o o' : Option A} {k : A → Option R} (h : o = o') : opt o k = opt o' k := by rw [h]
@[congr] theorem isB_congr {x x' : AV} {k : Bool → Option R} (h : x = x') : isB x k = isB x' k := by rw [h]
theorem bnd_some (v : AV) (M : MM) (k : AV → MM → Option R) : bnd (some (v, M)) k = k v M := rfl
theorem opt_some (v : A) (k : A → Option R) : opt (some v) k = k v := rfl
theorem isB_bool (b : Bool) (k : Bool → Option R) : isB (.bool b) k = k b := rfl
theorem bnd_gd (p b : Bool) (M : MM) (o : Option (AV × MM)) (k : AV → MM → Option R) : bnd (gd (.bool p) b M o) k = if p = b then bnd o k else k .undef M := by
  cases p <;> cases b <;> rfl
end
theorem gd_tt (M : MM) (o : Option (AV × MM)) : gd (.bool true) true M o = o := rfl
theorem gd_ff (M : MM) (o : Option (AV × MM)) : gd (.bool false) false M o = o := rfl
theorem gd_tf (M : MM) (o : Option (AV × MM)) : gd (.bool true) false M o = some (.undef, M) := rfl
theorem gd_ft (M : MM) (o : Option (AV × MM)) : gd (.bool false) true M o = some (.undef, M) := rfl
theorem gd_un (b : Bool) (M : MM) (o : Option (AV × MM)) : gd .undef b M o = some (.undef, M) := rfl
theorem pickA_t (a b : AV) : pickA (.bool true) a b = some a := rfl
theorem pickA_f (a b : AV) : pickA (.bool false) a b = some b := rfl
theorem pickA_and (p q : Bool) : pickA (.bool p) (.bool q) (.bool false) = some (.bool (p && q)) := by cases p <;> rfl
theorem pickA_or (p q : Bool) : pickA (.bool p) (.bool true) (.bool q) = some (.bool (p || q)) := by cases p <;> rfl
section
variable (k : IntKind) (a b : Int) (e : EK)
theorem binA_add : binA .add e (.int k a) (.int k b) = some (.int k (k.wrap (a + b))) := by simp [binA, ibin]
theorem binA_sub : binA .sub e (.int k a) (.int k b) = some (.int k (k.wrap (a - b))) := by simp [binA, ibin]
theorem binA_mul : binA .mul e (.int k a) (.int k b) = some (.int k (k.wrap (a * b))) := by simp [binA, ibin]
theorem binA_rem (h : b ≠ 0) : binA .rem e (.int k a) (.int k b) = some (.int k (a.tmod b)) := by simp [binA, ibin, h]
theorem binA_quo (h : b ≠ 0) : binA .quo e (.int k a) (.int k b) = some (.int k (k.wrap (a.tdiv b))) := by simp [binA, ibin, h]
theorem binA_eql : binA .eql e (.int k a) (.int k b) = some (.bool (decide (a = b))) := by simp [binA, ibin]; by_cases h : a = b <;> simp [h]
theorem binA_neq : binA .neq e (.int k a) (.int k b) = some (.bool (decide (a ≠ b))) := by simp [binA, ibin, bne]; by_cases h : a = b <;> simp [h]
theorem binA_lss : binA .lss e (.int k a) (.int k b) = some (.bool (decide (a < b))) := by simp [binA, ibin]
theorem binA_leq : binA .leq e (.int k a) (.int k b) = some (.bool (decide (a ≤ b))) := by simp [binA, ibin]
theorem binA_gtr : binA .gtr e (.int k a) (.int k b) = some (.bool (decide (b < a))) := by simp [binA, ibin]
theorem binA_geq : binA .geq e (.int k a) (.int k b) = some (.bool (decide (b ≤ a))) := by simp [binA, ibin]
theorem binA_and : binA .and e (.int k a) (.int k b) = some (.int k (bitsOf .and k a b)) := by simp [binA, ibin]
theorem binA_or : binA .or e (.int k a) (.int k b) = some (.int k (bitsOf .or k a b)) := by simp [binA, ibin]
theorem binA_shr (k' : IntKind) (h : 0 ≤ b) : binA .shr e (.int k a) (.int k' b) = some (.int k (a.fdiv (2 ^ (min b.toNat k.bits)))) := by
  simp [binA, ishift, Int.not_lt.2 h]
theorem binA_shl (k' : IntKind) (h : 0 ≤ b) : binA .shl e (.int k a) (.int k' b) = some (.int k (k.wrap (a * 2 ^ (min b.toNat k.bits)))) := by
  simp [binA, ishift, Int.not_lt.2 h]
theorem unA_neg : unA .neg (.int k a) = some (.int k (k.wrap (0 - a))) := rfl
theorem cviA_int (k' : IntKind) : cviA k' (.int k a) = some (.int k' (k'.wrap a)) := rfl
end
theorem binA_eqb (a b : Bool) : binA .eql .bool (.bool a) (.bool b) = some (.bool (a == b)) := rfl
theorem binA_neb (a b : Bool) : binA .neq .bool (.bool a) (.bool b) = some (.bool !(a == b)) := rfl
theorem binA_eqs (e : EK) (a b : ByteArray) : binA .eql e (.str a) (.str b) = some (.bool (a.data.toList == b.data.toList)) := rfl
theorem binA_nes (e : EK) (a b : ByteArray) : binA .neq e (.str a) (.str b) = some (.bool !(a.data.toList == b.data.toList)) := rfl
theorem binA_ptr_nil (id off : Nat) : binA .eql .ptr (.ptr id off) .nil = some (.bool false) := rfl
theorem binA_nil_nil : binA .eql .ptr .nil .nil = some (.bool true) := rfl
theorem binA_ip_nil (cs : List D) : binA .eql .ptr (.ip cs) .nil = some (.bool false) := rfl
theorem binA_ptr_nil' (id off : Nat) : binA .neq .ptr (.ptr id off) .nil = some (.bool true) := rfl
theorem binA_nil_nil' : binA .neq .ptr .nil .nil = some (.bool false) := rfl
theorem unA_not (b : Bool) : unA .not (.bool b) = some (.bool !b) := rfl
theorem extA_0 (a : AV) (l : List AV) : extA 0 (.tup (a :: l)) = some a := rfl
theorem extA_s (i : Nat) (a : AV) (l : List AV) : extA (i + 1) (.tup (a :: l)) = extA i (.tup l) := rfl
theorem extA_1 (a b : AV) (l : List AV) : extA 1 (.tup (a :: b :: l)) = some b := rfl
theorem extA_2 (a b c : AV) (l : List AV) : extA 2 (.tup (a :: b :: c :: l)) = some c := rfl
theorem extA_3 (a b c d : AV) (l : List AV) : extA 3 (.tup (a :: b :: c :: d :: l)) = some d := rfl
theorem lenA_sl (cs : List D) (n : Nat) : lenA (.d (.sl cs n)) = some (.i n) := rfl
theorem lenA_nil : lenA .nilsl = some (.i 0) := rfl
theorem lenA_os (id off len sz : Nat) : lenA (.os id off len sz) = some (.i len) := rfl
theorem lensA_str (s : ByteArray) : lensA (.str s) = some (.i s.data.size) := rfl
theorem nilcA_ptr (id off : Nat) : nilcA (.ptr id off) = some (.ptr id off) := rfl
theorem nilcA_ip (cs : List D) : nilcA (.ip cs) = some (.ip cs) := rfl
theorem fadA_ptr (o id off : Nat) : fadA o (.ptr id off) = some (.ptr id (off + o)) := rfl
theorem fadA_ip (o : Nat) (cs : List D) : fadA o (.ip cs) = some (.ip (cs.drop o)) := rfl
theorem ixsA_os (sz id off len s : Nat) (i : Int) (k : IntKind) (h : 0 ≤ i ∧ i < (len : Int)) : ixsA sz (.os id off len s) (.int k i) = some (.ptr id (off + i.toNat * sz)) := by simp [ixsA, asI, h]
theorem ixsA_sl (sz : Nat) (ds : List D) (len : Nat) (i : Int) (k : IntKind) (h : 0 ≤ i ∧ i < (len : Int)) : ixsA sz (.d (.sl ds len)) (.int k i) = some (.ip (ds.drop (i.toNat * sz))) := by simp [ixsA, asI, h]
theorem ld1A_ip (lk : Nat → Option Blk) (d : D) (ds : List D) : ld1A lk (.ip (d :: ds)) = some (.d d) := rfl
theorem ld1A_ptr (lk : Nat → Option Blk) (id off : Nat) (t : TypeId) (cs : List AV) (h : lk id = some (.cells t cs)) : ld1A lk (.ptr id off) = cs[off]? := by simp [ld1A, h]
section
variable (call : CallT) (mode : FuncId → Mode) (draw : Bool) (lo lim fresh : Nat) (ρ : List AV) (M : MM)
theorem istep_mov (a : AV) : istep call mode draw lo lim fresh (.mov (.k a)) ρ M = some (a, M) := rfl
theorem istep_bin (op : BinOp) (e : EK) (a b : AV) : istep call mode draw lo lim fresh (.bin op e (.k a) (.k b)) ρ M = (binA op e a b).map (·, M) := rfl
theorem istep_un (op : UnOp) (a : AV) : istep call mode draw lo lim fresh (.un op (.k a)) ρ M = (unA op a).map (·, M) := rfl
theorem istep_pick (c a b : AV) : istep call mode draw lo lim fresh (.pick (.k c) (.k a) (.k b)) ρ M = (pickA c a b).map (·, M) := pureI_eq (i := .pick (.k c) (.k a) (.k b)) rfl
theorem istep_cvi (k : IntKind) (a : AV) : istep call mode draw lo lim fresh (.cvi k (.k a)) ρ M = (cviA k a).map (·, M) := pureI_eq (i := .cvi k (.k a)) rfl
theorem istep_ld1 (a : AV) : istep call mode draw lo lim fresh (.ld1 (.k a)) ρ M = (ld1A (look M.mem lim) a).map (·, M) := pureI_eq (i := .ld1 (.k a)) rfl
theorem istep_nilc (a : AV) : istep call mode draw lo lim fresh (.nilc (.k a)) ρ M = (nilcA a).map (·, M) := pureI_eq (i := .nilc (.k a)) rfl
theorem istep_fad (o : Nat) (a : AV) : istep call mode draw lo lim fresh (.fad o (.k a)) ρ M = (fadA o a).map (·, M) := pureI_eq (i := .fad o (.k a)) rfl
theorem istep_ext (a : AV) (i : Nat) : istep call mode draw lo lim fresh (.ext (.k a) i) ρ M = (extA i a).map (·, M) := pureI_eq (i := .ext (.k a) i) rfl
theorem istep_lens (a : AV) : istep call mode draw lo lim fresh (.lens (.k a)) ρ M = (lensA a).map (·, M) := pureI_eq (i := .lens (.k a)) rfl
theorem istep_len (a : AV) : istep call mode draw lo lim fresh (.len (.k a)) ρ M = (lenA a).map (·, M) := pureI_eq (i := .len (.k a)) rfl
theorem istep_ixs (sz : Nat) (a b : AV) : istep call mode draw lo lim fresh (.ixs sz (.k a) (.k b)) ρ M = (ixsA sz a b).map (·, M) := pureI_eq (i := .ixs sz (.k a) (.k b)) rfl
theorem istep_ixc (a b : AV) : istep call mode draw lo lim fresh (.ixc (.k a) (.k b)) ρ M = (ixcA a b).map (·, M) := pureI_eq (i := .ixc (.k a) (.k b)) rfl
theorem istep_call (f : FuncId) (args : List X) : istep call mode draw lo lim fresh (.call f args) ρ M = docall call mode draw lo lim f (args.map (ev ρ)) M := rfl
theorem docall_pure (f : FuncId) (args : List AV) (h : mode f = .pure) : docall call mode draw lo lim f args M = puC call lim f args M := by
  simp only [docall, h, puC]; rfl
theorem docall_ro (f : FuncId) (args : List AV) (h : mode f = .ro) : docall call mode draw lo lim f args M = roC call lim f args M := by
  simp only [docall, h, roC]; rfl
theorem docall_rw (f : FuncId) (args : List AV) (h : mode f = .rw) : docall call mode false lo lim f args M = call f args lo M := by
  simp only [docall, h, Bool.false_eq_true, if_false]
end
theorem puC_ok {call : CallT} {lim : Nat} {f : FuncId} {args : List AV} {M : MM} {r r' : AV} {M' : MM} (h : call f args 0 ⟨0, fun _ => none⟩ = some (r, M')) (hs : args.mapM (snap (look M.mem lim)) = some args) (hc : args.all closedA = true)
    (hf : freeze M'.mem 0 r = some r') : puC call lim f args M = some (r', M) := by
  simp only [puC, hs, h, hf, hc, Bool.true_or, if_true]
theorem map_pair (v : AV) (M : MM) : (some v).map (fun x => (x, M)) = some (v, M) := rfl
theorem mapk_nil {ρ : List AV} : ([] : List X).map (ev ρ) = [] := rfl
theorem mapk_cons {ρ : List AV} (a : AV) (l : List X) : (X.k a :: l).map (ev ρ) = a :: l.map (ev ρ) := rfl
theorem look_lt {m : Mem} {lim id : Nat} (h : id < lim) : look m lim id = m id := by simp [look, h]
theorem upd_same (m : Mem) (i : Nat) (b : Option Blk) : upd m i b i = b := by simp [upd]
theorem upd_ne (m : Mem) (i j : Nat) (b : Option Blk) (h : j ≠ i) : upd m i b j = m j := by simp [upd, h]
end Go.Proofs.Ytabhppamkhldeaa.Sx
