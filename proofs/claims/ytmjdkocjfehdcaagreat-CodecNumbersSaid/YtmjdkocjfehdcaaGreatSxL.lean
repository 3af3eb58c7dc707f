/-
  SX, PART L: LAWS for the simplifier: each step of a printed definition at arguments of a known shape. The list 'XE' + 'VV' of tpl.py names them.
-/
import Derived.Test.YtmjdkocjfehdcaaGreatSxF
namespace Go.Proofs.YtmjdkocjfehdcaaGreat.Sx
open Go
section
variable {R : Type} {A : Type}
@[congr] theorem bnd_congr {o o' : Option (AV × MM)} {k : AV → MM → Option R} (h : o = o') : bnd o k = bnd o' k := by rw [h]
@[congr] theorem opt_congr {o o' : Option A} {k : A → Option R} (h : o = o') : opt o k = opt o' k := by rw [h]
@[congr] theorem isB_congr {x x' : AV} {k : Bool → Option R} (h : x = x') : isB x k = isB x' k := by rw [h]
theorem bnd_some (v : AV) (M : MM) (k : AV → MM → Option R) : bnd (some (v, M)) k = k v M := rfl
theorem opt_some (v : A) (k : A → Option R) : opt (some v) k = k v := rfl
theorem isB_bool (b : Bool) (k : Bool → Option R) : isB (.bool b) k = k b := rfl
theorem bnd_gd (p b : Bool) (M : MM) (o : Option (AV × MM)) (k : AV → MM → Option R) : bnd (gd (.bool p) b M o) k = if p = b then bnd o k else k .undef M := by
  cases p <;> cases b <;> rfl
end
theorem gd_tt (M : MM) (o : Option (AV × MM)) : gd (.bool true) true M o = o := rfl
theorem gd_ff (M : MM) (o : Option (AV × MM)) : gd (.bool false) false M o = o := rfl
theorem gd_tf (M : MM) (o : Option (AV × MM)) : gd (.bool true) false M o = some (.undef, M) := rfl
theorem gd_ft (M : MM) (o : Option (AV × MM)) : gd (.bool false) true M o = some (.undef, M) := rfl
theorem gd_un (b : Bool) (M : MM) (o : Option (AV × MM)) : gd .undef b M o = some (.undef, M) := rfl
theorem pickA_t (a b : AV) : pickA (.bool true) a b = some a := rfl
theorem pickA_f (a b : AV) : pickA (.bool false) a b = some b := rfl
theorem pickA_and (p q : Bool) : pickA (.bool p) (.bool q) (.bool false) = some (.bool (p && q)) := by cases p <;> rfl
theorem pickA_or (p q : Bool) : pickA (.bool p) (.bool true) (.bool q) = some (.bool (p || q)) := by cases p <;> rfl
section
variable (k : IntKind) (a b : Int) (e : EK)
theorem binA_add : binA .add e (.int k a) (.int k b) = some (.int k (k.wrap (a + b))) := by simp [binA, ibin]
theorem binA_sub : binA .sub e (.int k a) (.int k b) = some (.int k (k.wrap (a - b))) := by simp [binA, ibin]
theorem binA_mul : binA .mul e (.int k a) (.int k b) = some (.int k (k.wrap (a * b))) := by simp [binA, ibin]
theorem binA_rem (h : b ≠ 0) : binA .rem e (.int k a) (.int k b) = some (.int k (a.tmod b)) := by simp [binA, ibin, h]
theorem binA_quo (h : b ≠ 0) : binA .quo e (.int k a) (.int k b) = some (.int k (k.wrap (a.tdiv b))) := by simp [binA, ibin, h]
theorem binA_eql : binA .eql e (.int k a) (.int k b) = some (.bool (decide (a = b))) := by simp [binA, ibin]; by_cases h : a = b <;> simp [h]
theorem binA_neq : binA .neq e (.int k a) (.int k b) = some (.bool (decide (a ≠ b))) := by simp [binA, ibin, bne]; by_cases h : a = b <;> simp [h]
theorem binA_lss : binA .lss e (.int k a) (.int k b) = some (.bool (decide (a < b))) := by simp [binA, ibin]
theorem binA_leq : binA .leq e (.int k a) (.int k b) = some (.bool (decide (a ≤ b))) := by simp [binA, ibin]
theorem binA_gtr : binA .gtr e (.int k a) (.int k b) = some (.bool (decide (b < a))) := by simp [binA, ibin]
theorem binA_geq : binA .geq e (.int k a) (.int k b) = some (.bool (decide (b ≤ a))) := by simp [binA, ibin]
theorem binA_and : binA .and e (.int k a) (.int k b) = some (.int k (bitsOf .and k a b)) := by simp [binA, ibin]
theorem binA_or : binA .or e (.int k a) (.int k b) = some (.int k (bitsOf .or k a b)) := by simp [binA, ibin]
theorem binA_shr (k' : IntKind) (h : 0 ≤ b) : binA .shr e (.int k a) (.int k' b) = some (.int k (a.fdiv (2 ^ (min b.toNat k.bits)))) := by
  simp [binA, ishift, Int.not_lt.2 h]
theorem binA_shl (k' : IntKind) (h : 0 ≤ b) : binA .shl e (.int k a) (.int k' b) = some (.int k (k.wrap (a * 2 ^ (min b.toNat k.bits)))) := by
  simp [binA, ishift, Int.not_lt.2 h]
theorem unA_neg : unA .neg (.int k a) = some (.int k (k.wrap (0 - a))) := rfl
theorem cviA_int (k' : IntKind) : cviA k' (.int k a) = some (.int k' (k'.wrap a)) := rfl
end
theorem binA_eqb (a b : Bool) : binA .eql .bool (.bool a) (.bool b) = some (.bool (a == b)) := rfl
theorem binA_neb (a b : Bool) : binA .neq .bool (.bool a) (.bool b) = some (.bool !(a == b)) := rfl
theorem binA_eqs (e : EK) (a b : ByteArray) : binA .eql e (.str a) (.str b) = some (.bool (a.data.toList == b.data.toList)) := rfl
theorem binA_nes (e : EK) (a b : ByteArray) : binA .neq e (.str a) (.str b) = some (.bool !(a.data.toList == b.data.toList)) := rfl
theorem binA_ptr_nil (id off : Nat) : binA .eql .ptr (.ptr id off) .nil = some (.bool false) := rfl
theorem binA_nil_nil : binA .eql .ptr .nil .nil = some (.bool true) := rfl
theorem binA_ip_nil (cs : List D) : binA .eql .ptr (.ip cs) .nil = some (.bool false) := rfl
theorem binA_ptr_nil' (id off : Nat) : binA .neq .ptr (.ptr id off) .nil = some (.bool true) := rfl
theorem binA_nil_nil' : binA .neq .ptr .nil .nil = some (.bool false) := rfl
theorem unA_not (b : Bool) : unA .not (.bool b) = some (.bool !b) := rfl
theorem extA_0 (a : AV) (l : List AV) : extA 0 (.tup (a :: l)) = some a := rfl
theorem extA_s (i : Nat) (a : AV) (l : List AV) : extA (i + 1) (.tup (a :: l)) = extA i (.tup l) := rfl
theorem extA_1 (a b : AV) (l : List AV) : extA 1 (.tup (a :: b :: l)) = some b := rfl
theorem extA_2 (a b c : AV) (l : List AV) : extA 2 (.tup (a :: b :: c :: l)) = some c := rfl
theorem extA_3 (a b c d : AV) (l : List AV) : extA 3 (.tup (a :: b :: c :: d :: l)) = some d := rfl
theorem lenA_sl (cs : List D) (n : Nat) : lenA (.d (.sl cs n)) = some (.i n) := rfl
theorem lenA_nil : lenA .nilsl = some (.i 0) := rfl
theorem lenA_os (id off len sz : Nat) : lenA (.os id off len sz) = some (.i len) := rfl
theorem lensA_str (s : ByteArray) : lensA (.str s) = some (.i s.data.size) := rfl
theorem nilcA_ptr (id off : Nat) : nilcA (.ptr id off) = some (.ptr id off) := rfl
theorem nilcA_ip (cs : List D) : nilcA (.ip cs) = some (.ip cs) := rfl
theorem fadA_ptr (o id off : Nat) : fadA o (.ptr id off) = some (.ptr id (off + o)) := rfl
theorem fadA_ip (o : Nat) (cs : List D) : fadA o (.ip cs) = some (.ip (cs.drop o)) := rfl
theorem ixsA_os (sz id off len s : Nat) (i : Int) (k : IntKind) (h : 0 ≤ i ∧ i < (len : Int)) : ixsA sz (.os id off len s) (.int k i) = some (.ptr id (off + i.toNat * sz)) := by simp [ixsA, asI, h]
theorem ixsA_sl (sz : Nat) (ds : List D) (len : Nat) (i : Int) (k : IntKind) (h : 0 ≤ i ∧ i < (len : Int)) : ixsA sz (.d (.sl ds len)) (.int k i) = some (.ip (ds.drop (i.toNat * sz))) := by simp [ixsA, asI, h]
theorem ld1A_ip (lk : Nat → Option Blk) (d : D) (ds : List D) : ld1A lk (.ip (d :: ds)) = some (.d d) := rfl
theorem ld1A_ptr (lk : Nat → Option Blk) (id off : Nat) (t : TypeId) (cs : List AV) (h : lk id = some (.cells t cs)) : ld1A lk (.ptr id off) = cs[off]? := by simp [ld1A, h]
section
variable (call : CallT) (mode : FuncId → Mode) (draw : Bool) (lo : Nat) (lim : Lm) (fresh : Nat) (ρ : List AV) (M : MM)
theorem docall_rw (f : FuncId) (args : List AV) (h : mode f = .rw) : docall call mode false lo lim f args M = call f args lo M := by
  simp only [docall, h, Bool.false_eq_true, if_false]
end
/-- A function without memory answers r. -/
def PC (call : CallT) (f : FuncId) (args : List AV) (r : AV) : Prop := ∃ r0 M', call f args 0 ⟨0, fun _ => none⟩ = some (r0, M') ∧ freeze M'.mem 0 r0 = some r

theorem puA_ok {call : CallT} {lk : Nat → Option Blk} {f : FuncId} {args : List AV} {r : AV} (h : PC call f args r) (hs : args.mapM (snap lk) = some args) (hc : args.all closedA = true) : puA call lk f args = some r := by
  obtain ⟨r0, M', h1, h2⟩ := h
  simp only [puA, hs, h1, h2, hc, Bool.true_or, if_true]
/-- .. where something of the caller's own is handed over, and what comes back is plain. -/
theorem puA_sc {call : CallT} {lk : Nat → Option Blk} {f : FuncId} {args args' : List AV} {r : AV} (h : PC call f args' r) (hs : args.mapM (snap lk) = some args') (hc : scalT r = true) : puA call lk f args = some r := by
  obtain ⟨r0, M', h1, h2⟩ := h
  simp only [puA, hs, h1, h2, hc, Bool.or_true, if_true]
theorem roA_ok {call : CallT} {lim : Lm} {f : FuncId} {args : List AV} {M : MM} {r r' : AV} {M' : MM} (h : call f args M.nx ⟨M.nx, look M.mem lim⟩ = some (r, M')) (hf : freeze M'.mem M.nx r = some r') : roA call lim f args M = some r' := by
  simp only [roA, h, hf]
theorem rwD_ok {call : CallT} {f : FuncId} {args : List AV} {lo : Nat} {L : Lm} {M M' : MM} {r : AV} (h : call f args lo ⟨M.nx, hideM L M.mem⟩ = some (r, M')) (hn : M.nx ≤ M'.nx) : rwD call f args lo L M = some (r, ⟨M'.nx, backM L M.nx M.mem M'.mem⟩) := by
  simp only [rwD, h, hn, if_true]
/-- Nothing has turned. -/
theorem back_hide (L : Lm) (nx : Nat) (m : Mem) : backM L nx m (hideM L m) = m := by
  funext id
  unfold backM hideM
  split
  · rfl
  · split
    · rename_i h; simp only [Bool.and_eq_true, Option.isNone_iff_eq_none] at h; exact h.2.symm
    · rfl
theorem map_pair (v : AV) (M : MM) : (some v).map (fun x => (x, M)) = some (v, M) := rfl
theorem mapk_nil {ρ : List AV} : ([] : List X).map (ev ρ) = [] := rfl
theorem mapk_cons {ρ : List AV} (a : AV) (l : List X) : (X.k a :: l).map (ev ρ) = a :: l.map (ev ρ) := rfl
theorem look_ok {m : Mem} {lim : Lm} {id : Nat} (h : lim.ok id = true) : look m lim id = m id := by simp [look, h]
theorem look_lt {m : Mem} {lim : Lm} {id : Nat} (h : id < lim.b) : look m lim id = m id := look_ok (ok_lt h)
theorem upd_same (m : Mem) (i : Nat) (b : Option Blk) : upd m i b i = b := by simp [upd]
theorem upd_ne (m : Mem) (i j : Nat) (b : Option Blk) (h : j ≠ i) : upd m i b j = m j := by simp [upd, h]
end Go.Proofs.YtmjdkocjfehdcaaGreat.Sx
