/-
  SX, PART L: LAWS for the simplifier: each step of a printed definition at arguments of a known shape. The list 'XE' + 'VV' of tpl.py names them.
-/
import Derived.Test.YtegkhdflmboljaaSxFPl
namespace Go.Proofs.Ytegkhdflmboljaa.Sx
open Go
section
variable {R : Type} {A : Type}
@[congr] theorem bnd_congr {o o' : Option (AV × MM)} {k : AV → MM → Option R} (h : o = o') : bnd o k = bnd o' k := by rw [h]
@[congr] theorem opt_congr {o o' : Option A} {k : A → Option R} (h : o = o') : opt o k = opt o' k := by rw [h]
@[congr] theorem isB_congr {x x' : AV} {k : Bool → Option R} (h : x = x') : isB x k = isB x' k := by rw [h]
end
section
variable (k : IntKind) (a b : Int) (e : EK)
theorem binA_add : binA .add e (.int k a) (.int k b) = some (.int k (k.wrap (a + b))) := by simp [binA, ibin]
theorem binA_sub : binA .sub e (.int k a) (.int k b) = some (.int k (k.wrap (a - b))) := by simp [binA, ibin]
theorem binA_mul : binA .mul e (.int k a) (.int k b) = some (.int k (k.wrap (a * b))) := by simp [binA, ibin]
theorem binA_rem (h : b ≠ 0) : binA .rem e (.int k a) (.int k b) = some (.int k (a.tmod b)) := by simp [binA, ibin, h]
theorem binA_quo (h : b ≠ 0) : binA .quo e (.int k a) (.int k b) = some (.int k (k.wrap (a.tdiv b))) := by simp [binA, ibin, h]
theorem binA_eql : binA .eql e (.int k a) (.int k b) = some (.bool (decide (a = b))) := by simp [binA, ibin]; by_cases h : a = b <;> simp [h]
theorem binA_neq : binA .neq e (.int k a) (.int k b) = some (.bool (decide (a ≠ b))) := by simp [binA, ibin, bne]; by_cases h : a = b <;> simp [h]
theorem binA_lss : binA .lss e (.int k a) (.int k b) = some (.bool (decide (a < b))) := by simp [binA, ibin]
theorem binA_leq : binA .leq e (.int k a) (.int k b) = some (.bool (decide (a ≤ b))) := by simp [binA, ibin]
theorem binA_gtr : binA .gtr e (.int k a) (.int k b) = some (.bool (decide (b < a))) := by simp [binA, ibin]
theorem binA_geq : binA .geq e (.int k a) (.int k b) = some (.bool (decide (b ≤ a))) := by simp [binA, ibin]
theorem cviA_int (k' : IntKind) : cviA k' (.int k a) = some (.int k' (k'.wrap a)) := rfl
end
theorem ixsA_os (sz id off len s : Nat) (i : Int) (k : IntKind) (h : 0 ≤ i ∧ i < (len : Int)) : ixsA sz (.os id off len s) (.int k i) = some (.ptr id (off + i.toNat * sz)) := by simp [ixsA, asI, h]
theorem ixsA_sl (sz : Nat) (ds : List D) (len : Nat) (i : Int) (k : IntKind) (h : 0 ≤ i ∧ i < (len : Int)) : ixsA sz (.d (.sl ds len)) (.int k i) = some (.ip (ds.drop (i.toNat * sz))) := by simp [ixsA, asI, h]
theorem ld1A_ptr (lk : Nat → Option Blk) (id off : Nat) (t : TypeId) (cs : List AV) (h : lk id = some (.cells t cs)) : ld1A lk (.ptr id off) = cs[off]? := by simp [ld1A, h]
section
variable (call : CallT) (mode : FuncId → Mode) (draw : Bool) (lo : Nat) (lim : Lm) (fresh : Nat) (ρ : List AV) (M : MM)
end
def PC (call : CallT) (f : FuncId) (args : List AV) (r : AV) : Prop := ∃ r0 M', call f args 0 ⟨0, fun _ => none⟩ = some (r0, M') ∧ freeze M'.mem 0 r0 = some r

theorem puA_ok {call : CallT} {lk : Nat → Option Blk} {f : FuncId} {args : List AV} {r : AV} (h : PC call f args r) (hs : args.mapM (snap lk) = some args) (hc : args.all closedA = true) : puA call lk f args = some r := by
  obtain ⟨r0, M', h1, h2⟩ := h
  simp only [puA, hs, h1, h2, hc, Bool.true_or, if_true]
theorem rwD_ok {call : CallT} {f : FuncId} {args : List AV} {lo : Nat} {L : Lm} {M M' : MM} {r : AV} (h : call f args lo ⟨M.nx, hideM L M.mem⟩ = some (r, M')) (hn : M.nx ≤ M'.nx) : rwD call f args lo L M = some (r, ⟨M'.nx, backM L M.nx M.mem M'.mem⟩) := by
  simp only [rwD, h, hn, if_true]
theorem look_ok {m : Mem} {lim : Lm} {id : Nat} (h : lim.ok id = true) : look m lim id = m id := by simp [look, h]
theorem look_lt {m : Mem} {lim : Lm} {id : Nat} (h : id < lim.b) : look m lim id = m id := look_ok (ok_lt h)
theorem upd_same (m : Mem) (i : Nat) (b : Option Blk) : upd m i b i = b := by simp [upd]
theorem upd_ne (m : Mem) (i j : Nat) (b : Option Blk) (h : j ≠ i) : upd m i b j = m j := by simp [upd, h]
end Go.Proofs.Ytegkhdflmboljaa.Sx
