/- NUMBERS AND THEIR BYTES: plain laws, no program in sight. -/
import Derived.Test.YtmjdkocjfehdcaaGreatSxL
namespace Go.Proofs.YtmjdkocjfehdcaaGreat.Sx
open Go
set_option linter.unusedSimpArgs false
set_option linter.unusedVariables false

/-- The number of some bytes, the least significant first. -/
def valB : List Nat → Nat
  | [] => 0
  | b :: r => b + 256 * valB r
/-- The first k bytes of a number. -/
def bytesB : Nat → Nat → List Nat
  | _, 0 => []
  | n, k + 1 => n % 256 :: bytesB (n / 256) k
theorem bytesB_len : ∀ (n k : Nat), (bytesB n k).length = k
  | _, 0 => rfl
  | n, k + 1 => by simp [bytesB, bytesB_len]
theorem valB_bytes : ∀ (n k : Nat), valB (bytesB n k) = n % 256 ^ k
  | n, 0 => by simp [bytesB, valB, Nat.mod_one]
  | n, k + 1 => by
    rw [bytesB, valB, valB_bytes (n / 256) k, Nat.pow_succ', Nat.mod_mul]
theorem valB_append : ∀ (a b : List Nat), valB (a ++ b) = valB a + 256 ^ a.length * valB b
  | [], b => by simp [valB]
  | x :: a, b => by
    rw [List.cons_append, valB, valB, valB_append a b, List.length_cons, Nat.pow_succ', Nat.mul_add, Nat.mul_assoc]; omega
theorem valB_zeros : ∀ k : Nat, valB (List.replicate k 0) = 0
  | 0 => rfl
  | k + 1 => by rw [List.replicate_succ, valB, valB_zeros k]
theorem valB_lt : ∀ (l : List Nat), (∀ x ∈ l, x < 256) → valB l < 256 ^ l.length
  | [], _ => by simp [valB]
  | b :: r, h => by
    have h1 := h b (by simp)
    have h2 := valB_lt r fun x hx => h x (by simp [hx])
    rw [valB, List.length_cons, Nat.pow_succ']
    have h3 : valB r + 1 ≤ 256 ^ r.length := h2
    have h4 := Nat.mul_le_mul_left 256 h3
    omega
theorem bytesB_mem : ∀ (n k x : Nat), x ∈ bytesB n k → x < 256
  | _, 0, _, h => by simp [bytesB] at h
  | n, k + 1, x, h => by
    simp only [bytesB, List.mem_cons] at h
    rcases h with rfl | h
    · exact Nat.mod_lt _ (by decide)
    · exact bytesB_mem _ k x h
theorem bytesB_get : ∀ (n k i : Nat), i < k → (bytesB n k)[i]? = some (n / 256 ^ i % 256)
  | n, k + 1, 0, _ => by simp [bytesB]
  | n, k + 1, i + 1, h => by
    rw [bytesB, List.getElem?_cons_succ, bytesB_get (n / 256) k i (by omega), Nat.pow_succ', Nat.div_div_eq_div_mul]
theorem valB_take_succ {l : List Nat} {i b : Nat} (h : l[i]? = some b) : valB (l.take (i + 1)) = valB (l.take i) + 256 ^ i * b := by
  obtain ⟨hi, hb⟩ := List.getElem?_eq_some_iff.1 h
  rw [List.take_add_one, h, Option.toList_some, valB_append, List.length_take, Nat.min_eq_left (by omega), valB, valB, Nat.mul_zero, Nat.add_zero]

/-- Bits that do not meet. -/
theorem or_add {a b i : Nat} (h : a < 2 ^ i) : a ||| b * 2 ^ i = a + b * 2 ^ i := by
  rw [Nat.or_comm, ← Nat.shiftLeft_eq, ← Nat.shiftLeft_add_eq_or_of_lt h, Nat.shiftLeft_eq, Nat.add_comm]
theorem pow256 (i : Nat) : 256 ^ i = 2 ^ (8 * i) := by rw [show (256 : Nat) = 2 ^ 8 from rfl, ← Nat.pow_mul]
theorem u64_or {a b : Nat} (ha : a < 2 ^ 64) (hb : b < 2 ^ 64) : bitsOf .or .u64 a b = ((a ||| b : Nat) : Int) := by
  have hl : a ||| b < 2 ^ 64 := Nat.or_lt_two_pow ha hb
  have e : (BitVec.ofInt IntKind.u64.bits (a : Int) ||| BitVec.ofInt IntKind.u64.bits (b : Int)).toNat = a ||| b := by
    rw [BitVec.ofInt_natCast, BitVec.ofInt_natCast, BitVec.toNat_or, BitVec.toNat_ofNat, BitVec.toNat_ofNat, show IntKind.u64.bits = 64 from rfl, Nat.mod_eq_of_lt ha, Nat.mod_eq_of_lt hb]
  show IntKind.u64.wrap _ = _
  rw [e]
  exact IntWalk.u64_in _ (by omega)
theorem u64_and {a b : Nat} (ha : a < 2 ^ 64) (hb : b < 2 ^ 64) : bitsOf .and .u64 a b = ((a &&& b : Nat) : Int) := by
  have hl : a &&& b < 2 ^ 64 := Nat.lt_of_le_of_lt Nat.and_le_left ha
  have e : (BitVec.ofInt IntKind.u64.bits (a : Int) &&& BitVec.ofInt IntKind.u64.bits (b : Int)).toNat = a &&& b := by
    rw [BitVec.ofInt_natCast, BitVec.ofInt_natCast, BitVec.toNat_and, BitVec.toNat_ofNat, BitVec.toNat_ofNat, show IntKind.u64.bits = 64 from rfl, Nat.mod_eq_of_lt ha, Nat.mod_eq_of_lt hb]
  show IntKind.u64.wrap _ = _
  rw [e]
  exact IntWalk.u64_in _ (by omega)
end Go.Proofs.YtmjdkocjfehdcaaGreat.Sx
