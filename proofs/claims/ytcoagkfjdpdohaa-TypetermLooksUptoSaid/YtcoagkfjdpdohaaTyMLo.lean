/- TYPES: made types: how large they are; rolling and making in a law. -/
import Derived.Test.YtcoagkfjdpdohaaTyJLo
import Derived.Test.YtcoagkfjdpdohaaTyLLo
namespace Go.Proofs.Ytcoagkfjdpdohaa.Sx
open Go
set_option maxRecDepth 1000000
set_option linter.unusedSimpArgs false
set_option linter.unusedVariables false

theorem opens_len (f : List Int → Ty × List Int) : ∀ (n : Nat) (r : List Int), (opens f n r).1.length = n
  | 0, _ => rfl
  | n + 1, r => by simp only [opens, List.length_cons, opens_len f n]
theorem opens_size {f : List Int → Ty × List Int} {B : Nat} (h : ∀ r, (f r).1.size ≤ B) : ∀ (n : Nat) (r : List Int), sizes (opens f n r).1 ≤ n * B
  | 0, _ => Nat.zero_le _
  | n + 1, r => by
    have h1 := h r
    have h2 := opens_size h n (f r).2
    simp only [opens, sizes]
    rw [Nat.succ_mul]
    omega
theorem openT_size0 (r : List Int) : (openT 0 r).1.size ≤ 1 := by
  rw [openT]
  split <;> simp [Ty.size, sizes]
theorem openT_sizeS {k B : Nat} (h : ∀ r, (openT k r).1.size ≤ B) (r : List Int) : (openT (k + 1) r).1.size ≤ 1 + (if 0 < k then 3 else 1) * B := by
  rw [openT]
  split
  · have := opens_size h 1 (nextI 9 r).2
    simp only [openB, Ty.size]
    split <;> omega
  · split
    · rename_i h2
      obtain ⟨m, em, hm⟩ := nextI_lt 4 (by decide) (nextI 9 r).2
      have := opens_size h (nextI 4 (nextI 9 r).2).1.toNat (nextI 4 (nextI 9 r).2).2
      have h3 : (nextI 4 (nextI 9 r).2).1.toNat ≤ 3 := by rw [em]; omega
      have h4 := Nat.mul_le_mul_right B h3
      simp only [openB, Ty.size]
      rw [if_pos h2.2]
      omega
    · simp only [Ty.size, sizes]; split <;> omega
theorem openT_size1 (r : List Int) : (openT 1 r).1.size ≤ 2 := openT_sizeS openT_size0 r
theorem openT_size2 (r : List Int) : (openT 2 r).1.size ≤ 7 := openT_sizeS openT_size1 r
theorem openT_size3 (r : List Int) : (openT 3 r).1.size ≤ 22 := openT_sizeS openT_size2 r
theorem openT_size4 (r : List Int) : (openT 4 r).1.size ≤ 67 := openT_sizeS openT_size3 r

section
variable {call : CallT} (hc : Lim G call)
include hc
/-- A made type, in a law. -/
theorem rn_open {R : Type} {Q : R → Prop} {d : Int} (k : Nat) {id : Nat} {r : List Int} {M : MM} {kk : AV → MM → Option R} (hd : d = (k : Int) - 1) (hk0 : k ≤ 1000) (h : DI M id r) (hk : ∀ M', DI M' id (openT k r).2 → FrD id M M' → Wp (kk (avT (openT k r).1) M') Q) : Wp (bnd (call 11 [.ptr id 0, .i d] 0 M) kk) Q := by
  subst hd
  refine rn_wp (open_d hc k r M hk0 h) fun v M' hh => ?_
  obtain ⟨h1, h2, h3⟩ := hh
  simp only at h1 h2 h3
  subst h1
  exact hk M' h2 h3
end
end Go.Proofs.Ytcoagkfjdpdohaa.Sx
