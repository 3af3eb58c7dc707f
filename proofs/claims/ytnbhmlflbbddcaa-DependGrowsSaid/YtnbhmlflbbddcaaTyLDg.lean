/- TYPES: what the laws share. -/
import Derived.Test.YtnbhmlflbbddcaaTyIDg
namespace Go.Proofs.Ytnbhmlflbbddcaa.Sx
open Go
set_option maxRecDepth 1000000
set_option linter.unusedSimpArgs false
set_option linter.unusedVariables false

theorem gT_put (c : Nat → Nat) (hc : ∀ m, 4096 < m → 4096 < c m) (ns : List ByteArray) (bs : List Ty) : ∀ n, (∀ t : Ty, t.size ≤ n → (4096 < gT c ns (bs.map Ty.size) t ∧ 4096 < (putT ns bs t).size) ∨ gT c ns (bs.map Ty.size) t = (putT ns bs t).size) := by
  have look : ∀ (s : ByteArray) (ns : List ByteArray) (bs : List Ty), look? ns (bs.map Ty.size) s = (look? ns bs s).map Ty.size := by
    intro s ns
    induction ns with
    | nil => intro bs; simp [look?]
    | cons n ns ih =>
      intro bs
      cases bs with
      | nil => simp [look?]
      | cons b bs => simp only [List.map_cons, look?, ih]; split <;> rfl
  have hereE : ∀ (n : ByteArray) (l : List Ty), here ns (bs.map Ty.size) n l = (here ns bs n l).map Ty.size := by
    intro n l
    unfold here
    split
    · exact look _ _ _
    · rfl
  intro n
  induction n with
  | zero => intro t h; have := t.size_pos; omega
  | succ n ih =>
    intro t h
    have hs := t.size_eq
    rw [gT_eq, putT_eq, hereE]
    cases here ns bs t.name t.args with
    | some x => exact .inr rfl
    | none =>
      have : ∀ (l : List Ty) (a : Nat), sizes l ≤ n → (4096 < gTs c ns (bs.map Ty.size) a l ∧ 4096 < a + sizes (putTs ns bs l)) ∨ gTs c ns (bs.map Ty.size) a l = a + sizes (putTs ns bs l) := by
        intro l
        induction l with
        | nil => intro a _; exact .inr rfl
        | cons x r ihr =>
          intro a hl
          simp only [sizes] at hl
          have hx := ih x (by omega)
          simp only [gTs, putTs, sizes]
          by_cases h1 : 4096 < a + gT c ns (bs.map Ty.size) x
          · rw [if_pos h1]
            exact .inl ⟨hc _ h1, by omega⟩
          · have e : gT c ns (bs.map Ty.size) x = (putT ns bs x).size := by omega
            rw [if_neg h1]
            have := ihr (a + gT c ns (bs.map Ty.size) x) (by omega)
            rw [e] at this ⊢
            omega
      have := this t.args 1 (by omega)
      simp only [Option.map_none, Ty.size]
      exact this

theorem substT_ok {ns : List ByteArray} {bs : List Ty} {t : Ty} (h1 : ns.length = bs.length) (h2 : twice ns = false) : substT ns bs t = if 4096 < (putT ns bs t).size then (ty0, 4) else (putT ns bs t, 0) := by
  have h := gT_put (fun m => m) (fun _ h => h) ns bs t.size t (Nat.le_refl _)
  unfold substT
  rw [if_neg (by omega), if_neg (by rw [h2]; simp)]
  by_cases hg : 4096 < gT (fun m => m) ns (bs.map Ty.size) t
  · rw [if_pos hg, if_pos (by omega)]
  · rw [if_neg hg, if_neg (by omega)]

mutual
theorem putT_size (ns : List ByteArray) (bs : List Ty) (B : Nat) (hB : 1 ≤ B) (h : ∀ x ∈ bs, x.size ≤ B) : ∀ t : Ty, (putT ns bs t).size ≤ B * t.size
  | .mk n l => by
    rw [putT]
    split
    · rename_i x hx
      have h1 := h x (here_mem hx)
      have h2 : B * 1 ≤ B * (Ty.mk n l).size := Nat.mul_le_mul_left _ (Ty.size_pos _)
      omega
    · have h1 := putTs_size ns bs B hB h l
      rw [Ty.size, Ty.size, Nat.mul_add, Nat.mul_one]
      omega
theorem putTs_size (ns : List ByteArray) (bs : List Ty) (B : Nat) (hB : 1 ≤ B) (h : ∀ x ∈ bs, x.size ≤ B) : ∀ l : List Ty, sizes (putTs ns bs l) ≤ B * sizes l
  | [] => Nat.zero_le _
  | t :: r => by
    have h1 := putT_size ns bs B hB h t
    have h2 := putTs_size ns bs B hB h r
    rw [putTs, sizes, sizes, Nat.mul_add]
    omega
end

theorem rn_appS {m : Mem} {lim : Lm} {l : List ByteArray} {n : ByteArray} {bytes : Nat} {R : Type} {r : R → Prop} {k : AV → Option R} (hb : (l.length + 1) * bytes ≤ 140737488355328 ∧ l.length + 1 ≤ 9223372036854775807) (hk : Wp (k (avS (l ++ [n]))) r) : Wp (opt (wappA m lim 1 bytes (avS l) (avS [n])) k) r := by
  refine rn_wapp rfl hb ?_
  have e : encS l ++ encS [n] = encS (l ++ [n]) := by simp [encS]
  have e2 : l.length + 1 = (l ++ [n]).length := by simp
  show Wp (k (.d (.sl (encS l ++ encS [n]) (l.length + 1)))) r
  rw [e, e2]; exact hk
end Go.Proofs.Ytnbhmlflbbddcaa.Sx
