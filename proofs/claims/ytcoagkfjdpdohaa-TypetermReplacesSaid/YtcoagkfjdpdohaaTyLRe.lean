/- TYPES: what the laws share. -/
import Derived.Test.YtcoagkfjdpdohaaTyIRe
namespace Go.Proofs.Ytcoagkfjdpdohaa.Sx
open Go
set_option maxRecDepth 1000000
set_option linter.unusedSimpArgs false
set_option linter.unusedVariables false

theorem awake_run : (acall G 200 10 [] 0 ⟨0, fun _ => none⟩).map Prod.fst = some (.bool true) := by kernel_rfl
theorem awake_pc {call : CallT} (hc : Lim G call) : PC call 10 [] (.bool true) := hc.closed 200 awake_run (fz_b true)

/-- The size that is reckoned is that of what is made, as far as neither is above the limit. -/
theorem gT_put (c : Nat → Nat) (hc : ∀ m, 4096 < m → 4096 < c m) (ns : List ByteArray) (bs : List Ty) : ∀ n, (∀ t : Ty, t.size ≤ n → (4096 < gT c ns (bs.map Ty.size) t ∧ 4096 < (putT ns bs t).size) ∨ gT c ns (bs.map Ty.size) t = (putT ns bs t).size) := by
  have look : ∀ (s : ByteArray) (ns : List ByteArray) (bs : List Ty), look? ns (bs.map Ty.size) s = (look? ns bs s).map Ty.size := by
    intro s ns
    induction ns with
    | nil => intro bs; simp [look?]
    | cons n ns ih =>
      intro bs
      cases bs with
      | nil => simp [look?]
      | cons b bs => simp only [List.map_cons, look?, ih]; split <;> rfl
  have hereE : ∀ (n : ByteArray) (l : List Ty), here ns (bs.map Ty.size) n l = (here ns bs n l).map Ty.size := by
    intro n l
    unfold here
    split
    · exact look _ _ _
    · rfl
  intro n
  induction n with
  | zero => intro t h; have := t.size_pos; omega
  | succ n ih =>
    intro t h
    have hs := t.size_eq
    rw [gT_eq, putT_eq, hereE]
    cases here ns bs t.name t.args with
    | some x => exact .inr rfl
    | none =>
      have : ∀ (l : List Ty) (a : Nat), sizes l ≤ n → (4096 < gTs c ns (bs.map Ty.size) a l ∧ 4096 < a + sizes (putTs ns bs l)) ∨ gTs c ns (bs.map Ty.size) a l = a + sizes (putTs ns bs l) := by
        intro l
        induction l with
        | nil => intro a _; exact .inr rfl
        | cons x r ihr =>
          intro a hl
          simp only [sizes] at hl
          have hx := ih x (by omega)
          simp only [gTs, putTs, sizes]
          by_cases h1 : 4096 < a + gT c ns (bs.map Ty.size) x
          · rw [if_pos h1]
            exact .inl ⟨hc _ h1, by omega⟩
          · have e : gT c ns (bs.map Ty.size) x = (putT ns bs x).size := by omega
            rw [if_neg h1]
            have := ihr (a + gT c ns (bs.map Ty.size) x) (by omega)
            rw [e] at this ⊢
            omega
      have := this t.args 1 (by omega)
      simp only [Option.map_none, Ty.size]
      exact this

/-- What Substitute answers, for names that stand once. -/
theorem substT_ok {ns : List ByteArray} {bs : List Ty} {t : Ty} (h1 : ns.length = bs.length) (h2 : twice ns = false) : substT ns bs t = if 4096 < (putT ns bs t).size then (ty0, 4) else (putT ns bs t, 0) := by
  have h := gT_put (fun m => m) (fun _ h => h) ns bs t.size t (Nat.le_refl _)
  unfold substT
  rw [if_neg (by omega), if_neg (by rw [h2]; simp)]
  by_cases hg : 4096 < gT (fun m => m) ns (bs.map Ty.size) t
  · rw [if_pos hg, if_pos (by omega)]
  · rw [if_neg hg, if_neg (by omega)]


mutual
theorem putT_size (ns : List ByteArray) (bs : List Ty) (B : Nat) (hB : 1 ≤ B) (h : ∀ x ∈ bs, x.size ≤ B) : ∀ t : Ty, (putT ns bs t).size ≤ B * t.size
  | .mk n l => by
    rw [putT]
    split
    · rename_i x hx
      have h1 := h x (here_mem hx)
      have h2 : B * 1 ≤ B * (Ty.mk n l).size := Nat.mul_le_mul_left _ (Ty.size_pos _)
      omega
    · have h1 := putTs_size ns bs B hB h l
      rw [Ty.size, Ty.size, Nat.mul_add, Nat.mul_one]
      omega
theorem putTs_size (ns : List ByteArray) (bs : List Ty) (B : Nat) (hB : 1 ≤ B) (h : ∀ x ∈ bs, x.size ≤ B) : ∀ l : List Ty, sizes (putTs ns bs l) ≤ B * sizes l
  | [] => Nat.zero_le _
  | t :: r => by
    have h1 := putT_size ns bs B hB h t
    have h2 := putTs_size ns bs B hB h r
    rw [putTs, sizes, sizes, Nat.mul_add]
    omega
end

/-- Substitute, where nothing is wrong. -/
theorem subst_ok {call : CallT} (hc : Lim G call) (ns : List ByteArray) (bs : List Ty) (t : Ty) (h1 : ns.length = bs.length) (h2 : twice ns = false) (hn : ns.length ≤ 1000000000000) (B : Nat) (hB : 1 ≤ B) (hb : ∀ x ∈ bs, x.size ≤ B) (ht : B * t.size ≤ 4096) : PC call 18 [avT t, avS ns, avTs bs] (.tup [avT (putT ns bs t), .i 0]) := by
  have h3 : B * 1 ≤ B * t.size := Nat.mul_le_mul_left _ (Ty.size_pos _)
  have h4 : 1 * t.size ≤ B * t.size := Nat.mul_le_mul_right _ hB
  have h := subst_pc hc ns bs t hn (by omega) (fun x hx => by have := hb x hx; omega) (by omega)
  have h5 := putT_size ns bs B hB hb t
  rw [substT_ok h1 h2, if_neg (by omega)] at h
  exact h

theorem rn_wslS3 {s1 s2 s3 : ByteArray} {a b c : AV} {R : Type} {r : R → Prop} {k : AV → Option R} (hk : Wp (k (avS [s1, s2, s3])) r) : Wp (opt (wslA 3 (fill [a, b, c] [(0, 1, .str s1), (1, 1, .str s2), (2, 1, .str s3)])) k) r := rn_wsl (ds := encS [s1, s2, s3]) rfl hk
theorem rn_wslS2 {s1 s2 : ByteArray} {a b : AV} {R : Type} {r : R → Prop} {k : AV → Option R} (hk : Wp (k (avS [s1, s2])) r) : Wp (opt (wslA 2 (fill [a, b] [(0, 1, .str s1), (1, 1, .str s2)])) k) r := rn_wsl (ds := encS [s1, s2]) rfl hk
theorem rn_wslT3 {t1 t2 t3 : Ty} {a b c d e f : AV} {R : Type} {r : R → Prop} {k : AV → Option R} (hk : Wp (k (avTs [t1, t2, t3])) r) : Wp (opt (wslA 3 (fill [a, b, c, d, e, f] [(0, 2, avT t1), (2, 2, avT t2), (4, 2, avT t3)])) k) r := by
  refine rn_wsl (ds := encTs [t1, t2, t3]) ?_ hk
  simp only [encTs, encT_eq, List.cons_append, List.nil_append]; rfl
theorem rn_wslT2 {t1 t2 : Ty} {a b c d : AV} {R : Type} {r : R → Prop} {k : AV → Option R} (hk : Wp (k (avTs [t1, t2])) r) : Wp (opt (wslA 2 (fill [a, b, c, d] [(0, 2, avT t1), (2, 2, avT t2)])) k) r := by
  refine rn_wsl (ds := encTs [t1, t2]) ?_ hk
  simp only [encTs, encT_eq, List.cons_append, List.nil_append]; rfl
theorem rn_appT1 {m : Mem} {lim : Lm} {l : List Ty} {t : Ty} {bytes : Nat} {R : Type} {r : R → Prop} {k : AV → Option R} (hb : (l.length + 1) * bytes ≤ 140737488355328 ∧ l.length + 1 ≤ 9223372036854775807) (hk : Wp (k (avTs (l ++ [t]))) r) :
    Wp (opt (wappA m lim 2 bytes (avTs l) (avTs [t])) k) r := by
  have e : AV.d (.sl (encT t) 1) = avTs [t] := by simp [encTs]
  rw [← e]
  exact rn_appT hb hk
theorem rn_appS {m : Mem} {lim : Lm} {l : List ByteArray} {n : ByteArray} {bytes : Nat} {R : Type} {r : R → Prop} {k : AV → Option R} (hb : (l.length + 1) * bytes ≤ 140737488355328 ∧ l.length + 1 ≤ 9223372036854775807) (hk : Wp (k (avS (l ++ [n]))) r) : Wp (opt (wappA m lim 1 bytes (avS l) (avS [n])) k) r := by
  refine rn_wapp rfl hb ?_
  have e : encS l ++ encS [n] = encS (l ++ [n]) := by simp [encS]
  have e2 : l.length + 1 = (l ++ [n]).length := by simp
  show Wp (k (.d (.sl (encS l ++ encS [n]) (l.length + 1)))) r
  rw [e, e2]; exact hk
end Go.Proofs.Ytcoagkfjdpdohaa.Sx
