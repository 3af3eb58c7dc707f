/- TYPES: replacing names: the parts. -/
import Derived.Test.YtnbhmlflbbddcaaTyFDg
namespace Go.Proofs.Ytnbhmlflbbddcaa.Sx
open Go
set_option maxRecDepth 1000000
set_option linter.unusedSimpArgs false
set_option linter.unusedVariables false

def twiceF : List ByteArray → List ByteArray → Bool
  | _, [] => false
  | d, x :: s => hasS d x || twiceF (d ++ [x]) s
abbrev twice (l : List ByteArray) : Bool := twiceF [] l

def look? {α : Type} : List ByteArray → List α → ByteArray → Option α
  | n :: ns, x :: xs, s => if n = s then some x else look? ns xs s
  | _, _, _ => none
theorem look_ix {α : Type} (s : ByteArray) : ∀ (ns : List ByteArray) (xs : List α) (i : Nat), ns.length = xs.length →
    (look? ns xs s = none ∧ ixFrom ns s i = -1) ∨ (∃ k x, x ∈ xs ∧ xs.drop k = x :: xs.drop (k + 1) ∧ look? ns xs s = some x ∧ ixFrom ns s i = ((i + k : Nat) : Int))
  | [], [], i, _ => .inl ⟨rfl, rfl⟩
  | n :: ns, x :: xs, i, h => by
    simp only [look?, ixFrom]
    by_cases hn : n = s
    · exact .inr ⟨0, x, by simp, by simp, by rw [if_pos hn], by rw [if_pos hn, Nat.add_zero]⟩
    · rw [if_neg hn, if_neg hn]
      rcases look_ix s ns xs (i + 1) (by simpa using h) with ⟨h1, h2⟩ | ⟨k, y, hm, hd, h1, h2⟩
      · exact .inl ⟨h1, h2⟩
      · exact .inr ⟨k + 1, y, by simp [hm], by simpa using hd, h1, by rw [h2]; congr 1; omega⟩
  | [], _ :: _, _, h => by simp at h
  | _ :: _, [], _, h => by simp at h

theorem look_ix0 {α : Type} (s : ByteArray) (ns : List ByteArray) (xs : List α) (h : ns.length = xs.length) :
    (look? ns xs s = none ∧ ixS ns s = -1) ∨ (∃ k x, x ∈ xs ∧ xs.drop k = x :: xs.drop (k + 1) ∧ look? ns xs s = some x ∧ ixS ns s = (k : Int)) := by
  have := look_ix s ns xs 0 h
  simp only [Nat.zero_add] at this; exact this

def here {α : Type} (ns : List ByteArray) (xs : List α) (n : ByteArray) (l : List Ty) : Option α := if l.isEmpty then look? ns xs n else none
mutual
/-- The size of a type with names replaced by types of some sizes; c: what is said of one above the limit. -/
def gT (c : Nat → Nat) (ns : List ByteArray) (sz : List Nat) : Ty → Nat
  | .mk n l => match here ns sz n l with
    | some x => x
    | none => gTs c ns sz 1 l
def gTs (c : Nat → Nat) (ns : List ByteArray) (sz : List Nat) : Nat → List Ty → Nat
  | a, [] => a
  | a, t :: r => if 4096 < a + gT c ns sz t then c (a + gT c ns sz t) else gTs c ns sz (a + gT c ns sz t) r
end
theorem gT_eq (c : Nat → Nat) (ns : List ByteArray) (sz : List Nat) (t : Ty) : gT c ns sz t = match here ns sz t.name t.args with
    | some x => x
    | none => gTs c ns sz 1 t.args := by cases t; simp only [gT, Ty.name, Ty.args]
mutual
def putT (ns : List ByteArray) (bs : List Ty) : Ty → Ty
  | .mk n l => match here ns bs n l with
    | some x => x
    | none => .mk n (putTs ns bs l)
def putTs (ns : List ByteArray) (bs : List Ty) : List Ty → List Ty
  | [] => []
  | t :: r => putT ns bs t :: putTs ns bs r
end
theorem putT_eq (ns : List ByteArray) (bs : List Ty) (t : Ty) : putT ns bs t = match here ns bs t.name t.args with
    | some x => x
    | none => .mk t.name (putTs ns bs t.args) := by cases t; simp only [putT, Ty.name, Ty.args]

theorem look_mem {α : Type} {s : ByteArray} : ∀ {ns : List ByteArray} {xs : List α} {x : α}, look? ns xs s = some x → x ∈ xs
  | [], _, _, h => by simp [look?] at h
  | _ :: _, [], _, h => by simp [look?] at h
  | n :: ns, y :: xs, x, h => by
    simp only [look?] at h
    split at h
    · cases h; simp
    · exact List.mem_cons_of_mem _ (look_mem h)
theorem here_mem {α : Type} {ns : List ByteArray} {xs : List α} {n : ByteArray} {l : List Ty} {x : α} (h : here ns xs n l = some x) : x ∈ xs := by
  unfold here at h
  split at h
  · exact look_mem h
  · cases h

mutual
theorem gT_le {c : Nat → Nat} (hc : ∀ m, 4096 < m → c m ≤ m) {ns : List ByteArray} {sz : List Nat} {B : Nat} (hB : ∀ x ∈ sz, x ≤ B) : ∀ t : Ty, gT c ns sz t ≤ B + 4096 * t.size
  | .mk n l => by
    have h := gTs_le hc (ns := ns) hB l 1 (by omega)
    simp only [gT, Ty.size]
    split
    · rename_i x hx
      have := hB x (here_mem hx)
      omega
    · omega
theorem gTs_le {c : Nat → Nat} (hc : ∀ m, 4096 < m → c m ≤ m) {ns : List ByteArray} {sz : List Nat} {B : Nat} (hB : ∀ x ∈ sz, x ≤ B) : ∀ (l : List Ty) (a : Nat), a ≤ 4096 → gTs c ns sz a l ≤ B + 4096 + 4096 * sizes l
  | [], a, h => by simp only [gTs]; omega
  | t :: r, a, h => by
    have h1 := gT_le hc (ns := ns) hB t
    simp only [gTs, sizes]
    split
    · rename_i h2
      have := hc _ h2
      omega
    · have := gTs_le hc (ns := ns) hB r (a + gT c ns sz t) (by omega)
      omega
end

def encI (l : List Nat) : List D := l.map fun n : Nat => .v (.int .i64 (n : Int))
abbrev avI (l : List Nat) : AV := .d (.sl (encI l) l.length)
theorem ClI (l : List Nat) : Cl (avI l) := ⟨rfl, rfl⟩
section
variable {R : Type} {r : R → Prop} {k : AV → Option R}
theorem rn_ixI {l : List Nat} {i : Nat} {t : Nat} {s : List Nat} (h : l.drop i = t :: s) (hk : Wp (k (.ip (.v (.int .i64 t) :: encI s))) r) : Wp (opt (ixsA 1 (avI l) (.i (i : Int))) k) r := by
  obtain ⟨hi, _⟩ := drop_cons h
  refine rn_opt (v := .ip (.v (.int .i64 t) :: encI s)) ?_ hk
  rw [ixsA_sl _ _ _ _ _ (by omega), Int.toNat_natCast, Nat.mul_one, encI, ← List.map_drop, h]; rfl
theorem rn_takeS {l : List ByteArray} {i : Nat} (h : i ≤ l.length) (hk : Wp (k (avS (l.take i))) r) : Wp (opt (slslA 1 (avS l) none (some (.i (i : Int)))) k) r := by
  refine rn_slsl_d (l := 0) (h := i) rfl rfl (by simp [encS]; omega) ?_
  have e : ((i : Int) - 0).toNat = i := by omega
  have e2 : (encS l).take i = encS (l.take i) := by simp [encS, List.map_take]
  have e3 : i = (l.take i).length := by rw [List.length_take]; omega
  rw [e]
  simp only [Int.toNat_zero, Nat.zero_mul, List.drop_zero, Nat.mul_one]
  rw [e2]
  have : AV.d (.sl (encS (l.take i)) i) = avS (l.take i) := by simp only [avS]; rw [← e3]
  rw [this]; exact hk
end

theorem grown_loop {call : CallT} (ns : List ByteArray) (sz : List Nat) (l : List Ty) (hl : l.length ≤ 1000000000000) (hb : ∀ x ∈ l, gT (fun m => m) ns sz x ≤ 10000000000000000) (h : ∀ x ∈ l, CC call 33 [avT x, avS ns, avI sz] (.i (gT (fun m => m) ns sz x))) (nl lo : Nat) :
    ∀ (s : List Ty) (i f a : Nat) (M : MM), l.drop i = s → s.length < f → a ≤ 4096 →
      Wp (b33_6 call nl lo f (avS ns) (avI sz) (.i a) (avTs l) (.i l.length) (.i i) M) (Ans (.i (gTs (fun m => m) ns sz a s)) M) := by
  intro s
  induction s with
  | nil =>
    intro i f a M hd hf ha
    obtain ⟨f, rfl⟩ : ∃ k, f = k + 1 := ⟨f - 1, by simp only [List.length_nil] at hf; omega⟩
    have := drop_nil hd
    unfold b33_6
    repeat (first | (with_reducible (first | refine rn_if_f ?_)) | ((with_reducible refine rn_lss_f ?_ ?_); focus omega))
    exact rn_ans
  | cons x s ih =>
    intro i f a M hd hf ha
    simp only [List.length_cons] at hf
    obtain ⟨f, rfl⟩ : ∃ k, f = k + 1 := ⟨f - 1, by omega⟩
    obtain ⟨hi, hd'⟩ := drop_cons hd
    have hx : x ∈ l := List.drop_subset i l (by rw [hd]; simp)
    have hbx := hb x hx
    have hcl : ∀ y ∈ [avT x, avS ns, avI sz], Cl y := by simp [ClS, ClT, ClI]
    unfold b33_6
    repeat (first | (with_reducible (first | refine rn_ldT ?_ | refine rn_setT ?_ | refine rn_allT ?_ | refine rn_ixD hd ?_ | refine rn_pcc (h x hx) (fz_i _) hcl ?_ | refine rn_upa ?_ | refine rn_if_t ?_)) | ((with_reducible refine rn_add64 ?_ ?_); focus omega) | ((with_reducible refine rn_lss_t ?_ ?_); focus omega))
    simp only [gTs]
    by_cases hg : 4096 < a + gT (fun m => m) ns sz x
    · rw [if_pos hg]
      repeat (first | (with_reducible (first | refine rn_if_t ?_)) | ((with_reducible refine rn_gtr_t ?_ ?_); focus omega))
      exact rn_ans
    · rw [if_neg hg]
      repeat (first | (with_reducible (first | refine rn_if_f ?_)) | ((with_reducible refine rn_add64 ?_ ?_); focus omega) | ((with_reducible refine rn_gtr_f ?_ ?_); focus omega))
      exact ih (i + 1) f _ _ hd' (by omega) (by omega)

section
variable {call : CallT} (hc : Lim G call)
include hc

theorem twice_cc (l : List ByteArray) (hl : l.length ≤ 9223372036854775807) : CC call 31 [avS l] (.bool (twice l)) := by
  intro lo M
  obtain ⟨nl, hG, hN⟩ : ∃ nl, G.nl = nl ∧ nl = 18446744073709551616 := ⟨_, rfl, rfl⟩
  rw [q31 hc, hG]
  clear hG
  have loop : ∀ (r : List ByteArray) (i f : Nat) (M : MM), l.drop i = r → r.length < f → i ≤ l.length →
      Wp (b31_4 call nl lo f (avS l) (avS l) (.i l.length) (.i i) M) (Ans (.bool (twiceF (l.take i) r)) M) := by
    intro r
    induction r with
    | nil =>
      intro i f M hd hf _
      obtain ⟨f, rfl⟩ : ∃ k, f = k + 1 := ⟨f - 1, by simp only [List.length_nil] at hf; omega⟩
      have := drop_nil hd
      unfold b31_4
      repeat (first | (with_reducible (first | refine rn_if_f ?_)) | ((with_reducible refine rn_lss_f ?_ ?_); focus omega))
      exact rn_ans
    | cons x r ih =>
      intro i f M hd hf hil
      simp only [List.length_cons] at hf
      obtain ⟨f, rfl⟩ : ∃ k, f = k + 1 := ⟨f - 1, by omega⟩
      obtain ⟨hi, hd'⟩ := drop_cons hd
      have hcl : ∀ y ∈ [avS (l.take i), .str x], Cl y := by simp [ClS, ClStr]
      have hb := contains_cc hc (l.take i) x (by rw [List.length_take]; omega)
      unfold b31_4
      repeat (first | (with_reducible (first | refine rn_ixS hd ?_ | refine rn_takeS hil ?_ | refine rn_pcc hb (fz_b _) hcl ?_ | refine rn_if_t ?_ | refine rn_ldi ?_)) | ((with_reducible refine rn_lss_t ?_ ?_); focus omega))
      simp only [twiceF]
      cases hh : hasS (l.take i) x
      · refine rn_if_f ?_
        repeat (first | ((with_reducible refine rn_add64 ?_ ?_); focus omega))
        have e : l.take i ++ [x] = l.take (i + 1) := by
          have : l[i]? = some x := by have := congrArg List.head? hd; simpa [List.head?_drop] using this
          rw [List.take_add_one, this]; rfl
        rw [Bool.false_or, e]
        exact ih (i + 1) f M hd' (by omega) (by omega)
      · refine rn_if_t ?_
        exact rn_ans
  unfold s31
  repeat (first | (with_reducible (first | refine rn_len_sl ?_)))
  exact loop l 0 nl M rfl (by omega) (by omega)

theorem replaced_cc (t : Ty) (ns : List ByteArray) (hl : ns.length ≤ 9223372036854775807) : CC call 45 [avT t, avS ns] (.i (if t.args.isEmpty then ixS ns t.name else -1)) := by
  intro lo M
  rw [q45 hc]
  unfold s45
  have hcl : ∀ y ∈ [avS ns, .str t.name], Cl y := by simp [ClS, ClStr]
  repeat (first | (with_reducible (first | refine rn_aggT ?_ | refine rn_noT ?_ | refine rn_argsT ?_ | refine rn_lenT ?_ | refine rn_upa ?_)))
  refine rn_gtr ?_
  cases ht : t.args with
  | nil =>
    repeat (first | (with_reducible (first | refine rn_noT ?_ | refine rn_nameT ?_ | refine rn_pcc (xindex_cc hc ns t.name hl) (fz_i _) hcl ?_ | refine rn_if (fun h => by simp at h) (fun _ => ?_))))
    exact rn_ans
  | cons x r =>
    refine rn_if (fun _ => ?_) (fun h => absurd (by simp only [List.length_cons]; omega) h)
    skip
    exact rn_ans

theorem grown_cc (ns : List ByteArray) (sz : List Nat) (hn : ns.length ≤ 1000000000000) (hns : ns.length = sz.length) (hsz : ∀ x ∈ sz, x ≤ 1000000000000) : ∀ (n : Nat) (t : Ty), t.size ≤ n → n ≤ 1000000000000 → CC call 33 [avT t, avS ns, avI sz] (.i (gT (fun m => m) ns sz t)) := by
  intro n
  induction n with
  | zero => intro t h; have := t.size_pos; omega
  | succ n ihn =>
    intro t h hn' lo M
    obtain ⟨nl, hG, hN⟩ : ∃ nl, G.nl = nl ∧ nl = 18446744073709551616 := ⟨_, rfl, rfl⟩
    rw [q33 hc, hG]
    clear hG
    have hs := t.size_eq
    have hlen := sizes_len t.args
    have hcl : ∀ y ∈ [avT t, avS ns], Cl y := by simp [ClS, ClT]
    unfold s33
    repeat (first | (with_reducible (first | refine rn_aggT ?_ | refine rn_allT ?_ | refine rn_pcc (replaced_cc hc t ns (by omega)) (fz_i _) hcl ?_ | refine rn_upa ?_)))
    rw [gT_eq, here]
    have main : here ns sz t.name t.args = none → Wp (b33_2 call nl lo (avS ns) (avI sz) (avT t) (M.up M.nx)) (Ans (.i (gTs (fun m => m) ns sz 1 t.args)) (M.up M.nx)) := fun _ => by
      repeat (first | (with_reducible (first | refine rn_noT ?_ | refine rn_argsT ?_ | refine rn_lenT ?_)))
      exact grown_loop ns sz t.args (by omega) (fun x hx => by have := gT_le (c := fun m => m) (fun _ h => Nat.le_refl _) (ns := ns) hsz x; have := size_mem hx; omega) (fun x hx => ihn x (by have := size_mem hx; omega) (by omega)) nl lo t.args 0 nl 1 _ rfl (by omega) (by omega)
    cases he : t.args.isEmpty
    · simp only [Bool.false_eq_true, if_false]
      refine rn_geq_f (by decide) (rn_if_f ?_)
      exact main (by rw [here, he]; rfl)
    · simp only [if_true]
      rcases look_ix0 t.name ns sz hns with ⟨h1, h2⟩ | ⟨k, x, hm, hd, h1, h2⟩
      · rw [h2, h1]
        refine rn_geq_f (by decide) (rn_if_f ?_)
        exact main (by rw [here, he]; exact h1)
      · rw [h2, h1]
        refine rn_geq_t (by omega) (rn_if_t ?_)
        repeat (first | (with_reducible (first | refine rn_ixI hd ?_ | exact rn_ans | refine rn_ldi ?_)))

end
end Go.Proofs.Ytnbhmlflbbddcaa.Sx

namespace Go.Proofs.Ytnbhmlflbbddcaa.Sx
open Go
set_option maxRecDepth 1000000
set_option linter.unusedSimpArgs false
set_option linter.unusedVariables false

theorem put_loop {call : CallT} (nm : ByteArray) (ns : List ByteArray) (bs : List Ty) (l : List Ty) (hl : l.length ≤ 1000000000000) (h : ∀ x ∈ l, CC call 34 [avT x, avS ns, avTs bs] (avT (putT ns bs x))) (nl lo : Nat) :
    ∀ (s d : List Ty) (i f : Nat) (M : MM), l.drop i = s → d.length = i → s.length < f → i + s.length = l.length →
      Wp (b34_6 call nl lo f (avS ns) (avTs bs) (.agg [.str ⟨⟨[]⟩⟩, .d (.sl [] 0)]) (avT (.mk nm d)) (avTs l) (.i l.length) (.i i) M) (Ans (avT (.mk nm (d ++ putTs ns bs s))) M) := by
  intro s
  induction s with
  | nil =>
    intro d i f M hd hi hf hil
    obtain ⟨f, rfl⟩ : ∃ k, f = k + 1 := ⟨f - 1, by simp only [List.length_nil] at hf; omega⟩
    have := drop_nil hd
    unfold b34_6
    repeat (first | (with_reducible (first | refine rn_setT ?_ | refine rn_allT ?_ | refine rn_locT ?_ | refine rn_if_f ?_)) | ((with_reducible refine rn_lss_f ?_ ?_); focus omega))
    exact rn_ans' (by rw [putTs, List.append_nil])
  | cons x s ih =>
    intro d i f M hd hi hf hil
    simp only [List.length_cons] at hf hil
    obtain ⟨f, rfl⟩ : ∃ k, f = k + 1 := ⟨f - 1, by omega⟩
    obtain ⟨hi', hd'⟩ := drop_cons hd
    have hx : x ∈ l := List.drop_subset i l (by rw [hd]; simp)
    have hcl : ∀ y ∈ [avT x, avS ns, avTs bs], Cl y := by simp [ClS, ClT, ClTs]
    have hbb : ((Ty.mk nm d).args.length + 1) * 40 ≤ 140737488355328 ∧ (Ty.mk nm d).args.length + 1 ≤ 9223372036854775807 := by simp only [Ty.args]; omega
    unfold b34_6
    repeat (first | (with_reducible (first | refine rn_noT ?_ | refine rn_argsT ?_ | refine rn_ldT ?_ | refine rn_setT ?_ | refine rn_allT ?_ | refine rn_wslT ?_ | refine rn_setA ?_ | refine rn_ixD hd ?_ | refine rn_pcc (h x hx) (fz_T _) hcl ?_ | refine rn_appT hbb ?_ | refine rn_upa ?_ | refine rn_bumpa ?_ | refine rn_if_t ?_)) | ((with_reducible refine rn_add64 ?_ ?_); focus omega) | ((with_reducible refine rn_lss_t ?_ ?_); focus omega))
    have := ih (d ++ [putT ns bs x]) (i + 1) f (((M.up M.nx).bump 10).up ((M.up M.nx).nx + 6) |>.up ((M.up M.nx).nx + 7)) hd' (by simp [hi]) (by omega) (by omega)
    rw [List.append_assoc] at this
    exact this

section
variable {call : CallT} (hc : Lim G call)
include hc

theorem put_cc (ns : List ByteArray) (bs : List Ty) (hn : ns.length ≤ 1000000000000) (hns : ns.length = bs.length) (hsz : ∀ x ∈ bs, x.size ≤ 1000000000000) : ∀ (n : Nat) (t : Ty), t.size ≤ n → n ≤ 1000000000000 → CC call 34 [avT t, avS ns, avTs bs] (avT (putT ns bs t)) := by
  intro n
  induction n with
  | zero => intro t h; have := t.size_pos; omega
  | succ n ihn =>
    intro t h hn' lo M
    obtain ⟨nl, hG, hN⟩ : ∃ nl, G.nl = nl ∧ nl = 18446744073709551616 := ⟨_, rfl, rfl⟩
    rw [q34 hc, hG]
    clear hG
    have hs := t.size_eq
    have hlen := sizes_len t.args
    have hcl : ∀ y ∈ [avT t, avS ns], Cl y := by simp [ClS, ClT]
    have main : ∀ M : MM, Wp (b34_2 call nl lo (avS ns) (avTs bs) (avT t) (.agg [.str ⟨⟨[]⟩⟩, .d (.sl [] 0)]) M) (Ans (avT (.mk t.name (putTs ns bs t.args))) M) := fun M => by
      repeat (first | (with_reducible (first | refine rn_noT ?_ | refine rn_nameT ?_ | refine rn_argsT ?_ | refine rn_lenT ?_ | refine rn_upa ?_ | refine rn_mke ?_)) | ((with_reducible refine rn_setcall ?_ ?_ ?_ ?_); (focus exact rfl); (focus exact rfl); (focus exact rfl)) | ((with_reducible refine rn_mk0 ?_ ?_); focus exact ⟨rfl, rfl⟩))
      have := put_loop t.name ns bs t.args (by omega) (fun x hx => ihn x (by have := size_mem hx; omega) (by omega)) nl lo t.args [] 0 nl (M.up M.nx) rfl rfl (by omega) (by omega)
      exact this
    unfold s34
    repeat (first | (with_reducible (first | refine rn_aggT ?_ | refine rn_allT ?_ | refine rn_pcc (replaced_cc hc t ns (by omega)) (fz_i _) hcl ?_ | refine rn_upa ?_)))
    rw [putT_eq, here]
    cases he : t.args.isEmpty
    · simp only [Bool.false_eq_true, if_false]
      refine rn_geq_f (by decide) (rn_if_f ?_)
      exact main _
    · simp only [if_true]
      rcases look_ix0 t.name ns bs hns with ⟨h1, h2⟩ | ⟨k, x, hm, hd, h1, h2⟩
      · rw [h2, h1]
        refine rn_geq_f (by decide) (rn_if_f ?_)
        exact main _
      · rw [h2, h1]
        refine rn_geq_t (by omega) (rn_if_t ?_)
        repeat (first | (with_reducible (first | refine rn_ldT ?_ | refine rn_setT ?_ | refine rn_locT ?_ | refine rn_ixD hd ?_ | refine rn_pcc (clone_cc hc _ x (hsz x hm) (Nat.le_refl _)) (fz_T _) (ClT1 x) ?_ | exact rn_ans)))

end
end Go.Proofs.Ytnbhmlflbbddcaa.Sx

namespace Go.Proofs.Ytnbhmlflbbddcaa.Sx
open Go
set_option maxRecDepth 1000000
set_option linter.unusedSimpArgs false
set_option linter.unusedVariables false

abbrev ty0 : Ty := .mk ⟨⟨[]⟩⟩ []
def substT (ns : List ByteArray) (bs : List Ty) (t : Ty) : Ty × Int :=
  if ns.length ≠ bs.length then (ty0, 9) else if twice ns then (ty0, 5) else if 4096 < gT (fun m => m) ns (bs.map Ty.size) t then (ty0, 4) else (putT ns bs t, 0)
abbrev avE (p : Ty × Int) : AV := .tup [avT p.1, .i p.2]
theorem fz_E (p : Ty × Int) (m : Mem) : freeze m 0 (avE p) = some (avE p) := rfl

def Av (v : AV) : AV × MM → Prop := fun x => x.1 = v
theorem rn_av {v : AV} {M : MM} : Wp (some (v, M)) (Av v) := rn_done rfl
theorem Wp.pc {call : CallT} {f : FuncId} {args : List AV} {v : AV} (h : ∀ M, Wp (call f args 0 M) (Av v)) (hf : ∀ m, freeze m 0 v = some v) : PC call f args v := by
  obtain ⟨⟨w, M'⟩, h1, h2⟩ := h ⟨0, fun _ => none⟩
  have h2 : w = v := h2
  subst h2
  exact ⟨w, M', h1, hf _⟩
theorem mapM_frz (m : Mem) (k : Nat) : ∀ l : List Nat, (l.map fun n : Nat => AV.i n).mapM (freezeD m 0 k) = some (encI l)
  | [] => rfl
  | n :: l => by
    rw [List.map_cons, List.mapM_cons, mapM_frz m k l]
    cases k <;> rfl

theorem rn_ldTc {R : Type} {r : R → Prop} {k : AV → Option R} {M : MM} {lim : Lm} {j off : Nat} {t : TypeId} {cs : List AV} {u : Ty} (h1 : lim.ok j = true) (h2 : M.mem j = some (.cells t cs)) (h3 : off + 2 ≤ cs.length) (h4 : (cs.drop off).take 2 = [.d (.v (.string u.name)), .d (.sl (encTs u.args) u.args.length)]) (hk : Wp (k (avT u)) r) : Wp (opt (ldnA (look M.mem lim) 2 (.ptr j off)) k) r :=
  rn_ldn h1 h2 h3 h4 hk
theorem rn_wslS1 {s : ByteArray} {a : AV} {R : Type} {r : R → Prop} {k : AV → Option R} (hk : Wp (k (avS [s])) r) : Wp (opt (wslA 1 (fill [a] [(0, 1, .str s)])) k) r := rn_wsl (ds := encS [s]) rfl hk
section
variable {call : CallT} (hc : Lim G call)
include hc

theorem subst_pc (ns : List ByteArray) (bs : List Ty) (t : Ty) (hn : ns.length ≤ 1000000000000) (hb : bs.length ≤ 1000000000000) (hsz : ∀ x ∈ bs, x.size ≤ 1000000000000) (ht : t.size ≤ 1000000000000) : PC call 24 [avT t, avS ns, avTs bs] (avE (substT ns bs t)) := by
  refine Wp.pc (fun M => ?_) (fz_E _)
  obtain ⟨nl, hG, hN⟩ : ∃ nl, G.nl = nl ∧ nl = 18446744073709551616 := ⟨_, rfl, rfl⟩
  rw [q24 hc, hG]
  clear hG
  have hcl : ∀ y ∈ [avS ns], Cl y := by simp [ClS]
  have hcl2 : ∀ y ∈ [avT t, avS ns, avTs bs], Cl y := by simp [ClS, ClT, ClTs]
  have loop : ns.length = bs.length → twice ns = false → ∀ (s : List Ty) (i f : Nat) (M : MM) (id : Nat) (cs : List AV), bs.drop i = s → s.length < f → i ≤ bs.length → id < M.nx → M.mem id = some (.cells 3 cs) → cs.length = bs.length → cs.take i = ((bs.take i).map Ty.size).map (fun n : Nat => AV.i n) →
      Wp (b24_6 call nl 0 f (avS ns) (avTs bs) (avT t) (avT ty0) (.os id 0 bs.length 1) (avTs bs) (.i bs.length) (.i i) M) (Av (avE (substT ns bs t))) := by
    intro hlen htw s
    induction s with
    | nil =>
      intro i f M id cs hd hf hil hid hm hcs hpre
      obtain ⟨f, rfl⟩ : ∃ k, f = k + 1 := ⟨f - 1, by simp only [List.length_nil] at hf; omega⟩
      have := drop_nil hd
      have ei : i = bs.length := by omega
      subst ei
      rw [List.take_length, ← hcs, List.take_length] at hpre
      have hgc := grown_cc hc ns (bs.map Ty.size) hn (by rw [List.length_map]; exact hlen) (fun x hx => by
        obtain ⟨y, hy, rfl⟩ := List.mem_map.1 hx
        exact hsz y hy) _ t ht (Nat.le_refl _)
      have hsn : [avT t, avS ns, .os id 0 bs.length 1].mapM (snap (lk M)) = some [avT t, avS ns, avI (bs.map Ty.size)] := by
        have e : snap (lk M) (.os id 0 bs.length 1) = some (avI (bs.map Ty.size)) := by
          have e1 : look M.mem (.top M.nx) id = some (.cells 3 cs) := by rw [look_lt hid, hm]
          have e2 : ¬ id < 0 := Nat.not_lt_zero _
          have e3 : 0 + bs.length * 1 ≤ cs.length := by omega
          have e4 : List.take (bs.length * 1) (List.drop 0 cs) = cs := by rw [List.drop_zero, Nat.mul_one, ← hcs, List.take_length]
          simp only [snap, closedA, closedC, Bool.false_eq_true, if_false, freezeA, freeze1, freezeD, e1, e2, e3, if_true, e4]
          rw [hpre, mapM_frz]
          simp only [Option.map_some, avI, List.length_map]
        rw [List.mapM_cons, (ClT t).snap, List.mapM_cons, (ClS ns).snap, List.mapM_cons, e]; rfl
      unfold b24_6
      repeat (first | (with_reducible (first | refine rn_allT ?_ | refine rn_pus (hgc.pc (fz_i _)) hsn rfl ?_ | refine rn_if_f ?_)) | ((with_reducible refine rn_lss_f ?_ ?_); focus omega))
      rw [substT, if_neg (by omega), if_neg (by rw [htw]; simp)]
      by_cases hg : 4096 < gT (fun m => m) ns (bs.map Ty.size) t
      · rw [if_pos hg]
        refine rn_gtr_t (by omega) (rn_if_t ?_)
        repeat (first | (with_reducible (first | refine rn_mke ?_)))
        exact rn_av
      · rw [if_neg hg]
        refine rn_gtr_f (by omega) (rn_if_f ?_)
        repeat (first | (with_reducible (first | refine rn_setTT ?_ | refine rn_allT ?_ | refine rn_pcc (put_cc hc ns bs hn hlen hsz _ t ht (Nat.le_refl _)) (fz_T _) hcl2 ?_)) | ((with_reducible apply rn_res2); (focus (first | exact locA_all rfl | exact rfl)); (focus (first | exact locA_all rfl | exact rfl))))
        exact rn_av
    | cons x s ih =>
      intro i f M id cs hd hf hil hid hm hcs hpre
      simp only [List.length_cons] at hf
      obtain ⟨f, rfl⟩ : ∃ k, f = k + 1 := ⟨f - 1, by omega⟩
      obtain ⟨hi', hd'⟩ := drop_cons hd
      have hx : x ∈ bs := List.drop_subset i bs (by rw [hd]; simp)
      have hsx := hsz x hx
      unfold b24_6
      repeat (first | (with_reducible (first | refine rn_ldT ?_ | refine rn_setT ?_ | refine rn_allT ?_ | refine rn_upk ?_ | refine rn_ixD hd ?_ | refine rn_pcc (size_cc hc _ x hsx (by omega)) (fz_i _) (ClT1 x) ?_ | refine rn_if_t ?_)) | ((with_reducible refine rn_lss_t ?_ ?_); focus omega) | ((with_reducible refine rn_ixs ?_ ?_); focus omega))
      rw [show 0 + (i : Int).toNat * 1 = i by omega]
      refine rn_st1 rfl (ok_top.2 ?_) (by exact hm) ⟨Nat.zero_le _, rfl, rfl⟩ (by omega) rfl ?_
      · exact Nat.lt_of_lt_of_le hid (Nat.le_max_left _ _)
      repeat (first | ((with_reducible refine rn_add64 ?_ ?_); focus omega))
      refine ih (i + 1) f _ id (cs.set i (.i x.size)) hd' (by omega) (by omega) ?_ ?_ (by rw [List.length_set]; exact hcs) ?_
      · exact Nat.lt_of_lt_of_le hid (Nat.le_max_left _ _)
      · exact upd_same _ _ _
      · have hxe : bs[i]? = some x := by have := congrArg List.head? hd; simpa [List.head?_drop] using this
        rw [List.take_add_one, List.take_add_one, hxe, List.take_set_of_le (Nat.le_refl _), hpre, List.getElem?_set_self (by omega)]
        simp
  unfold s24
  repeat (first | (with_reducible (first | refine rn_aggT ?_ | refine rn_lenT ?_ | refine rn_upk ?_ | refine rn_len_sl ?_)))
  refine rn_neq ?_
  refine rn_if (fun hne => ?_) (fun he => ?_)
  · repeat (first | (with_reducible (first | refine rn_mke ?_)) | ((with_reducible refine rn_setcall ?_ ?_ ?_ ?_); (focus exact rfl); (focus exact rfl); (focus exact rfl)) | ((with_reducible apply rn_res2); (focus (first | exact locA_all rfl | exact rfl)); (focus (first | exact locA_all rfl | exact rfl))))
    rw [substT, if_pos (by omega)]
    exact rn_av
  · have he : ns.length = bs.length := by omega
    repeat (first | (with_reducible (first | refine rn_pcc (twice_cc hc ns (by omega)) (fz_b _) hcl ?_)))
    cases htw : twice ns
    · refine rn_if_f ?_
      repeat (first | (with_reducible (first | refine rn_lenT ?_)))
      refine rn_mkslice rfl ⟨by omega, by omega⟩ ?_
      repeat (first | (with_reducible (first | refine rn_lenT ?_)))
      refine loop he htw bs 0 nl _ _ _ rfl (by omega) (by omega) ?_ (upd_same _ _ _) ?_ rfl
      · exact Nat.lt_of_lt_of_le (Nat.lt_succ_self _) (Nat.le_max_right _ _)
      · simp
    · refine rn_if_t ?_
      repeat (first | (with_reducible (first | refine rn_mke ?_)) | ((with_reducible refine rn_setcall ?_ ?_ ?_ ?_); (focus exact rfl); (focus exact rfl); (focus exact rfl)) | ((with_reducible apply rn_res2); (focus (first | exact locA_all rfl | exact rfl)); (focus (first | exact locA_all rfl | exact rfl))))
      rw [substT, if_neg (by omega), if_pos (by rw [htw])]
      exact rn_av

end
end Go.Proofs.Ytnbhmlflbbddcaa.Sx
