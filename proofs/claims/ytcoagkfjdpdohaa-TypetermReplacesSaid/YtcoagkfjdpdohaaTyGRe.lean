/- TYPES: replacing names: the parts. -/
import Derived.Test.YtcoagkfjdpdohaaTyDRe
import Derived.Test.YtcoagkfjdpdohaaTyFRe
namespace Go.Proofs.Ytcoagkfjdpdohaa.Sx
open Go
set_option maxRecDepth 1000000
set_option linter.unusedSimpArgs false
set_option linter.unusedVariables false

/-- Whether a name stands twice in d ++ s, the second time in s. -/
def twiceF : List ByteArray → List ByteArray → Bool
  | _, [] => false
  | d, x :: s => hasS d x || twiceF (d ++ [x]) s
abbrev twice (l : List ByteArray) : Bool := twiceF [] l

/-- What stands at a name's place. -/
def look? {α : Type} : List ByteArray → List α → ByteArray → Option α
  | n :: ns, x :: xs, s => if n = s then some x else look? ns xs s
  | _, _, _ => none
theorem look_ix {α : Type} (s : ByteArray) : ∀ (ns : List ByteArray) (xs : List α) (i : Nat), ns.length = xs.length →
    (look? ns xs s = none ∧ ixFrom ns s i = -1) ∨ (∃ k x, x ∈ xs ∧ xs.drop k = x :: xs.drop (k + 1) ∧ look? ns xs s = some x ∧ ixFrom ns s i = ((i + k : Nat) : Int))
  | [], [], i, _ => .inl ⟨rfl, rfl⟩
  | n :: ns, x :: xs, i, h => by
    simp only [look?, ixFrom]
    by_cases hn : n = s
    · exact .inr ⟨0, x, by simp, by simp, by rw [if_pos hn], by rw [if_pos hn, Nat.add_zero]⟩
    · rw [if_neg hn, if_neg hn]
      rcases look_ix s ns xs (i + 1) (by simpa using h) with ⟨h1, h2⟩ | ⟨k, y, hm, hd, h1, h2⟩
      · exact .inl ⟨h1, h2⟩
      · exact .inr ⟨k + 1, y, by simp [hm], by simpa using hd, h1, by rw [h2]; congr 1; omega⟩
  | [], _ :: _, _, h => by simp at h
  | _ :: _, [], _, h => by simp at h

theorem look_ix0 {α : Type} (s : ByteArray) (ns : List ByteArray) (xs : List α) (h : ns.length = xs.length) :
    (look? ns xs s = none ∧ ixS ns s = -1) ∨ (∃ k x, x ∈ xs ∧ xs.drop k = x :: xs.drop (k + 1) ∧ look? ns xs s = some x ∧ ixS ns s = (k : Int)) := by
  have := look_ix s ns xs 0 h
  simp only [Nat.zero_add] at this; exact this

def here {α : Type} (ns : List ByteArray) (xs : List α) (n : ByteArray) (l : List Ty) : Option α := if l.isEmpty then look? ns xs n else none
mutual
/-- The size of a type with names replaced by types of some sizes; c: what is said of one above the limit. -/
def gT (c : Nat → Nat) (ns : List ByteArray) (sz : List Nat) : Ty → Nat
  | .mk n l => match here ns sz n l with
    | some x => x
    | none => gTs c ns sz 1 l
def gTs (c : Nat → Nat) (ns : List ByteArray) (sz : List Nat) : Nat → List Ty → Nat
  | a, [] => a
  | a, t :: r => if 4096 < a + gT c ns sz t then c (a + gT c ns sz t) else gTs c ns sz (a + gT c ns sz t) r
end
theorem gT_eq (c : Nat → Nat) (ns : List ByteArray) (sz : List Nat) (t : Ty) : gT c ns sz t = match here ns sz t.name t.args with
    | some x => x
    | none => gTs c ns sz 1 t.args := by cases t; simp only [gT, Ty.name, Ty.args]
mutual
def putT (ns : List ByteArray) (bs : List Ty) : Ty → Ty
  | .mk n l => match here ns bs n l with
    | some x => x
    | none => .mk n (putTs ns bs l)
def putTs (ns : List ByteArray) (bs : List Ty) : List Ty → List Ty
  | [] => []
  | t :: r => putT ns bs t :: putTs ns bs r
end
theorem putT_eq (ns : List ByteArray) (bs : List Ty) (t : Ty) : putT ns bs t = match here ns bs t.name t.args with
    | some x => x
    | none => .mk t.name (putTs ns bs t.args) := by cases t; simp only [putT, Ty.name, Ty.args]

theorem look_mem {α : Type} {s : ByteArray} : ∀ {ns : List ByteArray} {xs : List α} {x : α}, look? ns xs s = some x → x ∈ xs
  | [], _, _, h => by simp [look?] at h
  | _ :: _, [], _, h => by simp [look?] at h
  | n :: ns, y :: xs, x, h => by
    simp only [look?] at h
    split at h
    · cases h; simp
    · exact List.mem_cons_of_mem _ (look_mem h)
theorem here_mem {α : Type} {ns : List ByteArray} {xs : List α} {n : ByteArray} {l : List Ty} {x : α} (h : here ns xs n l = some x) : x ∈ xs := by
  unfold here at h
  split at h
  · exact look_mem h
  · cases h

mutual
theorem gT_le {c : Nat → Nat} (hc : ∀ m, 4096 < m → c m ≤ m) {ns : List ByteArray} {sz : List Nat} {B : Nat} (hB : ∀ x ∈ sz, x ≤ B) : ∀ t : Ty, gT c ns sz t ≤ B + 4096 * t.size
  | .mk n l => by
    have h := gTs_le hc (ns := ns) hB l 1 (by omega)
    simp only [gT, Ty.size]
    split
    · rename_i x hx
      have := hB x (here_mem hx)
      omega
    · omega
theorem gTs_le {c : Nat → Nat} (hc : ∀ m, 4096 < m → c m ≤ m) {ns : List ByteArray} {sz : List Nat} {B : Nat} (hB : ∀ x ∈ sz, x ≤ B) : ∀ (l : List Ty) (a : Nat), a ≤ 4096 → gTs c ns sz a l ≤ B + 4096 + 4096 * sizes l
  | [], a, h => by simp only [gTs]; omega
  | t :: r, a, h => by
    have h1 := gT_le hc (ns := ns) hB t
    simp only [gTs, sizes]
    split
    · rename_i h2
      have := hc _ h2
      omega
    · have := gTs_le hc (ns := ns) hB r (a + gT c ns sz t) (by omega)
      omega
end

def encI (l : List Nat) : List D := l.map fun n : Nat => .v (.int .i64 (n : Int))
abbrev avI (l : List Nat) : AV := .d (.sl (encI l) l.length)
theorem ClI (l : List Nat) : Cl (avI l) := ⟨rfl, rfl⟩
section
variable {R : Type} {r : R → Prop} {k : AV → Option R}
theorem rn_ixI {l : List Nat} {i : Nat} {t : Nat} {s : List Nat} (h : l.drop i = t :: s) (hk : Wp (k (.ip (.v (.int .i64 t) :: encI s))) r) : Wp (opt (ixsA 1 (avI l) (.i (i : Int))) k) r := by
  obtain ⟨hi, _⟩ := drop_cons h
  refine rn_opt (v := .ip (.v (.int .i64 t) :: encI s)) ?_ hk
  rw [ixsA_sl _ _ _ _ _ (by omega), Int.toNat_natCast, Nat.mul_one, encI, ← List.map_drop, h]; rfl
/-- A list's beginning. -/
theorem rn_takeS {l : List ByteArray} {i : Nat} (h : i ≤ l.length) (hk : Wp (k (avS (l.take i))) r) : Wp (opt (slslA 1 (avS l) none (some (.i (i : Int)))) k) r := by
  refine rn_slsl_d (l := 0) (h := i) rfl rfl (by simp [encS]; omega) ?_
  have e : ((i : Int) - 0).toNat = i := by omega
  have e2 : (encS l).take i = encS (l.take i) := by simp [encS, List.map_take]
  have e3 : i = (l.take i).length := by rw [List.length_take]; omega
  rw [e]
  simp only [Int.toNat_zero, Nat.zero_mul, List.drop_zero, Nat.mul_one]
  rw [e2]
  have : AV.d (.sl (encS (l.take i)) i) = avS (l.take i) := by simp only [avS]; rw [← e3]
  rw [this]; exact hk
end

theorem grown_loop {call : CallT} (ns : List ByteArray) (sz : List Nat) (l : List Ty) (hl : l.length ≤ 1000000000000) (hb : ∀ x ∈ l, gT (fun m => m) ns sz x ≤ 10000000000000000) (h : ∀ x ∈ l, CC call 46 [avT x, avS ns, avI sz] (.i (gT (fun m => m) ns sz x))) (nl lo : Nat) :
    ∀ (s : List Ty) (i f a : Nat) (M : MM), l.drop i = s → s.length < f → a ≤ 4096 →
      Wp (b46_6 call nl lo f (avS ns) (avI sz) (.i a) (avTs l) (.i l.length) (.i i) M) (Ans (.i (gTs (fun m => m) ns sz a s)) M) := by
  intro s
  induction s with
  | nil =>
    intro i f a M hd hf ha
    obtain ⟨f, rfl⟩ : ∃ k, f = k + 1 := ⟨f - 1, by simp only [List.length_nil] at hf; omega⟩
    have := drop_nil hd
    unfold b46_6
    repeat (first | (with_reducible (first | refine rn_if_f ?_)) | ((with_reducible refine rn_lss_f ?_ ?_); focus omega))
    exact rn_ans
  | cons x s ih =>
    intro i f a M hd hf ha
    simp only [List.length_cons] at hf
    obtain ⟨f, rfl⟩ : ∃ k, f = k + 1 := ⟨f - 1, by omega⟩
    obtain ⟨hi, hd'⟩ := drop_cons hd
    have hx : x ∈ l := List.drop_subset i l (by rw [hd]; simp)
    have hbx := hb x hx
    have hcl : ∀ y ∈ [avT x, avS ns, avI sz], Cl y := by simp [ClS, ClT, ClI]
    unfold b46_6
    repeat (first | (with_reducible (first | refine rn_ldT ?_ | refine rn_setT ?_ | refine rn_allT ?_ | refine rn_ixD hd ?_ | refine rn_pcc (h x hx) (fz_i _) hcl ?_ | refine rn_upa ?_ | refine rn_if_t ?_)) | ((with_reducible refine rn_add64 ?_ ?_); focus omega) | ((with_reducible refine rn_lss_t ?_ ?_); focus omega))
    simp only [gTs]
    by_cases hg : 4096 < a + gT (fun m => m) ns sz x
    · rw [if_pos hg]
      repeat (first | (with_reducible (first | refine rn_if_t ?_)) | ((with_reducible refine rn_gtr_t ?_ ?_); focus omega))
      exact rn_ans
    · rw [if_neg hg]
      repeat (first | (with_reducible (first | refine rn_if_f ?_)) | ((with_reducible refine rn_add64 ?_ ?_); focus omega) | ((with_reducible refine rn_gtr_f ?_ ?_); focus omega))
      exact ih (i + 1) f _ _ hd' (by omega) (by omega)
theorem sized_loop {call : CallT} (ns : List ByteArray) (sz : List Nat) (l : List Ty) (hl : l.length ≤ 1000000000000) (hb : ∀ x ∈ l, gT (fun m => 4097) ns sz x ≤ 10000000000000000) (h : ∀ x ∈ l, CC call 49 [avT x, avS ns, avI sz] (.i (gT (fun m => 4097) ns sz x))) (nl lo : Nat) :
    ∀ (s : List Ty) (i f a : Nat) (M : MM), l.drop i = s → s.length < f → a ≤ 4096 →
      Wp (b49_6 call nl lo f (avS ns) (avI sz) (.i a) (avTs l) (.i l.length) (.i i) M) (Ans (.i (gTs (fun m => 4097) ns sz a s)) M) := by
  intro s
  induction s with
  | nil =>
    intro i f a M hd hf ha
    obtain ⟨f, rfl⟩ : ∃ k, f = k + 1 := ⟨f - 1, by simp only [List.length_nil] at hf; omega⟩
    have := drop_nil hd
    unfold b49_6
    repeat (first | (with_reducible (first | refine rn_if_f ?_)) | ((with_reducible refine rn_lss_f ?_ ?_); focus omega))
    exact rn_ans
  | cons x s ih =>
    intro i f a M hd hf ha
    simp only [List.length_cons] at hf
    obtain ⟨f, rfl⟩ : ∃ k, f = k + 1 := ⟨f - 1, by omega⟩
    obtain ⟨hi, hd'⟩ := drop_cons hd
    have hx : x ∈ l := List.drop_subset i l (by rw [hd]; simp)
    have hbx := hb x hx
    have hcl : ∀ y ∈ [avT x, avS ns, avI sz], Cl y := by simp [ClS, ClT, ClI]
    unfold b49_6
    repeat (first | (with_reducible (first | refine rn_ldT ?_ | refine rn_setT ?_ | refine rn_allT ?_ | refine rn_ixD hd ?_ | refine rn_pcc (h x hx) (fz_i _) hcl ?_ | refine rn_upa ?_ | refine rn_if_t ?_)) | ((with_reducible refine rn_add64 ?_ ?_); focus omega) | ((with_reducible refine rn_lss_t ?_ ?_); focus omega))
    simp only [gTs]
    by_cases hg : 4096 < a + gT (fun m => 4097) ns sz x
    · rw [if_pos hg]
      repeat (first | (with_reducible (first | refine rn_if_t ?_)) | ((with_reducible refine rn_gtr_t ?_ ?_); focus omega))
      exact rn_ans
    · rw [if_neg hg]
      repeat (first | (with_reducible (first | refine rn_if_f ?_)) | ((with_reducible refine rn_add64 ?_ ?_); focus omega) | ((with_reducible refine rn_gtr_f ?_ ?_); focus omega))
      exact ih (i + 1) f _ _ hd' (by omega) (by omega)

section
variable {call : CallT} (hc : Lim G call)
include hc

theorem twice_cc (l : List ByteArray) (hl : l.length ≤ 9223372036854775807) : CC call 45 [avS l] (.bool (twice l)) := by
  intro lo M
  obtain ⟨nl, hG, hN⟩ : ∃ nl, G.nl = nl ∧ nl = 18446744073709551616 := ⟨_, rfl, rfl⟩
  rw [q45 hc, hG]
  clear hG
  have loop : ∀ (r : List ByteArray) (i f : Nat) (M : MM), l.drop i = r → r.length < f → i ≤ l.length →
      Wp (b45_4 call nl lo f (avS l) (avS l) (.i l.length) (.i i) M) (Ans (.bool (twiceF (l.take i) r)) M) := by
    intro r
    induction r with
    | nil =>
      intro i f M hd hf _
      obtain ⟨f, rfl⟩ : ∃ k, f = k + 1 := ⟨f - 1, by simp only [List.length_nil] at hf; omega⟩
      have := drop_nil hd
      unfold b45_4
      repeat (first | (with_reducible (first | refine rn_if_f ?_)) | ((with_reducible refine rn_lss_f ?_ ?_); focus omega))
      exact rn_ans
    | cons x r ih =>
      intro i f M hd hf hil
      simp only [List.length_cons] at hf
      obtain ⟨f, rfl⟩ : ∃ k, f = k + 1 := ⟨f - 1, by omega⟩
      obtain ⟨hi, hd'⟩ := drop_cons hd
      have hcl : ∀ y ∈ [avS (l.take i), .str x], Cl y := by simp [ClS, ClStr]
      have hb := contains_cc hc (l.take i) x (by rw [List.length_take]; omega)
      unfold b45_4
      repeat (first | (with_reducible (first | refine rn_ixS hd ?_ | refine rn_takeS hil ?_ | refine rn_pcc hb (fz_b _) hcl ?_ | refine rn_if_t ?_ | refine rn_ldi ?_)) | ((with_reducible refine rn_lss_t ?_ ?_); focus omega))
      simp only [twiceF]
      cases hh : hasS (l.take i) x
      · refine rn_if_f ?_
        repeat (first | ((with_reducible refine rn_add64 ?_ ?_); focus omega))
        have e : l.take i ++ [x] = l.take (i + 1) := by
          have : l[i]? = some x := by have := congrArg List.head? hd; simpa [List.head?_drop] using this
          rw [List.take_add_one, this]; rfl
        rw [Bool.false_or, e]
        exact ih (i + 1) f M hd' (by omega) (by omega)
      · refine rn_if_t ?_
        exact rn_ans
  unfold s45
  repeat (first | (with_reducible (first | refine rn_len_sl ?_)))
  exact loop l 0 nl M rfl (by omega) (by omega)

theorem replaced_cc (t : Ty) (ns : List ByteArray) (hl : ns.length ≤ 9223372036854775807) : CC call 71 [avT t, avS ns] (.i (if t.args.isEmpty then ixS ns t.name else -1)) := by
  intro lo M
  rw [q71 hc]
  unfold s71
  have hcl : ∀ y ∈ [avS ns, .str t.name], Cl y := by simp [ClS, ClStr]
  repeat (first | (with_reducible (first | refine rn_aggT ?_ | refine rn_noT ?_ | refine rn_argsT ?_ | refine rn_lenT ?_ | refine rn_upa ?_)))
  refine rn_gtr ?_
  cases ht : t.args with
  | nil =>
    repeat (first | (with_reducible (first | refine rn_noT ?_ | refine rn_nameT ?_ | refine rn_pcc (xindex_cc hc ns t.name hl) (fz_i _) hcl ?_ | refine rn_if (fun h => by simp at h) (fun _ => ?_))))
    exact rn_ans
  | cons x r =>
    refine rn_if (fun _ => ?_) (fun h => absurd (by simp only [List.length_cons]; omega) h)
    skip
    exact rn_ans


theorem grown_cc (ns : List ByteArray) (sz : List Nat) (hn : ns.length ≤ 1000000000000) (hns : ns.length = sz.length) (hsz : ∀ x ∈ sz, x ≤ 1000000000000) : ∀ (n : Nat) (t : Ty), t.size ≤ n → n ≤ 1000000000000 → CC call 46 [avT t, avS ns, avI sz] (.i (gT (fun m => m) ns sz t)) := by
  intro n
  induction n with
  | zero => intro t h; have := t.size_pos; omega
  | succ n ihn =>
    intro t h hn' lo M
    obtain ⟨nl, hG, hN⟩ : ∃ nl, G.nl = nl ∧ nl = 18446744073709551616 := ⟨_, rfl, rfl⟩
    rw [q46 hc, hG]
    clear hG
    have hs := t.size_eq
    have hlen := sizes_len t.args
    have hcl : ∀ y ∈ [avT t, avS ns], Cl y := by simp [ClS, ClT]
    unfold s46
    repeat (first | (with_reducible (first | refine rn_aggT ?_ | refine rn_allT ?_ | refine rn_pcc (replaced_cc hc t ns (by omega)) (fz_i _) hcl ?_ | refine rn_upa ?_)))
    rw [gT_eq, here]
    have main : here ns sz t.name t.args = none → Wp (b46_2 call nl lo (avS ns) (avI sz) (avT t) (M.up M.nx)) (Ans (.i (gTs (fun m => m) ns sz 1 t.args)) (M.up M.nx)) := fun _ => by
      repeat (first | (with_reducible (first | refine rn_noT ?_ | refine rn_argsT ?_ | refine rn_lenT ?_)))
      exact grown_loop ns sz t.args (by omega) (fun x hx => by have := gT_le (c := fun m => m) (fun _ h => Nat.le_refl _) (ns := ns) hsz x; have := size_mem hx; omega) (fun x hx => ihn x (by have := size_mem hx; omega) (by omega)) nl lo t.args 0 nl 1 _ rfl (by omega) (by omega)
    cases he : t.args.isEmpty
    · simp only [Bool.false_eq_true, if_false]
      refine rn_geq_f (by decide) (rn_if_f ?_)
      exact main (by rw [here, he]; rfl)
    · simp only [if_true]
      rcases look_ix0 t.name ns sz hns with ⟨h1, h2⟩ | ⟨k, x, hm, hd, h1, h2⟩
      · rw [h2, h1]
        refine rn_geq_f (by decide) (rn_if_f ?_)
        exact main (by rw [here, he]; exact h1)
      · rw [h2, h1]
        refine rn_geq_t (by omega) (rn_if_t ?_)
        repeat (first | (with_reducible (first | refine rn_ixI hd ?_ | exact rn_ans | refine rn_ldi ?_)))

theorem sized_cc (ns : List ByteArray) (sz : List Nat) (hn : ns.length ≤ 1000000000000) (hns : ns.length = sz.length) (hsz : ∀ x ∈ sz, x ≤ 1000000000000) : ∀ (n : Nat) (t : Ty), t.size ≤ n → n ≤ 1000000000000 → CC call 49 [avT t, avS ns, avI sz] (.i (gT (fun _ => 4097) ns sz t)) := by
  intro n
  induction n with
  | zero => intro t h; have := t.size_pos; omega
  | succ n ihn =>
    intro t h hn' lo M
    obtain ⟨nl, hG, hN⟩ : ∃ nl, G.nl = nl ∧ nl = 18446744073709551616 := ⟨_, rfl, rfl⟩
    rw [q49 hc, hG]
    clear hG
    have hs := t.size_eq
    have hlen := sizes_len t.args
    have hcl : ∀ y ∈ [avS ns, .str t.name], Cl y := by simp [ClS, ClStr]
    unfold s49
    repeat (first | (with_reducible (first | refine rn_aggT ?_ | refine rn_noT ?_ | refine rn_nameT ?_ | refine rn_pcc (index_cc hc ns t.name (by omega)) (fz_i _) hcl ?_ | refine rn_upa ?_)))
    rw [gT_eq, here]
    have main : here ns sz t.name t.args = none → Wp (b49_2 call nl lo (avS ns) (avI sz) (avT t) (M.up M.nx)) (Ans (.i (gTs (fun _ => 4097) ns sz 1 t.args)) (M.up M.nx)) := fun _ => by
      repeat (first | (with_reducible (first | refine rn_noT ?_ | refine rn_argsT ?_ | refine rn_lenT ?_)))
      exact sized_loop ns sz t.args (by omega) (fun x hx => by have := gT_le (c := fun _ => 4097) (fun _ h => by omega) (ns := ns) hsz x; have := size_mem hx; omega) (fun x hx => ihn x (by have := size_mem hx; omega) (by omega)) nl lo t.args 0 nl 1 _ rfl (by omega) (by omega)
    rcases look_ix0 t.name ns sz hns with ⟨h1, h2⟩ | ⟨k, x, hm, hd, h1, h2⟩
    · rw [h2, h1, ite_self]
      refine rn_geq_f (by decide) ?_
      repeat (first | (with_reducible (first | refine rn_noT ?_ | refine rn_argsT ?_ | refine rn_lenT ?_ | refine rn_if_f ?_ | refine rn_gp_ft ?_ | refine rn_pf ?_)))
      exact main (by rw [here, h1, ite_self])
    · rw [h2, h1]
      refine rn_geq_t (by omega) ?_
      cases ha : t.args with
      | nil =>
        repeat (first | (with_reducible (first | refine rn_noT ?_ | refine rn_argsT ?_ | refine rn_lenT ?_ | refine rn_gp_tt ?_)))
        rw [ha]
        skip
        refine rn_eql_t rfl ?_
        repeat (first | (with_reducible (first | refine rn_ixI hd ?_ | refine rn_if_t ?_ | refine rn_pt ?_ | refine rn_ldi ?_)))
        exact rn_ans
      | cons y r =>
        repeat (first | (with_reducible (first | refine rn_noT ?_ | refine rn_argsT ?_ | refine rn_lenT ?_ | refine rn_gp_tt ?_)))
        refine rn_eql_f (by rw [ha, List.length_cons]; omega) ?_
        repeat (first | (with_reducible (first | refine rn_noT ?_ | refine rn_argsT ?_ | refine rn_lenT ?_ | refine rn_if_f ?_ | refine rn_pt ?_)))
        have := main (by rw [here, ha]; rfl)
        rw [ha] at this
        exact this
end
end Go.Proofs.Ytcoagkfjdpdohaa.Sx
