/- DEPEND: the first element of a list of types with a property, wherever the list lies; closed types. -/
import Derived.Test.YtnbhmlflbbddcaaTyNDg
import Derived.Test.YtnbhmlflbbddcaaTyKDg
namespace Go.Proofs.Ytnbhmlflbbddcaa.Sx
open Go
set_option maxRecDepth 1000000
set_option linter.unusedSimpArgs false
set_option linter.unusedVariables false

def AgB (b : Nat) (m : Mem) (M : MM) : Prop := b ≤ M.nx ∧ ∀ id, id < b → M.mem id = m id
theorem AgB.ans {b : Nat} {m : Mem} {M M' : MM} (h : AgB b m M) (h1 : M'.mem = M.mem) (h2 : M.nx ≤ M'.nx) : AgB b m M' := ⟨Nat.le_trans h.1 h2, fun id hid => by rw [h1]; exact h.2 id hid⟩
theorem AgB.up {b : Nat} {m : Mem} {M : MM} (h : AgB b m M) (f : Nat) : AgB b m (M.up f) := h.ans rfl (Nat.le_max_left _ _)
theorem AgB.bump {b : Nat} {m : Mem} {M : MM} (h : AgB b m M) (f : Nat) : AgB b m (M.bump f) := h.ans rfl (Nat.le_add_right _ _)
theorem AgB.lk {b : Nat} {m : Mem} {M : MM} (h : AgB b m M) : AgB b m ⟨M.nx, look M.mem (.top M.nx)⟩ := ⟨h.1, fun id hid => by
  have : look M.mem (.top M.nx) id = M.mem id := by simp only [Sx.look, ok_top.2 (Nat.lt_of_lt_of_le hid h.1), if_true]
  exact this.trans (h.2 id hid)⟩
def firstIx (p : Ty → Bool) : List Ty → Nat → Int
  | [], _ => -1
  | t :: r, i => if p t then i else firstIx p r (i + 1)
theorem firstIx_any (p : Ty → Bool) : ∀ (l : List Ty) (i : Nat), decide (0 ≤ firstIx p l i) = l.any p
  | [], i => by simp [firstIx]
  | t :: r, i => by
    have e : firstIx p (t :: r) i = if p t then (i : Int) else firstIx p r (i + 1) := rfl
    have ih := firstIx_any p r (i + 1)
    by_cases h : p t = true
    · have e2 : firstIx p (t :: r) i = i := by rw [e, if_pos h]
      have : 0 ≤ firstIx p (t :: r) i := by rw [e2]; omega
      simp [this, h]
    · have e2 : firstIx p (t :: r) i = firstIx p r (i + 1) := by rw [e, if_neg h]
      simp only [List.any_cons, h, Bool.false_or, ← ih, e2]
theorem rn_ro {R : Type} {r : R → Prop} {call : CallT} {lim : Lm} {f : FuncId} {args : List AV} {M : MM} {v : AV} {k : AV → Option R} {Q : AV × MM → Prop}
    (h : Wp (call f args M.nx ⟨M.nx, look M.mem lim⟩) Q) (hQ : ∀ x, Q x → x.1 = v) (hf : ∀ m n, freeze m n v = some v) (hk : Wp (k v) r) : Wp (opt (roA call lim f args M) k) r := by
  obtain ⟨⟨w, M'⟩, e, q⟩ := h
  have := hQ _ q
  simp only at this; subst this
  refine rn_opt (v := w) ?_ hk
  simp only [roA, e, hf]

theorem Wp.of_opt {A : Type} {o : Option A} {Q : A → Prop} (h : Wp (opt o some) Q) : Wp o Q := by
  obtain ⟨y, e, q⟩ := h
  cases o with
  | none => cases e
  | some z => exact ⟨y, e, q⟩
theorem Wp.of_bnd {o : Option (AV × MM)} {Q : AV × MM → Prop} (h : Wp (bnd o fun a b => some (a, b)) Q) : Wp o Q := by
  obtain ⟨y, e, q⟩ := h
  cases o with
  | none => cases e
  | some z => exact ⟨y, e, q⟩
theorem Wp.eq {A : Type} {o : Option A} {v : A} (h : Wp o (fun x => x = v)) : o = some v := by obtain ⟨y, e, rfl⟩ := h; exact e

theorem el_closed (l : List Ty) (i : Nat) (hi : i < l.length) (M : MM) : ∃ a, ixsA 2 (avTs l) (.i (i : Int)) = some a ∧ ldnA (lk M) 2 a = some (avT l[i]) :=
  ⟨.ip (encT l[i] ++ encTs (l.drop (i + 1))), Wp.eq (Wp.of_opt (rn_ixT hi ⟨_, rfl, rfl⟩)), Wp.eq (Wp.of_opt (rn_ldT ⟨_, rfl, rfl⟩))⟩

section
variable {call : CallT} (hc : Lim G call)
include hc

theorem ixf (x fv : AV) (l : List Ty) (p : Ty → Bool) (b : Nat) (m : Mem) (hlen : lenA x = some (.i l.length)) (hll : l.length ≤ 1000000000000)
    (hel : ∀ (i : Nat) (hi : i < l.length) (M : MM), AgB b m M → ∃ a, ixsA 2 x (.i (i : Int)) = some a ∧ ldnA (lk M) 2 a = some (avT l[i]))
    (hcl : ∀ t ∈ l, ∀ lo M, AgB b m M → Wp (istep call modeF false lo (.top M.nx) M.nx (.callw [] (.k fv) [.k (avT t)]) [] M) (Ans (.bool (p t)) M)) :
    ∀ lo M, AgB b m M → Wp (call 15 [x, fv] lo M) (Ans (.i (firstIx p l 0)) M) := by
  intro lo M hM
  obtain ⟨nl, hG, hN⟩ : ∃ nl, G.nl = nl ∧ nl = 18446744073709551616 := ⟨_, rfl, rfl⟩
  rw [q15 hc, hG]
  clear hG
  have loop : ∀ (r : List Ty) (i f : Nat) (M : MM), AgB b m M → l.drop i = r → r.length < f →
      Wp (b15_4 call nl lo f x fv (.i l.length) (.i i) M) (Ans (.i (firstIx p r i)) M) := by
    intro r
    induction r with
    | nil =>
      intro i f M hM hd hf
      obtain ⟨f, rfl⟩ : ∃ k, f = k + 1 := ⟨f - 1, by simp only [List.length_nil] at hf; omega⟩
      have := drop_nil hd
      unfold b15_4
      repeat (first | (with_reducible (first | refine rn_if_f ?_)) | ((with_reducible refine rn_lss_f ?_ ?_); focus omega))
      exact rn_ans
    | cons y r ih =>
      intro i f M hM hd hf
      simp only [List.length_cons] at hf
      obtain ⟨f, rfl⟩ : ∃ k, f = k + 1 := ⟨f - 1, by omega⟩
      obtain ⟨hi, hd'⟩ := drop_cons hd
      have hx : y ∈ l := List.drop_subset i l (by rw [hd]; simp)
      have hy : l[i] = y := by
        have := List.drop_eq_getElem_cons hi
        rw [hd] at this
        exact (List.cons.inj this).1.symm
      obtain ⟨a, ha1, ha2⟩ := hel i hi M hM
      rw [hy] at ha2
      unfold b15_4
      repeat (first | (with_reducible (first | refine rn_opt ha1 ?_ | refine rn_opt ha2 ?_ | refine rn_if_t ?_)) | ((with_reducible refine rn_lss_t ?_ ?_); focus omega))
      refine rn_wp (hcl y hx lo M hM) fun v M' hh => ?_
      obtain ⟨h1, h2, h3⟩ := hh
      simp only at h1 h2 h3
      subst h1
      refine Wp.mono (Q := Ans _ M') ?_ fun _ q => ⟨q.1, q.2.1.trans h2, Nat.le_trans h3 q.2.2⟩
      simp only [firstIx]
      cases p y
      · refine rn_if_f ?_
        repeat (first | ((with_reducible refine rn_add64 ?_ ?_); focus omega))
        exact ih (i + 1) f _ (hM.ans h2 h3) hd' (by omega)
      · refine rn_if_t ?_
        exact rn_ans
  unfold s15
  refine rn_opt hlen ?_
  exact loop l 0 nl M hM rfl (by omega)

theorem conf (x fv : AV) (l : List Ty) (p : Ty → Bool) (b : Nat) (m : Mem) (hlen : lenA x = some (.i l.length)) (hll : l.length ≤ 1000000000000)
    (hel : ∀ (i : Nat) (hi : i < l.length) (M : MM), AgB b m M → ∃ a, ixsA 2 x (.i (i : Int)) = some a ∧ ldnA (lk M) 2 a = some (avT l[i]))
    (hcl : ∀ t ∈ l, ∀ lo M, AgB b m M → Wp (istep call modeF false lo (.top M.nx) M.nx (.callw [] (.k fv) [.k (avT t)]) [] M) (Ans (.bool (p t)) M)) :
    ∀ lo M, AgB b m M → Wp (call 19 [x, fv] lo M) (Ans (.bool (l.any p)) M) := by
  intro lo M hM
  rw [q19 hc]
  unfold s19
  refine rn_ro (ixf hc x fv l p b m hlen hll hel hcl M.nx _ hM.lk) (fun _ q => q.1) (fun _ _ => rfl) ?_
  refine rn_geq ?_
  exact rn_ans' (by rw [firstIx_any])

theorem closed_cc : ∀ (n : Nat) (t : Ty), t.size ≤ n → n ≤ 1000000000000 → CC call 22 [avT t] (.bool t.closed) := by
  intro n
  induction n with
  | zero => intro t h; have := t.size_pos; omega
  | succ n ih =>
    intro t h hn lo M
    have hs := t.size_eq
    have hlen := sizes_len t.args
    have hF : ∀ x ∈ t.args, CC call 30 [avT x] (.bool !x.closed) := fun x hx lo M => by
      have := size_mem hx
      rw [q30 hc]
      unfold s30
      repeat (first | (with_reducible (first | refine rn_aggT ?_ | refine rn_allT ?_ | refine rn_pcc (ih x (by omega) (by omega)) (fz_b _) (ClT1 _) ?_ | refine rn_upa ?_)))
      refine rn_not ?_
      exact rn_ans
    have hC : ∀ lo M, Wp (call 19 [avTs t.args, .fn 30 [] []] lo M) (Ans (.bool (t.args.any fun x => !x.closed)) M) := fun lo M =>
      conf hc (avTs t.args) (.fn 30 [] []) t.args (fun x => !x.closed) 0 M.mem rfl (by omega) (fun i hi M' _ => el_closed t.args i hi M')
        (fun x hx lo M' _ => Wp.of_bnd (rn_pcw rfl rfl rfl (hF x hx) (fz_b _) (ClT1 _) rn_ans))
        lo M ⟨Nat.zero_le _, fun id h => absurd h (Nat.not_lt_zero _)⟩
    have hany : (t.args.any fun x => !x.closed) = !(closeds t.args) := by
      generalize t.args = l
      induction l with
      | nil => rfl
      | cons y r ih => simp only [List.any_cons, closeds, ih]; cases y.closed <;> simp
    rw [q22 hc]
    unfold s22
    repeat (first | (with_reducible (first | refine rn_aggT ?_ | refine rn_noT ?_ | refine rn_nameT ?_ | refine rn_pcc (param_cc hc t.name) (fz_b _) (by simp [ClStr]) ?_ | refine rn_upa ?_)))
    rw [t.closed_eq]
    cases param t.name
    · repeat (first | (with_reducible (first | refine rn_noT ?_ | refine rn_argsT ?_ | refine rn_gp_tt ?_ | refine rn_not_f ?_)))
      refine rn_ro (hC _ _) (fun _ q => q.1) (fun _ _ => rfl) ?_
      refine rn_gp_tt ?_
      refine rn_not ?_
      repeat (first | (with_reducible (first | refine rn_pt ?_)))
      exact rn_ans' (by rw [hany, Bool.not_not]; rfl)
    · repeat (first | (with_reducible (first | refine rn_gp_ft ?_ | refine rn_pf ?_ | refine rn_not_t ?_)))
      exact rn_ans
end
end Go.Proofs.Ytnbhmlflbbddcaa.Sx

namespace Go.Proofs.Ytnbhmlflbbddcaa.Sx
open Go
set_option maxRecDepth 1000000
set_option linter.unusedSimpArgs false
set_option linter.unusedVariables false

abbrev sArray : ByteArray := ⟨⟨[65, 114, 114, 97, 121]⟩⟩
abbrev avP (p : List Ty × Int) : AV := .tup [avTs p.1, .i p.2]
theorem fz_P (p : List Ty × Int) (m : Mem) (n : Nat) : freeze m n (avP p) = some (avP p) := rfl
def withinL (params : List ByteArray) (args : List Ty) : List Ty → List Ty → List Ty × Int
  | [], out => (out, 0)
  | x :: r, out => if (substT params args x).2 ≠ 0 then ([], (substT params args x).2)
    else if out.any (fun z => (substT params args x).1.same z) then withinL params args r out
    else withinL params args r (out ++ [(substT params args x).1])
def withinT (types : List Ty) (params : List ByteArray) (frozen ok : Bool) (t : Ty) (all : Bool) : List Ty × Int :=
  if !t.closed then ([], 19)
  else if builtin t.name then
    if (t.args.length : Int) ≠ (if t.name = sArray then 1 else 0) then ([], 9)
    else match all && decide (t.name = sArray), t.args with
      | true, a :: _ => ([(substT [] [] a).1], 0)
      | _, _ => ([], 0)
  else if !ok then ([], 6)
  else if params.length ≠ t.args.length then ([], 9)
  else if !frozen then ([], 15)
  else withinL params t.args types []

section
variable {call : CallT} (hc : Lim G call)
include hc

theorem copied_cc : ∀ (n : Nat) (t : Ty), t.size ≤ n → n ≤ 1000000000000 → CC call 14 [avT t] (avT t) := by
  intro n
  induction n with
  | zero => intro t h; have := t.size_pos; omega
  | succ n ih =>
    intro t h hn lo M
    obtain ⟨nl, hG, hN⟩ : ∃ nl, G.nl = nl ∧ nl = 18446744073709551616 := ⟨_, rfl, rfl⟩
    rw [q14 hc, hG]
    clear hG
    have hs := t.size_eq
    have hlen := sizes_len t.args
    have loop : ∀ (s d : List Ty) (i f : Nat) (M : MM), d ++ s = t.args → d.length = i → s.length < f →
        Wp (b14_5 call nl lo f (.agg [.str ⟨⟨[]⟩⟩, .d (.sl [] 0)]) (avT (.mk t.name d)) (avTs t.args) (.i t.args.length) (.i i) M) (Ans (avT t) M) := by
      intro s
      induction s with
      | nil =>
        intro d i f M hd hi hf
        obtain ⟨f, rfl⟩ : ∃ k, f = k + 1 := ⟨f - 1, by simp only [List.length_nil] at hf; omega⟩
        rw [List.append_nil] at hd
        subst hd
        unfold b14_5
        repeat (first | (with_reducible (first | refine rn_allT ?_ | refine rn_setT ?_ | refine rn_locT ?_ | refine rn_if_f ?_)) | ((with_reducible refine rn_lss_f ?_ ?_); focus omega))
        exact rn_ans' (by cases t; rfl)
      | cons x s ihs =>
        intro d i f M hd hi hf
        simp only [List.length_cons] at hf
        obtain ⟨f, rfl⟩ : ∃ k, f = k + 1 := ⟨f - 1, by omega⟩
        have hdrop : t.args.drop i = x :: s := by rw [← hd, ← hi, List.drop_left]
        obtain ⟨hl, hd'⟩ := drop_cons hdrop
        have hx : x.size ≤ n := by
          have h1 := sizes_drop t.args i
          rw [hdrop] at h1; simp only [sizes] at h1; omega
        have hdl : d.length ≤ t.args.length := by rw [← hd]; simp
        have hbb : ((Ty.mk t.name d).args.length + 1) * 40 ≤ 140737488355328 ∧ (Ty.mk t.name d).args.length + 1 ≤ 9223372036854775807 := by simp only [Ty.args]; omega
        unfold b14_5
        repeat (first | (with_reducible (first | refine rn_ixD hdrop ?_ | refine rn_ldT ?_ | refine rn_setT ?_ | refine rn_allT ?_ | refine rn_noT ?_ | refine rn_argsT ?_ | refine rn_pcc (ih x hx (by omega)) (fz_T _) (ClT1 _) ?_ | refine rn_wslT ?_ | refine rn_appT hbb ?_ | refine rn_setA ?_ | refine rn_upa ?_ | refine rn_bumpa ?_ | refine rn_if_t ?_)) | ((with_reducible refine rn_add64 ?_ ?_); focus omega) | ((with_reducible refine rn_lss_t ?_ ?_); focus omega))
        exact ihs (d ++ [x]) (i + 1) f _ (by rw [List.append_assoc]; exact hd) (by simp [hi]) (by omega)
    unfold s14
    repeat (first | (with_reducible (first | refine rn_aggT ?_ | refine rn_noT ?_ | refine rn_nameT ?_ | refine rn_argsT ?_ | refine rn_lenT ?_ | refine rn_upa ?_ | refine rn_mke ?_)) | ((with_reducible refine rn_setcall ?_ ?_ ?_ ?_); (focus exact rfl); (focus exact rfl); (focus exact rfl)) | ((with_reducible refine rn_mk0 ?_ ?_); focus exact ⟨rfl, rfl⟩))
    exact loop t.args [] 0 nl _ rfl rfl (by omega)

theorem within_loop (nl : Nat) (t : Ty) (ht : t.size ≤ 1000000000) (params : List ByteArray) (hp : params.length ≤ 1000000000) (types : List Ty) (hts : types.length ≤ 1000000000)
    (hsz : ∀ x ∈ types, x.size ≤ 1000000000 ∧ (substT params t.args x).1.size ≤ 1000000000000) :
    ∀ (s out : List Ty) (i f : Nat) (M : MM), types.drop i = s → s.length < f → out.length ≤ i → (∀ y ∈ out, y.size ≤ 1000000000000) →
      Wp (b13_9 call nl 0 f (avT t) (avS params) (avTs out) (avTs types) (.i types.length) (.i i) M) (Av (avP (withinL params t.args s out))) := by
  have hargs : t.args.length ≤ 1000000000 := by have := t.size_eq; have := sizes_len t.args; omega
  have hsa : ∀ x ∈ t.args, x.size ≤ 1000000000000 := fun x hx => by have := t.size_eq; have := size_mem hx; omega
  intro s
  induction s with
  | nil =>
    intro out i f M hd hf hol ho
    obtain ⟨f, rfl⟩ : ∃ k, f = k + 1 := ⟨f - 1, by simp only [List.length_nil] at hf; omega⟩
    have := drop_nil hd
    unfold b13_9
    repeat (first | (with_reducible (first | refine rn_if_f ?_)) | ((with_reducible refine rn_lss_f ?_ ?_); focus omega))
    exact rn_av
  | cons x s ih =>
    intro out i f M hd hf hol ho
    simp only [List.length_cons] at hf
    obtain ⟨f, rfl⟩ : ∃ k, f = k + 1 := ⟨f - 1, by omega⟩
    obtain ⟨hi', hd'⟩ := drop_cons hd
    have hx : x ∈ types := List.drop_subset i types (by rw [hd]; simp)
    obtain ⟨hx1, hx2⟩ := hsz x hx
    have hcl2 : ∀ y ∈ [avT x, avS params, avTs t.args], Cl y := by simp [ClS, ClT, ClTs]
    unfold b13_9
    simp only [withinL]
    repeat (first | (with_reducible (first | refine rn_noT ?_ | refine rn_argsT ?_ | refine rn_ldT ?_ | refine rn_setT ?_ | refine rn_allT ?_ | refine rn_ixD hd ?_ | refine rn_upk ?_ | refine rn_puc (subst_pc hc params t.args x (by omega) (by omega) hsa (by omega)) hcl2 ?_ | refine rn_if_t ?_ | refine rn_ext0 ?_ | refine rn_ext1 ?_)) | ((with_reducible refine rn_lss_t ?_ ?_); focus omega))
    refine rn_new rfl ?_
    refine rn_stn rfl (ok_top.2 (Nat.lt_of_lt_of_le (Nat.lt_succ_self _) (Nat.le_max_right _ _))) (upd_same _ _ _) ⟨Nat.zero_le _, rfl, rfl⟩ (by simp) rfl ?_
    generalize hy : (substT params t.args x).1 = y at hx2 ⊢
    generalize (substT params t.args x).2 = e
    refine rn_neq ?_
    refine rn_if (fun hne => ?_) (fun he => ?_)
    · rw [if_pos hne]
      skip
      exact rn_av
    · rw [if_neg (by simpa using he)]
      skip
      generalize hM : (MM.put _ _ _ : MM) = M2
      have hj : (M.up M.nx).nx < M2.nx := by subst hM; exact Nat.lt_of_lt_of_le (Nat.lt_succ_self _) (Nat.le_max_right _ _)
      have hm2 : M2.mem (M.up M.nx).nx = some (.cells 24 [.d (.v (.string y.name)), .d (.sl (encTs y.args) y.args.length)]) := by subst hM; exact upd_same _ _ _
      generalize (M.up M.nx).nx = j at hj hm2 ⊢
      refine rn_ro (conf hc (avTs out) (.fn 26 [] [.ptr j 0]) out (fun z => y.same z) (j + 1) M2.mem rfl (by omega) (fun i hi M' _ => el_closed out i hi M') (fun z hz lo M' hA => ?_) _ _ (AgB.lk ⟨hj, fun _ _ => rfl⟩)) (fun _ q => q.1) (fun _ _ => rfl) ?_
      · refine Wp.of_bnd (rn_callw (Q := Ans (.bool (y.same z)) M') rfl rfl ?_ fun v M'' q => ⟨_, rfl, q⟩)
        show Wp (call 26 [avT z, .ptr j 0] lo M') _
        rw [q26 hc]
        unfold s26
        have hjm := (hA.2 j (Nat.lt_succ_self j)).trans hm2
        have hlt : j < M'.nx := Nat.lt_of_lt_of_le (Nat.lt_succ_self j) hA.1
        repeat (first | (with_reducible (first | refine rn_aggT ?_ | refine rn_upa ?_)))
        refine rn_ldTc (u := y) (ok_top.2 (Nat.lt_of_lt_of_le hlt (Nat.le_max_left _ _))) hjm (by simp) rfl ?_
        repeat (first | (with_reducible (first | refine rn_allT ?_ | refine rn_pcc (same_cc hc _ y z hx2 (by omega)) (fz_b _) (ClT2 _ _) ?_ | exact rn_ans)))
      cases hany : out.any fun z => y.same z
      · refine rn_not (rn_if_t ?_)
        simp only [Bool.false_eq_true, if_false]
        refine rn_ldTc (u := y) (ok_top.2 hj) hm2 (by simp) rfl ?_
        repeat (first | (with_reducible (first | refine rn_wslT ?_ | refine rn_upk ?_ | refine rn_appT (by omega) ?_)) | ((with_reducible refine rn_add64 ?_ ?_); focus omega))
        exact ih (out ++ [y]) (i + 1) f _ hd' (by omega) (by simp; omega) (fun z hz => by
          rcases List.mem_append.1 hz with h | h
          · exact ho z h
          · rw [List.mem_singleton.1 h]; exact hx2)
      · refine rn_not (rn_if_f ?_)
        simp only [if_true]
        repeat (first | ((with_reducible refine rn_add64 ?_ ?_); focus omega))
        exact ih out (i + 1) f _ hd' (by omega) (by omega) ho

theorem within_pc (w : AV) (hw : Cl w) (t : Ty) (all : Bool) (ht : t.size ≤ 1000000000) (params : List ByteArray) (hp : params.length ≤ 1000000000) (types : List Ty) (hts : types.length ≤ 1000000000) (frozen ok : Bool)
    (hsz : ∀ x ∈ types, x.size ≤ 1000000000 ∧ (substT params t.args x).1.size ≤ 1000000000000) (hL : PC call 25 [w, .str t.name, .bool all] (.tup [avTs types, avS params, .bool frozen, .bool ok])) :
    PC call 13 [w, avT t, .bool all] (avP (withinT types params frozen ok t all)) := by
  refine Wp.pc (fun M => ?_) (fun m => fz_P _ m 0)
  obtain ⟨nl, hG, hN⟩ : ∃ nl, G.nl = nl ∧ nl = 18446744073709551616 := ⟨_, rfl, rfl⟩
  rw [q13 hc, hG]
  clear hG
  have hargs : t.args.length ≤ 1000000000 := by have := t.size_eq; have := sizes_len t.args; omega
  have hclL : ∀ y ∈ [w, .str t.name, .bool all], Cl y := by
    intro y hy
    simp only [List.mem_cons, List.not_mem_nil, or_false] at hy
    rcases hy with rfl | rfl | rfl
    · exact hw
    · exact ⟨rfl, rfl⟩
    · exact ⟨rfl, rfl⟩
  unfold s13 withinT
  repeat (first | (with_reducible (first | refine rn_aggT ?_ | refine rn_allT ?_ | refine rn_upk ?_ | refine rn_pcc (closed_cc hc _ t ht (by omega)) (fz_b _) (ClT1 _) ?_)))
  cases hcl : t.closed
  · refine rn_not (rn_if_t ?_)
    simp only [Bool.not_false, if_true]
    exact rn_av
  refine rn_not (rn_if_f ?_)
  simp only [Bool.not_true, Bool.false_eq_true, if_false]
  repeat (first | (with_reducible (first | refine rn_noT ?_ | refine rn_nameT ?_ | refine rn_pcc (Builtin_cc hc t.name) (fz_b _) (by simp [ClStr]) ?_)))
  cases hb : builtin t.name
  · simp only [Bool.false_eq_true, if_false]
    refine rn_if_f ?_
    repeat (first | (with_reducible (first | refine rn_noT ?_ | refine rn_nameT ?_ | refine rn_puc hL hclL ?_ | refine rn_ext3 ?_ | refine rn_ext0 ?_ | refine rn_ext1 ?_ | refine rn_ext2 ?_)))
    cases ok
    · refine rn_not ?_
      refine rn_if_t ?_
      simp only [Bool.not_false, if_true]
      skip
      exact rn_av
    refine rn_not ?_
    refine rn_if_f ?_
    simp only [Bool.not_true, Bool.false_eq_true, if_false]
    repeat (first | (with_reducible (first | refine rn_noT ?_ | refine rn_argsT ?_ | refine rn_lenT ?_ | refine rn_len_sl ?_)))
    refine rn_neq ?_
    refine rn_if (fun hne => ?_) (fun he => ?_)
    · rw [if_pos (by omega)]
      exact rn_av
    rw [if_neg (by omega)]
    cases frozen
    · refine rn_not ?_
      refine rn_if_t ?_
      simp only [Bool.not_false, if_true]
      exact rn_av
    refine rn_not ?_
    refine rn_if_f ?_
    simp only [Bool.not_true, Bool.false_eq_true, if_false]
    repeat (first | (with_reducible (first | refine rn_lenT ?_)))
    exact within_loop hc nl t ht params hp types hts hsz types [] 0 nl _ rfl (by omega) (Nat.le_refl _) (fun _ h => by simp at h)
  · simp only [if_true]
    refine rn_if_t ?_
    repeat (first | (with_reducible (first | refine rn_noT ?_ | refine rn_nameT ?_ | refine rn_eqS ?_)))
    by_cases hA : t.name = sArray
    · simp only [hA, decide_true, if_true, Bool.and_true]
      refine rn_if_t ?_
      repeat (first | (with_reducible (first | refine rn_noT ?_ | refine rn_argsT ?_ | refine rn_lenT ?_)))
      refine rn_neq ?_
      refine rn_if (fun hne => ?_) (fun he => ?_)
      · rw [if_pos hne]
        exact rn_av
      rw [if_neg (by simpa using he)]
      cases all
      · repeat (first | (with_reducible (first | refine rn_if_f ?_ | refine rn_gp_ft ?_ | refine rn_pf ?_)))
        exact rn_av
      · obtain ⟨a, ha⟩ : ∃ a, t.args = [a] := by
          match h : t.args, he with
          | [a], _ => exact ⟨a, rfl⟩
          | [], he => simp at he
          | _ :: _ :: _, he => simp at he; omega
        have has : a.size ≤ 1000000000 := by have := t.size_eq; rw [ha] at this; simp only [sizes] at this; omega
        have hd : t.args.drop 0 = a :: [] := ha
        have hP : PC call 24 [avT a, .d (.sl [] 0), .d (.sl [] 0)] (avE (substT [] [] a)) := subst_pc hc [] [] a (by simp) (by simp) (by simp) (by omega)
        have hcl2 : ∀ y ∈ [avT a, .d (.sl [] 0), .d (.sl [] 0)], Cl y := by
          intro y hy
          simp only [List.mem_cons, List.not_mem_nil, or_false] at hy
          rcases hy with rfl | rfl | rfl
          · exact ClT a
          · exact ⟨rfl, rfl⟩
          · exact ⟨rfl, rfl⟩
        repeat (first | (with_reducible (first | refine rn_noT ?_ | refine rn_argsT ?_ | refine rn_some ?_ | refine rn_if_t ?_ | refine rn_gp_tt ?_ | refine rn_pt ?_)) | ((with_reducible refine rn_eql_t ?_ ?_); focus omega) | ((with_reducible refine rn_ixsl ?_ ?_); focus omega))
        rw [show List.drop (Int.toNat 0 * 2) (encTs t.args) = encT a ++ [] by rw [ha]; simp [encTs]]
        repeat (first | (with_reducible (first | refine rn_ldT ?_ | refine rn_setT ?_ | refine rn_allT ?_ | refine rn_wslT ?_ | refine rn_puc hP hcl2 ?_ | refine rn_upk ?_ | refine rn_ext0 ?_ | refine rn_ext1 ?_)))
        rw [ha]
        refine rn_done ?_
        show AV.tup [AV.d (D.sl (encT (substT [] [] a).fst) 1), AV.i 0] = avP ([(substT [] [] a).1], 0)
        have e : encTs [(substT [] [] a).1] = encT (substT [] [] a).1 := by simp [encTs]
        show _ = AV.tup [AV.d (D.sl (encTs [(substT [] [] a).1]) 1), AV.i 0]
        rw [e]
    · simp only [hA, decide_false, if_false, Bool.and_false, Bool.false_eq_true]
      refine rn_if_f ?_
      repeat (first | (with_reducible (first | refine rn_noT ?_ | refine rn_argsT ?_ | refine rn_lenT ?_)))
      refine rn_neq ?_
      refine rn_if (fun hne => ?_) (fun he => ?_)
      · rw [if_pos hne]
        exact rn_av
      rw [if_neg (by simpa using he)]
      cases all
      · repeat (first | (with_reducible (first | refine rn_if_f ?_ | refine rn_gp_ft ?_ | refine rn_pf ?_)))
        exact rn_av
      · repeat (first | (with_reducible (first | refine rn_some ?_ | refine rn_if_f ?_ | refine rn_gp_tt ?_ | refine rn_pt ?_)) | ((with_reducible refine rn_eql_f ?_ ?_); focus omega))
        exact rn_av
end
end Go.Proofs.Ytnbhmlflbbddcaa.Sx

namespace Go.Proofs.Ytnbhmlflbbddcaa.Sx
open Go
set_option maxRecDepth 1000000
set_option linter.unusedSimpArgs false
set_option linter.unusedVariables false

/-! ### What a call without memory answers has no tokens -/
def noV : AV → Bool
  | .ov _ _ _ _ => false
  | _ => true
def noVA : AV → Bool
  | .agg cs => cs.all noV
  | x => noV x
def noVT : AV → Bool
  | .tup vs => vs.all noVA
  | x => noVA x
theorem freeze1_noV {m : Mem} {n : Nat} {x y : AV} (h : freeze1 m n x = some y) : noV y = true ∧ noVA y = true := by
  unfold freeze1 at h
  split at h
  · split at h
    · injection h with h; subst h; exact ⟨rfl, rfl⟩
    · cases h
  · split at h
    · injection h with h; subst h; exact ⟨rfl, rfl⟩
    · cases h
  · injection h with h; subst h; exact ⟨rfl, rfl⟩
  · split at h
    · injection h with h; subst h; exact ⟨rfl, rfl⟩
    · obtain ⟨d, _, rfl⟩ := Option.map_eq_some_iff.1 h; exact ⟨rfl, rfl⟩
  · injection h with h; subst h; exact ⟨rfl, rfl⟩
  · obtain ⟨d, _, rfl⟩ := Option.map_eq_some_iff.1 h; exact ⟨rfl, rfl⟩
  · cases h
theorem mapM_all {A B : Type} {f : A → Option B} {p : B → Bool} (h : ∀ a b, f a = some b → p b = true) : ∀ {l : List A} {r : List B}, l.mapM f = some r → r.all p = true
  | [], r, e => by simp at e; subst e; rfl
  | a :: l, r, e => by
    simp only [List.mapM_cons, Option.bind_eq_bind, Option.bind_eq_some_iff, Option.pure_def, Option.some.injEq] at e
    obtain ⟨b, hb, r', hr, rfl⟩ := e
    simp only [List.all_cons, h a b hb, mapM_all h hr, Bool.and_self]
theorem freezeA_noV {m : Mem} {n : Nat} {x y : AV} (h : freezeA m n x = some y) : noVA y = true := by
  unfold freezeA at h
  split at h
  · obtain ⟨cs, hcs, rfl⟩ := Option.map_eq_some_iff.1 h
    exact mapM_all (fun a b h => (freeze1_noV h).1) hcs
  · exact (freeze1_noV h).2
theorem freeze_noV {m : Mem} {n : Nat} {x y : AV} (h : freeze m n x = some y) : noVT y = true := by
  unfold freeze at h
  split at h
  · obtain ⟨cs, hcs, rfl⟩ := Option.map_eq_some_iff.1 h
    exact mapM_all (fun a b h => freezeA_noV h) hcs
  · have := freezeA_noV h
    cases y with
    | tup vs => simp [noVA, noV] at this ⊢; cases x <;> simp [freezeA, freeze1] at h <;> (try split at h) <;> simp_all
    | _ => exact this
theorem vv_dcase {x : AV} {z : D} (h1 : noV x = true) (h : vv x = .d z) : ∃ d, x = .d d ∧ nrm d = z := by
  cases x with
  | d d => simp only [vv, AV.d.injEq] at h; exact ⟨d, rfl, h⟩
  | ov a b c d => simp [noV] at h1
  | _ => simp [vv] at h

/-! ### Calls -/
theorem snap_closed (l1 l2 : Nat → Option Blk) : ∀ {args : List AV}, (∀ x ∈ args, closedA x = true) → args.mapM (snap l1) = args.mapM (snap l2)
  | [], _ => rfl
  | a :: r, h => by
    have ea : snap l1 a = snap l2 a := by simp only [snap, h a (by simp), if_true]
    rw [List.mapM_cons, List.mapM_cons, snap_closed l1 l2 (fun x hx => h x (by simp [hx])), ea]
section
variable {cV cK : CallT} (hV : Lim G cV) (hK : Lim GK cK)
include hV hK

theorem puK {f : FuncId} {args : List AV} {v : AV} {lk : Nat → Option Blk} (hm : modeF f = .pure) (hp : sigS.ps f = []) (h : PC cV f (vvs args) v) (hs : ∀ x ∈ vvs args, Cl x) (hc : args.all closedA = true) :
    ∃ v', puA cK lk f args = some v' ∧ vv v' = v ∧ noVT v' = true := by
  obtain ⟨w, M', h1, h2⟩ := h
  obtain ⟨N, hN⟩ := (hV _ _ _ _ _).1 h1
  have hd : docall (acall G N) modeF false 0 (.top 0) f (vvs args) (vm ⟨0, fun _ => none⟩) = some (v, vm ⟨0, fun _ => none⟩) := by
    have e := puA_ok (lk := look (vm ⟨0, fun _ => none⟩).mem (.top 0)) (call := acall G N) ⟨w, M', hN, h2⟩ (Cls.snap hs) (List.all_eq_true.2 fun x hx => (hs x hx).1)
    rw [docall_pu hm, e]; rfl
  obtain ⟨r, M1, e1, e2, _⟩ := docall_v (acall_v G_vok N) G_vok.sig (M := ⟨0, fun _ => none⟩) hd (Nat.le_refl _) (fun _ h => absurd rfl h) (.none hp _ _ _) (Nat.le_refl _) (fun id hid => by
    obtain ⟨q, hq, _⟩ := hid
    rw [hp] at hq; simp at hq)
  have e3 := docall_mono (c' := cK) (fun f args lo M x hx => (hK _ _ _ _ _).2 ⟨N, hx⟩) e1
  have hm' : GK.mode f = .pure := hm
  rw [docall_pu hm'] at e3
  obtain ⟨v', e4, e5⟩ := Option.map_eq_some_iff.1 e3
  simp only [Prod.mk.injEq] at e5
  obtain ⟨rfl, _⟩ := e5
  have e6 : puA cK lk f args = some v' := by
    have es := fun l1 l2 => snap_closed l1 l2 (List.all_eq_true.1 hc)
    rw [← e4]
    simp only [puA]
    rw [es lk (look ((⟨0, fun _ => none⟩ : MM)).mem (.top 0))]
  refine ⟨v', e6, e2, ?_⟩
  simp only [puA] at e6
  split at e6
  · split at e6
    · split at e6
      · rename_i hfz
        split at e6
        · injection e6 with e6; subst e6; exact freeze_noV hfz
        · cases e6
      · cases e6
    · cases e6
  · cases e6

theorem rn_puK {R : Type} {r : R → Prop} {f : FuncId} {args : List AV} {v : AV} {lk : Nat → Option Blk} {k : AV → Option R} (h : PC cV f (vvs args) v) (hm : modeF f = .pure) (hp : sigS.ps f = []) (hs : ∀ x ∈ vvs args, Cl x) (hc : args.all closedA = true)
    (hk : ∀ v', vv v' = v → noVT v' = true → Wp (k v') r) : Wp (opt (puA cK lk f args) k) r := by
  obtain ⟨v', e1, e2, e3⟩ := puK hV hK (lk := lk) hm hp h hs hc
  exact rn_opt e1 (hk v' e2 e3)

theorem roK {f : FuncId} {args : List AV} {v : AV} {M : MM} (hm : modeF f = .ro) (hp : sigS.ps f = []) (hwf : WF M) {Q : AV × MM → Prop} (h : Wp (cV f (vvs args) M.nx ⟨M.nx, look (vm M).mem (.top M.nx)⟩) Q) (hQ : ∀ x, Q x → x.1 = v) (hf : ∀ m n, freeze m n v = some v) :
    ∃ v', roA cK (.top M.nx) f args M = some v' ∧ vv v' = v := by
  obtain ⟨⟨w, M'⟩, h1, q⟩ := h
  have := hQ _ q
  simp only at this; subst this
  obtain ⟨N, hN⟩ := (hV _ _ _ _ _).1 h1
  have hd : docall (acall G N) modeF false 0 (.top M.nx) f (vvs args) (vm M) = some (w, vm M) := by
    simp only [docall, hm]
    have e : acall G N f (vvs args) (vm M).nx ⟨(vm M).nx, look (vm M).mem (.top M.nx)⟩ = some (w, M') := hN
    rw [e]
    simp only [hf, Option.map_some]
  obtain ⟨r, M1, e1, e2, _⟩ := docall_v (acall_v G_vok N) G_vok.sig (M := M) hd (Nat.zero_le _) hwf (.none hp _ _ _) (Nat.le_refl _) (fun id hid => by
    obtain ⟨q, hq, _⟩ := hid
    rw [hp] at hq; simp at hq)
  have e3 := docall_mono (c' := cK) (fun f args lo M x hx => (hK _ _ _ _ _).2 ⟨N, hx⟩) e1
  have hm' : GK.mode f = .ro := hm
  simp only [docall, hm'] at e3
  refine ⟨r, ?_, e2⟩
  simp only [roA]
  split at e3
  · obtain ⟨y, e4, e5⟩ := Option.map_eq_some_iff.1 e3
    simp only [Prod.mk.injEq] at e5
    rename_i heq
    rw [heq]
    simp only [e4, e5.1]
  · cases e3
end

/-! ### Types -/
def KT (x : AV) (t : Ty) : Prop := ∃ ds, x = .agg (ds.map .d) ∧ nrms ds = encT t
def KTs (x : AV) (l : List Ty) : Prop := ∃ d, x = .d d ∧ nrm d = .sl (encTs l) l.length
theorem nrm_sl {d : D} {cs : List D} {n : Nat} (h : nrm d = .sl cs n) : (∃ ds, d = .sl ds n ∧ nrms ds = cs) ∨ (d = .v (.slice none 0 0) ∧ cs = [] ∧ n = 0) := by
  cases d with
  | v x =>
    simp only [nrm] at h
    rcases nrmV_cases x with e | ⟨rfl, e⟩
    · rw [e] at h; cases h
    · rw [e] at h
      injection h with h1 h2
      exact .inr ⟨rfl, h1.symm, h2.symm⟩
  | sl ds k => simp only [nrm, D.sl.injEq] at h; obtain ⟨h1, rfl⟩ := h; exact .inl ⟨ds, rfl, h1⟩
theorem nrm_str {d : D} {s : ByteArray} (h : nrm d = .v (.string s)) : d = .v (.string s) := by
  cases d with
  | v x =>
    simp only [nrm] at h
    rcases nrmV_cases x with e | ⟨rfl, e⟩
    · rw [e] at h; exact h
    · rw [e] at h; cases h
  | sl ds k => simp [nrm] at h
theorem KT.two {x : AV} {t : Ty} (h : KT x t) : ∃ d, x = .agg [.d (.v (.string t.name)), .d d] ∧ nrm d = .sl (encTs t.args) t.args.length := by
  obtain ⟨ds, rfl, h⟩ := h
  rw [encT_eq] at h
  match ds, h with
  | [a, b], h =>
    simp only [nrms, List.cons.injEq, and_true] at h
    rw [nrm_str h.1]
    exact ⟨b, rfl, h.2⟩
  | [], h => simp [nrms] at h
  | [a], h => simp [nrms] at h
  | _ :: _ :: _ :: _, h => simp [nrms] at h
theorem KT.of {t : Ty} {d : D} (h : nrm d = .sl (encTs t.args) t.args.length) : KT (.agg [.d (.v (.string t.name)), .d d]) t :=
  ⟨[.v (.string t.name), d], rfl, by rw [encT_eq]; simp only [nrms, h, nrm, nrmV]⟩
theorem KT.vv {x : AV} {t : Ty} (h : KT x t) : vv x = avT t := by
  obtain ⟨ds, rfl, h⟩ := h
  simp only [Sx.vv, vvs_d, h, avT_eq]
theorem KTs.vv {x : AV} {l : List Ty} (h : KTs x l) : vv x = avTs l := by
  obtain ⟨d, rfl, h⟩ := h
  simp only [Sx.vv, h]
theorem KT.closed {x : AV} {t : Ty} (h : KT x t) : closedA x = true := by
  obtain ⟨ds, rfl, h⟩ := h
  simp [closedA, closedC]
theorem KTs.closed {x : AV} {l : List Ty} (h : KTs x l) : closedA x = true := by obtain ⟨d, rfl, h⟩ := h; rfl
theorem KTs.of_vv {x : AV} {l : List Ty} (h : Sx.vv x = avTs l) (hn : noVA x = true) : KTs x l := by
  have hx : noV x = true := by cases x <;> first | rfl | simpa [noVA] using hn
  exact vv_dcase hx h
theorem KT.of_vv {x : AV} {t : Ty} (h : Sx.vv x = avT t) (hn : noVA x = true) : KT x t := by
  cases x with
  | agg cs =>
    simp only [Sx.vv, avT, AV.agg.injEq] at h
    match cs, h with
    | [a, b], h =>
      simp only [vvs, List.cons.injEq, and_true] at h
      simp only [noVA, List.all_cons, List.all_nil, Bool.and_true, Bool.and_eq_true] at hn
      obtain ⟨d1, rfl, e1⟩ := vv_dcase hn.1 h.1
      obtain ⟨d2, rfl, e2⟩ := vv_dcase hn.2 h.2
      rw [nrm_str e1]
      exact .of e2
    | [], h => simp [vvs] at h
    | [a], h => simp [vvs] at h
    | _ :: _ :: _ :: _, h => simp [vvs] at h
  | _ => simp [Sx.vv, avT] at h
theorem KTs.len {x : AV} {l : List Ty} (h : KTs x l) : lenA x = some (.i l.length) := by
  obtain ⟨d, rfl, h⟩ := h
  rcases nrm_sl h with ⟨ds, rfl, _⟩ | ⟨rfl, _, h2⟩
  · rfl
  · rw [h2]; rfl
theorem KTs.el {x : AV} {l : List Ty} (h : KTs x l) {i : Nat} {t : Ty} {s : List Ty} (hd : l.drop i = t :: s) (lk : Nat → Option Blk) : ∃ a y, ixsA 2 x (.i (i : Int)) = some a ∧ ldnA lk 2 a = some y ∧ KT y t := by
  obtain ⟨d, rfl, h⟩ := h
  obtain ⟨hi, _⟩ := drop_cons hd
  rcases nrm_sl h with ⟨ds, rfl, h2⟩ | ⟨rfl, _, h2⟩
  · have e1 : nrms (ds.drop (i * 2)) = encT t ++ encTs s := by rw [nrms_drop, h2, encTs_drop, hd]; rfl
    have hlen : 2 ≤ (ds.drop (i * 2)).length := by
      have := congrArg List.length e1
      rw [nrms_len, List.length_append, encT_len] at this; omega
    have hi2 : (i : Int) < (l.length : Int) := by omega
    refine ⟨.ip (ds.drop (i * 2)), .agg (((ds.drop (i * 2)).take 2).map .d), ?_, ?_, ⟨(ds.drop (i * 2)).take 2, rfl, ?_⟩⟩
    · show (if 0 ≤ (i : Int) ∧ (i : Int) < (l.length : Int) then some (AV.ip (ds.drop ((i : Int).toNat * 2))) else none) = _
      rw [if_pos ⟨by omega, hi2⟩]; rfl
    · simp only [ldnA, if_pos hlen]
    · rw [nrms_take, e1, List.take_append_of_le_length (by rw [encT_len]; omega), List.take_of_length_le (by rw [encT_len]; omega)]
  · omega
section
variable {R : Type} {r : R → Prop} {k : AV → Option R}
theorem rn_kfld {x : AV} {t : Ty} (h : KT x t) (hk : Wp (k x) r) : Wp (opt (fldA 0 2 true x) k) r := by
  obtain ⟨d, rfl, _⟩ := h.two; exact hk
theorem rn_kset {x a b : AV} {t : Ty} (h : KT x t) (hk : Wp (k x) r) : Wp (opt (setcA 0 2 (.agg [a, b]) x) k) r := by
  obtain ⟨d, rfl, _⟩ := h.two; exact hk
theorem rn_kagg {x : AV} {t : Ty} (h : KT x t) (hk : Wp (k x) r) : Wp (opt (aggA x) k) r := by
  obtain ⟨d, rfl, _⟩ := h.two; exact hk
end
end Go.Proofs.Ytnbhmlflbbddcaa.Sx
