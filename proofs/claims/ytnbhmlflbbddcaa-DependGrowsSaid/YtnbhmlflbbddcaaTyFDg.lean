/- TYPES: api.Type as closed data. -/
import Derived.Test.YtnbhmlflbbddcaaSxNDg
import Derived.Test.YtnbhmlflbbddcaaSxIDg
import Derived.Test.YtnbhmlflbbddcaaSxMDg
import Derived.Test.YtnbhmlflbbddcaaProg
import Derived.KernelRfl
import Derived.Test.YtnbhmlflbbddcaaHDg
namespace Go.Proofs.Ytnbhmlflbbddcaa.Sx
open Go

inductive Ty where
  | mk (name : ByteArray) (args : List Ty)

def Ty.name : Ty → ByteArray | .mk n _ => n
def Ty.args : Ty → List Ty | .mk _ a => a

mutual
def encT : Ty → List D
  | .mk n ts => [.v (.string n), .sl (encTs ts) ts.length]
def encTs : List Ty → List D
  | [] => []
  | t :: r => encT t ++ encTs r
end

def avT (t : Ty) : AV := .agg [.d (.v (.string t.name)), .d (.sl (encTs t.args) t.args.length)]
abbrev avTs (l : List Ty) : AV := .d (.sl (encTs l) l.length)

theorem encT_eq (t : Ty) : encT t = [.v (.string t.name), .sl (encTs t.args) t.args.length] := by cases t; simp only [encT, Ty.name, Ty.args]
theorem avT_eq (t : Ty) : AV.agg ((encT t).map .d) = avT t := by rw [encT_eq]; rfl
theorem encT_len (t : Ty) : (encT t).length = 2 := by rw [encT_eq]; rfl
theorem encTs_len : ∀ l : List Ty, (encTs l).length = 2 * l.length
  | [] => rfl
  | t :: r => by simp only [encTs, List.length_append, encT_len, encTs_len r, List.length_cons]; omega
theorem encTs_append : ∀ a b : List Ty, encTs (a ++ b) = encTs a ++ encTs b
  | [], b => rfl
  | t :: a, b => by simp only [List.cons_append, encTs, encTs_append a b, List.append_assoc]
theorem encTs_drop : ∀ (l : List Ty) (i : Nat), (encTs l).drop (i * 2) = encTs (l.drop i)
  | [], i => by simp [encTs]
  | t :: r, 0 => by simp
  | t :: r, i + 1 => by
    have e : (i + 1) * 2 = (encT t).length + i * 2 := by rw [encT_len]; omega
    simp only [encTs, List.drop_succ_cons]
    rw [e, ← List.drop_drop, List.drop_left, encTs_drop r i]
theorem encTs_at {l : List Ty} {i : Nat} (h : i < l.length) : (encTs l).drop (i * 2) = encT l[i] ++ encTs (l.drop (i + 1)) := by
  rw [encTs_drop, List.drop_eq_getElem_cons h]; rfl

theorem drop_nil {α : Type} {l : List α} {i : Nat} (h : l.drop i = []) : l.length ≤ i := List.drop_eq_nil_iff.1 h
theorem drop_cons {α : Type} {l : List α} {i : Nat} {x : α} {s : List α} (h : l.drop i = x :: s) : i < l.length ∧ l.drop (i + 1) = s := by
  have hi : i < l.length := by
    rcases Nat.lt_or_ge i l.length with h1 | h1
    · exact h1
    · rw [List.drop_of_length_le h1] at h; cases h
  refine ⟨hi, ?_⟩
  rw [List.drop_eq_getElem_cons hi] at h
  exact (List.cons.inj h).2

section
variable {R : Type} {r : R → Prop} {k : AV → Option R}
theorem rn_ixD {l : List Ty} {i : Nat} {t : Ty} {s : List Ty} (h : l.drop i = t :: s) (hk : Wp (k (.ip (encT t ++ encTs s))) r) : Wp (opt (ixsA 2 (avTs l) (.i (i : Int))) k) r := by
  obtain ⟨hi, _⟩ := drop_cons h
  refine rn_opt (v := .ip (encT t ++ encTs s)) ?_ hk
  rw [ixsA_sl _ _ _ _ _ (by omega), Int.toNat_natCast, encTs_drop, h]; rfl
theorem rn_ixT {l : List Ty} {i : Nat} (h : i < l.length) (hk : Wp (k (.ip (encT l[i] ++ encTs (l.drop (i + 1))))) r) : Wp (opt (ixsA 2 (avTs l) (.i (i : Int))) k) r := by
  refine rn_opt (v := .ip (encT l[i] ++ encTs (l.drop (i + 1)))) ?_ hk
  rw [ixsA_sl _ _ _ _ _ (by omega), Int.toNat_natCast, encTs_at h]
theorem rn_ldT {t : Ty} {l : List D} {lk : Nat → Option Blk} (hk : Wp (k (avT t)) r) : Wp (opt (ldnA lk 2 (.ip (encT t ++ l))) k) r := by
  rw [encT_eq]; exact hk
theorem rn_lenT {l : List Ty} (hk : Wp (k (.i l.length)) r) : Wp (opt (lenA (avTs l)) k) r := hk
theorem rn_aggT {t : Ty} (hk : Wp (k (avT t)) r) : Wp (opt (aggA (avT t)) k) r := hk
theorem rn_nameT {t : Ty} (hk : Wp (k (.str t.name)) r) : Wp (opt (fldA 0 1 false (avT t)) k) r := hk
theorem rn_argsT {t : Ty} (hk : Wp (k (avTs t.args)) r) : Wp (opt (fldA 1 1 false (avT t)) k) r := hk
theorem rn_allT {t : Ty} (hk : Wp (k (avT t)) r) : Wp (opt (fldA 0 2 true (avT t)) k) r := hk
theorem rn_noT {t : Ty} (hk : Wp (k (.agg [])) r) : Wp (opt (fldA 0 0 true (avT t)) k) r := hk
theorem rn_setT {t : Ty} {a b : AV} (hk : Wp (k (avT t)) r) : Wp (opt (setcA 0 2 (.agg [a, b]) (avT t)) k) r := hk
theorem rn_setTT {t u : Ty} (hk : Wp (k (avT t)) r) : Wp (opt (setcA 0 2 (avT u) (avT t)) k) r := hk
theorem rn_locT {t : Ty} (hk : Wp (k (avT t)) r) : Wp (opt (locA 2 true (avT t)) k) r := hk
end

mutual
/-- Its names are no longer than any string. -/
def Ty.wf : Ty → Prop
  | .mk n l => n.size ≤ maxLen ∧ wfs l
def wfs : List Ty → Prop
  | [] => True
  | t :: r => t.wf ∧ wfs r
end
end Go.Proofs.Ytnbhmlflbbddcaa.Sx

namespace Go.Proofs.Ytnbhmlflbbddcaa.Sx
open Go
set_option maxRecDepth 1000000
set_option linter.unusedSimpArgs false
set_option linter.unusedVariables false

mutual
def Ty.size : Ty → Nat
  | .mk _ l => 1 + sizes l
def sizes : List Ty → Nat
  | [] => 0
  | t :: r => t.size + sizes r
end
theorem Ty.size_eq (t : Ty) : t.size = 1 + sizes t.args := by cases t; simp only [Ty.size, Ty.args]
theorem Ty.size_pos (t : Ty) : 1 ≤ t.size := by rw [t.size_eq]; omega
theorem size_mem {t : Ty} : ∀ {l : List Ty}, t ∈ l → t.size ≤ sizes l
  | [], h => by simp at h
  | u :: r, h => by
    simp only [sizes]
    rcases List.mem_cons.1 h with rfl | h
    · omega
    · have := size_mem h; omega
theorem sizes_append : ∀ a b : List Ty, sizes (a ++ b) = sizes a + sizes b
  | [], b => by simp [sizes]
  | x :: a, b => by simp only [List.cons_append, sizes, sizes_append a b]; omega
theorem sizes_drop (l : List Ty) (i : Nat) : sizes (l.drop i) ≤ sizes l := by
  have h := congrArg sizes (List.take_append_drop i l)
  rw [sizes_append] at h; omega
theorem sizes_len : ∀ l : List Ty, l.length ≤ sizes l
  | [] => Nat.le_refl _
  | t :: r => by have := sizes_len r; have := t.size_pos; simp only [sizes, List.length_cons]; omega
mutual
def Ty.depth : Ty → Nat
  | .mk _ l => depths l + 1
def depths : List Ty → Nat
  | [] => 0
  | t :: r => max t.depth (depths r)
end

theorem ClT (t : Ty) : Cl (avT t) := ⟨rfl, rfl⟩
theorem ClTs (l : List Ty) : Cl (avTs l) := ⟨rfl, rfl⟩
theorem ClT1 (t : Ty) : ∀ x ∈ [avT t], Cl x := fun x h => by rw [List.mem_singleton.1 h]; exact ClT t
theorem fz_i (n : Int) (m : Mem) : freeze m 0 (.i n) = some (.i n) := rfl
theorem fz_b (n : Bool) (m : Mem) : freeze m 0 (.bool n) = some (.bool n) := rfl
theorem fz_s (n : ByteArray) (m : Mem) : freeze m 0 (.str n) = some (.str n) := rfl
theorem fz_T (t : Ty) (m : Mem) : freeze m 0 (avT t) = some (avT t) := rfl
section
variable {call : CallT} (hc : Lim G call)
include hc

theorem size_cc : ∀ (n : Nat) (t : Ty), t.size ≤ n → n ≤ 9223372036854775807 → CC call 32 [avT t] (.i t.size) := by
  intro n
  induction n with
  | zero => intro t h; have := t.size_pos; omega
  | succ n ih =>
    intro t h hn lo M
    have hG : G.nl = 18446744073709551616 := rfl
    have hs := t.size_eq
    have hlen := sizes_len t.args
    have loop : ∀ (s : List Ty) (i f a : Nat) (M : MM), t.args.drop i = s → s.length < f → a + sizes s ≤ n + 1 →
        Wp (b32_5 call G.nl lo f (.i a) (avTs t.args) (.i t.args.length) (.i i) M) (Ans (.i (a + sizes s : Nat)) M) := by
      intro s
      induction s with
      | nil =>
        intro i f a M hd hf hb
        obtain ⟨f, rfl⟩ : ∃ k, f = k + 1 := ⟨f - 1, by simp only [List.length_nil] at hf; omega⟩
        have := drop_nil hd
        unfold b32_5
        repeat (first | (with_reducible (first | refine rn_if_f ?_)) | ((with_reducible refine rn_lss_f ?_ ?_); focus omega))
        exact rn_ans
      | cons x s ihs =>
        intro i f a M hd hf hb
        simp only [List.length_cons] at hf
        obtain ⟨f, rfl⟩ : ∃ k, f = k + 1 := ⟨f - 1, by omega⟩
        obtain ⟨hl, hd'⟩ := drop_cons hd
        have hx : x.size ≤ n := by
          have h1 := sizes_drop t.args i
          rw [hd] at h1; simp only [sizes] at h1; omega
        simp only [sizes] at hb ⊢
        unfold b32_5
        repeat (first | (with_reducible (first | refine rn_ixD hd ?_ | refine rn_ldT ?_ | refine rn_setT ?_ | refine rn_allT ?_ | refine rn_pcc (ih x hx (by omega)) (fz_i _) (ClT1 _) ?_ | refine rn_upa ?_ | refine rn_if_t ?_)) | ((with_reducible refine rn_add64 ?_ ?_); focus omega) | ((with_reducible refine rn_lss_t ?_ ?_); focus omega))
        have := ihs (i + 1) f (a + x.size) (M.up M.nx) hd' (by omega) (by omega)
        rw [Nat.add_assoc] at this
        exact this
    rw [q32 hc]
    unfold s32
    repeat (first | (with_reducible (first | refine rn_aggT ?_ | refine rn_noT ?_ | refine rn_argsT ?_ | refine rn_lenT ?_ | refine rn_upa ?_)))
    rw [hs]
    exact loop t.args 0 G.nl 1 (M.up M.nx) rfl (by omega) (by omega)
end
end Go.Proofs.Ytnbhmlflbbddcaa.Sx

namespace Go.Proofs.Ytnbhmlflbbddcaa.Sx
open Go
set_option maxRecDepth 1000000
set_option linter.unusedSimpArgs false
set_option linter.unusedVariables false

def encS (l : List ByteArray) : List D := l.map fun s => .v (.string s)
abbrev avS (l : List ByteArray) : AV := .d (.sl (encS l) l.length)
theorem ClS (l : List ByteArray) : Cl (avS l) := ⟨rfl, rfl⟩
theorem ClStr (s : ByteArray) : Cl (.str s) := ⟨rfl, rfl⟩

def ixFrom : List ByteArray → ByteArray → Nat → Int
  | [], _, _ => -1
  | x :: r, s, i => if x = s then (i : Int) else ixFrom r s (i + 1)
abbrev ixS (l : List ByteArray) (s : ByteArray) : Int := ixFrom l s 0

theorem ixFrom_mem (s : ByteArray) : ∀ (l : List ByteArray) (i : Nat), (0 ≤ ixFrom l s i ↔ s ∈ l)
  | [], i => by simp [ixFrom]
  | x :: r, i => by
    simp only [ixFrom]
    split
    · rename_i h; subst h; simp
    · rename_i h
      rw [ixFrom_mem s r (i + 1), List.mem_cons]
      constructor
      · exact fun hh => .inr hh
      · rintro (hh | hh)
        · exact absurd hh.symm h
        · exact hh

def hasS : List ByteArray → ByteArray → Bool
  | [], _ => false
  | x :: r, s => decide (x = s) || hasS r s
theorem hasS_mem (s : ByteArray) : ∀ l : List ByteArray, hasS l s = true ↔ s ∈ l
  | [] => by simp [hasS]
  | x :: r => by rw [hasS, Bool.or_eq_true, decide_eq_true_eq, hasS_mem s r, List.mem_cons, eq_comm (a := s)]
theorem hasS_ix (s : ByteArray) (l : List ByteArray) (i : Nat) : decide (0 ≤ ixFrom l s i) = hasS l s := by
  rw [Bool.eq_iff_iff, decide_eq_true_eq, ixFrom_mem, hasS_mem]

theorem beq_str (a b : ByteArray) : (a.data.toList == b.data.toList) = decide (a = b) := by
  by_cases h : a = b
  · subst h; simp
  · rw [decide_eq_false h]
    refine beq_eq_false_iff_ne.2 fun hh => h ?_
    obtain ⟨⟨x⟩⟩ := a
    obtain ⟨⟨y⟩⟩ := b
    simp only at hh
    rw [hh]

section
variable {R : Type} {r : R → Prop} {k : AV → Option R}
theorem rn_eqS {e : EK} {a b : ByteArray} (hk : Wp (k (.bool (decide (a = b)))) r) : Wp (opt (binA .eql e (.str a) (.str b)) k) r := rn_eqs (by rw [beq_str]; exact hk)
theorem rn_ixS {l : List ByteArray} {i : Nat} {t : ByteArray} {s : List ByteArray} (h : l.drop i = t :: s) (hk : Wp (k (.ip (.v (.string t) :: encS s))) r) : Wp (opt (ixsA 1 (avS l) (.i (i : Int))) k) r := by
  obtain ⟨hi, _⟩ := drop_cons h
  refine rn_opt (v := .ip (.v (.string t) :: encS s)) ?_ hk
  rw [ixsA_sl _ _ _ _ _ (by omega), Int.toNat_natCast, Nat.mul_one, encS, ← List.map_drop, h]; rfl
end

section
variable {call : CallT} (hc : Lim G call)
include hc

theorem xindex_cc (l : List ByteArray) (s : ByteArray) (hl : l.length ≤ 9223372036854775807) : CC call 51 [avS l, .str s] (.i (ixS l s)) := by
  intro lo M
  obtain ⟨nl, hG, hN⟩ : ∃ nl, G.nl = nl ∧ nl = 18446744073709551616 := ⟨_, rfl, rfl⟩
  rw [q51 hc, hG]
  clear hG
  have loop : ∀ (r : List ByteArray) (i f : Nat) (M : MM), l.drop i = r → r.length < f →
      Wp (b51_4 call nl lo f (avS l) (.str s) (.i l.length) (.i i) M) (Ans (.i (ixFrom r s i)) M) := by
    intro r
    induction r with
    | nil =>
      intro i f M hd hf
      obtain ⟨f, rfl⟩ : ∃ k, f = k + 1 := ⟨f - 1, by simp only [List.length_nil] at hf; omega⟩
      have := drop_nil hd
      unfold b51_4
      repeat (first | (with_reducible (first | refine rn_if_f ?_)) | ((with_reducible refine rn_lss_f ?_ ?_); focus omega))
      exact rn_ans
    | cons x r ih =>
      intro i f M hd hf
      simp only [List.length_cons] at hf
      obtain ⟨f, rfl⟩ : ∃ k, f = k + 1 := ⟨f - 1, by omega⟩
      obtain ⟨hi, hd'⟩ := drop_cons hd
      unfold b51_4
      repeat (first | (with_reducible (first | refine rn_ixS hd ?_ | refine rn_eqS ?_ | refine rn_if_t ?_ | refine rn_ldi ?_)) | ((with_reducible refine rn_lss_t ?_ ?_); focus omega))
      refine rn_if (fun h => ?_) (fun h => ?_)
      · exact rn_ans' (by simp only [ixFrom, if_pos h.symm])
      · repeat (first | ((with_reducible refine rn_add64 ?_ ?_); focus omega))
        simp only [ixFrom, if_neg (fun hh : x = s => h hh.symm)]
        exact ih (i + 1) f M hd' (by omega)
  unfold s51
  repeat (first | (with_reducible (first | refine rn_len_sl ?_)))
  exact loop l 0 nl M rfl (by omega)
theorem contains_cc (l : List ByteArray) (s : ByteArray) (hl : l.length ≤ 9223372036854775807) : CC call 44 [avS l, .str s] (.bool (hasS l s)) := by
  intro lo M
  rw [q44 hc]
  unfold s44
  refine rn_pcc (xindex_cc hc l s hl) (fz_i _) (by simp [ClS, ClStr]) ?_
  refine rn_geq ?_
  exact rn_ans' (by rw [← hasS_ix s l 0])
end
end Go.Proofs.Ytnbhmlflbbddcaa.Sx

namespace Go.Proofs.Ytnbhmlflbbddcaa.Sx
open Go
set_option maxRecDepth 1000000
set_option linter.unusedSimpArgs false
set_option linter.unusedVariables false

mutual
def Ty.same : Ty → Ty → Bool
  | .mk n l, .mk m k => decide (n = m) && sames l k
def sames : List Ty → List Ty → Bool
  | [], [] => true
  | t :: r, u :: s => t.same u && sames r s
  | [], _ :: _ => false
  | _ :: _, [] => false
end
theorem Ty.same_eq (t u : Ty) : t.same u = (decide (t.name = u.name) && sames t.args u.args) := by cases t; cases u; rfl
theorem sames_len : ∀ {l k : List Ty}, l.length ≠ k.length → sames l k = false
  | [], [], h => absurd rfl h
  | t :: r, u :: s, h => by simp only [sames, sames_len (l := r) (k := s) (fun e => h (by simp [e])), Bool.and_false]
  | [], _ :: _, _ => rfl
  | _ :: _, [], _ => rfl
mutual
theorem Ty.same_iff : ∀ t u : Ty, t.same u = true ↔ t = u
  | .mk n l, .mk m k => by rw [Ty.same, Bool.and_eq_true, decide_eq_true_eq, sames_iff l k, Ty.mk.injEq]
theorem sames_iff : ∀ l k : List Ty, sames l k = true ↔ l = k
  | [], [] => by simp [sames]
  | t :: r, u :: s => by rw [sames, Bool.and_eq_true, t.same_iff u, sames_iff r s, List.cons.injEq]
  | [], _ :: _ => by simp [sames]
  | _ :: _, [] => by simp [sames]
end

theorem ClT2 (t u : Ty) : ∀ x ∈ [avT t, avT u], Cl x := fun x h => by
  rcases List.mem_cons.1 h with rfl | h
  · exact ClT t
  · rw [List.mem_singleton.1 h]; exact ClT u
end Go.Proofs.Ytnbhmlflbbddcaa.Sx

namespace Go.Proofs.Ytnbhmlflbbddcaa.Sx
open Go
set_option maxRecDepth 1000000
set_option linter.unusedSimpArgs false
set_option linter.unusedVariables false

theorem rn_appT {m : Mem} {lim : Lm} {l : List Ty} {t : Ty} {bytes : Nat} {R : Type} {r : R → Prop} {k : AV → Option R} (hb : (l.length + 1) * bytes ≤ 140737488355328 ∧ l.length + 1 ≤ 9223372036854775807) (hk : Wp (k (avTs (l ++ [t]))) r) :
    Wp (opt (wappA m lim 2 bytes (avTs l) (.d (.sl (encT t) 1))) k) r := by
  refine rn_wapp (by rw [encT_len]) hb ?_
  have e : encTs l ++ encT t = encTs (l ++ [t]) := by rw [encTs_append]; simp [encTs]
  have e2 : l.length + 1 = (l ++ [t]).length := by simp
  rw [e, e2]; exact hk
theorem rn_wslT {t : Ty} {a b : AV} {R : Type} {r : R → Prop} {k : AV → Option R} (hk : Wp (k (.d (.sl (encT t) 1))) r) : Wp (opt (wslA 1 (fill [a, b] [(0, 2, avT t)])) k) r := by
  refine rn_wsl (ds := encT t) ?_ hk
  rw [encT_eq]; rfl

theorem rn_setA {t : Ty} {l : List Ty} {R : Type} {r : R → Prop} {k : AV → Option R} (hk : Wp (k (avT (.mk t.name l))) r) : Wp (opt (setcA 1 1 (avT t) (avTs l)) k) r := hk

section
variable {call : CallT} (hc : Lim G call)
include hc

theorem clone_cc : ∀ (n : Nat) (t : Ty), t.size ≤ n → n ≤ 1000000000000 → CC call 46 [avT t] (avT t) := by
  intro n
  induction n with
  | zero => intro t h; have := t.size_pos; omega
  | succ n ih =>
    intro t h hn lo M
    obtain ⟨nl, hG, hN⟩ : ∃ nl, G.nl = nl ∧ nl = 18446744073709551616 := ⟨_, rfl, rfl⟩
    rw [q46 hc, hG]
    clear hG
    have hs := t.size_eq
    have hlen := sizes_len t.args
    have loop : ∀ (s d : List Ty) (i f : Nat) (M : MM), d ++ s = t.args → d.length = i → s.length < f →
        Wp (b46_5 call nl lo f (.agg [.str ⟨⟨[]⟩⟩, .d (.sl [] 0)]) (avT (.mk t.name d)) (avTs t.args) (.i t.args.length) (.i i) M) (Ans (avT t) M) := by
      intro s
      induction s with
      | nil =>
        intro d i f M hd hi hf
        obtain ⟨f, rfl⟩ : ∃ k, f = k + 1 := ⟨f - 1, by simp only [List.length_nil] at hf; omega⟩
        rw [List.append_nil] at hd
        subst hd
        unfold b46_5
        repeat (first | (with_reducible (first | refine rn_allT ?_ | refine rn_setT ?_ | refine rn_locT ?_ | refine rn_if_f ?_)) | ((with_reducible refine rn_lss_f ?_ ?_); focus omega))
        exact rn_ans' (by cases t; rfl)
      | cons x s ihs =>
        intro d i f M hd hi hf
        simp only [List.length_cons] at hf
        obtain ⟨f, rfl⟩ : ∃ k, f = k + 1 := ⟨f - 1, by omega⟩
        have hdrop : t.args.drop i = x :: s := by rw [← hd, ← hi, List.drop_left]
        obtain ⟨hl, hd'⟩ := drop_cons hdrop
        have hx : x.size ≤ n := by
          have h1 := sizes_drop t.args i
          rw [hdrop] at h1; simp only [sizes] at h1; omega
        have hdl : d.length ≤ t.args.length := by rw [← hd]; simp
        have hbb : ((Ty.mk t.name d).args.length + 1) * 40 ≤ 140737488355328 ∧ (Ty.mk t.name d).args.length + 1 ≤ 9223372036854775807 := by simp only [Ty.args]; omega
        unfold b46_5
        repeat (first | (with_reducible (first | refine rn_ixD hdrop ?_ | refine rn_ldT ?_ | refine rn_setT ?_ | refine rn_allT ?_ | refine rn_noT ?_ | refine rn_argsT ?_ | refine rn_pcc (ih x hx (by omega)) (fz_T _) (ClT1 _) ?_ | refine rn_wslT ?_ | refine rn_appT hbb ?_ | refine rn_setA ?_ | refine rn_upa ?_ | refine rn_bumpa ?_ | refine rn_if_t ?_)) | ((with_reducible refine rn_add64 ?_ ?_); focus omega) | ((with_reducible refine rn_lss_t ?_ ?_); focus omega))
        exact ihs (d ++ [x]) (i + 1) f _ (by rw [List.append_assoc]; exact hd) (by simp [hi]) (by omega)
    unfold s46
    repeat (first | (with_reducible (first | refine rn_aggT ?_ | refine rn_noT ?_ | refine rn_nameT ?_ | refine rn_argsT ?_ | refine rn_lenT ?_ | refine rn_upa ?_ | refine rn_mke ?_)) | ((with_reducible refine rn_setcall ?_ ?_ ?_ ?_); (focus exact rfl); (focus exact rfl); (focus exact rfl)) | ((with_reducible refine rn_mk0 ?_ ?_); focus exact ⟨rfl, rfl⟩))
    exact loop t.args [] 0 nl _ rfl rfl (by omega)
end
end Go.Proofs.Ytnbhmlflbbddcaa.Sx

namespace Go.Proofs.Ytnbhmlflbbddcaa.Sx
open Go
set_option maxRecDepth 1000000
set_option linter.unusedSimpArgs false
set_option linter.unusedVariables false

theorem rn_pcw {R : Type} {r : R → Prop} {call : CallT} {mode : FuncId → Mode} {draw : Bool} {lo : Nat} {lim : Lm} {fresh : Nat} {ρ : List AV} {M : MM} {no : List FuncId} {f : FuncId} {as0 bs as1 : List AV} {args : List X} {w : AV} {k : AV → MM → Option R}
    (hm : mode f = .pure) (hno : no.contains f = false) (ha : as0 ++ args.map (ev ρ) ++ bs = as1) (h : CC call f as1 w) (hf : ∀ m, freeze m 0 w = some w) (hs : ∀ x ∈ as1, Cl x) (hk : Wp (k w M) r) : Wp (bnd (istep call mode draw lo lim fresh (.callw no (.k (.fn f as0 bs)) args) ρ M) k) r := by
  subst ha
  exact rn_callwp hm hno (rn_pcc h hf hs hk)

section
variable {call : CallT} (hc : Lim G call)
include hc

theorem equalFunc_cc (l k : List Ty) (hl : l.length ≤ 9223372036854775807) (h : ∀ t ∈ l, ∀ u, CC call 17 [avT t, avT u] (.bool (t.same u))) : CC call 27 [avTs l, avTs k, .fn 17 [] []] (.bool (sames l k)) := by
  intro lo M
  obtain ⟨nl, hG, hN⟩ : ∃ nl, G.nl = nl ∧ nl = 18446744073709551616 := ⟨_, rfl, rfl⟩
  rw [q27 hc, hG]
  clear hG
  have loop : ∀ (r s : List Ty) (i f : Nat) (M : MM), l.drop i = r → k.drop i = s → r.length = s.length → r.length < f →
      Wp (b27_5 call nl lo f (avTs k) (.fn 17 [] []) (avTs l) (.i l.length) (.i i) M) (Ans (.bool (sames r s)) M) := by
    intro r
    induction r with
    | nil =>
      intro s i f M hd he hrs hf
      obtain ⟨f, rfl⟩ : ∃ k, f = k + 1 := ⟨f - 1, by simp only [List.length_nil] at hf; omega⟩
      have := drop_nil hd
      have hs : s = [] := List.eq_nil_of_length_eq_zero hrs.symm
      subst hs
      unfold b27_5
      repeat (first | (with_reducible (first | refine rn_if_f ?_)) | ((with_reducible refine rn_lss_f ?_ ?_); focus omega))
      exact rn_ans
    | cons x r ih =>
      intro s i f M hd he hrs hf
      match s, he, hrs with
      | y :: s, he, hrs =>
        simp only [List.length_cons] at hf hrs
        obtain ⟨f, rfl⟩ : ∃ k, f = k + 1 := ⟨f - 1, by omega⟩
        obtain ⟨hi, hd'⟩ := drop_cons hd
        obtain ⟨hi2, he'⟩ := drop_cons he
        have hx : x ∈ l := List.drop_subset i l (by rw [hd]; simp)
        unfold b27_5
        repeat (first | (with_reducible (first | refine rn_ldT ?_ | refine rn_setT ?_ | refine rn_allT ?_ | refine rn_ixD hd ?_ | refine rn_ixD he ?_ | refine rn_upa ?_ | refine rn_if_t ?_)) | ((with_reducible refine rn_lss_t ?_ ?_); focus omega))
        refine rn_pcw rfl rfl rfl (h x hx y) (fz_b _) (ClT2 _ _) ?_
        refine rn_not ?_
        simp only [sames]
        cases hxy : x.same y
        · refine rn_if_t ?_
          exact rn_ans
        · refine rn_if_f ?_
          repeat (first | ((with_reducible refine rn_add64 ?_ ?_); focus omega))
          simp only [Bool.true_and]
          exact ih s (i + 1) f _ hd' he' (by omega) (by omega)
  unfold s27
  repeat (first | (with_reducible (first | refine rn_lenT ?_)))
  refine rn_neq ?_
  refine rn_if (fun hne => ?_) (fun he => ?_)
  · exact rn_ans' (by rw [sames_len (by omega)])
  · exact loop l k 0 nl M rfl rfl (by omega) (by omega)

theorem same_cc : ∀ (n : Nat) (t u : Ty), t.size ≤ n → n ≤ 9223372036854775807 → CC call 17 [avT t, avT u] (.bool (t.same u)) := by
  intro n
  induction n with
  | zero => intro t _ h; have := t.size_pos; omega
  | succ n ih =>
    intro t u h hn lo M
    have hs := t.size_eq
    have hlen := sizes_len t.args
    have hl := equalFunc_cc hc t.args u.args (by omega) (fun x hx v => ih x v (by have := size_mem hx; omega) (by omega))
    rw [q17 hc]
    unfold s17
    repeat (first | (with_reducible (first | refine rn_aggT ?_ | refine rn_noT ?_ | refine rn_nameT ?_ | refine rn_eqS ?_ | refine rn_upa ?_)))
    rw [Ty.same_eq]
    cases hnm : decide (t.name = u.name)
    · repeat (first | (with_reducible (first | refine rn_gft ?_ | refine rn_gp_ft ?_ | refine rn_pf ?_)))
      exact rn_ans
    · repeat (first | (with_reducible (first | refine rn_noT ?_ | refine rn_argsT ?_)) | ((with_reducible refine rn_cc hl ?_); intro M') | (with_reducible (first | refine rn_gtt ?_ | refine rn_gp_tt ?_ | refine rn_pt ?_)))
      exact rn_ans' (by rw [Bool.true_and])

end
end Go.Proofs.Ytnbhmlflbbddcaa.Sx
