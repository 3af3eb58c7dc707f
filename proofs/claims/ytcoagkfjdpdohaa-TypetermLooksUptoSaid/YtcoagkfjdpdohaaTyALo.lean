/- TYPES: api.Type as closed data. -/
import Derived.Test.YtcoagkfjdpdohaaSxN
import Derived.Test.YtcoagkfjdpdohaaSxI
import Derived.Test.YtcoagkfjdpdohaaSxM
import Derived.Test.YtcoagkfjdpdohaaProg
import Derived.KernelRfl
namespace Go.Proofs.Ytcoagkfjdpdohaa.Sx
open Go

inductive Ty where
  | mk (name : ByteArray) (args : List Ty)

def Ty.name : Ty → ByteArray | .mk n _ => n
def Ty.args : Ty → List Ty | .mk _ a => a

mutual
def encT : Ty → List D
  | .mk n ts => [.v (.string n), .sl (encTs ts) ts.length]
def encTs : List Ty → List D
  | [] => []
  | t :: r => encT t ++ encTs r
end

/-- A type as a value; a list of types as a slice. -/
def avT (t : Ty) : AV := .agg [.d (.v (.string t.name)), .d (.sl (encTs t.args) t.args.length)]
abbrev avTs (l : List Ty) : AV := .d (.sl (encTs l) l.length)

theorem encT_eq (t : Ty) : encT t = [.v (.string t.name), .sl (encTs t.args) t.args.length] := by cases t; simp only [encT, Ty.name, Ty.args]
theorem avT_eq (t : Ty) : AV.agg ((encT t).map .d) = avT t := by rw [encT_eq]; rfl
theorem encT_len (t : Ty) : (encT t).length = 2 := by rw [encT_eq]; rfl
theorem encTs_len : ∀ l : List Ty, (encTs l).length = 2 * l.length
  | [] => rfl
  | t :: r => by simp only [encTs, List.length_append, encT_len, encTs_len r, List.length_cons]; omega
theorem encTs_append : ∀ a b : List Ty, encTs (a ++ b) = encTs a ++ encTs b
  | [], b => rfl
  | t :: a, b => by simp only [List.cons_append, encTs, encTs_append a b, List.append_assoc]
theorem encTs_drop : ∀ (l : List Ty) (i : Nat), (encTs l).drop (i * 2) = encTs (l.drop i)
  | [], i => by simp [encTs]
  | t :: r, 0 => by simp
  | t :: r, i + 1 => by
    have e : (i + 1) * 2 = (encT t).length + i * 2 := by rw [encT_len]; omega
    simp only [encTs, List.drop_succ_cons]
    rw [e, ← List.drop_drop, List.drop_left, encTs_drop r i]
theorem encTs_take : ∀ (l : List Ty) (i : Nat), (encTs l).take (i * 2) = encTs (l.take i)
  | [], i => by simp [encTs]
  | t :: r, 0 => by simp [encTs]
  | t :: r, i + 1 => by
    have e : (i + 1) * 2 = (encT t).length + i * 2 := by rw [encT_len]; omega
    simp only [encTs, List.take_succ_cons]
    rw [e, List.take_length_add_append, encTs_take r i]
theorem encTs_at {l : List Ty} {i : Nat} (h : i < l.length) : (encTs l).drop (i * 2) = encT l[i] ++ encTs (l.drop (i + 1)) := by
  rw [encTs_drop, List.drop_eq_getElem_cons h]; rfl

theorem drop_nil {α : Type} {l : List α} {i : Nat} (h : l.drop i = []) : l.length ≤ i := List.drop_eq_nil_iff.1 h
theorem drop_cons {α : Type} {l : List α} {i : Nat} {x : α} {s : List α} (h : l.drop i = x :: s) : i < l.length ∧ l.drop (i + 1) = s := by
  have hi : i < l.length := by
    rcases Nat.lt_or_ge i l.length with h1 | h1
    · exact h1
    · rw [List.drop_of_length_le h1] at h; cases h
  refine ⟨hi, ?_⟩
  rw [List.drop_eq_getElem_cons hi] at h
  exact (List.cons.inj h).2

section
variable {R : Type} {r : R → Prop} {k : AV → Option R}
theorem rn_ixD {l : List Ty} {i : Nat} {t : Ty} {s : List Ty} (h : l.drop i = t :: s) (hk : Wp (k (.ip (encT t ++ encTs s))) r) : Wp (opt (ixsA 2 (avTs l) (.i (i : Int))) k) r := by
  obtain ⟨hi, _⟩ := drop_cons h
  refine rn_opt (v := .ip (encT t ++ encTs s)) ?_ hk
  rw [ixsA_sl _ _ _ _ _ (by omega), Int.toNat_natCast, encTs_drop, h]; rfl
theorem rn_ixT {l : List Ty} {i : Nat} (h : i < l.length) (hk : Wp (k (.ip (encT l[i] ++ encTs (l.drop (i + 1))))) r) : Wp (opt (ixsA 2 (avTs l) (.i (i : Int))) k) r := by
  refine rn_opt (v := .ip (encT l[i] ++ encTs (l.drop (i + 1)))) ?_ hk
  rw [ixsA_sl _ _ _ _ _ (by omega), Int.toNat_natCast, encTs_at h]
theorem rn_ldT {t : Ty} {l : List D} {lk : Nat → Option Blk} (hk : Wp (k (avT t)) r) : Wp (opt (ldnA lk 2 (.ip (encT t ++ l))) k) r := by
  rw [encT_eq]; exact hk
theorem rn_lenT {l : List Ty} (hk : Wp (k (.i l.length)) r) : Wp (opt (lenA (avTs l)) k) r := hk
theorem rn_aggT {t : Ty} (hk : Wp (k (avT t)) r) : Wp (opt (aggA (avT t)) k) r := hk
theorem rn_nameT {t : Ty} (hk : Wp (k (.str t.name)) r) : Wp (opt (fldA 0 1 false (avT t)) k) r := hk
theorem rn_argsT {t : Ty} (hk : Wp (k (avTs t.args)) r) : Wp (opt (fldA 1 1 false (avT t)) k) r := hk
theorem rn_allT {t : Ty} (hk : Wp (k (avT t)) r) : Wp (opt (fldA 0 2 true (avT t)) k) r := hk
theorem rn_noT {t : Ty} (hk : Wp (k (.agg [])) r) : Wp (opt (fldA 0 0 true (avT t)) k) r := hk
theorem rn_setT {t : Ty} {a b : AV} (hk : Wp (k (avT t)) r) : Wp (opt (setcA 0 2 (.agg [a, b]) (avT t)) k) r := hk
theorem rn_setTT {t u : Ty} (hk : Wp (k (avT t)) r) : Wp (opt (setcA 0 2 (avT u) (avT t)) k) r := hk
theorem rn_locT {t : Ty} (hk : Wp (k (avT t)) r) : Wp (opt (locA 2 true (avT t)) k) r := hk
end

theorem snapT {lk : Nat → Option Blk} (t : Ty) : snap lk (avT t) = some (avT t) := rfl
theorem closedT (t : Ty) : closedA (avT t) = true := rfl

theorem rows_ty : ∀ rows : List (List D), (∀ r ∈ rows, ∃ ty, r = encT ty) → ∃ l : List Ty, rows.flatten = encTs l ∧ rows.length = l.length
  | [], _ => ⟨[], rfl, rfl⟩
  | r :: rows, h => by
    obtain ⟨ty, rfl⟩ := h r (by simp)
    obtain ⟨l, h1, h2⟩ := rows_ty rows fun r hr => h r (by simp [hr])
    exact ⟨ty :: l, by simp [encTs, h1], by simp [h2]⟩

theorem TD.ty_both {t : TypeId} {cs : List D} (h : TD Try.prog t cs) : (t = 27 → ∃ ty, cs = encT ty) ∧ (t = 25 → ∃ l : List Ty, cs = [.sl (encTs l) l.length]) := by
  induction h with
  | bool t b ht => exact ⟨(fun e => by subst e; rw [Try.underlying27] at ht; cases ht), (fun e => by subst e; rw [Try.underlying25] at ht; cases ht)⟩
  | int t k n ht hn => exact ⟨(fun e => by subst e; rw [Try.underlying27] at ht; cases ht), (fun e => by subst e; rw [Try.underlying25] at ht; cases ht)⟩
  | str t s ht hs => exact ⟨(fun e => by subst e; rw [Try.underlying27] at ht; cases ht), (fun e => by subst e; rw [Try.underlying25] at ht; cases ht)⟩
  | sl t e rows ht hm hl hr ih =>
    refine ⟨(fun e => by subst e; rw [Try.underlying27] at ht; cases ht), fun e' => ?_⟩
    subst e'; rw [Try.underlying25] at ht
    cases ht
    obtain ⟨l, h1, h2⟩ := rows_ty rows fun r hr => (ih r hr).1 rfl
    exact ⟨l, by rw [h1, h2]⟩
  | struct t fs parts ht hn hl hr ih =>
    refine ⟨fun e' => ?_, (fun e => by subst e; rw [Try.underlying25] at ht; cases ht)⟩
    subst e'; rw [Try.underlying27] at ht
    cases ht
    match parts, hn with
    | [p0, p1], _ =>
      have h0 : TD Try.prog 9 p0 := hr 0 (by simp) (by simp)
      obtain ⟨s, rfl, _⟩ := h0.str_inv Try.underlying9
      obtain ⟨l, rfl⟩ := (ih 1 (by simp) (by simp)).2 rfl
      exact ⟨.mk s l, by simp [encT]⟩

/-- Closed data of type api.Type is a type; of type []api.Type, a list of types. -/
theorem TD.ty_inv {cs : List D} (h : TD Try.prog 27 cs) : ∃ t, cs = encT t := h.ty_both.1 rfl
theorem TD.tys_inv {cs : List D} (h : TD Try.prog 25 cs) : ∃ l : List Ty, cs = [.sl (encTs l) l.length] := h.ty_both.2 rfl

mutual
/-- Its names are no longer than any string. -/
def Ty.wf : Ty → Prop
  | .mk n l => n.size ≤ maxLen ∧ wfs l
def wfs : List Ty → Prop
  | [] => True
  | t :: r => t.wf ∧ wfs r
end
theorem rows_ty2 : ∀ rows : List (List D), (∀ r ∈ rows, ∃ ty : Ty, r = encT ty ∧ ty.wf) → ∃ l : List Ty, rows.flatten = encTs l ∧ rows.length = l.length ∧ wfs l
  | [], _ => ⟨[], rfl, rfl, True.intro⟩
  | r :: rows, h => by
    obtain ⟨ty, rfl, hw⟩ := h r (by simp)
    obtain ⟨l, h1, h2, h3⟩ := rows_ty2 rows fun r hr => h r (by simp [hr])
    exact ⟨ty :: l, by simp [encTs, h1], by simp [h2], hw, h3⟩
theorem TD.ty_both2 {t : TypeId} {cs : List D} (h : TD Try.prog t cs) : (t = 27 → ∃ ty : Ty, cs = encT ty ∧ ty.wf) ∧ (t = 25 → ∃ l : List Ty, cs = [.sl (encTs l) l.length] ∧ wfs l) := by
  induction h with
  | bool t b ht => exact ⟨(fun e => by subst e; rw [Try.underlying27] at ht; cases ht), (fun e => by subst e; rw [Try.underlying25] at ht; cases ht)⟩
  | int t k n ht hn => exact ⟨(fun e => by subst e; rw [Try.underlying27] at ht; cases ht), (fun e => by subst e; rw [Try.underlying25] at ht; cases ht)⟩
  | str t s ht hs => exact ⟨(fun e => by subst e; rw [Try.underlying27] at ht; cases ht), (fun e => by subst e; rw [Try.underlying25] at ht; cases ht)⟩
  | sl t e rows ht hm hl hr ih =>
    refine ⟨(fun e => by subst e; rw [Try.underlying27] at ht; cases ht), fun e' => ?_⟩
    subst e'; rw [Try.underlying25] at ht
    cases ht
    obtain ⟨l, h1, h2, h3⟩ := rows_ty2 rows fun r hr => (ih r hr).1 rfl
    exact ⟨l, by rw [h1, h2], h3⟩
  | struct t fs parts ht hn hl hr ih =>
    refine ⟨fun e' => ?_, (fun e => by subst e; rw [Try.underlying25] at ht; cases ht)⟩
    subst e'; rw [Try.underlying27] at ht
    cases ht
    match parts, hn with
    | [p0, p1], _ =>
      have h0 : TD Try.prog 9 p0 := hr 0 (by simp) (by simp)
      obtain ⟨s, rfl, hs⟩ := h0.str_inv Try.underlying9
      obtain ⟨l, rfl, hlw⟩ := (ih 1 (by simp) (by simp)).2 rfl
      exact ⟨.mk s l, by simp [encT], hs, hlw⟩
theorem TD.ty_inv2 {cs : List D} (h : TD Try.prog 27 cs) : ∃ t : Ty, cs = encT t ∧ t.wf := h.ty_both2.1 rfl
theorem TD.tys_inv2 {cs : List D} (h : TD Try.prog 25 cs) : ∃ l : List Ty, cs = [.sl (encTs l) l.length] ∧ wfs l := h.ty_both2.2 rfl
end Go.Proofs.Ytcoagkfjdpdohaa.Sx
