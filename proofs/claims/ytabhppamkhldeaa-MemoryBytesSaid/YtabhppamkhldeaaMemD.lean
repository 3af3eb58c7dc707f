/- CHAPTER 19: what an object's chunks hold; Write, Read. -/
import Derived.Test.YtabhppamkhldeaaMemC
namespace Go.Proofs.Ytabhppamkhldeaa.Sx
open Go
set_option maxRecDepth 1000000
set_option linter.unusedSimpArgs false
set_option linter.unusedVariables false

/-- One chunk's cells hold the bytes 'g r'. -/
def CH (cs : List AV) (g : Nat → Option Int) : Prop :=
  cs.length = 512 ∧ ∀ r, r < 256 → match g r with
    | some b => cs[r]? = some (.int .u8 b) ∧ cs[256 + r]? = some (.bool true)
    | none => cs[256 + r]? = some (.bool false)

/-- The map at m and its chunks hold f; 'own': the ids that are theirs. -/
structure CK (M : MM) (m : Nat) (f : Nat → Option Int) (own : Nat → Prop) (es : List (Value × AV)) : Prop where
  map : M.mem m = some (.map (.int .i64) es)
  mlt : m < M.nx
  mown : own m
  none' : ∀ q : Nat, findM (.int .i64 q) es = none → ∀ r, r < 256 → f (256 * q + r) = none
  some' : ∀ (q : Nat) a, findM (.int .i64 q) es = some a → ∃ c cs, a = .ptr c 0 ∧ own c ∧ c ≠ m ∧ c < M.nx ∧ M.mem c = some (.cells 66 cs) ∧ CH cs (fun r => f (256 * q + r))
  inj : ∀ (q q' : Nat) c, findM (.int .i64 q) es = some (.ptr c 0) → findM (.int .i64 q') es = some (.ptr c 0) → q = q'

theorem findM_put_same {k : Value} (x : AV) (hk : sameK k k = true) : ∀ es : List (Value × AV), findM k (putM k x es) = some x
  | [] => by simp [putM, findM, hk]
  | e :: r => by
    simp only [putM]
    split
    · simp [findM, hk]
    · rename_i h
      simp only [findM, if_neg h]
      exact findM_put_same x hk r

theorem findM_put_ne {k k' : Value} (x : AV) (h : sameK k' k = false) : ∀ es : List (Value × AV), findM k' (putM k x es) = findM k' es
  | [] => by simp [putM, findM, h]
  | e :: r => by
    simp only [putM]
    split
    · rename_i he
      have := sameK_eq he
      simp only [findM, h, ← this]
      rfl
    · rename_i he
      simp only [findM]
      rw [findM_put_ne x h r]

theorem sameK_int (a b : Int) : sameK (.int .i64 a) (.int .i64 b) = (a == b) := by simp [sameK]

/-- A byte in a chunk that is there. -/
theorem CH.set {cs : List AV} {g : Nat → Option Int} (h : CH cs g) (r : Nat) (hr : r < 256) (b : Int) :
    CH ((cs.set r (.int .u8 b)).set (256 + r) (.bool true)) (fun k => if k = r then some b else g k) := by
  obtain ⟨hl, hg⟩ := h
  refine ⟨by simpa using hl, fun k hk => ?_⟩
  by_cases e : k = r
  · subst e
    simp only [if_true]
    exact ⟨by rw [List.getElem?_set_ne (by omega), List.getElem?_set_self (by omega)], by rw [List.getElem?_set_self (by simp; omega)]⟩
  · simp only [e, if_false]
    have := hg k hk
    cases hgk : g k with
    | none => rw [hgk] at this; simp only at this ⊢; rw [List.getElem?_set_ne (by omega), List.getElem?_set_ne (by omega)]; exact this
    | some x =>
      rw [hgk] at this
      simp only at this ⊢
      exact ⟨by rw [List.getElem?_set_ne (by omega), List.getElem?_set_ne (by omega)]; exact this.1, by rw [List.getElem?_set_ne (by omega), List.getElem?_set_ne (by omega)]; exact this.2⟩

/-- A new chunk. -/
theorem CH.new : CH (List.replicate 256 (.int .u8 0) ++ List.replicate 256 (.bool false)) (fun _ => none) := by
  refine ⟨by simp, fun r hr => ?_⟩
  simp only
  rw [List.getElem?_append_right (by simp), List.length_replicate, Nat.add_sub_cancel_left, List.getElem?_replicate, if_pos hr]

def setF (f : Nat → Option Int) (k : Nat) (b : Int) : Nat → Option Int := fun j => if j = k then some b else f j

/-- Memory elsewhere has turned. -/
theorem CK.frame {M M' : MM} {m : Nat} {f : Nat → Option Int} {own : Nat → Prop} {es : List (Value × AV)} (h : CK M m f own es) (hn : M.nx ≤ M'.nx) (he : ∀ x, own x → x < M.nx → M'.mem x = M.mem x) : CK M' m f own es where
  map := by rw [he m h.mown h.mlt]; exact h.map
  mlt := by have := h.mlt; omega
  mown := h.mown
  none' := h.none'
  some' q a ha := by
    obtain ⟨c, cs, h1, h2, h3, h4, h5, h6⟩ := h.some' q a ha
    exact ⟨c, cs, h1, h2, h3, by omega, by rw [he c h2 h4]; exact h5, h6⟩
  inj := h.inj

/-- A byte is written into a chunk that is there. -/
theorem CK.write {M : MM} {m : Nat} {f : Nat → Option Int} {own : Nat → Prop} {es : List (Value × AV)} (h : CK M m f own es) (q r : Nat) (hr : r < 256) (b : Int) (c : Nat) (cs : List AV)
    (hq : findM (.int .i64 q) es = some (.ptr c 0)) (hc : M.mem c = some (.cells 66 cs)) (M' : MM) (hn : M.nx ≤ M'.nx) (hM : M'.mem c = some (.cells 66 ((cs.set r (.int .u8 b)).set (256 + r) (.bool true)))) (he : ∀ x, x ≠ c → x < M.nx → M'.mem x = M.mem x) :
    CK M' m (setF f (256 * q + r) b) own es := by
  obtain ⟨c0, cs0, e0, o0, n0, l0, m0, h0⟩ := h.some' q _ hq
  cases e0
  rw [hc] at m0; cases m0
  refine ⟨by rw [he m (fun e => n0 e.symm) h.mlt]; exact h.map, by have := h.mlt; omega, h.mown, ?_, ?_, h.inj⟩
  · intro q' hq' r' hr'
    have hne : q' ≠ q := fun e => by rw [e, hq] at hq'; cases hq'
    simp only [setF]; rw [if_neg (by omega)]; exact h.none' q' hq' r' hr'
  · intro q' a ha
    obtain ⟨c', cs', rfl, o1, n1, l1, m1, h1⟩ := h.some' q' a ha
    by_cases e : q' = q
    · subst e
      rw [hq] at ha; cases ha
      rw [hc] at m1; cases m1
      refine ⟨c, _, rfl, o0, n0, by omega, hM, ?_⟩
      have e1 : (fun k => setF f (256 * q' + r) b (256 * q' + k)) = fun k => if k = r then some b else f (256 * q' + k) := by
        funext k; simp only [setF]
        by_cases hk : k = r
        · rw [if_pos (by omega), if_pos hk]
        · rw [if_neg (by omega), if_neg hk]
      rw [e1]; exact h1.set r hr b
    · have hcc : c' ≠ c := fun e2 => by subst e2; exact e (h.inj q' q c' ha hq)
      refine ⟨c', cs', rfl, o1, n1, by omega, by rw [he c' hcc l1]; exact m1, ?_⟩
      obtain ⟨g1, g2⟩ := h1
      refine ⟨g1, fun r' hr' => ?_⟩
      have e1 : setF f (256 * q + r) b (256 * q' + r') = f (256 * q' + r') := by simp only [setF]; rw [if_neg (by omega)]
      simp only [e1]; exact g2 r' hr'

/-- A new chunk. -/
theorem CK.grow {M : MM} {m : Nat} {f : Nat → Option Int} {own : Nat → Prop} {es : List (Value × AV)} (h : CK M m f own es) (q : Nat) (c : Nat) (hq : findM (.int .i64 q) es = none) (hcn : M.nx ≤ c) (M' : MM) (own' : Nat → Prop)
    (hn : c < M'.nx) (hM : M'.mem c = some (.cells 66 (List.replicate 256 (.int .u8 0) ++ List.replicate 256 (.bool false)))) (hm : M'.mem m = some (.map (.int .i64) (putM (.int .i64 q) (.ptr c 0) es)))
    (he : ∀ x, x ≠ m → x < M.nx → M'.mem x = M.mem x) (ho : ∀ x, x < M.nx → own x → own' x) (hoc : own' c) : CK M' m f own' (putM (.int .i64 q) (.ptr c 0) es) := by
  have hmlt := h.mlt
  have ne : ∀ q' : Nat, q' ≠ q → sameK (.int .i64 (q' : Int)) (.int .i64 (q : Int)) = false := fun q' hne => by rw [sameK_int]; simp; omega
  have hs : findM (.int .i64 (q : Int)) (putM (.int .i64 q) (.ptr c 0) es) = some (.ptr c 0) := findM_put_same _ (by rw [sameK_int]; simp) es
  refine ⟨hm, by omega, ho m hmlt h.mown, ?_, ?_, ?_⟩
  · intro q' hq'
    by_cases e : q' = q
    · subst e; rw [hs] at hq'; cases hq'
    · rw [findM_put_ne _ (ne q' e)] at hq'; exact h.none' q' hq'
  · intro q' a ha
    by_cases e : q' = q
    · subst e; rw [hs] at ha; cases ha
      refine ⟨c, _, rfl, hoc, by omega, hn, hM, ?_⟩
      have e1 : (fun r => f (256 * q' + r)) = fun r => if r < 256 then none else f (256 * q' + r) := by
        funext r
        by_cases hr : r < 256
        · rw [if_pos hr]; exact h.none' q' hq r hr
        · rw [if_neg hr]
      rw [e1]
      obtain ⟨g1, g2⟩ := CH.new
      refine ⟨g1, fun r hr => ?_⟩
      simp only [if_pos hr]; exact g2 r hr
    · rw [findM_put_ne _ (ne q' e)] at ha
      obtain ⟨c', cs', rfl, o1, n1, l1, m1, h1⟩ := h.some' q' a ha
      exact ⟨c', cs', rfl, ho c' l1 o1, n1, by omega, by rw [he c' n1 l1]; exact m1, h1⟩
  · intro q1 q2 c' h1 h2
    by_cases e1 : q1 = q
    · by_cases e2 : q2 = q
      · rw [e1, e2]
      · subst e1; rw [hs] at h1; cases h1
        rw [findM_put_ne _ (ne q2 e2)] at h2
        obtain ⟨_, _, e, _, _, l1, _⟩ := h.some' q2 _ h2
        cases e; omega
    · rw [findM_put_ne _ (ne q1 e1)] at h1
      by_cases e2 : q2 = q
      · subst e2; rw [hs] at h2; cases h2
        obtain ⟨_, _, e, _, _, l1, _⟩ := h.some' q1 _ h1
        cases e; omega
      · rw [findM_put_ne _ (ne q2 e2)] at h2
        exact h.inj q1 q2 c' h1 h2
end Go.Proofs.Ytabhppamkhldeaa.Sx
