/- MEMORY AS CHAPTER 19 HAS IT: objects; how the program's memory holds them. -/
import Derived.Test.YtegkhdflmboljaaMpQPl
import Derived.Test.YtegkhdflmboljaaHPl
import Derived.Test.YtegkhdflmboljaaSxNPl
namespace Go.Proofs.Ytegkhdflmboljaa.Sx
open Go
set_option maxRecDepth 1000000
set_option linter.unusedSimpArgs false
set_option linter.unusedVariables false

def CH (cs : List AV) (g : Nat → Option Int) : Prop :=
  (cs.length = 512 ∧ cs.all AV.one = true) ∧ ∀ r, r < 256 → match g r with
    | some b => cs[r]? = some (.int .u8 b) ∧ cs[256 + r]? = some (.bool true)
    | none => cs[256 + r]? = some (.bool false)

/-- The map at m and its chunks hold f; 'own': the ids that are theirs. -/
structure CK (M : MM) (m : Nat) (f : Nat → Option Int) (own : Nat → Prop) (es : List (Value × AV)) : Prop where
  map : M.mem m = some (.map (.int .i64) es)
  mlt : m < M.nx
  mown : own m
  none' : ∀ q : Nat, findM (.int .i64 q) es = none → ∀ r, r < 256 → f (256 * q + r) = none
  some' : ∀ (q : Nat) a, findM (.int .i64 q) es = some a → ∃ c cs, a = .ptr c 0 ∧ own c ∧ c ≠ m ∧ c < M.nx ∧ M.mem c = some (.cells 64 cs) ∧ CH cs (fun r => f (256 * q + r))
  inj : ∀ (q q' : Nat) c, findM (.int .i64 q) es = some (.ptr c 0) → findM (.int .i64 q') es = some (.ptr c 0) → q = q'

theorem findM_put_same {k : Value} (x : AV) (hk : sameK k k = true) : ∀ es : List (Value × AV), findM k (putM k x es) = some x
  | [] => by simp [putM, findM, hk]
  | e :: r => by
    simp only [putM]
    split
    · simp [findM, hk]
    · rename_i h
      simp only [findM, if_neg h]
      exact findM_put_same x hk r

theorem findM_put_ne {k k' : Value} (x : AV) (h : sameK k' k = false) : ∀ es : List (Value × AV), findM k' (putM k x es) = findM k' es
  | [] => by simp [putM, findM, h]
  | e :: r => by
    simp only [putM]
    split
    · rename_i he
      have := sameK_eq he
      simp only [findM, h, ← this]
      rfl
    · rename_i he
      simp only [findM]
      rw [findM_put_ne x h r]

theorem sameK_int (a b : Int) : sameK (.int .i64 a) (.int .i64 b) = (a == b) := by simp [sameK]

theorem all_set {cs : List AV} {x : AV} (h : cs.all AV.one = true) (hx : x.one = true) (i : Nat) : (cs.set i x).all AV.one = true := by
  rw [List.all_eq_true] at h ⊢
  intro y hy
  rcases List.mem_or_eq_of_mem_set hy with h1 | h1
  · exact h y h1
  · rw [h1]; exact hx
theorem CH.set {cs : List AV} {g : Nat → Option Int} (h : CH cs g) (r : Nat) (hr : r < 256) (b : Int) :
    CH ((cs.set r (.int .u8 b)).set (256 + r) (.bool true)) (fun k => if k = r then some b else g k) := by
  obtain ⟨hl, hg⟩ := h
  obtain ⟨hl, ho⟩ := hl
  refine ⟨⟨by simpa using hl, all_set (all_set ho rfl _) rfl _⟩, fun k hk => ?_⟩
  by_cases e : k = r
  · subst e
    simp only [if_true]
    exact ⟨by rw [List.getElem?_set_ne (by omega), List.getElem?_set_self (by omega)], by rw [List.getElem?_set_self (by simp; omega)]⟩
  · simp only [e, if_false]
    have := hg k hk
    cases hgk : g k with
    | none => rw [hgk] at this; simp only at this ⊢; rw [List.getElem?_set_ne (by omega), List.getElem?_set_ne (by omega)]; exact this
    | some x =>
      rw [hgk] at this
      simp only at this ⊢
      exact ⟨by rw [List.getElem?_set_ne (by omega), List.getElem?_set_ne (by omega)]; exact this.1, by rw [List.getElem?_set_ne (by omega), List.getElem?_set_ne (by omega)]; exact this.2⟩

theorem CH.new : CH (List.replicate 256 (.int .u8 0) ++ List.replicate 256 (.bool false)) (fun _ => none) := by
  refine ⟨⟨by simp, by rfl⟩, fun r hr => ?_⟩
  simp only
  rw [List.getElem?_append_right (by simp), List.length_replicate, Nat.add_sub_cancel_left, List.getElem?_replicate, if_pos hr]

def setF (f : Nat → Option Int) (k : Nat) (b : Int) : Nat → Option Int := fun j => if j = k then some b else f j

theorem CK.frame {M M' : MM} {m : Nat} {f : Nat → Option Int} {own : Nat → Prop} {es : List (Value × AV)} (h : CK M m f own es) (hn : M.nx ≤ M'.nx) (he : ∀ x, own x → x < M.nx → M'.mem x = M.mem x) : CK M' m f own es where
  map := by rw [he m h.mown h.mlt]; exact h.map
  mlt := by have := h.mlt; omega
  mown := h.mown
  none' := h.none'
  some' q a ha := by
    obtain ⟨c, cs, h1, h2, h3, h4, h5, h6⟩ := h.some' q a ha
    exact ⟨c, cs, h1, h2, h3, by omega, by rw [he c h2 h4]; exact h5, h6⟩
  inj := h.inj

theorem CK.write {M : MM} {m : Nat} {f : Nat → Option Int} {own : Nat → Prop} {es : List (Value × AV)} (h : CK M m f own es) (q r : Nat) (hr : r < 256) (b : Int) (c : Nat) (cs : List AV)
    (hq : findM (.int .i64 q) es = some (.ptr c 0)) (hc : M.mem c = some (.cells 64 cs)) (M' : MM) (hn : M.nx ≤ M'.nx) (hM : M'.mem c = some (.cells 64 ((cs.set r (.int .u8 b)).set (256 + r) (.bool true)))) (he : ∀ x, x ≠ c → x < M.nx → M'.mem x = M.mem x) :
    CK M' m (setF f (256 * q + r) b) own es := by
  obtain ⟨c0, cs0, e0, o0, n0, l0, m0, h0⟩ := h.some' q _ hq
  cases e0
  rw [hc] at m0; cases m0
  refine ⟨by rw [he m (fun e => n0 e.symm) h.mlt]; exact h.map, by have := h.mlt; omega, h.mown, ?_, ?_, h.inj⟩
  · intro q' hq' r' hr'
    have hne : q' ≠ q := fun e => by rw [e, hq] at hq'; cases hq'
    simp only [setF]; rw [if_neg (by omega)]; exact h.none' q' hq' r' hr'
  · intro q' a ha
    obtain ⟨c', cs', rfl, o1, n1, l1, m1, h1⟩ := h.some' q' a ha
    by_cases e : q' = q
    · subst e
      rw [hq] at ha; cases ha
      rw [hc] at m1; cases m1
      refine ⟨c, _, rfl, o0, n0, by omega, hM, ?_⟩
      have e1 : (fun k => setF f (256 * q' + r) b (256 * q' + k)) = fun k => if k = r then some b else f (256 * q' + k) := by
        funext k; simp only [setF]
        by_cases hk : k = r
        · rw [if_pos (by omega), if_pos hk]
        · rw [if_neg (by omega), if_neg hk]
      rw [e1]; exact h1.set r hr b
    · have hcc : c' ≠ c := fun e2 => by subst e2; exact e (h.inj q' q c' ha hq)
      refine ⟨c', cs', rfl, o1, n1, by omega, by rw [he c' hcc l1]; exact m1, ?_⟩
      obtain ⟨g1, g2⟩ := h1
      refine ⟨g1, fun r' hr' => ?_⟩
      have e1 : setF f (256 * q + r) b (256 * q' + r') = f (256 * q' + r') := by simp only [setF]; rw [if_neg (by omega)]
      simp only [e1]; exact g2 r' hr'

theorem CK.grow {M : MM} {m : Nat} {f : Nat → Option Int} {own : Nat → Prop} {es : List (Value × AV)} (h : CK M m f own es) (q : Nat) (c : Nat) (hq : findM (.int .i64 q) es = none) (hcn : M.nx ≤ c) (M' : MM) (own' : Nat → Prop)
    (hn : c < M'.nx) (hM : M'.mem c = some (.cells 64 (List.replicate 256 (.int .u8 0) ++ List.replicate 256 (.bool false)))) (hm : M'.mem m = some (.map (.int .i64) (putM (.int .i64 q) (.ptr c 0) es)))
    (he : ∀ x, x ≠ m → x < M.nx → M'.mem x = M.mem x) (ho : ∀ x, x < M.nx → own x → own' x) (hoc : own' c) : CK M' m f own' (putM (.int .i64 q) (.ptr c 0) es) := by
  have hmlt := h.mlt
  have ne : ∀ q' : Nat, q' ≠ q → sameK (.int .i64 (q' : Int)) (.int .i64 (q : Int)) = false := fun q' hne => by rw [sameK_int]; simp; omega
  have hs : findM (.int .i64 (q : Int)) (putM (.int .i64 q) (.ptr c 0) es) = some (.ptr c 0) := findM_put_same _ (by rw [sameK_int]; simp) es
  refine ⟨hm, by omega, ho m hmlt h.mown, ?_, ?_, ?_⟩
  · intro q' hq'
    by_cases e : q' = q
    · subst e; rw [hs] at hq'; cases hq'
    · rw [findM_put_ne _ (ne q' e)] at hq'; exact h.none' q' hq'
  · intro q' a ha
    by_cases e : q' = q
    · subst e; rw [hs] at ha; cases ha
      refine ⟨c, _, rfl, hoc, by omega, hn, hM, ?_⟩
      have e1 : (fun r => f (256 * q' + r)) = fun r => if r < 256 then none else f (256 * q' + r) := by
        funext r
        by_cases hr : r < 256
        · rw [if_pos hr]; exact h.none' q' hq r hr
        · rw [if_neg hr]
      rw [e1]
      obtain ⟨g1, g2⟩ := CH.new
      refine ⟨g1, fun r hr => ?_⟩
      simp only [if_pos hr]; exact g2 r hr
    · rw [findM_put_ne _ (ne q' e)] at ha
      obtain ⟨c', cs', rfl, o1, n1, l1, m1, h1⟩ := h.some' q' a ha
      exact ⟨c', cs', rfl, ho c' l1 o1, n1, by omega, by rw [he c' n1 l1]; exact m1, h1⟩
  · intro q1 q2 c' h1 h2
    by_cases e1 : q1 = q
    · by_cases e2 : q2 = q
      · rw [e1, e2]
      · subst e1; rw [hs] at h1; cases h1
        rw [findM_put_ne _ (ne q2 e2)] at h2
        obtain ⟨_, _, e, _, _, l1, _⟩ := h.some' q2 _ h2
        cases e; omega
    · rw [findM_put_ne _ (ne q1 e1)] at h1
      by_cases e2 : q2 = q
      · subst e2; rw [hs] at h2; cases h2
        obtain ⟨_, _, e, _, _, l1, _⟩ := h.some' q1 _ h1
        cases e; omega
      · rw [findM_put_ne _ (ne q2 e2)] at h2
        exact h.inj q1 q2 c' h1 h2

/-! ### Objects -/
structure Ob where
  alive : Bool
  size : Nat
  count : Int
  refs : Nat
  f : Nat → Option Int
def fnd (l : List Ob) (a : Int) : Option (Nat × Ob) :=
  if a = 0 ∨ a % 8 ≠ 0 ∨ (l.length : Int) < a / 8 then none else (l[(a / 8 - 1).toNat]?).bind fun o => if o.alive then some ((a / 8 - 1).toNat, o) else none
theorem fnd_some {l : List Ob} {a : Int} {k : Nat} {o : Ob} (ha : 0 ≤ a) (h : fnd l a = some (k, o)) : l[k]? = some o ∧ o.alive = true ∧ a = 8 * (k + 1) := by
  unfold fnd at h
  split at h
  · cases h
  · rename_i hc
    obtain ⟨o', h1, h2⟩ := Option.bind_eq_some_iff.1 h
    split at h2
    · rename_i h3
      simp only [Option.some.injEq, Prod.mk.injEq] at h2
      obtain ⟨rfl, rfl⟩ := h2
      exact ⟨h1, h3, by omega⟩
    · cases h2
def liveN : List Ob → Nat
  | [] => 0
  | o :: r => (if o.alive then 1 else 0) + liveN r
theorem liveN_le : ∀ l : List Ob, liveN l ≤ l.length
  | [] => Nat.le_refl _
  | o :: r => by have := liveN_le r; simp only [liveN, List.length_cons]; split <;> omega
theorem liveN_append : ∀ l m : List Ob, liveN (l ++ m) = liveN l + liveN m
  | [], m => by simp [liveN]
  | o :: r, m => by simp only [List.cons_append, liveN, liveN_append r m]; omega
theorem liveN_set : ∀ (l : List Ob) (k : Nat) (o o' : Ob), l[k]? = some o → liveN (l.set k o') + (if o.alive then 1 else 0) = liveN l + (if o'.alive then 1 else 0)
  | [], k, o, o', h => by simp at h
  | x :: r, 0, o, o', h => by
    simp only [List.getElem?_cons_zero, Option.some.injEq] at h; subst h
    simp only [List.set_cons_zero, liveN]; omega
  | x :: r, k + 1, o, o', h => by
    have := liveN_set r k o o' (by simpa using h)
    simp only [List.set_cons_succ, liveN]; omega

/-! ### Who owns what -/
inductive Tag where
  | root | sl | ob (i : Nat) | ck (i : Nat)
  deriving DecidableEq
def Tag.at : Tag → Option Nat
  | .root | .sl => none
  | .ob i | .ck i => some i
def EKy (es : List (Value × AV)) : Prop := DK (es.map Prod.fst) ∧ ∀ q ∈ es, ∃ k : Nat, q.1 = .int .i64 k
theorem EKy.put {es : List (Value × AV)} (h : EKy es) (k : Nat) (x : AV) : EKy (putM (.int .i64 k) x es) := by
  refine ⟨putM_keys h.1, fun q hq => ?_⟩
  have : ∀ es : List (Value × AV), (∀ q ∈ es, ∃ k : Nat, q.1 = .int .i64 k) → ∀ q ∈ putM (.int .i64 (k : Int)) x es, ∃ k : Nat, q.1 = .int .i64 k := by
    intro es
    induction es with
    | nil => intro _ q hq; simp only [putM, List.mem_singleton] at hq; exact ⟨k, by rw [hq]⟩
    | cons e r ih =>
      intro h q hq
      simp only [putM] at hq
      split at hq
      · rcases List.mem_cons.1 hq with h1 | h1
        · exact ⟨k, by rw [h1]⟩
        · exact h q (List.mem_cons_of_mem _ h1)
      · rcases List.mem_cons.1 hq with h1 | h1
        · exact h q (by rw [h1]; simp)
        · exact ih (fun q hq => h q (List.mem_cons_of_mem _ hq)) q h1
  exact this es h.2 q hq
def IO (L : Nat → Option Tag) (M : MM) (i q : Nat) (o : Ob) : Prop :=
  (o.alive = true ∧ o.size ≤ 4194304 ∧ ∃ mid es, M.mem q = some (.cells 60 [.bool true, .i o.size, .i o.count, .i o.refs, .mp mid]) ∧ EKy es ∧ CK M mid o.f (fun id => L id = some (.ck i)) es) ∨
  (o.alive = false ∧ ∃ (a b c : Int) (v : AV), M.mem q = some (.cells 60 [.bool false, .i a, .i b, .i c, v]) ∧ (v = .d (.v (.map none)) ∨ ∃ mid, v = .mp mid ∧ L mid = some (.ck i) ∧ mid < M.nx ∧ M.mem mid = some (.map (.int .i64) [])))
/-- A memory at p. -/
structure IM (L : Nat → Option Tag) (M : MM) (p : Nat) (l : List Ob) (sl : AV) (ps : List Nat) : Prop where
  dom : ∀ id, L id ≠ none → id < M.nx ∧ M.mem id ≠ none
  len : ps.length = l.length
  rl : L p = some .root
  root : M.mem p = some (.cells 49 [sl, .i (liveN l)])
  sli : (sl = .nilsl ∧ ps = []) ∨ ∃ sid, sl = .os sid 0 ps.length 1 ∧ L sid = some .sl ∧ M.mem sid = some (.cells 53 (ps.map fun q => .ptr q 0))
  obs : ∀ i q o, ps[i]? = some q → l[i]? = some o → L q = some (.ob i) ∧ IO L M i q o
theorem CK.own {M : MM} {m : Nat} {f : Nat → Option Int} {own own' : Nat → Prop} {es : List (Value × AV)} (h : CK M m f own es) (ho : ∀ x, x < M.nx → M.mem x ≠ none → own x → own' x) : CK M m f own' es where
  map := h.map
  mlt := h.mlt
  mown := ho _ h.mlt (by rw [h.map]; simp) h.mown
  none' := h.none'
  some' q a ha := by
    obtain ⟨c, cs, h1, h2, h3, h4, h5, h6⟩ := h.some' q a ha
    exact ⟨c, cs, h1, ho c h4 (by rw [h5]; simp) h2, h3, h4, h5, h6⟩
  inj := h.inj
theorem IO.mono {L L' : Nat → Option Tag} {M M' : MM} {i q : Nat} {o : Ob} (h : IO L M i q o) (hq : L q = some (.ob i)) (hn : M.nx ≤ M'.nx) (hm : ∀ id t, L id = some t → t.at = some i → L' id = some t ∧ M'.mem id = M.mem id) : IO L' M' i q o := by
  have hqm := (hm q _ hq rfl).2
  rcases h with ⟨h1, h2, mid, es, h3, h4, h5⟩ | ⟨h1, a, b, c, v, h2, h3⟩
  · refine .inl ⟨h1, h2, mid, es, hqm.trans h3, h4, ?_⟩
    exact (h5.frame hn fun x hx _ => (hm x _ hx rfl).2).own fun x _ _ hx => (hm x _ hx rfl).1
  · refine .inr ⟨h1, a, b, c, v, hqm.trans h2, ?_⟩
    rcases h3 with h3 | ⟨mid, h3, h4, h5, h6⟩
    · exact .inl h3
    · obtain ⟨g1, g2⟩ := hm mid _ h4 rfl
      exact .inr ⟨mid, h3, g1, by omega, g2.trans h6⟩
section
variable {L : Nat → Option Tag} {M : MM} {p : Nat} {l : List Ob} {sl : AV} {ps : List Nat}
theorem IM.plt (h : IM L M p l sl ps) : p < M.nx := (h.dom p (by rw [h.rl]; simp)).1
theorem IM.frame (h : IM L M p l sl ps) {M' : MM} (hn : M.nx ≤ M'.nx) (hm : ∀ id, L id ≠ none → M'.mem id = M.mem id) : IM L M' p l sl ps where
  dom id hid := ⟨Nat.lt_of_lt_of_le (h.dom id hid).1 hn, by rw [hm id hid]; exact (h.dom id hid).2⟩
  len := h.len
  rl := h.rl
  root := by rw [hm p (by rw [h.rl]; simp)]; exact h.root
  sli := by
    rcases h.sli with h1 | ⟨sid, h1, h2, h3⟩
    · exact .inl h1
    · exact .inr ⟨sid, h1, h2, by rw [hm sid (by rw [h2]; simp)]; exact h3⟩
  obs i q o h1 h2 := by
    obtain ⟨h3, h4⟩ := h.obs i q o h1 h2
    exact ⟨h3, h4.mono h3 hn fun id t ht _ => ⟨ht, hm id (by rw [ht]; simp)⟩⟩
theorem IM.upd (h : IM L M p l sl ps) {k q : Nat} {o o' : Ob} (hk : l[k]? = some o) (hq : ps[k]? = some q) {L' : Nat → Option Tag} {M' : MM} (hn : M.nx ≤ M'.nx) (hd : ∀ id, L' id ≠ none → id < M'.nx ∧ M'.mem id ≠ none)
    (hr : M'.mem p = some (.cells 49 [sl, .i (liveN (l.set k o'))])) (hL : L' p = some .root) (hm : ∀ id t, L id = some t → t.at ≠ some k → L' id = some t ∧ (id ≠ p → M'.mem id = M.mem id))
    (hqL : L' q = some (.ob k)) (ho : IO L' M' k q o') : IM L' M' p (l.set k o') sl ps where
  dom := hd
  len := by rw [h.len, List.length_set]
  rl := hL
  root := hr
  sli := by
    rcases h.sli with h1 | ⟨sid, h1, h2, h3⟩
    · exact .inl h1
    · have := hm sid _ h2 (by simp [Tag.at])
      exact .inr ⟨sid, h1, this.1, by rw [this.2 (fun e => by rw [e, h.rl] at h2; cases h2)]; exact h3⟩
  obs i q' o'' h1 h2 := by
    by_cases e : i = k
    · subst e
      rw [hq] at h1; injection h1 with h1; subst h1
      rw [List.getElem?_set_self (by rcases Nat.lt_or_ge i l.length with e | e; exact e; rw [List.getElem?_eq_none e] at hk; cases hk)] at h2
      injection h2 with h2; subst h2
      exact ⟨hqL, ho⟩
    · rw [List.getElem?_set_ne (fun e2 => e e2.symm)] at h2
      obtain ⟨h3, h4⟩ := h.obs i q' o'' h1 h2
      have hm' : ∀ id t, L id = some t → t.at = some i → L' id = some t ∧ M'.mem id = M.mem id := fun id t ht hi => by
        obtain ⟨g1, g2⟩ := hm id t ht (by rw [hi]; intro e2; injection e2 with e2; exact e e2)
        exact ⟨g1, g2 fun e2 => by subst e2; rw [h.rl] at ht; injection ht with ht; subst ht; cases hi⟩
      exact ⟨(hm' q' _ h3 rfl).1, h4.mono h3 hn hm'⟩
end
/-- The memory of others is as it was. -/
structure Gr (L L' : Nat → Option Tag) (M M' : MM) : Prop where
  nx : M.nx ≤ M'.nx
  new : ∀ id, L' id ≠ none → L id ≠ none ∨ M.nx ≤ id
  old : ∀ id, id < M.nx → L id = none → M'.mem id = M.mem id
theorem Gr.refl (L : Nat → Option Tag) (M : MM) : Gr L L M M := ⟨Nat.le_refl _, fun _ h => .inl h, fun _ _ _ => rfl⟩
def Pst (L : Nat → Option Tag) (M : MM) (p : Nat) (r : AV) (l' : List Ob) : AV × MM → Prop := fun x => x.1 = r ∧ ∃ L' sl' ps', IM L' x.2 p l' sl' ps' ∧ Gr L L' M x.2
end Go.Proofs.Ytegkhdflmboljaa.Sx

namespace Go.Proofs.Ytegkhdflmboljaa.Sx
open Go
set_option maxRecDepth 1000000
set_option linter.unusedSimpArgs false
set_option linter.unusedVariables false
theorem rn_roE {R : Type} {r : R → Prop} {call : CallT} {lim : Lm} {f : FuncId} {args : List AV} {M : MM} {v v' : AV} {k : AV → Option R} {Q : AV × MM → Prop}
    (h : Wp (call f args M.nx ⟨M.nx, look M.mem lim⟩) Q) (hQ : ∀ x, Q x → x.1 = v) (hf : ∀ m, freeze m M.nx v = some v') (hk : Wp (k v') r) : Wp (opt (roA call lim f args M) k) r := by
  obtain ⟨⟨w, M'⟩, e, q⟩ := h
  have := hQ _ q
  simp only at this; subst this
  refine rn_opt (v := v') ?_ hk
  simp only [roA, e, hf]
section
variable {L : Nat → Option Tag} {M : MM} {p : Nat} {l : List Ob} {sl : AV} {ps : List Nat}
theorem IM.look (h : IM L M p l sl ps) {lim : Lm} (hl : ∀ id, L id ≠ none → lim.ok id = true) : IM L ⟨M.nx, look M.mem lim⟩ p l sl ps :=
  h.frame (Nat.le_refl _) fun id hid => by simp only [Sx.look, hl id hid, if_true]
theorem IM.oks (h : IM L M p l sl ps) : ∀ id, L id ≠ none → (Lm.top M.nx).ok id = true := fun id hid => ok_top.2 (h.dom id hid).1
def fndR (l : List Ob) (ps : List Nat) (a : Int) : AV := match fnd l a with
  | none => .tup [.nil, .i 23]
  | some (k, _) => .tup [.ptr (ps.getD k 0) 0, .i 0]
theorem fnd_none {l : List Ob} {a : Int} (h : a = 0 ∨ a % 8 ≠ 0 ∨ (l.length : Int) < a / 8) : fnd l a = none := by unfold fnd; rw [if_pos h]
theorem fnd_of {l : List Ob} {k : Nat} {o : Ob} (h : l[k]? = some o) : fnd l (8 * ((k : Int) + 1)) = if o.alive then some (k, o) else none := by
  have hk : k < l.length := by
    rcases Nat.lt_or_ge k l.length with e | e
    · exact e
    · rw [List.getElem?_eq_none e] at h; cases h
  have e1 : (8 * ((k : Int) + 1) / 8 - 1).toNat = k := by omega
  unfold fnd
  rw [if_neg (by omega), e1, h]
  rfl
theorem addr_cases (l : List Ob) (a : Int) (ha : 0 ≤ a) : a = 0 ∨ (a ≠ 0 ∧ a % 8 ≠ 0) ∨ (a ≠ 0 ∧ a % 8 = 0 ∧ (l.length : Int) < a / 8) ∨ ∃ (k : Nat) (o : Ob), l[k]? = some o ∧ a = 8 * ((k : Int) + 1) ∧ k < l.length := by
  by_cases h0 : a = 0
  · exact .inl h0
  by_cases h1 : a % 8 = 0
  · by_cases h2 : (l.length : Int) < a / 8
    · exact .inr (.inr (.inl ⟨h0, h1, h2⟩))
    · have hk : (a / 8 - 1).toNat < l.length := by omega
      exact .inr (.inr (.inr ⟨(a / 8 - 1).toNat, _, List.getElem?_eq_getElem hk, by omega, hk⟩))
  · exact .inr (.inl ⟨h0, h1⟩)
theorem IM.at (h : IM L M p l sl ps) {k : Nat} {o : Ob} (hk : l[k]? = some o) : ∃ q sid, ps[k]? = some q ∧ q < M.nx ∧ sl = .os sid 0 l.length 1 ∧ sid < M.nx ∧ M.mem sid = some (.cells 53 (ps.map fun q => .ptr q 0)) ∧ L q = some (.ob k) ∧ IO L M k q o ∧ q ≠ p := by
  have hkl : k < l.length := by
    rcases Nat.lt_or_ge k l.length with e | e
    · exact e
    · rw [List.getElem?_eq_none e] at hk; cases hk
  have hl := h.len
  have hq : ps[k]? = some (ps[k]'(by omega)) := List.getElem?_eq_getElem _
  obtain ⟨h1, h2⟩ := h.obs k _ o hq hk
  rcases h.sli with ⟨_, e⟩ | ⟨sid, e1, e2, e3⟩
  · rw [e] at hl; simp at hl; omega
  · exact ⟨_, sid, hq, (h.dom _ (by rw [h1]; simp)).1, by rw [e1, hl], (h.dom _ (by rw [e2]; simp)).1, e3, h1, h2, fun e => by rw [e, h.rl] at h1; cases h1⟩

variable {call : CallT} (hc : Lim GK call)
include hc
theorem find_ok (h : IM L M p l sl ps) {a : Int} (ha : 0 ≤ a ∧ a ≤ 18446744073709551615) (hl : l.length ≤ 1000000) (lo : Nat) : Wp (call 29 [.ptr p 0, .int .u64 a] lo M) (Ans (fndR l ps a) M) := by
  have hrem : a.tmod 8 = a % 8 := Int.tmod_eq_emod_of_nonneg ha.1
  have hp := h.plt
  have hr := h.root
  rw [q29 hc]; unfold s29
  rcases addr_cases l a ha.1 with c | ⟨c1, c⟩ | ⟨c1, c2, c⟩ | ⟨k, o, hk, c, hkl⟩
  · subst c
    repeat (first | (with_reducible (first | refine rn_if_t ?_ | refine rn_gp_tf ?_ | refine rn_pt ?_)) | ((with_reducible refine rn_eql_t ?_ ?_); focus omega))
    exact rn_ans' (by rw [fndR, fnd_none (.inl rfl)])
  · repeat (first | rw [hrem] | (with_reducible (first | refine rn_some ?_ | refine rn_if_t ?_ | refine rn_gp_ff ?_ | refine rn_gp_tf ?_ | refine rn_pt ?_ | refine rn_pf ?_)) | ((with_reducible refine rn_rem ?_ ?_); focus omega) | ((with_reducible refine rn_eql_f ?_ ?_); focus omega) | ((with_reducible refine rn_neq_t ?_ ?_); focus omega))
    exact rn_ans' (by rw [fndR, fnd_none (.inr (.inl c))])
  · have hsl : lenA sl = some (.i l.length) := by
      rcases h.sli with ⟨e1, e2⟩ | ⟨sid, e1, _⟩
      · have := h.len; rw [e2] at this; rw [e1, ← this]; rfl
      · rw [e1, h.len]; rfl
    repeat (first | rw [hrem] | ((with_reducible apply rn_ld (ok_top.2 hp) hr); focus exact rfl) | (with_reducible (first | refine rn_opt hsl ?_ | refine rn_some ?_ | refine rn_if_t ?_ | refine rn_gp_ff ?_ | refine rn_pf ?_ | refine rn_nilc ?_ | refine rn_fad ?_)) | ((with_reducible refine rn_rem ?_ ?_); focus omega) | ((with_reducible refine rn_quou ?_ ?_); focus omega) | ((with_reducible refine rn_eql_f ?_ ?_); focus omega) | ((with_reducible refine rn_neq_f ?_ ?_); focus omega) | ((with_reducible refine rn_gtr_t ?_ ?_); focus omega) | ((with_reducible refine rn_cviu ?_ ?_); focus omega))
    exact rn_ans' (by rw [fndR, fnd_none (.inr (.inr c))])
  · obtain ⟨q, sid, hq, hql, rfl, hsid, hsm, hLq, hio, _⟩ := h.at hk
    have c1 : a ≠ 0 := by omega
    have c2 : a % 8 = 0 := by omega
    have c3 : a / 8 = (k : Int) + 1 := by omega
    have e1 : fnd l a = if o.alive then some (k, o) else none := by rw [c]; exact fnd_of hk
    have e2 : ps.getD k 0 = q := by rw [List.getD_eq_getElem?_getD, hq]; rfl
    have hptr : (ps.map fun q => AV.ptr q 0)[0 + ((k : Int) + 1 - 1).toNat * 1]? = some (.ptr q 0) := by
      have : 0 + ((k : Int) + 1 - 1).toNat * 1 = k := by omega
      rw [this, List.getElem?_map, hq]; rfl
    rcases hio with ⟨h1, h2, mid, es, h3, h4, h5⟩ | ⟨h1, x, y, z, w, h3, _⟩
    · repeat (first | rw [hrem] | rw [c3] | ((with_reducible apply rn_ld (ok_top.2 hp) hr); focus exact rfl) | (with_reducible (first | apply rn_ld (ok_top.2 hsid) hsm hptr ?_)) | ((with_reducible apply rn_ld (ok_top.2 hql) h3); focus exact rfl) | (with_reducible (first | refine rn_some ?_ | refine rn_if_f ?_ | refine rn_gp_ff ?_ | refine rn_pf ?_ | refine rn_not_t ?_ | refine rn_len_os ?_ | refine rn_nilc ?_ | refine rn_fad ?_)) | ((with_reducible refine rn_subu ?_ ?_); focus omega) | ((with_reducible refine rn_rem ?_ ?_); focus omega) | ((with_reducible refine rn_quou ?_ ?_); focus omega) | ((with_reducible refine rn_eql_f ?_ ?_); focus omega) | ((with_reducible refine rn_neq_f ?_ ?_); focus omega) | ((with_reducible refine rn_gtr_f ?_ ?_); focus omega) | ((with_reducible refine rn_cviu ?_ ?_); focus omega) | ((with_reducible refine rn_ixs ?_ ?_); focus omega))
      exact rn_ans' (by rw [fndR, e1, h1]; simp only [if_true]; rw [e2])
    · repeat (first | rw [hrem] | rw [c3] | ((with_reducible apply rn_ld (ok_top.2 hp) hr); focus exact rfl) | (with_reducible (first | apply rn_ld (ok_top.2 hsid) hsm hptr ?_)) | ((with_reducible apply rn_ld (ok_top.2 hql) h3); focus exact rfl) | (with_reducible (first | refine rn_some ?_ | refine rn_if_t ?_ | refine rn_if_f ?_ | refine rn_gp_ff ?_ | refine rn_pf ?_ | refine rn_not_f ?_ | refine rn_len_os ?_ | refine rn_nilc ?_ | refine rn_fad ?_)) | ((with_reducible refine rn_subu ?_ ?_); focus omega) | ((with_reducible refine rn_rem ?_ ?_); focus omega) | ((with_reducible refine rn_quou ?_ ?_); focus omega) | ((with_reducible refine rn_eql_f ?_ ?_); focus omega) | ((with_reducible refine rn_neq_f ?_ ?_); focus omega) | ((with_reducible refine rn_gtr_f ?_ ?_); focus omega) | ((with_reducible refine rn_cviu ?_ ?_); focus omega) | ((with_reducible refine rn_ixs ?_ ?_); focus omega))
      exact rn_ans' (by rw [fndR, e1, h1]; rfl)
theorem rn_find {R : Type} {r : R → Prop} {lim : Lm} {k : AV → Option R} (h : IM L M p l sl ps) {a : Int} (ha : 0 ≤ a ∧ a ≤ 18446744073709551615) (hl : l.length ≤ 1000000) (hlim : ∀ id, L id ≠ none → lim.ok id = true)
    (h1 : fnd l a = none → Wp (k (.tup [.nil, .i 23])) r) (h2 : ∀ i o q, fnd l a = some (i, o) → l[i]? = some o → o.alive = true → ps[i]? = some q → Wp (k (.tup [.ptr q 0, .i 0])) r) : Wp (opt (roA call lim 29 [.ptr p 0, .int .u64 a] M) k) r := by
  have hf := find_ok hc (h.look hlim) ha hl M.nx
  cases e : fnd l a with
  | none =>
    refine rn_roE hf (fun x hx => hx.1) (v' := .tup [.nil, .i 23]) (fun m => ?_) (h1 e)
    rw [fndR, e]; rfl
  | some io =>
    obtain ⟨i, o⟩ := io
    obtain ⟨e1, e2, e3⟩ := fnd_some ha.1 e
    obtain ⟨q, sid, hq, hql, _⟩ := h.at e1
    refine rn_roE hf (fun x hx => hx.1) (v' := .tup [.ptr q 0, .i 0]) (fun m => ?_) (h2 i o q e e1 e2 hq)
    have e4 : ps.getD i 0 = q := by rw [List.getD_eq_getElem?_getD, hq]; rfl
    rw [fndR, e]
    simp only [e4]
    simp only [freeze, List.mapM_cons, List.mapM_nil, freezeA, freeze1, hql, if_true, freezeD, Option.pure_def, Option.bind_eq_bind, Option.bind_some, Option.map_some, normD]
end
end Go.Proofs.Ytegkhdflmboljaa.Sx

namespace Go.Proofs.Ytegkhdflmboljaa.Sx
open Go
set_option maxRecDepth 1000000
set_option linter.unusedSimpArgs false
set_option linter.unusedVariables false
def sRetain (l : List Ob) (a : Int) : Int × List Ob := match fnd l a with
  | none => (23, l)
  | some (k, o) => (0, l.set k { o with refs := o.refs + 1 })
def sRelease (l : List Ob) (a : Int) : Int × Int × List Ob := match fnd l a with
  | none => (0, 23, l)
  | some (k, o) => if o.refs = 0 then (0, 20, l) else ((o.refs - 1 : Nat), 0, l.set k { o with refs := o.refs - 1 })
def sFree (l : List Ob) (a : Int) : Int × List Ob := match fnd l a with
  | none => (23, l)
  | some (k, o) => if 0 < o.refs then (20, l) else (0, l.set k { o with alive := false })
def sSize (l : List Ob) (a : Int) : Int × Int × Int := match fnd l a with
  | none => (0, 0, 23)
  | some (_, o) => (o.size, o.count, 0)
def sRefs (l : List Ob) (a : Int) : Int × Int := match fnd l a with
  | none => (0, 23)
  | some (_, o) => (o.refs, 0)
theorem put_same (M : MM) (i : Nat) (b : Blk) : (M.put i b).mem i = some b := by simp [MM.put, upd]
theorem put_ne (M : MM) (i j : Nat) (b : Blk) (h : j ≠ i) : (M.put i b).mem j = M.mem j := by simp [MM.put, upd, h]
section
variable {L : Nat → Option Tag} {M : MM} {p : Nat} {l : List Ob} {sl : AV} {ps : List Nat}
theorem Pst.same (h : IM L M p l sl ps) {r : AV} {M' : MM} (hm : M'.mem = M.mem) (hn : M.nx ≤ M'.nx) : Pst L M p r l (r, M') :=
  ⟨rfl, L, sl, ps, h.frame hn fun _ _ => by rw [hm], ⟨hn, fun _ h => .inl h, fun _ _ _ => by rw [hm]⟩⟩
theorem IM.putOb (h : IM L M p l sl ps) {k q mid : Nat} {o : Ob} {es : List (Value × AV)} (hk : l[k]? = some o) (hq : ps[k]? = some q) (hLq : L q = some (.ob k)) (hqp : q ≠ p) (ha : o.alive = true) (hs : o.size ≤ 4194304) (h4 : EKy es) (h5 : CK M mid o.f (fun id => L id = some (.ck k)) es) (r : Nat) {M' : MM}
    (e : M.put q (.cells 60 [.bool true, .i o.size, .i o.count, .i r, .mp mid]) = M') : IM L M' p (l.set k { o with refs := r }) sl ps ∧ Gr L L M M' := by
  subst e
  have hqn := h.dom q (by rw [hLq]; simp)
  have hne : ∀ id, id ≠ q → (M.put q (.cells 60 [.bool true, .i o.size, .i o.count, .i r, .mp mid])).mem id = M.mem id := fun id hid => put_ne _ _ _ _ hid
  refine ⟨h.upd hk hq (Nat.le_refl _) (fun id hid => ⟨(h.dom id hid).1, ?_⟩) ?_ h.rl (fun id t ht hi => ⟨ht, fun _ => hne id fun e => ?_⟩) hLq (.inl ⟨ha, hs, mid, es, put_same _ _ _, h4, ?_⟩), ⟨Nat.le_refl _, fun id h => .inl h, fun id _ hid => hne id fun e => ?_⟩⟩
  · by_cases e : id = q
    · rw [e, put_same]; simp
    · rw [hne id e]; exact (h.dom id hid).2
  · rw [hne p (fun e => hqp e.symm), h.root]
    have := liveN_set l k o { o with refs := r } hk
    have e2 : liveN (l.set k { o with refs := r }) = liveN l := by simp only at this; omega
    rw [e2]
  · rw [e, hLq] at ht; injection ht with ht; subst ht; exact hi rfl
  · exact h5.frame (Nat.le_refl _) fun x hx _ => hne x fun e => by rw [e, hLq] at hx; cases hx
  · rw [e, hLq] at hid; cases hid
variable {call : CallT} (hc : Lim GK call) (h : IM L M p l sl ps) {a : Int} (ha : 0 ≤ a ∧ a ≤ 18446744073709551615) (hl : l.length ≤ 1000000) (hr : ∀ o ∈ l, o.refs ≤ 1000000)
include hc h ha hl hr
theorem retain_ok : Wp (call 14 [.ptr p 0, .int .u64 a] 0 M) (Pst L M p (.i (sRetain l a).1) (sRetain l a).2) := by
  rw [q14 hc]; unfold s14
  refine rn_find hc h ha hl h.oks (fun e => ?_) (fun k o q e hk hal hq => ?_)
  · repeat (first | (with_reducible (first | refine rn_if_f ?_ | refine rn_ext0 ?_ | refine rn_ext1 ?_)) | ((with_reducible refine rn_eql_f ?_ ?_); focus omega))
    refine rn_done ?_
    simp only [sRetain, e]
    exact Pst.same h rfl (Nat.le_refl _)
  · obtain ⟨q', sid, hq', hql, _, _, _, hLq, hio, hqp⟩ := h.at hk
    rw [hq] at hq'; injection hq' with hq'; subst hq'
    have hro := hr o (List.mem_of_getElem? hk)
    rcases hio with ⟨h1, h2, mid, es, h3, h4, h5⟩ | ⟨h1, _⟩
    · repeat (first | ((with_reducible apply rn_ld (ok_top.2 hql) h3); focus exact rfl) | (with_reducible (first | refine rn_if_t ?_ | refine rn_ext0 ?_ | refine rn_ext1 ?_ | refine rn_nilc ?_ | refine rn_fad ?_)) | ((with_reducible refine rn_add64 ?_ ?_); focus omega) | ((with_reducible refine rn_eql_t ?_ ?_); focus omega))
      refine rn_st1 rfl (ok_top.2 hql) h3 ⟨Nat.zero_le _, rfl, rfl⟩ (by simp) rfl ?_
      skip
      refine rn_done ?_
      simp only [sRetain, e]
      obtain ⟨g1, g2⟩ := h.putOb hk hq hLq hqp h1 h2 h4 h5 (o.refs + 1) rfl
      exact ⟨rfl, L, sl, ps, g1, g2⟩
    · rw [h1] at hal; cases hal
theorem release_ok : Wp (call 16 [.ptr p 0, .int .u64 a] 0 M) (Pst L M p (.tup [.i (sRelease l a).1, .i (sRelease l a).2.1]) (sRelease l a).2.2) := by
  rw [q16 hc]; unfold s16
  refine rn_find hc h ha hl h.oks (fun e => ?_) (fun k o q e hk hal hq => ?_)
  · repeat (first | (with_reducible (first | refine rn_if_t ?_ | refine rn_ext0 ?_ | refine rn_ext1 ?_)) | ((with_reducible refine rn_neq_t ?_ ?_); focus omega))
    refine rn_done ?_
    simp only [sRelease, e]
    exact Pst.same h rfl (Nat.le_refl _)
  · obtain ⟨q', sid, hq', hql, _, _, _, hLq, hio, hqp⟩ := h.at hk
    rw [hq] at hq'; injection hq' with hq'; subst hq'
    have hro := hr o (List.mem_of_getElem? hk)
    rcases hio with ⟨h1, h2, mid, es, h3, h4, h5⟩ | ⟨h1, _⟩
    · by_cases h0 : o.refs = 0
      · repeat (first | ((with_reducible apply rn_ld (ok_top.2 hql) h3); focus exact rfl) | (with_reducible (first | refine rn_if_t ?_ | refine rn_if_f ?_ | refine rn_ext0 ?_ | refine rn_ext1 ?_ | refine rn_nilc ?_ | refine rn_fad ?_)) | ((with_reducible refine rn_eql_t ?_ ?_); focus omega) | ((with_reducible refine rn_neq_f ?_ ?_); focus omega))
        refine rn_done ?_
        simp only [sRelease, e, h0, if_true]
        exact Pst.same h rfl (Nat.le_refl _)
      · repeat (first | ((with_reducible apply rn_ld (ok_top.2 hql) h3); focus exact rfl) | (with_reducible (first | refine rn_if_f ?_ | refine rn_ext0 ?_ | refine rn_ext1 ?_ | refine rn_nilc ?_ | refine rn_fad ?_)) | ((with_reducible refine rn_sub64 ?_ ?_); focus omega) | ((with_reducible refine rn_eql_f ?_ ?_); focus omega) | ((with_reducible refine rn_neq_f ?_ ?_); focus omega))
        refine rn_st1 rfl (ok_top.2 hql) h3 ⟨Nat.zero_le _, rfl, rfl⟩ (by simp) rfl ?_
        repeat (first | (with_reducible (first | refine rn_nilc ?_ | refine rn_fad ?_)))
        refine rn_ld (ok_top.2 hql) (put_same _ _ _) rfl ?_
        refine rn_done ?_
        simp only [sRelease, e, h0, if_false]
        obtain ⟨g1, g2⟩ := h.putOb hk hq hLq hqp h1 h2 h4 h5 (o.refs - 1) rfl
        have e2 : (o.refs : Int) - 1 = ((o.refs - 1 : Nat) : Int) := by omega
        rw [← e2] at g1 g2 ⊢
        exact ⟨rfl, L, sl, ps, g1, g2⟩
    · rw [h1] at hal; cases hal
theorem free_ok : Wp (call 18 [.ptr p 0, .int .u64 a] 0 M) (Pst L M p (.i (sFree l a).1) (sFree l a).2) := by
  rw [q18 hc]; unfold s18
  refine rn_find hc h ha hl h.oks (fun e => ?_) (fun k o q e hk hal hq => ?_)
  · repeat (first | (with_reducible (first | refine rn_if_t ?_ | refine rn_ext0 ?_ | refine rn_ext1 ?_)) | ((with_reducible refine rn_neq_t ?_ ?_); focus omega))
    refine rn_done ?_
    simp only [sFree, e]
    exact Pst.same h rfl (Nat.le_refl _)
  · obtain ⟨q', sid, hq', hql, _, _, _, hLq, hio, hqp⟩ := h.at hk
    rw [hq] at hq'; injection hq' with hq'; subst hq'
    have hro := hr o (List.mem_of_getElem? hk)
    have hp := h.plt
    have hrt := h.root
    have hll := liveN_le l
    rcases hio with ⟨h1, h2, mid, es, h3, h4, h5⟩ | ⟨h1, _⟩
    · by_cases h0 : 0 < o.refs
      · repeat (first | ((with_reducible apply rn_ld (ok_top.2 hql) h3); focus exact rfl) | (with_reducible (first | refine rn_if_t ?_ | refine rn_if_f ?_ | refine rn_ext0 ?_ | refine rn_ext1 ?_ | refine rn_nilc ?_ | refine rn_fad ?_)) | ((with_reducible refine rn_neq_f ?_ ?_); focus omega) | ((with_reducible refine rn_gtr_t ?_ ?_); focus omega))
        refine rn_done ?_
        simp only [sFree, e, h0, if_true]
        exact Pst.same h rfl (Nat.le_refl _)
      · repeat (first | ((with_reducible apply rn_ld (ok_top.2 hql) h3); focus exact rfl) | (with_reducible (first | refine rn_if_f ?_ | refine rn_ext0 ?_ | refine rn_ext1 ?_ | refine rn_nilc ?_ | refine rn_fad ?_)) | ((with_reducible refine rn_neq_f ?_ ?_); focus omega) | ((with_reducible refine rn_gtr_f ?_ ?_); focus omega))
        refine rn_st1 rfl (ok_top.2 hql) h3 ⟨Nat.zero_le _, rfl, rfl⟩ (by simp) rfl ?_
        repeat (first | (with_reducible (first | refine rn_nilc ?_ | refine rn_fad ?_)))
        refine rn_st1 rfl (ok_top.2 hql) (put_same _ _ _) ⟨Nat.zero_le _, rfl, rfl⟩ (by simp) rfl ?_
        repeat (first | (with_reducible (first | refine rn_nilc ?_ | refine rn_fad ?_)))
        have r1 : ∀ b1 b2 : Blk, ((M.put q b1).put q b2).mem p = some (.cells 49 [sl, .i (liveN l)]) := fun b1 b2 => by rw [put_ne _ _ _ _ (Ne.symm hqp), put_ne _ _ _ _ (Ne.symm hqp)]; exact hrt
        refine rn_ld (ok_top.2 hp) (r1 _ _) rfl ?_
        repeat (first | (with_reducible (first | refine rn_nilc ?_ | refine rn_fad ?_)) | ((with_reducible refine rn_sub64 ?_ ?_); focus omega))
        refine rn_st1 rfl (ok_top.2 hp) (r1 _ _) ⟨Nat.zero_le _, rfl, rfl⟩ (by simp) rfl ?_
        skip
        refine rn_done ?_
        simp only [sFree, e, h0, if_false]
        have hlv := liveN_set l k o { o with alive := false } hk
        simp only [h1, if_true, Bool.false_eq_true, if_false] at hlv
        have hqn := h.dom q (by rw [hLq]; simp)
        generalize hM' : MM.put _ p _ = M'
        have m1 : M'.mem p = some (.cells 49 [sl, .i ((liveN l : Int) - 1)]) := by subst hM'; exact put_same _ _ _
        have m2 : M'.mem q = some (.cells 60 [.bool false, .i o.size, .i o.count, .i o.refs, .d (.v (.map none))]) := by subst hM'; rw [put_ne _ _ _ _ hqp]; exact put_same _ _ _
        have m3 : ∀ id, id ≠ p → id ≠ q → M'.mem id = M.mem id := fun id i1 i2 => by subst hM'; rw [put_ne _ _ _ _ i1, put_ne _ _ _ _ i2, put_ne _ _ _ _ i2]
        have m4 : M'.nx = M.nx := by subst hM'; rfl
        clear hM'
        have e2 : (liveN l : Int) - 1 = (liveN (l.set k { o with alive := false }) : Int) := by omega
        rw [e2] at m1
        refine ⟨rfl, L, sl, ps, h.upd hk hq (Nat.le_of_eq m4.symm) (fun id hid => ⟨by rw [show (AV.i 0, M').snd.nx = M.nx from m4]; exact (h.dom id hid).1, ?_⟩) m1 h.rl (fun id t ht hi => ⟨ht, fun i1 => m3 id i1 fun i2 => ?_⟩) hLq (.inr ⟨rfl, _, _, _, _, m2, .inl rfl⟩), ⟨Nat.le_of_eq m4.symm, fun id h => .inl h, fun id _ hid => m3 id (fun i1 => ?_) (fun i2 => ?_)⟩⟩
        · by_cases i1 : id = p
          · rw [i1, m1]; simp
          · by_cases i2 : id = q
            · rw [i2, m2]; simp
            · rw [m3 id i1 i2]; exact (h.dom id hid).2
        · rw [i2, hLq] at ht; injection ht with ht; subst ht; exact hi rfl
        · rw [i1, h.rl] at hid; cases hid
        · rw [i2, hLq] at hid; cases hid
    · rw [h1] at hal; cases hal
omit hr
theorem size_ok (lo : Nat) : Wp (call 20 [.ptr p 0, .int .u64 a] lo M) fun x => x.1 = .tup [.i (sSize l a).1, .i (sSize l a).2.1, .i (sSize l a).2.2] := by
  rw [q20 hc]; unfold s20
  refine rn_find hc h ha hl h.oks (fun e => ?_) (fun k o q e hk hal hq => ?_)
  · repeat (first | (with_reducible (first | refine rn_if_t ?_ | refine rn_ext0 ?_ | refine rn_ext1 ?_)) | ((with_reducible refine rn_neq_t ?_ ?_); focus omega))
    refine rn_done ?_
    simp only [sSize, e]
  · obtain ⟨q', sid, hq', hql, _, _, _, hLq, hio, hqp⟩ := h.at hk
    rw [hq] at hq'; injection hq' with hq'; subst hq'
    rcases hio with ⟨h1, h2, mid, es, h3, h4, h5⟩ | ⟨h1, _⟩
    · repeat (first | (with_reducible (first | refine rn_if_f ?_ | refine rn_ext0 ?_ | refine rn_ext1 ?_)) | ((with_reducible refine rn_neq_f ?_ ?_); focus omega))
      refine rn_bumpk ?_
      repeat (first | ((with_reducible apply rn_ld); (focus exact ok_lt hql); (focus exact h3); (focus exact rfl)) | (with_reducible (first | refine rn_nilc ?_ | refine rn_fad ?_)))
      refine rn_done ?_
      simp only [sSize, e]
    · rw [h1] at hal; cases hal
theorem refs_ok (lo : Nat) : Wp (call 22 [.ptr p 0, .int .u64 a] lo M) fun x => x.1 = .tup [.i (sRefs l a).1, .i (sRefs l a).2] := by
  rw [q22 hc]; unfold s22
  refine rn_find hc h ha hl h.oks (fun e => ?_) (fun k o q e hk hal hq => ?_)
  · repeat (first | (with_reducible (first | refine rn_if_t ?_ | refine rn_ext0 ?_ | refine rn_ext1 ?_)) | ((with_reducible refine rn_neq_t ?_ ?_); focus omega))
    refine rn_done ?_
    simp only [sRefs, e]
  · obtain ⟨q', sid, hq', hql, _, _, _, hLq, hio, hqp⟩ := h.at hk
    rw [hq] at hq'; injection hq' with hq'; subst hq'
    rcases hio with ⟨h1, h2, mid, es, h3, h4, h5⟩ | ⟨h1, _⟩
    · repeat (first | ((with_reducible apply rn_ld (ok_top.2 hql) h3); focus exact rfl) | (with_reducible (first | refine rn_if_f ?_ | refine rn_ext0 ?_ | refine rn_ext1 ?_ | refine rn_nilc ?_ | refine rn_fad ?_)) | ((with_reducible refine rn_neq_f ?_ ?_); focus omega))
      refine rn_done ?_
      simp only [sRefs, e]
    · rw [h1] at hal; cases hal
omit ha hl
theorem live_ok (lo : Nat) : Wp (call 27 [.ptr p 0] lo M) fun x => x.1 = .i (liveN l) := by
  rw [q27 hc]; unfold s27
  repeat (first | ((with_reducible apply rn_ld (ok_top.2 h.plt) h.root); focus exact rfl) | (with_reducible (first | refine rn_nilc ?_ | refine rn_fad ?_)))
  exact rn_done rfl
end
end Go.Proofs.Ytegkhdflmboljaa.Sx
