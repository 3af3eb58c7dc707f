/- TYPES: the law TypetermMatches on the abstract machine. -/
import Derived.Test.YtcoagkfjdpdohaaTyPMa
import Derived.Test.YtcoagkfjdpdohaaTyQMa
import Derived.Test.YtcoagkfjdpdohaaTyMMa
namespace Go.Proofs.Ytcoagkfjdpdohaa.Sx
open Go
set_option maxRecDepth 1000000
set_option linter.unusedSimpArgs false
set_option linter.unusedVariables false

/-! ### Matching and replacing -/
theorem look_place {α : Type} (s : ByteArray) : ∀ (ns : List ByteArray) (xs : List α), ns.length = xs.length → look? ns xs s = (placeN ns s).bind (xs[·]?)
  | [], [], _ => rfl
  | n :: ns, x :: xs, h => by
    simp only [look?, placeN]
    split
    · rfl
    · rw [look_place s ns xs (by simpa using h)]
      cases placeN ns s with
      | none => rfl
      | some k => simp
  | [], _ :: _, h => by simp at h
  | _ :: _, [], h => by simp at h
theorem here_place {α : Type} {ns : List ByteArray} {xs : List α} (h : ns.length = xs.length) (n : ByteArray) (l : List Ty) : here ns xs n l = (place ns n l).bind (xs[·]?) := by
  unfold here place
  split
  · exact look_place n ns xs h
  · rfl
/-- What was found is of bs. -/
def Sub (fs : List (Option Ty)) (bs : List Ty) : Prop := ∀ (i : Nat) (u : Ty), fs[i]? = some (some u) → bs[i]? = some u
mutual
theorem matchT_mono (ns : List ByteArray) : ∀ (p t : Ty) (fs fs' : List (Option Ty)), matchT ns p t fs = some fs' → ∀ (i : Nat) (u : Ty), fs[i]? = some (some u) → fs'[i]? = some (some u)
  | .mk n l, t, fs, fs', h, i, u, hi => by
    rw [matchT] at h
    split at h
    · rename_i k hk
      split at h
      · rename_i hn
        cases h
        rw [List.getElem?_set]
        by_cases e : k = i
        · subst e; rw [hi] at hn; cases hn
        · rw [if_neg e]; exact hi
      · split at h
        · cases h; exact hi
        · cases h
    · split at h
      · exact matchTs_mono ns l t.args fs fs' h i u hi
      · cases h
theorem matchTs_mono (ns : List ByteArray) : ∀ (l k : List Ty) (fs fs' : List (Option Ty)), matchTs ns l k fs = some fs' → ∀ (i : Nat) (u : Ty), fs[i]? = some (some u) → fs'[i]? = some (some u)
  | p :: l, t :: k, fs, fs', h, i, u, hi => by
    rw [matchTs] at h
    split at h
    · rename_i f1 h1
      exact matchTs_mono ns l k f1 fs' h i u (matchT_mono ns p t fs f1 h1 i u hi)
    · cases h
  | [], _, fs, fs', h, i, u, hi => by rw [matchTs] at h; cases h; exact hi
  | _ :: _, [], fs, fs', h, i, u, hi => by rw [matchTs] at h; cases h; exact hi
end
mutual
/-- Replacing what was found gives the type. -/
theorem match_put (ns : List ByteArray) (bs : List Ty) (hb : ns.length = bs.length) : ∀ (p t : Ty) (fs fs' : List (Option Ty)), matchT ns p t fs = some fs' → fs.length = ns.length → Sub fs' bs → putT ns bs p = t
  | .mk n l, t, fs, fs', h, hl, hs => by
    rw [matchT] at h
    rw [putT, here_place hb]
    cases hk : place ns n l with
    | some k =>
      have hkl := place_lt hk
      rw [hk] at h
      simp only at h
      have main : bs[k]? = some t := by
        split at h
        · cases h
          exact hs k t (by rw [List.getElem?_set_self (by omega)])
        · rename_i u hu
          split at h
          · rename_i hsame
            cases h
            rw [(u.same_iff t).1 hsame] at hu
            refine hs k t ?_
            cases hfk : fs[k]? with
            | none => rw [hfk] at hu; cases hu
            | some o => rw [hfk] at hu; rw [show o = some t from hu]
          · cases h
      simp only [Option.bind_some, main]
    | none =>
      rw [hk] at h
      simp only at h
      split at h
      · rename_i hh
        simp only [Option.bind_none]
        rw [matchs_put ns bs hb l t.args fs fs' h hl hs hh.2, hh.1]
        cases t; rfl
      · cases h
theorem matchs_put (ns : List ByteArray) (bs : List Ty) (hb : ns.length = bs.length) : ∀ (l k : List Ty) (fs fs' : List (Option Ty)), matchTs ns l k fs = some fs' → fs.length = ns.length → Sub fs' bs → l.length = k.length → putTs ns bs l = k
  | p :: l, t :: k, fs, fs', h, hl, hs, hlk => by
    rw [matchTs] at h
    split at h
    · rename_i f1 h1
      have e1 := match_put ns bs hb p t fs f1 h1 hl (fun i u hu => hs i u (matchTs_mono ns l k f1 fs' h i u hu))
      have e2 := matchs_put ns bs hb l k f1 fs' h (by rw [matchT_len ns p t fs f1 h1]; exact hl) hs (by simpa using hlk)
      rw [putTs, e1, e2]
    · cases h
  | [], [], _, _, _, _, _, _ => rfl
  | [], _ :: _, _, _, _, _, _, h => by simp at h
  | _ :: _, [], _, _, _, _, _, h => by simp at h
end
mutual
theorem match_size (ns : List ByteArray) (B : Nat) : ∀ (p t : Ty) (fs fs' : List (Option Ty)), matchT ns p t fs = some fs' → t.size ≤ B → (∀ u, some u ∈ fs → u.size ≤ B) → ∀ u, some u ∈ fs' → u.size ≤ B
  | .mk n l, t, fs, fs', h, ht, hf, u, hu => by
    rw [matchT] at h
    split at h
    · split at h
      · cases h
        rcases List.mem_or_eq_of_mem_set hu with h1 | h1
        · exact hf u h1
        · cases h1; exact ht
      · split at h
        · cases h; exact hf u hu
        · cases h
    · split at h
      · exact matchs_size ns B l t.args fs fs' h (fun x hx => by have := size_mem hx; have := t.size_eq; omega) hf u hu
      · cases h
theorem matchs_size (ns : List ByteArray) (B : Nat) : ∀ (l k : List Ty) (fs fs' : List (Option Ty)), matchTs ns l k fs = some fs' → (∀ t ∈ k, t.size ≤ B) → (∀ u, some u ∈ fs → u.size ≤ B) → ∀ u, some u ∈ fs' → u.size ≤ B
  | p :: l, t :: k, fs, fs', h, ht, hf, u, hu => by
    rw [matchTs] at h
    split at h
    · rename_i f1 h1
      exact matchs_size ns B l k f1 fs' h (fun x hx => ht x (by simp [hx])) (fun v hv => match_size ns B p t fs f1 h1 (ht t (by simp)) hf v hv) u hu
    · cases h
  | [], _, fs, fs', h, _, hf, u, hu => by rw [matchTs] at h; cases h; exact hf u hu
  | _ :: _, [], fs, fs', h, _, hf, u, hu => by rw [matchTs] at h; cases h; exact hf u hu
end
theorem allSome_eq : ∀ {fs : List (Option Ty)} {us : List Ty}, allSome fs = some us → fs = us.map some
  | [], us, h => by rw [allSome] at h; cases h; rfl
  | some u :: r, us, h => by
    rw [allSome] at h
    obtain ⟨us', h1, rfl⟩ := Option.map_eq_some_iff.1 h
    rw [allSome_eq h1]; rfl
  | none :: r, us, h => by rw [allSome] at h; cases h
theorem allSome_map : ∀ us : List Ty, allSome (us.map some) = some us
  | [] => rfl
  | u :: r => by rw [List.map_cons, allSome, allSome_map r]; rfl
/-- What Match returns, put in, gives the type. -/
theorem matchAll_put {ns : List ByteArray} {p t : Ty} {us : List Ty} (h : matchAll ns p t = some us) : twice ns = false ∧ ns.length = us.length ∧ putT ns us p = t ∧ ∀ u ∈ us, u.size ≤ t.size := by
  unfold matchAll at h
  split at h
  · cases h
  · rename_i htw
    split at h
    · cases h
    · rename_i fs hm
      have e := allSome_eq h
      have hl := matchT_len ns p t _ fs hm
      rw [List.length_replicate] at hl
      have hl2 : ns.length = us.length := by rw [← hl, e, List.length_map]
      refine ⟨by simpa using htw, hl2, match_put ns us hl2 p t _ fs hm (by simp) ?_, fun u hu => ?_⟩
      · intro i u hi
        rw [e, List.getElem?_map] at hi
        cases hh : us[i]? with
        | none => rw [hh] at hi; cases hi
        | some v => rw [hh] at hi; cases hi; rfl
      · refine match_size ns t.size p t _ fs hm (Nat.le_refl _) (fun u hu => ?_) u (by rw [e]; exact List.mem_map.2 ⟨u, hu, rfl⟩)
        have := List.eq_of_mem_replicate hu
        cases this

/-! ### A pattern fits what was put in -/
theorem placeN_nodup : ∀ {ns : List ByteArray} {k : Nat} {n : ByteArray}, ns.Nodup → ns[k]? = some n → placeN ns n = some k
  | [], k, n, _, h => by simp at h
  | m :: ns, 0, n, _, h => by
    have h : m = n := by simpa using h
    rw [placeN, if_pos h]
  | m :: ns, k + 1, n, hd, h => by
    rw [List.nodup_cons] at hd
    have h : ns[k]? = some n := by simpa using h
    rw [placeN, if_neg (fun e => hd.1 (by rw [e]; exact List.mem_of_getElem? h)), placeN_nodup hd.2 h]; rfl
theorem twice_nodup : ∀ (s d : List ByteArray), (d ++ s).Nodup → twiceF d s = false
  | [], d, _ => rfl
  | x :: s, d, h => by
    have h1 : hasS d x = false := by
      rw [Bool.eq_false_iff]
      intro hh
      rw [List.nodup_append] at h
      exact h.2.2 x ((hasS_mem x d).1 hh) x (by simp) rfl
    rw [twiceF, h1, Bool.false_or]
    exact twice_nodup s (d ++ [x]) (by simpa using h)
mutual
def Ty.leaves : Ty → List ByteArray
  | .mk n l => if l.isEmpty then [n] else leavess l
def leavess : List Ty → List ByteArray
  | [] => []
  | t :: r => t.leaves ++ leavess r
end
mutual
/-- No name of a parameter has arguments. -/
def Ty.flat : Ty → Bool
  | .mk n l => (l.isEmpty || !param n) && flats l
def flats : List Ty → Bool
  | [] => true
  | t :: r => t.flat && flats r
end
mutual
theorem coll_leaf : ∀ (t : Ty) (out : List ByteArray), t.flat = true → ∀ n, n ∈ t.coll out → n ∈ out ∨ n ∈ t.leaves
  | .mk m l, out, hf, n, h => by
    rw [Ty.flat, Bool.and_eq_true] at hf
    rw [Ty.coll] at h
    rcases colls_leaf l (addP m out) hf.2 n h with h1 | h1
    · unfold addP at h1
      split at h1
      · rename_i hp
        rw [Bool.and_eq_true] at hp
        rw [hp.1] at hf
        rcases List.mem_append.1 h1 with h2 | h2
        · exact .inl h2
        · refine .inr ?_
          have e : l.isEmpty = true := by simpa using hf.1
          rw [Ty.leaves, if_pos e]; exact h2
      · exact .inl h1
    · refine .inr ?_
      rw [Ty.leaves]
      split
      · rename_i he
        have : l = [] := by simpa using he
        subst this
        simp [leavess] at h1
      · exact h1
theorem colls_leaf : ∀ (l : List Ty) (out : List ByteArray), flats l = true → ∀ n, n ∈ colls l out → n ∈ out ∨ n ∈ leavess l
  | [], out, _, n, h => .inl h
  | t :: r, out, hf, n, h => by
    rw [flats, Bool.and_eq_true] at hf
    rw [colls] at h
    rw [leavess, List.mem_append]
    rcases colls_leaf r (t.coll out) hf.2 n h with h1 | h1
    · rcases coll_leaf t out hf.1 n h1 with h2 | h2
      · exact .inl h2
      · exact .inr (.inl h2)
    · exact .inr (.inr h1)
end
theorem addP_nodup {n : ByteArray} {out : List ByteArray} (h : out.Nodup) : (addP n out).Nodup := by
  unfold addP
  split
  · rename_i hp
    rw [Bool.and_eq_true] at hp
    rw [List.nodup_append]
    refine ⟨h, by simp, fun a ha b hb e => ?_⟩
    have hb : b = n := by simpa using hb
    subst e
    rw [hb] at ha
    have := (hasS_mem n out).2 ha
    rw [this] at hp
    simp at hp
  · exact h
mutual
theorem coll_nodup : ∀ (t : Ty) (out : List ByteArray), out.Nodup → (t.coll out).Nodup
  | .mk m l, out, h => by rw [Ty.coll]; exact colls_nodup l _ (addP_nodup h)
theorem colls_nodup : ∀ (l : List Ty) (out : List ByteArray), out.Nodup → (colls l out).Nodup
  | [], out, h => h
  | t :: r, out, h => by rw [colls]; exact colls_nodup r _ (coll_nodup t out h)
end
theorem Sub.set {fs : List (Option Ty)} {bs : List Ty} {k : Nat} {t : Ty} (h : Sub fs bs) (hk : bs[k]? = some t) (hl : fs.length = bs.length) : Sub (fs.set k (some t)) bs := by
  intro i u hi
  rw [List.getElem?_set] at hi
  by_cases e : k = i
  · subst e
    rw [if_pos rfl] at hi
    split at hi
    · cases hi; exact hk
    · cases hi
  · rw [if_neg e] at hi; exact h i u hi
mutual
theorem put_match (ns : List ByteArray) (bs : List Ty) (hb : ns.length = bs.length) : ∀ (p : Ty) (fs : List (Option Ty)), fs.length = ns.length → Sub fs bs →
    ∃ fs', matchT ns p (putT ns bs p) fs = some fs' ∧ Sub fs' bs ∧ ∀ n ∈ p.leaves, ∀ k, placeN ns n = some k → ∃ u, fs'[k]? = some (some u)
  | .mk n l, fs, hl, hs => by
    rw [putT, here_place hb, matchT]
    cases hk : place ns n l with
    | some k =>
      have hkl := place_lt hk
      have hkb : k < bs.length := by omega
      have hle : l.isEmpty = true ∧ placeN ns n = some k := by
        unfold place at hk
        split at hk
        · rename_i he; exact ⟨he, hk⟩
        · cases hk
      simp only [Option.bind_some, List.getElem?_eq_getElem hkb]
      have hbk : bs[k]? = some bs[k] := List.getElem?_eq_getElem hkb
      have leaf : ∀ m ∈ (Ty.mk n l).leaves, m = n := fun m hm => by
        rw [Ty.leaves, if_pos hle.1] at hm; simpa using hm
      rw [List.getElem?_eq_getElem (show k < fs.length by omega), Option.getD_some]
      cases hfk : fs[k]'(by omega) with
      | none =>
        refine ⟨_, rfl, hs.set hbk (by omega), fun m hm j hj => ?_⟩
        rw [leaf m hm, hle.2] at hj
        cases hj
        exact ⟨bs[k], List.getElem?_set_self (by omega)⟩
      | some u =>
        have hfu : fs[k]? = some (some u) := by rw [List.getElem?_eq_getElem (show k < fs.length by omega), hfk]
        have hu := hs k u hfu
        rw [hbk] at hu
        injection hu with hu
        simp only
        rw [if_pos ((u.same_iff _).2 hu.symm)]
        refine ⟨_, rfl, hs, fun m hm j hj => ?_⟩
        rw [leaf m hm, hle.2] at hj
        cases hj
        exact ⟨u, hfu⟩
    | none =>
      simp only [Option.bind_none, Ty.name, Ty.args]
      obtain ⟨fs', h1, h2, h3⟩ := puts_match ns bs hb l fs hl hs
      have hll : l.length = (putTs ns bs l).length := by
        clear h1 h3
        induction l with
        | nil => rfl
        | cons x r ih => rw [putTs, List.length_cons, List.length_cons, putTs_len]
      rw [if_pos ⟨trivial, hll⟩]
      refine ⟨fs', h1, h2, fun m hm j hj => ?_⟩
      rw [Ty.leaves] at hm
      split at hm
      · rename_i he
        have hm : m = n := by simpa using hm
        subst hm
        unfold place at hk
        rw [if_pos he, hj] at hk
        cases hk
      · exact h3 m hm j hj
theorem puts_match (ns : List ByteArray) (bs : List Ty) (hb : ns.length = bs.length) : ∀ (l : List Ty) (fs : List (Option Ty)), fs.length = ns.length → Sub fs bs →
    ∃ fs', matchTs ns l (putTs ns bs l) fs = some fs' ∧ Sub fs' bs ∧ ∀ n ∈ leavess l, ∀ k, placeN ns n = some k → ∃ u, fs'[k]? = some (some u)
  | [], fs, hl, hs => ⟨fs, by rw [matchTs], hs, fun n hn => by simp [leavess] at hn⟩
  | p :: l, fs, hl, hs => by
    obtain ⟨f1, h1, h2, h3⟩ := put_match ns bs hb p fs hl hs
    obtain ⟨f2, g1, g2, g3⟩ := puts_match ns bs hb l f1 (by rw [matchT_len ns p _ fs f1 h1]; exact hl) h2
    refine ⟨f2, by rw [putTs, matchTs, h1]; exact g1, g2, fun n hn k hk => ?_⟩
    rw [leavess, List.mem_append] at hn
    rcases hn with hn | hn
    · obtain ⟨u, hu⟩ := h3 n hn k hk
      exact ⟨u, matchTs_mono ns l _ f1 f2 g1 k u hu⟩
    · exact g3 n hn k hk
theorem putTs_len (ns : List ByteArray) (bs : List Ty) : ∀ l : List Ty, (putTs ns bs l).length = l.length
  | [] => rfl
  | t :: r => by rw [putTs, List.length_cons, List.length_cons, putTs_len ns bs r]
end
theorem match_params (p : Ty) (bs : List Ty) (hf : p.flat = true) (hb : (p.coll []).length = bs.length) : matchAll (p.coll []) p (putT (p.coll []) bs p) = some bs := by
  have hnd := coll_nodup p [] List.nodup_nil
  obtain ⟨fs, h1, h2, h3⟩ := put_match (p.coll []) bs hb p (List.replicate (p.coll []).length none) (by simp) (fun i u hi => by
    rw [List.getElem?_replicate] at hi
    split at hi
    · cases hi
    · cases hi)
  have hl := matchT_len _ _ _ _ fs h1
  rw [List.length_replicate] at hl
  unfold matchAll
  rw [if_neg (by rw [show twice (p.coll []) = false from twice_nodup _ [] hnd]; simp), h1]
  simp only
  have e : fs = bs.map some := by
    apply List.ext_getElem? 
    intro i
    rw [List.getElem?_map]
    rcases Nat.lt_or_ge i fs.length with hi | hi
    · have hip : i < (p.coll []).length := by omega
      have hn : (p.coll [])[i]? = some (p.coll [])[i] := List.getElem?_eq_getElem hip
      have hm : (p.coll [])[i] ∈ p.leaves := by
        rcases coll_leaf p [] hf _ (List.getElem_mem hip) with h | h
        · cases h
        · exact h
      obtain ⟨u, hu⟩ := h3 _ hm i (placeN_nodup hnd hn)
      rw [hu, h2 i u hu]; rfl
    · rw [List.getElem?_eq_none hi, List.getElem?_eq_none (by omega)]; rfl
  rw [e, allSome_map]

theorem nm_noparam : ∀ i, i < 9 → 5 ≤ i → param (nmAt i) = false := by decide
theorem opens_flat {f : List Int → Ty × List Int} (h : ∀ r, (f r).1.flat = true) : ∀ (n : Nat) (r : List Int), flats (opens f n r).1 = true
  | 0, _ => rfl
  | n + 1, r => by simp only [opens, flats, h r, opens_flat h n, Bool.and_self]
theorem flat_mk {n : ByteArray} {l : List Ty} (hn : l.isEmpty = true ∨ param n = false) (hl : flats l = true) : (Ty.mk n l).flat = true := by
  rw [Ty.flat, hl, Bool.and_true, Bool.or_eq_true]
  rcases hn with h | h
  · exact .inl h
  · exact .inr (by rw [h]; rfl)
theorem openT_flat : ∀ (k : Nat) (r : List Int), (openT k r).1.flat = true := by
  intro k
  induction k with
  | zero =>
    intro r
    rw [openT]
    split <;> exact flat_mk (.inl rfl) rfl
  | succ k ih =>
    intro r
    obtain ⟨i, e, hi⟩ := nextI_lt 9 (by decide) r
    rw [openT]
    split
    · exact flat_mk (.inr (nm_noparam 5 (by decide) (by decide))) (opens_flat ih _ _)
    · split
      · rename_i h2
        rw [e] at h2 ⊢
        rw [Int.toNat_natCast]; exact flat_mk (.inr (nm_noparam i (by omega) (by omega))) (opens_flat ih _ _)
      · exact flat_mk (.inl rfl) rfl

theorem fz_S (l : List ByteArray) (m : Mem) : freeze m 0 (avS l) = some (avS l) := rfl
section
variable {call : CallT} (hc : Lim G call)
include hc

theorem matches_run (l : List Int) (M : MM) : Wp (call 6 [avZ l] 0 M) (Av (.bool true)) := by
  obtain ⟨nl, hG, hN⟩ : ∃ nl, G.nl = nl ∧ nl = 18446744073709551616 := ⟨_, rfl, rfl⟩
  rw [q6 hc, hG]
  clear hG
  have hclZ : ∀ y ∈ [avZ l], Cl y := by simp [ClZ]
  have haw : ∀ M : MM, Wp (opt (puA call (lk M) 10 []) fun v19 => some (v19, M)) (Av (.bool true)) := fun M => by
    refine rn_puc (awake_pc hc) (by simp) ?_
    exact rn_av
  unfold s6
  refine rn_pcc (light_cc hc l) (fz_b _) hclZ ?_
  refine rn_not ?_
  refine rn_ifb (fun _ => haw _) (fun hle => ?_)
  have hl : l.length ≤ 1000000000000 := by
    have : l.length ≤ 700 := by simpa using hle
    omega
  refine rn_wp (roll_d hc l hl 0 M) fun v M1 hh => ?_
  obtain ⟨e1, h1, _⟩ := hh
  simp only at e1 h1
  subst e1
  generalize M.nx = id at h1
  clear hclZ
  refine rn_open hc 4 rfl (by decide) h1 (fun M2 h2 _ => ?_)
  refine rn_open hc 4 rfl (by decide) h2 (fun M3 h3 _ => ?_)
  have s0 := openT_size4 l
  have s1 := openT_size4 (openT 4 l).2
  have hfl := openT_flat 4 l
  generalize (openT 4 (openT 4 l).2).2 = r at h3
  generalize (openT 4 (openT 4 l).2).1 = t at s1
  generalize (openT 4 l).1 = p at s0 hfl
  clear h1 h2
  have hns := p.coll_len []
  simp only [List.length_nil, Nat.zero_add] at hns
  generalize hn : p.coll [] = ns at hns
  have hnd : ns.Nodup := by rw [← hn]; exact coll_nodup p [] List.nodup_nil
  have htw : twice ns = false := twice_nodup ns [] hnd
  have hpar := Params_cc hc p (by omega)
  rw [hn] at hpar
  have hm1 := Match_pc hc ns p t (by omega) (by omega) (by omega)
  have c1 : ∀ v ∈ [avT p, avT t, avS ns], Cl v := by simp [ClT, ClS]
  -- the last part: what was put in is matched
  have last : ∀ (bs : List Ty) (M : MM), bs.length = ns.length → (∀ x ∈ bs, x.size ≤ 22) → Wp (b6_8 call nl 0 (avT p) (avS ns) (avTs bs) M) (Av (.bool true)) := by
    intro bs M hbl hbs
    have p1 := subst_ok hc ns bs p hbl.symm htw (by omega) 22 (by decide) hbs (by omega)
    have hsz := putT_size ns bs 22 (by decide) hbs p
    have hm := match_params p bs hfl (by rw [hn]; exact hbl.symm)
    rw [hn] at hm
    have hm2 := Match_pc hc ns p (putT ns bs p) (by omega) (by omega) (by omega)
    rw [hm] at hm2
    have hm2 : PC call 22 [avT p, avT (putT ns bs p), avS ns] (.tup [avTs bs, .bool true]) := hm2
    have c2 : ∀ v ∈ [avT p, avS ns, avTs bs], Cl v := by simp [ClT, ClS, ClTs]
    have c3 : ∀ v ∈ [avT p, avT (putT ns bs p), avS ns], Cl v := by simp [ClT, ClS, ClTs]
    have cmp : ∀ (s : List Ty) (i f : Nat) (M : MM), bs.drop i = s → s.length < f → Wp (b6_15 call nl 0 f (avTs bs) (avTs bs) (.i (bs.length : Nat)) (.i (i : Int)) M) (Av (.bool true)) := by
      intro s
      induction s with
      | nil =>
        intro i f M hd hf
        obtain ⟨f, rfl⟩ : ∃ k, f = k + 1 := ⟨f - 1, by simp only [List.length_nil] at hf; omega⟩
        have := drop_nil hd
        unfold b6_15
        refine rn_lss_f (by omega) (rn_if_f ?_)
        exact haw _
      | cons u s ih =>
        intro i f M hd hf
        simp only [List.length_cons] at hf
        obtain ⟨f, rfl⟩ : ∃ k, f = k + 1 := ⟨f - 1, by omega⟩
        obtain ⟨hi, hd'⟩ := drop_cons hd
        have hu := hbs u (List.drop_subset i bs (by rw [hd]; simp))
        have q := same_cc hc _ u u (Nat.le_refl _) (by omega)
        rw [(u.same_iff u).2 rfl] at q
        unfold b6_15
        refine rn_lss_t (by omega) (rn_if_t ?_)
        repeat (first | (with_reducible (first | refine rn_bumpk ?_ | refine rn_ldT ?_ | refine rn_ixD hd ?_ | refine rn_pcc q (fz_b _) (ClT2 _ _) ?_ | refine rn_if_f ?_ | refine rn_not_t ?_)) | ((with_reducible refine rn_add64 ?_ ?_); focus omega))
        exact ih (i + 1) f _ hd' (by omega)
    refine rn_allT ?_
    refine rn_puc p1 c2 ?_
    repeat (first | (with_reducible (first | refine rn_upk ?_ | refine rn_lenT ?_ | refine rn_setT ?_ | refine rn_allT ?_ | refine rn_puc hm2 c3 ?_ | refine rn_some ?_ | refine rn_if_f ?_ | refine rn_gp_ff ?_ | refine rn_pf ?_ | refine rn_not_t ?_ | refine rn_ext0 ?_ | refine rn_ext1 ?_)) | ((with_reducible refine rn_neq_f ?_ ?_); focus omega))
    exact cmp bs 0 nl _ rfl (by omega)
  have gen : ∀ (m i f : Nat) (d : List Ty) (r : List Int) (M : MM), i + m = ns.length → m < f → DI M id r → d.length = i → (∀ x ∈ d, x.size ≤ 22) →
      Wp (b6_21 call nl 0 f (.ptr id 0) (avT p) (avS ns) (avTs d) (.i (ns.length : Nat)) (.i (i : Int)) M) (Av (.bool true)) := by
    intro m
    induction m with
    | zero =>
      intro i f d r M hi hf hd hdl hds
      obtain ⟨f, rfl⟩ : ∃ k, f = k + 1 := ⟨f - 1, by omega⟩
      unfold b6_21
      refine rn_lss_f (by omega) (rn_if_f ?_)
      exact last d M (by omega) hds
    | succ m ih =>
      intro i f d r M hi hf hd hdl hds
      obtain ⟨f, rfl⟩ : ∃ k, f = k + 1 := ⟨f - 1, by omega⟩
      have hbb : (d.length + 1) * 40 ≤ 140737488355328 ∧ d.length + 1 ≤ 9223372036854775807 := by omega
      unfold b6_21
      refine rn_lss_t (by omega) (rn_if_t ?_)
      refine rn_open hc 3 rfl (by decide) hd (fun M2 h2 _ => ?_)
      have hsz := openT_size3 r
      repeat (first | (with_reducible (first | refine rn_upk ?_ | refine rn_wslT1 ?_ | refine rn_appT1 hbb ?_)) | ((with_reducible refine rn_add64 ?_ ?_); focus omega))
      exact ih (i + 1) f (d ++ [(openT 3 r).1]) _ _ (by omega) (by omega) h2.up.up (by simp [hdl]) (fun x hx => by
        rcases List.mem_append.1 hx with h | h
        · exact hds x h
        · rw [List.mem_singleton.1 h]; exact hsz)
  repeat (first | (with_reducible (first | refine rn_upk ?_ | refine rn_setT ?_ | refine rn_allT ?_ | refine rn_pcc hpar (fz_S _) (ClT1 _) ?_ | refine rn_puc hm1 c1 ?_ | refine rn_ext0 ?_ | refine rn_ext1 ?_)))
  cases hma : matchAll ns p t with
  | none =>
    simp only [Option.isSome_none]
    refine rn_if_f ?_
    exact gen ns.length 0 nl [] r _ (by omega) (by omega) h3.up.up rfl (by simp)
  | some us =>
    obtain ⟨_, m2, m3, m4⟩ := matchAll_put hma
    simp only [Option.isSome_some, Option.getD_some]
    refine rn_if_t ?_
    have c2 : ∀ v ∈ [avT p, avS ns, avTs us], Cl v := by simp [ClT, ClS, ClTs]
    have p1 : PC call 18 [avT p, avS ns, avTs us] (.tup [avT t, .i 0]) := by
      have h := subst_pc hc ns us p (by omega) (by omega) (fun x hx => by have := m4 x hx; omega) (by omega)
      rw [substT_ok m2 htw, m3, if_neg (by omega)] at h
      exact h
    have q := same_cc hc _ t t (Nat.le_refl _) (by omega)
    rw [(t.same_iff t).2 rfl] at q
    repeat (first | (with_reducible (first | refine rn_upk ?_ | refine rn_setT ?_ | refine rn_allT ?_ | refine rn_puc p1 c2 ?_ | refine rn_pcc q (fz_b _) (ClT2 _ _) ?_ | refine rn_if_f ?_ | refine rn_gp_ff ?_ | refine rn_pf ?_ | refine rn_not_t ?_ | refine rn_ext0 ?_ | refine rn_ext1 ?_ | refine rn_len_sl ?_)) | ((with_reducible refine rn_neq_f ?_ ?_); focus omega))
    exact gen ns.length 0 nl [] r _ (by omega) (by omega) h3.up.up.up rfl (by simp)
end

theorem matches_law (e0 : D) (h0 : TD Try.prog 22 [e0]) : ∃ N M', acall G N 6 [.d e0] 0 ⟨0, fun _ => none⟩ = some (.bool true, M') := by
  obtain ⟨ns, hn, hm, wn⟩ := h0.ints_inv Try.underlying22 Try.underlying3
  cases hn
  refine Lim.law fun call hc => ?_
  obtain ⟨⟨v, M'⟩, h1, h2⟩ := matches_run hc ns ⟨0, fun _ => none⟩
  have h2 : v = .bool true := h2
  subst h2
  exact ⟨M', h1⟩
end Go.Proofs.Ytcoagkfjdpdohaa.Sx
