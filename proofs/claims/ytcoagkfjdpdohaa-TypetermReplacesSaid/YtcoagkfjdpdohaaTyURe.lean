/- TYPES: matching and replacing: the plain laws. -/
import Derived.Test.YtcoagkfjdpdohaaTyPRe
import Derived.Test.YtcoagkfjdpdohaaTyQRe
import Derived.Test.YtcoagkfjdpdohaaTyMRe
namespace Go.Proofs.Ytcoagkfjdpdohaa.Sx
open Go
set_option maxRecDepth 1000000
set_option linter.unusedSimpArgs false
set_option linter.unusedVariables false

/-! ### Matching and replacing -/
theorem look_place {α : Type} (s : ByteArray) : ∀ (ns : List ByteArray) (xs : List α), ns.length = xs.length → look? ns xs s = (placeN ns s).bind (xs[·]?)
  | [], [], _ => rfl
  | n :: ns, x :: xs, h => by
    simp only [look?, placeN]
    split
    · rfl
    · rw [look_place s ns xs (by simpa using h)]
      cases placeN ns s with
      | none => rfl
      | some k => simp
  | [], _ :: _, h => by simp at h
  | _ :: _, [], h => by simp at h
theorem here_place {α : Type} {ns : List ByteArray} {xs : List α} (h : ns.length = xs.length) (n : ByteArray) (l : List Ty) : here ns xs n l = (place ns n l).bind (xs[·]?) := by
  unfold here place
  split
  · exact look_place n ns xs h
  · rfl
/-- What was found is of bs. -/
def Sub (fs : List (Option Ty)) (bs : List Ty) : Prop := ∀ (i : Nat) (u : Ty), fs[i]? = some (some u) → bs[i]? = some u
mutual
theorem matchT_mono (ns : List ByteArray) : ∀ (p t : Ty) (fs fs' : List (Option Ty)), matchT ns p t fs = some fs' → ∀ (i : Nat) (u : Ty), fs[i]? = some (some u) → fs'[i]? = some (some u)
  | .mk n l, t, fs, fs', h, i, u, hi => by
    rw [matchT] at h
    split at h
    · rename_i k hk
      split at h
      · rename_i hn
        cases h
        rw [List.getElem?_set]
        by_cases e : k = i
        · subst e; rw [hi] at hn; cases hn
        · rw [if_neg e]; exact hi
      · split at h
        · cases h; exact hi
        · cases h
    · split at h
      · exact matchTs_mono ns l t.args fs fs' h i u hi
      · cases h
theorem matchTs_mono (ns : List ByteArray) : ∀ (l k : List Ty) (fs fs' : List (Option Ty)), matchTs ns l k fs = some fs' → ∀ (i : Nat) (u : Ty), fs[i]? = some (some u) → fs'[i]? = some (some u)
  | p :: l, t :: k, fs, fs', h, i, u, hi => by
    rw [matchTs] at h
    split at h
    · rename_i f1 h1
      exact matchTs_mono ns l k f1 fs' h i u (matchT_mono ns p t fs f1 h1 i u hi)
    · cases h
  | [], _, fs, fs', h, i, u, hi => by rw [matchTs] at h; cases h; exact hi
  | _ :: _, [], fs, fs', h, i, u, hi => by rw [matchTs] at h; cases h; exact hi
end
mutual
/-- Replacing what was found gives the type. -/
theorem match_put (ns : List ByteArray) (bs : List Ty) (hb : ns.length = bs.length) : ∀ (p t : Ty) (fs fs' : List (Option Ty)), matchT ns p t fs = some fs' → fs.length = ns.length → Sub fs' bs → putT ns bs p = t
  | .mk n l, t, fs, fs', h, hl, hs => by
    rw [matchT] at h
    rw [putT, here_place hb]
    cases hk : place ns n l with
    | some k =>
      have hkl := place_lt hk
      rw [hk] at h
      simp only at h
      have main : bs[k]? = some t := by
        split at h
        · cases h
          exact hs k t (by rw [List.getElem?_set_self (by omega)])
        · rename_i u hu
          split at h
          · rename_i hsame
            cases h
            rw [(u.same_iff t).1 hsame] at hu
            refine hs k t ?_
            cases hfk : fs[k]? with
            | none => rw [hfk] at hu; cases hu
            | some o => rw [hfk] at hu; rw [show o = some t from hu]
          · cases h
      simp only [Option.bind_some, main]
    | none =>
      rw [hk] at h
      simp only at h
      split at h
      · rename_i hh
        simp only [Option.bind_none]
        rw [matchs_put ns bs hb l t.args fs fs' h hl hs hh.2, hh.1]
        cases t; rfl
      · cases h
theorem matchs_put (ns : List ByteArray) (bs : List Ty) (hb : ns.length = bs.length) : ∀ (l k : List Ty) (fs fs' : List (Option Ty)), matchTs ns l k fs = some fs' → fs.length = ns.length → Sub fs' bs → l.length = k.length → putTs ns bs l = k
  | p :: l, t :: k, fs, fs', h, hl, hs, hlk => by
    rw [matchTs] at h
    split at h
    · rename_i f1 h1
      have e1 := match_put ns bs hb p t fs f1 h1 hl (fun i u hu => hs i u (matchTs_mono ns l k f1 fs' h i u hu))
      have e2 := matchs_put ns bs hb l k f1 fs' h (by rw [matchT_len ns p t fs f1 h1]; exact hl) hs (by simpa using hlk)
      rw [putTs, e1, e2]
    · cases h
  | [], [], _, _, _, _, _, _ => rfl
  | [], _ :: _, _, _, _, _, _, h => by simp at h
  | _ :: _, [], _, _, _, _, _, h => by simp at h
end
mutual
theorem match_size (ns : List ByteArray) (B : Nat) : ∀ (p t : Ty) (fs fs' : List (Option Ty)), matchT ns p t fs = some fs' → t.size ≤ B → (∀ u, some u ∈ fs → u.size ≤ B) → ∀ u, some u ∈ fs' → u.size ≤ B
  | .mk n l, t, fs, fs', h, ht, hf, u, hu => by
    rw [matchT] at h
    split at h
    · split at h
      · cases h
        rcases List.mem_or_eq_of_mem_set hu with h1 | h1
        · exact hf u h1
        · cases h1; exact ht
      · split at h
        · cases h; exact hf u hu
        · cases h
    · split at h
      · exact matchs_size ns B l t.args fs fs' h (fun x hx => by have := size_mem hx; have := t.size_eq; omega) hf u hu
      · cases h
theorem matchs_size (ns : List ByteArray) (B : Nat) : ∀ (l k : List Ty) (fs fs' : List (Option Ty)), matchTs ns l k fs = some fs' → (∀ t ∈ k, t.size ≤ B) → (∀ u, some u ∈ fs → u.size ≤ B) → ∀ u, some u ∈ fs' → u.size ≤ B
  | p :: l, t :: k, fs, fs', h, ht, hf, u, hu => by
    rw [matchTs] at h
    split at h
    · rename_i f1 h1
      exact matchs_size ns B l k f1 fs' h (fun x hx => ht x (by simp [hx])) (fun v hv => match_size ns B p t fs f1 h1 (ht t (by simp)) hf v hv) u hu
    · cases h
  | [], _, fs, fs', h, _, hf, u, hu => by rw [matchTs] at h; cases h; exact hf u hu
  | _ :: _, [], fs, fs', h, _, hf, u, hu => by rw [matchTs] at h; cases h; exact hf u hu
end
theorem allSome_map : ∀ us : List Ty, allSome (us.map some) = some us
  | [] => rfl
  | u :: r => by rw [List.map_cons, allSome, allSome_map r]; rfl
/-- What Match returns, put in, gives the type. -/
theorem matchAll_put {ns : List ByteArray} {p t : Ty} {us : List Ty} (h : matchAll ns p t = some us) : twice ns = false ∧ ns.length = us.length ∧ putT ns us p = t ∧ ∀ u ∈ us, u.size ≤ t.size := by
  unfold matchAll at h
  split at h
  · cases h
  · rename_i htw
    split at h
    · cases h
    · rename_i fs hm
      have e := allSome_eq h
      have hl := matchT_len ns p t _ fs hm
      rw [List.length_replicate] at hl
      have hl2 : ns.length = us.length := by rw [← hl, e, List.length_map]
      refine ⟨by simpa using htw, hl2, match_put ns us hl2 p t _ fs hm (by simp) ?_, fun u hu => ?_⟩
      · intro i u hi
        rw [e, List.getElem?_map] at hi
        cases hh : us[i]? with
        | none => rw [hh] at hi; cases hi
        | some v => rw [hh] at hi; cases hi; rfl
      · refine match_size ns t.size p t _ fs hm (Nat.le_refl _) (fun u hu => ?_) u (by rw [e]; exact List.mem_map.2 ⟨u, hu, rfl⟩)
        have := List.eq_of_mem_replicate hu
        cases this

theorem fz_S (l : List ByteArray) (m : Mem) : freeze m 0 (avS l) = some (avS l) := rfl
end Go.Proofs.Ytcoagkfjdpdohaa.Sx
