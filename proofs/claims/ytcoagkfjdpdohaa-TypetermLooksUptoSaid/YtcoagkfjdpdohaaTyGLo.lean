/- TYPES: replacing names: the parts. -/
import Derived.Test.YtcoagkfjdpdohaaTyDLo
import Derived.Test.YtcoagkfjdpdohaaTyFLo
namespace Go.Proofs.Ytcoagkfjdpdohaa.Sx
open Go
set_option maxRecDepth 1000000
set_option linter.unusedSimpArgs false
set_option linter.unusedVariables false

/-- Whether a name stands twice in d ++ s, the second time in s. -/
def twiceF : List ByteArray → List ByteArray → Bool
  | _, [] => false
  | d, x :: s => hasS d x || twiceF (d ++ [x]) s
abbrev twice (l : List ByteArray) : Bool := twiceF [] l

/-- What stands at a name's place. -/
def look? {α : Type} : List ByteArray → List α → ByteArray → Option α
  | n :: ns, x :: xs, s => if n = s then some x else look? ns xs s
  | _, _, _ => none
theorem look_ix {α : Type} (s : ByteArray) : ∀ (ns : List ByteArray) (xs : List α) (i : Nat), ns.length = xs.length →
    (look? ns xs s = none ∧ ixFrom ns s i = -1) ∨ (∃ k x, x ∈ xs ∧ xs.drop k = x :: xs.drop (k + 1) ∧ look? ns xs s = some x ∧ ixFrom ns s i = ((i + k : Nat) : Int))
  | [], [], i, _ => .inl ⟨rfl, rfl⟩
  | n :: ns, x :: xs, i, h => by
    simp only [look?, ixFrom]
    by_cases hn : n = s
    · exact .inr ⟨0, x, by simp, by simp, by rw [if_pos hn], by rw [if_pos hn, Nat.add_zero]⟩
    · rw [if_neg hn, if_neg hn]
      rcases look_ix s ns xs (i + 1) (by simpa using h) with ⟨h1, h2⟩ | ⟨k, y, hm, hd, h1, h2⟩
      · exact .inl ⟨h1, h2⟩
      · exact .inr ⟨k + 1, y, by simp [hm], by simpa using hd, h1, by rw [h2]; congr 1; omega⟩
  | [], _ :: _, _, h => by simp at h
  | _ :: _, [], _, h => by simp at h

theorem look_ix0 {α : Type} (s : ByteArray) (ns : List ByteArray) (xs : List α) (h : ns.length = xs.length) :
    (look? ns xs s = none ∧ ixS ns s = -1) ∨ (∃ k x, x ∈ xs ∧ xs.drop k = x :: xs.drop (k + 1) ∧ look? ns xs s = some x ∧ ixS ns s = (k : Int)) := by
  have := look_ix s ns xs 0 h
  simp only [Nat.zero_add] at this; exact this

def here {α : Type} (ns : List ByteArray) (xs : List α) (n : ByteArray) (l : List Ty) : Option α := if l.isEmpty then look? ns xs n else none
mutual
/-- The size of a type with names replaced by types of some sizes; c: what is said of one above the limit. -/
def gT (c : Nat → Nat) (ns : List ByteArray) (sz : List Nat) : Ty → Nat
  | .mk n l => match here ns sz n l with
    | some x => x
    | none => gTs c ns sz 1 l
def gTs (c : Nat → Nat) (ns : List ByteArray) (sz : List Nat) : Nat → List Ty → Nat
  | a, [] => a
  | a, t :: r => if 4096 < a + gT c ns sz t then c (a + gT c ns sz t) else gTs c ns sz (a + gT c ns sz t) r
end
theorem gT_eq (c : Nat → Nat) (ns : List ByteArray) (sz : List Nat) (t : Ty) : gT c ns sz t = match here ns sz t.name t.args with
    | some x => x
    | none => gTs c ns sz 1 t.args := by cases t; simp only [gT, Ty.name, Ty.args]
mutual
def putT (ns : List ByteArray) (bs : List Ty) : Ty → Ty
  | .mk n l => match here ns bs n l with
    | some x => x
    | none => .mk n (putTs ns bs l)
def putTs (ns : List ByteArray) (bs : List Ty) : List Ty → List Ty
  | [] => []
  | t :: r => putT ns bs t :: putTs ns bs r
end
theorem putT_eq (ns : List ByteArray) (bs : List Ty) (t : Ty) : putT ns bs t = match here ns bs t.name t.args with
    | some x => x
    | none => .mk t.name (putTs ns bs t.args) := by cases t; simp only [putT, Ty.name, Ty.args]

theorem look_mem {α : Type} {s : ByteArray} : ∀ {ns : List ByteArray} {xs : List α} {x : α}, look? ns xs s = some x → x ∈ xs
  | [], _, _, h => by simp [look?] at h
  | _ :: _, [], _, h => by simp [look?] at h
  | n :: ns, y :: xs, x, h => by
    simp only [look?] at h
    split at h
    · cases h; simp
    · exact List.mem_cons_of_mem _ (look_mem h)
theorem here_mem {α : Type} {ns : List ByteArray} {xs : List α} {n : ByteArray} {l : List Ty} {x : α} (h : here ns xs n l = some x) : x ∈ xs := by
  unfold here at h
  split at h
  · exact look_mem h
  · cases h

mutual
theorem gT_le {c : Nat → Nat} (hc : ∀ m, 4096 < m → c m ≤ m) {ns : List ByteArray} {sz : List Nat} {B : Nat} (hB : ∀ x ∈ sz, x ≤ B) : ∀ t : Ty, gT c ns sz t ≤ B + 4096 * t.size
  | .mk n l => by
    have h := gTs_le hc (ns := ns) hB l 1 (by omega)
    simp only [gT, Ty.size]
    split
    · rename_i x hx
      have := hB x (here_mem hx)
      omega
    · omega
theorem gTs_le {c : Nat → Nat} (hc : ∀ m, 4096 < m → c m ≤ m) {ns : List ByteArray} {sz : List Nat} {B : Nat} (hB : ∀ x ∈ sz, x ≤ B) : ∀ (l : List Ty) (a : Nat), a ≤ 4096 → gTs c ns sz a l ≤ B + 4096 + 4096 * sizes l
  | [], a, h => by simp only [gTs]; omega
  | t :: r, a, h => by
    have h1 := gT_le hc (ns := ns) hB t
    simp only [gTs, sizes]
    split
    · rename_i h2
      have := hc _ h2
      omega
    · have := gTs_le hc (ns := ns) hB r (a + gT c ns sz t) (by omega)
      omega
end

def encI (l : List Nat) : List D := l.map fun n : Nat => .v (.int .i64 (n : Int))
abbrev avI (l : List Nat) : AV := .d (.sl (encI l) l.length)
theorem ClI (l : List Nat) : Cl (avI l) := ⟨rfl, rfl⟩
section
variable {R : Type} {r : R → Prop} {k : AV → Option R}
theorem rn_ixI {l : List Nat} {i : Nat} {t : Nat} {s : List Nat} (h : l.drop i = t :: s) (hk : Wp (k (.ip (.v (.int .i64 t) :: encI s))) r) : Wp (opt (ixsA 1 (avI l) (.i (i : Int))) k) r := by
  obtain ⟨hi, _⟩ := drop_cons h
  refine rn_opt (v := .ip (.v (.int .i64 t) :: encI s)) ?_ hk
  rw [ixsA_sl _ _ _ _ _ (by omega), Int.toNat_natCast, Nat.mul_one, encI, ← List.map_drop, h]; rfl
/-- A list's beginning. -/
theorem rn_takeS {l : List ByteArray} {i : Nat} (h : i ≤ l.length) (hk : Wp (k (avS (l.take i))) r) : Wp (opt (slslA 1 (avS l) none (some (.i (i : Int)))) k) r := by
  refine rn_slsl_d (l := 0) (h := i) rfl rfl (by simp [encS]; omega) ?_
  have e : ((i : Int) - 0).toNat = i := by omega
  have e2 : (encS l).take i = encS (l.take i) := by simp [encS, List.map_take]
  have e3 : i = (l.take i).length := by rw [List.length_take]; omega
  rw [e]
  simp only [Int.toNat_zero, Nat.zero_mul, List.drop_zero, Nat.mul_one]
  rw [e2]
  have : AV.d (.sl (encS (l.take i)) i) = avS (l.take i) := by simp only [avS]; rw [← e3]
  rw [this]; exact hk
end

end Go.Proofs.Ytcoagkfjdpdohaa.Sx
