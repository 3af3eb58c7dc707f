/-
  SX, PART R: HOW THE ABSTRACT MACHINE'S VALUES AND MEMORY STAND TO THE MODEL'S: 'Rel', 'Sim'; what a step may turn: 'Ext'.
-/
import Derived.Test.YtegkhdflmboljaaSxCPl
import Derived.Laws.AppendOwn
import Derived.Laws.Rows
import Derived.Laws.World
namespace Go.Proofs.Ytegkhdflmboljaa.Sx
open Go

/-- Where an id's block lies, and how many cells it has. -/
structure En where
  blk : Nat → Nat
  tot : Nat → Nat

/-- S: the ids ever made; L: blocks that are or were open to writing; W: those that this call may write; F: cells of theirs that are never written again. -/
structure Cx where
  S : Nat → Prop
  E : En
  L : Nat → Prop
  W : Nat → Prop
  F : Nat → Nat → Prop
  w : World

def Cx.O (c : Cx) (b o : Nat) : Prop := c.L b ∧ ¬ c.F b o

/-- Closed data as the world holds it. -/
inductive DR (L : Nat → Nat → Prop) (w : World) : D → Value → Prop where
  | v (x : Value) (h : scal x = true) : DR L w (.v x) x
  | sl0 (a : Option Addr) (k : Nat) : DR L w (.sl [] 0) (.slice a 0 k)
  | sl (ad : Addr) (n k : Nat) (cells : List D) (f : Nat → Value) (hn : 0 < n) (hnk : n ≤ k) (hs : ad.spot = none) (hb : ad.block < w.heap.size) (hL : ∀ j, j < cells.length → ¬ L ad.block (ad.off + j))
      (hc : ∀ j, j < cells.length → w.cell? (ad.add j) = some (f j)) (hr : ∀ j (h : j < cells.length), DR L w cells[j] (f j)) : DR L w (.sl cells n) (.slice (some ad) n k)

inductive Rel (c : Cx) : AV → Value → Prop where
  | d (x : D) (v : Value) (h : DR c.O c.w x v) : Rel c (.d x) v
  | ptr (id off : Nat) (h : c.S id) : Rel c (.ptr id off) (.pointer (some ⟨c.E.blk id, off, none⟩))
  | ip (ad : Addr) (cells : List D) (f : Nat → Value) (hs : ad.spot = none) (hb : ad.block < c.w.heap.size) (hL : ∀ j, j < cells.length → ¬ c.O ad.block (ad.off + j))
      (hc : ∀ j, j < cells.length → c.w.cell? (ad.add j) = some (f j)) (hr : ∀ j (h : j < cells.length), DR c.O c.w cells[j] (f j)) : Rel c (.ip cells) (.pointer (some ad))
  | os (id off len sz k : Nat) (h : c.S id) (hk : off + k * sz = c.E.tot id) (hl : len ≤ k) : Rel c (.os id off len sz) (.slice (some ⟨c.E.blk id, off, none⟩) len k)
  | ov (id : Nat) (cells : List D) (n sz k : Nat) (f : Nat → Value) (h : c.S id) (hb : c.E.blk id < c.w.heap.size) (hF : ∀ j, j < cells.length → c.F (c.E.blk id) j) (hk : k * sz = c.E.tot id) (hl : n ≤ k) (hn : cells.length = n * sz)
      (hc : ∀ j, j < cells.length → c.w.cell? ⟨c.E.blk id, j, none⟩ = some (f j)) (hr : ∀ j (h : j < cells.length), DR c.O c.w cells[j] (f j)) : Rel c (.ov id cells n sz) (.slice (some ⟨c.E.blk id, 0, none⟩) n k)
  | mp (id : Nat) (h : c.S id) : Rel c (.mp id) (.map (some (c.E.blk id)))
  | fn (f : FuncId) (as bs : List AV) (us vs : List Value) (h1 : as.length = us.length) (h2 : bs.length = vs.length)
      (r1 : ∀ i (h : i < as.length) (h' : i < us.length), Rel c as[i] us[i]) (r2 : ∀ i (h : i < bs.length) (h' : i < vs.length), Rel c bs[i] vs[i]) :
      Rel c (.fn f as bs) (.func (.func f) us.toArray vs.toArray)
  | agg (as : List AV) (us : List Value) (h1 : as.length = us.length) (r1 : ∀ i (h : i < as.length) (h' : i < us.length), Rel c as[i] us[i]) : Rel c (.agg as) (.agg us.toArray)
  | tup (as : List AV) (us : List Value) (h1 : as.length = us.length) (r1 : ∀ i (h : i < as.length) (h' : i < us.length), Rel c as[i] us[i]) : Rel c (.tup as) (.tuple us.toArray)

def RelL (c : Cx) (as : List AV) (us : List Value) : Prop := as.length = us.length ∧ ∀ i (h : i < as.length) (h' : i < us.length), Rel c as[i] us[i]

def DK (ks : List Value) : Prop := ks.Pairwise fun a b => sameK a b = false
def MO (ces : List MapEntry) (clock : Nat) : Prop := (ces.map (·.born)).Pairwise (· < ·) ∧ ∀ e ∈ ces, e.born < clock

def BRel (c : Cx) (id : Nat) : Blk → Prop
  | .cells t cs => ∃ vs : Array Value, c.w.heap[c.E.blk id]? = some (.cells vs t (0, 0)) ∧ vs.size = c.E.tot id ∧ cs.length ≤ vs.size ∧ ∀ j (h : j < cs.length) (h' : j < vs.size), Rel c cs[j] vs[j]
  | .map kk es => ∃ (ces : Array MapEntry) (clock : Nat), c.w.heap[c.E.blk id]? = some (.map ces clock) ∧ MO ces.toList clock ∧ DK (es.map Prod.fst) ∧ ∃ es' : List (Value × AV), es'.Perm es ∧ es'.length = ces.size ∧
      ∀ j (h : j < es'.length) (h' : j < ces.size), (es'[j]).1 = (ces[j]).key ∧ kk.fits (es'[j]).1 = true ∧ Rel c (es'[j]).2 (ces[j]).val
  | .siter s pos => c.w.heap[c.E.blk id]? = some (.stringIter s pos)
  | .tok t u => ∃ vs : Array Value, c.w.heap[c.E.blk id]? = some (.cells vs t (0, 0)) ∧ vs.size = c.E.tot id ∧ u ≤ vs.size ∧ ∀ o, c.F (c.E.blk id) o → o < u

def Blk.isTok : Blk → Bool
  | .tok _ _ => true
  | _ => false

structure Sim (lo : Nat) (M : MM) (c : Cx) : Prop where
  dom : ∀ id, M.mem id ≠ none → c.S id
  nx : ∀ id, c.S id → id < M.nx
  lt : ∀ id, c.S id → c.E.blk id < c.w.heap.size
  live : ∀ id, M.mem id ≠ none → c.L (c.E.blk id)
  wlive : ∀ id, M.mem id ≠ none → lo ≤ id → c.W (c.E.blk id)
  WL : ∀ b, c.W b → c.L b
  Llt : ∀ b, c.L b → b < c.w.heap.size
  inj : ∀ i j, M.mem i ≠ none → M.mem j ≠ none → c.E.blk i = c.E.blk j → i = j
  blk : ∀ id B, M.mem id = some B → BRel c id B
  flt : ∀ b o, c.F b o → b < c.w.heap.size
  frz : ∀ id B, M.mem id = some B → B.isTok = false → ∀ o, ¬ c.F (c.E.blk id) o

structure Ext (c c' : Cx) : Prop where
  S : ∀ id, c.S id → c'.S id
  blk : ∀ id, c.S id → c'.E.blk id = c.E.blk id
  tot : ∀ id, c.S id → c'.E.tot id = c.E.tot id
  size : c.w.heap.size ≤ c'.w.heap.size
  L : ∀ b, b < c.w.heap.size → (c'.L b ↔ c.L b)
  W : ∀ b, b < c.w.heap.size → c'.W b → c.W b
  keep : ∀ b, b < c.w.heap.size → ¬ c.W b → c'.w.heap[b]? = c.w.heap[b]?
  new : ∀ id, c'.S id → c.S id ∨ c.w.heap.size ≤ c'.E.blk id ∨ c.W (c'.E.blk id)
  F : ∀ b o, c.F b o → c'.F b o
  keepF : ∀ b o, c.F b o → b < c.w.heap.size → c'.w.cell? ⟨b, o, none⟩ = c.w.cell? ⟨b, o, none⟩
  newF : ∀ b o, c'.F b o → c.F b o ∨ c.w.heap.size ≤ b ∨ c.W b
  os : c'.w.os = c.w.os
  tape : c'.w.tape = c.w.tape
  output : c'.w.output = c.w.output

theorem Ext.refl (c : Cx) : Ext c c := ⟨fun _ h => h, fun _ _ => rfl, fun _ _ => rfl, Nat.le_refl _, fun _ _ => Iff.rfl, fun _ _ h => h, fun _ _ _ => rfl, fun _ h => .inl h, fun _ _ h => h, fun _ _ _ _ => rfl, fun _ _ h => .inl h, rfl, rfl, rfl⟩

theorem Ext.trans {a b c : Cx} (h : Ext a b) (k : Ext b c) : Ext a c where
  S id hs := k.S id (h.S id hs)
  blk id hs := (k.blk id (h.S id hs)).trans (h.blk id hs)
  tot id hs := (k.tot id (h.S id hs)).trans (h.tot id hs)
  size := Nat.le_trans h.size k.size
  L x hx := (k.L x (Nat.lt_of_lt_of_le hx h.size)).trans (h.L x hx)
  W x hx hw := h.W x hx (k.W x (Nat.lt_of_lt_of_le hx h.size) hw)
  keep x hx hw := (k.keep x (Nat.lt_of_lt_of_le hx h.size) (fun hb => hw (h.W x hx hb))).trans (h.keep x hx hw)
  new id hs := by
    rcases k.new id hs with h1 | h1 | h1
    · rcases h.new id h1 with h2 | h2 | h2
      · exact .inl h2
      · exact .inr (.inl (by rw [k.blk id h1]; exact h2))
      · exact .inr (.inr (by rw [k.blk id h1]; exact h2))
    · exact .inr (.inl (Nat.le_trans h.size h1))
    · by_cases hx : c.E.blk id < a.w.heap.size
      · exact .inr (.inr (h.W _ hx h1))
      · exact .inr (.inl (by omega))
  F x o hx := k.F x o (h.F x o hx)
  keepF x o hx hs := (k.keepF x o (h.F x o hx) (Nat.lt_of_lt_of_le hs h.size)).trans (h.keepF x o hx hs)
  newF x o hx := by
    rcases k.newF x o hx with h1 | h1 | h1
    · exact h.newF x o h1
    · exact .inr (.inl (Nat.le_trans h.size h1))
    · by_cases hs : x < a.w.heap.size
      · exact .inr (.inr (h.W _ hs h1))
      · exact .inr (.inl (by omega))
  os := k.os.trans h.os
  tape := k.tape.trans h.tape
  output := k.output.trans h.output

theorem add_none {a : Addr} (h : a.spot = none) (k : Nat) : a.add k = ⟨a.block, a.off + k, none⟩ := by
  unfold Addr.add; split
  · rename_i hk; subst hk; cases a; simp_all
  · rfl

theorem DR.keep {L L' : Nat → Nat → Prop} {w w' : World} (hsize : w.heap.size ≤ w'.heap.size) (hL : ∀ b o, b < w.heap.size → ¬ L b o → ¬ L' b o) (hk : ∀ b o, b < w.heap.size → ¬ L b o → w'.cell? ⟨b, o, none⟩ = w.cell? ⟨b, o, none⟩)
    {x : D} {v : Value} (h : DR L w x v) : DR L' w' x v := by
  induction h with
  | v x h => exact .v x h
  | sl0 a k => exact .sl0 a k
  | sl ad n k cells f hn hnk hs hb hL' hc hr ih =>
    refine .sl ad n k cells f hn hnk hs (Nat.lt_of_lt_of_le hb hsize) (fun j hj => hL _ _ hb (hL' j hj)) (fun j hj => ?_) ih
    rw [← hc j hj, add_none hs]
    exact hk _ _ hb (hL' j hj)

theorem Ext.closed {c c' : Cx} (hWL : ∀ b, c.W b → c.L b) (h : Ext c c') {b o : Nat} (hb : b < c.w.heap.size) (hn : ¬ c.O b o) : ¬ c'.O b o ∧ c'.w.cell? ⟨b, o, none⟩ = c.w.cell? ⟨b, o, none⟩ := by
  refine ⟨fun hl => hn ⟨(h.L b hb).1 hl.1, fun hf => hl.2 (h.F b o hf)⟩, ?_⟩
  by_cases hf : c.F b o
  · exact h.keepF b o hf hb
  · have hl : ¬ c.L b := fun hl => hn ⟨hl, hf⟩
    exact World.cell?_of_block (h.keep b hb (fun hw => hl (hWL b hw)))

theorem Rel.ext {c c' : Cx} (hWL : ∀ b, c.W b → c.L b) (h : Ext c c') {x : AV} {v : Value} (r : Rel c x v) : Rel c' x v := by
  have k1 : ∀ b o, b < c.w.heap.size → ¬ c.O b o → ¬ c'.O b o := fun b o hb hn => (h.closed hWL hb hn).1
  have k2 : ∀ b o, b < c.w.heap.size → ¬ c.O b o → c'.w.cell? ⟨b, o, none⟩ = c.w.cell? ⟨b, o, none⟩ := fun b o hb hn => (h.closed hWL hb hn).2
  induction r with
  | d x v hd => exact .d x v (hd.keep h.size k1 k2)
  | ptr id off hs => rw [← h.blk id hs]; exact .ptr id off (h.S id hs)
  | ip ad cells f hs hb hL hc hr =>
    refine .ip ad cells f hs (Nat.lt_of_lt_of_le hb h.size) (fun j hj => k1 _ _ hb (hL j hj)) (fun j hj => ?_) (fun j hj => (hr j hj).keep h.size k1 k2)
    rw [← hc j hj, add_none hs]
    exact k2 _ _ hb (hL j hj)
  | os id off len sz k hs hk hl => rw [← h.blk id hs]; exact .os id off len sz k (h.S id hs) (by rw [h.tot id hs]; exact hk) hl
  | ov id cells n sz k f hs hb hF hk hl hn hc hr =>
    rw [← h.blk id hs]
    refine .ov id cells n sz k f (h.S id hs) (by rw [h.blk id hs]; exact Nat.lt_of_lt_of_le hb h.size) (fun j hj => by rw [h.blk id hs]; exact h.F _ _ (hF j hj)) (by rw [h.tot id hs]; exact hk) hl hn (fun j hj => ?_) (fun j hj => (hr j hj).keep h.size k1 k2)
    rw [h.blk id hs, ← hc j hj]
    exact h.keepF _ _ (hF j hj) hb
  | mp id hs => rw [← h.blk id hs]; exact .mp id (h.S id hs)
  | fn f as bs us vs h1 h2 _ _ i1 i2 => exact .fn f as bs us vs h1 h2 i1 i2
  | agg as us h1 _ i1 => exact .agg as us h1 i1
  | tup as us h1 _ i1 => exact .tup as us h1 i1

theorem RelL.ext {c c' : Cx} (hWL : ∀ b, c.W b → c.L b) (h : Ext c c') {as : List AV} {us : List Value} (r : RelL c as us) : RelL c' as us :=
  ⟨r.1, fun i hi hi' => (r.2 i hi hi').ext hWL h⟩

theorem BRel.ext {c c' : Cx} (hWL : ∀ b, c.W b → c.L b) (h : Ext c c') {id : Nat} (hs : c.S id) {B : Blk} (hb : c'.w.heap[c.E.blk id]? = c.w.heap[c.E.blk id]?) (hF : ∀ o, c'.F (c.E.blk id) o → c.F (c.E.blk id) o) (r : BRel c id B) : BRel c' id B := by
  cases B with
  | cells t cs =>
    obtain ⟨vs, h1, h2, h3, h4⟩ := r
    exact ⟨vs, by rw [h.blk id hs, hb]; exact h1, by rw [h.tot id hs]; exact h2, h3, fun j hj hj' => (h4 j hj hj').ext hWL h⟩
  | map kk es =>
    obtain ⟨ces, clock, h1, m1, m2, es', p1, h2, h3⟩ := r
    exact ⟨ces, clock, by rw [h.blk id hs, hb]; exact h1, m1, m2, es', p1, h2, fun j hj hj' => ⟨(h3 j hj hj').1, (h3 j hj hj').2.1, (h3 j hj hj').2.2.ext hWL h⟩⟩
  | siter s pos => unfold BRel at r ⊢; rw [h.blk id hs, hb]; exact r
  | tok t u =>
    obtain ⟨vs, h1, h2, h3, h4⟩ := r
    exact ⟨vs, by rw [h.blk id hs, hb]; exact h1, by rw [h.tot id hs]; exact h2, h3, fun o ho => h4 o (hF o (by rw [← h.blk id hs]; exact ho))⟩

/-! ### Small facts -/
theorem add_blk (b o k : Nat) : (⟨b, o, none⟩ : Addr).add k = ⟨b, o + k, none⟩ := add_none rfl k

theorem Rel.undef (c : Cx) : Rel c .undef undef := .tup [] [] rfl (fun i h => by simp at h)

theorem Rel.scal (c : Cx) {v : Value} (h : scal v = true) : Rel c (.d (.v v)) v := .d _ _ (.v v h)
theorem Rel.int (c : Cx) (k : IntKind) (n : Int) : Rel c (.int k n) (.int k n) := .scal c rfl
theorem Rel.bool (c : Cx) (b : Bool) : Rel c (.bool b) (.bool b) := .scal c rfl
theorem Rel.str (c : Cx) (s : ByteArray) : Rel c (.str s) (.string s) := .scal c rfl

theorem Rel.v_inv {c : Cx} {x v : Value} (h : Rel c (.d (.v x)) v) : v = x ∧ Sx.scal x = true := by
  cases h with | d _ _ h => cases h with | v _ h => exact ⟨rfl, h⟩

theorem RelL.get {c : Cx} {as : List AV} {us : List Value} (h : RelL c as us) {i : Nat} {x : AV} (hx : as[i]? = some x) : ∃ v, us[i]? = some v ∧ Rel c x v := by
  obtain ⟨hi, rfl⟩ := List.getElem?_eq_some_iff.1 hx
  have hi' : i < us.length := by rw [← h.1]; exact hi
  exact ⟨us[i], List.getElem?_eq_getElem hi', h.2 i hi hi'⟩

theorem RelL.nil (c : Cx) : RelL c [] [] := ⟨rfl, fun i h => by simp at h⟩

theorem RelL.cons {c : Cx} {x : AV} {v : Value} {as : List AV} {us : List Value} (hx : Rel c x v) (h : RelL c as us) : RelL c (x :: as) (v :: us) := by
  refine ⟨by simp [h.1], fun i hi hi' => ?_⟩
  cases i with
  | zero => exact hx
  | succ i => exact h.2 i (by simpa using hi) (by simpa using hi')

theorem RelL.tail {c : Cx} {x : AV} {v : Value} {as : List AV} {us : List Value} (h : RelL c (x :: as) (v :: us)) : Rel c x v ∧ RelL c as us :=
  ⟨h.2 0 (by simp) (by simp), by simpa using h.1, fun i hi hi' => h.2 (i + 1) (by simpa using hi) (by simpa using hi')⟩

theorem RelL.append {c : Cx} {as bs : List AV} {us vs : List Value} (h : RelL c as us) (k : RelL c bs vs) : RelL c (as ++ bs) (us ++ vs) := by
  refine ⟨by simp [h.1, k.1], fun i hi hi' => ?_⟩
  by_cases hl : i < as.length
  · rw [List.getElem_append_left hl, List.getElem_append_left (by rw [← h.1]; exact hl)]
    exact h.2 i hl _
  · rw [List.getElem_append_right (by omega), List.getElem_append_right (by rw [← h.1]; omega)]
    simp only [← h.1]
    exact k.2 _ _ _

theorem RelL.take {c : Cx} {as : List AV} {us : List Value} (h : RelL c as us) (n : Nat) : RelL c (as.take n) (us.take n) := by
  refine ⟨by simp [h.1], fun i hi hi' => ?_⟩
  simp only [List.getElem_take]
  exact h.2 i _ _

theorem RelL.drop {c : Cx} {as : List AV} {us : List Value} (h : RelL c as us) (n : Nat) : RelL c (as.drop n) (us.drop n) := by
  refine ⟨by simp [h.1], fun i hi hi' => ?_⟩
  simp only [List.getElem_drop]
  exact h.2 _ _ _

theorem RelL.replicate {c : Cx} {x : AV} {v : Value} (h : Rel c x v) (n : Nat) : RelL c (List.replicate n x) (List.replicate n v) :=
  ⟨by simp, fun i _ _ => by simpa using h⟩

theorem RelL.set {c : Cx} {as : List AV} {us : List Value} (h : RelL c as us) (i : Nat) {x : AV} {v : Value} (hx : Rel c x v) : RelL c (as.set i x) (us.set i v) := by
  refine ⟨by simp [h.1], fun j hj hj' => ?_⟩
  rw [List.getElem_set, List.getElem_set]
  split
  · exact hx
  · exact h.2 j _ _

theorem Rel.cells {c : Cx} {x : AV} {v : Value} (h : Rel c x v) : RelL c x.cells v.cells.toList := by
  cases h with
  | agg as us h1 r1 => exact ⟨h1, r1⟩
  | d x v hd =>
    have e : v.cells.toList = [v] := by cases hd with
      | v x h => cases v <;> first | rfl | (simp [Sx.scal] at h)
      | sl0 => rfl
      | sl => rfl
    rw [e]
    exact .cons (.d x v hd) (.nil c)
  | ptr id off h => exact .cons (.ptr id off h) (.nil c)
  | ip ad cells f hs hb hL hc hr => exact .cons (.ip ad cells f hs hb hL hc hr) (.nil c)
  | os id off len sz k h hk hl => exact .cons (.os id off len sz k h hk hl) (.nil c)
  | ov id cells n sz k f h hb hF hk hl hn hc hr => exact .cons (.ov id cells n sz k f h hb hF hk hl hn hc hr) (.nil c)
  | mp id h => exact .cons (.mp id h) (.nil c)
  | fn f as bs us vs h1 h2 r1 r2 => exact .cons (.fn f as bs us vs h1 h2 r1 r2) (.nil c)
  | tup as us h1 r1 => exact .cons (.tup as us h1 r1) (.nil c)

theorem Rel.ov_closed {c : Cx} {id : Nat} {cells : List D} {n sz : Nat} {v : Value} (h : Rel c (.ov id cells n sz) v) : DR c.O c.w (.sl cells n) v := by
  cases h with
  | ov _ _ _ _ k f hs hb hF hk hl hn hc hr =>
    rcases Nat.eq_zero_or_pos n with h0 | hpos
    · subst h0
      have : cells = [] := List.eq_nil_of_length_eq_zero (by rw [hn]; simp)
      subst this
      exact .sl0 _ _
    · exact .sl _ n k cells f hpos hl rfl hb (fun j hj hO => hO.2 (by simpa using hF j hj)) (fun j hj => by rw [add_none rfl]; simpa using hc j hj) hr

theorem toD_rel {c : Cx} {x : AV} {d : D} {v : Value} (h : toD x = some d) (r : Rel c x v) : DR c.O c.w d v := by
  unfold toD at h
  split at h
  · injection h with h; subst h; cases r with | d _ _ hd => exact hd
  · injection h with h; subst h; exact r.ov_closed
  · cases h

def oneV : Value → Bool
  | .agg _ | .tuple _ => false
  | _ => true

theorem Rel.one {c : Cx} {x : AV} {v : Value} (h : Rel c x v) (h1 : x.one = true) : oneV v = true := by
  cases h with
  | agg | tup => simp [AV.one] at h1
  | d x v hd => cases hd with
    | v x h => cases v <;> first | rfl | (simp [Sx.scal] at h)
    | sl0 => rfl
    | sl => rfl
  | _ => rfl
end Go.Proofs.Ytegkhdflmboljaa.Sx
