/-
  SX, PART U: append.
-/
import Derived.Test.YtegkhdflmboljaaSxTPl
import Derived.Laws.Append
import Derived.IntWalk
namespace Go.Proofs.Ytegkhdflmboljaa.Sx
open Go
set_option linter.unusedSimpArgs false

section
variable {P : Program} {call : CallT} {mode : FuncId → Mode} {o : Oper}

theorem oneV_cell {v : Value} (h : oneV v = true) : v.oneCell' = true := by cases v <;> first | rfl | (cases h; done)

theorem RelL.ones {c : Cx} {as : List AV} {us : List Value} (h : RelL c as us) (h1 : as.all AV.one = true) : ∀ u ∈ us, u.oneCell' = true := by
  intro u hu
  obtain ⟨j, hj, rfl⟩ := List.getElem_of_mem hu
  have hj' : j < as.length := by rw [h.1]; exact hj
  exact oneV_cell ((h.2 j hj' hj).one (List.all_eq_true.1 h1 _ (List.getElem_mem hj')))

theorem src_run_sl {c : Cx} {sz : Nat} {cs : List D} {v : Value} {k : Nat} (hle : k * sz ≤ cs.length) (hr : Rel c (.d (.sl cs k)) v) :
    ∃ us : List Value, (Builtin.lenOf v).run P c.w = .ok k c.w ∧ (∀ W : World, W.heap = c.w.heap → (Builtin.firstCells sz k v).run P W = .ok us.toArray W) ∧ RelL c ((cs.take (k * sz)).map .d) us ∧ us.length = k * sz := by
  cases hr with
  | d _ _ hd => cases hd with
    | sl0 ad cap =>
      refine ⟨[], rfl, fun W _ => ?_, by simpa using RelL.nil c, by simp⟩
      cases ad with
      | none => simp [Builtin.firstCells]
      | some ad => simp [Builtin.firstCells, loadCells, loadCellsFrom]
    | sl ad _ cap _ f hn hnk hs hb hL hc hr =>
      refine ⟨(List.range (k * sz)).map f, rfl, fun W hW => ?_, DR.list rfl rfl hr _ hle, by simp⟩
      have hc' : ∀ j, j < k * sz → W.cell? (ad.add j) = some (f j) := fun j hj => by
        rw [← hc j (by omega)]
        simp [World.cell?, hW]
      simp only [Builtin.firstCells]
      exact run_loadCells W ad (k * sz) f hc'

theorem src_run {lo : Nat} {lim : Lm} {M : MM} {c : Cx} (hS : Sim lo M c) {sz : Nat} {x : AV} {v : Value} {n : Nat} {news : List AV} (h : sliceCells M.mem lim sz x = some (n, news)) (hr : Rel c x v) :
    ∃ us : List Value, (Builtin.lenOf v).run P c.w = .ok n c.w ∧ (∀ W : World, W.heap = c.w.heap → (Builtin.firstCells sz n v).run P W = .ok us.toArray W) ∧ RelL c news us ∧ us.length = n * sz := by
  unfold sliceCells at h
  split at h
  · rename_i cs k
    split at h
    · rename_i hle
      simp only [Option.some.injEq, Prod.mk.injEq] at h
      obtain ⟨rfl, rfl⟩ := h
      exact src_run_sl hle hr
    · cases h
  · rename_i cs k s
    split at h
    · rename_i hle
      simp only [Option.some.injEq, Prod.mk.injEq] at h
      obtain ⟨rfl, rfl⟩ := h
      exact src_run_sl hle (.d _ _ hr.ov_closed)
    · cases h
  · simp only [Option.some.injEq, Prod.mk.injEq] at h
    obtain ⟨rfl, rfl⟩ := h
    have hv := hr.v_inv.1
    subst hv
    exact ⟨[], rfl, fun W _ => by simp [Builtin.firstCells], .nil c, by simp⟩
  · rename_i id off len s
    split at h
    · rename_i t cs hlk
      split at h
      · rename_i hc
        obtain ⟨rfl, hle⟩ := hc
        simp only [Option.some.injEq, Prod.mk.injEq] at h
        obtain ⟨rfl, rfl⟩ := h
        obtain ⟨k, rfl, hs, -, -⟩ := hr.os_inv
        obtain ⟨ad, us, he, hl, hcell, hrel⟩ := read_ptr hS (.ptr id off hs) hlk hle
        simp only [Value.pointer.injEq, Option.some.injEq] at he
        subst he
        refine ⟨us, rfl, fun W hW => ?_, hrel, hl⟩
        have := run_loadCells_list (P := P) W ⟨c.E.blk id, off, none⟩ us (fun j u hu => by
          rw [← hcell j u hu]
          simp [World.cell?, hW])
        rw [hl] at this
        simp only [Builtin.firstCells]
        exact this
      · cases h
    · cases h
  · cases h

theorem bytes_rel {c : Cx} : ∀ {as : List AV} {us : List Value} {l : List UInt8}, RelL c as us → bytesA as = some l → ∃ ns : List Int, us = ns.map (fun n => .int .u8 n) ∧ l = ns.map fun n => UInt8.ofNat n.toNat
  | [], [], l, _, h => by simp only [bytesA, Option.some.injEq] at h; subst h; exact ⟨[], rfl, rfl⟩
  | [], _ :: _, _, h, _ => by simp [RelL] at h
  | _ :: _, [], _, h, _ => by simp [RelL] at h
  | a :: as, u :: us, l, hr, h => by
    unfold bytesA at h
    split at h
    · cases ‹_ :: _ = []›
    · rename_i n r heq
      obtain ⟨rfl, rfl⟩ := List.cons.inj heq
      obtain ⟨l', h1, rfl⟩ := Option.map_eq_some_iff.1 h
      obtain ⟨r1, r2⟩ := hr.tail
      obtain ⟨ns, rfl, rfl⟩ := bytes_rel r2 h1
      exact ⟨n :: ns, by rw [r1.int_inv]; rfl, rfl⟩
    · cases h

theorem b2s_loop (P : Program) (w : World) : ∀ (ns : List Int) (s : ByteArray),
    (forIn (m := Sem) (ns.map fun n => Value.int .u8 n) s (fun c s =>
      match c with
      | .int .u8 n => pure (.yield (s.push (UInt8.ofNat n.toNat)))
      | _ => do
        let _ : PUnit ← stuck "bytesToString: byte expected"
        pure (.yield s))).run P w = .ok ⟨s.data ++ (ns.map fun n => UInt8.ofNat n.toNat).toArray⟩ w
  | [], s => by simp [Sem.run_pure]
  | n :: ns, s => by
    simp only [List.map_cons, List.forIn_cons, Sem.run_bind, Sem.run_pure, Result.andThen_ok]
    rw [b2s_loop P w ns]
    simp [ByteArray.push]

theorem sim_b2s {s t : TypeId} {x : Operand} (ho : o.op = .convert s t x) {e : TypeId} (hs : P.underlying s = some (.slice e)) (ht : P.underlying t = some .string) (he : bytes1 P e = true) {x' : X} (hx : opX x = some x') :
    OpSim P call mode (.b2s x') o := by
  intro draw lo lim fresh ρ M r M' a c hst hS hF hf _ _ K Q hK
  have rx := ev_rel hF hx
  have hu : P.underlying e = some (.int .u8) := by
    unfold bytes1 at he
    split at he
    · assumption
    · cases he
  simp only [istep] at hst
  split at hst
  · rename_i n cs hsl
    obtain ⟨l, hl, hh⟩ := Option.map_eq_some_iff.1 hst
    simp only [Prod.mk.injEq] at hh
    obtain ⟨rfl, rfl⟩ := hh
    obtain ⟨us, h1, h2, h3, h4⟩ := src_run (P := P) hS hsl rx
    obtain ⟨ns, rfl, rfl⟩ := bytes_rel h3 hl
    refine wp_value (v := .string ⟨(ns.map fun n => UInt8.ofNat n.toNat).toArray⟩) (w' := c.w) ?_ (hK _ c (.refl hS) (.str c _))
    have h5 := h2 c.w rfl
    generalize hv0 : a.eval x = v at h1 h5 rx
    have hv : ∃ ad k, v = .slice ad n k := by
      generalize ev ρ x' = y at hsl rx
      unfold sliceCells at hsl
      split at hsl
      · split at hsl
        · simp only [Option.some.injEq, Prod.mk.injEq] at hsl
          obtain ⟨rfl, _⟩ := hsl
          cases rx with
          | d _ _ hd => cases hd with
            | sl0 ad k => exact ⟨ad, k, rfl⟩
            | sl ad _ k => exact ⟨some ad, k, rfl⟩
        · cases hsl
      · split at hsl
        · simp only [Option.some.injEq, Prod.mk.injEq] at hsl
          obtain ⟨rfl, _⟩ := hsl
          cases rx with
          | ov _ _ _ _ k => exact ⟨_, k, rfl⟩
        · cases hsl
      · simp only [Option.some.injEq, Prod.mk.injEq] at hsl
        obtain ⟨rfl, _⟩ := hsl
        exact ⟨none, 0, rx.v_inv.1⟩
      · split at hsl
        · split at hsl
          · simp only [Option.some.injEq, Prod.mk.injEq] at hsl
            obtain ⟨rfl, _⟩ := hsl
            obtain ⟨k, rfl, _⟩ := rx.os_inv
            exact ⟨_, k, rfl⟩
          · cases hsl
        · cases hsl
      · cases hsl
    obtain ⟨ad, k, rfl⟩ := hv
    simp only [execOp, ho, hv0, convert, Sem.run_bind, run_und hs, run_und ht, run_und hu, Result.andThen_ok, Conv.bytesToString]
    cases ad with
    | none =>
      simp only [Builtin.firstCells, Sem.run_pure, Result.ok.injEq, and_true] at h5
      have : ns = [] := by
        have := congrArg Array.size h5
        simp only [List.size_toArray, List.length_map] at this
        exact List.eq_nil_of_length_eq_zero (by simpa using this.symm)
      subst this
      rfl
    | some ad =>
      simp only [Builtin.firstCells, Nat.mul_one] at h5
      simp only [Sem.run_bind, h5, Result.andThen_ok, List.forIn_toArray]
      refine (congrArg (fun q => Result.andThen (Result.andThen q _) _) (b2s_loop P c.w ns ByteArray.empty)).trans ?_
      simp [Sem.run_pure]
  · cases hst

theorem run_app_room {w : World} {t ty e : TypeId} {i : TypeInfo} (ht : P.underlying t = some (.slice e)) (hi : P.info? e = some i) {g sLen sCap : Nat} {cur : Array Value} (hg : w.heap[g]? = some (.cells cur e (0, 0)))
    {x : Value} {n : Nat} {news : List Value} (hl : (Builtin.lenOf x).run P w = .ok n w) (hf : (Builtin.firstCells i.size n x).run P w = .ok news.toArray w) (h1 : ∀ u ∈ news, u.oneCell' = true)
    (hroom : sLen + n ≤ sCap) (hfit : sLen * i.size + news.length ≤ cur.size) :
    (Builtin.append_ #[t, t] ty #[.slice (some ⟨g, 0, none⟩) sLen sCap, x]).run P w =
      .ok (.slice (some ⟨g, 0, none⟩) (sLen + n) sCap) (w.setRow g (cur.toList.take (sLen * i.size) ++ news ++ cur.toList.drop (sLen * i.size + news.length)).toArray) := by
  have hst := run_storeCells_at P g (sLen * i.size) e news 0 cur w hg (by simpa using hfit) h1
  simp only [Nat.add_zero] at hst
  simp [Builtin.append_, run_underlying ht, sizeOf, typeInfo, hi, hl, hroom, hf, add_blk, hst]

theorem run_app_grow {w : World} {t ty e : TypeId} {i : TypeInfo} {z : Value} (ht : P.underlying t = some (.slice e)) (hi : P.info? e = some i) (hz : i.zero = some z) {base : Option Addr} {sLen sCap : Nat} {olds : List Value}
    (ho : ∀ W : World, W.heap = w.heap → (Builtin.firstCells i.size sLen (.slice base sLen sCap)).run P W = .ok olds.toArray W)
    {x : Value} {n : Nat} {news : List Value} (hl : (Builtin.lenOf x).run P w = .ok n w) (hf : ∀ W : World, W.heap = w.heap → (Builtin.firstCells i.size n x).run P W = .ok news.toArray W)
    (hg : sCap < sLen + n) (h63 : sLen + n ≤ 9223372036854775807) (hfit : (sLen + n) * i.bytes ≤ 140737488355328) :
    (Builtin.append_ #[t, t] ty #[.slice base sLen sCap, x]).run P w =
      .ok (.slice (some ⟨w.heap.size, 0, none⟩) (sLen + n) (grownCap w (sLen + n) sCap e))
        (w.drew.alloc (.cells ((olds ++ news).toArray ++ Builtin.zeroCells z.cells (grownCap w (sLen + n) sCap e - (sLen + n))) e)) := by
  have hn : ¬ (sLen + n ≤ sCap) := by omega
  have h63' : ¬ (9223372036854775807 < ((sLen : Int) + (n : Int))) := by omega
  have h48 := growslice_fits hg hfit
  have h48' : ¬ (281474976710656 < Builtin.nextslicecap (sLen + n) sCap * i.bytes) := by omega
  have ho' := ho w.drew rfl
  have hf' := hf w.drew rfl
  simp [Builtin.append_, run_underlying ht, sizeOf, typeInfo, zeroValue, hi, hz, hl, hn, h63', h48', ho', hf', Question.forced, newRow, grownCap]
  congr 2
  apply Array.ext'
  simp

def extN (z : Value) (n sz : Nat) : List Value := if n * sz = 0 then [] else (Builtin.zeroCells z.cells n).toList

theorem run_ext_room {w : World} {t u ty e : TypeId} {i : TypeInfo} {z : Value} {ku kn : IntKind} (ht : P.underlying t = some (.slice e)) (hu : P.underlying u = some (.int ku)) (hi : P.info? e = some i) (hz : i.zero = some z) {g sLen sCap : Nat} {cur : Array Value} (hg : w.heap[g]? = some (.cells cur e (0, 0)))
    {n : Nat} {k : Int} (hk : k = (n : Int)) (hk2 : n ≤ 140737488355328) (hb : n * i.bytes ≤ 140737488355328) (h1 : ∀ u ∈ extN z n i.size, u.oneCell' = true)
    (hroom : sLen + n ≤ sCap) (hfit : sLen * i.size + (extN z n i.size).length ≤ cur.size) :
    (Builtin.append_ #[t, u] ty #[.slice (some ⟨g, 0, none⟩) sLen sCap, .int kn k]).run P w =
      .ok (.slice (some ⟨g, 0, none⟩) (sLen + n) sCap) (w.setRow g (cur.toList.take (sLen * i.size) ++ extN z n i.size ++ cur.toList.drop (sLen * i.size + (extN z n i.size).length)).toArray) := by
  have hst := run_storeCells_at P g (sLen * i.size) e (extN z n i.size) 0 cur w hg (by simpa using hfit) h1
  simp only [Nat.add_zero] at hst
  have hw : IntKind.i64.wrap k = (n : Int) := by rw [hk]; exact IntWalk.i64_in _ (by omega)
  have hb' : ¬ (281474976710656 < (n : Int) * (i.bytes : Int)) := by rw [← Int.natCast_mul]; omega
  have hn0 : ¬ ((n : Int) < 0) := by omega
  by_cases h0 : n * i.size = 0
  · have hx : extN z n i.size = [] := by simp only [extN, h0, if_true]
    rw [hx] at hst ⊢
    simp [Builtin.append_, run_underlying ht, run_underlying hu, sizeOf, typeInfo, zeroValue, hi, hz, hw, hroom, add_blk, asInt, asIntOf, hb', hn0, h0] at hst ⊢
    rw [hst]; rfl
  · have hx : extN z n i.size = (Builtin.zeroCells z.cells n).toList := by simp only [extN, h0, if_false]
    rw [hx] at hst ⊢
    have h0' : n * i.size ≠ 0 := h0
    simp only [Builtin.append_, run_underlying ht, run_underlying hu, sizeOf, typeInfo, zeroValue, asInt, asIntOf]
    simp [run_underlying ht, run_underlying hu, hi, hz, hw, hroom, add_blk, hb', hn0]
    rw [if_neg (by simpa using h0)]
    simp [hi, hz, hst]

theorem run_ext_grow {w : World} {t u ty e : TypeId} {i : TypeInfo} {z : Value} {ku kn : IntKind} (ht : P.underlying t = some (.slice e)) (hu : P.underlying u = some (.int ku)) (hi : P.info? e = some i) (hz : i.zero = some z) {base : Option Addr} {sLen sCap : Nat} {olds : List Value}
    (ho : ∀ W : World, W.heap = w.heap → (Builtin.firstCells i.size sLen (.slice base sLen sCap)).run P W = .ok olds.toArray W)
    {n : Nat} {k : Int} (hk : k = (n : Int)) (hk2 : n ≤ 140737488355328)
    (hg : sCap < sLen + n) (h63 : sLen + n ≤ 9223372036854775807) (hfit : (sLen + n) * i.bytes ≤ 140737488355328) :
    (Builtin.append_ #[t, u] ty #[.slice base sLen sCap, .int kn k]).run P w =
      .ok (.slice (some ⟨w.heap.size, 0, none⟩) (sLen + n) (grownCap w (sLen + n) sCap e))
        (w.drew.alloc (.cells ((olds ++ extN z n i.size).toArray ++ Builtin.zeroCells z.cells (grownCap w (sLen + n) sCap e - (sLen + n))) e)) := by
  have hw : IntKind.i64.wrap k = (n : Int) := by rw [hk]; exact IntWalk.i64_in _ (by omega)
  have hbn : n * i.bytes ≤ 140737488355328 := Nat.le_trans (Nat.mul_le_mul_right _ (by omega)) hfit
  have hb' : ¬ (281474976710656 < (n : Int) * (i.bytes : Int)) := by rw [← Int.natCast_mul]; omega
  have hn0 : ¬ ((n : Int) < 0) := by omega
  have hn : ¬ (sLen + n ≤ sCap) := by omega
  have h63' : ¬ (9223372036854775807 < ((sLen : Int) + (n : Int))) := by omega
  have h48 := growslice_fits hg hfit
  have h48' : ¬ (281474976710656 < Builtin.nextslicecap (sLen + n) sCap * i.bytes) := by omega
  have ho' := ho w.drew rfl
  have hmax : max (n : Int) 0 = n := by omega
  by_cases h0 : n * i.size = 0
  · have hx : extN z n i.size = [] := by simp only [extN, h0, if_true]
    rw [hx]
    simp [Builtin.append_, run_underlying ht, run_underlying hu, sizeOf, typeInfo, zeroValue, hi, hz, hw, hn, hn0, hb', hmax, h63', h48', ho', asInt, asIntOf, Question.forced, newRow, grownCap, h0]
  · have hx : extN z n i.size = (Builtin.zeroCells z.cells n).toList := by simp only [extN, h0, if_false]
    rw [hx]
    simp [Builtin.append_, run_underlying ht, run_underlying hu, sizeOf, typeInfo, zeroValue, hi, hz, hw, hn, hn0, hb', hmax, h63', h48', ho', asInt, asIntOf, Question.forced, newRow, grownCap]
    rw [if_neg h0]
    congr 3
    apply Array.ext'
    simp

/-! ### The row that was appended to gets a new name; the old one is given up -/
def Cx.move (c : Cx) (fresh nb tot : Nat) (w' : World) (u : Nat := 0) : Cx :=
  { S := fun k => c.S k ∨ k = fresh
    E := { blk := fun k => if k = fresh then nb else c.E.blk k, tot := fun k => if k = fresh then tot else c.E.tot k }
    L := fun b => c.L b ∨ b = nb
    W := fun b => c.W b ∨ b = nb
    F := fun b o => c.F b o ∨ (b = nb ∧ o < u)
    w := w' }

theorem ext_move {c : Cx} {fresh nb tot : Nat} {w' : World} {u : Nat} (hf : ¬ c.S fresh) (hsize : c.w.heap.size ≤ w'.heap.size) (hWL : ∀ b, c.W b → c.L b) (hother : ∀ b, b < c.w.heap.size → b ≠ nb → w'.heap[b]? = c.w.heap[b]?)
    (hnb : c.W nb ∨ c.w.heap.size ≤ nb) (hk : ∀ o, c.F nb o → nb < c.w.heap.size → w'.cell? ⟨nb, o, none⟩ = c.w.cell? ⟨nb, o, none⟩) (h1 : w'.os = c.w.os) (h2 : w'.tape = c.w.tape) (h3 : w'.output = c.w.output) : Ext c (c.move fresh nb tot w' u) where
  S k h := .inl h
  blk k h := by simp [Cx.move, ne_of_S hf h]
  tot k h := by simp [Cx.move, ne_of_S hf h]
  size := hsize
  L b hb := ⟨fun h => by
    rcases h with h | h
    · exact h
    · subst h
      rcases hnb with hw | hge
      · exact hWL _ hw
      · omega, .inl⟩
  W b hb h := by
    rcases h with h | h
    · exact h
    · subst h
      rcases hnb with hw | hge
      · exact hw
      · omega
  keep b hb hw := hother b hb (fun e => by
    subst e
    rcases hnb with h | h
    · exact hw h
    · omega)
  new k h := by
    rcases h with h | h
    · exact .inl h
    · subst h
      rcases hnb with hnb | hnb
      · exact .inr (.inr (by simpa [Cx.move] using hnb))
      · exact .inr (.inl (by simpa [Cx.move] using hnb))
  F b o h := .inl h
  keepF b o h hb := by
    by_cases e : b = nb
    · subst e; exact hk o h hb
    · exact World.cell?_of_block (hother b hb e)
  newF b o h := by
    rcases h with h | ⟨rfl, _⟩
    · exact .inl h
    · exact .inr hnb.symm
  os := h1
  tape := h2
  output := h3

theorem after_move {lo : Nat} {M : MM} {c : Cx} {id fresh nb tot : Nat} {w' : World} {B : Blk} {u : Nat} (hS : Sim lo M c) (hf : ¬ c.S fresh) (hid : M.mem id ≠ none) (hlo : lo ≤ id) (hsize : c.w.heap.size ≤ w'.heap.size) (hlt : nb < w'.heap.size)
    (hother : ∀ b, b < c.w.heap.size → b ≠ nb → w'.heap[b]? = c.w.heap[b]?) (hnb : nb = c.E.blk id ∨ c.w.heap.size ≤ nb) (hk : ∀ o, c.F nb o → nb < c.w.heap.size → w'.cell? ⟨nb, o, none⟩ = c.w.cell? ⟨nb, o, none⟩) (hu : B.isTok = false → u = 0 ∧ ∀ o, ¬ c.F nb o) (h1 : w'.os = c.w.os) (h2 : w'.tape = c.w.tape) (h3 : w'.output = c.w.output) (hB : BRel (c.move fresh nb tot w' u) fresh B) :
    After lo fresh M c { nx := max M.nx (fresh + 1), mem := upd (upd M.mem id none) fresh (some B) } (c.move fresh nb tot w' u) :=
  have hnb' : c.W nb ∨ c.w.heap.size ≤ nb := hnb.imp_left (fun e => by rw [e]; exact hS.wlive id hid hlo)
  have hext := ext_move (tot := tot) (u := u) hf hsize hS.WL hother hnb' hk h1 h2 h3
  have hm : ∀ k, k ≠ fresh → (upd (upd M.mem id none) fresh (some B)) k ≠ none → M.mem k ≠ none ∧ k ≠ id := fun k hk h => by
    simp only [upd, hk, if_false] at h
    by_cases hki : k = id
    · simp [hki] at h
    · simp only [hki, if_false] at h; exact ⟨h, hki⟩
  have far : ∀ k, M.mem k ≠ none → k ≠ id → c.E.blk k ≠ nb := fun k hk hki e => by
    rcases hnb with h | h
    · exact hki (hS.inj k id hk hid (e.trans h))
    · have := hS.lt k (hS.dom k hk); omega
  { ext := hext
    nx := Nat.le_max_left _ _
    ids := fun k h => h.imp_right .inl
    sim :=
      { dom := fun k h => by
          by_cases hk : k = fresh
          · exact .inr hk
          · exact .inl (hS.dom k (hm k hk h).1)
        nx := fun k h => by
          show k < max M.nx (fresh + 1)
          rcases h with h | h
          · have := hS.nx k h; omega
          · omega
        lt := fun k h => by
          show _ < w'.heap.size
          by_cases hk : k = fresh
          · simpa [Cx.move, hk] using hlt
          · have := hS.lt k (h.resolve_right hk)
            simp only [Cx.move, hk, if_false]; omega
        live := fun k h => by
          by_cases hk : k = fresh
          · exact .inr (by simp [Cx.move, hk])
          · exact .inl (by simpa [Cx.move, hk] using hS.live k (hm k hk h).1)
        wlive := fun k h hl => by
          by_cases hk : k = fresh
          · exact .inr (by simp [Cx.move, hk])
          · exact .inl (by simpa [Cx.move, hk] using hS.wlive k (hm k hk h).1 hl)
        WL := fun b h => h.imp_left (hS.WL b)
        Llt := fun b h => by
          show b < w'.heap.size
          rcases h with h | h
          · have := hS.Llt b h; omega
          · omega
        inj := fun i j hi hj he => by
          by_cases e1 : i = fresh <;> by_cases e2 : j = fresh
          · rw [e1, e2]
          · exfalso
            have := hm j e2 hj
            simp only [Cx.move, e1, e2, if_true, if_false] at he
            exact far j this.1 this.2 he.symm
          · exfalso
            have := hm i e1 hi
            simp only [Cx.move, e1, e2, if_true, if_false] at he
            exact far i this.1 this.2 he
          · exact hS.inj i j (hm i e1 hi).1 (hm j e2 hj).1 (by simpa [Cx.move, e1, e2] using he)
        blk := fun k B' h => by
          by_cases hk : k = fresh
          · subst hk
            simp only [upd, if_true, Option.some.injEq] at h
            subst h; exact hB
          · have h' : upd (upd M.mem id none) fresh (some B) k = some B' := h
            have h0 := hm k hk (by rw [h']; simp)
            simp only [upd, hk, if_false, h0.2] at h
            have hs := hS.dom k h0.1
            exact (hS.blk k B' h).ext hS.WL hext hs (hother _ (hS.lt k hs) (far k h0.1 h0.2)) (fun o ho => ho.resolve_right (fun e => far k h0.1 h0.2 e.1))
        flt := fun b o h => by
          show b < w'.heap.size
          rcases h with h | h
          · have := hS.flt b o h; omega
          · omega
        frz := fun k B' h ht o ho => by
          by_cases hk : k = fresh
          · subst hk
            simp only [upd, if_true, Option.some.injEq] at h
            subst h
            obtain ⟨u0, n0⟩ := hu ht
            simp only [Cx.move, if_true] at ho
            rcases ho with ho | ho
            · exact n0 o ho
            · omega
          · have h' : upd (upd M.mem id none) fresh (some B) k = some B' := h
            have h0 := hm k hk (by rw [h']; simp)
            simp only [upd, hk, if_false, h0.2] at h
            simp only [Cx.move, hk, if_false] at ho
            rcases ho with ho | ho
            · exact hS.frz k B' h ht o ho
            · exact far k h0.1 h0.2 ho.1 } }

theorem nilX_eq {x : X} (h : nilX x = true) {ρ : List AV} : ev ρ x = .d (.v (.slice none 0 0)) := by
  unfold nilX at h
  split at h
  · rfl
  · cases h

theorem sim_app {cl : Call} (ho : o.op = .call cl) (hb : cl.callee = .builtin .append) {s x : Operand} {t e : TypeId} (ha : cl.args.toList = [s, x]) (hts : cl.argTypes.toList = [t, t]) (hu : P.underlying t = some (.slice e)) {ie : TypeInfo} {z : Value}
    {zc : List AV} {s' x' : X} (hi : P.info? e = some ie) (hz : ie.zero = some z) (hzc : constCells z = some zc) (hzl : zc.length = ie.size) (hs : opX s = some s') (hx : opX x = some x') :
    OpSim P call mode (.app e ie.size ie.bytes zc s' x') o := by
  intro draw lo lim fresh ρ M r M' a c hst hS hF hf hloM hdraw K Q hK
  have rs := ev_rel hF hs
  have rx := ev_rel hF hx
  have hargs : cl.args = #[s, x] := by rw [← Array.toArray_toList (xs := cl.args), ha]
  have htys : cl.argTypes = #[t, t] := by rw [← Array.toArray_toList (xs := cl.argTypes), hts]
  have hzs : z.cells.size = ie.size := by have := (constCells_rel (c := c) hzc).arr.1; omega
  have start : ∀ {v : Value} {w' : World}, (Builtin.append_ #[t, t] o.type #[a.eval s, a.eval x]).run P c.w = .ok v w' → (execOp a.eval o).run P c.w = .ok (.value v) w' := by
    intro v w' h
    refine builtin_run ho hb ?_
    simp only [builtin, hargs, htys, List.map_toArray, List.map_cons, List.map_nil, Sem.run_bind, h, Result.andThen_ok, Sem.run_pure]
  simp only [istep] at hst
  split at hst
  · rename_i n news hsc
    obtain ⟨us, hlen, hfc, hrel, hul⟩ := src_run (P := P) hS hsc rx
    split at hst
    · rename_i hones
      have h1 := hrel.ones hones
      split at hst
      · rename_i heq
        rw [heq] at rs
        have hvs := rs.v_inv.1
        split at hst
        · rename_i hn0
          subst hn0
          simp only [Option.some.injEq, Prod.mk.injEq] at hst
          obtain ⟨rfl, rfl⟩ := hst
          have hus : us = [] := List.eq_nil_of_length_eq_zero (by simpa using hul)
          subst hus
          refine wp_value (w' := c.w) (start (v := .slice none 0 0) ?_) (hK _ c (.refl hS) (.scal c rfl))
          have hfc' := hfc c.w rfl
          simp [hvs, Builtin.append_, run_underlying hu, sizeOf, typeInfo, hi, hlen, hfc']
        · rename_i hn0
          split at hst
          · rename_i hc
            simp only [Option.some.injEq, Prod.mk.injEq] at hst
            obtain ⟨rfl, rfl⟩ := hst
            have hrun := run_app_grow (P := P) (w := c.w) (ty := o.type) hu hi hz (base := none) (sLen := 0) (sCap := 0) (olds := []) (fun W _ => by simp [Builtin.firstCells]) hlen hfc (by omega) (by omega) (by simpa using hc.1)
            simp only [Nat.zero_add] at hrun
            have hge := grownCap_ge c.w n 0 e
            simp only [List.nil_append] at hrun
            have hsz : (us.toArray ++ Builtin.zeroCells z.cells (grownCap c.w n 0 e - n)).size = grownCap c.w n 0 e * ie.size := by
              simp only [Array.size_append, List.size_toArray, size_zeroCells, hul, hzs, ← Nat.add_mul]
              congr 1; omega
            refine wp_value (start (by rw [hvs]; exact hrun)) (hK _ _ (after_cells hS hf (.drew _ _) ?_ ?_) ?_)
            · have := hrel.1; simp; omega
            · intro j hj hj'
              have hjl : j < us.length := by rw [← hrel.1]; exact hj
              have : (us.toArray ++ Builtin.zeroCells z.cells (grownCap c.w n 0 e - n))[j] = us[j] := by simp [hjl]
              rw [this]
              exact hrel.2 j hj hjl
            · have := Rel.os (c := c.make fresh (us.toArray ++ Builtin.zeroCells z.cells (grownCap c.w n 0 e - n)).size (c.w.drew.alloc (.cells (us.toArray ++ Builtin.zeroCells z.cells (grownCap c.w n 0 e - n)) e))) fresh 0 n ie.size (grownCap c.w n 0 e) (.inr rfl)
                (by simp only [Cx.make, if_true, hsz]; omega) hge
              simpa [Cx.make] using this
          · cases hst
      · rename_i id len s0 heq
        rw [heq] at rs
        obtain ⟨cap, hvs, hSid, htot, hlc⟩ := rs.os_inv
        split at hst
        · rename_i t' cs hlk
          split at hst
          · rename_i hc
            obtain ⟨hlo, ht', rfl, hcsl, hbytes, h63, -⟩ := hc
            obtain rfl : e = t' := ht'.symm
            simp only [Option.some.injEq, Prod.mk.injEq] at hst
            obtain ⟨rfl, rfl⟩ := hst
            have hmem := (look_some hlk).1
            have hid : M.mem id ≠ none := by rw [hmem]; simp
            have hnf := hS.frz id _ hmem rfl
            obtain ⟨vs, g1, g2, g3, g4⟩ := live_cells hS hmem
            simp only [Nat.zero_add] at htot
            -- what holds of the new id, wherever it lies
            have olds : RelL c (cs.take (len * ie.size)) (vs.toList.take (len * ie.size)) := by
              have := g4.take (len * ie.size)
              rwa [List.take_take, Nat.min_eq_left hcsl] at this
            have holl : (cs.take (len * ie.size)).length = len * ie.size := by rw [List.length_take]; omega
            have both : RelL c (cs.take (len * ie.size) ++ news) (vs.toList.take (len * ie.size) ++ us) := olds.append hrel
            by_cases hroom : len + n ≤ cap
            · -- room: the block is written behind its elements
              have hsum : len * ie.size + us.length ≤ vs.size := by
                rw [hul, g2, ← htot, ← Nat.add_mul]; exact Nat.mul_le_mul_right _ hroom
              have hrun := run_app_room (P := P) (ty := o.type) hu hi g1 hlen (hfc c.w rfl) h1 hroom hsum
              have hlt := hS.lt id hSid
              have hvl : len * ie.size ≤ vs.size := by omega
              refine wp_value (start (by rw [hvs]; exact hrun)) (hK _ (c.move fresh (c.E.blk id) (c.E.tot id) _)
                (after_move hS hf hid hlo (by simp) (by simpa using hlt) (fun b _ hb => setRow_other _ _ _ _ hb) (.inl rfl) (fun o h => absurd h (hnf o)) (fun _ => ⟨rfl, hnf⟩) rfl rfl rfl ?_) ?_)
              · have hext := ext_move (tot := c.E.tot id) (u := 0) (w' := c.w.setRow (c.E.blk id) (vs.toList.take (len * ie.size) ++ us ++ vs.toList.drop (len * ie.size + us.length)).toArray) hf (by simp) hS.WL (fun b _ hb => setRow_other _ _ _ _ hb) (.inl (hS.wlive id hid hlo)) (fun o h => absurd h (hnf o)) rfl rfl rfl
                refine ⟨(vs.toList.take (len * ie.size) ++ us ++ vs.toList.drop (len * ie.size + us.length)).toArray, ?_, ?_, ?_, ?_⟩
                · simp only [Cx.move, if_true]
                  exact setRow_heap _ _ _ _ _ _ g1
                · simp only [Cx.move, if_true]
                  rw [← g2]; simp; omega
                · have := both.1; simp at this ⊢; omega
                · intro j hj hj'
                  have hj2 : j < (vs.toList.take (len * ie.size) ++ us).length := by rw [← both.1]; exact hj
                  have e2 : (vs.toList.take (len * ie.size) ++ us ++ vs.toList.drop (len * ie.size + us.length)).toArray[j] = (vs.toList.take (len * ie.size) ++ us)[j] := by
                    rw [List.getElem_toArray, List.getElem_append_left hj2]
                  rw [e2]
                  exact (both.2 j hj hj2).ext hS.WL hext
              · have := Rel.os (c := c.move fresh (c.E.blk id) (c.E.tot id) (c.w.setRow (c.E.blk id) (vs.toList.take (len * ie.size) ++ us ++ vs.toList.drop (len * ie.size + us.length)).toArray)) fresh 0 (len + n) ie.size cap (.inr rfl)
                  (by simp only [Cx.move, if_true]; omega) hroom
                simpa [Cx.move] using this
            · -- no room: a new block
              have holds : ∀ W : World, W.heap = c.w.heap → (Builtin.firstCells ie.size len (.slice (some ⟨c.E.blk id, 0, none⟩) len cap)).run P W = .ok (vs.toList.take (len * ie.size)).toArray W := by
                intro W hW
                have hll : (vs.toList.take (len * ie.size)).length = len * ie.size := by have := olds.1; omega
                have := run_loadCells_list (P := P) W ⟨c.E.blk id, 0, none⟩ (vs.toList.take (len * ie.size)) (fun j u hu => by
                  have := take_cells (n := len * ie.size) (off := 0) g1 j u (by simpa using hu)
                  rw [← this]
                  simp [World.cell?, hW])
                rw [hll] at this
                simp only [Builtin.firstCells]
                exact this
              have hrun := run_app_grow (P := P) (w := c.w) (ty := o.type) hu hi hz holds hlen hfc (by omega) h63 hbytes
              have hge := grownCap_ge c.w (len + n) cap e
              have hll : (vs.toList.take (len * ie.size)).length = len * ie.size := by have := olds.1; omega
              have hsz : ((vs.toList.take (len * ie.size) ++ us).toArray ++ Builtin.zeroCells z.cells (grownCap c.w (len + n) cap e - (len + n))).size = grownCap c.w (len + n) cap e * ie.size := by
                simp only [Array.size_append, List.size_toArray, List.length_append, hll, size_zeroCells, hul, hzs, ← Nat.add_mul]
                congr 1; omega
              refine wp_value (start (by rw [hvs]; exact hrun)) (hK _ (c.move fresh c.w.heap.size (grownCap c.w (len + n) cap e * ie.size) _)
                (after_move hS hf hid hlo (by simp) (by simp) (fun b hb _ => heap_alloc_old c.w.drew _ b hb) (.inr (Nat.le_refl _)) (fun o h hb => absurd hb (Nat.lt_irrefl _)) (fun _ => ⟨rfl, fun o h => by have := hS.flt _ _ h; omega⟩) rfl rfl rfl ?_) ?_)
              · have hext := ext_move (nb := c.w.heap.size) (tot := grownCap c.w (len + n) cap e * ie.size) (u := 0) (w' := c.w.drew.alloc (.cells ((vs.toList.take (len * ie.size) ++ us).toArray ++ Builtin.zeroCells z.cells (grownCap c.w (len + n) cap e - (len + n))) e)) hf (by simp) hS.WL
                  (fun b hb _ => heap_alloc_old c.w.drew _ b hb) (.inr (Nat.le_refl _)) (fun o h hb => absurd hb (Nat.lt_irrefl _)) rfl rfl rfl
                refine ⟨(vs.toList.take (len * ie.size) ++ us).toArray ++ Builtin.zeroCells z.cells (grownCap c.w (len + n) cap e - (len + n)), ?_, ?_, ?_, ?_⟩
                · simp only [Cx.move, if_true]
                  exact heap_alloc_new c.w.drew _
                · simp only [Cx.move, if_true]
                  exact hsz
                · have := both.1
                  rw [Array.size_append, List.size_toArray]; omega
                · intro j hj hj'
                  have hj2 : j < (vs.toList.take (len * ie.size) ++ us).length := by rw [← both.1]; exact hj
                  have e2 : ((vs.toList.take (len * ie.size) ++ us).toArray ++ Builtin.zeroCells z.cells (grownCap c.w (len + n) cap e - (len + n)))[j] = (vs.toList.take (len * ie.size) ++ us)[j] := by
                    rw [Array.getElem_append_left (by simpa using hj2), List.getElem_toArray]
                  rw [e2]
                  exact (both.2 j hj hj2).ext hS.WL hext
              · have := Rel.os (c := c.move fresh c.w.heap.size (grownCap c.w (len + n) cap e * ie.size) (c.w.drew.alloc (.cells ((vs.toList.take (len * ie.size) ++ us).toArray ++ Builtin.zeroCells z.cells (grownCap c.w (len + n) cap e - (len + n))) e))) fresh 0 (len + n) ie.size (grownCap c.w (len + n) cap e) (.inr rfl)
                  (by simp only [Cx.move, if_true]; omega) hge
                simpa [Cx.move] using this
          · cases hst
        · cases hst
      · cases hst
    · cases hst
  · cases hst

theorem sim_appn {cl : Call} (ho : o.op = .call cl) (hb : cl.callee = .builtin .append) {s x : Operand} {t e : TypeId} (ha : cl.args.toList = [s, x]) (hts : cl.argTypes.toList = [t, t]) (hu : P.underlying t = some (.slice e)) {ie : TypeInfo} {z : Value}
    {zc : List AV} {s' x' : X} (hi : P.info? e = some ie) (hz : ie.zero = some z) (hzc : constCells z = some zc) (hzl : zc.length = ie.size) (hs : opX s = some s') (hnil : nilX s' = true) (hx : opX x = some x') :
    OpSim P call mode (.appn e ie.size ie.bytes zc x') o := by
  intro draw lo lim fresh ρ M r M' a c hst hS hF hf hloM hdraw K Q hK
  have rs := ev_rel hF hs
  have rx := ev_rel hF hx
  have hargs : cl.args = #[s, x] := by rw [← Array.toArray_toList (xs := cl.args), ha]
  have htys : cl.argTypes = #[t, t] := by rw [← Array.toArray_toList (xs := cl.argTypes), hts]
  have hzs : z.cells.size = ie.size := by have := (constCells_rel (c := c) hzc).arr.1; omega
  have start : ∀ {v : Value} {w' : World}, (Builtin.append_ #[t, t] o.type #[a.eval s, a.eval x]).run P c.w = .ok v w' → (execOp a.eval o).run P c.w = .ok (.value v) w' := by
    intro v w' h
    refine builtin_run ho hb ?_
    simp only [builtin, hargs, htys, List.map_toArray, List.map_cons, List.map_nil, Sem.run_bind, h, Result.andThen_ok, Sem.run_pure]
  simp only [istep] at hst
  split at hst
  · rename_i n news hsc
    obtain ⟨us, hlen, hfc, hrel, hul⟩ := src_run (P := P) hS hsc rx
    split at hst
    · rename_i hones
      have h1 := hrel.ones hones
      rw [nilX_eq hnil] at rs
      have hvs := rs.v_inv.1
      split at hst
      · rename_i hn0
        subst hn0
        simp only [Option.some.injEq, Prod.mk.injEq] at hst
        obtain ⟨rfl, rfl⟩ := hst
        have hus : us = [] := List.eq_nil_of_length_eq_zero (by simpa using hul)
        subst hus
        refine wp_value (w' := c.w) (start (v := .slice none 0 0) ?_) (hK _ c (.up hS) (.scal c rfl))
        have hfc' := hfc c.w rfl
        simp [hvs, Builtin.append_, run_underlying hu, sizeOf, typeInfo, hi, hlen, hfc']
      · rename_i hn0
        split at hst
        · rename_i hc
          simp only [Option.some.injEq, Prod.mk.injEq] at hst
          obtain ⟨rfl, rfl⟩ := hst
          have hrun := run_app_grow (P := P) (w := c.w) (ty := o.type) hu hi hz (base := none) (sLen := 0) (sCap := 0) (olds := []) (fun W _ => by simp [Builtin.firstCells]) hlen hfc (by omega) (by omega) (by simpa using hc.1)
          simp only [Nat.zero_add] at hrun
          have hge := grownCap_ge c.w n 0 e
          simp only [List.nil_append] at hrun
          have hsz : (us.toArray ++ Builtin.zeroCells z.cells (grownCap c.w n 0 e - n)).size = grownCap c.w n 0 e * ie.size := by
            simp only [Array.size_append, List.size_toArray, size_zeroCells, hul, hzs, ← Nat.add_mul]
            congr 1; omega
          refine wp_value (start (by rw [hvs]; exact hrun)) (hK _ _ (after_cells hS hf (.drew _ _) ?_ ?_) ?_)
          · have := hrel.1; simp; omega
          · intro j hj hj'
            have hjl : j < us.length := by rw [← hrel.1]; exact hj
            have : (us.toArray ++ Builtin.zeroCells z.cells (grownCap c.w n 0 e - n))[j] = us[j] := by simp [hjl]
            rw [this]
            exact hrel.2 j hj hjl
          · have := Rel.os (c := c.make fresh (us.toArray ++ Builtin.zeroCells z.cells (grownCap c.w n 0 e - n)).size (c.w.drew.alloc (.cells (us.toArray ++ Builtin.zeroCells z.cells (grownCap c.w n 0 e - n)) e))) fresh 0 n ie.size (grownCap c.w n 0 e) (.inr rfl)
              (by simp only [Cx.make, if_true, hsz]; omega) hge
            simpa [Cx.make] using this
        · cases hst
    · cases hst
  · cases hst

theorem toD_one {x : AV} {d : D} (h : toD x = some d) : x.one = true := by
  unfold toD at h
  split at h
  · rfl
  · rfl
  · cases h

theorem toDs_one {cs : List AV} {ds : List D} (h : cs.mapM toD = some ds) : cs.all AV.one = true := by
  obtain ⟨h1, h2⟩ := mapM_get h
  refine List.all_eq_true.2 fun x hx => ?_
  obtain ⟨j, hj, rfl⟩ := List.getElem_of_mem hx
  exact toD_one (h2 j hj (by omega))

theorem toDs_rel {c : Cx} {cs : List AV} {ds : List D} {us : List Value} (h : cs.mapM toD = some ds) (r : RelL c cs us) : RelL c (ds.map .d) us := by
  obtain ⟨h1, h2⟩ := mapM_get h
  refine ⟨by simp only [List.length_map, ← h1]; exact r.1, fun j hj hj' => ?_⟩
  simp only [List.length_map] at hj
  simp only [List.getElem_map]
  exact .d _ _ (toD_rel (h2 j (by omega) hj) (r.2 j (by omega) hj'))

theorem ov_rel {c : Cx} {id n k sz : Nat} {t : TypeId} {vs : Array Value} {ds : List D} {us : List Value} (hs : c.S id) (hg : c.w.heap[c.E.blk id]? = some (.cells vs t (0, 0))) (hF : ∀ j, j < n * sz → c.F (c.E.blk id) j) (hk : k * sz = c.E.tot id) (hl : n ≤ k)
    (hn : ds.length = n * sz) (hr : RelL c (ds.map .d) us) (hv : ∀ j (h : j < us.length), vs[j]? = some us[j]) : Rel c (.ov id ds n sz) (.slice (some ⟨c.E.blk id, 0, none⟩) n k) := by
  have hul : us.length = n * sz := by rw [← hn, ← hr.1]; simp
  refine .ov id ds n sz k (fun j => us.getD j undef) hs (Array.getElem?_eq_some_iff.1 hg).1 (fun j hj => hF j (by omega)) hk hl hn (fun j hj => ?_) (fun j hj => ?_)
  · have hj' : j < us.length := by omega
    rw [cell_of_row c.w _ _ vs t (0, 0) hg, hv j hj']
    simp [List.getD, hj']
  · have hj' : j < us.length := by omega
    have := hr.2 j (by simpa using hj) hj'
    simp only [List.getElem_map] at this
    have e : us.getD j undef = us[j] := by simp [List.getD, hj']
    rw [e]
    cases this with | d _ _ hd => exact hd

theorem sim_vapp {cl : Call} (ho : o.op = .call cl) (hb : cl.callee = .builtin .append) {s x : Operand} {t e : TypeId} (ha : cl.args.toList = [s, x]) (hts : cl.argTypes.toList = [t, t]) (hu : P.underlying t = some (.slice e)) {ie : TypeInfo} {z : Value}
    {zc : List AV} {s' x' : X} (hi : P.info? e = some ie) (hz : ie.zero = some z) (hzc : constCells z = some zc) (hzl : zc.length = ie.size) (hs : opX s = some s') (hx : opX x = some x') :
    OpSim P call mode (.vapp e ie.size ie.bytes zc s' x') o := by
  intro draw lo lim fresh ρ M r M' a c hst hS hF hf hloM hdraw K Q hK
  have rs := ev_rel hF hs
  have rx := ev_rel hF hx
  have hargs : cl.args = #[s, x] := by rw [← Array.toArray_toList (xs := cl.args), ha]
  have htys : cl.argTypes = #[t, t] := by rw [← Array.toArray_toList (xs := cl.argTypes), hts]
  have hzs : z.cells.size = ie.size := by have := (constCells_rel (c := c) hzc).arr.1; omega
  have start : ∀ {v : Value} {w' : World}, (Builtin.append_ #[t, t] o.type #[a.eval s, a.eval x]).run P c.w = .ok v w' → (execOp a.eval o).run P c.w = .ok (.value v) w' := by
    intro v w' h
    refine builtin_run ho hb ?_
    simp only [builtin, hargs, htys, List.map_toArray, List.map_cons, List.map_nil, Sem.run_bind, h, Result.andThen_ok, Sem.run_pure]
  simp only [istep] at hst
  split at hst
  · rename_i n ncs hsc
    obtain ⟨us, hlen, hfc, hrel, hul⟩ := src_run (P := P) hS hsc rx
    split at hst
    · rename_i news hnews
      have hncs : ncs.length = n * ie.size := by rw [← hul]; exact hrel.1
      have hnl : news.length = n * ie.size := by rw [← (mapM_get hnews).1]; exact hncs
      have h1 := hrel.ones (toDs_one hnews)
      split at hst
      · rename_i heq
        rw [heq] at rs
        have hvs := rs.v_inv.1
        split at hst
        · rename_i hn0
          subst hn0
          simp only [Option.some.injEq, Prod.mk.injEq] at hst
          obtain ⟨rfl, rfl⟩ := hst
          have hus : us = [] := List.eq_nil_of_length_eq_zero (by simpa using hul)
          subst hus
          refine wp_value (w' := c.w) (start (v := .slice none 0 0) ?_) (hK _ c (.up hS) (.scal c rfl))
          have hfc' := hfc c.w rfl
          simp [hvs, Builtin.append_, run_underlying hu, sizeOf, typeInfo, hi, hlen, hfc']
        · rename_i hn0
          split at hst
          · rename_i hc
            simp only [Option.some.injEq, Prod.mk.injEq] at hst
            obtain ⟨rfl, rfl⟩ := hst
            have hrun := run_app_grow (P := P) (w := c.w) (ty := o.type) hu hi hz (base := none) (sLen := 0) (sCap := 0) (olds := []) (fun W _ => by simp [Builtin.firstCells]) hlen hfc (by omega) (by omega) (by simpa using hc.1)
            simp only [Nat.zero_add] at hrun
            have hge := grownCap_ge c.w n 0 e
            simp only [List.nil_append] at hrun
            have hsz : (us.toArray ++ Builtin.zeroCells z.cells (grownCap c.w n 0 e - n)).size = grownCap c.w n 0 e * ie.size := by
              simp only [Array.size_append, List.size_toArray, size_zeroCells, hul, hzs, ← Nat.add_mul]
              congr 1; omega
            obtain ⟨haf, hrl⟩ := after_tok (n := n) (sz := ie.size) (k := grownCap c.w n 0 e) hS hf (.drew c.w (.cells (us.toArray ++ Builtin.zeroCells z.cells (grownCap c.w n 0 e - n)) e)) hnews (by have := hrel.1; simp; omega) (fun j hj hj' => by
              have hjl : j < us.length := by rw [← hrel.1]; exact hj
              have : (us.toArray ++ Builtin.zeroCells z.cells (grownCap c.w n 0 e - n))[j] = us[j] := by simp [hjl]
              rw [this]
              exact hrel.2 j hj hjl) hncs hsz.symm hge
            exact wp_value (start (by rw [hvs]; exact hrun)) (hK _ _ haf hrl)
          · cases hst
      · rename_i id ds len s0 heq
        rw [heq] at rs
        split at hst
        · rename_i t' u hlk
          split at hst
          · rename_i hc
            obtain ⟨hlo, ht', rfl, rfl, hbytes, h63, -⟩ := hc
            obtain rfl : e = t' := ht'.symm
            simp only [Option.some.injEq, Prod.mk.injEq] at hst
            obtain ⟨rfl, rfl⟩ := hst
            have hmem := (look_some hlk).1
            have hid : M.mem id ≠ none := by rw [hmem]; simp
            obtain ⟨vs, g1, g2, g3, g4⟩ := hS.blk id _ hmem
            generalize hvs : a.eval s = v at rs
            cases rs with
            | ov _ _ _ _ cap f hSid hbs hFz htot hlc hdl hcf hrf =>
            have olds : RelL c (ds.map .d) (vs.toList.take (len * ie.size)) := by
              refine ⟨by simp; omega, fun j hj hj' => ?_⟩
              simp only [List.length_map] at hj
              have hc := hcf j hj
              rw [cell_of_row c.w _ _ vs e (0, 0) g1] at hc
              have hjv : j < vs.size := by omega
              simp only [List.getElem_map, List.getElem_take]
              have e3 : f j = vs[j] := by
                rw [Array.getElem?_eq_getElem hjv] at hc; exact (Option.some.inj hc).symm
              have := hrf j hj
              rw [e3] at this
              exact .d _ _ (by simpa using this)
            have both : RelL c ((ds ++ news).map .d) (vs.toList.take (len * ie.size) ++ us) := by rw [List.map_append]; exact olds.append (toDs_rel hnews hrel)
            have hll : (vs.toList.take (len * ie.size)).length = len * ie.size := by have := olds.1; simp at this ⊢; omega
            have hbl : (vs.toList.take (len * ie.size) ++ us).length = (len + n) * ie.size := by rw [List.length_append, hll, hul, Nat.add_mul]
            have hdn : (ds ++ news).length = (len + n) * ie.size := by rw [List.length_append, hdl, hnl, Nat.add_mul]
            by_cases hroom : len + n ≤ cap
            · -- room: the block is written behind its elements
              have hsum : len * ie.size + us.length ≤ vs.size := by
                rw [hul, g2, ← htot, ← Nat.add_mul]; exact Nat.mul_le_mul_right _ hroom
              have hrun := run_app_room (P := P) (ty := o.type) hu hi g1 hlen (hfc c.w rfl) h1 hroom hsum
              have hlt := hS.lt id hSid
              have hrow : (c.w.setRow (c.E.blk id) (vs.toList.take (len * ie.size) ++ us ++ vs.toList.drop (len * ie.size + us.length)).toArray).heap[c.E.blk id]? = some (.cells (vs.toList.take (len * ie.size) ++ us ++ vs.toList.drop (len * ie.size + us.length)).toArray e (0, 0)) := setRow_heap _ _ _ _ _ _ g1
              have hkeep : ∀ o, c.F (c.E.blk id) o → c.E.blk id < c.w.heap.size → (c.w.setRow (c.E.blk id) (vs.toList.take (len * ie.size) ++ us ++ vs.toList.drop (len * ie.size + us.length)).toArray).cell? ⟨c.E.blk id, o, none⟩ = c.w.cell? ⟨c.E.blk id, o, none⟩ := by
                intro o ho _
                have hou := g4 o ho
                rw [cell_of_row _ _ _ _ _ _ hrow, cell_of_row _ _ _ _ _ _ g1]
                have h5 : o < (vs.toList.take (len * ie.size)).length := by omega
                rw [List.getElem?_toArray, List.append_assoc, List.getElem?_append_left h5, List.getElem?_take_of_lt hou]
                simp
              have hext := ext_move (tot := c.E.tot id) (u := (len + n) * ie.size) (w' := c.w.setRow (c.E.blk id) (vs.toList.take (len * ie.size) ++ us ++ vs.toList.drop (len * ie.size + us.length)).toArray) hf (by simp) hS.WL (fun b _ hb => setRow_other _ _ _ _ hb) (.inl (hS.wlive id hid hlo)) hkeep rfl rfl rfl
              have hbig : (vs.toList.take (len * ie.size) ++ us ++ vs.toList.drop (len * ie.size + us.length)).toArray.size = vs.size := by simp; omega
              refine wp_value (start (by rw [hvs]; exact hrun)) (hK _ (c.move fresh (c.E.blk id) (c.E.tot id) _ ((len + n) * ie.size))
                (after_move hS hf hid hlo (by simp) (by simpa using hlt) (fun b _ hb => setRow_other _ _ _ _ hb) (.inl rfl) hkeep (by simp [Blk.isTok]) rfl rfl rfl ?_) ?_)
              · refine ⟨_, by simp only [Cx.move, if_true]; exact hrow, by simp only [Cx.move, if_true]; rw [hbig, g2], by rw [hbig, Nat.add_mul, ← hul]; exact hsum, fun o ho => ?_⟩
                simp only [Cx.move, if_true] at ho
                rcases ho with ho | ho
                · have := g4 o ho; rw [Nat.add_mul]; omega
                · exact ho.2
              · have := ov_rel (c := c.move fresh (c.E.blk id) (c.E.tot id) (c.w.setRow (c.E.blk id) (vs.toList.take (len * ie.size) ++ us ++ vs.toList.drop (len * ie.size + us.length)).toArray) ((len + n) * ie.size)) (id := fresh) (n := len + n) (k := cap) (sz := ie.size)
                  (.inr rfl) (by simp only [Cx.move, if_true]; exact hrow) (fun j hj => .inr ⟨by simp [Cx.move], hj⟩) (by simp only [Cx.move, if_true]; exact htot) hroom hdn (both.ext hS.WL hext) (fun j hj => by
                    rw [List.getElem?_toArray, List.getElem?_append_left hj, List.getElem?_eq_getElem hj])
                simpa [Cx.move] using this
            · -- no room: a new block
              have holds : ∀ W : World, W.heap = c.w.heap → (Builtin.firstCells ie.size len (.slice (some ⟨c.E.blk id, 0, none⟩) len cap)).run P W = .ok (vs.toList.take (len * ie.size)).toArray W := by
                intro W hW
                have := run_loadCells_list (P := P) W ⟨c.E.blk id, 0, none⟩ (vs.toList.take (len * ie.size)) (fun j u hu => by
                  have := take_cells (n := len * ie.size) (off := 0) g1 j u (by simpa using hu)
                  rw [← this]
                  simp [World.cell?, hW])
                rw [hll] at this
                simp only [Builtin.firstCells]
                exact this
              have hrun := run_app_grow (P := P) (w := c.w) (ty := o.type) hu hi hz holds hlen hfc (by omega) h63 hbytes
              have hge := grownCap_ge c.w (len + n) cap e
              have hsz : ((vs.toList.take (len * ie.size) ++ us).toArray ++ Builtin.zeroCells z.cells (grownCap c.w (len + n) cap e - (len + n))).size = grownCap c.w (len + n) cap e * ie.size := by
                simp only [Array.size_append, List.size_toArray, hbl, size_zeroCells, hzs, ← Nat.add_mul]
                congr 1; omega
              have hrow := heap_alloc_new c.w.drew (.cells ((vs.toList.take (len * ie.size) ++ us).toArray ++ Builtin.zeroCells z.cells (grownCap c.w (len + n) cap e - (len + n))) e)
              have hkeep : ∀ o, c.F c.w.heap.size o → c.w.heap.size < c.w.heap.size → (c.w.drew.alloc (.cells ((vs.toList.take (len * ie.size) ++ us).toArray ++ Builtin.zeroCells z.cells (grownCap c.w (len + n) cap e - (len + n))) e)).cell? ⟨c.w.heap.size, o, none⟩ = c.w.cell? ⟨c.w.heap.size, o, none⟩ :=
                fun o _ hb => absurd hb (Nat.lt_irrefl _)
              have hext := ext_move (nb := c.w.heap.size) (tot := grownCap c.w (len + n) cap e * ie.size) (u := (len + n) * ie.size) (w' := c.w.drew.alloc (.cells ((vs.toList.take (len * ie.size) ++ us).toArray ++ Builtin.zeroCells z.cells (grownCap c.w (len + n) cap e - (len + n))) e)) hf (by simp) hS.WL
                  (fun b hb _ => heap_alloc_old c.w.drew _ b hb) (.inr (Nat.le_refl _)) hkeep rfl rfl rfl
              refine wp_value (start (by rw [hvs]; exact hrun)) (hK _ (c.move fresh c.w.heap.size (grownCap c.w (len + n) cap e * ie.size) _ ((len + n) * ie.size))
                (after_move hS hf hid hlo (by simp) (by simp) (fun b hb _ => heap_alloc_old c.w.drew _ b hb) (.inr (Nat.le_refl _)) hkeep (by simp [Blk.isTok]) rfl rfl rfl ?_) ?_)
              · refine ⟨_, by simp only [Cx.move, if_true]; exact hrow, by simp only [Cx.move, if_true]; exact hsz, by rw [hsz]; exact Nat.mul_le_mul_right _ hge, fun o ho => ?_⟩
                simp only [Cx.move, if_true] at ho
                rcases ho with ho | ho
                · have := hS.flt _ _ ho; omega
                · exact ho.2
              · have := ov_rel (c := c.move fresh c.w.heap.size (grownCap c.w (len + n) cap e * ie.size) (c.w.drew.alloc (.cells ((vs.toList.take (len * ie.size) ++ us).toArray ++ Builtin.zeroCells z.cells (grownCap c.w (len + n) cap e - (len + n))) e)) ((len + n) * ie.size)) (id := fresh) (n := len + n) (k := grownCap c.w (len + n) cap e) (sz := ie.size)
                  (.inr rfl) (by simp only [Cx.move, if_true]; exact hrow) (fun j hj => .inr ⟨by simp [Cx.move], hj⟩) (by simp [Cx.move]) hge hdn (both.ext hS.WL hext) (fun j hj => by
                    rw [Array.getElem?_append_left (by simpa using hj), List.getElem?_toArray, List.getElem?_eq_getElem hj])
                simpa [Cx.move] using this
          · cases hst
        · cases hst
      · cases hst
    · cases hst
  · cases hst
theorem mapM_d : ∀ ds : List D, (ds.map AV.d).mapM toD = some ds
  | [] => rfl
  | d :: ds => by rw [List.map_cons, List.mapM_cons, mapM_d ds]; rfl

theorem flat_get {α : Type} (l : List α) : ∀ (n j : Nat), j < n * l.length → ((List.replicate n l).flatten)[j]? = l[j % l.length]?
  | 0, j, h => by simp at h
  | n + 1, j, h => by
    rw [List.replicate_succ, List.flatten_cons]
    by_cases hj : j < l.length
    · rw [List.getElem?_append_left hj, Nat.mod_eq_of_lt hj]
    · rw [List.getElem?_append_right (by omega), flat_get l n (j - l.length) (by rw [Nat.add_mul] at h; omega), ← Nat.mod_eq_sub_mod (by omega)]

theorem zrep_rel {c : Cx} {z v : Value} {zc : List AV} {n : Nat} {news : List D} {x : AV} (hzc : constCells z = some zc) (h : zrep zc x = some (n, news)) (r : Rel c x v) :
    ∃ kn k, v = .int kn k ∧ k = (n : Int) ∧ n ≤ 140737488355328 ∧ news.length = n * zc.length ∧ RelL c (news.map .d) (extN z n zc.length) := by
  unfold zrep at h
  split at h
  · rename_i kn k
    split at h
    · rename_i hk
      obtain ⟨ds, hds, hh⟩ := Option.map_eq_some_iff.1 h
      simp only [Prod.mk.injEq] at hh
      obtain ⟨rfl, rfl⟩ := hh
      have hr := constCells_rel (c := c) hzc
      have hzl : zc.length = z.cells.size := by have := hr.arr.1; omega
      have hlen : ds.length = k.toNat * zc.length := by rw [← (mapM_get hds).1]; simp
      refine ⟨kn, k, r.v_inv.1, by omega, by omega, hlen, ?_⟩
      have hx : (extN z k.toNat zc.length) = (Builtin.zeroCells z.cells k.toNat).toList := by
        unfold extN
        split
        · rename_i h0
          have : (Builtin.zeroCells z.cells k.toNat).size = 0 := by simp [Builtin.zeroCells, ← hzl]; simpa using h0
          exact (List.eq_nil_of_length_eq_zero (by simpa using this)).symm
        · rfl
      rw [hx]
      have hd : RelL c ((List.replicate k.toNat zc).flatten) (Builtin.zeroCells z.cells k.toNat).toList := by
        refine ⟨by simp [Builtin.zeroCells, hzl], fun j hj hj' => ?_⟩
        have hj2 : j < k.toNat * zc.length := by simpa using hj
        have e1 := flat_get zc k.toNat j hj2
        have hc0 : 0 < zc.length := by
          rcases Nat.eq_zero_or_pos zc.length with e | e
          · rw [e] at hj2; omega
          · exact e
        have hm : j % zc.length < zc.length := Nat.mod_lt _ hc0
        rw [List.getElem?_eq_getElem hj, List.getElem?_eq_getElem hm, Option.some.injEq] at e1
        rw [e1]
        have hmz : j % zc.length = j % z.cells.size := by rw [hzl]
        have hmz' : j % z.cells.size < z.cells.size := by rw [← hmz, ← hzl]; exact hm
        have e2 : (Builtin.zeroCells z.cells k.toNat).toList[j] = z.cells[j % z.cells.size]'hmz' := by
          simp only [Builtin.zeroCells, Array.toList_map, List.getElem_map, Array.getElem_toList, Array.getElem_range]
          rw [getElem!_pos z.cells _ hmz']
        rw [e2]
        simp only [hmz]
        exact hr.arr.2 _ _ _
      exact toDs_rel hds hd
    · cases h
  · cases h

theorem sim_vext {cl : Call} (ho : o.op = .call cl) (hb : cl.callee = .builtin .append) {s x : Operand} {t u e : TypeId} (ha : cl.args.toList = [s, x]) (hts : cl.argTypes.toList = [t, u]) (hu : P.underlying t = some (.slice e)) (hint : intB P u = true) {ie : TypeInfo} {z : Value}
    {zc : List AV} {s' x' : X} (hi : P.info? e = some ie) (hz : ie.zero = some z) (hzc : constCells z = some zc) (hzl : zc.length = ie.size) (hs : opX s = some s') (hx : opX x = some x') :
    OpSim P call mode (.vext e ie.size ie.bytes zc s' x') o := by
  intro draw lo lim fresh ρ M r M' a c hst hS hF hf hloM hdraw K Q hK
  have rs := ev_rel hF hs
  have rx := ev_rel hF hx
  have hargs : cl.args = #[s, x] := by rw [← Array.toArray_toList (xs := cl.args), ha]
  have htys : cl.argTypes = #[t, u] := by rw [← Array.toArray_toList (xs := cl.argTypes), hts]
  have hzs : z.cells.size = ie.size := by have := (constCells_rel (c := c) hzc).arr.1; omega
  have start : ∀ {v : Value} {w' : World}, (Builtin.append_ #[t, u] o.type #[a.eval s, a.eval x]).run P c.w = .ok v w' → (execOp a.eval o).run P c.w = .ok (.value v) w' := by
    intro v w' h
    refine builtin_run ho hb ?_
    simp only [builtin, hargs, htys, List.map_toArray, List.map_cons, List.map_nil, Sem.run_bind, h, Result.andThen_ok, Sem.run_pure]
  obtain ⟨ku, huk⟩ : ∃ ku, P.underlying u = some (.int ku) := by
    unfold intB at hint
    split at hint
    · rename_i k h; exact ⟨k, h⟩
    · cases hint
  simp only [istep] at hst
  split at hst
  · rename_i n news hzr
    rw [if_pos hzl] at hst
    obtain ⟨kn, k, hxv, hkn, hk2, hnl, hrel⟩ := zrep_rel (c := c) (v := a.eval x) hzc hzr rx
    rw [hzl] at hnl hrel
    have hul : (extN z n ie.size).length = n * ie.size := by have := hrel.1; simp at this; rw [← this, hnl]
    have hnews : (news.map AV.d).mapM toD = some news := mapM_d news
    have hncs : (news.map AV.d).length = n * ie.size := by simp [hnl]
    · have h1 : ∀ u ∈ extN z n ie.size, u.oneCell' = true := hrel.ones (by simp [AV.one])
      split at hst
      · rename_i heq
        rw [heq] at rs
        have hvs := rs.v_inv.1
        split at hst
        · rename_i hn0
          subst hn0
          simp only [Option.some.injEq, Prod.mk.injEq] at hst
          obtain ⟨rfl, rfl⟩ := hst
          refine wp_value (w' := c.w) (start (v := .slice none 0 0) ?_) (hK _ c (.up hS) (.scal c rfl))
          have hk0 : k = 0 := by omega
          subst hk0
          have hw0 : IntKind.i64.wrap 0 = 0 := IntWalk.i64_in _ (by omega)
          simp [hvs, hxv, Builtin.append_, run_underlying hu, run_underlying huk, sizeOf, typeInfo, hi, asInt, asIntOf, hw0]
        · rename_i hn0
          split at hst
          · rename_i hc
            simp only [Option.some.injEq, Prod.mk.injEq] at hst
            obtain ⟨rfl, rfl⟩ := hst
            have hrun := run_ext_grow (P := P) (w := c.w) (ty := o.type) (kn := kn) hu huk hi hz (base := none) (sLen := 0) (sCap := 0) (olds := []) (fun W _ => by simp [Builtin.firstCells]) hkn hk2 (by omega) (by omega) (by simpa using hc.1)
            simp only [Nat.zero_add] at hrun
            have hge := grownCap_ge c.w n 0 e
            simp only [List.nil_append] at hrun
            have hsz : ((extN z n ie.size).toArray ++ Builtin.zeroCells z.cells (grownCap c.w n 0 e - n)).size = grownCap c.w n 0 e * ie.size := by
              simp only [Array.size_append, List.size_toArray, size_zeroCells, hul, hzs, ← Nat.add_mul]
              congr 1; omega
            obtain ⟨haf, hrl⟩ := after_tok (n := n) (sz := ie.size) (k := grownCap c.w n 0 e) hS hf (.drew c.w (.cells ((extN z n ie.size).toArray ++ Builtin.zeroCells z.cells (grownCap c.w n 0 e - n)) e)) hnews (by have := hrel.1; simp; omega) (fun j hj hj' => by
              have hjl : j < (extN z n ie.size).length := by rw [← hrel.1]; exact hj
              have : ((extN z n ie.size).toArray ++ Builtin.zeroCells z.cells (grownCap c.w n 0 e - n))[j] = (extN z n ie.size)[j] := by simp [hjl]
              rw [this]
              exact hrel.2 j hj hjl) hncs hsz.symm hge
            exact wp_value (start (by rw [hvs, hxv]; exact hrun)) (hK _ _ haf hrl)
          · cases hst
      · rename_i id ds len s0 heq
        rw [heq] at rs
        split at hst
        · rename_i t' u hlk
          split at hst
          · rename_i hc
            obtain ⟨hlo, ht', rfl, rfl, hbytes, h63, -⟩ := hc
            obtain rfl : e = t' := ht'.symm
            simp only [Option.some.injEq, Prod.mk.injEq] at hst
            obtain ⟨rfl, rfl⟩ := hst
            have hmem := (look_some hlk).1
            have hid : M.mem id ≠ none := by rw [hmem]; simp
            obtain ⟨vs, g1, g2, g3, g4⟩ := hS.blk id _ hmem
            generalize hvs : a.eval s = v at rs
            cases rs with
            | ov _ _ _ _ cap f hSid hbs hFz htot hlc hdl hcf hrf =>
            have olds : RelL c (ds.map .d) (vs.toList.take (len * ie.size)) := by
              refine ⟨by simp; omega, fun j hj hj' => ?_⟩
              simp only [List.length_map] at hj
              have hc := hcf j hj
              rw [cell_of_row c.w _ _ vs e (0, 0) g1] at hc
              have hjv : j < vs.size := by omega
              simp only [List.getElem_map, List.getElem_take]
              have e3 : f j = vs[j] := by
                rw [Array.getElem?_eq_getElem hjv] at hc; exact (Option.some.inj hc).symm
              have := hrf j hj
              rw [e3] at this
              exact .d _ _ (by simpa using this)
            have both : RelL c ((ds ++ news).map .d) (vs.toList.take (len * ie.size) ++ (extN z n ie.size)) := by rw [List.map_append]; exact olds.append (toDs_rel hnews hrel)
            have hll : (vs.toList.take (len * ie.size)).length = len * ie.size := by have := olds.1; simp at this ⊢; omega
            have hbl : (vs.toList.take (len * ie.size) ++ (extN z n ie.size)).length = (len + n) * ie.size := by rw [List.length_append, hll, hul, Nat.add_mul]
            have hdn : (ds ++ news).length = (len + n) * ie.size := by rw [List.length_append, hdl, hnl, Nat.add_mul]
            by_cases hroom : len + n ≤ cap
            · -- room: the block is written behind its elements
              have hsum : len * ie.size + (extN z n ie.size).length ≤ vs.size := by
                rw [hul, g2, ← htot, ← Nat.add_mul]; exact Nat.mul_le_mul_right _ hroom
              have hrun := run_ext_room (P := P) (ty := o.type) (kn := kn) hu huk hi hz g1 hkn hk2 (Nat.le_trans (Nat.mul_le_mul_right _ (by omega)) hbytes) h1 hroom hsum
              have hlt := hS.lt id hSid
              have hrow : (c.w.setRow (c.E.blk id) (vs.toList.take (len * ie.size) ++ (extN z n ie.size) ++ vs.toList.drop (len * ie.size + (extN z n ie.size).length)).toArray).heap[c.E.blk id]? = some (.cells (vs.toList.take (len * ie.size) ++ (extN z n ie.size) ++ vs.toList.drop (len * ie.size + (extN z n ie.size).length)).toArray e (0, 0)) := setRow_heap _ _ _ _ _ _ g1
              have hkeep : ∀ o, c.F (c.E.blk id) o → c.E.blk id < c.w.heap.size → (c.w.setRow (c.E.blk id) (vs.toList.take (len * ie.size) ++ (extN z n ie.size) ++ vs.toList.drop (len * ie.size + (extN z n ie.size).length)).toArray).cell? ⟨c.E.blk id, o, none⟩ = c.w.cell? ⟨c.E.blk id, o, none⟩ := by
                intro o ho _
                have hou := g4 o ho
                rw [cell_of_row _ _ _ _ _ _ hrow, cell_of_row _ _ _ _ _ _ g1]
                have h5 : o < (vs.toList.take (len * ie.size)).length := by omega
                rw [List.getElem?_toArray, List.append_assoc, List.getElem?_append_left h5, List.getElem?_take_of_lt hou]
                simp
              have hext := ext_move (tot := c.E.tot id) (u := (len + n) * ie.size) (w' := c.w.setRow (c.E.blk id) (vs.toList.take (len * ie.size) ++ (extN z n ie.size) ++ vs.toList.drop (len * ie.size + (extN z n ie.size).length)).toArray) hf (by simp) hS.WL (fun b _ hb => setRow_other _ _ _ _ hb) (.inl (hS.wlive id hid hlo)) hkeep rfl rfl rfl
              have hbig : (vs.toList.take (len * ie.size) ++ (extN z n ie.size) ++ vs.toList.drop (len * ie.size + (extN z n ie.size).length)).toArray.size = vs.size := by simp; omega
              refine wp_value (start (by rw [hvs, hxv]; exact hrun)) (hK _ (c.move fresh (c.E.blk id) (c.E.tot id) _ ((len + n) * ie.size))
                (after_move hS hf hid hlo (by simp) (by simpa using hlt) (fun b _ hb => setRow_other _ _ _ _ hb) (.inl rfl) hkeep (by simp [Blk.isTok]) rfl rfl rfl ?_) ?_)
              · refine ⟨_, by simp only [Cx.move, if_true]; exact hrow, by simp only [Cx.move, if_true]; rw [hbig, g2], by rw [hbig, Nat.add_mul, ← hul]; exact hsum, fun o ho => ?_⟩
                simp only [Cx.move, if_true] at ho
                rcases ho with ho | ho
                · have := g4 o ho; rw [Nat.add_mul]; omega
                · exact ho.2
              · have := ov_rel (c := c.move fresh (c.E.blk id) (c.E.tot id) (c.w.setRow (c.E.blk id) (vs.toList.take (len * ie.size) ++ (extN z n ie.size) ++ vs.toList.drop (len * ie.size + (extN z n ie.size).length)).toArray) ((len + n) * ie.size)) (id := fresh) (n := len + n) (k := cap) (sz := ie.size)
                  (.inr rfl) (by simp only [Cx.move, if_true]; exact hrow) (fun j hj => .inr ⟨by simp [Cx.move], hj⟩) (by simp only [Cx.move, if_true]; exact htot) hroom hdn (both.ext hS.WL hext) (fun j hj => by
                    rw [List.getElem?_toArray, List.getElem?_append_left hj, List.getElem?_eq_getElem hj])
                simpa [Cx.move] using this
            · -- no room: a new block
              have holds : ∀ W : World, W.heap = c.w.heap → (Builtin.firstCells ie.size len (.slice (some ⟨c.E.blk id, 0, none⟩) len cap)).run P W = .ok (vs.toList.take (len * ie.size)).toArray W := by
                intro W hW
                have := run_loadCells_list (P := P) W ⟨c.E.blk id, 0, none⟩ (vs.toList.take (len * ie.size)) (fun j u hu => by
                  have := take_cells (n := len * ie.size) (off := 0) g1 j u (by simpa using hu)
                  rw [← this]
                  simp [World.cell?, hW])
                rw [hll] at this
                simp only [Builtin.firstCells]
                exact this
              have hrun := run_ext_grow (P := P) (w := c.w) (ty := o.type) (kn := kn) hu huk hi hz holds hkn hk2 (by omega) h63 hbytes
              have hge := grownCap_ge c.w (len + n) cap e
              have hsz : ((vs.toList.take (len * ie.size) ++ (extN z n ie.size)).toArray ++ Builtin.zeroCells z.cells (grownCap c.w (len + n) cap e - (len + n))).size = grownCap c.w (len + n) cap e * ie.size := by
                simp only [Array.size_append, List.size_toArray, hbl, size_zeroCells, hzs, ← Nat.add_mul]
                congr 1; omega
              have hrow := heap_alloc_new c.w.drew (.cells ((vs.toList.take (len * ie.size) ++ (extN z n ie.size)).toArray ++ Builtin.zeroCells z.cells (grownCap c.w (len + n) cap e - (len + n))) e)
              have hkeep : ∀ o, c.F c.w.heap.size o → c.w.heap.size < c.w.heap.size → (c.w.drew.alloc (.cells ((vs.toList.take (len * ie.size) ++ (extN z n ie.size)).toArray ++ Builtin.zeroCells z.cells (grownCap c.w (len + n) cap e - (len + n))) e)).cell? ⟨c.w.heap.size, o, none⟩ = c.w.cell? ⟨c.w.heap.size, o, none⟩ :=
                fun o _ hb => absurd hb (Nat.lt_irrefl _)
              have hext := ext_move (nb := c.w.heap.size) (tot := grownCap c.w (len + n) cap e * ie.size) (u := (len + n) * ie.size) (w' := c.w.drew.alloc (.cells ((vs.toList.take (len * ie.size) ++ (extN z n ie.size)).toArray ++ Builtin.zeroCells z.cells (grownCap c.w (len + n) cap e - (len + n))) e)) hf (by simp) hS.WL
                  (fun b hb _ => heap_alloc_old c.w.drew _ b hb) (.inr (Nat.le_refl _)) hkeep rfl rfl rfl
              refine wp_value (start (by rw [hvs, hxv]; exact hrun)) (hK _ (c.move fresh c.w.heap.size (grownCap c.w (len + n) cap e * ie.size) _ ((len + n) * ie.size))
                (after_move hS hf hid hlo (by simp) (by simp) (fun b hb _ => heap_alloc_old c.w.drew _ b hb) (.inr (Nat.le_refl _)) hkeep (by simp [Blk.isTok]) rfl rfl rfl ?_) ?_)
              · refine ⟨_, by simp only [Cx.move, if_true]; exact hrow, by simp only [Cx.move, if_true]; exact hsz, by rw [hsz]; exact Nat.mul_le_mul_right _ hge, fun o ho => ?_⟩
                simp only [Cx.move, if_true] at ho
                rcases ho with ho | ho
                · have := hS.flt _ _ ho; omega
                · exact ho.2
              · have := ov_rel (c := c.move fresh c.w.heap.size (grownCap c.w (len + n) cap e * ie.size) (c.w.drew.alloc (.cells ((vs.toList.take (len * ie.size) ++ (extN z n ie.size)).toArray ++ Builtin.zeroCells z.cells (grownCap c.w (len + n) cap e - (len + n))) e)) ((len + n) * ie.size)) (id := fresh) (n := len + n) (k := grownCap c.w (len + n) cap e) (sz := ie.size)
                  (.inr rfl) (by simp only [Cx.move, if_true]; exact hrow) (fun j hj => .inr ⟨by simp [Cx.move], hj⟩) (by simp [Cx.move]) hge hdn (both.ext hS.WL hext) (fun j hj => by
                    rw [Array.getElem?_append_left (by simpa using hj), List.getElem?_toArray, List.getElem?_eq_getElem hj])
                simpa [Cx.move] using this
          · cases hst
        · cases hst
      · cases hst
  · cases hst
end
end Go.Proofs.Ytegkhdflmboljaa.Sx
