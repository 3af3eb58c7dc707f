/-
  SX, PART H: FUNCTIONS OF GO'S LIBRARY THAT THE KIT'S SHELF HAS CONTRACTS FOR: what such a function computes of plain data, as a 'prim' of all the layers.
-/
import Derived.Test.YtnbhmlflbbddcaaSxJDg
import Derived.Below
import Derived.Lib.Join
import Derived.Lib.Bytealg
namespace Go.Proofs.Ytnbhmlflbbddcaa.Sx
open Go

/-! ### Values without tokens stand for what they stood for -/
theorem DR.nrm {L : Nat → Nat → Prop} {w : World} {x : D} {v : Value} (h : DR L w x v) : DR L w (nrm x) v := by
  induction h with
  | v x h =>
    rcases nrmV_cases x with e | ⟨rfl, e⟩
    · simp only [Sx.nrm, e]; exact .v x h
    · simp only [Sx.nrm, e]; exact .sl0 none 0
  | sl0 a k => exact .sl0 a k
  | sl ad n k cells f hn hnk hs hb hL hc hr ih =>
    simp only [Sx.nrm]
    have hl := nrms_len cells
    refine .sl ad n k (nrms cells) f hn hnk hs hb (fun j hj => hL j (by omega)) (fun j hj => hc j (by omega)) (fun j hj => ?_)
    have e : (nrms cells)[j] = Sx.nrm cells[j] := by simp only [nrms_eq, List.getElem_map]
    rw [e]; exact ih j (by omega)

theorem Rel.vv {c : Cx} {x : AV} {v : Value} (h : Rel c x v) : Rel c (vv x) v := by
  induction h with
  | d x v h => exact .d _ v h.nrm
  | ptr id off h => exact .ptr id off h
  | ip ad cells f hs hb hL hc hr =>
    have hl := nrms_len cells
    refine .ip ad (nrms cells) f hs hb (fun j hj => hL j (by omega)) (fun j hj => hc j (by omega)) (fun j hj => ?_)
    have e : (nrms cells)[j] = Sx.nrm cells[j] := by simp only [nrms_eq, List.getElem_map]
    rw [e]; exact (hr j (by omega)).nrm
  | os id off len sz k h hk hl => exact .os id off len sz k h hk hl
  | ov id cells n sz k f h hb hF hk hl hn hc hr =>
    have hl' := nrms_len cells
    by_cases h0 : n = 0
    · subst h0
      have : cells = [] := List.eq_nil_of_length_eq_zero (by rw [hn, Nat.zero_mul])
      subst this
      exact .d _ _ (.sl0 _ k)
    · refine .d _ _ (.sl ⟨c.E.blk id, 0, none⟩ n k (nrms cells) f (by omega) hl rfl hb (fun j hj => fun ho => ho.2 (by simpa using hF j (by omega))) (fun j hj => ?_) (fun j hj => ?_))
      · rw [add_blk, Nat.zero_add]; exact hc j (by omega)
      · have e : (nrms cells)[j] = Sx.nrm cells[j] := by simp only [nrms_eq, List.getElem_map]
        rw [e]; exact (hr j (by omega)).nrm
  | mp id h => exact .mp id h
  | fn f as bs us vs h1 h2 r1 r2 i1 i2 =>
    refine .fn f (vvs as) (vvs bs) us vs (by rw [vvs_len]; exact h1) (by rw [vvs_len]; exact h2) (fun i hi hi' => ?_) (fun i hi hi' => ?_)
    · have e : (vvs as)[i] = Sx.vv (as[i]'(by rw [vvs_len] at hi; exact hi)) := by simp only [vvs_eq, List.getElem_map]
      rw [e]; exact i1 i _ hi'
    · have e : (vvs bs)[i] = Sx.vv (bs[i]'(by rw [vvs_len] at hi; exact hi)) := by simp only [vvs_eq, List.getElem_map]
      rw [e]; exact i2 i _ hi'
  | agg as us h1 r1 i1 =>
    refine .agg (vvs as) us (by rw [vvs_len]; exact h1) (fun i hi hi' => ?_)
    have e : (vvs as)[i] = Sx.vv (as[i]'(by rw [vvs_len] at hi; exact hi)) := by simp only [vvs_eq, List.getElem_map]
    rw [e]; exact i1 i _ hi'
  | tup as us h1 r1 i1 =>
    refine .tup (vvs as) us (by rw [vvs_len]; exact h1) (fun i hi hi' => ?_)
    have e : (vvs as)[i] = Sx.vv (as[i]'(by rw [vvs_len] at hi; exact hi)) := by simp only [vvs_eq, List.getElem_map]
    rw [e]; exact i1 i _ hi'

theorem RelL.vvs {c : Cx} {as : List AV} {us : List Value} (h : RelL c as us) : RelL c (vvs as) us := by
  refine ⟨by rw [vvs_len]; exact h.1, fun i hi hi' => ?_⟩
  have e : (Sx.vvs as)[i] = Sx.vv (as[i]'(by rw [vvs_len] at hi; exact hi)) := by simp only [vvs_eq, List.getElem_map]
  rw [e]; exact (h.2 i _ hi').vv

mutual
theorem nrm_nrm : ∀ x : D, nrm (nrm x) = nrm x
  | .v x => by rcases nrmV_cases x with e | ⟨rfl, e⟩ <;> simp only [nrm, e, nrms]
  | .sl cs n => by simp only [nrm, nrms_nrms cs]
theorem nrms_nrms : ∀ x : List D, nrms (nrms x) = nrms x
  | [] => rfl
  | x :: r => by simp only [nrms, nrm_nrm x, nrms_nrms r]
end
mutual
theorem vv_vv : ∀ x : AV, vv (vv x) = vv x
  | .d x => by simp only [vv, nrm_nrm]
  | .ptr a b => rfl
  | .ip cs => by simp only [vv, nrms_nrms]
  | .os a b c d => rfl
  | .ov _ cs n _ => by simp only [vv, nrm, nrms_nrms]
  | .mp a => rfl
  | .fn f as bs => by simp only [vv, vvs_vvs as, vvs_vvs bs]
  | .agg cs => by simp only [vv, vvs_vvs cs]
  | .tup cs => by simp only [vv, vvs_vvs cs]
theorem vvs_vvs : ∀ x : List AV, vvs (vvs x) = vvs x
  | [] => rfl
  | x :: r => by simp only [vvs, vv_vv x, vvs_vvs r]
end

/-! ### A world that has grown above what was there -/
def Cx.to (c : Cx) (w' : World) : Cx := { c with w := w' }

theorem ext_to {c : Cx} {w' : World} (h : Go.RowKit.Below c.w.heap.size c.w w') : Ext c (c.to w') :=
  ⟨fun _ h => h, fun _ _ => rfl, fun _ _ => rfl, h.size, fun _ _ => Iff.rfl, fun _ _ h => h, fun b hb _ => h.block b hb, fun _ h => .inl h, fun _ _ h => h, fun _ _ _ hb => h.cell hb, fun _ _ h => .inl h, h.os, h.tape, h.output⟩

theorem sim_to {lo : Nat} {M : MM} {c : Cx} (hS : Sim lo M c) {w' : World} (h : Go.RowKit.Below c.w.heap.size c.w w') : Sim lo M (c.to w') where
  dom := hS.dom
  nx := hS.nx
  lt id hs := Nat.lt_of_lt_of_le (hS.lt id hs) h.size
  live := hS.live
  wlive := hS.wlive
  WL := hS.WL
  Llt b hb := Nat.lt_of_lt_of_le (hS.Llt b hb) h.size
  inj := hS.inj
  blk id B hB := by
    have hs := hS.dom id (by rw [hB]; simp)
    exact (hS.blk id B hB).ext hS.WL (ext_to h) hs (h.block _ (hS.lt id hs)) (fun _ h => h)
  flt b o hf := Nat.lt_of_lt_of_le (hS.flt b o hf) h.size
  frz := hS.frz

abbrev primOf (q : List AV → Option Value) : List AV → Nat → MM → Option (AV × MM) := fun args _ M => ((q (vvs args)).map fun v => AV.d (.v v)).map (·, M)

theorem primOf_ok {P : Program} {f : FuncId} {q : List AV → Option Value} (hfn : ∃ fn, P.funcs[f]? = some fn ∧ fn.body.isNone = false ∧ (fn.name == "runtime.NumGoroutine") = false) (hq : ∀ args v, q args = some v → scal v = true)
    (h : ∀ args v (c : Cx) vs, q args = some v → RelL c args vs → Calls P f vs.toArray c.w fun e w' => e = .returned v ∧ Go.RowKit.Below c.w.heap.size c.w w') : PrimOK P f (primOf q) := by
  refine ⟨hfn, fun args lo M r M' hp c vs hS hr hlo => ?_⟩
  obtain ⟨x, hx, hh⟩ := Option.map_eq_some_iff.1 hp
  obtain ⟨v, hv, rfl⟩ := Option.map_eq_some_iff.1 hx
  simp only [Prod.mk.injEq] at hh
  obtain ⟨rfl, rfl⟩ := hh
  refine (h _ v c vs hv hr.vvs).mono ?_
  rintro e w' ⟨rfl, hb⟩
  exact ⟨v, c.to w', rfl, rfl, ⟨sim_to hS hb, ext_to hb, Nat.le_refl _, fun _ h => .inl h⟩, .scal _ (hq _ _ hv)⟩

theorem primOf_ext (q : List AV → Option Value) : PrimExt (primOf q) := by
  intro args lo M2 r M2' M1 hp hM
  obtain ⟨x, hx, hh⟩ := Option.map_eq_some_iff.1 hp
  simp only [Prod.mk.injEq] at hh
  obtain ⟨rfl, rfl⟩ := hh
  exact ⟨M1, by show Option.map _ _ = _; rw [hx]; rfl, fun fresh => .refl hM⟩

theorem primOf_v {S : Sig} {f : FuncId} {q : List AV → Option Value} (hq : ∀ args v, q args = some v → v ≠ .slice none 0 0) (hr : S.rs f = []) : PrimV S f (primOf q) := by
  refine PrimV.of (q := fun args => (q (vvs args)).map fun v => AV.d (.v v)) (fun args r h => ?_) hr
  rw [vvs_vvs] at h
  obtain ⟨v, hv, rfl⟩ := Option.map_eq_some_iff.1 h
  exact ⟨_, h, vv_v (hq _ _ hv)⟩

/-! ### strings.Join, bytealg.CompareString, stringslite.Index at one byte -/
def strD : D → Option ByteArray
  | .v (.string s) => some s
  | _ => none

def joinQ : List AV → Option Value
  | [.d (.sl cells n), .d (.v (.string sep))] =>
    match cells.mapM strD with
    | some xs => if xs.length = n ∧ n ≤ 140737488355328 ∧ (Lib.join (xs.map (·.data.toList)) sep.data.toList).length ≤ 140737488355328 then some (.string ⟨(Lib.join (xs.map (·.data.toList)) sep.data.toList).toArray⟩) else none
    | none => none
  | _ => none

theorem joinQ_inv {args : List AV} {v : Value} (h : joinQ args = some v) : ∃ cells sep xs, args = [.d (.sl cells xs.length), .str sep] ∧ cells.mapM strD = some xs ∧ xs.length ≤ 140737488355328 ∧
    (Lib.join (xs.map (·.data.toList)) sep.data.toList).length ≤ 140737488355328 ∧ v = .string ⟨(Lib.join (xs.map (·.data.toList)) sep.data.toList).toArray⟩ := by
  unfold joinQ at h
  split at h
  · rename_i cells n sep
    split at h
    · rename_i xs hxs
      split at h
      · rename_i hc
        obtain ⟨rfl, h1, h2⟩ := hc
        injection h with h
        exact ⟨cells, sep, xs, rfl, hxs, h1, h2, h.symm⟩
      · cases h
    · cases h
  · cases h

theorem strD_mapM : ∀ {cells : List D} {xs : List ByteArray}, cells.mapM strD = some xs → cells.length = xs.length ∧ ∀ (j : Nat) (x : ByteArray), xs[j]? = some x → cells[j]? = some (D.v (.string x))
  | [], xs, h => by
    simp only [List.mapM_nil, Option.pure_def, Option.some.injEq] at h
    subst h; exact ⟨rfl, fun j x h => by simp at h⟩
  | d :: cells, xs, h => by
    rw [List.mapM_cons] at h
    simp only [Option.pure_def, Option.bind_eq_bind, Option.bind_eq_some_iff, Option.some.injEq] at h
    obtain ⟨a, ha, ys, hys, rfl⟩ := h
    have e : d = .v (.string a) := by
      unfold strD at ha
      split at ha
      · injection ha with ha; rw [ha]
      · cases ha
    obtain ⟨h1, h2⟩ := strD_mapM hys
    refine ⟨by simp [h1], fun j x hx => ?_⟩
    cases j with
    | zero => simp only [List.getElem?_cons_zero, Option.some.injEq] at hx ⊢; rw [e, hx]
    | succ j => simp only [List.getElem?_cons_succ] at hx ⊢; exact h2 j x hx

theorem join_calls {P : Program} {f : FuncId}
    (h0 : ∀ (a : Option Addr) (c : Nat) (sep : ByteArray) (w : World), Calls P f #[.slice a 0 c, .string sep] w fun e w' => e = .returned (.string ⟨#[]⟩) ∧ w' = w)
    (h1 : ∀ (bk o c : Nat) (xs : List ByteArray) (sep : ByteArray) (w : World) (_ : ∀ (j : Nat) x, xs[j]? = some x → w.cell? ⟨bk, o + j, none⟩ = some (.string x)) (_ : bk < w.heap.size) (_ : xs.length ≤ 140737488355328) (_ : xs.length ≤ c)
      (_ : (Lib.join (xs.map (·.data.toList)) sep.data.toList).length ≤ 140737488355328),
      Calls P f #[.slice (some ⟨bk, o, none⟩) xs.length c, .string sep] w fun e w' => e = .returned (.string ⟨(Lib.join (xs.map (·.data.toList)) sep.data.toList).toArray⟩) ∧ Go.RowKit.Below w.heap.size w w')
    (args : List AV) (v : Value) (c : Cx) (vs : List Value) (hq : joinQ args = some v) (hr : RelL c args vs) : Calls P f vs.toArray c.w fun e w' => e = .returned v ∧ Go.RowKit.Below c.w.heap.size c.w w' := by
  obtain ⟨cells, sep, xs, rfl, hm, b1, b2, rfl⟩ := joinQ_inv hq
  obtain ⟨k1, k2⟩ := strD_mapM hm
  obtain ⟨v1, v2, rfl⟩ : ∃ v1 v2, vs = [v1, v2] := by
    have := hr.1
    match vs, this with
    | [a, b], _ => exact ⟨a, b, rfl⟩
  have r1 := hr.2 0 (by simp) (by simp)
  have r2 := hr.2 1 (by simp) (by simp)
  simp only [List.getElem_cons_zero, List.getElem_cons_succ] at r1 r2
  obtain ⟨rfl, _⟩ := r2.v_inv
  cases r1 with
  | d _ _ hd =>
    generalize hn : xs.length = n at hd
    cases hd with
    | sl0 a k =>
      have e : xs = [] := List.eq_nil_of_length_eq_zero hn
      subst e
      refine (h0 a k sep c.w).mono ?_
      rintro e w' ⟨rfl, rfl⟩
      exact ⟨rfl, .refl _ _⟩
    | sl ad n k _ g hn0 hnk hs hb hL hc hrr =>
      subst hn
      obtain ⟨ab, ao, asp⟩ := ad
      simp only at hs hb
      subst hs
      refine (h1 ab ao k xs sep c.w (fun j x hx => ?_) hb b1 hnk b2).mono fun e w' h => h
      obtain ⟨hj, e⟩ := List.getElem?_eq_some_iff.1 (k2 j x hx)
      have q1 := hc j hj
      have q2 := hrr j hj
      rw [e] at q2
      rw [add_blk] at q1
      generalize g j = y at q1 q2
      cases q2 with
      | v _ _ => exact q1

theorem join_scal : ∀ args v, joinQ args = some v → scal v = true ∧ v ≠ .slice none 0 0 := by
  intro args v h
  obtain ⟨_, _, _, _, _, _, _, rfl⟩ := joinQ_inv h
  exact ⟨rfl, by simp⟩

def ixQ : List AV → Option Value
  | [.d (.v (.string a)), .d (.v (.string b))] => match b.data.toList with
    | [c] => some (.int .i64 (Lib.indexByte a.data.toList c))
    | _ => none
  | _ => none

theorem ixQ_inv {args : List AV} {v : Value} (h : ixQ args = some v) : ∃ a c, args = [.str a, .str ⟨#[c]⟩] ∧ v = .int .i64 (Lib.indexByte a.data.toList c) := by
  unfold ixQ at h
  split at h
  · rename_i a b
    split at h
    · rename_i c hc
      injection h with h
      have e : b = ⟨#[c]⟩ := by
        obtain ⟨⟨l⟩⟩ := b
        simp only at hc
        rw [hc]
      subst e
      exact ⟨a, c, rfl, h.symm⟩
    · cases h
  · cases h

theorem ix_scal : ∀ args v, ixQ args = some v → scal v = true ∧ v ≠ .slice none 0 0 := by
  intro args v h
  obtain ⟨_, _, _, rfl⟩ := ixQ_inv h
  exact ⟨rfl, by simp⟩

theorem ix_calls {P : Program} {f : FuncId} (h : ∀ (s : ByteArray) (c : UInt8) (w : World), Calls P f #[.string s, .string ⟨#[c]⟩] w fun e w' => e = .returned (.int .i64 (Lib.indexByte s.data.toList c)) ∧ w' = w)
    (args : List AV) (v : Value) (c : Cx) (vs : List Value) (hq : ixQ args = some v) (hr : RelL c args vs) : Calls P f vs.toArray c.w fun e w' => e = .returned v ∧ Go.RowKit.Below c.w.heap.size c.w w' := by
  obtain ⟨a, b, rfl, rfl⟩ := ixQ_inv hq
  obtain ⟨v1, v2, rfl⟩ : ∃ v1 v2, vs = [v1, v2] := by
    have := hr.1
    match vs, this with
    | [a, b], _ => exact ⟨a, b, rfl⟩
  have r1 := hr.2 0 (by simp) (by simp)
  have r2 := hr.2 1 (by simp) (by simp)
  simp only [List.getElem_cons_zero, List.getElem_cons_succ] at r1 r2
  obtain ⟨rfl, _⟩ := r1.v_inv
  obtain ⟨rfl, _⟩ := r2.v_inv
  refine (h a b c.w).mono ?_
  rintro e w' ⟨rfl, rfl⟩
  exact ⟨rfl, .refl _ _⟩
end Go.Proofs.Ytnbhmlflbbddcaa.Sx
