/-
  SX, PART N: RUNNING a printed definition step by step: each law takes one step off the front of 'Wp (bnd o k) r', 'Wp (opt o k) r': it answers, and r holds of the answer.
-/
import Derived.Test.YtnbhmlflbbddcaaSxLDg
namespace Go.Proofs.Ytnbhmlflbbddcaa.Sx
open Go
def Wp {R : Type} (o : Option R) (Q : R → Prop) : Prop := ∃ x, o = some x ∧ Q x
theorem mapM_toD : ∀ ds : List D, (ds.map AV.d).mapM toD = some ds
  | [] => rfl
  | d :: ds => by rw [List.map_cons, List.mapM_cons, mapM_toD ds]; rfl
section
variable {R A : Type} {r : R → Prop}
theorem rn_bnd {o : Option (AV × MM)} {v : AV} {M : MM} {k : AV → MM → Option R} (h : o = some (v, M)) (hk : Wp (k v M) r) : Wp (bnd o k) r := by rw [h]; exact hk
theorem rn_opt {o : Option A} {v : A} {k : A → Option R} (h : o = some v) (hk : Wp (k v) r) : Wp (opt o k) r := by rw [h]; exact hk
theorem rn_done {x : R} (h : r x) : Wp (some x) r := ⟨x, rfl, h⟩
theorem Wp.mono {o : Option R} {Q : R → Prop} (h : Wp o Q) (k : ∀ x, Q x → r x) : Wp o r := by obtain ⟨x, e, q⟩ := h; exact ⟨x, e, k x q⟩
theorem rn_wp {o : Option (AV × MM)} {Q : AV × MM → Prop} {k : AV → MM → Option R} (h : Wp o Q) (hk : ∀ v M', Q (v, M') → Wp (k v M') r) : Wp (bnd o k) r := by
  obtain ⟨⟨v, M'⟩, e, q⟩ := h; rw [e]; exact hk v M' q
theorem rn_upk {M : MM} {f : Nat} {k : MM → Option R} (hk : Wp (k (M.up f)) r) : Wp (upK M f k) r := hk
theorem rn_bumpk {M : MM} {n : Nat} {k : MM → Option R} (hk : Wp (k (M.bump n)) r) : Wp (bumpK M n k) r := hk
theorem rn_if {p : Prop} [Decidable p] {a b : Option R} (h1 : p → Wp a r) (h2 : ¬ p → Wp b r) : Wp (isB (.bool (decide p)) (fun c => if c then a else b)) r := by
  by_cases h : p
  · rw [decide_eq_true h]; exact h1 h
  · rw [decide_eq_false h]; exact h2 h
theorem rn_wsl {n : Nat} {cs : Option (List AV)} {ds : List D} {k : AV → Option R} (h : cs.bind (·.mapM toD) = some ds) (hk : Wp (k (.d (.sl ds n))) r) : Wp (opt (wslA n cs) k) r := by
  cases cs with
  | none => cases h
  | some cs => exact rn_opt (v := .d (.sl ds n)) (by have h : cs.mapM toD = some ds := h
                                                     simp only [wslA, h, Option.map_some]) hk
theorem rn_wapp {m : Mem} {lim : Lm} {sz bytes len n : Nat} {ds es : List D} {k : AV → Option R} (h : es.length = n * sz) (hb : (len + n) * bytes ≤ 140737488355328 ∧ len + n ≤ 9223372036854775807)
    (hk : Wp (k (.d (.sl (ds ++ es) (len + n)))) r) : Wp (opt (wappA m lim sz bytes (.d (.sl ds len)) (.d (.sl es n))) k) r := by
  refine rn_opt (v := .d (.sl (ds ++ es) (len + n))) ?_ hk
  have e1 : sliceCells m lim sz (.d (.sl es n)) = some (n, es.map .d) := by simp only [sliceCells, ← h, Nat.le_refl, if_true, List.take_length]
  simp only [wappA, e1, mapM_toD, if_pos hb]
theorem rn_callw {call : CallT} {mode : FuncId → Mode} {lo : Nat} {lim : Lm} {fresh : Nat} {ρ : List AV} {M : MM} {no : List FuncId} {f : FuncId} {as bs : List AV} {args : List X} {Q : AV × MM → Prop} {k : AV → MM → Option R}
    (hm : mode f = .rw) (hno : no.contains f = false) (h : Wp (call f (as ++ args.map (ev ρ) ++ bs) lo M) Q) (hk : ∀ v M', Q (v, M') → Wp (k v M') r) : Wp (bnd (istep call mode false lo lim fresh (.callw no (.k (.fn f as bs)) args) ρ M) k) r := by
  refine rn_wp (Q := Q) ?_ hk
  simp only [istep, ev, hno, Bool.false_eq_true, if_false, docall, hm]; exact h
theorem rn_callwp {call : CallT} {mode : FuncId → Mode} {draw : Bool} {lo : Nat} {lim : Lm} {fresh : Nat} {ρ : List AV} {M : MM} {no : List FuncId} {f : FuncId} {as bs : List AV} {args : List X} {k : AV → MM → Option R}
    (hm : mode f = .pure) (hno : no.contains f = false) (h : Wp (opt (puA call (look M.mem lim) f (as ++ args.map (ev ρ) ++ bs)) fun v => k v M) r) : Wp (bnd (istep call mode draw lo lim fresh (.callw no (.k (.fn f as bs)) args) ρ M) k) r := by
  rw [← bnd_map] at h
  simp only [istep, ev, hno, Bool.false_eq_true, if_false, docall_pu hm]; exact h
def Cl (x : AV) : Prop := closedA x = true ∧ normA x = x
theorem Cl.snap {x : AV} (h : Cl x) (m : Mem) : snap m x = some x := by simp only [Sx.snap, h.1, if_true, h.2]
theorem Cls.snap {m : Mem} : ∀ {xs : List AV}, (∀ x ∈ xs, Cl x) → xs.mapM (Sx.snap m) = some xs
  | [], _ => rfl
  | x :: xs, h => by rw [List.mapM_cons, (h x (by simp)).snap, Cls.snap (fun y hy => h y (by simp [hy]))]; rfl
theorem rn_puc {call : CallT} {lk : Nat → Option Blk} {f : FuncId} {args : List AV} {v : AV} {k : AV → Option R} (h : PC call f args v) (hs : ∀ x ∈ args, Cl x) (hk : Wp (k v) r) : Wp (opt (puA call lk f args) k) r :=
  rn_opt (puA_ok h (Cls.snap hs) (List.all_eq_true.2 fun x hx => (hs x hx).1)) hk
theorem rn_some {v : A} {k : A → Option R} (hk : Wp (k v) r) : Wp (opt (some v) k) r := hk
theorem rn_bsome {v : AV} {M : MM} {k : AV → MM → Option R} (hk : Wp (k v M) r) : Wp (bnd (some (v, M)) k) r := hk
theorem rn_if_t {a b : Option R} (h : Wp (a) r) : Wp (isB (.bool true) (fun c => if c then a else b)) r := h
theorem rn_if_f {a b : Option R} (h : Wp (b) r) : Wp (isB (.bool false) (fun c => if c then a else b)) r := h
theorem rn_gtt {M : MM} {o : Option (AV × MM)} {k : AV → MM → Option R} (h : Wp (bnd o k) r) : Wp (bnd (gd (.bool true) true M o) k) r := h
theorem rn_gff {M : MM} {o : Option (AV × MM)} {k : AV → MM → Option R} (h : Wp (bnd o k) r) : Wp (bnd (gd (.bool false) false M o) k) r := h
theorem rn_gtf {M : MM} {o : Option (AV × MM)} {k : AV → MM → Option R} (h : Wp (k .undef M) r) : Wp (bnd (gd (.bool true) false M o) k) r := h
theorem rn_gft {M : MM} {o : Option (AV × MM)} {k : AV → MM → Option R} (h : Wp (k .undef M) r) : Wp (bnd (gd (.bool false) true M o) k) r := h
theorem rn_gun {b : Bool} {M : MM} {o : Option (AV × MM)} {k : AV → MM → Option R} (h : Wp (k .undef M) r) : Wp (bnd (gd .undef b M o) k) r := h
theorem rn_pt {a b : AV} {k : AV → Option R} (h : Wp (k a) r) : Wp (opt (pickA (.bool true) a b) k) r := h
theorem rn_pf {a b : AV} {k : AV → Option R} (h : Wp (k b) r) : Wp (opt (pickA (.bool false) a b) k) r := h
section
variable {k : AV → Option R} {a b : Int} {e : EK} {q : IntKind}
theorem rn_add64 (h : -9223372036854775808 ≤ a + b ∧ a + b ≤ 9223372036854775807) (hk : Wp (k (.i (a + b))) r) : Wp (opt (binA .add e (.i a) (.i b)) k) r := rn_opt (by rw [binA_add, IntWalk.i64_in _ h]) hk
theorem rn_sub64 (h : -9223372036854775808 ≤ a - b ∧ a - b ≤ 9223372036854775807) (hk : Wp (k (.i (a - b))) r) : Wp (opt (binA .sub e (.i a) (.i b)) k) r := rn_opt (by rw [binA_sub, IntWalk.i64_in _ h]) hk
theorem rn_rem (h : b ≠ 0) (hk : Wp (k (.int q (a.tmod b))) r) : Wp (opt (binA .rem e (.int q a) (.int q b)) k) r := rn_opt (binA_rem _ _ _ _ h) hk
theorem rn_eql_t (h : a = b) (hk : Wp (k (.bool true)) r) : Wp (opt (binA .eql e (.int q a) (.int q b)) k) r := rn_opt (by rw [binA_eql, decide_eq_true h]) hk
theorem rn_eql_f (h : ¬ a = b) (hk : Wp (k (.bool false)) r) : Wp (opt (binA .eql e (.int q a) (.int q b)) k) r := rn_opt (by rw [binA_eql, decide_eq_false h]) hk
theorem rn_eql (hk : Wp (k (.bool (decide (a = b)))) r) : Wp (opt (binA .eql e (.int q a) (.int q b)) k) r := rn_opt (binA_eql ..) hk
theorem rn_neq_t (h : ¬ a = b) (hk : Wp (k (.bool true)) r) : Wp (opt (binA .neq e (.int q a) (.int q b)) k) r := rn_opt (by rw [binA_neq, decide_eq_true h]) hk
theorem rn_neq_f (h : a = b) (hk : Wp (k (.bool false)) r) : Wp (opt (binA .neq e (.int q a) (.int q b)) k) r := rn_opt (by rw [binA_neq, decide_eq_false (fun hh => hh h)]) hk
theorem rn_neq (hk : Wp (k (.bool (decide (a ≠ b)))) r) : Wp (opt (binA .neq e (.int q a) (.int q b)) k) r := rn_opt (binA_neq ..) hk
theorem rn_lss_t (h : a < b) (hk : Wp (k (.bool true)) r) : Wp (opt (binA .lss e (.int q a) (.int q b)) k) r := rn_opt (by rw [binA_lss, decide_eq_true h]) hk
theorem rn_lss_f (h : ¬ a < b) (hk : Wp (k (.bool false)) r) : Wp (opt (binA .lss e (.int q a) (.int q b)) k) r := rn_opt (by rw [binA_lss, decide_eq_false h]) hk
theorem rn_leq_t (h : a ≤ b) (hk : Wp (k (.bool true)) r) : Wp (opt (binA .leq e (.int q a) (.int q b)) k) r := rn_opt (by rw [binA_leq, decide_eq_true h]) hk
theorem rn_leq_f (h : ¬ a ≤ b) (hk : Wp (k (.bool false)) r) : Wp (opt (binA .leq e (.int q a) (.int q b)) k) r := rn_opt (by rw [binA_leq, decide_eq_false h]) hk
theorem rn_gtr_t (h : b < a) (hk : Wp (k (.bool true)) r) : Wp (opt (binA .gtr e (.int q a) (.int q b)) k) r := rn_opt (by rw [binA_gtr, decide_eq_true h]) hk
theorem rn_gtr_f (h : ¬ b < a) (hk : Wp (k (.bool false)) r) : Wp (opt (binA .gtr e (.int q a) (.int q b)) k) r := rn_opt (by rw [binA_gtr, decide_eq_false h]) hk
theorem rn_gtr (hk : Wp (k (.bool (decide (b < a)))) r) : Wp (opt (binA .gtr e (.int q a) (.int q b)) k) r := rn_opt (binA_gtr ..) hk
theorem rn_geq_t (h : b ≤ a) (hk : Wp (k (.bool true)) r) : Wp (opt (binA .geq e (.int q a) (.int q b)) k) r := rn_opt (by rw [binA_geq, decide_eq_true h]) hk
theorem rn_geq_f (h : ¬ b ≤ a) (hk : Wp (k (.bool false)) r) : Wp (opt (binA .geq e (.int q a) (.int q b)) k) r := rn_opt (by rw [binA_geq, decide_eq_false h]) hk
theorem rn_geq (hk : Wp (k (.bool (decide (b ≤ a)))) r) : Wp (opt (binA .geq e (.int q a) (.int q b)) k) r := rn_opt (binA_geq ..) hk
theorem rn_cvi64 (h : -9223372036854775808 ≤ a ∧ a ≤ 9223372036854775807) (hk : Wp (k (.i a)) r) : Wp (opt (cviA .i64 (.int q a)) k) r := rn_opt (by rw [cviA_int, IntWalk.i64_in _ h]) hk
end
section
variable {k : AV → Option R}
theorem rn_eqb_tt (hk : Wp (k (.bool true)) r) : Wp (opt (binA .eql .bool (.bool true) (.bool true)) k) r := hk
theorem rn_eqb_ff (hk : Wp (k (.bool true)) r) : Wp (opt (binA .eql .bool (.bool false) (.bool false)) k) r := hk
theorem rn_eqb_tf (hk : Wp (k (.bool false)) r) : Wp (opt (binA .eql .bool (.bool true) (.bool false)) k) r := hk
theorem rn_eqb_ft (hk : Wp (k (.bool false)) r) : Wp (opt (binA .eql .bool (.bool false) (.bool true)) k) r := hk
theorem rn_neb_tt (hk : Wp (k (.bool false)) r) : Wp (opt (binA .neq .bool (.bool true) (.bool true)) k) r := hk
theorem rn_neb_ff (hk : Wp (k (.bool false)) r) : Wp (opt (binA .neq .bool (.bool false) (.bool false)) k) r := hk
theorem rn_neb_tf (hk : Wp (k (.bool true)) r) : Wp (opt (binA .neq .bool (.bool true) (.bool false)) k) r := hk
theorem rn_neb_ft (hk : Wp (k (.bool true)) r) : Wp (opt (binA .neq .bool (.bool false) (.bool true)) k) r := hk
theorem rn_not_t (hk : Wp (k (.bool false)) r) : Wp (opt (unA .not (.bool true)) k) r := hk
theorem rn_not_f (hk : Wp (k (.bool true)) r) : Wp (opt (unA .not (.bool false)) k) r := hk
theorem rn_not {b : Bool} (hk : Wp (k (.bool !b)) r) : Wp (opt (unA .not (.bool b)) k) r := hk
theorem rn_eqs {e : EK} {a b : ByteArray} (hk : Wp (k (.bool (a.data.toList == b.data.toList))) r) : Wp (opt (binA .eql e (.str a) (.str b)) k) r := hk
theorem rn_ext0 {a : AV} {l : List AV} (hk : Wp (k a) r) : Wp (opt (extA 0 (.tup (a :: l))) k) r := hk
theorem rn_ext1 {a b : AV} {l : List AV} (hk : Wp (k b) r) : Wp (opt (extA 1 (.tup (a :: b :: l))) k) r := hk
theorem rn_ext2 {a b c : AV} {l : List AV} (hk : Wp (k c) r) : Wp (opt (extA 2 (.tup (a :: b :: c :: l))) k) r := hk
theorem rn_ext3 {a b c d : AV} {l : List AV} (hk : Wp (k d) r) : Wp (opt (extA 3 (.tup (a :: b :: c :: d :: l))) k) r := hk
theorem rn_len_sl {cs : List D} {n : Nat} (hk : Wp (k (.i n)) r) : Wp (opt (lenA (.d (.sl cs n))) k) r := hk
theorem rn_len_nil (hk : Wp (k (.i 0)) r) : Wp (opt (lenA .nilsl) k) r := hk
theorem rn_len_os {id off len sz : Nat} (hk : Wp (k (.i len)) r) : Wp (opt (lenA (.os id off len sz)) k) r := hk
theorem rn_lens {s : ByteArray} (hk : Wp (k (.i s.data.size)) r) : Wp (opt (lensA (.str s)) k) r := hk
theorem rn_nilc {id off : Nat} (hk : Wp (k (.ptr id off)) r) : Wp (opt (nilcA (.ptr id off)) k) r := hk
theorem rn_nilci {cs : List D} (hk : Wp (k (.ip cs)) r) : Wp (opt (nilcA (.ip cs)) k) r := hk
theorem rn_fad {o id off : Nat} (hk : Wp (k (.ptr id (off + o))) r) : Wp (opt (fadA o (.ptr id off)) k) r := hk
theorem rn_fadi {o : Nat} {cs : List D} (hk : Wp (k (.ip (cs.drop o))) r) : Wp (opt (fadA o (.ip cs)) k) r := hk
theorem rn_ixs {sz id off len s : Nat} {i : Int} {q : IntKind} (h : 0 ≤ i ∧ i < (len : Int)) (hk : Wp (k (.ptr id (off + i.toNat * sz))) r) : Wp (opt (ixsA sz (.os id off len s) (.int q i)) k) r := rn_opt (ixsA_os _ _ _ _ _ _ _ h) hk
theorem rn_ixsl {sz : Nat} {ds : List D} {len : Nat} {i : Int} {q : IntKind} (h : 0 ≤ i ∧ i < (len : Int)) (hk : Wp (k (.ip (ds.drop (i.toNat * sz)))) r) : Wp (opt (ixsA sz (.d (.sl ds len)) (.int q i)) k) r := rn_opt (ixsA_sl _ _ _ _ _ h) hk
theorem rn_ld {M : MM} {lim : Lm} {id off : Nat} {t : TypeId} {cs : List AV} {v : AV} (h1 : lim.ok id = true) (h2 : M.mem id = some (.cells t cs)) (h3 : cs[off]? = some v) (hk : Wp (k v) r) : Wp (opt (ld1A (look M.mem lim) (.ptr id off)) k) r := 
  rn_opt (by rw [ld1A_ptr _ _ _ t cs (by rw [look_ok h1, h2]), h3]) hk
theorem rn_ldi {lk : Nat → Option Blk} {d : D} {ds : List D} (hk : Wp (k (.d d)) r) : Wp (opt (ld1A lk (.ip (d :: ds))) k) r := hk
end
section
variable {k : AV → Option R}
theorem rn_gp_tt {o : Option AV} (h : Wp (opt o k) r) : Wp (opt (gdp (.bool true) true o) k) r := h
theorem rn_gp_ff {o : Option AV} (h : Wp (opt o k) r) : Wp (opt (gdp (.bool false) false o) k) r := h
theorem rn_gp_tf {o : Option AV} (h : Wp (k .undef) r) : Wp (opt (gdp (.bool true) false o) k) r := h
theorem rn_gp_ft {o : Option AV} (h : Wp (k .undef) r) : Wp (opt (gdp (.bool false) true o) k) r := h
theorem rn_gp_un {b : Bool} {o : Option AV} (h : Wp (k .undef) r) : Wp (opt (gdp .undef b o) k) r := h
theorem rn_agg {cs : List AV} (h : Wp (k (.agg cs)) r) : Wp (opt (aggA (.agg cs)) k) r := h
theorem rn_aggd {d : D} (h : Wp (k (.agg [.d d])) r) : Wp (opt (aggA (.d d)) k) r := h
theorem rn_aggo {id off len sz : Nat} (h : Wp (k (.agg [.os id off len sz])) r) : Wp (opt (aggA (.os id off len sz)) k) r := h
theorem rn_fld {off n : Nat} {cs : List AV} {v : AV} (h1 : cs[off]? = some v) (h : Wp (k v) r) : Wp (opt (fldA off n false (.agg cs)) k) r := by simp only [fldA, Bool.false_eq_true, if_false, h1]; exact h
theorem rn_fldn {off n : Nat} {cs ds : List AV} (h1 : off + n ≤ cs.length) (h2 : (cs.drop off).take n = ds) (h : Wp (k (.agg ds)) r) : Wp (opt (fldA off n true (.agg cs)) k) r := by simp only [fldA, if_true, h1, h2]; exact h
theorem rn_fldall {n : Nat} {cs : List AV} (h1 : cs.length = n) (h : Wp (k (.agg cs)) r) : Wp (opt (fldA 0 n true (.agg cs)) k) r := rn_fldn (by omega) (by rw [List.drop_zero]; exact List.take_of_length_le (by omega)) h
theorem rn_setc1 {off : Nat} {cs cs' : List AV} {x : AV} (h1 : off < cs.length) (hx : x.cells = [x] ∧ x.one = true) (h2 : cs.set off x = cs') (h : Wp (k (.agg cs')) r) : Wp (opt (setcA off 1 (.agg cs) x) k) r := by
  have e : setAt cs off [x] = cs' := by
    rw [← h2]; unfold setAt; rw [List.set_eq_take_append_cons_drop, if_pos h1]; simp
  have h1' : off + 1 ≤ cs.length := h1
  simp only [setcA, hx.1, List.length_cons, List.length_nil, Nat.zero_add, h1', List.all_cons, List.all_nil, hx.2, Bool.and_self, and_self, if_true, e]; exact h
theorem rn_setcall {n : Nat} {cs ds : List AV} (h1 : ds.length = n) (h2 : cs.length = n) (h3 : ds.all AV.one = true) (h : Wp (k (.agg ds)) r) : Wp (opt (setcA 0 n (.agg cs) (.agg ds)) k) r := by
  have e : setAt cs 0 ds = ds := by unfold setAt; rw [List.take_zero, List.nil_append, List.drop_of_length_le (by omega), List.append_nil]
  simp only [setcA, AV.cells, h1, h2, h3, Nat.zero_add, Nat.le_refl, and_self, if_true, e]; exact h
theorem rn_ldn {M : MM} {lim : Lm} {id off n : Nat} {t : TypeId} {cs ds : List AV} (h1 : lim.ok id = true) (h2 : M.mem id = some (.cells t cs)) (h3 : off + n ≤ cs.length) (h4 : (cs.drop off).take n = ds) (h : Wp (k (.agg ds)) r) : Wp (opt (ldnA (look M.mem lim) n (.ptr id off)) k) r := by
  simp only [ldnA, look_ok h1, h2, if_pos h3, h4]; exact h
theorem rn_mmax {mx : Bool} {a b : Int} {q : IntKind} (h : Wp (k (.int q (if mx then (if b > a then b else a) else (if b < a then b else a)))) r) : Wp (opt (mmaxA mx (.int q a) (.int q b)) k) r := h
theorem rn_pus {call : CallT} {lk : Nat → Option Blk} {f : FuncId} {args args' : List AV} {v : AV} (h : PC call f args' v) (hs : args.mapM (snap lk) = some args') (hc : scalT v = true) (hk : Wp (k v) r) : Wp (opt (puA call lk f args) k) r := rn_opt (puA_sc h hs hc) hk
theorem rn_lkp {M : MM} {lim : Lm} {kk : KK} {zero : AV} {m : Nat} {q : Value} {es : List (Value × AV)} (h0 : kk.fits q = true) (h1 : lim.ok m = true) (h2 : M.mem m = some (.map kk es)) (hk : Wp (k ((findM q es).getD zero)) r) :
    Wp (opt (lkpA (look M.mem lim) kk false zero (.mp m) (.d (.v q))) k) r := by
  have e : lkpA (look M.mem lim) kk false zero (.mp m) (.d (.v q)) = some ((findM q es).getD zero) := by
    simp only [lkpA, h0, look_ok h1, h2, if_true, Bool.false_eq_true, if_false]
    cases findM q es <;> rfl
  rw [e]; exact hk
theorem rn_slsl_d {sz : Nat} {ds : List D} {len : Nat} {lo hi : Option AV} {l h : Int} (h1 : hiA len hi = some h) (h2 : loA lo = some l) (h3 : 0 ≤ l ∧ l ≤ h ∧ h ≤ (len : Int) ∧ len * sz ≤ ds.length)
    (hk : Wp (k (.d (.sl ((ds.drop (l.toNat * sz)).take ((h - l).toNat * sz)) (h - l).toNat))) r) : Wp (opt (slslA sz (.d (.sl ds len)) lo hi) k) r := by
  simp only [slslA, h1, h2, if_pos h3]
  split
  · rename_i e
    have : (h - l).toNat = 0 := by omega
    rw [this, Nat.zero_mul, List.take_zero] at hk; exact hk
  · exact hk
end
section
variable {k : AV → MM → Option R} {call : CallT} {mode : FuncId → Mode} {draw : Bool} {lo : Nat} {lim : Lm} {fresh : Nat} {ρ : List AV} {M : MM}
theorem rn_st1 {id off : Nat} {x : AV} {t : TypeId} {cs cs' : List AV} {M1 : MM} (e : M.put id (.cells t cs') = M1)
    (h1 : lim.ok id = true) (h2 : M.mem id = some (.cells t cs)) (h3 : lo ≤ id ∧ x.cells = [x] ∧ x.one = true) (h4 : off < cs.length) (h5 : cs.set off x = cs') (hk : Wp (k .undef M1) r) :
    Wp (bnd (istep call mode draw lo lim fresh (.st 1 (.k (.ptr id off)) (.k x)) ρ M) k) r := by
  subst h5; subst e
  have e : setAt cs off [x] = cs.set off x := by unfold setAt; rw [List.set_eq_take_append_cons_drop, if_pos h4]; simp
  refine rn_bnd (v := .undef) (M := M.put id (.cells t (cs.set off x))) ?_ hk
  have h4' : off + 1 ≤ cs.length := h4
  simp only [istep, ev, look_ok h1, h2, h3.2.1, List.length_cons, List.length_nil, List.all_cons, List.all_nil, h3.2.2, Bool.and_self, h3.1, h4', and_self, Nat.zero_add, if_true, e]
theorem rn_stn {id off n : Nat} {t : TypeId} {cs cs' xs : List AV} {M1 : MM} (e : M.put id (.cells t cs') = M1)
    (h1 : lim.ok id = true) (h2 : M.mem id = some (.cells t cs)) (h3 : lo ≤ id ∧ xs.length = n ∧ xs.all AV.one = true) (h4 : off + n ≤ cs.length) (h5 : setAt cs off xs = cs') (hk : Wp (k .undef M1) r) :
    Wp (bnd (istep call mode draw lo lim fresh (.st n (.k (.ptr id off)) (.k (.agg xs))) ρ M) k) r := by
  subst h5; subst e
  refine rn_bnd (v := .undef) (M := M.put id (.cells t (setAt cs off xs))) ?_ hk
  simp only [istep, ev, look_ok h1, h2, AV.cells, h3, h4, and_self, if_true]
theorem rn_mkmap {kk : KK} {M1 : MM} (e : M.alloc fresh (.map kk []) = M1) (hk : Wp (k (.mp fresh) M1) r) : Wp (bnd (istep call mode draw lo lim fresh (.mkmap kk) ρ M) k) r := by subst e; exact hk
theorem rn_new {t : TypeId} {cs : List AV} {M1 : MM} (e : M.alloc fresh (.cells t cs) = M1) (hk : Wp (k (.ptr fresh 0) M1) r) : Wp (bnd (istep call mode draw lo lim fresh (.new t cs) ρ M) k) r := by subst e; exact hk
theorem rn_box {t : TypeId} {cs : List AV} {M1 : MM} (e : M.alloc fresh (.cells t cs) = M1) (hk : Wp (k (.ptr fresh 0) M1) r) : Wp (bnd (istep call mode draw lo lim fresh (.box t (.k (.agg cs))) ρ M) k) r := by subst e; exact hk
theorem rn_mksl {t : TypeId} {n sz : Nat} {zero cs : List AV} {parts : List (Nat × Nat × X)} {M1 : MM} (e : M.alloc fresh (.cells t cs) = M1) (h : fill zero (parts.map fun p => (p.1, p.2.1, ev ρ p.2.2)) = some cs) (hk : Wp (k (.os fresh 0 n sz) M1) r) :
    Wp (bnd (istep call mode draw lo lim fresh (.mksl t n sz zero parts) ρ M) k) r := by
  subst e
  refine rn_bnd (v := .os fresh 0 n sz) (M := M.alloc fresh (.cells t cs)) ?_ hk
  simp only [istep, h, Option.map_some]
theorem rn_mset {kk : KK} {m : Nat} {q : Value} {x : AV} {es : List (Value × AV)} {M1 : MM} (e : M.put m (.map kk (putM q x es)) = M1) (h0 : kk.fits q = true) (h1 : lim.ok m = true) (h2 : M.mem m = some (.map kk es)) (h3 : lo ≤ m) (hk : Wp (k .undef M1) r) :
    Wp (bnd (istep call mode draw lo lim fresh (.mset kk (.k (.mp m)) (.k (.d (.v q))) (.k x)) ρ M) k) r := by
  subst e
  refine rn_bnd (v := .undef) (M := M.put m (.map kk (putM q x es))) ?_ hk
  simp only [istep, ev, h0, look_ok h1, h2, h3, and_self, if_true]
theorem rn_mkslice {t sz bytes n : Nat} {zero : List AV} {M1 : MM}
    (e : M.alloc fresh (.cells t ((List.replicate n zero).flatten)) = M1) (h : n ≤ 9223372036854775807 ∧ bytes * n ≤ 281474976710656) (hk : Wp (k (.os fresh 0 n sz) M1) r) :
    Wp (bnd (istep call mode draw lo lim fresh (.mkslice t sz bytes zero (.k (.i n)) (.k (.i n))) ρ M) k) r := by
  subst e
  refine rn_bnd (v := .os fresh 0 n sz) (M := M.alloc fresh (.cells t ((List.replicate n zero).flatten))) ?_ hk
  simp only [istep, ev, asI]
  rw [if_pos (by refine ⟨by omega, by omega, by omega, ?_⟩; have := h.2; rw [← Int.natCast_mul]; omega)]
  simp
end
section
variable {k : AV → Option R}
theorem rn_fld00 {cs : List AV} (h : Wp (k (.agg [])) r) : Wp (opt (fldA 0 0 true (.agg cs)) k) r := rn_fldn (by omega) (by simp) h
theorem rn_mke {cs : List AV} (h : Wp (k (.agg cs)) r) : Wp (opt ((fill cs []).map .agg) k) r := h
theorem rn_fill1 {cs cs' : List AV} {o : Nat} {x : AV} {ps : List (Nat × Nat × AV)} (h1 : o < cs.length) (hx : x.cells = [x]) (h2 : cs.set o x = cs') (h : Wp (opt ((fill cs' ps).map .agg) k) r) : Wp (opt ((fill cs ((o, 1, x) :: ps)).map .agg) k) r := by
  have e : setAt cs o [x] = cs' := by
    rw [← h2]; unfold setAt; rw [List.set_eq_take_append_cons_drop, if_pos h1]; simp
  have h1' : o + 1 ≤ cs.length := h1
  simp only [fill, hx, List.length_cons, List.length_nil, Nat.zero_add, h1', and_self, if_true, e]; exact h
theorem locA_all {n : Nat} {cs : List AV} (h1 : cs.length = n) : locA n true (.agg cs) = some (.agg cs) := by
  simp only [locA, if_true, h1, Nat.le_refl, List.take_of_length_le (Nat.le_of_eq h1)]
theorem rn_loc {n : Nat} {cs : List AV} (h1 : cs.length = n) (h : Wp (k (.agg cs)) r) : Wp (opt (locA n true (.agg cs)) k) r := rn_opt (locA_all h1) h
theorem rn_res2 {o1 o2 : Option AV} {a b : AV} (h1 : o1 = some a) (h2 : o2 = some b) (h : Wp (k (.tup [a, b])) r) : Wp (opt (resL [o1, o2]) k) r := by subst h1; subst h2; exact h
theorem rn_set0 {y0 x : AV} {l : List AV} (hx : x.cells = [x] ∧ x.one = true) (h : Wp (k (.agg (x :: l))) r) : Wp (opt (setcA 0 1 (.agg (y0 :: l)) x) k) r := rn_setc1 (by simp) hx rfl h
theorem rn_mk0 {y0 x : AV} {l : List AV} {ps : List (Nat × Nat × AV)} (hx : x.cells = [x] ∧ x.one = true) (h : Wp (opt ((fill (x :: l) ps).map .agg) k) r) : Wp (opt ((fill (y0 :: l) ((0, 1, x) :: ps)).map .agg) k) r := rn_fill1 (by simp) hx.1 rfl h
theorem rn_set1 {y0 y1 x : AV} {l : List AV} (hx : x.cells = [x] ∧ x.one = true) (h : Wp (k (.agg (y0 :: x :: l))) r) : Wp (opt (setcA 1 1 (.agg (y0 :: y1 :: l)) x) k) r := rn_setc1 (by simp) hx rfl h
theorem rn_mk1 {y0 y1 x : AV} {l : List AV} {ps : List (Nat × Nat × AV)} (hx : x.cells = [x] ∧ x.one = true) (h : Wp (opt ((fill (y0 :: x :: l) ps).map .agg) k) r) : Wp (opt ((fill (y0 :: y1 :: l) ((1, 1, x) :: ps)).map .agg) k) r := rn_fill1 (by simp) hx.1 rfl h
end
end
/-! ### Functions without memory -/
def Ans (v : AV) (M : MM) : AV × MM → Prop := fun x => x.1 = v ∧ x.2.mem = M.mem ∧ M.nx ≤ x.2.nx
def CC (call : CallT) (f : FuncId) (args : List AV) (v : AV) : Prop := ∀ lo M, Wp (call f args lo M) (Ans v M)
section
variable {R : Type} {v : AV} {M : MM}
theorem rn_ans : Wp (some (v, M)) (Ans v M) := rn_done ⟨rfl, rfl, Nat.le_refl _⟩
theorem rn_ans' {v' : AV} (h : v' = v) : Wp (some (v', M)) (Ans v M) := by subst h; exact rn_ans
theorem rn_upa {f : Nat} {k : MM → Option (AV × MM)} (hk : Wp (k (M.up f)) (Ans v (M.up f))) : Wp (upK M f k) (Ans v M) :=
  Wp.mono (o := k (M.up f)) hk fun _ h => ⟨h.1, h.2.1, Nat.le_trans (Nat.le_max_left _ _) h.2.2⟩
theorem rn_bumpa {n : Nat} {k : MM → Option (AV × MM)} (hk : Wp (k (M.bump n)) (Ans v (M.bump n))) : Wp (bumpK M n k) (Ans v M) :=
  Wp.mono (o := k (M.bump n)) hk fun _ h => ⟨h.1, h.2.1, Nat.le_trans (Nat.le_add_right _ _) h.2.2⟩
theorem rn_cc {call : CallT} {f : FuncId} {args : List AV} {lo : Nat} {v' : AV} {k : AV → MM → Option (AV × MM)} (h : CC call f args v') (hk : ∀ M', Wp (k v' M') (Ans v M')) : Wp (bnd (call f args lo M) k) (Ans v M) := by
  refine rn_wp (h lo M) fun w M' hh => ?_
  obtain ⟨h1, h2, h3⟩ := hh
  simp only at h1 h2 h3
  subst h1
  exact (hk M').mono fun _ q => ⟨q.1, q.2.1.trans h2, Nat.le_trans h3 q.2.2⟩
theorem CC.pc {call : CallT} {f : FuncId} {args : List AV} (h : CC call f args v) (hf : ∀ m, freeze m 0 v = some v) : PC call f args v := by
  obtain ⟨⟨w, M'⟩, h1, h2, _⟩ := h 0 ⟨0, fun _ => none⟩
  simp only at h2
  subst h2
  exact ⟨w, M', h1, hf _⟩
theorem rn_pcc {call : CallT} {lk : Nat → Option Blk} {f : FuncId} {args : List AV} {w : AV} {Q : R → Prop} {k : AV → Option R} (h : CC call f args w) (hf : ∀ m, freeze m 0 w = some w) (hs : ∀ x ∈ args, Cl x) (hk : Wp (k w) Q) : Wp (opt (puA call lk f args) k) Q :=
  rn_puc (h.pc hf) hs hk
end
end Go.Proofs.Ytnbhmlflbbddcaa.Sx
