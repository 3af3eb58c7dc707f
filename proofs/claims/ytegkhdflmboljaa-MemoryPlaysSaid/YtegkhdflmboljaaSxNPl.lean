/-
  SX, PART N: RUNNING a printed definition step by step: each law takes one step off the front of 'Wp (bnd o k) r', 'Wp (opt o k) r': it answers, and r holds of the answer.
-/
import Derived.Test.YtegkhdflmboljaaSxLPl
namespace Go.Proofs.Ytegkhdflmboljaa.Sx
open Go
def Wp {R : Type} (o : Option R) (Q : R → Prop) : Prop := ∃ x, o = some x ∧ Q x
theorem mapM_toD : ∀ ds : List D, (ds.map AV.d).mapM toD = some ds
  | [] => rfl
  | d :: ds => by rw [List.map_cons, List.mapM_cons, mapM_toD ds]; rfl
section
variable {R A : Type} {r : R → Prop}
theorem rn_bnd {o : Option (AV × MM)} {v : AV} {M : MM} {k : AV → MM → Option R} (h : o = some (v, M)) (hk : Wp (k v M) r) : Wp (bnd o k) r := by rw [h]; exact hk
theorem rn_opt {o : Option A} {v : A} {k : A → Option R} (h : o = some v) (hk : Wp (k v) r) : Wp (opt o k) r := by rw [h]; exact hk
theorem rn_done {x : R} (h : r x) : Wp (some x) r := ⟨x, rfl, h⟩
theorem Wp.mono {o : Option R} {Q : R → Prop} (h : Wp o Q) (k : ∀ x, Q x → r x) : Wp o r := by obtain ⟨x, e, q⟩ := h; exact ⟨x, e, k x q⟩
theorem rn_wp {o : Option (AV × MM)} {Q : AV × MM → Prop} {k : AV → MM → Option R} (h : Wp o Q) (hk : ∀ v M', Q (v, M') → Wp (k v M') r) : Wp (bnd o k) r := by
  obtain ⟨⟨v, M'⟩, e, q⟩ := h; rw [e]; exact hk v M' q
theorem rn_rwD {call : CallT} {f : FuncId} {args : List AV} {lo : Nat} {L : Lm} {M : MM} {Q : AV × MM → Prop} {k : AV → MM → Option R} (h : Wp (call f args lo ⟨M.nx, hideM L M.mem⟩) Q) (hn : ∀ x, Q x → M.nx ≤ x.2.nx) (hk : ∀ v M', Q (v, M') → Wp (k v ⟨M'.nx, backM L M.nx M.mem M'.mem⟩) r) : Wp (bnd (rwD call f args lo L M) k) r := by
  obtain ⟨⟨v, M'⟩, e, q⟩ := h; rw [rwD_ok e (hn _ q)]; exact hk v M' q
theorem rn_upk {M : MM} {f : Nat} {k : MM → Option R} (hk : Wp (k (M.up f)) r) : Wp (upK M f k) r := hk
theorem rn_bumpk {M : MM} {n : Nat} {k : MM → Option R} (hk : Wp (k (M.bump n)) r) : Wp (bumpK M n k) r := hk
def Cl (x : AV) : Prop := closedA x = true ∧ normA x = x
theorem Cl.snap {x : AV} (h : Cl x) (m : Mem) : snap m x = some x := by simp only [Sx.snap, h.1, if_true, h.2]
theorem Cls.snap {m : Mem} : ∀ {xs : List AV}, (∀ x ∈ xs, Cl x) → xs.mapM (Sx.snap m) = some xs
  | [], _ => rfl
  | x :: xs, h => by rw [List.mapM_cons, (h x (by simp)).snap, Cls.snap (fun y hy => h y (by simp [hy]))]; rfl
theorem rn_puc {call : CallT} {lk : Nat → Option Blk} {f : FuncId} {args : List AV} {v : AV} {k : AV → Option R} (h : PC call f args v) (hs : ∀ x ∈ args, Cl x) (hk : Wp (k v) r) : Wp (opt (puA call lk f args) k) r :=
  rn_opt (puA_ok h (Cls.snap hs) (List.all_eq_true.2 fun x hx => (hs x hx).1)) hk
theorem rn_some {v : A} {k : A → Option R} (hk : Wp (k v) r) : Wp (opt (some v) k) r := hk
theorem rn_if_t {a b : Option R} (h : Wp (a) r) : Wp (isB (.bool true) (fun c => if c then a else b)) r := h
theorem rn_if_f {a b : Option R} (h : Wp (b) r) : Wp (isB (.bool false) (fun c => if c then a else b)) r := h
theorem rn_pt {a b : AV} {k : AV → Option R} (h : Wp (k a) r) : Wp (opt (pickA (.bool true) a b) k) r := h
theorem rn_pf {a b : AV} {k : AV → Option R} (h : Wp (k b) r) : Wp (opt (pickA (.bool false) a b) k) r := h
section
variable {k : AV → Option R} {a b : Int} {e : EK} {q : IntKind}
theorem rn_add64 (h : -9223372036854775808 ≤ a + b ∧ a + b ≤ 9223372036854775807) (hk : Wp (k (.i (a + b))) r) : Wp (opt (binA .add e (.i a) (.i b)) k) r := rn_opt (by rw [binA_add, IntWalk.i64_in _ h]) hk
theorem rn_sub64 (h : -9223372036854775808 ≤ a - b ∧ a - b ≤ 9223372036854775807) (hk : Wp (k (.i (a - b))) r) : Wp (opt (binA .sub e (.i a) (.i b)) k) r := rn_opt (by rw [binA_sub, IntWalk.i64_in _ h]) hk
theorem rn_mul64 (h : -9223372036854775808 ≤ a * b ∧ a * b ≤ 9223372036854775807) (hk : Wp (k (.i (a * b))) r) : Wp (opt (binA .mul e (.i a) (.i b)) k) r := rn_opt (by rw [binA_mul, IntWalk.i64_in _ h]) hk
theorem rn_subu (h : 0 ≤ a - b ∧ a - b ≤ 18446744073709551615) (hk : Wp (k (.int .u64 (a - b))) r) : Wp (opt (binA .sub e (.int .u64 a) (.int .u64 b)) k) r := rn_opt (by rw [binA_sub, IntWalk.u64_in _ h]) hk
theorem rn_rem (h : b ≠ 0) (hk : Wp (k (.int q (a.tmod b))) r) : Wp (opt (binA .rem e (.int q a) (.int q b)) k) r := rn_opt (binA_rem _ _ _ _ h) hk
theorem rn_quo64 (h : 0 ≤ a ∧ a ≤ 9223372036854775807 ∧ 1 ≤ b) (hk : Wp (k (.i (a / b))) r) : Wp (opt (binA .quo e (.i a) (.i b)) k) r := 
  rn_opt (by rw [binA_quo _ _ _ _ (by omega), IntWalk.i64_quo _ _ h]) hk
theorem rn_quou (h : 0 ≤ a ∧ a ≤ 18446744073709551615 ∧ 1 ≤ b) (hk : Wp (k (.int .u64 (a / b))) r) : Wp (opt (binA .quo e (.int .u64 a) (.int .u64 b)) k) r := 
  rn_opt (by rw [binA_quo _ _ _ _ (by omega), IntWalk.u64_quo _ _ h]) hk
theorem rn_eql_t (h : a = b) (hk : Wp (k (.bool true)) r) : Wp (opt (binA .eql e (.int q a) (.int q b)) k) r := rn_opt (by rw [binA_eql, decide_eq_true h]) hk
theorem rn_eql_f (h : ¬ a = b) (hk : Wp (k (.bool false)) r) : Wp (opt (binA .eql e (.int q a) (.int q b)) k) r := rn_opt (by rw [binA_eql, decide_eq_false h]) hk
theorem rn_neq_t (h : ¬ a = b) (hk : Wp (k (.bool true)) r) : Wp (opt (binA .neq e (.int q a) (.int q b)) k) r := rn_opt (by rw [binA_neq, decide_eq_true h]) hk
theorem rn_neq_f (h : a = b) (hk : Wp (k (.bool false)) r) : Wp (opt (binA .neq e (.int q a) (.int q b)) k) r := rn_opt (by rw [binA_neq, decide_eq_false (fun hh => hh h)]) hk
theorem rn_lss_t (h : a < b) (hk : Wp (k (.bool true)) r) : Wp (opt (binA .lss e (.int q a) (.int q b)) k) r := rn_opt (by rw [binA_lss, decide_eq_true h]) hk
theorem rn_lss_f (h : ¬ a < b) (hk : Wp (k (.bool false)) r) : Wp (opt (binA .lss e (.int q a) (.int q b)) k) r := rn_opt (by rw [binA_lss, decide_eq_false h]) hk
theorem rn_leq_t (h : a ≤ b) (hk : Wp (k (.bool true)) r) : Wp (opt (binA .leq e (.int q a) (.int q b)) k) r := rn_opt (by rw [binA_leq, decide_eq_true h]) hk
theorem rn_leq_f (h : ¬ a ≤ b) (hk : Wp (k (.bool false)) r) : Wp (opt (binA .leq e (.int q a) (.int q b)) k) r := rn_opt (by rw [binA_leq, decide_eq_false h]) hk
theorem rn_gtr_t (h : b < a) (hk : Wp (k (.bool true)) r) : Wp (opt (binA .gtr e (.int q a) (.int q b)) k) r := rn_opt (by rw [binA_gtr, decide_eq_true h]) hk
theorem rn_gtr_f (h : ¬ b < a) (hk : Wp (k (.bool false)) r) : Wp (opt (binA .gtr e (.int q a) (.int q b)) k) r := rn_opt (by rw [binA_gtr, decide_eq_false h]) hk
theorem rn_geq_t (h : b ≤ a) (hk : Wp (k (.bool true)) r) : Wp (opt (binA .geq e (.int q a) (.int q b)) k) r := rn_opt (by rw [binA_geq, decide_eq_true h]) hk
theorem rn_geq_f (h : ¬ b ≤ a) (hk : Wp (k (.bool false)) r) : Wp (opt (binA .geq e (.int q a) (.int q b)) k) r := rn_opt (by rw [binA_geq, decide_eq_false h]) hk
theorem rn_cvi64 (h : -9223372036854775808 ≤ a ∧ a ≤ 9223372036854775807) (hk : Wp (k (.i a)) r) : Wp (opt (cviA .i64 (.int q a)) k) r := rn_opt (by rw [cviA_int, IntWalk.i64_in _ h]) hk
theorem rn_cviu (h : 0 ≤ a ∧ a ≤ 18446744073709551615) (hk : Wp (k (.int .u64 a)) r) : Wp (opt (cviA .u64 (.int q a)) k) r := rn_opt (by rw [cviA_int, IntWalk.u64_in _ h]) hk
end
section
variable {k : AV → Option R}
theorem rn_not_t (hk : Wp (k (.bool false)) r) : Wp (opt (unA .not (.bool true)) k) r := hk
theorem rn_not_f (hk : Wp (k (.bool true)) r) : Wp (opt (unA .not (.bool false)) k) r := hk
theorem rn_eqp1 {id off : Nat} (hk : Wp (k (.bool false)) r) : Wp (opt (binA .eql .ptr (.ptr id off) .nil) k) r := hk
theorem rn_eqp2 (hk : Wp (k (.bool true)) r) : Wp (opt (binA .eql .ptr .nil .nil) k) r := hk
theorem rn_nes {e : EK} {a b : ByteArray} (hk : Wp (k (.bool !(a.data.toList == b.data.toList))) r) : Wp (opt (binA .neq e (.str a) (.str b)) k) r := hk
theorem rn_ext0 {a : AV} {l : List AV} (hk : Wp (k a) r) : Wp (opt (extA 0 (.tup (a :: l))) k) r := hk
theorem rn_ext1 {a b : AV} {l : List AV} (hk : Wp (k b) r) : Wp (opt (extA 1 (.tup (a :: b :: l))) k) r := hk
theorem rn_ext2 {a b c : AV} {l : List AV} (hk : Wp (k c) r) : Wp (opt (extA 2 (.tup (a :: b :: c :: l))) k) r := hk
theorem rn_len_sl {cs : List D} {n : Nat} (hk : Wp (k (.i n)) r) : Wp (opt (lenA (.d (.sl cs n))) k) r := hk
theorem rn_len_nil (hk : Wp (k (.i 0)) r) : Wp (opt (lenA .nilsl) k) r := hk
theorem rn_len_os {id off len sz : Nat} (hk : Wp (k (.i len)) r) : Wp (opt (lenA (.os id off len sz)) k) r := hk
theorem rn_nilc {id off : Nat} (hk : Wp (k (.ptr id off)) r) : Wp (opt (nilcA (.ptr id off)) k) r := hk
theorem rn_fad {o id off : Nat} (hk : Wp (k (.ptr id (off + o))) r) : Wp (opt (fadA o (.ptr id off)) k) r := hk
theorem rn_ixs {sz id off len s : Nat} {i : Int} {q : IntKind} (h : 0 ≤ i ∧ i < (len : Int)) (hk : Wp (k (.ptr id (off + i.toNat * sz))) r) : Wp (opt (ixsA sz (.os id off len s) (.int q i)) k) r := rn_opt (ixsA_os _ _ _ _ _ _ _ h) hk
theorem rn_ixsl {sz : Nat} {ds : List D} {len : Nat} {i : Int} {q : IntKind} (h : 0 ≤ i ∧ i < (len : Int)) (hk : Wp (k (.ip (ds.drop (i.toNat * sz)))) r) : Wp (opt (ixsA sz (.d (.sl ds len)) (.int q i)) k) r := rn_opt (ixsA_sl _ _ _ _ _ h) hk
theorem rn_ld {M : MM} {lim : Lm} {id off : Nat} {t : TypeId} {cs : List AV} {v : AV} (h1 : lim.ok id = true) (h2 : M.mem id = some (.cells t cs)) (h3 : cs[off]? = some v) (hk : Wp (k v) r) : Wp (opt (ld1A (look M.mem lim) (.ptr id off)) k) r := 
  rn_opt (by rw [ld1A_ptr _ _ _ t cs (by rw [look_ok h1, h2]), h3]) hk
end
section
variable {k : AV → Option R}
theorem rn_gp_tt {o : Option AV} (h : Wp (opt o k) r) : Wp (opt (gdp (.bool true) true o) k) r := h
theorem rn_gp_ff {o : Option AV} (h : Wp (opt o k) r) : Wp (opt (gdp (.bool false) false o) k) r := h
theorem rn_gp_tf {o : Option AV} (h : Wp (k .undef) r) : Wp (opt (gdp (.bool true) false o) k) r := h
theorem rn_gp_ft {o : Option AV} (h : Wp (k .undef) r) : Wp (opt (gdp (.bool false) true o) k) r := h
theorem rn_agg {cs : List AV} (h : Wp (k (.agg cs)) r) : Wp (opt (aggA (.agg cs)) k) r := h
theorem rn_fld {off n : Nat} {cs : List AV} {v : AV} (h1 : cs[off]? = some v) (h : Wp (k v) r) : Wp (opt (fldA off n false (.agg cs)) k) r := by simp only [fldA, Bool.false_eq_true, if_false, h1]; exact h
theorem rn_fldn {off n : Nat} {cs ds : List AV} (h1 : off + n ≤ cs.length) (h2 : (cs.drop off).take n = ds) (h : Wp (k (.agg ds)) r) : Wp (opt (fldA off n true (.agg cs)) k) r := by simp only [fldA, if_true, h1, h2]; exact h
theorem rn_fldall {n : Nat} {cs : List AV} (h1 : cs.length = n) (h : Wp (k (.agg cs)) r) : Wp (opt (fldA 0 n true (.agg cs)) k) r := rn_fldn (by omega) (by rw [List.drop_zero]; exact List.take_of_length_le (by omega)) h
theorem rn_setcall {n : Nat} {cs ds : List AV} (h1 : ds.length = n) (h2 : cs.length = n) (h3 : ds.all AV.one = true) (h : Wp (k (.agg ds)) r) : Wp (opt (setcA 0 n (.agg cs) (.agg ds)) k) r := by
  have e : setAt cs 0 ds = ds := by unfold setAt; rw [List.take_zero, List.nil_append, List.drop_of_length_le (by omega), List.append_nil]
  simp only [setcA, AV.cells, h1, h2, h3, Nat.zero_add, Nat.le_refl, and_self, if_true, e]; exact h
theorem rn_ldni {lk : Nat → Option Blk} {n : Nat} {ds : List D} {cs : List AV} (h1 : n ≤ ds.length) (h2 : (ds.take n).map .d = cs) (h : Wp (k (.agg cs)) r) : Wp (opt (ldnA lk n (.ip ds)) k) r := by simp only [ldnA, if_pos h1, h2]; exact h
theorem rn_ldn {M : MM} {lim : Lm} {id off n : Nat} {t : TypeId} {cs ds : List AV} (h1 : lim.ok id = true) (h2 : M.mem id = some (.cells t cs)) (h3 : off + n ≤ cs.length) (h4 : (cs.drop off).take n = ds) (h : Wp (k (.agg ds)) r) : Wp (opt (ldnA (look M.mem lim) n (.ptr id off)) k) r := by
  simp only [ldnA, look_ok h1, h2, if_pos h3, h4]; exact h
theorem rn_ixp {sz len id off : Nat} {i : Int} {q : IntKind} (h : 0 ≤ i ∧ i < (len : Int)) (hk : Wp (k (.ptr id (off + i.toNat * sz))) r) : Wp (opt (ixpA sz len (.ptr id off) (.int q i)) k) r := by simp only [ixpA, asI, if_pos h]; exact hk
theorem rn_lkp {M : MM} {lim : Lm} {kk : KK} {zero : AV} {m : Nat} {q : Value} {es : List (Value × AV)} (h0 : kk.fits q = true) (h1 : lim.ok m = true) (h2 : M.mem m = some (.map kk es)) (hk : Wp (k ((findM q es).getD zero)) r) :
    Wp (opt (lkpA (look M.mem lim) kk false zero (.mp m) (.d (.v q))) k) r := by
  have e : lkpA (look M.mem lim) kk false zero (.mp m) (.d (.v q)) = some ((findM q es).getD zero) := by
    simp only [lkpA, h0, look_ok h1, h2, if_true, Bool.false_eq_true, if_false]
    cases findM q es <;> rfl
  rw [e]; exact hk
end
section
variable {k : AV → MM → Option R} {call : CallT} {mode : FuncId → Mode} {draw : Bool} {lo : Nat} {lim : Lm} {fresh : Nat} {ρ : List AV} {M : MM}
theorem rn_st1 {id off : Nat} {x : AV} {t : TypeId} {cs cs' : List AV} {M1 : MM} (e : M.put id (.cells t cs') = M1)
    (h1 : lim.ok id = true) (h2 : M.mem id = some (.cells t cs)) (h3 : lo ≤ id ∧ x.cells = [x] ∧ x.one = true) (h4 : off < cs.length) (h5 : cs.set off x = cs') (hk : Wp (k .undef M1) r) :
    Wp (bnd (istep call mode draw lo lim fresh (.st 1 (.k (.ptr id off)) (.k x)) ρ M) k) r := by
  subst h5; subst e
  have e : setAt cs off [x] = cs.set off x := by unfold setAt; rw [List.set_eq_take_append_cons_drop, if_pos h4]; simp
  refine rn_bnd (v := .undef) (M := M.put id (.cells t (cs.set off x))) ?_ hk
  have h4' : off + 1 ≤ cs.length := h4
  simp only [istep, ev, look_ok h1, h2, h3.2.1, List.length_cons, List.length_nil, List.all_cons, List.all_nil, h3.2.2, Bool.and_self, h3.1, h4', and_self, Nat.zero_add, if_true, e]
theorem rn_stn {id off n : Nat} {t : TypeId} {cs cs' xs : List AV} {M1 : MM} (e : M.put id (.cells t cs') = M1)
    (h1 : lim.ok id = true) (h2 : M.mem id = some (.cells t cs)) (h3 : lo ≤ id ∧ xs.length = n ∧ xs.all AV.one = true) (h4 : off + n ≤ cs.length) (h5 : setAt cs off xs = cs') (hk : Wp (k .undef M1) r) :
    Wp (bnd (istep call mode draw lo lim fresh (.st n (.k (.ptr id off)) (.k (.agg xs))) ρ M) k) r := by
  subst h5; subst e
  refine rn_bnd (v := .undef) (M := M.put id (.cells t (setAt cs off xs))) ?_ hk
  simp only [istep, ev, look_ok h1, h2, AV.cells, h3, h4, and_self, if_true]
theorem rn_mkmap {kk : KK} {M1 : MM} (e : M.alloc fresh (.map kk []) = M1) (hk : Wp (k (.mp fresh) M1) r) : Wp (bnd (istep call mode draw lo lim fresh (.mkmap kk) ρ M) k) r := by subst e; exact hk
theorem rn_box {t : TypeId} {cs : List AV} {M1 : MM} (e : M.alloc fresh (.cells t cs) = M1) (hk : Wp (k (.ptr fresh 0) M1) r) : Wp (bnd (istep call mode draw lo lim fresh (.box t (.k (.agg cs))) ρ M) k) r := by subst e; exact hk
theorem rn_mksl {t : TypeId} {n sz : Nat} {zero cs : List AV} {parts : List (Nat × Nat × X)} {M1 : MM} (e : M.alloc fresh (.cells t cs) = M1) (h : fill zero (parts.map fun p => (p.1, p.2.1, ev ρ p.2.2)) = some cs) (hk : Wp (k (.os fresh 0 n sz) M1) r) :
    Wp (bnd (istep call mode draw lo lim fresh (.mksl t n sz zero parts) ρ M) k) r := by
  subst e
  refine rn_bnd (v := .os fresh 0 n sz) (M := M.alloc fresh (.cells t cs)) ?_ hk
  simp only [istep, h, Option.map_some]
theorem rn_mset {kk : KK} {m : Nat} {q : Value} {x : AV} {es : List (Value × AV)} {M1 : MM} (e : M.put m (.map kk (putM q x es)) = M1) (h0 : kk.fits q = true) (h1 : lim.ok m = true) (h2 : M.mem m = some (.map kk es)) (h3 : lo ≤ m) (hk : Wp (k .undef M1) r) :
    Wp (bnd (istep call mode draw lo lim fresh (.mset kk (.k (.mp m)) (.k (.d (.v q))) (.k x)) ρ M) k) r := by
  subst e
  refine rn_bnd (v := .undef) (M := M.put m (.map kk (putM q x es))) ?_ hk
  simp only [istep, ev, h0, look_ok h1, h2, h3, and_self, if_true]
theorem rn_mkslice {t sz bytes n : Nat} {zero : List AV} {M1 : MM}
    (e : M.alloc fresh (.cells t ((List.replicate n zero).flatten)) = M1) (h : n ≤ 9223372036854775807 ∧ bytes * n ≤ 281474976710656) (hk : Wp (k (.os fresh 0 n sz) M1) r) :
    Wp (bnd (istep call mode draw lo lim fresh (.mkslice t sz bytes zero (.k (.i n)) (.k (.i n))) ρ M) k) r := by
  subst e
  refine rn_bnd (v := .os fresh 0 n sz) (M := M.alloc fresh (.cells t ((List.replicate n zero).flatten))) ?_ hk
  simp only [istep, ev, asI]
  rw [if_pos (by refine ⟨by omega, by omega, by omega, ?_⟩; have := h.2; rw [← Int.natCast_mul]; omega)]
  simp
end
section
variable {k : AV → Option R}
theorem rn_fld00 {cs : List AV} (h : Wp (k (.agg [])) r) : Wp (opt (fldA 0 0 true (.agg cs)) k) r := rn_fldn (by omega) (by simp) h
theorem rn_mke {cs : List AV} (h : Wp (k (.agg cs)) r) : Wp (opt ((fill cs []).map .agg) k) r := h
end
end
/-! ### Functions without memory -/
def Ans (v : AV) (M : MM) : AV × MM → Prop := fun x => x.1 = v ∧ x.2.mem = M.mem ∧ M.nx ≤ x.2.nx
def CC (call : CallT) (f : FuncId) (args : List AV) (v : AV) : Prop := ∀ lo M, Wp (call f args lo M) (Ans v M)
section
variable {R : Type} {v : AV} {M : MM}
theorem rn_ans : Wp (some (v, M)) (Ans v M) := rn_done ⟨rfl, rfl, Nat.le_refl _⟩
theorem rn_ans' {v' : AV} (h : v' = v) : Wp (some (v', M)) (Ans v M) := by subst h; exact rn_ans
theorem rn_upa {f : Nat} {k : MM → Option (AV × MM)} (hk : Wp (k (M.up f)) (Ans v (M.up f))) : Wp (upK M f k) (Ans v M) :=
  Wp.mono (o := k (M.up f)) hk fun _ h => ⟨h.1, h.2.1, Nat.le_trans (Nat.le_max_left _ _) h.2.2⟩
theorem CC.pc {call : CallT} {f : FuncId} {args : List AV} (h : CC call f args v) (hf : ∀ m, freeze m 0 v = some v) : PC call f args v := by
  obtain ⟨⟨w, M'⟩, h1, h2, _⟩ := h 0 ⟨0, fun _ => none⟩
  simp only at h2
  subst h2
  exact ⟨w, M', h1, hf _⟩
end
end Go.Proofs.Ytegkhdflmboljaa.Sx
