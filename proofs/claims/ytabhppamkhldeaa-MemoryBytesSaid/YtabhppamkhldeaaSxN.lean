/-
  SX, PART N: RUNNING a printed definition step by step: each law takes one step off the front of 'bnd o k = r', 'opt o k = r'.
-/
import Derived.Test.YtabhppamkhldeaaSxL
namespace Go.Proofs.Ytabhppamkhldeaa.Sx
open Go
section
variable {R A : Type} {r : Option R}
theorem rn_bnd {o : Option (AV × MM)} {v : AV} {M : MM} {k : AV → MM → Option R} (h : o = some (v, M)) (hk : k v M = r) : bnd o k = r := by rw [h]; exact hk
theorem rn_opt {o : Option A} {v : A} {k : A → Option R} (h : o = some v) (hk : k v = r) : opt o k = r := by rw [h]; exact hk
theorem rn_some {v : A} {k : A → Option R} (hk : k v = r) : opt (some v) k = r := hk
theorem rn_bsome {v : AV} {M : MM} {k : AV → MM → Option R} (hk : k v M = r) : bnd (some (v, M)) k = r := hk
theorem rn_if_t {a b : Option R} (h : a = r) : isB (.bool true) (fun c => if c then a else b) = r := h
theorem rn_if_f {a b : Option R} (h : b = r) : isB (.bool false) (fun c => if c then a else b) = r := h
theorem rn_gtt {M : MM} {o : Option (AV × MM)} {k : AV → MM → Option R} (h : bnd o k = r) : bnd (gd (.bool true) true M o) k = r := h
theorem rn_gff {M : MM} {o : Option (AV × MM)} {k : AV → MM → Option R} (h : bnd o k = r) : bnd (gd (.bool false) false M o) k = r := h
theorem rn_gtf {M : MM} {o : Option (AV × MM)} {k : AV → MM → Option R} (h : k .undef M = r) : bnd (gd (.bool true) false M o) k = r := h
theorem rn_gft {M : MM} {o : Option (AV × MM)} {k : AV → MM → Option R} (h : k .undef M = r) : bnd (gd (.bool false) true M o) k = r := h
theorem rn_gun {b : Bool} {M : MM} {o : Option (AV × MM)} {k : AV → MM → Option R} (h : k .undef M = r) : bnd (gd .undef b M o) k = r := h
theorem rn_pt {a b : AV} {k : AV → Option R} (h : k a = r) : opt (pickA (.bool true) a b) k = r := h
theorem rn_pf {a b : AV} {k : AV → Option R} (h : k b = r) : opt (pickA (.bool false) a b) k = r := h
section
variable {k : AV → Option R} {a b : Int} {e : EK} {q : IntKind}
theorem rn_add64 (h : -9223372036854775808 ≤ a + b ∧ a + b ≤ 9223372036854775807) (hk : k (.i (a + b)) = r) : opt (binA .add e (.i a) (.i b)) k = r := rn_opt (by rw [binA_add, IntWalk.i64_in _ h]) hk
theorem rn_sub64 (h : -9223372036854775808 ≤ a - b ∧ a - b ≤ 9223372036854775807) (hk : k (.i (a - b)) = r) : opt (binA .sub e (.i a) (.i b)) k = r := rn_opt (by rw [binA_sub, IntWalk.i64_in _ h]) hk
theorem rn_mul64 (h : -9223372036854775808 ≤ a * b ∧ a * b ≤ 9223372036854775807) (hk : k (.i (a * b)) = r) : opt (binA .mul e (.i a) (.i b)) k = r := rn_opt (by rw [binA_mul, IntWalk.i64_in _ h]) hk
theorem rn_addu (h : 0 ≤ a + b ∧ a + b ≤ 18446744073709551615) (hk : k (.int .u64 (a + b)) = r) : opt (binA .add e (.int .u64 a) (.int .u64 b)) k = r := rn_opt (by rw [binA_add, IntWalk.u64_in _ h]) hk
theorem rn_subu (h : 0 ≤ a - b ∧ a - b ≤ 18446744073709551615) (hk : k (.int .u64 (a - b)) = r) : opt (binA .sub e (.int .u64 a) (.int .u64 b)) k = r := rn_opt (by rw [binA_sub, IntWalk.u64_in _ h]) hk
theorem rn_mulu (h : 0 ≤ a * b ∧ a * b ≤ 18446744073709551615) (hk : k (.int .u64 (a * b)) = r) : opt (binA .mul e (.int .u64 a) (.int .u64 b)) k = r := rn_opt (by rw [binA_mul, IntWalk.u64_in _ h]) hk
theorem rn_add8 (h : 0 ≤ a + b ∧ a + b ≤ 255) (hk : k (.int .u8 (a + b)) = r) : opt (binA .add e (.int .u8 a) (.int .u8 b)) k = r := rn_opt (by rw [binA_add, IntWalk.u8_in _ h]) hk
theorem rn_sub8 (h : 0 ≤ a - b ∧ a - b ≤ 255) (hk : k (.int .u8 (a - b)) = r) : opt (binA .sub e (.int .u8 a) (.int .u8 b)) k = r := rn_opt (by rw [binA_sub, IntWalk.u8_in _ h]) hk
theorem rn_add (hk : k (.int q (q.wrap (a + b))) = r) : opt (binA .add e (.int q a) (.int q b)) k = r := rn_opt (binA_add ..) hk
theorem rn_sub (hk : k (.int q (q.wrap (a - b))) = r) : opt (binA .sub e (.int q a) (.int q b)) k = r := rn_opt (binA_sub ..) hk
theorem rn_mul (hk : k (.int q (q.wrap (a * b))) = r) : opt (binA .mul e (.int q a) (.int q b)) k = r := rn_opt (binA_mul ..) hk
theorem rn_rem (h : b ≠ 0) (hk : k (.int q (a.tmod b)) = r) : opt (binA .rem e (.int q a) (.int q b)) k = r := rn_opt (binA_rem _ _ _ _ h) hk
theorem rn_quo64 (h : 0 ≤ a ∧ a ≤ 9223372036854775807 ∧ 1 ≤ b) (hk : k (.i (a / b)) = r) : opt (binA .quo e (.i a) (.i b)) k = r :=
  rn_opt (by rw [binA_quo _ _ _ _ (by omega), IntWalk.i64_quo _ _ h]) hk
theorem rn_quou (h : 0 ≤ a ∧ a ≤ 18446744073709551615 ∧ 1 ≤ b) (hk : k (.int .u64 (a / b)) = r) : opt (binA .quo e (.int .u64 a) (.int .u64 b)) k = r :=
  rn_opt (by rw [binA_quo _ _ _ _ (by omega), IntWalk.u64_quo _ _ h]) hk
theorem rn_quo8 (h : 0 ≤ a ∧ a ≤ 255 ∧ 1 ≤ b) (hk : k (.int .u8 (a / b)) = r) : opt (binA .quo e (.int .u8 a) (.int .u8 b)) k = r :=
  rn_opt (by rw [binA_quo _ _ _ _ (by omega), IntWalk.u8_quo _ _ h]) hk
theorem rn_quo (h : b ≠ 0) (hk : k (.int q (q.wrap (a.tdiv b))) = r) : opt (binA .quo e (.int q a) (.int q b)) k = r := rn_opt (binA_quo _ _ _ _ h) hk
theorem rn_eql_t (h : a = b) (hk : k (.bool true) = r) : opt (binA .eql e (.int q a) (.int q b)) k = r := rn_opt (by rw [binA_eql, decide_eq_true h]) hk
theorem rn_eql_f (h : ¬ a = b) (hk : k (.bool false) = r) : opt (binA .eql e (.int q a) (.int q b)) k = r := rn_opt (by rw [binA_eql, decide_eq_false h]) hk
theorem rn_eql (hk : k (.bool (decide (a = b))) = r) : opt (binA .eql e (.int q a) (.int q b)) k = r := rn_opt (binA_eql ..) hk
theorem rn_neq_t (h : ¬ a = b) (hk : k (.bool true) = r) : opt (binA .neq e (.int q a) (.int q b)) k = r := rn_opt (by rw [binA_neq, decide_eq_true h]) hk
theorem rn_neq_f (h : a = b) (hk : k (.bool false) = r) : opt (binA .neq e (.int q a) (.int q b)) k = r := rn_opt (by rw [binA_neq, decide_eq_false (fun hh => hh h)]) hk
theorem rn_neq (hk : k (.bool (decide (a ≠ b))) = r) : opt (binA .neq e (.int q a) (.int q b)) k = r := rn_opt (binA_neq ..) hk
theorem rn_lss_t (h : a < b) (hk : k (.bool true) = r) : opt (binA .lss e (.int q a) (.int q b)) k = r := rn_opt (by rw [binA_lss, decide_eq_true h]) hk
theorem rn_lss_f (h : ¬ a < b) (hk : k (.bool false) = r) : opt (binA .lss e (.int q a) (.int q b)) k = r := rn_opt (by rw [binA_lss, decide_eq_false h]) hk
theorem rn_lss (hk : k (.bool (decide (a < b))) = r) : opt (binA .lss e (.int q a) (.int q b)) k = r := rn_opt (binA_lss ..) hk
theorem rn_leq_t (h : a ≤ b) (hk : k (.bool true) = r) : opt (binA .leq e (.int q a) (.int q b)) k = r := rn_opt (by rw [binA_leq, decide_eq_true h]) hk
theorem rn_leq_f (h : ¬ a ≤ b) (hk : k (.bool false) = r) : opt (binA .leq e (.int q a) (.int q b)) k = r := rn_opt (by rw [binA_leq, decide_eq_false h]) hk
theorem rn_leq (hk : k (.bool (decide (a ≤ b))) = r) : opt (binA .leq e (.int q a) (.int q b)) k = r := rn_opt (binA_leq ..) hk
theorem rn_gtr_t (h : b < a) (hk : k (.bool true) = r) : opt (binA .gtr e (.int q a) (.int q b)) k = r := rn_opt (by rw [binA_gtr, decide_eq_true h]) hk
theorem rn_gtr_f (h : ¬ b < a) (hk : k (.bool false) = r) : opt (binA .gtr e (.int q a) (.int q b)) k = r := rn_opt (by rw [binA_gtr, decide_eq_false h]) hk
theorem rn_gtr (hk : k (.bool (decide (b < a))) = r) : opt (binA .gtr e (.int q a) (.int q b)) k = r := rn_opt (binA_gtr ..) hk
theorem rn_geq_t (h : b ≤ a) (hk : k (.bool true) = r) : opt (binA .geq e (.int q a) (.int q b)) k = r := rn_opt (by rw [binA_geq, decide_eq_true h]) hk
theorem rn_geq_f (h : ¬ b ≤ a) (hk : k (.bool false) = r) : opt (binA .geq e (.int q a) (.int q b)) k = r := rn_opt (by rw [binA_geq, decide_eq_false h]) hk
theorem rn_geq (hk : k (.bool (decide (b ≤ a))) = r) : opt (binA .geq e (.int q a) (.int q b)) k = r := rn_opt (binA_geq ..) hk
theorem rn_cvi64 (h : -9223372036854775808 ≤ a ∧ a ≤ 9223372036854775807) (hk : k (.i a) = r) : opt (cviA .i64 (.int q a)) k = r := rn_opt (by rw [cviA_int, IntWalk.i64_in _ h]) hk
theorem rn_cviu (h : 0 ≤ a ∧ a ≤ 18446744073709551615) (hk : k (.int .u64 a) = r) : opt (cviA .u64 (.int q a)) k = r := rn_opt (by rw [cviA_int, IntWalk.u64_in _ h]) hk
theorem rn_cvi8 (h : 0 ≤ a ∧ a ≤ 255) (hk : k (.int .u8 a) = r) : opt (cviA .u8 (.int q a)) k = r := rn_opt (by rw [cviA_int, IntWalk.u8_in _ h]) hk
theorem rn_cvi {q' : IntKind} (hk : k (.int q' (q'.wrap a)) = r) : opt (cviA q' (.int q a)) k = r := hk
theorem rn_shr {q' : IntKind} (h : 0 ≤ b) (hk : k (.int q (a.fdiv (2 ^ (min b.toNat q.bits)))) = r) : opt (binA .shr e (.int q a) (.int q' b)) k = r := rn_opt (binA_shr _ _ _ _ _ h) hk
end
section
variable {k : AV → Option R}
theorem rn_eqb {a b : Bool} (hk : k (.bool (a == b)) = r) : opt (binA .eql .bool (.bool a) (.bool b)) k = r := hk
theorem rn_neb {a b : Bool} (hk : k (.bool !(a == b)) = r) : opt (binA .neq .bool (.bool a) (.bool b)) k = r := hk
theorem rn_eqb_tt (hk : k (.bool true) = r) : opt (binA .eql .bool (.bool true) (.bool true)) k = r := hk
theorem rn_eqb_ff (hk : k (.bool true) = r) : opt (binA .eql .bool (.bool false) (.bool false)) k = r := hk
theorem rn_eqb_tf (hk : k (.bool false) = r) : opt (binA .eql .bool (.bool true) (.bool false)) k = r := hk
theorem rn_eqb_ft (hk : k (.bool false) = r) : opt (binA .eql .bool (.bool false) (.bool true)) k = r := hk
theorem rn_neb_tt (hk : k (.bool false) = r) : opt (binA .neq .bool (.bool true) (.bool true)) k = r := hk
theorem rn_neb_ff (hk : k (.bool false) = r) : opt (binA .neq .bool (.bool false) (.bool false)) k = r := hk
theorem rn_neb_tf (hk : k (.bool true) = r) : opt (binA .neq .bool (.bool true) (.bool false)) k = r := hk
theorem rn_neb_ft (hk : k (.bool true) = r) : opt (binA .neq .bool (.bool false) (.bool true)) k = r := hk
theorem rn_not_t (hk : k (.bool false) = r) : opt (unA .not (.bool true)) k = r := hk
theorem rn_not_f (hk : k (.bool true) = r) : opt (unA .not (.bool false)) k = r := hk
theorem rn_not {b : Bool} (hk : k (.bool !b) = r) : opt (unA .not (.bool b)) k = r := hk
theorem rn_eqp1 {id off : Nat} (hk : k (.bool false) = r) : opt (binA .eql .ptr (.ptr id off) .nil) k = r := hk
theorem rn_eqp2 (hk : k (.bool true) = r) : opt (binA .eql .ptr .nil .nil) k = r := hk
theorem rn_eqp3 {cs : List D} (hk : k (.bool false) = r) : opt (binA .eql .ptr (.ip cs) .nil) k = r := hk
theorem rn_nep1 {id off : Nat} (hk : k (.bool true) = r) : opt (binA .neq .ptr (.ptr id off) .nil) k = r := hk
theorem rn_nep2 (hk : k (.bool false) = r) : opt (binA .neq .ptr .nil .nil) k = r := hk
theorem rn_eqs {e : EK} {a b : ByteArray} (hk : k (.bool (a.data.toList == b.data.toList)) = r) : opt (binA .eql e (.str a) (.str b)) k = r := hk
theorem rn_nes {e : EK} {a b : ByteArray} (hk : k (.bool !(a.data.toList == b.data.toList)) = r) : opt (binA .neq e (.str a) (.str b)) k = r := hk
theorem rn_ext0 {a : AV} {l : List AV} (hk : k a = r) : opt (extA 0 (.tup (a :: l))) k = r := hk
theorem rn_ext1 {a b : AV} {l : List AV} (hk : k b = r) : opt (extA 1 (.tup (a :: b :: l))) k = r := hk
theorem rn_ext2 {a b c : AV} {l : List AV} (hk : k c = r) : opt (extA 2 (.tup (a :: b :: c :: l))) k = r := hk
theorem rn_ext3 {a b c d : AV} {l : List AV} (hk : k d = r) : opt (extA 3 (.tup (a :: b :: c :: d :: l))) k = r := hk
theorem rn_len_sl {cs : List D} {n : Nat} (hk : k (.i n) = r) : opt (lenA (.d (.sl cs n))) k = r := hk
theorem rn_len_nil (hk : k (.i 0) = r) : opt (lenA .nilsl) k = r := hk
theorem rn_len_os {id off len sz : Nat} (hk : k (.i len) = r) : opt (lenA (.os id off len sz)) k = r := hk
theorem rn_lens {s : ByteArray} (hk : k (.i s.data.size) = r) : opt (lensA (.str s)) k = r := hk
theorem rn_nilc {id off : Nat} (hk : k (.ptr id off) = r) : opt (nilcA (.ptr id off)) k = r := hk
theorem rn_nilci {cs : List D} (hk : k (.ip cs) = r) : opt (nilcA (.ip cs)) k = r := hk
theorem rn_fad {o id off : Nat} (hk : k (.ptr id (off + o)) = r) : opt (fadA o (.ptr id off)) k = r := hk
theorem rn_fadi {o : Nat} {cs : List D} (hk : k (.ip (cs.drop o)) = r) : opt (fadA o (.ip cs)) k = r := hk
theorem rn_ixs {sz id off len s : Nat} {i : Int} {q : IntKind} (h : 0 ≤ i ∧ i < (len : Int)) (hk : k (.ptr id (off + i.toNat * sz)) = r) : opt (ixsA sz (.os id off len s) (.int q i)) k = r := rn_opt (ixsA_os _ _ _ _ _ _ _ h) hk
theorem rn_ixsl {sz : Nat} {ds : List D} {len : Nat} {i : Int} {q : IntKind} (h : 0 ≤ i ∧ i < (len : Int)) (hk : k (.ip (ds.drop (i.toNat * sz))) = r) : opt (ixsA sz (.d (.sl ds len)) (.int q i)) k = r := rn_opt (ixsA_sl _ _ _ _ _ h) hk
theorem rn_ld {M : MM} {lim id off : Nat} {t : TypeId} {cs : List AV} {v : AV} (h1 : id < lim) (h2 : M.mem id = some (.cells t cs)) (h3 : cs[off]? = some v) (hk : k v = r) : opt (ld1A (look M.mem lim) (.ptr id off)) k = r :=
  rn_opt (by rw [ld1A_ptr _ _ _ t cs (by rw [look_lt h1, h2]), h3]) hk
theorem rn_ldi {lk : Nat → Option Blk} {d : D} {ds : List D} (hk : k (.d d) = r) : opt (ld1A lk (.ip (d :: ds))) k = r := hk
end
section
variable {k : AV → MM → Option R} {call : CallT} {mode : FuncId → Mode} {draw : Bool} {lo lim fresh : Nat} {ρ : List AV} {M : MM}
theorem rn_pure {i : I} {o : Option AV} (hp : pureI (look M.mem lim) ρ i = some o) (h : opt o (fun v => k v M) = r) : bnd (istep call mode draw lo lim fresh i ρ M) k = r := by
  rw [pureI_eq hp, bnd_map]; exact h
theorem rn_ibin {op : BinOp} {e : EK} {a b : AV} (h : opt (binA op e a b) (fun v => k v M) = r) : bnd (istep call mode draw lo lim fresh (.bin op e (.k a) (.k b)) ρ M) k = r := rn_pure (i := .bin op e (.k a) (.k b)) rfl h
theorem rn_iun {op : UnOp} {a : AV} (h : opt (unA op a) (fun v => k v M) = r) : bnd (istep call mode draw lo lim fresh (.un op (.k a)) ρ M) k = r := rn_pure (i := .un op (.k a)) rfl h
theorem rn_ipick {c a b : AV} (h : opt (pickA c a b) (fun v => k v M) = r) : bnd (istep call mode draw lo lim fresh (.pick (.k c) (.k a) (.k b)) ρ M) k = r := rn_pure (i := .pick (.k c) (.k a) (.k b)) rfl h
theorem rn_icvi {q : IntKind} {a : AV} (h : opt (cviA q a) (fun v => k v M) = r) : bnd (istep call mode draw lo lim fresh (.cvi q (.k a)) ρ M) k = r := rn_pure (i := .cvi q (.k a)) rfl h
theorem rn_ild1 {a : AV} (h : opt (ld1A (look M.mem lim) a) (fun v => k v M) = r) : bnd (istep call mode draw lo lim fresh (.ld1 (.k a)) ρ M) k = r := rn_pure (i := .ld1 (.k a)) rfl h
theorem rn_inilc {a : AV} (h : opt (nilcA a) (fun v => k v M) = r) : bnd (istep call mode draw lo lim fresh (.nilc (.k a)) ρ M) k = r := rn_pure (i := .nilc (.k a)) rfl h
theorem rn_ifad {o : Nat} {a : AV} (h : opt (fadA o a) (fun v => k v M) = r) : bnd (istep call mode draw lo lim fresh (.fad o (.k a)) ρ M) k = r := rn_pure (i := .fad o (.k a)) rfl h
theorem rn_iext {a : AV} {i : Nat} (h : opt (extA i a) (fun v => k v M) = r) : bnd (istep call mode draw lo lim fresh (.ext (.k a) i) ρ M) k = r := rn_pure (i := .ext (.k a) i) rfl h
theorem rn_ilens {a : AV} (h : opt (lensA a) (fun v => k v M) = r) : bnd (istep call mode draw lo lim fresh (.lens (.k a)) ρ M) k = r := rn_pure (i := .lens (.k a)) rfl h
theorem rn_ilen {a : AV} (h : opt (lenA a) (fun v => k v M) = r) : bnd (istep call mode draw lo lim fresh (.len (.k a)) ρ M) k = r := rn_pure (i := .len (.k a)) rfl h
theorem rn_iixs {sz : Nat} {a b : AV} (h : opt (ixsA sz a b) (fun v => k v M) = r) : bnd (istep call mode draw lo lim fresh (.ixs sz (.k a) (.k b)) ρ M) k = r := rn_pure (i := .ixs sz (.k a) (.k b)) rfl h
theorem rn_iixc {a b : AV} (h : opt (ixcA a b) (fun v => k v M) = r) : bnd (istep call mode draw lo lim fresh (.ixc (.k a) (.k b)) ρ M) k = r := rn_pure (i := .ixc (.k a) (.k b)) rfl h
end
end
end Go.Proofs.Ytabhppamkhldeaa.Sx
