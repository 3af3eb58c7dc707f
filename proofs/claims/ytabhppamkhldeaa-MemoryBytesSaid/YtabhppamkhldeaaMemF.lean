/- CHAPTER 19: Write, Read: what they answer. -/
import Derived.Test.YtabhppamkhldeaaMemE
namespace Go.Proofs.Ytabhppamkhldeaa.Sx
open Go
set_option maxRecDepth 1000000
set_option linter.unusedSimpArgs false
set_option linter.unusedVariables false

/-- Memory elsewhere has turned. -/
theorem MR.frame {p : Nat} {M M' : MM} {l : List OB} {live : Int} {sl : AV} (h : MR p M l live sl) (hn : M.nx ≤ M'.nx) (h1 : M'.mem p = M.mem p) (h2 : ∀ sid off len sz, sl = .os sid off len sz → M'.mem sid = M.mem sid) (h3 : ∀ o ∈ l, M'.mem o.id = M.mem o.id) : MR p M' l live sl where
  root := by rw [h1]; exact h.root
  plt := by have := h.plt; omega
  sli := by
    rcases h.sli with h4 | ⟨sid, e, q1, q2, q3, q4⟩
    · exact .inl h4
    · exact .inr ⟨sid, e, by rw [h2 _ _ _ _ e]; exact q1, q2, by omega, q4⟩
  objs o ho := by rw [h3 o ho]; exact h.objs o ho
  olt o ho := by have := h.olt o ho; omega
  onp := h.onp
  nodup := h.nodup

/-- The bytes from k on, if they have been written. -/
def rdF (f : Nat → Option Int) (k : Nat) : Nat → Option (List Int)
  | 0 => some []
  | r + 1 => match f k, rdF f (k + 1) r with
    | some b, some l => some (b :: l)
    | _, _ => none

theorem rdF_len {f : Nat → Option Int} : ∀ {k r : Nat} {l : List Int}, rdF f k r = some l → l.length = r
  | k, 0, l, h => by simp only [rdF, Option.some.injEq] at h; subst h; rfl
  | k, r + 1, l, h => by
    simp only [rdF] at h
    split at h
    · rename_i b l' h1 h2
      simp only [Option.some.injEq] at h; subst h
      simp [rdF_len h2]
    · cases h

/-- A slice of one's own of bytes. -/
def OB1 (lo : Nat) (M : MM) (x : AV) (bs : List Int) : Prop :=
  (x = .nilsl ∧ bs = []) ∨ ∃ id, x = .os id 0 bs.length 1 ∧ lo ≤ id ∧ id < M.nx ∧ M.mem id = some (.cells 5 (bs.map fun b => .int .u8 b))

theorem freeze_bytes {m : Mem} {lo n : Nat} : ∀ bs : List Int, (bs.map fun b => AV.int .u8 b).mapM (freezeD m lo n) = some (bs.map fun b => D.v (.int .u8 b))
  | [] => rfl
  | b :: r => by
    simp only [List.map_cons, List.mapM_cons, freeze_bytes r]
    cases n <;> rfl

theorem OB1.freeze {lo : Nat} {M : MM} {x : AV} {bs : List Int} (h : OB1 lo M x bs) : freeze M.mem lo (.tup [x, .i 0]) = some (.tup [.d (.sl (bs.map fun b => .v (.int .u8 b)) bs.length), .i 0]) := by
  rcases h with ⟨rfl, rfl⟩ | ⟨id, rfl, h1, h2, h3⟩
  · rfl
  · have e : freezeD M.mem lo 64 (.os id 0 bs.length 1) = some (.sl (bs.map fun b => .v (.int .u8 b)) bs.length) := by
      rw [freezeD, if_neg (by omega), h3]
      simp only [List.length_map, Nat.zero_add, Nat.mul_one, Nat.le_refl, if_true, List.drop_zero, List.take_of_length_le, freeze_bytes, Option.map_some]
    have e1 : freezeA M.mem lo (.os id 0 bs.length 1) = some (.d (.sl (bs.map fun b => .v (.int .u8 b)) bs.length)) := by
      show freeze1 M.mem lo (.os id 0 bs.length 1) = _
      simp only [freeze1, if_neg (show ¬ id < lo by omega), e, Option.map_some]
    have e2 : freezeA M.mem lo (.i 0) = some (.i 0) := rfl
    simp only [Sx.freeze, List.mapM_cons, List.mapM_nil, e1, e2, Option.pure_def, Option.bind_eq_bind, Option.bind_some, Option.map_some]

section
variable {call : CallT} (hc : Lim G call)

theorem read_loop (oid m : Nat) (ocs : List AV) (ho4 : ocs[4]? = some (.mp m)) (at0 len : Nat) (hat : at0 + len ≤ 4194304) (M0 : MM) (own : Nat → Prop) (f : Nat → Option Int) (es : List (Value × AV)) (hk : CK M0 m f own es) (ho : oid < M0.nx) (hoc : M0.mem oid = some (.cells 58 ocs)) (lo : Nat) (hlo : M0.nx ≤ lo) :
    ∀ (r k n : Nat) (M : MM) (x : AV) (bs : List Int), at0 + len = k + r → r < n → M0.nx ≤ M.nx → (∀ y, y < M0.nx → M.mem y = M0.mem y) → OB1 lo M x bs → lo ≤ M.nx → bs.length ≤ 4194304 - r →
      match rdF f k r with
      | some l => ∃ x' M', b12_1 call G.nl lo n (.i at0) (.i len) (.ptr oid 0) x (.i k) M = some (.tup [x', .i 0], M') ∧ OB1 lo M' x' (bs ++ l)
      | none => ∃ M', b12_1 call G.nl lo n (.i at0) (.i len) (.ptr oid 0) x (.i k) M = some (.tup [.nilsl, .i 24], M') := by
  intro r
  induction r with
  | zero =>
    intro k n M x bs hkr hn hnx hfr hx hlo2 hbl
    obtain ⟨n, rfl⟩ : ∃ k, n = k + 1 := ⟨n - 1, by omega⟩
    simp only [rdF]
    refine ⟨x, M, ?_, by simpa using hx⟩
    unfold b12_1
    repeat (first | with_reducible refine rn_bsome ?_ | with_reducible refine rn_some ?_ | with_reducible refine rn_if_t ?_ | with_reducible refine rn_if_f ?_ | with_reducible refine rn_gtt ?_ | with_reducible refine rn_gff ?_ | with_reducible refine rn_gtf ?_ | with_reducible refine rn_gft ?_ | with_reducible refine rn_gun ?_ | with_reducible refine rn_ibin ?_ | with_reducible refine rn_iun ?_ | with_reducible refine rn_ipick ?_ | with_reducible refine rn_icvi ?_ | with_reducible refine rn_ild1 ?_ | with_reducible refine rn_inilc ?_ | with_reducible refine rn_ifad ?_ | with_reducible refine rn_iext ?_ | with_reducible refine rn_ilens ?_ | with_reducible refine rn_ilen ?_ | with_reducible refine rn_iixs ?_ | with_reducible refine rn_iixc ?_ | with_reducible refine rn_pt ?_ | with_reducible refine rn_pf ?_ | with_reducible refine rn_eqb_tt ?_ | with_reducible refine rn_eqb_ff ?_ | with_reducible refine rn_eqb_tf ?_ | with_reducible refine rn_eqb_ft ?_ | with_reducible refine rn_neb_tt ?_ | with_reducible refine rn_neb_ff ?_ | with_reducible refine rn_neb_tf ?_ | with_reducible refine rn_neb_ft ?_ | with_reducible refine rn_not_t ?_ | with_reducible refine rn_not_f ?_ | with_reducible refine rn_eqp1 ?_ | with_reducible refine rn_eqp2 ?_ | with_reducible refine rn_eqp3 ?_ | with_reducible refine rn_nep1 ?_ | with_reducible refine rn_nep2 ?_ | with_reducible refine rn_ext0 ?_ | with_reducible refine rn_ext1 ?_ | with_reducible refine rn_ext2 ?_ | with_reducible refine rn_ext3 ?_ | with_reducible refine rn_len_sl ?_ | with_reducible refine rn_len_nil ?_ | with_reducible refine rn_len_os ?_ | with_reducible refine rn_lens ?_ | with_reducible refine rn_nilc ?_ | with_reducible refine rn_nilci ?_ | with_reducible refine rn_fad ?_ | with_reducible refine rn_fadi ?_ | with_reducible refine rn_ldi ?_ | ((with_reducible refine rn_add64 ?_ ?_); focus omega) | ((with_reducible refine rn_sub64 ?_ ?_); focus omega) | ((with_reducible refine rn_mul64 ?_ ?_); focus omega) | ((with_reducible refine rn_addu ?_ ?_); focus omega) | ((with_reducible refine rn_subu ?_ ?_); focus omega) | ((with_reducible refine rn_mulu ?_ ?_); focus omega) | ((with_reducible refine rn_add8 ?_ ?_); focus omega) | ((with_reducible refine rn_sub8 ?_ ?_); focus omega) | ((with_reducible refine rn_rem ?_ ?_); focus omega) | ((with_reducible refine rn_quo64 ?_ ?_); focus omega) | ((with_reducible refine rn_quou ?_ ?_); focus omega) | ((with_reducible refine rn_quo8 ?_ ?_); focus omega) | ((with_reducible refine rn_eql_t ?_ ?_); focus omega) | ((with_reducible refine rn_eql_f ?_ ?_); focus omega) | ((with_reducible refine rn_neq_t ?_ ?_); focus omega) | ((with_reducible refine rn_neq_f ?_ ?_); focus omega) | ((with_reducible refine rn_lss_t ?_ ?_); focus omega) | ((with_reducible refine rn_lss_f ?_ ?_); focus omega) | ((with_reducible refine rn_leq_t ?_ ?_); focus omega) | ((with_reducible refine rn_leq_f ?_ ?_); focus omega) | ((with_reducible refine rn_gtr_t ?_ ?_); focus omega) | ((with_reducible refine rn_gtr_f ?_ ?_); focus omega) | ((with_reducible refine rn_geq_t ?_ ?_); focus omega) | ((with_reducible refine rn_geq_f ?_ ?_); focus omega) | ((with_reducible refine rn_cvi64 ?_ ?_); focus omega) | ((with_reducible refine rn_cviu ?_ ?_); focus omega) | ((with_reducible refine rn_cvi8 ?_ ?_); focus omega) | ((with_reducible refine rn_ixs ?_ ?_); focus omega) | ((with_reducible refine rn_ixsl ?_ ?_); focus omega) | ((with_reducible refine rn_shr ?_ ?_); focus omega))
    rfl
  | succ r ih =>
    intro k n M x bs hkr hn hnx hfr hx hlo2 hbl
    obtain ⟨n, rfl⟩ : ∃ k, n = k + 1 := ⟨n - 1, by omega⟩
    have e1 : (k : Int) / 256 = ((k / 256 : Nat) : Int) := by omega
    have e2 : (k : Int).tmod 256 = ((k % 256 : Nat) : Int) := by rw [Int.tmod_eq_emod_of_nonneg (by omega)]; omega
    have hq256 : k % 256 < 256 := Nat.mod_lt _ (by omega)
    have hdm : 256 * (k / 256) + k % 256 = k := Nat.div_add_mod _ _
    have hoM : M.mem oid = some (.cells 58 ocs) := by rw [hfr oid ho]; exact hoc
    have hoM' : oid < M.nx := by omega
    have hm1 : m < M.nx := by have := hk.mlt; omega
    have hm2 : M.mem m = some (.map (.int .i64) es) := by rw [hfr m hk.mlt]; exact hk.map
    have ehead := e1
    cases hq : findM (.int .i64 ((k / 256 : Nat) : Int)) es with
    | none =>
      have hfk : f k = none := by have := hk.none' _ hq (k % 256) hq256; rwa [hdm] at this
      have er : rdF f k (r + 1) = none := by simp only [rdF, hfk]
      rw [er]
      refine ⟨M, ?_⟩
      unfold b12_1
      repeat (first | ((with_reducible apply rn_ld hoM' hoM); focus exact ho4) | rw [e1] | ((with_reducible refine rn_lkp (es := es) ?_ ?_ ?_ ?_); (focus rfl); (focus exact hm1); (focus exact hm2)) | rw [hq] | simp only [Option.getD_none] | with_reducible refine rn_bsome ?_ | with_reducible refine rn_some ?_ | with_reducible refine rn_if_t ?_ | with_reducible refine rn_if_f ?_ | with_reducible refine rn_gtt ?_ | with_reducible refine rn_gff ?_ | with_reducible refine rn_gtf ?_ | with_reducible refine rn_gft ?_ | with_reducible refine rn_gun ?_ | with_reducible refine rn_ibin ?_ | with_reducible refine rn_iun ?_ | with_reducible refine rn_ipick ?_ | with_reducible refine rn_icvi ?_ | with_reducible refine rn_ild1 ?_ | with_reducible refine rn_inilc ?_ | with_reducible refine rn_ifad ?_ | with_reducible refine rn_iext ?_ | with_reducible refine rn_ilens ?_ | with_reducible refine rn_ilen ?_ | with_reducible refine rn_iixs ?_ | with_reducible refine rn_iixc ?_ | with_reducible refine rn_pt ?_ | with_reducible refine rn_pf ?_ | with_reducible refine rn_eqb_tt ?_ | with_reducible refine rn_eqb_ff ?_ | with_reducible refine rn_eqb_tf ?_ | with_reducible refine rn_eqb_ft ?_ | with_reducible refine rn_neb_tt ?_ | with_reducible refine rn_neb_ff ?_ | with_reducible refine rn_neb_tf ?_ | with_reducible refine rn_neb_ft ?_ | with_reducible refine rn_not_t ?_ | with_reducible refine rn_not_f ?_ | with_reducible refine rn_eqp1 ?_ | with_reducible refine rn_eqp2 ?_ | with_reducible refine rn_eqp3 ?_ | with_reducible refine rn_nep1 ?_ | with_reducible refine rn_nep2 ?_ | with_reducible refine rn_ext0 ?_ | with_reducible refine rn_ext1 ?_ | with_reducible refine rn_ext2 ?_ | with_reducible refine rn_ext3 ?_ | with_reducible refine rn_len_sl ?_ | with_reducible refine rn_len_nil ?_ | with_reducible refine rn_len_os ?_ | with_reducible refine rn_lens ?_ | with_reducible refine rn_nilc ?_ | with_reducible refine rn_nilci ?_ | with_reducible refine rn_fad ?_ | with_reducible refine rn_fadi ?_ | with_reducible refine rn_ldi ?_ | ((with_reducible refine rn_add64 ?_ ?_); focus omega) | ((with_reducible refine rn_sub64 ?_ ?_); focus omega) | ((with_reducible refine rn_mul64 ?_ ?_); focus omega) | ((with_reducible refine rn_addu ?_ ?_); focus omega) | ((with_reducible refine rn_subu ?_ ?_); focus omega) | ((with_reducible refine rn_mulu ?_ ?_); focus omega) | ((with_reducible refine rn_add8 ?_ ?_); focus omega) | ((with_reducible refine rn_sub8 ?_ ?_); focus omega) | ((with_reducible refine rn_rem ?_ ?_); focus omega) | ((with_reducible refine rn_quo64 ?_ ?_); focus omega) | ((with_reducible refine rn_quou ?_ ?_); focus omega) | ((with_reducible refine rn_quo8 ?_ ?_); focus omega) | ((with_reducible refine rn_eql_t ?_ ?_); focus omega) | ((with_reducible refine rn_eql_f ?_ ?_); focus omega) | ((with_reducible refine rn_neq_t ?_ ?_); focus omega) | ((with_reducible refine rn_neq_f ?_ ?_); focus omega) | ((with_reducible refine rn_lss_t ?_ ?_); focus omega) | ((with_reducible refine rn_lss_f ?_ ?_); focus omega) | ((with_reducible refine rn_leq_t ?_ ?_); focus omega) | ((with_reducible refine rn_leq_f ?_ ?_); focus omega) | ((with_reducible refine rn_gtr_t ?_ ?_); focus omega) | ((with_reducible refine rn_gtr_f ?_ ?_); focus omega) | ((with_reducible refine rn_geq_t ?_ ?_); focus omega) | ((with_reducible refine rn_geq_f ?_ ?_); focus omega) | ((with_reducible refine rn_cvi64 ?_ ?_); focus omega) | ((with_reducible refine rn_cviu ?_ ?_); focus omega) | ((with_reducible refine rn_cvi8 ?_ ?_); focus omega) | ((with_reducible refine rn_ixs ?_ ?_); focus omega) | ((with_reducible refine rn_ixsl ?_ ?_); focus omega) | ((with_reducible refine rn_shr ?_ ?_); focus omega))
      all_goals rfl
    | some a =>
      obtain ⟨c, cs, rfl, o1, n1, l1, m1, h1, h2⟩ := hk.some' _ a hq
      have hc1 : c < M.nx := by omega
      have hc2 : M.mem c = some (.cells 66 cs) := by rw [hfr c l1]; exact m1
      have hr : match f k with
          | some b => cs[k % 256]? = some (.int .u8 b) ∧ cs[256 + k % 256]? = some (.bool true)
          | none => cs[256 + k % 256]? = some (.bool false) := by
        have := h2 (k % 256) hq256
        simp only [hdm] at this
        exact this
      cases hfk : f k with
      | none =>
        rw [hfk] at hr
        have er : rdF f k (r + 1) = none := by simp only [rdF, hfk]
        rw [er]
        refine ⟨M, ?_⟩
        unfold b12_1
        repeat (first | ((with_reducible apply rn_ld hoM' hoM); focus exact ho4) | rw [e1] | ((with_reducible refine rn_lkp (es := es) ?_ ?_ ?_ ?_); (focus rfl); (focus exact hm1); (focus exact hm2)) | rw [hq] | simp only [Option.getD_some] | ((with_reducible refine rn_rem ?_ ?_); focus decide) | rw [e2] | ((with_reducible refine rn_ixp ?_ ?_); focus omega) | ((with_reducible refine rn_ld (t := 66) (cs := cs) (v := .bool false) ?_ ?_ ?_ ?_); (focus exact hc1); (focus exact hc2); (focus (simp only [Int.toNat_natCast, Nat.mul_one, Nat.zero_add]; exact hr))) | with_reducible refine rn_bsome ?_ | with_reducible refine rn_some ?_ | with_reducible refine rn_if_t ?_ | with_reducible refine rn_if_f ?_ | with_reducible refine rn_gtt ?_ | with_reducible refine rn_gff ?_ | with_reducible refine rn_gtf ?_ | with_reducible refine rn_gft ?_ | with_reducible refine rn_gun ?_ | with_reducible refine rn_ibin ?_ | with_reducible refine rn_iun ?_ | with_reducible refine rn_ipick ?_ | with_reducible refine rn_icvi ?_ | with_reducible refine rn_ild1 ?_ | with_reducible refine rn_inilc ?_ | with_reducible refine rn_ifad ?_ | with_reducible refine rn_iext ?_ | with_reducible refine rn_ilens ?_ | with_reducible refine rn_ilen ?_ | with_reducible refine rn_iixs ?_ | with_reducible refine rn_iixc ?_ | with_reducible refine rn_pt ?_ | with_reducible refine rn_pf ?_ | with_reducible refine rn_eqb_tt ?_ | with_reducible refine rn_eqb_ff ?_ | with_reducible refine rn_eqb_tf ?_ | with_reducible refine rn_eqb_ft ?_ | with_reducible refine rn_neb_tt ?_ | with_reducible refine rn_neb_ff ?_ | with_reducible refine rn_neb_tf ?_ | with_reducible refine rn_neb_ft ?_ | with_reducible refine rn_not_t ?_ | with_reducible refine rn_not_f ?_ | with_reducible refine rn_eqp1 ?_ | with_reducible refine rn_eqp2 ?_ | with_reducible refine rn_eqp3 ?_ | with_reducible refine rn_nep1 ?_ | with_reducible refine rn_nep2 ?_ | with_reducible refine rn_ext0 ?_ | with_reducible refine rn_ext1 ?_ | with_reducible refine rn_ext2 ?_ | with_reducible refine rn_ext3 ?_ | with_reducible refine rn_len_sl ?_ | with_reducible refine rn_len_nil ?_ | with_reducible refine rn_len_os ?_ | with_reducible refine rn_lens ?_ | with_reducible refine rn_nilc ?_ | with_reducible refine rn_nilci ?_ | with_reducible refine rn_fad ?_ | with_reducible refine rn_fadi ?_ | with_reducible refine rn_ldi ?_ | ((with_reducible refine rn_add64 ?_ ?_); focus omega) | ((with_reducible refine rn_sub64 ?_ ?_); focus omega) | ((with_reducible refine rn_mul64 ?_ ?_); focus omega) | ((with_reducible refine rn_addu ?_ ?_); focus omega) | ((with_reducible refine rn_subu ?_ ?_); focus omega) | ((with_reducible refine rn_mulu ?_ ?_); focus omega) | ((with_reducible refine rn_add8 ?_ ?_); focus omega) | ((with_reducible refine rn_sub8 ?_ ?_); focus omega) | ((with_reducible refine rn_rem ?_ ?_); focus omega) | ((with_reducible refine rn_quo64 ?_ ?_); focus omega) | ((with_reducible refine rn_quou ?_ ?_); focus omega) | ((with_reducible refine rn_quo8 ?_ ?_); focus omega) | ((with_reducible refine rn_eql_t ?_ ?_); focus omega) | ((with_reducible refine rn_eql_f ?_ ?_); focus omega) | ((with_reducible refine rn_neq_t ?_ ?_); focus omega) | ((with_reducible refine rn_neq_f ?_ ?_); focus omega) | ((with_reducible refine rn_lss_t ?_ ?_); focus omega) | ((with_reducible refine rn_lss_f ?_ ?_); focus omega) | ((with_reducible refine rn_leq_t ?_ ?_); focus omega) | ((with_reducible refine rn_leq_f ?_ ?_); focus omega) | ((with_reducible refine rn_gtr_t ?_ ?_); focus omega) | ((with_reducible refine rn_gtr_f ?_ ?_); focus omega) | ((with_reducible refine rn_geq_t ?_ ?_); focus omega) | ((with_reducible refine rn_geq_f ?_ ?_); focus omega) | ((with_reducible refine rn_cvi64 ?_ ?_); focus omega) | ((with_reducible refine rn_cviu ?_ ?_); focus omega) | ((with_reducible refine rn_cvi8 ?_ ?_); focus omega) | ((with_reducible refine rn_ixs ?_ ?_); focus omega) | ((with_reducible refine rn_ixsl ?_ ?_); focus omega) | ((with_reducible refine rn_shr ?_ ?_); focus omega))
        all_goals rfl
      | some b =>
        rw [hfk] at hr
        obtain ⟨M1, e3⟩ : ∃ y, M.alloc M.nx (.cells 5 [.int .u8 b]) = y := ⟨_, rfl⟩
        have n1 : M1.nx = M.nx + 1 := by rw [← e3]; exact alloc_nx ..
        have lit : sliceCells M1.mem M1.nx 1 (.os M.nx 0 1 1) = some (1, [.int .u8 b]) := by
          have : M1.mem M.nx = some (.cells 5 [.int .u8 b]) := by rw [← e3]; exact alloc_same ..
          simp only [sliceCells, look_lt (show M.nx < M1.nx by omega), this]; rfl
        have x1 : ∀ y, y < M.nx → M1.mem y = M.mem y := fun y hy => by rw [← e3]; exact alloc_ne _ _ _ hy
        have key : ∀ (M2 : MM) (x2 : AV), OB1 lo M2 x2 (bs ++ [b]) → M1.nx ≤ M2.nx → (∀ y, y < M0.nx → M2.mem y = M0.mem y) →
            (match rdF f k (r + 1) with
            | some l => ∃ x' M', b12_1 call G.nl lo n (.i at0) (.i len) (.ptr oid 0) x2 (.i ((k : Int) + 1)) M2 = some (.tup [x', .i 0], M') ∧ OB1 lo M' x' (bs ++ l)
            | none => ∃ M', b12_1 call G.nl lo n (.i at0) (.i len) (.ptr oid 0) x2 (.i ((k : Int) + 1)) M2 = some (.tup [.nilsl, .i 24], M')) := by
          intro M2 x2 g1 g2 g3
          have := ih (k + 1) n M2 x2 (bs ++ [b]) (by omega) (by omega) (by omega) g3 g1 (by omega) (by simp; omega)
          have ec : (((k + 1 : Nat)) : Int) = (k : Int) + 1 := by omega
          rw [ec] at this
          simp only [rdF, hfk]
          cases hrd : rdF f (k + 1) r with
          | none => rw [hrd] at this; exact this
          | some l => rw [hrd] at this; simpa using this
        have walk : ∀ (M2 : MM) (x2 : AV) (R : AV × MM), (∀ {R' : Type} {rr : Option R'} {kk : AV → MM → Option R'}, kk x2 M2 = rr → bnd (istep call modeF false lo M1.nx M1.nx (.app 5 1 1 [.int .u8 0] (.k x) (.k (.os M.nx 0 1 1))) [] M1) kk = rr) →
            b12_1 call G.nl lo n (.i at0) (.i len) (.ptr oid 0) x2 (.i ((k : Int) + 1)) M2 = some R → b12_1 call G.nl lo (n + 1) (.i at0) (.i len) (.ptr oid 0) x (.i k) M = some R := by
          intro M2 x2 R happ hR
          rw [b12_1]
          repeat (first | ((with_reducible apply rn_ld hoM' hoM); focus exact ho4) | rw [e1] | ((with_reducible refine rn_lkp (es := es) ?_ ?_ ?_ ?_); (focus rfl); (focus exact hm1); (focus exact hm2)) | rw [hq] | simp only [Option.getD_some] | ((with_reducible refine rn_rem ?_ ?_); focus decide) | rw [e2] | ((with_reducible refine rn_ixp ?_ ?_); focus omega) | ((with_reducible refine rn_ld (t := 66) (cs := cs) (v := .bool true) ?_ ?_ ?_ ?_); (focus exact hc1); (focus exact hc2); (focus (simp only [Int.toNat_natCast, Nat.mul_one, Nat.zero_add]; exact hr.2))) | ((with_reducible refine rn_ld (t := 66) (cs := cs) (v := .int .u8 b) ?_ ?_ ?_ ?_); (focus exact hc1); (focus exact hc2); (focus (simp only [Int.toNat_natCast, Nat.mul_one, Nat.zero_add]; exact hr.1))) | ((with_reducible refine rn_mksl (cs := [.int .u8 b]) e3 ?_ ?_); focus exact rfl) | (with_reducible refine happ ?_) | with_reducible refine rn_bsome ?_ | with_reducible refine rn_some ?_ | with_reducible refine rn_if_t ?_ | with_reducible refine rn_if_f ?_ | with_reducible refine rn_gtt ?_ | with_reducible refine rn_gff ?_ | with_reducible refine rn_gtf ?_ | with_reducible refine rn_gft ?_ | with_reducible refine rn_gun ?_ | with_reducible refine rn_ibin ?_ | with_reducible refine rn_iun ?_ | with_reducible refine rn_ipick ?_ | with_reducible refine rn_icvi ?_ | with_reducible refine rn_ild1 ?_ | with_reducible refine rn_inilc ?_ | with_reducible refine rn_ifad ?_ | with_reducible refine rn_iext ?_ | with_reducible refine rn_ilens ?_ | with_reducible refine rn_ilen ?_ | with_reducible refine rn_iixs ?_ | with_reducible refine rn_iixc ?_ | with_reducible refine rn_pt ?_ | with_reducible refine rn_pf ?_ | with_reducible refine rn_eqb_tt ?_ | with_reducible refine rn_eqb_ff ?_ | with_reducible refine rn_eqb_tf ?_ | with_reducible refine rn_eqb_ft ?_ | with_reducible refine rn_neb_tt ?_ | with_reducible refine rn_neb_ff ?_ | with_reducible refine rn_neb_tf ?_ | with_reducible refine rn_neb_ft ?_ | with_reducible refine rn_not_t ?_ | with_reducible refine rn_not_f ?_ | with_reducible refine rn_eqp1 ?_ | with_reducible refine rn_eqp2 ?_ | with_reducible refine rn_eqp3 ?_ | with_reducible refine rn_nep1 ?_ | with_reducible refine rn_nep2 ?_ | with_reducible refine rn_ext0 ?_ | with_reducible refine rn_ext1 ?_ | with_reducible refine rn_ext2 ?_ | with_reducible refine rn_ext3 ?_ | with_reducible refine rn_len_sl ?_ | with_reducible refine rn_len_nil ?_ | with_reducible refine rn_len_os ?_ | with_reducible refine rn_lens ?_ | with_reducible refine rn_nilc ?_ | with_reducible refine rn_nilci ?_ | with_reducible refine rn_fad ?_ | with_reducible refine rn_fadi ?_ | with_reducible refine rn_ldi ?_ | ((with_reducible refine rn_add64 ?_ ?_); focus omega) | ((with_reducible refine rn_sub64 ?_ ?_); focus omega) | ((with_reducible refine rn_mul64 ?_ ?_); focus omega) | ((with_reducible refine rn_addu ?_ ?_); focus omega) | ((with_reducible refine rn_subu ?_ ?_); focus omega) | ((with_reducible refine rn_mulu ?_ ?_); focus omega) | ((with_reducible refine rn_add8 ?_ ?_); focus omega) | ((with_reducible refine rn_sub8 ?_ ?_); focus omega) | ((with_reducible refine rn_rem ?_ ?_); focus omega) | ((with_reducible refine rn_quo64 ?_ ?_); focus omega) | ((with_reducible refine rn_quou ?_ ?_); focus omega) | ((with_reducible refine rn_quo8 ?_ ?_); focus omega) | ((with_reducible refine rn_eql_t ?_ ?_); focus omega) | ((with_reducible refine rn_eql_f ?_ ?_); focus omega) | ((with_reducible refine rn_neq_t ?_ ?_); focus omega) | ((with_reducible refine rn_neq_f ?_ ?_); focus omega) | ((with_reducible refine rn_lss_t ?_ ?_); focus omega) | ((with_reducible refine rn_lss_f ?_ ?_); focus omega) | ((with_reducible refine rn_leq_t ?_ ?_); focus omega) | ((with_reducible refine rn_leq_f ?_ ?_); focus omega) | ((with_reducible refine rn_gtr_t ?_ ?_); focus omega) | ((with_reducible refine rn_gtr_f ?_ ?_); focus omega) | ((with_reducible refine rn_geq_t ?_ ?_); focus omega) | ((with_reducible refine rn_geq_f ?_ ?_); focus omega) | ((with_reducible refine rn_cvi64 ?_ ?_); focus omega) | ((with_reducible refine rn_cviu ?_ ?_); focus omega) | ((with_reducible refine rn_cvi8 ?_ ?_); focus omega) | ((with_reducible refine rn_ixs ?_ ?_); focus omega) | ((with_reducible refine rn_ixsl ?_ ?_); focus omega) | ((with_reducible refine rn_shr ?_ ?_); focus omega))
          exact hR
        rcases hx with ⟨rfl, rfl⟩ | ⟨id, rfl, i1, i2, i3⟩
        · obtain ⟨M2, e4⟩ : ∃ y, M1.alloc M1.nx (.cells 5 [.int .u8 b]) = y := ⟨_, rfl⟩
          have g1 : OB1 lo M2 (.os M1.nx 0 1 1) ([] ++ [b]) := .inr ⟨M1.nx, rfl, by omega, by rw [← e4, alloc_nx]; omega, by rw [← e4]; exact alloc_same ..⟩
          have w := fun R hR => walk M2 (.os M1.nx 0 1 1) R (fun h => rn_app0 (news := [.int .u8 b]) (n := 1) e4 lit rfl (by simp) h) hR
          have kk := key M2 _ g1 (by rw [← e4, alloc_nx]; omega) (fun y hy => by rw [← e4, alloc_ne _ _ _ (by omega), x1 y (by omega), hfr y hy])
          cases hrd : rdF f k (r + 1) with
          | none => rw [hrd] at kk; obtain ⟨M', q⟩ := kk; exact ⟨M', w _ q⟩
          | some l => rw [hrd] at kk; obtain ⟨x', M', q, q2⟩ := kk; exact ⟨x', M', w _ q, q2⟩
        · obtain ⟨M2, e4⟩ : ∃ y, ({ nx := max M1.nx (M1.nx + 1), mem := upd (upd M1.mem id none) M1.nx (some (.cells 5 ((bs.map fun b => .int .u8 b) ++ [.int .u8 b]))) } : MM) = y := ⟨_, rfl⟩
          have n2 : M2.nx = M1.nx + 1 := by rw [← e4]; show max M1.nx (M1.nx + 1) = _; omega
          have g1 : OB1 lo M2 (.os M1.nx 0 (bs.length + 1) 1) (bs ++ [b]) := .inr ⟨M1.nx, by simp, by omega, by omega, by rw [← e4]; show upd _ _ _ _ = _; rw [upd_same]; simp⟩
          have w := fun R hR => walk M2 (.os M1.nx 0 (bs.length + 1) 1) R (fun h => rn_app (news := [.int .u8 b]) (n := 1) (cs := bs.map fun b => .int .u8 b) e4 lit rfl (by omega) (by rw [x1 _ i2]; exact i3) ⟨i1, by simp, by omega, by omega, rfl⟩ h) hR
          have kk := key M2 _ g1 (by omega) (fun y hy => by
            rw [← e4]; show upd (upd M1.mem id none) M1.nx _ y = _
            rw [upd_ne _ _ _ _ (by omega), upd_ne _ _ _ _ (by omega), x1 y (by omega), hfr y hy])
          cases hrd : rdF f k (r + 1) with
          | none => rw [hrd] at kk; obtain ⟨M', q⟩ := kk; exact ⟨M', w _ q⟩
          | some l => rw [hrd] at kk; obtain ⟨x', M', q, q2⟩ := kk; exact ⟨x', M', w _ q, q2⟩

include hc
section
variable {p : Nat} {M : MM} {l : List OB} {live : Int} {sl : AV} (h : MR p M l live sl) (hl : l.length ≤ 100000) (i : Nat) (o : OB) (hi : l[i]? = some o) (ha : o.alive = true) (hsz : 0 ≤ o.size ∧ o.size ≤ 4194304)
  {m : Nat} {f : Nat → Option Int} {own : Nat → Prop} {es : List (Value × AV)} (hm : o.mp = .mp m) (hk : CK M m f own es)
include h hl hi ha hsz hm hk

theorem write_ok (x : AV) (bs : List Int) (hb : ∀ b ∈ bs, 0 ≤ b ∧ b ≤ 255) (hx : BX M own x bs) (at0 : Nat) (hr : (at0 : Int) + bs.length ≤ o.size) (hown : ¬ own o.id) :
    ∃ M' es', call 11 [.ptr p 0, .int .u64 (8 * ((i : Int) + 1)), .i at0, x] 0 M = some (.i 0, M') ∧ M.nx ≤ M'.nx ∧ CK M' m (wrF f at0 bs) (fun y => own y ∨ M.nx ≤ y) es' ∧ ∀ y, y < M.nx → ¬ own y → M'.mem y = M.mem y := by
  obtain ⟨hil, hio⟩ := List.getElem?_eq_some_iff.1 hi
  have hmem : o ∈ l := hio ▸ List.getElem_mem hil
  have hlt := h.olt o hmem
  have hob := h.objs o hmem
  have hG : G.nl = 18446744073709551616 := rfl
  obtain ⟨M', es', q1, q2, q3, q4⟩ := write_loop o.id m x bs hb at0 (by omega) M own hx hlt hown o.cells hob (by simp [OB.cells, hm]) bs.length 0 G.nl M f own es (by omega) (by rw [hG]; omega) hk (Nat.le_refl _) (fun _ _ _ => rfl) (fun _ h => .inl h) (fun _ h _ => h)
  refine ⟨M', es', ?_, q2, by simpa using q3, q4⟩
  have hx1 := hx.1
  have hw := within_ok hc (lim := M.nx) o.size (at0 : Int) (bs.length : Int) hlt hob rfl hsz (by omega) (by omega) rfl
  rw [decide_eq_true (by omega)] at hw
  rw [q11 hc]; unfold s11
  repeat (first | (with_reducible refine rn_bnd (find_ro hc h hl i o hi ha) ?_) | (with_reducible refine rn_opt hx1 ?_) | (with_reducible refine rn_bnd hw ?_) | with_reducible refine rn_bsome ?_ | with_reducible refine rn_some ?_ | with_reducible refine rn_if_t ?_ | with_reducible refine rn_if_f ?_ | with_reducible refine rn_gtt ?_ | with_reducible refine rn_gff ?_ | with_reducible refine rn_gtf ?_ | with_reducible refine rn_gft ?_ | with_reducible refine rn_gun ?_ | with_reducible refine rn_ibin ?_ | with_reducible refine rn_iun ?_ | with_reducible refine rn_ipick ?_ | with_reducible refine rn_icvi ?_ | with_reducible refine rn_ild1 ?_ | with_reducible refine rn_inilc ?_ | with_reducible refine rn_ifad ?_ | with_reducible refine rn_iext ?_ | with_reducible refine rn_ilens ?_ | with_reducible refine rn_ilen ?_ | with_reducible refine rn_iixs ?_ | with_reducible refine rn_iixc ?_ | with_reducible refine rn_pt ?_ | with_reducible refine rn_pf ?_ | with_reducible refine rn_eqb_tt ?_ | with_reducible refine rn_eqb_ff ?_ | with_reducible refine rn_eqb_tf ?_ | with_reducible refine rn_eqb_ft ?_ | with_reducible refine rn_neb_tt ?_ | with_reducible refine rn_neb_ff ?_ | with_reducible refine rn_neb_tf ?_ | with_reducible refine rn_neb_ft ?_ | with_reducible refine rn_not_t ?_ | with_reducible refine rn_not_f ?_ | with_reducible refine rn_eqp1 ?_ | with_reducible refine rn_eqp2 ?_ | with_reducible refine rn_eqp3 ?_ | with_reducible refine rn_nep1 ?_ | with_reducible refine rn_nep2 ?_ | with_reducible refine rn_ext0 ?_ | with_reducible refine rn_ext1 ?_ | with_reducible refine rn_ext2 ?_ | with_reducible refine rn_ext3 ?_ | with_reducible refine rn_len_sl ?_ | with_reducible refine rn_len_nil ?_ | with_reducible refine rn_len_os ?_ | with_reducible refine rn_lens ?_ | with_reducible refine rn_nilc ?_ | with_reducible refine rn_nilci ?_ | with_reducible refine rn_fad ?_ | with_reducible refine rn_fadi ?_ | with_reducible refine rn_ldi ?_ | ((with_reducible refine rn_add64 ?_ ?_); focus omega) | ((with_reducible refine rn_sub64 ?_ ?_); focus omega) | ((with_reducible refine rn_mul64 ?_ ?_); focus omega) | ((with_reducible refine rn_addu ?_ ?_); focus omega) | ((with_reducible refine rn_subu ?_ ?_); focus omega) | ((with_reducible refine rn_mulu ?_ ?_); focus omega) | ((with_reducible refine rn_add8 ?_ ?_); focus omega) | ((with_reducible refine rn_sub8 ?_ ?_); focus omega) | ((with_reducible refine rn_rem ?_ ?_); focus omega) | ((with_reducible refine rn_quo64 ?_ ?_); focus omega) | ((with_reducible refine rn_quou ?_ ?_); focus omega) | ((with_reducible refine rn_quo8 ?_ ?_); focus omega) | ((with_reducible refine rn_eql_t ?_ ?_); focus omega) | ((with_reducible refine rn_eql_f ?_ ?_); focus omega) | ((with_reducible refine rn_neq_t ?_ ?_); focus omega) | ((with_reducible refine rn_neq_f ?_ ?_); focus omega) | ((with_reducible refine rn_lss_t ?_ ?_); focus omega) | ((with_reducible refine rn_lss_f ?_ ?_); focus omega) | ((with_reducible refine rn_leq_t ?_ ?_); focus omega) | ((with_reducible refine rn_leq_f ?_ ?_); focus omega) | ((with_reducible refine rn_gtr_t ?_ ?_); focus omega) | ((with_reducible refine rn_gtr_f ?_ ?_); focus omega) | ((with_reducible refine rn_geq_t ?_ ?_); focus omega) | ((with_reducible refine rn_geq_f ?_ ?_); focus omega) | ((with_reducible refine rn_cvi64 ?_ ?_); focus omega) | ((with_reducible refine rn_cviu ?_ ?_); focus omega) | ((with_reducible refine rn_cvi8 ?_ ?_); focus omega) | ((with_reducible refine rn_ixs ?_ ?_); focus omega) | ((with_reducible refine rn_ixsl ?_ ?_); focus omega) | ((with_reducible refine rn_shr ?_ ?_); focus omega))
  exact q1

omit hm hk in
theorem write_range (x : AV) (n : Nat) (hx : lenA x = some (.i n)) (hn : n ≤ 4194304) (at0 : Int) (h64 : -9223372036854775808 ≤ at0 ∧ at0 ≤ 9223372036854775807) (hr : ¬ (0 ≤ at0 ∧ at0 + n ≤ o.size)) :
    call 11 [.ptr p 0, .int .u64 (8 * ((i : Int) + 1)), .i at0, x] 0 M = some (.i 20, M) := by
  obtain ⟨hil, hio⟩ := List.getElem?_eq_some_iff.1 hi
  have hmem : o ∈ l := hio ▸ List.getElem_mem hil
  have hlt := h.olt o hmem
  have hob := h.objs o hmem
  have hw := within_ok hc (lim := M.nx) o.size at0 (n : Int) hlt hob rfl hsz h64 (by omega) rfl
  rw [decide_eq_false (by omega)] at hw
  rw [q11 hc]; unfold s11
  repeat (first | (with_reducible refine rn_bnd (find_ro hc h hl i o hi ha) ?_) | (with_reducible refine rn_opt hx ?_) | (with_reducible refine rn_bnd hw ?_) | with_reducible refine rn_bsome ?_ | with_reducible refine rn_some ?_ | with_reducible refine rn_if_t ?_ | with_reducible refine rn_if_f ?_ | with_reducible refine rn_gtt ?_ | with_reducible refine rn_gff ?_ | with_reducible refine rn_gtf ?_ | with_reducible refine rn_gft ?_ | with_reducible refine rn_gun ?_ | with_reducible refine rn_ibin ?_ | with_reducible refine rn_iun ?_ | with_reducible refine rn_ipick ?_ | with_reducible refine rn_icvi ?_ | with_reducible refine rn_ild1 ?_ | with_reducible refine rn_inilc ?_ | with_reducible refine rn_ifad ?_ | with_reducible refine rn_iext ?_ | with_reducible refine rn_ilens ?_ | with_reducible refine rn_ilen ?_ | with_reducible refine rn_iixs ?_ | with_reducible refine rn_iixc ?_ | with_reducible refine rn_pt ?_ | with_reducible refine rn_pf ?_ | with_reducible refine rn_eqb_tt ?_ | with_reducible refine rn_eqb_ff ?_ | with_reducible refine rn_eqb_tf ?_ | with_reducible refine rn_eqb_ft ?_ | with_reducible refine rn_neb_tt ?_ | with_reducible refine rn_neb_ff ?_ | with_reducible refine rn_neb_tf ?_ | with_reducible refine rn_neb_ft ?_ | with_reducible refine rn_not_t ?_ | with_reducible refine rn_not_f ?_ | with_reducible refine rn_eqp1 ?_ | with_reducible refine rn_eqp2 ?_ | with_reducible refine rn_eqp3 ?_ | with_reducible refine rn_nep1 ?_ | with_reducible refine rn_nep2 ?_ | with_reducible refine rn_ext0 ?_ | with_reducible refine rn_ext1 ?_ | with_reducible refine rn_ext2 ?_ | with_reducible refine rn_ext3 ?_ | with_reducible refine rn_len_sl ?_ | with_reducible refine rn_len_nil ?_ | with_reducible refine rn_len_os ?_ | with_reducible refine rn_lens ?_ | with_reducible refine rn_nilc ?_ | with_reducible refine rn_nilci ?_ | with_reducible refine rn_fad ?_ | with_reducible refine rn_fadi ?_ | with_reducible refine rn_ldi ?_ | ((with_reducible refine rn_add64 ?_ ?_); focus omega) | ((with_reducible refine rn_sub64 ?_ ?_); focus omega) | ((with_reducible refine rn_mul64 ?_ ?_); focus omega) | ((with_reducible refine rn_addu ?_ ?_); focus omega) | ((with_reducible refine rn_subu ?_ ?_); focus omega) | ((with_reducible refine rn_mulu ?_ ?_); focus omega) | ((with_reducible refine rn_add8 ?_ ?_); focus omega) | ((with_reducible refine rn_sub8 ?_ ?_); focus omega) | ((with_reducible refine rn_rem ?_ ?_); focus omega) | ((with_reducible refine rn_quo64 ?_ ?_); focus omega) | ((with_reducible refine rn_quou ?_ ?_); focus omega) | ((with_reducible refine rn_quo8 ?_ ?_); focus omega) | ((with_reducible refine rn_eql_t ?_ ?_); focus omega) | ((with_reducible refine rn_eql_f ?_ ?_); focus omega) | ((with_reducible refine rn_neq_t ?_ ?_); focus omega) | ((with_reducible refine rn_neq_f ?_ ?_); focus omega) | ((with_reducible refine rn_lss_t ?_ ?_); focus omega) | ((with_reducible refine rn_lss_f ?_ ?_); focus omega) | ((with_reducible refine rn_leq_t ?_ ?_); focus omega) | ((with_reducible refine rn_leq_f ?_ ?_); focus omega) | ((with_reducible refine rn_gtr_t ?_ ?_); focus omega) | ((with_reducible refine rn_gtr_f ?_ ?_); focus omega) | ((with_reducible refine rn_geq_t ?_ ?_); focus omega) | ((with_reducible refine rn_geq_f ?_ ?_); focus omega) | ((with_reducible refine rn_cvi64 ?_ ?_); focus omega) | ((with_reducible refine rn_cviu ?_ ?_); focus omega) | ((with_reducible refine rn_cvi8 ?_ ?_); focus omega) | ((with_reducible refine rn_ixs ?_ ?_); focus omega) | ((with_reducible refine rn_ixsl ?_ ?_); focus omega) | ((with_reducible refine rn_shr ?_ ?_); focus omega))
  rfl

theorem read_ok (at0 len : Nat) (hr : (at0 : Int) + len ≤ o.size) :
    roC call M.nx 12 [.ptr p 0, .int .u64 (8 * ((i : Int) + 1)), .i at0, .i len] M = match rdF f at0 len with
      | some bs => some (.tup [.d (.sl (bs.map fun b => .v (.int .u8 b)) bs.length), .i 0], M)
      | none => some (.tup [.d (.sl [] 0), .i 24], M) := by
  obtain ⟨hil, hio⟩ := List.getElem?_eq_some_iff.1 hi
  have hmem : o ∈ l := hio ▸ List.getElem_mem hil
  have hlt := h.olt o hmem
  have hG : G.nl = 18446744073709551616 := rfl
  let M0 : MM := ⟨M.nx, look M.mem M.nx⟩
  have hk0 : CK M0 m f own es := hk.frame (Nat.le_refl _) (fun x _ hx => look_lt hx)
  have h0 : MR p M0 l live sl := h.look
  have hob := h0.objs o hmem
  have hw := within_ok hc (lim := M0.nx) (M := M0) o.size (at0 : Int) (len : Int) hlt hob rfl hsz (by omega) (by omega) rfl
  rw [decide_eq_true (by omega)] at hw
  have hlp := read_loop (call := call) o.id m o.cells (by simp [OB.cells, hm]) at0 len (by omega) M0 own f es hk0 hlt hob M.nx (Nat.le_refl _) len at0 G.nl M0 .nilsl [] rfl (by rw [hG]; omega) (Nat.le_refl _) (fun _ _ => rfl) (.inl ⟨rfl, rfl⟩) (Nat.le_refl _) (by simp)
  have walk : ∀ R, b12_1 call G.nl M.nx G.nl (.i at0) (.i len) (.ptr o.id 0) .nilsl (.i at0) M0 = some R → call 12 [.ptr p 0, .int .u64 (8 * ((i : Int) + 1)), .i at0, .i len] M.nx M0 = some R := by
    intro R hR
    rw [q12 hc]; unfold s12
    repeat (first | (with_reducible refine rn_bnd (find_ro hc h0 hl i o hi ha) ?_) | (with_reducible refine rn_bnd hw ?_) | with_reducible refine rn_bsome ?_ | with_reducible refine rn_some ?_ | with_reducible refine rn_if_t ?_ | with_reducible refine rn_if_f ?_ | with_reducible refine rn_gtt ?_ | with_reducible refine rn_gff ?_ | with_reducible refine rn_gtf ?_ | with_reducible refine rn_gft ?_ | with_reducible refine rn_gun ?_ | with_reducible refine rn_ibin ?_ | with_reducible refine rn_iun ?_ | with_reducible refine rn_ipick ?_ | with_reducible refine rn_icvi ?_ | with_reducible refine rn_ild1 ?_ | with_reducible refine rn_inilc ?_ | with_reducible refine rn_ifad ?_ | with_reducible refine rn_iext ?_ | with_reducible refine rn_ilens ?_ | with_reducible refine rn_ilen ?_ | with_reducible refine rn_iixs ?_ | with_reducible refine rn_iixc ?_ | with_reducible refine rn_pt ?_ | with_reducible refine rn_pf ?_ | with_reducible refine rn_eqb_tt ?_ | with_reducible refine rn_eqb_ff ?_ | with_reducible refine rn_eqb_tf ?_ | with_reducible refine rn_eqb_ft ?_ | with_reducible refine rn_neb_tt ?_ | with_reducible refine rn_neb_ff ?_ | with_reducible refine rn_neb_tf ?_ | with_reducible refine rn_neb_ft ?_ | with_reducible refine rn_not_t ?_ | with_reducible refine rn_not_f ?_ | with_reducible refine rn_eqp1 ?_ | with_reducible refine rn_eqp2 ?_ | with_reducible refine rn_eqp3 ?_ | with_reducible refine rn_nep1 ?_ | with_reducible refine rn_nep2 ?_ | with_reducible refine rn_ext0 ?_ | with_reducible refine rn_ext1 ?_ | with_reducible refine rn_ext2 ?_ | with_reducible refine rn_ext3 ?_ | with_reducible refine rn_len_sl ?_ | with_reducible refine rn_len_nil ?_ | with_reducible refine rn_len_os ?_ | with_reducible refine rn_lens ?_ | with_reducible refine rn_nilc ?_ | with_reducible refine rn_nilci ?_ | with_reducible refine rn_fad ?_ | with_reducible refine rn_fadi ?_ | with_reducible refine rn_ldi ?_ | ((with_reducible refine rn_add64 ?_ ?_); focus omega) | ((with_reducible refine rn_sub64 ?_ ?_); focus omega) | ((with_reducible refine rn_mul64 ?_ ?_); focus omega) | ((with_reducible refine rn_addu ?_ ?_); focus omega) | ((with_reducible refine rn_subu ?_ ?_); focus omega) | ((with_reducible refine rn_mulu ?_ ?_); focus omega) | ((with_reducible refine rn_add8 ?_ ?_); focus omega) | ((with_reducible refine rn_sub8 ?_ ?_); focus omega) | ((with_reducible refine rn_rem ?_ ?_); focus omega) | ((with_reducible refine rn_quo64 ?_ ?_); focus omega) | ((with_reducible refine rn_quou ?_ ?_); focus omega) | ((with_reducible refine rn_quo8 ?_ ?_); focus omega) | ((with_reducible refine rn_eql_t ?_ ?_); focus omega) | ((with_reducible refine rn_eql_f ?_ ?_); focus omega) | ((with_reducible refine rn_neq_t ?_ ?_); focus omega) | ((with_reducible refine rn_neq_f ?_ ?_); focus omega) | ((with_reducible refine rn_lss_t ?_ ?_); focus omega) | ((with_reducible refine rn_lss_f ?_ ?_); focus omega) | ((with_reducible refine rn_leq_t ?_ ?_); focus omega) | ((with_reducible refine rn_leq_f ?_ ?_); focus omega) | ((with_reducible refine rn_gtr_t ?_ ?_); focus omega) | ((with_reducible refine rn_gtr_f ?_ ?_); focus omega) | ((with_reducible refine rn_geq_t ?_ ?_); focus omega) | ((with_reducible refine rn_geq_f ?_ ?_); focus omega) | ((with_reducible refine rn_cvi64 ?_ ?_); focus omega) | ((with_reducible refine rn_cviu ?_ ?_); focus omega) | ((with_reducible refine rn_cvi8 ?_ ?_); focus omega) | ((with_reducible refine rn_ixs ?_ ?_); focus omega) | ((with_reducible refine rn_ixsl ?_ ?_); focus omega) | ((with_reducible refine rn_shr ?_ ?_); focus omega))
    exact hR
  cases hrd : rdF f at0 len with
  | some bs =>
    rw [hrd] at hlp
    obtain ⟨x', M', q1, q2⟩ := hlp
    exact roC_ok (walk _ q1) (by simpa using q2.freeze)
  | none =>
    rw [hrd] at hlp
    obtain ⟨M', q1⟩ := hlp
    exact roC_ok (walk _ q1) rfl

omit hm hk in
theorem read_range (at0 len : Int) (h64 : -9223372036854775808 ≤ at0 ∧ at0 ≤ 9223372036854775807) (hl64 : -9223372036854775808 ≤ len ∧ len ≤ 9223372036854775807) (hr : ¬ (0 ≤ at0 ∧ 0 ≤ len ∧ at0 ≤ o.size ∧ len ≤ o.size - at0)) :
    roC call M.nx 12 [.ptr p 0, .int .u64 (8 * ((i : Int) + 1)), .i at0, .i len] M = some (.tup [.d (.sl [] 0), .i 20], M) := by
  obtain ⟨hil, hio⟩ := List.getElem?_eq_some_iff.1 hi
  have hmem : o ∈ l := hio ▸ List.getElem_mem hil
  have hlt := h.olt o hmem
  let M0 : MM := ⟨M.nx, look M.mem M.nx⟩
  have h0 : MR p M0 l live sl := h.look
  have hob := h0.objs o hmem
  have hw := within_ok hc (lim := M0.nx) (M := M0) o.size at0 len hlt hob rfl hsz h64 hl64 rfl
  rw [decide_eq_false hr] at hw
  refine roC_ok (M' := M0) (r := .tup [.nilsl, .i 20]) ?_ rfl
  rw [q12 hc]; unfold s12
  repeat (first | (with_reducible refine rn_bnd (find_ro hc h0 hl i o hi ha) ?_) | (with_reducible refine rn_bnd hw ?_) | with_reducible refine rn_bsome ?_ | with_reducible refine rn_some ?_ | with_reducible refine rn_if_t ?_ | with_reducible refine rn_if_f ?_ | with_reducible refine rn_gtt ?_ | with_reducible refine rn_gff ?_ | with_reducible refine rn_gtf ?_ | with_reducible refine rn_gft ?_ | with_reducible refine rn_gun ?_ | with_reducible refine rn_ibin ?_ | with_reducible refine rn_iun ?_ | with_reducible refine rn_ipick ?_ | with_reducible refine rn_icvi ?_ | with_reducible refine rn_ild1 ?_ | with_reducible refine rn_inilc ?_ | with_reducible refine rn_ifad ?_ | with_reducible refine rn_iext ?_ | with_reducible refine rn_ilens ?_ | with_reducible refine rn_ilen ?_ | with_reducible refine rn_iixs ?_ | with_reducible refine rn_iixc ?_ | with_reducible refine rn_pt ?_ | with_reducible refine rn_pf ?_ | with_reducible refine rn_eqb_tt ?_ | with_reducible refine rn_eqb_ff ?_ | with_reducible refine rn_eqb_tf ?_ | with_reducible refine rn_eqb_ft ?_ | with_reducible refine rn_neb_tt ?_ | with_reducible refine rn_neb_ff ?_ | with_reducible refine rn_neb_tf ?_ | with_reducible refine rn_neb_ft ?_ | with_reducible refine rn_not_t ?_ | with_reducible refine rn_not_f ?_ | with_reducible refine rn_eqp1 ?_ | with_reducible refine rn_eqp2 ?_ | with_reducible refine rn_eqp3 ?_ | with_reducible refine rn_nep1 ?_ | with_reducible refine rn_nep2 ?_ | with_reducible refine rn_ext0 ?_ | with_reducible refine rn_ext1 ?_ | with_reducible refine rn_ext2 ?_ | with_reducible refine rn_ext3 ?_ | with_reducible refine rn_len_sl ?_ | with_reducible refine rn_len_nil ?_ | with_reducible refine rn_len_os ?_ | with_reducible refine rn_lens ?_ | with_reducible refine rn_nilc ?_ | with_reducible refine rn_nilci ?_ | with_reducible refine rn_fad ?_ | with_reducible refine rn_fadi ?_ | with_reducible refine rn_ldi ?_ | ((with_reducible refine rn_add64 ?_ ?_); focus omega) | ((with_reducible refine rn_sub64 ?_ ?_); focus omega) | ((with_reducible refine rn_mul64 ?_ ?_); focus omega) | ((with_reducible refine rn_addu ?_ ?_); focus omega) | ((with_reducible refine rn_subu ?_ ?_); focus omega) | ((with_reducible refine rn_mulu ?_ ?_); focus omega) | ((with_reducible refine rn_add8 ?_ ?_); focus omega) | ((with_reducible refine rn_sub8 ?_ ?_); focus omega) | ((with_reducible refine rn_rem ?_ ?_); focus omega) | ((with_reducible refine rn_quo64 ?_ ?_); focus omega) | ((with_reducible refine rn_quou ?_ ?_); focus omega) | ((with_reducible refine rn_quo8 ?_ ?_); focus omega) | ((with_reducible refine rn_eql_t ?_ ?_); focus omega) | ((with_reducible refine rn_eql_f ?_ ?_); focus omega) | ((with_reducible refine rn_neq_t ?_ ?_); focus omega) | ((with_reducible refine rn_neq_f ?_ ?_); focus omega) | ((with_reducible refine rn_lss_t ?_ ?_); focus omega) | ((with_reducible refine rn_lss_f ?_ ?_); focus omega) | ((with_reducible refine rn_leq_t ?_ ?_); focus omega) | ((with_reducible refine rn_leq_f ?_ ?_); focus omega) | ((with_reducible refine rn_gtr_t ?_ ?_); focus omega) | ((with_reducible refine rn_gtr_f ?_ ?_); focus omega) | ((with_reducible refine rn_geq_t ?_ ?_); focus omega) | ((with_reducible refine rn_geq_f ?_ ?_); focus omega) | ((with_reducible refine rn_cvi64 ?_ ?_); focus omega) | ((with_reducible refine rn_cviu ?_ ?_); focus omega) | ((with_reducible refine rn_cvi8 ?_ ?_); focus omega) | ((with_reducible refine rn_ixs ?_ ?_); focus omega) | ((with_reducible refine rn_ixsl ?_ ?_); focus omega) | ((with_reducible refine rn_shr ?_ ?_); focus omega))
  rfl
end
end
end Go.Proofs.Ytabhppamkhldeaa.Sx
