/- CHAPTER 19: Make. -/
import Derived.Test.YtabhppamkhldeaaMemB
namespace Go.Proofs.Ytabhppamkhldeaa.Sx
open Go
set_option maxRecDepth 1000000
set_option linter.unusedSimpArgs false
set_option linter.unusedVariables false

theorem MR.alloc {p : Nat} {M : MM} {l : List OB} {live : Int} {sl : AV} (h : MR p M l live sl) (b : Blk) : MR p (M.alloc M.nx b) l live sl := by
  have hne : ∀ x, x < M.nx → (M.alloc M.nx b).mem x = M.mem x := fun x hx => by simp only [MM.alloc, upd]; rw [if_neg (by omega)]
  have hnx : M.nx ≤ (M.alloc M.nx b).nx := by simp only [MM.alloc]; omega
  refine ⟨by rw [hne _ h.plt]; exact h.root, by have := h.plt; omega, ?_, ?_, ?_, h.onp, h.nodup⟩
  · rcases h.sli with h1 | ⟨sid, h1, h2, h3, h4, h5⟩
    · exact .inl h1
    · exact .inr ⟨sid, h1, by rw [hne _ h4]; exact h2, h3, by omega, h5⟩
  · intro o ho; rw [hne _ (h.olt o ho)]; exact h.objs o ho
  · intro o ho; have := h.olt o ho; omega

theorem MR.grow {p : Nat} {M M' : MM} {l : List OB} {live live' : Int} {sl : AV} (h : MR p M l live sl) (o : OB) (nid : Nat) (hnx : M.nx ≤ M'.nx) (h1 : M'.mem p = some (.cells 54 [.os nid 0 (l.length + 1) 1, .i live']))
    (h2 : M'.mem nid = some (.cells 55 ((l.map fun o => .ptr o.id 0) ++ [.ptr o.id 0]))) (h3 : M.nx ≤ nid ∧ nid < M'.nx) (h4 : M.nx ≤ o.id ∧ o.id < M'.nx) (h5 : nid ≠ o.id) (h6 : M'.mem o.id = some (.cells 58 o.cells))
    (h7 : ∀ x ∈ l, M'.mem x.id = M.mem x.id) : MR p M' (l ++ [o]) live' (.os nid 0 (l.length + 1) 1) where
  root := h1
  plt := by have := h.plt; omega
  sli := .inr ⟨nid, by simp, by simpa using h2, by have := h.plt; omega, h3.2, fun x hx => by
    rcases List.mem_append.1 hx with hx | hx
    · have := h.olt x hx; omega
    · simp at hx; subst hx; exact fun e => h5 e.symm⟩
  objs x hx := by
    rcases List.mem_append.1 hx with hx | hx
    · rw [h7 x hx]; exact h.objs x hx
    · simp at hx; subst hx; exact h6
  olt x hx := by
    rcases List.mem_append.1 hx with hx | hx
    · have := h.olt x hx; omega
    · simp at hx; subst hx; exact h4.2
  onp x hx := by
    rcases List.mem_append.1 hx with hx | hx
    · exact h.onp x hx
    · simp at hx; subst hx; have := h.plt; omega
  nodup := by
    simp only [List.map_append, List.map_cons, List.map_nil]
    refine List.nodup_append.2 ⟨h.nodup, by simp, fun a ha b hb => ?_⟩
    simp at hb; subst hb
    obtain ⟨x, hx, rfl⟩ := List.mem_map.1 ha
    have := h.olt x hx; omega

section
variable {R : Type} {r : Option R} {call : CallT} {mode : FuncId → Mode} {draw : Bool} {lo lim fresh : Nat} {ρ : List AV} {M : MM} {k : AV → MM → Option R}
theorem rn_mkmap {kk : KK} {M1 : MM} (e : M.alloc fresh (.map kk []) = M1) (hk : k (.mp fresh) M1 = r) : bnd (istep call mode draw lo lim fresh (.mkmap kk) ρ M) k = r := by subst e; exact hk
theorem rn_box {t : TypeId} {cs : List AV} {M1 : MM} (e : M.alloc fresh (.cells t cs) = M1) (hk : k (.ptr fresh 0) M1 = r) : bnd (istep call mode draw lo lim fresh (.box t (.k (.agg cs))) ρ M) k = r := by subst e; exact hk
theorem rn_mksl {t : TypeId} {n sz : Nat} {zero cs : List AV} {parts : List (Nat × Nat × X)} {M1 : MM} (e : M.alloc fresh (.cells t cs) = M1) (h : fill zero (parts.map fun p => (p.1, p.2.1, ev ρ p.2.2)) = some cs) (hk : k (.os fresh 0 n sz) M1 = r) :
    bnd (istep call mode draw lo lim fresh (.mksl t n sz zero parts) ρ M) k = r := by
  subst e
  refine rn_bnd (v := .os fresh 0 n sz) (M := M.alloc fresh (.cells t cs)) ?_ hk
  simp only [istep, h, Option.map_some]
/-- append, to a slice that was nil. -/
theorem rn_app0 {t : TypeId} {sz bytes : Nat} {zero news : List AV} {x : AV} {n : Nat} {M1 : MM} (e : M.alloc fresh (.cells t news) = M1) (h1 : sliceCells M.mem lim sz x = some (n, news)) (h2 : news.all AV.one = true) (h3 : n ≠ 0 ∧ n * bytes ≤ 140737488355328 ∧ n ≤ 9223372036854775807 ∧ zero.length = sz)
    (hk : k (.os fresh 0 n sz) M1 = r) : bnd (istep call mode draw lo lim fresh (.app t sz bytes zero (.k .nilsl) (.k x)) ρ M) k = r := by
  subst e
  refine rn_bnd (v := .os fresh 0 n sz) (M := M.alloc fresh (.cells t news)) ?_ hk
  simp only [istep, ev, h1, h2, h3.1, h3.2, if_true, if_false, and_self]
/-- append, to a slice of one's own. -/
theorem rn_app {t : TypeId} {sz bytes : Nat} {zero news cs : List AV} {x : AV} {n id len : Nat} {M1 : MM} (e : ({ nx := max M.nx (fresh + 1), mem := upd (upd M.mem id none) fresh (some (.cells t (cs ++ news))) } : MM) = M1) (h1 : sliceCells M.mem lim sz x = some (n, news)) (h2 : news.all AV.one = true) (h4 : id < lim) (h5 : M.mem id = some (.cells t cs))
    (h3 : lo ≤ id ∧ cs.length = len * sz ∧ (len + n) * bytes ≤ 140737488355328 ∧ len + n ≤ 9223372036854775807 ∧ zero.length = sz)
    (hk : k (.os fresh 0 (len + n) sz) M1 = r) :
    bnd (istep call mode draw lo lim fresh (.app t sz bytes zero (.k (.os id 0 len sz)) (.k x)) ρ M) k = r := by
  subst e
  refine rn_bnd (v := .os fresh 0 (len + n) sz) (M := { nx := max M.nx (fresh + 1), mem := upd (upd M.mem id none) fresh (some (.cells t (cs ++ news))) }) ?_ hk
  simp only [istep, ev, h1, h2, look_lt h4, h5, h3, if_true, and_self]
end

theorem alloc_same (M : MM) (b : Blk) : (M.alloc M.nx b).mem M.nx = some b := by simp [MM.alloc, upd]
theorem alloc_ne (M : MM) (b : Blk) (x : Nat) (h : x < M.nx) : (M.alloc M.nx b).mem x = M.mem x := by simp only [MM.alloc, upd]; rw [if_neg (by omega)]
theorem alloc_nx (M : MM) (b : Blk) : (M.alloc M.nx b).nx = M.nx + 1 := by simp only [MM.alloc]; omega

section
variable {call : CallT} (hc : Lim G call)
include hc
theorem make_bad' (lo : Nat) (p : AV) (size count : Int) (M : MM) (h : size < 0 ∨ size > 4194304 ∨ count < 0 ∨ count > 4096) :
    call 10 [p, .i size, .i count] lo M = some (.tup [.int .u64 0, .i 20], M) := hc.ge 1 _ _ _ _ _ (make_bad 0 p size count lo M h)

theorem make_ok {p : Nat} {M : MM} {l : List OB} {live : Int} {sl : AV} (h : MR p M l live sl) (hl : l.length ≤ 100000) (size count : Int) (hs : 0 ≤ size ∧ size ≤ 4194304) (hcn : 0 ≤ count ∧ count ≤ 4096) (hv : 0 ≤ live ∧ live ≤ 1000000) :
    ∃ M' nid, call 10 [.ptr p 0, .i size, .i count] 0 M = some (.tup [.int .u64 (8 * ((l.length : Int) + 1)), .i 0], M') ∧
      MR p M' (l ++ [⟨M.nx + 1, true, size, count, 1, .mp M.nx⟩]) (live + 1) (.os nid 0 (l.length + 1) 1) ∧ M.nx ≤ M'.nx ∧ M'.mem M.nx = some (.map (.int .i64) []) ∧ M.nx + 1 < nid ∧
      ∀ x, x < M.nx → x ≠ p → (∀ sid off len sz, sl = .os sid off len sz → x ≠ sid) → M'.mem x = M.mem x := by
  have hp := h.plt
  let o : OB := ⟨M.nx + 1, true, size, count, 1, .mp M.nx⟩
  obtain ⟨M1, e1⟩ : ∃ x, M.alloc M.nx (.map (.int .i64) []) = x := ⟨_, rfl⟩
  have n1 : M1.nx = M.nx + 1 := by rw [← e1]; exact alloc_nx ..
  obtain ⟨M2, e2⟩ : ∃ x, M1.alloc M1.nx (.cells 58 o.cells) = x := ⟨_, rfl⟩
  have n2 : M2.nx = M.nx + 2 := by rw [← e2, alloc_nx, n1]
  obtain ⟨M3, e3⟩ : ∃ x, M2.alloc M2.nx (.cells 55 [.ptr M1.nx 0]) = x := ⟨_, rfl⟩
  have n3 : M3.nx = M.nx + 3 := by rw [← e3, alloc_nx, n2]
  have h3 : MR p M3 l live sl := by rw [← e3, ← e2, ← e1]; exact ((h.alloc _).alloc _).alloc _
  have lit : sliceCells M3.mem M3.nx 1 (.os M2.nx 0 1 1) = some (1, [.ptr M1.nx 0]) := by
    have : M3.mem M2.nx = some (.cells 55 [.ptr M1.nx 0]) := by rw [← e3]; exact alloc_same ..
    simp only [sliceCells, look_lt (show M2.nx < M3.nx by omega), this]; rfl
  have hbox : M3.mem (M.nx + 1) = some (.cells 58 o.cells) := by
    rw [← e3, alloc_ne _ _ _ (by omega), ← e2, ← n1]; exact alloc_same ..
  have hmap : M3.mem M.nx = some (.map (.int .i64) []) := by
    rw [← e3, alloc_ne _ _ _ (by omega), ← e2, alloc_ne _ _ _ (by omega), ← e1]; exact alloc_same ..
  have x3 : ∀ x, x < M.nx → M3.mem x = M.mem x := fun x hx => by
    rw [← e3, alloc_ne _ _ _ (by omega), ← e2, alloc_ne _ _ _ (by omega), ← e1, alloc_ne _ _ _ hx]
  have hcv : IntKind.u64.wrap (8 * ((l.length : Int) + 1)) = 8 * ((l.length : Int) + 1) := IntWalk.u64_in _ (by omega)
  rcases h.sli with ⟨rfl, rfl⟩ | ⟨sid, rfl, s2, s3, s4, s5⟩
  · obtain ⟨M4, e4⟩ : ∃ x, M3.alloc M3.nx (.cells 55 [.ptr M1.nx 0]) = x := ⟨_, rfl⟩
    have n4 : M4.nx = M.nx + 4 := by rw [← e4, alloc_nx, n3]
    have h4 : MR p M4 [] live .nilsl := by rw [← e4]; exact h3.alloc _
    have r4 := h4.root

    obtain ⟨M5, e5⟩ : ∃ x, M4.put p (.cells 54 [.os M3.nx 0 (1) 1, .i live]) = x := ⟨_, rfl⟩
    obtain ⟨M6, e6⟩ : ∃ x, M5.put p (.cells 54 [.os M3.nx 0 (1) 1, .i (live + 1)]) = x := ⟨_, rfl⟩
    have r5 : M5.mem p = some (.cells 54 [.os M3.nx 0 (1) 1, .i live]) := by rw [← e5]; exact put_same ..
    have r6 : M6.mem p = some (.cells 54 [.os M3.nx 0 (1) 1, .i (live + 1)]) := by rw [← e6]; exact put_same ..
    have n5 : M5.nx = M4.nx := by rw [← e5]; rfl
    have n6 : M6.nx = M5.nx := by rw [← e6]; rfl
    have p4 : p < M4.nx := by omega
    have p5 : p < M5.nx := by omega
    have p6 : p < M6.nx := by omega
    have x6 : ∀ x, x ≠ p → M6.mem x = M4.mem x := fun x hx => by rw [← e6, put_ne _ _ _ _ hx, ← e5, put_ne _ _ _ _ hx]
    refine ⟨M6, M3.nx, ?_, ?_, by omega, by rw [x6 _ (by omega), ← e4, alloc_ne _ _ _ (by omega)]; exact hmap, by omega, fun x h1 h2 _ => by rw [x6 _ h2, ← e4, alloc_ne _ _ _ (by omega)]; exact x3 x h1⟩
    · rw [q10 hc]; unfold s10
      repeat (first | (with_reducible refine rn_mkmap e1 ?_) | ((with_reducible refine rn_opt (v := .agg o.cells) ?_ ?_); focus exact rfl) | (with_reducible refine rn_box e2 ?_) | ((with_reducible refine rn_mksl (cs := [.ptr M1.nx 0]) e3 ?_ ?_); focus exact rfl) | ((with_reducible refine rn_app0 (news := [.ptr M1.nx 0]) (n := 1) e4 ?_ ?_ ?_ ?_); (focus exact lit); (focus exact rfl); (focus simp)) | ((with_reducible apply rn_ld (t := 54) (cs := [.nilsl, .i live])); (focus (show p < M.nx; exact h.plt)); (focus exact h.root); (focus exact rfl)) | ((with_reducible refine rn_st1 (t := 54) (cs := [.nilsl, .i live]) (cs' := [.os M3.nx 0 (1) 1, .i live]) ?_ ?_ ?_ ?_ ?_ ?_); (focus exact p4); (focus exact r4); (focus exact ⟨Nat.zero_le _, rfl, rfl⟩); (focus simp); (focus exact rfl)) | rw [e5] | ((with_reducible apply rn_ld (t := 54) (cs := [.os M3.nx 0 (1) 1, .i live])); (focus exact p5); (focus exact r5); (focus exact rfl)) | ((with_reducible refine rn_st1 (t := 54) (cs := [.os M3.nx 0 (1) 1, .i live]) (cs' := [.os M3.nx 0 (1) 1, .i (live + 1)]) ?_ ?_ ?_ ?_ ?_ ?_); (focus exact p5); (focus exact r5); (focus exact ⟨Nat.zero_le _, rfl, rfl⟩); (focus simp); (focus exact rfl)) | rw [e6] | ((with_reducible apply rn_ld (t := 54) (cs := [.os M3.nx 0 (1) 1, .i (live + 1)])); (focus exact p6); (focus exact r6); (focus exact rfl)) | with_reducible refine rn_bsome ?_ | with_reducible refine rn_some ?_ | with_reducible refine rn_if_t ?_ | with_reducible refine rn_if_f ?_ | with_reducible refine rn_gtt ?_ | with_reducible refine rn_gff ?_ | with_reducible refine rn_gtf ?_ | with_reducible refine rn_gft ?_ | with_reducible refine rn_gun ?_ | with_reducible refine rn_ibin ?_ | with_reducible refine rn_iun ?_ | with_reducible refine rn_ipick ?_ | with_reducible refine rn_icvi ?_ | with_reducible refine rn_ild1 ?_ | with_reducible refine rn_inilc ?_ | with_reducible refine rn_ifad ?_ | with_reducible refine rn_iext ?_ | with_reducible refine rn_ilens ?_ | with_reducible refine rn_ilen ?_ | with_reducible refine rn_iixs ?_ | with_reducible refine rn_iixc ?_ | with_reducible refine rn_pt ?_ | with_reducible refine rn_pf ?_ | with_reducible refine rn_eqb_tt ?_ | with_reducible refine rn_eqb_ff ?_ | with_reducible refine rn_eqb_tf ?_ | with_reducible refine rn_eqb_ft ?_ | with_reducible refine rn_neb_tt ?_ | with_reducible refine rn_neb_ff ?_ | with_reducible refine rn_neb_tf ?_ | with_reducible refine rn_neb_ft ?_ | with_reducible refine rn_not_t ?_ | with_reducible refine rn_not_f ?_ | with_reducible refine rn_eqp1 ?_ | with_reducible refine rn_eqp2 ?_ | with_reducible refine rn_eqp3 ?_ | with_reducible refine rn_nep1 ?_ | with_reducible refine rn_nep2 ?_ | with_reducible refine rn_ext0 ?_ | with_reducible refine rn_ext1 ?_ | with_reducible refine rn_ext2 ?_ | with_reducible refine rn_ext3 ?_ | with_reducible refine rn_len_sl ?_ | with_reducible refine rn_len_nil ?_ | with_reducible refine rn_len_os ?_ | with_reducible refine rn_lens ?_ | with_reducible refine rn_nilc ?_ | with_reducible refine rn_nilci ?_ | with_reducible refine rn_fad ?_ | with_reducible refine rn_fadi ?_ | with_reducible refine rn_ldi ?_ | ((with_reducible refine rn_add64 ?_ ?_); focus omega) | ((with_reducible refine rn_sub64 ?_ ?_); focus omega) | ((with_reducible refine rn_mul64 ?_ ?_); focus omega) | ((with_reducible refine rn_addu ?_ ?_); focus omega) | ((with_reducible refine rn_subu ?_ ?_); focus omega) | ((with_reducible refine rn_mulu ?_ ?_); focus omega) | ((with_reducible refine rn_add8 ?_ ?_); focus omega) | ((with_reducible refine rn_sub8 ?_ ?_); focus omega) | ((with_reducible refine rn_rem ?_ ?_); focus omega) | ((with_reducible refine rn_quo64 ?_ ?_); focus omega) | ((with_reducible refine rn_quou ?_ ?_); focus omega) | ((with_reducible refine rn_quo8 ?_ ?_); focus omega) | ((with_reducible refine rn_eql_t ?_ ?_); focus omega) | ((with_reducible refine rn_eql_f ?_ ?_); focus omega) | ((with_reducible refine rn_neq_t ?_ ?_); focus omega) | ((with_reducible refine rn_neq_f ?_ ?_); focus omega) | ((with_reducible refine rn_lss_t ?_ ?_); focus omega) | ((with_reducible refine rn_lss_f ?_ ?_); focus omega) | ((with_reducible refine rn_leq_t ?_ ?_); focus omega) | ((with_reducible refine rn_leq_f ?_ ?_); focus omega) | ((with_reducible refine rn_gtr_t ?_ ?_); focus omega) | ((with_reducible refine rn_gtr_f ?_ ?_); focus omega) | ((with_reducible refine rn_geq_t ?_ ?_); focus omega) | ((with_reducible refine rn_geq_f ?_ ?_); focus omega) | ((with_reducible refine rn_cvi64 ?_ ?_); focus omega) | ((with_reducible refine rn_cviu ?_ ?_); focus omega) | ((with_reducible refine rn_cvi8 ?_ ?_); focus omega) | ((with_reducible refine rn_ixs ?_ ?_); focus omega) | ((with_reducible refine rn_ixsl ?_ ?_); focus omega) | ((with_reducible refine rn_shr ?_ ?_); focus omega))
      rfl
    · refine h.grow o M3.nx (by omega) r6 ?_ ⟨by omega, by omega⟩ ⟨by show _ ≤ M.nx + 1; omega, by show M.nx + 1 < M6.nx; omega⟩ (by show M3.nx ≠ M.nx + 1; omega) ?_ (fun x hx => by simp at hx)
      · rw [x6 _ (by omega), ← e4, alloc_same, n1]; rfl
      · rw [x6 _ (by show M.nx + 1 ≠ p; omega), ← e4]; show (M3.alloc M3.nx _).mem (M.nx + 1) = _; rw [alloc_ne _ _ _ (by omega)]; exact hbox
  · obtain ⟨M4, e4⟩ : ∃ x, ({ nx := max M3.nx (M3.nx + 1), mem := upd (upd M3.mem sid none) M3.nx (some (.cells 55 ((l.map fun o => .ptr o.id 0) ++ [.ptr M1.nx 0]))) } : MM) = x := ⟨_, rfl⟩
    have n4 : M4.nx = M.nx + 4 := by rw [← e4]; show max M3.nx (M3.nx + 1) = _; omega
    have x4 : ∀ x, x ≠ sid → x < M3.nx → M4.mem x = M3.mem x := fun x h1 h2 => by
      rw [← e4]
      show upd (upd M3.mem sid none) M3.nx _ x = _
      rw [upd_ne _ _ _ _ (by omega), upd_ne _ _ _ _ h1]
    have r4 : M4.mem p = some (.cells 54 [.os sid 0 l.length 1, .i live]) := by rw [x4 _ (fun e => s3 e.symm) (by omega)]; exact h3.root
    have sl3 : M3.mem sid = some (.cells 55 (l.map fun o => .ptr o.id 0)) := by
      rcases h3.sli with ⟨_, e⟩ | ⟨sid', e, q2, _⟩
      · cases e
      · cases e; exact q2

    obtain ⟨M5, e5⟩ : ∃ x, M4.put p (.cells 54 [.os M3.nx 0 (l.length + 1) 1, .i live]) = x := ⟨_, rfl⟩
    obtain ⟨M6, e6⟩ : ∃ x, M5.put p (.cells 54 [.os M3.nx 0 (l.length + 1) 1, .i (live + 1)]) = x := ⟨_, rfl⟩
    have r5 : M5.mem p = some (.cells 54 [.os M3.nx 0 (l.length + 1) 1, .i live]) := by rw [← e5]; exact put_same ..
    have r6 : M6.mem p = some (.cells 54 [.os M3.nx 0 (l.length + 1) 1, .i (live + 1)]) := by rw [← e6]; exact put_same ..
    have n5 : M5.nx = M4.nx := by rw [← e5]; rfl
    have n6 : M6.nx = M5.nx := by rw [← e6]; rfl
    have p4 : p < M4.nx := by omega
    have p5 : p < M5.nx := by omega
    have p6 : p < M6.nx := by omega
    have x6 : ∀ x, x ≠ p → M6.mem x = M4.mem x := fun x hx => by rw [← e6, put_ne _ _ _ _ hx, ← e5, put_ne _ _ _ _ hx]
    refine ⟨M6, M3.nx, ?_, ?_, by omega, by rw [x6 _ (by omega), x4 _ (by omega) (by omega)]; exact hmap, by omega, fun x h1 h2 h3 => by rw [x6 _ h2, x4 _ (h3 _ _ _ _ rfl) (by omega)]; exact x3 x h1⟩
    · rw [q10 hc]; unfold s10
      repeat (first | (with_reducible refine rn_mkmap e1 ?_) | ((with_reducible refine rn_opt (v := .agg o.cells) ?_ ?_); focus exact rfl) | (with_reducible refine rn_box e2 ?_) | ((with_reducible refine rn_mksl (cs := [.ptr M1.nx 0]) e3 ?_ ?_); focus exact rfl) | ((with_reducible refine rn_app (news := [.ptr M1.nx 0]) (n := 1) (cs := l.map fun o => .ptr o.id 0) e4 ?_ ?_ ?_ ?_ ?_ ?_); (focus exact lit); (focus exact rfl); (focus (show sid < M3.nx; omega)); (focus exact sl3); (focus (refine ⟨Nat.zero_le _, by simp, by omega, by omega, rfl⟩))) | ((with_reducible apply rn_ld (t := 54) (cs := [.os sid 0 l.length 1, .i live])); (focus (show p < M.nx; exact h.plt)); (focus exact h.root); (focus exact rfl)) | ((with_reducible refine rn_st1 (t := 54) (cs := [.os sid 0 l.length 1, .i live]) (cs' := [.os M3.nx 0 (l.length + 1) 1, .i live]) ?_ ?_ ?_ ?_ ?_ ?_); (focus exact p4); (focus exact r4); (focus exact ⟨Nat.zero_le _, rfl, rfl⟩); (focus simp); (focus exact rfl)) | rw [e5] | ((with_reducible apply rn_ld (t := 54) (cs := [.os M3.nx 0 (l.length + 1) 1, .i live])); (focus exact p5); (focus exact r5); (focus exact rfl)) | ((with_reducible refine rn_st1 (t := 54) (cs := [.os M3.nx 0 (l.length + 1) 1, .i live]) (cs' := [.os M3.nx 0 (l.length + 1) 1, .i (live + 1)]) ?_ ?_ ?_ ?_ ?_ ?_); (focus exact p5); (focus exact r5); (focus exact ⟨Nat.zero_le _, rfl, rfl⟩); (focus simp); (focus exact rfl)) | rw [e6] | ((with_reducible apply rn_ld (t := 54) (cs := [.os M3.nx 0 (l.length + 1) 1, .i (live + 1)])); (focus exact p6); (focus exact r6); (focus exact rfl)) | with_reducible refine rn_bsome ?_ | with_reducible refine rn_some ?_ | with_reducible refine rn_if_t ?_ | with_reducible refine rn_if_f ?_ | with_reducible refine rn_gtt ?_ | with_reducible refine rn_gff ?_ | with_reducible refine rn_gtf ?_ | with_reducible refine rn_gft ?_ | with_reducible refine rn_gun ?_ | with_reducible refine rn_ibin ?_ | with_reducible refine rn_iun ?_ | with_reducible refine rn_ipick ?_ | with_reducible refine rn_icvi ?_ | with_reducible refine rn_ild1 ?_ | with_reducible refine rn_inilc ?_ | with_reducible refine rn_ifad ?_ | with_reducible refine rn_iext ?_ | with_reducible refine rn_ilens ?_ | with_reducible refine rn_ilen ?_ | with_reducible refine rn_iixs ?_ | with_reducible refine rn_iixc ?_ | with_reducible refine rn_pt ?_ | with_reducible refine rn_pf ?_ | with_reducible refine rn_eqb_tt ?_ | with_reducible refine rn_eqb_ff ?_ | with_reducible refine rn_eqb_tf ?_ | with_reducible refine rn_eqb_ft ?_ | with_reducible refine rn_neb_tt ?_ | with_reducible refine rn_neb_ff ?_ | with_reducible refine rn_neb_tf ?_ | with_reducible refine rn_neb_ft ?_ | with_reducible refine rn_not_t ?_ | with_reducible refine rn_not_f ?_ | with_reducible refine rn_eqp1 ?_ | with_reducible refine rn_eqp2 ?_ | with_reducible refine rn_eqp3 ?_ | with_reducible refine rn_nep1 ?_ | with_reducible refine rn_nep2 ?_ | with_reducible refine rn_ext0 ?_ | with_reducible refine rn_ext1 ?_ | with_reducible refine rn_ext2 ?_ | with_reducible refine rn_ext3 ?_ | with_reducible refine rn_len_sl ?_ | with_reducible refine rn_len_nil ?_ | with_reducible refine rn_len_os ?_ | with_reducible refine rn_lens ?_ | with_reducible refine rn_nilc ?_ | with_reducible refine rn_nilci ?_ | with_reducible refine rn_fad ?_ | with_reducible refine rn_fadi ?_ | with_reducible refine rn_ldi ?_ | ((with_reducible refine rn_add64 ?_ ?_); focus omega) | ((with_reducible refine rn_sub64 ?_ ?_); focus omega) | ((with_reducible refine rn_mul64 ?_ ?_); focus omega) | ((with_reducible refine rn_addu ?_ ?_); focus omega) | ((with_reducible refine rn_subu ?_ ?_); focus omega) | ((with_reducible refine rn_mulu ?_ ?_); focus omega) | ((with_reducible refine rn_add8 ?_ ?_); focus omega) | ((with_reducible refine rn_sub8 ?_ ?_); focus omega) | ((with_reducible refine rn_rem ?_ ?_); focus omega) | ((with_reducible refine rn_quo64 ?_ ?_); focus omega) | ((with_reducible refine rn_quou ?_ ?_); focus omega) | ((with_reducible refine rn_quo8 ?_ ?_); focus omega) | ((with_reducible refine rn_eql_t ?_ ?_); focus omega) | ((with_reducible refine rn_eql_f ?_ ?_); focus omega) | ((with_reducible refine rn_neq_t ?_ ?_); focus omega) | ((with_reducible refine rn_neq_f ?_ ?_); focus omega) | ((with_reducible refine rn_lss_t ?_ ?_); focus omega) | ((with_reducible refine rn_lss_f ?_ ?_); focus omega) | ((with_reducible refine rn_leq_t ?_ ?_); focus omega) | ((with_reducible refine rn_leq_f ?_ ?_); focus omega) | ((with_reducible refine rn_gtr_t ?_ ?_); focus omega) | ((with_reducible refine rn_gtr_f ?_ ?_); focus omega) | ((with_reducible refine rn_geq_t ?_ ?_); focus omega) | ((with_reducible refine rn_geq_f ?_ ?_); focus omega) | ((with_reducible refine rn_cvi64 ?_ ?_); focus omega) | ((with_reducible refine rn_cviu ?_ ?_); focus omega) | ((with_reducible refine rn_cvi8 ?_ ?_); focus omega) | ((with_reducible refine rn_ixs ?_ ?_); focus omega) | ((with_reducible refine rn_ixsl ?_ ?_); focus omega) | ((with_reducible refine rn_shr ?_ ?_); focus omega))
      rfl
    · refine h.grow o M3.nx (by omega) r6 ?_ ⟨by omega, by omega⟩ ⟨by show _ ≤ M.nx + 1; omega, by show M.nx + 1 < M6.nx; omega⟩ (by show M3.nx ≠ M.nx + 1; omega) ?_ (fun x hx => ?_)
      · rw [x6 _ (by omega), ← e4]; show upd (upd M3.mem sid none) M3.nx _ M3.nx = _; rw [upd_same, n1]
      · rw [x6 _ (by show M.nx + 1 ≠ p; omega)]; show M4.mem (M.nx + 1) = _; rw [x4 _ (by omega) (by omega)]; exact hbox
      · have hx1 := h.olt x hx
        rw [x6 _ (h.onp x hx), x4 _ (s5 x hx) (by omega)]
        exact (h3.objs x hx).trans (h.objs x hx).symm
end
end Go.Proofs.Ytabhppamkhldeaa.Sx
