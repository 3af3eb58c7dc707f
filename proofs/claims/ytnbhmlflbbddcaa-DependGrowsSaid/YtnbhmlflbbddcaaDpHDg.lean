/- DEPEND: order and what is reached. -/
import Derived.Test.YtnbhmlflbbddcaaDpGDg
namespace Go.Proofs.Ytnbhmlflbbddcaa.Sx
open Go
set_option maxRecDepth 1000000
set_option maxHeartbeats 1000000
set_option linter.unusedSimpArgs false
set_option linter.unusedVariables false

def S0 : WS := ⟨[], [], []⟩
theorem nrm_normD {x : D} (h : (∃ s, nrm x = .v (.string s)) ∨ ∃ cs n, nrm x = .sl cs n) : nrm (normD x) = nrm x := by
  rcases h with ⟨s, h⟩ | ⟨cs, n, h⟩
  · rw [nrm_str h]; rfl
  · rcases nrm_sl h with ⟨ds, rfl, _⟩ | ⟨rfl, _, _⟩ <;> rfl
theorem encTs_mem : ∀ {l : List Ty} {z : D}, z ∈ encTs l → (∃ s, z = .v (.string s)) ∨ ∃ cs n, z = .sl cs n
  | [], z, h => by simp [encTs] at h
  | t :: r, z, h => by
    simp only [encTs, encT_eq, List.mem_append, List.mem_cons, List.not_mem_nil, or_false] at h
    rcases h with (h | h) | h
    · exact .inl ⟨_, h⟩
    · exact .inr ⟨_, _, h⟩
    · exact encTs_mem h
theorem SL.frz {m : Mem} {x : AV} {l : List Ty} (h : SL m x l) (n : Nat) : ∃ y, freezeA m 0 x = some y ∧ KTs y l := by
  rcases h with ⟨rfl, rfl⟩ | ⟨q, cs, ds, rfl, h2, h3, h4⟩
  · exact ⟨.d (.sl [] 0), rfl, .sl [] 0, rfl, rfl⟩
  · have hl := SL.le h3 h4
    have e : freezeD m 0 64 (.os q 0 l.length 2) = some (.sl (ds.map normD) l.length) := by
      have e1 : (ds.map AV.d).mapM (freezeD m 0 63) = some (ds.map normD) := by
        clear h3 h4
        induction ds with
        | nil => rfl
        | cons a r ih => rw [List.map_cons, List.mapM_cons, ih]; rfl
      simp only [freezeD, Nat.not_lt_zero, if_false, h2]
      rw [if_pos (by omega), List.drop_zero, h3, e1]; rfl
    refine ⟨.d (.sl (ds.map normD) l.length), ?_, _, rfl, ?_⟩
    · simp only [freezeA, freeze1, Nat.not_lt_zero, if_false, e, Option.map_some]
    · simp only [nrm, nrms_eq, List.map_map]
      rw [← h4, nrms_eq]
      congr 1
      refine List.map_congr_left fun a ha => nrm_normD ?_
      refine encTs_mem (l := l) ?_
      rw [← h4, nrms_eq]
      exact List.mem_map_of_mem ha

section
variable {cV cK : CallT} (hV : Lim G cV) (hK : Lim GK cK)
include hV hK

theorem order_ok {w : AV} (hw : Cl (vv w)) (hwc : closedA w = true) (hw1 : ∃ d, w = .d d) (W : Ty → List Ty × Int) (ok : Ty → Bool) (hW : ∀ t, t.size ≤ 1000000000 → ok t = true → PC cV 13 [vv w, avT t, .bool false] (avP (W t))) (n : Nat) (l : List Ty) (hl : l.length ≤ 1000000) {ts : AV} (hts : KTs ts l) {S : WS} {e : Int} (h : goF (innerF W ok n) S0 l = some (S, e)) :
    ∀ M, WF M → Wp (cK 7 [w, ts] 0 M) fun z => ∃ p m pv ov, z.1 = .tup [.ptr p 0, .i e] ∧ WK z.2 p w S m pv ov := by
  intro M hM
  obtain ⟨nl, hG, hN⟩ : ∃ nl, GK.nl = nl ∧ nl = 18446744073709551616 := ⟨_, rfl, rfl⟩
  rw [q7 hK, hG]
  unfold s7
  refine rn_mkmap rfl ?_
  refine rn_opt (v := .agg [w, .mp M.nx, .nilsl, .nilsl]) ?_ ?_
  · obtain ⟨d, rfl⟩ := hw1; rfl
  refine rn_box rfl ?_
  have hnone : ∀ k, M.mem (M.nx + k) = none := fun k => by
    cases e : M.mem (M.nx + k) with
    | none => rfl
    | some b => have := hM (M.nx + k) (by rw [e]; simp); omega
  have hx1 : (M.alloc M.nx (.map .string [])).nx = M.nx + 1 := by simp only [MM.alloc]; omega
  rw [hx1]
  have hS : WK ((M.alloc M.nx (.map .string [])).alloc (M.nx + 1) (.cells 54 [w, .mp M.nx, .nilsl, .nilsl])) (M.nx + 1) w S0 M.nx .nilsl .nilsl := by
    refine ⟨fun y hy => ?_, upd_same _ _ _, ?_, .inl ⟨rfl, rfl⟩, .inl ⟨rfl, rfl⟩, by omega, (fun e => by cases e), (fun e => by cases e), (fun e => by cases e), (fun e => by cases e), (fun _ e => by cases e)⟩
    · have hnx : ((M.alloc M.nx (.map .string [])).alloc (M.nx + 1) (.cells 54 [w, .mp M.nx, .nilsl, .nilsl])).nx = M.nx + 2 := by simp only [MM.alloc]; omega
      rw [hnx]
      by_cases e1 : y = M.nx + 1
      · omega
      · by_cases e2 : y = M.nx
        · omega
        · have : ((M.alloc M.nx (.map .string [])).alloc (M.nx + 1) (.cells 54 [w, .mp M.nx, .nilsl, .nilsl])).mem y = M.mem y := by
            show upd (upd _ _ _) _ _ _ = _
            rw [upd_ne _ _ _ _ e1, upd_ne _ _ _ _ e2]
          rw [this] at hy
          have := hM y hy; omega
    · show upd (upd _ _ _) _ _ _ = _
      rw [upd_ne _ _ _ _ (by omega), upd_same]; rfl
  generalize (M.alloc M.nx (.map .string [])).alloc (M.nx + 1) _ = M1 at hS ⊢
  generalize M.nx + 1 = p at hS ⊢
  generalize M.nx = m at hS ⊢
  refine rn_opt hts.len ?_
  have loop : ∀ (s : List Ty) (i f : Nat) (S1 : WS) (M1 : MM) (pv1 ov1 : AV), l.drop i = s → s.length < f → goF (innerF W ok n) S1 s = some (S, e) → WK M1 p w S1 m pv1 ov1 →
      Wp (b7_5 cK nl 0 f (.ptr p 0) ts (.i l.length) (.i i) M1) fun z => ∃ p m pv ov, z.1 = .tup [.ptr p 0, .i e] ∧ WK z.2 p w S m pv ov := by
    intro s
    induction s with
    | nil =>
      intro i f S1 M1 pv1 ov1 hd hf hg hS
      obtain ⟨f, rfl⟩ : ∃ k, f = k + 1 := ⟨f - 1, by simp only [List.length_nil] at hf; omega⟩
      have := drop_nil hd
      simp only [goF, Option.some.injEq, Prod.mk.injEq] at hg
      obtain ⟨rfl, rfl⟩ := hg
      unfold b7_5
      repeat (first | (with_reducible (first | refine rn_if_f ?_)) | ((with_reducible refine rn_lss_f ?_ ?_); focus omega))
      exact rn_done ⟨p, m, pv1, ov1, rfl, hS⟩
    | cons z s ih2 =>
      intro i f S1 M1 pv1 ov1 hd hf hg hS
      simp only [List.length_cons] at hf
      obtain ⟨f, rfl⟩ : ∃ k, f = k + 1 := ⟨f - 1, by omega⟩
      obtain ⟨hi, hd'⟩ := drop_cons hd
      obtain ⟨a, c, ha1, ha2, hc⟩ := hts.el hd (lk M1)
      unfold b7_5
      repeat (first | (with_reducible (first | refine rn_opt ha1 ?_ | refine rn_opt ha2 ?_ | refine rn_if_t ?_)) | ((with_reducible refine rn_lss_t ?_ ?_); focus omega))
      refine rn_upk ?_
      refine rn_kset hc ?_
      refine rn_kfld hc ?_
      simp only [goF] at hg
      split at hg
      · cases hg
      rename_i S2 e1 hgo
      refine rn_wp (inner_ok hV hK hw hwc W ok hW p n S1 z S2 e1 hgo (M1.up M1.nx) c m pv1 ov1 (hS.ans rfl (Nat.le_max_left _ _)) hc) fun v M3 hh => ?_
      obtain ⟨rfl, pv2, ov2, hS3, f3⟩ := hh
      refine rn_neq ?_
      split at hg
      · rename_i he1
        simp only [Option.some.injEq, Prod.mk.injEq] at hg
        obtain ⟨rfl, rfl⟩ := hg
        rw [decide_eq_true he1]
        refine rn_if_t ?_
        exact rn_done ⟨p, m, pv2, ov2, rfl, hS3⟩
      · rename_i he1
        rw [decide_eq_false he1]
        refine rn_if_f ?_
        repeat (first | ((with_reducible refine rn_add64 ?_ ?_); focus omega))
        exact ih2 (i + 1) f S2 M3 pv2 ov2 hd' (by omega) hg hS3
  exact loop l 0 nl S0 M1 _ _ rfl (by omega) h hS

theorem order_pc {w : AV} (hw : Cl (vv w)) (hwc : closedA w = true) (hw1 : ∃ d, w = .d d) (W : Ty → List Ty × Int) (ok : Ty → Bool) (hW : ∀ t, t.size ≤ 1000000000 → ok t = true → PC cV 13 [vv w, avT t, .bool false] (avP (W t))) (n : Nat) (l : List Ty) (hl : l.length ≤ 1000000) {ts : AV} (hts : KTs ts l) {S : WS} {e : Int} (h : goF (innerF W ok n) S0 l = some (S, e)) :
    ∃ r, PC cK 4 [w, ts] (.tup [r, .i e]) ∧ KTs r (if e = 0 then S.out else []) := by
  have := order_ok hV hK hw hwc hw1 W ok hW n l hl hts h ⟨0, fun _ => none⟩ (fun _ h => absurd rfl h)
  obtain ⟨⟨v, M'⟩, h1, p, m, pv, ov, hv, hS⟩ := this
  simp only at hv hS
  subst hv
  obtain ⟨y, hy1, hy2⟩ := hS.out.frz 0
  by_cases he : e = 0
  · subst he
    refine ⟨y, ⟨.tup [ov, .i 0], M', ?_, ?_⟩, hy2⟩
    · rw [q4 hK]
      have : Wp (s4 cK GK.nl 0 w ts ⟨0, fun _ => none⟩) (fun z => z = (.tup [ov, .i 0], M')) := by
        unfold s4
        refine rn_bnd h1 ?_
        repeat (first | (with_reducible (first | refine rn_if_f ?_ | refine rn_ext0 ?_ | refine rn_ext1 ?_ | refine rn_nilc ?_ | refine rn_fad ?_)) | ((with_reducible refine rn_neq_f ?_ ?_); focus omega))
        refine rn_ld (ok_top.2 hS.plt) hS.root rfl ?_
        exact rn_done rfl
      exact this.eq
    · simp only [freeze, List.mapM_cons, hy1, List.mapM_nil, Option.pure_def, Option.bind_eq_bind, Option.bind_some]
      rfl
  · refine ⟨.d (.sl [] 0), ⟨.tup [.nilsl, .i e], M', ?_, rfl⟩, ?_⟩
    · rw [q4 hK]
      have : Wp (s4 cK GK.nl 0 w ts ⟨0, fun _ => none⟩) (fun z => z = (.tup [.nilsl, .i e], M')) := by
        unfold s4
        refine rn_bnd h1 ?_
        repeat (first | (with_reducible (first | refine rn_if_t ?_ | refine rn_ext0 ?_ | refine rn_ext1 ?_)) | ((with_reducible refine rn_neq_t ?_ ?_); focus omega))
        exact rn_done rfl
      exact this.eq
    · rw [if_neg he]; exact ⟨_, rfl, rfl⟩

theorem reach_pc {w : AV} (hw : Cl (vv w)) (hwc : closedA w = true) (hw1 : ∃ d, w = .d d) (W : Ty → List Ty × Int) (ok : Ty → Bool) (hW : ∀ t, t.size ≤ 1000000000 → ok t = true → PC cV 13 [vv w, avT t, .bool true] (avP (W t))) (n : Nat) (t : Ty) {x : AV} (hx : KT x t) {S : WS} {e : Int} (h : outerF W ok n S0 t = some (S, e)) :
    ∃ r, PC cK 5 [w, x] (.tup [r, .i e]) ∧ KTs r (if e = 0 then S.out else []) := by
  have hr : ∃ M' p m pv ov, (s5 cK GK.nl 0 w x ⟨0, fun _ => none⟩ = some (.tup [if e = 0 then ov else .nilsl, .i e], M')) ∧ WK M' p w S m pv ov := by
    have : Wp (s5 cK GK.nl 0 w x ⟨0, fun _ => none⟩) (fun z => ∃ p m pv ov, z.1 = .tup [if e = 0 then ov else .nilsl, .i e] ∧ WK z.2 p w S m pv ov) := by
      unfold s5
      refine rn_kagg hx ?_
      refine rn_upk ?_
      refine rn_mkmap rfl ?_
      refine rn_opt (v := .agg [w, .mp 1, .nilsl, .nilsl]) ?_ ?_
      · obtain ⟨d, rfl⟩ := hw1; rfl
      refine rn_box rfl ?_
      refine rn_kfld hx ?_
      have hS : WK (((((⟨0, fun _ => none⟩ : MM)).up 0).alloc 1 (.map .string [])).alloc 2 (.cells 54 [w, .mp 1, .nilsl, .nilsl])) 2 w S0 1 .nilsl .nilsl := by
        refine ⟨fun y hy => ?_, rfl, rfl, .inl ⟨rfl, rfl⟩, .inl ⟨rfl, rfl⟩, by omega, (fun e => by cases e), (fun e => by cases e), (fun e => by cases e), (fun e => by cases e), (fun _ e => by cases e)⟩
        show y < 3
        by_cases e1 : y = 2
        · omega
        · by_cases e2 : y = 1
          · omega
          · exact absurd (show upd (upd _ _ _) _ _ _ = _ by rw [upd_ne _ _ _ _ e1, upd_ne _ _ _ _ e2]; rfl) hy
      refine rn_wp (outer_ok hV hK hw hwc W ok hW 2 n S0 t S e h _ x 1 _ _ hS hx) fun v M3 hh => ?_
      obtain ⟨rfl, pv2, ov2, hS3, f3⟩ := hh
      refine rn_neq ?_
      by_cases he : e = 0
      · subst he
        skip
        refine rn_ld (ok_top.2 hS3.plt) hS3.root rfl ?_
        exact rn_done ⟨2, 1, pv2, ov2, by simp, hS3⟩
      · rw [decide_eq_true he]
        refine rn_if_t ?_
        exact rn_done ⟨2, 1, pv2, ov2, by rw [if_neg he], hS3⟩
    obtain ⟨⟨v, M'⟩, h1, p, m, pv, ov, hv, hS⟩ := this
    simp only at hv hS
    subst hv
    exact ⟨M', p, m, pv, ov, h1, hS⟩
  obtain ⟨M', p, m, pv, ov, h1, hS⟩ := hr
  obtain ⟨y, hy1, hy2⟩ := hS.out.frz 0
  by_cases he : e = 0
  · subst he
    simp only [if_true] at h1
    refine ⟨y, ⟨.tup [ov, .i 0], M', by rw [q5 hK]; exact h1, ?_⟩, hy2⟩
    simp only [freeze, List.mapM_cons, hy1, List.mapM_nil, Option.pure_def, Option.bind_eq_bind, Option.bind_some]
    rfl
  · rw [if_neg he] at h1
    exact ⟨.d (.sl [] 0), ⟨.tup [.nilsl, .i e], M', by rw [q5 hK]; exact h1, rfl⟩, by rw [if_neg he]; exact ⟨_, rfl, rfl⟩⟩
end
end Go.Proofs.Ytnbhmlflbbddcaa.Sx
