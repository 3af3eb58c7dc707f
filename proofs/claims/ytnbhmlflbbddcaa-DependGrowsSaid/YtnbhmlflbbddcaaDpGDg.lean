/- DEPEND: the walk behind what lies in a type. -/
import Derived.Test.YtnbhmlflbbddcaaDpFDg
namespace Go.Proofs.Ytnbhmlflbbddcaa.Sx
open Go
set_option maxRecDepth 1000000
set_option maxHeartbeats 1000000
set_option linter.unusedSimpArgs false
set_option linter.unusedVariables false

/-- A box beside the walk. -/
structure BJ (M : MM) (j : Nat) (cs : List AV) (p m : Nat) (pv ov : AV) : Prop where
  mem : M.mem j = some (.cells 24 cs)
  np : j ≠ p
  nm : j ≠ m
  na : sid pv ≠ some j
  nb : sid ov ≠ some j
theorem BJ.fm {M M' : MM} {j : Nat} {cs : List AV} {p m : Nat} {pv ov pv' ov' : AV} (h : BJ M j cs p m pv ov) (hw : WF M) (hf : Fm M M' p m pv ov pv' ov') : BJ M' j cs p m pv' ov' where
  mem := by rw [hf.same j (hw j (by rw [h.mem]; simp)) h.np h.nm h.na h.nb]; exact h.mem
  np := h.np
  nm := h.nm
  na e := by
    have := hw j (by rw [h.mem]; simp)
    rcases hf.np j e with e | e
    · exact h.na e
    · omega
  nb e := by
    have := hw j (by rw [h.mem]; simp)
    rcases hf.no j e with e | e
    · exact h.nb e
    · omega
theorem BJ.ans {M M' : MM} {j : Nat} {cs : List AV} {p m : Nat} {pv ov : AV} (h : BJ M j cs p m pv ov) (h1 : M'.mem = M.mem) : BJ M' j cs p m pv ov := ⟨by rw [h1]; exact h.mem, h.np, h.nm, h.na, h.nb⟩
theorem rn_kldc {M : MM} {lim : Lm} {j : Nat} {cs : List AV} {x : AV} {t : Ty} {R : Type} {r : R → Prop} {k : AV → Option R} (h : M.mem j = some (.cells 24 cs)) (hl : lim.ok j = true) (hx : KT x t) (e : x = .agg cs) (hk : Wp (k x) r) : Wp (opt (ldnA (look M.mem lim) 2 (.ptr j 0)) k) r := by
  obtain ⟨d, rfl, _⟩ := hx.two
  injection e with e; subst e
  exact rn_ldn hl h (by simp) rfl hk

section
variable {cK : CallT}
theorem pathApp {M : MM} {j : Nat} {cs : List AV} {p m : Nat} {w pv ov : AV} {S : WS} (hS : WK M p w S m pv ov) (hB : BJ M j cs p m pv ov) {x : AV} {t : Ty} (hx : KT x t) (e : x = .agg cs) (hp : S.path.length ≤ 100000) {k : MM → Option (AV × MM)} {r : AV × MM → Prop}
    (hk : ∀ M' pv', WK M' p w { S with path := S.path ++ [t] } m pv' ov → Fm M M' p m pv ov pv' ov → Wp (k M') r) :
    Wp (bumpK M 23 fun M9 => bumpK M9 11 fun M33 => opt (nilcA (.ptr p 0)) fun v36 => opt (fadA 2 v36) fun v37 => opt (ld1A (look M33.mem (.mk M9.nx 11 14 true)) v37) fun v38 =>
      opt (ldnA (look M33.mem (.mk M9.nx 11 0 true)) 2 (.ptr j 0)) fun v39 => opt (wslA 1 (fill [.str ⟨⟨[]⟩⟩, .nilsl] [(0, 2, v39)])) fun v40 => upK M33 (M9.nx + 6) fun M41 =>
      bnd (istep cK modeF true 0 (.mk M9.nx 11 126 true) (M9.nx + 7) (.app 24 2 40 [.str ⟨⟨[]⟩⟩, .nilsl] (.k v38) (.k v40)) [] M41) fun v42 M43 => opt (nilcA (.ptr p 0)) fun v44 => opt (fadA 2 v44) fun v45 =>
      bnd (istep cK modeF true 0 (.mk M9.nx 11 1023 true) (M9.nx + 10) (.st 1 (.k v45) (.k v42)) [] M43) fun v46 M47 => opt (ldnA (lk M47) 2 (.ptr j 0)) fun v48 =>
      bnd (istep cK modeF false 0 (.top M47.nx) M47.nx (.str 1 (.k (.ptr p 0)) [(.k (.ptr j 0))] (.k v45) (.k v42)) [] M47) fun v49 M50 => k M50) r := by
  have hj : j < M.nx := hS.wf j (by rw [hB.mem]; simp)
  have hpl := hS.plt
  refine rn_bumpk ?_
  refine rn_bumpk ?_
  have hS3 := hS.ans (M' := (M.bump 23).bump 11) rfl (Nat.le_trans (Nat.le_add_right _ 23) (Nat.le_add_right _ 11))
  repeat (first | (with_reducible (first | refine rn_nilc ?_ | refine rn_fad ?_)))
  refine rn_ld (ok_lt (show p < (M.bump 23).nx from Nat.lt_of_lt_of_le hpl (Nat.le_add_right _ _))) hS3.root rfl ?_
  refine rn_kldc hB.mem (ok_lt (show j < (M.bump 23).nx from Nat.lt_of_lt_of_le hj (Nat.le_add_right _ _))) hx e ?_
  refine rn_kwsl hx fun td htd hn => ?_
  refine rn_upk ?_
  generalize hM41 : ((M.bump 23).bump 11).up ((M.bump 23).nx + 6) = M41
  have hm41 : M41.mem = M.mem := by subst hM41; rfl
  have hn41 : M41.nx = M.nx + 34 := by subst hM41; simp only [MM.up, MM.bump]; omega
  have hb9 : (M.bump 23).nx = M.nx + 23 := rfl
  have hS41 := hS.ans hm41 (by omega)
  rw [hb9]
  have htd2 : td.length = 2 := by have := congrArg List.length hn; rw [nrms_len, encT_len] at this; omega
  refine rn_kapp (x := pv) (l := S.path) (nc := td.map .d) hS41.path hS41.wf ?_ ?_ (by omega) rfl fun ds mem1 hds h1 h2 => ?_
  · simp only [sliceCells]
    rw [if_pos (by omega), List.take_of_length_le (by omega)]
  · simp [AV.one]
  repeat (first | (with_reducible (first | refine rn_nilc ?_ | refine rn_fad ?_)))
  have hr : mem1 p = M.mem p := by rw [h1 p hS.n2, hm41]
  have hfr : M.nx + 23 + 7 ≠ p := by omega
  have hroot : upd mem1 (M.nx + 23 + 7) (some (.cells 24 (ds.map .d ++ td.map .d))) p = some (.cells 54 [w, .mp m, pv, ov]) := by rw [upd_ne _ _ _ _ (Ne.symm hfr), hr]; exact hS.root
  refine rn_st1 (t := 54) (cs' := [w, .mp m, .os (M.nx + 23 + 7) 0 (S.path.length + 1) 2, ov]) rfl (ok_lt (show p < M.nx + 23 by omega)) hroot ⟨Nat.zero_le _, rfl, rfl⟩ (by simp) rfl ?_
  generalize hM47 : MM.put _ _ _ = M47
  have hx47 : M47.nx = M.nx + 34 := by subst hM47; show max M41.nx (M.nx + 23 + 7 + 1) = _; omega
  have hmem : ∀ y, y ≠ p → y ≠ M.nx + 23 + 7 → M47.mem y = mem1 y := fun y h3 h4 => by
    subst hM47
    show upd (upd _ _ _) _ _ y = _
    rw [upd_ne _ _ _ _ h3, upd_ne _ _ _ _ h4]
  have hroot47 : M47.mem p = some (.cells 54 [w, .mp m, .os (M.nx + 23 + 7) 0 (S.path.length + 1) 2, ov]) := by subst hM47; exact upd_same _ _ _
  have hnew47 : M47.mem (M.nx + 23 + 7) = some (.cells 24 (ds.map .d ++ td.map .d)) := by
    subst hM47
    show upd (upd _ _ _) _ _ _ = _
    rw [upd_ne _ _ _ _ hfr, upd_same]
  have hj47 : M47.mem j = some (.cells 24 cs) := by rw [hmem j hB.np (by omega), h1 j hB.na, hm41]; exact hB.mem
  refine rn_kldc hj47 (ok_top.2 (by omega)) hx e ?_
  refine rn_str (t := 54) (ns := [.ptr j 0]) (cs' := [w, .mp m, .os (M.nx + 23 + 7) 0 (S.path.length + 1) 2, ov]) rfl ?_ (ok_top.2 (by omega)) hroot47 ⟨rfl, rfl⟩ (by simp) rfl ?_
  · have := hB.np
    simp [okStr, idOf, this]
  refine (fun q => hk _ _ q.1 q.2) (hS.addPath (M' := M47.put p (.cells 54 [w, .mp m, .os (M.nx + 23 + 7) 0 (S.path.length + 1) 2, ov])) (fresh := M.nx + 23 + 7) (td := td) (t := t) (by omega) (show M.nx + 23 + 7 < M47.nx by omega) hds hn (upd_same _ _ _) ?_ ?_ ?_)
  · show upd _ _ _ _ = _
    rw [upd_ne _ _ _ _ hfr]; exact hnew47
  · intro q hq
    have hql := hS.path.lt hS.wf hq
    have hqp : q ≠ p := fun e => hS.n2 (by rw [← e]; exact hq)
    show upd _ _ _ _ = _
    rw [upd_ne _ _ _ _ hqp, hmem q hqp (by omega)]
    exact h2 q hq
  · intro y e1 e2 e3
    show upd _ _ _ _ = _
    rw [upd_ne _ _ _ _ e1, hmem y e1 e2, h1 y e3, hm41]
end

section
variable {cV cK : CallT} (hV : Lim G cV) (hK : Lim GK cK)
include hV hK

theorem onPath {M : MM} {j : Nat} {cs : List AV} {p m : Nat} {w pv ov : AV} {S : WS} (hS : WK M p w S m pv ov) (hB : BJ M j cs p m pv ov) {x : AV} {t : Ty} (hx : KT x t) (e : x = .agg cs) (ht : t.size ≤ 1000000000) (hp : S.path.length ≤ 100000) :
    roA cK (.top M.nx) 19 [pv, .fn 20 [] [.ptr j 0]] M = some (.bool (S.path.any fun z => t.same z)) := by
  have hj : j < M.nx := hS.wf j (by rw [hB.mem]; simp)
  have hvj : (vm M).mem j = some (.cells 24 [.d (.v (.string t.name)), .d (.sl (encTs t.args) t.args.length)]) := by
    have : vvs cs = [.d (.v (.string t.name)), .d (.sl (encTs t.args) t.args.length)] := by
      have := hx.vv
      rw [e] at this
      simp only [vv, avT, AV.agg.injEq] at this
      exact this
    show (M.mem j).bind vmB = _
    rw [hB.mem]
    simp only [Option.bind_some, vmB, this]
  have hc := conf hV (vv pv) (.fn 20 [] [.ptr j 0]) S.path (fun z => t.same z) M.nx (vm M).mem ?_ (by omega) ?_ ?_ M.nx ⟨M.nx, look (vm M).mem (.top M.nx)⟩ (AgB.lk (M := vm M) ⟨Nat.le_refl _, fun _ _ => rfl⟩)
  · obtain ⟨v', h1, h2⟩ := roK hV hK (f := 19) (args := [pv, .fn 20 [] [.ptr j 0]]) (v := .bool (S.path.any fun z => t.same z)) rfl rfl hS.wf hc (fun _ q => q.1) (fun _ _ => rfl)
    rw [h1, vv_key h2]
  · rcases hS.path with ⟨h1, h2⟩ | ⟨q, cs, ds, h1, h2, h3, h4⟩
    · rw [h1, h2]; rfl
    · rw [h1]; rfl
  · intro i hi M' hA
    rcases hS.path with ⟨h1, h2⟩ | ⟨q, cs, ds, h1, h2, h3, h4⟩
    · rw [h2] at hi; simp at hi
    · have hq : q < M.nx := hS.wf q (by rw [h2]; simp)
      have hl := SL.le h3 h4
      refine ⟨.ptr q (i * 2), ?_, ?_⟩
      · rw [h1]
        simp only [vv, ixsA, asI]
        rw [if_pos (by omega)]
        simp
      · have hm : M'.mem q = some (.cells 24 (vvs cs)) := by
          rw [hA.2 q hq]
          show (M.mem q).bind vmB = _
          rw [h2]; rfl
        have hcut : vvs (cs.take (S.path.length * 2)) = (encTs S.path).map .d := by rw [h3, vvs_d, h4]
        have hsub : ((vvs cs).drop (i * 2)).take 2 = (encT S.path[i]).map .d := by
          have e1 : ((vvs cs).drop (i * 2)).take 2 = (((vvs cs).take (S.path.length * 2)).drop (i * 2)).take 2 := by
            rw [List.drop_take, List.take_take, Nat.min_eq_left (by omega)]
          rw [e1, ← vvs_take, hcut, ← List.map_drop, encTs_drop, ← List.map_take, List.drop_eq_getElem_cons hi]
          simp only [encTs]
          rw [List.take_append_of_le_length (by rw [encT_len]; omega), List.take_of_length_le (by rw [encT_len]; omega)]
        simp only [ldnA, look_ok (ok_top.2 (Nat.lt_of_lt_of_le hq hA.1)), hm]
        rw [if_pos (by rw [vvs_len]; omega), hsub, avT_eq]
  · intro z hz lo M' hA
    refine Wp.of_bnd (rn_callw (Q := Ans (.bool (t.same z)) M') rfl rfl ?_ fun v M'' q => ⟨_, rfl, q⟩)
    show Wp (cV 20 [avT z, .ptr j 0] lo M') _
    rw [q20 hV]
    unfold s20
    have hjm := (hA.2 j hj).trans hvj
    have hlt : j < M'.nx := Nat.lt_of_lt_of_le hj hA.1
    repeat (first | (with_reducible (first | refine rn_aggT ?_ | refine rn_upa ?_)))
    refine rn_ldTc (u := t) (ok_top.2 (Nat.lt_of_lt_of_le hlt (Nat.le_max_left _ _))) hjm (by simp) rfl ?_
    repeat (first | (with_reducible (first | refine rn_allT ?_ | refine rn_pcc (same_cc hV _ t z ht (by omega)) (fz_b _) (ClT2 _ _) ?_ | exact rn_ans)))

end

theorem SL.cut {m : Mem} {x : AV} {l : List Ty} (h : SL m x l) (hn : l ≠ []) (k : Int) (hk : k = (l.length : Int) - 1) : ∃ q, slslA 2 x none (some (.i k)) = some (.os q 0 (l.length - 1) 2) ∧ sid x = some q ∧ SL m (.os q 0 (l.length - 1) 2) (l.take (l.length - 1)) := by
  rcases h with ⟨h1, h2⟩ | ⟨q, cs, ds, rfl, h2, h3, h4⟩
  · exact absurd h2 hn
  · have hpos : 0 < l.length := List.length_pos_iff.2 hn
    have hl := SL.le h3 h4
    have hlen : (l.take (l.length - 1)).length = l.length - 1 := by rw [List.length_take]; omega
    refine ⟨q, ?_, rfl, .inr ⟨q, cs, ds.take ((l.length - 1) * 2), by rw [hlen], h2, ?_, ?_⟩⟩
    · have e1 : hiA l.length (some (.i k)) = some k := rfl
      have e2 : loA none = some 0 := rfl
      have e3 : k.toNat = l.length - 1 := by omega
      simp only [slslA, e1, e2]
      rw [if_pos ⟨Int.le_refl _, by omega, by omega, trivial⟩, if_pos trivial, e3]
    · rw [hlen]
      have := congrArg (List.take ((l.length - 1) * 2)) h3
      rw [List.take_take, Nat.min_eq_left (by omega), ← List.map_take] at this
      exact this
    · have e : ∀ (l : List Ty) (i : Nat), (encTs l).take (i * 2) = encTs (l.take i) := by
        intro l
        induction l with
        | nil => intro i; simp [encTs]
        | cons a r ih =>
          intro i
          cases i with
          | zero => simp [encTs]
          | succ i =>
            have e2 : (i + 1) * 2 = (encT a).length + i * 2 := by rw [encT_len]; omega
            simp only [encTs, List.take_succ_cons, e2, List.take_append, List.take_of_length_le (show (encT a).length ≤ (encT a).length + i * 2 by omega), Nat.add_sub_cancel_left, ih]
      rw [nrms_take, h4, e]
section
variable {cV cK : CallT} (hV : Lim G cV) (hK : Lim GK cK)
include hV hK
theorem inner_ok {w : AV} (hw : Cl (vv w)) (hwc : closedA w = true) (W : Ty → List Ty × Int) (ok : Ty → Bool) (hW : ∀ t, t.size ≤ 1000000000 → ok t = true → PC cV 13 [vv w, avT t, .bool false] (avP (W t))) (p : Nat) :
    ∀ (n : Nat) (S : WS) (t : Ty) (S' : WS) (e : Int), innerF W ok n S t = some (S', e) → WkC cK 11 p w S t S' e := by
  intro n
  induction n with
  | zero => intro S t S' e h; cases h
  | succ n ih =>
    intro S t S' e h M x m pv ov hS hx
    simp only [innerF] at h
    split at h
    · cases h
    rename_i hok
    have hok : okW ok S t = true := by simpa using hok
    simp only [okW, Bool.and_eq_true, decide_eq_true_eq] at hok
    obtain ⟨⟨⟨⟨⟨b0, b1⟩, b2⟩, b3⟩, b4⟩, b5⟩ := hok
    obtain ⟨nl, hG, hN⟩ : ∃ nl, GK.nl = nl ∧ nl = 18446744073709551616 := ⟨_, rfl, rfl⟩
    rw [q11 hK, hG]
    unfold s11
    obtain ⟨cs, hcs⟩ : ∃ cs, x = .agg cs := by obtain ⟨d, e, _⟩ := hx.two; exact ⟨_, e⟩
    rw [hcs]
    refine rn_box rfl ?_
    have hfr : M.mem M.nx = none := by
      cases e : M.mem M.nx with
      | none => rfl
      | some b => have := hS.wf M.nx (by rw [e]; simp); omega
    have hal : ∀ y, y ≠ M.nx → (M.alloc M.nx (.cells 24 cs)).mem y = M.mem y := fun y hy => upd_ne _ _ _ _ hy
    have hnn : (M.alloc M.nx (.cells 24 cs)).nx = M.nx + 1 := by simp only [MM.alloc]; omega
    have hS1 : WK (M.alloc M.nx (.cells 24 cs)) p w S m pv ov := by
      have hp := hS.plt
      have hm := hS.mlt
      refine ⟨fun y hy => ?_, by rw [hal p (by omega)]; exact hS.root, by rw [hal m (by omega)]; exact hS.map, hS.path.mono fun q hq => hal q (by have := hS.path.lt hS.wf hq; omega), hS.out.mono fun q hq => hal q (by have := hS.out.lt hS.wf hq; omega), hS.n1, hS.n2, hS.n3, hS.n4, hS.n5, hS.n6⟩
      by_cases e : y = M.nx
      · omega
      · rw [hal y e] at hy; have := hS.wf y hy; omega
    have f1 : Fm M (M.alloc M.nx (.cells 24 cs)) p m pv ov pv ov := ⟨by omega, fun y hy _ _ _ _ => hal y (by omega), fun _ h => .inl h, fun _ h => .inl h⟩
    have hB1 : BJ (M.alloc M.nx (.cells 24 cs)) M.nx cs p m pv ov := ⟨upd_same _ _ _, by have := hS.plt; omega, by have := hS.mlt; omega, fun e => by have := hS.path.lt hS.wf e; omega, fun e => by have := hS.out.lt hS.wf e; omega⟩
    generalize M.alloc M.nx (.cells 24 cs) = M1 at hS1 f1 hB1 ⊢
    generalize M.nx = j at hB1 ⊢
    repeat (first | (with_reducible (first | refine rn_nilc ?_ | refine rn_fad ?_)))
    refine rn_ld (ok_top.2 hS1.plt) hS1.root rfl ?_
    refine rn_opt (onPath hV hK hS1 hB1 hx hcs b1 b4) ?_
    split at h
    · rename_i hon
      simp only [Option.some.injEq, Prod.mk.injEq] at h
      obtain ⟨rfl, rfl⟩ := h
      rw [hon]
      refine rn_if_t ?_
      exact pathApp hS1 hB1 hx hcs b4 fun M' pv' q1 q2 => rn_done ⟨rfl, pv', ov, q1, f1.trans q2⟩
    rename_i hon
    rw [Bool.not_eq_true] at hon
    rw [hon]
    refine rn_if_f ?_
    refine rn_kldc hB1.mem (ok_top.2 (hS1.wf j (by rw [hB1.mem]; simp))) hx hcs ?_
    refine rn_wp (visit_ok hV hK t b1 b2 hS1 (by omega) hx) fun v M2 hh => ?_
    obtain ⟨rfl, hS2, f2⟩ := hh
    have hB2 := hB1.fm hS1.wf f2
    replace f2 := f1.trans f2
    repeat (first | (with_reducible (first | refine rn_ext0 ?_ | refine rn_ext1 ?_)))
    split at h
    · rename_i hv
      simp only [Option.some.injEq, Prod.mk.injEq] at h
      obtain ⟨rfl, rfl⟩ := h
      rw [hv]
      refine rn_not ?_
      refine rn_if_t ?_
      exact rn_done ⟨rfl, pv, ov, hS2, f2⟩
    rename_i hv
    have hv : (visitF S.seen t).1 = true := by simpa using hv
    rw [hv]
    refine rn_not ?_
    refine rn_if_f ?_
    refine rn_bumpk ?_
    have hS3 := hS2.ans (M' := M2.bump 11) rfl (Nat.le_add_right _ _)
    have f3 : Fm M (M2.bump 11) p m pv ov pv ov := f2.trans (.ans rfl (Nat.le_add_right _ _))
    have hB3 := hB2.ans (M' := M2.bump 11) rfl
    repeat (first | (with_reducible (first | refine rn_nilc ?_ | refine rn_fad ?_)))
    refine rn_ld (ok_lt hS2.plt) hS3.root rfl ?_
    refine rn_kldc hB3.mem (ok_lt (hS2.wf j (by rw [hB2.mem]; simp))) hx hcs ?_
    refine withinK hV hK hx hw hwc (hW t b1 b0) fun y hy => ?_
    generalize M2.bump 11 = M3 at hS3 f3 hB3 ⊢
    repeat (first | (with_reducible (first | refine rn_ext0 ?_ | refine rn_ext1 ?_)))
    refine rn_neq ?_
    split at h
    · rename_i he
      simp only [Option.some.injEq, Prod.mk.injEq] at h
      obtain ⟨rfl, rfl⟩ := h
      rw [decide_eq_true he]
      refine rn_if_t ?_
      exact rn_done ⟨rfl, pv, ov, hS3, f3⟩
    rename_i he
    rw [decide_eq_false he]
    refine rn_if_f ?_
    split at h
    · cases h
    rename_i hpl
    refine pathApp hS3 hB3 hx hcs b4 fun M4 pv4 hS4 f4 => ?_
    have hB4 := hB3.fm hS3.wf f4
    replace f4 := f3.trans f4
    refine rn_opt hy.len ?_
    have tail : ∀ (S2 : WS) (M5 : MM) (pv5 ov5 : AV), WK M5 p w S2 m pv5 ov5 → BJ M5 j cs p m pv5 ov5 → Fm M M5 p m pv ov pv5 ov5 → S2.path ≠ [] → S2.path.length ≤ 100000 → S2.out.length ≤ 100000 →
        Wp (b11_8 cK nl 0 (.ptr p 0) (.ptr j 0) M5) fun z => z.1 = .i 0 ∧ ∃ pv' ov', WK z.2 p w { S2 with path := S2.path.take (S2.path.length - 1), out := S2.out ++ [t] } m pv' ov' ∧ Fm M z.2 p m pv ov pv' ov' := by
      intro S2 M5 pv5 ov5 hS5 hB5 f5 hne hb1 hb2
      refine rn_bumpk ?_
      have hS6 := hS5.ans (M' := M5.bump 15) rfl (Nat.le_add_right _ _)
      obtain ⟨q, hq1, hq2, hq3⟩ := hS5.path.cut hne ((S2.path.length : Int) - 1) rfl
      have hpl := hS5.plt
      repeat (first | (with_reducible (first | refine rn_nilc ?_ | refine rn_fad ?_)))
      refine rn_ld (ok_lt hS5.plt) hS6.root rfl ?_
      repeat (first | (with_reducible (first | refine rn_nilc ?_ | refine rn_fad ?_)))
      refine rn_ld (ok_lt hS5.plt) hS6.root rfl ?_
      refine rn_opt hS5.path.len ?_
      repeat (first | ((with_reducible refine rn_sub64 ?_ ?_); focus omega))
      refine rn_opt hq1 ?_
      repeat (first | (with_reducible (first | refine rn_nilc ?_ | refine rn_fad ?_)))
      refine rn_st1 (t := 54) (cs' := [w, .mp m, .os q 0 (S2.path.length - 1) 2, ov5]) rfl (ok_lt (by omega)) hS6.root ⟨Nat.zero_le _, rfl, rfl⟩ (by simp) rfl ?_
      have hmp : ∀ y, y ≠ p → ((M5.bump 15).put p (.cells 54 [w, .mp m, .os q 0 (S2.path.length - 1) 2, ov5])).mem y = M5.mem y := fun y hy => upd_ne _ _ _ _ hy
      have hqp : q ≠ p := fun e => hS5.n2 (by rw [← e]; exact hq2)
      have hS7 : WK ((M5.bump 15).put p (.cells 54 [w, .mp m, .os q 0 (S2.path.length - 1) 2, ov5])) p w { S2 with path := S2.path.take (S2.path.length - 1) } m (.os q 0 (S2.path.length - 1) 2) ov5 := by
        refine ⟨fun y hy => ?_, upd_same _ _ _, by rw [hmp m hS5.n1]; exact hS5.map, hq3.mono fun y hy => hmp y (by injection hy with hy; subst hy; exact hqp), hS5.out.mono fun y hy => hmp y (fun e => hS5.n3 (by rw [← e]; exact hy)), hS5.n1, fun e => ?_, hS5.n3, fun e => ?_, hS5.n5, fun y hy => ?_⟩
        · by_cases e : y = p
          · subst e; exact Nat.lt_of_lt_of_le hpl (Nat.le_add_right _ _)
          · rw [hmp y e] at hy; exact Nat.lt_of_lt_of_le (hS5.wf y hy) (Nat.le_add_right _ _)
        · exact hS5.n2 (by rw [hq2]; exact e)
        · exact hS5.n4 (by rw [hq2]; exact e)
        · exact hS5.n6 y (by rw [hq2]; exact hy)
      have f7 : Fm M5 ((M5.bump 15).put p (.cells 54 [w, .mp m, .os q 0 (S2.path.length - 1) 2, ov5])) p m pv5 ov5 (.os q 0 (S2.path.length - 1) 2) ov5 := ⟨Nat.le_add_right _ _, fun y _ h1 _ _ _ => hmp y h1, fun y hy => .inl (by rw [hq2]; exact hy), fun y hy => .inl hy⟩
      have hB7 := hB5.fm hS5.wf f7
      replace f7 := f5.trans f7
      generalize (M5.bump 15).put p _ = M7 at hS7 f7 hB7 ⊢
      refine rn_bumpk ?_
      have hS8 := hS7.ans (M' := M7.bump 14) rfl (Nat.le_add_right _ _)
      have hB8 := hB7.ans (M' := M7.bump 14) rfl
      repeat (first | (with_reducible (first | refine rn_nilc ?_ | refine rn_fad ?_)))
      refine rn_ld (ok_lt hS7.plt) hS8.root rfl ?_
      refine rn_kldc hB8.mem (ok_lt (hS7.wf j (by rw [hB7.mem]; simp))) hx hcs ?_
      refine copiedK hV hK b1 hx fun c hc => ?_
      refine rn_opt hS7.out.len ?_
      refine outApp hS7 hc hb2 fun M9 ov9 hS9 f9 => ?_
      exact rn_done ⟨rfl, _, ov9, hS9, f7.trans f9⟩
    have loop : ∀ (s : List Ty) (i f : Nat) (S : WS) (M1 : MM) (pv1 ov1 : AV) (S2 : WS) (e2 : Int), (W t).1.drop i = s → s.length < f → goF (innerF W ok n) S s = some (S2, e2) → WK M1 p w S m pv1 ov1 → BJ M1 j cs p m pv1 ov1 → Fm M M1 p m pv ov pv1 ov1 →
        (e2 ≠ 0 → S' = S2 ∧ e = e2) → (e2 = 0 → e = 0 ∧ S2.path ≠ [] ∧ S2.path.length ≤ 100000 ∧ S2.out.length ≤ 100000 ∧ S' = { S2 with path := S2.path.take (S2.path.length - 1), out := S2.out ++ [t] }) →
        Wp (b11_10 cK nl 0 f (.ptr p 0) (.ptr j 0) y (.i (W t).1.length) (.i i) M1) fun z => z.1 = .i e ∧ ∃ pv' ov', WK z.2 p w S' m pv' ov' ∧ Fm M z.2 p m pv ov pv' ov' := by
      intro s
      induction s with
      | nil =>
        intro i f S M1 pv1 ov1 S2 e2 hd hf hg hS hB hF h1 h2
        obtain ⟨f, rfl⟩ : ∃ k, f = k + 1 := ⟨f - 1, by simp only [List.length_nil] at hf; omega⟩
        have := drop_nil hd
        simp only [goF, Option.some.injEq, Prod.mk.injEq] at hg
        obtain ⟨rfl, rfl⟩ := hg
        obtain ⟨rfl, q1, q2, q3, rfl⟩ := h2 rfl
        unfold b11_10
        repeat (first | (with_reducible (first | refine rn_if_f ?_)) | ((with_reducible refine rn_lss_f ?_ ?_); focus omega))
        exact tail S M1 pv1 ov1 hS hB hF q1 q2 q3
      | cons z s ih2 =>
        intro i f S M1 pv1 ov1 S2 e2 hd hf hg hS hB hF h1 h2
        simp only [List.length_cons] at hf
        obtain ⟨f, rfl⟩ : ∃ k, f = k + 1 := ⟨f - 1, by omega⟩
        obtain ⟨hi, hd'⟩ := drop_cons hd
        obtain ⟨a, c, ha1, ha2, hc⟩ := hy.el hd (lk M1)
        unfold b11_10
        repeat (first | (with_reducible (first | refine rn_opt ha1 ?_ | refine rn_opt ha2 ?_ | refine rn_if_t ?_)) | ((with_reducible refine rn_lss_t ?_ ?_); focus omega))
        refine rn_upk ?_
        refine rn_kset hc ?_
        refine rn_kfld hc ?_
        simp only [goF] at hg
        split at hg
        · cases hg
        rename_i S1 e1 hgo
        refine rn_wp (ih S z S1 e1 hgo (M1.up M1.nx) c m pv1 ov1 (hS.ans rfl (Nat.le_max_left _ _)) hc) fun v M3 hh => ?_
        obtain ⟨rfl, pv2, ov2, hS3, f3⟩ := hh
        have f3' : Fm M1 M3 p m pv1 ov1 pv2 ov2 := Fm.trans (M1 := M1.up M1.nx) (Fm.ans rfl (Nat.le_max_left _ _)) f3
        have hB3 := hB.fm hS.wf f3'
        have f4 := hF.trans f3'
        refine rn_neq ?_
        split at hg
        · rename_i he1
          simp only [Option.some.injEq, Prod.mk.injEq] at hg
          obtain ⟨rfl, rfl⟩ := hg
          obtain ⟨rfl, rfl⟩ := h1 he1
          rw [decide_eq_true he1]
          refine rn_if_t ?_
          exact rn_done ⟨rfl, pv2, ov2, hS3, f4⟩
        · rename_i he1
          rw [decide_eq_false he1]
          refine rn_if_f ?_
          repeat (first | ((with_reducible refine rn_add64 ?_ ?_); focus omega))
          exact ih2 (i + 1) f S1 M3 pv2 ov2 S2 e2 hd' (by omega) hg hS3 hB3 f4 h1 h2
    split at h
    · cases h
    rename_i S2 e2 hgo
    refine loop (W t).1 0 nl _ M4 _ _ S2 e2 rfl (by omega) hgo hS4 hB4 f4 (fun he => ?_) (fun he => ?_)
    · rw [if_pos he] at h
      simp only [Option.some.injEq, Prod.mk.injEq] at h
      exact ⟨h.1.symm, h.2.symm⟩
    · rw [if_neg (by simpa using he)] at h
      split at h
      · cases h
      · rename_i hb
        simp only [Option.some.injEq, Prod.mk.injEq] at h
        simp only [not_or, Nat.not_lt] at hb
        exact ⟨h.2.symm, hb.1, hb.2.1, hb.2.2, h.1.symm⟩
end
end Go.Proofs.Ytnbhmlflbbddcaa.Sx
