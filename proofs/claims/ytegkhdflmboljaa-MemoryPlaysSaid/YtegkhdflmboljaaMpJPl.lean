/- MEMORY, CLONES: the loop over a map. -/
import Derived.Test.YtegkhdflmboljaaMpFPl
import Derived.Test.YtegkhdflmboljaaSxLPl
namespace Go.Proofs.Ytegkhdflmboljaa.Sx
open Go
open Go.ChangeMaps (setBlock)
set_option linter.unusedSimpArgs false
set_option linter.unusedVariables false
set_option maxRecDepth 100000

section
variable {P : Program}
theorem next_nil {ops : Array Oper} {o : Oper} {l : List Oper} {d j rid : Nat} {Q : Exit → Act → World → Prop} {lo : Nat} {ρ : Nat → AV} {M : MM} {a : Act} {c c0 : Cx} {r : Nat}
    (hg : o.guard = none) (hd : o.dst = some d) (ho : o.op = .next (.tmp j) false) (hj : j < 57) (hr : ρ j = .ptr rid 0) (hb : c.E.blk rid = r) (hS : Lp lo c0 ⟨rg ρ, M⟩ a c r (.mapIter none 0 #[] 0))
    (h0 : ∀ a', Lp lo c0 ⟨rg (sO ρ (some d) (.tup [.bool false])), M⟩ a' c r (.mapIter none 0 #[] 0) → wpList P ops Q l a' c.w) : wpList P ops Q (o :: l) a c.w := by
  have hv := hS.ptr hj hr hb
  have hrun : (Instr.next (.pointer (some ⟨r, 0, none⟩)) false o.type).run P c.w = .ok (.tuple #[.bool false]) c.w := by
    simp only [Instr.next, getObj, Sem.run_bind, Sem.run, hS.it.heap, Result.andThen]
    rfl
  refine valOp (c' := c) (x := .tup [.bool false]) (v := .tuple #[.bool false]) hg hd ?_ hS ?_ h0
  · simp only [execOp, ho, hv, Sem.run_bind, hrun, Result.andThen_ok, Sem.run_pure]
  · exact .tup [.bool false] [.bool false] rfl fun i hi hi' => by
      have : i = 0 := by simpa using hi
      subst this; exact .bool c false

theorem Sim.permMap {lo : Nat} {M : MM} {c : Cx} {id : Nat} {kk : KK} {es es2 : List (Value × AV)} (hS : Sim lo M c) (h : M.mem id = some (.map kk es)) (hp : es.Perm es2) : Sim lo ⟨M.nx, upd M.mem id (some (.map kk es2))⟩ c := by
  have ne : ∀ k, upd M.mem id (some (.map kk es2)) k ≠ none → M.mem k ≠ none := fun k hk => by
    by_cases e : k = id
    · subst e; rw [h]; simp
    · rwa [upd_ne _ _ _ _ e] at hk
  refine ⟨fun k hk => hS.dom k (ne k hk), hS.nx, hS.lt, fun k hk => hS.live k (ne k hk), fun k hk => hS.wlive k (ne k hk), hS.WL, hS.Llt, fun i j hi hj => hS.inj i j (ne i hi) (ne j hj), fun k B hB => ?_, hS.flt, fun k B hB ht => ?_⟩
  · by_cases e : k = id
    · subst e
      have hB : upd M.mem k (some (.map kk es2)) k = some B := hB
      rw [upd_same] at hB
      injection hB with hB; subst hB
      obtain ⟨ces, clock, h1, m1, m2, es', p1, h2, h3⟩ := hS.blk k _ h
      exact ⟨ces, clock, h1, m1, DK.perm hp.symm m2, es', p1.trans hp, h2, h3⟩
    · have hB : upd M.mem id (some (.map kk es2)) k = some B := hB
      rw [upd_ne _ _ _ _ e] at hB; exact hS.blk k B hB
  · by_cases e : k = id
    · subst e; exact hS.frz k _ h rfl
    · have hB : upd M.mem id (some (.map kk es2)) k = some B := hB
      rw [upd_ne _ _ _ _ e] at hB; exact hS.frz k B hB ht

def cp (base : Nat) : Option AV → AV
  | some (.ptr cid _) => .ptr (base + cid) 0
  | _ => .nil
def cidOf : Option AV → Nat
  | some (.ptr cid _) => cid
  | _ => 0
/-- The state of the copying loop: 'vis' came out. -/
structure ClS (lo base N : Nat) (M1 : MM) (Y : Nat) (es : List (Value × AV)) (tC : TypeId) (vis : List MapEntry) (M : MM) (c : Cx) : Prop where
  nx : M.nx = N
  map : M.mem Y = some (.map (.int .i64) (vis.map fun e => (e.key, cp base (findM e.key es))))
  chunk : ∀ e ∈ vis, M.mem (base + cidOf (findM e.key es)) = M1.mem (cidOf (findM e.key es))
  old : ∀ id, id ≠ Y → (∀ e ∈ vis, id ≠ base + cidOf (findM e.key es)) → M.mem id = M1.mem id
  free : ∀ cid, cid < lo → c.S (base + cid) → ∃ e ∈ vis, cid = cidOf (findM e.key es)

variable {f : FuncId} {tM tO tC tP tMap tK tE : TypeId}
/-- What the loop has to do with. -/
structure LH (tO tC : TypeId) (lo base N : Nat) (c0 : Cx) (M1 : MM) (X Y bm clock : Nat) (es es' : List (Value × AV)) (ces : Array MapEntry) (al sz co re : AV) : Prop where
  hp : c0.w.heap[bm]? = some (.map ces clock)
  nW : ¬ c0.W bm
  mo : MO ces.toList clock
  dk : DK (es.map Prod.fst)
  pm : es'.Perm es
  rel : RelE c0 (.int .i64) es' ces.toList
  WL : ∀ b, c0.W b → c0.L b
  ent : ∀ q ∈ es, ∃ cid ccs, q.2 = .ptr cid 0 ∧ M1.mem cid = some (.cells tC ccs) ∧ ccs.length = 512 ∧ ccs.all AV.one = true ∧ cid < lo
  inj : ∀ q ∈ es, ∀ q' ∈ es, q.2 = q'.2 → q = q'
  hX : M1.mem X = some (.cells tO [al, sz, co, re, .mp Y])
  XY : X ≠ Y
  loX : lo ≤ X
  loY : lo ≤ Y
  Xb : X < base
  Yb : Y < base
  bN : base + lo ≤ N
theorem LH.find {lo base N : Nat} {c0 : Cx} {M1 : MM} {X Y bm clock : Nat} {es es' : List (Value × AV)} {ces : Array MapEntry} {al sz co re : AV} (h : LH tO tC lo base N c0 M1 X Y bm clock es es' ces al sz co re) {e : MapEntry} (he : e ∈ ces.toList) :
    ∃ cid ccs, findM e.key es = some (.ptr cid 0) ∧ (e.key, AV.ptr cid 0) ∈ es ∧ M1.mem cid = some (.cells tC ccs) ∧ ccs.length = 512 ∧ ccs.all AV.one = true ∧ cid < lo ∧ (KK.int .i64).fits e.key = true ∧ ∀ c, XI lo c0 c → Rel c (.ptr cid 0) e.val := by
  obtain ⟨j, hj, rfl⟩ := List.getElem_of_mem he
  have hj' : j < es'.length := by rw [h.rel.1]; exact hj
  obtain ⟨r1, r2, r3⟩ := h.rel.2 j hj' hj
  have hm : es'[j] ∈ es := h.pm.subset (List.getElem_mem hj')
  obtain ⟨cid, ccs, q1, q2, q3, q4, q5⟩ := h.ent _ hm
  have hk : sameK ces.toList[j].key (es'[j]).1 = true := by
    rw [← r1]
    have r2' := r2
    generalize (es'[j]).1 = k at r2'
    cases k <;> simp [KK.fits] at r2' <;> simp [sameK]
  refine ⟨cid, ccs, (findM_some h.dk).2 ⟨_, hm, hk, q1⟩, by rw [← r1, ← q1]; exact hm, q2, q3, q4, q5, by rw [← r1]; exact r2, fun c hE => ?_⟩
  rw [← q1]; exact r3.ext h.WL hE.toExt
theorem sameK_self {kk : KK} {v : Value} (h : kk.fits v = true) : sameK v v = true := by
  cases kk <;> cases v <;> simp [KK.fits] at h <;> simp [sameK]
theorem LH.keyInj {lo base N : Nat} {c0 : Cx} {M1 : MM} {X Y bm clock : Nat} {es es' : List (Value × AV)} {ces : Array MapEntry} {al sz co re : AV} (h : LH tO tC lo base N c0 M1 X Y bm clock es es' ces al sz co re) {e e2 : MapEntry} (he : e ∈ ces.toList) (he2 : e2 ∈ ces.toList) (hk : e.key = e2.key) : e = e2 := by
  obtain ⟨j, hj, rfl⟩ := List.getElem_of_mem he
  obtain ⟨j2, hj2, rfl⟩ := List.getElem_of_mem he2
  have hl : j < es'.length := by rw [h.rel.1]; exact hj
  have hl2 : j2 < es'.length := by rw [h.rel.1]; exact hj2
  obtain ⟨r1, r2, _⟩ := h.rel.2 j hl hj
  obtain ⟨s1, s2, _⟩ := h.rel.2 j2 hl2 hj2
  have hs : sameK (es'[j]).1 (es'[j2]).1 = true := by rw [s1, ← hk, ← r1]; exact sameK_self r2
  have hd := DK.perm h.pm h.dk
  have e1 : j = j2 := by
    rcases Nat.lt_trichotomy j j2 with g | g | g
    · have := List.pairwise_iff_getElem.1 hd j j2 (by simpa using hl) (by simpa using hl2) g
      simp only [List.getElem_map] at this
      rw [hs] at this; cases this
    · exact g
    · have := List.pairwise_iff_getElem.1 hd j2 j (by simpa using hl2) (by simpa using hl) g
      simp only [List.getElem_map] at this
      rw [sameK_comm, hs] at this; cases this
  subst e1; rfl
end
end Go.Proofs.Ytegkhdflmboljaa.Sx

namespace Go.Proofs.Ytegkhdflmboljaa.Sx
open Go
open Go.ChangeMaps (setBlock)
set_option linter.unusedSimpArgs false
set_option linter.unusedVariables false
set_option maxRecDepth 100000
set_option maxHeartbeats 2000000

section
variable {P : Program} {f : FuncId} {tM tO tC tP tMap tK tE : TypeId}
def CSh.inB (S : CSh P f tM tO tC tP tMap tK tE) : Code :=
  .seq (.region S.i8 #[S.o8_0, S.o8_1] false) (.seq (.cond (.tmp 36) .skip (.exit 2)) (.block 3 (.seq (.region S.i9 #[S.o9_0, S.o9_1, S.o9_2, S.o9_3, S.o9_4] false)
    (.seq (.region S.i10 #[S.o10_0, S.o10_1, S.o10_2, S.o10_3, S.o10_4] false) (.region S.i11 #[S.o11_0, S.o11_1, S.o11_2, S.o11_3] false)))))
/-- The registers that the loop needs, and those that it leaves alone. -/
structure RI (ρ0 ρ : Nat → AV) (rid X : Nat) : Prop where
  it : ρ 34 = .ptr rid 0
  x : ρ 6 = .ptr X 0
  r3 : ρ 3 = ρ0 3
  r5 : ρ 5 = ρ0 5
  r19 : ρ 19 = ρ0 19
  r20 : ρ 20 = ρ0 20
  r21 : ρ 21 = ρ0 21
theorem RI.set {ρ0 ρ : Nat → AV} {rid X d : Nat} (h : RI ρ0 ρ rid X) (v : AV) (hd : d ∉ [3, 5, 6, 19, 20, 21, 34]) : RI ρ0 (sO ρ (some d) v) rid X := by
  simp only [List.mem_cons, List.not_mem_nil, or_false, not_or] at hd
  obtain ⟨h3, h5, h6, h19, h20, h21, h34⟩ := hd
  have e : ∀ i, i ≠ d → sO ρ (some d) v i = ρ i := fun i hi => if_neg hi
  exact ⟨(e _ (Ne.symm h34)).trans h.it, (e _ (Ne.symm h6)).trans h.x, (e _ (Ne.symm h3)).trans h.r3, (e _ (Ne.symm h5)).trans h.r5, (e _ (Ne.symm h19)).trans h.r19, (e _ (Ne.symm h20)).trans h.r20, (e _ (Ne.symm h21)).trans h.r21⟩

theorem copyLoop (S : CSh P f tM tO tC tP tMap tK tE) {lo base N : Nat} {c0 : Cx} {M1 : MM} {X Y bm clock r rid : Nat} {es es' : List (Value × AV)} {ces : Array MapEntry} {al sz co re : AV} {ρ0 : Nat → AV}
    (H : LH tO tC lo base N c0 M1 X Y bm clock es es' ces al sz co re) {Q : Exit → Act → World → Prop}
    (hQ : ∀ ρ M a c vis seen, Lp lo c0 ⟨rg ρ, M⟩ a c r (.mapIter (some bm) clock seen clock) → RI ρ0 ρ rid X → ClS lo base N M1 Y es tC vis M c → (∀ e ∈ vis, e ∈ ces.toList) → (vis.map (·.born)).Nodup → (∀ e ∈ ces.toList, e ∈ vis) → Q (.exit 2) a c.w) :
    ∀ (n : Nat) (vis : List MapEntry) (seen : Array Nat) (ρ : Nat → AV) (M : MM) (a : Act) (c : Cx), (leftOf ces seen).size < n → (∀ b, seen.contains b = true ↔ b ∈ vis.map (·.born)) → (∀ e ∈ vis, e ∈ ces.toList) → (vis.map (·.born)).Nodup →
      Lp lo c0 ⟨rg ρ, M⟩ a c r (.mapIter (some bm) clock seen clock) → RI ρ0 ρ rid X → c.S rid → c.E.blk rid = r → ClS lo base N M1 Y es tC vis M c → Code.rounds P S.inB Q n a c.w := by
  intro n
  induction n with
  | zero => intro vis seen ρ M a c h; omega
  | succ n ih =>
    intro vis seen ρ M a c hn hseen hsub hnd hL hR hS hb hC
    have hnod : (ces.toList.map (·.born)).Nodup := H.mo.1.imp fun {a b} h => Nat.ne_of_lt h
    have hbm : ∀ {c : Cx}, XI lo c0 c → c.w.heap[bm]? = some (.map ces clock) := fun hE => by
      have hlt : bm < c0.w.heap.size := by
        rcases Nat.lt_or_ge bm c0.w.heap.size with e | e
        · exact e
        · have := H.hp; rw [Array.getElem?_eq_none e] at this; cases this
      exact (hE.keep bm hlt H.nW).trans H.hp
    have hlo : lo ≤ M.nx := by rw [hC.nx]; have := H.bN; omega
    rw [rounds_succ]
    refine wp_seq (wp_region_list ?_)
    refine next_op (xv := fun e => (findM e.key es).getD .undef) S.g8_0 S.d8_0 S.p8_0 (by decide) hR.it hb hL (hbm hL.ext) H.mo (fun e he => ?_) (fun e he => ?_) (fun h0 a' hL' => ?_) (fun e he w1 hw a' hL' => ?_)
    · obtain ⟨cid, ccs, q1, q2, q3, q4, q5, q6, q7, q8⟩ := H.find he; exact fits_scal q7
    · obtain ⟨cid, ccs, q1, q2, q3, q4, q5, q6, q7, q8⟩ := H.find he
      simp only [q1, Option.getD_some]; exact q8 c hL.ext
    · -- nothing is left
      refine seqN S.c8_1 hL'.sim hlo (v := .bool false) (M' := M) (by simp [istep, ev_rg, sO]) fun a2 c2 hS2 ha2 => ?_
      have hL2 := hL'.step hS2 ha2.ext
      refine wp_seq (wp_cond (t := false) ?_ (wp_exit ?_))
      · have := eval_rg hL2.sim.fr (show 36 < 57 by decide)
        exact this.bool_inv
      · refine hQ _ M a2 c2 vis seen hL2 ((hR.set _ (by decide)).set _ (by decide)) ⟨hC.nx, hC.map, hC.chunk, hC.old, fun cid hcid hs => ?_⟩ hsub hnd (fun e he => ?_)
        · rcases ha2.ids _ hs with h | h
          · exact hC.free cid hcid h
          · have := H.bN; rw [hC.nx] at h; omega
        · have h1 := all_seen ces seen h0 e he
          obtain ⟨e2, he2, hbb⟩ := List.mem_map.1 ((hseen _).1 h1)
          have := born_inj hnod he (hsub e2 he2) hbb.symm
          rw [this]; exact he2
    · obtain ⟨cid, ccs, q1, q2, q3, q4, q5, q6, q7, q8⟩ := H.find (mem_left he).1
      have hks := fits_scal q7
      have hbN := H.bN
      have hloY := H.loY
      have hloX := H.loX
      have hXb := H.Xb
      have hYb := H.Yb
      have fr : ∀ {c c' : Cx} {M' M'' : MM}, M'.nx = N → AftL lo M' c M'' c' → ∀ k, k < lo → c'.S (base + k) → c.S (base + k) := fun hn ha k hk hs => by
        rcases ha.ids _ hs with h | h
        · exact h
        · rw [hn] at h; omega
      -- region 8
      refine seqN (c := c.inW _) S.c8_1 hL'.sim hlo (v := .bool true) (M' := M) (by simp [istep, ev_rg, sO]) fun a2 c2 hS2 ha2 => ?_
      have hL2 := hL'.step hS2 ha2.ext
      have f2 := fr hC.nx ha2
      refine wp_seq (wp_cond (t := true) ?_ (wp_skip (wp_block (wp_seq (wp_region_list ?_)))))
      · have := eval_rg hL2.sim.fr (show 36 < 57 by decide)
        exact this.bool_inv
      have hS2' : c2.S rid := ha2.ext.S _ hS
      have hb2 : c2.E.blk rid = r := (ha2.ext.blk _ hS).trans hb
      -- region 9
      refine entry_op (e := e) (x := .ptr cid 0) S.g9_0 S.d9_0 S.p9_0 (by decide) (by simp only [sO]; exact hR.it) hb2 hL2 (hbm hL2.ext) H.mo (mem_left he).1 hks (q8 _ hL2.ext) fun a3 hL3 => ?_
      refine seqN S.c9_1 hL3.sim hlo (v := .d (.v e.key)) (M' := M) (by simp [istep, ev_rg, sO]) fun a4 c4 hS4 ha4 => ?_
      have hL4 := hL3.step hS4 ha4.ext
      refine seqN S.c9_2 hL4.sim hlo (v := .ptr cid 0) (M' := M) (by simp [istep, ev_rg, sO]) fun a5 c5 hS5 ha5 => ?_
      have hL5 := hL4.step hS5 ha5.ext
      refine seqN S.c9_3 hL5.sim hlo (v := .d (.v e.key)) (M' := M) (by simp [istep, ev_rg, sO]) fun a6 c6 hS6 ha6 => ?_
      have hL6 := hL5.step hS6 ha6.ext
      refine seqN S.c9_4 hL6.sim hlo (v := .ptr cid 0) (M' := M) (by simp [istep, ev_rg, sO]) fun a7 c7 hS7 ha7 => ?_
      have hL7 := hL6.step hS7 ha7.ext
      -- region 10
      have hcY : cid ≠ Y := by omega
      have hcid : M.mem cid = some (.cells tC ccs) := by rw [hC.old cid hcY (fun e _ => by omega)]; exact q3
      refine wp_seq (wp_region_list ?_)
      refine seqN S.c10_0 hL7.sim hlo (v := .ptr cid 0) (M' := M) (by simp [istep, ev_rg, sO]) fun a8 c8 hS8 ha8 => ?_
      have hL8 := hL7.step hS8 ha8.ext
      refine seqN S.c10_1 hL8.sim hlo (v := .ptr cid 0) (M' := M) (by simp [istep, ev_rg, sO]) fun a9 c9 hS9 ha9 => ?_
      have hL9 := hL8.step hS9 ha9.ext
      refine seqN S.c10_2 hL9.sim hlo (v := .agg ccs) (M' := M) (by simp [istep, ev_rg, sO, look_ok (ok_top.2 (show cid < M.nx by omega)), hcid, q4, List.take_of_length_le]) fun a10 c10 hS10 ha10 => ?_
      have hL10 := hL9.step hS10 ha10.ext
      have f10 : ∀ k, k < lo → c10.S (base + k) → c.S (base + k) := fun k hk hs =>
        f2 k hk (fr hC.nx ha4 k hk (fr hC.nx ha5 k hk (fr hC.nx ha6 k hk (fr hC.nx ha7 k hk (fr hC.nx ha8 k hk (fr hC.nx ha9 k hk (fr hC.nx ha10 k hk hs)))))))
      have hfresh : ¬ c10.S (base + cid) := fun hs => by
        obtain ⟨e2, he2, hce⟩ := hC.free cid q6 (f10 cid q6 hs)
        obtain ⟨cid2, ccs2, p1, p2, p3, p4, p5, p6, p7, p8⟩ := H.find (hsub e2 he2)
        rw [p1] at hce
        have hce : cid = cid2 := hce
        subst hce
        have := H.inj _ q2 _ p2 rfl
        have hk : e.key = e2.key := congrArg Prod.fst this
        have hee := H.keyInj (mem_left he).1 (hsub e2 he2) hk
        have h1 := (hseen e2.born).2 (List.mem_map_of_mem he2)
        rw [← hee, (mem_left he).2] at h1; cases h1
      refine seqF (draw := true) (lim := .top M.nx) (fresh := base + cid) S.c10_3 (v := .ptr (base + cid) 0) (M' := M.alloc (base + cid) (.cells tC ch0)) (by simp [istep]) hL10.sim hfresh hlo (by simp) (by omega) fun a11 c11 hS11 ha11 => ?_
      have hL11 := hL10.step hS11 ha11.ext
      have hnx11 : (M.alloc (base + cid) (.cells tC ch0)).nx = N := by have := hC.nx; simp only [MM.alloc]; omega
      have hlo11 : lo ≤ (M.alloc (base + cid) (.cells tC ch0)).nx := by rw [hnx11]; omega
      have hm11 : (M.alloc (base + cid) (.cells tC ch0)).mem (base + cid) = some (.cells tC ch0) := upd_same _ _ _
      have hset : setAt ch0 0 ccs = ccs := by
        have h0 : ch0.length = 512 := rfl
        simp only [setAt, List.take_zero, List.nil_append, Nat.zero_add, q4]
        rw [List.drop_of_length_le (by omega), List.append_nil]
      refine seqN S.c10_4 hL11.sim hlo11 (v := .undef) (M' := (M.alloc (base + cid) (.cells tC ch0)).put (base + cid) (.cells tC ccs)) ?_ fun a12 c12 hS12 ha12 => ?_
      · have hlt : (Lm.top (M.alloc (base + cid) (.cells tC ch0)).nx).ok (base + cid) = true := ok_top.2 (by rw [hnx11]; omega)
        simp only [istep, ev_rg _ (show 9 < 57 by decide), ev_rg _ (show 42 < 57 by decide)]
        simp only [sO, if_true, Nat.reduceEqDiff, if_false, look_ok hlt, hm11, AV.cells, hset]
        rw [if_pos ⟨by omega, q4, by rw [show ch0.length = 512 from rfl]; omega, q5⟩]
      have hL12 := hL11.step hS12 ha12.ext
      generalize hM12 : (M.alloc (base + cid) (.cells tC ch0)).put (base + cid) (.cells tC ccs) = M12 at hL12 ha12 hS12 ⊢
      have hnx12 : M12.nx = N := by subst hM12; exact hnx11
      have hlo12 : lo ≤ M12.nx := by omega
      have hm12 : M12.mem (base + cid) = some (.cells tC ccs) := by subst hM12; exact upd_same _ _ _
      have ho12 : ∀ k, k ≠ base + cid → M12.mem k = M.mem k := fun k hk => by
        subst hM12
        show upd (upd _ _ _) _ _ _ = _
        rw [upd_ne _ _ _ _ hk, upd_ne _ _ _ _ hk]
      have hXm : M12.mem X = some (.cells tO [al, sz, co, re, .mp Y]) := by rw [ho12 X (by omega), hC.old X H.XY (fun e _ => by omega)]; exact H.hX
      have hYm : M12.mem Y = some (.map (.int .i64) (vis.map fun e => (e.key, cp base (findM e.key es)))) := by rw [ho12 Y (by omega)]; exact hC.map
      -- region 11
      refine wp_region_list ?_
      refine seqN S.c11_0 hL12.sim hlo12 (v := .ptr X 4) (M' := M12) (by simp [istep, ev_rg, sO, hR.x]) fun a13 c13 hS13 ha13 => ?_
      have hL13 := hL12.step hS13 ha13.ext
      refine seqN S.c11_1 hL13.sim hlo12 (v := .mp Y) (M' := M12) (by simp [istep, ev_rg, sO, look_ok (ok_top.2 (show X < M12.nx by omega)), hXm]) fun a14 c14 hS14 ha14 => ?_
      have hL14 := hL13.step hS14 ha14.ext
      refine seqN S.c11_2 hL14.sim hlo12 (v := .d (.v e.key)) (M' := M12) (by simp [istep, ev_rg, sO]) fun a15 c15 hS15 ha15 => ?_
      have hL15 := hL14.step hS15 ha15.ext
      refine seqN S.c11_3 hL15.sim hlo12 (v := .undef) (M' := M12.put Y (.map (.int .i64) (putM e.key (.ptr (base + cid) 0) (vis.map fun e => (e.key, cp base (findM e.key es)))))) ?_ fun a16 c16 hS16 ha16 => ?_
      · simp only [istep, ev_rg _ (show 44 < 57 by decide), ev_rg _ (show 45 < 57 by decide), ev_rg _ (show 9 < 57 by decide)]
        simp only [sO, if_true, Nat.reduceEqDiff, if_false, look_ok (ok_top.2 (show Y < M12.nx by omega)), hYm, q7, hloY, and_self]
      have hL16 := hL15.step hS16 ha16.ext
      have hE : XI lo c2 c16 := ha4.ext.trans (ha5.ext.trans (ha6.ext.trans (ha7.ext.trans (ha8.ext.trans (ha9.ext.trans (ha10.ext.trans (ha11.ext.trans (ha12.ext.trans (ha13.ext.trans (ha14.ext.trans (ha15.ext.trans ha16.ext)))))))))))
      have hnv : ∀ e2 ∈ vis, e.key ≠ e2.key := fun e2 he2 hk => by
        have hee := H.keyInj (mem_left he).1 (hsub e2 he2) hk
        have h1 := (hseen e2.born).2 (List.mem_map_of_mem he2)
        rw [← hee, (mem_left he).2] at h1; cases h1
      have hput : putM e.key (.ptr (base + cid) 0) (vis.map fun e => (e.key, cp base (findM e.key es))) = (vis ++ [e]).map fun e => (e.key, cp base (findM e.key es)) := by
        rw [putM_none, List.map_append, List.map_cons, List.map_nil, q1]
        · rfl
        · rw [findM_none]
          intro q hq
          obtain ⟨e2, he2, rfl⟩ := List.mem_map.1 hq
          cases hs : sameK e.key e2.key
          · rfl
          · exact absurd (sameK_eq hs) (hnv e2 he2)
      have hcide : cidOf (findM e.key es) = cid := by rw [q1]; rfl
      have ho16 : ∀ k, k ≠ Y → (M12.put Y (.map (.int .i64) (putM e.key (.ptr (base + cid) 0) (vis.map fun e => (e.key, cp base (findM e.key es)))))).mem k = M12.mem k := fun k hk => upd_ne _ _ _ _ hk
      refine ih (vis ++ [e]) (seen.push e.born) _ _ a16 c16 ?_ (fun b => ?_) (fun e2 he2 => ?_) ?_ hL16 ?_ (hE.S _ hS2') ((hE.blk _ hS2').trans hb2) ⟨hnx12, ?_, fun e2 he2 => ?_, fun k hk1 hk2 => ?_, fun k hk hs => ?_⟩
      · have := left_shrinks ces seen e he; omega
      · rw [contains_push, Bool.or_eq_true, hseen, List.map_append, List.mem_append, beq_iff_eq]; simp
      · rcases List.mem_append.1 he2 with h | h
        · exact hsub e2 h
        · rw [List.mem_singleton.1 h]; exact (mem_left he).1
      · rw [List.map_append]
        refine List.nodup_append.2 ⟨hnd, by simp, fun x hx y hy hxy => ?_⟩
        have hy : y = e.born := by simpa using hy
        have h1 := (hseen x).2 hx
        rw [hxy, hy, (mem_left he).2] at h1; cases h1
      · exact ⟨by simp [sO, hR.it], by simp [sO, hR.x], by simp [sO, hR.r3], by simp [sO, hR.r5], by simp [sO, hR.r19], by simp [sO, hR.r20], by simp [sO, hR.r21]⟩
      · show upd _ _ _ _ = _
        rw [upd_same, hput]
      · rcases List.mem_append.1 he2 with h | h
        · obtain ⟨cid2, ccs2, p1, p2, p3, p4, p5, p6, p7, p8⟩ := H.find (hsub e2 h)
          have hc2 : cidOf (findM e2.key es) = cid2 := by rw [p1]; rfl
          rw [hc2, ho16 _ (by omega)]
          by_cases hcc : cid2 = cid
          · subst hcc; rw [hm12, q3]
          · rw [ho12 _ (by omega)]
            have := hC.chunk e2 h
            rw [hc2] at this; exact this
        · rw [List.mem_singleton.1 h, hcide, ho16 _ (by omega), hm12, q3]
      · have h2 := hk2 e (by simp)
        rw [hcide] at h2
        rw [ho16 k hk1, ho12 k h2]
        exact hC.old k hk1 fun e2 he2 => hk2 e2 (List.mem_append_left _ he2)
      · have h11 := fr hnx11 ha12 k hk (fr hnx12 ha13 k hk (fr hnx12 ha14 k hk (fr hnx12 ha15 k hk (fr hnx12 ha16 k hk hs))))
        rcases ha11.ids _ h11 with h | h | h
        · obtain ⟨e2, he2, hh⟩ := hC.free k hk (f10 k hk h)
          exact ⟨e2, List.mem_append_left _ he2, hh⟩
        · exact ⟨e, by simp, by rw [hcide]; omega⟩
        · have := hC.nx; omega
end
end Go.Proofs.Ytegkhdflmboljaa.Sx

namespace Go.Proofs.Ytegkhdflmboljaa.Sx
open Go
open Go.ChangeMaps (setBlock)
set_option linter.unusedSimpArgs false
set_option linter.unusedVariables false
set_option maxRecDepth 100000
set_option maxHeartbeats 2000000

section
variable {P : Program} {f : FuncId} {tM tO tC tP tMap tK tE : TypeId}
/-- An object as the old memory has it. -/
structure OOK (tO tC : TypeId) (M : MM) (lo oid : Nat) (al sz co re mpv : AV) (es : List (Value × AV)) : Prop where
  mem : M.mem oid = some (.cells tO [al, sz, co, re, mpv])
  lt : oid < lo
  one : [al, sz, co, re, mpv].all AV.one = true
  mp : (mpv = .d (.v (.map none)) ∧ es = []) ∨ ∃ mid, mpv = .mp mid ∧ mid < lo ∧ M.mem mid = some (.map (.int .i64) es) ∧
    (∀ q ∈ es, ∃ cid ccs, q.2 = .ptr cid 0 ∧ M.mem cid = some (.cells tC ccs) ∧ ccs.length = 512 ∧ ccs.all AV.one = true ∧ cid < lo) ∧ ∀ q ∈ es, ∀ q' ∈ es, q.2 = q'.2 → q = q'
def OldM (lo : Nat) (M0 M : MM) : Prop := ∀ id, id < lo → M.mem id = M0.mem id

theorem objPre (S : CSh P f tM tO tC tP tMap tK tE) {lo n i k sid oid Pid : Nat} {c0 : Cx} {M0 M : MM} {al sz co re mpv : AV} {es : List (Value × AV)} {ρ : Nat → AV} {a : Act} {c : Cx} {scs : List AV} {tS : TypeId} {R : Code} {Q : Exit → Act → World → Prop}
    (hS : SimS lo ⟨rg ρ, M⟩ a c) (hn : M.nx = n) (hlo : lo ≤ n) (hO : OOK tO tC M0 lo oid al sz co re mpv es) (hold : OldM lo M0 M) (h19 : ρ 19 = .os sid 0 k 1) (h21 : ρ 21 = .i i) (hik : i < k) (hsid : sid < lo) (hsc : M0.mem sid = some (.cells tS scs)) (hsi : scs[i]? = some (.ptr oid 0))
    (h3 : ρ 3 = .ptr Pid 0)
    (hk : ∀ ρ' a' c' M', SimS lo ⟨rg ρ', M'⟩ a' c' → AftL lo M c M' c' → ρ' 6 = .ptr n 0 → ρ' 5 = .ptr oid 0 → ρ' 3 = .ptr Pid 0 → ρ' 19 = ρ 19 → ρ' 20 = ρ 20 → ρ' 21 = ρ 21 → M'.nx = n + 2 → M'.mem n = some (.cells tO [al, sz, co, re, .mp (n + 1)]) → M'.mem (n + 1) = some (.map (.int .i64) []) →
      (∀ id, id ≠ n → id ≠ n + 1 → M'.mem id = M.mem id) → R.wp P Q a' c'.w) :
    (Code.seq (.region S.i4 #[S.o4_0, S.o4_1, S.o4_2] false) (.seq (.region S.i5 #[S.o5_0, S.o5_1, S.o5_2, S.o5_3, S.o5_4] false) (.seq (.region S.i6 #[S.o6_0, S.o6_1, S.o6_2] false) R))).wp P Q a c.w := by
  subst hn
  have hoM : M.mem oid = some (.cells tO [al, sz, co, re, mpv]) := (hold oid hO.lt).trans hO.mem
  have hsM : M.mem sid = some (.cells tS scs) := (hold sid hsid).trans hsc
  have hlt := hO.lt
  refine wp_seq (wp_region_list ?_)
  refine seqN S.c4_0 hS hlo (v := .ptr sid i) (M' := M) ?_ fun a1 c1 hS1 ha1 => ?_
  · simp only [istep, ev_rg _ (show 19 < 57 by decide), ev_rg _ (show 21 < 57 by decide), h19, h21, asI]
    rw [if_pos (by omega)]
    simp
  refine seqN S.c4_1 hS1 hlo (v := .ptr oid 0) (M' := M) (by simp [istep, ev_rg, sO, look_ok (ok_top.2 (show sid < M.nx by omega)), hsM, hsi]) fun a2 c2 hS2 ha2 => ?_
  refine seqN S.c4_2 hS2 hlo (v := .ptr oid 0) (M' := M) (by simp [istep, ev_rg, sO]) fun a3 c3 hS3 ha3 => ?_
  refine wp_seq (wp_region_list ?_)
  refine seqN S.c5_0 hS3 hlo (v := .ptr oid 0) (M' := M) (by simp [istep, ev_rg, sO]) fun a4 c4 hS4 ha4 => ?_
  refine seqN S.c5_1 hS4 hlo (v := .ptr oid 0) (M' := M) (by simp [istep, ev_rg, sO]) fun a5 c5 hS5 ha5 => ?_
  refine seqN S.c5_2 hS5 hlo (v := .agg [al, sz, co, re, mpv]) (M' := M) (by simp [istep, ev_rg, sO, look_ok (ok_top.2 (show oid < M.nx by omega)), hoM]) fun a6 c6 hS6 ha6 => ?_
  refine seqN S.c5_3 hS6 hlo (v := .ptr M.nx 0) (M' := M.alloc M.nx (.cells tO ob0)) (by simp [istep]) fun a7 c7 hS7 ha7 => ?_
  have hx7 : (M.alloc M.nx (.cells tO ob0)).nx = M.nx + 1 := by simp only [MM.alloc]; omega
  have hlo7 : lo ≤ (M.alloc M.nx (.cells tO ob0)).nx := by omega
  have hm7 : (M.alloc M.nx (.cells tO ob0)).mem M.nx = some (.cells tO ob0) := upd_same _ _ _
  refine seqN S.c5_4 hS7 hlo7 (v := .undef) (M' := (M.alloc M.nx (.cells tO ob0)).put M.nx (.cells tO [al, sz, co, re, mpv])) ?_ fun a8 c8 hS8 ha8 => ?_
  · have h1 := hO.one
    simp only [istep, ev_rg _ (show 6 < 57 by decide), ev_rg _ (show 27 < 57 by decide)]
    simp only [sO, if_true, Nat.reduceEqDiff, if_false, look_ok (ok_top.2 (show M.nx < (M.alloc M.nx (.cells tO ob0)).nx by omega)), hm7, AV.cells]
    rw [if_pos ⟨hlo, rfl, by decide, h1⟩]
    rfl
  have ha18 : AftL lo M c ((M.alloc M.nx (.cells tO ob0)).put M.nx (.cells tO [al, sz, co, re, mpv])) c8 := ha1.trans (ha2.trans (ha3.trans (ha4.trans (ha5.trans (ha6.trans (ha7.trans ha8))))))
  generalize hM8 : (M.alloc M.nx (.cells tO ob0)).put M.nx (.cells tO [al, sz, co, re, mpv]) = M8 at hS8 ha18 ⊢
  have hx8 : M8.nx = M.nx + 1 := by subst hM8; exact hx7
  have hm8 : M8.mem M.nx = some (.cells tO [al, sz, co, re, mpv]) := by subst hM8; exact upd_same _ _ _
  have ho8 : ∀ id, id ≠ M.nx → M8.mem id = M.mem id := fun id hid => by
    subst hM8
    show upd (upd _ _ _) _ _ _ = _
    rw [upd_ne _ _ _ _ hid, upd_ne _ _ _ _ hid]
  refine wp_seq (wp_region_list ?_)
  refine seqN S.c6_0 hS8 (by omega) (v := .mp (M.nx + 1)) (M' := M8.alloc (M.nx + 1) (.map (.int .i64) [])) (by simp [istep, hx8]) fun a9 c9 hS9 ha9 => ?_
  have hx9 : (M8.alloc (M.nx + 1) (.map (.int .i64) [])).nx = M.nx + 2 := by simp only [MM.alloc]; omega
  have hm9 : (M8.alloc (M.nx + 1) (.map (.int .i64) [])).mem M.nx = some (.cells tO [al, sz, co, re, mpv]) := by
    show upd _ _ _ _ = _
    rw [upd_ne _ _ _ _ (by omega)]; exact hm8
  refine seqN S.c6_1 hS9 (by omega) (v := .ptr M.nx 4) (M' := M8.alloc (M.nx + 1) (.map (.int .i64) [])) (by simp [istep, ev_rg, sO]) fun a10 c10 hS10 ha10 => ?_
  refine seqN S.c6_2 hS10 (by omega) (v := .undef) (M' := (M8.alloc (M.nx + 1) (.map (.int .i64) [])).put M.nx (.cells tO [al, sz, co, re, .mp (M.nx + 1)])) ?_ fun a11 c11 hS11 ha11 => ?_
  · simp only [istep, ev_rg _ (show 29 < 57 by decide), ev_rg _ (show 28 < 57 by decide)]
    simp only [sO, if_true, Nat.reduceEqDiff, if_false, look_ok (ok_top.2 (show M.nx < (M8.alloc (M.nx + 1) (.map (.int .i64) [])).nx by omega)), hm9, AV.cells]
    rw [if_pos ⟨hlo, rfl, by simp, rfl⟩]
    rfl
  refine hk _ a11 c11 _ hS11 (ha18.trans (ha9.trans (ha10.trans ha11))) ?_ ?_ ?_ ?_ ?_ ?_ hx9 (upd_same _ _ _) ?_ fun id h1 h2 => ?_
  · simp [sO]
  · simp [sO]
  · simp [sO, h3]
  · simp [sO]
  · simp [sO]
  · simp [sO]
  · show upd _ _ _ _ = _
    rw [upd_ne _ _ _ _ (by omega)]; exact upd_same _ _ _
  · show upd (upd _ _ _) _ _ _ = _
    rw [upd_ne _ _ _ _ h1, upd_ne _ _ _ _ h2, ho8 id h1]
end
end Go.Proofs.Ytegkhdflmboljaa.Sx

namespace Go.Proofs.Ytegkhdflmboljaa.Sx
open Go
open Go.ChangeMaps (setBlock)
set_option linter.unusedSimpArgs false
set_option linter.unusedVariables false
set_option maxRecDepth 100000
set_option maxHeartbeats 2000000

section
variable {P : Program} {f : FuncId} {tM tO tC tP tMap tK tE : TypeId}
theorem SimS.grow {lo N : Nat} {ρ : List AV} {M : MM} {a : Act} {c : Cx} (h : SimS lo ⟨ρ, M⟩ a c) (hN : M.nx ≤ N) : SimS lo ⟨ρ, ⟨N, M.mem⟩⟩ a c :=
  ⟨⟨h.sim.dom, fun id hs => Nat.lt_of_lt_of_le (h.sim.nx id hs) hN, h.sim.lt, h.sim.live, h.sim.wlive, h.sim.WL, h.sim.Llt, h.sim.inj, h.sim.blk, h.sim.flt, h.sim.frz⟩, h.fr, h.df⟩
theorem Lp.grow {lo N : Nat} {c0 : Cx} {ρ : List AV} {M : MM} {a : Act} {c : Cx} {r : Nat} {o : Obj} (h : Lp lo c0 ⟨ρ, M⟩ a c r o) (hN : M.nx ≤ N) : Lp lo c0 ⟨ρ, ⟨N, M.mem⟩⟩ a c r o := ⟨h.sim.grow hN, h.ext, h.it, h.rge⟩

def midMem (m : Mem) (n base : Nat) (es : List (Value × AV)) : Mem := fun id =>
  if id = n + 1 then some (.map (.int .i64) (es.map fun q => (q.1, cp base (some q.2))))
  else if (es.any fun q => id == base + cidOf (some q.2)) = true then m (id - base) else m id

theorem objMid (S : CSh P f tM tO tC tP tMap tK tE) {lo n oid : Nat} {c0 : Cx} {M0 M : MM} {al sz co re mpv : AV} {es : List (Value × AV)} {ρ : Nat → AV} {a : Act} {c : Cx} {R : Code} {Q : Exit → Act → World → Prop}
    (hS0 : Sim lo M0 c0) (hl0 : lo = M0.nx) (hW : ∀ b, ¬ c0.W b) (hE : XI lo c0 c)
    (hS : SimS lo ⟨rg ρ, M⟩ a c) (hn : M.nx = n + 2) (hlo : lo ≤ n) (hO : OOK tO tC M0 lo oid al sz co re mpv es) (hold : OldM lo M0 M) (h5 : ρ 5 = .ptr oid 0) (h6 : ρ 6 = .ptr n 0)
    (hx : M.mem n = some (.cells tO [al, sz, co, re, .mp (n + 1)])) (hy : M.mem (n + 1) = some (.map (.int .i64) []))
    (hk : ∀ ρ' a' c', SimS lo ⟨rg ρ', ⟨n + 3 + lo, midMem M.mem n (n + 3) es⟩⟩ a' c' → XI lo c0 c' → ρ' 6 = .ptr n 0 → ρ' 3 = ρ 3 → ρ' 19 = ρ 19 → ρ' 20 = ρ 20 → ρ' 21 = ρ 21 → R.wp P Q a' c'.w) :
    (Code.seq (.seq (.region S.i7 #[S.o7_0, S.o7_1, S.o7_2, S.o7_3, S.o7_4] false) (.block 2 (.loop S.inB))) R).wp P Q a c.w := by
  have hoM : M.mem oid = some (.cells tO [al, sz, co, re, mpv]) := (hold oid hO.lt).trans hO.mem
  have hlt := hO.lt
  refine wp_seq (wp_seq (wp_region_list ?_))
  refine seqN S.c7_0 hS (by omega) (v := .ptr oid 0) (M' := M) (by simp [istep, ev_rg, h5]) fun a1 c1 hS1 ha1 => ?_
  refine seqN S.c7_1 hS1 (by omega) (v := .ptr oid 0) (M' := M) (by simp [istep, ev_rg, sO]) fun a2 c2 hS2 ha2 => ?_
  refine seqN S.c7_2 hS2 (by omega) (v := .ptr oid 4) (M' := M) (by simp [istep, ev_rg, sO]) fun a3 c3 hS3 ha3 => ?_
  refine seqN S.c7_3 hS3 (by omega) (v := mpv) (M' := M) (by simp [istep, ev_rg, sO, look_ok (ok_top.2 (show oid < M.nx by omega)), hoM]) fun a4 c4 hS4 ha4 => ?_
  have hE4 : XI lo c0 c4 := hE.trans (ha1.ext.trans (ha2.ext.trans (ha3.ext.trans ha4.ext)))
  rcases hO.mp with ⟨hm, hes⟩ | ⟨mid, hm, hmid, hmm, hent, hinj⟩
  · -- no map
    subst hes
    refine range_nil (j := 33) S.g7_4 S.d7_4 S.p7_4 S.hu (by decide) (by simp [sO, hm]) hS4 (by omega) hE4 fun a5 hL5 => ?_
    refine wp_block (wp_loop_rounds 1 ?_)
    rw [rounds_succ]
    refine wp_seq (wp_region_list ?_)
    refine next_nil S.g8_0 S.d8_0 S.p8_0 (by decide) (rid := M.nx) (by simp [sO]) (by simp [Cx.spot]) hL5 fun a6 hL6 => ?_
    refine seqN S.c8_1 hL6.sim (by show lo ≤ max M.nx (M.nx + 1); omega) (v := .bool false) (M' := M.up M.nx) (by simp [istep, ev_rg, sO]) fun a7 c7 hS7 ha7 => ?_
    refine wp_seq (wp_cond (t := false) ?_ (wp_exit ?_))
    · have := eval_rg hS7.fr (show 36 < 57 by decide)
      exact this.bool_inv
    · have hS8 := hS7.grow (N := n + 3 + lo) (by show max M.nx (M.nx + 1) ≤ _; omega)
      have em : (M.up M.nx).mem = midMem M.mem n (n + 3) [] := by
        funext id
        show M.mem id = _
        simp only [midMem, List.map_nil, List.any_nil, Bool.false_eq_true, if_false]
        by_cases e : id = n + 1
        · rw [if_pos e, e, hy]
        · rw [if_neg e]
      rw [em] at hS8
      exact hk _ a7 c7 hS8 (hL6.ext.trans ha7.ext) (by simp [sO, h6]) (by simp [sO]) (by simp [sO]) (by simp [sO]) (by simp [sO])
  · obtain ⟨ces, clock, g1, g2, g3, es', g4, g5⟩ := live_map hS0 hmm
    have hSm : c0.S mid := hS0.dom mid (by rw [hmm]; simp)
    have hbm : c4.E.blk mid = c0.E.blk mid := hE4.blk mid hSm
    have hb4 : c4.w.heap[c4.E.blk mid]? = some (.map ces clock) := by rw [hbm]; exact (hE4.keep _ (hS0.lt mid hSm) (hW _)).trans g1
    refine range_op (j := 33) (mid := mid) S.g7_4 S.d7_4 S.p7_4 S.hu (by decide) (by simp [sO, hm]) hb4 hS4 (by omega) hE4 fun a5 hL5 => ?_
    rw [hbm] at hL5 ⊢
    have H : LH tO tC lo (n + 3) (n + 3 + lo) c0 ⟨n + 3 + lo, M.mem⟩ n (n + 1) (c0.E.blk mid) clock es es' ces al sz co re :=
      ⟨g1, hW _, g2, g3, g4, g5, hS0.WL, fun q hq => by
        obtain ⟨cid, ccs, q1, q2, q3, q4, q5⟩ := hent q hq
        exact ⟨cid, ccs, q1, (hold cid q5).trans q2, q3, q4, q5⟩, hinj, hx, by omega, hlo, by omega, by omega, by omega, Nat.le_refl _⟩
    have hL6 := hL5.grow (N := n + 3 + lo) (by show max M.nx (M.nx + 1) ≤ _; omega)
    have hnod : (ces.toList.map (·.born)).Nodup := g2.1.imp fun {a b} h => Nat.ne_of_lt h
    refine wp_block (wp_loop_rounds ((leftOf ces #[]).size + 1) (copyLoop S H (r := c4.w.heap.size) (rid := M.nx) (ρ0 := ρ) ?_ _ [] #[] _ _ a5 _ (Nat.lt_succ_self _) (fun b => by simp) (fun e he => by simp at he) (by simp) hL6 ?_ (.inr rfl) (by simp [Cx.spot]) ?_))
    · intro ρ' M' a' c' vis seen hL hR hC hsub hnd hall
      have hpv : vis.Perm ces.toList := by
        refine (List.perm_ext_iff_of_nodup ?_ ?_).2 fun e => ⟨hsub e, hall e⟩
        · exact (List.pairwise_map.1 hnd).imp fun {x y} h e => h (by rw [e])
        · exact (List.pairwise_map.1 hnod).imp fun {x y} h e => h (by rw [e])
      have hce : ces.toList.map (fun e => (e.key, cp (n + 3) (findM e.key es))) = es'.map fun q => (q.1, cp (n + 3) (some q.2)) := by
        refine List.ext_getElem (by simp [g5.1]) fun j h1 h2 => ?_
        have hj : j < ces.toList.length := by simpa using h1
        have hj' : j < es'.length := by simpa using h2
        obtain ⟨r1, r2, _⟩ := g5.2 j hj' hj
        have hm' : es'[j] ∈ es := g4.subset (List.getElem_mem hj')
        have hf : findM ces.toList[j].key es = some (es'[j]).2 := (findM_some g3).2 ⟨_, hm', by rw [← r1]; exact sameK_self r2, rfl⟩
        simp only [List.getElem_map, hf, r1]
      have hperm : (vis.map fun e => (e.key, cp (n + 3) (findM e.key es))).Perm (es.map fun q => (q.1, cp (n + 3) (some q.2))) :=
        (hpv.map _).trans (by rw [hce]; exact g4.map _)
      have hS9 := Sim.permMap hL.sim.sim hC.map hperm
      have em : (⟨M'.nx, upd M'.mem (n + 1) (some (.map (.int .i64) (es.map fun q => (q.1, cp (n + 3) (some q.2)))))⟩ : MM) = ⟨n + 3 + lo, midMem M.mem n (n + 3) es⟩ := by
        rw [hC.nx]
        congr 1
        funext id
        by_cases e : id = n + 1
        · subst e; rw [upd_same]; simp [midMem]
        · rw [upd_ne _ _ _ _ e]
          simp only [midMem, if_neg e]
          by_cases ha : (es.any fun q => id == n + 3 + cidOf (some q.2)) = true
          · rw [if_pos ha]
            obtain ⟨q, hq, hqi⟩ := List.any_eq_true.1 ha
            have hqi : id = n + 3 + cidOf (some q.2) := by simpa using hqi
            have hq' : q ∈ es' := g4.symm.subset hq
            obtain ⟨j, hj, rfl⟩ := List.getElem_of_mem hq'
            have hj' : j < ces.toList.length := by rw [← g5.1]; exact hj
            obtain ⟨r1, r2, _⟩ := g5.2 j hj hj'
            have hf : findM ces.toList[j].key es = some (es'[j]).2 := (findM_some g3).2 ⟨_, hq, by rw [← r1]; exact sameK_self r2, rfl⟩
            have := hC.chunk _ (hall _ (List.getElem_mem hj'))
            rw [hf] at this
            rw [hqi, this]
            simp
          · rw [if_neg ha]
            refine hC.old id e fun e2 he2 hid => ha ?_
            obtain ⟨cid, ccs, q1, q2, _⟩ := H.find (hsub e2 he2)
            exact List.any_eq_true.2 ⟨_, q2, by rw [hid, q1]; simp [cidOf]⟩
      rw [em] at hS9
      exact hk ρ' a' c' ⟨hS9, hL.sim.fr, hL.sim.df⟩ hL.ext hR.x hR.r3 hR.r19 hR.r20 hR.r21
    · exact ⟨by simp [sO], by simp [sO, h6], by simp [sO], by simp [sO], by simp [sO], by simp [sO], by simp [sO]⟩
    · refine ⟨rfl, hy, fun e he => by simp at he, fun id _ _ => rfl, fun cid hcid hs => ?_⟩
      have := hL5.sim.sim.nx _ hs
      have : n + 3 + cid < max M.nx (M.nx + 1) := this
      omega
end
end Go.Proofs.Ytegkhdflmboljaa.Sx
