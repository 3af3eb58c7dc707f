/- MEMORY, CLONES: the copy of an object is appended. -/
import Derived.Test.YtegkhdflmboljaaMpJPl
import Derived.Test.YtegkhdflmboljaaSxKPl
namespace Go.Proofs.Ytegkhdflmboljaa.Sx
open Go
set_option linter.unusedSimpArgs false
set_option linter.unusedVariables false
set_option maxRecDepth 100000
set_option maxHeartbeats 2000000

section
variable {P : Program} {f : FuncId} {tM tO tC tP tMap tK tE : TypeId}
def SLp (tP : TypeId) (m : Mem) (sl : AV) (ptrs : List AV) : Prop := (sl = .nilsl ∧ ptrs = []) ∨ ∃ aid, sl = .os aid 0 ptrs.length 1 ∧ m aid = some (.cells tP ptrs)
def aidOf : AV → Option Nat
  | .os q _ _ _ => some q
  | _ => none
def appMem (tM tP : TypeId) (m : Mem) (N Pid x : Nat) (sl : AV) (ptrs : List AV) (live : AV) : Mem := fun id =>
  if id = Pid then some (.cells tM [.os (N + 1) 0 (ptrs.length + 1) 1, live])
  else if id = N + 1 then some (.cells tP (ptrs ++ [.ptr x 0]))
  else if id = N then some (.cells tP [.ptr x 0])
  else if aidOf sl = some id then none else m id

theorem objApp (S : CSh P f tM tO tC tP tMap tK tE) {lo N Pid x : Nat} {M : MM} {sl live : AV} {ptrs : List AV} {ρ : Nat → AV} {a : Act} {c : Cx} {Q : Exit → Act → World → Prop}
    (hS : SimS lo ⟨rg ρ, M⟩ a c) (hn : M.nx = N) (hlo : lo ≤ N) (h3 : ρ 3 = .ptr Pid 0) (h6 : ρ 6 = .ptr x 0) (hP : M.mem Pid = some (.cells tM [sl, live])) (hPl : lo ≤ Pid) (hl1 : live.one = true)
    (hsl : SLp tP M.mem sl ptrs) (hne : aidOf sl ≠ some Pid) (hal : ∀ q, aidOf sl = some q → lo ≤ q) (hlen : ptrs.length ≤ 1000000)
    (hk : ∀ ρ' a' c', SimS lo ⟨rg ρ', ⟨N + 2, appMem tM tP M.mem N Pid x sl ptrs live⟩⟩ a' c' → AftL lo M c ⟨N + 2, appMem tM tP M.mem N Pid x sl ptrs live⟩ c' → ρ' 3 = ρ 3 → ρ' 19 = ρ 19 → ρ' 20 = ρ 20 → ρ' 21 = ρ 21 → Q .normal a' c'.w) :
    (Code.region S.i12 #[S.o12_0, S.o12_1, S.o12_2, S.o12_3, S.o12_4, S.o12_5, S.o12_6, S.o12_7, S.o12_8, S.o12_9] false).wp P Q a c.w := by
  subst hn
  have hPn : Pid < M.nx := hS.sim.nx _ (hS.sim.dom _ (by rw [hP]; simp))
  have han : ∀ q, aidOf sl = some q → q < M.nx := fun q hq => by
    rcases hsl with ⟨rfl, _⟩ | ⟨aid, rfl, hm⟩
    · cases hq
    · injection hq with hq; subst hq; exact hS.sim.nx _ (hS.sim.dom _ (by rw [hm]; simp))
  refine wp_region_list ?_
  refine seqN S.c12_0 hS hlo (v := .ptr Pid 0) (M' := M) (by simp [istep, ev_rg, h3]) fun a1 c1 hS1 ha1 => ?_
  refine seqN S.c12_1 hS1 hlo (v := .ptr Pid 0) (M' := M) (by simp [istep, ev_rg, sO, h3]) fun a2 c2 hS2 ha2 => ?_
  refine seqN S.c12_2 hS2 hlo (v := .ptr Pid 0) (M' := M) (by simp [istep, ev_rg, sO]) fun a3 c3 hS3 ha3 => ?_
  refine seqN S.c12_3 hS3 hlo (v := .ptr Pid 0) (M' := M) (by simp [istep, ev_rg, sO]) fun a4 c4 hS4 ha4 => ?_
  refine seqN S.c12_4 hS4 hlo (v := sl) (M' := M) (by simp [istep, ev_rg, sO, look_ok (ok_top.2 hPn), hP]) fun a5 c5 hS5 ha5 => ?_
  refine seqN S.c12_5 hS5 hlo (v := .os M.nx 0 1 1) (M' := M.alloc M.nx (.cells tP [.ptr x 0])) (by
    simp only [istep, List.map_cons, List.map_nil, ev_rg _ (show 6 < 57 by decide)]
    simp [sO, h6, fill, AV.cells, setAt]) fun a6 c6 hS6 ha6 => ?_
  have hx6 : (M.alloc M.nx (.cells tP [.ptr x 0])).nx = M.nx + 1 := by simp only [MM.alloc]; omega
  have hm6 : (M.alloc M.nx (.cells tP [.ptr x 0])).mem M.nx = some (.cells tP [.ptr x 0]) := upd_same _ _ _
  have ho6 : ∀ id, id ≠ M.nx → (M.alloc M.nx (.cells tP [.ptr x 0])).mem id = M.mem id := fun id h => upd_ne _ _ _ _ h
  generalize M.alloc M.nx (.cells tP [.ptr x 0]) = M6 at hS6 ha6 hx6 hm6 ho6 ⊢
  let M7 : MM := ⟨M.nx + 2, fun id => if id = M.nx + 1 then some (.cells tP (ptrs ++ [.ptr x 0])) else if aidOf sl = some id then none else M6.mem id⟩
  refine seqN S.c12_6 hS6 (by omega) (v := .os (M.nx + 1) 0 (ptrs.length + 1) 1) (M' := M7) ?_ fun a7 c7 hS7 ha7 => ?_
  · have hsc : sliceCells M6.mem (.top M6.nx) 1 (.os M.nx 0 1 1) = some (1, [.ptr x 0]) := by
      simp [sliceCells, look_ok (ok_top.2 (show M.nx < M6.nx by omega)), hm6]
    have r50 : ∀ (v : AV), sO (sO (sO (sO (sO (sO ρ (some 46) (.ptr Pid 0)) (some 47) (.ptr Pid 0)) (some 48) (.ptr Pid 0)) (some 49) (.ptr Pid 0)) (some 50) sl) (some 51) v 50 = sl := fun v => by simp [sO]
    have r51 : ∀ (v : AV), sO (sO (sO (sO (sO (sO ρ (some 46) (.ptr Pid 0)) (some 47) (.ptr Pid 0)) (some 48) (.ptr Pid 0)) (some 49) (.ptr Pid 0)) (some 50) sl) (some 51) v 51 = v := fun v => by simp [sO]
    simp only [istep, ev_rg _ (show 50 < 57 by decide), ev_rg _ (show 51 < 57 by decide), r50, r51, hsc]
    rcases hsl with ⟨rfl, rfl⟩ | ⟨aid, rfl, hm⟩
    · show (if [AV.ptr x 0].all AV.one = true then (if 1 = 0 then _ else if 1 * 8 ≤ 140737488355328 ∧ 1 ≤ 9223372036854775807 ∧ [AV.nil].length = 1 then some (AV.os M6.nx 0 1 1, M6.alloc M6.nx (.cells tP [.ptr x 0])) else none) else none) = _
      rw [if_pos (show [AV.ptr x 0].all AV.one = true from rfl), if_neg (show ¬ (1 = 0) by decide), if_pos ⟨by decide, by decide, rfl⟩, hx6]
      have e : M6.alloc (M.nx + 1) (.cells tP [.ptr x 0]) = M7 := by
        show (⟨max M6.nx (M.nx + 1 + 1), _⟩ : MM) = ⟨M.nx + 2, _⟩
        rw [hx6, show max (M.nx + 1) (M.nx + 1 + 1) = M.nx + 2 by omega]
        congr 1
      rw [e]; rfl
    · have haid : aid < M6.nx := by have := han aid rfl; omega
      have hm' : M6.mem aid = some (.cells tP ptrs) := by rw [ho6 aid (by have := han aid rfl; omega)]; exact hm
      have hlo' := hal aid rfl
      show (if [AV.ptr x 0].all AV.one = true then (match look M6.mem (.top M6.nx) aid with
        | some (.cells t' cs) => if lo ≤ aid ∧ t' = tP ∧ 1 = 1 ∧ ptrs.length * 1 ≤ cs.length ∧ (ptrs.length + 1) * 8 ≤ 140737488355328 ∧ ptrs.length + 1 ≤ 9223372036854775807 ∧ [AV.nil].length = 1 then
            some (AV.os M6.nx 0 (ptrs.length + 1) 1, ({ nx := max M6.nx (M6.nx + 1), mem := upd (upd M6.mem aid none) M6.nx (some (.cells tP (cs.take (ptrs.length * 1) ++ [.ptr x 0]))) } : MM))
          else none
        | _ => none) else none) = _
      rw [if_pos (show [AV.ptr x 0].all AV.one = true from rfl), look_ok (ok_top.2 haid), hm']
      show (if _ then _ else _) = _
      rw [if_pos ⟨hlo', rfl, rfl, by omega, by omega, by omega, rfl⟩, hx6, List.take_of_length_le (by omega)]
      have e : (⟨max (M.nx + 1) (M.nx + 1 + 1), upd (upd M6.mem aid none) (M.nx + 1) (some (.cells tP (ptrs ++ [.ptr x 0])))⟩ : MM) = M7 := by
        rw [show max (M.nx + 1) (M.nx + 1 + 1) = M.nx + 2 by omega]
        show (⟨M.nx + 2, _⟩ : MM) = ⟨M.nx + 2, _⟩
        congr 1
        funext id
        by_cases e : id = M.nx + 1
        · subst e; rw [upd_same]; simp
        · rw [upd_ne _ _ _ _ e, if_neg e]
          by_cases e2 : id = aid
          · subst e2; rw [upd_same]; simp [aidOf]
          · rw [upd_ne _ _ _ _ e2, if_neg (by simp [aidOf]; exact fun h => e2 h.symm)]
      rw [e]
  have hx7 : M7.nx = M.nx + 2 := rfl
  have hP7 : M7.mem Pid = some (.cells tM [sl, live]) := by
    show (if Pid = M.nx + 1 then _ else if aidOf sl = some Pid then _ else _) = _
    rw [if_neg (by omega), if_neg hne, ho6 Pid (by omega)]; exact hP
  refine seqN S.c12_7 hS7 (by omega) (v := .ptr Pid 0) (M' := M7) (by simp [istep, ev_rg, sO, h3]) fun a8 c8 hS8 ha8 => ?_
  refine seqN S.c12_8 hS8 (by omega) (v := .ptr Pid 0) (M' := M7) (by simp [istep, ev_rg, sO]) fun a9 c9 hS9 ha9 => ?_
  have em : M7.put Pid (.cells tM [.os (M.nx + 1) 0 (ptrs.length + 1) 1, live]) = ⟨M.nx + 2, appMem tM tP M.mem M.nx Pid x sl ptrs live⟩ := by
    show (⟨M.nx + 2, _⟩ : MM) = ⟨M.nx + 2, _⟩
    congr 1
    funext id
    show upd M7.mem Pid _ id = _
    simp only [appMem]
    by_cases e : id = Pid
    · subst e; rw [upd_same, if_pos rfl]
    · rw [upd_ne _ _ _ _ e, if_neg e]
      show (if id = M.nx + 1 then _ else if aidOf sl = some id then _ else M6.mem id) = _
      by_cases e1 : id = M.nx + 1
      · rw [if_pos e1, if_pos e1]
      · rw [if_neg e1, if_neg e1]
        by_cases e2 : id = M.nx
        · subst e2
          rw [if_neg (fun h => Nat.lt_irrefl _ (han _ h)), hm6, if_pos rfl]
        · rw [if_neg e2, ho6 id e2]
  refine seqN S.c12_9 hS9 (by omega) (v := .undef) (M' := ⟨M.nx + 2, appMem tM tP M.mem M.nx Pid x sl ptrs live⟩) ?_ fun a10 c10 hS10 ha10 => ?_
  · rw [← em]
    simp only [istep, ev_rg _ (show 54 < 57 by decide), ev_rg _ (show 52 < 57 by decide)]
    simp only [sO, if_true, Nat.reduceEqDiff, if_false, look_ok (ok_top.2 (show Pid < M7.nx by omega)), hP7, AV.cells]
    rw [if_pos ⟨hPl, rfl, by simp, rfl⟩]
    rfl
  exact hk _ a10 c10 hS10 (ha1.trans (ha2.trans (ha3.trans (ha4.trans (ha5.trans (ha6.trans (ha7.trans (ha8.trans (ha9.trans ha10))))))))) (by simp [sO]) (by simp [sO]) (by simp [sO]) (by simp [sO])
end
end Go.Proofs.Ytegkhdflmboljaa.Sx

namespace Go.Proofs.Ytegkhdflmboljaa.Sx
open Go
set_option linter.unusedSimpArgs false
set_option linter.unusedVariables false
set_option maxRecDepth 100000
set_option maxHeartbeats 2000000

/-- An object to be copied. -/
structure OX where
  oid : Nat
  al : AV
  sz : AV
  co : AV
  re : AV
  mpv : AV
  es : List (Value × AV)
def preMem (tO : TypeId) (m : Mem) (n : Nat) (o : OX) : Mem := fun id =>
  if id = n then some (.cells tO [o.al, o.sz, o.co, o.re, .mp (n + 1)]) else if id = n + 1 then some (.map (.int .i64) []) else m id
/-- What is known while objects are copied: memory, the slice of the copies. -/
structure CpS where
  M : MM
  sl : AV
  ptrs : List AV
def cstep (tM tO tP : TypeId) (lo Pid : Nat) (live : AV) (s : CpS) (o : OX) : CpS :=
  { M := ⟨s.M.nx + 3 + lo + 2, appMem tM tP (midMem (preMem tO s.M.mem s.M.nx o) s.M.nx (s.M.nx + 3) o.es) (s.M.nx + 3 + lo) Pid s.M.nx s.sl s.ptrs live⟩,
    sl := .os (s.M.nx + 3 + lo + 1) 0 (s.ptrs.length + 1) 1, ptrs := s.ptrs ++ [.ptr s.M.nx 0] }

section
variable {P : Program} {f : FuncId} {tM tO tC tP tMap tK tE : TypeId}
/-- What holds of it. -/
structure CSI (tM tP : TypeId) (lo Pid : Nat) (live : AV) (M0 : MM) (s : CpS) (i : Nat) : Prop where
  n : lo ≤ s.M.nx
  old : OldM lo M0 s.M
  P : s.M.mem Pid = some (.cells tM [s.sl, live])
  Pl : lo ≤ Pid
  Pn : Pid < s.M.nx
  sl : SLp tP s.M.mem s.sl s.ptrs
  ne : aidOf s.sl ≠ some Pid
  al : ∀ q, aidOf s.sl = some q → lo ≤ q ∧ q < s.M.nx
  len : s.ptrs.length = i
theorem CSI.step {lo Pid : Nat} {live : AV} {M0 : MM} {s : CpS} {i : Nat} (h : CSI tM tP lo Pid live M0 s i) (o : OX) (hes : ∀ q ∈ o.es, cidOf (some q.2) < lo) : CSI tM tP lo Pid live M0 (cstep tM tO tP lo Pid live s o) (i + 1) := by
  have hn := h.n
  have hPn := h.Pn
  have hPl := h.Pl
  refine ⟨by simp only [cstep]; omega, fun id hid => ?_, by simp [cstep, appMem], h.Pl, by simp only [cstep]; omega, ?_, ?_, fun q hq => ?_, by simp [cstep, h.len]⟩
  · rw [← h.old id hid]
    show appMem _ _ _ _ _ _ _ _ _ id = _
    simp only [appMem]
    rw [if_neg (by omega), if_neg (by omega), if_neg (by omega), if_neg (fun e => by have := (h.al id e).1; omega)]
    simp only [midMem]
    rw [if_neg (by omega), if_neg]
    · simp only [preMem]
      rw [if_neg (by omega), if_neg (by omega)]
    · rw [List.any_eq_true]
      rintro ⟨q, _, hq⟩
      have : id = s.M.nx + 3 + cidOf (some q.2) := by simpa using hq
      omega
  · refine .inr ⟨s.M.nx + 3 + lo + 1, by simp [cstep], ?_⟩
    show appMem _ _ _ _ _ _ _ _ _ _ = _
    simp only [appMem]
    rw [if_neg (by omega), if_pos trivial]
    rfl
  · simp only [cstep, aidOf]; intro e; injection e with e; omega
  · simp only [cstep, aidOf] at hq; injection hq with hq; subst hq
    simp only [cstep]; omega
end
end Go.Proofs.Ytegkhdflmboljaa.Sx

namespace Go.Proofs.Ytegkhdflmboljaa.Sx
open Go
set_option linter.unusedSimpArgs false
set_option linter.unusedVariables false
set_option maxRecDepth 100000
set_option maxHeartbeats 2000000
section
variable {P : Program} {f : FuncId} {tM tO tC tP tMap tK tE : TypeId}
def CSh.outB (S : CSh P f tM tO tC tP tMap tK tE) : Code :=
  .seq (.region S.i3 #[S.o3_0] false) (.seq (.cond (.tmp 22) .skip (.exit 0)) (.seq (.block 1 (.seq (.region S.i4 #[S.o4_0, S.o4_1, S.o4_2] false) (.seq (.region S.i5 #[S.o5_0, S.o5_1, S.o5_2, S.o5_3, S.o5_4] false) (.seq (.region S.i6 #[S.o6_0, S.o6_1, S.o6_2] false)
    (.seq (.seq (.region S.i7 #[S.o7_0, S.o7_1, S.o7_2, S.o7_3, S.o7_4] false) (.block 2 (.loop S.inB)))
      (.region S.i12 #[S.o12_0, S.o12_1, S.o12_2, S.o12_3, S.o12_4, S.o12_5, S.o12_6, S.o12_7, S.o12_8, S.o12_9] false)))))) (.region S.i13 #[S.o13_0, S.o13_1] false)))

theorem objLoop (S : CSh P f tM tO tC tP tMap tK tE) {lo Pid sid : Nat} {c0 : Cx} {M0 : MM} {live : AV} {scs : List AV} {tS : TypeId} {os : List OX} {s0 : CpS} (hS0 : Sim lo M0 c0) (hl0 : lo = M0.nx) (hW : ∀ b, ¬ c0.W b) (hlive : live.one = true)
    (hos : ∀ j (h : j < os.length), scs[j]? = some (.ptr (os[j]).oid 0) ∧ OOK tO tC M0 lo (os[j]).oid (os[j]).al (os[j]).sz (os[j]).co (os[j]).re (os[j]).mpv (os[j]).es) (hsid : sid < lo) (hsc : M0.mem sid = some (.cells tS scs)) (hlen : os.length ≤ 1000000)
    {Q : Exit → Act → World → Prop} (hQ : ∀ ρ a c s, SimS lo ⟨rg ρ, s.M⟩ a c → XI lo c0 c → s = os.foldl (cstep tM tO tP lo Pid live) s0 → ρ 3 = .ptr Pid 0 → Q (.exit 0) a c.w) :
    ∀ (rest : List OX) (i : Nat) (s : CpS) (ρ : Nat → AV) (a : Act) (c : Cx), os.drop i = rest → i + rest.length = os.length → s = (os.take i).foldl (cstep tM tO tP lo Pid live) s0 → CSI tM tP lo Pid live M0 s i → SimS lo ⟨rg ρ, s.M⟩ a c → XI lo c0 c →
      ρ 3 = .ptr Pid 0 → ρ 19 = .os sid 0 os.length 1 → ρ 20 = .i os.length → ρ 21 = .i i → Code.rounds P S.outB Q (rest.length + 1) a c.w := by
  intro rest
  induction rest with
  | nil =>
    intro i s ρ a c hd hi hs hI hS hE h3 h19 h20 h21
    simp only [List.length_nil, Nat.add_zero] at hi
    subst hi
    rw [rounds_succ]
    refine wp_seq (wp_region_list ?_)
    refine seqN S.c3_0 hS hI.n (v := .bool false) (M' := s.M) (by simp [istep, ev_rg, h20, h21, binA, ibin]) fun a1 c1 hS1 ha1 => ?_
    refine wp_seq (wp_cond (t := false) ?_ (wp_exit ?_))
    · have := eval_rg hS1.fr (show 22 < 57 by decide)
      exact this.bool_inv
    · exact hQ _ a1 c1 s hS1 (hE.trans ha1.ext) (by rw [hs, List.take_length]) (by simp [sO, h3])
  | cons o rest ih =>
    intro i s ρ a c hd hi hs hI hS hE h3 h19 h20 h21
    simp only [List.length_cons] at hi
    have hil : i < os.length := by omega
    have ho : os[i] = o := by
      have := List.drop_eq_getElem_cons hil
      rw [hd] at this; exact (List.cons.inj this).1.symm
    obtain ⟨p1, p2⟩ := hos i hil
    rw [ho] at p1 p2
    rw [rounds_succ]
    refine wp_seq (wp_region_list ?_)
    refine seqN S.c3_0 hS hI.n (v := .bool true) (M' := s.M) (by simp [istep, ev_rg, h20, h21, binA, ibin, hil]) fun a1 c1 hS1 ha1 => ?_
    refine wp_seq (wp_cond (t := true) ?_ (wp_skip (wp_seq (wp_block ?_))))
    · have := eval_rg hS1.fr (show 22 < 57 by decide)
      exact this.bool_inv
    refine objPre S (c0 := c0) (Pid := Pid) (oid := o.oid) hS1 rfl hI.n p2 hI.old (by simp [sO, h19]) (by simp [sO, h21]) hil hsid hsc p1 (by simp [sO, h3]) fun ρ2 a2 c2 M2 hS2 ha2 k6 k5 k3 k19 k20 k21 kn kx ky ko => ?_
    have hM2 : M2.mem = preMem tO s.M.mem s.M.nx o := by
      funext id
      simp only [preMem]
      by_cases e1 : id = s.M.nx
      · rw [if_pos e1, e1, kx]
      · rw [if_neg e1]
        by_cases e2 : id = s.M.nx + 1
        · rw [if_pos e2, e2, ky]
        · rw [if_neg e2, ko id e1 e2]
    have hold2 : OldM lo M0 M2 := fun id hid => by rw [ko id (by have := hI.n; omega) (by have := hI.n; omega)]; exact hI.old id hid
    refine objMid S hS0 hl0 hW (hE.trans (ha1.ext.trans ha2.ext)) hS2 kn hI.n p2 hold2 k5 k6 kx ky fun ρ3 a3 c3 hS3 hE3 m6 m3 m19 m20 m21 => ?_
    have hn := hI.n
    have hPn := hI.Pn
    have hmm : ∀ id, id < s.M.nx → midMem M2.mem s.M.nx (s.M.nx + 3) o.es id = s.M.mem id := fun id hid => by
      simp only [midMem]
      rw [if_neg (by omega), if_neg]
      · exact ko id (by omega) (by omega)
      · rw [List.any_eq_true]
        rintro ⟨q, _, hq⟩
        have : id = s.M.nx + 3 + cidOf (some q.2) := by simpa using hq
        omega
    refine objApp S (N := s.M.nx + 3 + lo) (Pid := Pid) (x := s.M.nx) (sl := s.sl) (live := live) (ptrs := s.ptrs) hS3 rfl (by omega) (by rw [m3, k3]) m6 ((hmm Pid hPn).trans hI.P) hI.Pl hlive ?_ hI.ne (fun q hq => (hI.al q hq).1) (by rw [hI.len]; omega) fun ρ4 a4 c4 hS4 ha4 n3 n19 n20 n21 => ?_
    · rcases hI.sl with h | ⟨aid, h1, h2⟩
      · exact .inl h
      · refine .inr ⟨aid, h1, ?_⟩
        show midMem M2.mem s.M.nx (s.M.nx + 3) o.es aid = _
        rw [hmm aid (hI.al aid (by rw [h1]; rfl)).2]; exact h2
    have hS4' : SimS lo ⟨rg ρ4, (cstep tM tO tP lo Pid live s o).M⟩ a4 c4 := by
      have e : midMem M2.mem s.M.nx (s.M.nx + 3) o.es = midMem (preMem tO s.M.mem s.M.nx o) s.M.nx (s.M.nx + 3) o.es := by rw [hM2]
      have : (cstep tM tO tP lo Pid live s o).M = ⟨s.M.nx + 3 + lo + 2, appMem tM tP (midMem M2.mem s.M.nx (s.M.nx + 3) o.es) (s.M.nx + 3 + lo) Pid s.M.nx s.sl s.ptrs live⟩ := by rw [e]; rfl
      rw [this]; exact hS4
    have hI' : CSI tM tP lo Pid live M0 (cstep tM tO tP lo Pid live s o) (i + 1) := hI.step o fun q hq => by
      rcases p2.mp with ⟨_, he⟩ | ⟨mid, _, _, _, hent, _⟩
      · rw [he] at hq; simp at hq
      · obtain ⟨cid, ccs, q1, _, _, _, q5⟩ := hent q hq
        rw [q1]; exact q5
    refine wp_region_list ?_
    have hlo' := hI'.n
    refine seqN S.c13_0 hS4' hlo' (v := .i (i + 1 : Nat)) (M' := (cstep tM tO tP lo Pid live s o).M) ?_ fun a5 c5 hS5 ha5 => ?_
    · have e21 : ρ4 21 = .i i := by rw [n21, m21, k21]; simp [sO, h21]
      have eg : ev (rg ρ4) (.t 21) = .i i := (ev_rg _ (by decide)).trans e21
      simp only [istep, eg]
      show (binA .add .none (.i i) (.i 1)).map _ = _
      rw [binA_add, IntWalk.i64_in _ ⟨by omega, by omega⟩]
      rfl
    refine seqN S.c13_1 hS5 hlo' (v := .i (i + 1 : Nat)) (M' := (cstep tM tO tP lo Pid live s o).M) (by simp [istep, ev_rg, sO]) fun a6 c6 hS6 ha6 => ?_
    refine ih (i + 1) (cstep tM tO tP lo Pid live s o) _ a6 c6 ?_ (by omega) ?_ hI' hS6 (hE3.trans (ha4.ext.trans (ha5.ext.trans ha6.ext))) ?_ ?_ ?_ ?_
    · have := List.drop_eq_getElem_cons hil
      rw [hd] at this; exact (List.cons.inj this).2.symm
    · rw [List.take_add_one, List.getElem?_eq_getElem hil, ho, hs, Option.toList_some, List.foldl_append]; rfl
    · simp [sO, n3, m3, k3]
    · simp only [sO, Nat.reduceEqDiff, if_false]; rw [n19, m19, k19]; simp [sO, h19]
    · simp only [sO, Nat.reduceEqDiff, if_false]; rw [n20, m20, k20]; simp [sO, h20]
    · simp [sO]
end
end Go.Proofs.Ytegkhdflmboljaa.Sx

namespace Go.Proofs.Ytegkhdflmboljaa.Sx
open Go
set_option linter.unusedSimpArgs false
set_option linter.unusedVariables false
set_option maxRecDepth 100000
set_option maxHeartbeats 2000000
section
variable {P : Program} {f : FuncId} {tM tO tC tP tMap tK tE : TypeId}
def Cx.shut (c : Cx) : Cx := { c with W := fun _ => False }
theorem Ext.shut (c : Cx) : Ext c c.shut := ⟨fun _ h => h, fun _ _ => rfl, fun _ _ => rfl, Nat.le_refl _, fun _ _ => Iff.rfl, fun _ _ h => h.elim, fun _ _ _ => rfl, fun _ h => .inl h, fun _ _ h => h, fun _ _ _ _ => rfl, fun _ _ h => .inl h, rfl, rfl, rfl⟩
theorem Sim.shut {lo : Nat} {M : MM} {c : Cx} (hS : Sim lo M c) : Sim M.nx M c.shut :=
  ⟨hS.dom, hS.nx, hS.lt, hS.live, fun id h hl => absurd (hS.nx id (hS.dom id h)) (by omega), fun _ h => h.elim, hS.Llt, hS.inj, fun id B hB => BRel.ext hS.WL (Ext.shut c) (hS.dom id (by rw [hB]; simp)) rfl (fun _ h => h) (hS.blk id B hB), hS.flt, hS.frz⟩
def Cx.reopen (c c' : Cx) : Cx := { c' with W := fun b => c.W b ∨ c'.W b }
theorem Ext.reopen {c c' : Cx} (h : Ext c.shut c') : Ext c (c.reopen c') :=
  ⟨h.S, h.blk, h.tot, h.size, h.L, fun b hb hw => hw.elim id fun hw => (h.W b hb hw).elim, fun b hb _ => h.keep b hb (fun h => h), fun id hs => by
    rcases h.new id hs with h | h | h
    · exact .inl h
    · exact .inr (.inl h)
    · exact h.elim, h.F, h.keepF, fun b o hf => by
    rcases h.newF b o hf with h | h | h
    · exact .inl h
    · exact .inr (.inl h)
    · exact h.elim, h.os, h.tape, h.output⟩
theorem Rel.reopen {c c' : Cx} {x : AV} {v : Value} (r : Rel c' x v) : Rel (c.reopen c') x v := by
  have kd : ∀ {d : D} {v : Value}, DR c'.O c'.w d v → DR (c.reopen c').O (c.reopen c').w d v := fun hd => hd
  induction r with
  | d x v hd => exact .d x v (kd hd)
  | ptr id off hs => exact Rel.ptr (c := c.reopen c') id off hs
  | ip ad cells f hs hb hL hc hr => exact .ip (c := c.reopen c') ad cells f hs hb hL hc hr
  | os id off len sz k hs hk hl => exact Rel.os (c := c.reopen c') id off len sz k hs hk hl
  | ov id cells n sz k f hs hb hF hk hl hn hc hr => exact Rel.ov (c := c.reopen c') id cells n sz k f hs hb hF hk hl hn hc hr
  | mp id hs => exact Rel.mp (c := c.reopen c') id hs
  | fn f xs ys us vs h1 h2 r1 r2 i1 i2 => exact .fn f xs ys us vs h1 h2 i1 i2
  | agg xs us h1 r1 i1 => exact .agg xs us h1 i1
  | tup xs us h1 r1 i1 => exact .tup xs us h1 i1
theorem Sim.reopen {lo : Nat} {M M' : MM} {c c' : Cx} (hS : Sim lo M c) (hS' : Sim M.nx M' c') (hE : Ext c.shut c') (hold : OldM M.nx M M') : Sim lo M' (c.reopen c') where
  dom := hS'.dom
  nx := hS'.nx
  lt := hS'.lt
  live := hS'.live
  wlive id h hl := by
    by_cases e : id < M.nx
    · have hm : M.mem id ≠ none := by rw [← hold id e]; exact h
      exact .inl (by have := hS.wlive id hm hl; have e2 := hE.blk id (hS.dom id hm); show c.W (c'.E.blk id); rw [e2]; exact this)
    · exact .inr (hS'.wlive id h (by omega))
  WL b hw := hw.elim (fun h => (hE.L b (hS.Llt b (hS.WL b h))).2 (hS.WL b h)) (hS'.WL b)
  Llt := hS'.Llt
  inj := hS'.inj
  blk id B hB := by
    have r := hS'.blk id B hB
    cases B with
    | cells t cs => obtain ⟨vs, h1, h2, h3, h4⟩ := r; exact ⟨vs, h1, h2, h3, fun j hj hj' => (h4 j hj hj').reopen⟩
    | map kk es =>
      obtain ⟨ces, clock, h1, m1, m2, es', p1, h2, h3⟩ := r
      exact ⟨ces, clock, h1, m1, m2, es', p1, h2, fun j hj hj' => ⟨(h3 j hj hj').1, (h3 j hj hj').2.1, (h3 j hj hj').2.2.reopen⟩⟩
    | siter s pos => exact r
    | tok t u => exact r
  flt := hS'.flt
  frz := hS'.frz
end
end Go.Proofs.Ytegkhdflmboljaa.Sx

namespace Go.Proofs.Ytegkhdflmboljaa.Sx
open Go
set_option linter.unusedSimpArgs false
set_option linter.unusedVariables false
set_option maxRecDepth 100000
set_option maxHeartbeats 2000000
/-- A memory that can be copied. -/
structure CArg (tO tC : TypeId) (M0 : MM) (p : Nat) (sl live : AV) (os : List OX) : Prop where
  root : ∃ t, M0.mem p = some (.cells t [sl, live])
  one : live.cells = [live] ∧ live.one = true
  len : os.length ≤ 1000000
  sl : (sl = .nilsl ∧ os = []) ∨ ∃ sid tS scs, sl = .os sid 0 os.length 1 ∧ sid < M0.nx ∧ M0.mem sid = some (.cells tS scs) ∧
    ∀ j (h : j < os.length), scs[j]? = some (.ptr (os[j]).oid 0) ∧ OOK tO tC M0 M0.nx (os[j]).oid (os[j]).al (os[j]).sz (os[j]).co (os[j]).re (os[j]).mpv (os[j]).es
def cst0 (tM : TypeId) (M0 : MM) (live : AV) : CpS := { M := M0.alloc M0.nx (.cells tM [.nilsl, live]), sl := .nilsl, ptrs := [] }
def cres (tM tO tP : TypeId) (M0 : MM) (live : AV) (os : List OX) : CpS := os.foldl (cstep tM tO tP M0.nx M0.nx live) (cst0 tM M0 live)
theorem cst0_ok (tM tP : TypeId) (M0 : MM) (live : AV) : CSI tM tP M0.nx M0.nx live M0 (cst0 tM M0 live) 0 where
  n := Nat.le_max_left _ _
  old id h := upd_ne _ _ _ _ (by omega)
  P := upd_same _ _ _
  Pl := Nat.le_refl _
  Pn := Nat.lt_of_lt_of_le (Nat.lt_succ_self _) (Nat.le_max_right _ _)
  sl := .inl ⟨rfl, rfl⟩
  ne e := by cases e
  al q hq := by cases hq
  len := rfl
theorem CSI.all {tM tO tC tP : TypeId} {M0 : MM} {live : AV} {lo Pid : Nat} : ∀ (os : List OX) (s : CpS) (i : Nat), CSI tM tP lo Pid live M0 s i → (∀ o ∈ os, ∀ q ∈ o.es, cidOf (some q.2) < lo) → CSI tM tP lo Pid live M0 (os.foldl (cstep tM tO tP lo Pid live) s) (i + os.length)
  | [], s, i, h, _ => h
  | o :: os, s, i, h, hes => by
    have := CSI.all (tO := tO) (tC := tC) os _ (i + 1) (h.step (tO := tO) o (hes o (by simp))) fun o' ho' => hes o' (by simp [ho'])
    rw [List.foldl_cons, List.length_cons, show i + (os.length + 1) = i + 1 + os.length by omega]
    exact this
theorem OOK.low {tO tC : TypeId} {M : MM} {lo oid : Nat} {al sz co re mpv : AV} {es : List (Value × AV)} (h : OOK tO tC M lo oid al sz co re mpv es) : ∀ q ∈ es, cidOf (some q.2) < lo := by
  intro q hq
  rcases h.mp with ⟨_, he⟩ | ⟨mid, _, _, _, hent, _⟩
  · rw [he] at hq; simp at hq
  · obtain ⟨cid, ccs, q1, _, _, _, q5⟩ := hent q hq
    rw [q1]; exact q5
theorem CArg.low {tO tC : TypeId} {M0 : MM} {p : Nat} {sl live : AV} {os : List OX} (h : CArg tO tC M0 p sl live os) : ∀ o ∈ os, ∀ q ∈ o.es, cidOf (some q.2) < M0.nx := by
  intro o ho
  rcases h.sl with ⟨_, he⟩ | ⟨sid, tS, scs, _, _, _, h4⟩
  · rw [he] at ho; simp at ho
  · obtain ⟨j, hj, rfl⟩ := List.getElem_of_mem ho
    exact (h4 j hj).2.low
theorem CArg.csi {tM tO tC tP : TypeId} {M0 : MM} {p : Nat} {sl live : AV} {os : List OX} (h : CArg tO tC M0 p sl live os) : CSI tM tP M0.nx M0.nx live M0 (cres tM tO tP M0 live os) os.length := by
  have := CSI.all (tO := tO) (tC := tC) os _ 0 (cst0_ok tM tP M0 live) h.low
  rwa [Nat.zero_add] at this
theorem OX.ext' {a b : OX} (h1 : a.oid = b.oid) (h2 : a.al = b.al) (h3 : a.sz = b.sz) (h4 : a.co = b.co) (h5 : a.re = b.re) (h6 : a.mpv = b.mpv) (h7 : a.es = b.es) : a = b := by
  cases a; cases b; simp only at h1 h2 h3 h4 h5 h6 h7; subst h1 h2 h3 h4 h5 h6 h7; rfl
theorem OOK.uniq {tO tC : TypeId} {M M' : MM} (hM : ∀ id, M.mem id ≠ none → M'.mem id = M.mem id) {lo lo' : Nat} {a b : OX} (h1 : a.oid = b.oid) (h : OOK tO tC M lo a.oid a.al a.sz a.co a.re a.mpv a.es) (h' : OOK tO tC M' lo' b.oid b.al b.sz b.co b.re b.mpv b.es) : a = b := by
  have e := h'.mem
  rw [← h1, hM _ (by rw [h.mem]; simp), h.mem] at e
  simp only [Option.some.injEq, Blk.cells.injEq, List.cons.injEq, and_true, true_and] at e
  obtain ⟨e1, e2, e3, e4, e5⟩ := e
  refine OX.ext' h1 e1 e2 e3 e4 e5 ?_
  rcases h.mp with ⟨m1, m2⟩ | ⟨mid, m1, m2, m3, m4⟩ <;> rcases h'.mp with ⟨n1, n2⟩ | ⟨nid, n1, n2, n3, n4⟩
  · rw [m2, n2]
  · rw [m1, n1] at e5; cases e5
  · rw [m1, n1] at e5; cases e5
  · rw [m1, n1] at e5
    injection e5 with e5; subst e5
    rw [hM _ (by rw [m3]; simp), m3] at n3
    injection n3 with n3; injection n3
theorem CArg.uniq {tO tC : TypeId} {M M' : MM} (hM : ∀ id, M.mem id ≠ none → M'.mem id = M.mem id) {p : Nat} {sl live sl' live' : AV} {os os' : List OX} (h : CArg tO tC M p sl live os) (h' : CArg tO tC M' p sl' live' os') : sl = sl' ∧ live = live' ∧ os = os' := by
  obtain ⟨t, r⟩ := h.root
  obtain ⟨t', r'⟩ := h'.root
  rw [hM _ (by rw [r]; simp), r] at r'
  simp only [Option.some.injEq, Blk.cells.injEq, List.cons.injEq, and_true] at r'
  obtain ⟨-, e1, e2⟩ := r'
  refine ⟨e1, e2, ?_⟩
  rcases h.sl with ⟨m1, m2⟩ | ⟨sid, tS, scs, m1, m2, m3, m4⟩ <;> rcases h'.sl with ⟨n1, n2⟩ | ⟨sid', tS', scs', n1, n2, n3, n4⟩
  · rw [m2, n2]
  · rw [← e1, m1] at n1; cases n1
  · rw [← e1, m1] at n1; cases n1
  · rw [← e1, m1] at n1
    injection n1 with k1 k2 k3 k4
    subst k1
    rw [hM _ (by rw [m3]; simp), m3] at n3
    simp only [Option.some.injEq, Blk.cells.injEq] at n3
    obtain ⟨-, k5⟩ := n3
    subst k5
    refine List.ext_getElem k3 fun j hj hj' => ?_
    obtain ⟨p1, p2⟩ := m4 j hj
    obtain ⟨q1, q2⟩ := n4 j hj'
    rw [p1] at q1
    simp only [Option.some.injEq, AV.ptr.injEq, and_true] at q1
    exact OOK.uniq hM q1 p2 q2
theorem OOK.more {tO tC : TypeId} {M M' : MM} (hM : ∀ id, M.mem id ≠ none → M'.mem id = M.mem id) {lo oid : Nat} {al sz co re mpv : AV} {es : List (Value × AV)} (h : OOK tO tC M lo oid al sz co re mpv es) : OOK tO tC M' lo oid al sz co re mpv es where
  mem := by rw [hM _ (by rw [h.mem]; simp)]; exact h.mem
  lt := h.lt
  one := h.one
  mp := by
    rcases h.mp with m | ⟨mid, m1, m2, m3, m4, m5⟩
    · exact .inl m
    · refine .inr ⟨mid, m1, m2, by rw [hM _ (by rw [m3]; simp)]; exact m3, fun q hq => ?_, m5⟩
      obtain ⟨cid, ccs, q1, q2, q3, q4, q5⟩ := m4 q hq
      exact ⟨cid, ccs, q1, by rw [hM _ (by rw [q2]; simp)]; exact q2, q3, q4, q5⟩
theorem CArg.more {tO tC : TypeId} {M M' : MM} (hM : ∀ id, M.mem id ≠ none → M'.mem id = M.mem id) (hn : M'.nx = M.nx) {p : Nat} {sl live : AV} {os : List OX} (h : CArg tO tC M p sl live os) : CArg tO tC M' p sl live os where
  root := by obtain ⟨t, r⟩ := h.root; exact ⟨t, by rw [hM _ (by rw [r]; simp)]; exact r⟩
  one := h.one
  len := h.len
  sl := by
    rcases h.sl with m | ⟨sid, tS, scs, m1, m2, m3, m4⟩
    · exact .inl m
    · refine .inr ⟨sid, tS, scs, m1, by rw [hn]; exact m2, by rw [hM _ (by rw [m3]; simp)]; exact m3, fun j hj => ⟨(m4 j hj).1, ?_⟩⟩
      have := (m4 j hj).2.more hM
      rw [hn]; exact this
open Classical in
/-- What 'Clone' answers. -/
noncomputable def cloneMem (tM tO tC tP : TypeId) (args : List AV) (_ : Nat) (M0 : MM) : Option (AV × MM) :=
  if h : ∃ p sl live os, args = [.ptr p 0] ∧ CArg tO tC M0 p sl live os then
    some (.ptr M0.nx 0, (cres tM tO tP M0 h.choose_spec.choose_spec.choose h.choose_spec.choose_spec.choose_spec.choose).M)
  else none
theorem cloneMem_def {tM tO tC tP : TypeId} {args : List AV} {lo : Nat} {M0 : MM} {p : Nat} {sl live : AV} {os : List OX} (ha : args = [.ptr p 0]) (h : CArg tO tC M0 p sl live os) : cloneMem tM tO tC tP args lo M0 = some (.ptr M0.nx 0, (cres tM tO tP M0 live os).M) := by
  have hx : ∃ p sl live os, args = [.ptr p 0] ∧ CArg tO tC M0 p sl live os := ⟨p, sl, live, os, ha, h⟩
  unfold cloneMem
  rw [dif_pos hx]
  have h1 := hx.choose_spec.choose_spec.choose_spec.choose_spec
  have hp : hx.choose = p := by
    have h3 := ha.symm.trans h1.1
    injection h3 with h3
    injection h3 with h3
    exact h3.symm
  have h2 := h1.2
  generalize hx.choose_spec.choose_spec.choose_spec.choose = os' at h2 ⊢
  generalize hx.choose_spec.choose_spec.choose = live' at h2 ⊢
  generalize hx.choose_spec.choose = sl' at h2
  rw [hp] at h2
  obtain ⟨_, e2, e3⟩ := h.uniq (fun _ _ => rfl) h2
  rw [e2, e3]
theorem cloneMem_src {tM tO tC tP : TypeId} {args : List AV} {lo : Nat} {M0 M' : MM} {r : AV} (h : cloneMem tM tO tC tP args lo M0 = some (r, M')) : ∃ p sl live os, args = [.ptr p 0] ∧ CArg tO tC M0 p sl live os ∧ r = .ptr M0.nx 0 ∧ M' = (cres tM tO tP M0 live os).M := by
  by_cases hx : ∃ p sl live os, args = [.ptr p 0] ∧ CArg tO tC M0 p sl live os
  · obtain ⟨p, sl, live, os, ha, hc⟩ := hx
    rw [cloneMem_def ha hc] at h
    simp only [Option.some.injEq, Prod.mk.injEq] at h
    exact ⟨p, sl, live, os, ha, hc, h.1.symm, h.2.symm⟩
  · unfold cloneMem at h
    rw [dif_neg hx] at h; cases h
end Go.Proofs.Ytegkhdflmboljaa.Sx

namespace Go.Proofs.Ytegkhdflmboljaa.Sx
open Go
set_option linter.unusedSimpArgs false
set_option linter.unusedVariables false
set_option maxRecDepth 100000
set_option maxHeartbeats 2000000
section
variable {P : Program} {f : FuncId} {tM tO tC tP tMap tK tE : TypeId}
theorem cloneMem_ok (S : CSh P f tM tO tC tP tMap tK tE) : PrimOK P f (cloneMem tM tO tC tP) := by
  refine ⟨⟨S.fn, S.hf, by rw [S.body]; rfl, S.nm⟩, fun args lo M0 r M' hp c vs hS hargs hlo => ?_⟩
  obtain ⟨p, sl, live, os, rfl, hc, rfl, rfl⟩ := cloneMem_src hp
  obtain ⟨tr, hroot⟩ := hc.root
  refine calls_of_wp S.hf S.body ?_
  have hv1 : vs.length = 1 := hargs.1.symm
  have hS0 := hS.shut
  have hpn : p < M0.nx := hS.nx _ (hS.dom _ (by rw [hroot]; simp))
  have hargs0 : RelL c.shut [.ptr p 0] vs := hargs.ext hS.WL (Ext.shut c)
  let ρ0 : Nat → AV := fun i => if i = 0 then .ptr p 0 else .undef
  have hfr : RelL c.shut (rg ρ0) (vs.toArray ++ Array.replicate (S.fn.ntmps - vs.toArray.size) undef).toList := by
    have h1 := hargs0.append (RelL.replicate (c := c.shut) (.undef c.shut) 56)
    have e : rg ρ0 = [.ptr p 0] ++ List.replicate 56 .undef := rfl
    rw [e, S.nt]
    simpa [hv1] using h1
  have hT : SimS M0.nx ⟨rg ρ0, M0⟩ { tmps := vs.toArray ++ Array.replicate (S.fn.ntmps - vs.toArray.size) undef, defers := [] } c.shut := ⟨hS0, hfr, rfl⟩
  have hres : S.fn.results.toList.mapM (compRes P) = some [.tmp 2] := by rw [S.res]; rfl
  have hI := hc.csi (tM := tM) (tP := tP)
  have fin : ∀ (ρ : Nat → AV) (a' : Act) (c' : Cx), SimS M0.nx ⟨rg ρ, (cres tM tO tP M0 live os).M⟩ a' c' → XI M0.nx c.shut c' → ρ 3 = .ptr M0.nx 0 →
      (Code.seq (.region S.i14 #[S.o14_0, S.o14_1] false) .ret).wp P (bodyPost P S.fn (fun e w' => ∃ v c', e = .returned v ∧ c'.w = w' ∧ After lo M0.nx M0 c (cres tM tO tP M0 live os).M c' ∧ Rel c' (.ptr M0.nx 0) v)) a' c'.w := by
    intro ρ a' c' hS' hE h3
    refine wp_seq (wp_region_list ?_)
    refine seqN S.c14_0 hS' hI.n (v := .ptr M0.nx 0) (M' := (cres tM tO tP M0 live os).M) (by simp [istep, ev_rg, h3]) fun a1 c1 hS1 ha1 => ?_
    refine seqN S.c14_1 hS1 hI.n (v := .ptr M0.nx 0) (M' := (cres tM tO tP M0 live os).M) (by simp [istep, ev_rg, sO]) fun a2 c2 hS2 ha2 => ?_
    have hE2 := hE.trans (ha1.ext.trans ha2.ext)
    refine wp_ret ?_
    obtain ⟨v, hv, hrel⟩ := results_run (rs := [.tmp 2]) (x := .ptr M0.nx 0) hS2 hres (by
      simp only [resAll, resOf, List.mapM_cons, List.mapM_nil, rg_get _ (show 2 < 57 by decide)]
      simp [sO])
    refine ⟨hS2.df, v, hv, v, c.reopen c2, rfl, rfl, ⟨Sim.reopen hS hS2.sim hE2.toExt hI.old, Ext.reopen hE2.toExt, hI.n, fun id hs => (hE2.low id hs).imp (fun h => h) .inr⟩, hrel.reopen⟩
  refine wp_seq (wp_region_list ?_)
  refine seqN (c := c.shut) S.c0_0 hT (Nat.le_refl _) (v := .nil) (M' := M0) (by simp [istep, ev]) fun a1 c1 hS1 ha1 => ?_
  refine wp_seq (wp_region_list ?_)
  refine seqN S.c1_0 hS1 (Nat.le_refl _) (v := .ptr p 0) (M' := M0) (by simp [istep, ev_rg, sO, ρ0]) fun a2 c2 hS2 ha2 => ?_
  refine seqN S.c1_1 hS2 (Nat.le_refl _) (v := .ptr p 0) (M' := M0) (by simp [istep, ev_rg, sO]) fun a3 c3 hS3 ha3 => ?_
  refine seqN S.c1_2 hS3 (Nat.le_refl _) (v := .ptr p 1) (M' := M0) (by simp [istep, ev_rg, sO]) fun a4 c4 hS4 ha4 => ?_
  refine seqN S.c1_3 hS4 (Nat.le_refl _) (v := live) (M' := M0) (by simp [istep, ev_rg, sO, look_ok (ok_top.2 hpn), hroot]) fun a5 c5 hS5 ha5 => ?_
  refine seqN S.c1_4 hS5 (Nat.le_refl _) (v := .agg [.nilsl, live]) (M' := M0) (by
    simp only [istep, List.map_cons, List.map_nil, ev_rg _ (show 13 < 57 by decide)]
    simp [sO, fill, hc.one.1, setAt]) fun a6 c6 hS6 ha6 => ?_
  refine seqN S.c1_5 hS6 (Nat.le_refl _) (v := .ptr M0.nx 0) (M' := (cst0 tM M0 live).M) (by
    simp only [istep, ev_rg _ (show 14 < 57 by decide)]
    simp [sO, AV.cells, hc.one.2, cst0]) fun a7 c7 hS7 ha7 => ?_
  have h0 := cst0_ok tM tP M0 live
  refine seqN S.c1_6 hS7 h0.n (v := .ptr M0.nx 0) (M' := (cst0 tM M0 live).M) (by simp [istep, ev_rg, sO]) fun a8 c8 hS8 ha8 => ?_
  have hp0 : (cst0 tM M0 live).M.mem p = some (.cells tr [sl, live]) := (h0.old p hpn).trans hroot
  have hpn0 : p < (cst0 tM M0 live).M.nx := Nat.lt_of_lt_of_le hpn h0.n
  refine wp_seq (wp_seq (wp_region_list ?_))
  refine seqN S.c2_0 hS8 h0.n (v := .ptr p 0) (M' := (cst0 tM M0 live).M) (by simp [istep, ev_rg, sO, ρ0]) fun a9 c9 hS9 ha9 => ?_
  refine seqN S.c2_1 hS9 h0.n (v := .ptr p 0) (M' := (cst0 tM M0 live).M) (by simp [istep, ev_rg, sO]) fun a10 c10 hS10 ha10 => ?_
  refine seqN S.c2_2 hS10 h0.n (v := .ptr p 0) (M' := (cst0 tM M0 live).M) (by simp [istep, ev_rg, sO]) fun a11 c11 hS11 ha11 => ?_
  refine seqN S.c2_3 hS11 h0.n (v := sl) (M' := (cst0 tM M0 live).M) (by simp [istep, ev_rg, sO, look_ok (ok_top.2 hpn0), hp0]) fun a12 c12 hS12 ha12 => ?_
  refine seqN S.c2_4 hS12 h0.n (v := .i os.length) (M' := (cst0 tM M0 live).M) (by
    simp only [istep, ev_rg _ (show 19 < 57 by decide)]
    rcases hc.sl with ⟨e1, e2⟩ | ⟨sid, tS, scs, e1, _⟩
    · subst e1 e2; simp [sO]
    · subst e1; simp [sO]) fun a13 c13 hS13 ha13 => ?_
  refine seqN S.c2_5 hS13 h0.n (v := .i 0) (M' := (cst0 tM M0 live).M) (by simp [istep, ev]) fun a14 c14 hS14 ha14 => ?_
  have hE : XI M0.nx c.shut c14 := ha1.ext.trans (ha2.ext.trans (ha3.ext.trans (ha4.ext.trans (ha5.ext.trans (ha6.ext.trans (ha7.ext.trans (ha8.ext.trans (ha9.ext.trans (ha10.ext.trans (ha11.ext.trans (ha12.ext.trans (ha13.ext.trans ha14.ext))))))))))))
  refine wp_block ?_
  rcases hc.sl with ⟨e1, e2⟩ | ⟨sid, tS, scs, e1, e2, e3, e4⟩
  · subst e1 e2
    refine wp_loop_rounds 1 ?_
    rw [rounds_succ]
    refine wp_seq (wp_region_list ?_)
    refine seqN S.c3_0 hS14 h0.n (v := .bool false) (M' := (cst0 tM M0 live).M) (by simp [istep, ev_rg, sO, binA, ibin]) fun a15 c15 hS15 ha15 => ?_
    refine wp_seq (wp_cond (t := false) ?_ (wp_exit ?_))
    · have := eval_rg hS15.fr (show 22 < 57 by decide)
      exact this.bool_inv
    · exact fin _ a15 c15 hS15 (hE.trans ha15.ext) (by simp [sO])
  · refine wp_loop_rounds (os.length + 1) ?_
    refine objLoop S hS0 rfl (fun b h => h) hc.one.2 e4 e2 e3 hc.len (s0 := cst0 tM M0 live) (Q := _) ?_ os 0 (cst0 tM M0 live) _ a14 c14 rfl (by omega) rfl h0 hS14 hE ?_ ?_ ?_ ?_
    · intro ρ a' c' s hS' hE' hs h3
      subst hs
      exact fin ρ a' c' hS' hE' h3
    · simp [sO]
    · simp [sO, e1]
    · simp [sO]
    · simp [sO]

def Sub (m2 m1 : Mem) : Prop := ∀ id, m2 id ≠ none → m1 id = m2 id
theorem Sub.pre {m2 m1 : Mem} (h : Sub m2 m1) (n : Nat) (o : OX) : Sub (preMem tO m2 n o) (preMem tO m1 n o) := by
  intro id
  simp only [preMem]
  by_cases e1 : id = n
  · simp [e1]
  · simp only [e1, if_false]
    by_cases e2 : id = n + 1
    · simp [e2]
    · simp only [e2, if_false]; exact h id
theorem Sub.mid {m2 m1 : Mem} (h : Sub m2 m1) (n base : Nat) (es : List (Value × AV)) : Sub (midMem m2 n base es) (midMem m1 n base es) := by
  intro id
  simp only [midMem]
  by_cases e1 : id = n + 1
  · simp [e1]
  · simp only [e1, if_false]
    by_cases e2 : (es.any fun q => id == base + cidOf (some q.2)) = true
    · simp only [e2, if_true]; exact h _
    · rw [if_neg e2, if_neg e2]; exact h id
theorem Sub.app {m2 m1 : Mem} (h : Sub m2 m1) (N Pid x : Nat) (sl : AV) (ptrs : List AV) (live : AV) : Sub (appMem tM tP m2 N Pid x sl ptrs live) (appMem tM tP m1 N Pid x sl ptrs live) := by
  intro id
  simp only [appMem]
  by_cases e1 : id = Pid
  · simp [e1]
  · simp only [e1, if_false]
    by_cases e2 : id = N + 1
    · simp [e2]
    · simp only [e2, if_false]
      by_cases e3 : id = N
      · simp [e3]
      · simp only [e3, if_false]
        by_cases e4 : aidOf sl = some id
        · simp [e4]
        · simp only [e4, if_false]; exact h id
/-- Two memories of which one has more, copied side by side. -/
structure Par (s2 s1 : CpS) : Prop where
  nx : s1.M.nx = s2.M.nx
  sl : s1.sl = s2.sl
  ptrs : s1.ptrs = s2.ptrs
  sub : Sub s2.M.mem s1.M.mem
  wf : ∀ id, s2.M.mem id ≠ none → id < s2.M.nx
theorem Par.step {lo Pid : Nat} {live : AV} {s2 s1 : CpS} (h : Par s2 s1) (hP : Pid < s2.M.nx) (o : OX) (hes : ∀ q ∈ o.es, cidOf (some q.2) < lo) : Par (cstep tM tO tP lo Pid live s2 o) (cstep tM tO tP lo Pid live s1 o) := by
  refine ⟨by simp only [cstep, h.nx], by simp only [cstep, h.nx, h.ptrs], by simp only [cstep, h.nx, h.ptrs], ?_, fun id hid => ?_⟩
  · simp only [cstep, h.nx, h.sl, h.ptrs]
    exact ((h.sub.pre _ _).mid _ _ _).app _ _ _ _ _ _
  · simp only [cstep] at hid ⊢
    have h1 : ∀ id, preMem tO s2.M.mem s2.M.nx o id ≠ none → id < s2.M.nx + 2 := fun id hid => by
      simp only [preMem] at hid
      by_cases e1 : id = s2.M.nx
      · omega
      · rw [if_neg e1] at hid
        by_cases e2 : id = s2.M.nx + 1
        · omega
        · rw [if_neg e2] at hid
          have := h.wf id hid; omega
    have h2 : midMem (preMem tO s2.M.mem s2.M.nx o) s2.M.nx (s2.M.nx + 3) o.es id ≠ none → id < s2.M.nx + 3 + lo := fun hid => by
      simp only [midMem] at hid
      by_cases e1 : id = s2.M.nx + 1
      · omega
      · rw [if_neg e1] at hid
        by_cases e2 : (o.es.any fun q => id == s2.M.nx + 3 + cidOf (some q.2)) = true
        · obtain ⟨q, hq, hqi⟩ := List.any_eq_true.1 e2
          have hqi : id = s2.M.nx + 3 + cidOf (some q.2) := by simpa using hqi
          have := hes q hq; omega
        · rw [if_neg e2] at hid
          have := h1 id hid; omega
    simp only [appMem] at hid
    by_cases e1 : id = Pid
    · omega
    · rw [if_neg e1] at hid
      by_cases e2 : id = s2.M.nx + 3 + lo + 1
      · omega
      · rw [if_neg e2] at hid
        by_cases e3 : id = s2.M.nx + 3 + lo
        · omega
        · rw [if_neg e3] at hid
          by_cases e4 : aidOf s2.sl = some id
          · rw [if_pos e4] at hid; exact absurd rfl hid
          · rw [if_neg e4] at hid
            have := h2 hid; omega
theorem Par.all {lo Pid : Nat} {live : AV} {M0 : MM} : ∀ (os : List OX) (s2 s1 : CpS) (i : Nat), Par s2 s1 → CSI tM tP lo Pid live M0 s2 i → (∀ o ∈ os, ∀ q ∈ o.es, cidOf (some q.2) < lo) → Par (os.foldl (cstep tM tO tP lo Pid live) s2) (os.foldl (cstep tM tO tP lo Pid live) s1)
  | [], s2, s1, i, h, _, _ => h
  | o :: os, s2, s1, i, h, hI, hes => by
    rw [List.foldl_cons, List.foldl_cons]
    exact Par.all os _ _ (i + 1) (h.step hI.Pn o (hes o (by simp))) (hI.step (tO := tO) o (hes o (by simp))) fun o' ho' => hes o' (by simp [ho'])

theorem cloneMem_ext (tM tO tC tP : TypeId) : PrimExt (cloneMem tM tO tC tP) := by
  intro args lo M2 r M2' M1 hp hM
  obtain ⟨p, sl, live, os, rfl, hc, rfl, rfl⟩ := cloneMem_src hp
  have hc1 := hc.more hM.ext hM.nx
  refine ⟨_, by rw [cloneMem_def rfl hc1, hM.nx], fun fresh => ?_⟩
  have hI2 := hc.csi (tM := tM) (tP := tP)
  have hI1 := hc1.csi (tM := tM) (tP := tP)
  have hpar : Par (cres tM tO tP M2 live os) (cres tM tO tP M1 live os) := by
    unfold cres
    rw [hM.nx]
    refine Par.all (M0 := M2) os _ _ 0 ⟨?_, rfl, rfl, ?_, fun id hid => ?_⟩ (cst0_ok tM tP M2 live) hc.low
    · simp only [cst0, MM.alloc, hM.nx]
    · intro id hid
      simp only [cst0, MM.alloc, hM.nx] at hid ⊢
      by_cases e : id = M2.nx
      · subst e; rw [upd_same, upd_same]
      · rw [upd_ne _ _ _ _ e] at hid ⊢
        rw [upd_ne _ _ _ _ e]; exact hM.ext id hid
    · simp only [cst0, MM.alloc] at hid ⊢
      by_cases e : id = M2.nx
      · omega
      · rw [upd_ne _ _ _ _ e] at hid
        have := hM.wf id hid; omega
  refine ⟨⟨hpar.nx, hpar.wf, hpar.sub⟩, hI2.n, fun id hid _ hn => ⟨(hI2.old id hid).trans hn, hI1.old id (by rw [hM.nx]; exact hid)⟩⟩
end
end Go.Proofs.Ytegkhdflmboljaa.Sx

namespace Go.Proofs.Ytegkhdflmboljaa.Sx
open Go
noncomputable def primClone : List AV → Nat → MM → Option (AV × MM) := cloneMem 49 60 64 53
theorem primClone_ok : PrimOK Try.prog 24 primClone := cloneMem_ok shClone
theorem primClone_ext : PrimExt primClone := cloneMem_ext _ _ _ _
end Go.Proofs.Ytegkhdflmboljaa.Sx
