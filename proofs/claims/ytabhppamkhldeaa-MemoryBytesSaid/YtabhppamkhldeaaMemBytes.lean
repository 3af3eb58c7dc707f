/- CHAPTER 19, MemoryBytes: what the statement's function answers on the abstract machine. -/
import Derived.Test.YtabhppamkhldeaaMemF
import Derived.Test.YtabhppamkhldeaaMemLives
namespace Go.Proofs.Ytabhppamkhldeaa.Sx
open Go
set_option maxRecDepth 1000000
set_option linter.unusedSimpArgs false
set_option linter.unusedVariables false

def wantC (n : Nat) (f : Nat → Option Int) : List AV := (List.range n).map fun k => .int .u8 ((f k).getD 0)
def writC (n : Nat) (f : Nat → Option Int) : List AV := (List.range n).map fun k => .bool (f k).isSome

theorem wantC_set (n k : Nat) (f : Nat → Option Int) (b : Int) : (wantC n f).set k (.int .u8 b) = wantC n (setF f k b) := by
  apply List.ext_getElem (by simp [wantC])
  intro i h1 h2
  rw [List.getElem_set]
  simp only [wantC, List.getElem_map, List.getElem_range, setF]
  by_cases h : k = i
  · subst h; simp
  · rw [if_neg h, if_neg (fun e => h e.symm)]
theorem writC_set (n k : Nat) (f : Nat → Option Int) (b : Int) : (writC n f).set k (.bool true) = writC n (setF f k b) := by
  apply List.ext_getElem (by simp [writC])
  intro i h1 h2
  rw [List.getElem_set]
  simp only [writC, List.getElem_map, List.getElem_range, setF]
  by_cases h : k = i
  · subst h; simp
  · rw [if_neg h, if_neg (fun e => h e.symm)]
theorem wantC_len (n : Nat) (f : Nat → Option Int) : (wantC n f).length = n := by simp [wantC]
theorem writC_len (n : Nat) (f : Nat → Option Int) : (writC n f).length = n := by simp [writC]

def fO : Nat → Option Int := wrF (fun _ => none) 0 [1, 2, 3, 4, 5]

/-- The statement's state: two objects, what they hold, the two slices. -/
structure BS (M : MM) (n : Nat) (f : Nat → Option Int) (W w : Nat) : Prop where
  ex : ∃ (oa ob : OB) (ma mb : Nat) (sl : AV) (own own2 : Nat → Prop) (es es2 : List (Value × AV)),
    MR 0 M [oa, ob] 2 sl ∧ oa.alive = true ∧ ob.alive = true ∧ oa.size = n ∧ ob.size = 5 ∧ oa.mp = .mp ma ∧ ob.mp = .mp mb ∧ CK M ma f own es ∧ CK M mb fO own2 es2 ∧
    (∀ y, own y → y ≠ 0 ∧ y ≠ oa.id ∧ y ≠ ob.id ∧ (∀ off len sz, sl ≠ .os y off len sz) ∧ ¬ own2 y ∧ y ≠ W ∧ y ≠ w) ∧
    (W ≠ 0 ∧ W ≠ oa.id ∧ W ≠ ob.id ∧ (∀ off len sz, sl ≠ .os W off len sz) ∧ ¬ own2 W) ∧ (w ≠ 0 ∧ w ≠ oa.id ∧ w ≠ ob.id ∧ (∀ off len sz, sl ≠ .os w off len sz) ∧ ¬ own2 w)
  Wlt : W < M.nx
  wlt : w < M.nx
  ne : W ≠ w
  Wm : M.mem W = some (.cells 5 (wantC n f))
  wm : M.mem w = some (.cells 4 (writC n f))

/-- Memory has turned elsewhere. -/
theorem BS.frame {M M' : MM} {n : Nat} {f : Nat → Option Int} {W w : Nat} (h : BS M n f W w) (hn : M.nx ≤ M'.nx) (he : ∀ y, y < M.nx → M'.mem y = M.mem y) : BS M' n f W w := by
  obtain ⟨⟨oa, ob, ma, mb, sl, own, own2, es, es2, h1, h2, h3, h4, h5, h6, h7, h8, h9, h10, h11, h12⟩, a1, a2, a3, a4, a5⟩ := h
  refine ⟨⟨oa, ob, ma, mb, sl, own, own2, es, es2, h1.frame hn (he _ h1.plt) (fun sid off len sz e => ?_) (fun o ho => he _ (h1.olt o ho)), h2, h3, h4, h5, h6, h7, h8.frame hn (fun y _ hy => he y hy), h9.frame hn (fun y _ hy => he y hy), h10, h11, h12⟩, by omega, by omega, a3, by rw [he _ a1]; exact a4, by rw [he _ a2]; exact a5⟩
  rcases h1.sli with ⟨e', _⟩ | ⟨sid', e', _, _, q, _⟩
  · cases e'
  · rw [e] at e'; cases e'; exact he _ q

/-- The two slices have turned. -/
theorem BS.slices {M M' : MM} {n : Nat} {f' : Nat → Option Int} {W w : Nat} (oa ob : OB) (ma mb : Nat) (sl : AV) (own own2 : Nat → Prop) (es es2 : List (Value × AV))
    (h1 : MR 0 M [oa, ob] 2 sl) (h2 : oa.alive = true) (h3 : ob.alive = true) (h4 : oa.size = n) (h5 : ob.size = 5) (h6 : oa.mp = .mp ma) (h7 : ob.mp = .mp mb) (h8 : CK M ma f' own es) (h9 : CK M mb fO own2 es2)
    (h10 : ∀ y, own y → y ≠ 0 ∧ y ≠ oa.id ∧ y ≠ ob.id ∧ (∀ off len sz, sl ≠ .os y off len sz) ∧ ¬ own2 y ∧ y ≠ W ∧ y ≠ w)
    (h11 : W ≠ 0 ∧ W ≠ oa.id ∧ W ≠ ob.id ∧ (∀ off len sz, sl ≠ .os W off len sz) ∧ ¬ own2 W) (h12 : w ≠ 0 ∧ w ≠ oa.id ∧ w ≠ ob.id ∧ (∀ off len sz, sl ≠ .os w off len sz) ∧ ¬ own2 w)
    (a1 : W < M.nx) (a2 : w < M.nx) (a3 : W ≠ w) (hn : M.nx ≤ M'.nx) (he : ∀ y, y ≠ W → y ≠ w → M'.mem y = M.mem y) (a4 : M'.mem W = some (.cells 5 (wantC n f'))) (a5 : M'.mem w = some (.cells 4 (writC n f'))) : BS M' n f' W w := by
  refine ⟨⟨oa, ob, ma, mb, sl, own, own2, es, es2, h1.frame hn (he _ h11.1.symm h12.1.symm) (fun sid off len sz e => he _ (fun e2 => h11.2.2.2.1 off len sz (e2 ▸ e)) (fun e2 => h12.2.2.2.1 off len sz (e2 ▸ e))) (fun o ho => ?_), h2, h3, h4, h5, h6, h7, h8.frame hn (fun y hy _ => he y (h10 y hy).2.2.2.2.2.1 (h10 y hy).2.2.2.2.2.2), h9.frame hn (fun y hy _ => he y (fun e => h11.2.2.2.2 (e ▸ hy)) (fun e => h12.2.2.2.2 (e ▸ hy))), h10, h11, h12⟩, by omega, by omega, a3, a4, a5⟩
  rcases List.mem_cons.1 ho with rfl | ho
  · exact he _ h11.2.1.symm h12.2.1.symm
  · rcases List.mem_cons.1 ho with rfl | ho
    · exact he _ h11.2.2.1.symm h12.2.2.1.symm
    · simp at ho

def incB (b : Int) : Int := IntKind.u8.wrap (b + 1)
theorem incB_in (b : Int) : 0 ≤ incB b ∧ incB b ≤ 255 := by unfold incB; rw [IntKind.wrap_u8]; omega

theorem rwD_ok {call : CallT} {f : FuncId} {args : List AV} {lo : Nat} {M M' : MM} {r : AV} (h : call f args lo M = some (r, M')) (hn : M.nx ≤ M'.nx) : rwD call f args lo M = some (r, M') := by
  simp only [rwD, h, hn, if_true]

section
variable {call : CallT} (hc : Lim G call)
include hc

theorem b_write {M : MM} {n : Nat} (hn : n ≤ 255) {f : Nat → Option Int} {W w : Nat} (h : BS M n f W w) (k : Nat) (sid : Nat) (b : Int) (hb : 0 ≤ b ∧ b ≤ 255) (hs0 : M.nx ≤ sid) (M1 : MM) (hs : sid < M1.nx) (hM1 : ∀ y, y < M.nx → M1.mem y = M.mem y) (hM2 : M1.mem sid = some (.cells 5 [.int .u8 b, .int .u8 (incB b)])) :
    (k + 2 ≤ n ∧ ∃ M', call 11 [.ptr 0 0, .int .u64 8, .i k, .os sid 0 2 1] 0 M1 = some (.i 0, M') ∧ M1.nx ≤ M'.nx ∧ M'.mem W = some (.cells 5 (wantC n f)) ∧ M'.mem w = some (.cells 4 (writC n f)) ∧
      ∀ M2 : MM, M'.nx ≤ M2.nx → (∀ y, y ≠ W → y ≠ w → M2.mem y = M'.mem y) → M2.mem W = some (.cells 5 (wantC n (setF (setF f k b) (k + 1) (incB b)))) → M2.mem w = some (.cells 4 (writC n (setF (setF f k b) (k + 1) (incB b)))) → BS M2 n (setF (setF f k b) (k + 1) (incB b)) W w) ∨
    (n < k + 2 ∧ (k ≤ 100000 → call 11 [.ptr 0 0, .int .u64 8, .i k, .os sid 0 2 1] 0 M1 = some (.i 20, M1) ∧ BS M1 n f W w)) := by
  have h1 := h.frame (M' := M1) (by omega) hM1
  obtain ⟨⟨oa, ob, ma, mb, sl, own, own2, es, es2, q1, q2, q3, q4, q5, q6, q7, q8, q9, q10, q11, q12⟩, a1, a2, a3, a4, a5⟩ := h
  obtain ⟨⟨_⟩, c1, c2, c3, c4, c5⟩ := h1
  have r1 : MR 0 M1 [oa, ob] 2 sl := q1.frame (by omega) (hM1 _ q1.plt) (fun sid off len sz e => by
    rcases q1.sli with ⟨e', _⟩ | ⟨sid', e', _, _, q, _⟩
    · cases e'
    · rw [e] at e'; cases e'; exact hM1 _ q) (fun o ho => hM1 _ (q1.olt o ho))
  have r8 : CK M1 ma f (fun y => own y ∧ y < M.nx) es := by
    have := q8.frame (M' := M1) (by omega) (fun y _ hy => hM1 y hy)
    exact ⟨this.map, this.mlt, ⟨this.mown, q8.mlt⟩, this.none', fun q a ha => by
      obtain ⟨c, cs, g1, g2, g3, g4, g5, g6⟩ := this.some' q a ha
      obtain ⟨c', cs', g1', _, _, g4', _⟩ := q8.some' q a ha
      rw [g1] at g1'; cases g1'
      exact ⟨c, cs, g1, ⟨g2, g4'⟩, g3, g4, g5, g6⟩, this.inj⟩
  have r9 : CK M1 mb fO own2 es2 := q9.frame (by omega) (fun y _ hy => hM1 y hy)
  have r9' : CK M1 mb fO (fun y => own2 y ∧ y < M.nx) es2 := ⟨r9.map, r9.mlt, ⟨r9.mown, q9.mlt⟩, r9.none', fun q a ha => by
      obtain ⟨c, cs, g1, g2, g3, g4, g5, g6⟩ := r9.some' q a ha
      obtain ⟨c', cs', g1', _, _, g4', _⟩ := q9.some' q a ha
      rw [g1] at g1'; cases g1'
      exact ⟨c, cs, g1, ⟨g2, g4'⟩, g3, g4, g5, g6⟩, r9.inj⟩
  have hsl : ∀ y off len sz, sl = .os y off len sz → y < M.nx := fun y off len sz e => by
    rcases q1.sli with ⟨e', _⟩ | ⟨sid', e', _, _, q, _⟩
    · cases e'
    · rw [e] at e'; cases e'; exact q
  have l0 := q1.plt
  have la := q1.olt oa (by simp)
  have lb := q1.olt ob (by simp)
  have e8 : (8 : Int) = 8 * (((0 : Nat) : Int) + 1) := rfl
  by_cases hk : k + 2 ≤ n
  · refine .inl ⟨hk, ?_⟩
    have hbx : BX M1 (fun y => own y ∧ y < M.nx) (.os sid 0 2 1) [b, incB b] := BX.os (bs := [b, incB b]) hs (fun h => by omega) hM2
    obtain ⟨M', es', w1, w2, w3, w4⟩ := write_ok hc r1 (by simp) 0 oa rfl q2 (by omega) q6 r8 (.os sid 0 2 1) [b, incB b] (fun x hx => by
      rcases List.mem_cons.1 hx with rfl | hx
      · exact hb
      · simp at hx; subst hx; exact incB_in b) hbx k (by simp; omega) (fun h => (q10 _ h.1).2.1 rfl)
    have fr : ∀ y, y < M.nx → ¬ own y → M'.mem y = M.mem y := fun y h1 h2 => by rw [w4 y (by omega) (fun h => h2 h.1), hM1 y h1]
    refine ⟨M', by rw [e8]; exact w1, w2, by rw [fr W a1 (fun h => (q10 _ h).2.2.2.2.2.1 rfl)]; exact a4, by rw [fr w a2 (fun h => (q10 _ h).2.2.2.2.2.2 rfl)]; exact a5, fun M2 n2 e2 W2 w2' => ?_⟩
    refine BS.slices (M := M') (es := es') (es2 := es2) (own := fun y => (own y ∧ y < M.nx) ∨ M1.nx ≤ y) (own2 := fun y => own2 y ∧ y < M.nx) oa ob ma mb sl ?_ q2 q3 q4 q5 q6 q7 w3 ?_ ?_ ?_ ?_ (by omega) (by omega) a3 n2 e2 W2 w2'
    · refine r1.frame w2 (w4 0 (by omega) (fun h => (q10 _ h.1).1 rfl)) (fun y off len sz e => w4 y (by have := hsl _ _ _ _ e; omega) (fun h => (q10 _ h.1).2.2.2.1 off len sz e)) (fun o ho => ?_)
      rcases List.mem_cons.1 ho with rfl | ho
      · exact w4 _ (by omega) (fun h => (q10 _ h.1).2.1 rfl)
      · rcases List.mem_cons.1 ho with rfl | ho
        · exact w4 _ (by omega) (fun h => (q10 _ h.1).2.2.1 rfl)
        · simp at ho
    · exact r9'.frame w2 (fun y hy _ => w4 y (by omega) (fun h => (q10 _ h.1).2.2.2.2.1 hy.1))
    · intro y hy
      rcases hy with hy | hy
      · obtain ⟨p1, p2, p3, p4, p5, p6, p7⟩ := q10 y hy.1
        exact ⟨p1, p2, p3, p4, fun h => p5 h.1, p6, p7⟩
      · exact ⟨by omega, by omega, by omega, fun off len sz e => by have := hsl _ _ _ _ e; omega, fun h => by omega, by omega, by omega⟩
    · exact ⟨q11.1, q11.2.1, q11.2.2.1, q11.2.2.2.1, fun h => q11.2.2.2.2 h.1⟩
    · exact ⟨q12.1, q12.2.1, q12.2.2.1, q12.2.2.2.1, fun h => q12.2.2.2.2 h.1⟩
  · refine .inr ⟨by omega, fun hk2 => ?_⟩
    have := write_range hc r1 (by simp) 0 oa rfl q2 (by omega) (.os sid 0 2 1) 2 rfl (by omega) (k : Int) (by omega) (by omega)
    refine ⟨by rw [e8]; exact this, ⟨oa, ob, ma, mb, sl, fun y => own y ∧ y < M.nx, own2, es, es2, r1, q2, q3, q4, q5, q6, q7, r8, r9, fun y hy => q10 y hy.1, q11, q12⟩, c1, c2, c3, c4, c5⟩

theorem b_read {M : MM} {n : Nat} (hn : n ≤ 255) {f : Nat → Option Int} {W w : Nat} (h : BS M n f W w) (k : Nat) (hk : k < n) :
    roC call M.nx 12 [.ptr 0 0, .int .u64 8, .i k, .i 1] M = match f k with
      | some b => some (.tup [.d (.sl [.v (.int .u8 b)] 1), .i 0], M)
      | none => some (.tup [.d (.sl [] 0), .i 24], M) := by
  obtain ⟨⟨oa, ob, ma, mb, sl, own, own2, es, es2, q1, q2, q3, q4, q5, q6, q7, q8, q9, q10, q11, q12⟩, a1, a2, a3, a4, a5⟩ := h
  have := read_ok hc q1 (by simp) 0 oa rfl q2 (by omega) q6 q8 k 1 (by omega)
  have e8 : (8 : Int) = 8 * (((0 : Nat) : Int) + 1) := rfl
  rw [e8]
  refine this.trans ?_
  simp only [rdF]
  cases f k <;> rfl

theorem b_read2 {M : MM} {n : Nat} (hn : n ≤ 255) {f : Nat → Option Int} {W w : Nat} (h : BS M n f W w) :
    roC call M.nx 12 [.ptr 0 0, .int .u64 16, .i 0, .i 5] M = some (.tup [.d (.sl [.v (.int .u8 1), .v (.int .u8 2), .v (.int .u8 3), .v (.int .u8 4), .v (.int .u8 5)] 5), .i 0], M) ∧
    roC call M.nx 12 [.ptr 0 0, .int .u64 8, .i n, .i 1] M = some (.tup [.d (.sl [] 0), .i 20], M) := by
  obtain ⟨⟨oa, ob, ma, mb, sl, own, own2, es, es2, q1, q2, q3, q4, q5, q6, q7, q8, q9, q10, q11, q12⟩, a1, a2, a3, a4, a5⟩ := h
  refine ⟨(read_ok hc q1 (by simp) 1 ob rfl q3 (by omega) q7 q9 0 5 (by simp; omega)).trans rfl, ?_⟩
  exact read_range hc q1 (by simp) 0 oa rfl q2 (by omega) n 1 (by omega) (by omega) (by omega)

/-- The last part: each byte is read. -/
theorem b_check {n : Nat} (hn : n ≤ 255) {f : Nat → Option Int} {W w : Nat} : ∀ (r k fuel : Nat) (M : MM), BS M n f W w → k + r = n → r < fuel →
    ∃ M', b3_2 call G.nl 0 fuel (.ptr 0 0) (.i n) (.int .u64 8) (.int .u64 16) (.os W 0 n 1) (.os w 0 n 1) (.i k) M = some (.bool true, M')
  | r, k, 0, _, _, _, h => absurd h (by omega)
  | 0, k, fuel + 1, M, h, hk, _ => by
    have hk' : k = n := by omega
    subst hk'
    obtain ⟨h1, h2⟩ := b_read2 hc hn h
    refine ⟨M, ?_⟩
    unfold b3_2
    repeat (first | with_reducible refine rn_bsome ?_ | with_reducible refine rn_some ?_ | with_reducible refine rn_if_t ?_ | with_reducible refine rn_if_f ?_ | with_reducible refine rn_gtt ?_ | with_reducible refine rn_gff ?_ | with_reducible refine rn_gtf ?_ | with_reducible refine rn_gft ?_ | with_reducible refine rn_gun ?_ | with_reducible refine rn_ibin ?_ | with_reducible refine rn_iun ?_ | with_reducible refine rn_ipick ?_ | with_reducible refine rn_icvi ?_ | with_reducible refine rn_ild1 ?_ | with_reducible refine rn_inilc ?_ | with_reducible refine rn_ifad ?_ | with_reducible refine rn_iext ?_ | with_reducible refine rn_ilens ?_ | with_reducible refine rn_ilen ?_ | with_reducible refine rn_iixs ?_ | with_reducible refine rn_iixc ?_ | with_reducible refine rn_pt ?_ | with_reducible refine rn_pf ?_ | with_reducible refine rn_eqb_tt ?_ | with_reducible refine rn_eqb_ff ?_ | with_reducible refine rn_eqb_tf ?_ | with_reducible refine rn_eqb_ft ?_ | with_reducible refine rn_neb_tt ?_ | with_reducible refine rn_neb_ff ?_ | with_reducible refine rn_neb_tf ?_ | with_reducible refine rn_neb_ft ?_ | with_reducible refine rn_not_t ?_ | with_reducible refine rn_not_f ?_ | with_reducible refine rn_eqp1 ?_ | with_reducible refine rn_eqp2 ?_ | with_reducible refine rn_eqp3 ?_ | with_reducible refine rn_nep1 ?_ | with_reducible refine rn_nep2 ?_ | with_reducible refine rn_ext0 ?_ | with_reducible refine rn_ext1 ?_ | with_reducible refine rn_ext2 ?_ | with_reducible refine rn_ext3 ?_ | with_reducible refine rn_len_sl ?_ | with_reducible refine rn_len_nil ?_ | with_reducible refine rn_len_os ?_ | with_reducible refine rn_lens ?_ | with_reducible refine rn_nilc ?_ | with_reducible refine rn_nilci ?_ | with_reducible refine rn_fad ?_ | with_reducible refine rn_fadi ?_ | with_reducible refine rn_ldi ?_ | ((with_reducible refine rn_add64 ?_ ?_); focus omega) | ((with_reducible refine rn_sub64 ?_ ?_); focus omega) | ((with_reducible refine rn_mul64 ?_ ?_); focus omega) | ((with_reducible refine rn_addu ?_ ?_); focus omega) | ((with_reducible refine rn_subu ?_ ?_); focus omega) | ((with_reducible refine rn_mulu ?_ ?_); focus omega) | ((with_reducible refine rn_add8 ?_ ?_); focus omega) | ((with_reducible refine rn_sub8 ?_ ?_); focus omega) | ((with_reducible refine rn_rem ?_ ?_); focus omega) | ((with_reducible refine rn_quo64 ?_ ?_); focus omega) | ((with_reducible refine rn_quou ?_ ?_); focus omega) | ((with_reducible refine rn_quo8 ?_ ?_); focus omega) | ((with_reducible refine rn_eql_t ?_ ?_); focus omega) | ((with_reducible refine rn_eql_f ?_ ?_); focus omega) | ((with_reducible refine rn_neq_t ?_ ?_); focus omega) | ((with_reducible refine rn_neq_f ?_ ?_); focus omega) | ((with_reducible refine rn_lss_t ?_ ?_); focus omega) | ((with_reducible refine rn_lss_f ?_ ?_); focus omega) | ((with_reducible refine rn_leq_t ?_ ?_); focus omega) | ((with_reducible refine rn_leq_f ?_ ?_); focus omega) | ((with_reducible refine rn_gtr_t ?_ ?_); focus omega) | ((with_reducible refine rn_gtr_f ?_ ?_); focus omega) | ((with_reducible refine rn_geq_t ?_ ?_); focus omega) | ((with_reducible refine rn_geq_f ?_ ?_); focus omega) | ((with_reducible refine rn_cvi64 ?_ ?_); focus omega) | ((with_reducible refine rn_cviu ?_ ?_); focus omega) | ((with_reducible refine rn_cvi8 ?_ ?_); focus omega) | ((with_reducible refine rn_ixs ?_ ?_); focus omega) | ((with_reducible refine rn_ixsl ?_ ?_); focus omega) | ((with_reducible refine rn_shr ?_ ?_); focus omega))
    unfold b3_1
    repeat (first | (with_reducible refine rn_bnd h1 ?_) | (with_reducible refine rn_bnd h2 ?_) | (with_reducible refine rn_bnd (v := .str ⟨#[1, 2, 3, 4, 5]⟩) (M := M) rfl ?_) | (with_reducible refine rn_bnd (v := .bool true) (M := M) rfl ?_) | (with_reducible refine rn_bnd (awake_lim hc _ _) ?_) | with_reducible refine rn_bsome ?_ | with_reducible refine rn_some ?_ | with_reducible refine rn_if_t ?_ | with_reducible refine rn_if_f ?_ | with_reducible refine rn_gtt ?_ | with_reducible refine rn_gff ?_ | with_reducible refine rn_gtf ?_ | with_reducible refine rn_gft ?_ | with_reducible refine rn_gun ?_ | with_reducible refine rn_ibin ?_ | with_reducible refine rn_iun ?_ | with_reducible refine rn_ipick ?_ | with_reducible refine rn_icvi ?_ | with_reducible refine rn_ild1 ?_ | with_reducible refine rn_inilc ?_ | with_reducible refine rn_ifad ?_ | with_reducible refine rn_iext ?_ | with_reducible refine rn_ilens ?_ | with_reducible refine rn_ilen ?_ | with_reducible refine rn_iixs ?_ | with_reducible refine rn_iixc ?_ | with_reducible refine rn_pt ?_ | with_reducible refine rn_pf ?_ | with_reducible refine rn_eqb_tt ?_ | with_reducible refine rn_eqb_ff ?_ | with_reducible refine rn_eqb_tf ?_ | with_reducible refine rn_eqb_ft ?_ | with_reducible refine rn_neb_tt ?_ | with_reducible refine rn_neb_ff ?_ | with_reducible refine rn_neb_tf ?_ | with_reducible refine rn_neb_ft ?_ | with_reducible refine rn_not_t ?_ | with_reducible refine rn_not_f ?_ | with_reducible refine rn_eqp1 ?_ | with_reducible refine rn_eqp2 ?_ | with_reducible refine rn_eqp3 ?_ | with_reducible refine rn_nep1 ?_ | with_reducible refine rn_nep2 ?_ | with_reducible refine rn_ext0 ?_ | with_reducible refine rn_ext1 ?_ | with_reducible refine rn_ext2 ?_ | with_reducible refine rn_ext3 ?_ | with_reducible refine rn_len_sl ?_ | with_reducible refine rn_len_nil ?_ | with_reducible refine rn_len_os ?_ | with_reducible refine rn_lens ?_ | with_reducible refine rn_nilc ?_ | with_reducible refine rn_nilci ?_ | with_reducible refine rn_fad ?_ | with_reducible refine rn_fadi ?_ | with_reducible refine rn_ldi ?_ | ((with_reducible refine rn_add64 ?_ ?_); focus omega) | ((with_reducible refine rn_sub64 ?_ ?_); focus omega) | ((with_reducible refine rn_mul64 ?_ ?_); focus omega) | ((with_reducible refine rn_addu ?_ ?_); focus omega) | ((with_reducible refine rn_subu ?_ ?_); focus omega) | ((with_reducible refine rn_mulu ?_ ?_); focus omega) | ((with_reducible refine rn_add8 ?_ ?_); focus omega) | ((with_reducible refine rn_sub8 ?_ ?_); focus omega) | ((with_reducible refine rn_rem ?_ ?_); focus omega) | ((with_reducible refine rn_quo64 ?_ ?_); focus omega) | ((with_reducible refine rn_quou ?_ ?_); focus omega) | ((with_reducible refine rn_quo8 ?_ ?_); focus omega) | ((with_reducible refine rn_eql_t ?_ ?_); focus omega) | ((with_reducible refine rn_eql_f ?_ ?_); focus omega) | ((with_reducible refine rn_neq_t ?_ ?_); focus omega) | ((with_reducible refine rn_neq_f ?_ ?_); focus omega) | ((with_reducible refine rn_lss_t ?_ ?_); focus omega) | ((with_reducible refine rn_lss_f ?_ ?_); focus omega) | ((with_reducible refine rn_leq_t ?_ ?_); focus omega) | ((with_reducible refine rn_leq_f ?_ ?_); focus omega) | ((with_reducible refine rn_gtr_t ?_ ?_); focus omega) | ((with_reducible refine rn_gtr_f ?_ ?_); focus omega) | ((with_reducible refine rn_geq_t ?_ ?_); focus omega) | ((with_reducible refine rn_geq_f ?_ ?_); focus omega) | ((with_reducible refine rn_cvi64 ?_ ?_); focus omega) | ((with_reducible refine rn_cviu ?_ ?_); focus omega) | ((with_reducible refine rn_cvi8 ?_ ?_); focus omega) | ((with_reducible refine rn_ixs ?_ ?_); focus omega) | ((with_reducible refine rn_ixsl ?_ ?_); focus omega) | ((with_reducible refine rn_shr ?_ ?_); focus omega))
    rfl
  | r + 1, k, fuel + 1, M, h, hk, hf => by
    have hkn : k < n := by omega
    have h1 := b_read hc hn h k hkn
    have hb : BS (M.bump 34) n f W w := h.frame (by show M.nx ≤ M.nx + 34; omega) (fun _ _ => rfl)
    obtain ⟨M', hrec⟩ := b_check hn r (k + 1) fuel (M.bump 34) hb (by omega) (by omega)
    have ec : (((k + 1 : Nat)) : Int) = (k : Int) + 1 := by omega
    rw [ec] at hrec
    refine ⟨M', ?_⟩
    have hWn : (wantC n f)[k]? = some (.int .u8 ((f k).getD 0)) := by simp [wantC, hkn]
    have hwn : (writC n f)[k]? = some (.bool (f k).isSome) := by simp [writC, hkn]
    unfold b3_2
    cases hfk : f k with
    | none =>
      rw [hfk] at h1 hWn hwn
      repeat (first | (with_reducible refine rn_bnd h1 ?_) | ((with_reducible refine rn_ld (M := M.bump 34) (t := 4) (cs := writC n f) (v := .bool false) ?_ ?_ ?_ ?_); (focus exact h.wlt); (focus exact h.wm); (focus (simp only [Int.toNat_natCast, Nat.mul_one, Nat.zero_add]; exact hwn))) | with_reducible refine rn_bsome ?_ | with_reducible refine rn_some ?_ | with_reducible refine rn_if_t ?_ | with_reducible refine rn_if_f ?_ | with_reducible refine rn_gtt ?_ | with_reducible refine rn_gff ?_ | with_reducible refine rn_gtf ?_ | with_reducible refine rn_gft ?_ | with_reducible refine rn_gun ?_ | with_reducible refine rn_ibin ?_ | with_reducible refine rn_iun ?_ | with_reducible refine rn_ipick ?_ | with_reducible refine rn_icvi ?_ | with_reducible refine rn_ild1 ?_ | with_reducible refine rn_inilc ?_ | with_reducible refine rn_ifad ?_ | with_reducible refine rn_iext ?_ | with_reducible refine rn_ilens ?_ | with_reducible refine rn_ilen ?_ | with_reducible refine rn_iixs ?_ | with_reducible refine rn_iixc ?_ | with_reducible refine rn_pt ?_ | with_reducible refine rn_pf ?_ | with_reducible refine rn_eqb_tt ?_ | with_reducible refine rn_eqb_ff ?_ | with_reducible refine rn_eqb_tf ?_ | with_reducible refine rn_eqb_ft ?_ | with_reducible refine rn_neb_tt ?_ | with_reducible refine rn_neb_ff ?_ | with_reducible refine rn_neb_tf ?_ | with_reducible refine rn_neb_ft ?_ | with_reducible refine rn_not_t ?_ | with_reducible refine rn_not_f ?_ | with_reducible refine rn_eqp1 ?_ | with_reducible refine rn_eqp2 ?_ | with_reducible refine rn_eqp3 ?_ | with_reducible refine rn_nep1 ?_ | with_reducible refine rn_nep2 ?_ | with_reducible refine rn_ext0 ?_ | with_reducible refine rn_ext1 ?_ | with_reducible refine rn_ext2 ?_ | with_reducible refine rn_ext3 ?_ | with_reducible refine rn_len_sl ?_ | with_reducible refine rn_len_nil ?_ | with_reducible refine rn_len_os ?_ | with_reducible refine rn_lens ?_ | with_reducible refine rn_nilc ?_ | with_reducible refine rn_nilci ?_ | with_reducible refine rn_fad ?_ | with_reducible refine rn_fadi ?_ | with_reducible refine rn_ldi ?_ | ((with_reducible refine rn_add64 ?_ ?_); focus omega) | ((with_reducible refine rn_sub64 ?_ ?_); focus omega) | ((with_reducible refine rn_mul64 ?_ ?_); focus omega) | ((with_reducible refine rn_addu ?_ ?_); focus omega) | ((with_reducible refine rn_subu ?_ ?_); focus omega) | ((with_reducible refine rn_mulu ?_ ?_); focus omega) | ((with_reducible refine rn_add8 ?_ ?_); focus omega) | ((with_reducible refine rn_sub8 ?_ ?_); focus omega) | ((with_reducible refine rn_rem ?_ ?_); focus omega) | ((with_reducible refine rn_quo64 ?_ ?_); focus omega) | ((with_reducible refine rn_quou ?_ ?_); focus omega) | ((with_reducible refine rn_quo8 ?_ ?_); focus omega) | ((with_reducible refine rn_eql_t ?_ ?_); focus omega) | ((with_reducible refine rn_eql_f ?_ ?_); focus omega) | ((with_reducible refine rn_neq_t ?_ ?_); focus omega) | ((with_reducible refine rn_neq_f ?_ ?_); focus omega) | ((with_reducible refine rn_lss_t ?_ ?_); focus omega) | ((with_reducible refine rn_lss_f ?_ ?_); focus omega) | ((with_reducible refine rn_leq_t ?_ ?_); focus omega) | ((with_reducible refine rn_leq_f ?_ ?_); focus omega) | ((with_reducible refine rn_gtr_t ?_ ?_); focus omega) | ((with_reducible refine rn_gtr_f ?_ ?_); focus omega) | ((with_reducible refine rn_geq_t ?_ ?_); focus omega) | ((with_reducible refine rn_geq_f ?_ ?_); focus omega) | ((with_reducible refine rn_cvi64 ?_ ?_); focus omega) | ((with_reducible refine rn_cviu ?_ ?_); focus omega) | ((with_reducible refine rn_cvi8 ?_ ?_); focus omega) | ((with_reducible refine rn_ixs ?_ ?_); focus omega) | ((with_reducible refine rn_ixsl ?_ ?_); focus omega) | ((with_reducible refine rn_shr ?_ ?_); focus omega))
      exact hrec
    | some b =>
      rw [hfk] at h1 hWn hwn
      repeat (first | (with_reducible refine rn_bnd h1 ?_) | ((with_reducible refine rn_ld (M := M.bump 34) (t := 4) (cs := writC n f) (v := .bool true) ?_ ?_ ?_ ?_); (focus exact h.wlt); (focus exact h.wm); (focus (simp only [Int.toNat_natCast, Nat.mul_one, Nat.zero_add]; exact hwn))) | ((with_reducible refine rn_opt (o := ld1A _ (.ip _)) (v := .int .u8 b) ?_ ?_); focus exact rfl) | ((with_reducible refine rn_ld (M := M.bump 34) (t := 5) (cs := wantC n f) (v := .int .u8 b) ?_ ?_ ?_ ?_); (focus exact h.Wlt); (focus exact h.Wm); (focus (simp only [Int.toNat_natCast, Nat.mul_one, Nat.zero_add]; exact hWn))) | with_reducible refine rn_bsome ?_ | with_reducible refine rn_some ?_ | with_reducible refine rn_if_t ?_ | with_reducible refine rn_if_f ?_ | with_reducible refine rn_gtt ?_ | with_reducible refine rn_gff ?_ | with_reducible refine rn_gtf ?_ | with_reducible refine rn_gft ?_ | with_reducible refine rn_gun ?_ | with_reducible refine rn_ibin ?_ | with_reducible refine rn_iun ?_ | with_reducible refine rn_ipick ?_ | with_reducible refine rn_icvi ?_ | with_reducible refine rn_ild1 ?_ | with_reducible refine rn_inilc ?_ | with_reducible refine rn_ifad ?_ | with_reducible refine rn_iext ?_ | with_reducible refine rn_ilens ?_ | with_reducible refine rn_ilen ?_ | with_reducible refine rn_iixs ?_ | with_reducible refine rn_iixc ?_ | with_reducible refine rn_pt ?_ | with_reducible refine rn_pf ?_ | with_reducible refine rn_eqb_tt ?_ | with_reducible refine rn_eqb_ff ?_ | with_reducible refine rn_eqb_tf ?_ | with_reducible refine rn_eqb_ft ?_ | with_reducible refine rn_neb_tt ?_ | with_reducible refine rn_neb_ff ?_ | with_reducible refine rn_neb_tf ?_ | with_reducible refine rn_neb_ft ?_ | with_reducible refine rn_not_t ?_ | with_reducible refine rn_not_f ?_ | with_reducible refine rn_eqp1 ?_ | with_reducible refine rn_eqp2 ?_ | with_reducible refine rn_eqp3 ?_ | with_reducible refine rn_nep1 ?_ | with_reducible refine rn_nep2 ?_ | with_reducible refine rn_ext0 ?_ | with_reducible refine rn_ext1 ?_ | with_reducible refine rn_ext2 ?_ | with_reducible refine rn_ext3 ?_ | with_reducible refine rn_len_sl ?_ | with_reducible refine rn_len_nil ?_ | with_reducible refine rn_len_os ?_ | with_reducible refine rn_lens ?_ | with_reducible refine rn_nilc ?_ | with_reducible refine rn_nilci ?_ | with_reducible refine rn_fad ?_ | with_reducible refine rn_fadi ?_ | with_reducible refine rn_ldi ?_ | ((with_reducible refine rn_add64 ?_ ?_); focus omega) | ((with_reducible refine rn_sub64 ?_ ?_); focus omega) | ((with_reducible refine rn_mul64 ?_ ?_); focus omega) | ((with_reducible refine rn_addu ?_ ?_); focus omega) | ((with_reducible refine rn_subu ?_ ?_); focus omega) | ((with_reducible refine rn_mulu ?_ ?_); focus omega) | ((with_reducible refine rn_add8 ?_ ?_); focus omega) | ((with_reducible refine rn_sub8 ?_ ?_); focus omega) | ((with_reducible refine rn_rem ?_ ?_); focus omega) | ((with_reducible refine rn_quo64 ?_ ?_); focus omega) | ((with_reducible refine rn_quou ?_ ?_); focus omega) | ((with_reducible refine rn_quo8 ?_ ?_); focus omega) | ((with_reducible refine rn_eql_t ?_ ?_); focus omega) | ((with_reducible refine rn_eql_f ?_ ?_); focus omega) | ((with_reducible refine rn_neq_t ?_ ?_); focus omega) | ((with_reducible refine rn_neq_f ?_ ?_); focus omega) | ((with_reducible refine rn_lss_t ?_ ?_); focus omega) | ((with_reducible refine rn_lss_f ?_ ?_); focus omega) | ((with_reducible refine rn_leq_t ?_ ?_); focus omega) | ((with_reducible refine rn_leq_f ?_ ?_); focus omega) | ((with_reducible refine rn_gtr_t ?_ ?_); focus omega) | ((with_reducible refine rn_gtr_f ?_ ?_); focus omega) | ((with_reducible refine rn_geq_t ?_ ?_); focus omega) | ((with_reducible refine rn_geq_f ?_ ?_); focus omega) | ((with_reducible refine rn_cvi64 ?_ ?_); focus omega) | ((with_reducible refine rn_cviu ?_ ?_); focus omega) | ((with_reducible refine rn_cvi8 ?_ ?_); focus omega) | ((with_reducible refine rn_ixs ?_ ?_); focus omega) | ((with_reducible refine rn_ixsl ?_ ?_); focus omega) | ((with_reducible refine rn_shr ?_ ?_); focus omega))
      exact hrec

/-- The writes. -/
theorem b_loop (n : Nat) (hn : n ≤ 255) (W w : Nat) (ats bs : List Int) (ha : ∀ a ∈ ats, 0 ≤ a ∧ a ≤ 255) (hb : ∀ b ∈ bs, 0 ≤ b ∧ b ≤ 255) (hal : ats.length ≤ 60) (hbl : bs.length ≤ 60) :
    ∀ (r i fuel : Nat) (M : MM) (f : Nat → Option Int), BS M n f W w → i + r = 61 → r < fuel →
    ∃ M', b3_3 call G.nl 0 fuel (.d (.sl (ats.map fun n => .v (.int .u8 n)) ats.length)) (.d (.sl (bs.map fun n => .v (.int .u8 n)) bs.length)) (.ptr 0 0) (.i n) (.int .u64 8) (.int .u64 16) (.os W 0 n 1) (.os w 0 n 1) (.i i) M = some (.bool true, M')
  | r, i, 0, _, _, _, _, h => absurd h (by omega)
  | r, i, fuel + 1, M, f, h, hi, hf => by
    have hG : G.nl = 18446744073709551616 := rfl
    have fin : ∃ M', b3_0 call G.nl 0 (.ptr 0 0) (.i n) (.int .u64 8) (.int .u64 16) (.os W 0 n 1) (.os w 0 n 1) M = some (.bool true, M') := by
      obtain ⟨M', q⟩ := b_check hc hn n 0 G.nl M h (by omega) (by rw [hG]; omega)
      exact ⟨M', q⟩
    by_cases h1 : i < ats.length
    · by_cases h2 : i < bs.length
      · obtain ⟨r, rfl⟩ : ∃ k, r = k + 1 := ⟨r - 1, by omega⟩
        have hai := ha _ (List.getElem_mem h1)
        have hbi := hb _ (List.getElem_mem h2)
        generalize hav : ats[i] = a at hai
        generalize hbv : bs[i] = b at hbi
        have da : (ats.map fun n => D.v (.int .u8 n)).drop ((i : Int).toNat * 1) = .v (.int .u8 a) :: (ats.map fun n => D.v (.int .u8 n)).drop (i + 1) := by
          rw [show (i : Int).toNat * 1 = i by omega, List.drop_eq_getElem_cons (by simpa using h1)]
          simp [hav]
        have db : (bs.map fun n => D.v (.int .u8 n)).drop ((i : Int).toNat * 1) = .v (.int .u8 b) :: (bs.map fun n => D.v (.int .u8 n)).drop (i + 1) := by
          rw [show (i : Int).toNat * 1 = i by omega, List.drop_eq_getElem_cons (by simpa using h2)]
          simp [hbv]
        obtain ⟨k, rfl⟩ : ∃ k : Nat, a = k := ⟨a.toNat, by omega⟩
        have hk255 : k ≤ 255 := by omega
        obtain ⟨M1, e1⟩ : ∃ y, (M.bump 15).alloc (M.nx + 12) (.cells 5 [.int .u8 b, .int .u8 (incB b)]) = y := ⟨_, rfl⟩
        have n1 : M1.nx = M.nx + 15 := by rw [← e1]; show max (M.nx + 15) (M.nx + 12 + 1) = _; omega
        have x1 : ∀ y, y < M.nx → M1.mem y = M.mem y := fun y hy => by rw [← e1]; show upd M.mem _ _ y = _; rw [upd_ne _ _ _ _ (by omega)]
        have s1 : M1.mem (M.nx + 12) = some (.cells 5 [.int .u8 b, .int .u8 (incB b)]) := by rw [← e1]; exact upd_same ..
        have ec : (((i + 1 : Nat)) : Int) = (i : Int) + 1 := by omega
        rcases b_write hc hn h k (M.nx + 12) b hbi (by omega) M1 (by omega) x1 s1 with ⟨hkn, M2, w1, w2, w3, w4, w5⟩ | ⟨hkn, hw⟩
        · have w1' := rwD_ok w1 w2
          obtain ⟨M3, e3⟩ : ∃ y, (M2.bump 27).put W (.cells 5 ((wantC n f).set k (.int .u8 b))) = y := ⟨_, rfl⟩
          obtain ⟨M4, e4⟩ : ∃ y, M3.put W (.cells 5 (((wantC n f).set k (.int .u8 b)).set (k + 1) (.int .u8 (incB b)))) = y := ⟨_, rfl⟩
          obtain ⟨M5, e5⟩ : ∃ y, M4.put w (.cells 4 ((writC n f).set k (.bool true))) = y := ⟨_, rfl⟩
          obtain ⟨M6, e6⟩ : ∃ y, M5.put w (.cells 4 (((writC n f).set k (.bool true)).set (k + 1) (.bool true))) = y := ⟨_, rfl⟩
          have hWlt := h.Wlt
          have hwlt := h.wlt
          have n6 : M6.nx = M2.nx + 27 := by rw [← e6, ← e5, ← e4, ← e3]; rfl
          have m3 : M3.mem W = some (.cells 5 ((wantC n f).set k (.int .u8 b))) := by rw [← e3]; exact put_same ..
          have m4 : M4.mem w = some (.cells 4 (writC n f)) := by rw [← e4, put_ne _ _ _ _ h.ne.symm, ← e3, put_ne _ _ _ _ h.ne.symm]; exact w4
          have m5 : M5.mem w = some (.cells 4 ((writC n f).set k (.bool true))) := by rw [← e5]; exact put_same ..
          have hBS := w5 M6 (by omega) (fun y h1 h2 => by rw [← e6, put_ne _ _ _ _ h2, ← e5, put_ne _ _ _ _ h2, ← e4, put_ne _ _ _ _ h1, ← e3, put_ne _ _ _ _ h1]; rfl)
            (by rw [← e6, put_ne _ _ _ _ h.ne, ← e5, put_ne _ _ _ _ h.ne, ← e4, put_same, wantC_set, wantC_set]) (by rw [← e6, put_same, writC_set n k f b, writC_set n (k + 1) _ (incB b)])
          obtain ⟨M', hrec⟩ := b_loop n hn W w ats bs ha hb hal hbl r (i + 1) fuel M6 _ hBS (by omega) (by omega)
          rw [ec] at hrec
          refine ⟨M', ?_⟩
          have lw : (wantC n f).length = n := wantC_len n f
          have lv : (writC n f).length = n := writC_len n f
          unfold b3_3
          repeat (first | rw [da] | rw [db] | (with_reducible refine rn_add (q := .u8) ?_) | ((with_reducible refine rn_mksl (cs := [.int .u8 b, .int .u8 (incB b)]) e1 ?_ ?_); focus exact rfl) | (with_reducible refine rn_bnd w1' ?_) | ((with_reducible refine rn_st1 (t := 5) (cs := wantC n f) (cs' := (wantC n f).set k (.int .u8 b)) ?_ ?_ ?_ ?_ ?_ ?_); (focus omega); (focus exact w3); (focus exact ⟨Nat.zero_le _, rfl, rfl⟩); (focus (rw [lw]; omega)); (focus (rw [show 0 + (k : Int).toNat * 1 = k by omega]; exact setAt1 _ _ _ (by omega)))) | rw [e3] | ((with_reducible refine rn_st1 (t := 5) (cs := (wantC n f).set k (.int .u8 b)) (cs' := ((wantC n f).set k (.int .u8 b)).set (k + 1) (.int .u8 (incB b))) ?_ ?_ ?_ ?_ ?_ ?_); (focus omega); (focus exact m3); (focus exact ⟨Nat.zero_le _, rfl, rfl⟩); (focus (rw [List.length_set, lw]; omega)); (focus (rw [show 0 + ((k : Int) + 1).toNat * 1 = k + 1 by omega]; exact setAt1 _ _ _ (by rw [List.length_set]; omega)))) | rw [e4] | ((with_reducible refine rn_st1 (t := 4) (cs := writC n f) (cs' := (writC n f).set k (.bool true)) ?_ ?_ ?_ ?_ ?_ ?_); (focus omega); (focus exact m4); (focus exact ⟨Nat.zero_le _, rfl, rfl⟩); (focus (rw [lv]; omega)); (focus (rw [show 0 + (k : Int).toNat * 1 = k by omega]; exact setAt1 _ _ _ (by omega)))) | rw [e5] | ((with_reducible refine rn_st1 (t := 4) (cs := (writC n f).set k (.bool true)) (cs' := ((writC n f).set k (.bool true)).set (k + 1) (.bool true)) ?_ ?_ ?_ ?_ ?_ ?_); (focus omega); (focus exact m5); (focus exact ⟨Nat.zero_le _, rfl, rfl⟩); (focus (rw [List.length_set, lv]; omega)); (focus (rw [show 0 + ((k : Int) + 1).toNat * 1 = k + 1 by omega]; exact setAt1 _ _ _ (by rw [List.length_set]; omega)))) | rw [e6] | with_reducible refine rn_bsome ?_ | with_reducible refine rn_some ?_ | with_reducible refine rn_if_t ?_ | with_reducible refine rn_if_f ?_ | with_reducible refine rn_gtt ?_ | with_reducible refine rn_gff ?_ | with_reducible refine rn_gtf ?_ | with_reducible refine rn_gft ?_ | with_reducible refine rn_gun ?_ | with_reducible refine rn_ibin ?_ | with_reducible refine rn_iun ?_ | with_reducible refine rn_ipick ?_ | with_reducible refine rn_icvi ?_ | with_reducible refine rn_ild1 ?_ | with_reducible refine rn_inilc ?_ | with_reducible refine rn_ifad ?_ | with_reducible refine rn_iext ?_ | with_reducible refine rn_ilens ?_ | with_reducible refine rn_ilen ?_ | with_reducible refine rn_iixs ?_ | with_reducible refine rn_iixc ?_ | with_reducible refine rn_pt ?_ | with_reducible refine rn_pf ?_ | with_reducible refine rn_eqb_tt ?_ | with_reducible refine rn_eqb_ff ?_ | with_reducible refine rn_eqb_tf ?_ | with_reducible refine rn_eqb_ft ?_ | with_reducible refine rn_neb_tt ?_ | with_reducible refine rn_neb_ff ?_ | with_reducible refine rn_neb_tf ?_ | with_reducible refine rn_neb_ft ?_ | with_reducible refine rn_not_t ?_ | with_reducible refine rn_not_f ?_ | with_reducible refine rn_eqp1 ?_ | with_reducible refine rn_eqp2 ?_ | with_reducible refine rn_eqp3 ?_ | with_reducible refine rn_nep1 ?_ | with_reducible refine rn_nep2 ?_ | with_reducible refine rn_ext0 ?_ | with_reducible refine rn_ext1 ?_ | with_reducible refine rn_ext2 ?_ | with_reducible refine rn_ext3 ?_ | with_reducible refine rn_len_sl ?_ | with_reducible refine rn_len_nil ?_ | with_reducible refine rn_len_os ?_ | with_reducible refine rn_lens ?_ | with_reducible refine rn_nilc ?_ | with_reducible refine rn_nilci ?_ | with_reducible refine rn_fad ?_ | with_reducible refine rn_fadi ?_ | with_reducible refine rn_ldi ?_ | ((with_reducible refine rn_add64 ?_ ?_); focus omega) | ((with_reducible refine rn_sub64 ?_ ?_); focus omega) | ((with_reducible refine rn_mul64 ?_ ?_); focus omega) | ((with_reducible refine rn_addu ?_ ?_); focus omega) | ((with_reducible refine rn_subu ?_ ?_); focus omega) | ((with_reducible refine rn_mulu ?_ ?_); focus omega) | ((with_reducible refine rn_add8 ?_ ?_); focus omega) | ((with_reducible refine rn_sub8 ?_ ?_); focus omega) | ((with_reducible refine rn_rem ?_ ?_); focus omega) | ((with_reducible refine rn_quo64 ?_ ?_); focus omega) | ((with_reducible refine rn_quou ?_ ?_); focus omega) | ((with_reducible refine rn_quo8 ?_ ?_); focus omega) | ((with_reducible refine rn_eql_t ?_ ?_); focus omega) | ((with_reducible refine rn_eql_f ?_ ?_); focus omega) | ((with_reducible refine rn_neq_t ?_ ?_); focus omega) | ((with_reducible refine rn_neq_f ?_ ?_); focus omega) | ((with_reducible refine rn_lss_t ?_ ?_); focus omega) | ((with_reducible refine rn_lss_f ?_ ?_); focus omega) | ((with_reducible refine rn_leq_t ?_ ?_); focus omega) | ((with_reducible refine rn_leq_f ?_ ?_); focus omega) | ((with_reducible refine rn_gtr_t ?_ ?_); focus omega) | ((with_reducible refine rn_gtr_f ?_ ?_); focus omega) | ((with_reducible refine rn_geq_t ?_ ?_); focus omega) | ((with_reducible refine rn_geq_f ?_ ?_); focus omega) | ((with_reducible refine rn_cvi64 ?_ ?_); focus omega) | ((with_reducible refine rn_cviu ?_ ?_); focus omega) | ((with_reducible refine rn_cvi8 ?_ ?_); focus omega) | ((with_reducible refine rn_ixs ?_ ?_); focus omega) | ((with_reducible refine rn_ixsl ?_ ?_); focus omega) | ((with_reducible refine rn_shr ?_ ?_); focus omega))
          unfold b3_4
          repeat (first | with_reducible refine rn_bsome ?_ | with_reducible refine rn_some ?_ | with_reducible refine rn_if_t ?_ | with_reducible refine rn_if_f ?_ | with_reducible refine rn_gtt ?_ | with_reducible refine rn_gff ?_ | with_reducible refine rn_gtf ?_ | with_reducible refine rn_gft ?_ | with_reducible refine rn_gun ?_ | with_reducible refine rn_ibin ?_ | with_reducible refine rn_iun ?_ | with_reducible refine rn_ipick ?_ | with_reducible refine rn_icvi ?_ | with_reducible refine rn_ild1 ?_ | with_reducible refine rn_inilc ?_ | with_reducible refine rn_ifad ?_ | with_reducible refine rn_iext ?_ | with_reducible refine rn_ilens ?_ | with_reducible refine rn_ilen ?_ | with_reducible refine rn_iixs ?_ | with_reducible refine rn_iixc ?_ | with_reducible refine rn_pt ?_ | with_reducible refine rn_pf ?_ | with_reducible refine rn_eqb_tt ?_ | with_reducible refine rn_eqb_ff ?_ | with_reducible refine rn_eqb_tf ?_ | with_reducible refine rn_eqb_ft ?_ | with_reducible refine rn_neb_tt ?_ | with_reducible refine rn_neb_ff ?_ | with_reducible refine rn_neb_tf ?_ | with_reducible refine rn_neb_ft ?_ | with_reducible refine rn_not_t ?_ | with_reducible refine rn_not_f ?_ | with_reducible refine rn_eqp1 ?_ | with_reducible refine rn_eqp2 ?_ | with_reducible refine rn_eqp3 ?_ | with_reducible refine rn_nep1 ?_ | with_reducible refine rn_nep2 ?_ | with_reducible refine rn_ext0 ?_ | with_reducible refine rn_ext1 ?_ | with_reducible refine rn_ext2 ?_ | with_reducible refine rn_ext3 ?_ | with_reducible refine rn_len_sl ?_ | with_reducible refine rn_len_nil ?_ | with_reducible refine rn_len_os ?_ | with_reducible refine rn_lens ?_ | with_reducible refine rn_nilc ?_ | with_reducible refine rn_nilci ?_ | with_reducible refine rn_fad ?_ | with_reducible refine rn_fadi ?_ | with_reducible refine rn_ldi ?_ | ((with_reducible refine rn_add64 ?_ ?_); focus omega) | ((with_reducible refine rn_sub64 ?_ ?_); focus omega) | ((with_reducible refine rn_mul64 ?_ ?_); focus omega) | ((with_reducible refine rn_addu ?_ ?_); focus omega) | ((with_reducible refine rn_subu ?_ ?_); focus omega) | ((with_reducible refine rn_mulu ?_ ?_); focus omega) | ((with_reducible refine rn_add8 ?_ ?_); focus omega) | ((with_reducible refine rn_sub8 ?_ ?_); focus omega) | ((with_reducible refine rn_rem ?_ ?_); focus omega) | ((with_reducible refine rn_quo64 ?_ ?_); focus omega) | ((with_reducible refine rn_quou ?_ ?_); focus omega) | ((with_reducible refine rn_quo8 ?_ ?_); focus omega) | ((with_reducible refine rn_eql_t ?_ ?_); focus omega) | ((with_reducible refine rn_eql_f ?_ ?_); focus omega) | ((with_reducible refine rn_neq_t ?_ ?_); focus omega) | ((with_reducible refine rn_neq_f ?_ ?_); focus omega) | ((with_reducible refine rn_lss_t ?_ ?_); focus omega) | ((with_reducible refine rn_lss_f ?_ ?_); focus omega) | ((with_reducible refine rn_leq_t ?_ ?_); focus omega) | ((with_reducible refine rn_leq_f ?_ ?_); focus omega) | ((with_reducible refine rn_gtr_t ?_ ?_); focus omega) | ((with_reducible refine rn_gtr_f ?_ ?_); focus omega) | ((with_reducible refine rn_geq_t ?_ ?_); focus omega) | ((with_reducible refine rn_geq_f ?_ ?_); focus omega) | ((with_reducible refine rn_cvi64 ?_ ?_); focus omega) | ((with_reducible refine rn_cviu ?_ ?_); focus omega) | ((with_reducible refine rn_cvi8 ?_ ?_); focus omega) | ((with_reducible refine rn_ixs ?_ ?_); focus omega) | ((with_reducible refine rn_ixsl ?_ ?_); focus omega) | ((with_reducible refine rn_shr ?_ ?_); focus omega))
          exact hrec
        · obtain ⟨w1, w2⟩ := hw (by omega)
          have w1' := rwD_ok w1 (Nat.le_refl _)
          obtain ⟨M', hrec⟩ := b_loop n hn W w ats bs ha hb hal hbl r (i + 1) fuel M1 _ w2 (by omega) (by omega)
          rw [ec] at hrec
          refine ⟨M', ?_⟩
          unfold b3_3
          repeat (first | rw [da] | rw [db] | (with_reducible refine rn_add (q := .u8) ?_) | ((with_reducible refine rn_mksl (cs := [.int .u8 b, .int .u8 (incB b)]) e1 ?_ ?_); focus exact rfl) | (with_reducible refine rn_bnd w1' ?_) | with_reducible refine rn_bsome ?_ | with_reducible refine rn_some ?_ | with_reducible refine rn_if_t ?_ | with_reducible refine rn_if_f ?_ | with_reducible refine rn_gtt ?_ | with_reducible refine rn_gff ?_ | with_reducible refine rn_gtf ?_ | with_reducible refine rn_gft ?_ | with_reducible refine rn_gun ?_ | with_reducible refine rn_ibin ?_ | with_reducible refine rn_iun ?_ | with_reducible refine rn_ipick ?_ | with_reducible refine rn_icvi ?_ | with_reducible refine rn_ild1 ?_ | with_reducible refine rn_inilc ?_ | with_reducible refine rn_ifad ?_ | with_reducible refine rn_iext ?_ | with_reducible refine rn_ilens ?_ | with_reducible refine rn_ilen ?_ | with_reducible refine rn_iixs ?_ | with_reducible refine rn_iixc ?_ | with_reducible refine rn_pt ?_ | with_reducible refine rn_pf ?_ | with_reducible refine rn_eqb_tt ?_ | with_reducible refine rn_eqb_ff ?_ | with_reducible refine rn_eqb_tf ?_ | with_reducible refine rn_eqb_ft ?_ | with_reducible refine rn_neb_tt ?_ | with_reducible refine rn_neb_ff ?_ | with_reducible refine rn_neb_tf ?_ | with_reducible refine rn_neb_ft ?_ | with_reducible refine rn_not_t ?_ | with_reducible refine rn_not_f ?_ | with_reducible refine rn_eqp1 ?_ | with_reducible refine rn_eqp2 ?_ | with_reducible refine rn_eqp3 ?_ | with_reducible refine rn_nep1 ?_ | with_reducible refine rn_nep2 ?_ | with_reducible refine rn_ext0 ?_ | with_reducible refine rn_ext1 ?_ | with_reducible refine rn_ext2 ?_ | with_reducible refine rn_ext3 ?_ | with_reducible refine rn_len_sl ?_ | with_reducible refine rn_len_nil ?_ | with_reducible refine rn_len_os ?_ | with_reducible refine rn_lens ?_ | with_reducible refine rn_nilc ?_ | with_reducible refine rn_nilci ?_ | with_reducible refine rn_fad ?_ | with_reducible refine rn_fadi ?_ | with_reducible refine rn_ldi ?_ | ((with_reducible refine rn_add64 ?_ ?_); focus omega) | ((with_reducible refine rn_sub64 ?_ ?_); focus omega) | ((with_reducible refine rn_mul64 ?_ ?_); focus omega) | ((with_reducible refine rn_addu ?_ ?_); focus omega) | ((with_reducible refine rn_subu ?_ ?_); focus omega) | ((with_reducible refine rn_mulu ?_ ?_); focus omega) | ((with_reducible refine rn_add8 ?_ ?_); focus omega) | ((with_reducible refine rn_sub8 ?_ ?_); focus omega) | ((with_reducible refine rn_rem ?_ ?_); focus omega) | ((with_reducible refine rn_quo64 ?_ ?_); focus omega) | ((with_reducible refine rn_quou ?_ ?_); focus omega) | ((with_reducible refine rn_quo8 ?_ ?_); focus omega) | ((with_reducible refine rn_eql_t ?_ ?_); focus omega) | ((with_reducible refine rn_eql_f ?_ ?_); focus omega) | ((with_reducible refine rn_neq_t ?_ ?_); focus omega) | ((with_reducible refine rn_neq_f ?_ ?_); focus omega) | ((with_reducible refine rn_lss_t ?_ ?_); focus omega) | ((with_reducible refine rn_lss_f ?_ ?_); focus omega) | ((with_reducible refine rn_leq_t ?_ ?_); focus omega) | ((with_reducible refine rn_leq_f ?_ ?_); focus omega) | ((with_reducible refine rn_gtr_t ?_ ?_); focus omega) | ((with_reducible refine rn_gtr_f ?_ ?_); focus omega) | ((with_reducible refine rn_geq_t ?_ ?_); focus omega) | ((with_reducible refine rn_geq_f ?_ ?_); focus omega) | ((with_reducible refine rn_cvi64 ?_ ?_); focus omega) | ((with_reducible refine rn_cviu ?_ ?_); focus omega) | ((with_reducible refine rn_cvi8 ?_ ?_); focus omega) | ((with_reducible refine rn_ixs ?_ ?_); focus omega) | ((with_reducible refine rn_ixsl ?_ ?_); focus omega) | ((with_reducible refine rn_shr ?_ ?_); focus omega))
          unfold b3_4
          repeat (first | with_reducible refine rn_bsome ?_ | with_reducible refine rn_some ?_ | with_reducible refine rn_if_t ?_ | with_reducible refine rn_if_f ?_ | with_reducible refine rn_gtt ?_ | with_reducible refine rn_gff ?_ | with_reducible refine rn_gtf ?_ | with_reducible refine rn_gft ?_ | with_reducible refine rn_gun ?_ | with_reducible refine rn_ibin ?_ | with_reducible refine rn_iun ?_ | with_reducible refine rn_ipick ?_ | with_reducible refine rn_icvi ?_ | with_reducible refine rn_ild1 ?_ | with_reducible refine rn_inilc ?_ | with_reducible refine rn_ifad ?_ | with_reducible refine rn_iext ?_ | with_reducible refine rn_ilens ?_ | with_reducible refine rn_ilen ?_ | with_reducible refine rn_iixs ?_ | with_reducible refine rn_iixc ?_ | with_reducible refine rn_pt ?_ | with_reducible refine rn_pf ?_ | with_reducible refine rn_eqb_tt ?_ | with_reducible refine rn_eqb_ff ?_ | with_reducible refine rn_eqb_tf ?_ | with_reducible refine rn_eqb_ft ?_ | with_reducible refine rn_neb_tt ?_ | with_reducible refine rn_neb_ff ?_ | with_reducible refine rn_neb_tf ?_ | with_reducible refine rn_neb_ft ?_ | with_reducible refine rn_not_t ?_ | with_reducible refine rn_not_f ?_ | with_reducible refine rn_eqp1 ?_ | with_reducible refine rn_eqp2 ?_ | with_reducible refine rn_eqp3 ?_ | with_reducible refine rn_nep1 ?_ | with_reducible refine rn_nep2 ?_ | with_reducible refine rn_ext0 ?_ | with_reducible refine rn_ext1 ?_ | with_reducible refine rn_ext2 ?_ | with_reducible refine rn_ext3 ?_ | with_reducible refine rn_len_sl ?_ | with_reducible refine rn_len_nil ?_ | with_reducible refine rn_len_os ?_ | with_reducible refine rn_lens ?_ | with_reducible refine rn_nilc ?_ | with_reducible refine rn_nilci ?_ | with_reducible refine rn_fad ?_ | with_reducible refine rn_fadi ?_ | with_reducible refine rn_ldi ?_ | ((with_reducible refine rn_add64 ?_ ?_); focus omega) | ((with_reducible refine rn_sub64 ?_ ?_); focus omega) | ((with_reducible refine rn_mul64 ?_ ?_); focus omega) | ((with_reducible refine rn_addu ?_ ?_); focus omega) | ((with_reducible refine rn_subu ?_ ?_); focus omega) | ((with_reducible refine rn_mulu ?_ ?_); focus omega) | ((with_reducible refine rn_add8 ?_ ?_); focus omega) | ((with_reducible refine rn_sub8 ?_ ?_); focus omega) | ((with_reducible refine rn_rem ?_ ?_); focus omega) | ((with_reducible refine rn_quo64 ?_ ?_); focus omega) | ((with_reducible refine rn_quou ?_ ?_); focus omega) | ((with_reducible refine rn_quo8 ?_ ?_); focus omega) | ((with_reducible refine rn_eql_t ?_ ?_); focus omega) | ((with_reducible refine rn_eql_f ?_ ?_); focus omega) | ((with_reducible refine rn_neq_t ?_ ?_); focus omega) | ((with_reducible refine rn_neq_f ?_ ?_); focus omega) | ((with_reducible refine rn_lss_t ?_ ?_); focus omega) | ((with_reducible refine rn_lss_f ?_ ?_); focus omega) | ((with_reducible refine rn_leq_t ?_ ?_); focus omega) | ((with_reducible refine rn_leq_f ?_ ?_); focus omega) | ((with_reducible refine rn_gtr_t ?_ ?_); focus omega) | ((with_reducible refine rn_gtr_f ?_ ?_); focus omega) | ((with_reducible refine rn_geq_t ?_ ?_); focus omega) | ((with_reducible refine rn_geq_f ?_ ?_); focus omega) | ((with_reducible refine rn_cvi64 ?_ ?_); focus omega) | ((with_reducible refine rn_cviu ?_ ?_); focus omega) | ((with_reducible refine rn_cvi8 ?_ ?_); focus omega) | ((with_reducible refine rn_ixs ?_ ?_); focus omega) | ((with_reducible refine rn_ixsl ?_ ?_); focus omega) | ((with_reducible refine rn_shr ?_ ?_); focus omega))
          exact hrec
      · obtain ⟨M', hfin⟩ := fin
        refine ⟨M', ?_⟩
        unfold b3_3
        repeat (first | with_reducible refine rn_bsome ?_ | with_reducible refine rn_some ?_ | with_reducible refine rn_if_t ?_ | with_reducible refine rn_if_f ?_ | with_reducible refine rn_gtt ?_ | with_reducible refine rn_gff ?_ | with_reducible refine rn_gtf ?_ | with_reducible refine rn_gft ?_ | with_reducible refine rn_gun ?_ | with_reducible refine rn_ibin ?_ | with_reducible refine rn_iun ?_ | with_reducible refine rn_ipick ?_ | with_reducible refine rn_icvi ?_ | with_reducible refine rn_ild1 ?_ | with_reducible refine rn_inilc ?_ | with_reducible refine rn_ifad ?_ | with_reducible refine rn_iext ?_ | with_reducible refine rn_ilens ?_ | with_reducible refine rn_ilen ?_ | with_reducible refine rn_iixs ?_ | with_reducible refine rn_iixc ?_ | with_reducible refine rn_pt ?_ | with_reducible refine rn_pf ?_ | with_reducible refine rn_eqb_tt ?_ | with_reducible refine rn_eqb_ff ?_ | with_reducible refine rn_eqb_tf ?_ | with_reducible refine rn_eqb_ft ?_ | with_reducible refine rn_neb_tt ?_ | with_reducible refine rn_neb_ff ?_ | with_reducible refine rn_neb_tf ?_ | with_reducible refine rn_neb_ft ?_ | with_reducible refine rn_not_t ?_ | with_reducible refine rn_not_f ?_ | with_reducible refine rn_eqp1 ?_ | with_reducible refine rn_eqp2 ?_ | with_reducible refine rn_eqp3 ?_ | with_reducible refine rn_nep1 ?_ | with_reducible refine rn_nep2 ?_ | with_reducible refine rn_ext0 ?_ | with_reducible refine rn_ext1 ?_ | with_reducible refine rn_ext2 ?_ | with_reducible refine rn_ext3 ?_ | with_reducible refine rn_len_sl ?_ | with_reducible refine rn_len_nil ?_ | with_reducible refine rn_len_os ?_ | with_reducible refine rn_lens ?_ | with_reducible refine rn_nilc ?_ | with_reducible refine rn_nilci ?_ | with_reducible refine rn_fad ?_ | with_reducible refine rn_fadi ?_ | with_reducible refine rn_ldi ?_ | ((with_reducible refine rn_add64 ?_ ?_); focus omega) | ((with_reducible refine rn_sub64 ?_ ?_); focus omega) | ((with_reducible refine rn_mul64 ?_ ?_); focus omega) | ((with_reducible refine rn_addu ?_ ?_); focus omega) | ((with_reducible refine rn_subu ?_ ?_); focus omega) | ((with_reducible refine rn_mulu ?_ ?_); focus omega) | ((with_reducible refine rn_add8 ?_ ?_); focus omega) | ((with_reducible refine rn_sub8 ?_ ?_); focus omega) | ((with_reducible refine rn_rem ?_ ?_); focus omega) | ((with_reducible refine rn_quo64 ?_ ?_); focus omega) | ((with_reducible refine rn_quou ?_ ?_); focus omega) | ((with_reducible refine rn_quo8 ?_ ?_); focus omega) | ((with_reducible refine rn_eql_t ?_ ?_); focus omega) | ((with_reducible refine rn_eql_f ?_ ?_); focus omega) | ((with_reducible refine rn_neq_t ?_ ?_); focus omega) | ((with_reducible refine rn_neq_f ?_ ?_); focus omega) | ((with_reducible refine rn_lss_t ?_ ?_); focus omega) | ((with_reducible refine rn_lss_f ?_ ?_); focus omega) | ((with_reducible refine rn_leq_t ?_ ?_); focus omega) | ((with_reducible refine rn_leq_f ?_ ?_); focus omega) | ((with_reducible refine rn_gtr_t ?_ ?_); focus omega) | ((with_reducible refine rn_gtr_f ?_ ?_); focus omega) | ((with_reducible refine rn_geq_t ?_ ?_); focus omega) | ((with_reducible refine rn_geq_f ?_ ?_); focus omega) | ((with_reducible refine rn_cvi64 ?_ ?_); focus omega) | ((with_reducible refine rn_cviu ?_ ?_); focus omega) | ((with_reducible refine rn_cvi8 ?_ ?_); focus omega) | ((with_reducible refine rn_ixs ?_ ?_); focus omega) | ((with_reducible refine rn_ixsl ?_ ?_); focus omega) | ((with_reducible refine rn_shr ?_ ?_); focus omega))
        exact hfin
    · obtain ⟨M', hfin⟩ := fin
      refine ⟨M', ?_⟩
      unfold b3_3
      repeat (first | with_reducible refine rn_bsome ?_ | with_reducible refine rn_some ?_ | with_reducible refine rn_if_t ?_ | with_reducible refine rn_if_f ?_ | with_reducible refine rn_gtt ?_ | with_reducible refine rn_gff ?_ | with_reducible refine rn_gtf ?_ | with_reducible refine rn_gft ?_ | with_reducible refine rn_gun ?_ | with_reducible refine rn_ibin ?_ | with_reducible refine rn_iun ?_ | with_reducible refine rn_ipick ?_ | with_reducible refine rn_icvi ?_ | with_reducible refine rn_ild1 ?_ | with_reducible refine rn_inilc ?_ | with_reducible refine rn_ifad ?_ | with_reducible refine rn_iext ?_ | with_reducible refine rn_ilens ?_ | with_reducible refine rn_ilen ?_ | with_reducible refine rn_iixs ?_ | with_reducible refine rn_iixc ?_ | with_reducible refine rn_pt ?_ | with_reducible refine rn_pf ?_ | with_reducible refine rn_eqb_tt ?_ | with_reducible refine rn_eqb_ff ?_ | with_reducible refine rn_eqb_tf ?_ | with_reducible refine rn_eqb_ft ?_ | with_reducible refine rn_neb_tt ?_ | with_reducible refine rn_neb_ff ?_ | with_reducible refine rn_neb_tf ?_ | with_reducible refine rn_neb_ft ?_ | with_reducible refine rn_not_t ?_ | with_reducible refine rn_not_f ?_ | with_reducible refine rn_eqp1 ?_ | with_reducible refine rn_eqp2 ?_ | with_reducible refine rn_eqp3 ?_ | with_reducible refine rn_nep1 ?_ | with_reducible refine rn_nep2 ?_ | with_reducible refine rn_ext0 ?_ | with_reducible refine rn_ext1 ?_ | with_reducible refine rn_ext2 ?_ | with_reducible refine rn_ext3 ?_ | with_reducible refine rn_len_sl ?_ | with_reducible refine rn_len_nil ?_ | with_reducible refine rn_len_os ?_ | with_reducible refine rn_lens ?_ | with_reducible refine rn_nilc ?_ | with_reducible refine rn_nilci ?_ | with_reducible refine rn_fad ?_ | with_reducible refine rn_fadi ?_ | with_reducible refine rn_ldi ?_ | ((with_reducible refine rn_add64 ?_ ?_); focus omega) | ((with_reducible refine rn_sub64 ?_ ?_); focus omega) | ((with_reducible refine rn_mul64 ?_ ?_); focus omega) | ((with_reducible refine rn_addu ?_ ?_); focus omega) | ((with_reducible refine rn_subu ?_ ?_); focus omega) | ((with_reducible refine rn_mulu ?_ ?_); focus omega) | ((with_reducible refine rn_add8 ?_ ?_); focus omega) | ((with_reducible refine rn_sub8 ?_ ?_); focus omega) | ((with_reducible refine rn_rem ?_ ?_); focus omega) | ((with_reducible refine rn_quo64 ?_ ?_); focus omega) | ((with_reducible refine rn_quou ?_ ?_); focus omega) | ((with_reducible refine rn_quo8 ?_ ?_); focus omega) | ((with_reducible refine rn_eql_t ?_ ?_); focus omega) | ((with_reducible refine rn_eql_f ?_ ?_); focus omega) | ((with_reducible refine rn_neq_t ?_ ?_); focus omega) | ((with_reducible refine rn_neq_f ?_ ?_); focus omega) | ((with_reducible refine rn_lss_t ?_ ?_); focus omega) | ((with_reducible refine rn_lss_f ?_ ?_); focus omega) | ((with_reducible refine rn_leq_t ?_ ?_); focus omega) | ((with_reducible refine rn_leq_f ?_ ?_); focus omega) | ((with_reducible refine rn_gtr_t ?_ ?_); focus omega) | ((with_reducible refine rn_gtr_f ?_ ?_); focus omega) | ((with_reducible refine rn_geq_t ?_ ?_); focus omega) | ((with_reducible refine rn_geq_f ?_ ?_); focus omega) | ((with_reducible refine rn_cvi64 ?_ ?_); focus omega) | ((with_reducible refine rn_cviu ?_ ?_); focus omega) | ((with_reducible refine rn_cvi8 ?_ ?_); focus omega) | ((with_reducible refine rn_ixs ?_ ?_); focus omega) | ((with_reducible refine rn_ixsl ?_ ?_); focus omega) | ((with_reducible refine rn_shr ?_ ?_); focus omega))
      exact hfin

omit hc in
theorem rn_mkslice {R : Type} {r : Option R} {mode : FuncId → Mode} {draw : Bool} {lo lim fresh : Nat} {ρ : List AV} {M : MM} {k : AV → MM → Option R} {t sz bytes n : Nat} {zero : List AV} {M1 : MM}
    (e : M.alloc fresh (.cells t ((List.replicate n zero).flatten)) = M1) (h : n ≤ 9223372036854775807 ∧ bytes * n ≤ 281474976710656) (hk : k (.os fresh 0 n sz) M1 = r) :
    bnd (istep call mode draw lo lim fresh (.mkslice t sz bytes zero (.k (.i n)) (.k (.i n))) ρ M) k = r := by
  subst e
  refine rn_bnd (v := .os fresh 0 n sz) (M := M.alloc fresh (.cells t ((List.replicate n zero).flatten))) ?_ hk
  simp only [istep, ev, asI]
  rw [if_pos (by refine ⟨by omega, by omega, by omega, ?_⟩; have := h.2; rw [← Int.natCast_mul]; omega)]
  simp

omit hc in
theorem want0 (n : Nat) : (List.replicate n [AV.int .u8 0]).flatten = wantC n (fun _ => none) := by
  unfold wantC
  induction n with
  | zero => rfl
  | succ n ih => rw [List.replicate_succ', List.flatten_append, ih, List.range_succ, List.map_append]; rfl
omit hc in
theorem writ0 (n : Nat) : (List.replicate n [AV.bool false]).flatten = writC n (fun _ => none) := by
  unfold writC
  induction n with
  | zero => rfl
  | succ n ih => rw [List.replicate_succ', List.flatten_append, ih, List.range_succ, List.map_append]; rfl

omit hc in
theorem CK.new {M : MM} {m : Nat} {own : Nat → Prop} (h : M.mem m = some (.map (.int .i64) [])) (hl : m < M.nx) (ho : own m) : CK M m (fun _ => none) own [] :=
  ⟨h, hl, ho, fun _ _ _ _ => rfl, fun q a ha => by simp [findM] at ha, fun q q' c ha => by simp [findM] at ha⟩

theorem bytes_ok (n : Nat) (hn : n ≤ 255) (ats bs : List Int) (ha : ∀ a ∈ ats, 0 ≤ a ∧ a ≤ 255) (hb : ∀ b ∈ bs, 0 ≤ b ∧ b ≤ 255) (hal : (ats.length : Int) ≤ 9223372036854775807) (hbl : (bs.length : Int) ≤ 9223372036854775807) :
    ∃ M', call 3 [.int .u8 n, .d (.sl (ats.map fun n => .v (.int .u8 n)) ats.length), .d (.sl (bs.map fun n => .v (.int .u8 n)) bs.length)] 0 mm0 = some (.bool true, M') := by
  have hG : G.nl = 18446744073709551616 := rfl
  rw [q3 hc]; unfold s3
  by_cases h1 : ats.length ≤ 60
  · by_cases h2 : bs.length ≤ 60
    · -- two objects
      obtain ⟨M1, s1, m1, r1, n1, g1, k1, f1⟩ := make_ok hc mr_new (by simp) n 0 (by omega) (by omega) (by omega)
      simp only [List.nil_append, List.length_nil, Nat.zero_add] at r1 m1
      obtain ⟨M2, s2, m2, r2, n2, g2, k2, f2⟩ := make_ok hc r1 (by simp) 5 0 (by omega) (by omega) (by omega)
      simp only [List.cons_append, List.nil_append, List.length_cons, List.length_nil, Nat.zero_add] at r2 m2
      have en : mmNew.nx = 1 := rfl
      rw [en] at r1 r2 g1 k1 n1
      have hs1 : s1 < M1.nx ∧ s1 ≠ 0 := by
        rcases r1.sli with ⟨e, _⟩ | ⟨sid', e, _, h, h', _⟩
        · cases e
        · cases e; exact ⟨h', h⟩
      have hs2 : s2 < M2.nx ∧ s2 ≠ 0 := by
        rcases r2.sli with ⟨e, _⟩ | ⟨sid', e, _, h, h', _⟩
        · cases e
        · cases e; exact ⟨h', h⟩
      have o1 := r1.olt _ (List.mem_cons_self ..)
      simp only at o1
      have g1' : M2.mem 1 = some (.map (.int .i64) []) := by rw [f2 1 (by omega) (by omega) (fun sid off len sz e => by cases e; omega)]; exact g1
      have c1 : CK M2 1 (fun _ => none) (fun y => y = 1) [] := CK.new g1' (by omega) rfl
      have ob2 := r2.olt ⟨M1.nx + 1, true, 5, 0, 1, .mp M1.nx⟩ (by simp)
      simp only at ob2
      have c2 : CK M2 M1.nx (fun _ => none) (fun y => y = M1.nx) [] := CK.new g2 (by omega) rfl
      -- five bytes
      obtain ⟨M3, e3⟩ : ∃ y, M2.alloc M2.nx (.cells 5 [.int .u8 1, .int .u8 2, .int .u8 3, .int .u8 4, .int .u8 5]) = y := ⟨_, rfl⟩
      have n3 : M3.nx = M2.nx + 1 := by rw [← e3]; exact alloc_nx ..
      have x3 : ∀ y, y < M2.nx → M3.mem y = M2.mem y := fun y hy => by rw [← e3]; exact alloc_ne _ _ _ hy
      have r3 := r2.alloc (.cells 5 [.int .u8 1, .int .u8 2, .int .u8 3, .int .u8 4, .int .u8 5])
      rw [e3] at r3
      have c1' := c1.frame (M' := M3) (by omega) (fun y _ hy => x3 y hy)
      have c2' := c2.frame (M' := M3) (by omega) (fun y _ hy => x3 y hy)
      have hbx : BX M3 (fun y => y = M1.nx) (.os M2.nx 0 5 1) [1, 2, 3, 4, 5] := BX.os (bs := [1, 2, 3, 4, 5]) (t := 5) (by omega) (by omega) (by rw [← e3]; exact alloc_same ..)
      obtain ⟨M4, es4, w1, w2, w3, w4⟩ := write_ok hc r3 (by simp) 1 ⟨M1.nx + 1, true, 5, 0, 1, .mp M1.nx⟩ rfl rfl (by simp) rfl c2' (.os M2.nx 0 5 1) [1, 2, 3, 4, 5] (fun b hb => by simp at hb; omega) hbx 0 (by simp) (by simp)
      have r4 : MR 0 M4 _ _ _ := r3.frame w2 (w4 0 (by omega) (by omega)) (fun sid off len sz e => by cases e; exact w4 _ (by omega) (fun e => by
        rcases r2.sli with ⟨e', _⟩ | ⟨sid', e', _, h, h', h''⟩
        · cases e'
        · cases e'; omega)) (fun o ho => by
          have := r2.olt o ho
          refine w4 _ (by omega) ?_
          simp only [List.mem_cons, List.not_mem_nil, or_false] at ho
          rcases ho with rfl | rfl
          · show ¬ (1 + 1 = M1.nx); omega
          · show ¬ (M1.nx + 1 = M1.nx); omega)
      have c1'' := c1'.frame (M' := M4) w2 (fun y hy h => w4 y h (by omega))
      -- the slices
      obtain ⟨M5, e5⟩ : ∃ y, (M4.bump 6).alloc (M4.nx + 1) (.cells 5 ((List.replicate n [AV.int .u8 0]).flatten)) = y := ⟨_, rfl⟩
      obtain ⟨M6, e6⟩ : ∃ y, M5.alloc (M4.nx + 3) (.cells 4 ((List.replicate n [AV.bool false]).flatten)) = y := ⟨_, rfl⟩
      have n6 : M6.nx = M4.nx + 6 := by rw [← e6, ← e5]; show max (max (M4.nx + 6) (M4.nx + 1 + 1)) (M4.nx + 3 + 1) = _; omega
      have x6 : ∀ y, y < M4.nx → M6.mem y = M4.mem y := fun y hy => by
        rw [← e6, ← e5]; show upd (upd M4.mem _ _) _ _ y = _; rw [upd_ne _ _ _ _ (by omega), upd_ne _ _ _ _ (by omega)]
      have hsW : s2 < M4.nx := by omega
      have bs6 : BS M6 n (fun _ => none) (M4.nx + 1) (M4.nx + 3) := by
        refine ⟨⟨⟨1 + 1, true, n, 0, 1, .mp 1⟩, ⟨M1.nx + 1, true, 5, 0, 1, .mp M1.nx⟩, 1, M1.nx, .os s2 0 2 1, fun y => y = 1, fun y => (y = M1.nx ∨ M3.nx ≤ y) ∧ y < M4.nx, [], es4,
          r4.frame (by omega) (x6 _ (by omega)) (fun sid off len sz e => by cases e; exact x6 _ hsW) (fun o ho => x6 _ (r4.olt o ho)), rfl, rfl, rfl, rfl, rfl, rfl, c1''.frame (by omega) (fun y _ h => x6 y h), ?_, ?_, ?_, ?_⟩, by omega, by omega, by omega, ?_, ?_⟩
        · have q := w3.frame (M' := M6) (by omega) (fun y _ h => x6 y h)
          refine ⟨q.map, q.mlt, ⟨w3.mown, w3.mlt⟩, q.none', fun i a ha => ?_, q.inj⟩
          obtain ⟨c, cs, p1, p2, p3, p4, p5, p6⟩ := q.some' i a ha
          obtain ⟨c', cs', p1', _, _, p4', _⟩ := w3.some' i a ha
          rw [p1] at p1'; cases p1'
          exact ⟨c, cs, p1, ⟨p2, p4'⟩, p3, p4, p5, p6⟩
        · rintro y rfl
          exact ⟨by omega, by show ¬ 1 = 1 + 1; omega, by show ¬ 1 = M1.nx + 1; omega, fun off len sz e => by cases e; omega, fun h => by omega, by omega, by omega⟩
        · exact ⟨by omega, by show ¬ M4.nx + 1 = 1 + 1; omega, by show ¬ M4.nx + 1 = M1.nx + 1; omega, fun off len sz e => by cases e; omega, fun h => by omega⟩
        · exact ⟨by omega, by show ¬ M4.nx + 3 = 1 + 1; omega, by show ¬ M4.nx + 3 = M1.nx + 1; omega, fun off len sz e => by cases e; omega, fun h => by omega⟩
        · rw [← want0, ← e6]; show upd M5.mem _ _ _ = _; rw [upd_ne _ _ _ _ (by omega), ← e5]; exact upd_same ..
        · rw [← writ0, ← e6]; exact upd_same ..
      obtain ⟨M', hrec⟩ := b_loop hc n hn (M4.nx + 1) (M4.nx + 3) ats bs ha hb h1 h2 61 0 G.nl M6 _ bs6 (by omega) (by rw [hG]; omega)
      refine ⟨M', ?_⟩
      have m1' : call 10 [.ptr 0 0, .i (n : Int), .i 0] 0 mmNew = some (.tup [.int .u64 8, .i 0], M1) := m1
      have m2' : call 10 [.ptr 0 0, .i 5, .i 0] 0 M1 = some (.tup [.int .u64 16, .i 0], M2) := m2
      have w1' : call 11 [.ptr 0 0, .int .u64 16, .i 0, .os M2.nx 0 5 1] 0 M3 = some (.i 0, M4) := w1
      repeat (first | (with_reducible refine rn_bnd (new_lim hc) ?_) | (with_reducible refine rn_bnd m1' ?_) | (with_reducible refine rn_bnd m2' ?_) | ((with_reducible refine rn_mksl (cs := [.int .u8 1, .int .u8 2, .int .u8 3, .int .u8 4, .int .u8 5]) e3 ?_ ?_); focus exact rfl) | (with_reducible refine rn_bnd w1' ?_) | ((with_reducible refine rn_mkslice e5 ?_ ?_); focus omega) | ((with_reducible refine rn_mkslice e6 ?_ ?_); focus omega) | with_reducible refine rn_bsome ?_ | with_reducible refine rn_some ?_ | with_reducible refine rn_if_t ?_ | with_reducible refine rn_if_f ?_ | with_reducible refine rn_gtt ?_ | with_reducible refine rn_gff ?_ | with_reducible refine rn_gtf ?_ | with_reducible refine rn_gft ?_ | with_reducible refine rn_gun ?_ | with_reducible refine rn_ibin ?_ | with_reducible refine rn_iun ?_ | with_reducible refine rn_ipick ?_ | with_reducible refine rn_icvi ?_ | with_reducible refine rn_ild1 ?_ | with_reducible refine rn_inilc ?_ | with_reducible refine rn_ifad ?_ | with_reducible refine rn_iext ?_ | with_reducible refine rn_ilens ?_ | with_reducible refine rn_ilen ?_ | with_reducible refine rn_iixs ?_ | with_reducible refine rn_iixc ?_ | with_reducible refine rn_pt ?_ | with_reducible refine rn_pf ?_ | with_reducible refine rn_eqb_tt ?_ | with_reducible refine rn_eqb_ff ?_ | with_reducible refine rn_eqb_tf ?_ | with_reducible refine rn_eqb_ft ?_ | with_reducible refine rn_neb_tt ?_ | with_reducible refine rn_neb_ff ?_ | with_reducible refine rn_neb_tf ?_ | with_reducible refine rn_neb_ft ?_ | with_reducible refine rn_not_t ?_ | with_reducible refine rn_not_f ?_ | with_reducible refine rn_eqp1 ?_ | with_reducible refine rn_eqp2 ?_ | with_reducible refine rn_eqp3 ?_ | with_reducible refine rn_nep1 ?_ | with_reducible refine rn_nep2 ?_ | with_reducible refine rn_ext0 ?_ | with_reducible refine rn_ext1 ?_ | with_reducible refine rn_ext2 ?_ | with_reducible refine rn_ext3 ?_ | with_reducible refine rn_len_sl ?_ | with_reducible refine rn_len_nil ?_ | with_reducible refine rn_len_os ?_ | with_reducible refine rn_lens ?_ | with_reducible refine rn_nilc ?_ | with_reducible refine rn_nilci ?_ | with_reducible refine rn_fad ?_ | with_reducible refine rn_fadi ?_ | with_reducible refine rn_ldi ?_ | ((with_reducible refine rn_add64 ?_ ?_); focus omega) | ((with_reducible refine rn_sub64 ?_ ?_); focus omega) | ((with_reducible refine rn_mul64 ?_ ?_); focus omega) | ((with_reducible refine rn_addu ?_ ?_); focus omega) | ((with_reducible refine rn_subu ?_ ?_); focus omega) | ((with_reducible refine rn_mulu ?_ ?_); focus omega) | ((with_reducible refine rn_add8 ?_ ?_); focus omega) | ((with_reducible refine rn_sub8 ?_ ?_); focus omega) | ((with_reducible refine rn_rem ?_ ?_); focus omega) | ((with_reducible refine rn_quo64 ?_ ?_); focus omega) | ((with_reducible refine rn_quou ?_ ?_); focus omega) | ((with_reducible refine rn_quo8 ?_ ?_); focus omega) | ((with_reducible refine rn_eql_t ?_ ?_); focus omega) | ((with_reducible refine rn_eql_f ?_ ?_); focus omega) | ((with_reducible refine rn_neq_t ?_ ?_); focus omega) | ((with_reducible refine rn_neq_f ?_ ?_); focus omega) | ((with_reducible refine rn_lss_t ?_ ?_); focus omega) | ((with_reducible refine rn_lss_f ?_ ?_); focus omega) | ((with_reducible refine rn_leq_t ?_ ?_); focus omega) | ((with_reducible refine rn_leq_f ?_ ?_); focus omega) | ((with_reducible refine rn_gtr_t ?_ ?_); focus omega) | ((with_reducible refine rn_gtr_f ?_ ?_); focus omega) | ((with_reducible refine rn_geq_t ?_ ?_); focus omega) | ((with_reducible refine rn_geq_f ?_ ?_); focus omega) | ((with_reducible refine rn_cvi64 ?_ ?_); focus omega) | ((with_reducible refine rn_cviu ?_ ?_); focus omega) | ((with_reducible refine rn_cvi8 ?_ ?_); focus omega) | ((with_reducible refine rn_ixs ?_ ?_); focus omega) | ((with_reducible refine rn_ixsl ?_ ?_); focus omega) | ((with_reducible refine rn_shr ?_ ?_); focus omega))
      exact hrec
    · refine ⟨mm0, ?_⟩
      repeat (first | (with_reducible refine rn_bnd (awake_lim hc _ _) ?_) | with_reducible refine rn_bsome ?_ | with_reducible refine rn_some ?_ | with_reducible refine rn_if_t ?_ | with_reducible refine rn_if_f ?_ | with_reducible refine rn_gtt ?_ | with_reducible refine rn_gff ?_ | with_reducible refine rn_gtf ?_ | with_reducible refine rn_gft ?_ | with_reducible refine rn_gun ?_ | with_reducible refine rn_ibin ?_ | with_reducible refine rn_iun ?_ | with_reducible refine rn_ipick ?_ | with_reducible refine rn_icvi ?_ | with_reducible refine rn_ild1 ?_ | with_reducible refine rn_inilc ?_ | with_reducible refine rn_ifad ?_ | with_reducible refine rn_iext ?_ | with_reducible refine rn_ilens ?_ | with_reducible refine rn_ilen ?_ | with_reducible refine rn_iixs ?_ | with_reducible refine rn_iixc ?_ | with_reducible refine rn_pt ?_ | with_reducible refine rn_pf ?_ | with_reducible refine rn_eqb_tt ?_ | with_reducible refine rn_eqb_ff ?_ | with_reducible refine rn_eqb_tf ?_ | with_reducible refine rn_eqb_ft ?_ | with_reducible refine rn_neb_tt ?_ | with_reducible refine rn_neb_ff ?_ | with_reducible refine rn_neb_tf ?_ | with_reducible refine rn_neb_ft ?_ | with_reducible refine rn_not_t ?_ | with_reducible refine rn_not_f ?_ | with_reducible refine rn_eqp1 ?_ | with_reducible refine rn_eqp2 ?_ | with_reducible refine rn_eqp3 ?_ | with_reducible refine rn_nep1 ?_ | with_reducible refine rn_nep2 ?_ | with_reducible refine rn_ext0 ?_ | with_reducible refine rn_ext1 ?_ | with_reducible refine rn_ext2 ?_ | with_reducible refine rn_ext3 ?_ | with_reducible refine rn_len_sl ?_ | with_reducible refine rn_len_nil ?_ | with_reducible refine rn_len_os ?_ | with_reducible refine rn_lens ?_ | with_reducible refine rn_nilc ?_ | with_reducible refine rn_nilci ?_ | with_reducible refine rn_fad ?_ | with_reducible refine rn_fadi ?_ | with_reducible refine rn_ldi ?_ | ((with_reducible refine rn_add64 ?_ ?_); focus omega) | ((with_reducible refine rn_sub64 ?_ ?_); focus omega) | ((with_reducible refine rn_mul64 ?_ ?_); focus omega) | ((with_reducible refine rn_addu ?_ ?_); focus omega) | ((with_reducible refine rn_subu ?_ ?_); focus omega) | ((with_reducible refine rn_mulu ?_ ?_); focus omega) | ((with_reducible refine rn_add8 ?_ ?_); focus omega) | ((with_reducible refine rn_sub8 ?_ ?_); focus omega) | ((with_reducible refine rn_rem ?_ ?_); focus omega) | ((with_reducible refine rn_quo64 ?_ ?_); focus omega) | ((with_reducible refine rn_quou ?_ ?_); focus omega) | ((with_reducible refine rn_quo8 ?_ ?_); focus omega) | ((with_reducible refine rn_eql_t ?_ ?_); focus omega) | ((with_reducible refine rn_eql_f ?_ ?_); focus omega) | ((with_reducible refine rn_neq_t ?_ ?_); focus omega) | ((with_reducible refine rn_neq_f ?_ ?_); focus omega) | ((with_reducible refine rn_lss_t ?_ ?_); focus omega) | ((with_reducible refine rn_lss_f ?_ ?_); focus omega) | ((with_reducible refine rn_leq_t ?_ ?_); focus omega) | ((with_reducible refine rn_leq_f ?_ ?_); focus omega) | ((with_reducible refine rn_gtr_t ?_ ?_); focus omega) | ((with_reducible refine rn_gtr_f ?_ ?_); focus omega) | ((with_reducible refine rn_geq_t ?_ ?_); focus omega) | ((with_reducible refine rn_geq_f ?_ ?_); focus omega) | ((with_reducible refine rn_cvi64 ?_ ?_); focus omega) | ((with_reducible refine rn_cviu ?_ ?_); focus omega) | ((with_reducible refine rn_cvi8 ?_ ?_); focus omega) | ((with_reducible refine rn_ixs ?_ ?_); focus omega) | ((with_reducible refine rn_ixsl ?_ ?_); focus omega) | ((with_reducible refine rn_shr ?_ ?_); focus omega))
      rfl
  · refine ⟨mm0, ?_⟩
    repeat (first | (with_reducible refine rn_bnd (awake_lim hc _ _) ?_) | with_reducible refine rn_bsome ?_ | with_reducible refine rn_some ?_ | with_reducible refine rn_if_t ?_ | with_reducible refine rn_if_f ?_ | with_reducible refine rn_gtt ?_ | with_reducible refine rn_gff ?_ | with_reducible refine rn_gtf ?_ | with_reducible refine rn_gft ?_ | with_reducible refine rn_gun ?_ | with_reducible refine rn_ibin ?_ | with_reducible refine rn_iun ?_ | with_reducible refine rn_ipick ?_ | with_reducible refine rn_icvi ?_ | with_reducible refine rn_ild1 ?_ | with_reducible refine rn_inilc ?_ | with_reducible refine rn_ifad ?_ | with_reducible refine rn_iext ?_ | with_reducible refine rn_ilens ?_ | with_reducible refine rn_ilen ?_ | with_reducible refine rn_iixs ?_ | with_reducible refine rn_iixc ?_ | with_reducible refine rn_pt ?_ | with_reducible refine rn_pf ?_ | with_reducible refine rn_eqb_tt ?_ | with_reducible refine rn_eqb_ff ?_ | with_reducible refine rn_eqb_tf ?_ | with_reducible refine rn_eqb_ft ?_ | with_reducible refine rn_neb_tt ?_ | with_reducible refine rn_neb_ff ?_ | with_reducible refine rn_neb_tf ?_ | with_reducible refine rn_neb_ft ?_ | with_reducible refine rn_not_t ?_ | with_reducible refine rn_not_f ?_ | with_reducible refine rn_eqp1 ?_ | with_reducible refine rn_eqp2 ?_ | with_reducible refine rn_eqp3 ?_ | with_reducible refine rn_nep1 ?_ | with_reducible refine rn_nep2 ?_ | with_reducible refine rn_ext0 ?_ | with_reducible refine rn_ext1 ?_ | with_reducible refine rn_ext2 ?_ | with_reducible refine rn_ext3 ?_ | with_reducible refine rn_len_sl ?_ | with_reducible refine rn_len_nil ?_ | with_reducible refine rn_len_os ?_ | with_reducible refine rn_lens ?_ | with_reducible refine rn_nilc ?_ | with_reducible refine rn_nilci ?_ | with_reducible refine rn_fad ?_ | with_reducible refine rn_fadi ?_ | with_reducible refine rn_ldi ?_ | ((with_reducible refine rn_add64 ?_ ?_); focus omega) | ((with_reducible refine rn_sub64 ?_ ?_); focus omega) | ((with_reducible refine rn_mul64 ?_ ?_); focus omega) | ((with_reducible refine rn_addu ?_ ?_); focus omega) | ((with_reducible refine rn_subu ?_ ?_); focus omega) | ((with_reducible refine rn_mulu ?_ ?_); focus omega) | ((with_reducible refine rn_add8 ?_ ?_); focus omega) | ((with_reducible refine rn_sub8 ?_ ?_); focus omega) | ((with_reducible refine rn_rem ?_ ?_); focus omega) | ((with_reducible refine rn_quo64 ?_ ?_); focus omega) | ((with_reducible refine rn_quou ?_ ?_); focus omega) | ((with_reducible refine rn_quo8 ?_ ?_); focus omega) | ((with_reducible refine rn_eql_t ?_ ?_); focus omega) | ((with_reducible refine rn_eql_f ?_ ?_); focus omega) | ((with_reducible refine rn_neq_t ?_ ?_); focus omega) | ((with_reducible refine rn_neq_f ?_ ?_); focus omega) | ((with_reducible refine rn_lss_t ?_ ?_); focus omega) | ((with_reducible refine rn_lss_f ?_ ?_); focus omega) | ((with_reducible refine rn_leq_t ?_ ?_); focus omega) | ((with_reducible refine rn_leq_f ?_ ?_); focus omega) | ((with_reducible refine rn_gtr_t ?_ ?_); focus omega) | ((with_reducible refine rn_gtr_f ?_ ?_); focus omega) | ((with_reducible refine rn_geq_t ?_ ?_); focus omega) | ((with_reducible refine rn_geq_f ?_ ?_); focus omega) | ((with_reducible refine rn_cvi64 ?_ ?_); focus omega) | ((with_reducible refine rn_cviu ?_ ?_); focus omega) | ((with_reducible refine rn_cvi8 ?_ ?_); focus omega) | ((with_reducible refine rn_ixs ?_ ?_); focus omega) | ((with_reducible refine rn_ixsl ?_ ?_); focus omega) | ((with_reducible refine rn_shr ?_ ?_); focus omega))
    rfl
end

theorem bytes_law (e0 : D) (h0 : TD Try.prog 5 [e0]) (e1 : D) (h1 : TD Try.prog 22 [e1]) (e2 : D) (h2 : TD Try.prog 22 [e2]) : ∃ N M', acall G N 3 [.d e0, .d e1, .d e2] 0 mm0 = some (.bool true, M') := by
  obtain ⟨n, hn, wn⟩ := h0.int_inv Try.underlying5
  obtain ⟨ats, ha, hm, wa⟩ := h1.ints_inv Try.underlying22 Try.underlying5
  obtain ⟨bs, hb, hm2, wb⟩ := h2.ints_inv Try.underlying22 Try.underlying5
  cases hn; cases ha; cases hb
  have b0 := wf_u8 wn
  obtain ⟨n, rfl⟩ : ∃ k : Nat, n = k := ⟨n.toNat, by omega⟩
  have : maxLen ≤ 9223372036854775807 := by decide
  exact Lim.law fun call hc => bytes_ok hc n (by omega) ats bs (fun n hn => wf_u8 (wa n hn)) (fun n hn => wf_u8 (wb n hn)) (by omega) (by omega)
end Go.Proofs.Ytabhppamkhldeaa.Sx
