/- DEPEND: a walk as an object in memory; visits. -/
import Derived.Test.YtnbhmlflbbddcaaDpCDg
namespace Go.Proofs.Ytnbhmlflbbddcaa.Sx
open Go
set_option maxRecDepth 1000000
set_option linter.unusedSimpArgs false
set_option linter.unusedVariables false

/-- What a walk knows. -/
structure WS where
  seen : List ByteArray
  path : List Ty
  out : List Ty

def sid : AV → Option Nat
  | .os q _ _ _ => some q
  | _ => none
def SL (m : Mem) (x : AV) (l : List Ty) : Prop := (x = .nilsl ∧ l = []) ∨
  ∃ q cs ds, x = .os q 0 l.length 2 ∧ m q = some (.cells 24 cs) ∧ cs.take (l.length * 2) = ds.map .d ∧ nrms ds = encTs l
theorem SL.mono {m m' : Mem} {x : AV} {l : List Ty} (h : SL m x l) (he : ∀ q, sid x = some q → m' q = m q) : SL m' x l := by
  rcases h with h | ⟨q, cs, ds, rfl, h1, h2, h3⟩
  · exact .inl h
  · exact .inr ⟨q, cs, ds, rfl, by rw [he q rfl]; exact h1, h2, h3⟩
theorem SL.len {m : Mem} {x : AV} {l : List Ty} (h : SL m x l) : lenA x = some (.i l.length) := by
  rcases h with ⟨rfl, rfl⟩ | ⟨q, cs, ds, rfl, h1, h2, h3⟩ <;> rfl
theorem SL.le {cs : List AV} {ds : List D} {l : List Ty} (h2 : cs.take (l.length * 2) = ds.map .d) (h3 : nrms ds = encTs l) : l.length * 2 ≤ cs.length := by
  have e1 := congrArg List.length h2
  have e2 := congrArg List.length h3
  rw [nrms_len, encTs_len] at e2
  rw [List.length_take, List.length_map, e2] at e1
  omega
def esOf (seen : List ByteArray) : List (Value × AV) := seen.map fun s => (.string s, .bool true)
theorem sameK_str (a b : ByteArray) : sameK (.string a) (.string b) = decide (a = b) := by simp only [sameK]; exact beq_str a b
theorem findM_es (s : ByteArray) : ∀ l : List ByteArray, (findM (.string s) (esOf l)).getD (.bool false) = .bool (hasS l s)
  | [] => rfl
  | a :: r => by
    have ih := findM_es s r
    simp only [esOf, List.map_cons, findM, sameK_str]
    by_cases h : s = a
    · have : hasS (a :: r) s = true := (hasS_mem s _).2 (by rw [h]; simp)
      rw [this, h]; simp
    · have : hasS (a :: r) s = hasS r s := by
        rw [Bool.eq_iff_iff, hasS_mem, hasS_mem]; simp [h]
      rw [this]
      simp only [h, decide_false, Bool.false_eq_true, if_false]; exact ih
theorem putM_es (s : ByteArray) : ∀ l : List ByteArray, hasS l s = false → putM (.string s) (.bool true) (esOf l) = esOf (l ++ [s])
  | [], _ => rfl
  | a :: r, h => by
    have hh : ¬ s ∈ a :: r := fun e => by rw [(hasS_mem s _).2 e] at h; cases h
    have ih := putM_es s r (by
      cases e : hasS r s
      · rfl
      · exact absurd (List.mem_cons_of_mem a ((hasS_mem s r).1 e)) hh)
    have hne : ¬ s = a := fun e => hh (by rw [e]; simp)
    simp only [esOf, List.map_cons, List.cons_append, putM, sameK_str, hne, decide_false, Bool.false_eq_true, if_false]
    rw [show putM (.string s) (.bool true) (r.map fun s => (Value.string s, AV.bool true)) = esOf (r ++ [s]) from ih]
    rfl

/-- The walk at p: the world w, the map m, the slices pv and ov. -/
structure WK (M : MM) (p : Nat) (w : AV) (S : WS) (m : Nat) (pv ov : AV) : Prop where
  wf : WF M
  root : M.mem p = some (.cells 54 [w, .mp m, pv, ov])
  map : M.mem m = some (.map .string (esOf S.seen))
  path : SL M.mem pv S.path
  out : SL M.mem ov S.out
  n1 : m ≠ p
  n2 : sid pv ≠ some p
  n3 : sid ov ≠ some p
  n4 : sid pv ≠ some m
  n5 : sid ov ≠ some m
  n6 : ∀ q, sid pv = some q → sid ov ≠ some q
theorem WK.plt {M : MM} {p : Nat} {w : AV} {S : WS} {m : Nat} {pv ov : AV} (h : WK M p w S m pv ov) : p < M.nx := h.wf p (by rw [h.root]; simp)
theorem WK.mlt {M : MM} {p : Nat} {w : AV} {S : WS} {m : Nat} {pv ov : AV} (h : WK M p w S m pv ov) : m < M.nx := h.wf m (by rw [h.map]; simp)
theorem SL.lt {M : MM} {x : AV} {l : List Ty} (h : SL M.mem x l) (hw : WF M) {q : Nat} (hq : sid x = some q) : q < M.nx := by
  rcases h with ⟨rfl, rfl⟩ | ⟨q', cs, ds, rfl, h1, h2, h3⟩
  · cases hq
  · injection hq with hq; subst hq; exact hw _ (by rw [h1]; simp)
/-- What is not of the walk is as it was. -/
structure Fm (M M' : MM) (p m : Nat) (pv ov pv' ov' : AV) : Prop where
  nx : M.nx ≤ M'.nx
  same : ∀ y, y < M.nx → y ≠ p → y ≠ m → sid pv ≠ some y → sid ov ≠ some y → M'.mem y = M.mem y
  np : ∀ q, sid pv' = some q → sid pv = some q ∨ M.nx ≤ q
  no : ∀ q, sid ov' = some q → sid ov = some q ∨ M.nx ≤ q
theorem Fm.refl (M : MM) (p m : Nat) (pv ov : AV) : Fm M M p m pv ov pv ov := ⟨Nat.le_refl _, fun _ _ _ _ _ _ => rfl, fun _ h => .inl h, fun _ h => .inl h⟩
theorem Fm.trans {M M1 M2 : MM} {p m : Nat} {a b a1 b1 a2 b2 : AV} (h : Fm M M1 p m a b a1 b1) (k : Fm M1 M2 p m a1 b1 a2 b2) : Fm M M2 p m a b a2 b2 where
  nx := Nat.le_trans h.nx k.nx
  same y hy h1 h2 h3 h4 := by
    rw [k.same y (Nat.lt_of_lt_of_le hy h.nx) h1 h2 (fun e => ?_) (fun e => ?_)]
    · exact h.same y hy h1 h2 h3 h4
    · rcases h.np y e with e | e
      · exact h3 e
      · omega
    · rcases h.no y e with e | e
      · exact h4 e
      · omega
  np q hq := by
    rcases k.np q hq with e | e
    · exact h.np q e
    · exact .inr (Nat.le_trans h.nx e)
  no q hq := by
    rcases k.no q hq with e | e
    · exact h.no q e
    · exact .inr (Nat.le_trans h.nx e)
theorem WK.ans {M M' : MM} {p : Nat} {w : AV} {S : WS} {m : Nat} {pv ov : AV} (h : WK M p w S m pv ov) (h1 : M'.mem = M.mem) (h2 : M.nx ≤ M'.nx) : WK M' p w S m pv ov :=
  ⟨fun id hid => Nat.lt_of_lt_of_le (h.wf id (by rw [← h1]; exact hid)) h2, by rw [h1]; exact h.root, by rw [h1]; exact h.map, by rw [h1]; exact h.path, by rw [h1]; exact h.out, h.n1, h.n2, h.n3, h.n4, h.n5, h.n6⟩
theorem Fm.ans {M M' : MM} {p m : Nat} {pv ov : AV} (h1 : M'.mem = M.mem) (h2 : M.nx ≤ M'.nx) : Fm M M' p m pv ov pv ov := ⟨h2, fun _ _ _ _ _ _ => by rw [h1], fun _ h => .inl h, fun _ h => .inl h⟩

def visitF (seen : List ByteArray) (t : Ty) : Bool × Int × List ByteArray :=
  if hasS seen t.text then (false, 0, seen) else if seen.length = 300 then (false, 4, seen) else (true, 0, seen ++ [t.text])

section
variable {cV cK : CallT} (hV : Lim G cV) (hK : Lim GK cK)
include hV hK

theorem visit_ok (t : Ty) (ht : t.size ≤ 1000000000) (htx : t.textL.length ≤ 1000000000000) {M : MM} {p : Nat} {w : AV} {S : WS} {m : Nat} {pv ov : AV} (h : WK M p w S m pv ov) (hsn : S.seen.length ≤ 1000000) {x : AV} (hx : KT x t) :
    Wp (cK 12 [.ptr p 0, x] 0 M) fun y => y.1 = .tup [.bool (visitF S.seen t).1, .i (visitF S.seen t).2.1] ∧ WK y.2 p w { S with seen := (visitF S.seen t).2.2 } m pv ov ∧ Fm M y.2 p m pv ov pv ov := by
  rw [q12 hK]
  unfold s12
  have hp := h.plt
  have hm := h.mlt
  refine rn_kagg hx ?_
  refine rn_upk ?_
  have hM3 : (M.up M.nx).mem = M.mem := rfl
  have hn3 : M.nx ≤ (M.up M.nx).nx := Nat.le_max_left _ _
  generalize M.up M.nx = M3 at hM3 hn3 ⊢
  have h3 := h.ans hM3 hn3
  have f3 : Fm M M3 p m pv ov pv ov := .ans hM3 hn3
  refine rn_kfld hx ?_
  refine rn_puK hV hK (v := .str t.text) (by rw [show vvs [x] = [avT t] by simp only [vvs, hx.vv]]; exact (text_cc hV _ t ht (by omega) htx).pc (fz_s _)) rfl rfl (fun y hy => by
    simp only [vvs, List.mem_singleton, hx.vv] at hy; rw [hy]; exact ClT t) (by simp [hx.closed]) fun v' e1 e2 => ?_
  have e3 := vv_str e1
  subst e3
  repeat (first | (with_reducible (first | refine rn_nilc ?_ | refine rn_fad ?_)))
  refine rn_ld (ok_top.2 h3.plt) h3.root rfl ?_
  refine rn_lkp rfl (ok_top.2 h3.mlt) h3.map ?_
  rw [findM_es]
  cases hin : hasS S.seen t.text
  case true =>
    repeat (first | (with_reducible (first | refine rn_if_t ?_)))
    refine rn_done ?_
    simp only [visitF, hin, if_true]
    exact ⟨trivial, h3, f3⟩
  case false =>
    repeat (first | (with_reducible (first | refine rn_if_f ?_ | refine rn_nilc ?_ | refine rn_fad ?_)))
    refine rn_ld (ok_top.2 h3.plt) h3.root rfl ?_
    have hlen : lenmA (lk M3) (.mp m) = some (.i S.seen.length) := by
      simp only [lenmA, look_ok (ok_top.2 h3.mlt), h3.map, esOf, List.length_map]
    refine rn_opt hlen ?_
    refine rn_eql ?_
    by_cases h300 : S.seen.length = 300
    · rw [h300]
      skip
      refine rn_done ?_
      simp only [visitF, hin, Bool.false_eq_true, if_false, if_pos h300]
      exact ⟨trivial, h3, f3⟩
    · have : decide ((S.seen.length : Int) = 300) = false := by simp; omega
      rw [this]
      repeat (first | (with_reducible (first | refine rn_if_f ?_ | refine rn_nilc ?_ | refine rn_fad ?_)))
      refine rn_ld (ok_top.2 h3.plt) h3.root rfl ?_
      refine rn_mset rfl rfl (ok_top.2 h3.mlt) h3.map (Nat.zero_le _) ?_
      rw [putM_es _ _ hin]
      refine rn_done ?_
      simp only [visitF, hin, Bool.false_eq_true, if_false, if_neg h300]
      have hput : ∀ y, y ≠ m → (M3.put m (.map .string (esOf (S.seen ++ [t.text])))).mem y = M3.mem y := fun y hy => by simp only [MM.put, upd, if_neg hy]
      refine ⟨trivial, ⟨fun id hid => ?_, ?_, ?_, ?_, ?_, h3.n1, h3.n2, h3.n3, h3.n4, h3.n5, h3.n6⟩, ⟨hn3, fun y hy h1 h2 _ _ => ?_, fun _ h => .inl h, fun _ h => .inl h⟩⟩
      · by_cases e : id = m
        · subst e; exact h3.mlt
        · rw [hput id e] at hid; exact h3.wf id hid
      · rw [hput p (fun e => h3.n1 e.symm)]; exact h3.root
      · exact upd_same _ _ _
      · exact h3.path.mono fun q hq => hput q fun e => h3.n4 (by rw [← e]; exact hq)
      · exact h3.out.mono fun q hq => hput q fun e => h3.n5 (by rw [← e]; exact hq)
      · rw [hput y h2, hM3]
end
end Go.Proofs.Ytnbhmlflbbddcaa.Sx

namespace Go.Proofs.Ytnbhmlflbbddcaa.Sx
open Go
set_option maxRecDepth 1000000
set_option linter.unusedSimpArgs false
set_option linter.unusedVariables false

section
variable {R : Type} {r : R → Prop} {call : CallT} {mode : FuncId → Mode} {draw : Bool} {lim : Lm} {fresh : Nat} {ρ : List AV} {M : MM} {k : AV → MM → Option R}
theorem rn_kapp {x y : AV} {l : List Ty} {nc zero : List AV} (hx : SL M.mem x l) (hw : WF M) (hy : sliceCells M.mem (.top M.nx) 2 y = some (1, nc)) (h1 : nc.all AV.one = true) (hb : l.length ≤ 1000000) (hz : zero.length = 2)
    (hk : ∀ ds mem1, nrms ds = encTs l → (∀ q, sid x ≠ some q → mem1 q = M.mem q) → (∀ q, sid x = some q → mem1 q = none) → Wp (k (.os fresh 0 (l.length + 1) 2) ⟨max M.nx (fresh + 1), upd mem1 fresh (some (.cells 24 (ds.map .d ++ nc)))⟩) r) :
    Wp (bnd (istep call mode draw 0 lim fresh (.app 24 2 40 zero (.k x) (.k y)) ρ M) k) r := by
  rcases hx with ⟨rfl, rfl⟩ | ⟨q, cs, ds, rfl, h2, h3, h4⟩
  · refine rn_bnd (v := .os fresh 0 1 2) (M := M.alloc fresh (.cells 24 nc)) ?_ (hk [] M.mem rfl (fun _ _ => rfl) (fun q hq => by cases hq))
    simp only [istep, ev, hy, h1, if_true]
    rw [if_neg (by omega), if_pos ⟨by omega, by omega, hz⟩]
  · have hq : q < M.nx := hw q (by rw [h2]; simp)
    have hl := SL.le h3 h4
    refine rn_bnd (v := .os fresh 0 (l.length + 1) 2) (M := ⟨max M.nx (fresh + 1), upd (upd M.mem q none) fresh (some (.cells 24 (ds.map .d ++ nc)))⟩) ?_ (hk ds _ h4 (fun y hy => upd_ne _ _ _ _ fun e => hy (by rw [e]; rfl)) (fun y hy => by injection hy with hy; subst hy; exact upd_same _ _ _))
    simp only [istep, ev, hy, h1, if_true, look_ok (ok_top.2 hq), h2]
    rw [if_pos ⟨Nat.zero_le _, trivial, trivial, hl, by omega, by omega, hz⟩, h3]
theorem rn_str {n id off : Nat} {rt : AV} {ns : List AV} {t : TypeId} {cs cs' : List AV} {x : AV} {M1 : MM} (e : M.put id (.cells t cs') = M1) (ho : okStr rt (.ptr id off) ns = true) (h1 : lim.ok id = true) (h2 : M.mem id = some (.cells t cs))
    (h3 : x.cells.length = n ∧ x.cells.all AV.one = true) (h4 : off + n ≤ cs.length) (h5 : setAt cs off x.cells = cs') (hk : Wp (k .undef M1) r) :
    Wp (bnd (istep call mode draw 0 lim fresh (.str n (.k rt) (ns.map .k) (.k (.ptr id off)) (.k x)) ρ M) k) r := by
  subst h5; subst e
  refine rn_bnd (v := .undef) (M := M.put id (.cells t (setAt cs off x.cells))) ?_ hk
  have e1 : (ns.map X.k).map (ev ρ) = ns := by rw [List.map_map]; exact List.map_id'' (fun _ => rfl) ns
  have e2 : ev ρ (.k rt) = rt := rfl
  have e3 : ev ρ (.k (.ptr id off)) = .ptr id off := rfl
  have e4 : ev ρ (.k x) = x := rfl
  simp only [istep, e1, e2, e3, e4, ho, if_true, look_ok h1, h2]
  rw [if_pos ⟨Nat.zero_le _, h3.1, h4, h3.2⟩]
theorem rn_kwsl {x a b : AV} {t : Ty} {kk : AV → Option R} (h : KT x t) (hk : ∀ td, x = .agg (td.map .d) → nrms td = encT t → Wp (kk (.d (.sl td 1))) r) : Wp (opt (wslA 1 (fill [a, b] [(0, 2, x)])) kk) r := by
  obtain ⟨d, rfl, hd⟩ := h.two
  exact hk [.v (.string t.name), d] rfl (by rw [encT_eq]; simp only [nrms, hd, nrm, nrmV])
end

theorem WK.addPath {M M' : MM} {p : Nat} {w : AV} {S : WS} {m : Nat} {pv ov : AV} (h : WK M p w S m pv ov) {fresh : Nat} {ds td : List D} {t : Ty} (hf : M.nx ≤ fresh) (hn : fresh < M'.nx) (hds : nrms ds = encTs S.path) (htd : nrms td = encT t)
    (hp : M'.mem p = some (.cells 54 [w, .mp m, .os fresh 0 (S.path.length + 1) 2, ov])) (hq : M'.mem fresh = some (.cells 24 (ds.map .d ++ td.map .d)))
    (hk : ∀ q, sid pv = some q → M'.mem q = none) (ho : ∀ y, y ≠ p → y ≠ fresh → sid pv ≠ some y → M'.mem y = M.mem y) :
    WK M' p w { S with path := S.path ++ [t] } m (.os fresh 0 (S.path ++ [t]).length 2) ov ∧ Fm M M' p m pv ov (.os fresh 0 (S.path ++ [t]).length 2) ov := by
  have hpl := h.plt
  have hml := h.mlt
  have hfp : ∀ q, q < M.nx → q ≠ fresh := fun q hq => by omega
  have hlen : (S.path ++ [t]).length = S.path.length + 1 := by simp
  have hds2 : ds.length = S.path.length * 2 := by have := congrArg List.length hds; rw [nrms_len, encTs_len] at this; omega
  have htd2 : td.length = 2 := by have := congrArg List.length htd; rw [nrms_len, encT_len] at this; omega
  refine ⟨⟨fun id hid => ?_, by rw [hlen]; exact hp, ?_, .inr ⟨fresh, _, ds ++ td, rfl, hq, ?_, ?_⟩, ?_, h.n1, ?_, h.n3, ?_, h.n5, fun q hq => ?_⟩, ⟨by omega, fun y hy h1 h2 h3 h4 => ho y h1 (hfp y hy) h3, fun q hq => ?_, fun q hq => .inl hq⟩⟩
  · by_cases e1 : id = p
    · omega
    · by_cases e2 : id = fresh
      · omega
      · by_cases e3 : sid pv = some id
        · exact absurd (hk id e3) hid
        · rw [ho id e1 e2 e3] at hid
          have := h.wf id hid; omega
  · rw [ho m h.n1 (hfp m hml) h.n4]; exact h.map
  · rw [List.map_append, hlen]
    refine List.take_of_length_le ?_
    simp only [List.length_append, List.length_map]; omega
  · rw [nrms_append, hds, htd, encTs_append]; simp [encTs]
  · refine h.out.mono fun q hq => ho q (fun e => h.n3 (by rw [← e]; exact hq)) (hfp q (h.out.lt h.wf hq)) fun e => h.n6 q e hq
  · intro e; injection e with e; omega
  · intro e; injection e with e; omega
  · intro e; injection hq with hq; have := h.out.lt h.wf e; omega
  · injection hq with hq; exact .inr (by omega)
theorem WK.addOut {M M' : MM} {p : Nat} {w : AV} {S : WS} {m : Nat} {pv ov : AV} (h : WK M p w S m pv ov) {fresh : Nat} {ds td : List D} {t : Ty} (hf : M.nx ≤ fresh) (hn : fresh < M'.nx) (hx : M.nx ≤ M'.nx) (hds : nrms ds = encTs S.out) (htd : nrms td = encT t)
    (hp : M'.mem p = some (.cells 54 [w, .mp m, pv, .os fresh 0 (S.out.length + 1) 2])) (hq : M'.mem fresh = some (.cells 24 (ds.map .d ++ td.map .d)))
    (hk : ∀ q, sid ov = some q → M'.mem q = none) (hw : ∀ y, M'.mem y ≠ none → y < M'.nx) (ho : ∀ y, y < M.nx → y ≠ p → sid ov ≠ some y → M'.mem y = M.mem y) :
    WK M' p w { S with out := S.out ++ [t] } m pv (.os fresh 0 (S.out ++ [t]).length 2) ∧ Fm M M' p m pv ov pv (.os fresh 0 (S.out ++ [t]).length 2) := by
  have hpl := h.plt
  have hml := h.mlt
  have hlen : (S.out ++ [t]).length = S.out.length + 1 := by simp
  have hds2 : ds.length = S.out.length * 2 := by have := congrArg List.length hds; rw [nrms_len, encTs_len] at this; omega
  have htd2 : td.length = 2 := by have := congrArg List.length htd; rw [nrms_len, encT_len] at this; omega
  refine ⟨⟨hw, by rw [hlen]; exact hp, ?_, ?_, .inr ⟨fresh, _, ds ++ td, rfl, hq, ?_, ?_⟩, h.n1, h.n2, ?_, h.n4, ?_, fun q hq => ?_⟩, ⟨hx, fun y hy h1 h2 h3 h4 => ho y hy h1 h4, fun q hq => .inl hq, fun q hq => ?_⟩⟩
  · rw [ho m hml h.n1 h.n5]; exact h.map
  · refine h.path.mono fun q hq => ho q (h.path.lt h.wf hq) (fun e => h.n2 (by rw [← e]; exact hq)) (h.n6 q hq)
  · rw [List.map_append, hlen]
    refine List.take_of_length_le ?_
    simp only [List.length_append, List.length_map]; omega
  · rw [nrms_append, hds, htd, encTs_append]; simp [encTs]
  · intro e; injection e with e; omega
  · intro e; injection e with e; omega
  · intro e; injection e with e; have := h.path.lt h.wf hq; omega
  · injection hq with hq; exact .inr (by omega)
end Go.Proofs.Ytnbhmlflbbddcaa.Sx

namespace Go.Proofs.Ytnbhmlflbbddcaa.Sx
open Go
set_option maxRecDepth 1000000
set_option maxHeartbeats 1000000
set_option linter.unusedSimpArgs false
set_option linter.unusedVariables false

def goF (f : WS → Ty → Option (WS × Int)) : WS → List Ty → Option (WS × Int)
  | S, [] => some (S, 0)
  | S, x :: r => match f S x with
    | none => none
    | some (S', e) => if e ≠ 0 then some (S', e) else goF f S' r
def okW (ok : Ty → Bool) (S : WS) (t : Ty) : Bool := ok t && decide (t.size ≤ 1000000000) && decide (t.textL.length ≤ 1000000000000) && decide (S.seen.length ≤ 1000) && decide (S.path.length ≤ 100000) && decide (S.out.length ≤ 100000)
def innerF (W : Ty → List Ty × Int) (ok : Ty → Bool) : Nat → WS → Ty → Option (WS × Int)
  | 0, _, _ => none
  | n + 1, S, t => if okW ok S t = false then none
    else if S.path.any (fun x => t.same x) then some ({ S with path := S.path ++ [t] }, 18)
    else if (visitF S.seen t).1 = false then some ({ S with seen := (visitF S.seen t).2.2 }, (visitF S.seen t).2.1)
    else if (W t).2 ≠ 0 then some ({ S with seen := (visitF S.seen t).2.2 }, (W t).2)
    else if (W t).1.length > 1000000 then none
    else match goF (innerF W ok n) { S with seen := (visitF S.seen t).2.2, path := S.path ++ [t] } (W t).1 with
      | none => none
      | some (S2, e) => if e ≠ 0 then some (S2, e) else
        if S2.path = [] ∨ 100000 < S2.path.length ∨ 100000 < S2.out.length then none else some ({ S2 with path := S2.path.take (S2.path.length - 1), out := S2.out ++ [t] }, 0)
def outerF (W : Ty → List Ty × Int) (ok : Ty → Bool) : Nat → WS → Ty → Option (WS × Int)
  | 0, _, _ => none
  | n + 1, S, t => if okW ok S t = false then none
    else if (visitF S.seen t).1 = false then some ({ S with seen := (visitF S.seen t).2.2 }, (visitF S.seen t).2.1)
    else if (W t).2 ≠ 0 then some ({ S with seen := (visitF S.seen t).2.2 }, (W t).2)
    else if (W t).1.length > 1000000 then none
    else goF (outerF W ok n) { S with seen := (visitF S.seen t).2.2, out := S.out ++ [t] } (W t).1

theorem ok_reg {b n mask k : Nat} {w : Bool} (h1 : k < n) (h2 : mask.testBit k = true) : (Lm.mk b n mask w).ok (b + k) = true := by
  have e1 : Nat.blt (b + k) (b + n) = true := by rw [Nat.blt_eq]; omega
  simp only [Lm.ok, e1, Nat.add_sub_cancel_left, h2, Bool.and_self, Bool.or_true, Bool.true_or]
def WkC (cK : CallT) (f : FuncId) (p : Nat) (w : AV) (S : WS) (t : Ty) (S' : WS) (e : Int) : Prop :=
  ∀ (M : MM) (x : AV) (m : Nat) (pv ov : AV), WK M p w S m pv ov → KT x t → Wp (cK f [.ptr p 0, x] 0 M) fun y => y.1 = .i e ∧ ∃ pv' ov', WK y.2 p w S' m pv' ov' ∧ Fm M y.2 p m pv ov pv' ov'

section
variable {cK : CallT}
theorem outApp {M2 : MM} {p m : Nat} {w pv ov : AV} {S : WS} (hS2 : WK M2 p w S m pv ov) {c : AV} {t : Ty} (hc : KT c t) (b5 : S.out.length ≤ 100000) {k : MM → Option (AV × MM)} {r : AV × MM → Prop}
    (hk : ∀ M' ov', WK M' p w { S with out := S.out ++ [t] } m pv ov' → Fm M2 M' p m pv ov pv ov' → Wp (k M') r) :
    Wp (bnd (istep cK modeF true 0 (.mk M2.nx 14 0 true) (M2.nx + 7) (.mksl 24 1 2 [.str ⟨⟨[]⟩⟩, .nilsl] [(0, 2, .k (.agg [.str ⟨⟨[]⟩⟩, .nilsl]))]) [] (M2.bump 14)) fun v26 M27 =>
      bnd (istep cK modeF true 0 (.mk M2.nx 14 255 true) (M2.nx + 8) (.app 24 2 40 [.str ⟨⟨[]⟩⟩, .nilsl] (.k ov) (.k v26)) [] M27) fun v28 M29 => opt (ixsA 2 v28 (.i S.out.length)) fun v30 =>
      bnd (istep cK modeF true 0 (.mk M2.nx 14 1023 true) (M2.nx + 10) (.str 2 (.k v28) [(.k (.ptr p 0))] (.k v30) (.k c)) [] M29) fun v31 M32 => opt (nilcA (.ptr p 0)) fun v33 => opt (fadA 3 v33) fun v34 =>
      bnd (istep cK modeF true 0 (.mk M2.nx 14 6655 true) (M2.nx + 13) (.str 1 (.k (.ptr p 0)) [] (.k v34) (.k v28)) [] M32) fun v35 M36 => k M36) r := by
    refine rn_mksl rfl rfl ?_
    have hfr : ∀ k, M2.mem (M2.nx + k) = none := fun k => by
      cases e : M2.mem (M2.nx + k) with
      | none => rfl
      | some b => have := hS2.wf (M2.nx + k) (by rw [e]; simp); omega
    generalize hM10 : (M2.bump 14).alloc (M2.nx + 7) _ = M10
    have hn10 : M10.nx = M2.nx + 14 := by subst hM10; simp only [MM.alloc, MM.bump]; omega
    have hm10 : ∀ y, y ≠ M2.nx + 7 → M10.mem y = M2.mem y := fun y hy => by subst hM10; exact upd_ne _ _ _ _ hy
    have hz10 : M10.mem (M2.nx + 7) = some (.cells 24 [.str ⟨⟨[]⟩⟩, .nilsl]) := by subst hM10; exact upd_same _ _ _
    have hw10 : WF M10 := fun y hy => by
      by_cases e : y = M2.nx + 7
      · omega
      · rw [hm10 y e] at hy; have := hS2.wf y hy; omega
    refine rn_kapp (x := ov) (l := S.out) (nc := [.str ⟨⟨[]⟩⟩, .nilsl]) (hS2.out.mono fun q hq => hm10 q (by have := hS2.out.lt hS2.wf hq; omega)) hw10 ?_ rfl (by omega) rfl fun ds mem1 hds h1 h2 => ?_
    · simp only [sliceCells, look_ok (ok_top.2 (show M2.nx + 7 < M10.nx by omega)), hz10]
      rfl
    have hds2 : ds.length = S.out.length * 2 := by have := congrArg List.length hds; rw [nrms_len, encTs_len] at this; omega
    obtain ⟨d, rfl, hd⟩ := hc.two
    refine rn_opt (v := .ptr (M2.nx + 8) (S.out.length * 2)) ?_ ?_
    · simp only [ixsA, asI]
      rw [if_pos (by omega)]
      simp
    refine rn_str (ns := [.ptr p 0]) (cs' := ds.map .d ++ [.d (.v (.string t.name)), .d d]) rfl ?_ ?_ (upd_same _ _ _) ⟨rfl, rfl⟩ (by simp; omega) ?_ ?_
    · have : M2.nx + 8 ≠ p := by have := hS2.plt; omega
      simp [okStr, idOf, Ne.symm this]
    · exact ok_reg (k := 8) (by decide) rfl
    · have : (ds.map AV.d).length = S.out.length * 2 := by simp [hds2]
      rw [← this]
      simp [setAt, AV.cells]
    repeat (first | (with_reducible (first | refine rn_nilc ?_ | refine rn_fad ?_)))
    have hlp := hS2.plt
    have hr10 : mem1 p = M2.mem p := by rw [h1 p hS2.n3, hm10 p (by omega)]
    refine rn_str (t := 54) (ns := []) (cs := [w, .mp m, pv, ov]) (cs' := [w, .mp m, pv, .os (M2.nx + 8) 0 (S.out.length + 1) 2]) rfl ?_ (ok_lt hlp) ?_ ⟨rfl, rfl⟩ (by simp) rfl ?_
    · simp [okStr, idOf]
    · show upd _ _ _ p = _
      rw [upd_ne _ _ _ _ (by omega)]
      show upd _ _ _ p = _
      rw [upd_ne _ _ _ _ (by omega), hr10]
      exact hS2.root
    generalize hM19 : MM.put _ _ _ = M19
    have hx19 : M19.nx = M2.nx + 14 := by subst hM19; show max M10.nx (M2.nx + 8 + 1) = _; omega
    have hmem : ∀ y, y ≠ p → y ≠ M2.nx + 8 → M19.mem y = mem1 y := fun y h3 h4 => by
      subst hM19
      show upd (upd (upd _ _ _) _ _) _ _ y = _
      rw [upd_ne _ _ _ _ h3, upd_ne _ _ _ _ h4, upd_ne _ _ _ _ h4]
    refine (fun q => hk _ _ q.1 q.2) (?_ : WK M19 p w { S with out := S.out ++ [t] } m pv (.os (M2.nx + 8) 0 (S.out ++ [t]).length 2) ∧ Fm M2 M19 p m pv ov pv (.os (M2.nx + 8) 0 (S.out ++ [t]).length 2))
    · refine hS2.addOut (td := [.v (.string t.name), d]) (by omega) (by omega) (by omega) hds (by rw [encT_eq]; simp only [nrms, hd, nrm, nrmV]) ?_ ?_ ?_ ?_ ?_
      · subst hM19; exact upd_same _ _ _
      · subst hM19
        show upd (upd (upd _ _ _) _ _) _ _ (M2.nx + 8) = _
        rw [upd_ne _ _ _ _ (by omega), upd_same]
        rfl
      · intro q hq
        have hq2 := hS2.out.lt hS2.wf hq
        rw [hmem q (fun e => hS2.n3 (by rw [← e]; exact hq)) (by omega)]
        exact h2 q hq
      · intro y hy
        by_cases e1 : y = p
        · omega
        · by_cases e2 : y = M2.nx + 8
          · omega
          · rw [hmem y e1 e2] at hy
            by_cases e3 : sid ov = some y
            · exact absurd (h2 y e3) hy
            · rw [h1 y e3] at hy; have := hw10 y hy; omega
      · intro y hy e1 e2
        rw [hmem y e1 (by omega), h1 y e2, hm10 y (by omega)]
end

section
variable {cV cK : CallT} (hV : Lim G cV) (hK : Lim GK cK)
include hV hK

theorem withinK {w : AV} {t : Ty} {all : Bool} {L : List Ty × Int} {x : AV} {lk : Nat → Option Blk} {R : Type} {r : R → Prop} {k : AV → Option R} (hx : KT x t) (hw : Cl (vv w)) (hwc : closedA w = true) (h : PC cV 13 [vv w, avT t, .bool all] (avP L))
    (hk : ∀ y, KTs y L.1 → Wp (k (.tup [y, .i L.2])) r) : Wp (opt (puA cK lk 13 [w, x, .bool all]) k) r := by
  refine rn_puK hV hK (v := avP L) (by rw [show vvs [w, x, .bool all] = [vv w, avT t, .bool all] by simp only [vvs, hx.vv]; rfl]; exact h) rfl rfl (fun y hy => ?_) (by simp only [List.all_cons, hwc, hx.closed, List.all_nil]; rfl) fun v' e1 e2 => ?_
  · simp only [vvs, List.mem_cons, List.not_mem_nil, or_false, hx.vv] at hy
    rcases hy with rfl | rfl | rfl
    · exact hw
    · exact ClT t
    · exact ⟨rfl, rfl⟩
  · cases v' with
    | tup vs =>
      simp only [Sx.vv, avP, AV.tup.injEq] at e1
      match vs, e1 with
      | [a, b], e1 =>
        simp only [vvs, List.cons.injEq, and_true] at e1
        simp only [noVT, List.all_cons, List.all_nil, Bool.and_true, Bool.and_eq_true] at e2
        rw [vv_int e1.2]
        exact hk a (.of_vv e1.1 e2.1)
      | [], e1 => simp [vvs] at e1
      | [a], e1 => simp [vvs] at e1
      | _ :: _ :: _ :: _, e1 => simp [vvs] at e1
    | _ => simp [Sx.vv, avP] at e1

theorem copiedK {t : Ty} (ht : t.size ≤ 1000000000) {x : AV} {lk : Nat → Option Blk} {R : Type} {r : R → Prop} {k : AV → Option R} (hx : KT x t)
    (hk : ∀ y, KT y t → Wp (k y) r) : Wp (opt (puA cK lk 14 [x]) k) r := by
  refine rn_puK hV hK (v := avT t) (by rw [show vvs [x] = [avT t] by simp only [vvs, hx.vv]]; exact (copied_cc hV _ t ht (by omega)).pc (fz_T _)) rfl rfl (fun y hy => ?_) (by simp [hx.closed]) fun v' e1 e2 => ?_
  · simp only [vvs, List.mem_singleton, hx.vv] at hy; rw [hy]; exact ClT t
  · refine hk v' (.of_vv e1 ?_)
    cases v' with
    | agg cs => exact e2
    | _ => simp [Sx.vv, avT] at e1

theorem outer_ok {w : AV} (hw : Cl (vv w)) (hwc : closedA w = true) (W : Ty → List Ty × Int) (ok : Ty → Bool) (hW : ∀ t, t.size ≤ 1000000000 → ok t = true → PC cV 13 [vv w, avT t, .bool true] (avP (W t))) (p : Nat) :
    ∀ (n : Nat) (S : WS) (t : Ty) (S' : WS) (e : Int), outerF W ok n S t = some (S', e) → WkC cK 8 p w S t S' e := by
  intro n
  induction n with
  | zero => intro S t S' e h; cases h
  | succ n ih =>
    intro S t S' e h M x m pv ov hS hx
    simp only [outerF] at h
    split at h
    · cases h
    rename_i hok
    have hok : okW ok S t = true := by simpa using hok
    simp only [okW, Bool.and_eq_true, decide_eq_true_eq] at hok
    obtain ⟨⟨⟨⟨⟨b0, b1⟩, b2⟩, b3⟩, b4⟩, b5⟩ := hok
    obtain ⟨nl, hG, hN⟩ : ∃ nl, GK.nl = nl ∧ nl = 18446744073709551616 := ⟨_, rfl, rfl⟩
    rw [q8 hK, hG]
    unfold s8
    refine rn_kagg hx ?_
    refine rn_upk ?_
    refine rn_kfld hx ?_
    have hS0 := hS.ans (M' := M.up M.nx) rfl (Nat.le_max_left _ _)
    have f0 : Fm M (M.up M.nx) p m pv ov pv ov := .ans rfl (Nat.le_max_left _ _)
    refine rn_wp (visit_ok hV hK t b1 b2 hS0 (by omega) hx) fun v M1 hh => ?_
    obtain ⟨rfl, hS1, f1⟩ := hh
    replace f1 := f0.trans f1
    repeat (first | (with_reducible (first | refine rn_ext0 ?_ | refine rn_ext1 ?_)))
    split at h
    · rename_i hv
      simp only [Option.some.injEq, Prod.mk.injEq] at h
      obtain ⟨rfl, rfl⟩ := h
      rw [hv]
      refine rn_not ?_
      refine rn_if_t ?_
      exact rn_done ⟨rfl, pv, ov, hS1, f1⟩
    rename_i hv
    have hv : (visitF S.seen t).1 = true := by simpa using hv
    rw [hv]
    refine rn_not ?_
    refine rn_if_f ?_
    refine rn_bumpk ?_
    have hS2 := hS1.ans (M' := M1.bump 11) rfl (Nat.le_add_right _ _)
    have f2 : Fm M (M1.bump 11) p m pv ov pv ov := f1.trans (.ans rfl (Nat.le_add_right _ _))
    repeat (first | (with_reducible (first | refine rn_nilc ?_ | refine rn_fad ?_)))
    refine rn_ld (ok_lt hS1.plt) hS2.root rfl ?_
    refine rn_kfld hx ?_
    refine withinK hV hK hx hw hwc (hW t b1 b0) fun y hy => ?_
    generalize M1.bump 11 = M2 at hS2 f2 ⊢
    repeat (first | (with_reducible (first | refine rn_ext0 ?_ | refine rn_ext1 ?_)))
    refine rn_neq ?_
    split at h
    · rename_i he
      simp only [Option.some.injEq, Prod.mk.injEq] at h
      obtain ⟨rfl, rfl⟩ := h
      rw [decide_eq_true he]
      refine rn_if_t ?_
      exact rn_done ⟨rfl, pv, ov, hS2, f2⟩
    rename_i he
    rw [decide_eq_false he]
    refine rn_if_f ?_
    split at h
    · cases h
    rename_i hpl
    -- what comes out
    refine rn_bumpk ?_
    have hS3 := hS2.ans (M' := M2.bump 14) rfl (Nat.le_add_right _ _)
    repeat (first | (with_reducible (first | refine rn_nilc ?_ | refine rn_fad ?_)))
    refine rn_ld (ok_lt hS2.plt) hS3.root rfl ?_
    refine rn_kfld hx ?_
    refine copiedK hV hK b1 hx fun c hc => ?_
    refine rn_opt hS2.out.len ?_
    refine outApp hS2 hc b5 fun M19 ov4 hS4 f4 => ?_
    replace f4 := f2.trans f4
    refine rn_opt hy.len ?_
    have loop : ∀ (s : List Ty) (i f : Nat) (S : WS) (M1 : MM) (pv1 ov1 : AV), (W t).1.drop i = s → s.length < f → goF (outerF W ok n) S s = some (S', e) → WK M1 p w S m pv1 ov1 → Fm M M1 p m pv ov pv1 ov1 →
        Wp (b8_9 cK nl 0 f (.ptr p 0) y (.i (W t).1.length) (.i i) M1) fun z => z.1 = .i e ∧ ∃ pv' ov', WK z.2 p w S' m pv' ov' ∧ Fm M z.2 p m pv ov pv' ov' := by
      intro s
      induction s with
      | nil =>
        intro i f S M1 pv1 ov1 hd hf hg hS hF
        obtain ⟨f, rfl⟩ : ∃ k, f = k + 1 := ⟨f - 1, by simp only [List.length_nil] at hf; omega⟩
        have := drop_nil hd
        simp only [goF, Option.some.injEq, Prod.mk.injEq] at hg
        obtain ⟨rfl, rfl⟩ := hg
        unfold b8_9
        repeat (first | (with_reducible (first | refine rn_if_f ?_)) | ((with_reducible refine rn_lss_f ?_ ?_); focus omega))
        exact rn_done ⟨rfl, pv1, ov1, hS, hF⟩
      | cons z s ih2 =>
        intro i f S M1 pv1 ov1 hd hf hg hS hF
        simp only [List.length_cons] at hf
        obtain ⟨f, rfl⟩ : ∃ k, f = k + 1 := ⟨f - 1, by omega⟩
        obtain ⟨hi, hd'⟩ := drop_cons hd
        obtain ⟨a, c, ha1, ha2, hc⟩ := hy.el hd (lk M1)
        unfold b8_9
        repeat (first | (with_reducible (first | refine rn_opt ha1 ?_ | refine rn_opt ha2 ?_ | refine rn_if_t ?_)) | ((with_reducible refine rn_lss_t ?_ ?_); focus omega))
        refine rn_upk ?_
        refine rn_kset hc ?_
        refine rn_kfld hc ?_
        simp only [goF] at hg
        split at hg
        · cases hg
        rename_i S1 e1 hgo
        refine rn_wp (ih S z S1 e1 hgo (M1.up M1.nx) c m pv1 ov1 (hS.ans rfl (Nat.le_max_left _ _)) hc) fun v M3 hh => ?_
        obtain ⟨rfl, pv2, ov2, hS3, f3⟩ := hh
        replace f3 := hF.trans (Fm.trans (M1 := M1.up M1.nx) (Fm.ans rfl (Nat.le_max_left _ _)) f3)
        refine rn_neq ?_
        split at hg
        · rename_i he1
          simp only [Option.some.injEq, Prod.mk.injEq] at hg
          obtain ⟨rfl, rfl⟩ := hg
          rw [decide_eq_true he1]
          refine rn_if_t ?_
          exact rn_done ⟨rfl, pv2, ov2, hS3, f3⟩
        · rename_i he1
          rw [decide_eq_false he1]
          refine rn_if_f ?_
          repeat (first | ((with_reducible refine rn_add64 ?_ ?_); focus omega))
          exact ih2 (i + 1) f S1 M3 pv2 ov2 hd' (by omega) hg hS3 f3
    exact loop (W t).1 0 nl _ M19 _ _ rfl (by omega) h hS4 f4
end
end Go.Proofs.Ytnbhmlflbbddcaa.Sx
