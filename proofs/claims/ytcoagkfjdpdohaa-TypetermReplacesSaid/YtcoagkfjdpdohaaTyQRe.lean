/- TYPES: matching, in the program. -/
import Derived.Test.YtcoagkfjdpdohaaTyLRe
namespace Go.Proofs.Ytcoagkfjdpdohaa.Sx
open Go
set_option maxRecDepth 1000000
set_option linter.unusedSimpArgs false
set_option linter.unusedVariables false

/-- The place of a name that is replaced. -/
def placeN : List ByteArray → ByteArray → Option Nat
  | [], _ => none
  | n :: ns, s => if n = s then some 0 else (placeN ns s).map (· + 1)
def place (ns : List ByteArray) (n : ByteArray) (l : List Ty) : Option Nat := if l.isEmpty then placeN ns n else none
theorem placeN_ix (s : ByteArray) : ∀ (ns : List ByteArray) (i : Nat), ixFrom ns s i = match placeN ns s with
    | none => -1
    | some k => ((i + k : Nat) : Int)
  | [], i => rfl
  | n :: ns, i => by
    simp only [ixFrom, placeN]
    by_cases h : n = s
    · rw [if_pos h, if_pos h]; rfl
    · rw [if_neg h, if_neg h, placeN_ix s ns (i + 1)]
      cases placeN ns s with
      | none => rfl
      | some k => simp only [Option.map_some]; congr 1; omega
theorem placeN_lt {s : ByteArray} : ∀ {ns : List ByteArray} {k : Nat}, placeN ns s = some k → k < ns.length
  | [], _, h => by simp [placeN] at h
  | n :: ns, k, h => by
    simp only [placeN] at h
    split at h
    · cases h; simp
    · obtain ⟨j, hj, rfl⟩ := Option.map_eq_some_iff.1 h
      have := placeN_lt hj
      simp only [List.length_cons]; omega

mutual
/-- What is noted when a pattern fits: for each name the type found. -/
def matchT (ns : List ByteArray) : Ty → Ty → List (Option Ty) → Option (List (Option Ty))
  | .mk n l, t, fs => match place ns n l with
    | some k => match (fs[k]?).getD none with
      | none => some (fs.set k (some t))
      | some u => if u.same t then some fs else none
    | none => if n = t.name ∧ l.length = t.args.length then matchTs ns l t.args fs else none
def matchTs (ns : List ByteArray) : List Ty → List Ty → List (Option Ty) → Option (List (Option Ty))
  | p :: l, t :: k, fs => match matchT ns p t fs with
    | some fs' => matchTs ns l k fs'
    | none => none
  | [], _, fs => some fs
  | _ :: _, [], fs => some fs
end
theorem matchT_eq (ns : List ByteArray) (p t : Ty) (fs : List (Option Ty)) : matchT ns p t fs = match place ns p.name p.args with
    | some k => match (fs[k]?).getD none with
      | none => some (fs.set k (some t))
      | some u => if u.same t then some fs else none
    | none => if p.name = t.name ∧ p.args.length = t.args.length then matchTs ns p.args t.args fs else none := by cases p; rw [matchT]; rfl

def allSome : List (Option Ty) → Option (List Ty)
  | [] => some []
  | some u :: r => (allSome r).map (u :: ·)
  | none :: _ => none
theorem allSome_eq : ∀ {fs : List (Option Ty)} {us : List Ty}, allSome fs = some us → fs = us.map some
  | [], us, h => by rw [allSome] at h; cases h; rfl
  | some u :: r, us, h => by
    rw [allSome] at h
    obtain ⟨us', h1, rfl⟩ := Option.map_eq_some_iff.1 h
    rw [allSome_eq h1]; rfl
  | none :: r, us, h => by rw [allSome] at h; cases h
/-- What Match answers. -/
def matchAll (ns : List ByteArray) (p t : Ty) : Option (List Ty) := if twice ns then none else match matchT ns p t (List.replicate ns.length none) with
  | none => none
  | some fs => allSome fs
abbrev avMt (r : Option (List Ty)) : AV := .tup [avTs (r.getD []), .bool r.isSome]
theorem fz_Mt (r : Option (List Ty)) (m : Mem) : freeze m 0 (avMt r) = some (avMt r) := rfl

/-- A pointer as Match keeps it: to a type of its own. -/
def PT (M : MM) (F : Nat) (c : AV) : Option Ty → Prop
  | none => c = .nil
  | some u => ∃ j, c = .ptr j 0 ∧ j ≠ F ∧ j < M.nx ∧ u.size ≤ 1000000000000 ∧ M.mem j = some (.cells 27 [.d (.v (.string u.name)), .d (.sl (encTs u.args) u.args.length)])
/-- What was found lies at F. -/
def FI (M : MM) (F : Nat) (fs : List (Option Ty)) : Prop := F < M.nx ∧ ∃ cs, M.mem F = some (.cells 70 cs) ∧ cs.length = fs.length ∧ ∀ (i : Nat) (o : Option Ty), fs[i]? = some o → ∃ c, cs[i]? = some c ∧ PT M F c o
def FrM (F : Nat) (M M1 : MM) : Prop := M.nx ≤ M1.nx ∧ ∀ j, j < M.nx → j ≠ F → M1.mem j = M.mem j
theorem FrM.refl (id : Nat) (M : MM) : FrM id M M := ⟨Nat.le_refl _, fun _ _ _ => rfl⟩
theorem FrM.trans {id : Nat} {M M1 M2 : MM} (h : FrM id M M1) (g : FrM id M1 M2) : FrM id M M2 := ⟨Nat.le_trans h.1 g.1, fun j hj hn => (g.2 j (Nat.lt_of_lt_of_le hj h.1) hn).trans (h.2 j hj hn)⟩
theorem PT.fr {M M1 : MM} {F : Nat} {c : AV} {o : Option Ty} (h : PT M F c o) (g : FrM F M M1) : PT M1 F c o := by
  cases o with
  | none => exact h
  | some u =>
    obtain ⟨j, h1, h2, h3, h5, h4⟩ := h
    exact ⟨j, h1, h2, Nat.lt_of_lt_of_le h3 g.1, h5, by rw [g.2 j h3 h2]; exact h4⟩
theorem FI.fr {M M1 : MM} {F : Nat} {fs : List (Option Ty)} (h : FI M F fs) (g : FrM F M M1) (e : M1.mem F = M.mem F) : FI M1 F fs := by
  obtain ⟨h1, cs, h2, h3, h4⟩ := h
  refine ⟨Nat.lt_of_lt_of_le h1 g.1, cs, by rw [e]; exact h2, h3, fun i o ho => ?_⟩
  obtain ⟨c, hc, hp⟩ := h4 i o ho
  exact ⟨c, hc, hp.fr g⟩
theorem FI.same {M M1 : MM} {F : Nat} {fs : List (Option Ty)} (h : FI M F fs) (e : M1.mem = M.mem) (hn : M.nx ≤ M1.nx) : FI M1 F fs := h.fr ⟨hn, fun j _ _ => by rw [e]⟩ (by rw [e])
theorem FI.up {M : MM} {F f : Nat} {fs : List (Option Ty)} (h : FI M F fs) : FI (M.up f) F fs := h.same rfl (Nat.le_max_left _ _)
theorem FrM.up {F f : Nat} {M : MM} : FrM F M (M.up f) := ⟨Nat.le_max_left _ _, fun _ _ _ => rfl⟩
theorem FrM.bump {F f : Nat} {M : MM} : FrM F M (M.bump f) := ⟨Nat.le_add_right _ _, fun _ _ _ => rfl⟩
theorem FrM.alloc {F : Nat} {M : MM} {b : Blk} : FrM F M (M.alloc M.nx b) := ⟨Nat.le_max_left _ _, fun j hj _ => upd_ne _ _ _ _ (by omega)⟩
theorem FI.alloc {F : Nat} {M : MM} {b : Blk} {fs : List (Option Ty)} (h : FI M F fs) : FI (M.alloc M.nx b) F fs := h.fr FrM.alloc (upd_ne _ _ _ _ (by have := h.1; omega))

/-- What match answers. -/
def MAns (F : Nat) (r : Option (List (Option Ty))) (M : MM) : AV × MM → Prop := fun x => match r with
  | none => x.1 = .bool false ∧ FrM F M x.2
  | some fs => x.1 = .bool true ∧ FI x.2 F fs ∧ FrM F M x.2
theorem rn_mfr {F : Nat} {r : Option (List (Option Ty))} {M M1 : MM} {o : Option (AV × MM)} (h : FrM F M M1) (hk : Wp o (MAns F r M1)) : Wp o (MAns F r M) := hk.mono fun x q => by
  unfold MAns at q ⊢
  cases r with
  | none => exact ⟨q.1, h.trans q.2⟩
  | some fs => exact ⟨q.1, q.2.1, h.trans q.2.2⟩
section
variable {F : Nat} {r : Option (List (Option Ty))} {M : MM}
theorem rn_mup {f : Nat} {k : MM → Option (AV × MM)} (hk : Wp (k (M.up f)) (MAns F r (M.up f))) : Wp (upK M f k) (MAns F r M) := rn_mfr (o := k (M.up f)) FrM.up hk
theorem rn_mbump {f : Nat} {k : MM → Option (AV × MM)} (hk : Wp (k (M.bump f)) (MAns F r (M.bump f))) : Wp (bumpK M f k) (MAns F r M) := rn_mfr (o := k (M.bump f)) FrM.bump hk
theorem rn_mno : Wp (some (.bool false, M)) (MAns F none M) := rn_done ⟨rfl, FrM.refl _ _⟩
theorem rn_myes {fs : List (Option Ty)} (h : FI M F fs) : Wp (some (.bool true, M)) (MAns F (some fs) M) := rn_done ⟨rfl, h, FrM.refl _ _⟩
end
section
variable {R : Type} {r : R → Prop} {k : AV → Option R}
theorem rn_eqpn {id off : Nat} (hk : Wp (k (.bool false)) r) : Wp (opt (binA .eql .ptr .nil (.ptr id off)) k) r := hk
/-- An element of a slice in memory. -/
theorem rn_ixo {F n i : Nat} (h : i < n) (hk : Wp (k (.ptr F i)) r) : Wp (opt (ixsA 1 (.os F 0 n 1) (.i (i : Int))) k) r := by
  refine rn_ixs (by omega) ?_
  rw [show 0 + (i : Int).toNat * 1 = i by omega]
  exact hk
theorem rn_ldTp {M : MM} {lim : Lm} {j : Nat} {u : Ty} (h1 : lim.ok j = true) (h2 : M.mem j = some (.cells 27 [.d (.v (.string u.name)), .d (.sl (encTs u.args) u.args.length)])) (hk : Wp (k (avT u)) r) : Wp (opt (ldnA (look M.mem lim) 2 (.ptr j 0)) k) r :=
  rn_ldn h1 h2 (by simp) rfl hk
end
section
variable {R : Type} {r : R → Prop} {k : AV → MM → Option R} {call : CallT} {mode : FuncId → Mode} {draw : Bool} {lo : Nat} {lim : Lm} {fresh : Nat} {ρ : List AV} {M : MM}
theorem rn_boxD {t : TypeId} {d : D} (hk : Wp (k (.ptr fresh 0) (M.alloc fresh (.cells t [.d d]))) r) : Wp (bnd (istep call mode draw lo lim fresh (.box t (.k (.d d))) ρ M) k) r := hk
theorem rn_boxO {t : TypeId} {a b c d : Nat} (hk : Wp (k (.ptr fresh 0) (M.alloc fresh (.cells t [.os a b c d]))) r) : Wp (bnd (istep call mode draw lo lim fresh (.box t (.k (.os a b c d))) ρ M) k) r := hk
theorem rn_boxT {t : TypeId} {u : Ty} (hk : Wp (k (.ptr fresh 0) (M.alloc fresh (.cells t [.d (.v (.string u.name)), .d (.sl (encTs u.args) u.args.length)]))) r) : Wp (bnd (istep call mode draw lo lim fresh (.box t (.k (avT u))) ρ M) k) r := hk
end

section
variable {F : Nat} {r : Option (List (Option Ty))} {k : AV → MM → Option (AV × MM)} {call : CallT} {mode : FuncId → Mode} {draw : Bool} {lo : Nat} {lim : Lm} {ρ : List AV} {M : MM}
theorem rn_mboxD {t : TypeId} {d : D} (hk : Wp (k (.ptr M.nx 0) (M.alloc M.nx (.cells t [.d d]))) (MAns F r (M.alloc M.nx (.cells t [.d d])))) : Wp (bnd (istep call mode draw lo lim M.nx (.box t (.k (.d d))) ρ M) k) (MAns F r M) := rn_mfr FrM.alloc (rn_boxD hk)
theorem rn_mboxO {t : TypeId} {a b c d : Nat} (hk : Wp (k (.ptr M.nx 0) (M.alloc M.nx (.cells t [.os a b c d]))) (MAns F r (M.alloc M.nx (.cells t [.os a b c d])))) : Wp (bnd (istep call mode draw lo lim M.nx (.box t (.k (.os a b c d))) ρ M) k) (MAns F r M) := rn_mfr FrM.alloc (rn_boxO hk)
theorem rn_mboxT {t : TypeId} {u : Ty} (hk : Wp (k (.ptr M.nx 0) (M.alloc M.nx (.cells t [.d (.v (.string u.name)), .d (.sl (encTs u.args) u.args.length)]))) (MAns F r (M.alloc M.nx (.cells t [.d (.v (.string u.name)), .d (.sl (encTs u.args) u.args.length)])))) : Wp (bnd (istep call mode draw lo lim M.nx (.box t (.k (avT u))) ρ M) k) (MAns F r M) := rn_mfr FrM.alloc (rn_boxT hk)
end
theorem alloc_facts (M : MM) (b : Blk) : M.nx < (M.alloc M.nx b).nx ∧ (M.alloc M.nx b).mem M.nx = some b ∧ ∀ j, j < M.nx → (M.alloc M.nx b).mem j = M.mem j :=
  ⟨Nat.lt_of_lt_of_le (Nat.lt_succ_self _) (Nat.le_max_right _ _), upd_same _ _ _, fun j hj => upd_ne _ _ _ _ (by omega)⟩

mutual
theorem matchT_len (ns : List ByteArray) : ∀ (p t : Ty) (fs fs' : List (Option Ty)), matchT ns p t fs = some fs' → fs'.length = fs.length
  | .mk n l, t, fs, fs', h => by
    rw [matchT] at h
    split at h
    · split at h
      · cases h; simp
      · split at h
        · cases h; rfl
        · cases h
    · split at h
      · exact matchTs_len ns l t.args fs fs' h
      · cases h
theorem matchTs_len (ns : List ByteArray) : ∀ (l k : List Ty) (fs fs' : List (Option Ty)), matchTs ns l k fs = some fs' → fs'.length = fs.length
  | p :: l, t :: k, fs, fs', h => by
    rw [matchTs] at h
    split at h
    · rename_i f1 h1
      rw [matchTs_len ns l k f1 fs' h, matchT_len ns p t fs f1 h1]
    · cases h
  | [], _, fs, fs', h => by rw [matchTs] at h; cases h; rfl
  | _ :: _, [], fs, fs', h => by rw [matchTs] at h; cases h; rfl
end
theorem place_ix (ns : List ByteArray) (p : Ty) : (if p.args.isEmpty then ixS ns p.name else -1) = match place ns p.name p.args with
    | none => -1
    | some k => (k : Int) := by
  unfold place
  cases h : p.args.isEmpty
  · rfl
  · simp only [if_true]
    rw [ixS, placeN_ix]
    cases placeN ns p.name with
    | none => rfl
    | some k => simp only [Nat.zero_add]
theorem place_lt {ns : List ByteArray} {n : ByteArray} {l : List Ty} {k : Nat} (h : place ns n l = some k) : k < ns.length := by
  unfold place at h
  split at h
  · exact placeN_lt h
  · cases h

/-- What match's closure holds: the names at i2, the slice F at i3. -/
def Box (M : MM) (i2 i3 F : Nat) (ns : List ByteArray) : Prop := i2 < M.nx ∧ i2 ≠ F ∧ M.mem i2 = some (.cells 35 [avS ns]) ∧ i3 < M.nx ∧ i3 ≠ F ∧ M.mem i3 = some (.cells 67 [.os F 0 ns.length 1])
theorem Box.fr {M M1 : MM} {i2 i3 F : Nat} {ns : List ByteArray} (h : Box M i2 i3 F ns) (g : FrM F M M1) : Box M1 i2 i3 F ns := by
  obtain ⟨h1, h2, h3, h4, h5, h6⟩ := h
  exact ⟨Nat.lt_of_lt_of_le h1 g.1, h2, by rw [g.2 i2 h1 h2]; exact h3, Nat.lt_of_lt_of_le h4 g.1, h5, by rw [g.2 i3 h4 h5]; exact h6⟩

section
variable {call : CallT} (hc : Lim G call)
include hc

theorem eqf_d (ns : List ByteArray) (F i2 i3 : Nat) (l k : List Ty) (hl : l.length ≤ 1000000000000) (hk : ∀ t ∈ k, t.size ≤ 1000000000000)
    (h : ∀ x ∈ l, ∀ (t : Ty) (fs : List (Option Ty)) (M : MM), t.size ≤ 1000000000000 → FI M F fs → fs.length = ns.length → Box M i2 i3 F ns → Wp (call 76 [avT x, avT t, .ptr i2 0, .ptr i3 0] 0 M) (MAns F (matchT ns x t fs) M))
    (fs : List (Option Ty)) (M : MM) (hf : FI M F fs) (hfl : fs.length = ns.length) (hb : Box M i2 i3 F ns) :
    Wp (call 41 [avTs l, avTs k, .fn 76 [] [.ptr i2 0, .ptr i3 0]] 0 M) (MAns F (if l.length = k.length then matchTs ns l k fs else none) M) := by
  obtain ⟨nl, hG, hN⟩ : ∃ nl, G.nl = nl ∧ nl = 18446744073709551616 := ⟨_, rfl, rfl⟩
  rw [q41 hc, hG]
  clear hG
  have loop : ∀ (r s : List Ty) (i f : Nat) (fs : List (Option Ty)) (M : MM), l.drop i = r → k.drop i = s → r.length = s.length → r.length < f → FI M F fs → fs.length = ns.length → Box M i2 i3 F ns →
      Wp (b41_5 call nl 0 f (avTs k) (.fn 76 [] [.ptr i2 0, .ptr i3 0]) (avTs l) (.i l.length) (.i i) M) (MAns F (matchTs ns r s fs) M) := by
    intro r
    induction r with
    | nil =>
      intro s i f fs M hd he hrs hf hfi hfl hb
      obtain ⟨f, rfl⟩ : ∃ k, f = k + 1 := ⟨f - 1, by simp only [List.length_nil] at hf; omega⟩
      have := drop_nil hd
      have hs : s = [] := List.eq_nil_of_length_eq_zero hrs.symm
      subst hs
      unfold b41_5
      repeat (first | (with_reducible (first | refine rn_if_f ?_)) | ((with_reducible refine rn_lss_f ?_ ?_); focus omega))
      rw [matchTs]
      exact rn_myes hfi
    | cons x r ih =>
      intro s i f fs M hd he hrs hf hfi hfl hb
      match s, he, hrs with
      | y :: s, he, hrs =>
        simp only [List.length_cons] at hf hrs
        obtain ⟨f, rfl⟩ : ∃ k, f = k + 1 := ⟨f - 1, by omega⟩
        obtain ⟨hi, hd'⟩ := drop_cons hd
        obtain ⟨hi2, he'⟩ := drop_cons he
        have hx : x ∈ l := List.drop_subset i l (by rw [hd]; simp)
        have hy : y ∈ k := List.drop_subset i k (by rw [he]; simp)
        unfold b41_5
        repeat (first | (with_reducible (first | refine rn_ldT ?_ | refine rn_setT ?_ | refine rn_allT ?_ | refine rn_ixD hd ?_ | refine rn_ixD he ?_ | refine rn_mup ?_ | refine rn_if_t ?_)) | ((with_reducible refine rn_lss_t ?_ ?_); focus omega))
        have g : FrM F M ((M.up M.nx).up (M.up M.nx).nx) := FrM.up.trans FrM.up
        refine rn_callw rfl rfl (h x hx y fs _ (hk y hy) (hfi.up.up) hfl (hb.fr g)) (fun v M1 hh => ?_)
        rw [matchTs]
        cases hm : matchT ns x y fs with
        | none =>
          rw [hm] at hh
          obtain ⟨e1, g1⟩ := hh
          simp only at e1 g1
          subst e1
          refine rn_mfr g1 ?_
          repeat (first | (with_reducible (first | refine rn_if_t ?_ | refine rn_not_f ?_)))
          exact rn_mno
        | some fs' =>
          rw [hm] at hh
          obtain ⟨e1, f1, g1⟩ := hh
          simp only at e1 f1 g1
          subst e1
          refine rn_mfr g1 ?_
          repeat (first | (with_reducible (first | refine rn_if_f ?_ | refine rn_not_t ?_)) | ((with_reducible refine rn_add64 ?_ ?_); focus omega))
          exact ih s (i + 1) f fs' M1 hd' he' (by omega) (by omega) f1 (by rw [matchT_len ns x y fs fs' hm]; exact hfl) (hb.fr (g.trans g1))
  unfold s41
  repeat (first | (with_reducible (first | refine rn_lenT ?_)))
  refine rn_neq ?_
  refine rn_if (fun hne => ?_) (fun he => ?_)
  · rw [if_neg (by omega)]
    exact rn_mno
  · rw [if_pos (by omega)]
    exact loop l k 0 nl fs M rfl rfl (by omega) (by omega) hf hfl hb

theorem match_d (ns : List ByteArray) (hns : ns.length ≤ 1000000000000) (F : Nat) : ∀ (n : Nat) (p t : Ty) (fs : List (Option Ty)) (M : MM), p.size ≤ n → n ≤ 1000000000000 → t.size ≤ 1000000000000 → FI M F fs → fs.length = ns.length →
    Wp (call 53 [avT p, avT t, avS ns, .os F 0 ns.length 1] 0 M) (MAns F (matchT ns p t fs) M) := by
  intro n
  induction n with
  | zero => intro p _ _ _ h; have := p.size_pos; omega
  | succ n ih =>
    intro p t fs M hp hn ht hfi hfl
    have hs := p.size_eq
    have hlen := sizes_len p.args
    have hts := t.size_eq
    have clo : ∀ i2 i3, ∀ x ∈ p.args, ∀ (t : Ty) (fs : List (Option Ty)) (M : MM), t.size ≤ 1000000000000 → FI M F fs → fs.length = ns.length → Box M i2 i3 F ns → Wp (call 76 [avT x, avT t, .ptr i2 0, .ptr i3 0] 0 M) (MAns F (matchT ns x t fs) M) := by
      intro i2 i3 x hx t fs M ht hfi hfl hb
      have hxs := size_mem hx
      rw [q76 hc]
      unfold s76
      repeat (first | (with_reducible (first | refine rn_aggT ?_ | refine rn_allT ?_ | refine rn_mup ?_)))
      obtain ⟨b1, b2, b3, b4, b5, b6⟩ := hb.fr (FrM.up.trans FrM.up : FrM F M ((M.up M.nx).up (M.up M.nx).nx))
      refine rn_ld (ok_lt b1) b3 rfl ?_
      refine rn_ld (ok_lt b4) b6 rfl ?_
      refine rn_wp (ih x t fs _ (by omega) (by omega) ht hfi.up.up hfl) (fun v M1 hh => ?_)
      exact rn_done hh
    have main : ∀ (M : MM) (i1 i2 i3 : Nat), i1 < M.nx → i1 ≠ F → M.mem i1 = some (.cells 27 [.d (.v (.string t.name)), .d (.sl (encTs t.args) t.args.length)]) → Box M i2 i3 F ns → FI M F fs →
        Wp (b53_1 call G.nl 0 (avT p) (.ptr i1 0) (.ptr i2 0) (.ptr i3 0) M) (MAns F (matchT ns p t fs) M) := by
      intro M i1 i2 i3 a1 a2 a3 hb hfi
      obtain ⟨b1, b2, b3, b4, b5, b6⟩ := hb
      have hcl : ∀ y ∈ [avT p, avS ns], Cl y := by simp [ClS, ClT]
      have fin : ∀ (M : MM) (j k : Nat) (u : Ty) (cs : List AV), i1 < M.nx → M.mem i1 = some (.cells 27 [.d (.v (.string t.name)), .d (.sl (encTs t.args) t.args.length)]) → i3 < M.nx → M.mem i3 = some (.cells 67 [.os F 0 ns.length 1]) → F < M.nx → M.mem F = some (.cells 70 cs) → cs[k]? = some (.ptr j 0) → k < ns.length → j < M.nx → M.mem j = some (.cells 27 [.d (.v (.string u.name)), .d (.sl (encTs u.args) u.args.length)]) → u.size ≤ 1000000000000 →
          Wp (b53_4 call G.nl 0 (.ptr i1 0) (.ptr i3 0) (.i (k : Int)) M) (fun x => x = (.bool (u.same t), M.bump 9)) := by
        intro M j k u cs h1 h2 h3 h4 h5 h6 h7 h8 h9 h10 hu
        have hsm := same_cc hc _ u t (Nat.le_refl _) (by omega)
        refine rn_bumpk ?_
        refine rn_ld (ok_lt h3) h4 rfl ?_
        refine rn_ixo h8 ?_
        refine rn_ld (ok_lt h5) h6 h7 ?_
        refine rn_nilc ?_
        refine rn_ldTp (ok_lt h9) h10 ?_
        refine rn_ldTp (ok_lt h1) h2 ?_
        refine rn_pcc hsm (fz_b _) (ClT2 _ _) ?_
        exact rn_done rfl
      refine rn_allT ?_
      refine rn_ld (ok_lt b1) b3 rfl ?_
      refine rn_pcc (replaced_cc hc p ns (by omega)) (fz_i _) hcl ?_
      rw [place_ix, matchT_eq]
      cases hpl : place ns p.name p.args with
      | some k =>
        have hk := place_lt hpl
        simp only
        refine rn_geq_t (by omega) ?_
        refine rn_if_t ?_
        refine rn_ld (ok_lt b4) b6 rfl ?_
        refine rn_ixo hk ?_
        have hfi' := hfi
        obtain ⟨f1, cs, f2, f3, f4⟩ := hfi
        have hkf : k < fs.length := by omega
        obtain ⟨c, hc1, hc2⟩ := f4 k fs[k] (List.getElem?_eq_getElem hkf)
        rw [List.getElem?_eq_getElem hkf, Option.getD_some]
        refine rn_ld (ok_lt f1) f2 hc1 ?_
        cases hfk : fs[k] with
        | none =>
          rw [hfk] at hc2
          have hc2 : c = .nil := hc2
          subst hc2
          refine rn_eqp2 (rn_if_t ?_)
          refine rn_ld (ok_lt b4) b6 rfl ?_
          refine rn_ixo hk ?_
          refine rn_st1 rfl (ok_lt f1) f2 ⟨Nat.zero_le _, rfl, rfl⟩ (by omega) rfl ?_
          have fr : FrM F M (M.put F (.cells 70 (cs.set k (.ptr i1 0)))) := ⟨Nat.le_refl _, fun j _ hj => upd_ne _ _ _ _ hj⟩
          have mF : (M.put F (.cells 70 (cs.set k (.ptr i1 0)))).mem F = some (.cells 70 (cs.set k (.ptr i1 0))) := upd_same _ _ _
          refine rn_mfr fr ?_
          have m1 := (fr.2 i1 a1 a2).trans a3
          have m3 := (fr.2 i3 b4 b5).trans b6
          refine (fin (M.put F (.cells 70 (cs.set k (.ptr i1 0)))) i1 k t (cs.set k (.ptr i1 0)) a1 m1 b4 m3 f1 mF (List.getElem?_set_self (by omega)) hk a1 m1 ht).mono fun x hx => ?_
          subst hx
          rw [(t.same_iff t).2 rfl]
          refine ⟨rfl, FI.same (M := M.put F (.cells 70 (cs.set k (.ptr i1 0)))) ?_ rfl (Nat.le_add_right _ _), FrM.bump⟩
          refine ⟨f1, cs.set k (.ptr i1 0), mF, by rw [List.length_set, List.length_set]; exact f3, fun i o ho => ?_⟩
          rw [List.getElem?_set] at ho ⊢
          by_cases hik : k = i
          · rw [if_pos hik] at ho ⊢
            rw [if_pos (by omega)] at ho ⊢
            cases ho
            exact ⟨_, rfl, i1, rfl, a2, a1, ht, m1⟩
          · rw [if_neg hik] at ho ⊢
            obtain ⟨c, hc1, hc2⟩ := f4 i o ho
            exact ⟨c, hc1, hc2.fr fr⟩
        | some u =>
          rw [hfk] at hc2
          obtain ⟨j, e1, j1, j2, hu, j3⟩ := hc2
          subst e1
          refine rn_eqp1 (rn_if_f ?_)
          refine (fin M j k u cs a1 a3 b4 b6 f1 f2 hc1 hk j2 j3 hu).mono fun x hx => ?_
          subst hx
          simp only
          cases hsm : u.same t
          · exact ⟨rfl, FrM.bump⟩
          · exact ⟨rfl, hfi'.same rfl (Nat.le_add_right _ _), FrM.bump⟩
      | none =>
        simp only
        refine rn_geq_f (by decide) (rn_if_f ?_)
        repeat (first | (with_reducible (first | refine rn_noT ?_ | refine rn_nameT ?_ | refine rn_fad ?_)))
        refine rn_ld (ok_lt a1) a3 rfl ?_
        refine rn_eqS ?_
        by_cases hnm : p.name = t.name
        · rw [decide_eq_true hnm]
          repeat (first | (with_reducible (first | refine rn_noT ?_ | refine rn_argsT ?_ | refine rn_gp_tt ?_ | refine rn_fad ?_)))
          refine rn_ld (ok_lt a1) a3 rfl ?_
          repeat (first | (with_reducible (first | refine rn_some ?_ | refine rn_gtt ?_ | refine rn_gp_tt ?_)))
          refine rn_wp (eqf_d hc ns F i2 i3 p.args t.args (by omega) (fun x hx => by have := size_mem hx; omega) (clo i2 i3) fs M hfi hfl ⟨b1, b2, b3, b4, b5, b6⟩) (fun v M1 hh => ?_)
          refine rn_pt ?_
          refine rn_done ?_
          by_cases hll : p.args.length = t.args.length
          · rw [if_pos hll] at hh
            rw [if_pos ⟨hnm, hll⟩]; exact hh
          · rw [if_neg hll] at hh
            rw [if_neg (fun h => hll h.2)]; exact hh
        · rw [decide_eq_false hnm, if_neg (fun h => hnm h.1)]
          repeat (first | (with_reducible (first | refine rn_gft ?_ | refine rn_gp_ft ?_ | refine rn_pf ?_)))
          exact rn_mno
    rw [q53 hc]
    unfold s53
    repeat (first | (with_reducible (first | refine rn_aggT ?_ | refine rn_mup ?_)))
    have hfi1 : FI (M.up M.nx) F fs := hfi.up
    generalize M.up M.nx = M1 at hfi1
    refine rn_mboxT ?_
    have x1 := alloc_facts M1 (.cells 27 [.d (.v (.string t.name)), .d (.sl (encTs t.args) t.args.length)])
    have hfi2 := hfi1.alloc (b := .cells 27 [.d (.v (.string t.name)), .d (.sl (encTs t.args) t.args.length)])
    generalize M1.alloc M1.nx (.cells 27 [.d (.v (.string t.name)), .d (.sl (encTs t.args) t.args.length)]) = M2 at x1 hfi2
    refine rn_mboxD ?_
    have x2 := alloc_facts M2 (.cells 35 [avS ns])
    have hfi3 := hfi2.alloc (b := .cells 35 [avS ns])
    generalize M2.alloc M2.nx (.cells 35 [avS ns]) = M3 at x2 hfi3
    refine rn_mboxO ?_
    have x3 := alloc_facts M3 (.cells 67 [.os F 0 ns.length 1])
    have hfi4 := hfi3.alloc (b := .cells 67 [.os F 0 ns.length 1])
    generalize M3.alloc M3.nx (.cells 67 [.os F 0 ns.length 1]) = M4 at x3 hfi4
    have hF := hfi1.1
    obtain ⟨x11, x12, x13⟩ := x1
    obtain ⟨x21, x22, x23⟩ := x2
    obtain ⟨x31, x32, x33⟩ := x3
    exact main M4 M1.nx M2.nx M3.nx (by omega) (by omega) (by rw [x33 _ (by omega), x23 _ (by omega)]; exact x12) ⟨by omega, by omega, by rw [x33 _ (by omega)]; exact x22, by omega, by omega, x32⟩ hfi4

theorem indexP_d {F : Nat} {fs : List (Option Ty)} (M : MM) (hl : fs.length ≤ 1000000000000) (hf : FI M F fs) : Wp (call 77 [.os F 0 fs.length 1, .nil] 0 M) (fun x => x.2 = M ∧ ∃ j : Int, x.1 = .i j ∧ (0 ≤ j ↔ allSome fs = none)) := by
  obtain ⟨nl, hG, hN⟩ : ∃ nl, G.nl = nl ∧ nl = 18446744073709551616 := ⟨_, rfl, rfl⟩
  rw [q77 hc, hG]
  clear hG
  obtain ⟨f1, cs, f2, f3, f4⟩ := hf
  have loop : ∀ (r : List (Option Ty)) (i f : Nat), fs.drop i = r → r.length < f →
      Wp (b77_4 call nl 0 f (.os F 0 fs.length 1) .nil (.i fs.length) (.i i) M) (fun x => x.2 = M ∧ ∃ j : Int, x.1 = .i j ∧ (0 ≤ j ↔ allSome r = none)) := by
    intro r
    induction r with
    | nil =>
      intro i f hd hf
      obtain ⟨f, rfl⟩ : ∃ k, f = k + 1 := ⟨f - 1, by simp only [List.length_nil] at hf; omega⟩
      have := drop_nil hd
      unfold b77_4
      repeat (first | (with_reducible (first | refine rn_if_f ?_)) | ((with_reducible refine rn_lss_f ?_ ?_); focus omega))
      exact rn_done ⟨rfl, -1, rfl, by simp [allSome]⟩
    | cons o r ih =>
      intro i f hd hf
      simp only [List.length_cons] at hf
      obtain ⟨f, rfl⟩ : ∃ k, f = k + 1 := ⟨f - 1, by omega⟩
      obtain ⟨hi, hd'⟩ := drop_cons hd
      have ho : fs[i]? = some o := by have := congrArg List.head? hd; simpa [List.head?_drop] using this
      obtain ⟨c, hc1, hc2⟩ := f4 i o ho
      unfold b77_4
      refine rn_lss_t (by omega) (rn_if_t ?_)
      refine rn_ixo hi ?_
      refine rn_ld (ok_lt f1) f2 hc1 ?_
      cases o with
      | none =>
        have hc2 : c = .nil := hc2
        subst hc2
        refine rn_eqp2 (rn_if_t ?_)
        exact rn_done ⟨rfl, i, rfl, by simp [allSome]⟩
      | some u =>
        obtain ⟨j, e1, _⟩ := hc2
        subst e1
        refine rn_eqpn (rn_if_f ?_)
        repeat (first | ((with_reducible refine rn_add64 ?_ ?_); focus omega))
        refine (ih (i + 1) f hd' (by omega)).mono fun x hx => ?_
        obtain ⟨h1, j, h2, h3⟩ := hx
        refine ⟨h1, j, h2, ?_⟩
        rw [h3, allSome, Option.map_eq_none_iff]
  unfold s77
  repeat (first | (with_reducible (first | refine rn_len_os ?_)))
  exact loop fs 0 nl rfl (by omega)

theorem containsP_d {F : Nat} {fs : List (Option Ty)} (M : MM) (hl : fs.length ≤ 1000000000000) (hf : FI M F fs) : Wp (call 54 [.os F 0 fs.length 1, .nil] 0 M) (fun x => x = (.bool (decide (allSome fs = none)), M)) := by
  rw [q54 hc]
  unfold s54
  refine rn_wp (indexP_d hc M hl hf) (fun v M1 hh => ?_)
  obtain ⟨e1, j, e2, h⟩ := hh
  simp only at e1 e2
  subst e1
  subst e2
  refine rn_geq ?_
  exact rn_done (by rw [decide_eq_decide.2 h])

theorem Match_pc (ns : List ByteArray) (p t : Ty) (hns : ns.length ≤ 1000000000000) (hp : p.size ≤ 1000000000000) (ht : t.size ≤ 1000000000000) : PC call 22 [avT p, avT t, avS ns] (avMt (matchAll ns p t)) := by
  refine Wp.pc (fun M => ?_) (fz_Mt _)
  obtain ⟨nl, hG, hN⟩ : ∃ nl, G.nl = nl ∧ nl = 18446744073709551616 := ⟨_, rfl, rfl⟩
  rw [q22 hc, hG]
  clear hG
  have hcl : ∀ y ∈ [avS ns], Cl y := by simp [ClS]
  have out : ∀ (fs : List (Option Ty)) (F : Nat), fs.length ≤ 1000000000000 → ∀ (r : List (Option Ty)) (us d : List Ty) (i f : Nat) (M : MM), fs.drop i = r → r.length < f → FI M F fs → d.length = i → allSome r = some us →
      Wp (b22_7 call nl 0 f (avTs d) (.os F 0 fs.length 1) (.i fs.length) (.i i) M) (Av (.tup [avTs (d ++ us), .bool true])) := by
    intro fs F hfl r
    induction r with
    | nil =>
      intro us d i f M hd hf hfi hdl hu
      obtain ⟨f, rfl⟩ : ∃ k, f = k + 1 := ⟨f - 1, by simp only [List.length_nil] at hf; omega⟩
      have := drop_nil hd
      cases hu
      unfold b22_7
      repeat (first | (with_reducible (first | refine rn_if_f ?_)) | ((with_reducible refine rn_lss_f ?_ ?_); focus omega))
      rw [List.append_nil]
      exact rn_av
    | cons o r ih =>
      intro us d i f M hd hf hfi hdl hu
      simp only [List.length_cons] at hf
      obtain ⟨f, rfl⟩ : ∃ k, f = k + 1 := ⟨f - 1, by omega⟩
      obtain ⟨hi, hd'⟩ := drop_cons hd
      have ho : fs[i]? = some o := by have := congrArg List.head? hd; simpa [List.head?_drop] using this
      have hfi' := hfi
      obtain ⟨f1, cs, f2, f3, f4⟩ := hfi
      obtain ⟨c, hc1, hc2⟩ := f4 i o ho
      cases o with
      | none => rw [allSome] at hu; cases hu
      | some u =>
        rw [allSome] at hu
        obtain ⟨us', hu', rfl⟩ := Option.map_eq_some_iff.1 hu
        obtain ⟨j, e1, _, j2, hus, j3⟩ := hc2
        subst e1
        have hbb : (d.length + 1) * 40 ≤ 140737488355328 ∧ d.length + 1 ≤ 9223372036854775807 := by omega
        unfold b22_7
        refine rn_lss_t (by omega) (rn_if_t ?_)
        refine rn_ixo hi ?_
        refine rn_ld (ok_lt f1) f2 hc1 ?_
        refine rn_nilc ?_
        refine rn_ldTp (ok_lt j2) j3 ?_
        refine rn_pcc (clone_cc hc _ u hus (Nat.le_refl _)) (fz_T _) (ClT1 u) ?_
        repeat (first | (with_reducible (first | refine rn_upk ?_ | refine rn_wslT1 ?_ | refine rn_appT1 hbb ?_)) | ((with_reducible refine rn_add64 ?_ ?_); focus omega))
        rw [show d ++ (u :: us') = (d ++ [u]) ++ us' by simp]
        exact ih us' (d ++ [u]) (i + 1) f _ hd' (by omega) hfi'.up.up (by simp [hdl]) hu'
  unfold s22
  repeat (first | (with_reducible (first | refine rn_aggT ?_ | refine rn_upk ?_ | refine rn_len_sl ?_)))
  refine rn_mkslice rfl ⟨by omega, by omega⟩ ?_
  generalize hM0 : (M.up M.nx).up (M.up M.nx).nx = M0
  clear hM0
  have a := alloc_facts M0 (.cells 70 ((List.replicate ns.length [AV.nil]).flatten))
  generalize M0.alloc M0.nx (.cells 70 ((List.replicate ns.length [AV.nil]).flatten)) = M4 at a
  obtain ⟨a1, a2, _⟩ := a
  generalize M0.nx = F at a1 a2
  have efl : (List.replicate ns.length [AV.nil]).flatten = List.replicate ns.length AV.nil := by
    induction ns.length with
    | zero => rfl
    | succ n ih => rw [List.replicate_succ, List.flatten_cons, ih, List.replicate_succ]; rfl
  rw [efl] at a2
  have hfi : FI M4 F (List.replicate ns.length none) := by
    refine ⟨a1, _, a2, by simp, fun i o ho => ?_⟩
    have hi : i < ns.length := by
      have := (List.getElem?_eq_some_iff.1 ho).1
      simpa using this
    rw [List.getElem?_replicate, if_pos hi] at ho ⊢
    cases ho
    exact ⟨_, rfl, rfl⟩
  repeat (first | (with_reducible (first | refine rn_pcc (twice_cc hc ns (by omega)) (fz_b _) hcl ?_)))
  unfold matchAll
  cases htw : twice ns
  · rw [if_neg (by simp)]
    repeat (first | (with_reducible (first | refine rn_allT ?_ | refine rn_some ?_ | refine rn_gff ?_ | refine rn_gp_ff ?_)))
    refine rn_wp (match_d hc ns hns F _ p t _ M4 (Nat.le_refl _) hp ht hfi (by simp)) (fun v M9 hh => ?_)
    cases hm : matchT ns p t (List.replicate ns.length none) with
    | none =>
      rw [hm] at hh
      obtain ⟨e1, _⟩ := hh
      simp only at e1
      subst e1
      repeat (first | (with_reducible (first | refine rn_if_t ?_ | refine rn_gtf ?_ | refine rn_gp_ff ?_ | refine rn_gp_tf ?_ | refine rn_pt ?_ | refine rn_pf ?_ | refine rn_not_f ?_)))
      exact rn_av
    | some fs =>
      rw [hm] at hh
      obtain ⟨e1, h1, _⟩ := hh
      simp only at e1 h1
      subst e1
      have hfl : fs.length = ns.length := by rw [matchT_len ns p t _ fs hm]; simp
      repeat (first | (with_reducible (first | refine rn_some ?_ | refine rn_gff ?_ | refine rn_gp_ff ?_ | refine rn_pf ?_ | refine rn_not_t ?_)))
      rw [← hfl]
      refine rn_wp (containsP_d hc M9 (by omega) h1) (fun v M15 hh => ?_)
      injection hh with e1 e2
      subst e1
      subst e2
      simp only
      cases hs : allSome fs with
      | none =>
        repeat (first | (with_reducible (first | refine rn_pf ?_)))
        exact rn_av
      | some us =>
        repeat (first | (with_reducible (first | refine rn_pf ?_)))
        exact out fs F (by omega) fs us [] 0 nl M15 rfl (by omega) h1 rfl hs
  · rw [if_pos rfl]
    repeat (first | (with_reducible (first | refine rn_if_t ?_ | refine rn_gtf ?_ | refine rn_gp_tf ?_ | refine rn_pt ?_)))
    exact rn_av
end
end Go.Proofs.Ytcoagkfjdpdohaa.Sx
