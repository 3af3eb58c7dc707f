/-
  SX, PART M: THE LIMIT: a call without a bound on the depth of calls. 'Lim G call': 'call' answers what 'acall G N' answers for some N. Its functions satisfy their own printed definitions.
-/
import Derived.Test.YtegkhdflmboljaaSxLPl
namespace Go.Proofs.Ytegkhdflmboljaa.Sx
open Go

def CallLe (c c' : CallT) : Prop := ∀ f args lo M x, c f args lo M = some x → c' f args lo M = some x

section
variable {c c' : CallT} {mode : FuncId → Mode}

theorem docall_mono (h : CallLe c c') {draw : Bool} {lo : Nat} {lim : Lm} {f : FuncId} {args : List AV} {M : MM} {x : AV × MM} (hx : docall c mode draw lo lim f args M = some x) : docall c' mode draw lo lim f args M = some x := by
  unfold docall at hx ⊢
  cases hm : mode f with
  | pure =>
    simp only [hm] at hx ⊢
    cases ha : args.mapM (snap (look M.mem lim)) with
    | none => rw [ha] at hx; cases hx
    | some args' =>
      rw [ha] at hx
      simp only at hx ⊢
      cases hc : c f args' 0 ⟨0, fun _ => none⟩ with
      | none => rw [hc] at hx; cases hx
      | some p => rw [hc] at hx; rw [h _ _ _ _ _ hc]; exact hx
  | ro =>
    simp only [hm] at hx ⊢
    cases hc : c f args M.nx ⟨M.nx, look M.mem lim⟩ with
    | none => rw [hc] at hx; cases hx
    | some p => rw [hc] at hx; rw [h _ _ _ _ _ hc]; exact hx
  | rw =>
    simp only [hm] at hx ⊢
    split at hx
    · rename_i hd
      rw [if_pos hd]
      unfold rwD at hx ⊢
      cases hc : c f args lo ⟨M.nx, hideM lim M.mem⟩ with
      | none => rw [hc] at hx; cases hx
      | some p => rw [hc] at hx; rw [h _ _ _ _ _ hc]; exact hx
    · rename_i hd; rw [if_neg hd]; exact h _ _ _ _ _ hx

theorem istep_mono (h : CallLe c c') {draw : Bool} {lo : Nat} {lim : Lm} {fresh : Nat} {i : I} {ρ : List AV} {M : MM} {x : AV × MM} (hx : istep c mode draw lo lim fresh i ρ M = some x) : istep c' mode draw lo lim fresh i ρ M = some x := by
  cases i
  case call f args => exact docall_mono h hx
  case callv y args =>
    simp only [istep] at hx ⊢
    generalize ev ρ y = z at hx ⊢
    cases z
    case fn f a b => exact docall_mono h hx
    all_goals exact hx
  case callw no y args =>
    simp only [istep] at hx ⊢
    generalize ev ρ y = z at hx ⊢
    cases z
    case fn f a b =>
      simp only at hx ⊢
      split at hx
      · cases hx
      · rename_i hno; rw [if_neg hno]; exact docall_mono h hx
    all_goals exact hx
  case callk f args rs =>
    simp only [istep] at hx ⊢
    cases hd : docall c mode draw lo lim f (args.map (ev ρ)) M with
    | none => rw [hd] at hx; cases hx
    | some p => rw [hd] at hx; rw [docall_mono h hd]; exact hx
  all_goals exact hx

theorem step1_mono (h : CallLe c c') {draw : Bool} {lo : Nat} {lim : Lm} {fresh : Nat} {o : Op1} {s s' : St} (hx : step1 c mode draw lo lim fresh o s = some s') : step1 c' mode draw lo lim fresh o s = some s' := by
  unfold step1 at hx ⊢
  split at hx
  · cases hx
  · exact hx
  · cases hi : istep c mode draw lo lim fresh o.i s.ρ s.M with
    | none => rw [hi] at hx; cases hx
    | some p => rw [hi] at hx; rw [istep_mono h hi]; exact hx

theorem regN_mono (h : CallLe c c') {lo : Nat} : ∀ {ops : List Op1} {s s' : St}, regN c mode lo ops s = some s' → regN c' mode lo ops s = some s'
  | [], _, _, hx => hx
  | o :: r, s, s', hx => by
    simp only [regN] at hx ⊢
    cases h1 : step1 c mode false lo (.top s.M.nx) s.M.nx o s with
    | none => rw [h1] at hx; cases hx
    | some t => rw [h1] at hx; rw [step1_mono h h1]; exact regN_mono h hx

theorem regD_mono (h : CallLe c c') {lo base n : Nat} : ∀ {ops : List Op1} {i : Nat} {s s' : St}, regD c mode lo base n ops i s = some s' → regD c' mode lo base n ops i s = some s'
  | [], _, _, _, hx => hx
  | o :: r, i, s, s', hx => by
    simp only [regD] at hx ⊢
    cases h1 : step1 c mode true lo ⟨base, n, o.m, o.w⟩ (base + i) o s with
    | none => rw [h1] at hx; cases hx
    | some t => rw [h1] at hx; rw [step1_mono h h1]; exact regD_mono h hx

theorem regX_mono (h : CallLe c c') {lo base n : Nat} : ∀ {ops : List (Option Nat × Op1)} {s s' : St}, regX c mode lo base n ops s = some s' → regX c' mode lo base n ops s = some s'
  | [], _, _, hx => hx
  | (i, o) :: r, s, s', hx => by
    simp only [regX] at hx ⊢
    cases h1 : step1 c mode true lo ⟨base, n, o.m, o.w⟩ (idX base i s.M) o s with
    | none => rw [h1] at hx; cases hx
    | some t => rw [h1] at hx; rw [step1_mono h h1]; exact regX_mono h hx

theorem iter_mono {f g : St → Option (Ex × St)} (h : ∀ s x, f s = some x → g s = some x) : ∀ {n : Nat} {s : St} {x : Ex × St}, iter f n s = some x → iter g n s = some x
  | 0, _, _, hx => hx
  | n + 1, s, x, hx => by
    simp only [iter] at hx ⊢
    cases hf : f s with
    | none => rw [hf] at hx; cases hx
    | some p =>
      rw [hf] at hx; rw [h _ _ hf]
      obtain ⟨e, s'⟩ := p
      cases e with
      | normal => exact iter_mono h hx
      | exit i => exact hx
      | ret => exact hx

theorem exec_mono (h : CallLe c c') {lo nl : Nat} : ∀ (k : K) {s : St} {x : Ex × St}, exec c mode lo nl k s = some x → exec c' mode lo nl k s = some x
  | .skip, _, _, hx => hx
  | .reg ops, s, x, hx => by
    simp only [exec, Option.map_eq_some_iff] at hx ⊢
    obtain ⟨t, h1, h2⟩ := hx; exact ⟨t, regN_mono h h1, h2⟩
  | .drg ops, s, x, hx => by
    simp only [exec, Option.map_eq_some_iff] at hx ⊢
    obtain ⟨t, h1, h2⟩ := hx; exact ⟨t, regD_mono h h1, h2⟩
  | .drx n ops, s, x, hx => by
    simp only [exec, Option.map_eq_some_iff] at hx ⊢
    obtain ⟨t, h1, h2⟩ := hx; exact ⟨t, regX_mono h h1, h2⟩
  | .seq a b, s, x, hx => by
    simp only [exec] at hx ⊢
    cases ha : exec c mode lo nl a s with
    | none => rw [ha] at hx; cases hx
    | some p =>
      rw [ha] at hx; rw [exec_mono h a ha]
      obtain ⟨e, s'⟩ := p
      cases e with
      | normal => exact exec_mono h b hx
      | exit i => exact hx
      | ret => exact hx
  | .cond y a b, s, x, hx => by
    simp only [exec] at hx ⊢
    have h1 := exec_mono h a (s := s) (x := x) (lo := lo) (nl := nl)
    have h2 := exec_mono h b (s := s) (x := x) (lo := lo) (nl := nl)
    generalize ev s.ρ y = z at hx ⊢
    cases z with
    | d d => cases d with
      | sl => exact hx
      | v v => cases v with
        | bool t => cases t
                    · exact h2 hx
                    · exact h1 hx
        | _ => exact hx
    | _ => exact hx
  | .block id a, s, x, hx => by
    simp only [exec] at hx ⊢
    cases ha : exec c mode lo nl a s with
    | none => rw [ha] at hx; cases hx
    | some p => rw [ha] at hx; rw [exec_mono h a ha]; exact hx
  | .loop a, s, x, hx => iter_mono (fun _ _ => exec_mono h a) hx
  | .exit id, _, _, hx => hx
  | .ret, _, _, hx => hx
end

theorem acall_succ (G : Prog) : ∀ N, CallLe (acall G N) (acall G (N + 1))
  | 0 => fun f args lo M x h => by simp [acall] at h
  | N + 1 => fun f args lo M x h => by
    have ih := acall_succ G N
    generalize hc : acall G (N + 1) = c1 at ih ⊢
    unfold acall at h ⊢
    cases hf : G.fns f with
    | none => rw [hf] at h; cases h
    | some k =>
      rw [hf] at h
      cases k with
      | prim p => exact h
      | code cf =>
        simp only at h ⊢
        cases he : exec (acall G N) G.mode lo G.nl cf.body ⟨args ++ List.replicate (cf.nt - args.length) .undef, M⟩ with
        | none => rw [he] at h; cases h
        | some y =>
          rw [he] at h
          have := exec_mono ih cf.body he
          rw [← hc] at this
          rw [this]; exact h

theorem acall_mono (G : Prog) {N N' : Nat} (h : N ≤ N') : CallLe (acall G N) (acall G N') := by
  induction h with
  | refl => exact fun _ _ _ _ _ h => h
  | step _ ih => exact fun _ _ _ _ _ h => acall_succ G _ _ _ _ _ _ (ih _ _ _ _ _ h)

def Lim (G : Prog) (call : CallT) : Prop := ∀ f args lo M x, call f args lo M = some x ↔ ∃ N, acall G N f args lo M = some x

theorem Lim.exists (G : Prog) : ∃ call, Lim G call := by
  classical
  refine ⟨fun f args lo M => if h : ∃ N x, acall G N f args lo M = some x then some (Classical.choose (Classical.choose_spec h)) else none, fun f args lo M x => ?_⟩
  show (if h : ∃ N x, acall G N f args lo M = some x then some (Classical.choose (Classical.choose_spec h)) else none) = some x ↔ _
  constructor
  · intro h
    split at h
    · rename_i hh
      simp only [Option.some.injEq] at h
      exact ⟨_, h ▸ Classical.choose_spec (Classical.choose_spec hh)⟩
    · cases h
  · rintro ⟨N, h⟩
    have hh : ∃ N x, acall G N f args lo M = some x := ⟨N, x, h⟩
    rw [dif_pos hh]
    have h2 := Classical.choose_spec (Classical.choose_spec hh)
    have h3 := acall_mono G (Nat.le_max_left N (Classical.choose hh)) _ _ _ _ _ h
    have h4 := acall_mono G (Nat.le_max_right N (Classical.choose hh)) _ _ _ _ _ h2
    rw [h3] at h4
    exact h4.symm

section
variable {G : Prog} {call : CallT} (hc : Lim G call)
include hc

theorem Lim.ge (N : Nat) : CallLe (acall G N) call := fun _ _ _ _ _ h => (hc _ _ _ _ _).2 ⟨N, h⟩

theorem Lim.docall {draw : Bool} {lo : Nat} {lim : Lm} {f : FuncId} {args : List AV} {M : MM} {x : AV × MM} (hx : docall call G.mode draw lo lim f args M = some x) : ∃ N, docall (acall G N) G.mode draw lo lim f args M = some x := by
  unfold Sx.docall at hx
  cases hm : G.mode f with
  | pure =>
    simp only [hm] at hx
    cases ha : args.mapM (snap (look M.mem lim)) with
    | none => rw [ha] at hx; cases hx
    | some args' =>
      rw [ha] at hx
      simp only at hx
      cases hcc : call f args' 0 ⟨0, fun _ => none⟩ with
      | none => rw [hcc] at hx; cases hx
      | some p =>
        rw [hcc] at hx
        obtain ⟨N, hN⟩ := (hc _ _ _ _ _).1 hcc
        exact ⟨N, by unfold Sx.docall; simp only [hm, ha, hN]; exact hx⟩
  | ro =>
    simp only [hm] at hx
    cases hcc : call f args M.nx ⟨M.nx, look M.mem lim⟩ with
    | none => rw [hcc] at hx; cases hx
    | some p =>
      rw [hcc] at hx
      obtain ⟨N, hN⟩ := (hc _ _ _ _ _).1 hcc
      exact ⟨N, by unfold Sx.docall; simp only [hm, hN]; exact hx⟩
  | rw =>
    simp only [hm] at hx
    split at hx
    · rename_i hd
      unfold rwD at hx
      cases hcc : call f args lo ⟨M.nx, hideM lim M.mem⟩ with
      | none => rw [hcc] at hx; cases hx
      | some p =>
        rw [hcc] at hx
        obtain ⟨N, hN⟩ := (hc _ _ _ _ _).1 hcc
        exact ⟨N, by unfold Sx.docall; simp only [hm]; rw [if_pos hd]; unfold rwD; rw [hN]; exact hx⟩
    · rename_i hd
      obtain ⟨N, hN⟩ := (hc _ _ _ _ _).1 hx
      exact ⟨N, by unfold Sx.docall; simp only [hm]; rw [if_neg hd]; exact hN⟩

theorem Lim.istep {draw : Bool} {lo : Nat} {lim : Lm} {fresh : Nat} {i : I} {ρ : List AV} {M : MM} {x : AV × MM} (hx : istep call G.mode draw lo lim fresh i ρ M = some x) : ∃ N, istep (acall G N) G.mode draw lo lim fresh i ρ M = some x := by
  cases i
  case call f args => exact hc.docall hx
  case callv y args =>
    simp only [Sx.istep] at hx ⊢
    generalize ev ρ y = z at hx ⊢
    cases z
    case fn f a b => exact hc.docall hx
    all_goals exact ⟨0, hx⟩
  case callw no y args =>
    simp only [Sx.istep] at hx ⊢
    generalize ev ρ y = z at hx ⊢
    cases z
    case fn f a b =>
      simp only at hx ⊢
      split at hx
      · cases hx
      · rename_i hno
        obtain ⟨N, hN⟩ := hc.docall hx
        exact ⟨N, by rw [if_neg hno]; exact hN⟩
    all_goals exact ⟨0, hx⟩
  case callk f args rs =>
    simp only [Sx.istep] at hx ⊢
    cases hd : Sx.docall call G.mode draw lo lim f (args.map (ev ρ)) M with
    | none => rw [hd] at hx; cases hx
    | some p =>
      rw [hd] at hx
      obtain ⟨N, hN⟩ := hc.docall hd
      exact ⟨N, by rw [hN]; exact hx⟩
  all_goals exact ⟨0, hx⟩

theorem Lim.step1 {draw : Bool} {lo : Nat} {lim : Lm} {fresh : Nat} {o : Op1} {s s' : St} (hx : step1 call G.mode draw lo lim fresh o s = some s') : ∃ N, step1 (acall G N) G.mode draw lo lim fresh o s = some s' := by
  unfold Sx.step1 at hx ⊢
  split at hx
  · cases hx
  · exact ⟨0, hx⟩
  · cases hi : Sx.istep call G.mode draw lo lim fresh o.i s.ρ s.M with
    | none => rw [hi] at hx; cases hx
    | some p =>
      rw [hi] at hx
      obtain ⟨N, hN⟩ := hc.istep hi
      exact ⟨N, by rw [hN]; exact hx⟩

theorem Lim.regN {lo : Nat} : ∀ {ops : List Op1} {s s' : St}, regN call G.mode lo ops s = some s' → ∃ N, regN (acall G N) G.mode lo ops s = some s'
  | [], _, _, hx => ⟨0, hx⟩
  | o :: r, s, s', hx => by
    simp only [Sx.regN] at hx
    cases h1 : Sx.step1 call G.mode false lo (.top s.M.nx) s.M.nx o s with
    | none => rw [h1] at hx; cases hx
    | some t =>
      rw [h1] at hx
      obtain ⟨N1, hN1⟩ := hc.step1 h1
      obtain ⟨N2, hN2⟩ := Lim.regN hx
      exact ⟨max N1 N2, by simp only [Sx.regN]; rw [step1_mono (acall_mono G (Nat.le_max_left N1 N2)) hN1]; exact regN_mono (acall_mono G (Nat.le_max_right N1 N2)) hN2⟩

theorem Lim.regD {lo base n : Nat} : ∀ {ops : List Op1} {i : Nat} {s s' : St}, regD call G.mode lo base n ops i s = some s' → ∃ N, regD (acall G N) G.mode lo base n ops i s = some s'
  | [], _, _, _, hx => ⟨0, hx⟩
  | o :: r, i, s, s', hx => by
    simp only [Sx.regD] at hx
    cases h1 : Sx.step1 call G.mode true lo ⟨base, n, o.m, o.w⟩ (base + i) o s with
    | none => rw [h1] at hx; cases hx
    | some t =>
      rw [h1] at hx
      obtain ⟨N1, hN1⟩ := hc.step1 h1
      obtain ⟨N2, hN2⟩ := Lim.regD hx
      exact ⟨max N1 N2, by simp only [Sx.regD]; rw [step1_mono (acall_mono G (Nat.le_max_left N1 N2)) hN1]; exact regD_mono (acall_mono G (Nat.le_max_right N1 N2)) hN2⟩

theorem Lim.regX {lo base n : Nat} : ∀ {ops : List (Option Nat × Op1)} {s s' : St}, regX call G.mode lo base n ops s = some s' → ∃ N, regX (acall G N) G.mode lo base n ops s = some s'
  | [], _, _, hx => ⟨0, hx⟩
  | (i, o) :: r, s, s', hx => by
    simp only [Sx.regX] at hx
    cases h1 : Sx.step1 call G.mode true lo ⟨base, n, o.m, o.w⟩ (idX base i s.M) o s with
    | none => rw [h1] at hx; cases hx
    | some t =>
      rw [h1] at hx
      obtain ⟨N1, hN1⟩ := hc.step1 h1
      obtain ⟨N2, hN2⟩ := Lim.regX hx
      exact ⟨max N1 N2, by simp only [Sx.regX]; rw [step1_mono (acall_mono G (Nat.le_max_left N1 N2)) hN1]; exact regX_mono (acall_mono G (Nat.le_max_right N1 N2)) hN2⟩

omit hc in
theorem Lim.iter {lo nl : Nat} {a : K} (ih : ∀ {s : St} {x : Ex × St}, exec call G.mode lo nl a s = some x → ∃ N, exec (acall G N) G.mode lo nl a s = some x) : ∀ {n : Nat} {s : St} {x : Ex × St},
    iter (exec call G.mode lo nl a) n s = some x → ∃ N, iter (exec (acall G N) G.mode lo nl a) n s = some x
  | 0, _, _, hx => ⟨0, hx⟩
  | n + 1, s, x, hx => by
    simp only [Sx.iter] at hx
    cases h1 : exec call G.mode lo nl a s with
    | none => rw [h1] at hx; cases hx
    | some p =>
      rw [h1] at hx
      obtain ⟨N1, hN1⟩ := ih h1
      obtain ⟨e, s'⟩ := p
      cases e with
      | normal =>
        obtain ⟨N2, hN2⟩ := Lim.iter ih hx
        exact ⟨max N1 N2, by
          simp only [Sx.iter]; rw [exec_mono (acall_mono G (Nat.le_max_left N1 N2)) a hN1]
          exact iter_mono (fun _ _ => exec_mono (acall_mono G (Nat.le_max_right N1 N2)) a) hN2⟩
      | exit i => exact ⟨N1, by simp only [Sx.iter]; rw [hN1]; exact hx⟩
      | ret => exact ⟨N1, by simp only [Sx.iter]; rw [hN1]; exact hx⟩

theorem Lim.exec {lo nl : Nat} : ∀ (k : K) {s : St} {x : Ex × St}, exec call G.mode lo nl k s = some x → ∃ N, exec (acall G N) G.mode lo nl k s = some x
  | .skip, _, _, hx => ⟨0, hx⟩
  | .reg ops, s, x, hx => by
    simp only [Sx.exec, Option.map_eq_some_iff] at hx ⊢
    obtain ⟨t, h1, h2⟩ := hx
    obtain ⟨N, hN⟩ := hc.regN h1
    exact ⟨N, t, hN, h2⟩
  | .drg ops, s, x, hx => by
    simp only [Sx.exec, Option.map_eq_some_iff] at hx ⊢
    obtain ⟨t, h1, h2⟩ := hx
    obtain ⟨N, hN⟩ := hc.regD h1
    exact ⟨N, t, hN, h2⟩
  | .drx n ops, s, x, hx => by
    simp only [Sx.exec, Option.map_eq_some_iff] at hx ⊢
    obtain ⟨t, h1, h2⟩ := hx
    obtain ⟨N, hN⟩ := hc.regX h1
    exact ⟨N, t, hN, h2⟩
  | .seq a b, s, x, hx => by
    simp only [Sx.exec] at hx
    cases ha : Sx.exec call G.mode lo nl a s with
    | none => rw [ha] at hx; cases hx
    | some p =>
      rw [ha] at hx
      obtain ⟨N1, hN1⟩ := Lim.exec a ha
      obtain ⟨e, s'⟩ := p
      cases e with
      | normal =>
        obtain ⟨N2, hN2⟩ := Lim.exec b hx
        exact ⟨max N1 N2, by
          simp only [Sx.exec]; rw [exec_mono (acall_mono G (Nat.le_max_left N1 N2)) a hN1]
          exact exec_mono (acall_mono G (Nat.le_max_right N1 N2)) b hN2⟩
      | exit i => exact ⟨N1, by simp only [Sx.exec]; rw [hN1]; exact hx⟩
      | ret => exact ⟨N1, by simp only [Sx.exec]; rw [hN1]; exact hx⟩
  | .cond y a b, s, x, hx => by
    have h1 := Lim.exec a (s := s) (x := x) (lo := lo) (nl := nl)
    have h2 := Lim.exec b (s := s) (x := x) (lo := lo) (nl := nl)
    simp only [Sx.exec] at hx ⊢
    generalize ev s.ρ y = z at hx ⊢
    cases z with
    | d d => cases d with
      | sl => exact ⟨0, hx⟩
      | v v => cases v with
        | bool t => cases t
                    · exact h2 hx
                    · exact h1 hx
        | _ => exact ⟨0, hx⟩
    | _ => exact ⟨0, hx⟩
  | .block id a, s, x, hx => by
    simp only [Sx.exec] at hx
    cases ha : Sx.exec call G.mode lo nl a s with
    | none => rw [ha] at hx; cases hx
    | some p =>
      rw [ha] at hx
      obtain ⟨N, hN⟩ := Lim.exec a ha
      exact ⟨N, by simp only [Sx.exec]; rw [hN]; exact hx⟩
  | .loop a, s, x, hx => Lim.iter (fun h => Lim.exec a h) hx
  | .exit id, _, _, hx => ⟨0, hx⟩
  | .ret, _, _, hx => ⟨0, hx⟩

theorem Lim.code {f : FuncId} {cf : CF} (hf : G.fns f = some (.code cf)) (args : List AV) (lo : Nat) (M : MM) :
    call f args lo M = match Sx.exec call G.mode lo G.nl cf.body ⟨args ++ List.replicate (cf.nt - args.length) .undef, M⟩ with
      | some (.normal, s) | some (.ret, s) => (resAll s cf.res).map (·, s.M)
      | _ => none := by
  have key : ∀ x, call f args lo M = some x ↔ (match Sx.exec call G.mode lo G.nl cf.body ⟨args ++ List.replicate (cf.nt - args.length) .undef, M⟩ with
      | some (.normal, s) | some (.ret, s) => (resAll s cf.res).map (·, s.M)
      | _ => none) = some x := by
    intro x
    rw [hc]
    constructor
    · rintro ⟨N, h⟩
      cases N with
      | zero => simp [acall] at h
      | succ N =>
        rw [acall_code hf] at h
        cases he : Sx.exec (acall G N) G.mode lo G.nl cf.body ⟨args ++ List.replicate (cf.nt - args.length) .undef, M⟩ with
        | none => rw [he] at h; cases h
        | some y => rw [he] at h; rw [exec_mono (hc.ge N) cf.body he]; exact h
    · intro h
      cases he : Sx.exec call G.mode lo G.nl cf.body ⟨args ++ List.replicate (cf.nt - args.length) .undef, M⟩ with
      | none => rw [he] at h; cases h
      | some y =>
        rw [he] at h
        obtain ⟨N, hN⟩ := hc.exec cf.body he
        exact ⟨N + 1, by rw [acall_code hf, hN]; exact h⟩
  cases h1 : call f args lo M with
  | some x => exact ((key x).1 h1).symm
  | none =>
    cases h2 : (match Sx.exec call G.mode lo G.nl cf.body ⟨args ++ List.replicate (cf.nt - args.length) .undef, M⟩ with
      | some (.normal, s) | some (.ret, s) => (resAll s cf.res).map (·, s.M)
      | _ => none) with
    | none => rfl
    | some x => rw [(key x).2 h2] at h1; cases h1

theorem Lim.flow {f : FuncId} {cf : CF} (hf : G.fns f = some (.code cf)) (hw : wfK cf.nt cf.body = true) (args : List AV) (lo : Nat) (M : MM) :
    call f args lo M = execC call G.mode lo G.nl cf.body (endK cf.res) noE (endK cf.res) (aF args) M := by
  rw [hc.code hf]; exact exec_flow call G.mode lo G.nl hw args M

theorem Lim.prim {f : FuncId} {p : List AV → Nat → MM → Option (AV × MM)} (hf : G.fns f = some (.prim p)) (args : List AV) (lo : Nat) (M : MM) : call f args lo M = p args lo M := by
  have e : ∀ N, acall G (N + 1) f args lo M = p args lo M := fun N => by simp only [acall, hf]
  cases h1 : call f args lo M with
  | some x =>
    obtain ⟨N, h⟩ := (hc _ _ _ _ _).1 h1
    cases N with
    | zero => simp [acall] at h
    | succ N => rw [e] at h; exact h.symm
  | none =>
    cases h2 : p args lo M with
    | none => rfl
    | some x => rw [(hc _ _ _ _ _).2 ⟨1, (e 0).trans h2⟩] at h1; cases h1
end

theorem Lim.law {G : Prog} {f : FuncId} {args : List AV} (h : ∀ call, Lim G call → ∃ M', call f args 0 ⟨0, fun _ => none⟩ = some (.bool true, M')) :
    ∃ N M', acall G N f args 0 ⟨0, fun _ => none⟩ = some (.bool true, M') := by
  obtain ⟨call, hc⟩ := Lim.exists G
  obtain ⟨M', h1⟩ := h call hc
  obtain ⟨N, h2⟩ := (hc _ _ _ _ _).1 h1
  exact ⟨N, M', h2⟩

theorem fst_some {o : Option (AV × MM)} {a : AV} (h : o.map Prod.fst = some a) : ∃ M', o = some (a, M') := by
  obtain ⟨⟨r, M'⟩, h1, h2⟩ := Option.map_eq_some_iff.1 h
  exact ⟨M', by rw [h1]; subst h2; rfl⟩

theorem Lim.closed {G : Prog} {call : CallT} (hc : Lim G call) (N : Nat) {f : FuncId} {args : List AV} {r r' : AV} (h : (acall G N f args 0 ⟨0, fun _ => none⟩).map Prod.fst = some r)
    (hf : ∀ m, freeze m 0 r = some r') : PC call f args r' := by
  obtain ⟨M', h1⟩ := fst_some h
  exact ⟨r, M', hc.ge N _ _ _ _ _ h1, hf _⟩
end Go.Proofs.Ytegkhdflmboljaa.Sx
