/-
  SX, PART W: EVERY OPERATION THAT IS SERVED: 'sim_op'.
-/
import Derived.Test.YtegkhdflmboljaaSxVPl
namespace Go.Proofs.Ytegkhdflmboljaa.Sx
open Go

section
variable {P : Program} {call : CallT} {mode : FuncId → Mode} {o : Oper}

theorem sim_op' (hcall : CallOK P call) {os : List TypeId} {i : I} (h : compOp' P os o = some i) : OpSim P call mode i o := by
  unfold compOp' at h
  split at h
  · rename_i x ho; exact sim_mov (.inl ho) h
  · rename_i x ho; exact sim_mov (.inr ho) h
  · rename_i x y z ho
    split at h
    · rename_i hx hy hz; injection h with h; subst h; exact sim_pick ho hx hy hz
    · cases h
  · rename_i e ho
    split at h
    · rename_i ti hi
      split at h
      · rename_i z hz
        obtain ⟨cs, hc, rfl⟩ := Option.map_eq_some_iff.1 h
        exact sim_new ho hi hz hc
      · cases h
    · cases h
  · rename_i e x ho
    obtain ⟨x', hx, rfl⟩ := Option.map_eq_some_iff.1 h
    exact sim_box ho hx
  · rename_i t parts ho
    split at h
    · rename_i ti fs hi hu
      split at h
      · rename_i z pl hz hpl
        split at h
        · rename_i cs ps hc hps; injection h with h; subst h; exact sim_mk_struct ho hi hu hz hpl hc hps
        · cases h
      · cases h
    · rename_i ti n e hi hu
      split at h
      · rename_i z ie hz hie
        split at h
        · rename_i cs ps hc hps; injection h with h; subst h; exact sim_mk_array ho hi hu hz hie hc hps
        · cases h
      · cases h
    · cases h
  · rename_i t len parts ho
    split at h
    · rename_i e hu
      split at h
      · rename_i ie hie
        split at h
        · rename_i z hz
          split at h
          · rename_i cs ps hc hps
            split at h
            · rename_i hcond; injection h with h; subst h; split; exact sim_mksl ho hu hie hz hc hps hcond.1 hcond.2.1 hcond.2.2; exact sim_vsl ho hu hie hz hc hps hcond.1 hcond.2.1 hcond.2.2
            · cases h
          · cases h
        · cases h
      · cases h
    · cases h
  · rename_i t a ho
    split at h
    · rename_i d i a' hu hi hx; injection h with h; subst h; exact sim_load ho hu hi hx
    · cases h
  · rename_i t a x ho
    split at h
    · rename_i i a' x' hi hx hy; injection h with h; subst h; exact sim_store ho hi hx hy
    · cases h
  · rename_i x ho
    obtain ⟨x', hx, rfl⟩ := Option.map_eq_some_iff.1 h
    exact sim_nilc ho hx
  · rename_i op t x y u ho
    split at h
    · rename_i hx hy; injection h with h; subst h; exact sim_bin ho hx hy
    · cases h
  · rename_i op t x ho
    obtain ⟨x', hx, rfl⟩ := Option.map_eq_some_iff.1 h
    exact sim_un ho hx
  · rename_i src dst x ho
    split at h
    · rename_i d k x' hs ht hx; injection h with h; subst h; exact sim_cvi ho hs ht hx
    · rename_i x' hs ht hx; injection h with h; subst h; exact sim_cvs ho hs ht hx
    · rename_i e x' hs ht hx
      split at h
      · rename_i hb; injection h with h; subst h; exact sim_b2s ho hs ht hb hx
      · cases h
    · cases h
  · rename_i f first cap ho
    split at h
    · rename_i ha hb; injection h with h; subst h; exact sim_mkf ho ha hb
    · cases h
  · rename_i t ho
    split at h
    · rename_i kt et hu
      obtain ⟨kk, hkk, rfl⟩ := Option.map_eq_some_iff.1 h
      exact sim_mkmap ho kk
    · cases h
  · rename_i t l c ho
    split at h
    · rename_i e hu
      split at h
      · rename_i ie l' c' hi hl hc
        split at h
        · rename_i z hz
          split at h
          · rename_i cs hcs
            split at h
            · rename_i hcond; injection h with h; subst h; split; exact sim_mkslice ho hu hi hl hc hz hcs hcond.1 hcond.2; exact sim_vmk ho hu hi hl hc hz hcs hcond.1 hcond.2
            · cases h
          · cases h
        · cases h
      · cases h
    · cases h
  · rename_i t x lo hi ho
    split at h
    · rename_i x' lo' hi' hu hx hlo hhi; injection h with h; subst h; exact sim_slstr ho hu hx hlo hhi
    · rename_i e x' lo' hi' hu hx hlo hhi
      obtain ⟨ie, hie, rfl⟩ := Option.map_eq_some_iff.1 h
      exact sim_slsl ho hu hie hx hlo hhi
    · cases h
  · rename_i s x f ho
    split at h
    · rename_i fs x' hu hx
      split at h
      · rename_i fl hfl
        split at h
        · rename_i i hi
          split at h
          · cases h
          · rename_i hsz; injection h with h; subst h; exact sim_fad ho hu hx hfl hi hsz
        · cases h
      · cases h
    · cases h
  · rename_i s x f ho
    split at h
    · rename_i fs x' hu hx
      split at h
      · rename_i fl hfl
        split at h
        · rename_i i d hi hd; injection h with h; subst h; exact sim_fld ho hu hx hfl hi hd
        · cases h
      · cases h
    · cases h
  · rename_i t x y ho
    split at h
    · rename_i e x' y' hu hx hy
      obtain ⟨ie, hie, rfl⟩ := Option.map_eq_some_iff.1 h
      exact sim_ixs ho hu hie hx hy
    · rename_i n e x' y' hu hx hy
      obtain ⟨ie, hie, rfl⟩ := Option.map_eq_some_iff.1 h
      exact sim_ixp ho hu hie hx hy
    · cases h
  · rename_i t x y ho
    split at h
    · rename_i x' y' hu hx hy; injection h with h; subst h; exact sim_ixc ho hu hx hy
    · rename_i n e x' y' hu hx hy
      split at h
      · rename_i ie d hie hd; injection h with h; subst h; exact sim_ixv ho hu hie hd hx hy
      · cases h
    · cases h
  · rename_i t m k ok ho
    split at h
    · rename_i kt et m' k' hu hm hk
      split at h
      · rename_i kk ie hkk hie
        split at h
        · rename_i z hz
          obtain ⟨za, hza, rfl⟩ := Option.map_eq_some_iff.1 h
          exact sim_lkp ho hu hm hk hkk hie hz hza
        · cases h
      · cases h
    · cases h
  · rename_i t m k x ho
    split at h
    · rename_i kt et m' k' x' hu hm hk hx
      obtain ⟨kk, hkk, rfl⟩ := Option.map_eq_some_iff.1 h
      exact sim_mset (.inl ho) hu hm hk hx hkk
    · cases h
  · rename_i t m k x ho
    split at h
    · rename_i kt et m' k' x' hu hm hk hx
      obtain ⟨kk, hkk, rfl⟩ := Option.map_eq_some_iff.1 h
      exact sim_mset (.inr ho) hu hm hk hx hkk
    · cases h
  · rename_i x i ho
    obtain ⟨x', hx, rfl⟩ := Option.map_eq_some_iff.1 h
    exact sim_ext ho hx
  · rename_i cl ho
    split at h
    · rename_i f hf
      obtain ⟨xs, hxs, rfl⟩ := Option.map_eq_some_iff.1 h
      exact sim_call hcall ho hf hxs
    · rename_i x hne hf
      split at h
      · rename_i x' xs hx hxs; injection h with h; subst h; exact sim_callv hcall ho hf hx hxs
      · cases h
    · rename_i hb
      split at h
      · rename_i x t ts ha hts
        split at h
        · rename_i x' hu hx; injection h with h; subst h; exact sim_lens ho hb ha hts hu hx
        · rename_i e x' hu hx; injection h with h; subst h; exact sim_len ho hb ha hts hu hx
        · rename_i kt e x' hu hx; injection h with h; subst h; exact sim_lenm ho hb ha hts hu hx
        · cases h
      · cases h
    · rename_i hb
      split at h
      · rename_i s x t u ha hts
        split at h
        · rename_i e s' x' hu hs hx
          split at h
          · rename_i ie hie
            split at h
            · rename_i z hz
              split at h
              · rename_i cs hcs
                split at h
                · rename_i hcond
                  obtain ⟨rfl, hl, _⟩ := hcond
                  injection h with h; subst h; split; (split; (rename_i hn; exact sim_appn ho hb ha hts hu hie hz hcs hl hs hn hx); exact sim_app ho hb ha hts hu hie hz hcs hl hs hx); exact sim_vapp ho hb ha hts hu hie hz hcs hl hs hx
                · split at h
                  · rename_i hcond
                    obtain ⟨hint, hl, _⟩ := hcond
                    injection h with h; subst h; exact sim_vext ho hb ha hts hu hint hie hz hcs hl hs hx
                  · cases h
              · cases h
            · cases h
          · cases h
        · cases h
      · cases h
    · rename_i hb
      split at h
      · rename_i x y ha
        split at h
        · rename_i x' y' hx hy; injection h with h; subst h; exact sim_mmax ho true hb ha hx hy
        · cases h
      · cases h
    · rename_i hb
      split at h
      · rename_i x y ha
        split at h
        · rename_i x' y' hx hy; injection h with h; subst h; exact sim_mmax ho false hb ha hx hy
        · cases h
      · cases h
    · cases h
  · cases h

theorem sim_bad : OpSim P call mode .bad o := by
  intro draw lo lim fresh ρ M r M' a c hst
  simp [istep] at hst

theorem sim_op (hcall : CallOK P call) {os : List TypeId} {i : I} (h : compOp P os o = some i) : OpSim P call mode i o := by
  unfold compOp at h
  simp only [Option.some.injEq] at h; subst h
  cases h : compOp' P os o with
  | none => exact sim_bad
  | some i => exact sim_op' hcall h

theorem OpSim.of {i j : I} (h : OpSim P call mode i o) (hs : ∀ {draw : Bool} {lo : Nat} {lim : Lm} {fresh : Nat} {ρ : List AV} {M : MM} {x : AV × MM}, istep call mode draw lo lim fresh j ρ M = some x → istep call mode draw lo lim fresh i ρ M = some x) : OpSim P call mode j o :=
  fun draw lo lim fresh ρ M r M' a c hst => h draw lo lim fresh ρ M r M' a c (hs hst)

theorem ld1I_eq {draw : Bool} {lo : Nat} {lim : Lm} {fresh : Nat} {ρ : List AV} {M : MM} {a : X} : istep call mode draw lo lim fresh (.ld1 a) ρ M = (ld1I M.mem lim (ev ρ a)).map (·, M) := by
  simp only [istep]
  generalize ev ρ a = x
  cases x with
  | ptr id off =>
    simp only [ld1I]
    cases look M.mem lim id with
    | none => rfl
    | some b => cases b <;> rfl
  | ip ds => simp only [ld1I, Option.map_map]; rfl
  | _ => rfl

theorem ldnI_eq {draw : Bool} {lo : Nat} {lim : Lm} {fresh : Nat} {ρ : List AV} {M : MM} {n : Nat} {a : X} : istep call mode draw lo lim fresh (.ldn n a) ρ M = (ldnI M.mem lim n (ev ρ a)).map (·, M) := by
  simp only [istep]
  generalize ev ρ a = x
  cases x with
  | ptr id off =>
    simp only [ldnI]
    cases look M.mem lim id with
    | none => rfl
    | some b => cases b with
      | cells t cs => dsimp only; split <;> rfl
      | _ => rfl
  | ip ds => simp only [ldnI]; split <;> rfl
  | _ => rfl

theorem hintI_does {hs : List Hint} {id idx : Nat} {i : I} {draw : Bool} {lo : Nat} {lim : Lm} {fresh : Nat} {ρ : List AV} {M : MM} {x : AV × MM} (h : istep call mode draw lo lim fresh (hintI hs id idx i) ρ M = some x) : istep call mode draw lo lim fresh i ρ M = some x := by
  cases i
  case ld1 a =>
    simp only [hintI] at h
    cases hr : rootOf id idx hs with
    | none => rw [hr] at h; exact h
    | some r =>
      rw [hr] at h
      simp only [istep] at h
      split at h
      · rw [ld1I_eq]; exact h
      · cases h
  case ldn n a =>
    simp only [hintI] at h
    cases hr : rootOf id idx hs with
    | none => rw [hr] at h; exact h
    | some r =>
      rw [hr] at h
      simp only [istep] at h
      split at h
      · rw [ldnI_eq]; exact h
      · cases h
  case call f args =>
    simp only [hintI] at h
    cases hr : rootsOf id idx hs with
    | nil => rw [hr] at h; exact h
    | cons r rs =>
      rw [hr] at h
      simp only [istep] at h ⊢
      split at h
      · rename_i r0 M0 hd
        split at h
        · rw [hd]; exact h
        · cases h
      · cases h
  case st n a y =>
    simp only [hintI] at h
    cases hr : rootOf (id + 1000000) idx hs with
    | none => rw [hr] at h; exact h
    | some r =>
      rw [hr] at h
      simp only [istep] at h ⊢
      split at h
      · exact h
      · cases h
  all_goals exact h

theorem sim_hint {i : I} (h : OpSim P call mode i o) (hs : List Hint) (id idx : Nat) : OpSim P call mode (hintI hs id idx i) o := h.of hintI_does
end
end Go.Proofs.Ytegkhdflmboljaa.Sx
