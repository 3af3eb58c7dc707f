/-
  SX, PART ZC: A CHOICE THAT NOBODY SEES: both ways to append leave the same, but for slots that nobody reads.
-/
import Derived.Test.YtegkhdflmboljaaSxZ0Pl
namespace Go.Proofs.Ytegkhdflmboljaa.Sx
open Go
set_option linter.unusedSimpArgs false

section
variable {call : CallT} {mode : FuncId → Mode} {draw : Bool} {lo : Nat} {lim : Lm} {fresh : Nat}

/-! ### Slots that are not read -/
section
variable {l t : List AV}
theorem ev_cg {x : X} (h : ∀ i ∈ x.slots, t.getD i .undef = l.getD i .undef) : ev t x = ev l x := by
  cases x with
  | t i => exact h i (by simp [X.slots])
  | k a => rfl
theorem evs_cg {xs : List X} (h : ∀ i ∈ xs.flatMap X.slots, t.getD i .undef = l.getD i .undef) : xs.map (ev t) = xs.map (ev l) :=
  List.map_congr_left fun x hx => ev_cg fun i hi => h i (List.mem_flatMap.2 ⟨x, hx, hi⟩)
theorem parts_cg {ps : List (Nat × Nat × X)} (h : ∀ i ∈ ps.flatMap (·.2.2.slots), t.getD i .undef = l.getD i .undef) : (ps.map fun p => (p.1, p.2.1, ev t p.2.2)) = ps.map fun p => (p.1, p.2.1, ev l p.2.2) :=
  List.map_congr_left fun x hx => by rw [ev_cg fun i hi => h i (List.mem_flatMap.2 ⟨x, hx, hi⟩)]
theorem hi_cg {n : Nat} {x : Option X} (h : ∀ i ∈ x.toList.flatMap X.slots, t.getD i .undef = l.getD i .undef) : hiOf t n x = hiOf l n x := by
  cases x with
  | none => rfl
  | some x => simp only [hiOf]; rw [ev_cg (fun i hi => h i (by simpa using hi))]
theorem lo_cg {x : Option X} (h : ∀ i ∈ x.toList.flatMap X.slots, t.getD i .undef = l.getD i .undef) : loOf t x = loOf l x := by
  cases x with
  | none => rfl
  | some x => simp only [loOf]; rw [ev_cg (fun i hi => h i (by simpa using hi))]

theorem istep_cg {i : I} {M : MM} (h : ∀ j ∈ i.slots, t.getD j .undef = l.getD j .undef) : istep call mode draw lo lim fresh i t M = istep call mode draw lo lim fresh i l M := by
  cases i with
  | mov x | appn t s y z x | box t x | ld1 x | ldn n x | nilc x | un op x | cvi k x | cvs x | b2s x | fad o x | fld o n g x | ext x j | tk x j | lens x | len x | lenm x | lbox x => simp only [I.slots] at h; simp only [istep, ev_cg h]
  | st n a b | bin op e a b | mkslice t s y z a b | ixs s a b | ixp s l a b | ixv s l g a b | ixc a b | lkp kk cm z a b | mdel kk a b | mmax mx a b | app t s y z a b | vmk t s y z a b | vapp t s y z a b | vext t s y z a b | wext s y z a b | wmk y z a b | wapp s y a b | setc o n a b | ld1r a b | ldnr n a b =>
    simp only [I.slots, List.mem_append] at h; simp only [istep, ev_cg fun j hj => h j (.inl hj), ev_cg fun j hj => h j (.inr hj)]
  | pick a b c | mset kk a b c =>
    simp only [I.slots, List.mem_append] at h; simp only [istep, ev_cg fun j hj => h j (.inl (.inl hj)), ev_cg fun j hj => h j (.inl (.inr hj)), ev_cg fun j hj => h j (.inr hj)]
  | new t cs => rfl
  | mkmap kk => rfl
  | lnew cs => rfl
  | bad => rfl
  | mk z ps => simp only [I.slots] at h; simp only [istep, parts_cg h]
  | mksl t n s z ps => simp only [I.slots] at h; simp only [istep, parts_cg h]
  | vsl t n s z ps => simp only [I.slots] at h; simp only [istep, parts_cg h]
  | wsl n z ps => simp only [I.slots] at h; simp only [istep, parts_cg h]
  | mkf f as bs => simp only [I.slots, List.mem_append] at h; simp only [istep, evs_cg fun j hj => h j (.inl hj), evs_cg fun j hj => h j (.inr hj)]
  | slstr x l u | slsl s x l u =>
    simp only [I.slots, List.mem_append] at h; simp only [istep, ev_cg fun j hj => h j (.inl (.inl hj)), lo_cg fun j hj => h j (.inl (.inr hj)), hi_cg fun j hj => h j (.inr hj)]
  | call f as => simp only [I.slots] at h; simp only [istep, evs_cg h]
  | callv x as | callw no x as => simp only [I.slots, List.mem_append] at h; simp only [istep, ev_cg fun j hj => h j (.inl hj), evs_cg fun j hj => h j (.inr hj)]
  | str n r ns a x =>
    simp only [I.slots, List.mem_append] at h
    simp only [istep, ev_cg fun j hj => h j (.inl (.inl (.inl hj))), evs_cg fun j hj => h j (.inl (.inl (.inr hj))), ev_cg fun j hj => h j (.inl (.inr hj)), ev_cg fun j hj => h j (.inr hj)]
  | callk f as rs =>
    simp only [I.slots, List.mem_append] at h
    have e : ∀ (m m' : Mem), (rs.all fun x => kept m m' (ev t x)) = rs.all fun x => kept m m' (ev l x) := fun m m' => by
      rw [Bool.eq_iff_iff, List.all_eq_true, List.all_eq_true]
      refine ⟨fun hh x hx => ?_, fun hh x hx => ?_⟩
      · have := hh x hx; rwa [ev_cg (fun i hi => h i (.inr (List.mem_flatMap.2 ⟨x, hx, hi⟩)))] at this
      · rw [ev_cg (fun i hi => h i (.inr (List.mem_flatMap.2 ⟨x, hx, hi⟩)))]; exact hh x hx
    simp only [istep, evs_cg fun j hj => h j (.inl hj), e]
end

/-- Alike, but for the slots of choices. -/
structure Ag (ds : List Nat) (s t : St) : Prop where
  M : t.M = s.M
  len : t.ρ.length = s.ρ.length
  eq : ∀ r, inD ds r = false → t.ρ.getD r .undef = s.ρ.getD r .undef

theorem Ag.refl (ds : List Nat) (s : St) : Ag ds s s := ⟨rfl, rfl, fun _ _ => rfl⟩
theorem Ag.get {ds : List Nat} {s t : St} (h : Ag ds s t) {r : Nat} (hr : inD ds r = false) : t.ρ[r]? = s.ρ[r]? := by
  have e := h.eq r hr
  have hl := h.len
  by_cases hlt : r < s.ρ.length
  · rw [List.getElem?_eq_getElem hlt, List.getElem?_eq_getElem (by omega)]
    simp only [List.getD_eq_getElem?_getD, List.getElem?_eq_getElem hlt, List.getElem?_eq_getElem (show r < t.ρ.length by omega), Option.getD_some] at e
    rw [e]
  · rw [List.getElem?_eq_none (by omega), List.getElem?_eq_none (by omega)]
theorem getD_set (l : List AV) (d : Nat) (v : AV) (r : Nat) : (l.set d v).getD r .undef = if d = r ∧ d < l.length then v else l.getD r .undef := by
  simp only [List.getD_eq_getElem?_getD, List.getElem?_set]
  by_cases e : d = r
  · subst e
    by_cases hl : d < l.length
    · simp [hl]
    · simp [hl, List.getElem?_eq_none (Nat.le_of_not_lt hl)]
  · simp [e]
theorem Ag.put {ds : List Nat} {s t : St} (h : Ag ds s t) (d : Option Nat) (v : AV) (M : MM) : Ag ds ⟨setO s.ρ d v, M⟩ ⟨setO t.ρ d v, M⟩ := by
  cases d with
  | none => exact ⟨rfl, h.len, h.eq⟩
  | some d =>
    refine ⟨rfl, by simp [setO, h.len], fun r hr => ?_⟩
    simp only [setO, getD_set, h.len, h.eq r hr]

theorem ag_step {ds : List Nat} {o : Op1} (ho : offD ds o = true) {s t s' : St} (h : Ag ds s t) (hs : step1 call mode draw lo lim fresh o s = some s') : ∃ t', step1 call mode draw lo lim fresh o t = some t' ∧ Ag ds s' t' := by
  have hr : ∀ r ∈ o.reads, inD ds r = false := fun r hr => by simpa using List.all_eq_true.1 ho r hr
  have hw : want o.g t.ρ = want o.g s.ρ := by
    cases hg : o.g with
    | none => rfl
    | some g =>
      obtain ⟨g, b⟩ := g
      simp only [want]
      rw [h.get (hr g (by simp [Op1.reads, hg]))]
  have hi : istep call mode draw lo lim fresh o.i t.ρ t.M = istep call mode draw lo lim fresh o.i s.ρ s.M := by
    rw [h.M]; exact istep_cg fun j hj => h.eq j (hr j (by simp [Op1.reads, hj]))
  unfold step1 at hs ⊢
  rw [hw, hi]
  split at hs
  · cases hs
  · injection hs with hs; subst hs
    exact ⟨_, rfl, by have := h.put o.dst .undef s.M; simpa [h.M] using this⟩
  · split at hs
    · rename_i v M' _
      injection hs with hs; subst hs
      exact ⟨_, rfl, h.put o.dst v M'⟩
    · cases hs

theorem ag_regN {ds : List Nat} : ∀ {ops : List Op1} {s t s' : St}, ops.all (offD ds) = true → Ag ds s t → regN call mode lo ops s = some s' → ∃ t', regN call mode lo ops t = some t' ∧ Ag ds s' t'
  | [], _, t, _, _, h, hs => by simp only [regN, Option.some.injEq] at hs; subst hs; exact ⟨t, rfl, h⟩
  | o :: r, s, t, s', ho, h, hs => by
    simp only [List.all_cons, Bool.and_eq_true] at ho
    simp only [regN] at hs ⊢
    cases h1 : step1 call mode false lo (.top s.M.nx) s.M.nx o s with
    | none => rw [h1] at hs; cases hs
    | some s1 =>
      rw [h1] at hs
      obtain ⟨t1, g1, a1⟩ := ag_step ho.1 h h1
      rw [h.M, g1]
      exact ag_regN ho.2 a1 hs

theorem ag_regD {ds : List Nat} {base n : Nat} : ∀ {ops : List Op1} {i : Nat} {s t s' : St}, ops.all (offD ds) = true → Ag ds s t → regD call mode lo base n ops i s = some s' → ∃ t', regD call mode lo base n ops i t = some t' ∧ Ag ds s' t'
  | [], _, _, t, _, _, h, hs => by simp only [regD, Option.some.injEq] at hs; subst hs; exact ⟨t, rfl, h⟩
  | o :: r, i, s, t, s', ho, h, hs => by
    simp only [List.all_cons, Bool.and_eq_true] at ho
    simp only [regD] at hs ⊢
    cases h1 : step1 call mode true lo ⟨base, n, o.m, o.w⟩ (base + i) o s with
    | none => rw [h1] at hs; cases hs
    | some s1 =>
      rw [h1] at hs
      obtain ⟨t1, g1, a1⟩ := ag_step ho.1 h h1
      rw [g1]
      exact ag_regD ho.2 a1 hs

/-! ### The slots of a choice given up -/
def und (d : Nat) (l : List AV) : List AV := (unds d).foldl (fun l o => setO l o.dst .undef) l

theorem fold_len (f : List Op1) : ∀ l : List AV, (f.foldl (fun l o => setO l o.dst .undef) l).length = l.length := by
  induction f with
  | nil => intro l; rfl
  | cons o f ih => intro l; rw [List.foldl_cons, ih]; cases o.dst <;> simp [setO]
theorem fold_get (f : List Op1) : ∀ (l : List AV) (r : Nat), (f.foldl (fun l o => setO l o.dst .undef) l).getD r .undef = if f.any (fun o => o.dst == some r) then .undef else l.getD r .undef := by
  induction f with
  | nil => intro l r; rfl
  | cons o f ih =>
    intro l r
    rw [List.foldl_cons, ih, List.any_cons]
    cases hd : o.dst with
    | none => simp [setO]
    | some d =>
      simp only [setO, getD_set]
      by_cases e : d = r
      · subst e
        by_cases hl : d < l.length
        · simp [hl]
        · simp [hl, List.getD_eq_getElem?_getD, List.getElem?_eq_none (Nat.le_of_not_lt hl)]
      · simp [e]
theorem und_len (d : Nat) (l : List AV) : (und d l).length = l.length := fold_len _ _
theorem und_get (d : Nat) (l : List AV) (r : Nat) : (und d l).getD r .undef = if d ≤ r ∧ r < d + 23 then .undef else l.getD r .undef := by
  unfold und
  rw [fold_get]
  have e : ((unds d).any fun o => o.dst == some r) = decide (d ≤ r ∧ r < d + 23) := by
    rw [Bool.eq_iff_iff]
    simp only [unds, List.any_map, List.any_eq_true, List.mem_range, Function.comp, beq_iff_eq, Option.some.injEq, decide_eq_true_eq]
    constructor
    · rintro ⟨i, hi, rfl⟩; omega
    · rintro ⟨h1, h2⟩; exact ⟨r - d, by omega, by omega⟩
  rw [e]; simp

theorem und_regN_aux : ∀ (f : List Op1) (s : St), (∀ o ∈ f, o.g = none ∧ o.i = .mov (.k .undef)) → regN call mode lo f s = some ⟨f.foldl (fun l o => setO l o.dst .undef) s.ρ, s.M⟩
  | [], s, _ => rfl
  | o :: f, s, h => by
    obtain ⟨hg, hi⟩ := h o (by simp)
    simp only [regN, step1, hg, want, hi, istep, ev]
    exact und_regN_aux f _ fun o ho => h o (by simp [ho])
theorem und_regD_aux {base n : Nat} : ∀ (f : List Op1) (i : Nat) (s : St), (∀ o ∈ f, o.g = none ∧ o.i = .mov (.k .undef)) → regD call mode lo base n f i s = some ⟨f.foldl (fun l o => setO l o.dst .undef) s.ρ, s.M⟩
  | [], _, s, _ => rfl
  | o :: f, i, s, h => by
    obtain ⟨hg, hi⟩ := h o (by simp)
    simp only [regD, step1, hg, want, hi, istep, ev]
    exact und_regD_aux f _ _ fun o ho => h o (by simp [ho])
theorem unds_ok (d : Nat) : ∀ o ∈ unds d, o.g = none ∧ o.i = .mov (.k .undef) := by
  intro o ho
  simp only [unds, List.mem_map] at ho
  obtain ⟨i, _, rfl⟩ := ho
  exact ⟨rfl, rfl⟩
theorem und_regN (d : Nat) (s : St) : regN call mode lo (unds d) s = some ⟨und d s.ρ, s.M⟩ := und_regN_aux _ s (unds_ok d)
theorem und_regD (d base n : Nat) (s : St) : regD call mode lo base n (unds d) 0 s = some ⟨und d s.ρ, s.M⟩ := und_regD_aux _ 0 s (unds_ok d)
end

section
variable {P : Program} {call : CallT} {mode : FuncId → Mode}

theorem Sim.weak {lo : Nat} {M M' : MM} {c : Cx} (hS : Sim lo M c) (hnx : M.nx ≤ M'.nx)
    (h : ∀ id, M'.mem id = none ∨ M'.mem id = M.mem id ∨ ∃ t cs cs', M.mem id = some (.cells t cs) ∧ M'.mem id = some (.cells t cs') ∧ cs'.length = cs.length ∧ ∀ (j : Nat) x x', cs[j]? = some x → cs'[j]? = some x' → ∀ v, Rel c x v → Rel c x' v) : Sim lo M' c := by
  have ne : ∀ id, M'.mem id ≠ none → M.mem id ≠ none := fun id hn => by
    rcases h id with e | e | ⟨t, cs, cs', e, _⟩
    · exact absurd e hn
    · rw [← e]; exact hn
    · rw [e]; simp
  refine ⟨fun id hn => hS.dom id (ne id hn), fun id hs => Nat.lt_of_lt_of_le (hS.nx id hs) hnx, hS.lt, fun id hn => hS.live id (ne id hn), fun id hn => hS.wlive id (ne id hn), hS.WL, hS.Llt, fun i j hi hj => hS.inj i j (ne i hi) (ne j hj), fun id B hB => ?_, hS.flt, fun id B hB ht => ?_⟩
  · rcases h id with e | e | ⟨t, cs, cs', e, e', hl, hw⟩
    · rw [e] at hB; cases hB
    · rw [e] at hB; exact hS.blk id B hB
    · rw [e'] at hB; injection hB with hB; subst hB
      obtain ⟨vs, g1, g2, g3, g4⟩ := hS.blk id _ e
      refine ⟨vs, g1, g2, by rw [hl]; exact g3, fun j hj hj' => ?_⟩
      exact hw j _ _ (List.getElem?_eq_getElem (by rw [← hl]; exact hj)) (List.getElem?_eq_getElem hj) _ (g4 j (by rw [← hl]; exact hj) hj')
  · rcases h id with e | e | ⟨t, cs, cs', e, e', hl, hw⟩
    · rw [e] at hB; cases hB
    · rw [e] at hB; exact hS.frz id B hB ht
    · exact hS.frz id _ e rfl

theorem toD_weak {c : Cx} {x : AV} {d : D} (h : toD x = some d) : ∀ v, Rel c x v → Rel c (.d d) v := fun v r => .d d v (toD_rel h r)

/-! ### The region that chooses -/
theorem ch_orders {ops : Array Oper} (hE : chE ops.toList = true) {l : List Nat} (t1 : Topo (preOf ops) [] l) (t2 : ∀ i, i < ops.size → i ∈ l) (t3 : ∀ i ∈ l, i < ops.size) : ops.size = 4 ∧ EdgesOK ops ∧ (l = [0, 1, 2, 3] ∨ l = [0, 2, 1, 3]) := by
  unfold chE at hE
  split at hE
  · rename_i o0 o1 o2 o3 he
    have hops : ops = #[o0, o1, o2, o3] := by rw [← Array.toArray_toList (xs := ops), he]
    subst hops
    simp only [Bool.and_eq_true, List.contains_iff_mem] at hE
    obtain ⟨⟨⟨⟨⟨⟨⟨e0, e1⟩, e2⟩, e3⟩, p1⟩, p2⟩, p3⟩, p4⟩ := hE
    have q1 : 0 ∈ preOf #[o0, o1, o2, o3] 1 := p1
    have q2 : 0 ∈ preOf #[o0, o1, o2, o3] 2 := p2
    have q3 : 1 ∈ preOf #[o0, o1, o2, o3] 3 := p3
    have q4 : 2 ∈ preOf #[o0, o1, o2, o3] 3 := p4
    refine ⟨rfl, fun i o ho => ?_, ?_⟩
    · match i, ho with
      | 0, ho => simp at ho; subst ho; exact e0
      | 1, ho => simp at ho; subst ho; exact e1
      | 2, ho => simp at ho; subst ho; exact e2
      | 3, ho => simp at ho; subst ho; exact e3
      | i + 4, ho => simp at ho
    · have sz : (#[o0, o1, o2, o3] : Array Oper).size = 4 := rfl
      rw [sz] at t2 t3
      match l, t1, t2, t3 with
      | [], _, t2, _ => have := t2 0 (by omega); simp at this
      | a :: l, ⟨_, ha, t1⟩, t2, t3 =>
        have a0 : a = 0 := by
          have := t3 a (by simp)
          match a, this, ha with
          | 0, _, _ => rfl
          | 1, _, ha => exact absurd (ha 0 q1) (by simp)
          | 2, _, ha => exact absurd (ha 0 q2) (by simp)
          | 3, _, ha => exact absurd (ha 1 q3) (by simp)
        subst a0
        match l, t1, t2, t3 with
        | [], _, t2, _ => have := t2 1 (by omega); simp at this
        | b :: l, ⟨hb0, hb, t1⟩, t2, t3 =>
          have b12 : b = 1 ∨ b = 2 := by
            have := t3 b (by simp)
            match b, this, hb, hb0 with
            | 0, _, _, hb0 => simp at hb0
            | 1, _, _, _ => exact .inl rfl
            | 2, _, _, _ => exact .inr rfl
            | 3, _, hb, _ => have h1 := hb 1 q3; simp at h1
          match l, t1, t2, t3 with
          | [], _, t2, _ => have h1 := t2 3 (by omega); simp at h1; omega
          | c :: l, ⟨hc0, hc, t1⟩, t2, t3 =>
            have hc3 : c ≠ 3 := by
              intro e; subst e
              have h1 := hc 1 q3
              have h2 := hc 2 q4
              simp at h1 h2; omega
            have hc' : c ≠ 0 ∧ c ≠ b := by simp at hc0; omega
            have := t3 c (by simp)
            match l, t1, t2, t3 with
            | [], _, t2, _ => have h1 := t2 3 (by omega); simp at h1; omega
            | d :: l, ⟨hd0, hd, t1⟩, t2, t3 =>
              have := t3 d (by simp)
              simp at hd0
              match l, t1, t3 with
              | [], _, _ =>
                rcases b12 with rfl | rfl
                · left; have : c = 2 := by omega
                  subst this; have : d = 3 := by omega
                  subst this; rfl
                · right; have : c = 1 := by omega
                  subst this; have : d = 3 := by omega
                  subst this; rfl
              | e :: l, ⟨he0, _, _⟩, t3 =>
                have := t3 e (by simp)
                simp at he0; omega
  · cases hE

theorem ev_at {l : List AV} {i : Nat} {v : AV} (h : i < l.length) : ev (l.set i v) (.t i) = v := by simp [ev, List.getD_eq_getElem?_getD, h]
theorem ev_ne {l : List AV} {i j : Nat} {v : AV} (h : i ≠ j) : ev (l.set i v) (.t j) = ev l (.t j) := by simp [ev, List.getD_eq_getElem?_getD, h]
theorem sim_ch2 (mode : FuncId → Mode) (hcall : CallOK P call) {os : List TypeId} {lo : Nat} {id d : Nat} {ops : Array Oper} {c2 : List Op1} (hcs : ops.toList.mapM (compOper P os ops) = some c2) (hM : chM2 c2 = some d) (hE : chE ops.toList = true)
    (hf : (P.follows .mixedOrders || !Region.departs ops) = true) {ρ : List AV} {M : MM} {a : Act} {c : Cx} {Q : Exit → Act → World → Prop} (hl : d + 1 < ρ.length) (hS : SimS lo ⟨ρ, M⟩ a c) (hlo : lo ≤ M.nx)
    (hQ : ∀ a' c' b, SimS lo ⟨(ρ.set d (.ptr M.nx 0)).set (d + 1) (.bool b), ⟨M.nx + 4, M.mem⟩⟩ a' c' → Aft M c ⟨M.nx + 4, M.mem⟩ c' → Q .normal a' c'.w) : (Code.region id ops true).wp P Q a c.w := by
  have hsok0 := sok_all (mode := mode) hcall hcs [] id
  simp only [hintAll] at hsok0
  unfold chM2 at hM
  split at hM
  · rename_i a0 t0 b0 m0 w0 a1 b1 m1 w1 a2 b2 m2 w2 d1 a3 m3 w3
    split at hM
    · rename_i hreg
      injection hM with hM; subst hM
      simp only [List.cons.injEq, and_true] at hreg
      obtain ⟨rfl, rfl, rfl, rfl⟩ := hreg
      refine wp_region_draw (fun t => ?_)
      have sz4 : ops.size = 4 := by rw [← hsok0.1]; rfl
      have hedges : EdgesOK ops := by
        have := hE
        unfold chE at this
        split at this
        · rename_i o0 o1 o2 o3 he
          have hops : ops = #[o0, o1, o2, o3] := by rw [← Array.toArray_toList (xs := ops), he]
          subst hops
          simp only [Bool.and_eq_true] at this
          obtain ⟨⟨⟨⟨⟨⟨⟨e0, e1⟩, e2⟩, e3⟩, _⟩, _⟩, _⟩, _⟩ := this
          intro i o ho
          match i, ho with
          | 0, ho => simp at ho; subst ho; exact e0
          | 1, ho => simp at ho; subst ho; exact e1
          | 2, ho => simp at ho; subst ho; exact e2
          | 3, ho => simp at ho; subst ho; exact e3
          | i + 4, ho => simp at ho
        · cases this
      obtain ⟨t1, t2, t3⟩ := schedule_topo hedges (P.follows .mixedOrders) hf t
      have hord := (ch_orders hE t1 t2 t3).2.2
      have hsame : Same c.w { c.w with drawn := c.w.drawn + 1 } := ⟨Nat.le_refl _, fun _ _ => rfl, rfl, rfl, rfl⟩
      have hafter := after_same (fresh := 0) hS.sim hsame
      have hS1 : SimS lo ⟨ρ, ⟨M.nx + ops.size, M.mem⟩⟩ a (c.at_ { c.w with drawn := c.w.drawn + 1 }) :=
        ⟨⟨hafter.sim.dom, fun j hj => by have := hafter.sim.nx j hj; exact Nat.lt_of_lt_of_le this (Nat.le_add_right _ _), hafter.sim.lt, hafter.sim.live, hafter.sim.wlive, hafter.sim.WL, hafter.sim.Llt, hafter.sim.inj, hafter.sim.blk, hafter.sim.flt, hafter.sim.frz⟩, hS.fr.ext hS.sim.WL hafter.ext, hS.df⟩
      have hnone : M.mem M.nx = none := by
        cases h : M.mem M.nx with
        | none => rfl
        | some B => exact absurd (hS.sim.nx _ (hS.sim.dom _ (by rw [h]; simp))) (by simp)
      have hsok' : ([⟨some a3, none, .new t0 [.d (.v (.bool b0))], 1, w0⟩, ⟨none, none, .st 1 (.t a3) (.k (.d (.v (.bool b1)))), 1, w1⟩, ⟨none, none, .st 1 (.t a3) (.k (.d (.v (.bool b2)))), 1, w2⟩, ⟨some (a3 + 1), none, .ld1 (.t a3), 1, w3⟩] : List Op1).length = ops.size ∧
          ∀ i (h : i < ops.size) (h' : i < ([⟨some a3, none, .new t0 [.d (.v (.bool b0))], 1, w0⟩, ⟨none, none, .st 1 (.t a3) (.k (.d (.v (.bool b1)))), 1, w1⟩, ⟨none, none, .st 1 (.t a3) (.k (.d (.v (.bool b2)))), 1, w2⟩, ⟨some (a3 + 1), none, .ld1 (.t a3), 1, w3⟩] : List Op1).length),
            SOK P call mode ops ops[i] ([⟨some a3, none, .new t0 [.d (.v (.bool b0))], 1, w0⟩, ⟨none, none, .st 1 (.t a3) (.k (.d (.v (.bool b1)))), 1, w1⟩, ⟨none, none, .st 1 (.t a3) (.k (.d (.v (.bool b2)))), 1, w2⟩, ⟨some (a3 + 1), none, .ld1 (.t a3), 1, w3⟩] : List Op1)[i] := by
        refine ⟨sz4.symm, fun i h h' => ?_⟩
        have q := hsok0.2 i h (by rw [hsok0.1]; exact h)
        match i, h, h', q with
        | 0, _, _, q => exact q
        | 1, _, _, q => exact q
        | 2, _, _, q => exact q
        | 3, _, _, q => exact q
        | i + 4, _, h', _ => exact absurd h' (by simp)
      have hfin : ∀ (b : Bool) (l : List Nat) (M2 : MM), Topo (preOf ops) [] l → (∀ i ∈ l, i < ops.size) → (∀ i, M2.mem i = if i = M.nx then some (.cells t0 [.bool b]) else M.mem i) → M2.nx = M.nx + 4 →
          runL call mode lo M.nx ops.size [⟨some a3, none, .new t0 [.d (.v (.bool b0))], 1, w0⟩, ⟨none, none, .st 1 (.t a3) (.k (.d (.v (.bool b1)))), 1, w1⟩, ⟨none, none, .st 1 (.t a3) (.k (.d (.v (.bool b2)))), 1, w2⟩, ⟨some (a3 + 1), none, .ld1 (.t a3), 1, w3⟩] l ⟨ρ, ⟨M.nx + ops.size, M.mem⟩⟩
            = some ⟨(ρ.set a3 (.ptr M.nx 0)).set (a3 + 1) (.bool b), M2⟩ →
          wpOps P ops Q l a { c.w with drawn := c.w.drawn + 1 } := by
        intro b l M2 h1 h3 hm hn hrun
        refine sim_runL hsok' l [] _ _ a (c.at_ { c.w with drawn := c.w.drawn + 1 }) h1 h3 hrun hS1 (by show lo ≤ M.nx + ops.size; omega) (by show M.nx + ops.size ≤ M.nx + ops.size; omega) (fun id hs => .inl (hS.sim.nx id hs)) (fun a' c' hS' hext hids hnx => ?_)
        have hw : Sim lo ⟨M.nx + 4, M.mem⟩ c' := hS'.sim.weak (by rw [hn]; exact Nat.le_refl _) (fun i => by
          by_cases e : i = M.nx
          · subst e; exact .inl hnone
          · exact .inr (.inl (by show M.mem i = M2.mem i; rw [hm, if_neg e])))
        exact hQ a' c' b ⟨hw, hS'.fr, hS'.df⟩ ⟨hafter.ext.trans hext, Nat.le_add_right _ _, hids⟩
      have hlm : ∀ w, (Lm.mk M.nx 4 1 w).ok M.nx = true := fun w => by simp [Lm.ok]
      rcases hord with hl' | hl'
      · rw [hl'] at t1 t3 ⊢
        refine hfin b2 _ ⟨M.nx + 4, upd (upd (upd M.mem M.nx (some (.cells t0 [.d (.v (.bool b0))]))) M.nx (some (.cells t0 [.d (.v (.bool b1))]))) M.nx (some (.cells t0 [.d (.v (.bool b2))]))⟩ t1 t3 (fun i => ?_) rfl ?_
        · simp only [upd]; split <;> rfl
        · simp [runL, step1, want, istep, setO, ev_at (show a3 < ρ.length by omega), look, upd, hlm, MM.alloc, MM.put, AV.cells, AV.one, setAt, hlo, ev, sz4, show a3 < ρ.length by omega]
      · rw [hl'] at t1 t3 ⊢
        refine hfin b1 _ ⟨M.nx + 4, upd (upd (upd M.mem M.nx (some (.cells t0 [.d (.v (.bool b0))]))) M.nx (some (.cells t0 [.d (.v (.bool b2))]))) M.nx (some (.cells t0 [.d (.v (.bool b1))]))⟩ t1 t3 (fun i => ?_) rfl ?_
        · simp only [upd]; split <;> rfl
        · simp [runL, step1, want, istep, setO, ev_at (show a3 < ρ.length by omega), look, upd, hlm, MM.alloc, MM.put, AV.cells, AV.one, setAt, hlo, ev, sz4, show a3 < ρ.length by omega]
    · cases hM
  · cases hM
/-! ### One way, with the element as closed data -/
def outL (d : Nat) (q : ChA) (μ : Nat → Nat × Bool) : List Op1 :=
  [⟨some (d + 13), none, .mov (.t q.w), (μ 0).1, (μ 0).2⟩, ⟨some (d + 14), none, .mov (.t q.w), (μ 1).1, (μ 1).2⟩, ⟨some (d + 15), none, .nilc (.t (d + 14)), (μ 2).1, (μ 2).2⟩, ⟨some (d + 16), none, .fad q.off (.t (d + 15)), (μ 3).1, (μ 3).2⟩,
   ⟨some (d + 17), none, .ld1 (.t (d + 16)), (μ 4).1, (μ 4).2⟩, ⟨some (d + 18), none, .ldn q.sz (.t q.x), (μ 5).1, (μ 5).2⟩, ⟨some (d + 19), none, .mksl q.e 1 q.sz q.z1 [(0, q.sz, .t (d + 18))], (μ 6).1, (μ 6).2⟩,
   ⟨some (d + 20), none, .app q.e q.sz q.by_ q.z2 (.t (d + 17)) (.t (d + 19)), (μ 7).1, (μ 7).2⟩, ⟨some (d + 21), none, .nilc (.t (d + 13)), (μ 8).1, (μ 8).2⟩, ⟨some (d + 22), none, .fad q.off (.t (d + 21)), (μ 9).1, (μ 9).2⟩,
   ⟨none, none, .st 1 (.t (d + 22)) (.t (d + 20)), (μ 10).1, (μ 10).2⟩]

/-- What is appended to: the number of elements, their cells, what id is given up. -/
inductive ChP (lo : Nat) (M : MM) (idw : Nat) (q : ChA) (pv : AV) : Nat → List AV → Option Nat → Prop
  | nil (h : pv = .nilsl) (hb : 1 * q.by_ ≤ 140737488355328) (hz : q.z2.length = q.sz) : ChP lo M idw q pv 0 [] none
  | os (id len : Nat) (cs : List AV) (h : pv = .os id 0 len q.sz) (hm : M.mem id = some (.cells q.e cs)) (hlo : lo ≤ id) (hl : len * q.sz ≤ cs.length) (hb : (len + 1) * q.by_ ≤ 140737488355328) (hn : len + 1 ≤ 9223372036854775807) (hz : q.z2.length = q.sz)
      (hne : id ≠ idw) : ChP lo M idw q pv len (cs.take (len * q.sz)) (some id)

def chMem (m : Mem) (idw : Nat) (tw : TypeId) (csw : List AV) (kill : Option Nat) (e : TypeId) (news : List AV) (b : Nat) : Mem :=
  fun i => if i = idw then some (.cells tw csw) else if i = b then some (.cells e news) else if kill = some i then none else m i

structure ChF (lo : Nat) (ρ : List AV) (M : MM) (q : ChA) (base : Nat) (M' : MM) (μ : Nat → Nat × Bool) where
  idw : Nat
  ow : Nat
  tw : TypeId
  csw : List AV
  pv : AV
  xs : List AV
  ds : List D
  len : Nat
  olds : List AV
  kill : Option Nat
  hw : ev ρ (.t q.w) = .ptr idw ow
  hm : M.mem idw = some (.cells tw csw)
  hp : csw[ow + q.off]? = some pv
  hlo : lo ≤ idw
  l4 : (Lm.mk base 11 (μ 4).1 (μ 4).2).ok idw = true
  l10 : (Lm.mk base 11 (μ 10).1 (μ 10).2).ok idw = true
  hx : (∃ idx ox tx csx, ev ρ (.t q.x) = .ptr idx ox ∧ M.mem idx = some (.cells tx csx) ∧ ox + q.sz ≤ csx.length ∧ xs = (csx.drop ox).take q.sz ∧ (Lm.mk base 11 (μ 5).1 (μ 5).2).ok idx = true) ∨ ∃ dsx, ev ρ (.t q.x) = .ip dsx ∧ q.sz ≤ dsx.length ∧ xs = (dsx.take q.sz).map .d
  hd : xs.mapM toD = some ds
  hap : ChP lo M idw q pv len olds kill
  nx : M'.nx = M.nx
  mem : M'.mem = chMem M.mem idw tw (setAt csw (ow + q.off) [.os (base + 7) 0 (len + 1) q.sz]) kill q.e (olds ++ ds.map .d) (base + 7)

theorem regD_cons {lo base n i : Nat} {o : Op1} {r : List Op1} {s s' : St} (hg : o.g = none) (h : regD call mode lo base n (o :: r) i s = some s') :
    ∃ v M1, istep call mode true lo ⟨base, n, o.m, o.w⟩ (base + i) o.i s.ρ s.M = some (v, M1) ∧ regD call mode lo base n r (i + 1) ⟨setO s.ρ o.dst v, M1⟩ = some s' := by
  simp only [regD, step1, hg, want] at h
  cases hi : istep call mode true lo ⟨base, n, o.m, o.w⟩ (base + i) o.i s.ρ s.M with
  | none => rw [hi] at h; cases h
  | some p => rw [hi] at h; exact ⟨p.1, p.2, rfl, h⟩

theorem ev_big {l : List AV} {i : Nat} (h : l.length ≤ i) : ev l (.t i) = .undef := by simp [ev, List.getD_eq_getElem?_getD, List.getElem?_eq_none h]

theorem ch_inv {lo base d : Nat} {q : ChA} {μ : Nat → Nat × Bool} {ρ : List AV} {M : MM} {s' : St} (hz1 : q.z1.length = q.sz) (hsz : 0 < q.sz) (hwd : q.w < d) (hxd : q.x < d) (hnx : base + 11 ≤ M.nx) (hnew : ∀ i, base ≤ i → M.mem i = none)
    (h : regD call mode lo base 11 ((outL d q μ).map toW) 0 ⟨ρ, M⟩ = some s') :
    d + 22 < ρ.length ∧ s'.ρ.length = ρ.length ∧ (∀ r, ¬ (d ≤ r ∧ r < d + 23) → s'.ρ.getD r .undef = ρ.getD r .undef) ∧ ∃ F : ChF lo ρ M q base s'.M μ, ev s'.ρ (.t (d + 22)) = .ptr F.idw (F.ow + q.off) ∧ ev s'.ρ (.t (d + 20)) = .os (base + 7) 0 (F.len + 1) q.sz := by
  simp only [outL, List.map_cons, List.map_nil, toW] at h
  obtain ⟨v0, M0, e0, g0⟩ := regD_cons rfl h
  obtain ⟨v1, M1, e1, g1⟩ := regD_cons rfl g0
  obtain ⟨v2, M2, e2, g2⟩ := regD_cons rfl g1
  obtain ⟨v3, M3, e3, g3⟩ := regD_cons rfl g2
  obtain ⟨v4, M4, e4, g4⟩ := regD_cons rfl g3
  obtain ⟨v5, M5, e5, g5⟩ := regD_cons rfl g4
  obtain ⟨v6, M6, e6, g6⟩ := regD_cons rfl g5
  obtain ⟨v7, M7, e7, g7⟩ := regD_cons rfl g6
  obtain ⟨v8, M8, e8, g8⟩ := regD_cons rfl g7
  obtain ⟨v9, M9, e9, g9⟩ := regD_cons rfl g8
  obtain ⟨v10, M10, e10, g10⟩ := regD_cons rfl g9
  simp only [regD, Option.some.injEq] at g10; subst g10
  clear h g0 g1 g2 g3 g4 g5 g6 g7 g8 g9
  simp only [setO] at e0 e1 e2 e3 e4 e5 e6 e7 e8 e9 e10 ⊢
  have hlen : d + 22 < ρ.length := by
    apply Decidable.byContradiction
    intro hn
    simp only [istep, ev_big (show (((((((((((ρ.set (d + 13) v0).set (d + 14) v1).set (d + 15) v2).set (d + 16) v3).set (d + 17) v4).set (d + 18) v5).set (d + 19) v6).set (d + 20) v7).set (d + 21) v8).set (d + 22) v9)).length ≤ d + 22 by simp; omega)] at e10
    cases e10
  have reg : ∀ {l : List AV} {i j : Nat} {v : AV}, i ≠ j → ev (l.set i v) (.t j) = ev l (.t j) := fun h => ev_ne h
  refine ⟨hlen, by simp, fun r hr => ?_, ?_⟩
  · simp only [getD_set]
    repeat rw [if_neg (by omega)]
  · simp only [istep, Option.some.injEq, Prod.mk.injEq] at e0
    obtain ⟨rfl, rfl⟩ := e0
    simp only [istep, Option.some.injEq, Prod.mk.injEq] at e1
    rw [ev_ne (by omega)] at e1
    obtain ⟨rfl, rfl⟩ := e1
    have len : ∀ {l : List AV} {i : Nat} {v : AV}, (l.set i v).length = l.length := by simp
    simp (disch := first | omega | (simp only [List.length_set]; omega)) only [istep, ev_ne, ev_at] at e2 e3 e4 e5 e6 e7 e8 e9 e10
    generalize hW : ev ρ (.t q.w) = W at e2 e8
    cases W with
    | ptr idw ow =>
      simp only [Option.some.injEq, Prod.mk.injEq] at e2 e8
      obtain ⟨rfl, rfl⟩ := e2
      obtain ⟨rfl, rfl⟩ := e8
      simp only [Option.some.injEq, Prod.mk.injEq] at e3 e9
      obtain ⟨rfl, rfl⟩ := e3
      obtain ⟨rfl, rfl⟩ := e9
      simp only at e4 e10
      split at e4
      · rename_i tw csw hlk
        obtain ⟨hmw, hok4⟩ := look_some hlk
        obtain ⟨pv, hpv, hh⟩ := Option.map_eq_some_iff.1 e4
        simp only [Prod.mk.injEq] at hh
        obtain ⟨rfl, rfl⟩ := hh
        have hwb : idw < base := by
          apply Decidable.byContradiction; intro hn
          rw [hnew idw (by omega)] at hmw; cases hmw
        -- the element
        have hx5 : ∃ xs, v5 = .agg xs ∧ M5 = M ∧ ((∃ idx ox tx csx, ev ρ (.t q.x) = .ptr idx ox ∧ M.mem idx = some (.cells tx csx) ∧ ox + q.sz ≤ csx.length ∧ xs = (csx.drop ox).take q.sz ∧ (Lm.mk base 11 (μ 5).1 (μ 5).2).ok idx = true) ∨ ∃ dsx, ev ρ (.t q.x) = .ip dsx ∧ q.sz ≤ dsx.length ∧ xs = (dsx.take q.sz).map .d) := by
          generalize ev ρ (.t q.x) = X at e5
          split at e5
          · rename_i idx ox
            split at e5
            · rename_i tx csx hlx
              split at e5
              · rename_i hle
                simp only [Option.some.injEq, Prod.mk.injEq] at e5
                obtain ⟨rfl, rfl⟩ := e5
                exact ⟨_, rfl, rfl, .inl ⟨idx, ox, tx, csx, rfl, (look_some hlx).1, hle, rfl, (look_some hlx).2⟩⟩
              · cases e5
            · cases e5
          · rename_i dsx
            split at e5
            · rename_i hle
              simp only [Option.some.injEq, Prod.mk.injEq] at e5
              obtain ⟨rfl, rfl⟩ := e5
              exact ⟨_, rfl, rfl, .inr ⟨dsx, rfl, hle, rfl⟩⟩
            · cases e5
          · cases e5
        obtain ⟨xs, rfl, rfl, hx5⟩ := hx5
        have hxl : xs.length = q.sz := by
          rcases hx5 with ⟨idx, ox, tx, csx, _, _, hle, rfl, _⟩ | ⟨dsx, _, hle, rfl⟩
          · simp; omega
          · simp; omega
        -- the literal
        have hfill : fill q.z1 [(0, q.sz, .agg xs)] = some xs := by
          simp only [fill, AV.cells, hxl, hz1, Nat.zero_add, Nat.le_refl, and_self, if_true, setAt, List.take_zero, List.nil_append]
          rw [List.drop_eq_nil_of_le (by omega)]; simp
        simp (disch := first | omega | (simp only [List.length_set]; omega)) only [List.map_cons, List.map_nil, ev_at, hfill] at e6
        obtain ⟨ds, hds, hh⟩ := Option.map_eq_some_iff.1 e6
        simp only [Prod.mk.injEq] at hh
        obtain ⟨rfl, rfl⟩ := hh
        have hdl : ds.length = q.sz := (mapM_get hds).1.symm.trans hxl
        have hsc : sliceCells (M5.up (base + (0 + 1 + 1 + 1 + 1 + 1 + 1))).mem (.top (M5.up (base + (0 + 1 + 1 + 1 + 1 + 1 + 1))).nx) q.sz (.d (.sl ds 1)) = some (1, ds.map .d) := by
          simp only [sliceCells, Nat.one_mul, hdl, Nat.le_refl, if_true]; rw [List.take_of_length_le (by omega)]
        have hone : (ds.map AV.d).all AV.one = true := by simp [AV.one]
        rw [hsc] at e7
        simp only [hone, if_true] at e7
        have hux : (M5.up (base + (0 + 1 + 1 + 1 + 1 + 1 + 1))).nx = M5.nx := by show max _ _ = _; omega
        have hfr : base + (0 + 1 + 1 + 1 + 1 + 1 + 1 + 1) = base + 7 := by omega
        have hw7 : idw ≠ base + 7 := by omega
        -- the append
        split at e7
        · -- nil
          rw [if_neg (by omega)] at e7
          split at e7
          · rename_i hc
            simp only [Option.some.injEq, Prod.mk.injEq] at e7
            obtain ⟨rfl, rfl⟩ := e7
            have hlk2 : look ((M5.up (base + (0 + 1 + 1 + 1 + 1 + 1 + 1))).alloc (base + (0 + 1 + 1 + 1 + 1 + 1 + 1 + 1)) (Blk.cells q.e (ds.map .d))).mem ⟨base, 11, (μ 10).1, (μ 10).2⟩ idw = if (Lm.mk base 11 (μ 10).1 (μ 10).2).ok idw then some (.cells tw csw) else none := by
              simp only [look, MM.alloc, MM.up, upd, hfr, if_neg hw7, hmw]
            simp only [hlk2] at e10
            by_cases h10 : (Lm.mk base 11 (μ 10).1 (μ 10).2).ok idw = true
            · simp only [h10, if_true] at e10
              split at e10
              · rename_i hc10
                simp only [Option.some.injEq, Prod.mk.injEq] at e10
                obtain ⟨rfl, rfl⟩ := e10
                refine ⟨⟨idw, ow, tw, csw, .nilsl, xs, ds, 0, [], none, hW, hmw, hpv, hc10.1, hok4, h10, hx5, hds, .nil rfl hc.1 hc.2.2, ?_, ?_⟩, ?_, ?_⟩
                · show max _ _ = _; rw [hux]; omega
                · funext i
                  simp only [MM.put, MM.alloc, MM.up, upd, chMem, AV.cells, hfr, List.nil_append]
                  by_cases h1 : i = idw
                  · simp [h1]
                  · simp [h1]
                · simp (disch := first | omega | (simp only [List.length_set]; omega)) only [ev_ne, ev_at]
                · simp (disch := first | omega | (simp only [List.length_set]; omega)) only [ev_ne, ev_at]
              · cases e10
            · simp only [Bool.not_eq_true] at h10
              simp [h10] at e10
          · cases e7
        · -- a slice in memory
          rename_i id len s0
          split at e7
          · rename_i t' cs0 hlk7
            obtain ⟨hm7, _⟩ := look_some hlk7
            split at e7
            · rename_i hc
              obtain ⟨c1, rfl, rfl, c4, c5, c6, c7⟩ := hc
              simp only [Option.some.injEq, Prod.mk.injEq] at e7
              obtain ⟨rfl, rfl⟩ := e7
              have hm7' : M5.mem id = some (.cells q.e cs0) := hm7
              have hid : id ≠ base + 7 := by
                intro e; rw [e, hnew _ (by omega)] at hm7'; cases hm7'
              by_cases hne : id = idw
              · subst hne
                have : look (upd (upd (M5.up (base + (0 + 1 + 1 + 1 + 1 + 1 + 1))).mem id none) (base + (0 + 1 + 1 + 1 + 1 + 1 + 1 + 1)) (some (Blk.cells q.e (cs0.take (len * q.sz) ++ ds.map .d)))) ⟨base, 11, (μ 10).1, (μ 10).2⟩ id = none := by
                  simp only [look, upd, hfr, if_neg hid, if_true, ite_self]
                simp only [this] at e10
                cases e10
              · have hlk2 : look (upd (upd (M5.up (base + (0 + 1 + 1 + 1 + 1 + 1 + 1))).mem id none) (base + (0 + 1 + 1 + 1 + 1 + 1 + 1 + 1)) (some (Blk.cells q.e (cs0.take (len * q.sz) ++ ds.map .d)))) ⟨base, 11, (μ 10).1, (μ 10).2⟩ idw = if (Lm.mk base 11 (μ 10).1 (μ 10).2).ok idw then some (.cells tw csw) else none := by
                  simp only [look, upd, MM.up, hfr, if_neg hw7, if_neg (Ne.symm hne), hmw]
                simp only [hlk2] at e10
                by_cases h10 : (Lm.mk base 11 (μ 10).1 (μ 10).2).ok idw = true
                · simp only [h10, if_true] at e10
                  split at e10
                  · rename_i hc10
                    simp only [Option.some.injEq, Prod.mk.injEq] at e10
                    obtain ⟨rfl, rfl⟩ := e10
                    refine ⟨⟨idw, ow, tw, csw, .os id 0 len q.sz, xs, ds, len, cs0.take (len * q.sz), some id, hW, hmw, hpv, hc10.1, hok4, h10, hx5, hds, .os id len cs0 rfl hm7' c1 c4 c5 c6 c7 hne, ?_, ?_⟩, ?_, ?_⟩
                    · show max _ _ = _; rw [hux]; omega
                    · funext i
                      simp only [MM.put, MM.up, upd, chMem, AV.cells, hfr]
                      by_cases h1 : i = idw
                      · simp [h1]
                      · by_cases h2 : i = base + 7
                        · simp [h1, h2]
                        · simp [h1, h2, eq_comm]
                    · simp (disch := first | omega | (simp only [List.length_set]; omega)) only [ev_ne, ev_at]
                    · simp (disch := first | omega | (simp only [List.length_set]; omega)) only [ev_ne, ev_at]
                  · cases e10
                · simp only [Bool.not_eq_true] at h10
                  simp [h10] at e10
            · cases e7
          · cases e7
        · cases e7
      · cases e4
    | ip ds0 =>
      simp only [Option.some.injEq, Prod.mk.injEq] at e2 e8
      obtain ⟨rfl, rfl⟩ := e2
      obtain ⟨rfl, rfl⟩ := e8
      simp only [Option.some.injEq, Prod.mk.injEq] at e3 e9
      obtain ⟨rfl, rfl⟩ := e3
      obtain ⟨rfl, rfl⟩ := e9
      cases e10
    | fn f as bs =>
      simp only [Option.some.injEq, Prod.mk.injEq] at e2
      obtain ⟨rfl, rfl⟩ := e2
      cases e3
    | _ => cases e2
theorem regD_fwd {lo base n i : Nat} {o : Op1} {r : List Op1} {s : St} {v : AV} {M1 : MM} (hg : o.g = none) (hi : istep call mode true lo ⟨base, n, o.m, o.w⟩ (base + i) o.i s.ρ s.M = some (v, M1)) :
    regD call mode lo base n (o :: r) i s = regD call mode lo base n r (i + 1) ⟨setO s.ρ o.dst v, M1⟩ := by
  simp only [regD, step1, hg, want, hi]
theorem regN_fwd {lo : Nat} {o : Op1} {r : List Op1} {s : St} {v : AV} {M1 : MM} (hg : o.g = none) (hi : istep call mode false lo (.top s.M.nx) s.M.nx o.i s.ρ s.M = some (v, M1)) :
    regN call mode lo (o :: r) s = regN call mode lo r ⟨setO s.ρ o.dst v, M1⟩ := by
  simp only [regN, step1, hg, want, hi]

theorem toDs_ones {xs : List AV} {ds : List D} (h : xs.mapM toD = some ds) : xs.all AV.one = true := by
  rw [List.all_eq_true]
  intro x hx
  obtain ⟨j, hj, rfl⟩ := List.getElem_of_mem hx
  have := (mapM_get h).2 j hj (by rw [← (mapM_get h).1]; exact hj)
  revert this
  generalize xs[j] = x
  intro h
  unfold toD at h
  split at h <;> first | rfl | cases h

theorem ch_fwd {lo base d : Nat} {q : ChA} {μ : Nat → Nat × Bool} {ρ ρ2 : List AV} {M M' : MM} (hz1 : q.z1.length = q.sz) (hsz : 0 < q.sz) (hwd : q.w < d) (hxd : q.x < d) (hnx : base + 11 ≤ M.nx) (hnew : ∀ i, base ≤ i → M.mem i = none)
    (hlen : d + 22 < ρ2.length) (hw : ρ2.getD q.w .undef = ρ.getD q.w .undef) (hx : ρ2.getD q.x .undef = ρ.getD q.x .undef) (F : ChF lo ρ M q base M' μ) :
    ∃ s', regD call mode lo base 11 (outL d q μ) 0 ⟨ρ2, M⟩ = some s' ∧ s'.ρ.length = ρ2.length ∧ (∀ r, ¬ (d ≤ r ∧ r < d + 23) → s'.ρ.getD r .undef = ρ2.getD r .undef) ∧ s'.M.nx = M.nx ∧
      s'.M.mem = fun i => if i = base + 6 then some (.cells q.e F.xs) else chMem M.mem F.idw F.tw (setAt F.csw (F.ow + q.off) [.os (base + 7) 0 (F.len + 1) q.sz]) F.kill q.e (F.olds ++ F.xs) (base + 7) i := by
  obtain ⟨idw, ow, tw, csw, pv, xs, ds, len, olds, kill, hW, hmw, hpv, hlo, l4, l10, hX, hds, hap, nx', mem'⟩ := F
  have hW2 : ev ρ2 (.t q.w) = .ptr idw ow := by rw [← hW]; exact hw
  have hX2 : ev ρ2 (.t q.x) = ev ρ (.t q.x) := hx
  have hlk4 : look M.mem ⟨base, 11, (μ 4).1, (μ 4).2⟩ idw = some (.cells tw csw) := by simp only [look, l4, if_true, hmw]
  have hwb : idw < base := by
    apply Decidable.byContradiction; intro hn
    rw [hnew idw (by omega)] at hmw; cases hmw
  have hxl : xs.length = q.sz := by
    rcases hX with ⟨idx, ox, tx, csx, _, _, hle, rfl, _⟩ | ⟨dsx, _, hle, rfl⟩
    · simp; omega
    · simp; omega
  have hfill : fill q.z1 [(0, q.sz, .agg xs)] = some xs := by
    simp only [fill, AV.cells, hxl, hz1, Nat.zero_add, Nat.le_refl, and_self, if_true, setAt, List.take_zero, List.nil_append]
    rw [List.drop_eq_nil_of_le (by omega)]; simp
  have hldn : istep call mode true lo ⟨base, 11, (μ 5).1, (μ 5).2⟩ (base + 5) (.ldn q.sz (.t q.x)) ρ2 M = some (.agg xs, M) := by
    simp only [istep, hX2]
    rcases hX with ⟨idx, ox, tx, csx, h1, h2, h3, rfl, h5⟩ | ⟨dsx, h1, h3, rfl⟩
    · simp only [h1, look, h5, if_true, h2, h3]
    · simp only [h1, h3, if_true]
  have hone := toDs_ones hds
  have hlt : ow + q.off < csw.length := (List.getElem?_eq_some_iff.1 hpv).1
  -- the memory behind the literal
  let Ml : MM := M.alloc (base + 6) (.cells q.e xs)
  have hMlnx : Ml.nx = M.nx := by show max _ _ = _; omega
  have hsc : sliceCells Ml.mem (.top Ml.nx) q.sz (.os (base + 6) 0 1 q.sz) = some (1, xs) := by
    have : look Ml.mem (.top Ml.nx) (base + 6) = some (.cells q.e xs) := by
      simp only [look, ok_top.2 (show base + 6 < Ml.nx by omega), if_true]; simp [Ml, MM.alloc, upd]
    simp only [sliceCells, this, Nat.one_mul, Nat.zero_add, hxl, true_and, Nat.le_refl, if_true, List.drop_zero]
    rw [List.take_of_length_le (by omega)]
  have happ : ∃ Ma : MM, istep call mode true lo ⟨base, 11, (μ 7).1, (μ 7).2⟩ (base + 7) (.app q.e q.sz q.by_ q.z2 (.k pv) (.k (.os (base + 6) 0 1 q.sz))) [] Ml = some (.os (base + 7) 0 (len + 1) q.sz, Ma) ∧ Ma.nx = M.nx ∧
      Ma.mem = fun i => if i = base + 7 then some (.cells q.e (olds ++ xs)) else if kill = some i then none else Ml.mem i := by
    simp only [istep, ev, hsc, hone, if_true]
    cases hap with
    | nil h hb hz =>
      subst h
      refine ⟨Ml.alloc (base + 7) (.cells q.e xs), ?_, ?_, ?_⟩
      · have hb' : q.by_ ≤ 140737488355328 := by omega
        simp [hb', hz]
      · show max _ _ = _; omega
      · funext i; simp only [MM.alloc, upd, List.nil_append]; simp
    | os id len cs h hm h1 h2 h3 h4 h5 hne =>
      subst h
      have hid : id < base := by
        apply Decidable.byContradiction; intro hn
        rw [hnew id (by omega)] at hm; cases hm
      have hlk : look Ml.mem (.top Ml.nx) id = some (.cells q.e cs) := by
        simp only [look, ok_top.2 (show id < Ml.nx by omega), if_true]
        simp only [Ml, MM.alloc, upd]; rw [if_neg (by omega)]; exact hm
      refine ⟨⟨max Ml.nx (base + 7 + 1), upd (upd Ml.mem id none) (base + 7) (some (.cells q.e (cs.take (len * q.sz) ++ xs)))⟩, ?_, ?_, ?_⟩
      · simp [hlk, h1, h2, h3, h4, h5]
      · show max _ _ = _; omega
      · funext i
        simp only [upd]
        by_cases e1 : i = base + 7
        · simp [e1]
        · by_cases e2 : i = id
          · simp [e1, e2]
          · have e3 : ¬ (id = i) := fun e => e2 e.symm
            simp [e1, e2, e3]
  obtain ⟨Ma, happ, hanx, hamem⟩ := happ
  have hkw : kill ≠ some idw := by
    cases hap with
    | nil => simp
    | os id len cs h hm h1 h2 h3 h4 h5 hne => simpa using hne
  have hlk10 : look Ma.mem ⟨base, 11, (μ 10).1, (μ 10).2⟩ idw = some (.cells tw csw) := by
    simp only [look, l10, if_true, hamem]
    rw [if_neg (by omega), if_neg hkw]
    simp only [Ml, MM.alloc, upd]; rw [if_neg (by omega)]; exact hmw
  unfold outL
  refine ⟨⟨((((((((((ρ2.set (d + 13) (.ptr idw ow)).set (d + 14) (.ptr idw ow)).set (d + 15) (.ptr idw ow)).set (d + 16) (.ptr idw (ow + q.off))).set (d + 17) pv).set (d + 18) (.agg xs)).set (d + 19) (.os (base + 6) 0 1 q.sz)).set (d + 20) (.os (base + 7) 0 (len + 1) q.sz)).set (d + 21) (.ptr idw ow)).set (d + 22) (.ptr idw (ow + q.off))),
    Ma.put idw (.cells tw (setAt csw (ow + q.off) [.os (base + 7) 0 (len + 1) q.sz]))⟩, ?_, by simp, fun r hr => ?_, hanx, ?_⟩
  · refine (regD_fwd rfl (v := .ptr idw ow) (M1 := M) (by simp only [istep, hW2])).trans ?_
    refine (regD_fwd rfl (v := .ptr idw ow) (M1 := M) (by simp (disch := first | omega | (simp only [List.length_set]; omega)) only [istep, setO, ev_ne, ev_at, hW2])).trans ?_
    refine (regD_fwd rfl (v := .ptr idw ow) (M1 := M) (by simp (disch := first | omega | (simp only [List.length_set]; omega)) only [istep, setO, ev_ne, ev_at, hW2])).trans ?_
    refine (regD_fwd rfl (v := .ptr idw (ow + q.off)) (M1 := M) (by simp (disch := first | omega | (simp only [List.length_set]; omega)) only [istep, setO, ev_ne, ev_at, hW2])).trans ?_
    refine (regD_fwd rfl (v := pv) (M1 := M) (by simp (disch := first | omega | (simp only [List.length_set]; omega)) only [istep, setO, ev_ne, ev_at, hlk4, hpv, Option.map_some])).trans ?_
    refine (regD_fwd rfl (v := .agg xs) (M1 := M) (by rw [← hldn]; refine istep_cg (fun j hj => ?_); simp only [I.slots, X.slots, List.mem_singleton] at hj; subst hj; simp only [setO, getD_set]; repeat rw [if_neg (by omega)])).trans ?_
    refine (regD_fwd rfl (v := .os (base + 6) 0 1 q.sz) (M1 := Ml) (by simp (disch := first | omega | (simp only [List.length_set]; omega)) only [istep, setO, ev_ne, ev_at, List.map_cons, List.map_nil, hfill, Option.map_some]; rfl)).trans ?_
    refine (regD_fwd rfl (v := .os (base + 7) 0 (len + 1) q.sz) (M1 := Ma) (by
      rw [← happ]
      simp (disch := first | omega | (simp only [List.length_set]; omega)) only [istep, setO, ev_ne, ev_at]
      rfl)).trans ?_
    refine (regD_fwd rfl (v := .ptr idw ow) (M1 := Ma) (by simp (disch := first | omega | (simp only [List.length_set]; omega)) only [istep, setO, ev_ne, ev_at])).trans ?_
    refine (regD_fwd rfl (v := .ptr idw (ow + q.off)) (M1 := Ma) (by simp (disch := first | omega | (simp only [List.length_set]; omega)) only [istep, setO, ev_ne, ev_at])).trans ?_
    refine (regD_fwd rfl (v := .undef) (M1 := Ma.put idw (.cells tw (setAt csw (ow + q.off) [.os (base + 7) 0 (len + 1) q.sz]))) (by
      simp (disch := first | omega | (simp only [List.length_set]; omega)) only [istep, setO, ev_ne, ev_at, hlk10]
      simp [AV.cells, AV.one, hlo]; omega)).trans ?_
    rfl
  · simp only [getD_set]
    repeat rw [if_neg (by omega)]
  · funext i
    simp only [MM.put, upd, hamem, chMem, Ml, MM.alloc]
    by_cases h1 : i = idw
    · subst h1; rw [if_pos rfl, if_neg (by omega), if_pos rfl]
    · by_cases h2 : i = base + 6
      · subst h2
        rw [if_neg h1, if_neg (by omega)]
        have : kill ≠ some (base + 6) := by
          cases hap with
          | nil => simp
          | os id len cs h hm h1 h2 h3 h4 h5 hne =>
            intro e; simp at e; subst e; rw [hnew _ (by omega)] at hm; cases hm
        simp [this]
      · simp [h1, h2]
/-! ### The other way -/
def inL3 (d : Nat) (q : ChA) (z1 z2 zs : List AV) (μ : Nat → Nat × Bool) : List Op1 :=
  [⟨some (d + 2), none, .mov (.t q.w), (μ 0).1, (μ 0).2⟩, ⟨some (d + 3), none, .nilc (.t (d + 2)), (μ 1).1, (μ 1).2⟩, ⟨some (d + 4), none, .fad q.off (.t (d + 3)), (μ 2).1, (μ 2).2⟩, ⟨some (d + 5), none, .ld1 (.t (d + 4)), (μ 3).1, (μ 3).2⟩,
   ⟨some (d + 6), none, .len (.t (d + 5)), (μ 4).1, (μ 4).2⟩, ⟨some (d + 7), none, .mksl q.e 1 q.sz z1 [(0, q.sz, .k (.agg zs))], (μ 5).1, (μ 5).2⟩, ⟨some (d + 8), none, .app q.e q.sz q.by_ z2 (.t (d + 5)) (.t (d + 7)), (μ 6).1, (μ 6).2⟩,
   ⟨some (d + 9), none, .nilc (.t (d + 2)), (μ 7).1, (μ 7).2⟩, ⟨some (d + 10), none, .fad q.off (.t (d + 9)), (μ 8).1, (μ 8).2⟩, ⟨none, none, .st 1 (.t (d + 10)) (.t (d + 8)), (μ 9).1, (μ 9).2⟩]
def inL4 (d : Nat) (q : ChA) (μ : Nat → Nat × Bool) : List Op1 :=
  [⟨some (d + 11), none, .ldn q.sz (.t q.x), (μ 0).1, (μ 0).2⟩, ⟨some (d + 12), none, .ixs q.sz (.t (d + 8)) (.t (d + 6)), (μ 1).1, (μ 1).2⟩, ⟨none, none, .st q.sz (.t (d + 12)) (.t (d + 11)), (μ 2).1, (μ 2).2⟩]

theorem chA_fwd {lo base d : Nat} {q : ChA} {μ μ3 μ4 : Nat → Nat × Bool} {z1 z2 zs : List AV} {ρ ρ2 : List AV} {M M' : MM} (hz1 : z1.length = q.sz) (hz2 : z2.length = q.z2.length) (hzs : zs.length = q.sz) (hzo : zs.all AV.one = true) (hsz : 0 < q.sz) (hxd : q.x < d)
    (hnew : ∀ i, base ≤ i → M.mem i = none) (hlob : lo ≤ base) (hlen : d + 22 < ρ2.length) (hw : ρ2.getD q.w .undef = ρ.getD q.w .undef) (hx : ρ2.getD q.x .undef = ρ.getD q.x .undef) (F : ChF lo ρ M q base M' μ)
    (hap' : ∀ idx ox, ev ρ (.t q.x) = .ptr idx ox → idx ≠ F.idw ∧ F.kill ≠ some idx) :
    ∃ s3 s4, regN call mode lo (inL3 d q z1 z2 zs μ3) ⟨ρ2, ⟨base + 6, M.mem⟩⟩ = some s3 ∧ regN call mode lo (inL4 d q μ4) s3 = some s4 ∧ s3.M.nx = base + 8 ∧ s4.ρ.length = ρ2.length ∧ (∀ r, ¬ (d ≤ r ∧ r < d + 23) → s4.ρ.getD r .undef = ρ2.getD r .undef) ∧ s4.M.nx = base + 8 ∧
      s4.M.mem = fun i => if i = base + 6 then some (.cells q.e zs) else chMem M.mem F.idw F.tw (setAt F.csw (F.ow + q.off) [.os (base + 7) 0 (F.len + 1) q.sz]) F.kill q.e (F.olds ++ F.xs) (base + 7) i := by
  obtain ⟨idw, ow, tw, csw, pv, xs, ds, len, olds, kill, hW, hmw, hpv, hlo, l4, l10, hX, hds, hap, nx', mem'⟩ := F
  simp only at hap'
  have hW2 : ev ρ2 (.t q.w) = .ptr idw ow := by rw [← hW]; exact hw
  have hX2 : ev ρ2 (.t q.x) = ev ρ (.t q.x) := hx
  have hwb : idw < base := by
    apply Decidable.byContradiction; intro hn
    rw [hnew idw (by omega)] at hmw; cases hmw
  have hlk4 : look M.mem (.top (base + 6)) idw = some (.cells tw csw) := by simp only [look, ok_top.2 (show idw < base + 6 by omega), if_true, hmw]
  have hxl : xs.length = q.sz := by
    rcases hX with ⟨idx, ox, tx, csx, _, _, hle, rfl, _⟩ | ⟨dsx, _, hle, rfl⟩
    · simp; omega
    · simp; omega
  have hfill : fill z1 [(0, q.sz, .agg zs)] = some zs := by
    simp only [fill, AV.cells, hzs, hz1, Nat.zero_add, Nat.le_refl, and_self, if_true, setAt, List.take_zero, List.nil_append]
    rw [List.drop_eq_nil_of_le (by omega)]; simp
  have hone := toDs_ones hds
  have hlt : ow + q.off < csw.length := (List.getElem?_eq_some_iff.1 hpv).1
  have holl : olds.length = len * q.sz := by
    cases hap with
    | nil => simp
    | os id len cs h hm h1 h2 h3 h4 h5 hne => simp; omega
  have hplen : (match pv with | .d (.sl _ n) => some (AV.i n, (⟨base + 6, M.mem⟩ : MM)) | .d (.v (.slice none 0 0)) => some (.i 0, ⟨base + 6, M.mem⟩) | .os _ _ len _ => some (.i len, ⟨base + 6, M.mem⟩) | .ov _ _ len _ => some (.i len, ⟨base + 6, M.mem⟩) | _ => none) = some (.i len, ⟨base + 6, M.mem⟩) := by
    cases hap with
    | nil h => subst h; rfl
    | os id len cs h => subst h; rfl
  let Ml : MM := (⟨base + 6, M.mem⟩ : MM).alloc (base + 6) (.cells q.e zs)
  have hMlnx : Ml.nx = base + 7 := by show max (base + 6) (base + 6 + 1) = _; omega
  have hsc : sliceCells Ml.mem (.top Ml.nx) q.sz (.os (base + 6) 0 1 q.sz) = some (1, zs) := by
    have : look Ml.mem (.top Ml.nx) (base + 6) = some (.cells q.e zs) := by
      simp only [look, ok_top.2 (show base + 6 < Ml.nx by omega), if_true]; simp [Ml, MM.alloc, upd]
    simp only [sliceCells, this, Nat.one_mul, Nat.zero_add, hzs, true_and, Nat.le_refl, if_true, List.drop_zero]
    rw [List.take_of_length_le (by omega)]
  have happ : ∃ Ma : MM, istep call mode false lo (.top Ml.nx) Ml.nx (.app q.e q.sz q.by_ z2 (.k pv) (.k (.os (base + 6) 0 1 q.sz))) [] Ml = some (.os (base + 7) 0 (len + 1) q.sz, Ma) ∧ Ma.nx = base + 8 ∧
      Ma.mem = fun i => if i = base + 7 then some (.cells q.e (olds ++ zs)) else if kill = some i then none else Ml.mem i := by
    simp only [istep, ev, hsc, hzo, if_true]
    rw [hMlnx]
    cases hap with
    | nil h hb hz =>
      subst h
      refine ⟨Ml.alloc (base + 7) (.cells q.e zs), ?_, ?_, ?_⟩
      · have hb' : q.by_ ≤ 140737488355328 := by omega
        simp [hb', hz2, hz]
      · show max _ _ = _; omega
      · funext i; simp only [MM.alloc, upd, List.nil_append]; simp
    | os id len cs h hm h1 h2 h3 h4 h5 hne =>
      subst h
      have hid : id < base := by
        apply Decidable.byContradiction; intro hn
        rw [hnew id (by omega)] at hm; cases hm
      have hlk : look Ml.mem (.top (base + 7)) id = some (.cells q.e cs) := by
        simp only [look, ok_top.2 (show id < base + 7 by omega), if_true]
        simp only [Ml, MM.alloc, upd]; rw [if_neg (by omega)]; exact hm
      refine ⟨⟨max Ml.nx (base + 7 + 1), upd (upd Ml.mem id none) (base + 7) (some (.cells q.e (cs.take (len * q.sz) ++ zs)))⟩, ?_, ?_, ?_⟩
      · simp [hlk, h1, h2, h3, h4, hz2, h5]
        rw [hMlnx]; omega
      · show max _ _ = _; omega
      · funext i
        simp only [upd]
        by_cases e1 : i = base + 7
        · simp [e1]
        · by_cases e2 : i = id
          · simp [e1, e2]
          · have e3 : ¬ (id = i) := fun e => e2 e.symm
            simp [e1, e2, e3]
  obtain ⟨Ma, happ, hanx, hamem⟩ := happ
  have hkw : kill ≠ some idw := by
    cases hap with
    | nil => simp
    | os id len cs h hm h1 h2 h3 h4 h5 hne => simpa using hne
  have hk6 : ∀ j, base ≤ j → kill ≠ some j := by
    intro j hj
    cases hap with
    | nil => simp
    | os id len cs h hm h1 h2 h3 h4 h5 hne =>
      intro e; simp at e; subst e; rw [hnew _ hj] at hm; cases hm
  have hlk10 : look Ma.mem (.top Ma.nx) idw = some (.cells tw csw) := by
    simp only [look, ok_top.2 (show idw < Ma.nx by omega), if_true, hamem]
    rw [if_neg (by omega), if_neg hkw]
    simp only [Ml, MM.alloc, upd]; rw [if_neg (by omega)]; exact hmw
  let Mb : MM := Ma.put idw (.cells tw (setAt csw (ow + q.off) [.os (base + 7) 0 (len + 1) q.sz]))
  have hbnx : Mb.nx = base + 8 := hanx
  have hlkb7 : look Mb.mem (.top Mb.nx) (base + 7) = some (.cells q.e (olds ++ zs)) := by
    have e : Mb.mem (base + 7) = some (.cells q.e (olds ++ zs)) := by
      simp only [Mb, MM.put, upd, hamem]
      rw [if_neg (show ¬ (base + 7 = idw) by omega)]
      simp
    rw [look, if_pos (ok_top.2 (by omega)), e]
  have hldn : ∀ l : List AV, l.getD q.x .undef = ρ2.getD q.x .undef → istep call mode false lo (.top Mb.nx) Mb.nx (.ldn q.sz (.t q.x)) l Mb = some (.agg xs, Mb) := by
    intro l hl
    have hl' : ev l (.t q.x) = ev ρ2 (.t q.x) := hl
    simp only [istep, hl', hX2]
    rcases hX with ⟨idx, ox, tx, csx, h1, h2, h3, rfl, h5⟩ | ⟨dsx, h1, h3, rfl⟩
    · obtain ⟨n1, n2⟩ := hap' idx ox h1
      have hib : idx < base := by
        apply Decidable.byContradiction; intro hn
        rw [hnew idx (by omega)] at h2; cases h2
      have : look Mb.mem (.top Mb.nx) idx = some (.cells tx csx) := by
        have e : Mb.mem idx = some (.cells tx csx) := by
          simp only [Mb, MM.put, upd, hamem]
          rw [if_neg n1, if_neg (show ¬ (idx = base + 7) by omega), if_neg n2]
          simp only [Ml, MM.alloc, upd]; rw [if_neg (show ¬ (idx = base + 6) by omega)]; exact h2
        rw [look, if_pos (ok_top.2 (by omega)), e]
      simp only [h1, this, h3, if_true]
    · simp only [h1, h3, if_true]
  let ρ3 := (((((((((ρ2.set (d + 2) (.ptr idw ow)).set (d + 3) (.ptr idw ow)).set (d + 4) (.ptr idw (ow + q.off))).set (d + 5) pv).set (d + 6) (.i len)).set (d + 7) (.os (base + 6) 0 1 q.sz)).set (d + 8) (.os (base + 7) 0 (len + 1) q.sz)).set (d + 9) (.ptr idw ow)).set (d + 10) (.ptr idw (ow + q.off)))
  have hsetl : (setAt csw (ow + q.off) [AV.os (base + 7) 0 (len + 1) q.sz]).length = csw.length := by simp [setAt]; omega
  have hst : setAt (olds ++ zs) (0 + len * q.sz) xs = olds ++ xs := by
    rw [Nat.zero_add, ← holl]
    simp only [setAt, List.take_left, List.drop_append, List.append_assoc]
    rw [List.drop_eq_nil_of_le (by omega), List.drop_eq_nil_of_le (by omega)]; simp
  refine ⟨⟨ρ3, Mb⟩, ⟨(ρ3.set (d + 11) (.agg xs)).set (d + 12) (.ptr (base + 7) (0 + len * q.sz)), Mb.put (base + 7) (.cells q.e (olds ++ xs))⟩, ?_, ?_, hbnx, by simp [ρ3], fun r hr => ?_, hbnx, ?_⟩
  · unfold inL3
    refine (regN_fwd rfl (v := .ptr idw ow) (M1 := ⟨base + 6, M.mem⟩) (by simp only [istep, hW2])).trans ?_
    refine (regN_fwd rfl (v := .ptr idw ow) (M1 := ⟨base + 6, M.mem⟩) (by simp (disch := first | omega | (simp only [List.length_set]; omega)) only [istep, setO, ev_ne, ev_at, hW2])).trans ?_
    refine (regN_fwd rfl (v := .ptr idw (ow + q.off)) (M1 := ⟨base + 6, M.mem⟩) (by simp (disch := first | omega | (simp only [List.length_set]; omega)) only [istep, setO, ev_ne, ev_at, hW2])).trans ?_
    refine (regN_fwd rfl (v := pv) (M1 := ⟨base + 6, M.mem⟩) (by simp (disch := first | omega | (simp only [List.length_set]; omega)) only [istep, setO, ev_ne, ev_at, hlk4, hpv, Option.map_some])).trans ?_
    refine (regN_fwd rfl (v := .i len) (M1 := ⟨base + 6, M.mem⟩) (by simp (disch := first | omega | (simp only [List.length_set]; omega)) only [istep, setO, ev_ne, ev_at]; exact hplen)).trans ?_
    refine (regN_fwd rfl (v := .os (base + 6) 0 1 q.sz) (M1 := Ml) (by simp (disch := first | omega | (simp only [List.length_set]; omega)) only [istep, setO, ev_ne, ev_at, List.map_cons, List.map_nil, ev, hfill, Option.map_some]; rfl)).trans ?_
    refine (regN_fwd rfl (v := .os (base + 7) 0 (len + 1) q.sz) (M1 := Ma) (by
      rw [← happ]
      simp (disch := first | omega | (simp only [List.length_set]; omega)) only [istep, setO, ev_ne, ev_at]
      rfl)).trans ?_
    refine (regN_fwd rfl (v := .ptr idw ow) (M1 := Ma) (by simp (disch := first | omega | (simp only [List.length_set]; omega)) only [istep, setO, ev_ne, ev_at])).trans ?_
    refine (regN_fwd rfl (v := .ptr idw (ow + q.off)) (M1 := Ma) (by simp (disch := first | omega | (simp only [List.length_set]; omega)) only [istep, setO, ev_ne, ev_at])).trans ?_
    refine (regN_fwd rfl (v := .undef) (M1 := Mb) (by
      simp (disch := first | omega | (simp only [List.length_set]; omega)) only [istep, setO, ev_ne, ev_at, hlk10]
      simp [AV.cells, AV.one, hlo, Mb]; omega)).trans ?_
    rfl
  · unfold inL4
    refine (regN_fwd rfl (v := .agg xs) (M1 := Mb) (hldn _ (by simp only [ρ3, getD_set]; repeat rw [if_neg (by omega)]))).trans ?_
    refine (regN_fwd rfl (v := .ptr (base + 7) (0 + len * q.sz)) (M1 := Mb) (by
      simp (disch := first | omega | (simp only [ρ3, List.length_set]; omega)) only [istep, setO, ρ3, ev_ne, ev_at, asI]
      rw [if_pos (by omega)]; simp)).trans ?_
    refine (regN_fwd rfl (v := .undef) (M1 := Mb.put (base + 7) (.cells q.e (olds ++ xs))) (by
      simp (disch := first | omega | (simp only [ρ3, List.length_set]; omega)) only [istep, setO, ρ3, ev_ne, ev_at, hlkb7, AV.cells]
      rw [if_pos ⟨by omega, hxl, by simp; omega, hone⟩, hst])).trans ?_
    rfl
  · simp only [ρ3, getD_set]
    repeat rw [if_neg (by omega)]
  · funext i
    simp only [MM.put, Mb, upd, hamem, chMem, Ml, MM.alloc]
    by_cases h1 : i = idw
    · subst h1; rw [if_neg (by omega), if_pos rfl, if_neg (by omega), if_pos rfl]
    · by_cases h2 : i = base + 6
      · subst h2
        rw [if_neg (by omega), if_neg h1, if_neg (by omega), if_neg (hk6 _ (by omega)), if_pos rfl, if_pos rfl]
      · by_cases h3 : i = base + 7
        · subst h3; rw [if_pos rfl, if_neg h2, if_neg h1, if_pos rfl]
        · simp [h1, h2, h3]
/-! ### The shapes -/
def rmask (μ : Nat → Nat × Bool) : Nat → List Op1 → List Op1
  | _, [] => []
  | i, o :: l => ⟨o.dst, o.g, o.i, (μ i).1, (μ i).2⟩ :: rmask μ (i + 1) l
theorem rmask_eq (μ : Nat → Nat × Bool) : ∀ (l out : List Op1) (k : Nat), out.length = l.length → (∀ j (h : j < out.length) (h' : j < l.length), out[j].dst = l[j].dst ∧ out[j].g = l[j].g ∧ out[j].i = l[j].i) →
    (∀ j (h : j < out.length), μ (k + j) = (out[j].m, out[j].w)) → out = rmask μ k l
  | [], [], _, _, _, _ => rfl
  | [], _ :: _, _, h, _, _ => by simp at h
  | _ :: _, [], _, h, _, _ => by simp at h
  | o :: l, p :: out, k, h, he, hm => by
    obtain ⟨x1, x2, x3⟩ := he 0 (by simp) (by simp)
    have x4 := hm 0 (by simp)
    simp only [List.getElem_cons_zero, Nat.add_zero] at x1 x2 x3 x4
    simp only [rmask, x4, ← x1, ← x2, ← x3]
    rw [← rmask_eq μ l out (k + 1) (by simpa using h) (fun j h1 h2 => by have := he (j + 1) (by simpa using h1) (by simpa using h2); simpa using this) (fun j h1 => by have := hm (j + 1) (by simpa using h1); rw [show k + 1 + j = k + (j + 1) by omega, this]; simp)]

theorem chM5_out {d : Nat} {l out : List Op1} {q : ChA} (h : chM5 d l = some q) (hl : out.length = l.length) (he : ∀ j (h : j < out.length) (h' : j < l.length), out[j].dst = l[j].dst ∧ out[j].g = l[j].g ∧ out[j].i = l[j].i) :
    (∃ μ, out = outL d q μ) ∧ q.z1.length = q.sz ∧ 0 < q.sz ∧ q.w < d ∧ q.x < d := by
  obtain ⟨μ, ho⟩ : ∃ μ, out = rmask μ 0 l := ⟨fun j => ((out[j]?).map fun (o : Op1) => (o.m, o.w)).getD (0, false), rmask_eq _ l out 0 hl he (fun j h => by simp [h])⟩
  clear hl he
  unfold chM5 at h
  split at h
  · split at h
    · rename_i hc
      simp only [List.cons.injEq, and_true] at hc
      obtain ⟨⟨rfl, rfl, rfl, rfl, rfl, rfl, rfl, rfl, rfl, rfl⟩, ⟨rfl, rfl, rfl, rfl, rfl, rfl, rfl, rfl, rfl, rfl⟩, ⟨rfl, rfl, rfl, rfl, rfl, rfl⟩, h1, h2, h3, h4⟩ := hc
      injection h with h; subst h
      exact ⟨⟨μ, ho⟩, h1, h2, h3, h4⟩
    · cases h
  · cases h

theorem chM3_in {d : Nat} {l : List Op1} {q : ChA} (h : chM3 d q l = true) : ∃ z1 z2 zs μ, l = inL3 d q z1 z2 zs μ ∧ z1.length = q.sz ∧ z2.length = q.z2.length ∧ zs.length = q.sz ∧ zs.all AV.one = true := by
  unfold chM3 at h
  split at h
  · simp only [Bool.and_eq_true, decide_eq_true_eq, List.cons.injEq, and_true] at h
    obtain ⟨⟨⟨rfl, rfl, rfl, rfl, rfl, rfl, rfl, rfl, rfl⟩, ⟨rfl, rfl, rfl, rfl, rfl, rfl, rfl, rfl, rfl, rfl⟩, ⟨rfl, rfl, rfl, rfl, rfl, rfl, rfl, rfl, rfl, h1, h2, h3⟩⟩, h4⟩ := h
    rename_i m0 b0 m1 b1 m2 b2 m3 b3 m4 b4 z1 zs m5 b5 z2 m6 b6 m7 b7 m8 b8 m9 b9
    exact ⟨z1, z2, zs, fun i => match i with | 0 => (m0, b0) | 1 => (m1, b1) | 2 => (m2, b2) | 3 => (m3, b3) | 4 => (m4, b4) | 5 => (m5, b5) | 6 => (m6, b6) | 7 => (m7, b7) | 8 => (m8, b8) | _ => (m9, b9), rfl, h2, h3, h1, h4⟩
  · cases h

theorem chM4_in {d : Nat} {l : List Op1} {q : ChA} (h : chM4 d q l = true) : ∃ μ, l = inL4 d q μ := by
  unfold chM4 at h
  split at h
  · simp only [decide_eq_true_eq, List.cons.injEq, and_true] at h
    obtain ⟨rfl, rfl, rfl, rfl, rfl, rfl, rfl, rfl, rfl, rfl⟩ := h
    rename_i m0 b0 m1 b1 m2 b2
    exact ⟨fun i => match i with | 0 => (m0, b0) | 1 => (m1, b1) | _ => (m2, b2), rfl⟩
  · cases h
def SimSD (ds : List Nat) (lo : Nat) (s : St) (a : Act) (c : Cx) : Prop := ∃ ρ, Ag ds s ⟨ρ, s.M⟩ ∧ SimS lo ⟨ρ, s.M⟩ a c

theorem inD_mem {ds : List Nat} {d r : Nat} (hd : d ∈ ds) (h : inD ds r = false) : ¬ (d ≤ r ∧ r < d + 23) := by
  intro hc
  have : inD ds r = true := List.any_eq_true.2 ⟨d, hd, by simp [hc.1, hc.2]⟩
  rw [this] at h; cases h
theorem inD_filter {ds : List Nat} {d r : Nat} (hr : r < d) (h : inD (ds.filter fun e => !Nat.beq e d) r = false) : inD ds r = false := by
  unfold inD at h ⊢
  rw [List.any_eq_false] at h ⊢
  intro e he
  by_cases hed : e = d
  · subst hed; simp; omega
  · have hb : Nat.beq e d = false := by
      cases hb : Nat.beq e d with
      | false => rfl
      | true => exact absurd (Nat.eq_of_beq_eq_true hb) hed
    exact h e (List.mem_filter.2 ⟨he, by simp [hb]⟩)

theorem regN_append {call : CallT} {lo : Nat} : ∀ {f g : List Op1} {s s' : St}, regN call mode lo (f ++ g) s = some s' → ∃ s1, regN call mode lo f s = some s1 ∧ regN call mode lo g s1 = some s'
  | [], g, s, s', h => ⟨s, rfl, h⟩
  | o :: f, g, s, s', h => by
    simp only [List.cons_append, regN] at h ⊢
    cases h1 : step1 call mode false lo (.top s.M.nx) s.M.nx o s with
    | none => rw [h1] at h; cases h
    | some s1 => rw [h1] at h; exact regN_append h
theorem regN_cons {call : CallT} {lo : Nat} {o : Op1} {r : List Op1} {s s' : St} (hg : o.g = none) (h : regN call mode lo (o :: r) s = some s') :
    ∃ v M1, istep call mode false lo (.top s.M.nx) s.M.nx o.i s.ρ s.M = some (v, M1) ∧ regN call mode lo r ⟨setO s.ρ o.dst v, M1⟩ = some s' := by
  simp only [regN, step1, hg, want] at h
  cases hi : istep call mode false lo (.top s.M.nx) s.M.nx o.i s.ρ s.M with
  | none => rw [hi] at h; cases h
  | some p => rw [hi] at h; exact ⟨p.1, p.2, rfl, h⟩

theorem chks_inv {call : CallT} {lo d : Nat} {q : ChA} {s s' : St} {idw o6 : Nat} {v : AV} (hwd : q.w < d) (hxd : q.x < d) (h : regN call mode lo (chks d q) s = some s') (h1 : ev s.ρ (.t (d + 22)) = .ptr idw o6) (h2 : ev s.ρ (.t (d + 20)) = v) (hv : v.cells = [v]) :
    s'.ρ.length = s.ρ.length ∧ (∀ r, r ≠ d → s'.ρ.getD r .undef = s.ρ.getD r .undef) ∧ s'.M.nx = s.M.nx ∧ (∃ t cs, s.M.mem idw = some (.cells t cs) ∧ s'.M.mem = upd s.M.mem idw (some (.cells t (setAt cs o6 [v])))) ∧
      ∀ idx ox, ev s.ρ (.t q.x) = .ptr idx ox → idx ≠ idw ∧ s.M.mem idx ≠ none := by
  unfold chks at h
  obtain ⟨v0, M0, e0, g0⟩ := regN_cons rfl h
  obtain ⟨v1, M1, e1, g1⟩ := regN_cons rfl g0
  simp only [regN, Option.some.injEq] at g1; subst g1
  simp only [setO] at e1 ⊢
  have e0' : M0 = s.M ∧ ∀ idx ox, ev s.ρ (.t q.x) = .ptr idx ox → s.M.mem idx ≠ none := by
    simp only [istep] at e0
    split at e0
    · rename_i id off hX
      split at e0
      · rename_i t cs hlk
        split at e0
        · simp only [Option.some.injEq, Prod.mk.injEq] at e0
          refine ⟨e0.2.symm, fun idx ox e => ?_⟩
          rw [hX] at e; injection e with e1 e2; subst e1
          rw [(look_some hlk).1]; simp
        · cases e0
      · cases e0
    · rename_i dsx hX
      split at e0
      · simp only [Option.some.injEq, Prod.mk.injEq] at e0
        exact ⟨e0.2.symm, fun idx ox e => by rw [hX] at e; cases e⟩
      · cases e0
    · cases e0
  obtain ⟨rfl, hx⟩ := e0'
  simp (disch := first | omega | (simp only [List.length_set]; omega)) only [istep, ev_ne, List.map_cons, List.map_nil, h1, h2] at e1
  split at e1
  · rename_i hok
    split at e1
    · rename_i t cs hlk
      split at e1
      · simp only [Option.some.injEq, Prod.mk.injEq] at e1
        obtain ⟨rfl, rfl⟩ := e1
        refine ⟨by simp, fun r hr => by rw [getD_set, if_neg (fun h => hr h.1.symm)], rfl, ⟨t, cs, (look_some hlk).1, by rw [hv]; rfl⟩, fun idx ox e => ⟨fun he => ?_, hx idx ox e⟩⟩
        subst he
        simp [okStr, e, idOf] at hok
      · cases e1
    · cases e1
  · cases e1

theorem setAt_twice {cs : List AV} {o : Nat} {v : AV} (h : o < cs.length) : setAt (setAt cs o [v]) o [v] = setAt cs o [v] := by
  have h1 : (cs.take o).length = o := by simp; omega
  simp only [setAt, List.length_cons, List.length_nil, Nat.zero_add]
  rw [show (cs.take o ++ [v] ++ cs.drop (o + 1)).drop (o + 1) = cs.drop (o + 1) from List.drop_left' (by simp; omega)]
  rw [show (cs.take o ++ [v] ++ cs.drop (o + 1)).take o = cs.take o from by rw [List.append_assoc]; exact List.take_left' h1]
theorem chK_inv {call : CallT} {lo nl d : Nat} {q : ChA} {μ : Nat → Nat × Bool} {s s' : St} {ex : Ex} {c : Cx} (hz1 : q.z1.length = q.sz) (hsz : 0 < q.sz) (hwd : q.w < d) (hxd : q.x < d) (hS : Sim lo s.M c)
    (he : exec call mode lo nl (chK d q (outL d q μ)) s = some (ex, s')) :
    ex = .normal ∧ d + 22 < s.ρ.length ∧ s'.ρ.length = s.ρ.length ∧ (∀ r, ¬ (d ≤ r ∧ r < d + 23) → s'.ρ.getD r .undef = s.ρ.getD r .undef) ∧ s'.M.nx = s.M.nx + 34 ∧
      ∃ (M' : MM) (F : ChF lo s.ρ ⟨s.M.nx + 34, s.M.mem⟩ q (s.M.nx + 23) M' μ), s'.M.mem = M'.mem ∧ ∀ idx ox, ev s.ρ (.t q.x) = .ptr idx ox → idx ≠ F.idw ∧ F.kill ≠ some idx := by
  have hnew : ∀ i, s.M.nx ≤ i → s.M.mem i = none := fun i hi => by
    cases h : s.M.mem i with
    | none => rfl
    | some B => exact absurd (hS.nx i (hS.dom i (by rw [h]; simp))) (by omega)
  have hul : (unds d).length = 23 := by simp [unds]
  simp only [chK, exec, und_regD, Option.map_some, hul] at he
  rw [show ((outL d q μ).map toW).length = 11 from rfl] at he
  cases h2 : regD call mode lo (s.M.nx + 23) 11 ((outL d q μ).map toW) 0 ⟨und d s.ρ, ⟨s.M.nx + 23 + 11, s.M.mem⟩⟩ with
  | none => rw [h2] at he; simp at he
  | some s2 =>
    rw [h2] at he
    simp only [Option.map_some] at he
    cases h3 : regN call mode lo (chks d q ++ unds d) s2 with
    | none => rw [h3] at he; simp at he
    | some s3 =>
      rw [h3] at he
      simp only [Option.map_some, Option.some.injEq, Prod.mk.injEq] at he
      obtain ⟨rfl, rfl⟩ := he
      obtain ⟨i1, i2, i3, F, i4, i5⟩ := ch_inv (M := ⟨s.M.nx + 23 + 11, s.M.mem⟩) hz1 hsz hwd hxd (Nat.le_refl _) (fun i hi => hnew i (by omega)) h2
      obtain ⟨s4, h4, h5⟩ := regN_append h3
      rw [und_regN, Option.some.injEq] at h5; subst h5
      obtain ⟨j1, j2, j3, ⟨t, cs, j4, j5⟩, j6⟩ := chks_inv hwd hxd h4 i4 i5 rfl
      rw [und_len] at i1 i2
      have hget : ∀ r, ¬ (d ≤ r ∧ r < d + 23) → (und d s.ρ).getD r .undef = s.ρ.getD r .undef := fun r hr => by rw [und_get, if_neg hr]
      have hWu : ev (und d s.ρ) (.t q.w) = ev s.ρ (.t q.w) := hget _ (by omega)
      have hXu : ev (und d s.ρ) (.t q.x) = ev s.ρ (.t q.x) := hget _ (by omega)
      refine ⟨rfl, i1, by rw [und_len, j1, i2], fun r hr => ?_, by rw [j3, F.nx], s2.M, ⟨F.idw, F.ow, F.tw, F.csw, F.pv, F.xs, F.ds, F.len, F.olds, F.kill, by rw [← hWu]; exact F.hw, F.hm, F.hp, F.hlo, F.l4, F.l10, by have := F.hx; rw [hXu] at this; exact this, F.hd, F.hap, F.nx, F.mem⟩, ?_, fun idx ox e => ?_⟩
      · rw [und_get, if_neg hr, j2 r (by omega), i3 r hr, hget r hr]
      · have hcell : s2.M.mem F.idw = some (.cells F.tw (setAt F.csw (F.ow + q.off) [.os (s.M.nx + 23 + 7) 0 (F.len + 1) q.sz])) := by rw [F.mem]; simp [chMem]
        rw [hcell] at j4
        simp only [Option.some.injEq, Blk.cells.injEq] at j4
        obtain ⟨j4, j4'⟩ := j4
        subst j4 j4'
        rw [setAt_twice (List.getElem?_eq_some_iff.1 F.hp).1] at j5
        show s4.M.mem = s2.M.mem
        rw [j5]; funext i
        simp only [upd]
        split
        · rename_i hi; subst hi; exact hcell.symm
        · rfl
      · have hx2 : ev s2.ρ (.t q.x) = .ptr idx ox := by
          have : ev s2.ρ (.t q.x) = ev (und d s.ρ) (.t q.x) := i3 _ (by omega)
          rw [this, hXu, e]
        obtain ⟨k1, k2⟩ := j6 idx ox hx2
        refine ⟨k1, fun hk => k2 ?_⟩
        have hm : s.M.mem idx ≠ none := by
          rcases F.hx with ⟨idx', ox', tx, csx, h1, h2, _⟩ | ⟨dsx, h1, _⟩
          · rw [hXu, e] at h1; injection h1 with h1 h1'; subst h1; have h2 : s.M.mem idx = _ := h2; rw [h2]; simp
          · rw [hXu, e] at h1; cases h1
        have h7 : idx ≠ s.M.nx + 23 + 7 := fun h => hm (hnew _ (by omega))
        rw [F.mem]
        simp only [chMem, if_neg k1, if_neg h7]
        exact if_pos hk
theorem weak_ch {lo : Nat} {c : Cx} {M M' : MM} {idw : Nat} {tw e : TypeId} {csw : List AV} {kill : Option Nat} {olds xs zs : List AV} {ds : List D} {b6 b7 : Nat} {m : Mem} (hd : xs.mapM toD = some ds) (hS : Sim lo M c) (hnx : M.nx ≤ M'.nx) (h67 : b6 ≠ b7) (h6w : b6 ≠ idw) (hm6 : m b6 = none)
    (hM : M.mem = fun i => if i = b6 then some (.cells e zs) else chMem m idw tw csw kill e (olds ++ xs) b7 i) (hM' : M'.mem = chMem m idw tw csw kill e (olds ++ ds.map .d) b7) : Sim lo M' c := by
  refine hS.weak hnx fun i => ?_
  have hl := (mapM_get hd).1
  rw [hM, hM']
  simp only
  by_cases h1 : i = b6
  · subst h1
    left
    simp only [chMem, if_neg h6w, if_neg h67, hm6, ite_self]
  · right
    rw [if_neg h1]
    by_cases h2 : i = idw
    · left; simp only [chMem, if_pos h2]
    · by_cases h3 : i = b7
      · right
        refine ⟨e, olds ++ xs, olds ++ ds.map .d, by simp only [chMem, if_neg h2, if_pos h3], by simp only [chMem, if_neg h2, if_pos h3], by simp [hl], fun j x x' hx hx' v r => ?_⟩
        by_cases hj : j < olds.length
        · rw [List.getElem?_append_left hj] at hx hx'
          rw [hx] at hx'; injection hx' with hx'; subst hx'; exact r
        · rw [List.getElem?_append_right (by omega)] at hx hx'
          obtain ⟨hj1, rfl⟩ := List.getElem?_eq_some_iff.1 hx
          rw [List.getElem?_map, List.getElem?_eq_getElem (by omega)] at hx'
          simp only [Option.map_some, Option.some.injEq] at hx'; subst hx'
          exact toD_weak ((mapM_get hd).2 _ hj1 (by omega)) v r
      · left; simp only [chMem, if_neg h2, if_neg h3]

theorem undOf_unds (d : Nat) : undOf (unds d) = some d := rfl
theorem chK_ds {ds : List Nat} {d : Nat} {q : ChA} {μ : Nat → Nat × Bool} (hwd : q.w < d) (hxd : q.x < d) (hok : okD ds (chK d q (outL d q μ)) = true) : inD ds q.w = false ∧ inD ds q.x = false := by
  have h : ((outL d q μ).map toW).all (fun o => o.reads.all fun r => !inD (ds.filter (fun e => !Nat.beq e d)) r) = true := hok
  rw [List.all_eq_true] at h
  refine ⟨inD_filter hwd ?_, inD_filter hxd ?_⟩
  · have := h ⟨some (d + 13), none, .mov (.t q.w), (μ 0).1, (μ 0).2⟩ (by simp [outL, toW])
    simpa [Op1.reads, I.slots, X.slots] using this
  · have := h ⟨some (d + 18), none, .ldn q.sz (.t q.x), (μ 5).1, (μ 5).2⟩ (by simp [outL, toW])
    simpa [Op1.reads, I.slots, X.slots] using this

theorem Aft.lift {M N M' : MM} {c c' : Cx} (h : Aft N c M' c') (h1 : M.nx ≤ N.nx) (h2 : N.nx ≤ M'.nx) : Aft M c M' c' := ⟨h.ext, Nat.le_trans h1 h2, fun id hs => by
  rcases h.ids id hs with h | h
  · exact .inl h
  · exact .inr (by omega)⟩

theorem sim_chK {call : CallT} (hcall : CallOK P call) {os : List TypeId} {hs : List Hint} {lo nl : Nat} {ds : List Nat} {d : Nat} {q : ChA} {μ μ3 μ4 : Nat → Nat × Bool} {z1 z2 zs : List AV} {i2 i3 i4 i5 : Nat} {r2 r3 r4 r5 : Array Oper} {c2 : List Op1}
    (hz1 : q.z1.length = q.sz) (hsz : 0 < q.sz) (hwd : q.w < d) (hxd : q.x < d) (g1 : z1.length = q.sz) (g2 : z2.length = q.z2.length) (g3 : zs.length = q.sz) (g4 : zs.all AV.one = true)
    (hc2 : r2.toList.mapM (compOper P os r2) = some c2) (hM2 : chM2 c2 = some d) (hE : chE r2.toList = true) (hf : (P.follows .mixedOrders || !Region.departs r2) = true)
    (hc3 : r3.toList.mapM (compOper P os r3) = some (inL3 d q z1 z2 zs μ3)) (hc4 : r4.toList.mapM (compOper P os r4) = some (inL4 d q μ4)) (hreg : compReg P mode os hs i5 r5 true = some (.drg (outL d q μ)))
    (hok : okD ds (chK d q (outL d q μ)) = true) (hdm : d ∈ ds) {s s' : St} {ex : Ex} {a : Act} {c : Cx} {Q : Exit → Act → World → Prop}
    (he : exec call mode lo nl (chK d q (outL d q μ)) s = some (ex, s')) (hS : SimSD ds lo s a c) (hlo : lo ≤ s.M.nx) (hQ : ∀ a' c', SimSD ds lo s' a' c' → Aft s.M c s'.M c' → Q (conc ex) a' c'.w) :
    (Code.seq (.region i2 r2 true) (.cond (.tmp (d + 1)) (.seq (.region i3 r3 false) (.region i4 r4 false)) (.region i5 r5 true))).wp P Q a c.w := by
  obtain ⟨ρ, hag, hS⟩ := hS
  obtain ⟨hex, hlen, hl', hoff, hnx', M', F, hmem, hap⟩ := chK_inv (s := s) (c := c) hz1 hsz hwd hxd hS.sim he
  subst hex
  obtain ⟨hwD, hxD⟩ := chK_ds hwd hxd hok
  have hρl : ρ.length = s.ρ.length := hag.len
  have hρw : ρ.getD q.w .undef = s.ρ.getD q.w .undef := hag.eq _ hwD
  have hρx : ρ.getD q.x .undef = s.ρ.getD q.x .undef := hag.eq _ hxD
  have hnew : ∀ i, s.M.nx ≤ i → s.M.mem i = none := fun i hi => by
    cases h : s.M.mem i with
    | none => rfl
    | some B => exact absurd (hS.sim.nx i (hS.sim.dom i (by rw [h]; simp))) (by show ¬ i < s.M.nx; omega)
  have hwb : F.idw < s.M.nx := by
    apply Decidable.byContradiction; intro hn
    have := F.hm; have h2 := hnew F.idw (by omega)
    rw [show s.M.mem F.idw = _ from this] at h2; cases h2
  refine wp_seq (sim_ch2 mode hcall hc2 hM2 hE hf (ρ := ρ) (M := s.M) (by omega) hS hlo fun a1 c1 b hS1 ha1 => ?_)
  have rx := ev_rel hS1.fr (o := .tmp (d + 1)) (x := .t (d + 1)) rfl
  rw [ev_at (by simp; omega)] at rx
  have hgo : ∀ r, ¬ (d ≤ r ∧ r < d + 23) → ((ρ.set d (.ptr s.M.nx 0)).set (d + 1) (.bool b)).getD r .undef = ρ.getD r .undef := fun r hr => by
    simp only [getD_set]; rw [if_neg (by omega), if_neg (by omega)]
  -- what comes out, from either way
  have fin : ∀ (t : St) (a' : Act) (c' : Cx) (zz : List AV), SimS lo t a' c' → t.ρ.length = ρ.length → (∀ r, ¬ (d ≤ r ∧ r < d + 23) → t.ρ.getD r .undef = ρ.getD r .undef) → t.M.nx ≤ s.M.nx + 34 →
      (t.M.mem = fun i => if i = s.M.nx + 23 + 6 then some (.cells q.e zz) else chMem s.M.mem F.idw F.tw (setAt F.csw (F.ow + q.off) [.os (s.M.nx + 23 + 7) 0 (F.len + 1) q.sz]) F.kill q.e (F.olds ++ F.xs) (s.M.nx + 23 + 7) i) →
      Aft s.M c t.M c' → Q (conc .normal) a' c'.w := by
    intro t a' c' zz hSt htl htg htn htm hat
    have hw : Sim lo s'.M c' := weak_ch F.hd hSt.sim (by omega) (by omega) (by omega) (hnew _ (by omega)) htm (by rw [hmem]; exact F.mem)
    refine hQ a' c' ⟨t.ρ, ⟨rfl, by show t.ρ.length = s'.ρ.length; omega, fun r hr => ?_⟩, ⟨hw, hSt.fr, hSt.df⟩⟩ ⟨hat.ext, by omega, hat.ids⟩
    have hrd := inD_mem hdm hr
    show t.ρ.getD r .undef = s'.ρ.getD r .undef
    rw [htg r hrd, hoff r hrd, hag.eq r hr]
  cases b with
  | true =>
    refine wp_cond (t := true) rx.bool_inv ?_
    obtain ⟨s3, s4, r3', r4', n3, l4, k4, n4, m4⟩ := chA_fwd (call := call) (mode := mode) (lo := lo) (base := s.M.nx + 23) (d := d) (μ3 := μ3) (μ4 := μ4) (ρ2 := (ρ.set d (.ptr s.M.nx 0)).set (d + 1) (.bool true)) (M := ⟨s.M.nx + 34, s.M.mem⟩) g1 g2 g3 g4 hsz hxd
      (fun i hi => hnew i (by omega)) (by omega) (by simp; omega) ((hgo _ (by omega)).trans hρw) ((hgo _ (by omega)).trans hρx) F hap
    have hS1' : SimS lo ⟨(ρ.set d (.ptr s.M.nx 0)).set (d + 1) (.bool true), ⟨s.M.nx + 23 + 6, s.M.mem⟩⟩ a1 c1 := ⟨hS1.sim.weak (by show s.M.nx + 4 ≤ s.M.nx + 23 + 6; omega) (fun _ => .inr (.inl rfl)), hS1.fr, hS1.df⟩
    refine wp_seq (wp_region_list (sim_list hcall r3.toList _ _ s3 a1 c1 hc3 r3' hS1' (by show lo ≤ s.M.nx + 23 + 6; omega) (fun a2 c2 hS2 ha2 => ?_)))
    refine wp_region_list (sim_list hcall r4.toList _ s3 s4 a2 c2 hc4 r4' hS2 (by omega) (fun a3 c3 hS3 ha3 => ?_))
    refine fin s4 a3 c3 zs hS3 (by rw [l4]; simp) (fun r hr => (k4 r hr).trans (hgo r hr)) (by omega) m4 ?_
    have h1 : Aft (⟨s.M.nx + 23 + 6, s.M.mem⟩ : MM) c1 s4.M c3 := ha2.trans ha3
    exact ha1.trans (h1.lift (M := ⟨s.M.nx + 4, s.M.mem⟩) (by show s.M.nx + 4 ≤ s.M.nx + 23 + 6; omega) h1.nx)
  | false =>
    refine wp_cond (t := false) rx.bool_inv ?_
    obtain ⟨sB, rB, lB, kB, nB, mB⟩ := ch_fwd (call := call) (mode := mode) (lo := lo) (base := s.M.nx + 23) (d := d) (μ := μ) (ρ2 := (ρ.set d (.ptr s.M.nx 0)).set (d + 1) (.bool false)) (M := ⟨s.M.nx + 34, s.M.mem⟩) hz1 hsz hwd hxd
      (Nat.le_refl _) (fun i hi => hnew i (by omega)) (by simp; omega) ((hgo _ (by omega)).trans hρw) ((hgo _ (by omega)).trans hρx) F
    have hS1' : SimS lo ⟨(ρ.set d (.ptr s.M.nx 0)).set (d + 1) (.bool false), ⟨s.M.nx + 23, s.M.mem⟩⟩ a1 c1 := ⟨hS1.sim.weak (by show s.M.nx + 4 ≤ s.M.nx + 23; omega) (fun _ => .inr (.inl rfl)), hS1.fr, hS1.df⟩
    refine sim_reg (nl := nl) hcall hreg (s' := sB) (ex := .normal) (by simp only [exec]; rw [show (outL d q μ).length = 11 from rfl, rB]; rfl) hS1' (by show lo ≤ s.M.nx + 23; omega) (fun a2 c2 hS2 ha2 => ?_)
    refine fin sB a2 c2 F.xs hS2 (by rw [lB]; simp) (fun r hr => (kB r hr).trans (hgo r hr)) (by rw [nB]; exact Nat.le_refl _) mB ?_
    exact ha1.trans (ha2.lift (M := ⟨s.M.nx + 4, s.M.mem⟩) (by show s.M.nx + 4 ≤ s.M.nx + 23; omega) ha2.nx)
theorem sim_ch {call : CallT} (hcall : CallOK P call) {os : List TypeId} {hs : List Hint} {lo nl : Nat} {x y : Code} {k : K} {ds : List Nat} (hz : chz P mode os hs x y = some k) (hok : okD ds k = true) (hsub : ∀ d ∈ chsOf k, d ∈ ds) {s s' : St} {ex : Ex} {a : Act} {c : Cx} {Q : Exit → Act → World → Prop}
    (he : exec call mode lo nl k s = some (ex, s')) (hS : SimSD ds lo s a c) (hlo : lo ≤ s.M.nx) (hQ : ∀ a' c', SimSD ds lo s' a' c' → Aft s.M c s'.M c' → Q (conc ex) a' c'.w) : (Code.seq x y).wp P Q a c.w := by
  unfold chz at hz
  split at hz
  · split at hz
    · rename_i c2 c3 c4 c5 hc2 hc3 hc4 hc5
      split at hz
      · rename_i d hM2
        split at hz
        · rename_i q out hM5 hreg
          split at hz
          · rename_i hc
            obtain ⟨hd1, hM3, hM4, hE, hf⟩ := hc
            subst hd1
            simp only [Option.some.injEq] at hz
            have hreg' := hreg
            unfold compReg at hreg'
            rw [hc5] at hreg'
            simp only [if_true] at hreg'
            split at hreg'
            · obtain ⟨out', hgo, hkk⟩ := Option.map_eq_some_iff.1 hreg'
              simp only [K.drg.injEq] at hkk; subst hkk
              have hfo := free_of_check hgo
              obtain ⟨⟨μ, hμ⟩, hz1, hsz, hwd, hxd⟩ := chM5_out hM5 hfo.1 hfo.2.1
              obtain ⟨z1, z2, zs, μ3, h3, g1, g2, g3, g4⟩ := chM3_in hM3
              obtain ⟨μ4, h4⟩ := chM4_in hM4
              subst hz hμ h3 h4
              exact sim_chK hcall hz1 hsz hwd hxd g1 g2 g3 g4 hc2 hM2 hE hf hc3 hc4 hreg hok (hsub d (by show d ∈ chsOf (.block 1000000007 _); simp only [chsOf, if_true, chOf, undOf_unds]; simp)) he hS hlo hQ
            · cases hreg'
          · cases hz
        · cases hz
      · cases hz
    · cases hz
  · cases hz

theorem SimSD.of {ds : List Nat} {lo : Nat} {s : St} {a : Act} {c : Cx} (h : SimS lo s a c) : SimSD ds lo s a c := ⟨s.ρ, .refl ds s, h⟩

theorem sim_regD {call : CallT} (hcall : CallOK P call) {os : List TypeId} {hs : List Hint} {lo nl : Nat} {id : Nat} {ops : Array Oper} {draw : Bool} {k : K} {ds : List Nat} (hc : compReg P mode os hs id ops draw = some k) (hok : okD ds k = true) {s s' : St} {ex : Ex} {a : Act} {c : Cx} {Q : Exit → Act → World → Prop}
    (he : exec call mode lo nl k s = some (ex, s')) (hS : SimSD ds lo s a c) (hlo : lo ≤ s.M.nx) (hQ : ∀ a' c', SimSD ds lo s' a' c' → Aft s.M c s'.M c' → Q (conc ex) a' c'.w) : (Code.region id ops draw).wp P Q a c.w := by
  obtain ⟨ρ, hag, hS⟩ := hS
  have key : ∃ t, exec call mode lo nl k ⟨ρ, s.M⟩ = some (ex, t) ∧ Ag ds s' t := by
    have hk : (∃ l, k = .reg l) ∨ ∃ l, k = .drg l := by
      unfold compReg at hc
      split at hc
      · split at hc
        · split at hc
          · obtain ⟨l, _, rfl⟩ := Option.map_eq_some_iff.1 hc; exact .inr ⟨l, rfl⟩
          · cases hc
        · simp only [Option.some.injEq] at hc; exact .inl ⟨_, hc.symm⟩
      · cases hc
    rcases hk with ⟨l, rfl⟩ | ⟨l, rfl⟩
    · simp only [exec] at he ⊢
      obtain ⟨s1, h1, h2⟩ := Option.map_eq_some_iff.1 he
      simp only [Prod.mk.injEq] at h2
      obtain ⟨h2, h3⟩ := h2
      subst h2 h3
      obtain ⟨t, g1, g2⟩ := ag_regN (ds := ds) hok hag h1
      exact ⟨t, by rw [g1]; rfl, g2⟩
    · simp only [exec] at he ⊢
      obtain ⟨s1, h1, h2⟩ := Option.map_eq_some_iff.1 he
      simp only [Prod.mk.injEq] at h2
      obtain ⟨h2, h3⟩ := h2
      subst h2 h3
      have hag' : Ag ds ⟨s.ρ, ⟨s.M.nx + l.length, s.M.mem⟩⟩ ⟨ρ, ⟨s.M.nx + l.length, s.M.mem⟩⟩ := ⟨rfl, hag.len, hag.eq⟩
      obtain ⟨t, g1, g2⟩ := ag_regD (ds := ds) hok hag' h1
      exact ⟨t, by rw [g1]; rfl, g2⟩
  obtain ⟨t, h1, h2⟩ := key
  have hM := h2.M
  refine sim_reg hcall hc h1 hS hlo fun a' c' hS' ha => ?_
  refine hQ a' c' ⟨t.ρ, ⟨rfl, h2.len, h2.eq⟩, ⟨by have := hS'.sim; rw [hM] at this; exact this, hS'.fr, hS'.df⟩⟩ (by have := ha; rw [hM] at this; exact this)
end
end Go.Proofs.Ytegkhdflmboljaa.Sx
