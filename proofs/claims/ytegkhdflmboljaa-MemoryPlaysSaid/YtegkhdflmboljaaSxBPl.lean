/-
  SX, PART B: SLICES AS VALUES: what the machine with tokens looks like where the tokens are forgotten: 'vv'; the operations without memory.
-/
import Derived.Test.YtegkhdflmboljaaSxKPl
namespace Go.Proofs.Ytegkhdflmboljaa.Sx
open Go
set_option linter.unusedSimpArgs false

def nrmV : Value → D
  | .slice none 0 0 => .sl [] 0
  | x => .v x

mutual
def nrm : D → D
  | .v x => nrmV x
  | .sl cs n => .sl (nrms cs) n
def nrms : List D → List D
  | [] => []
  | x :: r => nrm x :: nrms r
end

mutual
/-- A value without tokens; a slice that is nil is one with nothing in it. -/
def vv : AV → AV
  | .d x => .d (nrm x)
  | .ptr a b => .ptr a b
  | .ip cs => .ip (nrms cs)
  | .os a b c d => .os a b c d
  | .ov _ cs n _ => .d (.sl (nrms cs) n)
  | .mp a => .mp a
  | .fn f as bs => .fn f (vvs as) (vvs bs)
  | .agg cs => .agg (vvs cs)
  | .tup cs => .tup (vvs cs)
def vvs : List AV → List AV
  | [] => []
  | x :: r => vv x :: vvs r
end

theorem nrms_eq : ∀ l : List D, nrms l = l.map nrm
  | [] => rfl
  | x :: r => by simp only [nrms, nrms_eq r, List.map_cons]
theorem vvs_eq : ∀ l : List AV, vvs l = l.map vv
  | [] => rfl
  | x :: r => by simp only [vvs, vvs_eq r, List.map_cons]

theorem nrmV_cases (v : Value) : nrmV v = .v v ∨ (v = .slice none 0 0 ∧ nrmV v = .sl [] 0) := by
  unfold nrmV
  split
  · exact .inr ⟨rfl, rfl⟩
  · exact .inl rfl

theorem nrms_len (l : List D) : (nrms l).length = l.length := by rw [nrms_eq]; simp
theorem vvs_len (l : List AV) : (vvs l).length = l.length := by rw [vvs_eq]; simp
theorem vvs_append (a b : List AV) : vvs (a ++ b) = vvs a ++ vvs b := by simp only [vvs_eq, List.map_append]
theorem vvs_get (l : List AV) (i : Nat) : (vvs l)[i]? = (l[i]?).map vv := by rw [vvs_eq, List.getElem?_map]
theorem vvs_take (l : List AV) (i : Nat) : vvs (l.take i) = (vvs l).take i := by simp only [vvs_eq, List.map_take]
theorem vvs_drop (l : List AV) (i : Nat) : vvs (l.drop i) = (vvs l).drop i := by simp only [vvs_eq, List.map_drop]
theorem nrms_take (l : List D) (i : Nat) : nrms (l.take i) = (nrms l).take i := by simp only [nrms_eq, List.map_take]
theorem nrms_drop (l : List D) (i : Nat) : nrms (l.drop i) = (nrms l).drop i := by simp only [nrms_eq, List.map_drop]
theorem nrms_append (a b : List D) : nrms (a ++ b) = nrms a ++ nrms b := by simp only [nrms_eq, List.map_append]
theorem vvs_d (l : List D) : vvs (l.map .d) = (nrms l).map .d := by
  simp only [vvs_eq, nrms_eq, List.map_map]; apply List.map_congr_left; intro x _; rfl
theorem vvs_flatten (l : List (List AV)) : vvs l.flatten = (l.map vvs).flatten := by
  rw [vvs_eq, List.map_flatten]; congr 1; apply List.map_congr_left; intro x _; rw [vvs_eq]
theorem vvs_set (l : List AV) (i : Nat) (a : AV) : vvs (l.set i a) = (vvs l).set i (vv a) := by simp only [vvs_eq, List.map_set]
theorem vv_undef : vv .undef = .undef := rfl

theorem vv_v {v : Value} (h : v ≠ .slice none 0 0) : vv (.d (.v v)) = .d (.v v) := by
  rcases nrmV_cases v with e | ⟨e, _⟩
  · simp only [vv, nrm, e]
  · exact absurd e h

theorem vv_cells (x : AV) : (vv x).cells = vvs x.cells := by cases x <;> simp [vv, AV.cells, vvs]
theorem vv_one (x : AV) : (vv x).one = x.one := by cases x <;> rfl
theorem vvs_one (l : List AV) : (vvs l).all AV.one = l.all AV.one := by
  rw [vvs_eq, List.all_map]; congr 1; funext x; exact vv_one x

theorem vv_asI (x : AV) : asI (vv x) = asI x := by
  cases x with
  | d d => cases d with
    | sl cs n => rfl
    | v v =>
      rcases nrmV_cases v with e | ⟨rfl, e⟩
      · simp only [vv, nrm, e]
      · rfl
  | _ => rfl

theorem toD_vv (x : AV) : toD (vv x) = (toD x).map nrm := by cases x <;> rfl
theorem mapM_map_opt {α β γ δ : Type} (f : α → Option β) (g : γ → Option δ) (a : γ → α) (b : δ → β) (h : ∀ x, f (a x) = (g x).map b) : ∀ l : List γ, (l.map a).mapM f = (l.mapM g).map (List.map b)
  | [] => rfl
  | x :: l => by
    simp only [List.map_cons, List.mapM_cons, h, mapM_map_opt f g a b h l, Option.pure_def, Option.bind_eq_bind]
    cases g x with
    | none => rfl
    | some y => cases l.mapM g <;> rfl
theorem toDs_vv (l : List AV) : (vvs l).mapM toD = (l.mapM toD).map nrms := by
  rw [vvs_eq, mapM_map_opt toD toD vv nrm toD_vv]; congr 1; funext x; rw [nrms_eq]

/-! ### Memory -/
def vmB : Blk → Option Blk
  | .cells t cs => some (.cells t (vvs cs))
  | .map kk es => some (.map kk (es.map fun e => (e.1, vv e.2)))
  | .siter s p => some (.siter s p)
  | .tok _ _ => none

def vmem (m : Mem) : Mem := fun id => (m id).bind vmB
def vm (M : MM) : MM := ⟨M.nx, vmem M.mem⟩

theorem look_vm (m : Mem) (lim : Lm) : look (vmem m) lim = vmem (look m lim) := by
  funext id
  simp only [look, vmem]
  split <;> rfl

theorem vmem_upd (m : Mem) (i : Nat) (b : Blk) : vmem (upd m i (some b)) = upd (vmem m) i (vmB b) := by
  funext k
  simp only [vmem, upd]
  split <;> rfl

/-! ### Code -/
def vX : X → X
  | .t i => .t i
  | .k a => .k (vv a)

def vP (ps : List (Nat × Nat × X)) : List (Nat × Nat × X) := ps.map fun p => (p.1, p.2.1, vX p.2.2)

def vI (no : List FuncId) : I → I
  | .mov x => .mov (vX x)
  | .pick c a b => .pick (vX c) (vX a) (vX b)
  | .new t cs => .new t (vvs cs)
  | .box t x => .box t (vX x)
  | .mk z ps => .mk (vvs z) (vP ps)
  | .mksl t n sz z ps => .mksl t n sz (vvs z) (vP ps)
  | .ld1 a => .ld1 (vX a)
  | .ldn n a => .ldn n (vX a)
  | .st n a x => .st n (vX a) (vX x)
  | .nilc x => .nilc (vX x)
  | .bin op e x y => .bin op e (vX x) (vX y)
  | .un op x => .un op (vX x)
  | .cvi k x => .cvi k (vX x)
  | .cvs x => .cvs (vX x)
  | .b2s x => .b2s (vX x)
  | .mkf f as bs => .mkf f (as.map vX) (bs.map vX)
  | .mkmap kk => .mkmap kk
  | .mkslice t sz b z l c => .mkslice t sz b (vvs z) (vX l) (vX c)
  | .slstr x lo hi => .slstr (vX x) (lo.map vX) (hi.map vX)
  | .slsl sz x lo hi => .slsl sz (vX x) (lo.map vX) (hi.map vX)
  | .fad o x => .fad o (vX x)
  | .fld o n g x => .fld o n g (vX x)
  | .ixs sz x i => .ixs sz (vX x) (vX i)
  | .ixp sz l x i => .ixp sz l (vX x) (vX i)
  | .ixv sz l g x i => .ixv sz l g (vX x) (vX i)
  | .ixc x i => .ixc (vX x) (vX i)
  | .lkp kk cm z m k => .lkp kk cm (vv z) (vX m) (vX k)
  | .mset kk m k x => .mset kk (vX m) (vX k) (vX x)
  | .mdel kk m k => .mdel kk (vX m) (vX k)
  | .ext x i => .ext (vX x) i
  | .tk x i => .tk (vX x) i
  | .lens x => .lens (vX x)
  | .len x => .len (vX x)
  | .lenm x => .lenm (vX x)
  | .mmax mx x y => .mmax mx (vX x) (vX y)
  | .app t sz b z s x => .app t sz b (vvs z) (vX s) (vX x)
  | .appn _ _ _ _ _ => .bad
  | .vsl _ n _ z ps => .wsl n (vvs z) (vP ps)
  | .wsl n z ps => .wsl n (vvs z) (vP ps)
  | .vmk _ _ b z l c => .wmk b (vvs z) (vX l) (vX c)
  | .vapp _ sz b z s x => if z.length = sz then .wapp sz b (vX s) (vX x) else .bad
  | .vext _ sz b z s x => .wext sz b (vvs z) (vX s) (vX x)
  | .call f as => .call f (as.map vX)
  | .callv x as => .callw no (vX x) (as.map vX)
  | .callw n x as => .callw (n ++ no) (vX x) (as.map vX)
  | .lnew cs => .lnew (vvs cs)
  | .lbox x => .lbox (vX x)
  | .setc o n l x => .setc o n (vX l) (vX x)
  | .ld1r r a => .ld1r (vX r) (vX a)
  | .ldnr n r a => .ldnr n (vX r) (vX a)
  | .callk f as rs => .callk f (as.map vX) (rs.map vX)
  | .str n r ns a x => .str n (vX r) (ns.map vX) (vX a) (vX x)
  | _ => .bad

theorem ev_vv (ρ : List AV) (x : X) : ev (vvs ρ) (vX x) = vv (ev ρ x) := by
  cases x with
  | k a => rfl
  | t i =>
    simp only [ev, vX, List.getD_eq_getElem?_getD, vvs_get]
    cases ρ[i]? <;> rfl
theorem evs_vv (ρ : List AV) (l : List X) : (l.map vX).map (ev (vvs ρ)) = vvs (l.map (ev ρ)) := by
  rw [vvs_eq (l.map (ev ρ)), List.map_map, List.map_map]; apply List.map_congr_left; intro x _; exact ev_vv ρ x
theorem hi_vv (ρ : List AV) (n : Nat) (x : Option X) : hiA n ((x.map vX).map (ev (vvs ρ))) = hiA n (x.map (ev ρ)) := by
  cases x with
  | none => rfl
  | some x => simp only [Option.map_some, hiA, ev_vv, vv_asI]
theorem lo_vv (ρ : List AV) (x : Option X) : loA ((x.map vX).map (ev (vvs ρ))) = loA (x.map (ev ρ)) := by
  cases x with
  | none => rfl
  | some x => simp only [Option.map_some, loA, ev_vv, vv_asI]

/-! ### The operations without memory -/
section
variable (x y z : AV)

theorem pickA_vv : pickA (vv x) (vv y) (vv z) = (pickA x y z).map vv := by
  cases x with
  | d d => cases d with
    | sl cs n => rfl
    | v v =>
      rcases nrmV_cases v with e | ⟨rfl, e⟩
      · simp only [vv, nrm, e]
        cases v <;> first | rfl | (rename_i b; cases b <;> rfl)
      · rfl
  | _ => rfl

theorem map_some_vv {o : Option Value} (h : ∀ v, o = some v → v ≠ .slice none 0 0) : o.map (fun v => AV.d (.v v)) = (o.map fun v => AV.d (.v v)).map vv := by
  cases o with
  | none => rfl
  | some v => simp only [Option.map_some, vv_v (h v rfl)]

theorem ibin_ne {op : BinOp} {k : IntKind} {a b : Int} {v : Value} (h : ibin op k a b = some v) : v ≠ .slice none 0 0 := by
  intro e; subst e; unfold ibin at h
  cases op <;> simp at h
theorem ishift_ne {op : BinOp} {k : IntKind} {a b : Int} {v : Value} (h : ishift op k a b = some v) : v ≠ .slice none 0 0 := by
  intro e; subst e; unfold ishift at h
  split at h
  · cases h
  · cases op <;> simp at h
theorem sbin_ne {op : BinOp} {a b : ByteArray} {v : Value} (h : sbin op a b = some v) : v ≠ .slice none 0 0 := by
  intro e; subst e; unfold sbin at h
  cases op <;> simp at h

def eqOp (op : BinOp) (o : Option Bool) : Option AV :=
  match op with
  | .eql => o.map fun b => .bool b
  | .neq => o.map fun b => .bool !b
  | _ => none

theorem eqk_vv (e : EK) : eqk e (vv x) (vv y) = eqk e x y := by
  cases x with
  | d d => cases d with
    | sl cs n => cases y with
      | d d' => cases d' with
        | sl cs' n' => cases e <;> rfl
        | v w => rcases nrmV_cases w with h | ⟨rfl, h⟩
                 · simp only [vv, nrm, h]; cases e <;> rfl
                 · cases e <;> rfl
      | _ => cases e <;> rfl
    | v v => rcases nrmV_cases v with h | ⟨rfl, h⟩
             · cases y with
               | d d' => cases d' with
                 | sl cs' n' => simp only [vv, nrm, h]; cases e <;> cases v <;> first | rfl | (rename_i q; cases q <;> rfl)
                 | v w => rcases nrmV_cases w with h' | ⟨rfl, h'⟩
                          · simp only [vv, nrm, h, h']
                          · simp only [vv, nrm, h, h']; cases e <;> cases v <;> first | rfl | (rename_i q; cases q <;> rfl)
               | _ => simp only [vv, nrm, h] <;> cases e <;> cases v <;> first | rfl | (rename_i q; cases q <;> rfl)
             · cases y with
               | d d' => cases d' with
                 | sl cs' n' => cases e <;> rfl
                 | v w => rcases nrmV_cases w with h' | ⟨rfl, h'⟩
                          · simp only [vv, nrm, h']; cases e <;> cases w <;> first | rfl | (rename_i q; cases q <;> rfl)
                          · cases e <;> rfl
               | _ => cases e <;> rfl
  | _ => cases y with
    | d d' => cases d' with
      | sl cs' n' => cases e <;> rfl
      | v w => rcases nrmV_cases w with h' | ⟨rfl, h'⟩
               · simp only [vv, nrm, h'] <;> (cases e <;> cases w <;> first | rfl | (rename_i q; cases q <;> rfl))
               · cases e <;> rfl
    | _ => cases e <;> rfl

theorem eqOp_map (op : BinOp) (o : Option Bool) : (eqOp op o).map vv = eqOp op o := by
  cases op <;> first | rfl | (cases o <;> rfl)

theorem binA_cases (op : BinOp) (e : EK) (x y : AV) : (∃ k a k' b, x = .int k a ∧ y = .int k' b) ∨ (∃ a b, x = .str a ∧ y = .str b) ∨ ((binA op e x y = eqOp op (eqk e x y)) ∧ ¬ (∃ k a k' b, x = .int k a ∧ y = .int k' b) ∧ ¬ (∃ a b, x = .str a ∧ y = .str b)) := by
  by_cases h1 : ∃ k a k' b, x = .int k a ∧ y = .int k' b
  · exact .inl h1
  · by_cases h2 : ∃ a b, x = .str a ∧ y = .str b
    · exact .inr (.inl h2)
    · refine .inr (.inr ⟨?_, h1, h2⟩)
      unfold binA eqOp
      split
      · exact absurd ⟨_, _, _, _, rfl, rfl⟩ h1
      · exact absurd ⟨_, _, rfl, rfl⟩ h2
      · rfl

theorem vv_int {x : AV} {k : IntKind} {a : Int} (h : vv x = .int k a) : x = .int k a := by
  cases x with
  | d d => cases d with
    | sl cs n => simp [vv, nrm] at h
    | v v =>
      rcases nrmV_cases v with e | ⟨rfl, e⟩
      · simpa only [vv, nrm, e] using h
      · simp [vv, nrm, e] at h
  | _ => simp [vv] at h
theorem vv_str {x : AV} {a : ByteArray} (h : vv x = .str a) : x = .str a := by
  cases x with
  | d d => cases d with
    | sl cs n => simp [vv, nrm] at h
    | v v =>
      rcases nrmV_cases v with e | ⟨rfl, e⟩
      · simpa only [vv, nrm, e] using h
      · simp [vv, nrm, e] at h
  | _ => simp [vv] at h

theorem binA_vv (op : BinOp) (e : EK) : binA op e (vv x) (vv y) = (binA op e x y).map vv := by
  rcases binA_cases op e x y with ⟨k, a, k', b, rfl, rfl⟩ | ⟨a, b, rfl, rfl⟩ | ⟨h, h1, h2⟩
  · simp only [vv, nrm, nrmV, binA]
    split
    · exact map_some_vv fun v h => ishift_ne h
    · split
      · exact map_some_vv fun v h => ibin_ne h
      · rfl
  · simp only [vv, nrm, nrmV, binA]
    exact map_some_vv fun v h => sbin_ne h
  · rw [h, eqOp_map]
    rcases binA_cases op e (vv x) (vv y) with ⟨k, a, k', b, e1, e2⟩ | ⟨a, b, e1, e2⟩ | ⟨h', _, _⟩
    · exact absurd ⟨k, a, k', b, vv_int e1, vv_int e2⟩ h1
    · exact absurd ⟨a, b, vv_str e1, vv_str e2⟩ h2
    · rw [h', eqk_vv]

theorem dv_cases (x : AV) : (∃ v, x = .d (.v v) ∧ vv x = .d (.v v)) ∨ (x = .nilsl ∧ vv x = .d (.sl [] 0)) ∨ ((∀ v, x ≠ .d (.v v)) ∧ ∀ v, vv x ≠ .d (.v v)) := by
  cases x with
  | d d => cases d with
    | sl cs n => exact .inr (.inr ⟨fun v h => (by cases h), fun v h => (by simp [vv, nrm] at h)⟩)
    | v v =>
      rcases nrmV_cases v with e | ⟨rfl, e⟩
      · exact .inl ⟨v, rfl, by simp only [vv, nrm, e]⟩
      · exact .inr (.inl ⟨rfl, rfl⟩)
  | _ => exact .inr (.inr ⟨fun v h => (by cases h), fun v h => (by simp [vv] at h)⟩)

theorem unA_vv (op : UnOp) : unA op (vv x) = (unA op x).map vv := by
  rcases dv_cases x with ⟨v, rfl, e⟩ | ⟨rfl, e⟩ | ⟨h1, h2⟩
  · rw [e]; cases v <;> first | rfl | (cases op <;> rfl)
  · rfl
  · unfold unA
    split
    · exact absurd ‹_› (h2 _)
    · exact absurd ‹_› (h2 _)
    · split
      · exact absurd rfl (h1 _)
      · exact absurd rfl (h1 _)
      · rfl

theorem cviA_vv (k : IntKind) : cviA k (vv x) = (cviA k x).map vv := by
  rcases dv_cases x with ⟨v, rfl, e⟩ | ⟨rfl, e⟩ | ⟨h1, h2⟩
  · rw [e]; cases v <;> rfl
  · rfl
  · unfold cviA
    split
    · exact absurd ‹_› (h2 _)
    · split
      · exact absurd rfl (h1 _)
      · rfl

theorem cvsA_vv : cvsA (vv x) = (cvsA x).map vv := by
  rcases dv_cases x with ⟨v, rfl, e⟩ | ⟨rfl, e⟩ | ⟨h1, h2⟩
  · rw [e]; cases v <;> rfl
  · rfl
  · unfold cvsA
    split
    · exact absurd ‹_› (h2 _)
    · split
      · exact absurd rfl (h1 _)
      · rfl

theorem lensA_vv : lensA (vv x) = (lensA x).map vv := by
  rcases dv_cases x with ⟨v, rfl, e⟩ | ⟨rfl, e⟩ | ⟨h1, h2⟩
  · rw [e]; cases v <;> rfl
  · rfl
  · unfold lensA
    split
    · exact absurd ‹_› (h2 _)
    · split
      · exact absurd rfl (h1 _)
      · rfl

theorem lenA_vv : lenA (vv x) = (lenA x).map vv := by
  cases x with
  | d d => cases d with
    | sl cs n => rfl
    | v v =>
      rcases nrmV_cases v with e | ⟨rfl, e⟩
      · simp only [vv, nrm, e]
        cases v with
        | slice a n k => cases a <;> cases n <;> cases k <;> first | rfl | (simp [nrmV] at e)
        | _ => rfl
      · rfl
  | _ => rfl

theorem nilcA_vv : nilcA (vv x) = (nilcA x).map vv := by
  cases x with
  | d d => cases d with
    | sl cs n => rfl
    | v v => rcases nrmV_cases v with e | ⟨rfl, e⟩
             · simp only [vv, nrm, e]; rfl
             · rfl
  | _ => rfl

theorem fadA_vv (o : Nat) : fadA o (vv x) = (fadA o x).map vv := by
  cases x with
  | d d => cases d with
    | sl cs n => rfl
    | v v => rcases nrmV_cases v with e | ⟨rfl, e⟩
             · simp only [vv, nrm, e]; rfl
             · rfl
  | ip cs => simp only [vv, fadA, Option.map_some, nrms_drop]
  | _ => rfl

theorem extA_vv (i : Nat) : extA i (vv x) = (extA i x).map vv := by
  cases x with
  | d d => cases d with
    | sl cs n => rfl
    | v v => rcases nrmV_cases v with e | ⟨rfl, e⟩
             · simp only [vv, nrm, e]; rfl
             · rfl
  | tup cs => simp only [vv, extA, vvs_get]
  | _ => rfl

theorem tkA_vv (i : Nat) : tkA i (vv x) = (tkA i x).map vv := by
  cases x with
  | d d => cases d with
    | sl cs n => rfl
    | v v => rcases nrmV_cases v with e | ⟨rfl, e⟩
             · simp only [vv, nrm, e]; rfl
             · rfl
  | tup cs => simp only [vv, tkA, vvs_eq, List.map_take, Option.map_some]
  | _ => rfl

theorem fldA_vv (o n : Nat) (g : Bool) : fldA o n g (vv x) = (fldA o n g x).map vv := by
  cases x with
  | d d => cases d with
    | sl cs n => rfl
    | v v => rcases nrmV_cases v with e | ⟨rfl, e⟩
             · simp only [vv, nrm, e]; rfl
             · rfl
  | agg cs =>
    simp only [vv, fldA, vvs_get, vvs_len]
    cases g
    · rfl
    · simp only [if_true]
      split
      · simp only [Option.map_some, vv, vvs_take, vvs_drop]
      · rfl
  | _ => rfl

theorem ixsA_vv (sz : Nat) : ixsA sz (vv x) (vv y) = (ixsA sz x y).map vv := by
  unfold ixsA
  rw [vv_asI]
  cases asI y with
  | none => rfl
  | some n =>
    dsimp only
    cases x with
    | d d => cases d with
      | sl cs n => simp only [vv, nrm]; split
                   · simp only [Option.map_some, vv, nrms_drop]
                   · rfl
      | v v => rcases nrmV_cases v with e | ⟨rfl, e⟩
               · simp only [vv, nrm, e]; rfl
               · simp only [vv, nrm, e]; rw [if_neg (by omega)]; rfl
    | os a b c d => simp only [vv]; split <;> rfl
    | ov a b c d => simp only [vv]; split
                    · simp only [Option.map_some, vv, nrms_drop]
                    · rfl
    | _ => rfl

theorem ixpA_vv (sz len : Nat) : ixpA sz len (vv x) (vv y) = (ixpA sz len x y).map vv := by
  unfold ixpA
  rw [vv_asI]
  cases asI y with
  | none => rfl
  | some n =>
    dsimp only
    split
    · cases x with
      | d d => cases d with
        | sl cs n => rfl
        | v v => rcases nrmV_cases v with e | ⟨rfl, e⟩
                 · simp only [vv, nrm, e]; rfl
                 · rfl
      | ip cs => simp only [vv, Option.map_some, nrms_drop]
      | _ => rfl
    · rfl

theorem ixvA_vv (sz len : Nat) (g : Bool) : ixvA sz len g (vv x) (vv y) = (ixvA sz len g x y).map vv := by
  unfold ixvA
  rw [vv_asI]
  cases asI y with
  | none => rfl
  | some n =>
    cases x with
    | agg cs =>
      simp only [vv, vvs_get, vvs_len]
      split
      · cases g
        · rfl
        · simp only [if_true]; split
          · simp only [Option.map_some, vv, vvs_take, vvs_drop]
          · rfl
      · rfl
    | d d => cases d with
      | sl cs n => rfl
      | v v => rcases nrmV_cases v with e | ⟨rfl, e⟩
               · simp only [vv, nrm, e]; rfl
               · rfl
    | _ => rfl

theorem ixcA_vv : ixcA (vv x) (vv y) = (ixcA x y).map vv := by
  rcases dv_cases x with ⟨v, rfl, e⟩ | ⟨rfl, e⟩ | ⟨h1, h2⟩
  · rw [e]; unfold ixcA; rw [vv_asI]
    cases v with
    | string s =>
      cases asI y with
      | none => rfl
      | some n => dsimp only; split
                  · rw [Option.map_map]; cases s.data[n.toNat]? <;> rfl
                  · rfl
    | _ => rfl
  · rfl
  · unfold ixcA
    split
    · exact absurd ‹_› (h2 _)
    · split
      · exact absurd rfl (h1 _)
      · rfl

theorem mmaxA_vv (mx : Bool) : mmaxA mx (vv x) (vv y) = (mmaxA mx x y).map vv := by
  rcases dv_cases x with ⟨v, rfl, e⟩ | ⟨rfl, e⟩ | ⟨h1, h2⟩
  · rw [e]
    rcases dv_cases y with ⟨w, rfl, e'⟩ | ⟨rfl, e'⟩ | ⟨h1', h2'⟩
    · rw [e']; cases v <;> first | rfl | (cases w <;> rfl)
    · rw [e']; cases v <;> rfl
    · have : ∀ y : AV, (∀ v, y ≠ .d (.v v)) → mmaxA mx (.d (.v v)) y = none := fun y hy => by
        unfold mmaxA; split
        · exact absurd rfl (hy _)
        · rfl
      rw [this _ h1', this _ h2']; rfl
  · rw [e]; unfold mmaxA; cases y <;> rfl
  · have : ∀ x y : AV, (∀ v, x ≠ .d (.v v)) → mmaxA mx x y = none := fun x y hy => by
      unfold mmaxA; split
      · exact absurd rfl (hy _)
      · rfl
    rw [this _ _ h1, this _ _ h2]; rfl

theorem setAt_vv (cs : List AV) (o : Nat) (vs : List AV) : vvs (setAt cs o vs) = setAt (vvs cs) o (vvs vs) := by
  simp only [setAt, vvs_append, vvs_take, vvs_drop, vvs_len]

theorem setcA_vv (o n : Nat) : setcA o n (vv x) (vv y) = (setcA o n x y).map vv := by
  unfold setcA
  cases x with
  | agg cs =>
    simp only [vv, vv_cells, vvs_len, vvs_one]
    split
    · simp only [Option.map_some, vv, setAt_vv]
    · rfl
  | d d => cases d with
    | sl cs n => rfl
    | v v => rcases nrmV_cases v with e | ⟨rfl, e⟩
             · simp only [vv, nrm, e]; rfl
             · rfl
  | _ => rfl

theorem slstrA_vv (lo hi : Option AV) (lo' hi' : Option AV) (hl : loA lo' = loA lo) (hh : ∀ n, hiA n hi' = hiA n hi) : slstrA (vv x) lo' hi' = (slstrA x lo hi).map vv := by
  rcases dv_cases x with ⟨v, rfl, e⟩ | ⟨rfl, e⟩ | ⟨h1, h2⟩
  · rw [e]
    cases v with
    | string s =>
      simp only [slstrA, hl, hh]
      cases hiA s.data.size hi with
      | none => rfl
      | some a => cases loA lo with
        | none => rfl
        | some b => dsimp only; split <;> rfl
    | _ => rfl
  · rfl
  · unfold slstrA
    split
    · exact absurd ‹_› (h2 _)
    · split
      · exact absurd rfl (h1 _)
      · rfl

theorem slslA_vv (sz : Nat) (lo hi : Option AV) (lo' hi' : Option AV) (hl : loA lo' = loA lo) (hh : ∀ n, hiA n hi' = hiA n hi) : slslA sz (vv x) lo' hi' = (slslA sz x lo hi).map vv := by
  have closed : ∀ (cs : List D) (n : Nat), slslA sz (.d (.sl (nrms cs) n)) lo' hi' = (slslA sz (.d (.sl cs n)) lo hi).map vv := fun cs n => by
    simp only [slslA, hl, hh]
    cases hiA n hi with
    | none => rfl
    | some a => cases loA lo with
      | none => rfl
      | some b =>
        simp only [nrms_len]
        split
        · split
          · rfl
          · simp only [Option.map_some, vv, nrm, nrms_take, nrms_drop]
        · rfl
  cases x with
  | d d => cases d with
    | sl cs n => exact closed cs n
    | v v =>
      rcases nrmV_cases v with e | ⟨rfl, e⟩
      · simp only [vv, nrm, e]
        cases v with
        | slice a n k => cases a <;> cases n <;> cases k <;> first | rfl | (simp [nrmV] at e)
        | _ => rfl
      · simp only [vv, nrm, e, slslA, hl, hh]
        cases hiA 0 hi with
        | none => rfl
        | some a => cases loA lo with
          | none => rfl
          | some b =>
            dsimp only
            by_cases hc : b = 0 ∧ a = 0
            · obtain ⟨rfl, rfl⟩ := hc
              simp [vv, nrm, nrmV]
            · rw [if_neg hc, if_neg (by intro h; apply hc; constructor <;> (have := h.1; have := h.2.1; have := h.2.2.1; omega))]; rfl
  | ov a cs n s => exact closed cs n
  | os a b c d =>
    simp only [vv, slslA, hl, hh]
    cases hiA c hi with
    | none => rfl
    | some a => cases loA lo with
      | none => rfl
      | some b =>
        dsimp only
        split
        · split
          · rfl
          · split <;> rfl
        · rfl
  | _ => rfl
end

/-! ### .. that read memory -/
section
variable (m : Mem) (lim : Lm) (x y : AV)

theorem ld1A_vv : ld1A (look (vmem m) lim) (vv x) = (ld1A (look m lim) x).map vv := by
  rw [look_vm]
  cases x with
  | ptr a b =>
    simp only [vv, ld1A, vmem]
    cases look m lim a with
    | none => rfl
    | some B => cases B with
      | cells t cs => simp only [Option.bind_some, vmB, vvs_get]
      | _ => rfl
  | ip cs => simp only [vv, ld1A, nrms_eq, List.getElem?_map, Option.map_map]; rfl
  | d d => cases d with
    | sl cs n => rfl
    | v v => rcases nrmV_cases v with e | ⟨rfl, e⟩
             · simp only [vv, nrm, e]; rfl
             · rfl
  | _ => rfl

theorem ldnA_vv (n : Nat) : ldnA (look (vmem m) lim) n (vv x) = (ldnA (look m lim) n x).map vv := by
  rw [look_vm]
  cases x with
  | ptr a b =>
    simp only [vv, ldnA, vmem]
    cases look m lim a with
    | none => rfl
    | some B => cases B with
      | cells t cs =>
        simp only [Option.bind_some, vmB, vvs_len]
        split
        · simp only [Option.map_some, vv, vvs_take, vvs_drop]
        · rfl
      | _ => rfl
  | ip cs =>
    simp only [vv, ldnA, nrms_len]
    split
    · simp only [Option.map_some, vv, vvs_d, nrms_take]
    · rfl
  | d d => cases d with
    | sl cs n => rfl
    | v v => rcases nrmV_cases v with e | ⟨rfl, e⟩
             · simp only [vv, nrm, e]; rfl
             · rfl
  | _ => rfl

theorem ld1I_eqA (a : AV) : ld1I m lim a = ld1A (look m lim) a := by
  cases a <;> rfl
theorem ldnI_eqA (n : Nat) (a : AV) : ldnI m lim n a = ldnA (look m lim) n a := by
  cases a <;> rfl

theorem findM_vv (q : Value) : ∀ es : List (Value × AV), findM q (es.map fun e => (e.1, vv e.2)) = (findM q es).map vv
  | [] => rfl
  | e :: r => by simp only [List.map_cons, findM]; split
                 · rfl
                 · exact findM_vv q r

theorem lkpA_vv (kk : KK) (cm : Bool) (z : AV) : lkpA (look (vmem m) lim) kk cm (vv z) (vv x) (vv y) = (lkpA (look m lim) kk cm z x y).map vv := by
  rw [look_vm]
  have two : ∀ (a : AV) (b : Bool), (if cm then AV.tup [vv a, .bool b] else vv a) = vv (if cm then .tup [a, .bool b] else a) := fun a b => by cases cm <;> rfl
  rcases dv_cases y with ⟨key, rfl, e⟩ | ⟨rfl, e⟩ | ⟨h1, h2⟩
  · rw [e]
    simp only [lkpA]
    by_cases hf : kk.fits key = true
    · simp only [hf, if_true]
      cases x with
      | mp id =>
        simp only [vv, vmem]
        cases look m lim id with
        | none => rfl
        | some B => cases B with
          | map kk' es =>
            simp only [Option.bind_some, vmB, findM_vv]
            split
            · cases findM key es with
              | none => simp only [Option.map_none, Option.map_some, two]
              | some w => simp only [Option.map_some, two]
            · rfl
          | _ => rfl
      | d d => cases d with
        | sl cs n => rfl
        | v v => rcases nrmV_cases v with e | ⟨rfl, e⟩
                 · simp only [vv, nrm, e]
                   cases v with
                   | map r => cases r with
                     | none => simp only [Option.map_some, two]
                     | some _ => rfl
                   | _ => rfl
                 · rfl
      | _ => rfl
    · simp only [hf, Bool.false_eq_true, if_false]; rfl
  · have : kk.fits (.slice none 0 0) = false := by cases kk <;> rfl
    rw [e]; simp only [lkpA, this, Bool.false_eq_true, if_false]; rfl
  · have : ∀ (lk : Nat → Option Blk) (z x y : AV), (∀ v, y ≠ .d (.v v)) → lkpA lk kk cm z x y = none := fun lk z x y hy => by
      unfold lkpA; split
      · exact absurd rfl (hy _)
      · rfl
    rw [this _ _ _ _ h1, this _ _ _ _ h2]; rfl

theorem lenmA_vv : lenmA (look (vmem m) lim) (vv x) = (lenmA (look m lim) x).map vv := by
  rw [look_vm]
  cases x with
  | mp id =>
    simp only [vv, lenmA, vmem]
    cases look m lim id with
    | none => rfl
    | some B => cases B with
      | map kk es => simp only [Option.bind_some, vmB, List.length_map]; rfl
      | _ => rfl
  | d d => cases d with
    | sl cs n => rfl
    | v v => rcases nrmV_cases v with e | ⟨rfl, e⟩
             · simp only [vv, nrm, e]
               cases v with
               | map r => cases r <;> rfl
               | _ => rfl
             · rfl
  | _ => rfl

theorem sliceCells_vv (sz : Nat) : sliceCells (vmem m) lim sz (vv x) = (sliceCells m lim sz x).map fun p => (p.1, vvs p.2) := by
  have closed : ∀ (cs : List D) (n : Nat), (if n * sz ≤ (nrms cs).length then some (n, ((nrms cs).take (n * sz)).map AV.d) else none) = (if n * sz ≤ cs.length then some (n, (cs.take (n * sz)).map AV.d) else none : Option (Nat × List AV)).map fun p => (p.1, vvs p.2) := fun cs n => by
    rw [nrms_len]
    split
    · simp only [Option.map_some, vvs_d, nrms_take]
    · rfl
  cases x with
  | d d => cases d with
    | sl cs n => exact closed cs n
    | v v => rcases nrmV_cases v with e | ⟨rfl, e⟩
             · simp only [vv, nrm, e]
               cases v with
               | slice a n k => cases a <;> cases n <;> cases k <;> first | rfl | (simp [nrmV] at e)
               | _ => rfl
             · simp only [vv, nrm, e, sliceCells]; simp [vvs]
  | ov a cs n s => exact closed cs n
  | os a b c d =>
    simp only [vv, sliceCells, look_vm, vmem]
    cases look m lim a with
    | none => rfl
    | some B => cases B with
      | cells t cs =>
        simp only [Option.bind_some, vmB, vvs_len]
        split
        · simp only [Option.map_some, vvs_take, vvs_drop]
        · rfl
      | _ => rfl
  | _ => rfl

theorem bytesA_vv : ∀ l : List AV, bytesA (vvs l) = bytesA l
  | [] => rfl
  | a :: r => by
    simp only [vvs]
    rcases dv_cases a with ⟨v, rfl, e⟩ | ⟨rfl, e⟩ | ⟨h1, h2⟩
    · rw [e]
      cases v with
      | int k n => cases k <;> first | rfl | (simp only [bytesA, bytesA_vv r])
      | _ => rfl
    · rfl
    · have gen : ∀ (x : AV) (l : List AV), (∀ v, x ≠ .d (.v v)) → bytesA (x :: l) = none := fun x l hx => by
        unfold bytesA
        split
        · rename_i h; cases h
        · rename_i h; injection h with h _; exact absurd h (hx _)
        · rfl
      rw [gen _ _ h1, gen _ _ h2]

theorem b2sA_vv : b2sA (vmem m) lim (vv x) = (b2sA m lim x).map vv := by
  unfold b2sA
  rw [sliceCells_vv]
  cases sliceCells m lim 1 x with
  | none => rfl
  | some p => simp only [Option.map_some, bytesA_vv, Option.map_map]; rfl
end

theorem vP_ev (ρ : List AV) (ps : List (Nat × Nat × X)) : ((vP ps).map fun p => (p.1, p.2.1, ev (vvs ρ) p.2.2)) = (ps.map fun p => (p.1, p.2.1, ev ρ p.2.2)).map fun p => (p.1, p.2.1, vv p.2.2) := by
  simp only [vP, List.map_map]; apply List.map_congr_left; intro p _; simp only [Function.comp, ev_vv]

theorem fill_vv : ∀ (ps : List (Nat × Nat × AV)) (cs : List AV), fill (vvs cs) (ps.map fun p => (p.1, p.2.1, vv p.2.2)) = (fill cs ps).map vvs
  | [], cs => rfl
  | (o, s, v) :: r, cs => by
    simp only [List.map_cons, fill, vv_cells, vvs_len]
    split
    · rw [← setAt_vv]; exact fill_vv r _
    · rfl

/-! ### Giving memory up -/
theorem normD_nrm (d : D) : normD (nrm d) = nrm (normD d) := by
  cases d with
  | sl cs n => rfl
  | v v =>
    rcases nrmV_cases v with e | ⟨rfl, e⟩
    · simp only [nrm, e]
      unfold normD
      split
      · rfl
      · simp only [nrm, e]
    · rfl

theorem freezeD_vv (m : Mem) (lo : Nat) : ∀ (n : Nat) (x : AV), freezeD (vmem m) lo n (vv x) = (freezeD m lo n x).map nrm
  | n, .d d => by
    have : freezeD (vmem m) lo n (.d (nrm d)) = some (normD (nrm d)) := by cases n <;> rfl
    have h2 : freezeD m lo n (.d d) = some (normD d) := by cases n <;> rfl
    rw [h2]; simp only [vv, this, Option.map_some, normD_nrm]
  | n, .ov a cs len s => by
    have : freezeD (vmem m) lo n (.d (.sl (nrms cs) len)) = some (.sl (nrms cs) len) := by cases n <;> rfl
    have h2 : freezeD m lo n (.ov a cs len s) = some (.sl cs len) := by cases n <;> rfl
    rw [h2]; simp only [vv, this, Option.map_some, nrm]
  | 0, .os .. => rfl
  | n + 1, .os id off len sz => by
    simp only [vv, freezeD]
    split
    · rfl
    · simp only [vmem]
      cases m id with
      | none => rfl
      | some B => cases B with
        | cells t cs =>
          simp only [Option.bind_some, vmB, vvs_len]
          split
          · rw [← vvs_drop, ← vvs_take, vvs_eq, mapM_map_opt (freezeD (vmem m) lo n) (freezeD m lo n) vv nrm (freezeD_vv m lo n)]
            cases ((cs.drop off).take (len * sz)).mapM (freezeD m lo n) with
            | none => rfl
            | some ds => simp only [Option.map_some, nrm, nrms_eq]
          · rfl
        | _ => rfl
  | 0, .ptr .. => rfl
  | n + 1, .ptr .. => rfl
  | 0, .ip .. => rfl
  | n + 1, .ip .. => rfl
  | 0, .mp .. => rfl
  | n + 1, .mp .. => rfl
  | 0, .fn .. => rfl
  | n + 1, .fn .. => rfl
  | 0, .agg .. => rfl
  | n + 1, .agg .. => rfl
  | 0, .tup .. => rfl
  | n + 1, .tup .. => rfl

theorem freeze1_vv (m : Mem) (lo : Nat) (x : AV) : freeze1 (vmem m) lo (vv x) = (freeze1 m lo x).map vv := by
  have dd : ∀ d : D, freeze1 (vmem m) lo (.d (nrm d)) = (freeze1 m lo (.d d)).map vv := fun d => by
    show (freezeD (vmem m) lo 64 (vv (.d d))).map AV.d = ((freezeD m lo 64 (.d d)).map AV.d).map vv
    rw [freezeD_vv, Option.map_map, Option.map_map]; rfl
  cases x with
  | d d => exact dd d
  | ptr a b => simp only [vv, freeze1]; split <;> rfl
  | ip cs => rfl
  | os a b c d =>
    simp only [vv, freeze1]
    split
    · rfl
    · have := freezeD_vv m lo 64 (.os a b c d)
      simp only [vv] at this
      rw [this, Option.map_map, Option.map_map]; rfl
  | ov a cs n s => rfl
  | mp a => simp only [vv, freeze1]; split <;> rfl
  | _ => rfl

theorem freezeA_vv (m : Mem) (lo : Nat) (x : AV) : freezeA (vmem m) lo (vv x) = (freezeA m lo x).map vv := by
  cases x with
  | agg cs =>
    simp only [vv, freezeA]
    rw [vvs_eq, mapM_map_opt (freeze1 (vmem m) lo) (freeze1 m lo) vv vv (freeze1_vv m lo)]
    cases cs.mapM (freeze1 m lo) with
    | none => rfl
    | some ds => simp only [Option.map_some, vv, vvs_eq]
  | d d => exact freeze1_vv m lo (.d d)
  | ptr a b => exact freeze1_vv m lo (.ptr a b)
  | ip cs => exact freeze1_vv m lo (.ip cs)
  | os a b c d => exact freeze1_vv m lo (.os a b c d)
  | ov a b c d => exact freeze1_vv m lo (.ov a b c d)
  | mp a => exact freeze1_vv m lo (.mp a)
  | fn a b c => exact freeze1_vv m lo (.fn a b c)
  | tup a => exact freeze1_vv m lo (.tup a)

theorem freeze_vv (m : Mem) (lo : Nat) (x : AV) : freeze (vmem m) lo (vv x) = (freeze m lo x).map vv := by
  cases x with
  | tup cs =>
    simp only [vv, freeze]
    rw [vvs_eq, mapM_map_opt (freezeA (vmem m) lo) (freezeA m lo) vv vv (freezeA_vv m lo)]
    cases cs.mapM (freezeA m lo) with
    | none => rfl
    | some ds => simp only [Option.map_some, vv, vvs_eq]
  | d d => exact freezeA_vv m lo (.d d)
  | ptr a b => exact freezeA_vv m lo (.ptr a b)
  | ip cs => exact freezeA_vv m lo (.ip cs)
  | os a b c d => exact freezeA_vv m lo (.os a b c d)
  | ov a b c d => exact freezeA_vv m lo (.ov a b c d)
  | mp a => exact freezeA_vv m lo (.mp a)
  | fn a b c => exact freezeA_vv m lo (.fn a b c)
  | agg a => exact freezeA_vv m lo (.agg a)

theorem isD_vv (x : AV) : (vv x).isD = x.isD := by cases x <;> rfl
theorem isDs_vv (l : List AV) : (vvs l).all AV.isD = l.all AV.isD := by
  rw [vvs_eq, List.all_map]; congr 1; funext x; exact isD_vv x
theorem closedC_vv (x : AV) : closedC (vv x) = closedC x := by
  cases x with
  | fn f as bs => simp only [vv, closedC, isDs_vv]
  | _ => rfl
theorem closedA_vv (x : AV) : closedA (vv x) = closedA x := by
  cases x with
  | agg cs => simp only [vv, closedA, vvs_eq, List.all_map]; congr 1; funext x; exact closedC_vv x
  | d d => exact closedC_vv (.d d)
  | ptr a b => exact closedC_vv (.ptr a b)
  | ip cs => exact closedC_vv (.ip cs)
  | os a b c d => exact closedC_vv (.os a b c d)
  | ov a b c d => exact closedC_vv (.ov a b c d)
  | mp a => exact closedC_vv (.mp a)
  | fn a b c => exact closedC_vv (.fn a b c)
  | tup a => exact closedC_vv (.tup a)
theorem stripC_vv (x : AV) : stripC (vv x) = vv (stripC x) := by cases x <;> rfl
theorem normC_vv (x : AV) : normC (vv x) = vv (normC x) := by
  cases x with
  | d d => simp only [vv, normC, normD_nrm]
  | fn f as bs =>
    simp only [vv, normC, vvs_eq, List.map_map]
    congr 1 <;> (apply List.map_congr_left; intro x _; exact stripC_vv x)
  | _ => rfl
theorem normA_vv (x : AV) : normA (vv x) = vv (normA x) := by
  cases x with
  | agg cs => simp only [vv, normA, vvs_eq, List.map_map]; congr 1; apply List.map_congr_left; intro x _; exact normC_vv x
  | d d => exact normC_vv (.d d)
  | ptr a b => exact normC_vv (.ptr a b)
  | ip cs => exact normC_vv (.ip cs)
  | os a b c d => exact normC_vv (.os a b c d)
  | ov a b c d => exact normC_vv (.ov a b c d)
  | mp a => exact normC_vv (.mp a)
  | fn a b c => exact normC_vv (.fn a b c)
  | tup a => exact normC_vv (.tup a)
theorem snap_vv (m : Mem) (x : AV) : snap (vmem m) (vv x) = (snap m x).map vv := by
  unfold snap
  rw [closedA_vv, freezeA_vv, normA_vv]
  split <;> rfl
theorem snaps_vv (m : Mem) (l : List AV) : (vvs l).mapM (snap (vmem m)) = (l.mapM (snap m)).map vvs := by
  rw [vvs_eq, mapM_map_opt (snap (vmem m)) (snap m) vv vv (snap_vv m)]; congr 1; funext x; rw [vvs_eq]
theorem scalC_vv {x : AV} (h : scalC (vv x) = true) : scalC x = true := by
  cases x with
  | d d => cases d with
    | sl cs n => simp [vv, nrm, scalC] at h
    | v v => rfl
  | _ => simp [vv, scalC] at h
theorem scalA_vv {x : AV} (h : scalA (vv x) = true) : scalA x = true := by
  cases x with
  | agg cs =>
    simp only [vv, scalA, vvs_eq, List.all_map] at h ⊢
    rw [List.all_eq_true] at h ⊢
    exact fun x hx => scalC_vv (h x hx)
  | d d => exact scalC_vv (x := .d d) h
  | ptr a b => exact scalC_vv (x := .ptr a b) h
  | ip cs => exact scalC_vv (x := .ip cs) h
  | os a b c d => exact scalC_vv (x := .os a b c d) h
  | ov a b c d => exact scalC_vv (x := .ov a b c d) h
  | mp a => exact scalC_vv (x := .mp a) h
  | fn a b c => exact scalC_vv (x := .fn a b c) h
  | tup a => exact scalC_vv (x := .tup a) h
theorem scalT_vv {x : AV} (h : scalT (vv x) = true) : scalT x = true := by
  cases x with
  | tup cs =>
    simp only [vv, scalT, vvs_eq, List.all_map] at h ⊢
    rw [List.all_eq_true] at h ⊢
    exact fun x hx => scalA_vv (h x hx)
  | d d => exact scalA_vv (x := .d d) h
  | ptr a b => exact scalA_vv (x := .ptr a b) h
  | ip cs => exact scalA_vv (x := .ip cs) h
  | os a b c d => exact scalA_vv (x := .os a b c d) h
  | ov a b c d => exact scalA_vv (x := .ov a b c d) h
  | mp a => exact scalA_vv (x := .mp a) h
  | fn a b c => exact scalA_vv (x := .fn a b c) h
  | agg a => exact scalA_vv (x := .agg a) h

mutual
theorem eqD_nrm : ∀ x : D, eqD (nrm x) (nrm x) = true → eqD x x = true
  | .v v, h => by
    rcases nrmV_cases v with e | ⟨rfl, _⟩
    · simpa only [nrm, e] using h
    · rfl
  | .sl cs n, h => by
    simp only [nrm, eqD, Bool.and_eq_true] at h ⊢
    exact ⟨eqDs_nrm cs h.1, h.2⟩
theorem eqDs_nrm : ∀ l : List D, eqDs (nrms l) (nrms l) = true → eqDs l l = true
  | [], _ => rfl
  | x :: l, h => by
    simp only [nrms, eqDs, Bool.and_eq_true] at h ⊢
    exact ⟨eqD_nrm x h.1, eqDs_nrm l h.2⟩
end
mutual
theorem eqA_vv : ∀ x : AV, eqA (vv x) (vv x) = true → eqA x x = true
  | .d x, h => by simp only [vv, eqA] at h ⊢; exact eqD_nrm x h
  | .ptr a b, h => h
  | .ip cs, h => by simp only [vv, eqA] at h ⊢; exact eqDs_nrm cs h
  | .os a b c d, h => h
  | .ov a cs n s, h => by
    simp only [vv, eqA, eqD, Bool.and_eq_true] at h
    simp only [eqA, eqDs_nrm cs h.1, beq_self_eq_true, Bool.and_self]
  | .mp a, h => h
  | .fn f as bs, h => by
    simp only [vv, eqA, Bool.and_eq_true] at h ⊢
    exact ⟨⟨h.1.1, eqAs_vv as h.1.2⟩, eqAs_vv bs h.2⟩
  | .agg cs, h => by simp only [vv, eqA] at h ⊢; exact eqAs_vv cs h
  | .tup cs, h => by simp only [vv, eqA] at h ⊢; exact eqAs_vv cs h
theorem eqAs_vv : ∀ l : List AV, eqAs (vvs l) (vvs l) = true → eqAs l l = true
  | [], _ => rfl
  | x :: l, h => by
    simp only [vvs, eqAs, Bool.and_eq_true] at h ⊢
    exact ⟨eqA_vv x h.1, eqAs_vv l h.2⟩
end

theorem zrep_vv (z : List AV) (x : AV) : zrep (vvs z) (vv x) = (zrep z x).map fun p => (p.1, nrms p.2) := by
  have key : ∀ k : Nat, ((List.replicate k (vvs z)).flatten).mapM toD = (((List.replicate k z).flatten).mapM toD).map nrms := fun k => by
    rw [← toDs_vv, vvs_flatten, List.map_replicate]
  rcases dv_cases x with ⟨v, rfl, e⟩ | ⟨rfl, e⟩ | ⟨h1, h2⟩
  · rw [e]
    cases v <;> simp only [zrep, Option.map_none]
    split
    · rw [key]; simp only [Option.map_map]; rfl
    · rfl
  · rw [e]; rfl
  · have n1 : zrep z x = none := by
      unfold zrep; split
      · rename_i k n; exact absurd rfl (h1 _)
      · rfl
    have n2 : zrep (vvs z) (vv x) = none := by
      unfold zrep; split
      · rename_i k n hx; exact absurd hx (h2 _)
      · rfl
    rw [n1, n2]; rfl
theorem zrep_zero {z : List AV} {x : AV} {news : List D} (h : zrep z x = some (0, news)) : news = [] := by
  unfold zrep at h
  split at h
  · split at h
    · obtain ⟨ds, hds, hh⟩ := Option.map_eq_some_iff.1 h
      simp only [Prod.mk.injEq] at hh
      obtain ⟨h0, rfl⟩ := hh
      rw [h0] at hds
      simpa using hds.symm
    · cases h
  · cases h
end Go.Proofs.Ytegkhdflmboljaa.Sx
