/- THE SEAT's FUNCTIONS AS THE ABSTRACT MACHINE'S CODE, printed by program; each is held against the program by the kernel. -/
import Derived.Test.YtmjdkocjfehdcaaGreatG0
namespace Go.Proofs.YtmjdkocjfehdcaaGreat.Sx
open Go
set_option maxRecDepth 1000000
def lookF (f : Nat) : List (Nat × Fk) → Option Fk
  | [] => none
  | (g, x) :: r => if f = g then some x else lookF f r
def tableF : List (Nat × Fk) := [(3, .code cf3), (4, .code cf4), (5, .code cf5), (6, .prim primAwake)]
/-- The program, turned. -/
def G : Prog := { fns := fun f => lookF f tableF, mode := modeF, nl := 18446744073709551616 }
theorem lookF_mem {f : Nat} {x : Fk} : ∀ {l : List (Nat × Fk)}, lookF f l = some x → (f, x) ∈ l
  | [], h => by simp [lookF] at h
  | (g, y) :: r, h => by
    simp only [lookF] at h
    split at h
    · rename_i hg; injection h with h; subst h; subst hg; simp
    · exact List.mem_cons_of_mem _ (lookF_mem h)
def OkE (p : Nat × Fk) : Prop := match p.2 with | .code cf => ∃ fn, Tryz.prog.funcs[p.1]? = some fn ∧ ∃ os hs, comp Tryz.prog modeF os hs fn = some cf | .prim q => PrimOK Tryz.prog p.1 q
def OkT (t1 : List (Nat × Fk)) (p : Nat × Fk) : Prop := match p.2 with | .code cg => ∃ cf pm, lookF p.1 t1 = some (.code cf) ∧ promCF pm cf = some cg ∧ pm.ex.all (fun v => Nat.blt v cf.nt) = true | .prim q => lookF p.1 t1 = some (.prim q) ∧ PrimExt q
def OkV (t2 : List (Nat × Fk)) (p : Nat × Fk) : Prop := match p.2 with | .code cv => ∃ cf, lookF p.1 t2 = some (.code cf) ∧ vCF sigS.no cf = cv ∧ chkV sigS p.1 cf = true | .prim q => lookF p.1 t2 = some (.prim q) ∧ PrimV sigS p.1 q
/-- The program as it was: each function's code before it was turned. -/
theorem tables_ok : ∃ t1 t2 : List (Nat × Fk), (∀ p ∈ t1, OkE p) ∧ (∀ p ∈ t2, OkT t1 p) ∧ ∀ p ∈ tableF, OkV t2 p := by
  refine ⟨[(3, .code ((comp Tryz.prog modeF os3 hi3 Tryz.f3).getD cf0)), (4, .code ((comp Tryz.prog modeF os4 hi4 Tryz.f4).getD cf0)), (5, .code ((comp Tryz.prog modeF os5 hi5 Tryz.f5).getD cf0)), (6, .prim primAwake)], [(3, .code ((promComp Tryz.prog modeF os3 hi3 pm3 Tryz.f3).getD cf0)), (4, .code ((promComp Tryz.prog modeF os4 hi4 pm4 Tryz.f4).getD cf0)), (5, .code ((promComp Tryz.prog modeF os5 hi5 pm5 Tryz.f5).getD cf0)), (6, .prim primAwake)], ?_, ?_, ?_⟩
  · exact List.forall_mem_cons.2 ⟨⟨Tryz.f3, Tryz.func3, _, _, (promComp_ok (vComp_ok ok3).1).1⟩, List.forall_mem_cons.2 ⟨⟨Tryz.f4, Tryz.func4, _, _, (promComp_ok (vComp_ok ok4).1).1⟩, List.forall_mem_cons.2 ⟨⟨Tryz.f5, Tryz.func5, _, _, (promComp_ok (vComp_ok ok5).1).1⟩, List.forall_mem_cons.2 ⟨primAwake_ok, (List.forall_mem_nil _)⟩⟩⟩⟩
  · exact List.forall_mem_cons.2 ⟨⟨_, _, rfl, (promComp_ok (vComp_ok ok3).1).2⟩, List.forall_mem_cons.2 ⟨⟨_, _, rfl, (promComp_ok (vComp_ok ok4).1).2⟩, List.forall_mem_cons.2 ⟨⟨_, _, rfl, (promComp_ok (vComp_ok ok5).1).2⟩, List.forall_mem_cons.2 ⟨⟨rfl, primAwake_ext⟩, (List.forall_mem_nil _)⟩⟩⟩⟩
  · exact List.forall_mem_cons.2 ⟨⟨_, rfl, (vComp_ok ok3).2⟩, List.forall_mem_cons.2 ⟨⟨_, rfl, (vComp_ok ok4).2⟩, List.forall_mem_cons.2 ⟨⟨_, rfl, (vComp_ok ok5).2⟩, List.forall_mem_cons.2 ⟨⟨rfl, primAwake_v rfl⟩, (List.forall_mem_nil _)⟩⟩⟩⟩
theorem G_prom : ∃ G1 G2, ProgOK Tryz.prog G1 ∧ PromOK G1 G2 ∧ VOK sigS G2 G := by
  obtain ⟨t1, t2, h1, h2, h3⟩ := tables_ok
  exact ⟨{ fns := fun f => lookF f t1, mode := modeF, nl := 18446744073709551616 }, { fns := fun f => lookF f t2, mode := modeF, nl := 18446744073709551616 }, ⟨fun _ _ h => h1 _ (lookF_mem h), fun _ _ h => h1 _ (lookF_mem h)⟩,
    ⟨rfl, rfl, fun _ _ h => h2 _ (lookF_mem h), fun _ _ h => h2 _ (lookF_mem h)⟩, ⟨rfl, rfl, sigOf_ok (by kernel_rfl), fun _ _ h => h3 _ (lookF_mem h), fun _ _ h => h3 _ (lookF_mem h)⟩⟩
theorem G_run {N : Nat} {f : FuncId} {args : List AV} {M' : MM} (ha : vvs args = args) (hp : sigS.ps f = []) (h : acall G N f args 0 ⟨0, fun _ => none⟩ = some (.bool true, M')) : ∃ G1, ProgOK Tryz.prog G1 ∧ ∃ M'', acall G1 N f args 0 ⟨0, fun _ => none⟩ = some (.bool true, M'') := by
  obtain ⟨G1, G2, h1, h2, h3⟩ := G_prom
  obtain ⟨r, M1, h4, h5⟩ := law_v h3 ha hp h
  rw [vv_true h5] at h4
  exact ⟨G1, h1, law_prom h2 h4⟩
end Go.Proofs.YtmjdkocjfehdcaaGreat.Sx
