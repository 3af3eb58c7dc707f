/- THE SEAT's FUNCTIONS AS THE ABSTRACT MACHINE'S CODE, printed by program; each is held against the program by the kernel. -/
import Derived.Test.YtabhppamkhldeaaG0
namespace Go.Proofs.Ytabhppamkhldeaa.Sx
open Go
set_option maxRecDepth 1000000
def lookF (f : Nat) : List (Nat × Fk) → Option Fk
  | [] => none
  | (g, x) :: r => if f = g then some x else lookF f r
def tableF : List (Nat × Fk) := [(3, .code cf3), (4, .code cf4), (5, .code cf5), (6, .code cf6), (8, .code cf8), (9, .code cf9), (10, .code cf10), (11, .code cf11), (12, .code cf12), (13, .code cf13), (14, .code cf14), (15, .code cf15), (16, .code cf16), (17, .code cf17), (18, .code cf18), (19, .code cf19), (20, .code cf20), (21, .code cf21), (22, .code cf22), (23, .code cf23), (24, .code cf24), (25, .code cf25), (26, .code cf26), (27, .code cf27), (28, .code cf28), (29, .code cf29), (31, .code cf31), (32, .code cf32), (33, .code cf33), (34, .code cf34), (35, .code cf35)]
def G : Prog := { fns := fun f => lookF f tableF, mode := modeF, nl := 18446744073709551616 }
theorem lookF_mem {f : Nat} {x : Fk} : ∀ {l : List (Nat × Fk)}, lookF f l = some x → (f, x) ∈ l
  | [], h => by simp [lookF] at h
  | (g, y) :: r, h => by
    simp only [lookF] at h
    split at h
    · rename_i hg; injection h with h; subst h; subst hg; simp
    · exact List.mem_cons_of_mem _ (lookF_mem h)
def OkE (p : Nat × Fk) : Prop := match p.2 with | .code cf => ∃ fn, Try.prog.funcs[p.1]? = some fn ∧ comp Try.prog modeF fn = some cf | .prim _ => False
theorem table_ok : ∀ p ∈ tableF, OkE p :=
  List.forall_mem_cons.2 ⟨⟨Try.f3, Try.func3, ok3⟩, List.forall_mem_cons.2 ⟨⟨Try.f4, Try.func4, ok4⟩, List.forall_mem_cons.2 ⟨⟨Try.f5, Try.func5, ok5⟩, List.forall_mem_cons.2 ⟨⟨Try.f6, Try.func6, ok6⟩, List.forall_mem_cons.2 ⟨⟨Try.f8, Try.func8, ok8⟩, List.forall_mem_cons.2 ⟨⟨Try.f9, Try.func9, ok9⟩, List.forall_mem_cons.2 ⟨⟨Try.f10, Try.func10, ok10⟩, List.forall_mem_cons.2 ⟨⟨Try.f11, Try.func11, ok11⟩, List.forall_mem_cons.2 ⟨⟨Try.f12, Try.func12, ok12⟩, List.forall_mem_cons.2 ⟨⟨Try.f13, Try.func13, ok13⟩, List.forall_mem_cons.2 ⟨⟨Try.f14, Try.func14, ok14⟩, List.forall_mem_cons.2 ⟨⟨Try.f15, Try.func15, ok15⟩, List.forall_mem_cons.2 ⟨⟨Try.f16, Try.func16, ok16⟩, List.forall_mem_cons.2 ⟨⟨Try.f17, Try.func17, ok17⟩, List.forall_mem_cons.2 ⟨⟨Try.f18, Try.func18, ok18⟩, List.forall_mem_cons.2 ⟨⟨Try.f19, Try.func19, ok19⟩, List.forall_mem_cons.2 ⟨⟨Try.f20, Try.func20, ok20⟩, List.forall_mem_cons.2 ⟨⟨Try.f21, Try.func21, ok21⟩, List.forall_mem_cons.2 ⟨⟨Try.f22, Try.func22, ok22⟩, List.forall_mem_cons.2 ⟨⟨Try.f23, Try.func23, ok23⟩, List.forall_mem_cons.2 ⟨⟨Try.f24, Try.func24, ok24⟩, List.forall_mem_cons.2 ⟨⟨Try.f25, Try.func25, ok25⟩, List.forall_mem_cons.2 ⟨⟨Try.f26, Try.func26, ok26⟩, List.forall_mem_cons.2 ⟨⟨Try.f27, Try.func27, ok27⟩, List.forall_mem_cons.2 ⟨⟨Try.f28, Try.func28, ok28⟩, List.forall_mem_cons.2 ⟨⟨Try.f29, Try.func29, ok29⟩, List.forall_mem_cons.2 ⟨⟨Try.f31, Try.func31, ok31⟩, List.forall_mem_cons.2 ⟨⟨Try.f32, Try.func32, ok32⟩, List.forall_mem_cons.2 ⟨⟨Try.f33, Try.func33, ok33⟩, List.forall_mem_cons.2 ⟨⟨Try.f34, Try.func34, ok34⟩, List.forall_mem_cons.2 ⟨⟨Try.f35, Try.func35, ok35⟩, (List.forall_mem_nil _)⟩⟩⟩⟩⟩⟩⟩⟩⟩⟩⟩⟩⟩⟩⟩⟩⟩⟩⟩⟩⟩⟩⟩⟩⟩⟩⟩⟩⟩⟩⟩
theorem G_ok : ProgOK Try.prog G :=
  ⟨fun _ _ h => table_ok _ (lookF_mem h), fun _ _ h => (table_ok _ (lookF_mem h) : False).elim⟩
end Go.Proofs.Ytabhppamkhldeaa.Sx
