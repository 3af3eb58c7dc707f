/- TYPES: Substitute. -/
import Derived.Test.YtcoagkfjdpdohaaTyHLo
namespace Go.Proofs.Ytcoagkfjdpdohaa.Sx
open Go
set_option maxRecDepth 1000000
set_option linter.unusedSimpArgs false
set_option linter.unusedVariables false

abbrev ty0 : Ty := .mk ⟨⟨[]⟩⟩ []
/-- It answers v. -/
def Av (v : AV) : AV × MM → Prop := fun x => x.1 = v
theorem rn_av {v : AV} {M : MM} : Wp (some (v, M)) (Av v) := rn_done rfl
theorem Wp.pc {call : CallT} {f : FuncId} {args : List AV} {v : AV} (h : ∀ M, Wp (call f args 0 M) (Av v)) (hf : ∀ m, freeze m 0 v = some v) : PC call f args v := by
  obtain ⟨⟨w, M'⟩, h1, h2⟩ := h ⟨0, fun _ => none⟩
  have h2 : w = v := h2
  subst h2
  exact ⟨w, M', h1, hf _⟩
theorem CC.av {call : CallT} {f : FuncId} {args : List AV} {v : AV} (h : CC call f args v) (lo : Nat) (M : MM) : Wp (call f args lo M) (Av v) := (h lo M).mono fun _ q => q.1

theorem rn_ldTc {R : Type} {r : R → Prop} {k : AV → Option R} {M : MM} {lim : Lm} {j off : Nat} {t : TypeId} {cs : List AV} {u : Ty} (h1 : lim.ok j = true) (h2 : M.mem j = some (.cells t cs)) (h3 : off + 2 ≤ cs.length) (h4 : (cs.drop off).take 2 = [.d (.v (.string u.name)), .d (.sl (encTs u.args) u.args.length)]) (hk : Wp (k (avT u)) r) : Wp (opt (ldnA (look M.mem lim) 2 (.ptr j off)) k) r :=
  rn_ldn h1 h2 h3 h4 hk
theorem rn_wslT1 {t : Ty} {a b : AV} {R : Type} {r : R → Prop} {k : AV → Option R} (hk : Wp (k (avTs [t])) r) : Wp (opt (wslA 1 (fill [a, b] [(0, 2, avT t)])) k) r := by
  refine rn_wslT ?_
  have e : encT t = encTs [t] := by simp [encTs]
  rw [e]; exact hk
theorem rn_wslS1 {s : ByteArray} {a : AV} {R : Type} {r : R → Prop} {k : AV → Option R} (hk : Wp (k (avS [s])) r) : Wp (opt (wslA 1 (fill [a] [(0, 1, .str s)])) k) r := rn_wsl (ds := encS [s]) rfl hk
theorem rn_wslI {n : Nat} {R : Type} {r : R → Prop} {k : AV → Option R} (hk : Wp (k (avI [n])) r) : Wp (opt (wslA 1 (fill [.i 0] [(0, 1, .i (n : Int))])) k) r := rn_wsl (ds := encI [n]) rfl hk
theorem rn_appI {m : Mem} {lim : Lm} {l : List Nat} {n bytes : Nat} {R : Type} {r : R → Prop} {k : AV → Option R} (hb : (l.length + 1) * bytes ≤ 140737488355328 ∧ l.length + 1 ≤ 9223372036854775807) (hk : Wp (k (avI (l ++ [n]))) r) : Wp (opt (wappA m lim 1 bytes (avI l) (avI [n])) k) r := by
  refine rn_wapp rfl hb ?_
  have e : encI l ++ encI [n] = encI (l ++ [n]) := by simp [encI]
  have e2 : l.length + 1 = (l ++ [n]).length := by simp
  show Wp (k (.d (.sl (encI l ++ encI [n]) (l.length + 1)))) r
  rw [e, e2]; exact hk

end Go.Proofs.Ytcoagkfjdpdohaa.Sx
