/- TYPES: what the laws share. -/
import Derived.Test.YtcoagkfjdpdohaaTyILo
namespace Go.Proofs.Ytcoagkfjdpdohaa.Sx
open Go
set_option maxRecDepth 1000000
set_option linter.unusedSimpArgs false
set_option linter.unusedVariables false

theorem awake_run : (acall G 200 10 [] 0 ⟨0, fun _ => none⟩).map Prod.fst = some (.bool true) := by kernel_rfl
theorem awake_pc {call : CallT} (hc : Lim G call) : PC call 10 [] (.bool true) := hc.closed 200 awake_run (fz_b true)

theorem rn_wslS3 {s1 s2 s3 : ByteArray} {a b c : AV} {R : Type} {r : R → Prop} {k : AV → Option R} (hk : Wp (k (avS [s1, s2, s3])) r) : Wp (opt (wslA 3 (fill [a, b, c] [(0, 1, .str s1), (1, 1, .str s2), (2, 1, .str s3)])) k) r := rn_wsl (ds := encS [s1, s2, s3]) rfl hk
theorem rn_wslS2 {s1 s2 : ByteArray} {a b : AV} {R : Type} {r : R → Prop} {k : AV → Option R} (hk : Wp (k (avS [s1, s2])) r) : Wp (opt (wslA 2 (fill [a, b] [(0, 1, .str s1), (1, 1, .str s2)])) k) r := rn_wsl (ds := encS [s1, s2]) rfl hk
theorem rn_wslT3 {t1 t2 t3 : Ty} {a b c d e f : AV} {R : Type} {r : R → Prop} {k : AV → Option R} (hk : Wp (k (avTs [t1, t2, t3])) r) : Wp (opt (wslA 3 (fill [a, b, c, d, e, f] [(0, 2, avT t1), (2, 2, avT t2), (4, 2, avT t3)])) k) r := by
  refine rn_wsl (ds := encTs [t1, t2, t3]) ?_ hk
  simp only [encTs, encT_eq, List.cons_append, List.nil_append]; rfl
theorem rn_wslT2 {t1 t2 : Ty} {a b c d : AV} {R : Type} {r : R → Prop} {k : AV → Option R} (hk : Wp (k (avTs [t1, t2])) r) : Wp (opt (wslA 2 (fill [a, b, c, d] [(0, 2, avT t1), (2, 2, avT t2)])) k) r := by
  refine rn_wsl (ds := encTs [t1, t2]) ?_ hk
  simp only [encTs, encT_eq, List.cons_append, List.nil_append]; rfl
theorem rn_appT1 {m : Mem} {lim : Lm} {l : List Ty} {t : Ty} {bytes : Nat} {R : Type} {r : R → Prop} {k : AV → Option R} (hb : (l.length + 1) * bytes ≤ 140737488355328 ∧ l.length + 1 ≤ 9223372036854775807) (hk : Wp (k (avTs (l ++ [t]))) r) :
    Wp (opt (wappA m lim 2 bytes (avTs l) (avTs [t])) k) r := by
  have e : AV.d (.sl (encT t) 1) = avTs [t] := by simp [encTs]
  rw [← e]
  exact rn_appT hb hk
theorem rn_appS {m : Mem} {lim : Lm} {l : List ByteArray} {n : ByteArray} {bytes : Nat} {R : Type} {r : R → Prop} {k : AV → Option R} (hb : (l.length + 1) * bytes ≤ 140737488355328 ∧ l.length + 1 ≤ 9223372036854775807) (hk : Wp (k (avS (l ++ [n]))) r) : Wp (opt (wappA m lim 1 bytes (avS l) (avS [n])) k) r := by
  refine rn_wapp rfl hb ?_
  have e : encS l ++ encS [n] = encS (l ++ [n]) := by simp [encS]
  have e2 : l.length + 1 = (l ++ [n]).length := by simp
  show Wp (k (.d (.sl (encS l ++ encS [n]) (l.length + 1)))) r
  rw [e, e2]; exact hk
end Go.Proofs.Ytcoagkfjdpdohaa.Sx
