/-
  NARROWER THAN 'FOR EVERY INPUT', by the rows' own cells (each row's printed sentence says how): TypetermReplaces: loops · TypetermLooks: loops.
  DERIVED. THE GIVEN ROWS OF THIS SEAT. 6 by the template 'for every input the law returns true; each argument reads behind the call as it read before'; 0 by the template 'total and deterministic' (their statements: YtcoagkfjdpdohaaTotals.lean).
  GIVEN WITH THE SEED: the statements are not yours to turn. If you find one false, say at which input.
  Laid BY PROGRAM, IN A SANDBOX (cutbox-rows.mjs): the forced cells as the released guide's own fill.sh prints them over the translation a581703bd82335d4… (all of the seat's roots in one cut). By AI agents, Wed Nov 11 2026. No macro, syntax, notation, axiom, sorry.
-/
import Derived.Test.YtcoagkfjdpdohaaChecked
import GoSem.Claim
import GoSem.ClaimJoined
import GoSem.ClaimMapViews
import Derived.JoinedTies
import Derived.KernelRfl
namespace Go.Proofs.Ytcoagkfjdpdohaa
/- THE CELL 'sum', in the pinned program and in every row, IS THE sha256 OF THE DUMP (.gsa) THAT YtcoagkfjdpdohaaProg.lean LOADS. Nothing in Lean hashes anything: it is a label: what it is worth is what the hold of that sum in a sandbox is worth. -/
noncomputable def Try.pinned : Pinned := { name := "ytcoagkfjdpdohaa", sum := "a581703bd82335d4a7f753d0ab82a0d6313a86ed6688df129434d1446d44b86f", checked := Try.checked }
namespace Rows
def none {H : Type} : Left H := { results := [], args := [] }

/-- 'libevolutionlaw04.TypetermOrder': WHATEVER THE INPUT: true; the input reads as it did. -/
def typetermOrderSpec : ChangeSpec := { name := "typetermOrder", fn := fun _ => fun
  | [d1, d2, d3] => { results := [.lit (.bool true)], args := [d1, d2, d3] }
  | _ => none }
def typetermOrderRow : OpenClaim := { program := "ytcoagkfjdpdohaa", sum := "a581703bd82335d4a7f753d0ab82a0d6313a86ed6688df129434d1446d44b86f", func := "libevolution/libevolutionlaw04.TypetermOrder", spec := "typetermOrder", inPlace := ["internal/abi.NoEscape", "internal/bytealg.MakeNoZero", "internal/bytealg.abigen_runtime_cmpstring"], unfollowed := true, recurses := true, apart := false }
def TypetermOrderSaid : Prop := typetermOrderRow.holds Try.pinned (OpenSpec.ofChange typetermOrderSpec)

/-- ITS FALSE NEIGHBOUR: 'it returns false'. Refute it at one input. -/
def typetermOrderWrong : ChangeSpec := { name := "typetermOrder", fn := fun _ => fun
  | [d1, d2, d3] => { results := [.lit (.bool false)], args := [d1, d2, d3] }
  | _ => none }
def TypetermOrderWrongFalsely : Prop := typetermOrderRow.holds Try.pinned (OpenSpec.ofChange typetermOrderWrong)

/-- 'libevolutionlaw04.TypetermReplaces': WHATEVER THE INPUT: true; the input reads as it did. -/
def typetermReplacesSpec : ChangeSpec := { name := "typetermReplaces", fn := fun _ => fun
  | [d1, d2, d3, d4, d5] => { results := [.lit (.bool true)], args := [d1, d2, d3, d4, d5] }
  | _ => none }
def typetermReplacesRow : OpenClaim := { program := "ytcoagkfjdpdohaa", sum := "a581703bd82335d4a7f753d0ab82a0d6313a86ed6688df129434d1446d44b86f", func := "libevolution/libevolutionlaw04.TypetermReplaces", spec := "typetermReplaces", inPlace := ["internal/abi.NoEscape", "internal/bytealg.MakeNoZero"], unfollowed := true, recurses := true, loops := true, apart := false }
def TypetermReplacesSaid : Prop := typetermReplacesRow.holds Try.pinned (OpenSpec.ofChange typetermReplacesSpec)

/-- ITS FALSE NEIGHBOUR: 'it returns false'. Refute it at one input. -/
def typetermReplacesWrong : ChangeSpec := { name := "typetermReplaces", fn := fun _ => fun
  | [d1, d2, d3, d4, d5] => { results := [.lit (.bool false)], args := [d1, d2, d3, d4, d5] }
  | _ => none }
def TypetermReplacesWrongFalsely : Prop := typetermReplacesRow.holds Try.pinned (OpenSpec.ofChange typetermReplacesWrong)

/-- 'libevolutionlaw04.TypetermSizes': WHATEVER THE INPUT: true; the input reads as it did. -/
def typetermSizesSpec : ChangeSpec := { name := "typetermSizes", fn := fun _ => fun
  | [d1, d2] => { results := [.lit (.bool true)], args := [d1, d2] }
  | _ => none }
def typetermSizesRow : OpenClaim := { program := "ytcoagkfjdpdohaa", sum := "a581703bd82335d4a7f753d0ab82a0d6313a86ed6688df129434d1446d44b86f", func := "libevolution/libevolutionlaw04.TypetermSizes", spec := "typetermSizes", inPlace := ["internal/abi.NoEscape", "internal/bytealg.MakeNoZero"], unfollowed := true, recurses := true, apart := false }
def TypetermSizesSaid : Prop := typetermSizesRow.holds Try.pinned (OpenSpec.ofChange typetermSizesSpec)

/-- ITS FALSE NEIGHBOUR: 'it returns false'. Refute it at one input. -/
def typetermSizesWrong : ChangeSpec := { name := "typetermSizes", fn := fun _ => fun
  | [d1, d2] => { results := [.lit (.bool false)], args := [d1, d2] }
  | _ => none }
def TypetermSizesWrongFalsely : Prop := typetermSizesRow.holds Try.pinned (OpenSpec.ofChange typetermSizesWrong)

/-- 'libevolutionlaw04.TypetermMatches': WHATEVER THE INPUT: true; the input reads as it did. -/
def typetermMatchesSpec : ChangeSpec := { name := "typetermMatches", fn := fun _ => fun
  | [d] => { results := [.lit (.bool true)], args := [d] }
  | _ => none }
def typetermMatchesRow : OpenClaim := { program := "ytcoagkfjdpdohaa", sum := "a581703bd82335d4a7f753d0ab82a0d6313a86ed6688df129434d1446d44b86f", func := "libevolution/libevolutionlaw04.TypetermMatches", spec := "typetermMatches", inPlace := ["internal/abi.NoEscape", "internal/bytealg.MakeNoZero", "internal/bytealg.IndexByteString", "internal/bytealg.IndexString"], unfollowed := true, recurses := true, named := ["internal/bytealg.MaxLen"], apart := false }
def TypetermMatchesSaid : Prop := typetermMatchesRow.holds Try.pinned (OpenSpec.ofChange typetermMatchesSpec)

/-- ITS FALSE NEIGHBOUR: 'it returns false'. Refute it at one input. -/
def typetermMatchesWrong : ChangeSpec := { name := "typetermMatches", fn := fun _ => fun
  | [d] => { results := [.lit (.bool false)], args := [d] }
  | _ => none }
def TypetermMatchesWrongFalsely : Prop := typetermMatchesRow.holds Try.pinned (OpenSpec.ofChange typetermMatchesWrong)

/-- 'libevolutionlaw04.TypetermTwice': WHATEVER THE INPUT: true; the input reads as it did. -/
def typetermTwiceSpec : ChangeSpec := { name := "typetermTwice", fn := fun _ => fun
  | [d] => { results := [.lit (.bool true)], args := [d] }
  | _ => none }
def typetermTwiceRow : OpenClaim := { program := "ytcoagkfjdpdohaa", sum := "a581703bd82335d4a7f753d0ab82a0d6313a86ed6688df129434d1446d44b86f", func := "libevolution/libevolutionlaw04.TypetermTwice", spec := "typetermTwice", inPlace := ["internal/abi.NoEscape", "internal/bytealg.MakeNoZero", "internal/bytealg.IndexByteString", "internal/bytealg.IndexString"], unfollowed := true, recurses := true, named := ["internal/bytealg.MaxLen"], apart := false }
def TypetermTwiceSaid : Prop := typetermTwiceRow.holds Try.pinned (OpenSpec.ofChange typetermTwiceSpec)

/-- ITS FALSE NEIGHBOUR: 'it returns false'. Refute it at one input. -/
def typetermTwiceWrong : ChangeSpec := { name := "typetermTwice", fn := fun _ => fun
  | [d] => { results := [.lit (.bool false)], args := [d] }
  | _ => none }
def TypetermTwiceWrongFalsely : Prop := typetermTwiceRow.holds Try.pinned (OpenSpec.ofChange typetermTwiceWrong)

/-- 'libevolutionlaw04.TypetermLooks': WHATEVER THE INPUT: true; the input reads as it did. -/
def typetermLooksSpec : ChangeSpec := { name := "typetermLooks", fn := fun _ => fun
  | [d1, d2, d3, d4] => { results := [.lit (.bool true)], args := [d1, d2, d3, d4] }
  | _ => none }
def typetermLooksRow : OpenClaim := { program := "ytcoagkfjdpdohaa", sum := "a581703bd82335d4a7f753d0ab82a0d6313a86ed6688df129434d1446d44b86f", func := "libevolution/libevolutionlaw04.TypetermLooks", spec := "typetermLooks", inPlace := ["internal/abi.NoEscape", "internal/bytealg.MakeNoZero", "internal/bytealg.IndexByteString", "internal/bytealg.IndexString", "internal/bytealg.abigen_runtime_cmpstring"], unfollowed := true, recurses := true, named := ["internal/bytealg.MaxLen"], loops := true, apart := false }
def TypetermLooksSaid : Prop := typetermLooksRow.holds Try.pinned (OpenSpec.ofChange typetermLooksSpec)

/-- ITS FALSE NEIGHBOUR: 'it returns false'. Refute it at one input. -/
def typetermLooksWrong : ChangeSpec := { name := "typetermLooks", fn := fun _ => fun
  | [d1, d2, d3, d4] => { results := [.lit (.bool false)], args := [d1, d2, d3, d4] }
  | _ => none }
def TypetermLooksWrongFalsely : Prop := typetermLooksRow.holds Try.pinned (OpenSpec.ofChange typetermLooksWrong)

/- THE SECOND FORM. 'bulk': how many values and letters a reading holds, each counted each time it is reached (what is shared counts as often as it is met; a slice's spare places count too). A statement '..UptoSaid' is the law's where the arguments, and the package variables that the reading takes, are together of bulk at most 1048576: NARROWER than '..Said'. Prove '..Said' where nothing that the law and all that it calls make is longer than what came in: it says more and counts as full. Else prove '..UptoSaid'. A law counts once. -/
mutual
def uptoBulk {H : Type} : DataW H → Nat
  | .lit (.string bytes) => bytes.length + 1
  | .lit _ => 1
  | .nil => 1
  | .ptr d => uptoBulk d + 1
  | .slice elems spare => uptoBulkAll elems + uptoBulkAll spare + 1
  | .agg parts => uptoBulkAll parts + 1
  | .iface _ d => uptoBulk d + 1
  | .map entries => uptoBulkEntries entries + 1
  | .held _ => 1
def uptoBulkAll {H : Type} : List (DataW H) → Nat
  | [] => 0
  | d :: r => uptoBulk d + uptoBulkAll r
def uptoBulkEntries {H : Type} : List (Lit × DataW H) → Nat
  | [] => 0
  | x :: r => uptoBulkEntry x + uptoBulkEntries r
def uptoBulkEntry {H : Type} : Lit × DataW H → Nat
  | (.string bytes, d) => bytes.length + uptoBulk d + 1
  | (_, d) => uptoBulk d + 1
 end
def uptoSmall : (H : Type) → List (DataW H) → Bool := fun _ ds => decide (uptoBulkAll ds ≤ 1048576)
def OpenSpec.upto (s : _root_.Go.ChangeSpec) : _root_.Go.OpenSpec := { _root_.Go.OpenSpec.ofChange s with cond := some uptoSmall }

/-- 'libevolutionlaw04.TypetermOrder', WHERE WHAT IT READS IS OF BULK AT MOST 1048576: true; the input reads as it did. -/
def typetermOrderUptoRow : OpenClaim := { program := "ytcoagkfjdpdohaa", sum := "a581703bd82335d4a7f753d0ab82a0d6313a86ed6688df129434d1446d44b86f", func := "libevolution/libevolutionlaw04.TypetermOrder", spec := "typetermOrder", inPlace := ["internal/abi.NoEscape", "internal/bytealg.MakeNoZero", "internal/bytealg.abigen_runtime_cmpstring"], unfollowed := true, recurses := true, apart := false, narrowed := true }
def TypetermOrderUptoSaid : Prop := typetermOrderUptoRow.holds Try.pinned (OpenSpec.upto typetermOrderSpec)

/-- 'libevolutionlaw04.TypetermReplaces', WHERE WHAT IT READS IS OF BULK AT MOST 1048576: true; the input reads as it did. -/
def typetermReplacesUptoRow : OpenClaim := { program := "ytcoagkfjdpdohaa", sum := "a581703bd82335d4a7f753d0ab82a0d6313a86ed6688df129434d1446d44b86f", func := "libevolution/libevolutionlaw04.TypetermReplaces", spec := "typetermReplaces", inPlace := ["internal/abi.NoEscape", "internal/bytealg.MakeNoZero"], unfollowed := true, recurses := true, loops := true, apart := false, narrowed := true }
def TypetermReplacesUptoSaid : Prop := typetermReplacesUptoRow.holds Try.pinned (OpenSpec.upto typetermReplacesSpec)

/-- 'libevolutionlaw04.TypetermSizes', WHERE WHAT IT READS IS OF BULK AT MOST 1048576: true; the input reads as it did. -/
def typetermSizesUptoRow : OpenClaim := { program := "ytcoagkfjdpdohaa", sum := "a581703bd82335d4a7f753d0ab82a0d6313a86ed6688df129434d1446d44b86f", func := "libevolution/libevolutionlaw04.TypetermSizes", spec := "typetermSizes", inPlace := ["internal/abi.NoEscape", "internal/bytealg.MakeNoZero"], unfollowed := true, recurses := true, apart := false, narrowed := true }
def TypetermSizesUptoSaid : Prop := typetermSizesUptoRow.holds Try.pinned (OpenSpec.upto typetermSizesSpec)

/-- 'libevolutionlaw04.TypetermMatches', WHERE WHAT IT READS IS OF BULK AT MOST 1048576: true; the input reads as it did. -/
def typetermMatchesUptoRow : OpenClaim := { program := "ytcoagkfjdpdohaa", sum := "a581703bd82335d4a7f753d0ab82a0d6313a86ed6688df129434d1446d44b86f", func := "libevolution/libevolutionlaw04.TypetermMatches", spec := "typetermMatches", inPlace := ["internal/abi.NoEscape", "internal/bytealg.MakeNoZero", "internal/bytealg.IndexByteString", "internal/bytealg.IndexString"], unfollowed := true, recurses := true, named := ["internal/bytealg.MaxLen"], apart := false, narrowed := true }
def TypetermMatchesUptoSaid : Prop := typetermMatchesUptoRow.holds Try.pinned (OpenSpec.upto typetermMatchesSpec)

/-- 'libevolutionlaw04.TypetermTwice', WHERE WHAT IT READS IS OF BULK AT MOST 1048576: true; the input reads as it did. -/
def typetermTwiceUptoRow : OpenClaim := { program := "ytcoagkfjdpdohaa", sum := "a581703bd82335d4a7f753d0ab82a0d6313a86ed6688df129434d1446d44b86f", func := "libevolution/libevolutionlaw04.TypetermTwice", spec := "typetermTwice", inPlace := ["internal/abi.NoEscape", "internal/bytealg.MakeNoZero", "internal/bytealg.IndexByteString", "internal/bytealg.IndexString"], unfollowed := true, recurses := true, named := ["internal/bytealg.MaxLen"], apart := false, narrowed := true }
def TypetermTwiceUptoSaid : Prop := typetermTwiceUptoRow.holds Try.pinned (OpenSpec.upto typetermTwiceSpec)

/-- 'libevolutionlaw04.TypetermLooks', WHERE WHAT IT READS IS OF BULK AT MOST 1048576: true; the input reads as it did. -/
def typetermLooksUptoRow : OpenClaim := { program := "ytcoagkfjdpdohaa", sum := "a581703bd82335d4a7f753d0ab82a0d6313a86ed6688df129434d1446d44b86f", func := "libevolution/libevolutionlaw04.TypetermLooks", spec := "typetermLooks", inPlace := ["internal/abi.NoEscape", "internal/bytealg.MakeNoZero", "internal/bytealg.IndexByteString", "internal/bytealg.IndexString", "internal/bytealg.abigen_runtime_cmpstring"], unfollowed := true, recurses := true, named := ["internal/bytealg.MaxLen"], loops := true, apart := false, narrowed := true }
def TypetermLooksUptoSaid : Prop := typetermLooksUptoRow.holds Try.pinned (OpenSpec.upto typetermLooksSpec)

end Rows
end Go.Proofs.Ytcoagkfjdpdohaa
