/-
  No cell of these rows narrows 'for every input' (looked for: loops, veiled, ifaces, maps, wideKeys, modest, calm, conditions, laid).
  DERIVED. THE GIVEN ROWS OF THIS SEAT. 5 by the template 'for every input the law returns true; each argument reads behind the call as it read before'; 0 by the template 'total and deterministic' (their statements: YtabhppamkhldeaaTotals.lean).
  GIVEN WITH THE SEED: the statements are not yours to turn. If you find one false, say at which input.
  Laid BY PROGRAM, IN A SANDBOX (cutbox-rows.mjs): the forced cells as the released guide's own fill.sh prints them over the translation 30518a5597a897b6… (all of the seat's roots in one cut). By AI agents, Wed Nov 11 2026. No macro, syntax, notation, axiom, sorry.
-/
import Derived.Test.YtabhppamkhldeaaChecked
import GoSem.Claim
import GoSem.ClaimJoined
import GoSem.ClaimMapViews
import Derived.JoinedTies
import Derived.KernelRfl
namespace Go.Proofs.Ytabhppamkhldeaa
/- THE CELL 'sum', in the pinned program and in every row, IS THE sha256 OF THE DUMP (.gsa) THAT YtabhppamkhldeaaProg.lean LOADS. Nothing in Lean hashes anything: it is a label: what it is worth is what the hold of that sum in a sandbox is worth. -/
noncomputable def Try.pinned : Pinned := { name := "ytabhppamkhldeaa", sum := "30518a5597a897b67751f08768ed465f73a8d96bea7f26f329152eba318f39eb", checked := Try.checked }
namespace Rows
def none {H : Type} : Left H := { results := [], args := [] }

/-- 'libevolutionlaw19.MemoryBytes': WHATEVER THE INPUT: true; the input reads as it did. -/
def memoryBytesSpec : ChangeSpec := { name := "memoryBytes", fn := fun _ => fun
  | [d1, d2, d3] => { results := [.lit (.bool true)], args := [d1, d2, d3] }
  | _ => none }
def memoryBytesRow : OpenClaim := { program := "ytabhppamkhldeaa", sum := "30518a5597a897b67751f08768ed465f73a8d96bea7f26f329152eba318f39eb", func := "libevolution/libevolutionlaw19.MemoryBytes", spec := "memoryBytes", apart := false }
def MemoryBytesSaid : Prop := memoryBytesRow.holds Try.pinned (OpenSpec.ofChange memoryBytesSpec)

/-- ITS FALSE NEIGHBOUR: 'it returns false'. Refute it at one input. -/
def memoryBytesWrong : ChangeSpec := { name := "memoryBytes", fn := fun _ => fun
  | [d1, d2, d3] => { results := [.lit (.bool false)], args := [d1, d2, d3] }
  | _ => none }
def MemoryBytesWrongFalsely : Prop := memoryBytesRow.holds Try.pinned (OpenSpec.ofChange memoryBytesWrong)

/-- 'libevolutionlaw19.MemoryLimits': WHATEVER THE INPUT: true; the input reads as it did. -/
def memoryLimitsSpec : ChangeSpec := { name := "memoryLimits", fn := fun _ => fun
  | [d1, d2] => { results := [.lit (.bool true)], args := [d1, d2] }
  | _ => none }
def memoryLimitsRow : OpenClaim := { program := "ytabhppamkhldeaa", sum := "30518a5597a897b67751f08768ed465f73a8d96bea7f26f329152eba318f39eb", func := "libevolution/libevolutionlaw19.MemoryLimits", spec := "memoryLimits", apart := false }
def MemoryLimitsSaid : Prop := memoryLimitsRow.holds Try.pinned (OpenSpec.ofChange memoryLimitsSpec)

/-- ITS FALSE NEIGHBOUR: 'it returns false'. Refute it at one input. -/
def memoryLimitsWrong : ChangeSpec := { name := "memoryLimits", fn := fun _ => fun
  | [d1, d2] => { results := [.lit (.bool false)], args := [d1, d2] }
  | _ => none }
def MemoryLimitsWrongFalsely : Prop := memoryLimitsRow.holds Try.pinned (OpenSpec.ofChange memoryLimitsWrong)

/-- 'libevolutionlaw19.MemoryLives': WHATEVER THE INPUT: true; the input reads as it did. -/
def memoryLivesSpec : ChangeSpec := { name := "memoryLives", fn := fun _ => fun
  | [d1, d2] => { results := [.lit (.bool true)], args := [d1, d2] }
  | _ => none }
def memoryLivesRow : OpenClaim := { program := "ytabhppamkhldeaa", sum := "30518a5597a897b67751f08768ed465f73a8d96bea7f26f329152eba318f39eb", func := "libevolution/libevolutionlaw19.MemoryLives", spec := "memoryLives", apart := false }
def MemoryLivesSaid : Prop := memoryLivesRow.holds Try.pinned (OpenSpec.ofChange memoryLivesSpec)

/-- ITS FALSE NEIGHBOUR: 'it returns false'. Refute it at one input. -/
def memoryLivesWrong : ChangeSpec := { name := "memoryLives", fn := fun _ => fun
  | [d1, d2] => { results := [.lit (.bool false)], args := [d1, d2] }
  | _ => none }
def MemoryLivesWrongFalsely : Prop := memoryLivesRow.holds Try.pinned (OpenSpec.ofChange memoryLivesWrong)

/-- 'libevolutionlaw19.MemoryAddresses': WHATEVER THE INPUT: true; the input reads as it did. -/
def memoryAddressesSpec : ChangeSpec := { name := "memoryAddresses", fn := fun _ => fun
  | [d] => { results := [.lit (.bool true)], args := [d] }
  | _ => none }
def memoryAddressesRow : OpenClaim := { program := "ytabhppamkhldeaa", sum := "30518a5597a897b67751f08768ed465f73a8d96bea7f26f329152eba318f39eb", func := "libevolution/libevolutionlaw19.MemoryAddresses", spec := "memoryAddresses", apart := false }
def MemoryAddressesSaid : Prop := memoryAddressesRow.holds Try.pinned (OpenSpec.ofChange memoryAddressesSpec)

/-- ITS FALSE NEIGHBOUR: 'it returns false'. Refute it at one input. -/
def memoryAddressesWrong : ChangeSpec := { name := "memoryAddresses", fn := fun _ => fun
  | [d] => { results := [.lit (.bool false)], args := [d] }
  | _ => none }
def MemoryAddressesWrongFalsely : Prop := memoryAddressesRow.holds Try.pinned (OpenSpec.ofChange memoryAddressesWrong)

/-- 'libevolutionlaw19.MemoryPlays': WHATEVER THE INPUT: true; the input reads as it did. -/
def memoryPlaysSpec : ChangeSpec := { name := "memoryPlays", fn := fun _ => fun
  | [d] => { results := [.lit (.bool true)], args := [d] }
  | _ => none }
def memoryPlaysRow : OpenClaim := { program := "ytabhppamkhldeaa", sum := "30518a5597a897b67751f08768ed465f73a8d96bea7f26f329152eba318f39eb", func := "libevolution/libevolutionlaw19.MemoryPlays", spec := "memoryPlays", apart := false }
def MemoryPlaysSaid : Prop := memoryPlaysRow.holds Try.pinned (OpenSpec.ofChange memoryPlaysSpec)

/-- ITS FALSE NEIGHBOUR: 'it returns false'. Refute it at one input. -/
def memoryPlaysWrong : ChangeSpec := { name := "memoryPlays", fn := fun _ => fun
  | [d] => { results := [.lit (.bool false)], args := [d] }
  | _ => none }
def MemoryPlaysWrongFalsely : Prop := memoryPlaysRow.holds Try.pinned (OpenSpec.ofChange memoryPlaysWrong)

/- THE SECOND FORM. 'bulk': how many values and letters a reading holds, each counted each time it is reached (what is shared counts as often as it is met; a slice's spare places count too). A statement '..UptoSaid' is the law's where the arguments, and the package variables that the reading takes, are together of bulk at most 1048576: NARROWER than '..Said'. Prove '..Said' where nothing that the law and all that it calls make is longer than what came in: it says more and counts as full. Else prove '..UptoSaid'. A law counts once. -/
mutual
def uptoBulk {H : Type} : DataW H → Nat
  | .lit (.string bytes) => bytes.length + 1
  | .lit _ => 1
  | .nil => 1
  | .ptr d => uptoBulk d + 1
  | .slice elems spare => uptoBulkAll elems + uptoBulkAll spare + 1
  | .agg parts => uptoBulkAll parts + 1
  | .iface _ d => uptoBulk d + 1
  | .map entries => uptoBulkEntries entries + 1
  | .held _ => 1
def uptoBulkAll {H : Type} : List (DataW H) → Nat
  | [] => 0
  | d :: r => uptoBulk d + uptoBulkAll r
def uptoBulkEntries {H : Type} : List (Lit × DataW H) → Nat
  | [] => 0
  | x :: r => uptoBulkEntry x + uptoBulkEntries r
def uptoBulkEntry {H : Type} : Lit × DataW H → Nat
  | (.string bytes, d) => bytes.length + uptoBulk d + 1
  | (_, d) => uptoBulk d + 1
 end
def uptoSmall : (H : Type) → List (DataW H) → Bool := fun _ ds => decide (uptoBulkAll ds ≤ 1048576)
def OpenSpec.upto (s : _root_.Go.ChangeSpec) : _root_.Go.OpenSpec := { _root_.Go.OpenSpec.ofChange s with cond := some uptoSmall }

/-- 'libevolutionlaw19.MemoryBytes', WHERE WHAT IT READS IS OF BULK AT MOST 1048576: true; the input reads as it did. -/
def memoryBytesUptoRow : OpenClaim := { program := "ytabhppamkhldeaa", sum := "30518a5597a897b67751f08768ed465f73a8d96bea7f26f329152eba318f39eb", func := "libevolution/libevolutionlaw19.MemoryBytes", spec := "memoryBytes", apart := false, narrowed := true }
def MemoryBytesUptoSaid : Prop := memoryBytesUptoRow.holds Try.pinned (OpenSpec.upto memoryBytesSpec)

/-- 'libevolutionlaw19.MemoryLimits', WHERE WHAT IT READS IS OF BULK AT MOST 1048576: true; the input reads as it did. -/
def memoryLimitsUptoRow : OpenClaim := { program := "ytabhppamkhldeaa", sum := "30518a5597a897b67751f08768ed465f73a8d96bea7f26f329152eba318f39eb", func := "libevolution/libevolutionlaw19.MemoryLimits", spec := "memoryLimits", apart := false, narrowed := true }
def MemoryLimitsUptoSaid : Prop := memoryLimitsUptoRow.holds Try.pinned (OpenSpec.upto memoryLimitsSpec)

/-- 'libevolutionlaw19.MemoryLives', WHERE WHAT IT READS IS OF BULK AT MOST 1048576: true; the input reads as it did. -/
def memoryLivesUptoRow : OpenClaim := { program := "ytabhppamkhldeaa", sum := "30518a5597a897b67751f08768ed465f73a8d96bea7f26f329152eba318f39eb", func := "libevolution/libevolutionlaw19.MemoryLives", spec := "memoryLives", apart := false, narrowed := true }
def MemoryLivesUptoSaid : Prop := memoryLivesUptoRow.holds Try.pinned (OpenSpec.upto memoryLivesSpec)

/-- 'libevolutionlaw19.MemoryAddresses', WHERE WHAT IT READS IS OF BULK AT MOST 1048576: true; the input reads as it did. -/
def memoryAddressesUptoRow : OpenClaim := { program := "ytabhppamkhldeaa", sum := "30518a5597a897b67751f08768ed465f73a8d96bea7f26f329152eba318f39eb", func := "libevolution/libevolutionlaw19.MemoryAddresses", spec := "memoryAddresses", apart := false, narrowed := true }
def MemoryAddressesUptoSaid : Prop := memoryAddressesUptoRow.holds Try.pinned (OpenSpec.upto memoryAddressesSpec)

/-- 'libevolutionlaw19.MemoryPlays', WHERE WHAT IT READS IS OF BULK AT MOST 1048576: true; the input reads as it did. -/
def memoryPlaysUptoRow : OpenClaim := { program := "ytabhppamkhldeaa", sum := "30518a5597a897b67751f08768ed465f73a8d96bea7f26f329152eba318f39eb", func := "libevolution/libevolutionlaw19.MemoryPlays", spec := "memoryPlays", apart := false, narrowed := true }
def MemoryPlaysUptoSaid : Prop := memoryPlaysUptoRow.holds Try.pinned (OpenSpec.upto memoryPlaysSpec)

end Rows
end Go.Proofs.Ytabhppamkhldeaa
