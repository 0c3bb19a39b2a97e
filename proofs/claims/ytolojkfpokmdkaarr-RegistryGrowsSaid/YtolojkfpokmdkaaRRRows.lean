/-
  No cell of these rows narrows 'for every input' (looked for: loops, veiled, ifaces, maps, wideKeys, modest, calm, conditions, laid).
  DERIVED. THE GIVEN ROWS OF THIS SEAT. 4 by the template 'for every input the law returns true; each argument reads behind the call as it read before'; 0 by the template 'total and deterministic' (their statements: YtolojkfpokmdkaaRRTotals.lean).
  GIVEN WITH THE SEED: the statements are not yours to turn. If you find one false, say at which input.
  Laid BY PROGRAM, IN A SANDBOX (cutbox-rows.mjs): the forced cells as the released guide's own fill.sh prints them over the translation d844c7a17b67957d… (all of the seat's roots in one cut). By AI agents, Wed Nov 11 2026. No macro, syntax, notation, axiom, sorry.
-/
import Derived.Test.YtolojkfpokmdkaaRRChecked
import GoSem.Claim
import GoSem.ClaimJoined
import GoSem.ClaimMapViews
import Derived.JoinedTies
import Derived.KernelRfl
namespace Go.Proofs.YtolojkfpokmdkaaRR
/- THE CELL 'sum', in the pinned program and in every row, IS THE sha256 OF THE DUMP (.gsa) THAT YtolojkfpokmdkaaRRProg.lean LOADS. Nothing in Lean hashes anything: it is a label: what it is worth is what the hold of that sum in a sandbox is worth. -/
noncomputable def Try.pinned : Pinned := { name := "ytolojkfpokmdkaarr", sum := "d844c7a17b67957d4117bb3fcca0aafa59ad72c5c6e3bbe0cec1e2fb6fa32856", checked := Try.checked }
namespace Rows
def none {H : Type} : Left H := { results := [], args := [] }

/-- 'headlandlaw07.RegistryNone': WHATEVER THE INPUT: true; the input reads as it did. -/
def registryNoneSpec : ChangeSpec := { name := "registryNone", fn := fun _ => fun
  | [d] => { results := [.lit (.bool true)], args := [d] }
  | _ => none }
def registryNoneRow : OpenClaim := { program := "ytolojkfpokmdkaarr", sum := "d844c7a17b67957d4117bb3fcca0aafa59ad72c5c6e3bbe0cec1e2fb6fa32856", func := "headland/headlandlaw07.RegistryNone", spec := "registryNone", unfollowed := true, recurses := true, apart := false }
def RegistryNoneSaid : Prop := registryNoneRow.holds Try.pinned (OpenSpec.ofChange registryNoneSpec)

/-- ITS FALSE NEIGHBOUR: 'it returns false'. Refute it at one input. -/
def registryNoneWrong : ChangeSpec := { name := "registryNone", fn := fun _ => fun
  | [d] => { results := [.lit (.bool false)], args := [d] }
  | _ => none }
def RegistryNoneWrongFalsely : Prop := registryNoneRow.holds Try.pinned (OpenSpec.ofChange registryNoneWrong)

/-- 'headlandlaw07.RegistryFull': WHATEVER THE INPUT: true; the input reads as it did. -/
def registryFullSpec : ChangeSpec := { name := "registryFull", fn := fun _ => fun
  | [d1, d2] => { results := [.lit (.bool true)], args := [d1, d2] }
  | _ => none }
def registryFullRow : OpenClaim := { program := "ytolojkfpokmdkaarr", sum := "d844c7a17b67957d4117bb3fcca0aafa59ad72c5c6e3bbe0cec1e2fb6fa32856", func := "headland/headlandlaw07.RegistryFull", spec := "registryFull", unfollowed := true, recurses := true, apart := false }
def RegistryFullSaid : Prop := registryFullRow.holds Try.pinned (OpenSpec.ofChange registryFullSpec)

/-- ITS FALSE NEIGHBOUR: 'it returns false'. Refute it at one input. -/
def registryFullWrong : ChangeSpec := { name := "registryFull", fn := fun _ => fun
  | [d1, d2] => { results := [.lit (.bool false)], args := [d1, d2] }
  | _ => none }
def RegistryFullWrongFalsely : Prop := registryFullRow.holds Try.pinned (OpenSpec.ofChange registryFullWrong)

/-- 'headlandlaw07.RegistryGrows': WHATEVER THE INPUT: true; the input reads as it did. -/
def registryGrowsSpec : ChangeSpec := { name := "registryGrows", fn := fun _ => fun
  | [d1, d2] => { results := [.lit (.bool true)], args := [d1, d2] }
  | _ => none }
def registryGrowsRow : OpenClaim := { program := "ytolojkfpokmdkaarr", sum := "d844c7a17b67957d4117bb3fcca0aafa59ad72c5c6e3bbe0cec1e2fb6fa32856", func := "headland/headlandlaw07.RegistryGrows", spec := "registryGrows", unfollowed := true, recurses := true, apart := false }
def RegistryGrowsSaid : Prop := registryGrowsRow.holds Try.pinned (OpenSpec.ofChange registryGrowsSpec)

/-- ITS FALSE NEIGHBOUR: 'it returns false'. Refute it at one input. -/
def registryGrowsWrong : ChangeSpec := { name := "registryGrows", fn := fun _ => fun
  | [d1, d2] => { results := [.lit (.bool false)], args := [d1, d2] }
  | _ => none }
def RegistryGrowsWrongFalsely : Prop := registryGrowsRow.holds Try.pinned (OpenSpec.ofChange registryGrowsWrong)

/-- 'headlandlaw07.RegistryTogether': WHATEVER THE INPUT: true; the input reads as it did. -/
def registryTogetherSpec : ChangeSpec := { name := "registryTogether", fn := fun _ => fun
  | [d1, d2, d3] => { results := [.lit (.bool true)], args := [d1, d2, d3] }
  | _ => none }
def registryTogetherRow : OpenClaim := { program := "ytolojkfpokmdkaarr", sum := "d844c7a17b67957d4117bb3fcca0aafa59ad72c5c6e3bbe0cec1e2fb6fa32856", func := "headland/headlandlaw07.RegistryTogether", spec := "registryTogether", unfollowed := true, recurses := true, apart := false }
def RegistryTogetherSaid : Prop := registryTogetherRow.holds Try.pinned (OpenSpec.ofChange registryTogetherSpec)

/-- ITS FALSE NEIGHBOUR: 'it returns false'. Refute it at one input. -/
def registryTogetherWrong : ChangeSpec := { name := "registryTogether", fn := fun _ => fun
  | [d1, d2, d3] => { results := [.lit (.bool false)], args := [d1, d2, d3] }
  | _ => none }
def RegistryTogetherWrongFalsely : Prop := registryTogetherRow.holds Try.pinned (OpenSpec.ofChange registryTogetherWrong)

/- THE SECOND FORM. 'bulk': how many values and letters a reading holds, each counted each time it is reached (what is shared counts as often as it is met; a slice's spare places count too). A statement '..UptoSaid' is the law's where the arguments, and the package variables that the reading takes, are together of bulk at most 1048576: NARROWER than '..Said'. Prove '..Said' where nothing that the law and all that it calls make is longer than what came in: it says more and counts as full. Else prove '..UptoSaid'. A law counts once. -/
mutual
def uptoBulk {H : Type} : DataW H → Nat
  | .lit (.string bytes) => bytes.length + 1
  | .lit _ => 1
  | .nil => 1
  | .ptr d => uptoBulk d + 1
  | .slice elems spare => uptoBulkAll elems + uptoBulkAll spare + 1
  | .agg parts => uptoBulkAll parts + 1
  | .iface _ d => uptoBulk d + 1
  | .map entries => uptoBulkEntries entries + 1
  | .held _ => 1
def uptoBulkAll {H : Type} : List (DataW H) → Nat
  | [] => 0
  | d :: r => uptoBulk d + uptoBulkAll r
def uptoBulkEntries {H : Type} : List (Lit × DataW H) → Nat
  | [] => 0
  | x :: r => uptoBulkEntry x + uptoBulkEntries r
def uptoBulkEntry {H : Type} : Lit × DataW H → Nat
  | (.string bytes, d) => bytes.length + uptoBulk d + 1
  | (_, d) => uptoBulk d + 1
 end
def uptoSmall : (H : Type) → List (DataW H) → Bool := fun _ ds => decide (uptoBulkAll ds ≤ 1048576)
def OpenSpec.upto (s : _root_.Go.ChangeSpec) : _root_.Go.OpenSpec := { _root_.Go.OpenSpec.ofChange s with cond := some uptoSmall }

/-- 'headlandlaw07.RegistryNone', WHERE WHAT IT READS IS OF BULK AT MOST 1048576: true; the input reads as it did. -/
def registryNoneUptoRow : OpenClaim := { program := "ytolojkfpokmdkaarr", sum := "d844c7a17b67957d4117bb3fcca0aafa59ad72c5c6e3bbe0cec1e2fb6fa32856", func := "headland/headlandlaw07.RegistryNone", spec := "registryNone", unfollowed := true, recurses := true, apart := false, narrowed := true }
def RegistryNoneUptoSaid : Prop := registryNoneUptoRow.holds Try.pinned (OpenSpec.upto registryNoneSpec)

/-- 'headlandlaw07.RegistryFull', WHERE WHAT IT READS IS OF BULK AT MOST 1048576: true; the input reads as it did. -/
def registryFullUptoRow : OpenClaim := { program := "ytolojkfpokmdkaarr", sum := "d844c7a17b67957d4117bb3fcca0aafa59ad72c5c6e3bbe0cec1e2fb6fa32856", func := "headland/headlandlaw07.RegistryFull", spec := "registryFull", unfollowed := true, recurses := true, apart := false, narrowed := true }
def RegistryFullUptoSaid : Prop := registryFullUptoRow.holds Try.pinned (OpenSpec.upto registryFullSpec)

/-- 'headlandlaw07.RegistryGrows', WHERE WHAT IT READS IS OF BULK AT MOST 1048576: true; the input reads as it did. -/
def registryGrowsUptoRow : OpenClaim := { program := "ytolojkfpokmdkaarr", sum := "d844c7a17b67957d4117bb3fcca0aafa59ad72c5c6e3bbe0cec1e2fb6fa32856", func := "headland/headlandlaw07.RegistryGrows", spec := "registryGrows", unfollowed := true, recurses := true, apart := false, narrowed := true }
def RegistryGrowsUptoSaid : Prop := registryGrowsUptoRow.holds Try.pinned (OpenSpec.upto registryGrowsSpec)

/-- 'headlandlaw07.RegistryTogether', WHERE WHAT IT READS IS OF BULK AT MOST 1048576: true; the input reads as it did. -/
def registryTogetherUptoRow : OpenClaim := { program := "ytolojkfpokmdkaarr", sum := "d844c7a17b67957d4117bb3fcca0aafa59ad72c5c6e3bbe0cec1e2fb6fa32856", func := "headland/headlandlaw07.RegistryTogether", spec := "registryTogether", unfollowed := true, recurses := true, apart := false, narrowed := true }
def RegistryTogetherUptoSaid : Prop := registryTogetherUptoRow.holds Try.pinned (OpenSpec.upto registryTogetherSpec)

end Rows
end Go.Proofs.YtolojkfpokmdkaaRR
