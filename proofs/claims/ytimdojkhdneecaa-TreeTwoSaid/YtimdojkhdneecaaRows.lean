/-
  No cell of these rows narrows 'for every input' (looked for: loops, veiled, ifaces, maps, wideKeys, modest, calm, conditions, laid).
  DERIVED. THE GIVEN ROWS OF THIS SEAT. 5 by the template 'for every input the law returns true; each argument reads behind the call as it read before'; 0 by the template 'total and deterministic' (their statements: YtimdojkhdneecaaTotals.lean).
  GIVEN WITH THE SEED: the statements are not yours to turn. If you find one false, say at which input.
  Laid BY PROGRAM, IN A SANDBOX (cutbox-rows.mjs): the forced cells as the released guide's own fill.sh prints them over the translation c9e0761d8c5d3150… (all of the seat's roots in one cut). By AI agents, Wed Nov 11 2026. No macro, syntax, notation, axiom, sorry.
-/
import Derived.Test.YtimdojkhdneecaaChecked
import GoSem.Claim
import GoSem.ClaimJoined
import GoSem.ClaimMapViews
import Derived.JoinedTies
import Derived.KernelRfl
namespace Go.Proofs.Ytimdojkhdneecaa
/- THE CELL 'sum', in the pinned program and in every row, IS THE sha256 OF THE DUMP (.gsa) THAT YtimdojkhdneecaaProg.lean LOADS. Nothing in Lean hashes anything: it is a label: what it is worth is what the hold of that sum in a sandbox is worth. -/
noncomputable def Try.pinned : Pinned := { name := "ytimdojkhdneecaa", sum := "c9e0761d8c5d31508d75974e157354e46c7653ec7c504ec03c2179b01daa8fa5", checked := Try.checked }
namespace Rows
def none {H : Type} : Left H := { results := [], args := [] }

/-- 'headlandlaw12.TreePages': WHATEVER THE INPUT: true; the input reads as it did. -/
def treePagesSpec : ChangeSpec := { name := "treePages", fn := fun _ => fun
  | [d1, d2] => { results := [.lit (.bool true)], args := [d1, d2] }
  | _ => none }
def treePagesRow : OpenClaim := { program := "ytimdojkhdneecaa", sum := "c9e0761d8c5d31508d75974e157354e46c7653ec7c504ec03c2179b01daa8fa5", func := "headland/headlandlaw12.TreePages", spec := "treePages", unfollowed := true, recurses := true, apart := false }
def TreePagesSaid : Prop := treePagesRow.holds Try.pinned (OpenSpec.ofChange treePagesSpec)

/-- ITS FALSE NEIGHBOUR: 'it returns false'. Refute it at one input. -/
def treePagesWrong : ChangeSpec := { name := "treePages", fn := fun _ => fun
  | [d1, d2] => { results := [.lit (.bool false)], args := [d1, d2] }
  | _ => none }
def TreePagesWrongFalsely : Prop := treePagesRow.holds Try.pinned (OpenSpec.ofChange treePagesWrong)

/-- 'headlandlaw12.TreeTwo': WHATEVER THE INPUT: true; the input reads as it did. -/
def treeTwoSpec : ChangeSpec := { name := "treeTwo", fn := fun _ => fun
  | [d1, d2] => { results := [.lit (.bool true)], args := [d1, d2] }
  | _ => none }
def treeTwoRow : OpenClaim := { program := "ytimdojkhdneecaa", sum := "c9e0761d8c5d31508d75974e157354e46c7653ec7c504ec03c2179b01daa8fa5", func := "headland/headlandlaw12.TreeTwo", spec := "treeTwo", unfollowed := true, recurses := true, apart := false }
def TreeTwoSaid : Prop := treeTwoRow.holds Try.pinned (OpenSpec.ofChange treeTwoSpec)

/-- ITS FALSE NEIGHBOUR: 'it returns false'. Refute it at one input. -/
def treeTwoWrong : ChangeSpec := { name := "treeTwo", fn := fun _ => fun
  | [d1, d2] => { results := [.lit (.bool false)], args := [d1, d2] }
  | _ => none }
def TreeTwoWrongFalsely : Prop := treeTwoRow.holds Try.pinned (OpenSpec.ofChange treeTwoWrong)

/-- 'headlandlaw12.TreePlays': WHATEVER THE INPUT: true; the input reads as it did. -/
def treePlaysSpec : ChangeSpec := { name := "treePlays", fn := fun _ => fun
  | [d1, d2, d3] => { results := [.lit (.bool true)], args := [d1, d2, d3] }
  | _ => none }
def treePlaysRow : OpenClaim := { program := "ytimdojkhdneecaa", sum := "c9e0761d8c5d31508d75974e157354e46c7653ec7c504ec03c2179b01daa8fa5", func := "headland/headlandlaw12.TreePlays", spec := "treePlays", unfollowed := true, recurses := true, apart := false }
def TreePlaysSaid : Prop := treePlaysRow.holds Try.pinned (OpenSpec.ofChange treePlaysSpec)

/-- ITS FALSE NEIGHBOUR: 'it returns false'. Refute it at one input. -/
def treePlaysWrong : ChangeSpec := { name := "treePlays", fn := fun _ => fun
  | [d1, d2, d3] => { results := [.lit (.bool false)], args := [d1, d2, d3] }
  | _ => none }
def TreePlaysWrongFalsely : Prop := treePlaysRow.holds Try.pinned (OpenSpec.ofChange treePlaysWrong)

/-- 'headlandlaw12.TreeNone': WHATEVER THE INPUT: true; the input reads as it did. -/
def treeNoneSpec : ChangeSpec := { name := "treeNone", fn := fun _ => fun
  | [d] => { results := [.lit (.bool true)], args := [d] }
  | _ => none }
def treeNoneRow : OpenClaim := { program := "ytimdojkhdneecaa", sum := "c9e0761d8c5d31508d75974e157354e46c7653ec7c504ec03c2179b01daa8fa5", func := "headland/headlandlaw12.TreeNone", spec := "treeNone", unfollowed := true, recurses := true, apart := false }
def TreeNoneSaid : Prop := treeNoneRow.holds Try.pinned (OpenSpec.ofChange treeNoneSpec)

/-- ITS FALSE NEIGHBOUR: 'it returns false'. Refute it at one input. -/
def treeNoneWrong : ChangeSpec := { name := "treeNone", fn := fun _ => fun
  | [d] => { results := [.lit (.bool false)], args := [d] }
  | _ => none }
def TreeNoneWrongFalsely : Prop := treeNoneRow.holds Try.pinned (OpenSpec.ofChange treeNoneWrong)

/-- 'headlandlaw12.TreeEnds': WHATEVER THE INPUT: true; the input reads as it did. -/
def treeEndsSpec : ChangeSpec := { name := "treeEnds", fn := fun _ => fun
  | [d1, d2] => { results := [.lit (.bool true)], args := [d1, d2] }
  | _ => none }
def treeEndsRow : OpenClaim := { program := "ytimdojkhdneecaa", sum := "c9e0761d8c5d31508d75974e157354e46c7653ec7c504ec03c2179b01daa8fa5", func := "headland/headlandlaw12.TreeEnds", spec := "treeEnds", unfollowed := true, recurses := true, apart := false }
def TreeEndsSaid : Prop := treeEndsRow.holds Try.pinned (OpenSpec.ofChange treeEndsSpec)

/-- ITS FALSE NEIGHBOUR: 'it returns false'. Refute it at one input. -/
def treeEndsWrong : ChangeSpec := { name := "treeEnds", fn := fun _ => fun
  | [d1, d2] => { results := [.lit (.bool false)], args := [d1, d2] }
  | _ => none }
def TreeEndsWrongFalsely : Prop := treeEndsRow.holds Try.pinned (OpenSpec.ofChange treeEndsWrong)

/- THE SECOND FORM. 'bulk': how many values and letters a reading holds, each counted each time it is reached (what is shared counts as often as it is met; a slice's spare places count too). A statement '..UptoSaid' is the law's where the arguments, and the package variables that the reading takes, are together of bulk at most 1048576: NARROWER than '..Said'. Prove '..Said' where nothing that the law and all that it calls make is longer than what came in: it says more and counts as full. Else prove '..UptoSaid'. A law counts once. -/
mutual
def uptoBulk {H : Type} : DataW H → Nat
  | .lit (.string bytes) => bytes.length + 1
  | .lit _ => 1
  | .nil => 1
  | .ptr d => uptoBulk d + 1
  | .slice elems spare => uptoBulkAll elems + uptoBulkAll spare + 1
  | .agg parts => uptoBulkAll parts + 1
  | .iface _ d => uptoBulk d + 1
  | .map entries => uptoBulkEntries entries + 1
  | .held _ => 1
def uptoBulkAll {H : Type} : List (DataW H) → Nat
  | [] => 0
  | d :: r => uptoBulk d + uptoBulkAll r
def uptoBulkEntries {H : Type} : List (Lit × DataW H) → Nat
  | [] => 0
  | x :: r => uptoBulkEntry x + uptoBulkEntries r
def uptoBulkEntry {H : Type} : Lit × DataW H → Nat
  | (.string bytes, d) => bytes.length + uptoBulk d + 1
  | (_, d) => uptoBulk d + 1
 end
def uptoSmall : (H : Type) → List (DataW H) → Bool := fun _ ds => decide (uptoBulkAll ds ≤ 1048576)
def OpenSpec.upto (s : _root_.Go.ChangeSpec) : _root_.Go.OpenSpec := { _root_.Go.OpenSpec.ofChange s with cond := some uptoSmall }

/-- 'headlandlaw12.TreePages', WHERE WHAT IT READS IS OF BULK AT MOST 1048576: true; the input reads as it did. -/
def treePagesUptoRow : OpenClaim := { program := "ytimdojkhdneecaa", sum := "c9e0761d8c5d31508d75974e157354e46c7653ec7c504ec03c2179b01daa8fa5", func := "headland/headlandlaw12.TreePages", spec := "treePages", unfollowed := true, recurses := true, apart := false, narrowed := true }
def TreePagesUptoSaid : Prop := treePagesUptoRow.holds Try.pinned (OpenSpec.upto treePagesSpec)

/-- 'headlandlaw12.TreeTwo', WHERE WHAT IT READS IS OF BULK AT MOST 1048576: true; the input reads as it did. -/
def treeTwoUptoRow : OpenClaim := { program := "ytimdojkhdneecaa", sum := "c9e0761d8c5d31508d75974e157354e46c7653ec7c504ec03c2179b01daa8fa5", func := "headland/headlandlaw12.TreeTwo", spec := "treeTwo", unfollowed := true, recurses := true, apart := false, narrowed := true }
def TreeTwoUptoSaid : Prop := treeTwoUptoRow.holds Try.pinned (OpenSpec.upto treeTwoSpec)

/-- 'headlandlaw12.TreePlays', WHERE WHAT IT READS IS OF BULK AT MOST 1048576: true; the input reads as it did. -/
def treePlaysUptoRow : OpenClaim := { program := "ytimdojkhdneecaa", sum := "c9e0761d8c5d31508d75974e157354e46c7653ec7c504ec03c2179b01daa8fa5", func := "headland/headlandlaw12.TreePlays", spec := "treePlays", unfollowed := true, recurses := true, apart := false, narrowed := true }
def TreePlaysUptoSaid : Prop := treePlaysUptoRow.holds Try.pinned (OpenSpec.upto treePlaysSpec)

/-- 'headlandlaw12.TreeNone', WHERE WHAT IT READS IS OF BULK AT MOST 1048576: true; the input reads as it did. -/
def treeNoneUptoRow : OpenClaim := { program := "ytimdojkhdneecaa", sum := "c9e0761d8c5d31508d75974e157354e46c7653ec7c504ec03c2179b01daa8fa5", func := "headland/headlandlaw12.TreeNone", spec := "treeNone", unfollowed := true, recurses := true, apart := false, narrowed := true }
def TreeNoneUptoSaid : Prop := treeNoneUptoRow.holds Try.pinned (OpenSpec.upto treeNoneSpec)

/-- 'headlandlaw12.TreeEnds', WHERE WHAT IT READS IS OF BULK AT MOST 1048576: true; the input reads as it did. -/
def treeEndsUptoRow : OpenClaim := { program := "ytimdojkhdneecaa", sum := "c9e0761d8c5d31508d75974e157354e46c7653ec7c504ec03c2179b01daa8fa5", func := "headland/headlandlaw12.TreeEnds", spec := "treeEnds", unfollowed := true, recurses := true, apart := false, narrowed := true }
def TreeEndsUptoSaid : Prop := treeEndsUptoRow.holds Try.pinned (OpenSpec.upto treeEndsSpec)

end Rows
end Go.Proofs.Ytimdojkhdneecaa
