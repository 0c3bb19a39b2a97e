/-
  No cell of these rows narrows 'for every input' (looked for: loops, veiled, ifaces, maps, wideKeys, modest, calm, conditions, laid).
  DERIVED. THE GIVEN ROWS OF THIS SEAT. 9 by the template 'for every input the law returns true; each argument reads behind the call as it read before'; 0 by the template 'total and deterministic' (their statements: YtilameppdnmgdaaTotals.lean).
  GIVEN WITH THE SEED: the statements are not yours to turn. If you find one false, say at which input.
  Laid BY PROGRAM, IN A SANDBOX (cutbox-rows.mjs): the forced cells as the released guide's own fill.sh prints them over the translation 76ecf3bb1fdb3c48… (all of the seat's roots in one cut). By AI agents, Wed Nov 11 2026. No macro, syntax, notation, axiom, sorry.
-/
import Derived.Test.YtilameppdnmgdaaChecked
import GoSem.Claim
import GoSem.ClaimJoined
import GoSem.ClaimMapViews
import Derived.JoinedTies
import Derived.KernelRfl
namespace Go.Proofs.Ytilameppdnmgdaa
/- THE CELL 'sum', in the pinned program and in every row, IS THE sha256 OF THE DUMP (.gsa) THAT YtilameppdnmgdaaProg.lean LOADS. Nothing in Lean hashes anything: it is a label: what it is worth is what the hold of that sum in a sandbox is worth. -/
noncomputable def Try.pinned : Pinned := { name := "ytilameppdnmgdaa", sum := "76ecf3bb1fdb3c48cadf2609119a667df735fe6fadc45f111d45f49473ee024d", checked := Try.checked }
namespace Rows
def none {H : Type} : Left H := { results := [], args := [] }

/-- 'headlandlaw02.RamOwn': WHATEVER THE INPUT: true; the input reads as it did. -/
def ramOwnSpec : ChangeSpec := { name := "ramOwn", fn := fun _ => fun
  | [d] => { results := [.lit (.bool true)], args := [d] }
  | _ => none }
def ramOwnRow : OpenClaim := { program := "ytilameppdnmgdaa", sum := "76ecf3bb1fdb3c48cadf2609119a667df735fe6fadc45f111d45f49473ee024d", func := "headland/headlandlaw02.RamOwn", spec := "ramOwn", apart := false }
def RamOwnSaid : Prop := ramOwnRow.holds Try.pinned (OpenSpec.ofChange ramOwnSpec)

/-- ITS FALSE NEIGHBOUR: 'it returns false'. Refute it at one input. -/
def ramOwnWrong : ChangeSpec := { name := "ramOwn", fn := fun _ => fun
  | [d] => { results := [.lit (.bool false)], args := [d] }
  | _ => none }
def RamOwnWrongFalsely : Prop := ramOwnRow.holds Try.pinned (OpenSpec.ofChange ramOwnWrong)

/-- 'headlandlaw08.RunsHalves': WHATEVER THE INPUT: true; the input reads as it did. -/
def runsHalvesSpec : ChangeSpec := { name := "runsHalves", fn := fun _ => fun
  | [d1, d2] => { results := [.lit (.bool true)], args := [d1, d2] }
  | _ => none }
def runsHalvesRow : OpenClaim := { program := "ytilameppdnmgdaa", sum := "76ecf3bb1fdb3c48cadf2609119a667df735fe6fadc45f111d45f49473ee024d", func := "headland/headlandlaw08.RunsHalves", spec := "runsHalves", apart := false }
def RunsHalvesSaid : Prop := runsHalvesRow.holds Try.pinned (OpenSpec.ofChange runsHalvesSpec)

/-- ITS FALSE NEIGHBOUR: 'it returns false'. Refute it at one input. -/
def runsHalvesWrong : ChangeSpec := { name := "runsHalves", fn := fun _ => fun
  | [d1, d2] => { results := [.lit (.bool false)], args := [d1, d2] }
  | _ => none }
def RunsHalvesWrongFalsely : Prop := runsHalvesRow.holds Try.pinned (OpenSpec.ofChange runsHalvesWrong)

/-- 'headlandlaw08.RunsPlays': WHATEVER THE INPUT: true; the input reads as it did. -/
def runsPlaysSpec : ChangeSpec := { name := "runsPlays", fn := fun _ => fun
  | [d1, d2, d3, d4, d5, d6] => { results := [.lit (.bool true)], args := [d1, d2, d3, d4, d5, d6] }
  | _ => none }
def runsPlaysRow : OpenClaim := { program := "ytilameppdnmgdaa", sum := "76ecf3bb1fdb3c48cadf2609119a667df735fe6fadc45f111d45f49473ee024d", func := "headland/headlandlaw08.RunsPlays", spec := "runsPlays", apart := false }
def RunsPlaysSaid : Prop := runsPlaysRow.holds Try.pinned (OpenSpec.ofChange runsPlaysSpec)

/-- ITS FALSE NEIGHBOUR: 'it returns false'. Refute it at one input. -/
def runsPlaysWrong : ChangeSpec := { name := "runsPlays", fn := fun _ => fun
  | [d1, d2, d3, d4, d5, d6] => { results := [.lit (.bool false)], args := [d1, d2, d3, d4, d5, d6] }
  | _ => none }
def RunsPlaysWrongFalsely : Prop := runsPlaysRow.holds Try.pinned (OpenSpec.ofChange runsPlaysWrong)

/-- 'headlandlaw08.RunsNone': WHATEVER THE INPUT: true; the input reads as it did. -/
def runsNoneSpec : ChangeSpec := { name := "runsNone", fn := fun _ => fun
  | [d] => { results := [.lit (.bool true)], args := [d] }
  | _ => none }
def runsNoneRow : OpenClaim := { program := "ytilameppdnmgdaa", sum := "76ecf3bb1fdb3c48cadf2609119a667df735fe6fadc45f111d45f49473ee024d", func := "headland/headlandlaw08.RunsNone", spec := "runsNone", apart := false }
def RunsNoneSaid : Prop := runsNoneRow.holds Try.pinned (OpenSpec.ofChange runsNoneSpec)

/-- ITS FALSE NEIGHBOUR: 'it returns false'. Refute it at one input. -/
def runsNoneWrong : ChangeSpec := { name := "runsNone", fn := fun _ => fun
  | [d] => { results := [.lit (.bool false)], args := [d] }
  | _ => none }
def RunsNoneWrongFalsely : Prop := runsNoneRow.holds Try.pinned (OpenSpec.ofChange runsNoneWrong)

/-- 'headlandlaw08.RunsWhole': WHATEVER THE INPUT: true; the input reads as it did. -/
def runsWholeSpec : ChangeSpec := { name := "runsWhole", fn := fun _ => fun
  | [d1, d2, d3] => { results := [.lit (.bool true)], args := [d1, d2, d3] }
  | _ => none }
def runsWholeRow : OpenClaim := { program := "ytilameppdnmgdaa", sum := "76ecf3bb1fdb3c48cadf2609119a667df735fe6fadc45f111d45f49473ee024d", func := "headland/headlandlaw08.RunsWhole", spec := "runsWhole", apart := false }
def RunsWholeSaid : Prop := runsWholeRow.holds Try.pinned (OpenSpec.ofChange runsWholeSpec)

/-- ITS FALSE NEIGHBOUR: 'it returns false'. Refute it at one input. -/
def runsWholeWrong : ChangeSpec := { name := "runsWhole", fn := fun _ => fun
  | [d1, d2, d3] => { results := [.lit (.bool false)], args := [d1, d2, d3] }
  | _ => none }
def RunsWholeWrongFalsely : Prop := runsWholeRow.holds Try.pinned (OpenSpec.ofChange runsWholeWrong)

/-- 'headlandlaw02.RamCopies': WHATEVER THE INPUT: true; the input reads as it did. -/
def ramCopiesSpec : ChangeSpec := { name := "ramCopies", fn := fun _ => fun
  | [d1, d2, d3] => { results := [.lit (.bool true)], args := [d1, d2, d3] }
  | _ => none }
def ramCopiesRow : OpenClaim := { program := "ytilameppdnmgdaa", sum := "76ecf3bb1fdb3c48cadf2609119a667df735fe6fadc45f111d45f49473ee024d", func := "headland/headlandlaw02.RamCopies", spec := "ramCopies", apart := false }
def RamCopiesSaid : Prop := ramCopiesRow.holds Try.pinned (OpenSpec.ofChange ramCopiesSpec)

/-- ITS FALSE NEIGHBOUR: 'it returns false'. Refute it at one input. -/
def ramCopiesWrong : ChangeSpec := { name := "ramCopies", fn := fun _ => fun
  | [d1, d2, d3] => { results := [.lit (.bool false)], args := [d1, d2, d3] }
  | _ => none }
def RamCopiesWrongFalsely : Prop := ramCopiesRow.holds Try.pinned (OpenSpec.ofChange ramCopiesWrong)

/-- 'headlandlaw02.RamPlays': WHATEVER THE INPUT: true; the input reads as it did. -/
def ramPlaysSpec : ChangeSpec := { name := "ramPlays", fn := fun _ => fun
  | [d1, d2] => { results := [.lit (.bool true)], args := [d1, d2] }
  | _ => none }
def ramPlaysRow : OpenClaim := { program := "ytilameppdnmgdaa", sum := "76ecf3bb1fdb3c48cadf2609119a667df735fe6fadc45f111d45f49473ee024d", func := "headland/headlandlaw02.RamPlays", spec := "ramPlays", apart := false }
def RamPlaysSaid : Prop := ramPlaysRow.holds Try.pinned (OpenSpec.ofChange ramPlaysSpec)

/-- ITS FALSE NEIGHBOUR: 'it returns false'. Refute it at one input. -/
def ramPlaysWrong : ChangeSpec := { name := "ramPlays", fn := fun _ => fun
  | [d1, d2] => { results := [.lit (.bool false)], args := [d1, d2] }
  | _ => none }
def RamPlaysWrongFalsely : Prop := ramPlaysRow.holds Try.pinned (OpenSpec.ofChange ramPlaysWrong)

/-- 'headlandlaw02.RamNone': WHATEVER THE INPUT: true; the input reads as it did. -/
def ramNoneSpec : ChangeSpec := { name := "ramNone", fn := fun _ => fun
  | [d1, d2, d3] => { results := [.lit (.bool true)], args := [d1, d2, d3] }
  | _ => none }
def ramNoneRow : OpenClaim := { program := "ytilameppdnmgdaa", sum := "76ecf3bb1fdb3c48cadf2609119a667df735fe6fadc45f111d45f49473ee024d", func := "headland/headlandlaw02.RamNone", spec := "ramNone", apart := false }
def RamNoneSaid : Prop := ramNoneRow.holds Try.pinned (OpenSpec.ofChange ramNoneSpec)

/-- ITS FALSE NEIGHBOUR: 'it returns false'. Refute it at one input. -/
def ramNoneWrong : ChangeSpec := { name := "ramNone", fn := fun _ => fun
  | [d1, d2, d3] => { results := [.lit (.bool false)], args := [d1, d2, d3] }
  | _ => none }
def RamNoneWrongFalsely : Prop := ramNoneRow.holds Try.pinned (OpenSpec.ofChange ramNoneWrong)

/-- 'headlandlaw02.RamPoison': WHATEVER THE INPUT: true; the input reads as it did. -/
def ramPoisonSpec : ChangeSpec := { name := "ramPoison", fn := fun _ => fun
  | [d1, d2, d3] => { results := [.lit (.bool true)], args := [d1, d2, d3] }
  | _ => none }
def ramPoisonRow : OpenClaim := { program := "ytilameppdnmgdaa", sum := "76ecf3bb1fdb3c48cadf2609119a667df735fe6fadc45f111d45f49473ee024d", func := "headland/headlandlaw02.RamPoison", spec := "ramPoison", apart := false }
def RamPoisonSaid : Prop := ramPoisonRow.holds Try.pinned (OpenSpec.ofChange ramPoisonSpec)

/-- ITS FALSE NEIGHBOUR: 'it returns false'. Refute it at one input. -/
def ramPoisonWrong : ChangeSpec := { name := "ramPoison", fn := fun _ => fun
  | [d1, d2, d3] => { results := [.lit (.bool false)], args := [d1, d2, d3] }
  | _ => none }
def RamPoisonWrongFalsely : Prop := ramPoisonRow.holds Try.pinned (OpenSpec.ofChange ramPoisonWrong)

/- THE SECOND FORM. 'bulk': how many values and letters a reading holds, each counted each time it is reached (what is shared counts as often as it is met; a slice's spare places count too). A statement '..UptoSaid' is the law's where the arguments, and the package variables that the reading takes, are together of bulk at most 1048576: NARROWER than '..Said'. Prove '..Said' where nothing that the law and all that it calls make is longer than what came in: it says more and counts as full. Else prove '..UptoSaid'. A law counts once. -/
mutual
def uptoBulk {H : Type} : DataW H → Nat
  | .lit (.string bytes) => bytes.length + 1
  | .lit _ => 1
  | .nil => 1
  | .ptr d => uptoBulk d + 1
  | .slice elems spare => uptoBulkAll elems + uptoBulkAll spare + 1
  | .agg parts => uptoBulkAll parts + 1
  | .iface _ d => uptoBulk d + 1
  | .map entries => uptoBulkEntries entries + 1
  | .held _ => 1
def uptoBulkAll {H : Type} : List (DataW H) → Nat
  | [] => 0
  | d :: r => uptoBulk d + uptoBulkAll r
def uptoBulkEntries {H : Type} : List (Lit × DataW H) → Nat
  | [] => 0
  | x :: r => uptoBulkEntry x + uptoBulkEntries r
def uptoBulkEntry {H : Type} : Lit × DataW H → Nat
  | (.string bytes, d) => bytes.length + uptoBulk d + 1
  | (_, d) => uptoBulk d + 1
 end
def uptoSmall : (H : Type) → List (DataW H) → Bool := fun _ ds => decide (uptoBulkAll ds ≤ 1048576)
def OpenSpec.upto (s : _root_.Go.ChangeSpec) : _root_.Go.OpenSpec := { _root_.Go.OpenSpec.ofChange s with cond := some uptoSmall }

/-- 'headlandlaw02.RamOwn', WHERE WHAT IT READS IS OF BULK AT MOST 1048576: true; the input reads as it did. -/
def ramOwnUptoRow : OpenClaim := { program := "ytilameppdnmgdaa", sum := "76ecf3bb1fdb3c48cadf2609119a667df735fe6fadc45f111d45f49473ee024d", func := "headland/headlandlaw02.RamOwn", spec := "ramOwn", apart := false, narrowed := true }
def RamOwnUptoSaid : Prop := ramOwnUptoRow.holds Try.pinned (OpenSpec.upto ramOwnSpec)

/-- 'headlandlaw08.RunsHalves', WHERE WHAT IT READS IS OF BULK AT MOST 1048576: true; the input reads as it did. -/
def runsHalvesUptoRow : OpenClaim := { program := "ytilameppdnmgdaa", sum := "76ecf3bb1fdb3c48cadf2609119a667df735fe6fadc45f111d45f49473ee024d", func := "headland/headlandlaw08.RunsHalves", spec := "runsHalves", apart := false, narrowed := true }
def RunsHalvesUptoSaid : Prop := runsHalvesUptoRow.holds Try.pinned (OpenSpec.upto runsHalvesSpec)

/-- 'headlandlaw08.RunsPlays', WHERE WHAT IT READS IS OF BULK AT MOST 1048576: true; the input reads as it did. -/
def runsPlaysUptoRow : OpenClaim := { program := "ytilameppdnmgdaa", sum := "76ecf3bb1fdb3c48cadf2609119a667df735fe6fadc45f111d45f49473ee024d", func := "headland/headlandlaw08.RunsPlays", spec := "runsPlays", apart := false, narrowed := true }
def RunsPlaysUptoSaid : Prop := runsPlaysUptoRow.holds Try.pinned (OpenSpec.upto runsPlaysSpec)

/-- 'headlandlaw08.RunsNone', WHERE WHAT IT READS IS OF BULK AT MOST 1048576: true; the input reads as it did. -/
def runsNoneUptoRow : OpenClaim := { program := "ytilameppdnmgdaa", sum := "76ecf3bb1fdb3c48cadf2609119a667df735fe6fadc45f111d45f49473ee024d", func := "headland/headlandlaw08.RunsNone", spec := "runsNone", apart := false, narrowed := true }
def RunsNoneUptoSaid : Prop := runsNoneUptoRow.holds Try.pinned (OpenSpec.upto runsNoneSpec)

/-- 'headlandlaw08.RunsWhole', WHERE WHAT IT READS IS OF BULK AT MOST 1048576: true; the input reads as it did. -/
def runsWholeUptoRow : OpenClaim := { program := "ytilameppdnmgdaa", sum := "76ecf3bb1fdb3c48cadf2609119a667df735fe6fadc45f111d45f49473ee024d", func := "headland/headlandlaw08.RunsWhole", spec := "runsWhole", apart := false, narrowed := true }
def RunsWholeUptoSaid : Prop := runsWholeUptoRow.holds Try.pinned (OpenSpec.upto runsWholeSpec)

/-- 'headlandlaw02.RamCopies', WHERE WHAT IT READS IS OF BULK AT MOST 1048576: true; the input reads as it did. -/
def ramCopiesUptoRow : OpenClaim := { program := "ytilameppdnmgdaa", sum := "76ecf3bb1fdb3c48cadf2609119a667df735fe6fadc45f111d45f49473ee024d", func := "headland/headlandlaw02.RamCopies", spec := "ramCopies", apart := false, narrowed := true }
def RamCopiesUptoSaid : Prop := ramCopiesUptoRow.holds Try.pinned (OpenSpec.upto ramCopiesSpec)

/-- 'headlandlaw02.RamPlays', WHERE WHAT IT READS IS OF BULK AT MOST 1048576: true; the input reads as it did. -/
def ramPlaysUptoRow : OpenClaim := { program := "ytilameppdnmgdaa", sum := "76ecf3bb1fdb3c48cadf2609119a667df735fe6fadc45f111d45f49473ee024d", func := "headland/headlandlaw02.RamPlays", spec := "ramPlays", apart := false, narrowed := true }
def RamPlaysUptoSaid : Prop := ramPlaysUptoRow.holds Try.pinned (OpenSpec.upto ramPlaysSpec)

/-- 'headlandlaw02.RamNone', WHERE WHAT IT READS IS OF BULK AT MOST 1048576: true; the input reads as it did. -/
def ramNoneUptoRow : OpenClaim := { program := "ytilameppdnmgdaa", sum := "76ecf3bb1fdb3c48cadf2609119a667df735fe6fadc45f111d45f49473ee024d", func := "headland/headlandlaw02.RamNone", spec := "ramNone", apart := false, narrowed := true }
def RamNoneUptoSaid : Prop := ramNoneUptoRow.holds Try.pinned (OpenSpec.upto ramNoneSpec)

/-- 'headlandlaw02.RamPoison', WHERE WHAT IT READS IS OF BULK AT MOST 1048576: true; the input reads as it did. -/
def ramPoisonUptoRow : OpenClaim := { program := "ytilameppdnmgdaa", sum := "76ecf3bb1fdb3c48cadf2609119a667df735fe6fadc45f111d45f49473ee024d", func := "headland/headlandlaw02.RamPoison", spec := "ramPoison", apart := false, narrowed := true }
def RamPoisonUptoSaid : Prop := ramPoisonUptoRow.holds Try.pinned (OpenSpec.upto ramPoisonSpec)

end Rows
end Go.Proofs.Ytilameppdnmgdaa
