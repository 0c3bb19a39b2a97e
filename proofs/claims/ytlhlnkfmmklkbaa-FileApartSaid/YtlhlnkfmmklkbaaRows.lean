/-
  No cell of these rows narrows 'for every input' (looked for: loops, veiled, ifaces, maps, wideKeys, modest, calm, conditions, laid).
  DERIVED. THE GIVEN ROWS OF THIS SEAT. 11 by the template 'for every input the law returns true; each argument reads behind the call as it read before'; 0 by the template 'total and deterministic' (their statements: YtlhlnkfmmklkbaaTotals.lean).
  GIVEN WITH THE SEED: the statements are not yours to turn. If you find one false, say at which input.
  Laid BY PROGRAM, IN A SANDBOX (cutbox-rows.mjs): the forced cells as the released guide's own fill.sh prints them over the translation 6fc451c8bc600081… (all of the seat's roots in one cut). By AI agents, Wed Nov 11 2026. No macro, syntax, notation, axiom, sorry.
-/
import Derived.Test.YtlhlnkfmmklkbaaChecked
import GoSem.Claim
import GoSem.ClaimJoined
import GoSem.ClaimMapViews
import Derived.JoinedTies
import Derived.KernelRfl
namespace Go.Proofs.Ytlhlnkfmmklkbaa
/- THE CELL 'sum', in the pinned program and in every row, IS THE sha256 OF THE DUMP (.gsa) THAT YtlhlnkfmmklkbaaProg.lean LOADS. Nothing in Lean hashes anything: it is a label: what it is worth is what the hold of that sum in a sandbox is worth. -/
noncomputable def Try.pinned : Pinned := { name := "ytlhlnkfmmklkbaa", sum := "6fc451c8bc60008136168bebcb892c58a25fec91f385a34b0e6c1efed66898e6", checked := Try.checked }
namespace Rows
def none {H : Type} : Left H := { results := [], args := [] }

/-- 'headlandlaw14.FilePages': WHATEVER THE INPUT: true; the input reads as it did. -/
def filePagesSpec : ChangeSpec := { name := "filePages", fn := fun _ => fun
  | [d1, d2, d3, d4] => { results := [.lit (.bool true)], args := [d1, d2, d3, d4] }
  | _ => none }
def filePagesRow : OpenClaim := { program := "ytlhlnkfmmklkbaa", sum := "6fc451c8bc60008136168bebcb892c58a25fec91f385a34b0e6c1efed66898e6", func := "headland/headlandlaw14.FilePages", spec := "filePages", apart := false }
def FilePagesSaid : Prop := filePagesRow.holds Try.pinned (OpenSpec.ofChange filePagesSpec)

/-- ITS FALSE NEIGHBOUR: 'it returns false'. Refute it at one input. -/
def filePagesWrong : ChangeSpec := { name := "filePages", fn := fun _ => fun
  | [d1, d2, d3, d4] => { results := [.lit (.bool false)], args := [d1, d2, d3, d4] }
  | _ => none }
def FilePagesWrongFalsely : Prop := filePagesRow.holds Try.pinned (OpenSpec.ofChange filePagesWrong)

/-- 'headlandlaw14.FileFails': WHATEVER THE INPUT: true; the input reads as it did. -/
def fileFailsSpec : ChangeSpec := { name := "fileFails", fn := fun _ => fun
  | [d1, d2, d3] => { results := [.lit (.bool true)], args := [d1, d2, d3] }
  | _ => none }
def fileFailsRow : OpenClaim := { program := "ytlhlnkfmmklkbaa", sum := "6fc451c8bc60008136168bebcb892c58a25fec91f385a34b0e6c1efed66898e6", func := "headland/headlandlaw14.FileFails", spec := "fileFails", apart := false }
def FileFailsSaid : Prop := fileFailsRow.holds Try.pinned (OpenSpec.ofChange fileFailsSpec)

/-- ITS FALSE NEIGHBOUR: 'it returns false'. Refute it at one input. -/
def fileFailsWrong : ChangeSpec := { name := "fileFails", fn := fun _ => fun
  | [d1, d2, d3] => { results := [.lit (.bool false)], args := [d1, d2, d3] }
  | _ => none }
def FileFailsWrongFalsely : Prop := fileFailsRow.holds Try.pinned (OpenSpec.ofChange fileFailsWrong)

/-- 'headlandlaw10.PoolOrder': WHATEVER THE INPUT: true; the input reads as it did. -/
def poolOrderSpec : ChangeSpec := { name := "poolOrder", fn := fun _ => fun
  | [d1, d2] => { results := [.lit (.bool true)], args := [d1, d2] }
  | _ => none }
def poolOrderRow : OpenClaim := { program := "ytlhlnkfmmklkbaa", sum := "6fc451c8bc60008136168bebcb892c58a25fec91f385a34b0e6c1efed66898e6", func := "headland/headlandlaw10.PoolOrder", spec := "poolOrder", apart := false }
def PoolOrderSaid : Prop := poolOrderRow.holds Try.pinned (OpenSpec.ofChange poolOrderSpec)

/-- ITS FALSE NEIGHBOUR: 'it returns false'. Refute it at one input. -/
def poolOrderWrong : ChangeSpec := { name := "poolOrder", fn := fun _ => fun
  | [d1, d2] => { results := [.lit (.bool false)], args := [d1, d2] }
  | _ => none }
def PoolOrderWrongFalsely : Prop := poolOrderRow.holds Try.pinned (OpenSpec.ofChange poolOrderWrong)

/-- 'headlandlaw10.PoolIsolated': WHATEVER THE INPUT: true; the input reads as it did. -/
def poolIsolatedSpec : ChangeSpec := { name := "poolIsolated", fn := fun _ => fun
  | [d] => { results := [.lit (.bool true)], args := [d] }
  | _ => none }
def poolIsolatedRow : OpenClaim := { program := "ytlhlnkfmmklkbaa", sum := "6fc451c8bc60008136168bebcb892c58a25fec91f385a34b0e6c1efed66898e6", func := "headland/headlandlaw10.PoolIsolated", spec := "poolIsolated", apart := false }
def PoolIsolatedSaid : Prop := poolIsolatedRow.holds Try.pinned (OpenSpec.ofChange poolIsolatedSpec)

/-- ITS FALSE NEIGHBOUR: 'it returns false'. Refute it at one input. -/
def poolIsolatedWrong : ChangeSpec := { name := "poolIsolated", fn := fun _ => fun
  | [d] => { results := [.lit (.bool false)], args := [d] }
  | _ => none }
def PoolIsolatedWrongFalsely : Prop := poolIsolatedRow.holds Try.pinned (OpenSpec.ofChange poolIsolatedWrong)

/-- 'headlandlaw10.PoolRuns': WHATEVER THE INPUT: true; the input reads as it did. -/
def poolRunsSpec : ChangeSpec := { name := "poolRuns", fn := fun _ => fun
  | [d1, d2] => { results := [.lit (.bool true)], args := [d1, d2] }
  | _ => none }
def poolRunsRow : OpenClaim := { program := "ytlhlnkfmmklkbaa", sum := "6fc451c8bc60008136168bebcb892c58a25fec91f385a34b0e6c1efed66898e6", func := "headland/headlandlaw10.PoolRuns", spec := "poolRuns", apart := false }
def PoolRunsSaid : Prop := poolRunsRow.holds Try.pinned (OpenSpec.ofChange poolRunsSpec)

/-- ITS FALSE NEIGHBOUR: 'it returns false'. Refute it at one input. -/
def poolRunsWrong : ChangeSpec := { name := "poolRuns", fn := fun _ => fun
  | [d1, d2] => { results := [.lit (.bool false)], args := [d1, d2] }
  | _ => none }
def PoolRunsWrongFalsely : Prop := poolRunsRow.holds Try.pinned (OpenSpec.ofChange poolRunsWrong)

/-- 'headlandlaw10.PoolTwice': WHATEVER THE INPUT: true; the input reads as it did. -/
def poolTwiceSpec : ChangeSpec := { name := "poolTwice", fn := fun _ => fun
  | [d1, d2] => { results := [.lit (.bool true)], args := [d1, d2] }
  | _ => none }
def poolTwiceRow : OpenClaim := { program := "ytlhlnkfmmklkbaa", sum := "6fc451c8bc60008136168bebcb892c58a25fec91f385a34b0e6c1efed66898e6", func := "headland/headlandlaw10.PoolTwice", spec := "poolTwice", apart := false }
def PoolTwiceSaid : Prop := poolTwiceRow.holds Try.pinned (OpenSpec.ofChange poolTwiceSpec)

/-- ITS FALSE NEIGHBOUR: 'it returns false'. Refute it at one input. -/
def poolTwiceWrong : ChangeSpec := { name := "poolTwice", fn := fun _ => fun
  | [d1, d2] => { results := [.lit (.bool false)], args := [d1, d2] }
  | _ => none }
def PoolTwiceWrongFalsely : Prop := poolTwiceRow.holds Try.pinned (OpenSpec.ofChange poolTwiceWrong)

/-- 'headlandlaw10.PoolPlays': WHATEVER THE INPUT: true; the input reads as it did. -/
def poolPlaysSpec : ChangeSpec := { name := "poolPlays", fn := fun _ => fun
  | [d] => { results := [.lit (.bool true)], args := [d] }
  | _ => none }
def poolPlaysRow : OpenClaim := { program := "ytlhlnkfmmklkbaa", sum := "6fc451c8bc60008136168bebcb892c58a25fec91f385a34b0e6c1efed66898e6", func := "headland/headlandlaw10.PoolPlays", spec := "poolPlays", apart := false }
def PoolPlaysSaid : Prop := poolPlaysRow.holds Try.pinned (OpenSpec.ofChange poolPlaysSpec)

/-- ITS FALSE NEIGHBOUR: 'it returns false'. Refute it at one input. -/
def poolPlaysWrong : ChangeSpec := { name := "poolPlays", fn := fun _ => fun
  | [d] => { results := [.lit (.bool false)], args := [d] }
  | _ => none }
def PoolPlaysWrongFalsely : Prop := poolPlaysRow.holds Try.pinned (OpenSpec.ofChange poolPlaysWrong)

/-- 'headlandlaw10.PoolCounts': WHATEVER THE INPUT: true; the input reads as it did. -/
def poolCountsSpec : ChangeSpec := { name := "poolCounts", fn := fun _ => fun
  | [d1, d2] => { results := [.lit (.bool true)], args := [d1, d2] }
  | _ => none }
def poolCountsRow : OpenClaim := { program := "ytlhlnkfmmklkbaa", sum := "6fc451c8bc60008136168bebcb892c58a25fec91f385a34b0e6c1efed66898e6", func := "headland/headlandlaw10.PoolCounts", spec := "poolCounts", apart := false }
def PoolCountsSaid : Prop := poolCountsRow.holds Try.pinned (OpenSpec.ofChange poolCountsSpec)

/-- ITS FALSE NEIGHBOUR: 'it returns false'. Refute it at one input. -/
def poolCountsWrong : ChangeSpec := { name := "poolCounts", fn := fun _ => fun
  | [d1, d2] => { results := [.lit (.bool false)], args := [d1, d2] }
  | _ => none }
def PoolCountsWrongFalsely : Prop := poolCountsRow.holds Try.pinned (OpenSpec.ofChange poolCountsWrong)

/-- 'headlandlaw10.PoolBad': WHATEVER THE INPUT: true; the input reads as it did. -/
def poolBadSpec : ChangeSpec := { name := "poolBad", fn := fun _ => fun
  | [d1, d2] => { results := [.lit (.bool true)], args := [d1, d2] }
  | _ => none }
def poolBadRow : OpenClaim := { program := "ytlhlnkfmmklkbaa", sum := "6fc451c8bc60008136168bebcb892c58a25fec91f385a34b0e6c1efed66898e6", func := "headland/headlandlaw10.PoolBad", spec := "poolBad", apart := false }
def PoolBadSaid : Prop := poolBadRow.holds Try.pinned (OpenSpec.ofChange poolBadSpec)

/-- ITS FALSE NEIGHBOUR: 'it returns false'. Refute it at one input. -/
def poolBadWrong : ChangeSpec := { name := "poolBad", fn := fun _ => fun
  | [d1, d2] => { results := [.lit (.bool false)], args := [d1, d2] }
  | _ => none }
def PoolBadWrongFalsely : Prop := poolBadRow.holds Try.pinned (OpenSpec.ofChange poolBadWrong)

/-- 'headlandlaw10.PoolNone': WHATEVER THE INPUT: true; the input reads as it did. -/
def poolNoneSpec : ChangeSpec := { name := "poolNone", fn := fun _ => fun
  | [d] => { results := [.lit (.bool true)], args := [d] }
  | _ => none }
def poolNoneRow : OpenClaim := { program := "ytlhlnkfmmklkbaa", sum := "6fc451c8bc60008136168bebcb892c58a25fec91f385a34b0e6c1efed66898e6", func := "headland/headlandlaw10.PoolNone", spec := "poolNone", apart := false }
def PoolNoneSaid : Prop := poolNoneRow.holds Try.pinned (OpenSpec.ofChange poolNoneSpec)

/-- ITS FALSE NEIGHBOUR: 'it returns false'. Refute it at one input. -/
def poolNoneWrong : ChangeSpec := { name := "poolNone", fn := fun _ => fun
  | [d] => { results := [.lit (.bool false)], args := [d] }
  | _ => none }
def PoolNoneWrongFalsely : Prop := poolNoneRow.holds Try.pinned (OpenSpec.ofChange poolNoneWrong)

/-- 'headlandlaw14.FileApart': WHATEVER THE INPUT: true; the input reads as it did. -/
def fileApartSpec : ChangeSpec := { name := "fileApart", fn := fun _ => fun
  | [d] => { results := [.lit (.bool true)], args := [d] }
  | _ => none }
def fileApartRow : OpenClaim := { program := "ytlhlnkfmmklkbaa", sum := "6fc451c8bc60008136168bebcb892c58a25fec91f385a34b0e6c1efed66898e6", func := "headland/headlandlaw14.FileApart", spec := "fileApart", unfollowed := true, recurses := true, apart := false }
def FileApartSaid : Prop := fileApartRow.holds Try.pinned (OpenSpec.ofChange fileApartSpec)

/-- ITS FALSE NEIGHBOUR: 'it returns false'. Refute it at one input. -/
def fileApartWrong : ChangeSpec := { name := "fileApart", fn := fun _ => fun
  | [d] => { results := [.lit (.bool false)], args := [d] }
  | _ => none }
def FileApartWrongFalsely : Prop := fileApartRow.holds Try.pinned (OpenSpec.ofChange fileApartWrong)

/- THE SECOND FORM. 'bulk': how many values and letters a reading holds, each counted each time it is reached (what is shared counts as often as it is met; a slice's spare places count too). A statement '..UptoSaid' is the law's where the arguments, and the package variables that the reading takes, are together of bulk at most 1048576: NARROWER than '..Said'. Prove '..Said' where nothing that the law and all that it calls make is longer than what came in: it says more and counts as full. Else prove '..UptoSaid'. A law counts once. -/
mutual
def uptoBulk {H : Type} : DataW H → Nat
  | .lit (.string bytes) => bytes.length + 1
  | .lit _ => 1
  | .nil => 1
  | .ptr d => uptoBulk d + 1
  | .slice elems spare => uptoBulkAll elems + uptoBulkAll spare + 1
  | .agg parts => uptoBulkAll parts + 1
  | .iface _ d => uptoBulk d + 1
  | .map entries => uptoBulkEntries entries + 1
  | .held _ => 1
def uptoBulkAll {H : Type} : List (DataW H) → Nat
  | [] => 0
  | d :: r => uptoBulk d + uptoBulkAll r
def uptoBulkEntries {H : Type} : List (Lit × DataW H) → Nat
  | [] => 0
  | x :: r => uptoBulkEntry x + uptoBulkEntries r
def uptoBulkEntry {H : Type} : Lit × DataW H → Nat
  | (.string bytes, d) => bytes.length + uptoBulk d + 1
  | (_, d) => uptoBulk d + 1
 end
def uptoSmall : (H : Type) → List (DataW H) → Bool := fun _ ds => decide (uptoBulkAll ds ≤ 1048576)
def OpenSpec.upto (s : _root_.Go.ChangeSpec) : _root_.Go.OpenSpec := { _root_.Go.OpenSpec.ofChange s with cond := some uptoSmall }

/-- 'headlandlaw14.FilePages', WHERE WHAT IT READS IS OF BULK AT MOST 1048576: true; the input reads as it did. -/
def filePagesUptoRow : OpenClaim := { program := "ytlhlnkfmmklkbaa", sum := "6fc451c8bc60008136168bebcb892c58a25fec91f385a34b0e6c1efed66898e6", func := "headland/headlandlaw14.FilePages", spec := "filePages", apart := false, narrowed := true }
def FilePagesUptoSaid : Prop := filePagesUptoRow.holds Try.pinned (OpenSpec.upto filePagesSpec)

/-- 'headlandlaw14.FileFails', WHERE WHAT IT READS IS OF BULK AT MOST 1048576: true; the input reads as it did. -/
def fileFailsUptoRow : OpenClaim := { program := "ytlhlnkfmmklkbaa", sum := "6fc451c8bc60008136168bebcb892c58a25fec91f385a34b0e6c1efed66898e6", func := "headland/headlandlaw14.FileFails", spec := "fileFails", apart := false, narrowed := true }
def FileFailsUptoSaid : Prop := fileFailsUptoRow.holds Try.pinned (OpenSpec.upto fileFailsSpec)

/-- 'headlandlaw10.PoolOrder', WHERE WHAT IT READS IS OF BULK AT MOST 1048576: true; the input reads as it did. -/
def poolOrderUptoRow : OpenClaim := { program := "ytlhlnkfmmklkbaa", sum := "6fc451c8bc60008136168bebcb892c58a25fec91f385a34b0e6c1efed66898e6", func := "headland/headlandlaw10.PoolOrder", spec := "poolOrder", apart := false, narrowed := true }
def PoolOrderUptoSaid : Prop := poolOrderUptoRow.holds Try.pinned (OpenSpec.upto poolOrderSpec)

/-- 'headlandlaw10.PoolIsolated', WHERE WHAT IT READS IS OF BULK AT MOST 1048576: true; the input reads as it did. -/
def poolIsolatedUptoRow : OpenClaim := { program := "ytlhlnkfmmklkbaa", sum := "6fc451c8bc60008136168bebcb892c58a25fec91f385a34b0e6c1efed66898e6", func := "headland/headlandlaw10.PoolIsolated", spec := "poolIsolated", apart := false, narrowed := true }
def PoolIsolatedUptoSaid : Prop := poolIsolatedUptoRow.holds Try.pinned (OpenSpec.upto poolIsolatedSpec)

/-- 'headlandlaw10.PoolRuns', WHERE WHAT IT READS IS OF BULK AT MOST 1048576: true; the input reads as it did. -/
def poolRunsUptoRow : OpenClaim := { program := "ytlhlnkfmmklkbaa", sum := "6fc451c8bc60008136168bebcb892c58a25fec91f385a34b0e6c1efed66898e6", func := "headland/headlandlaw10.PoolRuns", spec := "poolRuns", apart := false, narrowed := true }
def PoolRunsUptoSaid : Prop := poolRunsUptoRow.holds Try.pinned (OpenSpec.upto poolRunsSpec)

/-- 'headlandlaw10.PoolTwice', WHERE WHAT IT READS IS OF BULK AT MOST 1048576: true; the input reads as it did. -/
def poolTwiceUptoRow : OpenClaim := { program := "ytlhlnkfmmklkbaa", sum := "6fc451c8bc60008136168bebcb892c58a25fec91f385a34b0e6c1efed66898e6", func := "headland/headlandlaw10.PoolTwice", spec := "poolTwice", apart := false, narrowed := true }
def PoolTwiceUptoSaid : Prop := poolTwiceUptoRow.holds Try.pinned (OpenSpec.upto poolTwiceSpec)

/-- 'headlandlaw10.PoolPlays', WHERE WHAT IT READS IS OF BULK AT MOST 1048576: true; the input reads as it did. -/
def poolPlaysUptoRow : OpenClaim := { program := "ytlhlnkfmmklkbaa", sum := "6fc451c8bc60008136168bebcb892c58a25fec91f385a34b0e6c1efed66898e6", func := "headland/headlandlaw10.PoolPlays", spec := "poolPlays", apart := false, narrowed := true }
def PoolPlaysUptoSaid : Prop := poolPlaysUptoRow.holds Try.pinned (OpenSpec.upto poolPlaysSpec)

/-- 'headlandlaw10.PoolCounts', WHERE WHAT IT READS IS OF BULK AT MOST 1048576: true; the input reads as it did. -/
def poolCountsUptoRow : OpenClaim := { program := "ytlhlnkfmmklkbaa", sum := "6fc451c8bc60008136168bebcb892c58a25fec91f385a34b0e6c1efed66898e6", func := "headland/headlandlaw10.PoolCounts", spec := "poolCounts", apart := false, narrowed := true }
def PoolCountsUptoSaid : Prop := poolCountsUptoRow.holds Try.pinned (OpenSpec.upto poolCountsSpec)

/-- 'headlandlaw10.PoolBad', WHERE WHAT IT READS IS OF BULK AT MOST 1048576: true; the input reads as it did. -/
def poolBadUptoRow : OpenClaim := { program := "ytlhlnkfmmklkbaa", sum := "6fc451c8bc60008136168bebcb892c58a25fec91f385a34b0e6c1efed66898e6", func := "headland/headlandlaw10.PoolBad", spec := "poolBad", apart := false, narrowed := true }
def PoolBadUptoSaid : Prop := poolBadUptoRow.holds Try.pinned (OpenSpec.upto poolBadSpec)

/-- 'headlandlaw10.PoolNone', WHERE WHAT IT READS IS OF BULK AT MOST 1048576: true; the input reads as it did. -/
def poolNoneUptoRow : OpenClaim := { program := "ytlhlnkfmmklkbaa", sum := "6fc451c8bc60008136168bebcb892c58a25fec91f385a34b0e6c1efed66898e6", func := "headland/headlandlaw10.PoolNone", spec := "poolNone", apart := false, narrowed := true }
def PoolNoneUptoSaid : Prop := poolNoneUptoRow.holds Try.pinned (OpenSpec.upto poolNoneSpec)

/-- 'headlandlaw14.FileApart', WHERE WHAT IT READS IS OF BULK AT MOST 1048576: true; the input reads as it did. -/
def fileApartUptoRow : OpenClaim := { program := "ytlhlnkfmmklkbaa", sum := "6fc451c8bc60008136168bebcb892c58a25fec91f385a34b0e6c1efed66898e6", func := "headland/headlandlaw14.FileApart", spec := "fileApart", unfollowed := true, recurses := true, apart := false, narrowed := true }
def FileApartUptoSaid : Prop := fileApartUptoRow.holds Try.pinned (OpenSpec.upto fileApartSpec)

end Rows
end Go.Proofs.Ytlhlnkfmmklkbaa
