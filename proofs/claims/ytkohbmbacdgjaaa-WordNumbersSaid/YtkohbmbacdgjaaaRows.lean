/-
  No cell of these rows narrows 'for every input' (looked for: loops, veiled, ifaces, maps, wideKeys, modest, calm, conditions, laid).
  DERIVED. THE GIVEN ROWS OF THIS SEAT. 9 by the template 'for every input the law returns true; each argument reads behind the call as it read before'; 0 by the template 'total and deterministic' (their statements: YtkohbmbacdgjaaaTotals.lean).
  GIVEN WITH THE SEED: the statements are not yours to turn. If you find one false, say at which input.
  Laid BY PROGRAM, IN A SANDBOX (cutbox-rows.mjs): the forced cells as the released guide's own fill.sh prints them over the translation 1cd8999a83824f4d… (all of the seat's roots in one cut). By AI agents, Wed Nov 11 2026. No macro, syntax, notation, axiom, sorry.
-/
import Derived.Test.YtkohbmbacdgjaaaChecked
import GoSem.Claim
import GoSem.ClaimJoined
import GoSem.ClaimMapViews
import Derived.JoinedTies
import Derived.KernelRfl
namespace Go.Proofs.Ytkohbmbacdgjaaa
/- THE CELL 'sum', in the pinned program and in every row, IS THE sha256 OF THE DUMP (.gsa) THAT YtkohbmbacdgjaaaProg.lean LOADS. Nothing in Lean hashes anything: it is a label: what it is worth is what the hold of that sum in a sandbox is worth. -/
noncomputable def Try.pinned : Pinned := { name := "ytkohbmbacdgjaaa", sum := "1cd8999a83824f4dd82a4c2d42b96efe2994a0c32bc5491fd15a3e5f7179d0a0", checked := Try.checked }
namespace Rows
def none {H : Type} : Left H := { results := [], args := [] }

/-- 'headlandlaw11.EntryBack': WHATEVER THE INPUT: true; the input reads as it did. -/
def entryBackSpec : ChangeSpec := { name := "entryBack", fn := fun _ => fun
  | [d] => { results := [.lit (.bool true)], args := [d] }
  | _ => none }
def entryBackRow : OpenClaim := { program := "ytkohbmbacdgjaaa", sum := "1cd8999a83824f4dd82a4c2d42b96efe2994a0c32bc5491fd15a3e5f7179d0a0", func := "headland/headlandlaw11.EntryBack", spec := "entryBack", apart := false }
def EntryBackSaid : Prop := entryBackRow.holds Try.pinned (OpenSpec.ofChange entryBackSpec)

/-- ITS FALSE NEIGHBOUR: 'it returns false'. Refute it at one input. -/
def entryBackWrong : ChangeSpec := { name := "entryBack", fn := fun _ => fun
  | [d] => { results := [.lit (.bool false)], args := [d] }
  | _ => none }
def EntryBackWrongFalsely : Prop := entryBackRow.holds Try.pinned (OpenSpec.ofChange entryBackWrong)

/-- 'headlandlaw11.EntryReads': WHATEVER THE INPUT: true; the input reads as it did. -/
def entryReadsSpec : ChangeSpec := { name := "entryReads", fn := fun _ => fun
  | [d] => { results := [.lit (.bool true)], args := [d] }
  | _ => none }
def entryReadsRow : OpenClaim := { program := "ytkohbmbacdgjaaa", sum := "1cd8999a83824f4dd82a4c2d42b96efe2994a0c32bc5491fd15a3e5f7179d0a0", func := "headland/headlandlaw11.EntryReads", spec := "entryReads", apart := false }
def EntryReadsSaid : Prop := entryReadsRow.holds Try.pinned (OpenSpec.ofChange entryReadsSpec)

/-- ITS FALSE NEIGHBOUR: 'it returns false'. Refute it at one input. -/
def entryReadsWrong : ChangeSpec := { name := "entryReads", fn := fun _ => fun
  | [d] => { results := [.lit (.bool false)], args := [d] }
  | _ => none }
def EntryReadsWrongFalsely : Prop := entryReadsRow.holds Try.pinned (OpenSpec.ofChange entryReadsWrong)

/-- 'headlandlaw11.EntryApart': WHATEVER THE INPUT: true; the input reads as it did. -/
def entryApartSpec : ChangeSpec := { name := "entryApart", fn := fun _ => fun
  | [d1, d2] => { results := [.lit (.bool true)], args := [d1, d2] }
  | _ => none }
def entryApartRow : OpenClaim := { program := "ytkohbmbacdgjaaa", sum := "1cd8999a83824f4dd82a4c2d42b96efe2994a0c32bc5491fd15a3e5f7179d0a0", func := "headland/headlandlaw11.EntryApart", spec := "entryApart", apart := false }
def EntryApartSaid : Prop := entryApartRow.holds Try.pinned (OpenSpec.ofChange entryApartSpec)

/-- ITS FALSE NEIGHBOUR: 'it returns false'. Refute it at one input. -/
def entryApartWrong : ChangeSpec := { name := "entryApart", fn := fun _ => fun
  | [d1, d2] => { results := [.lit (.bool false)], args := [d1, d2] }
  | _ => none }
def EntryApartWrongFalsely : Prop := entryApartRow.holds Try.pinned (OpenSpec.ofChange entryApartWrong)

/-- 'headlandlaw11.EntryWrite': WHATEVER THE INPUT: true; the input reads as it did. -/
def entryWriteSpec : ChangeSpec := { name := "entryWrite", fn := fun _ => fun
  | [d] => { results := [.lit (.bool true)], args := [d] }
  | _ => none }
def entryWriteRow : OpenClaim := { program := "ytkohbmbacdgjaaa", sum := "1cd8999a83824f4dd82a4c2d42b96efe2994a0c32bc5491fd15a3e5f7179d0a0", func := "headland/headlandlaw11.EntryWrite", spec := "entryWrite", apart := false }
def EntryWriteSaid : Prop := entryWriteRow.holds Try.pinned (OpenSpec.ofChange entryWriteSpec)

/-- ITS FALSE NEIGHBOUR: 'it returns false'. Refute it at one input. -/
def entryWriteWrong : ChangeSpec := { name := "entryWrite", fn := fun _ => fun
  | [d] => { results := [.lit (.bool false)], args := [d] }
  | _ => none }
def EntryWriteWrongFalsely : Prop := entryWriteRow.holds Try.pinned (OpenSpec.ofChange entryWriteWrong)

/-- 'headlandlaw01.WordNumbers': WHATEVER THE INPUT: true; the input reads as it did. -/
def wordNumbersSpec : ChangeSpec := { name := "wordNumbers", fn := fun _ => fun
  | [d1, d2, d3, d4] => { results := [.lit (.bool true)], args := [d1, d2, d3, d4] }
  | _ => none }
def wordNumbersRow : OpenClaim := { program := "ytkohbmbacdgjaaa", sum := "1cd8999a83824f4dd82a4c2d42b96efe2994a0c32bc5491fd15a3e5f7179d0a0", func := "headland/headlandlaw01.WordNumbers", spec := "wordNumbers", apart := false }
def WordNumbersSaid : Prop := wordNumbersRow.holds Try.pinned (OpenSpec.ofChange wordNumbersSpec)

/-- ITS FALSE NEIGHBOUR: 'it returns false'. Refute it at one input. -/
def wordNumbersWrong : ChangeSpec := { name := "wordNumbers", fn := fun _ => fun
  | [d1, d2, d3, d4] => { results := [.lit (.bool false)], args := [d1, d2, d3, d4] }
  | _ => none }
def WordNumbersWrongFalsely : Prop := wordNumbersRow.holds Try.pinned (OpenSpec.ofChange wordNumbersWrong)

/-- 'headlandlaw01.WordSums': WHATEVER THE INPUT: true; the input reads as it did. -/
def wordSumsSpec : ChangeSpec := { name := "wordSums", fn := fun _ => fun
  | [d1, d2, d3] => { results := [.lit (.bool true)], args := [d1, d2, d3] }
  | _ => none }
def wordSumsRow : OpenClaim := { program := "ytkohbmbacdgjaaa", sum := "1cd8999a83824f4dd82a4c2d42b96efe2994a0c32bc5491fd15a3e5f7179d0a0", func := "headland/headlandlaw01.WordSums", spec := "wordSums", apart := false }
def WordSumsSaid : Prop := wordSumsRow.holds Try.pinned (OpenSpec.ofChange wordSumsSpec)

/-- ITS FALSE NEIGHBOUR: 'it returns false'. Refute it at one input. -/
def wordSumsWrong : ChangeSpec := { name := "wordSums", fn := fun _ => fun
  | [d1, d2, d3] => { results := [.lit (.bool false)], args := [d1, d2, d3] }
  | _ => none }
def WordSumsWrongFalsely : Prop := wordSumsRow.holds Try.pinned (OpenSpec.ofChange wordSumsWrong)

/-- 'headlandlaw01.WordTurned': WHATEVER THE INPUT: true; the input reads as it did. -/
def wordTurnedSpec : ChangeSpec := { name := "wordTurned", fn := fun _ => fun
  | [d1, d2, d3] => { results := [.lit (.bool true)], args := [d1, d2, d3] }
  | _ => none }
def wordTurnedRow : OpenClaim := { program := "ytkohbmbacdgjaaa", sum := "1cd8999a83824f4dd82a4c2d42b96efe2994a0c32bc5491fd15a3e5f7179d0a0", func := "headland/headlandlaw01.WordTurned", spec := "wordTurned", apart := false }
def WordTurnedSaid : Prop := wordTurnedRow.holds Try.pinned (OpenSpec.ofChange wordTurnedSpec)

/-- ITS FALSE NEIGHBOUR: 'it returns false'. Refute it at one input. -/
def wordTurnedWrong : ChangeSpec := { name := "wordTurned", fn := fun _ => fun
  | [d1, d2, d3] => { results := [.lit (.bool false)], args := [d1, d2, d3] }
  | _ => none }
def WordTurnedWrongFalsely : Prop := wordTurnedRow.holds Try.pinned (OpenSpec.ofChange wordTurnedWrong)

/-- 'headlandlaw01.WordBounds': WHATEVER THE INPUT: true; the input reads as it did. -/
def wordBoundsSpec : ChangeSpec := { name := "wordBounds", fn := fun _ => fun
  | [d1, d2, d3] => { results := [.lit (.bool true)], args := [d1, d2, d3] }
  | _ => none }
def wordBoundsRow : OpenClaim := { program := "ytkohbmbacdgjaaa", sum := "1cd8999a83824f4dd82a4c2d42b96efe2994a0c32bc5491fd15a3e5f7179d0a0", func := "headland/headlandlaw01.WordBounds", spec := "wordBounds", apart := false }
def WordBoundsSaid : Prop := wordBoundsRow.holds Try.pinned (OpenSpec.ofChange wordBoundsSpec)

/-- ITS FALSE NEIGHBOUR: 'it returns false'. Refute it at one input. -/
def wordBoundsWrong : ChangeSpec := { name := "wordBounds", fn := fun _ => fun
  | [d1, d2, d3] => { results := [.lit (.bool false)], args := [d1, d2, d3] }
  | _ => none }
def WordBoundsWrongFalsely : Prop := wordBoundsRow.holds Try.pinned (OpenSpec.ofChange wordBoundsWrong)

/-- 'headlandlaw01.WordWraps': WHATEVER THE INPUT: true; the input reads as it did. -/
def wordWrapsSpec : ChangeSpec := { name := "wordWraps", fn := fun _ => fun
  | [d1, d2] => { results := [.lit (.bool true)], args := [d1, d2] }
  | _ => none }
def wordWrapsRow : OpenClaim := { program := "ytkohbmbacdgjaaa", sum := "1cd8999a83824f4dd82a4c2d42b96efe2994a0c32bc5491fd15a3e5f7179d0a0", func := "headland/headlandlaw01.WordWraps", spec := "wordWraps", apart := false }
def WordWrapsSaid : Prop := wordWrapsRow.holds Try.pinned (OpenSpec.ofChange wordWrapsSpec)

/-- ITS FALSE NEIGHBOUR: 'it returns false'. Refute it at one input. -/
def wordWrapsWrong : ChangeSpec := { name := "wordWraps", fn := fun _ => fun
  | [d1, d2] => { results := [.lit (.bool false)], args := [d1, d2] }
  | _ => none }
def WordWrapsWrongFalsely : Prop := wordWrapsRow.holds Try.pinned (OpenSpec.ofChange wordWrapsWrong)

/- THE SECOND FORM. 'bulk': how many values and letters a reading holds, each counted each time it is reached (what is shared counts as often as it is met; a slice's spare places count too). A statement '..UptoSaid' is the law's where the arguments, and the package variables that the reading takes, are together of bulk at most 1048576: NARROWER than '..Said'. Prove '..Said' where nothing that the law and all that it calls make is longer than what came in: it says more and counts as full. Else prove '..UptoSaid'. A law counts once. -/
mutual
def uptoBulk {H : Type} : DataW H → Nat
  | .lit (.string bytes) => bytes.length + 1
  | .lit _ => 1
  | .nil => 1
  | .ptr d => uptoBulk d + 1
  | .slice elems spare => uptoBulkAll elems + uptoBulkAll spare + 1
  | .agg parts => uptoBulkAll parts + 1
  | .iface _ d => uptoBulk d + 1
  | .map entries => uptoBulkEntries entries + 1
  | .held _ => 1
def uptoBulkAll {H : Type} : List (DataW H) → Nat
  | [] => 0
  | d :: r => uptoBulk d + uptoBulkAll r
def uptoBulkEntries {H : Type} : List (Lit × DataW H) → Nat
  | [] => 0
  | x :: r => uptoBulkEntry x + uptoBulkEntries r
def uptoBulkEntry {H : Type} : Lit × DataW H → Nat
  | (.string bytes, d) => bytes.length + uptoBulk d + 1
  | (_, d) => uptoBulk d + 1
 end
def uptoSmall : (H : Type) → List (DataW H) → Bool := fun _ ds => decide (uptoBulkAll ds ≤ 1048576)
def OpenSpec.upto (s : _root_.Go.ChangeSpec) : _root_.Go.OpenSpec := { _root_.Go.OpenSpec.ofChange s with cond := some uptoSmall }

/-- 'headlandlaw11.EntryBack', WHERE WHAT IT READS IS OF BULK AT MOST 1048576: true; the input reads as it did. -/
def entryBackUptoRow : OpenClaim := { program := "ytkohbmbacdgjaaa", sum := "1cd8999a83824f4dd82a4c2d42b96efe2994a0c32bc5491fd15a3e5f7179d0a0", func := "headland/headlandlaw11.EntryBack", spec := "entryBack", apart := false, narrowed := true }
def EntryBackUptoSaid : Prop := entryBackUptoRow.holds Try.pinned (OpenSpec.upto entryBackSpec)

/-- 'headlandlaw11.EntryReads', WHERE WHAT IT READS IS OF BULK AT MOST 1048576: true; the input reads as it did. -/
def entryReadsUptoRow : OpenClaim := { program := "ytkohbmbacdgjaaa", sum := "1cd8999a83824f4dd82a4c2d42b96efe2994a0c32bc5491fd15a3e5f7179d0a0", func := "headland/headlandlaw11.EntryReads", spec := "entryReads", apart := false, narrowed := true }
def EntryReadsUptoSaid : Prop := entryReadsUptoRow.holds Try.pinned (OpenSpec.upto entryReadsSpec)

/-- 'headlandlaw11.EntryApart', WHERE WHAT IT READS IS OF BULK AT MOST 1048576: true; the input reads as it did. -/
def entryApartUptoRow : OpenClaim := { program := "ytkohbmbacdgjaaa", sum := "1cd8999a83824f4dd82a4c2d42b96efe2994a0c32bc5491fd15a3e5f7179d0a0", func := "headland/headlandlaw11.EntryApart", spec := "entryApart", apart := false, narrowed := true }
def EntryApartUptoSaid : Prop := entryApartUptoRow.holds Try.pinned (OpenSpec.upto entryApartSpec)

/-- 'headlandlaw11.EntryWrite', WHERE WHAT IT READS IS OF BULK AT MOST 1048576: true; the input reads as it did. -/
def entryWriteUptoRow : OpenClaim := { program := "ytkohbmbacdgjaaa", sum := "1cd8999a83824f4dd82a4c2d42b96efe2994a0c32bc5491fd15a3e5f7179d0a0", func := "headland/headlandlaw11.EntryWrite", spec := "entryWrite", apart := false, narrowed := true }
def EntryWriteUptoSaid : Prop := entryWriteUptoRow.holds Try.pinned (OpenSpec.upto entryWriteSpec)

/-- 'headlandlaw01.WordNumbers', WHERE WHAT IT READS IS OF BULK AT MOST 1048576: true; the input reads as it did. -/
def wordNumbersUptoRow : OpenClaim := { program := "ytkohbmbacdgjaaa", sum := "1cd8999a83824f4dd82a4c2d42b96efe2994a0c32bc5491fd15a3e5f7179d0a0", func := "headland/headlandlaw01.WordNumbers", spec := "wordNumbers", apart := false, narrowed := true }
def WordNumbersUptoSaid : Prop := wordNumbersUptoRow.holds Try.pinned (OpenSpec.upto wordNumbersSpec)

/-- 'headlandlaw01.WordSums', WHERE WHAT IT READS IS OF BULK AT MOST 1048576: true; the input reads as it did. -/
def wordSumsUptoRow : OpenClaim := { program := "ytkohbmbacdgjaaa", sum := "1cd8999a83824f4dd82a4c2d42b96efe2994a0c32bc5491fd15a3e5f7179d0a0", func := "headland/headlandlaw01.WordSums", spec := "wordSums", apart := false, narrowed := true }
def WordSumsUptoSaid : Prop := wordSumsUptoRow.holds Try.pinned (OpenSpec.upto wordSumsSpec)

/-- 'headlandlaw01.WordTurned', WHERE WHAT IT READS IS OF BULK AT MOST 1048576: true; the input reads as it did. -/
def wordTurnedUptoRow : OpenClaim := { program := "ytkohbmbacdgjaaa", sum := "1cd8999a83824f4dd82a4c2d42b96efe2994a0c32bc5491fd15a3e5f7179d0a0", func := "headland/headlandlaw01.WordTurned", spec := "wordTurned", apart := false, narrowed := true }
def WordTurnedUptoSaid : Prop := wordTurnedUptoRow.holds Try.pinned (OpenSpec.upto wordTurnedSpec)

/-- 'headlandlaw01.WordBounds', WHERE WHAT IT READS IS OF BULK AT MOST 1048576: true; the input reads as it did. -/
def wordBoundsUptoRow : OpenClaim := { program := "ytkohbmbacdgjaaa", sum := "1cd8999a83824f4dd82a4c2d42b96efe2994a0c32bc5491fd15a3e5f7179d0a0", func := "headland/headlandlaw01.WordBounds", spec := "wordBounds", apart := false, narrowed := true }
def WordBoundsUptoSaid : Prop := wordBoundsUptoRow.holds Try.pinned (OpenSpec.upto wordBoundsSpec)

/-- 'headlandlaw01.WordWraps', WHERE WHAT IT READS IS OF BULK AT MOST 1048576: true; the input reads as it did. -/
def wordWrapsUptoRow : OpenClaim := { program := "ytkohbmbacdgjaaa", sum := "1cd8999a83824f4dd82a4c2d42b96efe2994a0c32bc5491fd15a3e5f7179d0a0", func := "headland/headlandlaw01.WordWraps", spec := "wordWraps", apart := false, narrowed := true }
def WordWrapsUptoSaid : Prop := wordWrapsUptoRow.holds Try.pinned (OpenSpec.upto wordWrapsSpec)

end Rows
end Go.Proofs.Ytkohbmbacdgjaaa
