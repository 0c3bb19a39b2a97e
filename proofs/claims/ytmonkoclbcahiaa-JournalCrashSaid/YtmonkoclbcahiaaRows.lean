/-
  No cell of these rows narrows 'for every input' (looked for: loops, veiled, ifaces, maps, wideKeys, modest, calm, conditions, laid).
  DERIVED. THE GIVEN ROWS OF THIS SEAT. 9 by the template 'for every input the law returns true; each argument reads behind the call as it read before'; 0 by the template 'total and deterministic' (their statements: YtmonkoclbcahiaaTotals.lean).
  GIVEN WITH THE SEED: the statements are not yours to turn. If you find one false, say at which input.
  Laid BY PROGRAM, IN A SANDBOX (cutbox-rows.mjs): the forced cells as the released guide's own fill.sh prints them over the translation 41f5dda0744a3477… (all of the seat's roots in one cut). By AI agents, Wed Nov 11 2026. No macro, syntax, notation, axiom, sorry.
-/
import Derived.Test.YtmonkoclbcahiaaChecked
import GoSem.Claim
import GoSem.ClaimJoined
import GoSem.ClaimMapViews
import Derived.JoinedTies
import Derived.KernelRfl
namespace Go.Proofs.Ytmonkoclbcahiaa
/- THE CELL 'sum', in the pinned program and in every row, IS THE sha256 OF THE DUMP (.gsa) THAT YtmonkoclbcahiaaProg.lean LOADS. Nothing in Lean hashes anything: it is a label: what it is worth is what the hold of that sum in a sandbox is worth. -/
noncomputable def Try.pinned : Pinned := { name := "ytmonkoclbcahiaa", sum := "41f5dda0744a3477d045857945d2876da5ce7366e6db55df1c14f6c92e206ad6", checked := Try.checked }
namespace Rows
def none {H : Type} : Left H := { results := [], args := [] }

/-- 'headlandlaw05.SlotLoads': WHATEVER THE INPUT: true; the input reads as it did. -/
def slotLoadsSpec : ChangeSpec := { name := "slotLoads", fn := fun _ => fun
  | [d1, d2, d3] => { results := [.lit (.bool true)], args := [d1, d2, d3] }
  | _ => none }
def slotLoadsRow : OpenClaim := { program := "ytmonkoclbcahiaa", sum := "41f5dda0744a3477d045857945d2876da5ce7366e6db55df1c14f6c92e206ad6", func := "headland/headlandlaw05.SlotLoads", spec := "slotLoads", apart := false }
def SlotLoadsSaid : Prop := slotLoadsRow.holds Try.pinned (OpenSpec.ofChange slotLoadsSpec)

/-- ITS FALSE NEIGHBOUR: 'it returns false'. Refute it at one input. -/
def slotLoadsWrong : ChangeSpec := { name := "slotLoads", fn := fun _ => fun
  | [d1, d2, d3] => { results := [.lit (.bool false)], args := [d1, d2, d3] }
  | _ => none }
def SlotLoadsWrongFalsely : Prop := slotLoadsRow.holds Try.pinned (OpenSpec.ofChange slotLoadsWrong)

/-- 'headlandlaw05.SlotTurns': WHATEVER THE INPUT: true; the input reads as it did. -/
def slotTurnsSpec : ChangeSpec := { name := "slotTurns", fn := fun _ => fun
  | [d1, d2, d3, d4, d5] => { results := [.lit (.bool true)], args := [d1, d2, d3, d4, d5] }
  | _ => none }
def slotTurnsRow : OpenClaim := { program := "ytmonkoclbcahiaa", sum := "41f5dda0744a3477d045857945d2876da5ce7366e6db55df1c14f6c92e206ad6", func := "headland/headlandlaw05.SlotTurns", spec := "slotTurns", apart := false }
def SlotTurnsSaid : Prop := slotTurnsRow.holds Try.pinned (OpenSpec.ofChange slotTurnsSpec)

/-- ITS FALSE NEIGHBOUR: 'it returns false'. Refute it at one input. -/
def slotTurnsWrong : ChangeSpec := { name := "slotTurns", fn := fun _ => fun
  | [d1, d2, d3, d4, d5] => { results := [.lit (.bool false)], args := [d1, d2, d3, d4, d5] }
  | _ => none }
def SlotTurnsWrongFalsely : Prop := slotTurnsRow.holds Try.pinned (OpenSpec.ofChange slotTurnsWrong)

/-- 'headlandlaw05.SlotNone': WHATEVER THE INPUT: true; the input reads as it did. -/
def slotNoneSpec : ChangeSpec := { name := "slotNone", fn := fun _ => fun
  | [d1, d2] => { results := [.lit (.bool true)], args := [d1, d2] }
  | _ => none }
def slotNoneRow : OpenClaim := { program := "ytmonkoclbcahiaa", sum := "41f5dda0744a3477d045857945d2876da5ce7366e6db55df1c14f6c92e206ad6", func := "headland/headlandlaw05.SlotNone", spec := "slotNone", apart := false }
def SlotNoneSaid : Prop := slotNoneRow.holds Try.pinned (OpenSpec.ofChange slotNoneSpec)

/-- ITS FALSE NEIGHBOUR: 'it returns false'. Refute it at one input. -/
def slotNoneWrong : ChangeSpec := { name := "slotNone", fn := fun _ => fun
  | [d1, d2] => { results := [.lit (.bool false)], args := [d1, d2] }
  | _ => none }
def SlotNoneWrongFalsely : Prop := slotNoneRow.holds Try.pinned (OpenSpec.ofChange slotNoneWrong)

/-- 'headlandlaw06.JournalNone': WHATEVER THE INPUT: true; the input reads as it did. -/
def journalNoneSpec : ChangeSpec := { name := "journalNone", fn := fun _ => fun
  | [d] => { results := [.lit (.bool true)], args := [d] }
  | _ => none }
def journalNoneRow : OpenClaim := { program := "ytmonkoclbcahiaa", sum := "41f5dda0744a3477d045857945d2876da5ce7366e6db55df1c14f6c92e206ad6", func := "headland/headlandlaw06.JournalNone", spec := "journalNone", apart := false }
def JournalNoneSaid : Prop := journalNoneRow.holds Try.pinned (OpenSpec.ofChange journalNoneSpec)

/-- ITS FALSE NEIGHBOUR: 'it returns false'. Refute it at one input. -/
def journalNoneWrong : ChangeSpec := { name := "journalNone", fn := fun _ => fun
  | [d] => { results := [.lit (.bool false)], args := [d] }
  | _ => none }
def JournalNoneWrongFalsely : Prop := journalNoneRow.holds Try.pinned (OpenSpec.ofChange journalNoneWrong)

/-- 'headlandlaw05.SlotBounds': WHATEVER THE INPUT: true; the input reads as it did. -/
def slotBoundsSpec : ChangeSpec := { name := "slotBounds", fn := fun _ => fun
  | [d1, d2] => { results := [.lit (.bool true)], args := [d1, d2] }
  | _ => none }
def slotBoundsRow : OpenClaim := { program := "ytmonkoclbcahiaa", sum := "41f5dda0744a3477d045857945d2876da5ce7366e6db55df1c14f6c92e206ad6", func := "headland/headlandlaw05.SlotBounds", spec := "slotBounds", unfollowed := true, recurses := true, apart := false }
def SlotBoundsSaid : Prop := slotBoundsRow.holds Try.pinned (OpenSpec.ofChange slotBoundsSpec)

/-- ITS FALSE NEIGHBOUR: 'it returns false'. Refute it at one input. -/
def slotBoundsWrong : ChangeSpec := { name := "slotBounds", fn := fun _ => fun
  | [d1, d2] => { results := [.lit (.bool false)], args := [d1, d2] }
  | _ => none }
def SlotBoundsWrongFalsely : Prop := slotBoundsRow.holds Try.pinned (OpenSpec.ofChange slotBoundsWrong)

/-- 'headlandlaw05.SlotCrash': WHATEVER THE INPUT: true; the input reads as it did. -/
def slotCrashSpec : ChangeSpec := { name := "slotCrash", fn := fun _ => fun
  | [d1, d2, d3, d4, d5, d6] => { results := [.lit (.bool true)], args := [d1, d2, d3, d4, d5, d6] }
  | _ => none }
def slotCrashRow : OpenClaim := { program := "ytmonkoclbcahiaa", sum := "41f5dda0744a3477d045857945d2876da5ce7366e6db55df1c14f6c92e206ad6", func := "headland/headlandlaw05.SlotCrash", spec := "slotCrash", unfollowed := true, recurses := true, apart := false }
def SlotCrashSaid : Prop := slotCrashRow.holds Try.pinned (OpenSpec.ofChange slotCrashSpec)

/-- ITS FALSE NEIGHBOUR: 'it returns false'. Refute it at one input. -/
def slotCrashWrong : ChangeSpec := { name := "slotCrash", fn := fun _ => fun
  | [d1, d2, d3, d4, d5, d6] => { results := [.lit (.bool false)], args := [d1, d2, d3, d4, d5, d6] }
  | _ => none }
def SlotCrashWrongFalsely : Prop := slotCrashRow.holds Try.pinned (OpenSpec.ofChange slotCrashWrong)

/-- 'headlandlaw06.JournalPlays': WHATEVER THE INPUT: true; the input reads as it did. -/
def journalPlaysSpec : ChangeSpec := { name := "journalPlays", fn := fun _ => fun
  | [d] => { results := [.lit (.bool true)], args := [d] }
  | _ => none }
def journalPlaysRow : OpenClaim := { program := "ytmonkoclbcahiaa", sum := "41f5dda0744a3477d045857945d2876da5ce7366e6db55df1c14f6c92e206ad6", func := "headland/headlandlaw06.JournalPlays", spec := "journalPlays", unfollowed := true, recurses := true, apart := false }
def JournalPlaysSaid : Prop := journalPlaysRow.holds Try.pinned (OpenSpec.ofChange journalPlaysSpec)

/-- ITS FALSE NEIGHBOUR: 'it returns false'. Refute it at one input. -/
def journalPlaysWrong : ChangeSpec := { name := "journalPlays", fn := fun _ => fun
  | [d] => { results := [.lit (.bool false)], args := [d] }
  | _ => none }
def JournalPlaysWrongFalsely : Prop := journalPlaysRow.holds Try.pinned (OpenSpec.ofChange journalPlaysWrong)

/-- 'headlandlaw06.JournalBroken': WHATEVER THE INPUT: true; the input reads as it did. -/
def journalBrokenSpec : ChangeSpec := { name := "journalBroken", fn := fun _ => fun
  | [d1, d2, d3, d4] => { results := [.lit (.bool true)], args := [d1, d2, d3, d4] }
  | _ => none }
def journalBrokenRow : OpenClaim := { program := "ytmonkoclbcahiaa", sum := "41f5dda0744a3477d045857945d2876da5ce7366e6db55df1c14f6c92e206ad6", func := "headland/headlandlaw06.JournalBroken", spec := "journalBroken", unfollowed := true, recurses := true, apart := false }
def JournalBrokenSaid : Prop := journalBrokenRow.holds Try.pinned (OpenSpec.ofChange journalBrokenSpec)

/-- ITS FALSE NEIGHBOUR: 'it returns false'. Refute it at one input. -/
def journalBrokenWrong : ChangeSpec := { name := "journalBroken", fn := fun _ => fun
  | [d1, d2, d3, d4] => { results := [.lit (.bool false)], args := [d1, d2, d3, d4] }
  | _ => none }
def JournalBrokenWrongFalsely : Prop := journalBrokenRow.holds Try.pinned (OpenSpec.ofChange journalBrokenWrong)

/-- 'headlandlaw06.JournalCrash': WHATEVER THE INPUT: true; the input reads as it did. -/
def journalCrashSpec : ChangeSpec := { name := "journalCrash", fn := fun _ => fun
  | [d1, d2, d3, d4, d5, d6] => { results := [.lit (.bool true)], args := [d1, d2, d3, d4, d5, d6] }
  | _ => none }
def journalCrashRow : OpenClaim := { program := "ytmonkoclbcahiaa", sum := "41f5dda0744a3477d045857945d2876da5ce7366e6db55df1c14f6c92e206ad6", func := "headland/headlandlaw06.JournalCrash", spec := "journalCrash", unfollowed := true, recurses := true, apart := false }
def JournalCrashSaid : Prop := journalCrashRow.holds Try.pinned (OpenSpec.ofChange journalCrashSpec)

/-- ITS FALSE NEIGHBOUR: 'it returns false'. Refute it at one input. -/
def journalCrashWrong : ChangeSpec := { name := "journalCrash", fn := fun _ => fun
  | [d1, d2, d3, d4, d5, d6] => { results := [.lit (.bool false)], args := [d1, d2, d3, d4, d5, d6] }
  | _ => none }
def JournalCrashWrongFalsely : Prop := journalCrashRow.holds Try.pinned (OpenSpec.ofChange journalCrashWrong)

/- THE SECOND FORM. 'bulk': how many values and letters a reading holds, each counted each time it is reached (what is shared counts as often as it is met; a slice's spare places count too). A statement '..UptoSaid' is the law's where the arguments, and the package variables that the reading takes, are together of bulk at most 1048576: NARROWER than '..Said'. Prove '..Said' where nothing that the law and all that it calls make is longer than what came in: it says more and counts as full. Else prove '..UptoSaid'. A law counts once. -/
mutual
def uptoBulk {H : Type} : DataW H → Nat
  | .lit (.string bytes) => bytes.length + 1
  | .lit _ => 1
  | .nil => 1
  | .ptr d => uptoBulk d + 1
  | .slice elems spare => uptoBulkAll elems + uptoBulkAll spare + 1
  | .agg parts => uptoBulkAll parts + 1
  | .iface _ d => uptoBulk d + 1
  | .map entries => uptoBulkEntries entries + 1
  | .held _ => 1
def uptoBulkAll {H : Type} : List (DataW H) → Nat
  | [] => 0
  | d :: r => uptoBulk d + uptoBulkAll r
def uptoBulkEntries {H : Type} : List (Lit × DataW H) → Nat
  | [] => 0
  | x :: r => uptoBulkEntry x + uptoBulkEntries r
def uptoBulkEntry {H : Type} : Lit × DataW H → Nat
  | (.string bytes, d) => bytes.length + uptoBulk d + 1
  | (_, d) => uptoBulk d + 1
 end
def uptoSmall : (H : Type) → List (DataW H) → Bool := fun _ ds => decide (uptoBulkAll ds ≤ 1048576)
def OpenSpec.upto (s : _root_.Go.ChangeSpec) : _root_.Go.OpenSpec := { _root_.Go.OpenSpec.ofChange s with cond := some uptoSmall }

/-- 'headlandlaw05.SlotLoads', WHERE WHAT IT READS IS OF BULK AT MOST 1048576: true; the input reads as it did. -/
def slotLoadsUptoRow : OpenClaim := { program := "ytmonkoclbcahiaa", sum := "41f5dda0744a3477d045857945d2876da5ce7366e6db55df1c14f6c92e206ad6", func := "headland/headlandlaw05.SlotLoads", spec := "slotLoads", apart := false, narrowed := true }
def SlotLoadsUptoSaid : Prop := slotLoadsUptoRow.holds Try.pinned (OpenSpec.upto slotLoadsSpec)

/-- 'headlandlaw05.SlotTurns', WHERE WHAT IT READS IS OF BULK AT MOST 1048576: true; the input reads as it did. -/
def slotTurnsUptoRow : OpenClaim := { program := "ytmonkoclbcahiaa", sum := "41f5dda0744a3477d045857945d2876da5ce7366e6db55df1c14f6c92e206ad6", func := "headland/headlandlaw05.SlotTurns", spec := "slotTurns", apart := false, narrowed := true }
def SlotTurnsUptoSaid : Prop := slotTurnsUptoRow.holds Try.pinned (OpenSpec.upto slotTurnsSpec)

/-- 'headlandlaw05.SlotNone', WHERE WHAT IT READS IS OF BULK AT MOST 1048576: true; the input reads as it did. -/
def slotNoneUptoRow : OpenClaim := { program := "ytmonkoclbcahiaa", sum := "41f5dda0744a3477d045857945d2876da5ce7366e6db55df1c14f6c92e206ad6", func := "headland/headlandlaw05.SlotNone", spec := "slotNone", apart := false, narrowed := true }
def SlotNoneUptoSaid : Prop := slotNoneUptoRow.holds Try.pinned (OpenSpec.upto slotNoneSpec)

/-- 'headlandlaw06.JournalNone', WHERE WHAT IT READS IS OF BULK AT MOST 1048576: true; the input reads as it did. -/
def journalNoneUptoRow : OpenClaim := { program := "ytmonkoclbcahiaa", sum := "41f5dda0744a3477d045857945d2876da5ce7366e6db55df1c14f6c92e206ad6", func := "headland/headlandlaw06.JournalNone", spec := "journalNone", apart := false, narrowed := true }
def JournalNoneUptoSaid : Prop := journalNoneUptoRow.holds Try.pinned (OpenSpec.upto journalNoneSpec)

/-- 'headlandlaw05.SlotBounds', WHERE WHAT IT READS IS OF BULK AT MOST 1048576: true; the input reads as it did. -/
def slotBoundsUptoRow : OpenClaim := { program := "ytmonkoclbcahiaa", sum := "41f5dda0744a3477d045857945d2876da5ce7366e6db55df1c14f6c92e206ad6", func := "headland/headlandlaw05.SlotBounds", spec := "slotBounds", unfollowed := true, recurses := true, apart := false, narrowed := true }
def SlotBoundsUptoSaid : Prop := slotBoundsUptoRow.holds Try.pinned (OpenSpec.upto slotBoundsSpec)

/-- 'headlandlaw05.SlotCrash', WHERE WHAT IT READS IS OF BULK AT MOST 1048576: true; the input reads as it did. -/
def slotCrashUptoRow : OpenClaim := { program := "ytmonkoclbcahiaa", sum := "41f5dda0744a3477d045857945d2876da5ce7366e6db55df1c14f6c92e206ad6", func := "headland/headlandlaw05.SlotCrash", spec := "slotCrash", unfollowed := true, recurses := true, apart := false, narrowed := true }
def SlotCrashUptoSaid : Prop := slotCrashUptoRow.holds Try.pinned (OpenSpec.upto slotCrashSpec)

/-- 'headlandlaw06.JournalPlays', WHERE WHAT IT READS IS OF BULK AT MOST 1048576: true; the input reads as it did. -/
def journalPlaysUptoRow : OpenClaim := { program := "ytmonkoclbcahiaa", sum := "41f5dda0744a3477d045857945d2876da5ce7366e6db55df1c14f6c92e206ad6", func := "headland/headlandlaw06.JournalPlays", spec := "journalPlays", unfollowed := true, recurses := true, apart := false, narrowed := true }
def JournalPlaysUptoSaid : Prop := journalPlaysUptoRow.holds Try.pinned (OpenSpec.upto journalPlaysSpec)

/-- 'headlandlaw06.JournalBroken', WHERE WHAT IT READS IS OF BULK AT MOST 1048576: true; the input reads as it did. -/
def journalBrokenUptoRow : OpenClaim := { program := "ytmonkoclbcahiaa", sum := "41f5dda0744a3477d045857945d2876da5ce7366e6db55df1c14f6c92e206ad6", func := "headland/headlandlaw06.JournalBroken", spec := "journalBroken", unfollowed := true, recurses := true, apart := false, narrowed := true }
def JournalBrokenUptoSaid : Prop := journalBrokenUptoRow.holds Try.pinned (OpenSpec.upto journalBrokenSpec)

/-- 'headlandlaw06.JournalCrash', WHERE WHAT IT READS IS OF BULK AT MOST 1048576: true; the input reads as it did. -/
def journalCrashUptoRow : OpenClaim := { program := "ytmonkoclbcahiaa", sum := "41f5dda0744a3477d045857945d2876da5ce7366e6db55df1c14f6c92e206ad6", func := "headland/headlandlaw06.JournalCrash", spec := "journalCrash", unfollowed := true, recurses := true, apart := false, narrowed := true }
def JournalCrashUptoSaid : Prop := journalCrashUptoRow.holds Try.pinned (OpenSpec.upto journalCrashSpec)

end Rows
end Go.Proofs.Ytmonkoclbcahiaa
