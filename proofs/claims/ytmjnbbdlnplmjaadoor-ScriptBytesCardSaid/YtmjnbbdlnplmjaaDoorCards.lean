/-
  DERIVED. GIVEN WITH THE SEED: THE CARDS: each row of YtmjnbbdlnplmjaaDoorRows.lean that lists a variable, with what it lists TIED to the program's text (the seventh form; the later family's looks); each row that meets fmt, with fmt's text TOLD by the authors' own Lean function (tested against real Go, not proved from fmt's source: count such statements apart). THE CARD IS WHAT COUNTS. Prove the row's statement (the work); the ties are given (YtmjnbbdlnplmjaaDoorTie.lean); close each card by the builder's one call (the guide's Derived/Test/ToyasCard.lean, 'card_holds'). Laid BY PROGRAM, IN A SANDBOX (cutbox-door.mjs). By AI agents, Wed Nov 11 2026. No macro, syntax, notation, axiom, sorry.
-/
import Derived.Test.YtmjnbbdlnplmjaaDoorRows
import GoSem.ClaimSeven
namespace Go.Proofs.YtmjnbbdlnplmjaaDoor
namespace Rows

/-- THE TIED CARD OF 'headlandlaw25.ScriptBack'. -/
def scriptBackCard : Claim7 := { stood := { row := scriptBackRow, standIns := [], harness := (true, "73aa3367dc5e9ab0f9def14916c8fb7b87e7c51af3c2dc71c619cec377f1474f"), looks := true }, kinds := [], alts := [], laidByText := true, laidKinds := [.data, .data, .data, .data, .sentinel, .sentinel, .pinned], laidTests := true, laidLooks := .later }
def ScriptBackCardSaid : Prop := Claim7.holds Tryd.pinned (.plain (OpenSpec.ofChange scriptBackSpec)) scriptBackCard

/-- THE TIED CARD OF 'headlandlaw25.ScriptBytes'. -/
def scriptBytesCard : Claim7 := { stood := { row := scriptBytesRow, standIns := [], harness := (true, "73aa3367dc5e9ab0f9def14916c8fb7b87e7c51af3c2dc71c619cec377f1474f"), looks := true }, kinds := [], alts := [], laidByText := true, laidKinds := [.data, .data, .data, .data, .sentinel, .sentinel, .pinned], laidTests := true, laidLooks := .later }
def ScriptBytesCardSaid : Prop := Claim7.holds Tryd.pinned (.plain (OpenSpec.ofChange scriptBytesSpec)) scriptBytesCard

/-- THE SECOND FORM's CARD OF 'headlandlaw25.ScriptBack'. -/
def scriptBackUptoCard : Claim7 := { stood := { row := scriptBackUptoRow, standIns := [], harness := (true, "73aa3367dc5e9ab0f9def14916c8fb7b87e7c51af3c2dc71c619cec377f1474f"), looks := true }, kinds := [], alts := [], laidByText := true, laidKinds := [.data, .data, .data, .data, .sentinel, .sentinel, .pinned], laidTests := true, laidLooks := .later }
def ScriptBackUptoCardSaid : Prop := Claim7.holds Tryd.pinned (.plain (OpenSpec.upto scriptBackSpec)) scriptBackUptoCard

/-- THE SECOND FORM's CARD OF 'headlandlaw25.ScriptBytes'. -/
def scriptBytesUptoCard : Claim7 := { stood := { row := scriptBytesUptoRow, standIns := [], harness := (true, "73aa3367dc5e9ab0f9def14916c8fb7b87e7c51af3c2dc71c619cec377f1474f"), looks := true }, kinds := [], alts := [], laidByText := true, laidKinds := [.data, .data, .data, .data, .sentinel, .sentinel, .pinned], laidTests := true, laidLooks := .later }
def ScriptBytesUptoCardSaid : Prop := Claim7.holds Tryd.pinned (.plain (OpenSpec.upto scriptBytesSpec)) scriptBytesUptoCard
end Rows
end Go.Proofs.YtmjnbbdlnplmjaaDoor
