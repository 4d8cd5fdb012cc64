/-
  DERIVED. GIVEN WITH THE SEED: THE CARDS: each row of YtfegfialedlfcaaGreatDoorRows.lean that lists a variable, with what it lists TIED to the program's text (the seventh form; the later family's looks); each row that meets fmt, with fmt's text TOLD by the authors' own Lean function (tested against real Go, not proved from fmt's source: count such statements apart). THE CARD IS WHAT COUNTS. Prove the row's statement (the work); the ties are given (YtfegfialedlfcaaGreatDoorTie.lean); close each card by the builder's one call (the guide's Derived/Test/ToyasCard.lean, 'card_holds'). Laid BY PROGRAM, IN A SANDBOX (cutbox-door.mjs). By AI agents, Wed Nov 11 2026. No macro, syntax, notation, axiom, sorry.
-/
import Derived.Test.YtfegfialedlfcaaGreatDoorRows
import GoSem.ClaimSeven
namespace Go.Proofs.YtfegfialedlfcaaGreatDoor
namespace Rows

/-- THE TIED CARD OF 'widgetrylaw24.DisplayScrolls'. -/
def displayScrollsCard : Claim7 := { stood := { row := displayScrollsRow, standIns := [], harness := (true, "f46da637a8f46b52a4d64a357790f44b8addf3393cf991e45ebd07886606c522"), looks := false }, kinds := [], alts := [], laidByText := true, laidKinds := [.data, .data, .pinned], laidTests := true, laidLooks := .later }
def DisplayScrollsCardSaid : Prop := Claim7.holds Tryz.pinned (.plain (OpenSpec.ofChange displayScrollsSpec)) displayScrollsCard

/-- THE SECOND FORM's CARD OF 'widgetrylaw24.DisplayScrolls'. -/
def displayScrollsUptoCard : Claim7 := { stood := { row := displayScrollsUptoRow, standIns := [], harness := (true, "f46da637a8f46b52a4d64a357790f44b8addf3393cf991e45ebd07886606c522"), looks := false }, kinds := [], alts := [], laidByText := true, laidKinds := [.data, .data, .pinned], laidTests := true, laidLooks := .later }
def DisplayScrollsUptoCardSaid : Prop := Claim7.holds Tryz.pinned (.plain (OpenSpec.upto displayScrollsSpec)) displayScrollsUptoCard
end Rows
end Go.Proofs.YtfegfialedlfcaaGreatDoor
