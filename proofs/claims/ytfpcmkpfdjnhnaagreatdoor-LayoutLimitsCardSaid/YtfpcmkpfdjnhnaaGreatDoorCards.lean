/-
  DERIVED. GIVEN WITH THE SEED: THE CARDS: each row of YtfpcmkpfdjnhnaaGreatDoorRows.lean that lists a variable, with what it lists TIED to the program's text (the seventh form; the later family's looks); each row that meets fmt, with fmt's text TOLD by the authors' own Lean function (tested against real Go, not proved from fmt's source: count such statements apart). THE CARD IS WHAT COUNTS. Prove the row's statement (the work); the ties are given (YtfpcmkpfdjnhnaaGreatDoorTie.lean); close each card by the builder's one call (the guide's Derived/Test/ToyasCard.lean, 'card_holds'). Laid BY PROGRAM, IN A SANDBOX (cutbox-door.mjs). By AI agents, Wed Nov 11 2026. No macro, syntax, notation, axiom, sorry.
-/
import Derived.Test.YtfpcmkpfdjnhnaaGreatDoorRows
import GoSem.ClaimSeven
namespace Go.Proofs.YtfpcmkpfdjnhnaaGreatDoor
namespace Rows

/-- THE TIED CARD OF 'widgetrylaw21.LayoutLimits'. -/
def layoutLimitsCard : Claim7 := { stood := { row := layoutLimitsRow, standIns := [], harness := (true, "571ef66c07ebac593ebc9a6b619ddbcdb4037e7b1318965f878ede715afc7545"), looks := false }, kinds := [], alts := [], laidByText := true, laidKinds := [.data, .data, .pinned], laidTests := true, laidLooks := .later }
def LayoutLimitsCardSaid : Prop := Claim7.holds Tryz.pinned (.plain (OpenSpec.ofChange layoutLimitsSpec)) layoutLimitsCard

/-- THE SECOND FORM's CARD OF 'widgetrylaw21.LayoutLimits'. -/
def layoutLimitsUptoCard : Claim7 := { stood := { row := layoutLimitsUptoRow, standIns := [], harness := (true, "571ef66c07ebac593ebc9a6b619ddbcdb4037e7b1318965f878ede715afc7545"), looks := false }, kinds := [], alts := [], laidByText := true, laidKinds := [.data, .data, .pinned], laidTests := true, laidLooks := .later }
def LayoutLimitsUptoCardSaid : Prop := Claim7.holds Tryz.pinned (.plain (OpenSpec.upto layoutLimitsSpec)) layoutLimitsUptoCard
end Rows
end Go.Proofs.YtfpcmkpfdjnhnaaGreatDoor
