/-
  DERIVED. GIVEN WITH THE SEED: THE CARDS: each row of YtoibclpbkjbnbaaGreatDoorRows.lean that lists a variable, with what it lists TIED to the program's text (the seventh form; the later family's looks); each row that meets fmt, with fmt's text TOLD by the authors' own Lean function (tested against real Go, not proved from fmt's source: count such statements apart). THE CARD IS WHAT COUNTS. Prove the row's statement (the work); the ties are given (YtoibclpbkjbnbaaGreatDoorTie.lean); close each card by the builder's one call (the guide's Derived/Test/ToyasCard.lean, 'card_holds'). Laid BY PROGRAM, IN A SANDBOX (cutbox-door.mjs). By AI agents, Wed Nov 11 2026. No macro, syntax, notation, axiom, sorry.
-/
import Derived.Test.YtoibclpbkjbnbaaGreatDoorRows
import GoSem.ClaimSeven
namespace Go.Proofs.YtoibclpbkjbnbaaGreatDoor
namespace Rows

/-- THE TIED CARD OF 'widgetrylaw43.AuditTargets'. -/
def auditTargetsCard : Claim7 := { stood := { row := auditTargetsRow, standIns := [], harness := (true, "c9fa27a521c862538a83054d49e96e05d60249e3402b1fbffc521aacbc508f98"), looks := false }, kinds := [], alts := [], laidByText := true, laidKinds := [.data, .data, .pinned], laidTests := true, laidLooks := .later }
def AuditTargetsCardSaid : Prop := Claim7.holds Tryz.pinned (.plain (OpenSpec.ofChange auditTargetsSpec)) auditTargetsCard

/-- THE TIED CARD OF 'widgetrylaw43.AuditContrast'. -/
def auditContrastCard : Claim7 := { stood := { row := auditContrastRow, standIns := [], harness := (true, "c9fa27a521c862538a83054d49e96e05d60249e3402b1fbffc521aacbc508f98"), looks := false }, kinds := [], alts := [], laidByText := true, laidKinds := [.data, .data, .pinned], laidTests := true, laidLooks := .later }
def AuditContrastCardSaid : Prop := Claim7.holds Tryz.pinned (.plain (OpenSpec.ofChange auditContrastSpec)) auditContrastCard

/-- THE TIED CARD OF 'widgetrylaw43.AuditReach'. -/
def auditReachCard : Claim7 := { stood := { row := auditReachRow, standIns := [], harness := (true, "c9fa27a521c862538a83054d49e96e05d60249e3402b1fbffc521aacbc508f98"), looks := false }, kinds := [], alts := [], laidByText := true, laidKinds := [.data, .data, .pinned], laidTests := true, laidLooks := .later }
def AuditReachCardSaid : Prop := Claim7.holds Tryz.pinned (.plain (OpenSpec.ofChange auditReachSpec)) auditReachCard

/-- THE SECOND FORM's CARD OF 'widgetrylaw43.AuditTargets'. -/
def auditTargetsUptoCard : Claim7 := { stood := { row := auditTargetsUptoRow, standIns := [], harness := (true, "c9fa27a521c862538a83054d49e96e05d60249e3402b1fbffc521aacbc508f98"), looks := false }, kinds := [], alts := [], laidByText := true, laidKinds := [.data, .data, .pinned], laidTests := true, laidLooks := .later }
def AuditTargetsUptoCardSaid : Prop := Claim7.holds Tryz.pinned (.plain (OpenSpec.upto auditTargetsSpec)) auditTargetsUptoCard

/-- THE SECOND FORM's CARD OF 'widgetrylaw43.AuditContrast'. -/
def auditContrastUptoCard : Claim7 := { stood := { row := auditContrastUptoRow, standIns := [], harness := (true, "c9fa27a521c862538a83054d49e96e05d60249e3402b1fbffc521aacbc508f98"), looks := false }, kinds := [], alts := [], laidByText := true, laidKinds := [.data, .data, .pinned], laidTests := true, laidLooks := .later }
def AuditContrastUptoCardSaid : Prop := Claim7.holds Tryz.pinned (.plain (OpenSpec.upto auditContrastSpec)) auditContrastUptoCard

/-- THE SECOND FORM's CARD OF 'widgetrylaw43.AuditReach'. -/
def auditReachUptoCard : Claim7 := { stood := { row := auditReachUptoRow, standIns := [], harness := (true, "c9fa27a521c862538a83054d49e96e05d60249e3402b1fbffc521aacbc508f98"), looks := false }, kinds := [], alts := [], laidByText := true, laidKinds := [.data, .data, .pinned], laidTests := true, laidLooks := .later }
def AuditReachUptoCardSaid : Prop := Claim7.holds Tryz.pinned (.plain (OpenSpec.upto auditReachSpec)) auditReachUptoCard
end Rows
end Go.Proofs.YtoibclpbkjbnbaaGreatDoor
