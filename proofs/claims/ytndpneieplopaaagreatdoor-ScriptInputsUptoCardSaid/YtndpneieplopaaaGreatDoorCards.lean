/-
  DERIVED. GIVEN WITH THE SEED: THE CARDS: each row of YtndpneieplopaaaGreatDoorRows.lean that lists a variable, with what it lists TIED to the program's text (the seventh form; the later family's looks); each row that meets fmt, with fmt's text TOLD by the authors' own Lean function (tested against real Go, not proved from fmt's source: count such statements apart). THE CARD IS WHAT COUNTS. Prove the row's statement (the work); the ties are given (YtndpneieplopaaaGreatDoorTie.lean); close each card by the builder's one call (the guide's Derived/Test/ToyasCard.lean, 'card_holds'). Laid BY PROGRAM, IN A SANDBOX (cutbox-door.mjs). By AI agents, Wed Nov 11 2026. No macro, syntax, notation, axiom, sorry.
-/
import Derived.Test.YtndpneieplopaaaGreatDoorRows
import GoSem.ClaimSeven
namespace Go.Proofs.YtndpneieplopaaaGreatDoor
namespace Rows

/-- THE TIED CARD OF 'widgetrylaw45.ScriptTexts'. -/
def scriptTextsCard : Claim7 := { stood := { row := scriptTextsRow, standIns := [], harness := (true, "1634e7c201b6555a02db3d98668e3da92c8f1215a22ed4f79945d3288704b5e7"), looks := true }, kinds := [], alts := [], laidByText := true, laidKinds := [.data, .data, .data, .data, .sentinel, .sentinel, .pinned], laidTests := true, laidLooks := .later }
def ScriptTextsCardSaid : Prop := Claim7.holds Tryz.pinned (.plain (OpenSpec.ofChange scriptTextsSpec)) scriptTextsCard

/-- THE TIED CARD OF 'widgetrylaw45.ScriptInputs'. -/
def scriptInputsCard : Claim7 := { stood := { row := scriptInputsRow, standIns := [], harness := (true, "1634e7c201b6555a02db3d98668e3da92c8f1215a22ed4f79945d3288704b5e7"), looks := true }, kinds := [], alts := [], laidByText := true, laidKinds := [.data, .data, .data, .data, .sentinel, .sentinel, .pinned], laidTests := true, laidLooks := .later }
def ScriptInputsCardSaid : Prop := Claim7.holds Tryz.pinned (.plain (OpenSpec.ofChange scriptInputsSpec)) scriptInputsCard

/-- THE TIED CARD OF 'widgetrylaw45.ScriptBack'. -/
def scriptBackCard : Claim7 := { stood := { row := scriptBackRow, standIns := [], harness := (true, "1634e7c201b6555a02db3d98668e3da92c8f1215a22ed4f79945d3288704b5e7"), looks := true }, kinds := [], alts := [], laidByText := true, laidKinds := [.data, .data, .data, .data, .sentinel, .sentinel, .pinned], laidTests := true, laidLooks := .later }
def ScriptBackCardSaid : Prop := Claim7.holds Tryz.pinned (.plain (OpenSpec.ofChange scriptBackSpec)) scriptBackCard

/-- THE TIED CARD OF 'widgetrylaw45.ScriptDeep'. -/
def scriptDeepCard : Claim7 := { stood := { row := scriptDeepRow, standIns := [], harness := (true, "1634e7c201b6555a02db3d98668e3da92c8f1215a22ed4f79945d3288704b5e7"), looks := true }, kinds := [], alts := [], laidByText := true, laidKinds := [.data, .data, .data, .data, .sentinel, .sentinel, .pinned], laidTests := true, laidLooks := .later }
def ScriptDeepCardSaid : Prop := Claim7.holds Tryz.pinned (.plain (OpenSpec.ofChange scriptDeepSpec)) scriptDeepCard

/-- THE SECOND FORM's CARD OF 'widgetrylaw45.ScriptTexts'. -/
def scriptTextsUptoCard : Claim7 := { stood := { row := scriptTextsUptoRow, standIns := [], harness := (true, "1634e7c201b6555a02db3d98668e3da92c8f1215a22ed4f79945d3288704b5e7"), looks := true }, kinds := [], alts := [], laidByText := true, laidKinds := [.data, .data, .data, .data, .sentinel, .sentinel, .pinned], laidTests := true, laidLooks := .later }
def ScriptTextsUptoCardSaid : Prop := Claim7.holds Tryz.pinned (.plain (OpenSpec.upto scriptTextsSpec)) scriptTextsUptoCard

/-- THE SECOND FORM's CARD OF 'widgetrylaw45.ScriptInputs'. -/
def scriptInputsUptoCard : Claim7 := { stood := { row := scriptInputsUptoRow, standIns := [], harness := (true, "1634e7c201b6555a02db3d98668e3da92c8f1215a22ed4f79945d3288704b5e7"), looks := true }, kinds := [], alts := [], laidByText := true, laidKinds := [.data, .data, .data, .data, .sentinel, .sentinel, .pinned], laidTests := true, laidLooks := .later }
def ScriptInputsUptoCardSaid : Prop := Claim7.holds Tryz.pinned (.plain (OpenSpec.upto scriptInputsSpec)) scriptInputsUptoCard

/-- THE SECOND FORM's CARD OF 'widgetrylaw45.ScriptBack'. -/
def scriptBackUptoCard : Claim7 := { stood := { row := scriptBackUptoRow, standIns := [], harness := (true, "1634e7c201b6555a02db3d98668e3da92c8f1215a22ed4f79945d3288704b5e7"), looks := true }, kinds := [], alts := [], laidByText := true, laidKinds := [.data, .data, .data, .data, .sentinel, .sentinel, .pinned], laidTests := true, laidLooks := .later }
def ScriptBackUptoCardSaid : Prop := Claim7.holds Tryz.pinned (.plain (OpenSpec.upto scriptBackSpec)) scriptBackUptoCard

/-- THE SECOND FORM's CARD OF 'widgetrylaw45.ScriptDeep'. -/
def scriptDeepUptoCard : Claim7 := { stood := { row := scriptDeepUptoRow, standIns := [], harness := (true, "1634e7c201b6555a02db3d98668e3da92c8f1215a22ed4f79945d3288704b5e7"), looks := true }, kinds := [], alts := [], laidByText := true, laidKinds := [.data, .data, .data, .data, .sentinel, .sentinel, .pinned], laidTests := true, laidLooks := .later }
def ScriptDeepUptoCardSaid : Prop := Claim7.holds Tryz.pinned (.plain (OpenSpec.upto scriptDeepSpec)) scriptDeepUptoCard
end Rows
end Go.Proofs.YtndpneieplopaaaGreatDoor
