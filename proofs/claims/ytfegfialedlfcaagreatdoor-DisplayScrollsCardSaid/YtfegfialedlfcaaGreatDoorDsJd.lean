/- Facts of the card. -/
import Derived.Test.YtfegfialedlfcaaGreatDoorCards
import Derived.SevenTiedAt
import Derived.KernelRfl
set_option linter.unusedSimpArgs false
set_option linter.unusedVariables false
set_option linter.unnecessarySimpa false
noncomputable section
namespace Go.Proofs.YtfegfialedlfcaaGreatDoor
set_option maxRecDepth 100000
theorem cd_wf : Rows.displayScrollsRow.wfByText (OpenSpec.ofChange Rows.displayScrollsSpec) = true := by kernel_rfl
theorem cd_main : Tryz.pinned.checked.prog.mainIs = some (true, "f46da637a8f46b52a4d64a357790f44b8addf3393cf991e45ebd07886606c522".toList) := by kernel_rfl
theorem cd_fn : Tryz.prog.funcNamed "widgetry/widgetrylaw24.DisplayScrolls" = some 3 := by kernel_rfl
theorem cd_looks : false = Tryz.pinned.checked.prog.looks [] := by kernel_rfl
theorem cd_stand : ([22, 3, 3, 3].all fun u => !Tryz.prog.wantsStandIn u) = true := by kernel_rfl
theorem cd_goes : false = Rows.displayScrollsRow.goesBy Tryz.pinned.checked.prog := by kernel_rfl
end Go.Proofs.YtfegfialedlfcaaGreatDoor
end
