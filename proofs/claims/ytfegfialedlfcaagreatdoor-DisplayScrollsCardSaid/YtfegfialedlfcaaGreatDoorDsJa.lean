/- Facts of the joined row, first part. -/
import Derived.Test.YtfegfialedlfcaaGreatDoorRows
import Derived.JoinedOf
import Derived.KernelRfl
set_option linter.unusedSimpArgs false
set_option linter.unusedVariables false
set_option linter.unnecessarySimpa false
noncomputable section
namespace Go.Proofs.YtfegfialedlfcaaGreatDoor
set_option maxRecDepth 100000
theorem jf0 : (Rows.displayScrollsRow.wf (OpenSpec.ofChange Rows.displayScrollsSpec)) = true := by kernel_rfl
theorem jf1 : (laidOutB Tryz.prog) = true := by kernel_rfl
theorem jf2 : (mapsRowed Tryz.prog) = true := by kernel_rfl
theorem jf3 : (Tryz.f3.params.all (Tryz.prog.readableRec ·)) = true := by kernel_rfl
theorem jf4 : (namedTie Tryz.prog Rows.displayScrollsRow.named Rows.displayScrollsSpec.vars) = true := by kernel_rfl
theorem jf5 : ((Rows.displayScrollsRow.stops == [])) = true := by kernel_rfl
theorem jf6 : ((Tryz.prog.stops == [])) = true := by kernel_rfl
theorem jf7 : ((Rows.displayScrollsRow.knobs == [])) = true := by kernel_rfl
theorem jf8 : ((Tryz.prog.stopKnobs == [])) = true := by kernel_rfl
theorem jf9 : ((Rows.displayScrollsRow.inPlace == Tryz.prog.inPlace 3)) = true := by kernel_rfl
theorem jf12 : ((Rows.displayScrollsRow.named == Tryz.prog.varsNamed 3)) = true := by kernel_rfl
end Go.Proofs.YtfegfialedlfcaaGreatDoor
end
