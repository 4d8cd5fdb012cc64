/- Kernel runs. -/
import Derived.Test.YtfegfialedlfcaaGreatDoorDsE
import Derived.KernelRfl
set_option linter.unusedSimpArgs false
set_option linter.unusedVariables false
set_option linter.unnecessarySimpa false
noncomputable section
namespace Go.Proofs.YtfegfialedlfcaaGreatDoor
open Go.Eng
set_option maxRecDepth 1000000
theorem rK20 : coOk X 5 (aK 20) (stC 20) 21 23 = true := by kernel_rfl
theorem rC15 : giOk X props 18 (eC 15) = true := by kernel_rfl
theorem rC10 : giOk X props 13 (eC 10) = true := by kernel_rfl
theorem rV20 : giOk X props 23 (eV 20) = true := by kernel_rfl
theorem rB16 : giOk X props 0 (eB 16) = true := by kernel_rfl
theorem rC4 : giOk X props 7 (eC 4) = true := by kernel_rfl
theorem rB12 : giOk X props 0 (eB 12) = true := by kernel_rfl
theorem rK1 : coOk X 5 (aK 1) (stC 1) 2 23 = true := by kernel_rfl
theorem rV3 : giOk X props 6 (eV 3) = true := by kernel_rfl
theorem rB2 : giOk X props 0 (eB 2) = true := by kernel_rfl
end Go.Proofs.YtfegfialedlfcaaGreatDoor
end
