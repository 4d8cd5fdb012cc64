/- Kernel runs. -/
import Derived.Test.YtfegfialedlfcaaGreatDoorDsE
import Derived.KernelRfl
set_option linter.unusedSimpArgs false
set_option linter.unusedVariables false
set_option linter.unnecessarySimpa false
noncomputable section
namespace Go.Proofs.YtfegfialedlfcaaGreatDoor
open Go.Eng
set_option maxRecDepth 1000000
theorem rK15 : coOk X 5 (aK 15) (stC 15) 16 23 = true := by kernel_rfl
theorem rC19 : giOk X props 22 (eC 19) = true := by kernel_rfl
theorem rK9 : coOk X 5 (aK 9) (stC 9) 10 23 = true := by kernel_rfl
theorem rC9 : giOk X props 12 (eC 9) = true := by kernel_rfl
theorem rB17 : giOk X props 0 (eB 17) = true := by kernel_rfl
theorem rK4 : coOk X 5 (aK 4) (stC 4) 5 23 = true := by kernel_rfl
theorem rV11 : giOk X props 14 (eV 11) = true := by kernel_rfl
theorem rC3 : giOk X props 6 (eC 3) = true := by kernel_rfl
theorem rV4 : giOk X props 7 (eV 4) = true := by kernel_rfl
theorem rC1 : giOk X props 4 (eC 1) = true := by kernel_rfl
theorem rB1 : giOk X props 0 (eB 1) = true := by kernel_rfl
theorem rB0 : giOk X props 0 (eB 0) = true := by kernel_rfl
end Go.Proofs.YtfegfialedlfcaaGreatDoor
end
