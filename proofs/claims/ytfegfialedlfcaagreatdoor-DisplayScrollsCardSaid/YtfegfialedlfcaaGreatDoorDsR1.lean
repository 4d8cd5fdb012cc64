/- Kernel runs. -/
import Derived.Test.YtfegfialedlfcaaGreatDoorDsE
import Derived.KernelRfl
set_option linter.unusedSimpArgs false
set_option linter.unusedVariables false
set_option linter.unnecessarySimpa false
noncomputable section
namespace Go.Proofs.YtfegfialedlfcaaGreatDoor
open Go.Eng
set_option maxRecDepth 1000000
theorem rK19 : coOk X 5 (aK 19) (stC 19) 20 23 = true := by kernel_rfl
theorem rK10 : coOk X 5 (aK 10) (stC 10) 11 23 = true := by kernel_rfl
theorem rC11 : giOk X props 14 (eC 11) = true := by kernel_rfl
theorem rB18 : giOk X props 0 (eB 18) = true := by kernel_rfl
theorem rV17 : giOk X props 20 (eV 17) = true := by kernel_rfl
theorem rV13 : giOk X props 16 (eV 13) = true := by kernel_rfl
theorem rV9 : giOk X props 12 (eV 9) = true := by kernel_rfl
theorem rB10 : giOk X props 0 (eB 10) = true := by kernel_rfl
theorem rA : giOk X props 0 eA = true := by kernel_rfl
theorem rB4 : giOk X props 0 (eB 4) = true := by kernel_rfl
end Go.Proofs.YtfegfialedlfcaaGreatDoor
end
