/- Kernel runs. -/
import Derived.Test.YtfegfialedlfcaaGreatDoorDsE
import Derived.KernelRfl
set_option linter.unusedSimpArgs false
set_option linter.unusedVariables false
set_option linter.unnecessarySimpa false
noncomputable section
namespace Go.Proofs.YtfegfialedlfcaaGreatDoor
open Go.Eng
set_option maxRecDepth 1000000
theorem rK18 : coOk X 5 (aK 18) (stC 18) 19 23 = true := by kernel_rfl
theorem rC17 : giOk X props 20 (eC 17) = true := by kernel_rfl
theorem rK8 : coOk X 5 (aK 8) (stC 8) 9 23 = true := by kernel_rfl
theorem rC8 : giOk X props 11 (eC 8) = true := by kernel_rfl
theorem rC6 : giOk X props 9 (eC 6) = true := by kernel_rfl
theorem rV14 : giOk X props 17 (eV 14) = true := by kernel_rfl
theorem rV10 : giOk X props 13 (eV 10) = true := by kernel_rfl
theorem rC2 : giOk X props 5 (eC 2) = true := by kernel_rfl
theorem rB6 : giOk X props 0 (eB 6) = true := by kernel_rfl
theorem rC0 : giOk X props 3 (eC 0) = true := by kernel_rfl
end Go.Proofs.YtfegfialedlfcaaGreatDoor
end
