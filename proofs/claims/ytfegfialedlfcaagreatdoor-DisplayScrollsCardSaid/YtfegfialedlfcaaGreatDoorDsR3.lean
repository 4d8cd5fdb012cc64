/- Kernel runs. -/
import Derived.Test.YtfegfialedlfcaaGreatDoorDsE
import Derived.KernelRfl
set_option linter.unusedSimpArgs false
set_option linter.unusedVariables false
set_option linter.unnecessarySimpa false
noncomputable section
namespace Go.Proofs.YtfegfialedlfcaaGreatDoor
open Go.Eng
set_option maxRecDepth 1000000
theorem rK17 : coOk X 5 (aK 17) (stC 17) 18 23 = true := by kernel_rfl
theorem rC18 : giOk X props 21 (eC 18) = true := by kernel_rfl
theorem rC12 : giOk X props 15 (eC 12) = true := by kernel_rfl
theorem rK6 : coOk X 5 (aK 6) (stC 6) 7 23 = true := by kernel_rfl
theorem rV18 : giOk X props 21 (eV 18) = true := by kernel_rfl
theorem rC5 : giOk X props 8 (eC 5) = true := by kernel_rfl
theorem rB13 : giOk X props 0 (eB 13) = true := by kernel_rfl
theorem rV7 : giOk X props 10 (eV 7) = true := by kernel_rfl
theorem rB8 : giOk X props 0 (eB 8) = true := by kernel_rfl
theorem rV1 : giOk X props 4 (eV 1) = true := by kernel_rfl
end Go.Proofs.YtfegfialedlfcaaGreatDoor
end
