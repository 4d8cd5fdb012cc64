/- Kernel runs. -/
import Derived.Test.YtfegfialedlfcaaGreatDoorDsE
import Derived.KernelRfl
set_option linter.unusedSimpArgs false
set_option linter.unusedVariables false
set_option linter.unnecessarySimpa false
noncomputable section
namespace Go.Proofs.YtfegfialedlfcaaGreatDoor
open Go.Eng
set_option maxRecDepth 1000000
theorem rK13 : coOk X 5 (aK 13) (stC 13) 14 23 = true := by kernel_rfl
theorem rK12 : coOk X 5 (aK 12) (stC 12) 13 23 = true := by kernel_rfl
theorem rC16 : giOk X props 19 (eC 16) = true := by kernel_rfl
theorem rB20 : giOk X props 0 (eB 20) = true := by kernel_rfl
theorem rC7 : giOk X props 10 (eC 7) = true := by kernel_rfl
theorem rV16 : giOk X props 19 (eV 16) = true := by kernel_rfl
theorem rV12 : giOk X props 15 (eV 12) = true := by kernel_rfl
theorem rV8 : giOk X props 11 (eV 8) = true := by kernel_rfl
theorem rV5 : giOk X props 8 (eV 5) = true := by kernel_rfl
theorem rB7 : giOk X props 0 (eB 7) = true := by kernel_rfl
theorem rB3 : giOk X props 0 (eB 3) = true := by kernel_rfl
end Go.Proofs.YtfegfialedlfcaaGreatDoor
end
