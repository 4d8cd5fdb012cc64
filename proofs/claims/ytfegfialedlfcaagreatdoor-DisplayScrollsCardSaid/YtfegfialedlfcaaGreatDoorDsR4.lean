/- Kernel runs. -/
import Derived.Test.YtfegfialedlfcaaGreatDoorDsE
import Derived.KernelRfl
set_option linter.unusedSimpArgs false
set_option linter.unusedVariables false
set_option linter.unnecessarySimpa false
noncomputable section
namespace Go.Proofs.YtfegfialedlfcaaGreatDoor
open Go.Eng
set_option maxRecDepth 1000000
theorem rK16 : coOk X 5 (aK 16) (stC 16) 17 23 = true := by kernel_rfl
theorem rK11 : coOk X 5 (aK 11) (stC 11) 12 23 = true := by kernel_rfl
theorem rC13 : giOk X props 16 (eC 13) = true := by kernel_rfl
theorem rB19 : giOk X props 0 (eB 19) = true := by kernel_rfl
theorem rK5 : coOk X 5 (aK 5) (stC 5) 6 23 = true := by kernel_rfl
theorem rB15 : giOk X props 0 (eB 15) = true := by kernel_rfl
theorem rK3 : coOk X 5 (aK 3) (stC 3) 4 23 = true := by kernel_rfl
theorem rK2 : coOk X 5 (aK 2) (stC 2) 3 23 = true := by kernel_rfl
theorem rB9 : giOk X props 0 (eB 9) = true := by kernel_rfl
theorem rV2 : giOk X props 5 (eV 2) = true := by kernel_rfl
theorem rV0 : giOk X props 3 (eV 0) = true := by kernel_rfl
end Go.Proofs.YtfegfialedlfcaaGreatDoor
end
