/- Kernel runs. -/
import Derived.Test.YtfegfialedlfcaaGreatDoorDsE
import Derived.KernelRfl
set_option linter.unusedSimpArgs false
set_option linter.unusedVariables false
set_option linter.unnecessarySimpa false
noncomputable section
namespace Go.Proofs.YtfegfialedlfcaaGreatDoor
open Go.Eng
set_option maxRecDepth 1000000
theorem rK14 : coOk X 5 (aK 14) (stC 14) 15 23 = true := by kernel_rfl
theorem rC20 : giOk X props 23 (eC 20) = true := by kernel_rfl
theorem rC14 : giOk X props 17 (eC 14) = true := by kernel_rfl
theorem rK7 : coOk X 5 (aK 7) (stC 7) 8 23 = true := by kernel_rfl
theorem rV19 : giOk X props 22 (eV 19) = true := by kernel_rfl
theorem rV15 : giOk X props 18 (eV 15) = true := by kernel_rfl
theorem rB14 : giOk X props 0 (eB 14) = true := by kernel_rfl
theorem rB11 : giOk X props 0 (eB 11) = true := by kernel_rfl
theorem rV6 : giOk X props 9 (eV 6) = true := by kernel_rfl
theorem rK0 : coOk X 5 (aK 0) (stC 0) 1 23 = true := by kernel_rfl
theorem rB5 : giOk X props 0 (eB 5) = true := by kernel_rfl
end Go.Proofs.YtfegfialedlfcaaGreatDoor
end
