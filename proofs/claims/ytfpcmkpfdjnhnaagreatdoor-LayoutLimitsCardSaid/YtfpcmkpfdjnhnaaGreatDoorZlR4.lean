/- The closed runs, fifth part. -/
import Derived.Test.YtfpcmkpfdjnhnaaGreatDoorZlE
import Derived.KernelRfl
set_option linter.unusedSimpArgs false
set_option linter.unusedVariables false
set_option linter.unnecessarySimpa false
noncomputable section
namespace Go.Proofs.YtfpcmkpfdjnhnaaGreatDoor
open Go.Eng
set_option maxRecDepth 1000000
theorem r50 : gxOk (X noH) 0 props e50 = true := by kernel_rfl
theorem r52 : gxOk (X (gX 0 props (.one 65 [e51]))) 0 props e52 = true := by kernel_rfl
theorem r172 : gxOk (X noH) 0 props e172 = true := by kernel_rfl
theorem r127 : gxOk (X noH) 0 props e127 = true := by kernel_rfl
theorem r125 : gxOk (X noH) 0 props e125 = true := by kernel_rfl
theorem r123 : gxOk (X noH) 0 props e123 = true := by kernel_rfl
theorem r121 : gxOk (X noH) 0 props e121 = true := by kernel_rfl
theorem r119 : gxOk (X noH) 0 props e119 = true := by kernel_rfl
theorem r117 : gxOk (X noH) 0 props e117 = true := by kernel_rfl
theorem r115 : gxOk (X noH) 0 props e115 = true := by kernel_rfl
theorem r113 : gxOk (X noH) 0 props e113 = true := by kernel_rfl
theorem r69 : gxOk (X noH) 0 props e69 = true := by kernel_rfl
theorem r17 : gxOk (X noH) 0 props e17 = true := by kernel_rfl
theorem r15 : gxOk (X noH) 0 props e15 = true := by kernel_rfl
theorem r13 : gxOk (X noH) 0 props e13 = true := by kernel_rfl
theorem r11 : gxOk (X noH) 0 props e11 = true := by kernel_rfl
theorem r9 : gxOk (X noH) 0 props e9 = true := by kernel_rfl
theorem r138 : gxOk (X noH) 0 props e138 = true := by kernel_rfl
theorem r141 : gxOk (X noH) 0 props e141 = true := by kernel_rfl
theorem r5 : gxOk (X noH) 0 props e5 = true := by kernel_rfl
theorem r135 : gxOk (X noH) 0 props e135 = true := by kernel_rfl
theorem r48 : gxOk (X noH) 0 props e48 = true := by kernel_rfl
end Go.Proofs.YtfpcmkpfdjnhnaaGreatDoor
end
