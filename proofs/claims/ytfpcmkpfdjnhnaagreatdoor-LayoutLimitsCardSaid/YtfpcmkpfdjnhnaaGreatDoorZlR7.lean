/- The closed runs, eighth part. -/
import Derived.Test.YtfpcmkpfdjnhnaaGreatDoorZlE
import Derived.KernelRfl
set_option linter.unusedSimpArgs false
set_option linter.unusedVariables false
set_option linter.unnecessarySimpa false
noncomputable section
namespace Go.Proofs.YtfpcmkpfdjnhnaaGreatDoor
open Go.Eng
set_option maxRecDepth 1000000
theorem r90 : gxOk (X noH) 0 props e90 = true := by kernel_rfl
theorem r39 : gxOk (X noH) 0 props e39 = true := by kernel_rfl
theorem r175 : pxOk (X noH) 0 props e175 = true := by kernel_rfl
theorem r89 : pxOk (X noH) 0 props e89 = true := by kernel_rfl
theorem r170 : gxOk (X noH) 0 props e170 = true := by kernel_rfl
theorem r168 : gxOk (X noH) 0 props e168 = true := by kernel_rfl
theorem r166 : gxOk (X noH) 0 props e166 = true := by kernel_rfl
theorem r164 : gxOk (X noH) 0 props e164 = true := by kernel_rfl
theorem r162 : gxOk (X noH) 0 props e162 = true := by kernel_rfl
theorem r160 : gxOk (X noH) 0 props e160 = true := by kernel_rfl
theorem r158 : gxOk (X noH) 0 props e158 = true := by kernel_rfl
theorem r156 : gxOk (X noH) 0 props e156 = true := by kernel_rfl
theorem r112 : gxOk (X noH) 0 props e112 = true := by kernel_rfl
theorem r110 : gxOk (X noH) 0 props e110 = true := by kernel_rfl
theorem r66 : gxOk (X noH) 0 props e66 = true := by kernel_rfl
theorem r64 : gxOk (X noH) 0 props e64 = true := by kernel_rfl
theorem r12 : gxOk (X noH) 0 props e12 = true := by kernel_rfl
theorem r145 : gxOk (X noH) 0 props e145 = true := by kernel_rfl
theorem r41 : gxOk (X noH) 0 props e41 = true := by kernel_rfl
theorem r142 : gxOk (X noH) 0 props e142 = true := by kernel_rfl
theorem r140 : gxOk (X noH) 0 props e140 = true := by kernel_rfl
theorem r137 : gxOk (X noH) 0 props e137 = true := by kernel_rfl
theorem r174 : gxOk (X noH) 0 props e174 = true := by kernel_rfl
theorem run3 : okR 0 props (X (gX 0 props (.node 16 (.one 5 [e176, e49]) (.node 18 (.one 16 [e173, e44]) (.one 18 [e134])))) 3 [.oint .i64 [(.and, 3, 3)]] (gH 0 props 0)) = true := by kernel_rfl
end Go.Proofs.YtfpcmkpfdjnhnaaGreatDoor
end
