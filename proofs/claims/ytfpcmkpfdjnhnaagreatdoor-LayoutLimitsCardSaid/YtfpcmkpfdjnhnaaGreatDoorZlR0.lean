/- The closed runs, first part. -/
import Derived.Test.YtfpcmkpfdjnhnaaGreatDoorZlE
import Derived.KernelRfl
set_option linter.unusedSimpArgs false
set_option linter.unusedVariables false
set_option linter.unnecessarySimpa false
noncomputable section
namespace Go.Proofs.YtfpcmkpfdjnhnaaGreatDoor
open Go.Eng
set_option maxRecDepth 1000000
theorem r91 : gxOk (X (hor ixH (hor (pX 0 props (.one 39 [e89])) (gX 0 props (.node 106 (.one 37 [e88]) (.one 106 [e90])))))) 0 props e91 = true := by kernel_rfl
theorem r38 : pxOk (X noH) 0 props e38 = true := by kernel_rfl
theorem r86 : gxOk (X noH) 0 props e86 = true := by kernel_rfl
theorem r84 : gxOk (X noH) 0 props e84 = true := by kernel_rfl
theorem r82 : gxOk (X noH) 0 props e82 = true := by kernel_rfl
theorem r80 : gxOk (X noH) 0 props e80 = true := by kernel_rfl
theorem r78 : gxOk (X noH) 0 props e78 = true := by kernel_rfl
theorem r76 : gxOk (X noH) 0 props e76 = true := by kernel_rfl
theorem r74 : gxOk (X noH) 0 props e74 = true := by kernel_rfl
theorem r72 : gxOk (X noH) 0 props e72 = true := by kernel_rfl
theorem r20 : gxOk (X noH) 0 props e20 = true := by kernel_rfl
theorem r18 : gxOk (X noH) 0 props e18 = true := by kernel_rfl
theorem r151 : gxOk (X noH) 0 props e151 = true := by kernel_rfl
theorem r149 : gxOk (X noH) 0 props e149 = true := by kernel_rfl
theorem r62 : gxOk (X noH) 0 props e62 = true := by kernel_rfl
theorem r10 : gxOk (X noH) 0 props e10 = true := by kernel_rfl
theorem r143 : gxOk (X noH) 0 props e143 = true := by kernel_rfl
theorem r7 : gxOk (X noH) 0 props e7 = true := by kernel_rfl
theorem r56 : gxOk (X noH) 0 props e56 = true := by kernel_rfl
theorem r97 : gxOk (X noH) 0 props e97 = true := by kernel_rfl
theorem r88 : gxOk (X noH) 0 props e88 = true := by kernel_rfl
theorem run0 : okR 0 props (X (gX 0 props (.node 16 (.one 5 [e40, e49]) (.node 18 (.one 16 [e36, e44]) (.one 18 [e0])))) 3 [.oint .i64 [(.and, 3, 0)]] (gH 0 props 0)) = true := by kernel_rfl
end Go.Proofs.YtfpcmkpfdjnhnaaGreatDoor
end
