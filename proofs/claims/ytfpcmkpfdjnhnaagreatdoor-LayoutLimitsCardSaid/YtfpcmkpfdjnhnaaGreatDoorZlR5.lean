/- The closed runs, sixth part. -/
import Derived.Test.YtfpcmkpfdjnhnaaGreatDoorZlE
import Derived.KernelRfl
set_option linter.unusedSimpArgs false
set_option linter.unusedVariables false
set_option linter.unnecessarySimpa false
noncomputable section
namespace Go.Proofs.YtfpcmkpfdjnhnaaGreatDoor
open Go.Eng
set_option maxRecDepth 1000000
theorem r0 : gxOk (X noH) 0 props e0 = true := by kernel_rfl
theorem r94 : gxOk (X (gX 0 props (.one 65 [e93]))) 0 props e94 = true := by kernel_rfl
theorem r36 : gxOk (X (gX 0 props (.node 65 (.node 31 (.one 18 [e0]) (.one 31 [e4, e5, e6, e7, e8, e9, e10, e11, e12, e13, e14, e15, e16, e17, e18, e19, e20, e21, e22, e23, e24, e25, e26, e27, e28, e29, e30, e31, e32, e33, e34, e35])) (.node 116 (.one 65 [e1]) (.node 117 (.one 116 [e2]) (.one 117 [e3])))))) 0 props e36 = true := by kernel_rfl
theorem r85 : gxOk (X noH) 0 props e85 = true := by kernel_rfl
theorem r83 : gxOk (X noH) 0 props e83 = true := by kernel_rfl
theorem r81 : gxOk (X noH) 0 props e81 = true := by kernel_rfl
theorem r79 : gxOk (X noH) 0 props e79 = true := by kernel_rfl
theorem r77 : gxOk (X noH) 0 props e77 = true := by kernel_rfl
theorem r75 : gxOk (X noH) 0 props e75 = true := by kernel_rfl
theorem r73 : gxOk (X noH) 0 props e73 = true := by kernel_rfl
theorem r71 : gxOk (X noH) 0 props e71 = true := by kernel_rfl
theorem r19 : gxOk (X noH) 0 props e19 = true := by kernel_rfl
theorem r133 : gxOk (X (hor ixH (hor (pX 0 props (.one 39 [e132])) (gX 0 props (.one 37 [e131]))))) 0 props e133 = true := by kernel_rfl
theorem r150 : gxOk (X noH) 0 props e150 = true := by kernel_rfl
theorem r148 : gxOk (X noH) 0 props e148 = true := by kernel_rfl
theorem r146 : gxOk (X noH) 0 props e146 = true := by kernel_rfl
theorem r144 : gxOk (X noH) 0 props e144 = true := by kernel_rfl
theorem r96 : gxOk (X noH) 0 props e96 = true := by kernel_rfl
theorem r99 : gxOk (X noH) 0 props e99 = true := by kernel_rfl
theorem r45 : gxOk (X noH) 0 props e45 = true := by kernel_rfl
theorem r53 : gxOk (X noH) 0 props e53 = true := by kernel_rfl
theorem r3 : gxOk (X noH) 0 props e3 = true := by kernel_rfl
theorem run2 : okR 0 props (X (gX 0 props (.node 16 (.one 5 [e133, e49]) (.node 18 (.one 16 [e130, e44]) (.one 18 [e92])))) 3 [.oint .i64 [(.and, 3, 2)]] (gH 0 props 0)) = true := by kernel_rfl
end Go.Proofs.YtfpcmkpfdjnhnaaGreatDoor
end
