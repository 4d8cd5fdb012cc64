/- The closed runs, second part. -/
import Derived.Test.YtfpcmkpfdjnhnaaGreatDoorZlE
import Derived.KernelRfl
set_option linter.unusedSimpArgs false
set_option linter.unusedVariables false
set_option linter.unnecessarySimpa false
noncomputable section
namespace Go.Proofs.YtfpcmkpfdjnhnaaGreatDoor
open Go.Eng
set_option maxRecDepth 1000000
theorem r40 : gxOk (X (hor ixH (hor (pX 0 props (.one 39 [e38])) (gX 0 props (.node 106 (.one 37 [e37]) (.one 106 [e39])))))) 0 props e40 = true := by kernel_rfl
theorem r132 : pxOk (X noH) 0 props e132 = true := by kernel_rfl
theorem r171 : gxOk (X noH) 0 props e171 = true := by kernel_rfl
theorem r34 : gxOk (X noH) 0 props e34 = true := by kernel_rfl
theorem r32 : gxOk (X noH) 0 props e32 = true := by kernel_rfl
theorem r30 : gxOk (X noH) 0 props e30 = true := by kernel_rfl
theorem r28 : gxOk (X noH) 0 props e28 = true := by kernel_rfl
theorem r26 : gxOk (X noH) 0 props e26 = true := by kernel_rfl
theorem r24 : gxOk (X noH) 0 props e24 = true := by kernel_rfl
theorem r22 : gxOk (X noH) 0 props e22 = true := by kernel_rfl
theorem r176 : gxOk (X (hor ixH (hor (pX 0 props (.one 39 [e175])) (gX 0 props (.one 37 [e174]))))) 0 props e176 = true := by kernel_rfl
theorem r153 : gxOk (X noH) 0 props e153 = true := by kernel_rfl
theorem r109 : gxOk (X noH) 0 props e109 = true := by kernel_rfl
theorem r107 : gxOk (X noH) 0 props e107 = true := by kernel_rfl
theorem r105 : gxOk (X noH) 0 props e105 = true := by kernel_rfl
theorem r103 : gxOk (X noH) 0 props e103 = true := by kernel_rfl
theorem r101 : gxOk (X noH) 0 props e101 = true := by kernel_rfl
theorem r58 : gxOk (X noH) 0 props e58 = true := by kernel_rfl
theorem r43 : gxOk (X noH) 0 props e43 = true := by kernel_rfl
theorem r55 : gxOk (X noH) 0 props e55 = true := by kernel_rfl
theorem r131 : gxOk (X noH) 0 props e131 = true := by kernel_rfl
theorem r1 : gxOk (X noH) 0 props e1 = true := by kernel_rfl
end Go.Proofs.YtfpcmkpfdjnhnaaGreatDoor
end
