/- The closed runs, third part. -/
import Derived.Test.YtfpcmkpfdjnhnaaGreatDoorZlE
import Derived.KernelRfl
set_option linter.unusedSimpArgs false
set_option linter.unusedVariables false
set_option linter.unnecessarySimpa false
noncomputable section
namespace Go.Proofs.YtfpcmkpfdjnhnaaGreatDoor
open Go.Eng
set_option maxRecDepth 1000000
theorem r134 : gxOk (X noH) 0 props e134 = true := by kernel_rfl
theorem r173 : gxOk (X (gX 0 props (.node 65 (.node 31 (.one 18 [e134]) (.one 31 [e138, e139, e140, e141, e142, e143, e144, e145, e146, e147, e148, e149, e150, e151, e152, e153, e154, e155, e156, e157, e158, e159, e160, e161, e162, e163, e164, e165, e166, e167, e168, e169, e170, e171, e172])) (.node 116 (.one 65 [e135]) (.node 117 (.one 116 [e136]) (.one 117 [e137])))))) 0 props e173 = true := by kernel_rfl
theorem r87 : gxOk (X (gX 0 props (.node 65 (.node 31 (.one 18 [e50]) (.one 31 [e54, e55, e56, e57, e58, e59, e60, e61, e62, e63, e64, e65, e66, e67, e68, e69, e70, e71, e72, e73, e74, e75, e76, e77, e78, e79, e80, e81, e82, e83, e84, e85, e86])) (.node 116 (.one 65 [e51]) (.node 117 (.one 116 [e52]) (.one 117 [e53])))))) 0 props e87 = true := by kernel_rfl
theorem r35 : gxOk (X noH) 0 props e35 = true := by kernel_rfl
theorem r33 : gxOk (X noH) 0 props e33 = true := by kernel_rfl
theorem r31 : gxOk (X noH) 0 props e31 = true := by kernel_rfl
theorem r29 : gxOk (X noH) 0 props e29 = true := by kernel_rfl
theorem r27 : gxOk (X noH) 0 props e27 = true := by kernel_rfl
theorem r25 : gxOk (X noH) 0 props e25 = true := by kernel_rfl
theorem r23 : gxOk (X noH) 0 props e23 = true := by kernel_rfl
theorem r21 : gxOk (X noH) 0 props e21 = true := by kernel_rfl
theorem r154 : gxOk (X noH) 0 props e154 = true := by kernel_rfl
theorem r152 : gxOk (X noH) 0 props e152 = true := by kernel_rfl
theorem r108 : gxOk (X noH) 0 props e108 = true := by kernel_rfl
theorem r106 : gxOk (X noH) 0 props e106 = true := by kernel_rfl
theorem r104 : gxOk (X noH) 0 props e104 = true := by kernel_rfl
theorem r102 : gxOk (X noH) 0 props e102 = true := by kernel_rfl
theorem r54 : gxOk (X noH) 0 props e54 = true := by kernel_rfl
theorem r57 : gxOk (X noH) 0 props e57 = true := by kernel_rfl
theorem r46 : gxOk (X noH) 0 props e46 = true := by kernel_rfl
theorem r95 : gxOk (X noH) 0 props e95 = true := by kernel_rfl
theorem r51 : gxOk (X noH) 0 props e51 = true := by kernel_rfl
theorem r44 : gxOk (X (gX 0 props (.one 31 [e41, e42, e43]))) 0 props e44 = true := by kernel_rfl
end Go.Proofs.YtfpcmkpfdjnhnaaGreatDoor
end
