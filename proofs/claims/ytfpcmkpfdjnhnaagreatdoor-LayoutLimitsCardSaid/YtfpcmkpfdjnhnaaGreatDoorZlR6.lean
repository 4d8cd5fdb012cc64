/- The closed runs, seventh part. -/
import Derived.Test.YtfpcmkpfdjnhnaaGreatDoorZlE
import Derived.KernelRfl
set_option linter.unusedSimpArgs false
set_option linter.unusedVariables false
set_option linter.unnecessarySimpa false
noncomputable section
namespace Go.Proofs.YtfpcmkpfdjnhnaaGreatDoor
open Go.Eng
set_option maxRecDepth 1000000
theorem r49 : gxOk (X (hor ixH (gX 0 props (.node 250 (.one 249 [e45, e47]) (.one 250 [e46, e48]))))) 0 props e49 = true := by kernel_rfl
theorem r136 : gxOk (X (gX 0 props (.one 65 [e135]))) 0 props e136 = true := by kernel_rfl
theorem r130 : gxOk (X (gX 0 props (.node 65 (.node 31 (.one 18 [e92]) (.one 31 [e96, e97, e98, e99, e100, e101, e102, e103, e104, e105, e106, e107, e108, e109, e110, e111, e112, e113, e114, e115, e116, e117, e118, e119, e120, e121, e122, e123, e124, e125, e126, e127, e128, e129])) (.node 116 (.one 65 [e93]) (.node 117 (.one 116 [e94]) (.one 117 [e95])))))) 0 props e130 = true := by kernel_rfl
theorem r128 : gxOk (X noH) 0 props e128 = true := by kernel_rfl
theorem r126 : gxOk (X noH) 0 props e126 = true := by kernel_rfl
theorem r124 : gxOk (X noH) 0 props e124 = true := by kernel_rfl
theorem r122 : gxOk (X noH) 0 props e122 = true := by kernel_rfl
theorem r120 : gxOk (X noH) 0 props e120 = true := by kernel_rfl
theorem r118 : gxOk (X noH) 0 props e118 = true := by kernel_rfl
theorem r116 : gxOk (X noH) 0 props e116 = true := by kernel_rfl
theorem r114 : gxOk (X noH) 0 props e114 = true := by kernel_rfl
theorem r70 : gxOk (X noH) 0 props e70 = true := by kernel_rfl
theorem r68 : gxOk (X noH) 0 props e68 = true := by kernel_rfl
theorem r16 : gxOk (X noH) 0 props e16 = true := by kernel_rfl
theorem r14 : gxOk (X noH) 0 props e14 = true := by kernel_rfl
theorem r147 : gxOk (X noH) 0 props e147 = true := by kernel_rfl
theorem r60 : gxOk (X noH) 0 props e60 = true := by kernel_rfl
theorem r4 : gxOk (X noH) 0 props e4 = true := by kernel_rfl
theorem r100 : gxOk (X noH) 0 props e100 = true := by kernel_rfl
theorem r98 : gxOk (X noH) 0 props e98 = true := by kernel_rfl
theorem r139 : gxOk (X noH) 0 props e139 = true := by kernel_rfl
theorem r37 : gxOk (X noH) 0 props e37 = true := by kernel_rfl
theorem run1 : okR 0 props (X (gX 0 props (.node 16 (.one 5 [e91, e49]) (.node 18 (.one 16 [e87, e44]) (.one 18 [e50])))) 3 [.oint .i64 [(.and, 3, 1)]] (gH 0 props 0)) = true := by kernel_rfl
end Go.Proofs.YtfpcmkpfdjnhnaaGreatDoor
end
