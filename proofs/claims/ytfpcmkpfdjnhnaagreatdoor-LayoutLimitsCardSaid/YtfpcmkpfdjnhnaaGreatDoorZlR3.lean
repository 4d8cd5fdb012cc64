/- The closed runs, fourth part. -/
import Derived.Test.YtfpcmkpfdjnhnaaGreatDoorZlE
import Derived.KernelRfl
set_option linter.unusedSimpArgs false
set_option linter.unusedVariables false
set_option linter.unnecessarySimpa false
noncomputable section
namespace Go.Proofs.YtfpcmkpfdjnhnaaGreatDoor
open Go.Eng
set_option maxRecDepth 1000000
theorem r92 : gxOk (X noH) 0 props e92 = true := by kernel_rfl
theorem r2 : gxOk (X (gX 0 props (.one 65 [e1]))) 0 props e2 = true := by kernel_rfl
theorem r129 : gxOk (X noH) 0 props e129 = true := by kernel_rfl
theorem r169 : gxOk (X noH) 0 props e169 = true := by kernel_rfl
theorem r167 : gxOk (X noH) 0 props e167 = true := by kernel_rfl
theorem r165 : gxOk (X noH) 0 props e165 = true := by kernel_rfl
theorem r163 : gxOk (X noH) 0 props e163 = true := by kernel_rfl
theorem r161 : gxOk (X noH) 0 props e161 = true := by kernel_rfl
theorem r159 : gxOk (X noH) 0 props e159 = true := by kernel_rfl
theorem r157 : gxOk (X noH) 0 props e157 = true := by kernel_rfl
theorem r155 : gxOk (X noH) 0 props e155 = true := by kernel_rfl
theorem r111 : gxOk (X noH) 0 props e111 = true := by kernel_rfl
theorem r67 : gxOk (X noH) 0 props e67 = true := by kernel_rfl
theorem r65 : gxOk (X noH) 0 props e65 = true := by kernel_rfl
theorem r63 : gxOk (X noH) 0 props e63 = true := by kernel_rfl
theorem r61 : gxOk (X noH) 0 props e61 = true := by kernel_rfl
theorem r59 : gxOk (X noH) 0 props e59 = true := by kernel_rfl
theorem r8 : gxOk (X noH) 0 props e8 = true := by kernel_rfl
theorem r6 : gxOk (X noH) 0 props e6 = true := by kernel_rfl
theorem r42 : gxOk (X noH) 0 props e42 = true := by kernel_rfl
theorem r93 : gxOk (X noH) 0 props e93 = true := by kernel_rfl
theorem r47 : gxOk (X noH) 0 props e47 = true := by kernel_rfl
end Go.Proofs.YtfpcmkpfdjnhnaaGreatDoor
end
