/- The closed runs, second part. -/
import Derived.Test.YtndpneieplopaaaGreatDoorSdE
import Derived.KernelRfl
set_option linter.unusedSimpArgs false
set_option linter.unusedVariables false
set_option linter.unnecessarySimpa false
noncomputable section
namespace Go.Proofs.YtndpneieplopaaaGreatDoor
open Go.Eng
set_option maxRecDepth 1000000
theorem r0 : pxOk (X noH) 2 props e0 = true := by kernel_rfl
theorem r5 : pxOk (X noH) 2 props e5 = true := by kernel_rfl
theorem r4 : gxOk (X noH) 2 props e4 = true := by kernel_rfl
theorem run2 : okR 2 props (X (pX 2 props (.one 27 [e5, e2])) 6 [.oint .u8 [(.rem, 3, 2)]] (gH 2 props 0)) = true := by kernel_rfl
end Go.Proofs.YtndpneieplopaaaGreatDoor
end
