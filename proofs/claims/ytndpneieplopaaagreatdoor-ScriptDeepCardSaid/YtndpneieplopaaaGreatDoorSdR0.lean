/- The closed runs, first part. -/
import Derived.Test.YtndpneieplopaaaGreatDoorSdE
import Derived.KernelRfl
set_option linter.unusedSimpArgs false
set_option linter.unusedVariables false
set_option linter.unnecessarySimpa false
noncomputable section
namespace Go.Proofs.YtndpneieplopaaaGreatDoor
open Go.Eng
set_option maxRecDepth 1000000
theorem r3 : pxOk (X noH) 2 props e3 = true := by kernel_rfl
theorem r2 : pxOk (X noH) 2 props e2 = true := by kernel_rfl
theorem run1 : okR 2 props (X (hor (pX 2 props (.one 27 [e3, e2])) (gX 2 props (.one 74 [e4]))) 6 [.oint .u8 [(.rem, 3, 1)]] (gH 2 props 0)) = true := by kernel_rfl
theorem run0 : okR 2 props (X (hor (pX 2 props (.one 27 [e0, e2])) (gX 2 props (.one 74 [e1]))) 6 [.oint .u8 [(.rem, 3, 0)]] (gH 2 props 0)) = true := by kernel_rfl
theorem r1 : gxOk (X noH) 2 props e1 = true := by kernel_rfl
end Go.Proofs.YtndpneieplopaaaGreatDoor
end
