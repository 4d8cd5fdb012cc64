/- Closed runs of the law, two of eight. -/
import Derived.Test.YtoibclpbkjbnbaaGreatDoorZdT
set_option linter.unusedSimpArgs false
set_option linter.unusedVariables false
set_option linter.unnecessarySimpa false
noncomputable section
namespace Go.Proofs.YtoibclpbkjbnbaaGreatDoor
open Go.Eng
set_option maxRecDepth 1000000
theorem run1f : okR 0 props (oall (otr 10000) 60 5 [.bool true, .bool false, .bool false] (gH 0 props)) = true := by kernel_rfl
theorem run1t : okR 0 props (oall (otr 10000) 60 5 [.bool true, .bool false, .bool true] (gH 0 props)) = true := by kernel_rfl
end Go.Proofs.YtoibclpbkjbnbaaGreatDoor
end
