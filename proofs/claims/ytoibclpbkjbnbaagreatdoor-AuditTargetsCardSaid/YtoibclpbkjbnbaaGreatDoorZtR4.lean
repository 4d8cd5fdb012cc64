/- Closed runs of the law, the two numbers known by bounds alone. -/
import Derived.Test.YtoibclpbkjbnbaaGreatDoorZtT
set_option linter.unusedSimpArgs false
set_option linter.unusedVariables false
set_option linter.unnecessarySimpa false
noncomputable section
namespace Go.Proofs.YtoibclpbkjbnbaaGreatDoor
open Go.Eng
set_option maxRecDepth 1000000
theorem run4 : okR 0 props (oall (otr 10000) 60 3 [.sint .u8 0 1 0 1 23, .sint .u8 0 2 0 101 255, .bool false] (gH 0 props 2)) = true := by kernel_rfl
theorem run12 : okR 0 props (oall (otr 10000) 60 3 [.sint .u8 0 1 0 101 255, .sint .u8 0 2 0 101 255, .bool false] (gH 0 props 2)) = true := by kernel_rfl
theorem run20 : okR 0 props (oall (otr 10000) 60 3 [.sint .u8 0 1 0 101 255, .sint .u8 0 2 0 101 255, .bool true] (gH 0 props 2)) = true := by kernel_rfl
end Go.Proofs.YtoibclpbkjbnbaaGreatDoor
end
