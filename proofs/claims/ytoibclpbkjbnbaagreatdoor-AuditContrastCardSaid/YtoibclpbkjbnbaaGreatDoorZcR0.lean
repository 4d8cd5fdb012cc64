/- A closed run of the law, the colors known by their contrast alone. -/
import Derived.Test.YtoibclpbkjbnbaaGreatDoorZcT
set_option linter.unusedSimpArgs false
set_option linter.unusedVariables false
set_option linter.unnecessarySimpa false
noncomputable section
namespace Go.Proofs.YtoibclpbkjbnbaaGreatDoor
open Go.Eng
set_option maxRecDepth 1000000
theorem run0 : okR 0 props (otab conH (otr 10000) 60 4 [.scol .u32 0 0 1 2 3 0 449, .scol .u32 0 1 1 2 3 0 449, .sint .u32 0 4 0 0 4294967295, .bool true] (gH 0 props 4)) = true := by kernel_rfl
end Go.Proofs.YtoibclpbkjbnbaaGreatDoor
end
