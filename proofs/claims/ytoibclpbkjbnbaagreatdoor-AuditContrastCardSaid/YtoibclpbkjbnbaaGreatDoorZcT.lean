/- The table of these functions; what the listed variable reads as. -/
import Derived.Test.YtoibclpbkjbnbaaGreatDoorZcO0
import Derived.Test.YtoibclpbkjbnbaaGreatDoorZcO1
import Derived.Test.YtoibclpbkjbnbaaGreatDoorZcO2
import Derived.Test.YtoibclpbkjbnbaaGreatDoorZcO3
import Derived.Test.YtoibclpbkjbnbaaGreatDoorEngP
import Derived.Test.YtoibclpbkjbnbaaGreatDoorZcB
set_option linter.unusedSimpArgs false
set_option linter.unusedVariables false
set_option linter.unnecessarySimpa false
noncomputable section
namespace Go.Proofs.YtoibclpbkjbnbaaGreatDoor
open Go.Eng
/-- what style.properties reads as -/
def props : List AV := [.bool true, .int .i64 0, .int .i64 16777215, .int .i64 0, .bool false, .int .i64 (-1), .int .i64 16777215, .int .i64 (-1), .bool true, .int .i64 1, .int .i64 1000, .int .i64 16, .bool true, .int .i64 0, .int .i64 7, .int .i64 0, .bool true, .int .i64 0, .int .i64 1, .int .i64 0, .bool false, .int .i64 0, .int .i64 4, .int .i64 1, .bool false, .int .i64 0, .int .i64 4, .int .i64 3, .bool false, .int .i64 0, .int .i64 3, .int .i64 0, .bool true, .int .i64 0, .int .i64 2, .int .i64 0, .bool false, .int .i64 0, .int .i64 1048576, .int .i64 0, .bool false, .int .i64 0, .int .i64 1000, .int .i64 0, .bool false, .int .i64 0, .int .i64 1000, .int .i64 1, .bool false, .int .i64 (-1), .int .i64 1048576, .int .i64 (-1), .bool false, .int .i64 0, .int .i64 1048576, .int .i64 0, .bool false, .int .i64 0, .int .i64 1048576, .int .i64 1048576, .bool false, .int .i64 0, .int .i64 1048576, .int .i64 0, .bool false, .int .i64 0, .int .i64 1048576, .int .i64 1048576, .bool false, .int .i64 0, .int .i64 1048576, .int .i64 0, .bool false, .int .i64 0, .int .i64 1048576, .int .i64 0, .bool false, .int .i64 0, .int .i64 1048576, .int .i64 0, .bool false, .int .i64 0, .int .i64 1048576, .int .i64 0, .bool true, .int .i64 0, .int .i64 1, .int .i64 0]
def otr (N : Nat) : OT := .node 105 (.node 52 (otr0 N) (otr1 N)) (.node 153 (otr2 N) (otr3 N))
theorem otr_ok (N : Nat) : (otr N).Ok Tryz.prog := ⟨⟨otr0_ok N back126, otr1_ok N⟩, otr2_ok N, otr3_ok N⟩
theorem runs_ok : FOk Tryz.prog (otab conH (otr 10000) 60) := otab_ok conH_ok (otr_ok 10000) 60
end Go.Proofs.YtoibclpbkjbnbaaGreatDoor
end
