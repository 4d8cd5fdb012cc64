/- Facts of the joined row. -/
import Derived.Test.YtfegfialedlfcaaGreatDoorDsJa
import Derived.Test.YtfegfialedlfcaaGreatDoorDsJb
set_option linter.unusedSimpArgs false
set_option linter.unusedVariables false
set_option linter.unnecessarySimpa false
noncomputable section
set_option maxRecDepth 100000
namespace Go.Proofs.YtfegfialedlfcaaGreatDoor
theorem at2 {a b : Bool} (h : a = true) (k : b = true) : (a && b) = true := by rw [h, k]; rfl
theorem facts : joinedFacts Tryz.prog 3 Tryz.f3 Rows.displayScrollsSpec Rows.displayScrollsRow = true := by
  delta joinedFacts
  refine at2 ?_ jf31
  refine at2 ?_ jf30
  refine at2 ?_ jf29
  refine at2 ?_ jf28
  refine at2 ?_ jf27
  refine at2 ?_ jf26
  refine at2 ?_ jf25
  refine at2 ?_ jf24
  refine at2 ?_ jf23
  refine at2 ?_ jf22
  refine at2 ?_ jf21
  refine at2 ?_ jf20
  refine at2 ?_ jf19
  refine at2 ?_ jf18
  refine at2 ?_ jf17
  refine at2 ?_ jf16
  refine at2 ?_ jf15
  refine at2 ?_ jf14
  refine at2 ?_ jf13
  refine at2 ?_ jf12
  refine at2 ?_ jf11
  refine at2 ?_ jf10
  refine at2 ?_ jf9
  refine at2 ?_ jf8
  refine at2 ?_ jf7
  refine at2 ?_ jf6
  refine at2 ?_ jf5
  refine at2 ?_ jf4
  refine at2 ?_ jf3
  refine at2 ?_ jf2
  refine at2 ?_ jf1
  exact jf0
end Go.Proofs.YtfegfialedlfcaaGreatDoor
end
