/- These runs for views of some lengths, the levels known by bounds alone. -/
import Derived.Test.YtoibclpbkjbnbaaGreatZhP
import Derived.KernelRfl
set_option linter.unusedSimpArgs false
set_option linter.unusedVariables false
set_option linter.unnecessarySimpa false
noncomputable section
namespace Go.Proofs.YtoibclpbkjbnbaaGreat
open Go.Eng
set_option maxRecDepth 1000000
theorem r12_77 : (geOk (T0 noH) 12 e77) = true := by kernel_rfl
theorem r12_37 : (peOk (T0 noH) 12 (e37 12)) = true := by kernel_rfl
theorem r12_38 : (peOk (T0 noH) 12 (e38 12)) = true := by kernel_rfl
theorem r12_95 : (peOk (T0 (pTH 12 (H1 12))) 12 (e95 12)) = true := by kernel_rfl
theorem r12_15 : (peOk (T0 (pTH 12 (H1 12))) 12 (e15 12)) = true := by kernel_rfl
theorem r12_14 : Q14 12 = true := by kernel_rfl
theorem r12_17 : Q17 12 = true := by kernel_rfl
theorem r12_18 : Q18 12 = true := by kernel_rfl
theorem r12_19 : Q19 12 = true := by kernel_rfl
theorem r12_20 : Q20 12 = true := by kernel_rfl
theorem r12_21 : Q21 12 = true := by kernel_rfl
theorem r12_22 : Q22 12 = true := by kernel_rfl
theorem r12_24 : Q24 12 = true := by kernel_rfl
theorem r12_25 : Q25 12 = true := by kernel_rfl
theorem r12_10 : Q10 12 = true := by kernel_rfl
theorem r12_P : okP 12 = true := by kernel_rfl
theorem all12 : AllOk 12 := ⟨r12_77, r12_37, r12_38, r12_95, r12_15, r12_14, r12_17, r12_18, r12_19, r12_20, r12_21, r12_22, r12_24, r12_25, r12_10, r12_P⟩
theorem r3_77 : (geOk (T0 noH) 3 e77) = true := by kernel_rfl
theorem r3_37 : (peOk (T0 noH) 3 (e37 3)) = true := by kernel_rfl
theorem r3_38 : (peOk (T0 noH) 3 (e38 3)) = true := by kernel_rfl
theorem r3_95 : (peOk (T0 (pTH 3 (H1 3))) 3 (e95 3)) = true := by kernel_rfl
theorem r3_15 : (peOk (T0 (pTH 3 (H1 3))) 3 (e15 3)) = true := by kernel_rfl
theorem r3_14 : Q14 3 = true := by kernel_rfl
theorem r3_17 : Q17 3 = true := by kernel_rfl
theorem r3_18 : Q18 3 = true := by kernel_rfl
theorem r3_19 : Q19 3 = true := by kernel_rfl
theorem r3_20 : Q20 3 = true := by kernel_rfl
theorem r3_21 : Q21 3 = true := by kernel_rfl
theorem r3_22 : Q22 3 = true := by kernel_rfl
theorem r3_24 : Q24 3 = true := by kernel_rfl
theorem r3_25 : Q25 3 = true := by kernel_rfl
theorem r3_10 : Q10 3 = true := by kernel_rfl
theorem r3_P : okP 3 = true := by kernel_rfl
theorem all3 : AllOk 3 := ⟨r3_77, r3_37, r3_38, r3_95, r3_15, r3_14, r3_17, r3_18, r3_19, r3_20, r3_21, r3_22, r3_24, r3_25, r3_10, r3_P⟩
theorem r0_77 : (geOk (T0 noH) 0 e77) = true := by kernel_rfl
theorem r0_37 : (peOk (T0 noH) 0 (e37 0)) = true := by kernel_rfl
theorem r0_38 : (peOk (T0 noH) 0 (e38 0)) = true := by kernel_rfl
theorem r0_95 : (peOk (T0 (pTH 0 (H1 0))) 0 (e95 0)) = true := by kernel_rfl
theorem r0_15 : (peOk (T0 (pTH 0 (H1 0))) 0 (e15 0)) = true := by kernel_rfl
theorem r0_14 : Q14 0 = true := by kernel_rfl
theorem r0_17 : Q17 0 = true := by kernel_rfl
theorem r0_18 : Q18 0 = true := by kernel_rfl
theorem r0_19 : Q19 0 = true := by kernel_rfl
theorem r0_20 : Q20 0 = true := by kernel_rfl
theorem r0_21 : Q21 0 = true := by kernel_rfl
theorem r0_22 : Q22 0 = true := by kernel_rfl
theorem r0_24 : Q24 0 = true := by kernel_rfl
theorem r0_25 : Q25 0 = true := by kernel_rfl
theorem r0_10 : Q10 0 = true := by kernel_rfl
theorem r0_P : okP 0 = true := by kernel_rfl
theorem all0 : AllOk 0 := ⟨r0_77, r0_37, r0_38, r0_95, r0_15, r0_14, r0_17, r0_18, r0_19, r0_20, r0_21, r0_22, r0_24, r0_25, r0_10, r0_P⟩
theorem r1_77 : (geOk (T0 noH) 1 e77) = true := by kernel_rfl
theorem r1_37 : (peOk (T0 noH) 1 (e37 1)) = true := by kernel_rfl
theorem r1_38 : (peOk (T0 noH) 1 (e38 1)) = true := by kernel_rfl
theorem r1_95 : (peOk (T0 (pTH 1 (H1 1))) 1 (e95 1)) = true := by kernel_rfl
theorem r1_15 : (peOk (T0 (pTH 1 (H1 1))) 1 (e15 1)) = true := by kernel_rfl
theorem r1_14 : Q14 1 = true := by kernel_rfl
theorem r1_17 : Q17 1 = true := by kernel_rfl
theorem r1_18 : Q18 1 = true := by kernel_rfl
theorem r1_19 : Q19 1 = true := by kernel_rfl
theorem r1_20 : Q20 1 = true := by kernel_rfl
theorem r1_21 : Q21 1 = true := by kernel_rfl
theorem r1_22 : Q22 1 = true := by kernel_rfl
theorem r1_24 : Q24 1 = true := by kernel_rfl
theorem r1_25 : Q25 1 = true := by kernel_rfl
theorem r1_10 : Q10 1 = true := by kernel_rfl
theorem r1_P : okP 1 = true := by kernel_rfl
theorem all1 : AllOk 1 := ⟨r1_77, r1_37, r1_38, r1_95, r1_15, r1_14, r1_17, r1_18, r1_19, r1_20, r1_21, r1_22, r1_24, r1_25, r1_10, r1_P⟩
end Go.Proofs.YtoibclpbkjbnbaaGreat
end
