/- These runs for views of some lengths, the levels known by bounds alone. -/
import Derived.Test.YtoibclpbkjbnbaaGreatZhP
import Derived.KernelRfl
set_option linter.unusedSimpArgs false
set_option linter.unusedVariables false
set_option linter.unnecessarySimpa false
noncomputable section
namespace Go.Proofs.YtoibclpbkjbnbaaGreat
open Go.Eng
set_option maxRecDepth 1000000
theorem r9_77 : (geOk (T0 noH) 9 e77) = true := by kernel_rfl
theorem r9_37 : (peOk (T0 noH) 9 (e37 9)) = true := by kernel_rfl
theorem r9_38 : (peOk (T0 noH) 9 (e38 9)) = true := by kernel_rfl
theorem r9_95 : (peOk (T0 (pTH 9 (H1 9))) 9 (e95 9)) = true := by kernel_rfl
theorem r9_15 : (peOk (T0 (pTH 9 (H1 9))) 9 (e15 9)) = true := by kernel_rfl
theorem r9_14 : Q14 9 = true := by kernel_rfl
theorem r9_17 : Q17 9 = true := by kernel_rfl
theorem r9_18 : Q18 9 = true := by kernel_rfl
theorem r9_19 : Q19 9 = true := by kernel_rfl
theorem r9_20 : Q20 9 = true := by kernel_rfl
theorem r9_21 : Q21 9 = true := by kernel_rfl
theorem r9_22 : Q22 9 = true := by kernel_rfl
theorem r9_24 : Q24 9 = true := by kernel_rfl
theorem r9_25 : Q25 9 = true := by kernel_rfl
theorem r9_10 : Q10 9 = true := by kernel_rfl
theorem r9_P : okP 9 = true := by kernel_rfl
theorem all9 : AllOk 9 := ⟨r9_77, r9_37, r9_38, r9_95, r9_15, r9_14, r9_17, r9_18, r9_19, r9_20, r9_21, r9_22, r9_24, r9_25, r9_10, r9_P⟩
theorem r8_77 : (geOk (T0 noH) 8 e77) = true := by kernel_rfl
theorem r8_37 : (peOk (T0 noH) 8 (e37 8)) = true := by kernel_rfl
theorem r8_38 : (peOk (T0 noH) 8 (e38 8)) = true := by kernel_rfl
theorem r8_95 : (peOk (T0 (pTH 8 (H1 8))) 8 (e95 8)) = true := by kernel_rfl
theorem r8_15 : (peOk (T0 (pTH 8 (H1 8))) 8 (e15 8)) = true := by kernel_rfl
theorem r8_14 : Q14 8 = true := by kernel_rfl
theorem r8_17 : Q17 8 = true := by kernel_rfl
theorem r8_18 : Q18 8 = true := by kernel_rfl
theorem r8_19 : Q19 8 = true := by kernel_rfl
theorem r8_20 : Q20 8 = true := by kernel_rfl
theorem r8_21 : Q21 8 = true := by kernel_rfl
theorem r8_22 : Q22 8 = true := by kernel_rfl
theorem r8_24 : Q24 8 = true := by kernel_rfl
theorem r8_25 : Q25 8 = true := by kernel_rfl
theorem r8_10 : Q10 8 = true := by kernel_rfl
theorem r8_P : okP 8 = true := by kernel_rfl
theorem all8 : AllOk 8 := ⟨r8_77, r8_37, r8_38, r8_95, r8_15, r8_14, r8_17, r8_18, r8_19, r8_20, r8_21, r8_22, r8_24, r8_25, r8_10, r8_P⟩
theorem r5_77 : (geOk (T0 noH) 5 e77) = true := by kernel_rfl
theorem r5_37 : (peOk (T0 noH) 5 (e37 5)) = true := by kernel_rfl
theorem r5_38 : (peOk (T0 noH) 5 (e38 5)) = true := by kernel_rfl
theorem r5_95 : (peOk (T0 (pTH 5 (H1 5))) 5 (e95 5)) = true := by kernel_rfl
theorem r5_15 : (peOk (T0 (pTH 5 (H1 5))) 5 (e15 5)) = true := by kernel_rfl
theorem r5_14 : Q14 5 = true := by kernel_rfl
theorem r5_17 : Q17 5 = true := by kernel_rfl
theorem r5_18 : Q18 5 = true := by kernel_rfl
theorem r5_19 : Q19 5 = true := by kernel_rfl
theorem r5_20 : Q20 5 = true := by kernel_rfl
theorem r5_21 : Q21 5 = true := by kernel_rfl
theorem r5_22 : Q22 5 = true := by kernel_rfl
theorem r5_24 : Q24 5 = true := by kernel_rfl
theorem r5_25 : Q25 5 = true := by kernel_rfl
theorem r5_10 : Q10 5 = true := by kernel_rfl
theorem r5_P : okP 5 = true := by kernel_rfl
theorem all5 : AllOk 5 := ⟨r5_77, r5_37, r5_38, r5_95, r5_15, r5_14, r5_17, r5_18, r5_19, r5_20, r5_21, r5_22, r5_24, r5_25, r5_10, r5_P⟩
end Go.Proofs.YtoibclpbkjbnbaaGreat
end
