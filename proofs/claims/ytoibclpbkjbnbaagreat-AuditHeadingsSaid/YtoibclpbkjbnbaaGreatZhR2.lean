/- These runs for views of some lengths, the levels known by bounds alone. -/
import Derived.Test.YtoibclpbkjbnbaaGreatZhP
import Derived.KernelRfl
set_option linter.unusedSimpArgs false
set_option linter.unusedVariables false
set_option linter.unnecessarySimpa false
noncomputable section
namespace Go.Proofs.YtoibclpbkjbnbaaGreat
open Go.Eng
set_option maxRecDepth 1000000
theorem r10_77 : (geOk (T0 noH) 10 e77) = true := by kernel_rfl
theorem r10_37 : (peOk (T0 noH) 10 (e37 10)) = true := by kernel_rfl
theorem r10_38 : (peOk (T0 noH) 10 (e38 10)) = true := by kernel_rfl
theorem r10_95 : (peOk (T0 (pTH 10 (H1 10))) 10 (e95 10)) = true := by kernel_rfl
theorem r10_15 : (peOk (T0 (pTH 10 (H1 10))) 10 (e15 10)) = true := by kernel_rfl
theorem r10_14 : Q14 10 = true := by kernel_rfl
theorem r10_17 : Q17 10 = true := by kernel_rfl
theorem r10_18 : Q18 10 = true := by kernel_rfl
theorem r10_19 : Q19 10 = true := by kernel_rfl
theorem r10_20 : Q20 10 = true := by kernel_rfl
theorem r10_21 : Q21 10 = true := by kernel_rfl
theorem r10_22 : Q22 10 = true := by kernel_rfl
theorem r10_24 : Q24 10 = true := by kernel_rfl
theorem r10_25 : Q25 10 = true := by kernel_rfl
theorem r10_10 : Q10 10 = true := by kernel_rfl
theorem r10_P : okP 10 = true := by kernel_rfl
theorem all10 : AllOk 10 := ⟨r10_77, r10_37, r10_38, r10_95, r10_15, r10_14, r10_17, r10_18, r10_19, r10_20, r10_21, r10_22, r10_24, r10_25, r10_10, r10_P⟩
theorem r7_77 : (geOk (T0 noH) 7 e77) = true := by kernel_rfl
theorem r7_37 : (peOk (T0 noH) 7 (e37 7)) = true := by kernel_rfl
theorem r7_38 : (peOk (T0 noH) 7 (e38 7)) = true := by kernel_rfl
theorem r7_95 : (peOk (T0 (pTH 7 (H1 7))) 7 (e95 7)) = true := by kernel_rfl
theorem r7_15 : (peOk (T0 (pTH 7 (H1 7))) 7 (e15 7)) = true := by kernel_rfl
theorem r7_14 : Q14 7 = true := by kernel_rfl
theorem r7_17 : Q17 7 = true := by kernel_rfl
theorem r7_18 : Q18 7 = true := by kernel_rfl
theorem r7_19 : Q19 7 = true := by kernel_rfl
theorem r7_20 : Q20 7 = true := by kernel_rfl
theorem r7_21 : Q21 7 = true := by kernel_rfl
theorem r7_22 : Q22 7 = true := by kernel_rfl
theorem r7_24 : Q24 7 = true := by kernel_rfl
theorem r7_25 : Q25 7 = true := by kernel_rfl
theorem r7_10 : Q10 7 = true := by kernel_rfl
theorem r7_P : okP 7 = true := by kernel_rfl
theorem all7 : AllOk 7 := ⟨r7_77, r7_37, r7_38, r7_95, r7_15, r7_14, r7_17, r7_18, r7_19, r7_20, r7_21, r7_22, r7_24, r7_25, r7_10, r7_P⟩
theorem r4_77 : (geOk (T0 noH) 4 e77) = true := by kernel_rfl
theorem r4_37 : (peOk (T0 noH) 4 (e37 4)) = true := by kernel_rfl
theorem r4_38 : (peOk (T0 noH) 4 (e38 4)) = true := by kernel_rfl
theorem r4_95 : (peOk (T0 (pTH 4 (H1 4))) 4 (e95 4)) = true := by kernel_rfl
theorem r4_15 : (peOk (T0 (pTH 4 (H1 4))) 4 (e15 4)) = true := by kernel_rfl
theorem r4_14 : Q14 4 = true := by kernel_rfl
theorem r4_17 : Q17 4 = true := by kernel_rfl
theorem r4_18 : Q18 4 = true := by kernel_rfl
theorem r4_19 : Q19 4 = true := by kernel_rfl
theorem r4_20 : Q20 4 = true := by kernel_rfl
theorem r4_21 : Q21 4 = true := by kernel_rfl
theorem r4_22 : Q22 4 = true := by kernel_rfl
theorem r4_24 : Q24 4 = true := by kernel_rfl
theorem r4_25 : Q25 4 = true := by kernel_rfl
theorem r4_10 : Q10 4 = true := by kernel_rfl
theorem r4_P : okP 4 = true := by kernel_rfl
theorem all4 : AllOk 4 := ⟨r4_77, r4_37, r4_38, r4_95, r4_15, r4_14, r4_17, r4_18, r4_19, r4_20, r4_21, r4_22, r4_24, r4_25, r4_10, r4_P⟩
end Go.Proofs.YtoibclpbkjbnbaaGreat
end
