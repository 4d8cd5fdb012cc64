/- These runs for views of some lengths, the levels known by bounds alone. -/
import Derived.Test.YtoibclpbkjbnbaaGreatZhP
import Derived.KernelRfl
set_option linter.unusedSimpArgs false
set_option linter.unusedVariables false
set_option linter.unnecessarySimpa false
noncomputable section
namespace Go.Proofs.YtoibclpbkjbnbaaGreat
open Go.Eng
set_option maxRecDepth 1000000
theorem r11_77 : (geOk (T0 noH) 11 e77) = true := by kernel_rfl
theorem r11_37 : (peOk (T0 noH) 11 (e37 11)) = true := by kernel_rfl
theorem r11_38 : (peOk (T0 noH) 11 (e38 11)) = true := by kernel_rfl
theorem r11_95 : (peOk (T0 (pTH 11 (H1 11))) 11 (e95 11)) = true := by kernel_rfl
theorem r11_15 : (peOk (T0 (pTH 11 (H1 11))) 11 (e15 11)) = true := by kernel_rfl
theorem r11_14 : Q14 11 = true := by kernel_rfl
theorem r11_17 : Q17 11 = true := by kernel_rfl
theorem r11_18 : Q18 11 = true := by kernel_rfl
theorem r11_19 : Q19 11 = true := by kernel_rfl
theorem r11_20 : Q20 11 = true := by kernel_rfl
theorem r11_21 : Q21 11 = true := by kernel_rfl
theorem r11_22 : Q22 11 = true := by kernel_rfl
theorem r11_24 : Q24 11 = true := by kernel_rfl
theorem r11_25 : Q25 11 = true := by kernel_rfl
theorem r11_10 : Q10 11 = true := by kernel_rfl
theorem r11_P : okP 11 = true := by kernel_rfl
theorem all11 : AllOk 11 := ⟨r11_77, r11_37, r11_38, r11_95, r11_15, r11_14, r11_17, r11_18, r11_19, r11_20, r11_21, r11_22, r11_24, r11_25, r11_10, r11_P⟩
theorem r6_77 : (geOk (T0 noH) 6 e77) = true := by kernel_rfl
theorem r6_37 : (peOk (T0 noH) 6 (e37 6)) = true := by kernel_rfl
theorem r6_38 : (peOk (T0 noH) 6 (e38 6)) = true := by kernel_rfl
theorem r6_95 : (peOk (T0 (pTH 6 (H1 6))) 6 (e95 6)) = true := by kernel_rfl
theorem r6_15 : (peOk (T0 (pTH 6 (H1 6))) 6 (e15 6)) = true := by kernel_rfl
theorem r6_14 : Q14 6 = true := by kernel_rfl
theorem r6_17 : Q17 6 = true := by kernel_rfl
theorem r6_18 : Q18 6 = true := by kernel_rfl
theorem r6_19 : Q19 6 = true := by kernel_rfl
theorem r6_20 : Q20 6 = true := by kernel_rfl
theorem r6_21 : Q21 6 = true := by kernel_rfl
theorem r6_22 : Q22 6 = true := by kernel_rfl
theorem r6_24 : Q24 6 = true := by kernel_rfl
theorem r6_25 : Q25 6 = true := by kernel_rfl
theorem r6_10 : Q10 6 = true := by kernel_rfl
theorem r6_P : okP 6 = true := by kernel_rfl
theorem all6 : AllOk 6 := ⟨r6_77, r6_37, r6_38, r6_95, r6_15, r6_14, r6_17, r6_18, r6_19, r6_20, r6_21, r6_22, r6_24, r6_25, r6_10, r6_P⟩
theorem r2_77 : (geOk (T0 noH) 2 e77) = true := by kernel_rfl
theorem r2_37 : (peOk (T0 noH) 2 (e37 2)) = true := by kernel_rfl
theorem r2_38 : (peOk (T0 noH) 2 (e38 2)) = true := by kernel_rfl
theorem r2_95 : (peOk (T0 (pTH 2 (H1 2))) 2 (e95 2)) = true := by kernel_rfl
theorem r2_15 : (peOk (T0 (pTH 2 (H1 2))) 2 (e15 2)) = true := by kernel_rfl
theorem r2_14 : Q14 2 = true := by kernel_rfl
theorem r2_17 : Q17 2 = true := by kernel_rfl
theorem r2_18 : Q18 2 = true := by kernel_rfl
theorem r2_19 : Q19 2 = true := by kernel_rfl
theorem r2_20 : Q20 2 = true := by kernel_rfl
theorem r2_21 : Q21 2 = true := by kernel_rfl
theorem r2_22 : Q22 2 = true := by kernel_rfl
theorem r2_24 : Q24 2 = true := by kernel_rfl
theorem r2_25 : Q25 2 = true := by kernel_rfl
theorem r2_10 : Q10 2 = true := by kernel_rfl
theorem r2_P : okP 2 = true := by kernel_rfl
theorem all2 : AllOk 2 := ⟨r2_77, r2_37, r2_38, r2_95, r2_15, r2_14, r2_17, r2_18, r2_19, r2_20, r2_21, r2_22, r2_24, r2_25, r2_10, r2_P⟩
end Go.Proofs.YtoibclpbkjbnbaaGreat
end
