/- The law, the comparison of findings and the audit of headings: their code, and what they are as plain transformers of predicates; written by a program. Closed runs: an executor whose answers the transformer of predicates has too. Words of the functions that are printed for closed runs; tables of them. -/
import Derived.Test.YtoibclpbkjbnbaaGreatProg
import Derived.Test.YtoibclpbkjbnbaaGreatEngDD
import Derived.KernelRfl
import Derived.Test.YtoibclpbkjbnbaaGreatEngW
set_option linter.unusedSimpArgs false
set_option linter.unusedVariables false
set_option linter.unnecessarySimpa false
noncomputable section
namespace Go.Proofs.YtoibclpbkjbnbaaGreat
open Go.Eng
set_option maxRecDepth 100000
/- widgetry/widgetrylaw43.AuditHeadings -/
def S3.r0 : List AOpr := [
  ⟨some 2, .mov (.const (.bool false)), none⟩]
def S3.r1 : List AOpr := [
  ⟨some 9, .mov (.tmp 0), none⟩,
  ⟨some 10, .len (.tmp 9), none⟩,
  ⟨some 11, .arith .gtr (.tmp 10) (.const (.int .i64 12)), none⟩]
def S3.r2 : List AOpr := [
  ⟨some 2, .mov (.const (.bool true)), none⟩]
def S3.r3 : List AOpr := [
  ⟨some 12, .build [.int .i64 0, .str [], .nilsl, .nilsl, .nilsl] [(0, 1, .const (.int .i64 1))], none⟩,
  ⟨some 3, .new [.int .i64 0, .str [], .nilsl, .nilsl, .nilsl], none⟩,
  ⟨none, .st 5 (.tmp 3) (.tmp 12), none⟩]
def S3.r4 : List AOpr := [
  ⟨some 4, .mov (.const (.nilsl)), none⟩]
def S3.r5 : List AOpr := [
  ⟨some 5, .mov (.const (.int .i64 0)), none⟩,
  ⟨some 6, .mov (.const (.int .i64 0)), none⟩]
def S3.r6 : List AOpr := [
  ⟨some 7, .mov (.const (.int .i64 0)), none⟩]
def S3.r7 : List AOpr := [
  ⟨some 13, .mov (.tmp 7), none⟩,
  ⟨some 14, .mov (.tmp 0), none⟩,
  ⟨some 15, .len (.tmp 14), none⟩,
  ⟨some 16, .arith .lss (.tmp 13) (.tmp 15), none⟩]
def S3.r8 : List AOpr := [
  ⟨some 19, .mov (.tmp 0), none⟩,
  ⟨some 20, .mov (.tmp 7), none⟩,
  ⟨some 21, .idxA 1 (.tmp 19) (.tmp 20), none⟩,
  ⟨some 22, .ld1 (.tmp 21), none⟩,
  ⟨some 23, .convI .i64 (.tmp 22), none⟩,
  ⟨some 24, .arith .rem (.tmp 23) (.const (.int .i64 6)), none⟩,
  ⟨some 25, .arith .add (.const (.int .i64 1)) (.tmp 24), none⟩,
  ⟨some 8, .mov (.tmp 25), none⟩]
def S3.r9 : List AOpr := [
  ⟨some 26, .fldA 4 (.tmp 3), none⟩,
  ⟨some 27, .ld1 (.tmp 26), none⟩,
  ⟨some 28, .mov (.tmp 8), none⟩,
  ⟨some 29, .build [.int .i64 0, .int .i64 0, .str [], .nilsl] [(0, 1, .const (.int .i64 1)), (1, 1, .tmp 28)], none⟩,
  ⟨some 30, .build [.str [], .int .i64 0, .int .i64 0, .str [], .nilsl] [(0, 1, .const (.str [108, 101, 118, 101, 108])), (1, 4, .tmp 29)], none⟩,
  ⟨some 31, .buildSl 5 1 [.str [], .int .i64 0, .int .i64 0, .str [], .nilsl] [(0, 5, .tmp 30)], none⟩,
  ⟨some 32, .build [.int .i64 0, .str [], .nilsl, .nilsl, .nilsl] [(0, 1, .const (.int .i64 9)), (2, 1, .tmp 31)], none⟩,
  ⟨some 33, .buildSl 5 1 [.int .i64 0, .str [], .nilsl, .nilsl, .nilsl] [(0, 5, .tmp 32)], none⟩,
  ⟨some 34, .app 5 96 (.tmp 27) (.tmp 33), none⟩,
  ⟨some 35, .fldA 4 (.tmp 3), none⟩,
  ⟨none, .st 1 (.tmp 35) (.tmp 34), none⟩]
def S3.r10 : List AOpr := [
  ⟨some 36, .mov (.tmp 8), none⟩,
  ⟨some 37, .mov (.tmp 5), none⟩,
  ⟨some 38, .arith .add (.tmp 37) (.const (.int .i64 1)), none⟩,
  ⟨some 39, .arith .gtr (.tmp 36) (.tmp 38), none⟩]
def S3.r11 : List AOpr := [
  ⟨some 40, .mov (.tmp 4), none⟩,
  ⟨some 41, .mov (.tmp 7), none⟩,
  ⟨some 42, .arith .add (.tmp 41) (.const (.int .i64 2)), none⟩,
  ⟨some 43, .mov (.tmp 6), none⟩,
  ⟨some 44, .build [.int .i64 0, .int .i64 0, .int .i64 0] [(0, 1, .const (.int .i64 7)), (1, 1, .tmp 42), (2, 1, .tmp 43)], none⟩,
  ⟨some 45, .buildSl 3 1 [.int .i64 0, .int .i64 0, .int .i64 0] [(0, 3, .tmp 44)], none⟩,
  ⟨some 46, .app 3 24 (.tmp 40) (.tmp 45), none⟩,
  ⟨some 4, .mov (.tmp 46), none⟩]
def S3.r12 : List AOpr := [
  ⟨some 47, .mov (.tmp 8), none⟩,
  ⟨some 48, .mov (.tmp 7), none⟩,
  ⟨some 49, .arith .add (.tmp 48) (.const (.int .i64 2)), none⟩,
  ⟨some 5, .mov (.tmp 47), none⟩,
  ⟨some 6, .mov (.tmp 49), none⟩]
def S3.r13 : List AOpr := [
  ⟨some 17, .mov (.tmp 7), none⟩,
  ⟨some 18, .arith .add (.tmp 17) (.const (.int .i64 1)), none⟩,
  ⟨some 7, .mov (.tmp 18), none⟩]
def S3.r14 : List (AOpr × Option Nat) := [
  (⟨some 50, .ldn 5 (.tmp 3), none⟩, none),
  (⟨some 51, .call (.const (.func (.func 6) [] [])) [.tmp 50, .const (.nilsl)], none⟩, none),
  (⟨some 52, .call (.const (.func (.func 5) [] [])) [.tmp 51], none⟩, none),
  (⟨some 53, .mov (.tmp 4), none⟩, none),
  (⟨some 54, .call (.const (.func (.func 4) [] [])) [.tmp 52, .tmp 53], none⟩, none),
  (⟨some 55, .mov (.tmp 54), none⟩, none),
  (⟨some 56, .call (.const (.func (.func 7) [] [])) [], some (55, true)⟩, some 55),
  (⟨some 57, .pick (.tmp 55) (.tmp 56) (.const (.bool false)), none⟩, none),
  (⟨some 2, .mov (.tmp 57), none⟩, none)]
def S3 : SFn := ⟨58, [.tmp 2], .seq (.reg S3.r0) (.seq (.seq (.reg S3.r1) (.cond (.tmp 11) (.seq (.reg S3.r2) (.ret)) (.skip))) (.seq (.reg S3.r3) (.seq (.reg S3.r4) (.seq (.reg S3.r5) (.seq (.seq (.reg S3.r6) (.block 0 (.loop [0, 3, 4, 5, 6, 7] [3, 4] (.seq (.seq (.reg S3.r7) (.cond (.tmp 16) (.skip) (.exit 0))) (.seq (.block 1 (.seq (.reg S3.r8) (.seq (.reg S3.r9) (.seq (.seq (.reg S3.r10) (.joinN [0, 3, 4, 7, 8] (.cond (.tmp 39) (.reg S3.r11) (.skip)))) (.reg S3.r12))))) (.reg S3.r13)))))) (.frz [3, 4] (.seq (.regS S3.r14) (.ret))))))))⟩
theorem S3_ok : cFn Tryz.prog Tryz.f3 = some S3.erase := by kernel_rfl
def g3_a1 (cl : CL) (v0 v3 v4 v6 v7 v8 v39 : AV) (h : AH) (k : List AV → AH → Prop) : Prop :=
  wif v39 (
  wk (kArith h .add v7 (.int .i64 2)) fun v42 h =>
  wk (kBuild h [.int .i64 0, .int .i64 0, .int .i64 0] [(0, 1, (.int .i64 7)), (1, 1, v42), (2, 1, v6)]) fun v44 h =>
  wk (kBuildSl h 3 1 [.int .i64 0, .int .i64 0, .int .i64 0] [(0, 3, v44)]) fun v45 h =>
  wk (kApp h 3 24 v4 v45) fun v46 h =>
  k [v0, v3, v46, v7, v8] h) (
  k [v0, v3, v4, v7, v8] h)
def g3_j2 (cl : CL) (v0 v3 v4 v7 v8 : AV) (h : AH) (k : AX → List AV → List AV → AH → Prop) : Prop :=
  wk (kArith h .add v7 (.int .i64 2)) fun v49 h =>
  wk (kArith h .add v7 (.int .i64 1)) fun v18 h =>
  k .nrm [v0, v3, v4, v8, v49, v18] [v3, v4] h
def g3_s1 (cl : CL) (v0 v3 v4 v5 v6 v7 v8 v34 v35 : AV) (h : AH) (k : AX → List AV → List AV → AH → Prop) : Prop :=
  wk (kSt h 1 v35 v34) fun _ h =>
  wk (kArith h .add v5 (.int .i64 1)) fun v38 h =>
  wk (kArith h .gtr v8 v38) fun v39 h =>
  wjoinN (g3_a1 cl (v0) (v3) (v4) (v6) (v7) (v8) (v39) h) fun vs h => g3_j2 cl (nthD vs 0) (nthD vs 1) (nthD vs 2) (nthD vs 3) (nthD vs 4) h k
def g3_s2 (cl : CL) (v0 v3 v4 v5 v6 v7 v8 v26 : AV) (h : AH) (k : AX → List AV → List AV → AH → Prop) : Prop :=
  wk (kLd1 h v26) fun v27 h =>
  wk (kBuild h [.int .i64 0, .int .i64 0, .str [], .nilsl] [(0, 1, (.int .i64 1)), (1, 1, v8)]) fun v29 h =>
  wk (kBuild h [.str [], .int .i64 0, .int .i64 0, .str [], .nilsl] [(0, 1, (.str [108, 101, 118, 101, 108])), (1, 4, v29)]) fun v30 h =>
  wk (kBuildSl h 5 1 [.str [], .int .i64 0, .int .i64 0, .str [], .nilsl] [(0, 5, v30)]) fun v31 h =>
  wk (kBuild h [.int .i64 0, .str [], .nilsl, .nilsl, .nilsl] [(0, 1, (.int .i64 9)), (2, 1, v31)]) fun v32 h =>
  wk (kBuildSl h 5 1 [.int .i64 0, .str [], .nilsl, .nilsl, .nilsl] [(0, 5, v32)]) fun v33 h =>
  wk (kApp h 5 96 v27 v33) fun v34 h =>
  wk (kFldA h 4 v3) fun v35 h =>
  g3_s1 cl (v0) (v3) (v4) (v5) (v6) (v7) (v8) (v34) (v35) h k
def g3_l3 (cl : CL) (v0 v3 v4 v5 v6 v7 : AV) (h : AH) (k : AX → List AV → List AV → AH → Prop) : Prop :=
  wk (kLen h v0) fun v15 h =>
  wk (kArith h .lss v7 v15) fun v16 h =>
  wif v16 (
  wk (kIdxA h 1 v0 v7) fun v21 h =>
  wk (kLd1 h v21) fun v22 h =>
  wk (kConvI h .i64 v22) fun v23 h =>
  wk (kArith h .rem v23 (.int .i64 6)) fun v24 h =>
  wk (kArith h .add (.int .i64 1) v24) fun v25 h =>
  wk (kFldA h 4 v3) fun v26 h =>
  g3_s2 cl (v0) (v3) (v4) (v5) (v6) (v7) (v25) (v26) h k) (
  k (.exit 0) [v0, v3, v4, v5, v6, v7] [v3, v4] h)
def g3_s3 (cl : CL) (v54 : AV) (h : AH) (Q : AV → AH → Prop) : Prop :=
  wsp v54 fun v55 =>
  wg (gdv true v55) (fun k => wcall cl (.func (.func 7) [] []) [] h k) h fun v56 h =>
  wk (kPick h v55 v56 (.bool false)) fun v57 h =>
  Q (v57) h
def g3_s4 (cl : CL) (v4 v52 : AV) (h : AH) (Q : AV → AH → Prop) : Prop :=
  wcall cl (.func (.func 4) [] []) [v52, v4] h fun v54 h =>
  g3_s3 cl (v54) h Q
def g3_s5 (cl : CL) (v4 v51 : AV) (h : AH) (Q : AV → AH → Prop) : Prop :=
  wcall cl (.func (.func 5) [] []) [v51] h fun v52 h =>
  g3_s4 cl (v4) (v52) h Q
def g3_f4 (cl : CL) (v3 v4 : AV) (h : AH) (Q : AV → AH → Prop) : Prop :=
  wk (kLdn h 5 v3) fun v50 h =>
  wcall cl (.func (.func 6) [] []) [v50, (.nilsl)] h fun v51 h =>
  g3_s5 cl (v4) (v51) h Q
def g3_c5 (cl : CL) (v3 v4 : AV) (h : AH) (Q : AV → AH → Prop) : Prop :=
  wfrz [v3, v4] h fun vs h => g3_f4 cl (nthD vs 0) (nthD vs 1) h Q
def g3_j6 (cl : CL) (x : AX) (v3 v4 : AV) (h : AH) (Q : AV → AH → Prop) : Prop :=
  xs x (g3_c5 cl (v3) (v4) h Q) (fun j => cond (Nat.beq j 0) (g3_c5 cl (v3) (v4) h Q) (False)) (Q (.undef) h)
def g3 (cl : CL) (v0 : AV) (h : AH) (Q : AV → AH → Prop) : Prop :=
  wk (kLen h v0) fun v10 h =>
  wk (kArith h .gtr v10 (.int .i64 12)) fun v11 h =>
  wif v11 (
  Q ((.bool true)) h) (
  wk (kBuild h [.int .i64 0, .str [], .nilsl, .nilsl, .nilsl] [(0, 1, (.int .i64 1))]) fun v12 h =>
  wk (kNew h [.int .i64 0, .str [], .nilsl, .nilsl, .nilsl]) fun v3 h =>
  wk (kSt h 5 v3 v12) fun _ h =>
  wloop (fun vs h k => g3_l3 cl (nthD vs 0) (nthD vs 1) (nthD vs 2) (nthD vs 3) (nthD vs 4) (nthD vs 5) h k) [v0, v3, (.nilsl), (.int .i64 0), (.int .i64 0), (.int .i64 0)] h fun x vs h => g3_j6 cl x (nthD vs 0) (nthD vs 1) h Q)
theorem g3_eq (cl : CL) (v0 : AV) (h : AH) (Q : AV → AH → Prop) : wrun cl S3 [v0] h Q = g3 cl v0 h Q := by kernel_rfl
theorem C3 {cl : CL} (hcl : CLOk Tryz.prog cl) {v0 : AV} {h : AH} {Q : AV → AH → Prop} (hg : g3 cl v0 h Q) : CallsA Tryz.prog 3 [v0] h Q := wfn_ok hcl (f := 3) (fn := Tryz.f3) (by kernel_rfl) S3_ok (by decide) (by kernel_rfl) (its_nil (by kernel_rfl)) (by rw [g3_eq]; exact hg)

/- widgetry/widgetryref43.Equal -/
def S4.r0 : List AOpr := [
  ⟨some 4, .mov (.const (.bool false)), none⟩]
def S4.r1 : List AOpr := [
  ⟨some 6, .mov (.tmp 0), none⟩,
  ⟨some 7, .len (.tmp 6), none⟩,
  ⟨some 8, .mov (.tmp 1), none⟩,
  ⟨some 9, .len (.tmp 8), none⟩,
  ⟨some 10, .arith .neq (.tmp 7) (.tmp 9), none⟩]
def S4.r2 : List AOpr := [
  ⟨some 4, .mov (.const (.bool false)), none⟩]
def S4.r3 : List AOpr := [
  ⟨some 5, .mov (.const (.int .i64 0)), none⟩]
def S4.r4 : List AOpr := [
  ⟨some 11, .mov (.tmp 5), none⟩,
  ⟨some 12, .mov (.tmp 0), none⟩,
  ⟨some 13, .len (.tmp 12), none⟩,
  ⟨some 14, .arith .lss (.tmp 11) (.tmp 13), none⟩]
def S4.r5 : List (AOpr × Nat) := [
  (⟨some 17, .mov (.tmp 0), none⟩, 0),
  (⟨some 18, .mov (.tmp 5), none⟩, 0),
  (⟨some 19, .idxA 3 (.tmp 17) (.tmp 18), none⟩, 3),
  (⟨some 20, .ldn 3 (.tmp 19), none⟩, 7),
  (⟨some 21, .mov (.tmp 1), none⟩, 0),
  (⟨some 22, .mov (.tmp 5), none⟩, 0),
  (⟨some 23, .idxA 3 (.tmp 21) (.tmp 22), none⟩, 48),
  (⟨some 24, .ldn 3 (.tmp 23), none⟩, 112),
  (⟨some 25, .eqf true [.int .i64, .int .i64, .int .i64] (.tmp 20) (.tmp 24), none⟩, 255)]
def S4.r6 : List AOpr := [
  ⟨some 4, .mov (.const (.bool false)), none⟩]
def S4.r7 : List AOpr := [
  ⟨some 15, .mov (.tmp 5), none⟩,
  ⟨some 16, .arith .add (.tmp 15) (.const (.int .i64 1)), none⟩,
  ⟨some 5, .mov (.tmp 16), none⟩]
def S4.r8 : List AOpr := [
  ⟨some 4, .mov (.const (.bool true)), none⟩]
def S4 : SFn := ⟨26, [.tmp 4], .seq (.reg S4.r0) (.seq (.seq (.reg S4.r1) (.cond (.tmp 10) (.seq (.reg S4.r2) (.ret)) (.skip))) (.seq (.seq (.reg S4.r3) (.block 0 (.loop [0, 1, 5] [4] (.seq (.seq (.reg S4.r4) (.cond (.tmp 14) (.skip) (.exit 0))) (.seq (.block 1 (.seq (.draw S4.r5) (.cond (.tmp 25) (.seq (.reg S4.r6) (.ret)) (.skip)))) (.reg S4.r7)))))) (.seq (.reg S4.r8) (.ret))))⟩
theorem S4_ok : cFn Tryz.prog Tryz.f4 = some S4.erase := by kernel_rfl
def g4_s1 (cl : CL) (v0 v1 v5 v20 v21 v22 : AV) (h : AH) (k : AX → List AV → List AV → AH → Prop) : Prop :=
  wdp h (kIdxA h 3 v21 v22) .pure fun v23 c6 h =>
  wdp h (kLdn h 3 v23) (rdK (rdv v23)) fun v24 c7 h =>
  wdp h (kEqf h true [.int .i64, .int .i64, .int .i64] v20 v24) .pure fun v25 c8 h =>
  wif v25 (
  k .ret [v0, v1, v5] [(.bool false)] h) (
  wk (kArith h .add v5 (.int .i64 1)) fun v16 h =>
  k .nrm [v0, v1, v16] [.undef] h)
def g4_l1 (cl : CL) (v0 v1 v5 : AV) (h : AH) (k : AX → List AV → List AV → AH → Prop) : Prop :=
  wk (kLen h v0) fun v13 h =>
  wk (kArith h .lss v5 v13) fun v14 h =>
  wif v14 (
  wdr h 9 fun r h =>
  wdp h (kMov h v0) .pure fun v17 c0 h =>
  wdp h (kMov h v5) .pure fun v18 c1 h =>
  wdp h (kIdxA h 3 v17 v18) .pure fun v19 c2 h =>
  wdp h (kLdn h 3 v19) (rdK (rdv v19)) fun v20 c3 h =>
  wdp h (kMov h v1) .pure fun v21 c4 h =>
  wdp h (kMov h v5) .pure fun v22 c5 h =>
  g4_s1 cl (v0) (v1) (v5) (v20) (v21) (v22) h k) (
  k (.exit 0) [v0, v1, v5] [.undef] h)
def g4_c2 (cl : CL) (h : AH) (Q : AV → AH → Prop) : Prop :=
  Q ((.bool true)) h
def g4_j3 (cl : CL) (x : AX) (v4 : AV) (h : AH) (Q : AV → AH → Prop) : Prop :=
  xs x (g4_c2 cl h Q) (fun j => cond (Nat.beq j 0) (g4_c2 cl h Q) (False)) (Q (v4) h)
def g4 (cl : CL) (v0 v1 : AV) (h : AH) (Q : AV → AH → Prop) : Prop :=
  wk (kLen h v0) fun v7 h =>
  wk (kLen h v1) fun v9 h =>
  wk (kArith h .neq v7 v9) fun v10 h =>
  wif v10 (
  Q ((.bool false)) h) (
  wloop (fun vs h k => g4_l1 cl (nthD vs 0) (nthD vs 1) (nthD vs 2) h k) [v0, v1, (.int .i64 0)] h fun x vs h => g4_j3 cl x (nthD vs 0) h Q)
theorem g4_eq (cl : CL) (v0 v1 : AV) (h : AH) (Q : AV → AH → Prop) : wrun cl S4 [v0, v1] h Q = g4 cl v0 v1 h Q := by kernel_rfl
theorem C4 {cl : CL} (hcl : CLOk Tryz.prog cl) {v0 v1 : AV} {h : AH} {Q : AV → AH → Prop} (hg : g4 cl v0 v1 h Q) : CallsA Tryz.prog 4 [v0, v1] h Q := wfn_ok hcl (f := 4) (fn := Tryz.f4) (by kernel_rfl) S4_ok (by decide) (by kernel_rfl) (its_nil (by kernel_rfl)) (by rw [g4_eq]; exact hg)

/- widgetry/audit.Headings -/
def S5.r0 : List AOpr := [
  ⟨some 1, .box (.tmp 0), none⟩,
  ⟨some 2, .mov (.const (.nilsl)), none⟩]
def S5.r1 : List AOpr := [
  ⟨some 3, .mov (.const (.nilsl)), none⟩]
def S5.r2 : List AOpr := [
  ⟨some 4, .new [.int .i64 0, .int .i64 0, .int .i64 0, .str [], .str [], .str [], .int .i64 0, .int .i64 0, .int .i64 0, .int .i64 0, .int .i64 0, .int .i64 0, .int .i64 0, .int .i64 0, .int .i64 0, .int .i64 0, .int .i64 0, .int .i64 0, .int .i64 0, .bool false, .nilsl, .nilsl], none⟩]
def S5.r3 : List AOpr := [
  ⟨some 7, .fldA 9 (.tmp 1), none⟩,
  ⟨some 8, .fldA 0 (.tmp 7), none⟩,
  ⟨some 9, .ld1 (.tmp 8), none⟩,
  ⟨some 10, .len (.tmp 9), none⟩,
  ⟨some 11, .mov (.const (.int .i64 0)), none⟩]
def S5.r4 : List AOpr := [
  ⟨some 12, .arith .lss (.tmp 11) (.tmp 10), none⟩]
def S5.r5 : List AOpr := [
  ⟨some 13, .idxA 22 (.tmp 9) (.tmp 11), none⟩,
  ⟨some 14, .ldn 22 (.tmp 13), none⟩,
  ⟨some 6, .new [.int .i64 0, .int .i64 0, .int .i64 0, .str [], .str [], .str [], .int .i64 0, .int .i64 0, .int .i64 0, .int .i64 0, .int .i64 0, .int .i64 0, .int .i64 0, .int .i64 0, .int .i64 0, .int .i64 0, .int .i64 0, .int .i64 0, .int .i64 0, .bool false, .nilsl, .nilsl], none⟩,
  ⟨none, .st 22 (.tmp 6) (.tmp 14), none⟩]
def S5.r6 : List AOpr := [
  ⟨some 15, .fldA 2 (.tmp 6), none⟩,
  ⟨some 16, .ld1 (.tmp 15), none⟩,
  ⟨some 17, .arith .neq (.tmp 16) (.const (.int .i64 10)), none⟩]
def S5.r7 : List AOpr := [
  ⟨some 18, .fldA 8 (.tmp 6), none⟩,
  ⟨some 19, .ld1 (.tmp 18), none⟩,
  ⟨some 20, .fldA 8 (.tmp 4), none⟩,
  ⟨some 21, .ld1 (.tmp 20), none⟩,
  ⟨some 22, .arith .add (.tmp 21) (.const (.int .i64 1)), none⟩,
  ⟨some 23, .arith .gtr (.tmp 19) (.tmp 22), none⟩]
def S5.r8 : List AOpr := [
  ⟨some 24, .mov (.tmp 3), none⟩,
  ⟨some 25, .fldA 0 (.tmp 6), none⟩,
  ⟨some 26, .ld1 (.tmp 25), none⟩,
  ⟨some 27, .fldA 0 (.tmp 4), none⟩,
  ⟨some 28, .ld1 (.tmp 27), none⟩,
  ⟨some 29, .build [.int .i64 0, .int .i64 0, .int .i64 0] [(0, 1, .const (.int .i64 7)), (1, 1, .tmp 26), (2, 1, .tmp 28)], none⟩,
  ⟨some 30, .buildSl 3 1 [.int .i64 0, .int .i64 0, .int .i64 0] [(0, 3, .tmp 29)], none⟩,
  ⟨some 31, .app 3 24 (.tmp 24) (.tmp 30), none⟩,
  ⟨some 3, .mov (.tmp 31), none⟩]
def S5.r9 : List AOpr := [
  ⟨some 32, .ldn 22 (.tmp 6), none⟩,
  ⟨none, .st 22 (.tmp 4) (.tmp 32), none⟩]
def S5.r10 : List AOpr := [
  ⟨some 33, .arith .add (.tmp 11) (.const (.int .i64 1)), none⟩,
  ⟨some 11, .mov (.tmp 33), none⟩]
def S5.r11 : List AOpr := [
  ⟨some 34, .mov (.tmp 3), none⟩,
  ⟨some 2, .mov (.tmp 34), none⟩]
def S5 : SFn := ⟨35, [.tmp 2], .seq (.reg S5.r0) (.seq (.reg S5.r1) (.seq (.reg S5.r2) (.seq (.seq (.reg S5.r3) (.block 0 (.loop [3, 4, 9, 10, 11] [3] (.seq (.reg S5.r4) (.seq (.cond (.tmp 12) (.skip) (.exit 0)) (.seq (.joinN [3, 4, 9, 10, 11] (.block 1 (.seq (.reg S5.r5) (.seq (.seq (.reg S5.r6) (.cond (.tmp 17) (.exit 1) (.skip))) (.seq (.seq (.reg S5.r7) (.joinN [3, 4, 6, 9, 10, 11] (.cond (.tmp 23) (.reg S5.r8) (.skip)))) (.reg S5.r9)))))) (.reg S5.r10))))))) (.seq (.reg S5.r11) (.ret)))))⟩
theorem S5_ok : cFn Tryz.prog Tryz.f5 = some S5.erase := by kernel_rfl
def g5_a1 (cl : CL) (v3 v4 v6 v9 v10 v11 v23 : AV) (h : AH) (k : List AV → AH → Prop) : Prop :=
  wif v23 (
  wk (kFldA h 0 v6) fun v25 h =>
  wk (kLd1 h v25) fun v26 h =>
  wk (kFldA h 0 v4) fun v27 h =>
  wk (kLd1 h v27) fun v28 h =>
  wk (kBuild h [.int .i64 0, .int .i64 0, .int .i64 0] [(0, 1, (.int .i64 7)), (1, 1, v26), (2, 1, v28)]) fun v29 h =>
  wk (kBuildSl h 3 1 [.int .i64 0, .int .i64 0, .int .i64 0] [(0, 3, v29)]) fun v30 h =>
  wk (kApp h 3 24 v3 v30) fun v31 h =>
  k [v31, v4, v6, v9, v10, v11] h) (
  k [v3, v4, v6, v9, v10, v11] h)
def g5_j2 (cl : CL) (v3 v4 v6 v9 v10 v11 : AV) (h : AH) (k : List AV → AH → Prop) : Prop :=
  wk (kLdn h 22 v6) fun v32 h =>
  wk (kSt h 22 v4 v32) fun _ h =>
  k [v3, v4, v9, v10, v11] h
def g5_s1 (cl : CL) (v3 v4 v6 v9 v10 v11 v18 : AV) (h : AH) (k : List AV → AH → Prop) : Prop :=
  wk (kLd1 h v18) fun v19 h =>
  wk (kFldA h 8 v4) fun v20 h =>
  wk (kLd1 h v20) fun v21 h =>
  wk (kArith h .add v21 (.int .i64 1)) fun v22 h =>
  wk (kArith h .gtr v19 v22) fun v23 h =>
  wjoinN (g5_a1 cl (v3) (v4) (v6) (v9) (v10) (v11) (v23) h) fun vs h => g5_j2 cl (nthD vs 0) (nthD vs 1) (nthD vs 2) (nthD vs 3) (nthD vs 4) (nthD vs 5) h k
def g5_a3 (cl : CL) (v3 v4 v9 v10 v11 : AV) (h : AH) (k : List AV → AH → Prop) : Prop :=
  wk (kIdxA h 22 v9 v11) fun v13 h =>
  wk (kLdn h 22 v13) fun v14 h =>
  wk (kNew h [.int .i64 0, .int .i64 0, .int .i64 0, .str [], .str [], .str [], .int .i64 0, .int .i64 0, .int .i64 0, .int .i64 0, .int .i64 0, .int .i64 0, .int .i64 0, .int .i64 0, .int .i64 0, .int .i64 0, .int .i64 0, .int .i64 0, .int .i64 0, .bool false, .nilsl, .nilsl]) fun v6 h =>
  wk (kSt h 22 v6 v14) fun _ h =>
  wk (kFldA h 2 v6) fun v15 h =>
  wk (kLd1 h v15) fun v16 h =>
  wk (kArith h .neq v16 (.int .i64 10)) fun v17 h =>
  wif v17 (
  k [v3, v4, v9, v10, v11] h) (
  wk (kFldA h 8 v6) fun v18 h =>
  g5_s1 cl (v3) (v4) (v6) (v9) (v10) (v11) (v18) h k)
def g5_j4 (cl : CL) (v3 v4 v9 v10 v11 : AV) (h : AH) (k : AX → List AV → List AV → AH → Prop) : Prop :=
  wk (kArith h .add v11 (.int .i64 1)) fun v33 h =>
  k .nrm [v3, v4, v9, v10, v33] [v3] h
def g5_l5 (cl : CL) (v3 v4 v9 v10 v11 : AV) (h : AH) (k : AX → List AV → List AV → AH → Prop) : Prop :=
  wk (kArith h .lss v11 v10) fun v12 h =>
  wif v12 (
  wjoinN (g5_a3 cl (v3) (v4) (v9) (v10) (v11) h) fun vs h => g5_j4 cl (nthD vs 0) (nthD vs 1) (nthD vs 2) (nthD vs 3) (nthD vs 4) h k) (
  k (.exit 0) [v3, v4, v9, v10, v11] [v3] h)
def g5_c6 (cl : CL) (v3 : AV) (h : AH) (Q : AV → AH → Prop) : Prop :=
  Q (v3) h
def g5_j7 (cl : CL) (x : AX) (v3 : AV) (h : AH) (Q : AV → AH → Prop) : Prop :=
  xs x (g5_c6 cl (v3) h Q) (fun j => cond (Nat.beq j 0) (g5_c6 cl (v3) h Q) (False)) (Q (.undef) h)
def g5 (cl : CL) (v0 : AV) (h : AH) (Q : AV → AH → Prop) : Prop :=
  wk (kBox h v0) fun v1 h =>
  wk (kNew h [.int .i64 0, .int .i64 0, .int .i64 0, .str [], .str [], .str [], .int .i64 0, .int .i64 0, .int .i64 0, .int .i64 0, .int .i64 0, .int .i64 0, .int .i64 0, .int .i64 0, .int .i64 0, .int .i64 0, .int .i64 0, .int .i64 0, .int .i64 0, .bool false, .nilsl, .nilsl]) fun v4 h =>
  wk (kFldA h 9 v1) fun v7 h =>
  wk (kFldA h 0 v7) fun v8 h =>
  wk (kLd1 h v8) fun v9 h =>
  wk (kLen h v9) fun v10 h =>
  wloop (fun vs h k => g5_l5 cl (nthD vs 0) (nthD vs 1) (nthD vs 2) (nthD vs 3) (nthD vs 4) h k) [(.nilsl), v4, v9, v10, (.int .i64 0)] h fun x vs h => g5_j7 cl x (nthD vs 0) h Q
theorem g5_eq (cl : CL) (v0 : AV) (h : AH) (Q : AV → AH → Prop) : wrun cl S5 [v0] h Q = g5 cl v0 h Q := by kernel_rfl
theorem C5 {cl : CL} (hcl : CLOk Tryz.prog cl) {v0 : AV} {h : AH} {Q : AV → AH → Prop} (hg : g5 cl v0 h Q) : CallsA Tryz.prog 5 [v0] h Q := wfn_ok hcl (f := 5) (fn := Tryz.f5) (by kernel_rfl) S5_ok (by decide) (by kernel_rfl) (its_nil (by kernel_rfl)) (by rw [g5_eq]; exact hg)

end Go.Proofs.YtoibclpbkjbnbaaGreat
end
noncomputable section
namespace Go.Eng
/-- what calls do -/
def clF (P : Program) : CL := fun f args h Q => ∃ v h', CallD P f args h v h' ∧ Q v h'
theorem clF_ok {P : Program} : CLOk P (clF P) := fun _ _ _ _ hq => hq
def FOk (P : Program) (cl : Handler) : Prop := ∀ f args h v h', cl f args h = some (v, h') → CallD P f args h v h'

abbrev Ans := Option (AX × List AV × List AV × AH)
def fst (r : Option (AV × AH)) (k : AV → AH → Ans) : Ans :=
  match r with
  | some (v, h) => k v h
  | none => none
def fgd (g : Option Bool) (r : Option (AV × AH)) (h : AH) (k : AV → AH → Ans) : Ans :=
  match g with
  | some b => cond b (fst r k) (k skipped h)
  | none => none
def fop (cl : Handler) (op : AOp) (T : Tm) (h : AH) (k : AV → AH → Ans) : Ans :=
  match op with
  | .mov x => k (x.ev T) h
  | op => fst (aop cl T h op) k
def fops (cl : Handler) : List AOpr → Tm → AH → (Tm → AH → Ans) → Ans
  | [], T, h, k => k T h
  | ⟨d, op, none⟩ :: r, T, h, k => fop cl op T h fun v h' => fops cl r (tput T d v) h' k
  | ⟨d, op, some g⟩ :: r, T, h, k => fgd (gd T (some g)) (aop cl T h op) h fun v h' => fops cl r (tput T d v) h' k

def fal (r : Option (List AV × (Nat → AV))) (k : List AV → (Nat → AV) → Ans) : Ans :=
  match r with
  | some (cs, mk) => k cs mk
  | none => none
def fdop (cl : Handler) (op : AOp) (r : Nat) (T : Tm) (h : AH) (k : AV → Rec → AH → Ans) : Ans :=
  cond (aA op) (fal (aalloc T op) fun cs mk => k (mk r) (.alloc r cs) (h.set r (.cells cs)))
    (cond (aE op) (fst (aop cl T h op) fun v h' => cond (Nat.ble h.nx h'.nx) (k v (.eff h h') h') none) (fst (aop cl T h op) fun v _ => k v (rdK (aRd T op)) h))
def fgq (g : Option Bool) (A : (AV → Rec → AH → Ans) → Ans) (h : AH) (k : AV → Rec → AH → Ans) : Ans :=
  match g with
  | some b => cond b (A k) (k skipped .pure h)
  | none => none
def fdops (cl : Handler) : List AOpr → Nat → Tm → AH → (List Rec → Tm → AH → Ans) → Ans
  | [], _, T, h, k => k [] T h
  | ⟨d, op, none⟩ :: l, r, T, h, k => fdop cl op r T h fun v c h' => fdops cl l (r + 1) (tput T d v) h' fun ks => k (c :: ks)
  | ⟨d, op, some g⟩ :: l, r, T, h, k => fgq (gd T (some g)) (fdop cl op r T h) h fun v c h' => fdops cl l (r + 1) (tput T d v) h' fun ks => k (c :: ks)
def fchk (ks : List Rec) : List (Nat × Nat) → Bool
  | [] => true
  | (i, j) :: r => cond (recOk (ks.getD i .pure) (ks.getD j .pure)) (fchk ks r) false
def fdraw (cl : Handler) (ops : List (AOpr × Nat)) (T : Tm) (h : AH) (k : Tm → AH → Ans) : Ans :=
  cond (tmpPairs ops []) (fdops cl (ops.map (·.1)) h.nx T ⟨h.H, h.nx + ops.length⟩ fun ks T' h' => cond (fchk ks (dynPairs ops 0 [])) (k T' h') none) none

def fif (c : AV) (x y : Ans) : Ans :=
  match c with
  | .bool b => cond b x y
  | _ => none
def fxs (x : AX) (kn : Ans) (ke : Nat → Ans) (kr : Ans) : Ans :=
  match x with
  | .nrm => kn
  | .exit j => ke j
  | .ret => kr
def fjn (r : Ans) (k : AX → List AV → AH → Ans) : Ans :=
  match r with
  | some (x, _, vo, h) => k x vo h
  | none => none
/-- rounds of a loop: its answer has the live registers of the next round, then those behind the loop -/
def fiter (f : List AV → AH → Ans) : Nat → List AV → AH → Ans
  | 0, _, _ => none
  | n + 1, vals, h =>
    match f vals h with
    | some (.nrm, vi, _, h') => fiter f n vi h'
    | some (.exit j, vi, vo, h') => some (.exit j, vi, vo, h')
    | some (.ret, vi, vo, h') => some (.ret, vi, vo, h')
    | none => none
def frit (B : AV → AV → AH → Ans) (ck : AH → Bool) (xl : List AV) : Nat → AH → Ans
  | 0, h => cond (ck h) (some (.nrm, [], [], h)) none
  | n + 1, h => cond (ck h) (match xl[n]? with
    | some x => match B (.int .i64 (n : Int)) x h with
      | some (.nrm, _, _, h') => frit B ck xl n h'
      | some (.exit j, _, _, h') => some (.exit j, [], [], h')
      | some (.ret, _, _, h') => some (.ret, [], [], h')
      | none => none
    | none => none) none
def ckE (b : Nat) (sl : AV) (xl : List AV) (h : AH) : Bool :=
  match h.cellsAt b with
  | some cs => AV.beqL cs [sl] && (match elemsAt h sl with
    | some l => AV.beqL l xl
    | none => false)
  | none => false
def frg (it : Nat) (v : AV) (B : AV → AV → AH → Ans) (h : AH) (k : AX → AH → Ans) : Ans :=
  match v with
  | .func (.func g) [] [.ptr b o] => cond (Nat.beq g it && Nat.beq o 0) (match h.cellsAt b with
    | some [sl] => match elemsAt h sl with
      | some xl => match frit B (ckE b sl xl) xl xl.length h with
        | some (x, _, _, h') => k x h'
        | none => none
      | none => none
    | _ => none) none
  | _ => none
def fps (ps : List Nat) (K : Nat → Nat → Ans) : Ans :=
  match ps with
  | [p, q] => K p q
  | _ => none

def fexec (cl : Handler) (N : Nat) : SCode → Tm → AH → (AX → Tm → AH → Ans) → Ans
  | .skip, T, h, k => k .nrm T h
  | .reg ops, T, h, k => fops cl ops T h fun T h => k .nrm T h
  | .draw ops, T, h, k => fdraw cl ops T h fun T h => k .nrm T h
  | .seq a b, T, h, k => fexec cl N a T h fun x T h => fxs x (fexec cl N b T h k) (fun j => k (.exit j) T h) (k .ret T h)
  | .cond c t e, T, h, k => fif (c.ev T) (fexec cl N t T h k) (fexec cl N e T h k)
  | .block id b, T, h, k => fexec cl N b T h fun x T h => fxs x (k .nrm T h) (fun j => cond (Nat.beq j id) (k .nrm T h) (k (.exit j) T h)) (k .ret T h)
  | .loop li lo b, T, h, k => fjn (fiter (fun vals h => fexec cl N b (mkT li vals) h fun x T h => some (x, getL li T, getL lo T, h)) N (getL li T) h) fun x vals h => k x (mkT lo vals) h
  | .join lo a, T, h, k => fjn (fexec cl N a T h fun x T h => some (x, [], getL lo T, h)) fun x vals h => k x (mkT lo vals) h
  | .joinN lo a, T, h, k => fjn (fexec cl N a T h fun x T h => fxs x (some (.nrm, [], getL lo T, h)) (fun _ => none) none) fun _ vals h => k .nrm (mkT lo vals) h
  | .exit id, T, h, k => k (.exit id) T h
  | .ret, T, h, k => k .ret T h
  | .regS _, _, _, _ => none
  | .drawS _, _, _, _ => none
  | .stuck, _, _, _ => none
  | .frz _ _, _, _, _ => none
  | .rng it g ps a b, T, h, k => fps ps fun p q => frg it (g.ev T) (fun x y h1 => fexec cl N a ((T.put p x).put q y) h1 fun z T1 h2 => fxs z (fexec cl N b T1 h2 fun z _ h3 => some (z, [], [], h3)) (fun _ => none) none) h fun z h3 => k z T h3

def fres (r : Option (List AV)) (h : AH) : Ans :=
  match r with
  | some vs => some (.nrm, [], [aret vs], h)
  | none => none
def ffin (res : List ARes) (x : AX) (T : Tm) (h : AH) : Ans := fxs x (fres (ares T h res) h) (fun _ => none) (fres (ares T h res) h)
def fans (r : Ans) : Option (AV × AH) :=
  match r with
  | some (_, _, [v], h) => some (v, h)
  | _ => none
def frun (cl : Handler) (N : Nat) (f : SFn) (args : List AV) (h : AH) : Option (AV × AH) :=
  cond (Nat.ble args.length f.nt) (fans (fexec cl N f.body (initT args 0 .leaf) h (ffin f.res))) none

/-! ## it is sound -/
section
variable {P : Program} {cl : Handler}
theorem fst_some {r : Option (AV × AH)} {k : AV → AH → Ans} {x : AX × List AV × List AV × AH} (h : fst r k = some x) : ∃ v h', r = some (v, h') ∧ k v h' = some x := by
  unfold fst at h
  split at h
  · rename_i v h'; exact ⟨v, h', rfl, h⟩
  · cases h
theorem fop_some {op : AOp} {T : Tm} {h : AH} {k : AV → AH → Ans} {x : AX × List AV × List AV × AH} (hr : fop cl op T h k = some x) : ∃ v h', aop cl T h op = some (v, h') ∧ k v h' = some x := by
  unfold fop at hr
  split at hr
  · exact ⟨_, _, rfl, hr⟩
  · exact fst_some hr
theorem aop_noH {T : Tm} {h : AH} {op : AOp} (hn : ∀ f args, op ≠ .call f args) : aop cl T h op = aop noH T h op := by
  cases op <;> first | rfl | exact absurd rfl (hn _ _)
theorem fcall_ok (hcl : FOk P cl) {T : Tm} {h : AH} {f : Opd} {args : List Opd} {v : AV} {h' : AH} (ha : aop cl T h (.call f args) = some (v, h')) {K : AV → AH → Prop} (hk : K v h') : wcall (clF P) (f.ev T) (args.map (·.ev T)) h K := by
  simp only [aop, kCall] at ha
  unfold wcall
  split at ha
  · rename_i g first captured hf
    rw [hf]
    exact ⟨v, h', hcl _ _ _ _ _ ha, hk⟩
  · cases ha
theorem fop_ok (hcl : FOk P cl) {T : Tm} {h : AH} {op : AOp} {v : AV} {h' : AH} (ha : aop cl T h op = some (v, h')) {K : AV → AH → Prop} (hk : K v h') : wop (clF P) op T h K := by
  by_cases hc : ∃ f args, op = .call f args
  · obtain ⟨f, args, rfl⟩ := hc
    exact fcall_ok hcl ha hk
  · have ha' := ha
    rw [aop_noH fun f args he => hc ⟨f, args, he⟩] at ha'
    unfold wop
    split
    · exact (hc ⟨_, _, rfl⟩).elim
    · simp only [aop, kMov] at ha'
      cases ha'
      exact hk
    · rw [ha']; exact hk
theorem fops_ok (hcl : FOk P cl) {r : AX × List AV × List AV × AH} : ∀ (l : List AOpr) (T : Tm) (h : AH) (k : Tm → AH → Ans) (K : Tm → AH → Prop), (∀ T h, k T h = some r → K T h) → fops cl l T h k = some r → wops (clF P) l T h K
  | [], T, h, k, K, hK, hr => hK _ _ hr
  | ⟨d, op, none⟩ :: l, T, h, k, K, hK, hr => by
    simp only [fops] at hr
    obtain ⟨v, h', h1, h2⟩ := fop_some hr
    exact fop_ok hcl h1 (fops_ok hcl l _ _ k K hK h2)
  | ⟨d, op, some g⟩ :: l, T, h, k, K, hK, hr => by
    simp only [fops, fgd] at hr
    simp only [wops, wg]
    split at hr
    · rename_i b hb
      rw [hb]
      cases b with
      | true =>
        obtain ⟨v, h', h1, h2⟩ := fst_some hr
        exact ⟨fun _ => fop_ok hcl h1 (fops_ok hcl l _ _ k K hK h2), fun he => by cases he⟩
      | false => exact ⟨fun he => (by cases he), fun _ => fops_ok hcl l _ _ k K hK hr⟩
    · cases hr
theorem fdop_ok (hcl : FOk P cl) {x : AX × List AV × List AV × AH} {op : AOp} {r : Nat} {T : Tm} {h : AH} {k : AV → Rec → AH → Ans} {K : AV → Rec → AH → Prop} (hK : ∀ v c h, k v c h = some x → K v c h) (hr : fdop cl op r T h k = some x) : wdop (clF P) op r T h K := by
  unfold fdop at hr
  unfold wdop
  cases hA : aA op with
  | true =>
    rw [hA] at hr
    simp only [cond_true, fal] at hr ⊢
    split at hr
    · rename_i cs mk he
      rw [he]
      exact hK _ _ _ hr
    · cases hr
  | false =>
    rw [hA] at hr
    simp only [cond_false] at hr ⊢
    cases hE : aE op with
    | true =>
      rw [hE] at hr
      simp only [cond_true] at hr
      obtain ⟨v, h', h1, h2⟩ := fst_some hr
      cases hb : Nat.ble h.nx h'.nx with
      | false => rw [hb] at h2; cases h2
      | true =>
        rw [hb] at h2
        have hle := Nat.le_of_ble_eq_true hb
        split
        · exact fcall_ok hcl h1 ⟨hle, hK _ _ _ h2⟩
        · rename_i hne
          rw [aop_noH hne] at h1
          simp only [hE, cond_true, h1, wk]
          exact ⟨hle, hK _ _ _ h2⟩
    | false =>
      rw [hE] at hr
      simp only [cond_false] at hr
      obtain ⟨v, h', h1, h2⟩ := fst_some hr
      split
      · cases hE
      · rename_i hne
        rw [aop_noH hne] at h1
        simp only [hE, cond_false, h1, wk]
        exact hK _ _ _ h2
theorem fdops_ok (hcl : FOk P cl) {x : AX × List AV × List AV × AH} : ∀ (l : List AOpr) (r : Nat) (T : Tm) (h : AH) (k : List Rec → Tm → AH → Ans) (K : List Rec → Tm → AH → Prop), (∀ ks T h, k ks T h = some x → K ks T h) → fdops cl l r T h k = some x → wdops (clF P) l r T h K
  | [], r, T, h, k, K, hK, hr => hK _ _ _ hr
  | ⟨d, op, none⟩ :: l, r, T, h, k, K, hK, hr => by
    simp only [fdops] at hr
    exact fdop_ok hcl (fun v c h1 h2 => fdops_ok hcl l (r + 1) _ _ _ _ (fun ks T h h3 => hK _ _ _ h3) h2) hr
  | ⟨d, op, some g⟩ :: l, r, T, h, k, K, hK, hr => by
    simp only [fdops, fgq] at hr
    simp only [wdops, wgd]
    split at hr
    · rename_i b hb
      rw [hb]
      cases b with
      | true => exact ⟨fun _ => fdop_ok hcl (fun v c h1 h2 => fdops_ok hcl l (r + 1) _ _ _ _ (fun ks T h h3 => hK _ _ _ h3) h2) hr, fun he => by cases he⟩
      | false => exact ⟨fun he => (by cases he), fun _ => fdops_ok hcl l (r + 1) _ _ _ _ (fun ks T h h3 => hK _ _ _ h3) hr⟩
    · cases hr
theorem fchk_ok {ks : List Rec} {p : Prop} (hp : p) : ∀ (l : List (Nat × Nat)), fchk ks l = true → chk ks l p
  | [], _ => hp
  | (i, j) :: r, h => by
    simp only [fchk] at h
    cases hb : recOk (ks.getD i .pure) (ks.getD j .pure) with
    | false => rw [hb] at h; cases h
    | true => rw [hb] at h; exact ⟨hb, fchk_ok hp r h⟩
theorem fdraw_ok (hcl : FOk P cl) {x : AX × List AV × List AV × AH} {ops : List (AOpr × Nat)} {T : Tm} {h : AH} {k : Tm → AH → Ans} {K : Tm → AH → Prop} (hK : ∀ T h, k T h = some x → K T h) (hr : fdraw cl ops T h k = some x) : wdraw (clF P) ops T h K := by
  unfold fdraw at hr
  unfold wdraw
  cases ht : tmpPairs ops [] with
  | false => rw [ht] at hr; cases hr
  | true =>
    rw [ht] at hr
    simp only [cond_true] at hr ⊢
    refine fdops_ok hcl _ _ _ _ _ _ (fun ks T h h1 => ?_) hr
    cases hb : fchk ks (dynPairs ops 0 []) with
    | false => rw [hb] at h1; cases h1
    | true => rw [hb] at h1; exact fchk_ok (hK _ _ h1) _ hb
theorem fjn_some {r : Ans} {k : AX → List AV → AH → Ans} {x : AX × List AV × List AV × AH} (h : fjn r k = some x) : ∃ y vi vo h', r = some (y, vi, vo, h') ∧ k y vo h' = some x := by
  unfold fjn at h
  split at h
  · rename_i y vi vo h'; exact ⟨y, vi, vo, h', rfl, h⟩
  · cases h
theorem fxs_ok {r : AX × List AV × List AV × AH} {x : AX} {kn : Ans} {ke : Nat → Ans} {kr : Ans} {Kn : Prop} {Ke : Nat → Prop} {Kr : Prop} (h : fxs x kn ke kr = some r) (hn : kn = some r → Kn) (he : ∀ j, ke j = some r → Ke j) (hr : kr = some r → Kr) : xs x Kn Ke Kr := by
  cases x with
  | nrm => exact hn h
  | exit j => exact he j h
  | ret => exact hr h

theorem ckE_ok {b : Nat} {sl : AV} {xl : List AV} {h : AH} (hc : ckE b sl xl h = true) : h.cellsAt b = some [sl] ∧ elemsAt h sl = some xl := by
  unfold ckE at hc
  split at hc
  · rename_i cs h1
    simp only [Bool.and_eq_true] at hc
    have h2 := AV.beqL_eq _ _ hc.1
    have hc2 := hc.2
    split at hc2
    · rename_i l h3
      have h4 := AV.beqL_eq _ _ hc2
      exact ⟨by rw [h1, h2], by rw [h3, h4]⟩
    · cases hc2
  · cases hc

theorem frg_ok {it : Nat} {v : AV} {B : AV → AV → AH → Ans} {h : AH} {k : AX → AH → Ans} {r : AX × List AV × List AV × AH} {BB : AV → AV → AH → (AX → AH → Prop) → Prop} {K : AX → AH → Prop} (hB : ∀ x y h1 z vi vo h2, B x y h1 = some (z, vi, vo, h2) → ∀ K1 : AX → AH → Prop, K1 z h2 → BB x y h1 K1)
    (hK : ∀ x h, k x h = some r → K x h) (hr : frg it v B h k = some r) : wrg it v BB h K := by
  unfold frg at hr
  split at hr
  case h_2 => cases hr
  rename_i g b o
  cases hg : (Nat.beq g it && Nat.beq o 0) with
  | false => rw [hg] at hr; cases hr
  | true =>
  rw [hg] at hr
  simp only [cond_true] at hr
  simp only [Bool.and_eq_true] at hg
  have hg1 := Nat.eq_of_beq_eq_true hg.1
  have hg2 := Nat.eq_of_beq_eq_true hg.2
  subst hg1; subst hg2
  split at hr
  case h_2 => cases hr
  rename_i sl hsl
  split at hr
  case h_2 => cases hr
  rename_i xl hxl
  split at hr
  case h_2 => cases hr
  rename_i y vi vo hf hfr
  refine ⟨b, sl, xl, fun i h1 => i ≤ xl.length ∧ ∃ vi vo, frit B (ckE b sl xl) xl (xl.length - i) h1 = some (y, vi, vo, hf), rfl, ⟨Nat.zero_le _, vi, vo, hfr⟩, ?_, ?_, ?_⟩
  · rintro i h1 ⟨_, vi, vo, he⟩
    have : ckE b sl xl h1 = true := by
      cases hb : ckE b sl xl h1 with
      | true => rfl
      | false =>
        exfalso
        cases hn : xl.length - i with
        | zero => rw [hn] at he; simp [frit, hb] at he
        | succ n => rw [hn] at he; simp [frit, hb] at he
    exact ckE_ok this
  · rintro i h1 x ⟨hi, vi, vo, he⟩ hlt hx
    have hn : xl.length - i = (xl.length - 1 - i) + 1 := by omega
    rw [hn] at he
    simp only [frit, hx] at he
    cases hb : ckE b sl xl h1 with
    | false => rw [hb] at he; cases he
    | true =>
    rw [hb] at he
    simp only [cond_true] at he
    split at he
    · rename_i q1 q2 h' hBx
      exact hB _ _ _ _ _ _ _ hBx _ ⟨by omega, vi, vo, by rw [show xl.length - (i + 1) = xl.length - 1 - i by omega]; exact he⟩
    · rename_i j q1 q2 h' hBx
      cases he
      exact hB _ _ _ _ _ _ _ hBx _ (hK _ _ hr)
    · rename_i q1 q2 h' hBx
      cases he
      exact hB _ _ _ _ _ _ _ hBx _ (hK _ _ hr)
    · cases he
  · rintro h1 ⟨_, vi, vo, he⟩
    rw [Nat.sub_self] at he
    simp only [frit] at he
    cases hb : ckE b sl xl h1 with
    | false => rw [hb] at he; cases he
    | true =>
      rw [hb] at he
      cases he
      exact hK _ _ hr

theorem fexec_ok (hcl : FOk P cl) (N : Nat) : ∀ (sc : SCode) (T : Tm) (h : AH) (k : AX → Tm → AH → Ans) (r : AX × List AV × List AV × AH) (K : AX → Tm → AH → Prop), (∀ x T h, k x T h = some r → K x T h) → fexec cl N sc T h k = some r → wexec (clF P) sc T h K := by
  intro sc
  induction sc with
  | skip => intro T h k r K hK hr; exact hK _ _ _ hr
  | reg ops => intro T h k r K hK hr; exact fops_ok hcl _ _ _ _ _ (fun T h => hK _ T h) hr
  | draw ops => intro T h k r K hK hr; exact fdraw_ok hcl (fun T h => hK _ T h) hr
  | regS ops => intro T h k r K hK hr; cases hr
  | drawS ops => intro T h k r K hK hr; cases hr
  | stuck => intro T h k r K hK hr; cases hr
  | frz lo a ih => intro T h k r K hK hr; cases hr
  | exit id => intro T h k r K hK hr; exact hK _ _ _ hr
  | ret => intro T h k r K hK hr; exact hK _ _ _ hr
  | seq a b iha ihb =>
    intro T h k r K hK hr
    simp only [fexec] at hr
    exact iha _ _ _ r _ (fun x T h h1 => fxs_ok h1 (fun h2 => ihb _ _ _ r _ hK h2) (fun j h2 => hK _ _ _ h2) (fun h2 => hK _ _ _ h2)) hr
  | cond c t e iht ihe =>
    intro T h k r K hK hr
    simp only [fexec, fif] at hr
    simp only [wexec, wif]
    split at hr
    · rename_i b hb
      rw [hb]
      cases b with
      | true => exact ⟨fun _ => iht _ _ _ r _ hK hr, fun he => by cases he⟩
      | false => exact ⟨fun he => (by cases he), fun _ => ihe _ _ _ r _ hK hr⟩
    · cases hr
  | block id b ih =>
    intro T h k r K hK hr
    simp only [fexec] at hr
    refine ih _ _ _ r _ (fun x T h h1 => fxs_ok h1 (fun h2 => hK _ _ _ h2) (fun j h2 => ?_) (fun h2 => hK _ _ _ h2)) hr
    cases hb : Nat.beq j id with
    | true => rw [hb] at h2; exact hK _ _ _ h2
    | false => rw [hb] at h2; exact hK _ _ _ h2
  | loop li lo b ih =>
    intro T h k r K hK hr
    simp only [fexec] at hr
    obtain ⟨y, vi, vo, hf, h1, h2⟩ := fjn_some hr
    simp only [wexec, wloop]
    generalize hF : (fun vals h => fexec cl N b (mkT li vals) h fun x T h => some (x, getL li T, getL lo T, h)) = F at h1
    refine ⟨fun m vs h => ∃ vi, fiter F m vs h = some (y, vi, vo, hf), N, ⟨vi, h1⟩, ?_⟩
    rintro m vs h3 ⟨vi3, h4⟩
    cases m with
    | zero => cases h4
    | succ m =>
    simp only [fiter] at h4
    have hb : ∀ z vi' vo' h', F vs h3 = some (z, vi', vo', h') → ∀ K1 : AX → List AV → List AV → AH → Prop, K1 z vi' vo' h' → wexec (clF P) b (mkT li vs) h3 fun x T h => K1 x (getL li T) (getL lo T) h := by
      intro z vi' vo' h' he K1 hK1
      rw [← hF] at he
      refine ih _ _ _ _ _ (fun x T h h5 => ?_) he
      cases h5
      exact hK1
    split at h4
    · rename_i vi' vo' h' he
      exact hb _ _ _ _ he _ ⟨m, Nat.lt_succ_self m, vi3, h4⟩
    · rename_i j vi' vo' h' he
      cases h4
      exact hb _ _ _ _ he _ (hK _ _ _ h2)
    · rename_i vi' vo' h' he
      cases h4
      exact hb _ _ _ _ he _ (hK _ _ _ h2)
    · cases h4
  | join lo a ih =>
    intro T h k r K hK hr
    simp only [fexec] at hr
    obtain ⟨y, vi, vo, hf, h1, h2⟩ := fjn_some hr
    simp only [wexec, wjoin]
    refine ⟨fun x vs h => x = y ∧ vs = vo ∧ h = hf, ih _ _ _ _ _ (fun x T h h3 => ?_) h1, ?_⟩
    · cases h3; exact ⟨rfl, rfl, rfl⟩
    · rintro x vs h ⟨rfl, rfl, rfl⟩; exact hK _ _ _ h2
  | joinN lo a ih =>
    intro T h k r K hK hr
    simp only [fexec] at hr
    obtain ⟨y, vi, vo, hf, h1, h2⟩ := fjn_some hr
    simp only [wexec, wjoinN]
    refine ⟨fun vs h => vs = vo ∧ h = hf, ih _ _ _ _ _ (fun x T h h3 => ?_) h1, ?_⟩
    · refine fxs_ok h3 (fun h4 => ?_) (fun j h4 => by cases h4) (fun h4 => by cases h4)
      cases h4; exact ⟨rfl, rfl⟩
    · rintro vs h ⟨rfl, rfl⟩; exact hK _ _ _ h2
  | rng it g ps a b iha ihb =>
    intro T h k r K hK hr
    simp only [fexec, fps] at hr
    simp only [wexec, wps]
    split at hr
    · rename_i p q
      refine frg_ok (fun x y h1 z vi vo h2 he K1 hK1 => ?_) (fun x h => hK _ _ _) hr
      refine iha _ _ _ _ _ (fun x T h h3 => fxs_ok h3 (fun h4 => ?_) (fun j h4 => by cases h4) (fun h4 => by cases h4)) he
      refine ihb _ _ _ _ _ (fun x T h h5 => ?_) h4
      cases h5
      exact hK1
    · cases hr

theorem frun_ok (hcl : FOk P cl) {N : Nat} {sf : SFn} {args : List AV} {h h' : AH} {v : AV} (hr : frun cl N sf args h = some (v, h')) : wrun (clF P) sf args h fun v1 h1 => v1 = v ∧ h1 = h' := by
  unfold frun at hr
  unfold wrun
  cases hb : Nat.ble args.length sf.nt with
  | false => rw [hb] at hr; cases hr
  | true =>
    rw [hb] at hr
    simp only [cond_true, fans] at hr ⊢
    split at hr
    · rename_i y vi v' hf he
      obtain ⟨rfl, rfl⟩ : v' = v ∧ hf = h' := by cases hr; exact ⟨rfl, rfl⟩
      refine fexec_ok hcl N _ _ _ _ _ _ (fun x T h1 h2 => ?_) he
      unfold ffin at h2
      unfold wfin
      have key : fres (ares T h1 sf.res) h1 = some (y, vi, [v'], hf) → wres (ares T h1 sf.res) h1 (fun v1 h1 => v1 = v' ∧ h1 = hf) := by
        intro hq
        unfold fres at hq
        split at hq
        · rename_i vs hvs
          rw [hvs]
          cases hq; exact ⟨rfl, rfl⟩
        · cases hq
      exact fxs_ok h2 key (fun j h3 => by cases h3) key
    · cases hr

/-- A table of functions. -/
def TbOk (P : Program) (st : Nat → Option SFn) : Prop := ∀ f sf, st f = some sf → ∃ fn, P.funcs[f]? = some fn ∧ cFn P fn = some sf.erase ∧ fn.name ≠ "runtime.NumGoroutine" ∧ sf.body.rok = true ∧ ∀ i, i ∈ sf.body.its → BackOk P i
theorem frun_call (hcl : FOk P cl) {N f : Nat} {fn : Func} {sf : SFn} (hf : P.funcs[f]? = some fn) (hc : cFn P fn = some sf.erase) (hn : fn.name ≠ "runtime.NumGoroutine") (hr : sf.body.rok = true) (hi : ∀ i, i ∈ sf.body.its → BackOk P i) {args : List AV} {h h' : AH} {v : AV}
    (ha : frun cl N sf args h = some (v, h')) : CallD P f args h v h' :=
  wfn_ok clF_ok hf hc hn hr hi (frun_ok hcl ha)
/-- an entry of a table -/
def EOk (P : Program) (f : Nat) (sf : SFn) : Prop := ∃ fn, P.funcs[f]? = some fn ∧ cFn P fn = some sf.erase ∧ fn.name ≠ "runtime.NumGoroutine" ∧ sf.body.rok = true ∧ ∀ i, i ∈ sf.body.its → BackOk P i
inductive FT where
  | leaf
  | one (k : Nat) (f : SFn)
  | node (m : Nat) (l r : FT)
def FT.get : FT → Nat → Option SFn
  | .leaf, _ => none
  | .one k f, j => cond (Nat.beq j k) (some f) none
  | .node m l r, j => cond (Nat.blt j m) (l.get j) (r.get j)
def FT.Ok (P : Program) : FT → Prop
  | .leaf => True
  | .one k f => EOk P k f
  | .node _ l r => l.Ok P ∧ r.Ok P
theorem FT.ok : ∀ (t : FT), t.Ok P → TbOk P t.get
  | .leaf, _ => fun f sf h => by cases h
  | .one k f, ho => fun j sf h => by
    simp only [FT.get] at h
    cases hb : Nat.beq j k with
    | true => rw [hb] at h; cases h; rw [Nat.eq_of_beq_eq_true hb]; exact ho
    | false => rw [hb] at h; cases h
  | .node m l r, ho => fun j sf h => by
    simp only [FT.get] at h
    cases hb : Nat.blt j m with
    | true => rw [hb] at h; exact FT.ok l ho.1 j sf h
    | false => rw [hb] at h; exact FT.ok r ho.2 j sf h
theorem noH_fok : FOk P noH := fun f args h v h' he => by simp [noH] at he
end
end Go.Eng
end
noncomputable section
namespace Go.Eng
/-- short words of the printed code -/
def q (d : Nat) (o : AOp) : AOpr := ⟨some d, o, none⟩
def x (t : Nat) : Opd := .tmp t
def fdr (h : AH) (n : Nat) (k : Nat → AH → Ans) : Ans := k h.nx ⟨h.H, h.nx + n⟩
def fda (r : Nat) (h : AH) (x : Option (List AV × (Nat → AV))) (k : AV → Rec → AH → Ans) : Ans := fal x fun cs mk => k (mk r) (.alloc r cs) (h.set r (.cells cs))
def fdp (h : AH) (x : Option (AV × AH)) (c : Rec) (k : AV → Rec → AH → Ans) : Ans := fst x fun v _ => k v c h
def fde (h : AH) (x : Option (AV × AH)) (k : AV → Rec → AH → Ans) : Ans := fst x fun v h' => cond (Nat.ble h.nx h'.nx) (k v (.eff h h') h') none

abbrev OF := Handler → List AV → AH → Option (AV × AH)
def OkF (P : Program) (k : Nat) (F : OF) : Prop := ∀ cl, FOk P cl → ∀ args h v h', F cl args h = some (v, h') → CallD P k args h v h'
theorem OkF.of {P : Program} {k : Nat} {sf : SFn} (he : EOk P k sf) {N : Nat} {F : OF} (hF : ∀ cl args h r, F cl args h = some r → frun cl N sf args h = some r) : OkF P k F := by
  intro cl hcl args h v h' ha
  obtain ⟨fn, h1, h2, h3, h4, h5⟩ := he
  exact frun_call hcl h1 h2 h3 h4 h5 (hF _ _ _ _ ha)
inductive OT where
  | leaf
  | one (k : Nat) (F : OF)
  | node (m : Nat) (l r : OT)
def OT.run : OT → Handler → Handler
  | .leaf, _, _, _, _ => none
  | .one k F, cl, f, args, h => cond (Nat.beq f k) (F cl args h) none
  | .node m l r, cl, f, args, h => cond (Nat.blt f m) (l.run cl f args h) (r.run cl f args h)
def OT.Ok (P : Program) : OT → Prop
  | .leaf => True
  | .one k F => OkF P k F
  | .node _ l r => l.Ok P ∧ r.Ok P
theorem OT.ok {P : Program} : ∀ (t : OT), t.Ok P → ∀ cl, FOk P cl → FOk P (t.run cl)
  | .leaf, _ => fun cl hcl f args h v h' ha => by cases ha
  | .one k F, ho => fun cl hcl f args h v h' ha => by
    simp only [OT.run] at ha
    cases hb : Nat.beq f k with
    | true => rw [hb] at ha; rw [Nat.eq_of_beq_eq_true hb]; exact ho cl hcl _ _ _ _ ha
    | false => rw [hb] at ha; cases ha
  | .node m l r, ho => fun cl hcl f args h v h' ha => by
    simp only [OT.run] at ha
    cases hb : Nat.blt f m with
    | true => rw [hb] at ha; exact OT.ok l ho.1 cl hcl _ _ _ _ _ ha
    | false => rw [hb] at ha; exact OT.ok r ho.2 cl hcl _ _ _ _ _ ha
def orb (a b : Option (AV × AH)) : Option (AV × AH) :=
  match a with
  | some r => some r
  | none => b
/-- contracts first, then runs -/
def otab (ct : Handler) (t : OT) : Nat → Handler
  | 0 => ct
  | d + 1 => fun f args h => orb (ct f args h) (t.run (otab ct t d) f args h)
theorem otab_ok {P : Program} {ct : Handler} (hct : FOk P ct) {t : OT} (ht : t.Ok P) : ∀ d, FOk P (otab ct t d)
  | 0 => hct
  | d + 1 => fun f args h v h' ha => by
    simp only [otab, orb] at ha
    split at ha
    · rename_i r hr
      cases ha
      exact hct _ _ _ _ _ hr
    · exact OT.ok t ht _ (otab_ok hct ht d) _ _ _ _ _ ha
/-- runs alone -/
def oall (t : OT) : Nat → Handler
  | 0 => noH
  | d + 1 => t.run (oall t d)
theorem oall_ok {P : Program} {t : OT} (ht : t.Ok P) : ∀ d, FOk P (oall t d)
  | 0 => noH_fok
  | d + 1 => OT.ok t ht _ (oall_ok ht d)
end Go.Eng
end
