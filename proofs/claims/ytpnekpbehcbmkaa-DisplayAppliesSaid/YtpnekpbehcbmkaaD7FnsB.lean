/- Functions of the laws: their code with joins and live registers, and what they are as plain transformers of predicates; printed by a program of ours. -/
import Derived.Test.YtpnekpbehcbmkaaProg
import Derived.Test.YtpnekpbehcbmkaaD7A
import Derived.KernelRfl
set_option linter.unusedSimpArgs false
set_option linter.unusedVariables false
set_option linter.unnecessarySimpa false
namespace Go.Proofs.Ytpnekpbehcbmkaa
open Go.Eng
set_option maxRecDepth 100000
/- (*widgetry/widgetrybase.Src).Range -/
def S21.r0 : List AOpr := [
  ⟨some 6, .mov (.const (.int .i64 0)), none⟩]
def S21.r1 : List AOpr := [
  ⟨some 7, .mov (.tmp 1), none⟩,
  ⟨some 8, .mov (.tmp 0), none⟩,
  ⟨some 9, .mov (.tmp 2), none⟩,
  ⟨some 10, .mov (.tmp 1), none⟩,
  ⟨some 11, .arith .sub (.tmp 9) (.tmp 10), none⟩,
  ⟨some 12, .arith .add (.tmp 11) (.const (.int .i64 1)), none⟩,
  ⟨some 13, .call (.const (.func (.func 20) [] [])) [.tmp 8, .tmp 12], none⟩,
  ⟨some 14, .arith .add (.tmp 7) (.tmp 13), none⟩,
  ⟨some 6, .mov (.tmp 14), none⟩]
def S21 : SFn := ⟨15, [.tmp 6], .seq (.reg S21.r0) (.seq (.reg S21.r1) (.ret))⟩
theorem S21_ok : cFn Try.prog Try.f21 = some S21.erase := by kernel_rfl
def g21 (cl : CL) (v0 v1 v2 : AV) (h : AH) (Q : AV → AH → Prop) : Prop :=
  wk (kArith h .sub v2 v1) fun v11 h =>
  wk (kArith h .add v11 (.int .i64 1)) fun v12 h =>
  wcall cl (.func (.func 20) [] []) [v0, v12] h fun v13 h =>
  wk (kArith h .add v1 v13) fun v14 h =>
  Q (v14) h
theorem g21_eq (cl : CL) (v0 v1 v2 : AV) (h : AH) (Q : AV → AH → Prop) : wrun cl S21 [v0, v1, v2] h Q = g21 cl v0 v1 v2 h Q := by kernel_rfl
theorem C21 {cl : CL} (hcl : CLOk Try.prog cl) {v0 v1 v2 : AV} {h : AH} {Q : AV → AH → Prop} (hg : g21 cl v0 v1 v2 h Q) : CallsA Try.prog 21 [v0, v1, v2] h Q := wfn_ok hcl (f := 21) (fn := Try.f21) (by kernel_rfl) S21_ok (by decide) (by kernel_rfl) (its_nil (by kernel_rfl)) (by rw [g21_eq]; exact hg)

/- widgetry/display.Damage -/
def S23.r0 : List AOpr := [
  ⟨some 4, .mov (.const (.nilsl)), none⟩]
def S23.r1 : List AOpr := [
  ⟨some 15, .mov (.tmp 0), none⟩,
  ⟨some 16, .mov (.tmp 1), none⟩,
  ⟨some 17, .call (.const (.func (.func 27) [] [])) [.tmp 15, .tmp 16], none⟩,
  ⟨some 5, .mov (.tmp 17), none⟩]
def S23.r2 : List AOpr := [
  ⟨some 18, .mov (.tmp 5), none⟩,
  ⟨some 19, .len (.tmp 18), none⟩,
  ⟨some 20, .arith .eql (.tmp 19) (.const (.int .i64 0)), none⟩]
def S23.r3 : List AOpr := [
  ⟨some 4, .mov (.const (.nilsl)), none⟩]
def S23.r4 : List (AOpr × Option Nat) := [
  (⟨some 21, .mov (.tmp 0), none⟩, none),
  (⟨some 22, .call (.const (.func (.func 13) [] [])) [.tmp 21], none⟩, none),
  (⟨some 23, .arith .neq (.tmp 22) (.const (.int .i64 0)), none⟩, none),
  (⟨some 24, .mov (.tmp 23), none⟩, none),
  (⟨some 25, .mov (.tmp 1), some (24, false)⟩, some 24),
  (⟨some 26, .call (.const (.func (.func 13) [] [])) [.tmp 25], some (24, false)⟩, none),
  (⟨some 27, .arith .neq (.tmp 26) (.const (.int .i64 0)), some (24, false)⟩, none),
  (⟨some 28, .pick (.tmp 24) (.const (.bool true)) (.tmp 27), none⟩, none)]
def S23.r5 : List AOpr := [
  ⟨some 29, .call (.const (.func (.func 51) [] [])) [], none⟩,
  ⟨some 4, .mov (.tmp 29), none⟩]
def S23.r6 : List AOpr := [
  ⟨some 30, .mov (.tmp 5), none⟩,
  ⟨some 31, .idxA 3 (.tmp 30) (.const (.int .i64 0)), none⟩,
  ⟨some 32, .ldn 3 (.tmp 31), none⟩,
  ⟨some 6, .new [.int .i64 0, .int .i64 0, .nilsl], none⟩,
  ⟨none, .st 3 (.tmp 6) (.tmp 32), none⟩]
def S23.r7 : List AOpr := [
  ⟨some 7, .mov (.const (.func (.func 52) [] [])), none⟩]
def S23.r8 : List (AOpr × Nat) := [
  (⟨some 33, .fldA 0 (.tmp 6), none⟩, 0),
  (⟨some 34, .ld1 (.tmp 33), none⟩, 1),
  (⟨some 35, .fldA 0 (.tmp 6), none⟩, 0),
  (⟨some 36, .ld1 (.tmp 35), none⟩, 4),
  (⟨some 37, .fldA 1 (.tmp 6), none⟩, 0),
  (⟨some 38, .ld1 (.tmp 37), none⟩, 16),
  (⟨some 39, .arith .add (.tmp 36) (.tmp 38), none⟩, 60),
  (⟨some 40, .fldA 0 (.tmp 6), none⟩, 0),
  (⟨some 41, .ld1 (.tmp 40), none⟩, 128),
  (⟨some 42, .fldA 2 (.tmp 6), none⟩, 0),
  (⟨some 43, .ld1 (.tmp 42), none⟩, 512),
  (⟨some 44, .len (.tmp 43), none⟩, 1536),
  (⟨some 45, .arith .add (.tmp 41) (.tmp 44), none⟩, 3968),
  (⟨some 8, .mov (.tmp 34), none⟩, 3),
  (⟨some 9, .mov (.tmp 39), none⟩, 8319),
  (⟨some 10, .mov (.tmp 45), none⟩, 32767)]
def S23.r9 : List (AOpr × Option Nat) := [
  (⟨some 46, .mov (.tmp 0), none⟩, none),
  (⟨some 47, .mov (.tmp 8), none⟩, none),
  (⟨some 48, .mov (.tmp 9), none⟩, none),
  (⟨some 49, .sl 22 (.tmp 46) (some (.tmp 47)) (some (.tmp 48)) none, none⟩, none),
  (⟨some 50, .mov (.tmp 7), none⟩, none),
  (⟨some 51, .call (.const (.func (.func 53) [] [])) [.tmp 49, .tmp 50], none⟩, none),
  (⟨some 52, .mov (.tmp 51), none⟩, none),
  (⟨some 53, .fldA 2 (.tmp 6), some (52, false)⟩, some 52),
  (⟨some 54, .ld1 (.tmp 53), some (52, false)⟩, none),
  (⟨some 55, .mov (.tmp 7), some (52, false)⟩, none),
  (⟨some 56, .call (.const (.func (.func 53) [] [])) [.tmp 54, .tmp 55], some (52, false)⟩, none),
  (⟨some 57, .pick (.tmp 52) (.const (.bool true)) (.tmp 56), none⟩, none)]
def S23.r10 : List AOpr := [
  ⟨some 58, .mov (.tmp 0), none⟩,
  ⟨some 59, .len (.tmp 58), none⟩,
  ⟨some 60, .mov (.tmp 1), none⟩,
  ⟨some 61, .len (.tmp 60), none⟩,
  ⟨some 8, .mov (.const (.int .i64 0)), none⟩,
  ⟨some 9, .mov (.tmp 59), none⟩,
  ⟨some 10, .mov (.tmp 61), none⟩]
def S23.r11 : List AOpr := [
  ⟨some 63, .mov (.tmp 0), none⟩,
  ⟨some 64, .mov (.tmp 8), none⟩,
  ⟨some 65, .mov (.tmp 9), none⟩,
  ⟨some 66, .call (.const (.func (.func 54) [] [])) [.tmp 63, .tmp 64, .tmp 65], none⟩,
  ⟨some 62, .mov (.tmp 66), none⟩,
  ⟨some 67, .ext (.tmp 62) 0, none⟩,
  ⟨some 68, .ext (.tmp 62) 1, none⟩,
  ⟨some 11, .mov (.tmp 67), none⟩,
  ⟨some 12, .mov (.tmp 68), none⟩]
def S23.r12 : List AOpr := [
  ⟨some 70, .mov (.tmp 1), none⟩,
  ⟨some 71, .mov (.tmp 8), none⟩,
  ⟨some 72, .mov (.tmp 10), none⟩,
  ⟨some 73, .call (.const (.func (.func 54) [] [])) [.tmp 70, .tmp 71, .tmp 72], none⟩,
  ⟨some 69, .mov (.tmp 73), none⟩,
  ⟨some 74, .ext (.tmp 69) 0, none⟩,
  ⟨some 75, .ext (.tmp 69) 1, none⟩,
  ⟨some 13, .mov (.tmp 74), none⟩,
  ⟨some 14, .mov (.tmp 75), none⟩]
def S23.r13 : List (AOpr × Option Nat) := [
  (⟨some 76, .mov (.tmp 12), none⟩, none),
  (⟨some 77, .un .not (.tmp 76), none⟩, none),
  (⟨some 78, .mov (.tmp 77), none⟩, none),
  (⟨some 79, .mov (.tmp 14), some (78, false)⟩, some 78),
  (⟨some 80, .un .not (.tmp 79), some (78, false)⟩, none),
  (⟨some 81, .pick (.tmp 78) (.const (.bool true)) (.tmp 80), none⟩, none)]
def S23.r14 : List AOpr := [
  ⟨some 82, .call (.const (.func (.func 51) [] [])) [], none⟩,
  ⟨some 4, .mov (.tmp 82), none⟩]
def S23.r15 : List AOpr := [
  ⟨some 83, .mov (.tmp 11), none⟩,
  ⟨some 84, .mov (.tmp 13), none⟩,
  ⟨some 85, .app 4 32 (.tmp 83) (.tmp 84), none⟩,
  ⟨some 4, .mov (.tmp 85), none⟩]
def S23 : SFn := ⟨86, [.tmp 4], .seq (.reg S23.r0) (.seq (.reg S23.r1) (.seq (.seq (.reg S23.r2) (.cond (.tmp 20) (.seq (.reg S23.r3) (.ret)) (.skip))) (.seq (.seq (.joinN [0, 1, 5, 28] (.regS S23.r4)) (.cond (.tmp 28) (.seq (.reg S23.r5) (.ret)) (.skip))) (.seq (.reg S23.r6) (.seq (.reg S23.r7) (.seq (.draw S23.r8) (.seq (.seq (.joinN [0, 1, 8, 9, 10, 57] (.regS S23.r9)) (.joinN [0, 1, 8, 9, 10] (.cond (.tmp 57) (.reg S23.r10) (.skip)))) (.seq (.reg S23.r11) (.seq (.reg S23.r12) (.seq (.seq (.joinN [11, 13, 81] (.regS S23.r13)) (.cond (.tmp 81) (.seq (.reg S23.r14) (.ret)) (.skip))) (.seq (.reg S23.r15) (.ret))))))))))))⟩
theorem S23_ok : cFn Try.prog Try.f23 = some S23.erase := by kernel_rfl
def g23_s1 (cl : CL) (v0 v1 v5 v22 : AV) (h : AH) (k : List AV → AH → Prop) : Prop :=
  wk (kArith h .neq v22 (.int .i64 0)) fun v23 h =>
  wsp v23 fun v24 =>
  wg (gdv false v24) (fun k => k v1 h) h fun v25 h =>
  wg (gdv false v24) (fun k => wcall cl (.func (.func 13) [] []) [v25] h k) h fun v26 h =>
  wg (gdv false v24) (fun k => wk (kArith h .neq v26 (.int .i64 0)) k) h fun v27 h =>
  wk (kPick h v24 (.bool true) v27) fun v28 h =>
  k [v0, v1, v5, v28] h
def g23_a1 (cl : CL) (v0 v1 v5 : AV) (h : AH) (k : List AV → AH → Prop) : Prop :=
  wcall cl (.func (.func 13) [] []) [v0] h fun v22 h =>
  g23_s1 cl (v0) (v1) (v5) (v22) h k
def g23_s2 (cl : CL) (v0 v1 v6 v7 v8 v9 v10 v51 : AV) (h : AH) (k : List AV → AH → Prop) : Prop :=
  wsp v51 fun v52 =>
  wg (gdv false v52) (fun k => wk (kFldA h 2 v6) k) h fun v53 h =>
  wg (gdv false v52) (fun k => wk (kLd1 h v53) k) h fun v54 h =>
  wg (gdv false v52) (fun k => k v7 h) h fun v55 h =>
  wg (gdv false v52) (fun k => wcall cl (.func (.func 53) [] []) [v54, v55] h k) h fun v56 h =>
  wk (kPick h v52 (.bool true) v56) fun v57 h =>
  k [v0, v1, v8, v9, v10, v57] h
def g23_a2 (cl : CL) (v0 v1 v6 v7 v8 v9 v10 : AV) (h : AH) (k : List AV → AH → Prop) : Prop :=
  wk (kSl h 22 v0 (some v8) (some v9) none) fun v49 h =>
  wcall cl (.func (.func 53) [] []) [v49, v7] h fun v51 h =>
  g23_s2 cl (v0) (v1) (v6) (v7) (v8) (v9) (v10) (v51) h k
def g23_a3 (cl : CL) (v0 v1 v8 v9 v10 v57 : AV) (h : AH) (k : List AV → AH → Prop) : Prop :=
  wif v57 (
  wk (kLen h v0) fun v59 h =>
  wk (kLen h v1) fun v61 h =>
  k [v0, v1, (.int .i64 0), v59, v61] h) (
  k [v0, v1, v8, v9, v10] h)
def g23_a4 (cl : CL) (v11 v12 v13 v14 : AV) (h : AH) (k : List AV → AH → Prop) : Prop :=
  wk (kUn h .not v12) fun v77 h =>
  wsp v77 fun v78 =>
  wg (gdv false v78) (fun k => k v14 h) h fun v79 h =>
  wg (gdv false v78) (fun k => wk (kUn h .not v79) k) h fun v80 h =>
  wk (kPick h v78 (.bool true) v80) fun v81 h =>
  k [v11, v13, v81] h
def g23_j5 (cl : CL) (v11 v13 v81 : AV) (h : AH) (Q : AV → AH → Prop) : Prop :=
  wif v81 (
  wcall cl (.func (.func 51) [] []) [] h fun v82 h =>
  Q (v82) h) (
  wk (kApp h 4 32 v11 v13) fun v85 h =>
  Q (v85) h)
def g23_s3 (cl : CL) (v11 v12 v73 : AV) (h : AH) (Q : AV → AH → Prop) : Prop :=
  wk (kExt h v73 0) fun v74 h =>
  wk (kExt h v73 1) fun v75 h =>
  wjoinN (g23_a4 cl (v11) (v12) (v74) (v75) h) fun vs h => g23_j5 cl (nthD vs 0) (nthD vs 1) (nthD vs 2) h Q
def g23_s4 (cl : CL) (v1 v8 v10 v66 : AV) (h : AH) (Q : AV → AH → Prop) : Prop :=
  wk (kExt h v66 0) fun v67 h =>
  wk (kExt h v66 1) fun v68 h =>
  wcall cl (.func (.func 54) [] []) [v1, v8, v10] h fun v73 h =>
  g23_s3 cl (v67) (v68) (v73) h Q
def g23_j6 (cl : CL) (v0 v1 v8 v9 v10 : AV) (h : AH) (Q : AV → AH → Prop) : Prop :=
  wcall cl (.func (.func 54) [] []) [v0, v8, v9] h fun v66 h =>
  g23_s4 cl (v1) (v8) (v10) (v66) h Q
def g23_j7 (cl : CL) (v0 v1 v8 v9 v10 v57 : AV) (h : AH) (Q : AV → AH → Prop) : Prop :=
  wjoinN (g23_a3 cl (v0) (v1) (v8) (v9) (v10) (v57) h) fun vs h => g23_j6 cl (nthD vs 0) (nthD vs 1) (nthD vs 2) (nthD vs 3) (nthD vs 4) h Q
def g23_s5 (cl : CL) (v0 v1 v6 v7 v34 v39 v41 v44 : AV) (h : AH) (Q : AV → AH → Prop) : Prop :=
  wdp h (kArith h .add v41 v44) .pure fun v45 c12 h =>
  wdp h (kMov h v34) .pure fun v8 c13 h =>
  wdp h (kMov h v39) .pure fun v9 c14 h =>
  wdp h (kMov h v45) .pure fun v10 c15 h =>
  wjoinN (g23_a2 cl (v0) (v1) (v6) (v7) (v8) (v9) (v10) h) fun vs h => g23_j7 cl (nthD vs 0) (nthD vs 1) (nthD vs 2) (nthD vs 3) (nthD vs 4) (nthD vs 5) h Q
def g23_s6 (cl : CL) (v0 v1 v6 v7 v34 v36 : AV) (h : AH) (Q : AV → AH → Prop) : Prop :=
  wdp h (kFldA h 1 v6) .pure fun v37 c4 h =>
  wdp h (kLd1 h v37) (rdK (rdv v37)) fun v38 c5 h =>
  wdp h (kArith h .add v36 v38) .pure fun v39 c6 h =>
  wdp h (kFldA h 0 v6) .pure fun v40 c7 h =>
  wdp h (kLd1 h v40) (rdK (rdv v40)) fun v41 c8 h =>
  wdp h (kFldA h 2 v6) .pure fun v42 c9 h =>
  wdp h (kLd1 h v42) (rdK (rdv v42)) fun v43 c10 h =>
  wdp h (kLen h v43) .pure fun v44 c11 h =>
  g23_s5 cl (v0) (v1) (v6) (v7) (v34) (v39) (v41) (v44) h Q
def g23_j8 (cl : CL) (v0 v1 v5 v28 : AV) (h : AH) (Q : AV → AH → Prop) : Prop :=
  wif v28 (
  wcall cl (.func (.func 51) [] []) [] h fun v29 h =>
  Q (v29) h) (
  wk (kIdxA h 3 v5 (.int .i64 0)) fun v31 h =>
  wk (kLdn h 3 v31) fun v32 h =>
  wk (kNew h [.int .i64 0, .int .i64 0, .nilsl]) fun v6 h =>
  wk (kSt h 3 v6 v32) fun _ h =>
  wdr h 16 fun r h =>
  wdp h (kFldA h 0 v6) .pure fun v33 c0 h =>
  wdp h (kLd1 h v33) (rdK (rdv v33)) fun v34 c1 h =>
  wdp h (kFldA h 0 v6) .pure fun v35 c2 h =>
  wdp h (kLd1 h v35) (rdK (rdv v35)) fun v36 c3 h =>
  g23_s6 cl (v0) (v1) (v6) ((.func (.func 52) [] [])) (v34) (v36) h Q)
def g23 (cl : CL) (v0 v1 : AV) (h : AH) (Q : AV → AH → Prop) : Prop :=
  wcall cl (.func (.func 27) [] []) [v0, v1] h fun v17 h =>
  wk (kLen h v17) fun v19 h =>
  wk (kArith h .eql v19 (.int .i64 0)) fun v20 h =>
  wif v20 (
  Q ((.nilsl)) h) (
  wjoinN (g23_a1 cl (v0) (v1) (v17) h) fun vs h => g23_j8 cl (nthD vs 0) (nthD vs 1) (nthD vs 2) (nthD vs 3) h Q)
theorem g23_eq (cl : CL) (v0 v1 : AV) (h : AH) (Q : AV → AH → Prop) : wrun cl S23 [v0, v1] h Q = g23 cl v0 v1 h Q := by kernel_rfl
theorem C23 {cl : CL} (hcl : CLOk Try.prog cl) {v0 v1 : AV} {h : AH} {Q : AV → AH → Prop} (hg : g23 cl v0 v1 h Q) : CallsA Try.prog 23 [v0, v1] h Q := wfn_ok hcl (f := 23) (fn := Try.f23) (by kernel_rfl) S23_ok (by decide) (by kernel_rfl) (its_nil (by kernel_rfl)) (by rw [g23_eq]; exact hg)

/- widgetry/widgetrylaw24.fill -/
def S26.r0 : List AOpr := [
  ⟨some 10, .new [.int .i64 0, .int .i64 0, .int .i64 0, .int .i64 0, .int .i64 0, .int .i64 0, .bool false, .int .i64 0, .int .i64 0, .int .i64 0, .int .i64 0, .str [], .int .i64 0, .int .i64 0, .int .i64 0, .int .i64 0, .int .i64 0, .int .i64 0, .int .i64 0, .int .i64 0, .int .i64 0, .nilsl], none⟩]
def S26.r1 : List AOpr := [
  ⟨some 11, .mov (.tmp 0), none⟩,
  ⟨some 12, .mov (.tmp 1), none⟩,
  ⟨some 13, .mov (.tmp 2), none⟩,
  ⟨some 14, .mov (.tmp 3), none⟩,
  ⟨some 15, .build [.int .i64 0, .int .i64 0, .int .i64 0, .int .i64 0] [(0, 1, .tmp 11), (1, 1, .tmp 12), (2, 1, .tmp 13), (3, 1, .tmp 14)], none⟩,
  ⟨some 16, .mov (.tmp 4), none⟩,
  ⟨some 17, .build [.int .i64 0, .int .i64 0, .int .i64 0, .int .i64 0, .int .i64 0, .int .i64 0, .bool false, .int .i64 0, .int .i64 0, .int .i64 0, .int .i64 0, .str [], .int .i64 0, .int .i64 0, .int .i64 0, .int .i64 0, .int .i64 0, .int .i64 0, .int .i64 0, .int .i64 0, .int .i64 0, .nilsl] [(0, 1, .const (.int .i64 4)), (1, 4, .tmp 15), (10, 1, .tmp 16)], none⟩,
  ⟨none, .st 22 (.tmp 10) (.tmp 17), none⟩]
def S26 : SFn := ⟨18, [.cell 10 (some 22)], .seq (.reg S26.r0) (.seq (.reg S26.r1) (.ret))⟩
theorem S26_ok : cFn Try.prog Try.f26 = some S26.erase := by kernel_rfl
def g26 (cl : CL) (v0 v1 v2 v3 v4 : AV) (h : AH) (Q : AV → AH → Prop) : Prop :=
  wk (kNew h [.int .i64 0, .int .i64 0, .int .i64 0, .int .i64 0, .int .i64 0, .int .i64 0, .bool false, .int .i64 0, .int .i64 0, .int .i64 0, .int .i64 0, .str [], .int .i64 0, .int .i64 0, .int .i64 0, .int .i64 0, .int .i64 0, .int .i64 0, .int .i64 0, .int .i64 0, .int .i64 0, .nilsl]) fun v10 h =>
  wk (kBuild h [.int .i64 0, .int .i64 0, .int .i64 0, .int .i64 0] [(0, 1, v0), (1, 1, v1), (2, 1, v2), (3, 1, v3)]) fun v15 h =>
  wk (kBuild h [.int .i64 0, .int .i64 0, .int .i64 0, .int .i64 0, .int .i64 0, .int .i64 0, .bool false, .int .i64 0, .int .i64 0, .int .i64 0, .int .i64 0, .str [], .int .i64 0, .int .i64 0, .int .i64 0, .int .i64 0, .int .i64 0, .int .i64 0, .int .i64 0, .int .i64 0, .int .i64 0, .nilsl] [(0, 1, (.int .i64 4)), (1, 4, v15), (10, 1, v4)]) fun v17 h =>
  wk (kSt h 22 v10 v17) fun _ h =>
  wres (aresV h [.cell (v10) (some 22)]) h Q
theorem g26_eq (cl : CL) (v0 v1 v2 v3 v4 : AV) (h : AH) (Q : AV → AH → Prop) : wrun cl S26 [v0, v1, v2, v3, v4] h Q = g26 cl v0 v1 v2 v3 v4 h Q := by kernel_rfl
theorem C26 {cl : CL} (hcl : CLOk Try.prog cl) {v0 v1 v2 v3 v4 : AV} {h : AH} {Q : AV → AH → Prop} (hg : g26 cl v0 v1 v2 v3 v4 h Q) : CallsA Try.prog 26 [v0, v1, v2, v3, v4] h Q := wfn_ok hcl (f := 26) (fn := Try.f26) (by kernel_rfl) S26_ok (by decide) (by kernel_rfl) (its_nil (by kernel_rfl)) (by rw [g26_eq]; exact hg)

/- widgetry/display.Diff -/
def S27.r0 : List AOpr := [
  ⟨some 4, .mov (.const (.nilsl)), none⟩]
def S27.r1 : List AOpr := [
  ⟨some 7, .mov (.tmp 0), none⟩,
  ⟨some 8, .mov (.tmp 1), none⟩,
  ⟨some 9, .call (.const (.func (.func 58) [] [])) [.tmp 7, .tmp 8, .const (.func (.func 11) [] [])], none⟩]
def S27.r2 : List AOpr := [
  ⟨some 4, .mov (.const (.nilsl)), none⟩]
def S27.r3 : List AOpr := [
  ⟨some 5, .mov (.const (.int .i64 0)), none⟩]
def S27.r4 : List ((AOpr × Nat) × Option Nat) := [
  ((⟨some 10, .mov (.tmp 5), none⟩, 0), none),
  ((⟨some 11, .mov (.tmp 0), none⟩, 0), none),
  ((⟨some 12, .len (.tmp 11), none⟩, 2), none),
  ((⟨some 13, .mov (.tmp 1), none⟩, 0), none),
  ((⟨some 14, .len (.tmp 13), none⟩, 8), none),
  ((⟨some 15, .mnmx false (.tmp 12) (.tmp 14), none⟩, 30), none),
  ((⟨some 16, .arith .lss (.tmp 10) (.tmp 15), none⟩, 63), none),
  ((⟨some 17, .mov (.tmp 16), none⟩, 127), none),
  ((⟨some 18, .mov (.tmp 0), some (17, true)⟩, 255), some 17),
  ((⟨some 19, .mov (.tmp 5), some (17, true)⟩, 255), none),
  ((⟨some 20, .idxA 22 (.tmp 18) (.tmp 19), some (17, true)⟩, 1023), none),
  ((⟨some 21, .ldn 22 (.tmp 20), some (17, true)⟩, 2047), none),
  ((⟨some 22, .mov (.tmp 1), some (17, true)⟩, 255), none),
  ((⟨some 23, .mov (.tmp 5), some (17, true)⟩, 255), none),
  ((⟨some 24, .idxA 22 (.tmp 22) (.tmp 23), some (17, true)⟩, 12543), none),
  ((⟨some 25, .ldn 22 (.tmp 24), some (17, true)⟩, 28927), none),
  ((⟨some 26, .call (.const (.func (.func 11) [] [])) [.tmp 21, .tmp 25], some (17, true)⟩, 65535), none),
  ((⟨some 27, .pick (.tmp 17) (.tmp 26) (.const (.bool false)), none⟩, 131071), none)]
def S27.r5 : List AOpr := [
  ⟨some 28, .mov (.tmp 5), none⟩,
  ⟨some 29, .arith .add (.tmp 28) (.const (.int .i64 1)), none⟩,
  ⟨some 5, .mov (.tmp 29), none⟩]
def S27.r6 : List AOpr := [
  ⟨some 6, .mov (.const (.int .i64 0)), none⟩]
def S27.r7 : List ((AOpr × Nat) × Option Nat) := [
  ((⟨some 30, .mov (.tmp 6), none⟩, 0), none),
  ((⟨some 31, .mov (.tmp 0), none⟩, 0), none),
  ((⟨some 32, .len (.tmp 31), none⟩, 2), none),
  ((⟨some 33, .mov (.tmp 1), none⟩, 0), none),
  ((⟨some 34, .len (.tmp 33), none⟩, 8), none),
  ((⟨some 35, .mnmx false (.tmp 32) (.tmp 34), none⟩, 30), none),
  ((⟨some 36, .mov (.tmp 5), none⟩, 0), none),
  ((⟨some 37, .arith .sub (.tmp 35) (.tmp 36), none⟩, 126), none),
  ((⟨some 38, .arith .lss (.tmp 30) (.tmp 37), none⟩, 255), none),
  ((⟨some 39, .mov (.tmp 38), none⟩, 511), none),
  ((⟨some 40, .mov (.tmp 0), some (39, true)⟩, 1023), some 39),
  ((⟨some 41, .mov (.tmp 0), some (39, true)⟩, 1023), none),
  ((⟨some 42, .len (.tmp 41), some (39, true)⟩, 3071), none),
  ((⟨some 43, .arith .sub (.tmp 42) (.const (.int .i64 1)), some (39, true)⟩, 7167), none),
  ((⟨some 44, .mov (.tmp 6), some (39, true)⟩, 1023), none),
  ((⟨some 45, .arith .sub (.tmp 43) (.tmp 44), some (39, true)⟩, 31743), none),
  ((⟨some 46, .idxA 22 (.tmp 40) (.tmp 45), some (39, true)⟩, 65535), none),
  ((⟨some 47, .ldn 22 (.tmp 46), some (39, true)⟩, 131071), none),
  ((⟨some 48, .mov (.tmp 1), some (39, true)⟩, 1023), none),
  ((⟨some 49, .mov (.tmp 1), some (39, true)⟩, 1023), none),
  ((⟨some 50, .len (.tmp 49), some (39, true)⟩, 525311), none),
  ((⟨some 51, .arith .sub (.tmp 50) (.const (.int .i64 1)), some (39, true)⟩, 1573887), none),
  ((⟨some 52, .mov (.tmp 6), some (39, true)⟩, 1023), none),
  ((⟨some 53, .arith .sub (.tmp 51) (.tmp 52), some (39, true)⟩, 7865343), none),
  ((⟨some 54, .idxA 22 (.tmp 48) (.tmp 53), some (39, true)⟩, 16516095), none),
  ((⟨some 55, .ldn 22 (.tmp 54), some (39, true)⟩, 33293311), none),
  ((⟨some 56, .call (.const (.func (.func 11) [] [])) [.tmp 47, .tmp 55], some (39, true)⟩, 67108863), none),
  ((⟨some 57, .pick (.tmp 39) (.tmp 56) (.const (.bool false)), none⟩, 134217727), none)]
def S27.r8 : List AOpr := [
  ⟨some 58, .mov (.tmp 6), none⟩,
  ⟨some 59, .arith .add (.tmp 58) (.const (.int .i64 1)), none⟩,
  ⟨some 6, .mov (.tmp 59), none⟩]
def S27.r9 : List AOpr := [
  ⟨some 60, .mov (.tmp 5), none⟩,
  ⟨some 61, .mov (.tmp 0), none⟩,
  ⟨some 62, .len (.tmp 61), none⟩,
  ⟨some 63, .mov (.tmp 6), none⟩,
  ⟨some 64, .arith .sub (.tmp 62) (.tmp 63), none⟩,
  ⟨some 65, .mov (.tmp 5), none⟩,
  ⟨some 66, .arith .sub (.tmp 64) (.tmp 65), none⟩,
  ⟨some 67, .mov (.tmp 1), none⟩,
  ⟨some 68, .mov (.tmp 5), none⟩,
  ⟨some 69, .mov (.tmp 1), none⟩,
  ⟨some 70, .len (.tmp 69), none⟩,
  ⟨some 71, .mov (.tmp 6), none⟩,
  ⟨some 72, .arith .sub (.tmp 70) (.tmp 71), none⟩,
  ⟨some 73, .sl 22 (.tmp 67) (some (.tmp 68)) (some (.tmp 72)) none, none⟩,
  ⟨some 74, .call (.const (.func (.func 59) [] [])) [.tmp 73], none⟩,
  ⟨some 75, .build [.int .i64 0, .int .i64 0, .nilsl] [(0, 1, .tmp 60), (1, 1, .tmp 66), (2, 1, .tmp 74)], none⟩,
  ⟨some 76, .buildSl 3 1 [.int .i64 0, .int .i64 0, .nilsl] [(0, 3, .tmp 75)], none⟩,
  ⟨some 4, .mov (.tmp 76), none⟩]
def S27 : SFn := ⟨77, [.tmp 4], .seq (.reg S27.r0) (.seq (.seq (.reg S27.r1) (.cond (.tmp 9) (.seq (.reg S27.r2) (.ret)) (.skip))) (.seq (.reg S27.r3) (.seq (.block 0 (.loop [0, 1, 5] [0, 1, 5] (.seq (.seq (.joinN [0, 1, 5, 27] (.drawS S27.r4)) (.cond (.tmp 27) (.skip) (.exit 0))) (.block 1 (.reg S27.r5))))) (.seq (.reg S27.r6) (.seq (.block 2 (.loop [0, 1, 5, 6] [0, 1, 5, 6] (.seq (.seq (.joinN [0, 1, 5, 6, 57] (.drawS S27.r7)) (.cond (.tmp 57) (.skip) (.exit 2))) (.block 3 (.reg S27.r8))))) (.seq (.reg S27.r9) (.ret)))))))⟩
theorem S27_ok : cFn Try.prog Try.f27 = some S27.erase := by kernel_rfl
def g27_s1 (cl : CL) (v0 v1 v5 v17 v21 v25 : AV) (h : AH) (k : List AV → AH → Prop) : Prop :=
  wgd (gdv true v17) (fun k => wdc cl (.func (.func 11) [] []) [v21, v25] h k) h fun v26 c16 h =>
  wdp h (kPick h v17 v26 (.bool false)) .pure fun v27 c17 h =>
  k [v0, v1, v5, v27] h
def g27_s2 (cl : CL) (v0 v1 v5 v17 : AV) (h : AH) (k : List AV → AH → Prop) : Prop :=
  wsp v17 fun v17 =>
  wgd (gdv true v17) (fun k => wdp h (kMov h v0) .pure k) h fun v18 c8 h =>
  wgd (gdv true v17) (fun k => wdp h (kMov h v5) .pure k) h fun v19 c9 h =>
  wgd (gdv true v17) (fun k => wdp h (kIdxA h 22 v18 v19) .pure k) h fun v20 c10 h =>
  wgd (gdv true v17) (fun k => wdp h (kLdn h 22 v20) (rdK (rdv v20)) k) h fun v21 c11 h =>
  wgd (gdv true v17) (fun k => wdp h (kMov h v1) .pure k) h fun v22 c12 h =>
  wgd (gdv true v17) (fun k => wdp h (kMov h v5) .pure k) h fun v23 c13 h =>
  wgd (gdv true v17) (fun k => wdp h (kIdxA h 22 v22 v23) .pure k) h fun v24 c14 h =>
  wgd (gdv true v17) (fun k => wdp h (kLdn h 22 v24) (rdK (rdv v24)) k) h fun v25 c15 h =>
  g27_s1 cl (v0) (v1) (v5) (v17) (v21) (v25) h k
def g27_a1 (cl : CL) (v0 v1 v5 : AV) (h : AH) (k : List AV → AH → Prop) : Prop :=
  wdr h 18 fun r h =>
  wdp h (kMov h v5) .pure fun v10 c0 h =>
  wdp h (kMov h v0) .pure fun v11 c1 h =>
  wdp h (kLen h v11) .pure fun v12 c2 h =>
  wdp h (kMov h v1) .pure fun v13 c3 h =>
  wdp h (kLen h v13) .pure fun v14 c4 h =>
  wdp h (kMnmx h false v12 v14) .pure fun v15 c5 h =>
  wdp h (kArith h .lss v10 v15) .pure fun v16 c6 h =>
  wdp h (kMov h v16) .pure fun v17 c7 h =>
  g27_s2 cl (v0) (v1) (v5) (v17) h k
def g27_j2 (cl : CL) (v0 v1 v5 v27 : AV) (h : AH) (k : AX → List AV → List AV → AH → Prop) : Prop :=
  wif v27 (
  wk (kArith h .add v5 (.int .i64 1)) fun v29 h =>
  k .nrm [v0, v1, v29] [v0, v1, v29] h) (
  k (.exit 0) [v0, v1, v5] [v0, v1, v5] h)
def g27_l3 (cl : CL) (v0 v1 v5 : AV) (h : AH) (k : AX → List AV → List AV → AH → Prop) : Prop :=
  wjoinN (g27_a1 cl (v0) (v1) (v5) h) fun vs h => g27_j2 cl (nthD vs 0) (nthD vs 1) (nthD vs 2) (nthD vs 3) h k
def g27_s3 (cl : CL) (v0 v1 v5 v6 v39 v47 v48 v53 : AV) (h : AH) (k : List AV → AH → Prop) : Prop :=
  wgd (gdv true v39) (fun k => wdp h (kIdxA h 22 v48 v53) .pure k) h fun v54 c24 h =>
  wgd (gdv true v39) (fun k => wdp h (kLdn h 22 v54) (rdK (rdv v54)) k) h fun v55 c25 h =>
  wgd (gdv true v39) (fun k => wdc cl (.func (.func 11) [] []) [v47, v55] h k) h fun v56 c26 h =>
  wdp h (kPick h v39 v56 (.bool false)) .pure fun v57 c27 h =>
  k [v0, v1, v5, v6, v57] h
def g27_s4 (cl : CL) (v0 v1 v5 v6 v39 v40 v45 : AV) (h : AH) (k : List AV → AH → Prop) : Prop :=
  wgd (gdv true v39) (fun k => wdp h (kIdxA h 22 v40 v45) .pure k) h fun v46 c16 h =>
  wgd (gdv true v39) (fun k => wdp h (kLdn h 22 v46) (rdK (rdv v46)) k) h fun v47 c17 h =>
  wgd (gdv true v39) (fun k => wdp h (kMov h v1) .pure k) h fun v48 c18 h =>
  wgd (gdv true v39) (fun k => wdp h (kMov h v1) .pure k) h fun v49 c19 h =>
  wgd (gdv true v39) (fun k => wdp h (kLen h v49) .pure k) h fun v50 c20 h =>
  wgd (gdv true v39) (fun k => wdp h (kArith h .sub v50 (.int .i64 1)) .pure k) h fun v51 c21 h =>
  wgd (gdv true v39) (fun k => wdp h (kMov h v6) .pure k) h fun v52 c22 h =>
  wgd (gdv true v39) (fun k => wdp h (kArith h .sub v51 v52) .pure k) h fun v53 c23 h =>
  g27_s3 cl (v0) (v1) (v5) (v6) (v39) (v47) (v48) (v53) h k
def g27_s5 (cl : CL) (v0 v1 v5 v6 v30 v37 : AV) (h : AH) (k : List AV → AH → Prop) : Prop :=
  wdp h (kArith h .lss v30 v37) .pure fun v38 c8 h =>
  wdp h (kMov h v38) .pure fun v39 c9 h =>
  wsp v39 fun v39 =>
  wgd (gdv true v39) (fun k => wdp h (kMov h v0) .pure k) h fun v40 c10 h =>
  wgd (gdv true v39) (fun k => wdp h (kMov h v0) .pure k) h fun v41 c11 h =>
  wgd (gdv true v39) (fun k => wdp h (kLen h v41) .pure k) h fun v42 c12 h =>
  wgd (gdv true v39) (fun k => wdp h (kArith h .sub v42 (.int .i64 1)) .pure k) h fun v43 c13 h =>
  wgd (gdv true v39) (fun k => wdp h (kMov h v6) .pure k) h fun v44 c14 h =>
  wgd (gdv true v39) (fun k => wdp h (kArith h .sub v43 v44) .pure k) h fun v45 c15 h =>
  g27_s4 cl (v0) (v1) (v5) (v6) (v39) (v40) (v45) h k
def g27_a4 (cl : CL) (v0 v1 v5 v6 : AV) (h : AH) (k : List AV → AH → Prop) : Prop :=
  wdr h 28 fun r h =>
  wdp h (kMov h v6) .pure fun v30 c0 h =>
  wdp h (kMov h v0) .pure fun v31 c1 h =>
  wdp h (kLen h v31) .pure fun v32 c2 h =>
  wdp h (kMov h v1) .pure fun v33 c3 h =>
  wdp h (kLen h v33) .pure fun v34 c4 h =>
  wdp h (kMnmx h false v32 v34) .pure fun v35 c5 h =>
  wdp h (kMov h v5) .pure fun v36 c6 h =>
  wdp h (kArith h .sub v35 v36) .pure fun v37 c7 h =>
  g27_s5 cl (v0) (v1) (v5) (v6) (v30) (v37) h k
def g27_j5 (cl : CL) (v0 v1 v5 v6 v57 : AV) (h : AH) (k : AX → List AV → List AV → AH → Prop) : Prop :=
  wif v57 (
  wk (kArith h .add v6 (.int .i64 1)) fun v59 h =>
  k .nrm [v0, v1, v5, v59] [v0, v1, v5, v59] h) (
  k (.exit 2) [v0, v1, v5, v6] [v0, v1, v5, v6] h)
def g27_l6 (cl : CL) (v0 v1 v5 v6 : AV) (h : AH) (k : AX → List AV → List AV → AH → Prop) : Prop :=
  wjoinN (g27_a4 cl (v0) (v1) (v5) (v6) h) fun vs h => g27_j5 cl (nthD vs 0) (nthD vs 1) (nthD vs 2) (nthD vs 3) (nthD vs 4) h k
def g27_s6 (cl : CL) (v60 v66 v74 : AV) (h : AH) (Q : AV → AH → Prop) : Prop :=
  wk (kBuild h [.int .i64 0, .int .i64 0, .nilsl] [(0, 1, v60), (1, 1, v66), (2, 1, v74)]) fun v75 h =>
  wk (kBuildSl h 3 1 [.int .i64 0, .int .i64 0, .nilsl] [(0, 3, v75)]) fun v76 h =>
  Q (v76) h
def g27_c7 (cl : CL) (v0 v1 v5 v6 : AV) (h : AH) (Q : AV → AH → Prop) : Prop :=
  wk (kLen h v0) fun v62 h =>
  wk (kArith h .sub v62 v6) fun v64 h =>
  wk (kArith h .sub v64 v5) fun v66 h =>
  wk (kLen h v1) fun v70 h =>
  wk (kArith h .sub v70 v6) fun v72 h =>
  wk (kSl h 22 v1 (some v5) (some v72) none) fun v73 h =>
  wcall cl (.func (.func 59) [] []) [v73] h fun v74 h =>
  g27_s6 cl (v5) (v66) (v74) h Q
def g27_j8 (cl : CL) (x : AX) (v0 v1 v5 v6 : AV) (h : AH) (Q : AV → AH → Prop) : Prop :=
  xs x (g27_c7 cl (v0) (v1) (v5) (v6) h Q) (fun j => cond (Nat.beq j 2) (g27_c7 cl (v0) (v1) (v5) (v6) h Q) (False)) (Q (.undef) h)
def g27_c9 (cl : CL) (v0 v1 v5 : AV) (h : AH) (Q : AV → AH → Prop) : Prop :=
  wloop (fun vs h k => g27_l6 cl (nthD vs 0) (nthD vs 1) (nthD vs 2) (nthD vs 3) h k) [v0, v1, v5, (.int .i64 0)] h fun x vs h => g27_j8 cl x (nthD vs 0) (nthD vs 1) (nthD vs 2) (nthD vs 3) h Q
def g27_j10 (cl : CL) (x : AX) (v0 v1 v5 : AV) (h : AH) (Q : AV → AH → Prop) : Prop :=
  xs x (g27_c9 cl (v0) (v1) (v5) h Q) (fun j => cond (Nat.beq j 0) (g27_c9 cl (v0) (v1) (v5) h Q) (False)) (Q (.undef) h)
def g27 (cl : CL) (v0 v1 : AV) (h : AH) (Q : AV → AH → Prop) : Prop :=
  wcall cl (.func (.func 58) [] []) [v0, v1, (.func (.func 11) [] [])] h fun v9 h =>
  wif v9 (
  Q ((.nilsl)) h) (
  wloop (fun vs h k => g27_l3 cl (nthD vs 0) (nthD vs 1) (nthD vs 2) h k) [v0, v1, (.int .i64 0)] h fun x vs h => g27_j10 cl x (nthD vs 0) (nthD vs 1) (nthD vs 2) h Q)
theorem g27_eq (cl : CL) (v0 v1 : AV) (h : AH) (Q : AV → AH → Prop) : wrun cl S27 [v0, v1] h Q = g27 cl v0 v1 h Q := by kernel_rfl
theorem C27 {cl : CL} (hcl : CLOk Try.prog cl) {v0 v1 : AV} {h : AH} {Q : AV → AH → Prop} (hg : g27 cl v0 v1 h Q) : CallsA Try.prog 27 [v0, v1] h Q := wfn_ok hcl (f := 27) (fn := Try.f27) (by kernel_rfl) S27_ok (by decide) (by kernel_rfl) (its_nil (by kernel_rfl)) (by rw [g27_eq]; exact hg)

/- widgetry/display.Apply -/
def S28.r0 : List AOpr := [
  ⟨some 4, .mov (.const (.nilsl)), none⟩,
  ⟨some 5, .mov (.const (.int .i64 0)), none⟩]
def S28.r1 : List AOpr := [
  ⟨some 9, .mov (.tmp 0), none⟩,
  ⟨some 10, .call (.const (.func (.func 59) [] [])) [.tmp 9], none⟩,
  ⟨some 6, .mov (.tmp 10), none⟩]
def S28.r2 : List AOpr := [
  ⟨some 11, .mov (.tmp 1), none⟩,
  ⟨some 12, .len (.tmp 11), none⟩,
  ⟨some 13, .mov (.const (.int .i64 0)), none⟩]
def S28.r3 : List AOpr := [
  ⟨some 14, .arith .lss (.tmp 13) (.tmp 12), none⟩]
def S28.r4 : List AOpr := [
  ⟨some 15, .idxA 3 (.tmp 11) (.tmp 13), none⟩,
  ⟨some 16, .ldn 3 (.tmp 15), none⟩,
  ⟨some 8, .new [.int .i64 0, .int .i64 0, .nilsl], none⟩,
  ⟨none, .st 3 (.tmp 8) (.tmp 16), none⟩]
def S28.r5 : List (AOpr × Option Nat) := [
  (⟨some 17, .fldA 0 (.tmp 8), none⟩, none),
  (⟨some 18, .ld1 (.tmp 17), none⟩, none),
  (⟨some 19, .arith .lss (.tmp 18) (.const (.int .i64 0)), none⟩, none),
  (⟨some 20, .mov (.tmp 19), none⟩, none),
  (⟨some 21, .fldA 1 (.tmp 8), some (20, false)⟩, some 20),
  (⟨some 22, .ld1 (.tmp 21), some (20, false)⟩, none),
  (⟨some 23, .arith .lss (.tmp 22) (.const (.int .i64 0)), some (20, false)⟩, none),
  (⟨some 24, .pick (.tmp 20) (.const (.bool true)) (.tmp 23), none⟩, none),
  (⟨some 25, .mov (.tmp 24), none⟩, none),
  (⟨some 26, .fldA 0 (.tmp 8), some (25, false)⟩, some 25),
  (⟨some 27, .ld1 (.tmp 26), some (25, false)⟩, none),
  (⟨some 28, .mov (.tmp 6), some (25, false)⟩, none),
  (⟨some 29, .len (.tmp 28), some (25, false)⟩, none),
  (⟨some 30, .arith .gtr (.tmp 27) (.tmp 29), some (25, false)⟩, none),
  (⟨some 31, .pick (.tmp 25) (.const (.bool true)) (.tmp 30), none⟩, none),
  (⟨some 32, .mov (.tmp 31), none⟩, none),
  (⟨some 33, .fldA 1 (.tmp 8), some (32, false)⟩, some 32),
  (⟨some 34, .ld1 (.tmp 33), some (32, false)⟩, none),
  (⟨some 35, .mov (.tmp 6), some (32, false)⟩, none),
  (⟨some 36, .len (.tmp 35), some (32, false)⟩, none),
  (⟨some 37, .fldA 0 (.tmp 8), some (32, false)⟩, none),
  (⟨some 38, .ld1 (.tmp 37), some (32, false)⟩, none),
  (⟨some 39, .arith .sub (.tmp 36) (.tmp 38), some (32, false)⟩, none),
  (⟨some 40, .arith .gtr (.tmp 34) (.tmp 39), some (32, false)⟩, none),
  (⟨some 41, .pick (.tmp 32) (.const (.bool true)) (.tmp 40), none⟩, none)]
def S28.r6 : List AOpr := [
  ⟨some 4, .mov (.const (.nilsl)), none⟩,
  ⟨some 5, .mov (.const (.int .i64 1)), none⟩]
def S28.r7 : List AOpr := [
  ⟨some 42, .mov (.tmp 6), none⟩,
  ⟨some 43, .len (.tmp 42), none⟩,
  ⟨some 44, .fldA 1 (.tmp 8), none⟩,
  ⟨some 45, .ld1 (.tmp 44), none⟩,
  ⟨some 46, .arith .sub (.tmp 43) (.tmp 45), none⟩,
  ⟨some 47, .fldA 2 (.tmp 8), none⟩,
  ⟨some 48, .ld1 (.tmp 47), none⟩,
  ⟨some 49, .len (.tmp 48), none⟩,
  ⟨some 50, .arith .add (.tmp 46) (.tmp 49), none⟩,
  ⟨some 51, .arith .gtr (.tmp 50) (.const (.int .i64 20000)), none⟩]
def S28.r8 : List AOpr := [
  ⟨some 4, .mov (.const (.nilsl)), none⟩,
  ⟨some 5, .mov (.const (.int .i64 2)), none⟩]
def S28.r9 : List (AOpr × Nat) := [
  (⟨some 52, .mov (.tmp 6), none⟩, 0),
  (⟨some 53, .fldA 0 (.tmp 8), none⟩, 0),
  (⟨some 54, .ld1 (.tmp 53), none⟩, 2),
  (⟨some 55, .fldA 0 (.tmp 8), none⟩, 0),
  (⟨some 56, .ld1 (.tmp 55), none⟩, 8),
  (⟨some 57, .fldA 1 (.tmp 8), none⟩, 0),
  (⟨some 58, .ld1 (.tmp 57), none⟩, 32),
  (⟨some 59, .arith .add (.tmp 56) (.tmp 58), none⟩, 120),
  (⟨some 60, .fldA 2 (.tmp 8), none⟩, 0),
  (⟨some 61, .ld1 (.tmp 60), none⟩, 256),
  (⟨some 62, .call (.const (.func (.func 59) [] [])) [.tmp 61], none⟩, 768),
  (⟨some 63, .call (.const (.func (.func 60) [] [])) [.tmp 52, .tmp 54, .tmp 59, .tmp 62], none⟩, 2047),
  (⟨some 6, .mov (.tmp 63), none⟩, 4095)]
def S28.r10 : List AOpr := [
  ⟨some 64, .arith .add (.tmp 13) (.const (.int .i64 1)), none⟩,
  ⟨some 13, .mov (.tmp 64), none⟩]
def S28.r11 : List AOpr := [
  ⟨some 65, .mov (.tmp 6), none⟩,
  ⟨some 4, .mov (.tmp 65), none⟩,
  ⟨some 5, .mov (.const (.int .i64 0)), none⟩]
def S28 : SFn := ⟨66, [.tmp 4, .tmp 5], .seq (.reg S28.r0) (.seq (.reg S28.r1) (.seq (.seq (.reg S28.r2) (.block 0 (.loop [6, 11, 12, 13] [4, 5, 6] (.seq (.reg S28.r3) (.seq (.cond (.tmp 14) (.skip) (.exit 0)) (.seq (.block 1 (.seq (.reg S28.r4) (.seq (.seq (.joinN [6, 8, 11, 12, 13, 41] (.regS S28.r5)) (.cond (.tmp 41) (.seq (.reg S28.r6) (.ret)) (.skip))) (.seq (.seq (.reg S28.r7) (.cond (.tmp 51) (.seq (.reg S28.r8) (.ret)) (.skip))) (.draw S28.r9))))) (.reg S28.r10))))))) (.seq (.reg S28.r11) (.ret))))⟩
theorem S28_ok : cFn Try.prog Try.f28 = some S28.erase := by kernel_rfl
def g28_s1 (cl : CL) (v6 v8 v11 v12 v13 v32 v34 v35 : AV) (h : AH) (k : List AV → AH → Prop) : Prop :=
  wg (gdv false v32) (fun k => wk (kLen h v35) k) h fun v36 h =>
  wg (gdv false v32) (fun k => wk (kFldA h 0 v8) k) h fun v37 h =>
  wg (gdv false v32) (fun k => wk (kLd1 h v37) k) h fun v38 h =>
  wg (gdv false v32) (fun k => wk (kArith h .sub v36 v38) k) h fun v39 h =>
  wg (gdv false v32) (fun k => wk (kArith h .gtr v34 v39) k) h fun v40 h =>
  wk (kPick h v32 (.bool true) v40) fun v41 h =>
  k [v6, v8, v11, v12, v13, v41] h
def g28_s2 (cl : CL) (v6 v8 v11 v12 v13 v25 v26 : AV) (h : AH) (k : List AV → AH → Prop) : Prop :=
  wg (gdv false v25) (fun k => wk (kLd1 h v26) k) h fun v27 h =>
  wg (gdv false v25) (fun k => k v6 h) h fun v28 h =>
  wg (gdv false v25) (fun k => wk (kLen h v28) k) h fun v29 h =>
  wg (gdv false v25) (fun k => wk (kArith h .gtr v27 v29) k) h fun v30 h =>
  wk (kPick h v25 (.bool true) v30) fun v31 h =>
  wsp v31 fun v32 =>
  wg (gdv false v32) (fun k => wk (kFldA h 1 v8) k) h fun v33 h =>
  wg (gdv false v32) (fun k => wk (kLd1 h v33) k) h fun v34 h =>
  wg (gdv false v32) (fun k => k v6 h) h fun v35 h =>
  g28_s1 cl (v6) (v8) (v11) (v12) (v13) (v32) (v34) (v35) h k
def g28_a1 (cl : CL) (v6 v8 v11 v12 v13 : AV) (h : AH) (k : List AV → AH → Prop) : Prop :=
  wk (kFldA h 0 v8) fun v17 h =>
  wk (kLd1 h v17) fun v18 h =>
  wk (kArith h .lss v18 (.int .i64 0)) fun v19 h =>
  wsp v19 fun v20 =>
  wg (gdv false v20) (fun k => wk (kFldA h 1 v8) k) h fun v21 h =>
  wg (gdv false v20) (fun k => wk (kLd1 h v21) k) h fun v22 h =>
  wg (gdv false v20) (fun k => wk (kArith h .lss v22 (.int .i64 0)) k) h fun v23 h =>
  wk (kPick h v20 (.bool true) v23) fun v24 h =>
  wsp v24 fun v25 =>
  wg (gdv false v25) (fun k => wk (kFldA h 0 v8) k) h fun v26 h =>
  g28_s2 cl (v6) (v8) (v11) (v12) (v13) (v25) (v26) h k
def g28_s3 (cl : CL) (c2 c4 c6 : Rec) (v6 v8 v11 v12 v13 v52 v54 v56 v58 : AV) (h : AH) (k : AX → List AV → List AV → AH → Prop) : Prop :=
  wdp h (kArith h .add v56 v58) .pure fun v59 c7 h =>
  wdp h (kFldA h 2 v8) .pure fun v60 c8 h =>
  wdp h (kLd1 h v60) (rdK (rdv v60)) fun v61 c9 h =>
  wdc cl (.func (.func 59) [] []) [v61] h fun v62 c10 h =>
  wdc cl (.func (.func 60) [] []) [v52, v54, v59, v62] h fun v63 c11 h =>
  wdp h (kMov h v63) .pure fun v6 c12 h =>
  recOk c2 c10 = true ∧ recOk c4 c10 = true ∧ recOk c6 c10 = true ∧ wk (kArith h .add v13 (.int .i64 1)) fun v64 h =>
  k .nrm [v6, v11, v12, v64] [.undef, .undef, v6] h
def g28_s4 (cl : CL) (v6 v8 v11 v12 v13 v50 : AV) (h : AH) (k : AX → List AV → List AV → AH → Prop) : Prop :=
  wk (kArith h .gtr v50 (.int .i64 20000)) fun v51 h =>
  wif v51 (
  k .ret [v6, v11, v12, v13] [(.nilsl), (.int .i64 2), v6] h) (
  wdr h 13 fun r h =>
  wdp h (kMov h v6) .pure fun v52 c0 h =>
  wdp h (kFldA h 0 v8) .pure fun v53 c1 h =>
  wdp h (kLd1 h v53) (rdK (rdv v53)) fun v54 c2 h =>
  wdp h (kFldA h 0 v8) .pure fun v55 c3 h =>
  wdp h (kLd1 h v55) (rdK (rdv v55)) fun v56 c4 h =>
  wdp h (kFldA h 1 v8) .pure fun v57 c5 h =>
  wdp h (kLd1 h v57) (rdK (rdv v57)) fun v58 c6 h =>
  g28_s3 cl c2 c4 c6 (v6) (v8) (v11) (v12) (v13) (v52) (v54) (v56) (v58) h k)
def g28_j2 (cl : CL) (v6 v8 v11 v12 v13 v41 : AV) (h : AH) (k : AX → List AV → List AV → AH → Prop) : Prop :=
  wif v41 (
  k .ret [v6, v11, v12, v13] [(.nilsl), (.int .i64 1), v6] h) (
  wk (kLen h v6) fun v43 h =>
  wk (kFldA h 1 v8) fun v44 h =>
  wk (kLd1 h v44) fun v45 h =>
  wk (kArith h .sub v43 v45) fun v46 h =>
  wk (kFldA h 2 v8) fun v47 h =>
  wk (kLd1 h v47) fun v48 h =>
  wk (kLen h v48) fun v49 h =>
  wk (kArith h .add v46 v49) fun v50 h =>
  g28_s4 cl (v6) (v8) (v11) (v12) (v13) (v50) h k)
def g28_l3 (cl : CL) (v6 v11 v12 v13 : AV) (h : AH) (k : AX → List AV → List AV → AH → Prop) : Prop :=
  wk (kArith h .lss v13 v12) fun v14 h =>
  wif v14 (
  wk (kIdxA h 3 v11 v13) fun v15 h =>
  wk (kLdn h 3 v15) fun v16 h =>
  wk (kNew h [.int .i64 0, .int .i64 0, .nilsl]) fun v8 h =>
  wk (kSt h 3 v8 v16) fun _ h =>
  wjoinN (g28_a1 cl (v6) (v8) (v11) (v12) (v13) h) fun vs h => g28_j2 cl (nthD vs 0) (nthD vs 1) (nthD vs 2) (nthD vs 3) (nthD vs 4) (nthD vs 5) h k) (
  k (.exit 0) [v6, v11, v12, v13] [.undef, .undef, v6] h)
def g28_c4 (cl : CL) (v6 : AV) (h : AH) (Q : AV → AH → Prop) : Prop :=
  Q (.tup [v6, (.int .i64 0)]) h
def g28_j5 (cl : CL) (x : AX) (v4 v5 v6 : AV) (h : AH) (Q : AV → AH → Prop) : Prop :=
  xs x (g28_c4 cl (v6) h Q) (fun j => cond (Nat.beq j 0) (g28_c4 cl (v6) h Q) (False)) (Q (.tup [v4, v5]) h)
def g28 (cl : CL) (v0 v1 : AV) (h : AH) (Q : AV → AH → Prop) : Prop :=
  wcall cl (.func (.func 59) [] []) [v0] h fun v10 h =>
  wk (kLen h v1) fun v12 h =>
  wloop (fun vs h k => g28_l3 cl (nthD vs 0) (nthD vs 1) (nthD vs 2) (nthD vs 3) h k) [v10, v1, v12, (.int .i64 0)] h fun x vs h => g28_j5 cl x (nthD vs 0) (nthD vs 1) (nthD vs 2) h Q
theorem g28_eq (cl : CL) (v0 v1 : AV) (h : AH) (Q : AV → AH → Prop) : wrun cl S28 [v0, v1] h Q = g28 cl v0 v1 h Q := by kernel_rfl
theorem C28 {cl : CL} (hcl : CLOk Try.prog cl) {v0 v1 : AV} {h : AH} {Q : AV → AH → Prop} (hg : g28 cl v0 v1 h Q) : CallsA Try.prog 28 [v0, v1] h Q := wfn_ok hcl (f := 28) (fn := Try.f28) (by kernel_rfl) S28_ok (by decide) (by kernel_rfl) (its_nil (by kernel_rfl)) (by rw [g28_eq]; exact hg)

/- widgetry/widgetryref24.Same -/
def S31.r0 : List AOpr := [
  ⟨some 4, .mov (.const (.bool false)), none⟩]
def S31.r1 : List AOpr := [
  ⟨some 6, .mov (.tmp 0), none⟩,
  ⟨some 7, .len (.tmp 6), none⟩,
  ⟨some 8, .mov (.tmp 1), none⟩,
  ⟨some 9, .len (.tmp 8), none⟩,
  ⟨some 10, .arith .neq (.tmp 7) (.tmp 9), none⟩]
def S31.r2 : List AOpr := [
  ⟨some 4, .mov (.const (.bool false)), none⟩]
def S31.r3 : List AOpr := [
  ⟨some 5, .mov (.const (.int .i64 0)), none⟩]
def S31.r4 : List AOpr := [
  ⟨some 11, .mov (.tmp 5), none⟩,
  ⟨some 12, .mov (.tmp 0), none⟩,
  ⟨some 13, .len (.tmp 12), none⟩,
  ⟨some 14, .arith .lss (.tmp 11) (.tmp 13), none⟩]
def S31.r5 : List (AOpr × Nat) := [
  (⟨some 17, .mov (.tmp 0), none⟩, 0),
  (⟨some 18, .mov (.tmp 5), none⟩, 0),
  (⟨some 19, .idxA 22 (.tmp 17) (.tmp 18), none⟩, 3),
  (⟨some 20, .ldn 22 (.tmp 19), none⟩, 7),
  (⟨some 21, .mov (.tmp 1), none⟩, 0),
  (⟨some 22, .mov (.tmp 5), none⟩, 0),
  (⟨some 23, .idxA 22 (.tmp 21) (.tmp 22), none⟩, 48),
  (⟨some 24, .ldn 22 (.tmp 23), none⟩, 112),
  (⟨some 25, .call (.const (.func (.func 12) [] [])) [.tmp 20, .tmp 24], none⟩, 255),
  (⟨some 26, .un .not (.tmp 25), none⟩, 511)]
def S31.r6 : List AOpr := [
  ⟨some 4, .mov (.const (.bool false)), none⟩]
def S31.r7 : List AOpr := [
  ⟨some 15, .mov (.tmp 5), none⟩,
  ⟨some 16, .arith .add (.tmp 15) (.const (.int .i64 1)), none⟩,
  ⟨some 5, .mov (.tmp 16), none⟩]
def S31.r8 : List AOpr := [
  ⟨some 4, .mov (.const (.bool true)), none⟩]
def S31 : SFn := ⟨27, [.tmp 4], .seq (.reg S31.r0) (.seq (.seq (.reg S31.r1) (.cond (.tmp 10) (.seq (.reg S31.r2) (.ret)) (.skip))) (.seq (.seq (.reg S31.r3) (.block 0 (.loop [0, 1, 5] [4] (.seq (.seq (.reg S31.r4) (.cond (.tmp 14) (.skip) (.exit 0))) (.seq (.block 1 (.seq (.draw S31.r5) (.cond (.tmp 26) (.seq (.reg S31.r6) (.ret)) (.skip)))) (.reg S31.r7)))))) (.seq (.reg S31.r8) (.ret))))⟩
theorem S31_ok : cFn Try.prog Try.f31 = some S31.erase := by kernel_rfl
def g31_s1 (cl : CL) (v0 v1 v5 v20 v21 v22 : AV) (h : AH) (k : AX → List AV → List AV → AH → Prop) : Prop :=
  wdp h (kIdxA h 22 v21 v22) .pure fun v23 c6 h =>
  wdp h (kLdn h 22 v23) (rdK (rdv v23)) fun v24 c7 h =>
  wdc cl (.func (.func 12) [] []) [v20, v24] h fun v25 c8 h =>
  wdp h (kUn h .not v25) .pure fun v26 c9 h =>
  wif v26 (
  k .ret [v0, v1, v5] [(.bool false)] h) (
  wk (kArith h .add v5 (.int .i64 1)) fun v16 h =>
  k .nrm [v0, v1, v16] [.undef] h)
def g31_l1 (cl : CL) (v0 v1 v5 : AV) (h : AH) (k : AX → List AV → List AV → AH → Prop) : Prop :=
  wk (kLen h v0) fun v13 h =>
  wk (kArith h .lss v5 v13) fun v14 h =>
  wif v14 (
  wdr h 10 fun r h =>
  wdp h (kMov h v0) .pure fun v17 c0 h =>
  wdp h (kMov h v5) .pure fun v18 c1 h =>
  wdp h (kIdxA h 22 v17 v18) .pure fun v19 c2 h =>
  wdp h (kLdn h 22 v19) (rdK (rdv v19)) fun v20 c3 h =>
  wdp h (kMov h v1) .pure fun v21 c4 h =>
  wdp h (kMov h v5) .pure fun v22 c5 h =>
  g31_s1 cl (v0) (v1) (v5) (v20) (v21) (v22) h k) (
  k (.exit 0) [v0, v1, v5] [.undef] h)
def g31_c2 (cl : CL) (h : AH) (Q : AV → AH → Prop) : Prop :=
  Q ((.bool true)) h
def g31_j3 (cl : CL) (x : AX) (v4 : AV) (h : AH) (Q : AV → AH → Prop) : Prop :=
  xs x (g31_c2 cl h Q) (fun j => cond (Nat.beq j 0) (g31_c2 cl h Q) (False)) (Q (v4) h)
def g31 (cl : CL) (v0 v1 : AV) (h : AH) (Q : AV → AH → Prop) : Prop :=
  wk (kLen h v0) fun v7 h =>
  wk (kLen h v1) fun v9 h =>
  wk (kArith h .neq v7 v9) fun v10 h =>
  wif v10 (
  Q ((.bool false)) h) (
  wloop (fun vs h k => g31_l1 cl (nthD vs 0) (nthD vs 1) (nthD vs 2) h k) [v0, v1, (.int .i64 0)] h fun x vs h => g31_j3 cl x (nthD vs 0) h Q)
theorem g31_eq (cl : CL) (v0 v1 : AV) (h : AH) (Q : AV → AH → Prop) : wrun cl S31 [v0, v1] h Q = g31 cl v0 v1 h Q := by kernel_rfl
theorem C31 {cl : CL} (hcl : CLOk Try.prog cl) {v0 v1 : AV} {h : AH} {Q : AV → AH → Prop} (hg : g31 cl v0 v1 h Q) : CallsA Try.prog 31 [v0, v1] h Q := wfn_ok hcl (f := 31) (fn := Try.f31) (by kernel_rfl) S31_ok (by decide) (by kernel_rfl) (its_nil (by kernel_rfl)) (by rw [g31_eq]; exact hg)

/- widgetry/widgetryref24.Apply -/
def S32.r0 : List AOpr := [
  ⟨some 4, .mov (.const (.nilsl)), none⟩,
  ⟨some 5, .mov (.const (.int .i64 0)), none⟩]
def S32.r1 : List AOpr := [
  ⟨some 6, .mov (.const (.int .i64 0)), none⟩]
def S32.r2 : List AOpr := [
  ⟨some 8, .mov (.tmp 6), none⟩,
  ⟨some 9, .mov (.tmp 1), none⟩,
  ⟨some 10, .len (.tmp 9), none⟩,
  ⟨some 11, .arith .lss (.tmp 8) (.tmp 10), none⟩]
def S32.r3 : List AOpr := [
  ⟨some 14, .mov (.tmp 1), none⟩,
  ⟨some 15, .mov (.tmp 6), none⟩,
  ⟨some 16, .idxA 3 (.tmp 14) (.tmp 15), none⟩,
  ⟨some 17, .ldn 3 (.tmp 16), none⟩,
  ⟨some 7, .new [.int .i64 0, .int .i64 0, .nilsl], none⟩,
  ⟨none, .st 3 (.tmp 7) (.tmp 17), none⟩]
def S32.r4 : List (AOpr × Option Nat) := [
  (⟨some 18, .fldA 0 (.tmp 7), none⟩, none),
  (⟨some 19, .ld1 (.tmp 18), none⟩, none),
  (⟨some 20, .arith .lss (.tmp 19) (.const (.int .i64 0)), none⟩, none),
  (⟨some 21, .mov (.tmp 20), none⟩, none),
  (⟨some 22, .fldA 1 (.tmp 7), some (21, false)⟩, some 21),
  (⟨some 23, .ld1 (.tmp 22), some (21, false)⟩, none),
  (⟨some 24, .arith .lss (.tmp 23) (.const (.int .i64 0)), some (21, false)⟩, none),
  (⟨some 25, .pick (.tmp 21) (.const (.bool true)) (.tmp 24), none⟩, none),
  (⟨some 26, .mov (.tmp 25), none⟩, none),
  (⟨some 27, .fldA 0 (.tmp 7), some (26, false)⟩, some 26),
  (⟨some 28, .ld1 (.tmp 27), some (26, false)⟩, none),
  (⟨some 29, .mov (.tmp 0), some (26, false)⟩, none),
  (⟨some 30, .len (.tmp 29), some (26, false)⟩, none),
  (⟨some 31, .arith .gtr (.tmp 28) (.tmp 30), some (26, false)⟩, none),
  (⟨some 32, .pick (.tmp 26) (.const (.bool true)) (.tmp 31), none⟩, none),
  (⟨some 33, .mov (.tmp 32), none⟩, none),
  (⟨some 34, .fldA 1 (.tmp 7), some (33, false)⟩, some 33),
  (⟨some 35, .ld1 (.tmp 34), some (33, false)⟩, none),
  (⟨some 36, .mov (.tmp 0), some (33, false)⟩, none),
  (⟨some 37, .len (.tmp 36), some (33, false)⟩, none),
  (⟨some 38, .fldA 0 (.tmp 7), some (33, false)⟩, none),
  (⟨some 39, .ld1 (.tmp 38), some (33, false)⟩, none),
  (⟨some 40, .arith .sub (.tmp 37) (.tmp 39), some (33, false)⟩, none),
  (⟨some 41, .arith .gtr (.tmp 35) (.tmp 40), some (33, false)⟩, none),
  (⟨some 42, .pick (.tmp 33) (.const (.bool true)) (.tmp 41), none⟩, none)]
def S32.r5 : List AOpr := [
  ⟨some 4, .mov (.const (.nilsl)), none⟩,
  ⟨some 5, .mov (.const (.int .i64 1)), none⟩]
def S32.r6 : List AOpr := [
  ⟨some 43, .mov (.tmp 0), none⟩,
  ⟨some 44, .len (.tmp 43), none⟩,
  ⟨some 45, .fldA 1 (.tmp 7), none⟩,
  ⟨some 46, .ld1 (.tmp 45), none⟩,
  ⟨some 47, .arith .sub (.tmp 44) (.tmp 46), none⟩,
  ⟨some 48, .fldA 2 (.tmp 7), none⟩,
  ⟨some 49, .ld1 (.tmp 48), none⟩,
  ⟨some 50, .len (.tmp 49), none⟩,
  ⟨some 51, .arith .add (.tmp 47) (.tmp 50), none⟩,
  ⟨some 52, .arith .gtr (.tmp 51) (.const (.int .i64 20000)), none⟩]
def S32.r7 : List AOpr := [
  ⟨some 4, .mov (.const (.nilsl)), none⟩,
  ⟨some 5, .mov (.const (.int .i64 2)), none⟩]
def S32.r8 : List (AOpr × Nat) := [
  (⟨some 53, .mov (.tmp 0), none⟩, 0),
  (⟨some 54, .fldA 0 (.tmp 7), none⟩, 0),
  (⟨some 55, .ld1 (.tmp 54), none⟩, 2),
  (⟨some 56, .sl 22 (.tmp 53) none (some (.tmp 55)) none, none⟩, 7),
  (⟨some 57, .app 22 200 (.const (.nilsl)) (.tmp 56), none⟩, 15),
  (⟨some 58, .fldA 2 (.tmp 7), none⟩, 0),
  (⟨some 59, .ld1 (.tmp 58), none⟩, 32),
  (⟨some 60, .app 22 200 (.tmp 57) (.tmp 59), none⟩, 127),
  (⟨some 61, .mov (.tmp 0), none⟩, 0),
  (⟨some 62, .fldA 0 (.tmp 7), none⟩, 0),
  (⟨some 63, .ld1 (.tmp 62), none⟩, 512),
  (⟨some 64, .fldA 1 (.tmp 7), none⟩, 0),
  (⟨some 65, .ld1 (.tmp 64), none⟩, 2048),
  (⟨some 66, .arith .add (.tmp 63) (.tmp 65), none⟩, 7680),
  (⟨some 67, .sl 22 (.tmp 61) (some (.tmp 66)) none none, none⟩, 16128),
  (⟨some 68, .app 22 200 (.tmp 60) (.tmp 67), none⟩, 32767),
  (⟨some 0, .mov (.tmp 68), none⟩, 65535)]
def S32.r9 : List AOpr := [
  ⟨some 12, .mov (.tmp 6), none⟩,
  ⟨some 13, .arith .add (.tmp 12) (.const (.int .i64 1)), none⟩,
  ⟨some 6, .mov (.tmp 13), none⟩]
def S32.r10 : List AOpr := [
  ⟨some 69, .mov (.tmp 0), none⟩,
  ⟨some 4, .mov (.tmp 69), none⟩,
  ⟨some 5, .mov (.const (.int .i64 0)), none⟩]
def S32 : SFn := ⟨70, [.tmp 4, .tmp 5], .seq (.reg S32.r0) (.seq (.seq (.reg S32.r1) (.block 0 (.loop [0, 1, 6] [0, 4, 5] (.seq (.seq (.reg S32.r2) (.cond (.tmp 11) (.skip) (.exit 0))) (.seq (.block 1 (.seq (.reg S32.r3) (.seq (.seq (.joinN [0, 1, 6, 7, 42] (.regS S32.r4)) (.cond (.tmp 42) (.seq (.reg S32.r5) (.ret)) (.skip))) (.seq (.seq (.reg S32.r6) (.cond (.tmp 52) (.seq (.reg S32.r7) (.ret)) (.skip))) (.draw S32.r8))))) (.reg S32.r9)))))) (.seq (.reg S32.r10) (.ret)))⟩
theorem S32_ok : cFn Try.prog Try.f32 = some S32.erase := by kernel_rfl
def g32_s1 (cl : CL) (v0 v1 v6 v7 v33 v35 v36 : AV) (h : AH) (k : List AV → AH → Prop) : Prop :=
  wg (gdv false v33) (fun k => wk (kLen h v36) k) h fun v37 h =>
  wg (gdv false v33) (fun k => wk (kFldA h 0 v7) k) h fun v38 h =>
  wg (gdv false v33) (fun k => wk (kLd1 h v38) k) h fun v39 h =>
  wg (gdv false v33) (fun k => wk (kArith h .sub v37 v39) k) h fun v40 h =>
  wg (gdv false v33) (fun k => wk (kArith h .gtr v35 v40) k) h fun v41 h =>
  wk (kPick h v33 (.bool true) v41) fun v42 h =>
  k [v0, v1, v6, v7, v42] h
def g32_s2 (cl : CL) (v0 v1 v6 v7 v26 v27 : AV) (h : AH) (k : List AV → AH → Prop) : Prop :=
  wg (gdv false v26) (fun k => wk (kLd1 h v27) k) h fun v28 h =>
  wg (gdv false v26) (fun k => k v0 h) h fun v29 h =>
  wg (gdv false v26) (fun k => wk (kLen h v29) k) h fun v30 h =>
  wg (gdv false v26) (fun k => wk (kArith h .gtr v28 v30) k) h fun v31 h =>
  wk (kPick h v26 (.bool true) v31) fun v32 h =>
  wsp v32 fun v33 =>
  wg (gdv false v33) (fun k => wk (kFldA h 1 v7) k) h fun v34 h =>
  wg (gdv false v33) (fun k => wk (kLd1 h v34) k) h fun v35 h =>
  wg (gdv false v33) (fun k => k v0 h) h fun v36 h =>
  g32_s1 cl (v0) (v1) (v6) (v7) (v33) (v35) (v36) h k
def g32_a1 (cl : CL) (v0 v1 v6 v7 : AV) (h : AH) (k : List AV → AH → Prop) : Prop :=
  wk (kFldA h 0 v7) fun v18 h =>
  wk (kLd1 h v18) fun v19 h =>
  wk (kArith h .lss v19 (.int .i64 0)) fun v20 h =>
  wsp v20 fun v21 =>
  wg (gdv false v21) (fun k => wk (kFldA h 1 v7) k) h fun v22 h =>
  wg (gdv false v21) (fun k => wk (kLd1 h v22) k) h fun v23 h =>
  wg (gdv false v21) (fun k => wk (kArith h .lss v23 (.int .i64 0)) k) h fun v24 h =>
  wk (kPick h v21 (.bool true) v24) fun v25 h =>
  wsp v25 fun v26 =>
  wg (gdv false v26) (fun k => wk (kFldA h 0 v7) k) h fun v27 h =>
  g32_s2 cl (v0) (v1) (v6) (v7) (v26) (v27) h k
def g32_s3 (cl : CL) (c4 c6 c7 c10 c12 : Rec) (v0 v1 v6 v60 v67 : AV) (h : AH) (k : AX → List AV → List AV → AH → Prop) : Prop :=
  wde h (kApp h 22 200 v60 v67) fun v68 c15 h =>
  wdp h (kMov h v68) .pure fun v0 c16 h =>
  recOk c4 c6 = true ∧ recOk c4 c10 = true ∧ recOk c7 c10 = true ∧ recOk c4 c12 = true ∧ recOk c7 c12 = true ∧ wk (kArith h .add v6 (.int .i64 1)) fun v13 h =>
  k .nrm [v0, v1, v13] [v0, .undef, .undef] h
def g32_s4 (cl : CL) (c4 c6 : Rec) (v0 v1 v6 v7 v57 v59 : AV) (h : AH) (k : AX → List AV → List AV → AH → Prop) : Prop :=
  wde h (kApp h 22 200 v57 v59) fun v60 c7 h =>
  wdp h (kMov h v0) .pure fun v61 c8 h =>
  wdp h (kFldA h 0 v7) .pure fun v62 c9 h =>
  wdp h (kLd1 h v62) (rdK (rdv v62)) fun v63 c10 h =>
  wdp h (kFldA h 1 v7) .pure fun v64 c11 h =>
  wdp h (kLd1 h v64) (rdK (rdv v64)) fun v65 c12 h =>
  wdp h (kArith h .add v63 v65) .pure fun v66 c13 h =>
  wdp h (kSl h 22 v61 (some v66) none none) .pure fun v67 c14 h =>
  g32_s3 cl c4 c6 c7 c10 c12 (v0) (v1) (v6) (v60) (v67) h k
def g32_s5 (cl : CL) (v0 v1 v6 v7 v51 : AV) (h : AH) (k : AX → List AV → List AV → AH → Prop) : Prop :=
  wk (kArith h .gtr v51 (.int .i64 20000)) fun v52 h =>
  wif v52 (
  k .ret [v0, v1, v6] [v0, (.nilsl), (.int .i64 2)] h) (
  wdr h 17 fun r h =>
  wdp h (kMov h v0) .pure fun v53 c0 h =>
  wdp h (kFldA h 0 v7) .pure fun v54 c1 h =>
  wdp h (kLd1 h v54) (rdK (rdv v54)) fun v55 c2 h =>
  wdp h (kSl h 22 v53 none (some v55) none) .pure fun v56 c3 h =>
  wde h (kApp h 22 200 (.nilsl) v56) fun v57 c4 h =>
  wdp h (kFldA h 2 v7) .pure fun v58 c5 h =>
  wdp h (kLd1 h v58) (rdK (rdv v58)) fun v59 c6 h =>
  g32_s4 cl c4 c6 (v0) (v1) (v6) (v7) (v57) (v59) h k)
def g32_j2 (cl : CL) (v0 v1 v6 v7 v42 : AV) (h : AH) (k : AX → List AV → List AV → AH → Prop) : Prop :=
  wif v42 (
  k .ret [v0, v1, v6] [v0, (.nilsl), (.int .i64 1)] h) (
  wk (kLen h v0) fun v44 h =>
  wk (kFldA h 1 v7) fun v45 h =>
  wk (kLd1 h v45) fun v46 h =>
  wk (kArith h .sub v44 v46) fun v47 h =>
  wk (kFldA h 2 v7) fun v48 h =>
  wk (kLd1 h v48) fun v49 h =>
  wk (kLen h v49) fun v50 h =>
  wk (kArith h .add v47 v50) fun v51 h =>
  g32_s5 cl (v0) (v1) (v6) (v7) (v51) h k)
def g32_l3 (cl : CL) (v0 v1 v6 : AV) (h : AH) (k : AX → List AV → List AV → AH → Prop) : Prop :=
  wk (kLen h v1) fun v10 h =>
  wk (kArith h .lss v6 v10) fun v11 h =>
  wif v11 (
  wk (kIdxA h 3 v1 v6) fun v16 h =>
  wk (kLdn h 3 v16) fun v17 h =>
  wk (kNew h [.int .i64 0, .int .i64 0, .nilsl]) fun v7 h =>
  wk (kSt h 3 v7 v17) fun _ h =>
  wjoinN (g32_a1 cl (v0) (v1) (v6) (v7) h) fun vs h => g32_j2 cl (nthD vs 0) (nthD vs 1) (nthD vs 2) (nthD vs 3) (nthD vs 4) h k) (
  k (.exit 0) [v0, v1, v6] [v0, .undef, .undef] h)
def g32_c4 (cl : CL) (v0 : AV) (h : AH) (Q : AV → AH → Prop) : Prop :=
  Q (.tup [v0, (.int .i64 0)]) h
def g32_j5 (cl : CL) (x : AX) (v0 v4 v5 : AV) (h : AH) (Q : AV → AH → Prop) : Prop :=
  xs x (g32_c4 cl (v0) h Q) (fun j => cond (Nat.beq j 0) (g32_c4 cl (v0) h Q) (False)) (Q (.tup [v4, v5]) h)
def g32 (cl : CL) (v0 v1 : AV) (h : AH) (Q : AV → AH → Prop) : Prop :=
  wloop (fun vs h k => g32_l3 cl (nthD vs 0) (nthD vs 1) (nthD vs 2) h k) [v0, v1, (.int .i64 0)] h fun x vs h => g32_j5 cl x (nthD vs 0) (nthD vs 1) (nthD vs 2) h Q
theorem g32_eq (cl : CL) (v0 v1 : AV) (h : AH) (Q : AV → AH → Prop) : wrun cl S32 [v0, v1] h Q = g32 cl v0 v1 h Q := by kernel_rfl
theorem C32 {cl : CL} (hcl : CLOk Try.prog cl) {v0 v1 : AV} {h : AH} {Q : AV → AH → Prop} (hg : g32 cl v0 v1 h Q) : CallsA Try.prog 32 [v0, v1] h Q := wfn_ok hcl (f := 32) (fn := Try.f32) (by kernel_rfl) S32_ok (by decide) (by kernel_rfl) (its_nil (by kernel_rfl)) (by rw [g32_eq]; exact hg)

/- slices.Equal[[]widgetry/api.Glyph,widgetry/api.Glyph] -/
def S33.r0 : List AOpr := [
  ⟨some 4, .mov (.const (.bool false)), none⟩]
def S33.r1 : List AOpr := [
  ⟨some 6, .mov (.tmp 0), none⟩,
  ⟨some 7, .len (.tmp 6), none⟩,
  ⟨some 8, .mov (.tmp 1), none⟩,
  ⟨some 9, .len (.tmp 8), none⟩,
  ⟨some 10, .arith .neq (.tmp 7) (.tmp 9), none⟩]
def S33.r2 : List AOpr := [
  ⟨some 4, .mov (.const (.bool false)), none⟩]
def S33.r3 : List AOpr := [
  ⟨some 11, .mov (.tmp 0), none⟩,
  ⟨some 12, .len (.tmp 11), none⟩,
  ⟨some 13, .mov (.const (.int .i64 0)), none⟩]
def S33.r4 : List AOpr := [
  ⟨some 14, .arith .lss (.tmp 13) (.tmp 12), none⟩]
def S33.r5 : List AOpr := [
  ⟨some 15, .mov (.tmp 13), none⟩,
  ⟨some 5, .mov (.tmp 15), none⟩]
def S33.r6 : List (AOpr × Nat) := [
  (⟨some 16, .mov (.tmp 0), none⟩, 0),
  (⟨some 17, .mov (.tmp 5), none⟩, 0),
  (⟨some 18, .idxA 8 (.tmp 16) (.tmp 17), none⟩, 3),
  (⟨some 19, .ldn 8 (.tmp 18), none⟩, 7),
  (⟨some 20, .mov (.tmp 1), none⟩, 0),
  (⟨some 21, .mov (.tmp 5), none⟩, 0),
  (⟨some 22, .idxA 8 (.tmp 20) (.tmp 21), none⟩, 48),
  (⟨some 23, .ldn 8 (.tmp 22), none⟩, 112),
  (⟨some 24, .eqf true [.int .i64, .int .i64, .int .i64, .int .i64, .int .i64, .int .i64, .int .i64, .int .i64] (.tmp 19) (.tmp 23), none⟩, 255)]
def S33.r7 : List AOpr := [
  ⟨some 4, .mov (.const (.bool false)), none⟩]
def S33.r8 : List AOpr := [
  ⟨some 25, .arith .add (.tmp 13) (.const (.int .i64 1)), none⟩,
  ⟨some 13, .mov (.tmp 25), none⟩]
def S33.r9 : List AOpr := [
  ⟨some 4, .mov (.const (.bool true)), none⟩]
def S33 : SFn := ⟨26, [.tmp 4], .seq (.reg S33.r0) (.seq (.seq (.reg S33.r1) (.cond (.tmp 10) (.seq (.reg S33.r2) (.ret)) (.skip))) (.seq (.seq (.reg S33.r3) (.block 0 (.loop [0, 1, 12, 13] [4] (.seq (.reg S33.r4) (.seq (.cond (.tmp 14) (.skip) (.exit 0)) (.seq (.block 1 (.seq (.reg S33.r5) (.seq (.draw S33.r6) (.cond (.tmp 24) (.seq (.reg S33.r7) (.ret)) (.skip))))) (.reg S33.r8))))))) (.seq (.reg S33.r9) (.ret))))⟩
theorem S33_ok : cFn Try.prog Try.f33 = some S33.erase := by kernel_rfl
def g33_s1 (cl : CL) (v0 v1 v12 v13 v19 v22 : AV) (h : AH) (k : AX → List AV → List AV → AH → Prop) : Prop :=
  wdp h (kLdn h 8 v22) (rdK (rdv v22)) fun v23 c7 h =>
  wdp h (kEqf h true [.int .i64, .int .i64, .int .i64, .int .i64, .int .i64, .int .i64, .int .i64, .int .i64] v19 v23) .pure fun v24 c8 h =>
  wif v24 (
  k .ret [v0, v1, v12, v13] [(.bool false)] h) (
  wk (kArith h .add v13 (.int .i64 1)) fun v25 h =>
  k .nrm [v0, v1, v12, v25] [.undef] h)
def g33_l1 (cl : CL) (v0 v1 v12 v13 : AV) (h : AH) (k : AX → List AV → List AV → AH → Prop) : Prop :=
  wk (kArith h .lss v13 v12) fun v14 h =>
  wif v14 (
  wdr h 9 fun r h =>
  wdp h (kMov h v0) .pure fun v16 c0 h =>
  wdp h (kMov h v13) .pure fun v17 c1 h =>
  wdp h (kIdxA h 8 v16 v17) .pure fun v18 c2 h =>
  wdp h (kLdn h 8 v18) (rdK (rdv v18)) fun v19 c3 h =>
  wdp h (kMov h v1) .pure fun v20 c4 h =>
  wdp h (kMov h v13) .pure fun v21 c5 h =>
  wdp h (kIdxA h 8 v20 v21) .pure fun v22 c6 h =>
  g33_s1 cl (v0) (v1) (v12) (v13) (v19) (v22) h k) (
  k (.exit 0) [v0, v1, v12, v13] [.undef] h)
def g33_c2 (cl : CL) (h : AH) (Q : AV → AH → Prop) : Prop :=
  Q ((.bool true)) h
def g33_j3 (cl : CL) (x : AX) (v4 : AV) (h : AH) (Q : AV → AH → Prop) : Prop :=
  xs x (g33_c2 cl h Q) (fun j => cond (Nat.beq j 0) (g33_c2 cl h Q) (False)) (Q (v4) h)
def g33 (cl : CL) (v0 v1 : AV) (h : AH) (Q : AV → AH → Prop) : Prop :=
  wk (kLen h v0) fun v7 h =>
  wk (kLen h v1) fun v9 h =>
  wk (kArith h .neq v7 v9) fun v10 h =>
  wif v10 (
  Q ((.bool false)) h) (
  wk (kLen h v0) fun v12 h =>
  wloop (fun vs h k => g33_l1 cl (nthD vs 0) (nthD vs 1) (nthD vs 2) (nthD vs 3) h k) [v0, v1, v12, (.int .i64 0)] h fun x vs h => g33_j3 cl x (nthD vs 0) h Q)
theorem g33_eq (cl : CL) (v0 v1 : AV) (h : AH) (Q : AV → AH → Prop) : wrun cl S33 [v0, v1] h Q = g33 cl v0 v1 h Q := by kernel_rfl
theorem C33 {cl : CL} (hcl : CLOk Try.prog cl) {v0 v1 : AV} {h : AH} {Q : AV → AH → Prop} (hg : g33 cl v0 v1 h Q) : CallsA Try.prog 33 [v0, v1] h Q := wfn_ok hcl (f := 33) (fn := Try.f33) (by kernel_rfl) S33_ok (by decide) (by kernel_rfl) (its_nil (by kernel_rfl)) (by rw [g33_eq]; exact hg)

/- widgetry/widgetryref09.EqualLine -/
def S34.r0 : List AOpr := [
  ⟨some 2, .box (.tmp 0), none⟩,
  ⟨some 3, .box (.tmp 1), none⟩,
  ⟨some 4, .mov (.const (.bool false)), none⟩]
def S34.r1 : List (AOpr × Option Nat) := [
  (⟨some 6, .fldA 0 (.tmp 2), none⟩, none),
  (⟨some 7, .ld1 (.tmp 6), none⟩, none),
  (⟨some 8, .fldA 0 (.tmp 3), none⟩, none),
  (⟨some 9, .ld1 (.tmp 8), none⟩, none),
  (⟨some 10, .arith .neq (.tmp 7) (.tmp 9), none⟩, none),
  (⟨some 11, .mov (.tmp 10), none⟩, none),
  (⟨some 12, .fldA 1 (.tmp 2), some (11, false)⟩, some 11),
  (⟨some 13, .ld1 (.tmp 12), some (11, false)⟩, none),
  (⟨some 14, .fldA 1 (.tmp 3), some (11, false)⟩, none),
  (⟨some 15, .ld1 (.tmp 14), some (11, false)⟩, none),
  (⟨some 16, .arith .neq (.tmp 13) (.tmp 15), some (11, false)⟩, none),
  (⟨some 17, .pick (.tmp 11) (.const (.bool true)) (.tmp 16), none⟩, none),
  (⟨some 18, .mov (.tmp 17), none⟩, none),
  (⟨some 19, .fldA 2 (.tmp 2), some (18, false)⟩, some 18),
  (⟨some 20, .ld1 (.tmp 19), some (18, false)⟩, none),
  (⟨some 21, .fldA 2 (.tmp 3), some (18, false)⟩, none),
  (⟨some 22, .ld1 (.tmp 21), some (18, false)⟩, none),
  (⟨some 23, .arith .neq (.tmp 20) (.tmp 22), some (18, false)⟩, none),
  (⟨some 24, .pick (.tmp 18) (.const (.bool true)) (.tmp 23), none⟩, none),
  (⟨some 25, .mov (.tmp 24), none⟩, none),
  (⟨some 26, .fldA 3 (.tmp 2), some (25, false)⟩, some 25),
  (⟨some 27, .ld1 (.tmp 26), some (25, false)⟩, none),
  (⟨some 28, .fldA 3 (.tmp 3), some (25, false)⟩, none),
  (⟨some 29, .ld1 (.tmp 28), some (25, false)⟩, none),
  (⟨some 30, .arith .neq (.tmp 27) (.tmp 29), some (25, false)⟩, none),
  (⟨some 31, .pick (.tmp 25) (.const (.bool true)) (.tmp 30), none⟩, none),
  (⟨some 32, .mov (.tmp 31), none⟩, none),
  (⟨some 33, .fldA 4 (.tmp 2), some (32, false)⟩, some 32),
  (⟨some 34, .ld1 (.tmp 33), some (32, false)⟩, none),
  (⟨some 35, .fldA 4 (.tmp 3), some (32, false)⟩, none),
  (⟨some 36, .ld1 (.tmp 35), some (32, false)⟩, none),
  (⟨some 37, .arith .neq (.tmp 34) (.tmp 36), some (32, false)⟩, none),
  (⟨some 38, .pick (.tmp 32) (.const (.bool true)) (.tmp 37), none⟩, none),
  (⟨some 39, .mov (.tmp 38), none⟩, none),
  (⟨some 40, .fldA 5 (.tmp 2), some (39, false)⟩, some 39),
  (⟨some 41, .ld1 (.tmp 40), some (39, false)⟩, none),
  (⟨some 42, .fldA 5 (.tmp 3), some (39, false)⟩, none),
  (⟨some 43, .ld1 (.tmp 42), some (39, false)⟩, none),
  (⟨some 44, .arith .neq (.tmp 41) (.tmp 43), some (39, false)⟩, none),
  (⟨some 45, .pick (.tmp 39) (.const (.bool true)) (.tmp 44), none⟩, none),
  (⟨some 46, .mov (.tmp 45), none⟩, none),
  (⟨some 47, .fldA 6 (.tmp 2), some (46, false)⟩, some 46),
  (⟨some 48, .ld1 (.tmp 47), some (46, false)⟩, none),
  (⟨some 49, .fldA 6 (.tmp 3), some (46, false)⟩, none),
  (⟨some 50, .ld1 (.tmp 49), some (46, false)⟩, none),
  (⟨some 51, .arith .neq (.tmp 48) (.tmp 50), some (46, false)⟩, none),
  (⟨some 52, .pick (.tmp 46) (.const (.bool true)) (.tmp 51), none⟩, none),
  (⟨some 53, .mov (.tmp 52), none⟩, none),
  (⟨some 54, .fldA 7 (.tmp 2), some (53, false)⟩, some 53),
  (⟨some 55, .ld1 (.tmp 54), some (53, false)⟩, none),
  (⟨some 56, .fldA 7 (.tmp 3), some (53, false)⟩, none),
  (⟨some 57, .ld1 (.tmp 56), some (53, false)⟩, none),
  (⟨some 58, .arith .neq (.tmp 55) (.tmp 57), some (53, false)⟩, none),
  (⟨some 59, .pick (.tmp 53) (.const (.bool true)) (.tmp 58), none⟩, none),
  (⟨some 60, .mov (.tmp 59), none⟩, none),
  (⟨some 61, .fldA 8 (.tmp 2), some (60, false)⟩, some 60),
  (⟨some 62, .ld1 (.tmp 61), some (60, false)⟩, none),
  (⟨some 63, .fldA 8 (.tmp 3), some (60, false)⟩, none),
  (⟨some 64, .ld1 (.tmp 63), some (60, false)⟩, none),
  (⟨some 65, .arith .neq (.tmp 62) (.tmp 64), some (60, false)⟩, none),
  (⟨some 66, .pick (.tmp 60) (.const (.bool true)) (.tmp 65), none⟩, none),
  (⟨some 67, .mov (.tmp 66), none⟩, none),
  (⟨some 68, .fldA 9 (.tmp 2), some (67, false)⟩, some 67),
  (⟨some 69, .ld1 (.tmp 68), some (67, false)⟩, none),
  (⟨some 70, .len (.tmp 69), some (67, false)⟩, none),
  (⟨some 71, .fldA 9 (.tmp 3), some (67, false)⟩, none),
  (⟨some 72, .ld1 (.tmp 71), some (67, false)⟩, none),
  (⟨some 73, .len (.tmp 72), some (67, false)⟩, none),
  (⟨some 74, .arith .neq (.tmp 70) (.tmp 73), some (67, false)⟩, none),
  (⟨some 75, .pick (.tmp 67) (.const (.bool true)) (.tmp 74), none⟩, none)]
def S34.r2 : List AOpr := [
  ⟨some 4, .mov (.const (.bool false)), none⟩]
def S34.r3 : List AOpr := [
  ⟨some 5, .mov (.const (.int .i64 0)), none⟩]
def S34.r4 : List AOpr := [
  ⟨some 76, .mov (.tmp 5), none⟩,
  ⟨some 77, .fldA 9 (.tmp 2), none⟩,
  ⟨some 78, .ld1 (.tmp 77), none⟩,
  ⟨some 79, .len (.tmp 78), none⟩,
  ⟨some 80, .arith .lss (.tmp 76) (.tmp 79), none⟩]
def S34.r5 : List (AOpr × Nat) := [
  (⟨some 83, .fldA 9 (.tmp 2), none⟩, 0),
  (⟨some 84, .ld1 (.tmp 83), none⟩, 1),
  (⟨some 85, .mov (.tmp 5), none⟩, 0),
  (⟨some 86, .idxA 8 (.tmp 84) (.tmp 85), none⟩, 7),
  (⟨some 87, .ldn 8 (.tmp 86), none⟩, 15),
  (⟨some 88, .fldA 9 (.tmp 3), none⟩, 0),
  (⟨some 89, .ld1 (.tmp 88), none⟩, 32),
  (⟨some 90, .mov (.tmp 5), none⟩, 0),
  (⟨some 91, .idxA 8 (.tmp 89) (.tmp 90), none⟩, 224),
  (⟨some 92, .ldn 8 (.tmp 91), none⟩, 480),
  (⟨some 93, .eqf true [.int .i64, .int .i64, .int .i64, .int .i64, .int .i64, .int .i64, .int .i64, .int .i64] (.tmp 87) (.tmp 92), none⟩, 1023)]
def S34.r6 : List AOpr := [
  ⟨some 4, .mov (.const (.bool false)), none⟩]
def S34.r7 : List AOpr := [
  ⟨some 81, .mov (.tmp 5), none⟩,
  ⟨some 82, .arith .add (.tmp 81) (.const (.int .i64 1)), none⟩,
  ⟨some 5, .mov (.tmp 82), none⟩]
def S34.r8 : List AOpr := [
  ⟨some 4, .mov (.const (.bool true)), none⟩]
def S34 : SFn := ⟨94, [.tmp 4], .seq (.reg S34.r0) (.seq (.seq (.joinN [2, 3, 75] (.regS S34.r1)) (.cond (.tmp 75) (.seq (.reg S34.r2) (.ret)) (.skip))) (.seq (.seq (.reg S34.r3) (.block 0 (.loop [2, 3, 5] [4] (.seq (.seq (.reg S34.r4) (.cond (.tmp 80) (.skip) (.exit 0))) (.seq (.block 1 (.seq (.draw S34.r5) (.cond (.tmp 93) (.seq (.reg S34.r6) (.ret)) (.skip)))) (.reg S34.r7)))))) (.seq (.reg S34.r8) (.ret))))⟩
theorem S34_ok : cFn Try.prog Try.f34 = some S34.erase := by kernel_rfl
def g34_s1 (cl : CL) (v2 v3 v67 v70 : AV) (h : AH) (k : List AV → AH → Prop) : Prop :=
  wg (gdv false v67) (fun k => wk (kFldA h 9 v3) k) h fun v71 h =>
  wg (gdv false v67) (fun k => wk (kLd1 h v71) k) h fun v72 h =>
  wg (gdv false v67) (fun k => wk (kLen h v72) k) h fun v73 h =>
  wg (gdv false v67) (fun k => wk (kArith h .neq v70 v73) k) h fun v74 h =>
  wk (kPick h v67 (.bool true) v74) fun v75 h =>
  k [v2, v3, v75] h
def g34_s2 (cl : CL) (v2 v3 v60 v61 : AV) (h : AH) (k : List AV → AH → Prop) : Prop :=
  wg (gdv false v60) (fun k => wk (kLd1 h v61) k) h fun v62 h =>
  wg (gdv false v60) (fun k => wk (kFldA h 8 v3) k) h fun v63 h =>
  wg (gdv false v60) (fun k => wk (kLd1 h v63) k) h fun v64 h =>
  wg (gdv false v60) (fun k => wk (kArith h .neq v62 v64) k) h fun v65 h =>
  wk (kPick h v60 (.bool true) v65) fun v66 h =>
  wsp v66 fun v67 =>
  wg (gdv false v67) (fun k => wk (kFldA h 9 v2) k) h fun v68 h =>
  wg (gdv false v67) (fun k => wk (kLd1 h v68) k) h fun v69 h =>
  wg (gdv false v67) (fun k => wk (kLen h v69) k) h fun v70 h =>
  g34_s1 cl (v2) (v3) (v67) (v70) h k
def g34_s3 (cl : CL) (v2 v3 v46 v51 : AV) (h : AH) (k : List AV → AH → Prop) : Prop :=
  wk (kPick h v46 (.bool true) v51) fun v52 h =>
  wsp v52 fun v53 =>
  wg (gdv false v53) (fun k => wk (kFldA h 7 v2) k) h fun v54 h =>
  wg (gdv false v53) (fun k => wk (kLd1 h v54) k) h fun v55 h =>
  wg (gdv false v53) (fun k => wk (kFldA h 7 v3) k) h fun v56 h =>
  wg (gdv false v53) (fun k => wk (kLd1 h v56) k) h fun v57 h =>
  wg (gdv false v53) (fun k => wk (kArith h .neq v55 v57) k) h fun v58 h =>
  wk (kPick h v53 (.bool true) v58) fun v59 h =>
  wsp v59 fun v60 =>
  wg (gdv false v60) (fun k => wk (kFldA h 8 v2) k) h fun v61 h =>
  g34_s2 cl (v2) (v3) (v60) (v61) h k
def g34_s4 (cl : CL) (v2 v3 v39 v41 v42 : AV) (h : AH) (k : List AV → AH → Prop) : Prop :=
  wg (gdv false v39) (fun k => wk (kLd1 h v42) k) h fun v43 h =>
  wg (gdv false v39) (fun k => wk (kArith h .neq v41 v43) k) h fun v44 h =>
  wk (kPick h v39 (.bool true) v44) fun v45 h =>
  wsp v45 fun v46 =>
  wg (gdv false v46) (fun k => wk (kFldA h 6 v2) k) h fun v47 h =>
  wg (gdv false v46) (fun k => wk (kLd1 h v47) k) h fun v48 h =>
  wg (gdv false v46) (fun k => wk (kFldA h 6 v3) k) h fun v49 h =>
  wg (gdv false v46) (fun k => wk (kLd1 h v49) k) h fun v50 h =>
  wg (gdv false v46) (fun k => wk (kArith h .neq v48 v50) k) h fun v51 h =>
  g34_s3 cl (v2) (v3) (v46) (v51) h k
def g34_s5 (cl : CL) (v2 v3 v32 v33 : AV) (h : AH) (k : List AV → AH → Prop) : Prop :=
  wg (gdv false v32) (fun k => wk (kLd1 h v33) k) h fun v34 h =>
  wg (gdv false v32) (fun k => wk (kFldA h 4 v3) k) h fun v35 h =>
  wg (gdv false v32) (fun k => wk (kLd1 h v35) k) h fun v36 h =>
  wg (gdv false v32) (fun k => wk (kArith h .neq v34 v36) k) h fun v37 h =>
  wk (kPick h v32 (.bool true) v37) fun v38 h =>
  wsp v38 fun v39 =>
  wg (gdv false v39) (fun k => wk (kFldA h 5 v2) k) h fun v40 h =>
  wg (gdv false v39) (fun k => wk (kLd1 h v40) k) h fun v41 h =>
  wg (gdv false v39) (fun k => wk (kFldA h 5 v3) k) h fun v42 h =>
  g34_s4 cl (v2) (v3) (v39) (v41) (v42) h k
def g34_s6 (cl : CL) (v2 v3 v18 v23 : AV) (h : AH) (k : List AV → AH → Prop) : Prop :=
  wk (kPick h v18 (.bool true) v23) fun v24 h =>
  wsp v24 fun v25 =>
  wg (gdv false v25) (fun k => wk (kFldA h 3 v2) k) h fun v26 h =>
  wg (gdv false v25) (fun k => wk (kLd1 h v26) k) h fun v27 h =>
  wg (gdv false v25) (fun k => wk (kFldA h 3 v3) k) h fun v28 h =>
  wg (gdv false v25) (fun k => wk (kLd1 h v28) k) h fun v29 h =>
  wg (gdv false v25) (fun k => wk (kArith h .neq v27 v29) k) h fun v30 h =>
  wk (kPick h v25 (.bool true) v30) fun v31 h =>
  wsp v31 fun v32 =>
  wg (gdv false v32) (fun k => wk (kFldA h 4 v2) k) h fun v33 h =>
  g34_s5 cl (v2) (v3) (v32) (v33) h k
def g34_s7 (cl : CL) (v2 v3 v11 v13 v14 : AV) (h : AH) (k : List AV → AH → Prop) : Prop :=
  wg (gdv false v11) (fun k => wk (kLd1 h v14) k) h fun v15 h =>
  wg (gdv false v11) (fun k => wk (kArith h .neq v13 v15) k) h fun v16 h =>
  wk (kPick h v11 (.bool true) v16) fun v17 h =>
  wsp v17 fun v18 =>
  wg (gdv false v18) (fun k => wk (kFldA h 2 v2) k) h fun v19 h =>
  wg (gdv false v18) (fun k => wk (kLd1 h v19) k) h fun v20 h =>
  wg (gdv false v18) (fun k => wk (kFldA h 2 v3) k) h fun v21 h =>
  wg (gdv false v18) (fun k => wk (kLd1 h v21) k) h fun v22 h =>
  wg (gdv false v18) (fun k => wk (kArith h .neq v20 v22) k) h fun v23 h =>
  g34_s6 cl (v2) (v3) (v18) (v23) h k
def g34_a1 (cl : CL) (v2 v3 : AV) (h : AH) (k : List AV → AH → Prop) : Prop :=
  wk (kFldA h 0 v2) fun v6 h =>
  wk (kLd1 h v6) fun v7 h =>
  wk (kFldA h 0 v3) fun v8 h =>
  wk (kLd1 h v8) fun v9 h =>
  wk (kArith h .neq v7 v9) fun v10 h =>
  wsp v10 fun v11 =>
  wg (gdv false v11) (fun k => wk (kFldA h 1 v2) k) h fun v12 h =>
  wg (gdv false v11) (fun k => wk (kLd1 h v12) k) h fun v13 h =>
  wg (gdv false v11) (fun k => wk (kFldA h 1 v3) k) h fun v14 h =>
  g34_s7 cl (v2) (v3) (v11) (v13) (v14) h k
def g34_s8 (cl : CL) (v2 v3 v82 : AV) (h : AH) (k : AX → List AV → List AV → AH → Prop) : Prop :=
  k .nrm [v2, v3, v82] [.undef] h
def g34_s9 (cl : CL) (v2 v3 v5 v86 : AV) (h : AH) (k : AX → List AV → List AV → AH → Prop) : Prop :=
  wdp h (kLdn h 8 v86) (rdK (rdv v86)) fun v87 c4 h =>
  wdp h (kFldA h 9 v3) .pure fun v88 c5 h =>
  wdp h (kLd1 h v88) (rdK (rdv v88)) fun v89 c6 h =>
  wdp h (kMov h v5) .pure fun v90 c7 h =>
  wdp h (kIdxA h 8 v89 v90) .pure fun v91 c8 h =>
  wdp h (kLdn h 8 v91) (rdK (rdv v91)) fun v92 c9 h =>
  wdp h (kEqf h true [.int .i64, .int .i64, .int .i64, .int .i64, .int .i64, .int .i64, .int .i64, .int .i64] v87 v92) .pure fun v93 c10 h =>
  wif v93 (
  k .ret [v2, v3, v5] [(.bool false)] h) (
  wk (kArith h .add v5 (.int .i64 1)) fun v82 h =>
  g34_s8 cl (v2) (v3) (v82) h k)
def g34_l2 (cl : CL) (v2 v3 v5 : AV) (h : AH) (k : AX → List AV → List AV → AH → Prop) : Prop :=
  wk (kFldA h 9 v2) fun v77 h =>
  wk (kLd1 h v77) fun v78 h =>
  wk (kLen h v78) fun v79 h =>
  wk (kArith h .lss v5 v79) fun v80 h =>
  wif v80 (
  wdr h 11 fun r h =>
  wdp h (kFldA h 9 v2) .pure fun v83 c0 h =>
  wdp h (kLd1 h v83) (rdK (rdv v83)) fun v84 c1 h =>
  wdp h (kMov h v5) .pure fun v85 c2 h =>
  wdp h (kIdxA h 8 v84 v85) .pure fun v86 c3 h =>
  g34_s9 cl (v2) (v3) (v5) (v86) h k) (
  k (.exit 0) [v2, v3, v5] [.undef] h)
def g34_c3 (cl : CL) (h : AH) (Q : AV → AH → Prop) : Prop :=
  Q ((.bool true)) h
def g34_j4 (cl : CL) (x : AX) (v4 : AV) (h : AH) (Q : AV → AH → Prop) : Prop :=
  xs x (g34_c3 cl h Q) (fun j => cond (Nat.beq j 0) (g34_c3 cl h Q) (False)) (Q (v4) h)
def g34_j5 (cl : CL) (v2 v3 v75 : AV) (h : AH) (Q : AV → AH → Prop) : Prop :=
  wif v75 (
  Q ((.bool false)) h) (
  wloop (fun vs h k => g34_l2 cl (nthD vs 0) (nthD vs 1) (nthD vs 2) h k) [v2, v3, (.int .i64 0)] h fun x vs h => g34_j4 cl x (nthD vs 0) h Q)
def g34 (cl : CL) (v0 v1 : AV) (h : AH) (Q : AV → AH → Prop) : Prop :=
  wk (kBox h v0) fun v2 h =>
  wk (kBox h v1) fun v3 h =>
  wjoinN (g34_a1 cl (v2) (v3) h) fun vs h => g34_j5 cl (nthD vs 0) (nthD vs 1) (nthD vs 2) h Q
theorem g34_eq (cl : CL) (v0 v1 : AV) (h : AH) (Q : AV → AH → Prop) : wrun cl S34 [v0, v1] h Q = g34 cl v0 v1 h Q := by kernel_rfl
theorem C34 {cl : CL} (hcl : CLOk Try.prog cl) {v0 v1 : AV} {h : AH} {Q : AV → AH → Prop} (hg : g34 cl v0 v1 h Q) : CallsA Try.prog 34 [v0, v1] h Q := wfn_ok hcl (f := 34) (fn := Try.f34) (by kernel_rfl) S34_ok (by decide) (by kernel_rfl) (its_nil (by kernel_rfl)) (by rw [g34_eq]; exact hg)

/- widgetry/display.rectangular -/
def S35.r0 : List AOpr := [
  ⟨some 2, .mov (.const (.bool false)), none⟩]
def S35.r1 : List (AOpr × Option Nat) := [
  (⟨some 3, .mov (.tmp 0), none⟩, none),
  (⟨some 4, .arith .eql (.tmp 3) (.const (.int .i64 1)), none⟩, none),
  (⟨some 5, .mov (.tmp 4), none⟩, none),
  (⟨some 6, .mov (.tmp 0), some (5, false)⟩, some 5),
  (⟨some 7, .arith .eql (.tmp 6) (.const (.int .i64 4)), some (5, false)⟩, none),
  (⟨some 8, .pick (.tmp 5) (.const (.bool true)) (.tmp 7), none⟩, none),
  (⟨some 9, .mov (.tmp 8), none⟩, none),
  (⟨some 10, .mov (.tmp 0), some (9, false)⟩, some 9),
  (⟨some 11, .arith .eql (.tmp 10) (.const (.int .i64 5)), some (9, false)⟩, none),
  (⟨some 12, .pick (.tmp 9) (.const (.bool true)) (.tmp 11), none⟩, none),
  (⟨some 13, .mov (.tmp 12), none⟩, none),
  (⟨some 14, .mov (.tmp 0), some (13, false)⟩, some 13),
  (⟨some 15, .arith .eql (.tmp 14) (.const (.int .i64 6)), some (13, false)⟩, none),
  (⟨some 16, .pick (.tmp 13) (.const (.bool true)) (.tmp 15), none⟩, none),
  (⟨some 2, .mov (.tmp 16), none⟩, none)]
def S35 : SFn := ⟨17, [.tmp 2], .seq (.reg S35.r0) (.seq (.regS S35.r1) (.ret))⟩
theorem S35_ok : cFn Try.prog Try.f35 = some S35.erase := by kernel_rfl
def g35_s1 (cl : CL) (v13 v14 : AV) (h : AH) (Q : AV → AH → Prop) : Prop :=
  wg (gdv false v13) (fun k => wk (kArith h .eql v14 (.int .i64 6)) k) h fun v15 h =>
  wk (kPick h v13 (.bool true) v15) fun v16 h =>
  Q (v16) h
def g35 (cl : CL) (v0 : AV) (h : AH) (Q : AV → AH → Prop) : Prop :=
  wk (kArith h .eql v0 (.int .i64 1)) fun v4 h =>
  wsp v4 fun v5 =>
  wg (gdv false v5) (fun k => k v0 h) h fun v6 h =>
  wg (gdv false v5) (fun k => wk (kArith h .eql v6 (.int .i64 4)) k) h fun v7 h =>
  wk (kPick h v5 (.bool true) v7) fun v8 h =>
  wsp v8 fun v9 =>
  wg (gdv false v9) (fun k => k v0 h) h fun v10 h =>
  wg (gdv false v9) (fun k => wk (kArith h .eql v10 (.int .i64 5)) k) h fun v11 h =>
  wk (kPick h v9 (.bool true) v11) fun v12 h =>
  wsp v12 fun v13 =>
  wg (gdv false v13) (fun k => k v0 h) h fun v14 h =>
  g35_s1 cl (v13) (v14) h Q
theorem g35_eq (cl : CL) (v0 : AV) (h : AH) (Q : AV → AH → Prop) : wrun cl S35 [v0] h Q = g35 cl v0 h Q := by kernel_rfl
theorem C35 {cl : CL} (hcl : CLOk Try.prog cl) {v0 : AV} {h : AH} {Q : AV → AH → Prop} (hg : g35 cl v0 h Q) : CallsA Try.prog 35 [v0] h Q := wfn_ok hcl (f := 35) (fn := Try.f35) (by kernel_rfl) S35_ok (by decide) (by kernel_rfl) (its_nil (by kernel_rfl)) (by rw [g35_eq]; exact hg)

/- widgetry/geometry.Validate -/
def S36.r0 : List AOpr := [
  ⟨some 1, .box (.tmp 0), none⟩,
  ⟨some 2, .mov (.const (.int .i64 0)), none⟩]
def S36.r1 : List (AOpr × Option Nat) := [
  (⟨some 3, .fldA 0 (.tmp 1), none⟩, none),
  (⟨some 4, .ld1 (.tmp 3), none⟩, none),
  (⟨some 5, .call (.const (.func (.func 61) [] [])) [.tmp 4, .const (.int .i64 1048576)], none⟩, none),
  (⟨some 6, .un .not (.tmp 5), none⟩, none),
  (⟨some 7, .mov (.tmp 6), none⟩, none),
  (⟨some 8, .fldA 1 (.tmp 1), some (7, false)⟩, some 7),
  (⟨some 9, .ld1 (.tmp 8), some (7, false)⟩, none),
  (⟨some 10, .call (.const (.func (.func 61) [] [])) [.tmp 9, .const (.int .i64 1048576)], some (7, false)⟩, none),
  (⟨some 11, .un .not (.tmp 10), some (7, false)⟩, none),
  (⟨some 12, .pick (.tmp 7) (.const (.bool true)) (.tmp 11), none⟩, none),
  (⟨some 13, .mov (.tmp 12), none⟩, none),
  (⟨some 14, .fldA 2 (.tmp 1), some (13, false)⟩, some 13),
  (⟨some 15, .ld1 (.tmp 14), some (13, false)⟩, none),
  (⟨some 16, .arith .lss (.tmp 15) (.const (.int .i64 0)), some (13, false)⟩, none),
  (⟨some 17, .pick (.tmp 13) (.const (.bool true)) (.tmp 16), none⟩, none),
  (⟨some 18, .mov (.tmp 17), none⟩, none),
  (⟨some 19, .fldA 2 (.tmp 1), some (18, false)⟩, some 18),
  (⟨some 20, .ld1 (.tmp 19), some (18, false)⟩, none),
  (⟨some 21, .arith .gtr (.tmp 20) (.const (.int .i64 1048576)), some (18, false)⟩, none),
  (⟨some 22, .pick (.tmp 18) (.const (.bool true)) (.tmp 21), none⟩, none),
  (⟨some 23, .mov (.tmp 22), none⟩, none),
  (⟨some 24, .fldA 3 (.tmp 1), some (23, false)⟩, some 23),
  (⟨some 25, .ld1 (.tmp 24), some (23, false)⟩, none),
  (⟨some 26, .arith .lss (.tmp 25) (.const (.int .i64 0)), some (23, false)⟩, none),
  (⟨some 27, .pick (.tmp 23) (.const (.bool true)) (.tmp 26), none⟩, none),
  (⟨some 28, .mov (.tmp 27), none⟩, none),
  (⟨some 29, .fldA 3 (.tmp 1), some (28, false)⟩, some 28),
  (⟨some 30, .ld1 (.tmp 29), some (28, false)⟩, none),
  (⟨some 31, .arith .gtr (.tmp 30) (.const (.int .i64 1048576)), some (28, false)⟩, none),
  (⟨some 32, .pick (.tmp 28) (.const (.bool true)) (.tmp 31), none⟩, none)]
def S36.r2 : List AOpr := [
  ⟨some 2, .mov (.const (.int .i64 1)), none⟩]
def S36.r3 : List AOpr := [
  ⟨some 2, .mov (.const (.int .i64 0)), none⟩]
def S36 : SFn := ⟨33, [.tmp 2], .seq (.reg S36.r0) (.seq (.seq (.joinN [32] (.regS S36.r1)) (.cond (.tmp 32) (.seq (.reg S36.r2) (.ret)) (.skip))) (.seq (.reg S36.r3) (.ret)))⟩
theorem S36_ok : cFn Try.prog Try.f36 = some S36.erase := by kernel_rfl
def g36_s1 (cl : CL) (v1 v23 v25 : AV) (h : AH) (k : List AV → AH → Prop) : Prop :=
  wg (gdv false v23) (fun k => wk (kArith h .lss v25 (.int .i64 0)) k) h fun v26 h =>
  wk (kPick h v23 (.bool true) v26) fun v27 h =>
  wsp v27 fun v28 =>
  wg (gdv false v28) (fun k => wk (kFldA h 3 v1) k) h fun v29 h =>
  wg (gdv false v28) (fun k => wk (kLd1 h v29) k) h fun v30 h =>
  wg (gdv false v28) (fun k => wk (kArith h .gtr v30 (.int .i64 1048576)) k) h fun v31 h =>
  wk (kPick h v28 (.bool true) v31) fun v32 h =>
  k [v32] h
def g36_s2 (cl : CL) (v1 v13 v15 : AV) (h : AH) (k : List AV → AH → Prop) : Prop :=
  wg (gdv false v13) (fun k => wk (kArith h .lss v15 (.int .i64 0)) k) h fun v16 h =>
  wk (kPick h v13 (.bool true) v16) fun v17 h =>
  wsp v17 fun v18 =>
  wg (gdv false v18) (fun k => wk (kFldA h 2 v1) k) h fun v19 h =>
  wg (gdv false v18) (fun k => wk (kLd1 h v19) k) h fun v20 h =>
  wg (gdv false v18) (fun k => wk (kArith h .gtr v20 (.int .i64 1048576)) k) h fun v21 h =>
  wk (kPick h v18 (.bool true) v21) fun v22 h =>
  wsp v22 fun v23 =>
  wg (gdv false v23) (fun k => wk (kFldA h 3 v1) k) h fun v24 h =>
  wg (gdv false v23) (fun k => wk (kLd1 h v24) k) h fun v25 h =>
  g36_s1 cl (v1) (v23) (v25) h k
def g36_s3 (cl : CL) (v1 v5 : AV) (h : AH) (k : List AV → AH → Prop) : Prop :=
  wk (kUn h .not v5) fun v6 h =>
  wsp v6 fun v7 =>
  wg (gdv false v7) (fun k => wk (kFldA h 1 v1) k) h fun v8 h =>
  wg (gdv false v7) (fun k => wk (kLd1 h v8) k) h fun v9 h =>
  wg (gdv false v7) (fun k => wcall cl (.func (.func 61) [] []) [v9, (.int .i64 1048576)] h k) h fun v10 h =>
  wg (gdv false v7) (fun k => wk (kUn h .not v10) k) h fun v11 h =>
  wk (kPick h v7 (.bool true) v11) fun v12 h =>
  wsp v12 fun v13 =>
  wg (gdv false v13) (fun k => wk (kFldA h 2 v1) k) h fun v14 h =>
  wg (gdv false v13) (fun k => wk (kLd1 h v14) k) h fun v15 h =>
  g36_s2 cl (v1) (v13) (v15) h k
def g36_a1 (cl : CL) (v1 : AV) (h : AH) (k : List AV → AH → Prop) : Prop :=
  wk (kFldA h 0 v1) fun v3 h =>
  wk (kLd1 h v3) fun v4 h =>
  wcall cl (.func (.func 61) [] []) [v4, (.int .i64 1048576)] h fun v5 h =>
  g36_s3 cl (v1) (v5) h k
def g36_j2 (cl : CL) (v32 : AV) (h : AH) (Q : AV → AH → Prop) : Prop :=
  wif v32 (
  Q ((.int .i64 1)) h) (
  Q ((.int .i64 0)) h)
def g36 (cl : CL) (v0 : AV) (h : AH) (Q : AV → AH → Prop) : Prop :=
  wk (kBox h v0) fun v1 h =>
  wjoinN (g36_a1 cl (v1) h) fun vs h => g36_j2 cl (nthD vs 0) h Q
theorem g36_eq (cl : CL) (v0 : AV) (h : AH) (Q : AV → AH → Prop) : wrun cl S36 [v0] h Q = g36 cl v0 h Q := by kernel_rfl
theorem C36 {cl : CL} (hcl : CLOk Try.prog cl) {v0 : AV} {h : AH} {Q : AV → AH → Prop} (hg : g36 cl v0 h Q) : CallsA Try.prog 36 [v0] h Q := wfn_ok hcl (f := 36) (fn := Try.f36) (by kernel_rfl) S36_ok (by decide) (by kernel_rfl) (its_nil (by kernel_rfl)) (by rw [g36_eq]; exact hg)

/- widgetry/display.color -/
def S37.r0 : List AOpr := [
  ⟨some 2, .mov (.const (.bool false)), none⟩]
def S37.r1 : List (AOpr × Option Nat) := [
  (⟨some 3, .mov (.tmp 0), none⟩, none),
  (⟨some 4, .arith .geq (.tmp 3) (.const (.int .i64 0)), none⟩, none),
  (⟨some 5, .mov (.tmp 4), none⟩, none),
  (⟨some 6, .mov (.tmp 0), some (5, true)⟩, some 5),
  (⟨some 7, .arith .leq (.tmp 6) (.const (.int .i64 16777215)), some (5, true)⟩, none),
  (⟨some 8, .pick (.tmp 5) (.tmp 7) (.const (.bool false)), none⟩, none),
  (⟨some 2, .mov (.tmp 8), none⟩, none)]
def S37 : SFn := ⟨9, [.tmp 2], .seq (.reg S37.r0) (.seq (.regS S37.r1) (.ret))⟩
theorem S37_ok : cFn Try.prog Try.f37 = some S37.erase := by kernel_rfl
def g37 (cl : CL) (v0 : AV) (h : AH) (Q : AV → AH → Prop) : Prop :=
  wk (kArith h .geq v0 (.int .i64 0)) fun v4 h =>
  wsp v4 fun v5 =>
  wg (gdv true v5) (fun k => k v0 h) h fun v6 h =>
  wg (gdv true v5) (fun k => wk (kArith h .leq v6 (.int .i64 16777215)) k) h fun v7 h =>
  wk (kPick h v5 v7 (.bool false)) fun v8 h =>
  Q (v8) h
theorem g37_eq (cl : CL) (v0 : AV) (h : AH) (Q : AV → AH → Prop) : wrun cl S37 [v0] h Q = g37 cl v0 h Q := by kernel_rfl
theorem C37 {cl : CL} (hcl : CLOk Try.prog cl) {v0 : AV} {h : AH} {Q : AV → AH → Prop} (hg : g37 cl v0 h Q) : CallsA Try.prog 37 [v0] h Q := wfn_ok hcl (f := 37) (fn := Try.f37) (by kernel_rfl) S37_ok (by decide) (by kernel_rfl) (its_nil (by kernel_rfl)) (by rw [g37_eq]; exact hg)

/- widgetry/display.near -/
def S38.r0 : List AOpr := [
  ⟨some 1, .box (.tmp 0), none⟩,
  ⟨some 2, .mov (.const (.bool false)), none⟩]
def S38.r1 : List AOpr := [
  ⟨some 3, .new [.nilfunc], none⟩,
  ⟨none, .st 1 (.tmp 3) (.const (.func (.func 62) [] [])), none⟩]
def S38.r2 : List (AOpr × Option Nat) := [
  (⟨some 4, .ld1 (.tmp 3), none⟩, none),
  (⟨some 5, .fldA 3 (.tmp 1), none⟩, none),
  (⟨some 6, .ld1 (.tmp 5), none⟩, none),
  (⟨some 7, .call (.tmp 4) [.tmp 6], none⟩, none),
  (⟨some 8, .mov (.tmp 7), none⟩, none),
  (⟨some 9, .fldA 9 (.tmp 1), some (8, true)⟩, some 8),
  (⟨some 10, .ld1 (.tmp 9), some (8, true)⟩, none),
  (⟨some 11, .mkf (.func 64) [] [.tmp 3], some (8, true)⟩, none),
  (⟨some 12, .call (.const (.func (.func 63) [] [])) [.tmp 10, .tmp 11], some (8, true)⟩, none),
  (⟨some 13, .un .not (.tmp 12), some (8, true)⟩, none),
  (⟨some 14, .pick (.tmp 8) (.tmp 13) (.const (.bool false)), none⟩, none),
  (⟨some 2, .mov (.tmp 14), none⟩, none)]
def S38 : SFn := ⟨15, [.tmp 2], .seq (.reg S38.r0) (.seq (.reg S38.r1) (.seq (.regS S38.r2) (.ret)))⟩
theorem S38_ok : cFn Try.prog Try.f38 = some S38.erase := by kernel_rfl
def g38_s1 (cl : CL) (v1 v3 v7 : AV) (h : AH) (Q : AV → AH → Prop) : Prop :=
  wsp v7 fun v8 =>
  wg (gdv true v8) (fun k => wk (kFldA h 9 v1) k) h fun v9 h =>
  wg (gdv true v8) (fun k => wk (kLd1 h v9) k) h fun v10 h =>
  wg (gdv true v8) (fun k => wk (kMkf h (.func 64) [] [v3]) k) h fun v11 h =>
  wg (gdv true v8) (fun k => wcall cl (.func (.func 63) [] []) [v10, v11] h k) h fun v12 h =>
  wg (gdv true v8) (fun k => wk (kUn h .not v12) k) h fun v13 h =>
  wk (kPick h v8 v13 (.bool false)) fun v14 h =>
  Q (v14) h
def g38 (cl : CL) (v0 : AV) (h : AH) (Q : AV → AH → Prop) : Prop :=
  wk (kBox h v0) fun v1 h =>
  wk (kNew h [.nilfunc]) fun v3 h =>
  wk (kSt h 1 v3 (.func (.func 62) [] [])) fun _ h =>
  wk (kLd1 h v3) fun v4 h =>
  wk (kFldA h 3 v1) fun v5 h =>
  wk (kLd1 h v5) fun v6 h =>
  wcall cl v4 [v6] h fun v7 h =>
  g38_s1 cl (v1) (v3) (v7) h Q
theorem g38_eq (cl : CL) (v0 : AV) (h : AH) (Q : AV → AH → Prop) : wrun cl S38 [v0] h Q = g38 cl v0 h Q := by kernel_rfl
theorem C38 {cl : CL} (hcl : CLOk Try.prog cl) {v0 : AV} {h : AH} {Q : AV → AH → Prop} (hg : g38 cl v0 h Q) : CallsA Try.prog 38 [v0] h Q := wfn_ok hcl (f := 38) (fn := Try.f38) (by kernel_rfl) S38_ok (by decide) (by kernel_rfl) (its_nil (by kernel_rfl)) (by rw [g38_eq]; exact hg)

/- widgetry/geometry.Combine -/
def S39.r0 : List AOpr := [
  ⟨some 2, .box (.tmp 0), none⟩,
  ⟨some 3, .box (.tmp 1), none⟩,
  ⟨some 4, .new [.int .i64 0, .bool false, .int .i64 0, .int .i64 0, .int .i64 0], none⟩,
  ⟨some 5, .mov (.const (.int .i64 0)), none⟩]
def S39.r1 : List (AOpr × Option Nat) := [
  (⟨some 9, .ldn 5 (.tmp 2), none⟩, none),
  (⟨some 10, .call (.const (.func (.func 65) [] [])) [.tmp 9], none⟩, none),
  (⟨some 11, .arith .neq (.tmp 10) (.const (.int .i64 0)), none⟩, none),
  (⟨some 12, .mov (.tmp 11), none⟩, none),
  (⟨some 13, .ldn 5 (.tmp 3), some (12, false)⟩, some 12),
  (⟨some 14, .call (.const (.func (.func 65) [] [])) [.tmp 13], some (12, false)⟩, none),
  (⟨some 15, .arith .neq (.tmp 14) (.const (.int .i64 0)), some (12, false)⟩, none),
  (⟨some 16, .pick (.tmp 12) (.const (.bool true)) (.tmp 15), none⟩, none)]
def S39.r2 : List AOpr := [
  ⟨some 17, .build [.int .i64 0, .bool false, .int .i64 0, .int .i64 0, .int .i64 0] [], none⟩,
  ⟨none, .st 5 (.tmp 4) (.tmp 17), none⟩,
  ⟨some 5, .mov (.const (.int .i64 1)), none⟩]
def S39.r3 : List AOpr := [
  ⟨some 18, .fldA 0 (.tmp 2), none⟩,
  ⟨some 19, .ld1 (.tmp 18), none⟩,
  ⟨some 20, .fldA 0 (.tmp 3), none⟩,
  ⟨some 21, .ld1 (.tmp 20), none⟩,
  ⟨some 22, .arith .add (.tmp 19) (.tmp 21), none⟩,
  ⟨some 6, .mov (.tmp 22), none⟩]
def S39.r4 : List AOpr := [
  ⟨some 23, .fldA 1 (.tmp 2), none⟩,
  ⟨some 24, .ld1 (.tmp 23), none⟩]
def S39.r5 : List AOpr := [
  ⟨some 25, .fldA 0 (.tmp 2), none⟩,
  ⟨some 26, .ld1 (.tmp 25), none⟩,
  ⟨some 27, .arith .add (.tmp 26) (.const (.int .i64 4)), none⟩,
  ⟨some 28, .fldA 0 (.tmp 3), none⟩,
  ⟨some 29, .ld1 (.tmp 28), none⟩,
  ⟨some 30, .arith .sub (.tmp 27) (.tmp 29), none⟩,
  ⟨some 6, .mov (.tmp 30), none⟩]
def S39.r6 : List AOpr := [
  ⟨some 31, .ldn 5 (.tmp 2), none⟩,
  ⟨some 32, .fldA 3 (.tmp 3), none⟩,
  ⟨some 33, .ld1 (.tmp 32), none⟩,
  ⟨some 34, .fldA 4 (.tmp 3), none⟩,
  ⟨some 35, .ld1 (.tmp 34), none⟩,
  ⟨some 36, .build [.int .i64 0, .int .i64 0] [(0, 1, .tmp 33), (1, 1, .tmp 35)], none⟩,
  ⟨some 37, .call (.const (.func (.func 66) [] [])) [.tmp 31, .tmp 36], none⟩,
  ⟨some 7, .new [.int .i64 0, .int .i64 0], none⟩,
  ⟨none, .st 2 (.tmp 7) (.tmp 37), none⟩]
def S39.r7 : List AOpr := [
  ⟨some 38, .mov (.tmp 6), none⟩,
  ⟨some 39, .arith .rem (.tmp 38) (.const (.int .i64 4)), none⟩,
  ⟨some 40, .fldA 1 (.tmp 2), none⟩,
  ⟨some 41, .ld1 (.tmp 40), none⟩,
  ⟨some 42, .fldA 1 (.tmp 3), none⟩,
  ⟨some 43, .ld1 (.tmp 42), none⟩,
  ⟨some 44, .eqs true (.tmp 41) (.tmp 43), none⟩,
  ⟨some 45, .fldA 2 (.tmp 2), none⟩,
  ⟨some 46, .ld1 (.tmp 45), none⟩,
  ⟨some 47, .fldA 2 (.tmp 3), none⟩,
  ⟨some 48, .ld1 (.tmp 47), none⟩,
  ⟨some 49, .arith .mul (.tmp 46) (.tmp 48), none⟩,
  ⟨some 50, .fldA 0 (.tmp 7), none⟩,
  ⟨some 51, .ld1 (.tmp 50), none⟩,
  ⟨some 52, .fldA 3 (.tmp 2), none⟩,
  ⟨some 53, .ld1 (.tmp 52), none⟩,
  ⟨some 54, .arith .add (.tmp 51) (.tmp 53), none⟩,
  ⟨some 55, .fldA 1 (.tmp 7), none⟩,
  ⟨some 56, .ld1 (.tmp 55), none⟩,
  ⟨some 57, .fldA 4 (.tmp 2), none⟩,
  ⟨some 58, .ld1 (.tmp 57), none⟩,
  ⟨some 59, .arith .add (.tmp 56) (.tmp 58), none⟩,
  ⟨some 60, .build [.int .i64 0, .bool false, .int .i64 0, .int .i64 0, .int .i64 0] [(0, 1, .tmp 39), (1, 1, .tmp 44), (2, 1, .tmp 49), (3, 1, .tmp 54), (4, 1, .tmp 59)], none⟩,
  ⟨some 8, .new [.int .i64 0, .bool false, .int .i64 0, .int .i64 0, .int .i64 0], none⟩,
  ⟨none, .st 5 (.tmp 8) (.tmp 60), none⟩]
def S39.r8 : List AOpr := [
  ⟨some 61, .ldn 5 (.tmp 8), none⟩,
  ⟨some 62, .call (.const (.func (.func 65) [] [])) [.tmp 61], none⟩,
  ⟨some 63, .arith .neq (.tmp 62) (.const (.int .i64 0)), none⟩]
def S39.r9 : List AOpr := [
  ⟨some 64, .build [.int .i64 0, .bool false, .int .i64 0, .int .i64 0, .int .i64 0] [], none⟩,
  ⟨none, .st 5 (.tmp 4) (.tmp 64), none⟩,
  ⟨some 5, .mov (.const (.int .i64 1)), none⟩]
def S39.r10 : List AOpr := [
  ⟨some 65, .ldn 5 (.tmp 8), none⟩,
  ⟨none, .st 5 (.tmp 4) (.tmp 65), none⟩,
  ⟨some 5, .mov (.const (.int .i64 0)), none⟩]
def S39 : SFn := ⟨66, [.cell 4 (some 5), .tmp 5], .seq (.reg S39.r0) (.seq (.seq (.joinN [2, 3, 4, 16] (.regS S39.r1)) (.cond (.tmp 16) (.seq (.reg S39.r2) (.ret)) (.skip))) (.seq (.reg S39.r3) (.seq (.seq (.reg S39.r4) (.joinN [2, 3, 4, 6] (.cond (.tmp 24) (.reg S39.r5) (.skip)))) (.seq (.reg S39.r6) (.seq (.reg S39.r7) (.seq (.seq (.reg S39.r8) (.cond (.tmp 63) (.seq (.reg S39.r9) (.ret)) (.skip))) (.seq (.reg S39.r10) (.ret))))))))⟩
theorem S39_ok : cFn Try.prog Try.f39 = some S39.erase := by kernel_rfl
def g39_s1 (cl : CL) (v2 v3 v4 v10 : AV) (h : AH) (k : List AV → AH → Prop) : Prop :=
  wk (kArith h .neq v10 (.int .i64 0)) fun v11 h =>
  wsp v11 fun v12 =>
  wg (gdv false v12) (fun k => wk (kLdn h 5 v3) k) h fun v13 h =>
  wg (gdv false v12) (fun k => wcall cl (.func (.func 65) [] []) [v13] h k) h fun v14 h =>
  wg (gdv false v12) (fun k => wk (kArith h .neq v14 (.int .i64 0)) k) h fun v15 h =>
  wk (kPick h v12 (.bool true) v15) fun v16 h =>
  k [v2, v3, v4, v16] h
def g39_a1 (cl : CL) (v2 v3 v4 : AV) (h : AH) (k : List AV → AH → Prop) : Prop :=
  wk (kLdn h 5 v2) fun v9 h =>
  wcall cl (.func (.func 65) [] []) [v9] h fun v10 h =>
  g39_s1 cl (v2) (v3) (v4) (v10) h k
def g39_a2 (cl : CL) (v2 v3 v4 v6 v24 : AV) (h : AH) (k : List AV → AH → Prop) : Prop :=
  wif v24 (
  wk (kFldA h 0 v2) fun v25 h =>
  wk (kLd1 h v25) fun v26 h =>
  wk (kArith h .add v26 (.int .i64 4)) fun v27 h =>
  wk (kFldA h 0 v3) fun v28 h =>
  wk (kLd1 h v28) fun v29 h =>
  wk (kArith h .sub v27 v29) fun v30 h =>
  k [v2, v3, v4, v30] h) (
  k [v2, v3, v4, v6] h)
def g39_s2 (cl : CL) (v4 v8 v60 : AV) (h : AH) (Q : AV → AH → Prop) : Prop :=
  wk (kSt h 5 v8 v60) fun _ h =>
  wk (kLdn h 5 v8) fun v61 h =>
  wcall cl (.func (.func 65) [] []) [v61] h fun v62 h =>
  wk (kArith h .neq v62 (.int .i64 0)) fun v63 h =>
  wif v63 (
  wk (kBuild h [.int .i64 0, .bool false, .int .i64 0, .int .i64 0, .int .i64 0] []) fun v64 h =>
  wk (kSt h 5 v4 v64) fun _ h =>
  wres (aresV h [.cell (v4) (some 5), .val ((.int .i64 1))]) h Q) (
  wk (kLdn h 5 v8) fun v65 h =>
  wk (kSt h 5 v4 v65) fun _ h =>
  wres (aresV h [.cell (v4) (some 5), .val ((.int .i64 0))]) h Q)
def g39_s3 (cl : CL) (v2 v4 v7 v39 v44 v49 v51 v53 : AV) (h : AH) (Q : AV → AH → Prop) : Prop :=
  wk (kArith h .add v51 v53) fun v54 h =>
  wk (kFldA h 1 v7) fun v55 h =>
  wk (kLd1 h v55) fun v56 h =>
  wk (kFldA h 4 v2) fun v57 h =>
  wk (kLd1 h v57) fun v58 h =>
  wk (kArith h .add v56 v58) fun v59 h =>
  wk (kBuild h [.int .i64 0, .bool false, .int .i64 0, .int .i64 0, .int .i64 0] [(0, 1, v39), (1, 1, v44), (2, 1, v49), (3, 1, v54), (4, 1, v59)]) fun v60 h =>
  wk (kNew h [.int .i64 0, .bool false, .int .i64 0, .int .i64 0, .int .i64 0]) fun v8 h =>
  g39_s2 cl (v4) (v8) (v60) h Q
def g39_s4 (cl : CL) (v2 v3 v4 v7 v39 v44 v45 : AV) (h : AH) (Q : AV → AH → Prop) : Prop :=
  wk (kLd1 h v45) fun v46 h =>
  wk (kFldA h 2 v3) fun v47 h =>
  wk (kLd1 h v47) fun v48 h =>
  wk (kArith h .mul v46 v48) fun v49 h =>
  wk (kFldA h 0 v7) fun v50 h =>
  wk (kLd1 h v50) fun v51 h =>
  wk (kFldA h 3 v2) fun v52 h =>
  wk (kLd1 h v52) fun v53 h =>
  g39_s3 cl (v2) (v4) (v7) (v39) (v44) (v49) (v51) (v53) h Q
def g39_s5 (cl : CL) (v2 v3 v4 v6 v7 v37 : AV) (h : AH) (Q : AV → AH → Prop) : Prop :=
  wk (kSt h 2 v7 v37) fun _ h =>
  wk (kArith h .rem v6 (.int .i64 4)) fun v39 h =>
  wk (kFldA h 1 v2) fun v40 h =>
  wk (kLd1 h v40) fun v41 h =>
  wk (kFldA h 1 v3) fun v42 h =>
  wk (kLd1 h v42) fun v43 h =>
  wk (kEqs h true v41 v43) fun v44 h =>
  wk (kFldA h 2 v2) fun v45 h =>
  g39_s4 cl (v2) (v3) (v4) (v7) (v39) (v44) (v45) h Q
def g39_j3 (cl : CL) (v2 v3 v4 v6 : AV) (h : AH) (Q : AV → AH → Prop) : Prop :=
  wk (kLdn h 5 v2) fun v31 h =>
  wk (kFldA h 3 v3) fun v32 h =>
  wk (kLd1 h v32) fun v33 h =>
  wk (kFldA h 4 v3) fun v34 h =>
  wk (kLd1 h v34) fun v35 h =>
  wk (kBuild h [.int .i64 0, .int .i64 0] [(0, 1, v33), (1, 1, v35)]) fun v36 h =>
  wcall cl (.func (.func 66) [] []) [v31, v36] h fun v37 h =>
  wk (kNew h [.int .i64 0, .int .i64 0]) fun v7 h =>
  g39_s5 cl (v2) (v3) (v4) (v6) (v7) (v37) h Q
def g39_j4 (cl : CL) (v2 v3 v4 v16 : AV) (h : AH) (Q : AV → AH → Prop) : Prop :=
  wif v16 (
  wk (kBuild h [.int .i64 0, .bool false, .int .i64 0, .int .i64 0, .int .i64 0] []) fun v17 h =>
  wk (kSt h 5 v4 v17) fun _ h =>
  wres (aresV h [.cell (v4) (some 5), .val ((.int .i64 1))]) h Q) (
  wk (kFldA h 0 v2) fun v18 h =>
  wk (kLd1 h v18) fun v19 h =>
  wk (kFldA h 0 v3) fun v20 h =>
  wk (kLd1 h v20) fun v21 h =>
  wk (kArith h .add v19 v21) fun v22 h =>
  wk (kFldA h 1 v2) fun v23 h =>
  wk (kLd1 h v23) fun v24 h =>
  wjoinN (g39_a2 cl (v2) (v3) (v4) (v22) (v24) h) fun vs h => g39_j3 cl (nthD vs 0) (nthD vs 1) (nthD vs 2) (nthD vs 3) h Q)
def g39 (cl : CL) (v0 v1 : AV) (h : AH) (Q : AV → AH → Prop) : Prop :=
  wk (kBox h v0) fun v2 h =>
  wk (kBox h v1) fun v3 h =>
  wk (kNew h [.int .i64 0, .bool false, .int .i64 0, .int .i64 0, .int .i64 0]) fun v4 h =>
  wjoinN (g39_a1 cl (v2) (v3) (v4) h) fun vs h => g39_j4 cl (nthD vs 0) (nthD vs 1) (nthD vs 2) (nthD vs 3) h Q
theorem g39_eq (cl : CL) (v0 v1 : AV) (h : AH) (Q : AV → AH → Prop) : wrun cl S39 [v0, v1] h Q = g39 cl v0 v1 h Q := by kernel_rfl
theorem C39 {cl : CL} (hcl : CLOk Try.prog cl) {v0 v1 : AV} {h : AH} {Q : AV → AH → Prop} (hg : g39 cl v0 v1 h Q) : CallsA Try.prog 39 [v0, v1] h Q := wfn_ok hcl (f := 39) (fn := Try.f39) (by kernel_rfl) S39_ok (by decide) (by kernel_rfl) (its_nil (by kernel_rfl)) (by rw [g39_eq]; exact hg)

/- widgetry/display.point -/
def S43.r0 : List AOpr := [
  ⟨some 1, .box (.tmp 0), none⟩,
  ⟨some 2, .mov (.const (.bool false)), none⟩]
def S43.r1 : List (AOpr × Option Nat) := [
  (⟨some 3, .fldA 0 (.tmp 1), none⟩, none),
  (⟨some 4, .ld1 (.tmp 3), none⟩, none),
  (⟨some 5, .arith .geq (.tmp 4) (.const (.int .i64 (-2097152))), none⟩, none),
  (⟨some 6, .mov (.tmp 5), none⟩, none),
  (⟨some 7, .fldA 0 (.tmp 1), some (6, true)⟩, some 6),
  (⟨some 8, .ld1 (.tmp 7), some (6, true)⟩, none),
  (⟨some 9, .arith .leq (.tmp 8) (.const (.int .i64 2097152)), some (6, true)⟩, none),
  (⟨some 10, .pick (.tmp 6) (.tmp 9) (.const (.bool false)), none⟩, none),
  (⟨some 11, .mov (.tmp 10), none⟩, none),
  (⟨some 12, .fldA 1 (.tmp 1), some (11, true)⟩, some 11),
  (⟨some 13, .ld1 (.tmp 12), some (11, true)⟩, none),
  (⟨some 14, .arith .geq (.tmp 13) (.const (.int .i64 (-2097152))), some (11, true)⟩, none),
  (⟨some 15, .pick (.tmp 11) (.tmp 14) (.const (.bool false)), none⟩, none),
  (⟨some 16, .mov (.tmp 15), none⟩, none),
  (⟨some 17, .fldA 1 (.tmp 1), some (16, true)⟩, some 16),
  (⟨some 18, .ld1 (.tmp 17), some (16, true)⟩, none),
  (⟨some 19, .arith .leq (.tmp 18) (.const (.int .i64 2097152)), some (16, true)⟩, none),
  (⟨some 20, .pick (.tmp 16) (.tmp 19) (.const (.bool false)), none⟩, none),
  (⟨some 2, .mov (.tmp 20), none⟩, none)]
def S43 : SFn := ⟨21, [.tmp 2], .seq (.reg S43.r0) (.seq (.regS S43.r1) (.ret))⟩
theorem S43_ok : cFn Try.prog Try.f43 = some S43.erase := by kernel_rfl
def g43_s1 (cl : CL) (v20 : AV) (h : AH) (Q : AV → AH → Prop) : Prop :=
  Q (v20) h
def g43_s2 (cl : CL) (v1 v10 : AV) (h : AH) (Q : AV → AH → Prop) : Prop :=
  wsp v10 fun v11 =>
  wg (gdv true v11) (fun k => wk (kFldA h 1 v1) k) h fun v12 h =>
  wg (gdv true v11) (fun k => wk (kLd1 h v12) k) h fun v13 h =>
  wg (gdv true v11) (fun k => wk (kArith h .geq v13 (.int .i64 (-2097152))) k) h fun v14 h =>
  wk (kPick h v11 v14 (.bool false)) fun v15 h =>
  wsp v15 fun v16 =>
  wg (gdv true v16) (fun k => wk (kFldA h 1 v1) k) h fun v17 h =>
  wg (gdv true v16) (fun k => wk (kLd1 h v17) k) h fun v18 h =>
  wg (gdv true v16) (fun k => wk (kArith h .leq v18 (.int .i64 2097152)) k) h fun v19 h =>
  wk (kPick h v16 v19 (.bool false)) fun v20 h =>
  g43_s1 cl (v20) h Q
def g43 (cl : CL) (v0 : AV) (h : AH) (Q : AV → AH → Prop) : Prop :=
  wk (kBox h v0) fun v1 h =>
  wk (kFldA h 0 v1) fun v3 h =>
  wk (kLd1 h v3) fun v4 h =>
  wk (kArith h .geq v4 (.int .i64 (-2097152))) fun v5 h =>
  wsp v5 fun v6 =>
  wg (gdv true v6) (fun k => wk (kFldA h 0 v1) k) h fun v7 h =>
  wg (gdv true v6) (fun k => wk (kLd1 h v7) k) h fun v8 h =>
  wg (gdv true v6) (fun k => wk (kArith h .leq v8 (.int .i64 2097152)) k) h fun v9 h =>
  wk (kPick h v6 v9 (.bool false)) fun v10 h =>
  g43_s2 cl (v1) (v10) h Q
theorem g43_eq (cl : CL) (v0 : AV) (h : AH) (Q : AV → AH → Prop) : wrun cl S43 [v0] h Q = g43 cl v0 h Q := by kernel_rfl
theorem C43 {cl : CL} (hcl : CLOk Try.prog cl) {v0 : AV} {h : AH} {Q : AV → AH → Prop} (hg : g43 cl v0 h Q) : CallsA Try.prog 43 [v0] h Q := wfn_ok hcl (f := 43) (fn := Try.f43) (by kernel_rfl) S43_ok (by decide) (by kernel_rfl) (its_nil (by kernel_rfl)) (by rw [g43_eq]; exact hg)

/- widgetry/geometry.Contains -/
def S44.r0 : List AOpr := [
  ⟨some 2, .box (.tmp 0), none⟩,
  ⟨some 3, .box (.tmp 1), none⟩,
  ⟨some 4, .mov (.const (.bool false)), none⟩]
def S44.r1 : List AOpr := [
  ⟨some 5, .ldn 4 (.tmp 2), none⟩,
  ⟨some 6, .call (.const (.func (.func 70) [] [])) [.tmp 5], none⟩,
  ⟨none, .st 4 (.tmp 2) (.tmp 6), none⟩]
def S44.r2 : List (AOpr × Option Nat) := [
  (⟨some 7, .fldA 0 (.tmp 2), none⟩, none),
  (⟨some 8, .ld1 (.tmp 7), none⟩, none),
  (⟨some 9, .fldA 0 (.tmp 3), none⟩, none),
  (⟨some 10, .ld1 (.tmp 9), none⟩, none),
  (⟨some 11, .arith .leq (.tmp 8) (.tmp 10), none⟩, none),
  (⟨some 12, .mov (.tmp 11), none⟩, none),
  (⟨some 13, .fldA 0 (.tmp 3), some (12, true)⟩, some 12),
  (⟨some 14, .ld1 (.tmp 13), some (12, true)⟩, none),
  (⟨some 15, .fldA 0 (.tmp 2), some (12, true)⟩, none),
  (⟨some 16, .ld1 (.tmp 15), some (12, true)⟩, none),
  (⟨some 17, .fldA 2 (.tmp 2), some (12, true)⟩, none),
  (⟨some 18, .ld1 (.tmp 17), some (12, true)⟩, none),
  (⟨some 19, .arith .add (.tmp 16) (.tmp 18), some (12, true)⟩, none),
  (⟨some 20, .arith .lss (.tmp 14) (.tmp 19), some (12, true)⟩, none),
  (⟨some 21, .pick (.tmp 12) (.tmp 20) (.const (.bool false)), none⟩, none),
  (⟨some 22, .mov (.tmp 21), none⟩, none),
  (⟨some 23, .fldA 1 (.tmp 2), some (22, true)⟩, some 22),
  (⟨some 24, .ld1 (.tmp 23), some (22, true)⟩, none),
  (⟨some 25, .fldA 1 (.tmp 3), some (22, true)⟩, none),
  (⟨some 26, .ld1 (.tmp 25), some (22, true)⟩, none),
  (⟨some 27, .arith .leq (.tmp 24) (.tmp 26), some (22, true)⟩, none),
  (⟨some 28, .pick (.tmp 22) (.tmp 27) (.const (.bool false)), none⟩, none),
  (⟨some 29, .mov (.tmp 28), none⟩, none),
  (⟨some 30, .fldA 1 (.tmp 3), some (29, true)⟩, some 29),
  (⟨some 31, .ld1 (.tmp 30), some (29, true)⟩, none),
  (⟨some 32, .fldA 1 (.tmp 2), some (29, true)⟩, none),
  (⟨some 33, .ld1 (.tmp 32), some (29, true)⟩, none),
  (⟨some 34, .fldA 3 (.tmp 2), some (29, true)⟩, none),
  (⟨some 35, .ld1 (.tmp 34), some (29, true)⟩, none),
  (⟨some 36, .arith .add (.tmp 33) (.tmp 35), some (29, true)⟩, none),
  (⟨some 37, .arith .lss (.tmp 31) (.tmp 36), some (29, true)⟩, none),
  (⟨some 38, .pick (.tmp 29) (.tmp 37) (.const (.bool false)), none⟩, none),
  (⟨some 4, .mov (.tmp 38), none⟩, none)]
def S44 : SFn := ⟨39, [.tmp 4], .seq (.reg S44.r0) (.seq (.reg S44.r1) (.seq (.regS S44.r2) (.ret)))⟩
theorem S44_ok : cFn Try.prog Try.f44 = some S44.erase := by kernel_rfl
def g44_s1 (cl : CL) (v29 v31 v36 : AV) (h : AH) (Q : AV → AH → Prop) : Prop :=
  wg (gdv true v29) (fun k => wk (kArith h .lss v31 v36) k) h fun v37 h =>
  wk (kPick h v29 v37 (.bool false)) fun v38 h =>
  Q (v38) h
def g44_s2 (cl : CL) (v2 v3 v22 v27 : AV) (h : AH) (Q : AV → AH → Prop) : Prop :=
  wk (kPick h v22 v27 (.bool false)) fun v28 h =>
  wsp v28 fun v29 =>
  wg (gdv true v29) (fun k => wk (kFldA h 1 v3) k) h fun v30 h =>
  wg (gdv true v29) (fun k => wk (kLd1 h v30) k) h fun v31 h =>
  wg (gdv true v29) (fun k => wk (kFldA h 1 v2) k) h fun v32 h =>
  wg (gdv true v29) (fun k => wk (kLd1 h v32) k) h fun v33 h =>
  wg (gdv true v29) (fun k => wk (kFldA h 3 v2) k) h fun v34 h =>
  wg (gdv true v29) (fun k => wk (kLd1 h v34) k) h fun v35 h =>
  wg (gdv true v29) (fun k => wk (kArith h .add v33 v35) k) h fun v36 h =>
  g44_s1 cl (v29) (v31) (v36) h Q
def g44_s3 (cl : CL) (v2 v3 v12 v14 v16 v18 : AV) (h : AH) (Q : AV → AH → Prop) : Prop :=
  wg (gdv true v12) (fun k => wk (kArith h .add v16 v18) k) h fun v19 h =>
  wg (gdv true v12) (fun k => wk (kArith h .lss v14 v19) k) h fun v20 h =>
  wk (kPick h v12 v20 (.bool false)) fun v21 h =>
  wsp v21 fun v22 =>
  wg (gdv true v22) (fun k => wk (kFldA h 1 v2) k) h fun v23 h =>
  wg (gdv true v22) (fun k => wk (kLd1 h v23) k) h fun v24 h =>
  wg (gdv true v22) (fun k => wk (kFldA h 1 v3) k) h fun v25 h =>
  wg (gdv true v22) (fun k => wk (kLd1 h v25) k) h fun v26 h =>
  wg (gdv true v22) (fun k => wk (kArith h .leq v24 v26) k) h fun v27 h =>
  g44_s2 cl (v2) (v3) (v22) (v27) h Q
def g44_s4 (cl : CL) (v2 v3 v8 v9 : AV) (h : AH) (Q : AV → AH → Prop) : Prop :=
  wk (kLd1 h v9) fun v10 h =>
  wk (kArith h .leq v8 v10) fun v11 h =>
  wsp v11 fun v12 =>
  wg (gdv true v12) (fun k => wk (kFldA h 0 v3) k) h fun v13 h =>
  wg (gdv true v12) (fun k => wk (kLd1 h v13) k) h fun v14 h =>
  wg (gdv true v12) (fun k => wk (kFldA h 0 v2) k) h fun v15 h =>
  wg (gdv true v12) (fun k => wk (kLd1 h v15) k) h fun v16 h =>
  wg (gdv true v12) (fun k => wk (kFldA h 2 v2) k) h fun v17 h =>
  wg (gdv true v12) (fun k => wk (kLd1 h v17) k) h fun v18 h =>
  g44_s3 cl (v2) (v3) (v12) (v14) (v16) (v18) h Q
def g44 (cl : CL) (v0 v1 : AV) (h : AH) (Q : AV → AH → Prop) : Prop :=
  wk (kBox h v0) fun v2 h =>
  wk (kBox h v1) fun v3 h =>
  wk (kLdn h 4 v2) fun v5 h =>
  wcall cl (.func (.func 70) [] []) [v5] h fun v6 h =>
  wk (kSt h 4 v2 v6) fun _ h =>
  wk (kFldA h 0 v2) fun v7 h =>
  wk (kLd1 h v7) fun v8 h =>
  wk (kFldA h 0 v3) fun v9 h =>
  g44_s4 cl (v2) (v3) (v8) (v9) h Q
theorem g44_eq (cl : CL) (v0 v1 : AV) (h : AH) (Q : AV → AH → Prop) : wrun cl S44 [v0, v1] h Q = g44 cl v0 v1 h Q := by kernel_rfl
theorem C44 {cl : CL} (hcl : CLOk Try.prog cl) {v0 v1 : AV} {h : AH} {Q : AV → AH → Prop} (hg : g44 cl v0 v1 h Q) : CallsA Try.prog 44 [v0, v1] h Q := wfn_ok hcl (f := 44) (fn := Try.f44) (by kernel_rfl) S44_ok (by decide) (by kernel_rfl) (its_nil (by kernel_rfl)) (by rw [g44_eq]; exact hg)

/- widgetry/geometry.Back -/
def S45.r0 : List AOpr := [
  ⟨some 2, .box (.tmp 0), none⟩,
  ⟨some 3, .box (.tmp 1), none⟩,
  ⟨some 4, .new [.int .i64 0, .int .i64 0], none⟩]
def S45.r1 : List (AOpr × Option Nat) := [
  (⟨some 7, .ldn 5 (.tmp 2), none⟩, none),
  (⟨some 8, .call (.const (.func (.func 65) [] [])) [.tmp 7], none⟩, none),
  (⟨some 9, .arith .neq (.tmp 8) (.const (.int .i64 0)), none⟩, none),
  (⟨some 10, .mov (.tmp 9), none⟩, none),
  (⟨some 11, .fldA 0 (.tmp 3), some (10, false)⟩, some 10),
  (⟨some 12, .ld1 (.tmp 11), some (10, false)⟩, none),
  (⟨some 13, .call (.const (.func (.func 61) [] [])) [.tmp 12, .const (.int .i64 2097152)], some (10, false)⟩, none),
  (⟨some 14, .un .not (.tmp 13), some (10, false)⟩, none),
  (⟨some 15, .pick (.tmp 10) (.const (.bool true)) (.tmp 14), none⟩, none),
  (⟨some 16, .mov (.tmp 15), none⟩, none),
  (⟨some 17, .fldA 1 (.tmp 3), some (16, false)⟩, some 16),
  (⟨some 18, .ld1 (.tmp 17), some (16, false)⟩, none),
  (⟨some 19, .call (.const (.func (.func 61) [] [])) [.tmp 18, .const (.int .i64 2097152)], some (16, false)⟩, none),
  (⟨some 20, .un .not (.tmp 19), some (16, false)⟩, none),
  (⟨some 21, .pick (.tmp 16) (.const (.bool true)) (.tmp 20), none⟩, none)]
def S45.r2 : List AOpr := [
  ⟨some 22, .build [.int .i64 0, .int .i64 0] [], none⟩,
  ⟨none, .st 2 (.tmp 4) (.tmp 22), none⟩]
def S45.r3 : List (AOpr × Nat) := [
  (⟨some 23, .fldA 0 (.tmp 3), none⟩, 0),
  (⟨some 24, .ld1 (.tmp 23), none⟩, 1),
  (⟨some 25, .fldA 3 (.tmp 2), none⟩, 0),
  (⟨some 26, .ld1 (.tmp 25), none⟩, 4),
  (⟨some 27, .arith .sub (.tmp 24) (.tmp 26), none⟩, 15),
  (⟨some 28, .fldA 2 (.tmp 2), none⟩, 0),
  (⟨some 29, .ld1 (.tmp 28), none⟩, 32),
  (⟨some 30, .call (.const (.func (.func 71) [] [])) [.tmp 27, .tmp 29], none⟩, 127),
  (⟨some 31, .fldA 1 (.tmp 3), none⟩, 0),
  (⟨some 32, .ld1 (.tmp 31), none⟩, 256),
  (⟨some 33, .fldA 4 (.tmp 2), none⟩, 0),
  (⟨some 34, .ld1 (.tmp 33), none⟩, 1024),
  (⟨some 35, .arith .sub (.tmp 32) (.tmp 34), none⟩, 3840),
  (⟨some 36, .fldA 2 (.tmp 2), none⟩, 0),
  (⟨some 37, .ld1 (.tmp 36), none⟩, 8192),
  (⟨some 38, .call (.const (.func (.func 71) [] [])) [.tmp 35, .tmp 37], none⟩, 32767),
  (⟨some 39, .build [.int .i64 0, .int .i64 0] [(0, 1, .tmp 30), (1, 1, .tmp 38)], none⟩, 65535),
  (⟨some 5, .new [.int .i64 0, .int .i64 0], none⟩, 0),
  (⟨none, .st 2 (.tmp 5) (.tmp 39), none⟩, 262143)]
def S45.r4 : List AOpr := [
  ⟨some 6, .mov (.const (.int .i64 0)), none⟩]
def S45.r5 : List AOpr := [
  ⟨some 40, .mov (.tmp 6), none⟩,
  ⟨some 41, .fldA 0 (.tmp 2), none⟩,
  ⟨some 42, .ld1 (.tmp 41), none⟩,
  ⟨some 43, .arith .lss (.tmp 40) (.tmp 42), none⟩]
def S45.r6 : List AOpr := [
  ⟨some 46, .fldA 1 (.tmp 5), none⟩,
  ⟨some 47, .ld1 (.tmp 46), none⟩,
  ⟨some 48, .fldA 0 (.tmp 5), none⟩,
  ⟨some 49, .ld1 (.tmp 48), none⟩,
  ⟨some 50, .un .neg (.tmp 49), none⟩,
  ⟨some 51, .arith .sub (.tmp 50) (.const (.int .i64 1)), none⟩,
  ⟨some 52, .build [.int .i64 0, .int .i64 0] [(0, 1, .tmp 47), (1, 1, .tmp 51)], none⟩,
  ⟨none, .st 2 (.tmp 5) (.tmp 52), none⟩]
def S45.r7 : List AOpr := [
  ⟨some 44, .mov (.tmp 6), none⟩,
  ⟨some 45, .arith .add (.tmp 44) (.const (.int .i64 1)), none⟩,
  ⟨some 6, .mov (.tmp 45), none⟩]
def S45.r8 : List AOpr := [
  ⟨some 53, .fldA 1 (.tmp 2), none⟩,
  ⟨some 54, .ld1 (.tmp 53), none⟩]
def S45.r9 : List AOpr := [
  ⟨some 55, .fldA 0 (.tmp 5), none⟩,
  ⟨some 56, .ld1 (.tmp 55), none⟩,
  ⟨some 57, .un .neg (.tmp 56), none⟩,
  ⟨some 58, .arith .sub (.tmp 57) (.const (.int .i64 1)), none⟩,
  ⟨some 59, .fldA 0 (.tmp 5), none⟩,
  ⟨none, .st 1 (.tmp 59) (.tmp 58), none⟩]
def S45.r10 : List AOpr := [
  ⟨some 60, .ldn 2 (.tmp 5), none⟩,
  ⟨none, .st 2 (.tmp 4) (.tmp 60), none⟩]
def S45 : SFn := ⟨61, [.cell 4 (some 2)], .seq (.reg S45.r0) (.seq (.seq (.joinN [2, 3, 4, 21] (.regS S45.r1)) (.cond (.tmp 21) (.seq (.reg S45.r2) (.ret)) (.skip))) (.seq (.draw S45.r3) (.seq (.seq (.reg S45.r4) (.block 0 (.loop [2, 4, 5, 6] [2, 4, 5] (.seq (.seq (.reg S45.r5) (.cond (.tmp 43) (.skip) (.exit 0))) (.seq (.block 1 (.reg S45.r6)) (.reg S45.r7)))))) (.seq (.seq (.reg S45.r8) (.joinN [4, 5] (.cond (.tmp 54) (.reg S45.r9) (.skip)))) (.seq (.reg S45.r10) (.ret))))))⟩
theorem S45_ok : cFn Try.prog Try.f45 = some S45.erase := by kernel_rfl
def g45_s1 (cl : CL) (v2 v3 v4 v16 v18 : AV) (h : AH) (k : List AV → AH → Prop) : Prop :=
  wg (gdv false v16) (fun k => wcall cl (.func (.func 61) [] []) [v18, (.int .i64 2097152)] h k) h fun v19 h =>
  wg (gdv false v16) (fun k => wk (kUn h .not v19) k) h fun v20 h =>
  wk (kPick h v16 (.bool true) v20) fun v21 h =>
  k [v2, v3, v4, v21] h
def g45_s2 (cl : CL) (v2 v3 v4 v8 : AV) (h : AH) (k : List AV → AH → Prop) : Prop :=
  wk (kArith h .neq v8 (.int .i64 0)) fun v9 h =>
  wsp v9 fun v10 =>
  wg (gdv false v10) (fun k => wk (kFldA h 0 v3) k) h fun v11 h =>
  wg (gdv false v10) (fun k => wk (kLd1 h v11) k) h fun v12 h =>
  wg (gdv false v10) (fun k => wcall cl (.func (.func 61) [] []) [v12, (.int .i64 2097152)] h k) h fun v13 h =>
  wg (gdv false v10) (fun k => wk (kUn h .not v13) k) h fun v14 h =>
  wk (kPick h v10 (.bool true) v14) fun v15 h =>
  wsp v15 fun v16 =>
  wg (gdv false v16) (fun k => wk (kFldA h 1 v3) k) h fun v17 h =>
  wg (gdv false v16) (fun k => wk (kLd1 h v17) k) h fun v18 h =>
  g45_s1 cl (v2) (v3) (v4) (v16) (v18) h k
def g45_a1 (cl : CL) (v2 v3 v4 : AV) (h : AH) (k : List AV → AH → Prop) : Prop :=
  wk (kLdn h 5 v2) fun v7 h =>
  wcall cl (.func (.func 65) [] []) [v7] h fun v8 h =>
  g45_s2 cl (v2) (v3) (v4) (v8) h k
def g45_s3 (cl : CL) (v2 v4 v5 v6 v47 v50 : AV) (h : AH) (k : AX → List AV → List AV → AH → Prop) : Prop :=
  wk (kArith h .sub v50 (.int .i64 1)) fun v51 h =>
  wk (kBuild h [.int .i64 0, .int .i64 0] [(0, 1, v47), (1, 1, v51)]) fun v52 h =>
  wk (kSt h 2 v5 v52) fun _ h =>
  wk (kArith h .add v6 (.int .i64 1)) fun v45 h =>
  k .nrm [v2, v4, v5, v45] [v2, v4, v5] h
def g45_l2 (cl : CL) (v2 v4 v5 v6 : AV) (h : AH) (k : AX → List AV → List AV → AH → Prop) : Prop :=
  wk (kFldA h 0 v2) fun v41 h =>
  wk (kLd1 h v41) fun v42 h =>
  wk (kArith h .lss v6 v42) fun v43 h =>
  wif v43 (
  wk (kFldA h 1 v5) fun v46 h =>
  wk (kLd1 h v46) fun v47 h =>
  wk (kFldA h 0 v5) fun v48 h =>
  wk (kLd1 h v48) fun v49 h =>
  wk (kUn h .neg v49) fun v50 h =>
  g45_s3 cl (v2) (v4) (v5) (v6) (v47) (v50) h k) (
  k (.exit 0) [v2, v4, v5, v6] [v2, v4, v5] h)
def g45_a3 (cl : CL) (v4 v5 v54 : AV) (h : AH) (k : List AV → AH → Prop) : Prop :=
  wif v54 (
  wk (kFldA h 0 v5) fun v55 h =>
  wk (kLd1 h v55) fun v56 h =>
  wk (kUn h .neg v56) fun v57 h =>
  wk (kArith h .sub v57 (.int .i64 1)) fun v58 h =>
  wk (kFldA h 0 v5) fun v59 h =>
  wk (kSt h 1 v59 v58) fun _ h =>
  k [v4, v5] h) (
  k [v4, v5] h)
def g45_j4 (cl : CL) (v4 v5 : AV) (h : AH) (Q : AV → AH → Prop) : Prop :=
  wk (kLdn h 2 v5) fun v60 h =>
  wk (kSt h 2 v4 v60) fun _ h =>
  wres (aresV h [.cell (v4) (some 2)]) h Q
def g45_c5 (cl : CL) (v2 v4 v5 : AV) (h : AH) (Q : AV → AH → Prop) : Prop :=
  wk (kFldA h 1 v2) fun v53 h =>
  wk (kLd1 h v53) fun v54 h =>
  wjoinN (g45_a3 cl (v4) (v5) (v54) h) fun vs h => g45_j4 cl (nthD vs 0) (nthD vs 1) h Q
def g45_j6 (cl : CL) (x : AX) (v2 v4 v5 : AV) (h : AH) (Q : AV → AH → Prop) : Prop :=
  xs x (g45_c5 cl (v2) (v4) (v5) h Q) (fun j => cond (Nat.beq j 0) (g45_c5 cl (v2) (v4) (v5) h Q) (False)) (wres (aresV h [.cell (v4) (some 2)]) h Q)
def g45_s4 (cl : CL) (r : Nat) (c1 c3 c6 c7 c9 c11 c14 : Rec) (v2 v4 v30 v38 : AV) (h : AH) (Q : AV → AH → Prop) : Prop :=
  wdp h (kBuild h [.int .i64 0, .int .i64 0] [(0, 1, v30), (1, 1, v38)]) .pure fun v39 c16 h =>
  wda (r + 17) h (alNew [.int .i64 0, .int .i64 0]) fun v5 c17 h =>
  wde h (kSt h 2 v5 v39) fun _ c18 h =>
  recOk c7 c9 = true ∧ recOk c7 c11 = true ∧ recOk c7 c14 = true ∧ recOk c1 c17 = true ∧ recOk c3 c17 = true ∧ recOk c6 c17 = true ∧ recOk c9 c17 = true ∧ recOk c11 c17 = true ∧ recOk c14 c17 = true ∧ wloop (fun vs h k => g45_l2 cl (nthD vs 0) (nthD vs 1) (nthD vs 2) (nthD vs 3) h k) [v2, v4, v5, (.int .i64 0)] h fun x vs h => g45_j6 cl x (nthD vs 0) (nthD vs 1) (nthD vs 2) h Q
def g45_s5 (cl : CL) (r : Nat) (c1 c3 c6 c7 : Rec) (v2 v3 v4 v30 : AV) (h : AH) (Q : AV → AH → Prop) : Prop :=
  wdp h (kFldA h 1 v3) .pure fun v31 c8 h =>
  wdp h (kLd1 h v31) (rdK (rdv v31)) fun v32 c9 h =>
  wdp h (kFldA h 4 v2) .pure fun v33 c10 h =>
  wdp h (kLd1 h v33) (rdK (rdv v33)) fun v34 c11 h =>
  wdp h (kArith h .sub v32 v34) .pure fun v35 c12 h =>
  wdp h (kFldA h 2 v2) .pure fun v36 c13 h =>
  wdp h (kLd1 h v36) (rdK (rdv v36)) fun v37 c14 h =>
  wdc cl (.func (.func 71) [] []) [v35, v37] h fun v38 c15 h =>
  g45_s4 cl r c1 c3 c6 c7 c9 c11 c14 (v2) (v4) (v30) (v38) h Q
def g45_j7 (cl : CL) (v2 v3 v4 v21 : AV) (h : AH) (Q : AV → AH → Prop) : Prop :=
  wif v21 (
  wk (kBuild h [.int .i64 0, .int .i64 0] []) fun v22 h =>
  wk (kSt h 2 v4 v22) fun _ h =>
  wres (aresV h [.cell (v4) (some 2)]) h Q) (
  wdr h 19 fun r h =>
  wdp h (kFldA h 0 v3) .pure fun v23 c0 h =>
  wdp h (kLd1 h v23) (rdK (rdv v23)) fun v24 c1 h =>
  wdp h (kFldA h 3 v2) .pure fun v25 c2 h =>
  wdp h (kLd1 h v25) (rdK (rdv v25)) fun v26 c3 h =>
  wdp h (kArith h .sub v24 v26) .pure fun v27 c4 h =>
  wdp h (kFldA h 2 v2) .pure fun v28 c5 h =>
  wdp h (kLd1 h v28) (rdK (rdv v28)) fun v29 c6 h =>
  wdc cl (.func (.func 71) [] []) [v27, v29] h fun v30 c7 h =>
  g45_s5 cl r c1 c3 c6 c7 (v2) (v3) (v4) (v30) h Q)
def g45 (cl : CL) (v0 v1 : AV) (h : AH) (Q : AV → AH → Prop) : Prop :=
  wk (kBox h v0) fun v2 h =>
  wk (kBox h v1) fun v3 h =>
  wk (kNew h [.int .i64 0, .int .i64 0]) fun v4 h =>
  wjoinN (g45_a1 cl (v2) (v3) (v4) h) fun vs h => g45_j7 cl (nthD vs 0) (nthD vs 1) (nthD vs 2) (nthD vs 3) h Q
theorem g45_eq (cl : CL) (v0 v1 : AV) (h : AH) (Q : AV → AH → Prop) : wrun cl S45 [v0, v1] h Q = g45 cl v0 v1 h Q := by kernel_rfl
theorem C45 {cl : CL} (hcl : CLOk Try.prog cl) {v0 v1 : AV} {h : AH} {Q : AV → AH → Prop} (hg : g45 cl v0 v1 h Q) : CallsA Try.prog 45 [v0, v1] h Q := wfn_ok hcl (f := 45) (fn := Try.f45) (by kernel_rfl) S45_ok (by decide) (by kernel_rfl) (its_nil (by kernel_rfl)) (by rw [g45_eq]; exact hg)

/- widgetry/display.covers -/
def S46.r0 : List AOpr := [
  ⟨some 2, .box (.tmp 0), none⟩,
  ⟨some 3, .box (.tmp 1), none⟩,
  ⟨some 4, .mov (.const (.bool false)), none⟩]
def S46.r1 : List AOpr := [
  ⟨some 6, .fldA 1 (.tmp 2), none⟩,
  ⟨some 7, .ldn 4 (.tmp 6), none⟩,
  ⟨some 8, .ldn 2 (.tmp 3), none⟩,
  ⟨some 9, .call (.const (.func (.func 44) [] [])) [.tmp 7, .tmp 8], none⟩,
  ⟨some 10, .un .not (.tmp 9), none⟩]
def S46.r2 : List AOpr := [
  ⟨some 4, .mov (.const (.bool false)), none⟩]
def S46.r3 : List AOpr := [
  ⟨some 11, .fldA 0 (.tmp 2), none⟩,
  ⟨some 12, .ld1 (.tmp 11), none⟩,
  ⟨some 13, .arith .neq (.tmp 12) (.const (.int .i64 5)), none⟩]
def S46.r4 : List (AOpr × Option Nat) := [
  (⟨some 14, .fldA 0 (.tmp 2), none⟩, none),
  (⟨some 15, .ld1 (.tmp 14), none⟩, none),
  (⟨some 16, .arith .eql (.tmp 15) (.const (.int .i64 4)), none⟩, none),
  (⟨some 17, .mov (.tmp 16), none⟩, none),
  (⟨some 18, .fldA 0 (.tmp 2), some (17, false)⟩, some 17),
  (⟨some 19, .ld1 (.tmp 18), some (17, false)⟩, none),
  (⟨some 20, .arith .eql (.tmp 19) (.const (.int .i64 6)), some (17, false)⟩, none),
  (⟨some 21, .pick (.tmp 17) (.const (.bool true)) (.tmp 20), none⟩, none),
  (⟨some 4, .mov (.tmp 21), none⟩, none)]
def S46.r5 : List AOpr := [
  ⟨some 22, .fldA 0 (.tmp 3), none⟩,
  ⟨some 23, .ld1 (.tmp 22), none⟩,
  ⟨some 24, .fldA 1 (.tmp 2), none⟩,
  ⟨some 25, .fldA 0 (.tmp 24), none⟩,
  ⟨some 26, .ld1 (.tmp 25), none⟩,
  ⟨some 27, .arith .sub (.tmp 23) (.tmp 26), none⟩,
  ⟨some 28, .fldA 12 (.tmp 2), none⟩,
  ⟨some 29, .fldA 3 (.tmp 28), none⟩,
  ⟨some 30, .ld1 (.tmp 29), none⟩,
  ⟨some 31, .arith .add (.tmp 27) (.tmp 30), none⟩,
  ⟨some 5, .new [.int .i64 0], none⟩,
  ⟨none, .st 1 (.tmp 5) (.tmp 31), none⟩]
def S46.r6 : List AOpr := [
  ⟨some 32, .fldA 12 (.tmp 2), none⟩,
  ⟨some 33, .fldA 9 (.tmp 32), none⟩,
  ⟨some 34, .ld1 (.tmp 33), none⟩,
  ⟨some 35, .mkf (.func 72) [] [.tmp 5], none⟩,
  ⟨some 36, .call (.const (.func (.func 63) [] [])) [.tmp 34, .tmp 35], none⟩,
  ⟨some 4, .mov (.tmp 36), none⟩]
def S46 : SFn := ⟨37, [.tmp 4], .seq (.reg S46.r0) (.seq (.seq (.reg S46.r1) (.cond (.tmp 10) (.seq (.reg S46.r2) (.ret)) (.skip))) (.seq (.seq (.reg S46.r3) (.cond (.tmp 13) (.seq (.joinN [4] (.regS S46.r4)) (.ret)) (.skip))) (.seq (.reg S46.r5) (.seq (.reg S46.r6) (.ret)))))⟩
theorem S46_ok : cFn Try.prog Try.f46 = some S46.erase := by kernel_rfl
def g46_a1 (cl : CL) (v2 v4 : AV) (h : AH) (k : List AV → AH → Prop) : Prop :=
  wk (kFldA h 0 v2) fun v14 h =>
  wk (kLd1 h v14) fun v15 h =>
  wk (kArith h .eql v15 (.int .i64 4)) fun v16 h =>
  wsp v16 fun v17 =>
  wg (gdv false v17) (fun k => wk (kFldA h 0 v2) k) h fun v18 h =>
  wg (gdv false v17) (fun k => wk (kLd1 h v18) k) h fun v19 h =>
  wg (gdv false v17) (fun k => wk (kArith h .eql v19 (.int .i64 6)) k) h fun v20 h =>
  wk (kPick h v17 (.bool true) v20) fun v21 h =>
  k [v21] h
def g46_j2 (cl : CL) (v4 : AV) (h : AH) (Q : AV → AH → Prop) : Prop :=
  Q (v4) h
def g46_s1 (cl : CL) (v5 v33 : AV) (h : AH) (Q : AV → AH → Prop) : Prop :=
  wk (kLd1 h v33) fun v34 h =>
  wk (kMkf h (.func 72) [] [v5]) fun v35 h =>
  wcall cl (.func (.func 63) [] []) [v34, v35] h fun v36 h =>
  Q (v36) h
def g46_s2 (cl : CL) (v2 v27 : AV) (h : AH) (Q : AV → AH → Prop) : Prop :=
  wk (kFldA h 12 v2) fun v28 h =>
  wk (kFldA h 3 v28) fun v29 h =>
  wk (kLd1 h v29) fun v30 h =>
  wk (kArith h .add v27 v30) fun v31 h =>
  wk (kNew h [.int .i64 0]) fun v5 h =>
  wk (kSt h 1 v5 v31) fun _ h =>
  wk (kFldA h 12 v2) fun v32 h =>
  wk (kFldA h 9 v32) fun v33 h =>
  g46_s1 cl (v5) (v33) h Q
def g46_s3 (cl : CL) (v2 v3 v4 v11 : AV) (h : AH) (Q : AV → AH → Prop) : Prop :=
  wk (kLd1 h v11) fun v12 h =>
  wk (kArith h .neq v12 (.int .i64 5)) fun v13 h =>
  wif v13 (
  wjoinN (g46_a1 cl (v2) (v4) h) fun vs h => g46_j2 cl (nthD vs 0) h Q) (
  wk (kFldA h 0 v3) fun v22 h =>
  wk (kLd1 h v22) fun v23 h =>
  wk (kFldA h 1 v2) fun v24 h =>
  wk (kFldA h 0 v24) fun v25 h =>
  wk (kLd1 h v25) fun v26 h =>
  wk (kArith h .sub v23 v26) fun v27 h =>
  g46_s2 cl (v2) (v27) h Q)
def g46 (cl : CL) (v0 v1 : AV) (h : AH) (Q : AV → AH → Prop) : Prop :=
  wk (kBox h v0) fun v2 h =>
  wk (kBox h v1) fun v3 h =>
  wk (kFldA h 1 v2) fun v6 h =>
  wk (kLdn h 4 v6) fun v7 h =>
  wk (kLdn h 2 v3) fun v8 h =>
  wcall cl (.func (.func 44) [] []) [v7, v8] h fun v9 h =>
  wk (kUn h .not v9) fun v10 h =>
  wif v10 (
  Q ((.bool false)) h) (
  wk (kFldA h 0 v2) fun v11 h =>
  g46_s3 cl (v2) (v3) ((.bool false)) (v11) h Q)
theorem g46_eq (cl : CL) (v0 v1 : AV) (h : AH) (Q : AV → AH → Prop) : wrun cl S46 [v0, v1] h Q = g46 cl v0 v1 h Q := by kernel_rfl
theorem C46 {cl : CL} (hcl : CLOk Try.prog cl) {v0 v1 : AV} {h : AH} {Q : AV → AH → Prop} (hg : g46 cl v0 v1 h Q) : CallsA Try.prog 46 [v0, v1] h Q := wfn_ok hcl (f := 46) (fn := Try.f46) (by kernel_rfl) S46_ok (by decide) (by kernel_rfl) (its_nil (by kernel_rfl)) (by rw [g46_eq]; exact hg)

/- (*widgetry/widgetrybase.Src).Word -/
def S50.r0 : List AOpr := [
  ⟨some 4, .mov (.const (.str [])), none⟩]
def S50.r1 : List AOpr := [
  ⟨some 8, .mov (.tmp 0), none⟩,
  ⟨some 9, .mov (.tmp 1), none⟩,
  ⟨some 10, .arith .add (.tmp 9) (.const (.int .i64 1)), none⟩,
  ⟨some 11, .call (.const (.func (.func 20) [] [])) [.tmp 8, .tmp 10], none⟩,
  ⟨some 5, .mov (.tmp 11), none⟩]
def S50.r2 : List AOpr := [
  ⟨some 12, .mov (.tmp 5), none⟩,
  ⟨some 13, .mksl 1 1 [.int .u8 0] (.tmp 12) (.tmp 12), none⟩,
  ⟨some 6, .mov (.tmp 13), none⟩]
def S50.r3 : List AOpr := [
  ⟨some 7, .mov (.const (.int .i64 0)), none⟩]
def S50.r4 : List AOpr := [
  ⟨some 14, .mov (.tmp 7), none⟩,
  ⟨some 15, .mov (.tmp 5), none⟩,
  ⟨some 16, .arith .lss (.tmp 14) (.tmp 15), none⟩]
def S50.r5 : List AOpr := [
  ⟨some 19, .mov (.tmp 6), none⟩,
  ⟨some 20, .mov (.tmp 7), none⟩,
  ⟨some 21, .mov (.tmp 0), none⟩,
  ⟨some 22, .call (.const (.func (.func 20) [] [])) [.tmp 21, .const (.int .i64 4)], none⟩,
  ⟨some 23, .arith .add (.const (.int .i64 97)) (.tmp 22), none⟩,
  ⟨some 24, .convI .u8 (.tmp 23), none⟩,
  ⟨some 25, .idxA 1 (.tmp 19) (.tmp 20), none⟩,
  ⟨none, .st 1 (.tmp 25) (.tmp 24), none⟩]
def S50.r6 : List AOpr := [
  ⟨some 17, .mov (.tmp 7), none⟩,
  ⟨some 18, .arith .add (.tmp 17) (.const (.int .i64 1)), none⟩,
  ⟨some 7, .mov (.tmp 18), none⟩]
def S50.r7 : List AOpr := [
  ⟨some 26, .mov (.tmp 6), none⟩,
  ⟨some 27, .xo .b2s [.tmp 26], none⟩,
  ⟨some 4, .mov (.tmp 27), none⟩]
def S50 : SFn := ⟨28, [.tmp 4], .seq (.reg S50.r0) (.seq (.reg S50.r1) (.seq (.reg S50.r2) (.seq (.seq (.reg S50.r3) (.block 0 (.loop [0, 5, 6, 7] [6] (.seq (.seq (.reg S50.r4) (.cond (.tmp 16) (.skip) (.exit 0))) (.seq (.block 1 (.reg S50.r5)) (.reg S50.r6)))))) (.seq (.reg S50.r7) (.ret)))))⟩
theorem S50_ok : cFn Try.prog Try.f50 = some S50.erase := by kernel_rfl
def g50_s1 (cl : CL) (v0 v5 v6 v7 v19 v20 v22 : AV) (h : AH) (k : AX → List AV → List AV → AH → Prop) : Prop :=
  wk (kArith h .add (.int .i64 97) v22) fun v23 h =>
  wk (kConvI h .u8 v23) fun v24 h =>
  wk (kIdxA h 1 v19 v20) fun v25 h =>
  wk (kSt h 1 v25 v24) fun _ h =>
  wk (kArith h .add v7 (.int .i64 1)) fun v18 h =>
  k .nrm [v0, v5, v6, v18] [v6] h
def g50_l1 (cl : CL) (v0 v5 v6 v7 : AV) (h : AH) (k : AX → List AV → List AV → AH → Prop) : Prop :=
  wk (kArith h .lss v7 v5) fun v16 h =>
  wif v16 (
  wcall cl (.func (.func 20) [] []) [v0, (.int .i64 4)] h fun v22 h =>
  g50_s1 cl (v0) (v5) (v6) (v7) (v6) (v7) (v22) h k) (
  k (.exit 0) [v0, v5, v6, v7] [v6] h)
def g50_c2 (cl : CL) (v6 : AV) (h : AH) (Q : AV → AH → Prop) : Prop :=
  wk (kX h .b2s [v6]) fun v27 h =>
  Q (v27) h
def g50_j3 (cl : CL) (x : AX) (v6 : AV) (h : AH) (Q : AV → AH → Prop) : Prop :=
  xs x (g50_c2 cl (v6) h Q) (fun j => cond (Nat.beq j 0) (g50_c2 cl (v6) h Q) (False)) (Q (.undef) h)
def g50 (cl : CL) (v0 v1 : AV) (h : AH) (Q : AV → AH → Prop) : Prop :=
  wk (kArith h .add v1 (.int .i64 1)) fun v10 h =>
  wcall cl (.func (.func 20) [] []) [v0, v10] h fun v11 h =>
  wk (kMksl h 1 1 [.int .u8 0] v11 v11) fun v13 h =>
  wloop (fun vs h k => g50_l1 cl (nthD vs 0) (nthD vs 1) (nthD vs 2) (nthD vs 3) h k) [v0, v11, v13, (.int .i64 0)] h fun x vs h => g50_j3 cl x (nthD vs 0) h Q
theorem g50_eq (cl : CL) (v0 v1 : AV) (h : AH) (Q : AV → AH → Prop) : wrun cl S50 [v0, v1] h Q = g50 cl v0 v1 h Q := by kernel_rfl
theorem C50 {cl : CL} (hcl : CLOk Try.prog cl) {v0 v1 : AV} {h : AH} {Q : AV → AH → Prop} (hg : g50 cl v0 v1 h Q) : CallsA Try.prog 50 [v0, v1] h Q := wfn_ok hcl (f := 50) (fn := Try.f50) (by kernel_rfl) S50_ok (by decide) (by kernel_rfl) (its_nil (by kernel_rfl)) (by rw [g50_eq]; exact hg)

/- widgetry/display.everything -/
def S51.r0 : List AOpr := [
  ⟨some 0, .mov (.const (.nilsl)), none⟩]
def S51.r1 : List AOpr := [
  ⟨some 1, .build [.int .i64 0, .int .i64 0, .int .i64 0, .int .i64 0] [(0, 1, .const (.int .i64 (-1048576))), (1, 1, .const (.int .i64 (-1048576))), (2, 1, .const (.int .i64 1048576)), (3, 1, .const (.int .i64 1048576))], none⟩,
  ⟨some 2, .build [.int .i64 0, .int .i64 0, .int .i64 0, .int .i64 0] [(1, 1, .const (.int .i64 (-1048576))), (2, 1, .const (.int .i64 1048576)), (3, 1, .const (.int .i64 1048576))], none⟩,
  ⟨some 3, .build [.int .i64 0, .int .i64 0, .int .i64 0, .int .i64 0] [(0, 1, .const (.int .i64 (-1048576))), (2, 1, .const (.int .i64 1048576)), (3, 1, .const (.int .i64 1048576))], none⟩,
  ⟨some 4, .build [.int .i64 0, .int .i64 0, .int .i64 0, .int .i64 0] [(2, 1, .const (.int .i64 1048576)), (3, 1, .const (.int .i64 1048576))], none⟩,
  ⟨some 5, .buildSl 4 4 [.int .i64 0, .int .i64 0, .int .i64 0, .int .i64 0, .int .i64 0, .int .i64 0, .int .i64 0, .int .i64 0, .int .i64 0, .int .i64 0, .int .i64 0, .int .i64 0, .int .i64 0, .int .i64 0, .int .i64 0, .int .i64 0] [(0, 4, .tmp 1), (4, 4, .tmp 2), (8, 4, .tmp 3), (12, 4, .tmp 4)], none⟩,
  ⟨some 0, .mov (.tmp 5), none⟩]
def S51 : SFn := ⟨6, [.tmp 0], .seq (.reg S51.r0) (.seq (.reg S51.r1) (.ret))⟩
theorem S51_ok : cFn Try.prog Try.f51 = some S51.erase := by kernel_rfl
def g51 (cl : CL) (h : AH) (Q : AV → AH → Prop) : Prop :=
  wk (kBuild h [.int .i64 0, .int .i64 0, .int .i64 0, .int .i64 0] [(0, 1, (.int .i64 (-1048576))), (1, 1, (.int .i64 (-1048576))), (2, 1, (.int .i64 1048576)), (3, 1, (.int .i64 1048576))]) fun v1 h =>
  wk (kBuild h [.int .i64 0, .int .i64 0, .int .i64 0, .int .i64 0] [(1, 1, (.int .i64 (-1048576))), (2, 1, (.int .i64 1048576)), (3, 1, (.int .i64 1048576))]) fun v2 h =>
  wk (kBuild h [.int .i64 0, .int .i64 0, .int .i64 0, .int .i64 0] [(0, 1, (.int .i64 (-1048576))), (2, 1, (.int .i64 1048576)), (3, 1, (.int .i64 1048576))]) fun v3 h =>
  wk (kBuild h [.int .i64 0, .int .i64 0, .int .i64 0, .int .i64 0] [(2, 1, (.int .i64 1048576)), (3, 1, (.int .i64 1048576))]) fun v4 h =>
  wk (kBuildSl h 4 4 [.int .i64 0, .int .i64 0, .int .i64 0, .int .i64 0, .int .i64 0, .int .i64 0, .int .i64 0, .int .i64 0, .int .i64 0, .int .i64 0, .int .i64 0, .int .i64 0, .int .i64 0, .int .i64 0, .int .i64 0, .int .i64 0] [(0, 4, v1), (4, 4, v2), (8, 4, v3), (12, 4, v4)]) fun v5 h =>
  Q (v5) h
theorem g51_eq (cl : CL) (h : AH) (Q : AV → AH → Prop) : wrun cl S51 [] h Q = g51 cl  h Q := by kernel_rfl
theorem C51 {cl : CL} (hcl : CLOk Try.prog cl) {h : AH} {Q : AV → AH → Prop} (hg : g51 cl  h Q) : CallsA Try.prog 51 [] h Q := wfn_ok hcl (f := 51) (fn := Try.f51) (by kernel_rfl) S51_ok (by decide) (by kernel_rfl) (its_nil (by kernel_rfl)) (by rw [g51_eq]; exact hg)

/- widgetry/display.Damage$1 -/
def S52.r0 : List AOpr := [
  ⟨some 1, .box (.tmp 0), none⟩,
  ⟨some 2, .mov (.const (.bool false)), none⟩]
def S52.r1 : List (AOpr × Option Nat) := [
  (⟨some 3, .fldA 0 (.tmp 1), none⟩, none),
  (⟨some 4, .ld1 (.tmp 3), none⟩, none),
  (⟨some 5, .arith .eql (.tmp 4) (.const (.int .i64 1)), none⟩, none),
  (⟨some 6, .mov (.tmp 5), none⟩, none),
  (⟨some 7, .fldA 0 (.tmp 1), some (6, false)⟩, some 6),
  (⟨some 8, .ld1 (.tmp 7), some (6, false)⟩, none),
  (⟨some 9, .arith .eql (.tmp 8) (.const (.int .i64 2)), some (6, false)⟩, none),
  (⟨some 10, .pick (.tmp 6) (.const (.bool true)) (.tmp 9), none⟩, none),
  (⟨some 11, .mov (.tmp 10), none⟩, none),
  (⟨some 12, .fldA 0 (.tmp 1), some (11, false)⟩, some 11),
  (⟨some 13, .ld1 (.tmp 12), some (11, false)⟩, none),
  (⟨some 14, .arith .eql (.tmp 13) (.const (.int .i64 3)), some (11, false)⟩, none),
  (⟨some 15, .pick (.tmp 11) (.const (.bool true)) (.tmp 14), none⟩, none),
  (⟨some 2, .mov (.tmp 15), none⟩, none)]
def S52 : SFn := ⟨16, [.tmp 2], .seq (.reg S52.r0) (.seq (.regS S52.r1) (.ret))⟩
theorem S52_ok : cFn Try.prog Try.f52 = some S52.erase := by kernel_rfl
def g52_s1 (cl : CL) (v1 v10 : AV) (h : AH) (Q : AV → AH → Prop) : Prop :=
  wsp v10 fun v11 =>
  wg (gdv false v11) (fun k => wk (kFldA h 0 v1) k) h fun v12 h =>
  wg (gdv false v11) (fun k => wk (kLd1 h v12) k) h fun v13 h =>
  wg (gdv false v11) (fun k => wk (kArith h .eql v13 (.int .i64 3)) k) h fun v14 h =>
  wk (kPick h v11 (.bool true) v14) fun v15 h =>
  Q (v15) h
def g52 (cl : CL) (v0 : AV) (h : AH) (Q : AV → AH → Prop) : Prop :=
  wk (kBox h v0) fun v1 h =>
  wk (kFldA h 0 v1) fun v3 h =>
  wk (kLd1 h v3) fun v4 h =>
  wk (kArith h .eql v4 (.int .i64 1)) fun v5 h =>
  wsp v5 fun v6 =>
  wg (gdv false v6) (fun k => wk (kFldA h 0 v1) k) h fun v7 h =>
  wg (gdv false v6) (fun k => wk (kLd1 h v7) k) h fun v8 h =>
  wg (gdv false v6) (fun k => wk (kArith h .eql v8 (.int .i64 2)) k) h fun v9 h =>
  wk (kPick h v6 (.bool true) v9) fun v10 h =>
  g52_s1 cl (v1) (v10) h Q
theorem g52_eq (cl : CL) (v0 : AV) (h : AH) (Q : AV → AH → Prop) : wrun cl S52 [v0] h Q = g52 cl v0 h Q := by kernel_rfl
theorem C52 {cl : CL} (hcl : CLOk Try.prog cl) {v0 : AV} {h : AH} {Q : AV → AH → Prop} (hg : g52 cl v0 h Q) : CallsA Try.prog 52 [v0] h Q := wfn_ok hcl (f := 52) (fn := Try.f52) (by kernel_rfl) S52_ok (by decide) (by kernel_rfl) (its_nil (by kernel_rfl)) (by rw [g52_eq]; exact hg)

/- slices.ContainsFunc[[]widgetry/api.Command,widgetry/api.Command] -/
def S53.r0 : List AOpr := [
  ⟨some 4, .mov (.const (.bool false)), none⟩]
def S53.r1 : List AOpr := [
  ⟨some 5, .mov (.tmp 0), none⟩,
  ⟨some 6, .mov (.tmp 1), none⟩,
  ⟨some 7, .call (.const (.func (.func 74) [] [])) [.tmp 5, .tmp 6], none⟩,
  ⟨some 8, .arith .geq (.tmp 7) (.const (.int .i64 0)), none⟩,
  ⟨some 4, .mov (.tmp 8), none⟩]
def S53 : SFn := ⟨9, [.tmp 4], .seq (.reg S53.r0) (.seq (.reg S53.r1) (.ret))⟩
theorem S53_ok : cFn Try.prog Try.f53 = some S53.erase := by kernel_rfl
def g53 (cl : CL) (v0 v1 : AV) (h : AH) (Q : AV → AH → Prop) : Prop :=
  wcall cl (.func (.func 74) [] []) [v0, v1] h fun v7 h =>
  wk (kArith h .geq v7 (.int .i64 0)) fun v8 h =>
  Q (v8) h
theorem g53_eq (cl : CL) (v0 v1 : AV) (h : AH) (Q : AV → AH → Prop) : wrun cl S53 [v0, v1] h Q = g53 cl v0 v1 h Q := by kernel_rfl
theorem C53 {cl : CL} (hcl : CLOk Try.prog cl) {v0 v1 : AV} {h : AH} {Q : AV → AH → Prop} (hg : g53 cl v0 v1 h Q) : CallsA Try.prog 53 [v0, v1] h Q := wfn_ok hcl (f := 53) (fn := Try.f53) (by kernel_rfl) S53_ok (by decide) (by kernel_rfl) (its_nil (by kernel_rfl)) (by rw [g53_eq]; exact hg)

/- widgetry/display.extents -/
def S54.r0 : List AOpr := [
  ⟨some 6, .new [.nilsl], none⟩,
  ⟨some 7, .new [.bool false], none⟩]
def S54.r1 : List AOpr := [
  ⟨some 8, .mov (.const (.nilsl)), none⟩]
def S54.r2 : List AOpr := [
  ⟨some 9, .mov (.const (.nilsl)), none⟩]
def S54.r3 : List AOpr := [
  ⟨some 15, .mov (.tmp 0), none⟩,
  ⟨some 16, .len (.tmp 15), none⟩,
  ⟨some 17, .mov (.const (.int .i64 0)), none⟩]
def S54.r4 : List AOpr := [
  ⟨some 18, .arith .lss (.tmp 17) (.tmp 16), none⟩]
def S54.r5 : List AOpr := [
  ⟨some 19, .mov (.tmp 17), none⟩,
  ⟨some 20, .idxA 22 (.tmp 15) (.tmp 17), none⟩,
  ⟨some 21, .ldn 22 (.tmp 20), none⟩,
  ⟨some 11, .new [.int .i64 0, .int .i64 0, .int .i64 0, .int .i64 0, .int .i64 0, .int .i64 0, .bool false, .int .i64 0, .int .i64 0, .int .i64 0, .int .i64 0, .str [], .int .i64 0, .int .i64 0, .int .i64 0, .int .i64 0, .int .i64 0, .int .i64 0, .int .i64 0, .int .i64 0, .int .i64 0, .nilsl], none⟩,
  ⟨some 10, .mov (.tmp 19), none⟩,
  ⟨none, .st 22 (.tmp 11) (.tmp 21), none⟩]
def S54.r6 : List AOpr := [
  ⟨some 23, .fldA 0 (.tmp 11), none⟩,
  ⟨some 24, .ld1 (.tmp 23), none⟩,
  ⟨some 25, .arith .eql (.tmp 24) (.const (.int .i64 1)), none⟩,
  ⟨some 22, .mov (.tmp 25), none⟩]
def S54.r7 : List AOpr := [
  ⟨some 26, .mov (.tmp 8), none⟩,
  ⟨some 27, .buildSl 1 1 [.nilptr] [(0, 1, .const (.nilptr))], none⟩,
  ⟨some 28, .app 1 8 (.tmp 26) (.tmp 27), none⟩,
  ⟨some 8, .mov (.tmp 28), none⟩]
def S54.r8 : List AOpr := [
  ⟨some 30, .fldA 0 (.tmp 11), none⟩,
  ⟨some 31, .ld1 (.tmp 30), none⟩,
  ⟨some 32, .arith .eql (.tmp 31) (.const (.int .i64 2)), none⟩,
  ⟨some 29, .mov (.tmp 32), none⟩]
def S54.r9 : List AOpr := [
  ⟨some 33, .mov (.tmp 8), none⟩,
  ⟨some 34, .fldA 5 (.tmp 11), none⟩,
  ⟨some 35, .buildSl 1 1 [.nilptr] [(0, 1, .tmp 34)], none⟩,
  ⟨some 36, .app 1 8 (.tmp 33) (.tmp 35), none⟩,
  ⟨some 8, .mov (.tmp 36), none⟩]
def S54.r10 : List AOpr := [
  ⟨some 38, .fldA 0 (.tmp 11), none⟩,
  ⟨some 39, .ld1 (.tmp 38), none⟩,
  ⟨some 40, .arith .eql (.tmp 39) (.const (.int .i64 3)), none⟩,
  ⟨some 37, .mov (.tmp 40), none⟩]
def S54.r11 : List AOpr := [
  ⟨some 41, .mov (.tmp 8), none⟩,
  ⟨some 42, .mov (.tmp 8), none⟩,
  ⟨some 43, .len (.tmp 42), none⟩,
  ⟨some 44, .arith .sub (.tmp 43) (.const (.int .i64 1)), none⟩,
  ⟨some 45, .sl 1 (.tmp 41) none (some (.tmp 44)) none, none⟩,
  ⟨some 8, .mov (.tmp 45), none⟩]
def S54.r12 : List (AOpr × Option Nat) := [
  (⟨some 47, .mov (.tmp 10), none⟩, none),
  (⟨some 48, .mov (.tmp 1), none⟩, none),
  (⟨some 49, .arith .geq (.tmp 47) (.tmp 48), none⟩, none),
  (⟨some 50, .mov (.tmp 49), none⟩, none),
  (⟨some 51, .mov (.tmp 10), some (50, true)⟩, some 50),
  (⟨some 52, .mov (.tmp 2), some (50, true)⟩, none),
  (⟨some 53, .arith .lss (.tmp 51) (.tmp 52), some (50, true)⟩, none),
  (⟨some 54, .pick (.tmp 50) (.tmp 53) (.const (.bool false)), none⟩, none),
  (⟨some 46, .mov (.tmp 54), none⟩, none)]
def S54.r13 : List AOpr := [
  ⟨some 55, .fldA 1 (.tmp 11), none⟩,
  ⟨some 56, .ldn 4 (.tmp 55), none⟩,
  ⟨some 12, .new [.int .i64 0, .int .i64 0, .int .i64 0, .int .i64 0], none⟩,
  ⟨none, .st 4 (.tmp 12) (.tmp 56), none⟩]
def S54.r14 : List AOpr := [
  ⟨some 57, .mov (.tmp 8), none⟩,
  ⟨some 58, .call (.const (.func (.func 75) [] [])) [.tmp 57], none⟩]
def S54.r15 : List AOpr := [
  ⟨some 14, .mov (.tmp 60), none⟩]
def S54.r16 : List AOpr := [
  ⟨some 61, .mov (.tmp 14), none⟩,
  ⟨some 62, .eqn .ptr true (.tmp 61) (.const (.nilptr)), none⟩]
def S54.r17 : List (AOpr × Nat) := [
  (⟨some 63, .mov (.tmp 14), none⟩, 0),
  (⟨some 64, .nilchk (.tmp 63), none⟩, 1),
  (⟨some 65, .ldn 5 (.tmp 64), none⟩, 3),
  (⟨some 66, .ldn 4 (.tmp 12), none⟩, 0),
  (⟨some 67, .call (.const (.func (.func 76) [] [])) [.tmp 65, .tmp 66], none⟩, 15),
  (⟨none, .st 4 (.tmp 12) (.tmp 67), none⟩, 31)]
def S54.r18 : List AOpr := [
  ⟨some 68, .ldn 4 (.tmp 12), none⟩,
  ⟨some 69, .call (.const (.func (.func 36) [] [])) [.tmp 68], none⟩,
  ⟨some 70, .arith .neq (.tmp 69) (.const (.int .i64 0)), none⟩]
def S54.r19 : List AOpr := [
  ⟨none, .st 1 (.tmp 6) (.const (.nilsl)), none⟩,
  ⟨none, .st 1 (.tmp 7) (.const (.bool false)), none⟩]
def S54.r20 : List AOpr := [
  ⟨some 71, .ldn 4 (.tmp 12), none⟩,
  ⟨some 72, .call (.const (.func (.func 77) [] [])) [.tmp 71], none⟩,
  ⟨some 73, .un .not (.tmp 72), none⟩]
def S54.r21 : List AOpr := [
  ⟨some 74, .mov (.tmp 9), none⟩,
  ⟨some 75, .ldn 4 (.tmp 12), none⟩,
  ⟨some 76, .buildSl 4 1 [.int .i64 0, .int .i64 0, .int .i64 0, .int .i64 0] [(0, 4, .tmp 75)], none⟩,
  ⟨some 77, .app 4 32 (.tmp 74) (.tmp 76), none⟩,
  ⟨some 9, .mov (.tmp 77), none⟩]
def S54.r22 : List AOpr := [
  ⟨some 78, .arith .add (.tmp 17) (.const (.int .i64 1)), none⟩,
  ⟨some 17, .mov (.tmp 78), none⟩]
def S54.r23 : List AOpr := [
  ⟨some 79, .mov (.tmp 9), none⟩,
  ⟨none, .st 1 (.tmp 6) (.tmp 79), none⟩,
  ⟨none, .st 1 (.tmp 7) (.const (.bool true)), none⟩]
def S54 : SFn := ⟨80, [.cell 6 none, .cell 7 none], .seq (.reg S54.r0) (.seq (.reg S54.r1) (.seq (.reg S54.r2) (.seq (.seq (.reg S54.r3) (.block 0 (.loop [1, 2, 6, 7, 8, 9, 15, 16, 17] [6, 7, 9] (.seq (.reg S54.r4) (.seq (.cond (.tmp 18) (.skip) (.exit 0)) (.seq (.join [1, 2, 6, 7, 8, 9, 15, 16, 17] (.block 1 (.seq (.reg S54.r5) (.block 2 (.seq (.reg S54.r6) (.cond (.tmp 22) (.reg S54.r7) (.seq (.reg S54.r8) (.cond (.tmp 29) (.reg S54.r9) (.seq (.reg S54.r10) (.cond (.tmp 37) (.reg S54.r11) (.seq (.joinN [1, 2, 6, 7, 8, 9, 11, 15, 16, 17, 46] (.regS S54.r12)) (.cond (.tmp 46) (.seq (.reg S54.r13) (.seq (.seq (.reg S54.r14) (.block 3 (.rng 85 (.tmp 58) [59, 60] (.reg S54.r15) (.block 4 (.seq (.seq (.reg S54.r16) (.joinN [6, 7, 12] (.cond (.tmp 62) (.draw S54.r17) (.skip)))) (.seq (.reg S54.r18) (.cond (.tmp 70) (.seq (.reg S54.r19) (.ret)) (.skip)))))))) (.seq (.reg S54.r20) (.cond (.tmp 73) (.reg S54.r21) (.skip))))) (.skip))))))))))))) (.reg S54.r22))))))) (.seq (.reg S54.r23) (.ret)))))⟩
theorem S54_ok : cFn Try.prog Try.f54 = some S54.erase := by kernel_rfl
def g54_s1 (cl : CL) (v1 v2 v6 v7 v9 v15 v16 v17 v26 v27 : AV) (h : AH) (k : AX → List AV → AH → Prop) : Prop :=
  wk (kApp h 1 8 v26 v27) fun v28 h =>
  k .nrm [v1, v2, v6, v7, v28, v9, v15, v16, v17] h
def g54_s2 (cl : CL) (v1 v2 v6 v7 v9 v15 v16 v17 v45 : AV) (h : AH) (k : AX → List AV → AH → Prop) : Prop :=
  k .nrm [v1, v2, v6, v7, v45, v9, v15, v16, v17] h
def g54_a1 (cl : CL) (v1 v2 v6 v7 v8 v9 v10 v11 v15 v16 v17 : AV) (h : AH) (k : List AV → AH → Prop) : Prop :=
  wk (kArith h .geq v10 v1) fun v49 h =>
  wsp v49 fun v50 =>
  wg (gdv true v50) (fun k => k v10 h) h fun v51 h =>
  wg (gdv true v50) (fun k => k v2 h) h fun v52 h =>
  wg (gdv true v50) (fun k => wk (kArith h .lss v51 v52) k) h fun v53 h =>
  wk (kPick h v50 v53 (.bool false)) fun v54 h =>
  k [v1, v2, v6, v7, v8, v9, v11, v15, v16, v17, v54] h
def g54_a2 (cl : CL) (v6 v7 v12 v14 v62 : AV) (h : AH) (k : List AV → AH → Prop) : Prop :=
  wif v62 (
  wdr h 6 fun r h =>
  wdp h (kMov h v14) .pure fun v63 c0 h =>
  wdp h (kNilchk h v63) .pure fun v64 c1 h =>
  wdp h (kLdn h 5 v64) (rdK (rdv v64)) fun v65 c2 h =>
  wdp h (kLdn h 4 v12) (rdK (rdv v12)) fun v66 c3 h =>
  wdc cl (.func (.func 76) [] []) [v65, v66] h fun v67 c4 h =>
  wde h (kSt h 4 v12 v67) fun _ c5 h =>
  k [v6, v7, v12] h) (
  k [v6, v7, v12] h)
def g54_j3 (cl : CL) (v6 v7 v12 : AV) (h : AH) (k : AX → AH → Prop) : Prop :=
  wk (kLdn h 4 v12) fun v68 h =>
  wcall cl (.func (.func 36) [] []) [v68] h fun v69 h =>
  wk (kArith h .neq v69 (.int .i64 0)) fun v70 h =>
  wif v70 (
  wk (kSt h 1 v6 (.nilsl)) fun _ h =>
  wk (kSt h 1 v7 (.bool false)) fun _ h =>
  k .ret h) (
  k .nrm h)
def g54_b4 (cl : CL) (v6 v7 v12 v59 v60 : AV) (h : AH) (k : AX → AH → Prop) : Prop :=
  wk (kEqn h .ptr true v60 (.nilptr)) fun v62 h =>
  wjoinN (g54_a2 cl (v6) (v7) (v12) (v60) (v62) h) fun vs h => g54_j3 cl (nthD vs 0) (nthD vs 1) (nthD vs 2) h k
def g54_c5 (cl : CL) (v1 v2 v6 v7 v8 v9 v12 v15 v16 v17 : AV) (h : AH) (k : AX → List AV → AH → Prop) : Prop :=
  wk (kLdn h 4 v12) fun v71 h =>
  wcall cl (.func (.func 77) [] []) [v71] h fun v72 h =>
  wk (kUn h .not v72) fun v73 h =>
  wif v73 (
  wk (kLdn h 4 v12) fun v75 h =>
  wk (kBuildSl h 4 1 [.int .i64 0, .int .i64 0, .int .i64 0, .int .i64 0] [(0, 4, v75)]) fun v76 h =>
  wk (kApp h 4 32 v9 v76) fun v77 h =>
  k .nrm [v1, v2, v6, v7, v8, v77, v15, v16, v17] h) (
  k .nrm [v1, v2, v6, v7, v8, v9, v15, v16, v17] h)
def g54_j6 (cl : CL) (x : AX) (v1 v2 v6 v7 v8 v9 v12 v15 v16 v17 : AV) (h : AH) (k : AX → List AV → AH → Prop) : Prop :=
  xs x (g54_c5 cl (v1) (v2) (v6) (v7) (v8) (v9) (v12) (v15) (v16) (v17) h k) (fun j => cond (Nat.beq j 3) (g54_c5 cl (v1) (v2) (v6) (v7) (v8) (v9) (v12) (v15) (v16) (v17) h k) (cond (Nat.beq j 2) (k .nrm [v1, v2, v6, v7, v8, v9, v15, v16, v17] h) (cond (Nat.beq j 1) (k .nrm [v1, v2, v6, v7, v8, v9, v15, v16, v17] h) (k (.exit j) [v1, v2, v6, v7, v8, v9, v15, v16, v17] h)))) (k .ret [v1, v2, v6, v7, v8, v9, v15, v16, v17] h)
def g54_j7 (cl : CL) (v1 v2 v6 v7 v8 v9 v11 v15 v16 v17 v46 : AV) (h : AH) (k : AX → List AV → AH → Prop) : Prop :=
  wif v46 (
  wk (kFldA h 1 v11) fun v55 h =>
  wk (kLdn h 4 v55) fun v56 h =>
  wk (kNew h [.int .i64 0, .int .i64 0, .int .i64 0, .int .i64 0]) fun v12 h =>
  wk (kSt h 4 v12 v56) fun _ h =>
  wcall cl (.func (.func 75) [] []) [v8] h fun v58 h =>
  wrg 85 v58 (fun x y h k => g54_b4 cl (v6) (v7) (v12) x y h k) h fun x h => g54_j6 cl x (v1) (v2) (v6) (v7) (v8) (v9) (v12) (v15) (v16) (v17) h k) (
  k .nrm [v1, v2, v6, v7, v8, v9, v15, v16, v17] h)
def g54_s3 (cl : CL) (v1 v2 v6 v7 v8 v9 v10 v11 v15 v16 v17 v30 : AV) (h : AH) (k : AX → List AV → AH → Prop) : Prop :=
  wk (kLd1 h v30) fun v31 h =>
  wk (kArith h .eql v31 (.int .i64 2)) fun v32 h =>
  wif v32 (
  wk (kFldA h 5 v11) fun v34 h =>
  wk (kBuildSl h 1 1 [.nilptr] [(0, 1, v34)]) fun v35 h =>
  wk (kApp h 1 8 v8 v35) fun v36 h =>
  k .nrm [v1, v2, v6, v7, v36, v9, v15, v16, v17] h) (
  wk (kFldA h 0 v11) fun v38 h =>
  wk (kLd1 h v38) fun v39 h =>
  wk (kArith h .eql v39 (.int .i64 3)) fun v40 h =>
  wif v40 (
  wk (kLen h v8) fun v43 h =>
  wk (kArith h .sub v43 (.int .i64 1)) fun v44 h =>
  wk (kSl h 1 v8 none (some v44) none) fun v45 h =>
  g54_s2 cl (v1) (v2) (v6) (v7) (v9) (v15) (v16) (v17) (v45) h k) (
  wjoinN (g54_a1 cl (v1) (v2) (v6) (v7) (v8) (v9) (v10) (v11) (v15) (v16) (v17) h) fun vs h => g54_j7 cl (nthD vs 0) (nthD vs 1) (nthD vs 2) (nthD vs 3) (nthD vs 4) (nthD vs 5) (nthD vs 6) (nthD vs 7) (nthD vs 8) (nthD vs 9) (nthD vs 10) h k))
def g54_a8 (cl : CL) (v1 v2 v6 v7 v8 v9 v15 v16 v17 : AV) (h : AH) (k : AX → List AV → AH → Prop) : Prop :=
  wk (kIdxA h 22 v15 v17) fun v20 h =>
  wk (kLdn h 22 v20) fun v21 h =>
  wk (kNew h [.int .i64 0, .int .i64 0, .int .i64 0, .int .i64 0, .int .i64 0, .int .i64 0, .bool false, .int .i64 0, .int .i64 0, .int .i64 0, .int .i64 0, .str [], .int .i64 0, .int .i64 0, .int .i64 0, .int .i64 0, .int .i64 0, .int .i64 0, .int .i64 0, .int .i64 0, .int .i64 0, .nilsl]) fun v11 h =>
  wk (kSt h 22 v11 v21) fun _ h =>
  wk (kFldA h 0 v11) fun v23 h =>
  wk (kLd1 h v23) fun v24 h =>
  wk (kArith h .eql v24 (.int .i64 1)) fun v25 h =>
  wif v25 (
  wk (kBuildSl h 1 1 [.nilptr] [(0, 1, (.nilptr))]) fun v27 h =>
  g54_s1 cl (v1) (v2) (v6) (v7) (v9) (v15) (v16) (v17) (v8) (v27) h k) (
  wk (kFldA h 0 v11) fun v30 h =>
  g54_s3 cl (v1) (v2) (v6) (v7) (v8) (v9) (v17) (v11) (v15) (v16) (v17) (v30) h k)
def g54_j9 (cl : CL) (x : AX) (v1 v2 v6 v7 v8 v9 v15 v16 v17 : AV) (h : AH) (k : AX → List AV → List AV → AH → Prop) : Prop :=
  xs x (wk (kArith h .add v17 (.int .i64 1)) fun v78 h =>
  k .nrm [v1, v2, v6, v7, v8, v9, v15, v16, v78] [v6, v7, v9] h) (fun j => k (.exit j) [v1, v2, v6, v7, v8, v9, v15, v16, v17] [v6, v7, v9] h) (k .ret [v1, v2, v6, v7, v8, v9, v15, v16, v17] [v6, v7, v9] h)
def g54_l10 (cl : CL) (v1 v2 v6 v7 v8 v9 v15 v16 v17 : AV) (h : AH) (k : AX → List AV → List AV → AH → Prop) : Prop :=
  wk (kArith h .lss v17 v16) fun v18 h =>
  wif v18 (
  wjoin (g54_a8 cl (v1) (v2) (v6) (v7) (v8) (v9) (v15) (v16) (v17) h) fun x vs h => g54_j9 cl x (nthD vs 0) (nthD vs 1) (nthD vs 2) (nthD vs 3) (nthD vs 4) (nthD vs 5) (nthD vs 6) (nthD vs 7) (nthD vs 8) h k) (
  k (.exit 0) [v1, v2, v6, v7, v8, v9, v15, v16, v17] [v6, v7, v9] h)
def g54_c11 (cl : CL) (v6 v7 v9 : AV) (h : AH) (Q : AV → AH → Prop) : Prop :=
  wk (kSt h 1 v6 v9) fun _ h =>
  wk (kSt h 1 v7 (.bool true)) fun _ h =>
  wres (aresV h [.cell (v6) none, .cell (v7) none]) h Q
def g54_j12 (cl : CL) (x : AX) (v6 v7 v9 : AV) (h : AH) (Q : AV → AH → Prop) : Prop :=
  xs x (g54_c11 cl (v6) (v7) (v9) h Q) (fun j => cond (Nat.beq j 0) (g54_c11 cl (v6) (v7) (v9) h Q) (False)) (wres (aresV h [.cell (v6) none, .cell (v7) none]) h Q)
def g54 (cl : CL) (v0 v1 v2 : AV) (h : AH) (Q : AV → AH → Prop) : Prop :=
  wk (kNew h [.nilsl]) fun v6 h =>
  wk (kNew h [.bool false]) fun v7 h =>
  wk (kLen h v0) fun v16 h =>
  wloop (fun vs h k => g54_l10 cl (nthD vs 0) (nthD vs 1) (nthD vs 2) (nthD vs 3) (nthD vs 4) (nthD vs 5) (nthD vs 6) (nthD vs 7) (nthD vs 8) h k) [v1, v2, v6, v7, (.nilsl), (.nilsl), v0, v16, (.int .i64 0)] h fun x vs h => g54_j12 cl x (nthD vs 0) (nthD vs 1) (nthD vs 2) h Q
theorem g54_eq (cl : CL) (v0 v1 v2 : AV) (h : AH) (Q : AV → AH → Prop) : wrun cl S54 [v0, v1, v2] h Q = g54 cl v0 v1 v2 h Q := by kernel_rfl
theorem C54 {cl : CL} (hcl : CLOk Try.prog cl) (hit : BackOk Try.prog 85) {v0 v1 v2 : AV} {h : AH} {Q : AV → AH → Prop} (hg : g54 cl v0 v1 v2 h Q) : CallsA Try.prog 54 [v0, v1, v2] h Q := wfn_ok hcl (f := 54) (fn := Try.f54) (by kernel_rfl) S54_ok (by decide) (by kernel_rfl) (its_one (by kernel_rfl) hit) (by rw [g54_eq]; exact hg)

end Go.Proofs.Ytpnekpbehcbmkaa
