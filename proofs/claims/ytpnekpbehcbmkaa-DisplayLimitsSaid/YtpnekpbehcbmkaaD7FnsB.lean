/- Functions of the laws: their code with joins and live registers, and what they are as plain transformers of predicates; printed by a program of ours. -/
import Derived.Test.YtpnekpbehcbmkaaProg
import Derived.Test.YtpnekpbehcbmkaaD7A
import Derived.KernelRfl
set_option linter.unusedSimpArgs false
set_option linter.unusedVariables false
set_option linter.unnecessarySimpa false
namespace Go.Proofs.Ytpnekpbehcbmkaa
open Go.Eng
set_option maxRecDepth 100000
/- widgetry/display.point -/
def S43.r0 : List AOpr := [
  ⟨some 1, .box (.tmp 0), none⟩,
  ⟨some 2, .mov (.const (.bool false)), none⟩]
def S43.r1 : List (AOpr × Option Nat) := [
  (⟨some 3, .fldA 0 (.tmp 1), none⟩, none),
  (⟨some 4, .ld1 (.tmp 3), none⟩, none),
  (⟨some 5, .arith .geq (.tmp 4) (.const (.int .i64 (-2097152))), none⟩, none),
  (⟨some 6, .mov (.tmp 5), none⟩, none),
  (⟨some 7, .fldA 0 (.tmp 1), some (6, true)⟩, some 6),
  (⟨some 8, .ld1 (.tmp 7), some (6, true)⟩, none),
  (⟨some 9, .arith .leq (.tmp 8) (.const (.int .i64 2097152)), some (6, true)⟩, none),
  (⟨some 10, .pick (.tmp 6) (.tmp 9) (.const (.bool false)), none⟩, none),
  (⟨some 11, .mov (.tmp 10), none⟩, none),
  (⟨some 12, .fldA 1 (.tmp 1), some (11, true)⟩, some 11),
  (⟨some 13, .ld1 (.tmp 12), some (11, true)⟩, none),
  (⟨some 14, .arith .geq (.tmp 13) (.const (.int .i64 (-2097152))), some (11, true)⟩, none),
  (⟨some 15, .pick (.tmp 11) (.tmp 14) (.const (.bool false)), none⟩, none),
  (⟨some 16, .mov (.tmp 15), none⟩, none),
  (⟨some 17, .fldA 1 (.tmp 1), some (16, true)⟩, some 16),
  (⟨some 18, .ld1 (.tmp 17), some (16, true)⟩, none),
  (⟨some 19, .arith .leq (.tmp 18) (.const (.int .i64 2097152)), some (16, true)⟩, none),
  (⟨some 20, .pick (.tmp 16) (.tmp 19) (.const (.bool false)), none⟩, none),
  (⟨some 2, .mov (.tmp 20), none⟩, none)]
def S43 : SFn := ⟨21, [.tmp 2], .seq (.reg S43.r0) (.seq (.regS S43.r1) (.ret))⟩
theorem S43_ok : cFn Try.prog Try.f43 = some S43.erase := by kernel_rfl
def g43_s1 (cl : CL) (v20 : AV) (h : AH) (Q : AV → AH → Prop) : Prop :=
  Q (v20) h
def g43_s2 (cl : CL) (v1 v10 : AV) (h : AH) (Q : AV → AH → Prop) : Prop :=
  wsp v10 fun v11 =>
  wg (gdv true v11) (fun k => wk (kFldA h 1 v1) k) h fun v12 h =>
  wg (gdv true v11) (fun k => wk (kLd1 h v12) k) h fun v13 h =>
  wg (gdv true v11) (fun k => wk (kArith h .geq v13 (.int .i64 (-2097152))) k) h fun v14 h =>
  wk (kPick h v11 v14 (.bool false)) fun v15 h =>
  wsp v15 fun v16 =>
  wg (gdv true v16) (fun k => wk (kFldA h 1 v1) k) h fun v17 h =>
  wg (gdv true v16) (fun k => wk (kLd1 h v17) k) h fun v18 h =>
  wg (gdv true v16) (fun k => wk (kArith h .leq v18 (.int .i64 2097152)) k) h fun v19 h =>
  wk (kPick h v16 v19 (.bool false)) fun v20 h =>
  g43_s1 cl (v20) h Q
def g43 (cl : CL) (v0 : AV) (h : AH) (Q : AV → AH → Prop) : Prop :=
  wk (kBox h v0) fun v1 h =>
  wk (kFldA h 0 v1) fun v3 h =>
  wk (kLd1 h v3) fun v4 h =>
  wk (kArith h .geq v4 (.int .i64 (-2097152))) fun v5 h =>
  wsp v5 fun v6 =>
  wg (gdv true v6) (fun k => wk (kFldA h 0 v1) k) h fun v7 h =>
  wg (gdv true v6) (fun k => wk (kLd1 h v7) k) h fun v8 h =>
  wg (gdv true v6) (fun k => wk (kArith h .leq v8 (.int .i64 2097152)) k) h fun v9 h =>
  wk (kPick h v6 v9 (.bool false)) fun v10 h =>
  g43_s2 cl (v1) (v10) h Q
theorem g43_eq (cl : CL) (v0 : AV) (h : AH) (Q : AV → AH → Prop) : wrun cl S43 [v0] h Q = g43 cl v0 h Q := by kernel_rfl
theorem C43 {cl : CL} (hcl : CLOk Try.prog cl) {v0 : AV} {h : AH} {Q : AV → AH → Prop} (hg : g43 cl v0 h Q) : CallsA Try.prog 43 [v0] h Q := wfn_ok hcl (f := 43) (fn := Try.f43) (by kernel_rfl) S43_ok (by decide) (by kernel_rfl) (its_nil (by kernel_rfl)) (by rw [g43_eq]; exact hg)

/- widgetry/geometry.Contains -/
def S44.r0 : List AOpr := [
  ⟨some 2, .box (.tmp 0), none⟩,
  ⟨some 3, .box (.tmp 1), none⟩,
  ⟨some 4, .mov (.const (.bool false)), none⟩]
def S44.r1 : List AOpr := [
  ⟨some 5, .ldn 4 (.tmp 2), none⟩,
  ⟨some 6, .call (.const (.func (.func 70) [] [])) [.tmp 5], none⟩,
  ⟨none, .st 4 (.tmp 2) (.tmp 6), none⟩]
def S44.r2 : List (AOpr × Option Nat) := [
  (⟨some 7, .fldA 0 (.tmp 2), none⟩, none),
  (⟨some 8, .ld1 (.tmp 7), none⟩, none),
  (⟨some 9, .fldA 0 (.tmp 3), none⟩, none),
  (⟨some 10, .ld1 (.tmp 9), none⟩, none),
  (⟨some 11, .arith .leq (.tmp 8) (.tmp 10), none⟩, none),
  (⟨some 12, .mov (.tmp 11), none⟩, none),
  (⟨some 13, .fldA 0 (.tmp 3), some (12, true)⟩, some 12),
  (⟨some 14, .ld1 (.tmp 13), some (12, true)⟩, none),
  (⟨some 15, .fldA 0 (.tmp 2), some (12, true)⟩, none),
  (⟨some 16, .ld1 (.tmp 15), some (12, true)⟩, none),
  (⟨some 17, .fldA 2 (.tmp 2), some (12, true)⟩, none),
  (⟨some 18, .ld1 (.tmp 17), some (12, true)⟩, none),
  (⟨some 19, .arith .add (.tmp 16) (.tmp 18), some (12, true)⟩, none),
  (⟨some 20, .arith .lss (.tmp 14) (.tmp 19), some (12, true)⟩, none),
  (⟨some 21, .pick (.tmp 12) (.tmp 20) (.const (.bool false)), none⟩, none),
  (⟨some 22, .mov (.tmp 21), none⟩, none),
  (⟨some 23, .fldA 1 (.tmp 2), some (22, true)⟩, some 22),
  (⟨some 24, .ld1 (.tmp 23), some (22, true)⟩, none),
  (⟨some 25, .fldA 1 (.tmp 3), some (22, true)⟩, none),
  (⟨some 26, .ld1 (.tmp 25), some (22, true)⟩, none),
  (⟨some 27, .arith .leq (.tmp 24) (.tmp 26), some (22, true)⟩, none),
  (⟨some 28, .pick (.tmp 22) (.tmp 27) (.const (.bool false)), none⟩, none),
  (⟨some 29, .mov (.tmp 28), none⟩, none),
  (⟨some 30, .fldA 1 (.tmp 3), some (29, true)⟩, some 29),
  (⟨some 31, .ld1 (.tmp 30), some (29, true)⟩, none),
  (⟨some 32, .fldA 1 (.tmp 2), some (29, true)⟩, none),
  (⟨some 33, .ld1 (.tmp 32), some (29, true)⟩, none),
  (⟨some 34, .fldA 3 (.tmp 2), some (29, true)⟩, none),
  (⟨some 35, .ld1 (.tmp 34), some (29, true)⟩, none),
  (⟨some 36, .arith .add (.tmp 33) (.tmp 35), some (29, true)⟩, none),
  (⟨some 37, .arith .lss (.tmp 31) (.tmp 36), some (29, true)⟩, none),
  (⟨some 38, .pick (.tmp 29) (.tmp 37) (.const (.bool false)), none⟩, none),
  (⟨some 4, .mov (.tmp 38), none⟩, none)]
def S44 : SFn := ⟨39, [.tmp 4], .seq (.reg S44.r0) (.seq (.reg S44.r1) (.seq (.regS S44.r2) (.ret)))⟩
theorem S44_ok : cFn Try.prog Try.f44 = some S44.erase := by kernel_rfl
def g44_s1 (cl : CL) (v29 v31 v36 : AV) (h : AH) (Q : AV → AH → Prop) : Prop :=
  wg (gdv true v29) (fun k => wk (kArith h .lss v31 v36) k) h fun v37 h =>
  wk (kPick h v29 v37 (.bool false)) fun v38 h =>
  Q (v38) h
def g44_s2 (cl : CL) (v2 v3 v22 v27 : AV) (h : AH) (Q : AV → AH → Prop) : Prop :=
  wk (kPick h v22 v27 (.bool false)) fun v28 h =>
  wsp v28 fun v29 =>
  wg (gdv true v29) (fun k => wk (kFldA h 1 v3) k) h fun v30 h =>
  wg (gdv true v29) (fun k => wk (kLd1 h v30) k) h fun v31 h =>
  wg (gdv true v29) (fun k => wk (kFldA h 1 v2) k) h fun v32 h =>
  wg (gdv true v29) (fun k => wk (kLd1 h v32) k) h fun v33 h =>
  wg (gdv true v29) (fun k => wk (kFldA h 3 v2) k) h fun v34 h =>
  wg (gdv true v29) (fun k => wk (kLd1 h v34) k) h fun v35 h =>
  wg (gdv true v29) (fun k => wk (kArith h .add v33 v35) k) h fun v36 h =>
  g44_s1 cl (v29) (v31) (v36) h Q
def g44_s3 (cl : CL) (v2 v3 v12 v14 v16 v18 : AV) (h : AH) (Q : AV → AH → Prop) : Prop :=
  wg (gdv true v12) (fun k => wk (kArith h .add v16 v18) k) h fun v19 h =>
  wg (gdv true v12) (fun k => wk (kArith h .lss v14 v19) k) h fun v20 h =>
  wk (kPick h v12 v20 (.bool false)) fun v21 h =>
  wsp v21 fun v22 =>
  wg (gdv true v22) (fun k => wk (kFldA h 1 v2) k) h fun v23 h =>
  wg (gdv true v22) (fun k => wk (kLd1 h v23) k) h fun v24 h =>
  wg (gdv true v22) (fun k => wk (kFldA h 1 v3) k) h fun v25 h =>
  wg (gdv true v22) (fun k => wk (kLd1 h v25) k) h fun v26 h =>
  wg (gdv true v22) (fun k => wk (kArith h .leq v24 v26) k) h fun v27 h =>
  g44_s2 cl (v2) (v3) (v22) (v27) h Q
def g44_s4 (cl : CL) (v2 v3 v8 v9 : AV) (h : AH) (Q : AV → AH → Prop) : Prop :=
  wk (kLd1 h v9) fun v10 h =>
  wk (kArith h .leq v8 v10) fun v11 h =>
  wsp v11 fun v12 =>
  wg (gdv true v12) (fun k => wk (kFldA h 0 v3) k) h fun v13 h =>
  wg (gdv true v12) (fun k => wk (kLd1 h v13) k) h fun v14 h =>
  wg (gdv true v12) (fun k => wk (kFldA h 0 v2) k) h fun v15 h =>
  wg (gdv true v12) (fun k => wk (kLd1 h v15) k) h fun v16 h =>
  wg (gdv true v12) (fun k => wk (kFldA h 2 v2) k) h fun v17 h =>
  wg (gdv true v12) (fun k => wk (kLd1 h v17) k) h fun v18 h =>
  g44_s3 cl (v2) (v3) (v12) (v14) (v16) (v18) h Q
def g44 (cl : CL) (v0 v1 : AV) (h : AH) (Q : AV → AH → Prop) : Prop :=
  wk (kBox h v0) fun v2 h =>
  wk (kBox h v1) fun v3 h =>
  wk (kLdn h 4 v2) fun v5 h =>
  wcall cl (.func (.func 70) [] []) [v5] h fun v6 h =>
  wk (kSt h 4 v2 v6) fun _ h =>
  wk (kFldA h 0 v2) fun v7 h =>
  wk (kLd1 h v7) fun v8 h =>
  wk (kFldA h 0 v3) fun v9 h =>
  g44_s4 cl (v2) (v3) (v8) (v9) h Q
theorem g44_eq (cl : CL) (v0 v1 : AV) (h : AH) (Q : AV → AH → Prop) : wrun cl S44 [v0, v1] h Q = g44 cl v0 v1 h Q := by kernel_rfl
theorem C44 {cl : CL} (hcl : CLOk Try.prog cl) {v0 v1 : AV} {h : AH} {Q : AV → AH → Prop} (hg : g44 cl v0 v1 h Q) : CallsA Try.prog 44 [v0, v1] h Q := wfn_ok hcl (f := 44) (fn := Try.f44) (by kernel_rfl) S44_ok (by decide) (by kernel_rfl) (its_nil (by kernel_rfl)) (by rw [g44_eq]; exact hg)

/- widgetry/geometry.Back -/
def S45.r0 : List AOpr := [
  ⟨some 2, .box (.tmp 0), none⟩,
  ⟨some 3, .box (.tmp 1), none⟩,
  ⟨some 4, .new [.int .i64 0, .int .i64 0], none⟩]
def S45.r1 : List (AOpr × Option Nat) := [
  (⟨some 7, .ldn 5 (.tmp 2), none⟩, none),
  (⟨some 8, .call (.const (.func (.func 65) [] [])) [.tmp 7], none⟩, none),
  (⟨some 9, .arith .neq (.tmp 8) (.const (.int .i64 0)), none⟩, none),
  (⟨some 10, .mov (.tmp 9), none⟩, none),
  (⟨some 11, .fldA 0 (.tmp 3), some (10, false)⟩, some 10),
  (⟨some 12, .ld1 (.tmp 11), some (10, false)⟩, none),
  (⟨some 13, .call (.const (.func (.func 61) [] [])) [.tmp 12, .const (.int .i64 2097152)], some (10, false)⟩, none),
  (⟨some 14, .un .not (.tmp 13), some (10, false)⟩, none),
  (⟨some 15, .pick (.tmp 10) (.const (.bool true)) (.tmp 14), none⟩, none),
  (⟨some 16, .mov (.tmp 15), none⟩, none),
  (⟨some 17, .fldA 1 (.tmp 3), some (16, false)⟩, some 16),
  (⟨some 18, .ld1 (.tmp 17), some (16, false)⟩, none),
  (⟨some 19, .call (.const (.func (.func 61) [] [])) [.tmp 18, .const (.int .i64 2097152)], some (16, false)⟩, none),
  (⟨some 20, .un .not (.tmp 19), some (16, false)⟩, none),
  (⟨some 21, .pick (.tmp 16) (.const (.bool true)) (.tmp 20), none⟩, none)]
def S45.r2 : List AOpr := [
  ⟨some 22, .build [.int .i64 0, .int .i64 0] [], none⟩,
  ⟨none, .st 2 (.tmp 4) (.tmp 22), none⟩]
def S45.r3 : List (AOpr × Nat) := [
  (⟨some 23, .fldA 0 (.tmp 3), none⟩, 0),
  (⟨some 24, .ld1 (.tmp 23), none⟩, 1),
  (⟨some 25, .fldA 3 (.tmp 2), none⟩, 0),
  (⟨some 26, .ld1 (.tmp 25), none⟩, 4),
  (⟨some 27, .arith .sub (.tmp 24) (.tmp 26), none⟩, 15),
  (⟨some 28, .fldA 2 (.tmp 2), none⟩, 0),
  (⟨some 29, .ld1 (.tmp 28), none⟩, 32),
  (⟨some 30, .call (.const (.func (.func 71) [] [])) [.tmp 27, .tmp 29], none⟩, 127),
  (⟨some 31, .fldA 1 (.tmp 3), none⟩, 0),
  (⟨some 32, .ld1 (.tmp 31), none⟩, 256),
  (⟨some 33, .fldA 4 (.tmp 2), none⟩, 0),
  (⟨some 34, .ld1 (.tmp 33), none⟩, 1024),
  (⟨some 35, .arith .sub (.tmp 32) (.tmp 34), none⟩, 3840),
  (⟨some 36, .fldA 2 (.tmp 2), none⟩, 0),
  (⟨some 37, .ld1 (.tmp 36), none⟩, 8192),
  (⟨some 38, .call (.const (.func (.func 71) [] [])) [.tmp 35, .tmp 37], none⟩, 32767),
  (⟨some 39, .build [.int .i64 0, .int .i64 0] [(0, 1, .tmp 30), (1, 1, .tmp 38)], none⟩, 65535),
  (⟨some 5, .new [.int .i64 0, .int .i64 0], none⟩, 0),
  (⟨none, .st 2 (.tmp 5) (.tmp 39), none⟩, 262143)]
def S45.r4 : List AOpr := [
  ⟨some 6, .mov (.const (.int .i64 0)), none⟩]
def S45.r5 : List AOpr := [
  ⟨some 40, .mov (.tmp 6), none⟩,
  ⟨some 41, .fldA 0 (.tmp 2), none⟩,
  ⟨some 42, .ld1 (.tmp 41), none⟩,
  ⟨some 43, .arith .lss (.tmp 40) (.tmp 42), none⟩]
def S45.r6 : List AOpr := [
  ⟨some 46, .fldA 1 (.tmp 5), none⟩,
  ⟨some 47, .ld1 (.tmp 46), none⟩,
  ⟨some 48, .fldA 0 (.tmp 5), none⟩,
  ⟨some 49, .ld1 (.tmp 48), none⟩,
  ⟨some 50, .un .neg (.tmp 49), none⟩,
  ⟨some 51, .arith .sub (.tmp 50) (.const (.int .i64 1)), none⟩,
  ⟨some 52, .build [.int .i64 0, .int .i64 0] [(0, 1, .tmp 47), (1, 1, .tmp 51)], none⟩,
  ⟨none, .st 2 (.tmp 5) (.tmp 52), none⟩]
def S45.r7 : List AOpr := [
  ⟨some 44, .mov (.tmp 6), none⟩,
  ⟨some 45, .arith .add (.tmp 44) (.const (.int .i64 1)), none⟩,
  ⟨some 6, .mov (.tmp 45), none⟩]
def S45.r8 : List AOpr := [
  ⟨some 53, .fldA 1 (.tmp 2), none⟩,
  ⟨some 54, .ld1 (.tmp 53), none⟩]
def S45.r9 : List AOpr := [
  ⟨some 55, .fldA 0 (.tmp 5), none⟩,
  ⟨some 56, .ld1 (.tmp 55), none⟩,
  ⟨some 57, .un .neg (.tmp 56), none⟩,
  ⟨some 58, .arith .sub (.tmp 57) (.const (.int .i64 1)), none⟩,
  ⟨some 59, .fldA 0 (.tmp 5), none⟩,
  ⟨none, .st 1 (.tmp 59) (.tmp 58), none⟩]
def S45.r10 : List AOpr := [
  ⟨some 60, .ldn 2 (.tmp 5), none⟩,
  ⟨none, .st 2 (.tmp 4) (.tmp 60), none⟩]
def S45 : SFn := ⟨61, [.cell 4 (some 2)], .seq (.reg S45.r0) (.seq (.seq (.joinN [2, 3, 4, 21] (.regS S45.r1)) (.cond (.tmp 21) (.seq (.reg S45.r2) (.ret)) (.skip))) (.seq (.draw S45.r3) (.seq (.seq (.reg S45.r4) (.block 0 (.loop [2, 4, 5, 6] [2, 4, 5] (.seq (.seq (.reg S45.r5) (.cond (.tmp 43) (.skip) (.exit 0))) (.seq (.block 1 (.reg S45.r6)) (.reg S45.r7)))))) (.seq (.seq (.reg S45.r8) (.joinN [4, 5] (.cond (.tmp 54) (.reg S45.r9) (.skip)))) (.seq (.reg S45.r10) (.ret))))))⟩
theorem S45_ok : cFn Try.prog Try.f45 = some S45.erase := by kernel_rfl
def g45_s1 (cl : CL) (v2 v3 v4 v16 v18 : AV) (h : AH) (k : List AV → AH → Prop) : Prop :=
  wg (gdv false v16) (fun k => wcall cl (.func (.func 61) [] []) [v18, (.int .i64 2097152)] h k) h fun v19 h =>
  wg (gdv false v16) (fun k => wk (kUn h .not v19) k) h fun v20 h =>
  wk (kPick h v16 (.bool true) v20) fun v21 h =>
  k [v2, v3, v4, v21] h
def g45_s2 (cl : CL) (v2 v3 v4 v8 : AV) (h : AH) (k : List AV → AH → Prop) : Prop :=
  wk (kArith h .neq v8 (.int .i64 0)) fun v9 h =>
  wsp v9 fun v10 =>
  wg (gdv false v10) (fun k => wk (kFldA h 0 v3) k) h fun v11 h =>
  wg (gdv false v10) (fun k => wk (kLd1 h v11) k) h fun v12 h =>
  wg (gdv false v10) (fun k => wcall cl (.func (.func 61) [] []) [v12, (.int .i64 2097152)] h k) h fun v13 h =>
  wg (gdv false v10) (fun k => wk (kUn h .not v13) k) h fun v14 h =>
  wk (kPick h v10 (.bool true) v14) fun v15 h =>
  wsp v15 fun v16 =>
  wg (gdv false v16) (fun k => wk (kFldA h 1 v3) k) h fun v17 h =>
  wg (gdv false v16) (fun k => wk (kLd1 h v17) k) h fun v18 h =>
  g45_s1 cl (v2) (v3) (v4) (v16) (v18) h k
def g45_a1 (cl : CL) (v2 v3 v4 : AV) (h : AH) (k : List AV → AH → Prop) : Prop :=
  wk (kLdn h 5 v2) fun v7 h =>
  wcall cl (.func (.func 65) [] []) [v7] h fun v8 h =>
  g45_s2 cl (v2) (v3) (v4) (v8) h k
def g45_s3 (cl : CL) (v2 v4 v5 v6 v47 v50 : AV) (h : AH) (k : AX → List AV → List AV → AH → Prop) : Prop :=
  wk (kArith h .sub v50 (.int .i64 1)) fun v51 h =>
  wk (kBuild h [.int .i64 0, .int .i64 0] [(0, 1, v47), (1, 1, v51)]) fun v52 h =>
  wk (kSt h 2 v5 v52) fun _ h =>
  wk (kArith h .add v6 (.int .i64 1)) fun v45 h =>
  k .nrm [v2, v4, v5, v45] [v2, v4, v5] h
def g45_l2 (cl : CL) (v2 v4 v5 v6 : AV) (h : AH) (k : AX → List AV → List AV → AH → Prop) : Prop :=
  wk (kFldA h 0 v2) fun v41 h =>
  wk (kLd1 h v41) fun v42 h =>
  wk (kArith h .lss v6 v42) fun v43 h =>
  wif v43 (
  wk (kFldA h 1 v5) fun v46 h =>
  wk (kLd1 h v46) fun v47 h =>
  wk (kFldA h 0 v5) fun v48 h =>
  wk (kLd1 h v48) fun v49 h =>
  wk (kUn h .neg v49) fun v50 h =>
  g45_s3 cl (v2) (v4) (v5) (v6) (v47) (v50) h k) (
  k (.exit 0) [v2, v4, v5, v6] [v2, v4, v5] h)
def g45_a3 (cl : CL) (v4 v5 v54 : AV) (h : AH) (k : List AV → AH → Prop) : Prop :=
  wif v54 (
  wk (kFldA h 0 v5) fun v55 h =>
  wk (kLd1 h v55) fun v56 h =>
  wk (kUn h .neg v56) fun v57 h =>
  wk (kArith h .sub v57 (.int .i64 1)) fun v58 h =>
  wk (kFldA h 0 v5) fun v59 h =>
  wk (kSt h 1 v59 v58) fun _ h =>
  k [v4, v5] h) (
  k [v4, v5] h)
def g45_j4 (cl : CL) (v4 v5 : AV) (h : AH) (Q : AV → AH → Prop) : Prop :=
  wk (kLdn h 2 v5) fun v60 h =>
  wk (kSt h 2 v4 v60) fun _ h =>
  wres (aresV h [.cell (v4) (some 2)]) h Q
def g45_c5 (cl : CL) (v2 v4 v5 : AV) (h : AH) (Q : AV → AH → Prop) : Prop :=
  wk (kFldA h 1 v2) fun v53 h =>
  wk (kLd1 h v53) fun v54 h =>
  wjoinN (g45_a3 cl (v4) (v5) (v54) h) fun vs h => g45_j4 cl (nthD vs 0) (nthD vs 1) h Q
def g45_j6 (cl : CL) (x : AX) (v2 v4 v5 : AV) (h : AH) (Q : AV → AH → Prop) : Prop :=
  xs x (g45_c5 cl (v2) (v4) (v5) h Q) (fun j => cond (Nat.beq j 0) (g45_c5 cl (v2) (v4) (v5) h Q) (False)) (wres (aresV h [.cell (v4) (some 2)]) h Q)
def g45_s4 (cl : CL) (r : Nat) (c1 c3 c6 c7 c9 c11 c14 : Rec) (v2 v4 v30 v38 : AV) (h : AH) (Q : AV → AH → Prop) : Prop :=
  wdp h (kBuild h [.int .i64 0, .int .i64 0] [(0, 1, v30), (1, 1, v38)]) .pure fun v39 c16 h =>
  wda (r + 17) h (alNew [.int .i64 0, .int .i64 0]) fun v5 c17 h =>
  wde h (kSt h 2 v5 v39) fun _ c18 h =>
  recOk c7 c9 = true ∧ recOk c7 c11 = true ∧ recOk c7 c14 = true ∧ recOk c1 c17 = true ∧ recOk c3 c17 = true ∧ recOk c6 c17 = true ∧ recOk c9 c17 = true ∧ recOk c11 c17 = true ∧ recOk c14 c17 = true ∧ wloop (fun vs h k => g45_l2 cl (nthD vs 0) (nthD vs 1) (nthD vs 2) (nthD vs 3) h k) [v2, v4, v5, (.int .i64 0)] h fun x vs h => g45_j6 cl x (nthD vs 0) (nthD vs 1) (nthD vs 2) h Q
def g45_s5 (cl : CL) (r : Nat) (c1 c3 c6 c7 : Rec) (v2 v3 v4 v30 : AV) (h : AH) (Q : AV → AH → Prop) : Prop :=
  wdp h (kFldA h 1 v3) .pure fun v31 c8 h =>
  wdp h (kLd1 h v31) (rdK (rdv v31)) fun v32 c9 h =>
  wdp h (kFldA h 4 v2) .pure fun v33 c10 h =>
  wdp h (kLd1 h v33) (rdK (rdv v33)) fun v34 c11 h =>
  wdp h (kArith h .sub v32 v34) .pure fun v35 c12 h =>
  wdp h (kFldA h 2 v2) .pure fun v36 c13 h =>
  wdp h (kLd1 h v36) (rdK (rdv v36)) fun v37 c14 h =>
  wdc cl (.func (.func 71) [] []) [v35, v37] h fun v38 c15 h =>
  g45_s4 cl r c1 c3 c6 c7 c9 c11 c14 (v2) (v4) (v30) (v38) h Q
def g45_j7 (cl : CL) (v2 v3 v4 v21 : AV) (h : AH) (Q : AV → AH → Prop) : Prop :=
  wif v21 (
  wk (kBuild h [.int .i64 0, .int .i64 0] []) fun v22 h =>
  wk (kSt h 2 v4 v22) fun _ h =>
  wres (aresV h [.cell (v4) (some 2)]) h Q) (
  wdr h 19 fun r h =>
  wdp h (kFldA h 0 v3) .pure fun v23 c0 h =>
  wdp h (kLd1 h v23) (rdK (rdv v23)) fun v24 c1 h =>
  wdp h (kFldA h 3 v2) .pure fun v25 c2 h =>
  wdp h (kLd1 h v25) (rdK (rdv v25)) fun v26 c3 h =>
  wdp h (kArith h .sub v24 v26) .pure fun v27 c4 h =>
  wdp h (kFldA h 2 v2) .pure fun v28 c5 h =>
  wdp h (kLd1 h v28) (rdK (rdv v28)) fun v29 c6 h =>
  wdc cl (.func (.func 71) [] []) [v27, v29] h fun v30 c7 h =>
  g45_s5 cl r c1 c3 c6 c7 (v2) (v3) (v4) (v30) h Q)
def g45 (cl : CL) (v0 v1 : AV) (h : AH) (Q : AV → AH → Prop) : Prop :=
  wk (kBox h v0) fun v2 h =>
  wk (kBox h v1) fun v3 h =>
  wk (kNew h [.int .i64 0, .int .i64 0]) fun v4 h =>
  wjoinN (g45_a1 cl (v2) (v3) (v4) h) fun vs h => g45_j7 cl (nthD vs 0) (nthD vs 1) (nthD vs 2) (nthD vs 3) h Q
theorem g45_eq (cl : CL) (v0 v1 : AV) (h : AH) (Q : AV → AH → Prop) : wrun cl S45 [v0, v1] h Q = g45 cl v0 v1 h Q := by kernel_rfl
theorem C45 {cl : CL} (hcl : CLOk Try.prog cl) {v0 v1 : AV} {h : AH} {Q : AV → AH → Prop} (hg : g45 cl v0 v1 h Q) : CallsA Try.prog 45 [v0, v1] h Q := wfn_ok hcl (f := 45) (fn := Try.f45) (by kernel_rfl) S45_ok (by decide) (by kernel_rfl) (its_nil (by kernel_rfl)) (by rw [g45_eq]; exact hg)

/- widgetry/display.covers -/
def S46.r0 : List AOpr := [
  ⟨some 2, .box (.tmp 0), none⟩,
  ⟨some 3, .box (.tmp 1), none⟩,
  ⟨some 4, .mov (.const (.bool false)), none⟩]
def S46.r1 : List AOpr := [
  ⟨some 6, .fldA 1 (.tmp 2), none⟩,
  ⟨some 7, .ldn 4 (.tmp 6), none⟩,
  ⟨some 8, .ldn 2 (.tmp 3), none⟩,
  ⟨some 9, .call (.const (.func (.func 44) [] [])) [.tmp 7, .tmp 8], none⟩,
  ⟨some 10, .un .not (.tmp 9), none⟩]
def S46.r2 : List AOpr := [
  ⟨some 4, .mov (.const (.bool false)), none⟩]
def S46.r3 : List AOpr := [
  ⟨some 11, .fldA 0 (.tmp 2), none⟩,
  ⟨some 12, .ld1 (.tmp 11), none⟩,
  ⟨some 13, .arith .neq (.tmp 12) (.const (.int .i64 5)), none⟩]
def S46.r4 : List (AOpr × Option Nat) := [
  (⟨some 14, .fldA 0 (.tmp 2), none⟩, none),
  (⟨some 15, .ld1 (.tmp 14), none⟩, none),
  (⟨some 16, .arith .eql (.tmp 15) (.const (.int .i64 4)), none⟩, none),
  (⟨some 17, .mov (.tmp 16), none⟩, none),
  (⟨some 18, .fldA 0 (.tmp 2), some (17, false)⟩, some 17),
  (⟨some 19, .ld1 (.tmp 18), some (17, false)⟩, none),
  (⟨some 20, .arith .eql (.tmp 19) (.const (.int .i64 6)), some (17, false)⟩, none),
  (⟨some 21, .pick (.tmp 17) (.const (.bool true)) (.tmp 20), none⟩, none),
  (⟨some 4, .mov (.tmp 21), none⟩, none)]
def S46.r5 : List AOpr := [
  ⟨some 22, .fldA 0 (.tmp 3), none⟩,
  ⟨some 23, .ld1 (.tmp 22), none⟩,
  ⟨some 24, .fldA 1 (.tmp 2), none⟩,
  ⟨some 25, .fldA 0 (.tmp 24), none⟩,
  ⟨some 26, .ld1 (.tmp 25), none⟩,
  ⟨some 27, .arith .sub (.tmp 23) (.tmp 26), none⟩,
  ⟨some 28, .fldA 12 (.tmp 2), none⟩,
  ⟨some 29, .fldA 3 (.tmp 28), none⟩,
  ⟨some 30, .ld1 (.tmp 29), none⟩,
  ⟨some 31, .arith .add (.tmp 27) (.tmp 30), none⟩,
  ⟨some 5, .new [.int .i64 0], none⟩,
  ⟨none, .st 1 (.tmp 5) (.tmp 31), none⟩]
def S46.r6 : List AOpr := [
  ⟨some 32, .fldA 12 (.tmp 2), none⟩,
  ⟨some 33, .fldA 9 (.tmp 32), none⟩,
  ⟨some 34, .ld1 (.tmp 33), none⟩,
  ⟨some 35, .mkf (.func 72) [] [.tmp 5], none⟩,
  ⟨some 36, .call (.const (.func (.func 63) [] [])) [.tmp 34, .tmp 35], none⟩,
  ⟨some 4, .mov (.tmp 36), none⟩]
def S46 : SFn := ⟨37, [.tmp 4], .seq (.reg S46.r0) (.seq (.seq (.reg S46.r1) (.cond (.tmp 10) (.seq (.reg S46.r2) (.ret)) (.skip))) (.seq (.seq (.reg S46.r3) (.cond (.tmp 13) (.seq (.joinN [4] (.regS S46.r4)) (.ret)) (.skip))) (.seq (.reg S46.r5) (.seq (.reg S46.r6) (.ret)))))⟩
theorem S46_ok : cFn Try.prog Try.f46 = some S46.erase := by kernel_rfl
def g46_a1 (cl : CL) (v2 v4 : AV) (h : AH) (k : List AV → AH → Prop) : Prop :=
  wk (kFldA h 0 v2) fun v14 h =>
  wk (kLd1 h v14) fun v15 h =>
  wk (kArith h .eql v15 (.int .i64 4)) fun v16 h =>
  wsp v16 fun v17 =>
  wg (gdv false v17) (fun k => wk (kFldA h 0 v2) k) h fun v18 h =>
  wg (gdv false v17) (fun k => wk (kLd1 h v18) k) h fun v19 h =>
  wg (gdv false v17) (fun k => wk (kArith h .eql v19 (.int .i64 6)) k) h fun v20 h =>
  wk (kPick h v17 (.bool true) v20) fun v21 h =>
  k [v21] h
def g46_j2 (cl : CL) (v4 : AV) (h : AH) (Q : AV → AH → Prop) : Prop :=
  Q (v4) h
def g46_s1 (cl : CL) (v5 v33 : AV) (h : AH) (Q : AV → AH → Prop) : Prop :=
  wk (kLd1 h v33) fun v34 h =>
  wk (kMkf h (.func 72) [] [v5]) fun v35 h =>
  wcall cl (.func (.func 63) [] []) [v34, v35] h fun v36 h =>
  Q (v36) h
def g46_s2 (cl : CL) (v2 v27 : AV) (h : AH) (Q : AV → AH → Prop) : Prop :=
  wk (kFldA h 12 v2) fun v28 h =>
  wk (kFldA h 3 v28) fun v29 h =>
  wk (kLd1 h v29) fun v30 h =>
  wk (kArith h .add v27 v30) fun v31 h =>
  wk (kNew h [.int .i64 0]) fun v5 h =>
  wk (kSt h 1 v5 v31) fun _ h =>
  wk (kFldA h 12 v2) fun v32 h =>
  wk (kFldA h 9 v32) fun v33 h =>
  g46_s1 cl (v5) (v33) h Q
def g46_s3 (cl : CL) (v2 v3 v4 v11 : AV) (h : AH) (Q : AV → AH → Prop) : Prop :=
  wk (kLd1 h v11) fun v12 h =>
  wk (kArith h .neq v12 (.int .i64 5)) fun v13 h =>
  wif v13 (
  wjoinN (g46_a1 cl (v2) (v4) h) fun vs h => g46_j2 cl (nthD vs 0) h Q) (
  wk (kFldA h 0 v3) fun v22 h =>
  wk (kLd1 h v22) fun v23 h =>
  wk (kFldA h 1 v2) fun v24 h =>
  wk (kFldA h 0 v24) fun v25 h =>
  wk (kLd1 h v25) fun v26 h =>
  wk (kArith h .sub v23 v26) fun v27 h =>
  g46_s2 cl (v2) (v27) h Q)
def g46 (cl : CL) (v0 v1 : AV) (h : AH) (Q : AV → AH → Prop) : Prop :=
  wk (kBox h v0) fun v2 h =>
  wk (kBox h v1) fun v3 h =>
  wk (kFldA h 1 v2) fun v6 h =>
  wk (kLdn h 4 v6) fun v7 h =>
  wk (kLdn h 2 v3) fun v8 h =>
  wcall cl (.func (.func 44) [] []) [v7, v8] h fun v9 h =>
  wk (kUn h .not v9) fun v10 h =>
  wif v10 (
  Q ((.bool false)) h) (
  wk (kFldA h 0 v2) fun v11 h =>
  g46_s3 cl (v2) (v3) ((.bool false)) (v11) h Q)
theorem g46_eq (cl : CL) (v0 v1 : AV) (h : AH) (Q : AV → AH → Prop) : wrun cl S46 [v0, v1] h Q = g46 cl v0 v1 h Q := by kernel_rfl
theorem C46 {cl : CL} (hcl : CLOk Try.prog cl) {v0 v1 : AV} {h : AH} {Q : AV → AH → Prop} (hg : g46 cl v0 v1 h Q) : CallsA Try.prog 46 [v0, v1] h Q := wfn_ok hcl (f := 46) (fn := Try.f46) (by kernel_rfl) S46_ok (by decide) (by kernel_rfl) (its_nil (by kernel_rfl)) (by rw [g46_eq]; exact hg)

/- widgetry/display.everything -/
def S51.r0 : List AOpr := [
  ⟨some 0, .mov (.const (.nilsl)), none⟩]
def S51.r1 : List AOpr := [
  ⟨some 1, .build [.int .i64 0, .int .i64 0, .int .i64 0, .int .i64 0] [(0, 1, .const (.int .i64 (-1048576))), (1, 1, .const (.int .i64 (-1048576))), (2, 1, .const (.int .i64 1048576)), (3, 1, .const (.int .i64 1048576))], none⟩,
  ⟨some 2, .build [.int .i64 0, .int .i64 0, .int .i64 0, .int .i64 0] [(1, 1, .const (.int .i64 (-1048576))), (2, 1, .const (.int .i64 1048576)), (3, 1, .const (.int .i64 1048576))], none⟩,
  ⟨some 3, .build [.int .i64 0, .int .i64 0, .int .i64 0, .int .i64 0] [(0, 1, .const (.int .i64 (-1048576))), (2, 1, .const (.int .i64 1048576)), (3, 1, .const (.int .i64 1048576))], none⟩,
  ⟨some 4, .build [.int .i64 0, .int .i64 0, .int .i64 0, .int .i64 0] [(2, 1, .const (.int .i64 1048576)), (3, 1, .const (.int .i64 1048576))], none⟩,
  ⟨some 5, .buildSl 4 4 [.int .i64 0, .int .i64 0, .int .i64 0, .int .i64 0, .int .i64 0, .int .i64 0, .int .i64 0, .int .i64 0, .int .i64 0, .int .i64 0, .int .i64 0, .int .i64 0, .int .i64 0, .int .i64 0, .int .i64 0, .int .i64 0] [(0, 4, .tmp 1), (4, 4, .tmp 2), (8, 4, .tmp 3), (12, 4, .tmp 4)], none⟩,
  ⟨some 0, .mov (.tmp 5), none⟩]
def S51 : SFn := ⟨6, [.tmp 0], .seq (.reg S51.r0) (.seq (.reg S51.r1) (.ret))⟩
theorem S51_ok : cFn Try.prog Try.f51 = some S51.erase := by kernel_rfl
def g51 (cl : CL) (h : AH) (Q : AV → AH → Prop) : Prop :=
  wk (kBuild h [.int .i64 0, .int .i64 0, .int .i64 0, .int .i64 0] [(0, 1, (.int .i64 (-1048576))), (1, 1, (.int .i64 (-1048576))), (2, 1, (.int .i64 1048576)), (3, 1, (.int .i64 1048576))]) fun v1 h =>
  wk (kBuild h [.int .i64 0, .int .i64 0, .int .i64 0, .int .i64 0] [(1, 1, (.int .i64 (-1048576))), (2, 1, (.int .i64 1048576)), (3, 1, (.int .i64 1048576))]) fun v2 h =>
  wk (kBuild h [.int .i64 0, .int .i64 0, .int .i64 0, .int .i64 0] [(0, 1, (.int .i64 (-1048576))), (2, 1, (.int .i64 1048576)), (3, 1, (.int .i64 1048576))]) fun v3 h =>
  wk (kBuild h [.int .i64 0, .int .i64 0, .int .i64 0, .int .i64 0] [(2, 1, (.int .i64 1048576)), (3, 1, (.int .i64 1048576))]) fun v4 h =>
  wk (kBuildSl h 4 4 [.int .i64 0, .int .i64 0, .int .i64 0, .int .i64 0, .int .i64 0, .int .i64 0, .int .i64 0, .int .i64 0, .int .i64 0, .int .i64 0, .int .i64 0, .int .i64 0, .int .i64 0, .int .i64 0, .int .i64 0, .int .i64 0] [(0, 4, v1), (4, 4, v2), (8, 4, v3), (12, 4, v4)]) fun v5 h =>
  Q (v5) h
theorem g51_eq (cl : CL) (h : AH) (Q : AV → AH → Prop) : wrun cl S51 [] h Q = g51 cl  h Q := by kernel_rfl
theorem C51 {cl : CL} (hcl : CLOk Try.prog cl) {h : AH} {Q : AV → AH → Prop} (hg : g51 cl  h Q) : CallsA Try.prog 51 [] h Q := wfn_ok hcl (f := 51) (fn := Try.f51) (by kernel_rfl) S51_ok (by decide) (by kernel_rfl) (its_nil (by kernel_rfl)) (by rw [g51_eq]; exact hg)

/- widgetry/display.Damage$1 -/
def S52.r0 : List AOpr := [
  ⟨some 1, .box (.tmp 0), none⟩,
  ⟨some 2, .mov (.const (.bool false)), none⟩]
def S52.r1 : List (AOpr × Option Nat) := [
  (⟨some 3, .fldA 0 (.tmp 1), none⟩, none),
  (⟨some 4, .ld1 (.tmp 3), none⟩, none),
  (⟨some 5, .arith .eql (.tmp 4) (.const (.int .i64 1)), none⟩, none),
  (⟨some 6, .mov (.tmp 5), none⟩, none),
  (⟨some 7, .fldA 0 (.tmp 1), some (6, false)⟩, some 6),
  (⟨some 8, .ld1 (.tmp 7), some (6, false)⟩, none),
  (⟨some 9, .arith .eql (.tmp 8) (.const (.int .i64 2)), some (6, false)⟩, none),
  (⟨some 10, .pick (.tmp 6) (.const (.bool true)) (.tmp 9), none⟩, none),
  (⟨some 11, .mov (.tmp 10), none⟩, none),
  (⟨some 12, .fldA 0 (.tmp 1), some (11, false)⟩, some 11),
  (⟨some 13, .ld1 (.tmp 12), some (11, false)⟩, none),
  (⟨some 14, .arith .eql (.tmp 13) (.const (.int .i64 3)), some (11, false)⟩, none),
  (⟨some 15, .pick (.tmp 11) (.const (.bool true)) (.tmp 14), none⟩, none),
  (⟨some 2, .mov (.tmp 15), none⟩, none)]
def S52 : SFn := ⟨16, [.tmp 2], .seq (.reg S52.r0) (.seq (.regS S52.r1) (.ret))⟩
theorem S52_ok : cFn Try.prog Try.f52 = some S52.erase := by kernel_rfl
def g52_s1 (cl : CL) (v1 v10 : AV) (h : AH) (Q : AV → AH → Prop) : Prop :=
  wsp v10 fun v11 =>
  wg (gdv false v11) (fun k => wk (kFldA h 0 v1) k) h fun v12 h =>
  wg (gdv false v11) (fun k => wk (kLd1 h v12) k) h fun v13 h =>
  wg (gdv false v11) (fun k => wk (kArith h .eql v13 (.int .i64 3)) k) h fun v14 h =>
  wk (kPick h v11 (.bool true) v14) fun v15 h =>
  Q (v15) h
def g52 (cl : CL) (v0 : AV) (h : AH) (Q : AV → AH → Prop) : Prop :=
  wk (kBox h v0) fun v1 h =>
  wk (kFldA h 0 v1) fun v3 h =>
  wk (kLd1 h v3) fun v4 h =>
  wk (kArith h .eql v4 (.int .i64 1)) fun v5 h =>
  wsp v5 fun v6 =>
  wg (gdv false v6) (fun k => wk (kFldA h 0 v1) k) h fun v7 h =>
  wg (gdv false v6) (fun k => wk (kLd1 h v7) k) h fun v8 h =>
  wg (gdv false v6) (fun k => wk (kArith h .eql v8 (.int .i64 2)) k) h fun v9 h =>
  wk (kPick h v6 (.bool true) v9) fun v10 h =>
  g52_s1 cl (v1) (v10) h Q
theorem g52_eq (cl : CL) (v0 : AV) (h : AH) (Q : AV → AH → Prop) : wrun cl S52 [v0] h Q = g52 cl v0 h Q := by kernel_rfl
theorem C52 {cl : CL} (hcl : CLOk Try.prog cl) {v0 : AV} {h : AH} {Q : AV → AH → Prop} (hg : g52 cl v0 h Q) : CallsA Try.prog 52 [v0] h Q := wfn_ok hcl (f := 52) (fn := Try.f52) (by kernel_rfl) S52_ok (by decide) (by kernel_rfl) (its_nil (by kernel_rfl)) (by rw [g52_eq]; exact hg)

/- slices.ContainsFunc[[]widgetry/api.Command,widgetry/api.Command] -/
def S53.r0 : List AOpr := [
  ⟨some 4, .mov (.const (.bool false)), none⟩]
def S53.r1 : List AOpr := [
  ⟨some 5, .mov (.tmp 0), none⟩,
  ⟨some 6, .mov (.tmp 1), none⟩,
  ⟨some 7, .call (.const (.func (.func 74) [] [])) [.tmp 5, .tmp 6], none⟩,
  ⟨some 8, .arith .geq (.tmp 7) (.const (.int .i64 0)), none⟩,
  ⟨some 4, .mov (.tmp 8), none⟩]
def S53 : SFn := ⟨9, [.tmp 4], .seq (.reg S53.r0) (.seq (.reg S53.r1) (.ret))⟩
theorem S53_ok : cFn Try.prog Try.f53 = some S53.erase := by kernel_rfl
def g53 (cl : CL) (v0 v1 : AV) (h : AH) (Q : AV → AH → Prop) : Prop :=
  wcall cl (.func (.func 74) [] []) [v0, v1] h fun v7 h =>
  wk (kArith h .geq v7 (.int .i64 0)) fun v8 h =>
  Q (v8) h
theorem g53_eq (cl : CL) (v0 v1 : AV) (h : AH) (Q : AV → AH → Prop) : wrun cl S53 [v0, v1] h Q = g53 cl v0 v1 h Q := by kernel_rfl
theorem C53 {cl : CL} (hcl : CLOk Try.prog cl) {v0 v1 : AV} {h : AH} {Q : AV → AH → Prop} (hg : g53 cl v0 v1 h Q) : CallsA Try.prog 53 [v0, v1] h Q := wfn_ok hcl (f := 53) (fn := Try.f53) (by kernel_rfl) S53_ok (by decide) (by kernel_rfl) (its_nil (by kernel_rfl)) (by rw [g53_eq]; exact hg)

/- widgetry/display.extents -/
def S54.r0 : List AOpr := [
  ⟨some 6, .new [.nilsl], none⟩,
  ⟨some 7, .new [.bool false], none⟩]
def S54.r1 : List AOpr := [
  ⟨some 8, .mov (.const (.nilsl)), none⟩]
def S54.r2 : List AOpr := [
  ⟨some 9, .mov (.const (.nilsl)), none⟩]
def S54.r3 : List AOpr := [
  ⟨some 15, .mov (.tmp 0), none⟩,
  ⟨some 16, .len (.tmp 15), none⟩,
  ⟨some 17, .mov (.const (.int .i64 0)), none⟩]
def S54.r4 : List AOpr := [
  ⟨some 18, .arith .lss (.tmp 17) (.tmp 16), none⟩]
def S54.r5 : List AOpr := [
  ⟨some 19, .mov (.tmp 17), none⟩,
  ⟨some 20, .idxA 22 (.tmp 15) (.tmp 17), none⟩,
  ⟨some 21, .ldn 22 (.tmp 20), none⟩,
  ⟨some 11, .new [.int .i64 0, .int .i64 0, .int .i64 0, .int .i64 0, .int .i64 0, .int .i64 0, .bool false, .int .i64 0, .int .i64 0, .int .i64 0, .int .i64 0, .str [], .int .i64 0, .int .i64 0, .int .i64 0, .int .i64 0, .int .i64 0, .int .i64 0, .int .i64 0, .int .i64 0, .int .i64 0, .nilsl], none⟩,
  ⟨some 10, .mov (.tmp 19), none⟩,
  ⟨none, .st 22 (.tmp 11) (.tmp 21), none⟩]
def S54.r6 : List AOpr := [
  ⟨some 23, .fldA 0 (.tmp 11), none⟩,
  ⟨some 24, .ld1 (.tmp 23), none⟩,
  ⟨some 25, .arith .eql (.tmp 24) (.const (.int .i64 1)), none⟩,
  ⟨some 22, .mov (.tmp 25), none⟩]
def S54.r7 : List AOpr := [
  ⟨some 26, .mov (.tmp 8), none⟩,
  ⟨some 27, .buildSl 1 1 [.nilptr] [(0, 1, .const (.nilptr))], none⟩,
  ⟨some 28, .app 1 8 (.tmp 26) (.tmp 27), none⟩,
  ⟨some 8, .mov (.tmp 28), none⟩]
def S54.r8 : List AOpr := [
  ⟨some 30, .fldA 0 (.tmp 11), none⟩,
  ⟨some 31, .ld1 (.tmp 30), none⟩,
  ⟨some 32, .arith .eql (.tmp 31) (.const (.int .i64 2)), none⟩,
  ⟨some 29, .mov (.tmp 32), none⟩]
def S54.r9 : List AOpr := [
  ⟨some 33, .mov (.tmp 8), none⟩,
  ⟨some 34, .fldA 5 (.tmp 11), none⟩,
  ⟨some 35, .buildSl 1 1 [.nilptr] [(0, 1, .tmp 34)], none⟩,
  ⟨some 36, .app 1 8 (.tmp 33) (.tmp 35), none⟩,
  ⟨some 8, .mov (.tmp 36), none⟩]
def S54.r10 : List AOpr := [
  ⟨some 38, .fldA 0 (.tmp 11), none⟩,
  ⟨some 39, .ld1 (.tmp 38), none⟩,
  ⟨some 40, .arith .eql (.tmp 39) (.const (.int .i64 3)), none⟩,
  ⟨some 37, .mov (.tmp 40), none⟩]
def S54.r11 : List AOpr := [
  ⟨some 41, .mov (.tmp 8), none⟩,
  ⟨some 42, .mov (.tmp 8), none⟩,
  ⟨some 43, .len (.tmp 42), none⟩,
  ⟨some 44, .arith .sub (.tmp 43) (.const (.int .i64 1)), none⟩,
  ⟨some 45, .sl 1 (.tmp 41) none (some (.tmp 44)) none, none⟩,
  ⟨some 8, .mov (.tmp 45), none⟩]
def S54.r12 : List (AOpr × Option Nat) := [
  (⟨some 47, .mov (.tmp 10), none⟩, none),
  (⟨some 48, .mov (.tmp 1), none⟩, none),
  (⟨some 49, .arith .geq (.tmp 47) (.tmp 48), none⟩, none),
  (⟨some 50, .mov (.tmp 49), none⟩, none),
  (⟨some 51, .mov (.tmp 10), some (50, true)⟩, some 50),
  (⟨some 52, .mov (.tmp 2), some (50, true)⟩, none),
  (⟨some 53, .arith .lss (.tmp 51) (.tmp 52), some (50, true)⟩, none),
  (⟨some 54, .pick (.tmp 50) (.tmp 53) (.const (.bool false)), none⟩, none),
  (⟨some 46, .mov (.tmp 54), none⟩, none)]
def S54.r13 : List AOpr := [
  ⟨some 55, .fldA 1 (.tmp 11), none⟩,
  ⟨some 56, .ldn 4 (.tmp 55), none⟩,
  ⟨some 12, .new [.int .i64 0, .int .i64 0, .int .i64 0, .int .i64 0], none⟩,
  ⟨none, .st 4 (.tmp 12) (.tmp 56), none⟩]
def S54.r14 : List AOpr := [
  ⟨some 57, .mov (.tmp 8), none⟩,
  ⟨some 58, .call (.const (.func (.func 75) [] [])) [.tmp 57], none⟩]
def S54.r15 : List AOpr := [
  ⟨some 14, .mov (.tmp 60), none⟩]
def S54.r16 : List AOpr := [
  ⟨some 61, .mov (.tmp 14), none⟩,
  ⟨some 62, .eqn .ptr true (.tmp 61) (.const (.nilptr)), none⟩]
def S54.r17 : List (AOpr × Nat) := [
  (⟨some 63, .mov (.tmp 14), none⟩, 0),
  (⟨some 64, .nilchk (.tmp 63), none⟩, 1),
  (⟨some 65, .ldn 5 (.tmp 64), none⟩, 3),
  (⟨some 66, .ldn 4 (.tmp 12), none⟩, 0),
  (⟨some 67, .call (.const (.func (.func 76) [] [])) [.tmp 65, .tmp 66], none⟩, 15),
  (⟨none, .st 4 (.tmp 12) (.tmp 67), none⟩, 31)]
def S54.r18 : List AOpr := [
  ⟨some 68, .ldn 4 (.tmp 12), none⟩,
  ⟨some 69, .call (.const (.func (.func 36) [] [])) [.tmp 68], none⟩,
  ⟨some 70, .arith .neq (.tmp 69) (.const (.int .i64 0)), none⟩]
def S54.r19 : List AOpr := [
  ⟨none, .st 1 (.tmp 6) (.const (.nilsl)), none⟩,
  ⟨none, .st 1 (.tmp 7) (.const (.bool false)), none⟩]
def S54.r20 : List AOpr := [
  ⟨some 71, .ldn 4 (.tmp 12), none⟩,
  ⟨some 72, .call (.const (.func (.func 77) [] [])) [.tmp 71], none⟩,
  ⟨some 73, .un .not (.tmp 72), none⟩]
def S54.r21 : List AOpr := [
  ⟨some 74, .mov (.tmp 9), none⟩,
  ⟨some 75, .ldn 4 (.tmp 12), none⟩,
  ⟨some 76, .buildSl 4 1 [.int .i64 0, .int .i64 0, .int .i64 0, .int .i64 0] [(0, 4, .tmp 75)], none⟩,
  ⟨some 77, .app 4 32 (.tmp 74) (.tmp 76), none⟩,
  ⟨some 9, .mov (.tmp 77), none⟩]
def S54.r22 : List AOpr := [
  ⟨some 78, .arith .add (.tmp 17) (.const (.int .i64 1)), none⟩,
  ⟨some 17, .mov (.tmp 78), none⟩]
def S54.r23 : List AOpr := [
  ⟨some 79, .mov (.tmp 9), none⟩,
  ⟨none, .st 1 (.tmp 6) (.tmp 79), none⟩,
  ⟨none, .st 1 (.tmp 7) (.const (.bool true)), none⟩]
def S54 : SFn := ⟨80, [.cell 6 none, .cell 7 none], .seq (.reg S54.r0) (.seq (.reg S54.r1) (.seq (.reg S54.r2) (.seq (.seq (.reg S54.r3) (.block 0 (.loop [1, 2, 6, 7, 8, 9, 15, 16, 17] [6, 7, 9] (.seq (.reg S54.r4) (.seq (.cond (.tmp 18) (.skip) (.exit 0)) (.seq (.join [1, 2, 6, 7, 8, 9, 15, 16, 17] (.block 1 (.seq (.reg S54.r5) (.block 2 (.seq (.reg S54.r6) (.cond (.tmp 22) (.reg S54.r7) (.seq (.reg S54.r8) (.cond (.tmp 29) (.reg S54.r9) (.seq (.reg S54.r10) (.cond (.tmp 37) (.reg S54.r11) (.seq (.joinN [1, 2, 6, 7, 8, 9, 11, 15, 16, 17, 46] (.regS S54.r12)) (.cond (.tmp 46) (.seq (.reg S54.r13) (.seq (.seq (.reg S54.r14) (.block 3 (.rng 85 (.tmp 58) [59, 60] (.reg S54.r15) (.block 4 (.seq (.seq (.reg S54.r16) (.joinN [6, 7, 12] (.cond (.tmp 62) (.draw S54.r17) (.skip)))) (.seq (.reg S54.r18) (.cond (.tmp 70) (.seq (.reg S54.r19) (.ret)) (.skip)))))))) (.seq (.reg S54.r20) (.cond (.tmp 73) (.reg S54.r21) (.skip))))) (.skip))))))))))))) (.reg S54.r22))))))) (.seq (.reg S54.r23) (.ret)))))⟩
theorem S54_ok : cFn Try.prog Try.f54 = some S54.erase := by kernel_rfl
def g54_s1 (cl : CL) (v1 v2 v6 v7 v9 v15 v16 v17 v26 v27 : AV) (h : AH) (k : AX → List AV → AH → Prop) : Prop :=
  wk (kApp h 1 8 v26 v27) fun v28 h =>
  k .nrm [v1, v2, v6, v7, v28, v9, v15, v16, v17] h
def g54_s2 (cl : CL) (v1 v2 v6 v7 v9 v15 v16 v17 v45 : AV) (h : AH) (k : AX → List AV → AH → Prop) : Prop :=
  k .nrm [v1, v2, v6, v7, v45, v9, v15, v16, v17] h
def g54_a1 (cl : CL) (v1 v2 v6 v7 v8 v9 v10 v11 v15 v16 v17 : AV) (h : AH) (k : List AV → AH → Prop) : Prop :=
  wk (kArith h .geq v10 v1) fun v49 h =>
  wsp v49 fun v50 =>
  wg (gdv true v50) (fun k => k v10 h) h fun v51 h =>
  wg (gdv true v50) (fun k => k v2 h) h fun v52 h =>
  wg (gdv true v50) (fun k => wk (kArith h .lss v51 v52) k) h fun v53 h =>
  wk (kPick h v50 v53 (.bool false)) fun v54 h =>
  k [v1, v2, v6, v7, v8, v9, v11, v15, v16, v17, v54] h
def g54_a2 (cl : CL) (v6 v7 v12 v14 v62 : AV) (h : AH) (k : List AV → AH → Prop) : Prop :=
  wif v62 (
  wdr h 6 fun r h =>
  wdp h (kMov h v14) .pure fun v63 c0 h =>
  wdp h (kNilchk h v63) .pure fun v64 c1 h =>
  wdp h (kLdn h 5 v64) (rdK (rdv v64)) fun v65 c2 h =>
  wdp h (kLdn h 4 v12) (rdK (rdv v12)) fun v66 c3 h =>
  wdc cl (.func (.func 76) [] []) [v65, v66] h fun v67 c4 h =>
  wde h (kSt h 4 v12 v67) fun _ c5 h =>
  k [v6, v7, v12] h) (
  k [v6, v7, v12] h)
def g54_j3 (cl : CL) (v6 v7 v12 : AV) (h : AH) (k : AX → AH → Prop) : Prop :=
  wk (kLdn h 4 v12) fun v68 h =>
  wcall cl (.func (.func 36) [] []) [v68] h fun v69 h =>
  wk (kArith h .neq v69 (.int .i64 0)) fun v70 h =>
  wif v70 (
  wk (kSt h 1 v6 (.nilsl)) fun _ h =>
  wk (kSt h 1 v7 (.bool false)) fun _ h =>
  k .ret h) (
  k .nrm h)
def g54_b4 (cl : CL) (v6 v7 v12 v59 v60 : AV) (h : AH) (k : AX → AH → Prop) : Prop :=
  wk (kEqn h .ptr true v60 (.nilptr)) fun v62 h =>
  wjoinN (g54_a2 cl (v6) (v7) (v12) (v60) (v62) h) fun vs h => g54_j3 cl (nthD vs 0) (nthD vs 1) (nthD vs 2) h k
def g54_c5 (cl : CL) (v1 v2 v6 v7 v8 v9 v12 v15 v16 v17 : AV) (h : AH) (k : AX → List AV → AH → Prop) : Prop :=
  wk (kLdn h 4 v12) fun v71 h =>
  wcall cl (.func (.func 77) [] []) [v71] h fun v72 h =>
  wk (kUn h .not v72) fun v73 h =>
  wif v73 (
  wk (kLdn h 4 v12) fun v75 h =>
  wk (kBuildSl h 4 1 [.int .i64 0, .int .i64 0, .int .i64 0, .int .i64 0] [(0, 4, v75)]) fun v76 h =>
  wk (kApp h 4 32 v9 v76) fun v77 h =>
  k .nrm [v1, v2, v6, v7, v8, v77, v15, v16, v17] h) (
  k .nrm [v1, v2, v6, v7, v8, v9, v15, v16, v17] h)
def g54_j6 (cl : CL) (x : AX) (v1 v2 v6 v7 v8 v9 v12 v15 v16 v17 : AV) (h : AH) (k : AX → List AV → AH → Prop) : Prop :=
  xs x (g54_c5 cl (v1) (v2) (v6) (v7) (v8) (v9) (v12) (v15) (v16) (v17) h k) (fun j => cond (Nat.beq j 3) (g54_c5 cl (v1) (v2) (v6) (v7) (v8) (v9) (v12) (v15) (v16) (v17) h k) (cond (Nat.beq j 2) (k .nrm [v1, v2, v6, v7, v8, v9, v15, v16, v17] h) (cond (Nat.beq j 1) (k .nrm [v1, v2, v6, v7, v8, v9, v15, v16, v17] h) (k (.exit j) [v1, v2, v6, v7, v8, v9, v15, v16, v17] h)))) (k .ret [v1, v2, v6, v7, v8, v9, v15, v16, v17] h)
def g54_j7 (cl : CL) (v1 v2 v6 v7 v8 v9 v11 v15 v16 v17 v46 : AV) (h : AH) (k : AX → List AV → AH → Prop) : Prop :=
  wif v46 (
  wk (kFldA h 1 v11) fun v55 h =>
  wk (kLdn h 4 v55) fun v56 h =>
  wk (kNew h [.int .i64 0, .int .i64 0, .int .i64 0, .int .i64 0]) fun v12 h =>
  wk (kSt h 4 v12 v56) fun _ h =>
  wcall cl (.func (.func 75) [] []) [v8] h fun v58 h =>
  wrg 85 v58 (fun x y h k => g54_b4 cl (v6) (v7) (v12) x y h k) h fun x h => g54_j6 cl x (v1) (v2) (v6) (v7) (v8) (v9) (v12) (v15) (v16) (v17) h k) (
  k .nrm [v1, v2, v6, v7, v8, v9, v15, v16, v17] h)
def g54_s3 (cl : CL) (v1 v2 v6 v7 v8 v9 v10 v11 v15 v16 v17 v30 : AV) (h : AH) (k : AX → List AV → AH → Prop) : Prop :=
  wk (kLd1 h v30) fun v31 h =>
  wk (kArith h .eql v31 (.int .i64 2)) fun v32 h =>
  wif v32 (
  wk (kFldA h 5 v11) fun v34 h =>
  wk (kBuildSl h 1 1 [.nilptr] [(0, 1, v34)]) fun v35 h =>
  wk (kApp h 1 8 v8 v35) fun v36 h =>
  k .nrm [v1, v2, v6, v7, v36, v9, v15, v16, v17] h) (
  wk (kFldA h 0 v11) fun v38 h =>
  wk (kLd1 h v38) fun v39 h =>
  wk (kArith h .eql v39 (.int .i64 3)) fun v40 h =>
  wif v40 (
  wk (kLen h v8) fun v43 h =>
  wk (kArith h .sub v43 (.int .i64 1)) fun v44 h =>
  wk (kSl h 1 v8 none (some v44) none) fun v45 h =>
  g54_s2 cl (v1) (v2) (v6) (v7) (v9) (v15) (v16) (v17) (v45) h k) (
  wjoinN (g54_a1 cl (v1) (v2) (v6) (v7) (v8) (v9) (v10) (v11) (v15) (v16) (v17) h) fun vs h => g54_j7 cl (nthD vs 0) (nthD vs 1) (nthD vs 2) (nthD vs 3) (nthD vs 4) (nthD vs 5) (nthD vs 6) (nthD vs 7) (nthD vs 8) (nthD vs 9) (nthD vs 10) h k))
def g54_a8 (cl : CL) (v1 v2 v6 v7 v8 v9 v15 v16 v17 : AV) (h : AH) (k : AX → List AV → AH → Prop) : Prop :=
  wk (kIdxA h 22 v15 v17) fun v20 h =>
  wk (kLdn h 22 v20) fun v21 h =>
  wk (kNew h [.int .i64 0, .int .i64 0, .int .i64 0, .int .i64 0, .int .i64 0, .int .i64 0, .bool false, .int .i64 0, .int .i64 0, .int .i64 0, .int .i64 0, .str [], .int .i64 0, .int .i64 0, .int .i64 0, .int .i64 0, .int .i64 0, .int .i64 0, .int .i64 0, .int .i64 0, .int .i64 0, .nilsl]) fun v11 h =>
  wk (kSt h 22 v11 v21) fun _ h =>
  wk (kFldA h 0 v11) fun v23 h =>
  wk (kLd1 h v23) fun v24 h =>
  wk (kArith h .eql v24 (.int .i64 1)) fun v25 h =>
  wif v25 (
  wk (kBuildSl h 1 1 [.nilptr] [(0, 1, (.nilptr))]) fun v27 h =>
  g54_s1 cl (v1) (v2) (v6) (v7) (v9) (v15) (v16) (v17) (v8) (v27) h k) (
  wk (kFldA h 0 v11) fun v30 h =>
  g54_s3 cl (v1) (v2) (v6) (v7) (v8) (v9) (v17) (v11) (v15) (v16) (v17) (v30) h k)
def g54_j9 (cl : CL) (x : AX) (v1 v2 v6 v7 v8 v9 v15 v16 v17 : AV) (h : AH) (k : AX → List AV → List AV → AH → Prop) : Prop :=
  xs x (wk (kArith h .add v17 (.int .i64 1)) fun v78 h =>
  k .nrm [v1, v2, v6, v7, v8, v9, v15, v16, v78] [v6, v7, v9] h) (fun j => k (.exit j) [v1, v2, v6, v7, v8, v9, v15, v16, v17] [v6, v7, v9] h) (k .ret [v1, v2, v6, v7, v8, v9, v15, v16, v17] [v6, v7, v9] h)
def g54_l10 (cl : CL) (v1 v2 v6 v7 v8 v9 v15 v16 v17 : AV) (h : AH) (k : AX → List AV → List AV → AH → Prop) : Prop :=
  wk (kArith h .lss v17 v16) fun v18 h =>
  wif v18 (
  wjoin (g54_a8 cl (v1) (v2) (v6) (v7) (v8) (v9) (v15) (v16) (v17) h) fun x vs h => g54_j9 cl x (nthD vs 0) (nthD vs 1) (nthD vs 2) (nthD vs 3) (nthD vs 4) (nthD vs 5) (nthD vs 6) (nthD vs 7) (nthD vs 8) h k) (
  k (.exit 0) [v1, v2, v6, v7, v8, v9, v15, v16, v17] [v6, v7, v9] h)
def g54_c11 (cl : CL) (v6 v7 v9 : AV) (h : AH) (Q : AV → AH → Prop) : Prop :=
  wk (kSt h 1 v6 v9) fun _ h =>
  wk (kSt h 1 v7 (.bool true)) fun _ h =>
  wres (aresV h [.cell (v6) none, .cell (v7) none]) h Q
def g54_j12 (cl : CL) (x : AX) (v6 v7 v9 : AV) (h : AH) (Q : AV → AH → Prop) : Prop :=
  xs x (g54_c11 cl (v6) (v7) (v9) h Q) (fun j => cond (Nat.beq j 0) (g54_c11 cl (v6) (v7) (v9) h Q) (False)) (wres (aresV h [.cell (v6) none, .cell (v7) none]) h Q)
def g54 (cl : CL) (v0 v1 v2 : AV) (h : AH) (Q : AV → AH → Prop) : Prop :=
  wk (kNew h [.nilsl]) fun v6 h =>
  wk (kNew h [.bool false]) fun v7 h =>
  wk (kLen h v0) fun v16 h =>
  wloop (fun vs h k => g54_l10 cl (nthD vs 0) (nthD vs 1) (nthD vs 2) (nthD vs 3) (nthD vs 4) (nthD vs 5) (nthD vs 6) (nthD vs 7) (nthD vs 8) h k) [v1, v2, v6, v7, (.nilsl), (.nilsl), v0, v16, (.int .i64 0)] h fun x vs h => g54_j12 cl x (nthD vs 0) (nthD vs 1) (nthD vs 2) h Q
theorem g54_eq (cl : CL) (v0 v1 v2 : AV) (h : AH) (Q : AV → AH → Prop) : wrun cl S54 [v0, v1, v2] h Q = g54 cl v0 v1 v2 h Q := by kernel_rfl
theorem C54 {cl : CL} (hcl : CLOk Try.prog cl) (hit : BackOk Try.prog 85) {v0 v1 v2 : AV} {h : AH} {Q : AV → AH → Prop} (hg : g54 cl v0 v1 v2 h Q) : CallsA Try.prog 54 [v0, v1, v2] h Q := wfn_ok hcl (f := 54) (fn := Try.f54) (by kernel_rfl) S54_ok (by decide) (by kernel_rfl) (its_one (by kernel_rfl) hit) (by rw [g54_eq]; exact hg)

/- slices.EqualFunc[[]widgetry/api.Command,[]widgetry/api.Command,widgetry/api.Command,widgetry/api.Command] -/
def S58.r0 : List AOpr := [
  ⟨some 6, .mov (.const (.bool false)), none⟩]
def S58.r1 : List AOpr := [
  ⟨some 10, .mov (.tmp 0), none⟩,
  ⟨some 11, .len (.tmp 10), none⟩,
  ⟨some 12, .mov (.tmp 1), none⟩,
  ⟨some 13, .len (.tmp 12), none⟩,
  ⟨some 14, .arith .neq (.tmp 11) (.tmp 13), none⟩]
def S58.r2 : List AOpr := [
  ⟨some 6, .mov (.const (.bool false)), none⟩]
def S58.r3 : List AOpr := [
  ⟨some 15, .mov (.tmp 0), none⟩,
  ⟨some 16, .len (.tmp 15), none⟩,
  ⟨some 17, .mov (.const (.int .i64 0)), none⟩]
def S58.r4 : List AOpr := [
  ⟨some 18, .arith .lss (.tmp 17) (.tmp 16), none⟩]
def S58.r5 : List AOpr := [
  ⟨some 19, .mov (.tmp 17), none⟩,
  ⟨some 20, .idxA 22 (.tmp 15) (.tmp 17), none⟩,
  ⟨some 21, .ldn 22 (.tmp 20), none⟩,
  ⟨some 8, .new [.int .i64 0, .int .i64 0, .int .i64 0, .int .i64 0, .int .i64 0, .int .i64 0, .bool false, .int .i64 0, .int .i64 0, .int .i64 0, .int .i64 0, .str [], .int .i64 0, .int .i64 0, .int .i64 0, .int .i64 0, .int .i64 0, .int .i64 0, .int .i64 0, .int .i64 0, .int .i64 0, .nilsl], none⟩,
  ⟨some 7, .mov (.tmp 19), none⟩,
  ⟨none, .st 22 (.tmp 8) (.tmp 21), none⟩]
def S58.r6 : List AOpr := [
  ⟨some 22, .mov (.tmp 1), none⟩,
  ⟨some 23, .mov (.tmp 7), none⟩,
  ⟨some 24, .idxA 22 (.tmp 22) (.tmp 23), none⟩,
  ⟨some 25, .ldn 22 (.tmp 24), none⟩,
  ⟨some 9, .new [.int .i64 0, .int .i64 0, .int .i64 0, .int .i64 0, .int .i64 0, .int .i64 0, .bool false, .int .i64 0, .int .i64 0, .int .i64 0, .int .i64 0, .str [], .int .i64 0, .int .i64 0, .int .i64 0, .int .i64 0, .int .i64 0, .int .i64 0, .int .i64 0, .int .i64 0, .int .i64 0, .nilsl], none⟩,
  ⟨none, .st 22 (.tmp 9) (.tmp 25), none⟩]
def S58.r7 : List AOpr := [
  ⟨some 26, .mov (.tmp 2), none⟩,
  ⟨some 27, .ldn 22 (.tmp 8), none⟩,
  ⟨some 28, .ldn 22 (.tmp 9), none⟩,
  ⟨some 29, .call (.tmp 26) [.tmp 27, .tmp 28], none⟩,
  ⟨some 30, .un .not (.tmp 29), none⟩]
def S58.r8 : List AOpr := [
  ⟨some 6, .mov (.const (.bool false)), none⟩]
def S58.r9 : List AOpr := [
  ⟨some 31, .arith .add (.tmp 17) (.const (.int .i64 1)), none⟩,
  ⟨some 17, .mov (.tmp 31), none⟩]
def S58.r10 : List AOpr := [
  ⟨some 6, .mov (.const (.bool true)), none⟩]
def S58 : SFn := ⟨32, [.tmp 6], .seq (.reg S58.r0) (.seq (.seq (.reg S58.r1) (.cond (.tmp 14) (.seq (.reg S58.r2) (.ret)) (.skip))) (.seq (.seq (.reg S58.r3) (.block 0 (.loop [1, 2, 15, 16, 17] [6] (.seq (.reg S58.r4) (.seq (.cond (.tmp 18) (.skip) (.exit 0)) (.seq (.block 1 (.seq (.reg S58.r5) (.seq (.reg S58.r6) (.seq (.reg S58.r7) (.cond (.tmp 30) (.seq (.reg S58.r8) (.ret)) (.skip)))))) (.reg S58.r9))))))) (.seq (.reg S58.r10) (.ret))))⟩
theorem S58_ok : cFn Try.prog Try.f58 = some S58.erase := by kernel_rfl
def g58_s1 (cl : CL) (v1 v2 v8 v9 v15 v16 v17 v25 : AV) (h : AH) (k : AX → List AV → List AV → AH → Prop) : Prop :=
  wk (kSt h 22 v9 v25) fun _ h =>
  wk (kLdn h 22 v8) fun v27 h =>
  wk (kLdn h 22 v9) fun v28 h =>
  wcall cl v2 [v27, v28] h fun v29 h =>
  wk (kUn h .not v29) fun v30 h =>
  wif v30 (
  k .ret [v1, v2, v15, v16, v17] [(.bool false)] h) (
  wk (kArith h .add v17 (.int .i64 1)) fun v31 h =>
  k .nrm [v1, v2, v15, v16, v31] [.undef] h)
def g58_l1 (cl : CL) (v1 v2 v15 v16 v17 : AV) (h : AH) (k : AX → List AV → List AV → AH → Prop) : Prop :=
  wk (kArith h .lss v17 v16) fun v18 h =>
  wif v18 (
  wk (kIdxA h 22 v15 v17) fun v20 h =>
  wk (kLdn h 22 v20) fun v21 h =>
  wk (kNew h [.int .i64 0, .int .i64 0, .int .i64 0, .int .i64 0, .int .i64 0, .int .i64 0, .bool false, .int .i64 0, .int .i64 0, .int .i64 0, .int .i64 0, .str [], .int .i64 0, .int .i64 0, .int .i64 0, .int .i64 0, .int .i64 0, .int .i64 0, .int .i64 0, .int .i64 0, .int .i64 0, .nilsl]) fun v8 h =>
  wk (kSt h 22 v8 v21) fun _ h =>
  wk (kIdxA h 22 v1 v17) fun v24 h =>
  wk (kLdn h 22 v24) fun v25 h =>
  wk (kNew h [.int .i64 0, .int .i64 0, .int .i64 0, .int .i64 0, .int .i64 0, .int .i64 0, .bool false, .int .i64 0, .int .i64 0, .int .i64 0, .int .i64 0, .str [], .int .i64 0, .int .i64 0, .int .i64 0, .int .i64 0, .int .i64 0, .int .i64 0, .int .i64 0, .int .i64 0, .int .i64 0, .nilsl]) fun v9 h =>
  g58_s1 cl (v1) (v2) (v8) (v9) (v15) (v16) (v17) (v25) h k) (
  k (.exit 0) [v1, v2, v15, v16, v17] [.undef] h)
def g58_c2 (cl : CL) (h : AH) (Q : AV → AH → Prop) : Prop :=
  Q ((.bool true)) h
def g58_j3 (cl : CL) (x : AX) (v6 : AV) (h : AH) (Q : AV → AH → Prop) : Prop :=
  xs x (g58_c2 cl h Q) (fun j => cond (Nat.beq j 0) (g58_c2 cl h Q) (False)) (Q (v6) h)
def g58 (cl : CL) (v0 v1 v2 : AV) (h : AH) (Q : AV → AH → Prop) : Prop :=
  wk (kLen h v0) fun v11 h =>
  wk (kLen h v1) fun v13 h =>
  wk (kArith h .neq v11 v13) fun v14 h =>
  wif v14 (
  Q ((.bool false)) h) (
  wk (kLen h v0) fun v16 h =>
  wloop (fun vs h k => g58_l1 cl (nthD vs 0) (nthD vs 1) (nthD vs 2) (nthD vs 3) (nthD vs 4) h k) [v1, v2, v0, v16, (.int .i64 0)] h fun x vs h => g58_j3 cl x (nthD vs 0) h Q)
theorem g58_eq (cl : CL) (v0 v1 v2 : AV) (h : AH) (Q : AV → AH → Prop) : wrun cl S58 [v0, v1, v2] h Q = g58 cl v0 v1 v2 h Q := by kernel_rfl
theorem C58 {cl : CL} (hcl : CLOk Try.prog cl) {v0 v1 v2 : AV} {h : AH} {Q : AV → AH → Prop} (hg : g58 cl v0 v1 v2 h Q) : CallsA Try.prog 58 [v0, v1, v2] h Q := wfn_ok hcl (f := 58) (fn := Try.f58) (by kernel_rfl) S58_ok (by decide) (by kernel_rfl) (its_nil (by kernel_rfl)) (by rw [g58_eq]; exact hg)

/- widgetry/display.cloned -/
def S59.r0 : List AOpr := [
  ⟨some 2, .mov (.const (.nilsl)), none⟩]
def S59.r1 : List AOpr := [
  ⟨some 3, .mov (.const (.nilsl)), none⟩]
def S59.r2 : List AOpr := [
  ⟨some 6, .mov (.tmp 0), none⟩,
  ⟨some 7, .len (.tmp 6), none⟩,
  ⟨some 8, .mov (.const (.int .i64 0)), none⟩]
def S59.r3 : List AOpr := [
  ⟨some 9, .arith .lss (.tmp 8) (.tmp 7), none⟩]
def S59.r4 : List AOpr := [
  ⟨some 10, .idxA 22 (.tmp 6) (.tmp 8), none⟩,
  ⟨some 11, .ldn 22 (.tmp 10), none⟩,
  ⟨some 5, .new [.int .i64 0, .int .i64 0, .int .i64 0, .int .i64 0, .int .i64 0, .int .i64 0, .bool false, .int .i64 0, .int .i64 0, .int .i64 0, .int .i64 0, .str [], .int .i64 0, .int .i64 0, .int .i64 0, .int .i64 0, .int .i64 0, .int .i64 0, .int .i64 0, .int .i64 0, .int .i64 0, .nilsl], none⟩,
  ⟨none, .st 22 (.tmp 5) (.tmp 11), none⟩]
def S59.r5 : List AOpr := [
  ⟨some 12, .fldA 12 (.tmp 5), none⟩,
  ⟨some 13, .ldn 10 (.tmp 12), none⟩,
  ⟨some 14, .call (.const (.func (.func 79) [] [])) [.tmp 13], none⟩,
  ⟨some 15, .fldA 12 (.tmp 5), none⟩,
  ⟨none, .st 10 (.tmp 15) (.tmp 14), none⟩]
def S59.r6 : List AOpr := [
  ⟨some 16, .mov (.tmp 3), none⟩,
  ⟨some 17, .ldn 22 (.tmp 5), none⟩,
  ⟨some 18, .buildSl 22 1 [.int .i64 0, .int .i64 0, .int .i64 0, .int .i64 0, .int .i64 0, .int .i64 0, .bool false, .int .i64 0, .int .i64 0, .int .i64 0, .int .i64 0, .str [], .int .i64 0, .int .i64 0, .int .i64 0, .int .i64 0, .int .i64 0, .int .i64 0, .int .i64 0, .int .i64 0, .int .i64 0, .nilsl] [(0, 22, .tmp 17)], none⟩,
  ⟨some 19, .app 22 200 (.tmp 16) (.tmp 18), none⟩,
  ⟨some 3, .mov (.tmp 19), none⟩]
def S59.r7 : List AOpr := [
  ⟨some 20, .arith .add (.tmp 8) (.const (.int .i64 1)), none⟩,
  ⟨some 8, .mov (.tmp 20), none⟩]
def S59.r8 : List AOpr := [
  ⟨some 21, .mov (.tmp 3), none⟩,
  ⟨some 2, .mov (.tmp 21), none⟩]
def S59 : SFn := ⟨22, [.tmp 2], .seq (.reg S59.r0) (.seq (.reg S59.r1) (.seq (.seq (.reg S59.r2) (.block 0 (.loop [3, 6, 7, 8] [3] (.seq (.reg S59.r3) (.seq (.cond (.tmp 9) (.skip) (.exit 0)) (.seq (.block 1 (.seq (.reg S59.r4) (.seq (.reg S59.r5) (.reg S59.r6)))) (.reg S59.r7))))))) (.seq (.reg S59.r8) (.ret))))⟩
theorem S59_ok : cFn Try.prog Try.f59 = some S59.erase := by kernel_rfl
def g59_s1 (cl : CL) (v3 v5 v6 v7 v8 v14 : AV) (h : AH) (k : AX → List AV → List AV → AH → Prop) : Prop :=
  wk (kFldA h 12 v5) fun v15 h =>
  wk (kSt h 10 v15 v14) fun _ h =>
  wk (kLdn h 22 v5) fun v17 h =>
  wk (kBuildSl h 22 1 [.int .i64 0, .int .i64 0, .int .i64 0, .int .i64 0, .int .i64 0, .int .i64 0, .bool false, .int .i64 0, .int .i64 0, .int .i64 0, .int .i64 0, .str [], .int .i64 0, .int .i64 0, .int .i64 0, .int .i64 0, .int .i64 0, .int .i64 0, .int .i64 0, .int .i64 0, .int .i64 0, .nilsl] [(0, 22, v17)]) fun v18 h =>
  wk (kApp h 22 200 v3 v18) fun v19 h =>
  wk (kArith h .add v8 (.int .i64 1)) fun v20 h =>
  k .nrm [v19, v6, v7, v20] [v19] h
def g59_l1 (cl : CL) (v3 v6 v7 v8 : AV) (h : AH) (k : AX → List AV → List AV → AH → Prop) : Prop :=
  wk (kArith h .lss v8 v7) fun v9 h =>
  wif v9 (
  wk (kIdxA h 22 v6 v8) fun v10 h =>
  wk (kLdn h 22 v10) fun v11 h =>
  wk (kNew h [.int .i64 0, .int .i64 0, .int .i64 0, .int .i64 0, .int .i64 0, .int .i64 0, .bool false, .int .i64 0, .int .i64 0, .int .i64 0, .int .i64 0, .str [], .int .i64 0, .int .i64 0, .int .i64 0, .int .i64 0, .int .i64 0, .int .i64 0, .int .i64 0, .int .i64 0, .int .i64 0, .nilsl]) fun v5 h =>
  wk (kSt h 22 v5 v11) fun _ h =>
  wk (kFldA h 12 v5) fun v12 h =>
  wk (kLdn h 10 v12) fun v13 h =>
  wcall cl (.func (.func 79) [] []) [v13] h fun v14 h =>
  g59_s1 cl (v3) (v5) (v6) (v7) (v8) (v14) h k) (
  k (.exit 0) [v3, v6, v7, v8] [v3] h)
def g59_c2 (cl : CL) (v3 : AV) (h : AH) (Q : AV → AH → Prop) : Prop :=
  Q (v3) h
def g59_j3 (cl : CL) (x : AX) (v3 : AV) (h : AH) (Q : AV → AH → Prop) : Prop :=
  xs x (g59_c2 cl (v3) h Q) (fun j => cond (Nat.beq j 0) (g59_c2 cl (v3) h Q) (False)) (Q (.undef) h)
def g59 (cl : CL) (v0 : AV) (h : AH) (Q : AV → AH → Prop) : Prop :=
  wk (kLen h v0) fun v7 h =>
  wloop (fun vs h k => g59_l1 cl (nthD vs 0) (nthD vs 1) (nthD vs 2) (nthD vs 3) h k) [(.nilsl), v0, v7, (.int .i64 0)] h fun x vs h => g59_j3 cl x (nthD vs 0) h Q
theorem g59_eq (cl : CL) (v0 : AV) (h : AH) (Q : AV → AH → Prop) : wrun cl S59 [v0] h Q = g59 cl v0 h Q := by kernel_rfl
theorem C59 {cl : CL} (hcl : CLOk Try.prog cl) {v0 : AV} {h : AH} {Q : AV → AH → Prop} (hg : g59 cl v0 h Q) : CallsA Try.prog 59 [v0] h Q := wfn_ok hcl (f := 59) (fn := Try.f59) (by kernel_rfl) S59_ok (by decide) (by kernel_rfl) (its_nil (by kernel_rfl)) (by rw [g59_eq]; exact hg)

/- widgetry/geometry.within -/
def S61.r0 : List AOpr := [
  ⟨some 4, .mov (.const (.bool false)), none⟩]
def S61.r1 : List (AOpr × Option Nat) := [
  (⟨some 5, .mov (.tmp 0), none⟩, none),
  (⟨some 6, .mov (.tmp 1), none⟩, none),
  (⟨some 7, .un .neg (.tmp 6), none⟩, none),
  (⟨some 8, .arith .geq (.tmp 5) (.tmp 7), none⟩, none),
  (⟨some 9, .mov (.tmp 8), none⟩, none),
  (⟨some 10, .mov (.tmp 0), some (9, true)⟩, some 9),
  (⟨some 11, .mov (.tmp 1), some (9, true)⟩, none),
  (⟨some 12, .arith .leq (.tmp 10) (.tmp 11), some (9, true)⟩, none),
  (⟨some 13, .pick (.tmp 9) (.tmp 12) (.const (.bool false)), none⟩, none),
  (⟨some 4, .mov (.tmp 13), none⟩, none)]
def S61 : SFn := ⟨14, [.tmp 4], .seq (.reg S61.r0) (.seq (.regS S61.r1) (.ret))⟩
theorem S61_ok : cFn Try.prog Try.f61 = some S61.erase := by kernel_rfl
def g61 (cl : CL) (v0 v1 : AV) (h : AH) (Q : AV → AH → Prop) : Prop :=
  wk (kUn h .neg v1) fun v7 h =>
  wk (kArith h .geq v0 v7) fun v8 h =>
  wsp v8 fun v9 =>
  wg (gdv true v9) (fun k => k v0 h) h fun v10 h =>
  wg (gdv true v9) (fun k => k v1 h) h fun v11 h =>
  wg (gdv true v9) (fun k => wk (kArith h .leq v10 v11) k) h fun v12 h =>
  wk (kPick h v9 v12 (.bool false)) fun v13 h =>
  Q (v13) h
theorem g61_eq (cl : CL) (v0 v1 : AV) (h : AH) (Q : AV → AH → Prop) : wrun cl S61 [v0, v1] h Q = g61 cl v0 v1 h Q := by kernel_rfl
theorem C61 {cl : CL} (hcl : CLOk Try.prog cl) {v0 v1 : AV} {h : AH} {Q : AV → AH → Prop} (hg : g61 cl v0 v1 h Q) : CallsA Try.prog 61 [v0, v1] h Q := wfn_ok hcl (f := 61) (fn := Try.f61) (by kernel_rfl) S61_ok (by decide) (by kernel_rfl) (its_nil (by kernel_rfl)) (by rw [g61_eq]; exact hg)

/- widgetry/display.near$1 -/
def S62.r0 : List AOpr := [
  ⟨some 2, .mov (.const (.bool false)), none⟩]
def S62.r1 : List (AOpr × Option Nat) := [
  (⟨some 3, .mov (.tmp 0), none⟩, none),
  (⟨some 4, .arith .geq (.tmp 3) (.const (.int .i64 (-1099511627776))), none⟩, none),
  (⟨some 5, .mov (.tmp 4), none⟩, none),
  (⟨some 6, .mov (.tmp 0), some (5, true)⟩, some 5),
  (⟨some 7, .arith .leq (.tmp 6) (.const (.int .i64 1099511627776)), some (5, true)⟩, none),
  (⟨some 8, .pick (.tmp 5) (.tmp 7) (.const (.bool false)), none⟩, none),
  (⟨some 2, .mov (.tmp 8), none⟩, none)]
def S62 : SFn := ⟨9, [.tmp 2], .seq (.reg S62.r0) (.seq (.regS S62.r1) (.ret))⟩
theorem S62_ok : cFn Try.prog Try.f62 = some S62.erase := by kernel_rfl
def g62 (cl : CL) (v0 : AV) (h : AH) (Q : AV → AH → Prop) : Prop :=
  wk (kArith h .geq v0 (.int .i64 (-1099511627776))) fun v4 h =>
  wsp v4 fun v5 =>
  wg (gdv true v5) (fun k => k v0 h) h fun v6 h =>
  wg (gdv true v5) (fun k => wk (kArith h .leq v6 (.int .i64 1099511627776)) k) h fun v7 h =>
  wk (kPick h v5 v7 (.bool false)) fun v8 h =>
  Q (v8) h
theorem g62_eq (cl : CL) (v0 : AV) (h : AH) (Q : AV → AH → Prop) : wrun cl S62 [v0] h Q = g62 cl v0 h Q := by kernel_rfl
theorem C62 {cl : CL} (hcl : CLOk Try.prog cl) {v0 : AV} {h : AH} {Q : AV → AH → Prop} (hg : g62 cl v0 h Q) : CallsA Try.prog 62 [v0] h Q := wfn_ok hcl (f := 62) (fn := Try.f62) (by kernel_rfl) S62_ok (by decide) (by kernel_rfl) (its_nil (by kernel_rfl)) (by rw [g62_eq]; exact hg)

/- slices.ContainsFunc[[]widgetry/api.Glyph,widgetry/api.Glyph] -/
def S63.r0 : List AOpr := [
  ⟨some 4, .mov (.const (.bool false)), none⟩]
def S63.r1 : List AOpr := [
  ⟨some 5, .mov (.tmp 0), none⟩,
  ⟨some 6, .mov (.tmp 1), none⟩,
  ⟨some 7, .call (.const (.func (.func 84) [] [])) [.tmp 5, .tmp 6], none⟩,
  ⟨some 8, .arith .geq (.tmp 7) (.const (.int .i64 0)), none⟩,
  ⟨some 4, .mov (.tmp 8), none⟩]
def S63 : SFn := ⟨9, [.tmp 4], .seq (.reg S63.r0) (.seq (.reg S63.r1) (.ret))⟩
theorem S63_ok : cFn Try.prog Try.f63 = some S63.erase := by kernel_rfl
def g63 (cl : CL) (v0 v1 : AV) (h : AH) (Q : AV → AH → Prop) : Prop :=
  wcall cl (.func (.func 84) [] []) [v0, v1] h fun v7 h =>
  wk (kArith h .geq v7 (.int .i64 0)) fun v8 h =>
  Q (v8) h
theorem g63_eq (cl : CL) (v0 v1 : AV) (h : AH) (Q : AV → AH → Prop) : wrun cl S63 [v0, v1] h Q = g63 cl v0 v1 h Q := by kernel_rfl
theorem C63 {cl : CL} (hcl : CLOk Try.prog cl) {v0 v1 : AV} {h : AH} {Q : AV → AH → Prop} (hg : g63 cl v0 v1 h Q) : CallsA Try.prog 63 [v0, v1] h Q := wfn_ok hcl (f := 63) (fn := Try.f63) (by kernel_rfl) S63_ok (by decide) (by kernel_rfl) (its_nil (by kernel_rfl)) (by rw [g63_eq]; exact hg)

/- widgetry/display.near$2 -/
def S64.r0 : List AOpr := [
  ⟨some 2, .box (.tmp 0), none⟩,
  ⟨some 3, .mov (.const (.bool false)), none⟩]
def S64.r1 : List (AOpr × Option Nat) := [
  (⟨some 4, .ld1 (.tmp 1), none⟩, none),
  (⟨some 5, .fldA 4 (.tmp 2), none⟩, none),
  (⟨some 6, .ld1 (.tmp 5), none⟩, none),
  (⟨some 7, .call (.tmp 4) [.tmp 6], none⟩, none),
  (⟨some 8, .un .not (.tmp 7), none⟩, none),
  (⟨some 9, .mov (.tmp 8), none⟩, none),
  (⟨some 10, .ld1 (.tmp 1), some (9, false)⟩, some 9),
  (⟨some 11, .fldA 5 (.tmp 2), some (9, false)⟩, none),
  (⟨some 12, .ld1 (.tmp 11), some (9, false)⟩, none),
  (⟨some 13, .call (.tmp 10) [.tmp 12], some (9, false)⟩, none),
  (⟨some 14, .un .not (.tmp 13), some (9, false)⟩, none),
  (⟨some 15, .pick (.tmp 9) (.const (.bool true)) (.tmp 14), none⟩, none),
  (⟨some 3, .mov (.tmp 15), none⟩, none)]
def S64 : SFn := ⟨16, [.tmp 3], .seq (.reg S64.r0) (.seq (.regS S64.r1) (.ret))⟩
theorem S64_ok : cFn Try.prog Try.f64 = some S64.erase := by kernel_rfl
def g64_s1 (cl : CL) (v1 v2 v7 : AV) (h : AH) (Q : AV → AH → Prop) : Prop :=
  wk (kUn h .not v7) fun v8 h =>
  wsp v8 fun v9 =>
  wg (gdv false v9) (fun k => wk (kLd1 h v1) k) h fun v10 h =>
  wg (gdv false v9) (fun k => wk (kFldA h 5 v2) k) h fun v11 h =>
  wg (gdv false v9) (fun k => wk (kLd1 h v11) k) h fun v12 h =>
  wg (gdv false v9) (fun k => wcall cl v10 [v12] h k) h fun v13 h =>
  wg (gdv false v9) (fun k => wk (kUn h .not v13) k) h fun v14 h =>
  wk (kPick h v9 (.bool true) v14) fun v15 h =>
  Q (v15) h
def g64 (cl : CL) (v0 v1 : AV) (h : AH) (Q : AV → AH → Prop) : Prop :=
  wk (kBox h v0) fun v2 h =>
  wk (kLd1 h v1) fun v4 h =>
  wk (kFldA h 4 v2) fun v5 h =>
  wk (kLd1 h v5) fun v6 h =>
  wcall cl v4 [v6] h fun v7 h =>
  g64_s1 cl (v1) (v2) (v7) h Q
theorem g64_eq (cl : CL) (v0 v1 : AV) (h : AH) (Q : AV → AH → Prop) : wrun cl S64 [v0, v1] h Q = g64 cl v0 v1 h Q := by kernel_rfl
theorem C64 {cl : CL} (hcl : CLOk Try.prog cl) {v0 v1 : AV} {h : AH} {Q : AV → AH → Prop} (hg : g64 cl v0 v1 h Q) : CallsA Try.prog 64 [v0, v1] h Q := wfn_ok hcl (f := 64) (fn := Try.f64) (by kernel_rfl) S64_ok (by decide) (by kernel_rfl) (its_nil (by kernel_rfl)) (by rw [g64_eq]; exact hg)

/- widgetry/geometry.Check -/
def S65.r0 : List AOpr := [
  ⟨some 1, .box (.tmp 0), none⟩,
  ⟨some 2, .mov (.const (.int .i64 0)), none⟩]
def S65.r1 : List (AOpr × Option Nat) := [
  (⟨some 3, .fldA 0 (.tmp 1), none⟩, none),
  (⟨some 4, .ld1 (.tmp 3), none⟩, none),
  (⟨some 5, .arith .lss (.tmp 4) (.const (.int .i64 0)), none⟩, none),
  (⟨some 6, .mov (.tmp 5), none⟩, none),
  (⟨some 7, .fldA 0 (.tmp 1), some (6, false)⟩, some 6),
  (⟨some 8, .ld1 (.tmp 7), some (6, false)⟩, none),
  (⟨some 9, .arith .gtr (.tmp 8) (.const (.int .i64 3)), some (6, false)⟩, none),
  (⟨some 10, .pick (.tmp 6) (.const (.bool true)) (.tmp 9), none⟩, none),
  (⟨some 11, .mov (.tmp 10), none⟩, none),
  (⟨some 12, .fldA 2 (.tmp 1), some (11, false)⟩, some 11),
  (⟨some 13, .ld1 (.tmp 12), some (11, false)⟩, none),
  (⟨some 14, .arith .lss (.tmp 13) (.const (.int .i64 1)), some (11, false)⟩, none),
  (⟨some 15, .pick (.tmp 11) (.const (.bool true)) (.tmp 14), none⟩, none),
  (⟨some 16, .mov (.tmp 15), none⟩, none),
  (⟨some 17, .fldA 2 (.tmp 1), some (16, false)⟩, some 16),
  (⟨some 18, .ld1 (.tmp 17), some (16, false)⟩, none),
  (⟨some 19, .arith .gtr (.tmp 18) (.const (.int .i64 16)), some (16, false)⟩, none),
  (⟨some 20, .pick (.tmp 16) (.const (.bool true)) (.tmp 19), none⟩, none),
  (⟨some 21, .mov (.tmp 20), none⟩, none),
  (⟨some 22, .fldA 3 (.tmp 1), some (21, false)⟩, some 21),
  (⟨some 23, .ld1 (.tmp 22), some (21, false)⟩, none),
  (⟨some 24, .call (.const (.func (.func 61) [] [])) [.tmp 23, .const (.int .i64 1048576)], some (21, false)⟩, none),
  (⟨some 25, .un .not (.tmp 24), some (21, false)⟩, none),
  (⟨some 26, .pick (.tmp 21) (.const (.bool true)) (.tmp 25), none⟩, none),
  (⟨some 27, .mov (.tmp 26), none⟩, none),
  (⟨some 28, .fldA 4 (.tmp 1), some (27, false)⟩, some 27),
  (⟨some 29, .ld1 (.tmp 28), some (27, false)⟩, none),
  (⟨some 30, .call (.const (.func (.func 61) [] [])) [.tmp 29, .const (.int .i64 1048576)], some (27, false)⟩, none),
  (⟨some 31, .un .not (.tmp 30), some (27, false)⟩, none),
  (⟨some 32, .pick (.tmp 27) (.const (.bool true)) (.tmp 31), none⟩, none)]
def S65.r2 : List AOpr := [
  ⟨some 2, .mov (.const (.int .i64 1)), none⟩]
def S65.r3 : List AOpr := [
  ⟨some 2, .mov (.const (.int .i64 0)), none⟩]
def S65 : SFn := ⟨33, [.tmp 2], .seq (.reg S65.r0) (.seq (.seq (.joinN [32] (.regS S65.r1)) (.cond (.tmp 32) (.seq (.reg S65.r2) (.ret)) (.skip))) (.seq (.reg S65.r3) (.ret)))⟩
theorem S65_ok : cFn Try.prog Try.f65 = some S65.erase := by kernel_rfl
def g65_s1 (cl : CL) (v27 v31 : AV) (h : AH) (k : List AV → AH → Prop) : Prop :=
  wk (kPick h v27 (.bool true) v31) fun v32 h =>
  k [v32] h
def g65_s2 (cl : CL) (v1 v21 v22 : AV) (h : AH) (k : List AV → AH → Prop) : Prop :=
  wg (gdv false v21) (fun k => wk (kLd1 h v22) k) h fun v23 h =>
  wg (gdv false v21) (fun k => wcall cl (.func (.func 61) [] []) [v23, (.int .i64 1048576)] h k) h fun v24 h =>
  wg (gdv false v21) (fun k => wk (kUn h .not v24) k) h fun v25 h =>
  wk (kPick h v21 (.bool true) v25) fun v26 h =>
  wsp v26 fun v27 =>
  wg (gdv false v27) (fun k => wk (kFldA h 4 v1) k) h fun v28 h =>
  wg (gdv false v27) (fun k => wk (kLd1 h v28) k) h fun v29 h =>
  wg (gdv false v27) (fun k => wcall cl (.func (.func 61) [] []) [v29, (.int .i64 1048576)] h k) h fun v30 h =>
  wg (gdv false v27) (fun k => wk (kUn h .not v30) k) h fun v31 h =>
  g65_s1 cl (v27) (v31) h k
def g65_s3 (cl : CL) (v1 v11 v12 : AV) (h : AH) (k : List AV → AH → Prop) : Prop :=
  wg (gdv false v11) (fun k => wk (kLd1 h v12) k) h fun v13 h =>
  wg (gdv false v11) (fun k => wk (kArith h .lss v13 (.int .i64 1)) k) h fun v14 h =>
  wk (kPick h v11 (.bool true) v14) fun v15 h =>
  wsp v15 fun v16 =>
  wg (gdv false v16) (fun k => wk (kFldA h 2 v1) k) h fun v17 h =>
  wg (gdv false v16) (fun k => wk (kLd1 h v17) k) h fun v18 h =>
  wg (gdv false v16) (fun k => wk (kArith h .gtr v18 (.int .i64 16)) k) h fun v19 h =>
  wk (kPick h v16 (.bool true) v19) fun v20 h =>
  wsp v20 fun v21 =>
  wg (gdv false v21) (fun k => wk (kFldA h 3 v1) k) h fun v22 h =>
  g65_s2 cl (v1) (v21) (v22) h k
def g65_a1 (cl : CL) (v1 : AV) (h : AH) (k : List AV → AH → Prop) : Prop :=
  wk (kFldA h 0 v1) fun v3 h =>
  wk (kLd1 h v3) fun v4 h =>
  wk (kArith h .lss v4 (.int .i64 0)) fun v5 h =>
  wsp v5 fun v6 =>
  wg (gdv false v6) (fun k => wk (kFldA h 0 v1) k) h fun v7 h =>
  wg (gdv false v6) (fun k => wk (kLd1 h v7) k) h fun v8 h =>
  wg (gdv false v6) (fun k => wk (kArith h .gtr v8 (.int .i64 3)) k) h fun v9 h =>
  wk (kPick h v6 (.bool true) v9) fun v10 h =>
  wsp v10 fun v11 =>
  wg (gdv false v11) (fun k => wk (kFldA h 2 v1) k) h fun v12 h =>
  g65_s3 cl (v1) (v11) (v12) h k
def g65_j2 (cl : CL) (v32 : AV) (h : AH) (Q : AV → AH → Prop) : Prop :=
  wif v32 (
  Q ((.int .i64 1)) h) (
  Q ((.int .i64 0)) h)
def g65 (cl : CL) (v0 : AV) (h : AH) (Q : AV → AH → Prop) : Prop :=
  wk (kBox h v0) fun v1 h =>
  wjoinN (g65_a1 cl (v1) h) fun vs h => g65_j2 cl (nthD vs 0) h Q
theorem g65_eq (cl : CL) (v0 : AV) (h : AH) (Q : AV → AH → Prop) : wrun cl S65 [v0] h Q = g65 cl v0 h Q := by kernel_rfl
theorem C65 {cl : CL} (hcl : CLOk Try.prog cl) {v0 : AV} {h : AH} {Q : AV → AH → Prop} (hg : g65 cl v0 h Q) : CallsA Try.prog 65 [v0] h Q := wfn_ok hcl (f := 65) (fn := Try.f65) (by kernel_rfl) S65_ok (by decide) (by kernel_rfl) (its_nil (by kernel_rfl)) (by rw [g65_eq]; exact hg)

/- widgetry/geometry.linear -/
def S66.r0 : List AOpr := [
  ⟨some 2, .box (.tmp 0), none⟩,
  ⟨some 3, .box (.tmp 1), none⟩,
  ⟨some 4, .new [.int .i64 0, .int .i64 0], none⟩]
def S66.r1 : List AOpr := [
  ⟨some 6, .fldA 1 (.tmp 2), none⟩,
  ⟨some 7, .ld1 (.tmp 6), none⟩]
def S66.r2 : List AOpr := [
  ⟨some 8, .fldA 0 (.tmp 3), none⟩,
  ⟨some 9, .ld1 (.tmp 8), none⟩,
  ⟨some 10, .un .neg (.tmp 9), none⟩,
  ⟨some 11, .fldA 0 (.tmp 3), none⟩,
  ⟨none, .st 1 (.tmp 11) (.tmp 10), none⟩]
def S66.r3 : List AOpr := [
  ⟨some 5, .mov (.const (.int .i64 0)), none⟩]
def S66.r4 : List AOpr := [
  ⟨some 12, .mov (.tmp 5), none⟩,
  ⟨some 13, .fldA 0 (.tmp 2), none⟩,
  ⟨some 14, .ld1 (.tmp 13), none⟩,
  ⟨some 15, .arith .lss (.tmp 12) (.tmp 14), none⟩]
def S66.r5 : List AOpr := [
  ⟨some 18, .fldA 1 (.tmp 3), none⟩,
  ⟨some 19, .ld1 (.tmp 18), none⟩,
  ⟨some 20, .un .neg (.tmp 19), none⟩,
  ⟨some 21, .fldA 0 (.tmp 3), none⟩,
  ⟨some 22, .ld1 (.tmp 21), none⟩,
  ⟨some 23, .build [.int .i64 0, .int .i64 0] [(0, 1, .tmp 20), (1, 1, .tmp 22)], none⟩,
  ⟨none, .st 2 (.tmp 3) (.tmp 23), none⟩]
def S66.r6 : List AOpr := [
  ⟨some 16, .mov (.tmp 5), none⟩,
  ⟨some 17, .arith .add (.tmp 16) (.const (.int .i64 1)), none⟩,
  ⟨some 5, .mov (.tmp 17), none⟩]
def S66.r7 : List AOpr := [
  ⟨some 24, .fldA 0 (.tmp 3), none⟩,
  ⟨some 25, .ld1 (.tmp 24), none⟩,
  ⟨some 26, .fldA 2 (.tmp 2), none⟩,
  ⟨some 27, .ld1 (.tmp 26), none⟩,
  ⟨some 28, .arith .mul (.tmp 25) (.tmp 27), none⟩,
  ⟨some 29, .fldA 1 (.tmp 3), none⟩,
  ⟨some 30, .ld1 (.tmp 29), none⟩,
  ⟨some 31, .fldA 2 (.tmp 2), none⟩,
  ⟨some 32, .ld1 (.tmp 31), none⟩,
  ⟨some 33, .arith .mul (.tmp 30) (.tmp 32), none⟩,
  ⟨some 34, .build [.int .i64 0, .int .i64 0] [(0, 1, .tmp 28), (1, 1, .tmp 33)], none⟩,
  ⟨none, .st 2 (.tmp 4) (.tmp 34), none⟩]
def S66 : SFn := ⟨35, [.cell 4 (some 2)], .seq (.reg S66.r0) (.seq (.seq (.reg S66.r1) (.joinN [2, 3, 4] (.cond (.tmp 7) (.reg S66.r2) (.skip)))) (.seq (.seq (.reg S66.r3) (.block 0 (.loop [2, 3, 4, 5] [2, 3, 4] (.seq (.seq (.reg S66.r4) (.cond (.tmp 15) (.skip) (.exit 0))) (.seq (.block 1 (.reg S66.r5)) (.reg S66.r6)))))) (.seq (.reg S66.r7) (.ret))))⟩
theorem S66_ok : cFn Try.prog Try.f66 = some S66.erase := by kernel_rfl
def g66_a1 (cl : CL) (v2 v3 v4 v7 : AV) (h : AH) (k : List AV → AH → Prop) : Prop :=
  wif v7 (
  wk (kFldA h 0 v3) fun v8 h =>
  wk (kLd1 h v8) fun v9 h =>
  wk (kUn h .neg v9) fun v10 h =>
  wk (kFldA h 0 v3) fun v11 h =>
  wk (kSt h 1 v11 v10) fun _ h =>
  k [v2, v3, v4] h) (
  k [v2, v3, v4] h)
def g66_s1 (cl : CL) (v2 v3 v4 v5 v20 v22 : AV) (h : AH) (k : AX → List AV → List AV → AH → Prop) : Prop :=
  wk (kBuild h [.int .i64 0, .int .i64 0] [(0, 1, v20), (1, 1, v22)]) fun v23 h =>
  wk (kSt h 2 v3 v23) fun _ h =>
  wk (kArith h .add v5 (.int .i64 1)) fun v17 h =>
  k .nrm [v2, v3, v4, v17] [v2, v3, v4] h
def g66_l2 (cl : CL) (v2 v3 v4 v5 : AV) (h : AH) (k : AX → List AV → List AV → AH → Prop) : Prop :=
  wk (kFldA h 0 v2) fun v13 h =>
  wk (kLd1 h v13) fun v14 h =>
  wk (kArith h .lss v5 v14) fun v15 h =>
  wif v15 (
  wk (kFldA h 1 v3) fun v18 h =>
  wk (kLd1 h v18) fun v19 h =>
  wk (kUn h .neg v19) fun v20 h =>
  wk (kFldA h 0 v3) fun v21 h =>
  wk (kLd1 h v21) fun v22 h =>
  g66_s1 cl (v2) (v3) (v4) (v5) (v20) (v22) h k) (
  k (.exit 0) [v2, v3, v4, v5] [v2, v3, v4] h)
def g66_s2 (cl : CL) (v4 v28 v30 v31 : AV) (h : AH) (Q : AV → AH → Prop) : Prop :=
  wk (kLd1 h v31) fun v32 h =>
  wk (kArith h .mul v30 v32) fun v33 h =>
  wk (kBuild h [.int .i64 0, .int .i64 0] [(0, 1, v28), (1, 1, v33)]) fun v34 h =>
  wk (kSt h 2 v4 v34) fun _ h =>
  wres (aresV h [.cell (v4) (some 2)]) h Q
def g66_c3 (cl : CL) (v2 v3 v4 : AV) (h : AH) (Q : AV → AH → Prop) : Prop :=
  wk (kFldA h 0 v3) fun v24 h =>
  wk (kLd1 h v24) fun v25 h =>
  wk (kFldA h 2 v2) fun v26 h =>
  wk (kLd1 h v26) fun v27 h =>
  wk (kArith h .mul v25 v27) fun v28 h =>
  wk (kFldA h 1 v3) fun v29 h =>
  wk (kLd1 h v29) fun v30 h =>
  wk (kFldA h 2 v2) fun v31 h =>
  g66_s2 cl (v4) (v28) (v30) (v31) h Q
def g66_j4 (cl : CL) (x : AX) (v2 v3 v4 : AV) (h : AH) (Q : AV → AH → Prop) : Prop :=
  xs x (g66_c3 cl (v2) (v3) (v4) h Q) (fun j => cond (Nat.beq j 0) (g66_c3 cl (v2) (v3) (v4) h Q) (False)) (wres (aresV h [.cell (v4) (some 2)]) h Q)
def g66_j5 (cl : CL) (v2 v3 v4 : AV) (h : AH) (Q : AV → AH → Prop) : Prop :=
  wloop (fun vs h k => g66_l2 cl (nthD vs 0) (nthD vs 1) (nthD vs 2) (nthD vs 3) h k) [v2, v3, v4, (.int .i64 0)] h fun x vs h => g66_j4 cl x (nthD vs 0) (nthD vs 1) (nthD vs 2) h Q
def g66 (cl : CL) (v0 v1 : AV) (h : AH) (Q : AV → AH → Prop) : Prop :=
  wk (kBox h v0) fun v2 h =>
  wk (kBox h v1) fun v3 h =>
  wk (kNew h [.int .i64 0, .int .i64 0]) fun v4 h =>
  wk (kFldA h 1 v2) fun v6 h =>
  wk (kLd1 h v6) fun v7 h =>
  wjoinN (g66_a1 cl (v2) (v3) (v4) (v7) h) fun vs h => g66_j5 cl (nthD vs 0) (nthD vs 1) (nthD vs 2) h Q
theorem g66_eq (cl : CL) (v0 v1 : AV) (h : AH) (Q : AV → AH → Prop) : wrun cl S66 [v0, v1] h Q = g66 cl v0 v1 h Q := by kernel_rfl
theorem C66 {cl : CL} (hcl : CLOk Try.prog cl) {v0 v1 : AV} {h : AH} {Q : AV → AH → Prop} (hg : g66 cl v0 v1 h Q) : CallsA Try.prog 66 [v0, v1] h Q := wfn_ok hcl (f := 66) (fn := Try.f66) (by kernel_rfl) S66_ok (by decide) (by kernel_rfl) (its_nil (by kernel_rfl)) (by rw [g66_eq]; exact hg)

/- widgetry/geometry.valid -/
def S70.r0 : List AOpr := [
  ⟨some 1, .box (.tmp 0), none⟩,
  ⟨some 2, .new [.int .i64 0, .int .i64 0, .int .i64 0, .int .i64 0], none⟩]
def S70.r1 : List AOpr := [
  ⟨some 3, .ldn 4 (.tmp 1), none⟩,
  ⟨some 4, .call (.const (.func (.func 36) [] [])) [.tmp 3], none⟩,
  ⟨some 5, .arith .neq (.tmp 4) (.const (.int .i64 0)), none⟩]
def S70.r2 : List AOpr := [
  ⟨some 6, .build [.int .i64 0, .int .i64 0, .int .i64 0, .int .i64 0] [], none⟩,
  ⟨none, .st 4 (.tmp 2) (.tmp 6), none⟩]
def S70.r3 : List AOpr := [
  ⟨some 7, .ldn 4 (.tmp 1), none⟩,
  ⟨none, .st 4 (.tmp 2) (.tmp 7), none⟩]
def S70 : SFn := ⟨8, [.cell 2 (some 4)], .seq (.reg S70.r0) (.seq (.seq (.reg S70.r1) (.cond (.tmp 5) (.seq (.reg S70.r2) (.ret)) (.skip))) (.seq (.reg S70.r3) (.ret)))⟩
theorem S70_ok : cFn Try.prog Try.f70 = some S70.erase := by kernel_rfl
def g70 (cl : CL) (v0 : AV) (h : AH) (Q : AV → AH → Prop) : Prop :=
  wk (kBox h v0) fun v1 h =>
  wk (kNew h [.int .i64 0, .int .i64 0, .int .i64 0, .int .i64 0]) fun v2 h =>
  wk (kLdn h 4 v1) fun v3 h =>
  wcall cl (.func (.func 36) [] []) [v3] h fun v4 h =>
  wk (kArith h .neq v4 (.int .i64 0)) fun v5 h =>
  wif v5 (
  wk (kBuild h [.int .i64 0, .int .i64 0, .int .i64 0, .int .i64 0] []) fun v6 h =>
  wk (kSt h 4 v2 v6) fun _ h =>
  wres (aresV h [.cell (v2) (some 4)]) h Q) (
  wk (kLdn h 4 v1) fun v7 h =>
  wk (kSt h 4 v2 v7) fun _ h =>
  wres (aresV h [.cell (v2) (some 4)]) h Q)
theorem g70_eq (cl : CL) (v0 : AV) (h : AH) (Q : AV → AH → Prop) : wrun cl S70 [v0] h Q = g70 cl v0 h Q := by kernel_rfl
theorem C70 {cl : CL} (hcl : CLOk Try.prog cl) {v0 : AV} {h : AH} {Q : AV → AH → Prop} (hg : g70 cl v0 h Q) : CallsA Try.prog 70 [v0] h Q := wfn_ok hcl (f := 70) (fn := Try.f70) (by kernel_rfl) S70_ok (by decide) (by kernel_rfl) (its_nil (by kernel_rfl)) (by rw [g70_eq]; exact hg)

/- widgetry/geometry.floor -/
def S71.r0 : List AOpr := [
  ⟨some 4, .mov (.const (.int .i64 0)), none⟩]
def S71.r1 : List AOpr := [
  ⟨some 6, .mov (.tmp 0), none⟩,
  ⟨some 7, .mov (.tmp 1), none⟩,
  ⟨some 8, .arith .quo (.tmp 6) (.tmp 7), none⟩,
  ⟨some 5, .mov (.tmp 8), none⟩]
def S71.r2 : List AOpr := [
  ⟨some 9, .mov (.tmp 0), none⟩,
  ⟨some 10, .mov (.tmp 1), none⟩,
  ⟨some 11, .arith .rem (.tmp 9) (.tmp 10), none⟩,
  ⟨some 12, .arith .lss (.tmp 11) (.const (.int .i64 0)), none⟩]
def S71.r3 : List AOpr := [
  ⟨some 13, .mov (.tmp 5), none⟩,
  ⟨some 14, .arith .sub (.tmp 13) (.const (.int .i64 1)), none⟩,
  ⟨some 5, .mov (.tmp 14), none⟩]
def S71.r4 : List AOpr := [
  ⟨some 15, .mov (.tmp 5), none⟩,
  ⟨some 4, .mov (.tmp 15), none⟩]
def S71 : SFn := ⟨16, [.tmp 4], .seq (.reg S71.r0) (.seq (.reg S71.r1) (.seq (.seq (.reg S71.r2) (.joinN [5] (.cond (.tmp 12) (.reg S71.r3) (.skip)))) (.seq (.reg S71.r4) (.ret))))⟩
theorem S71_ok : cFn Try.prog Try.f71 = some S71.erase := by kernel_rfl
def g71_a1 (cl : CL) (v5 v12 : AV) (h : AH) (k : List AV → AH → Prop) : Prop :=
  wif v12 (
  wk (kArith h .sub v5 (.int .i64 1)) fun v14 h =>
  k [v14] h) (
  k [v5] h)
def g71_j2 (cl : CL) (v5 : AV) (h : AH) (Q : AV → AH → Prop) : Prop :=
  Q (v5) h
def g71 (cl : CL) (v0 v1 : AV) (h : AH) (Q : AV → AH → Prop) : Prop :=
  wk (kArith h .quo v0 v1) fun v8 h =>
  wk (kArith h .rem v0 v1) fun v11 h =>
  wk (kArith h .lss v11 (.int .i64 0)) fun v12 h =>
  wjoinN (g71_a1 cl (v8) (v12) h) fun vs h => g71_j2 cl (nthD vs 0) h Q
theorem g71_eq (cl : CL) (v0 v1 : AV) (h : AH) (Q : AV → AH → Prop) : wrun cl S71 [v0, v1] h Q = g71 cl v0 v1 h Q := by kernel_rfl
theorem C71 {cl : CL} (hcl : CLOk Try.prog cl) {v0 v1 : AV} {h : AH} {Q : AV → AH → Prop} (hg : g71 cl v0 v1 h Q) : CallsA Try.prog 71 [v0, v1] h Q := wfn_ok hcl (f := 71) (fn := Try.f71) (by kernel_rfl) S71_ok (by decide) (by kernel_rfl) (its_nil (by kernel_rfl)) (by rw [g71_eq]; exact hg)

/- widgetry/display.covers$1 -/
def S72.r0 : List AOpr := [
  ⟨some 2, .box (.tmp 0), none⟩,
  ⟨some 3, .mov (.const (.bool false)), none⟩]
def S72.r1 : List (AOpr × Option Nat) := [
  (⟨some 4, .fldA 4 (.tmp 2), none⟩, none),
  (⟨some 5, .ld1 (.tmp 4), none⟩, none),
  (⟨some 6, .ld1 (.tmp 1), none⟩, none),
  (⟨some 7, .arith .leq (.tmp 5) (.tmp 6), none⟩, none),
  (⟨some 8, .mov (.tmp 7), none⟩, none),
  (⟨some 9, .ld1 (.tmp 1), some (8, true)⟩, some 8),
  (⟨some 10, .fldA 4 (.tmp 2), some (8, true)⟩, none),
  (⟨some 11, .ld1 (.tmp 10), some (8, true)⟩, none),
  (⟨some 12, .fldA 5 (.tmp 2), some (8, true)⟩, none),
  (⟨some 13, .ld1 (.tmp 12), some (8, true)⟩, none),
  (⟨some 14, .arith .add (.tmp 11) (.tmp 13), some (8, true)⟩, none),
  (⟨some 15, .arith .lss (.tmp 9) (.tmp 14), some (8, true)⟩, none),
  (⟨some 16, .pick (.tmp 8) (.tmp 15) (.const (.bool false)), none⟩, none),
  (⟨some 3, .mov (.tmp 16), none⟩, none)]
def S72 : SFn := ⟨17, [.tmp 3], .seq (.reg S72.r0) (.seq (.regS S72.r1) (.ret))⟩
theorem S72_ok : cFn Try.prog Try.f72 = some S72.erase := by kernel_rfl
def g72_s1 (cl : CL) (v2 v8 v9 v11 : AV) (h : AH) (Q : AV → AH → Prop) : Prop :=
  wg (gdv true v8) (fun k => wk (kFldA h 5 v2) k) h fun v12 h =>
  wg (gdv true v8) (fun k => wk (kLd1 h v12) k) h fun v13 h =>
  wg (gdv true v8) (fun k => wk (kArith h .add v11 v13) k) h fun v14 h =>
  wg (gdv true v8) (fun k => wk (kArith h .lss v9 v14) k) h fun v15 h =>
  wk (kPick h v8 v15 (.bool false)) fun v16 h =>
  Q (v16) h
def g72 (cl : CL) (v0 v1 : AV) (h : AH) (Q : AV → AH → Prop) : Prop :=
  wk (kBox h v0) fun v2 h =>
  wk (kFldA h 4 v2) fun v4 h =>
  wk (kLd1 h v4) fun v5 h =>
  wk (kLd1 h v1) fun v6 h =>
  wk (kArith h .leq v5 v6) fun v7 h =>
  wsp v7 fun v8 =>
  wg (gdv true v8) (fun k => wk (kLd1 h v1) k) h fun v9 h =>
  wg (gdv true v8) (fun k => wk (kFldA h 4 v2) k) h fun v10 h =>
  wg (gdv true v8) (fun k => wk (kLd1 h v10) k) h fun v11 h =>
  g72_s1 cl (v2) (v8) (v9) (v11) h Q
theorem g72_eq (cl : CL) (v0 v1 : AV) (h : AH) (Q : AV → AH → Prop) : wrun cl S72 [v0, v1] h Q = g72 cl v0 v1 h Q := by kernel_rfl
theorem C72 {cl : CL} (hcl : CLOk Try.prog cl) {v0 v1 : AV} {h : AH} {Q : AV → AH → Prop} (hg : g72 cl v0 v1 h Q) : CallsA Try.prog 72 [v0, v1] h Q := wfn_ok hcl (f := 72) (fn := Try.f72) (by kernel_rfl) S72_ok (by decide) (by kernel_rfl) (its_nil (by kernel_rfl)) (by rw [g72_eq]; exact hg)

/- slices.IndexFunc[[]widgetry/api.Command,widgetry/api.Command] -/
def S74.r0 : List AOpr := [
  ⟨some 4, .mov (.const (.int .i64 0)), none⟩]
def S74.r1 : List AOpr := [
  ⟨some 6, .mov (.tmp 0), none⟩,
  ⟨some 7, .len (.tmp 6), none⟩,
  ⟨some 8, .mov (.const (.int .i64 0)), none⟩]
def S74.r2 : List AOpr := [
  ⟨some 9, .arith .lss (.tmp 8) (.tmp 7), none⟩]
def S74.r3 : List AOpr := [
  ⟨some 10, .mov (.tmp 8), none⟩,
  ⟨some 5, .mov (.tmp 10), none⟩]
def S74.r4 : List AOpr := [
  ⟨some 11, .mov (.tmp 1), none⟩,
  ⟨some 12, .mov (.tmp 0), none⟩,
  ⟨some 13, .mov (.tmp 5), none⟩,
  ⟨some 14, .idxA 22 (.tmp 12) (.tmp 13), none⟩,
  ⟨some 15, .ldn 22 (.tmp 14), none⟩,
  ⟨some 16, .call (.tmp 11) [.tmp 15], none⟩]
def S74.r5 : List AOpr := [
  ⟨some 17, .mov (.tmp 5), none⟩,
  ⟨some 4, .mov (.tmp 17), none⟩]
def S74.r6 : List AOpr := [
  ⟨some 18, .arith .add (.tmp 8) (.const (.int .i64 1)), none⟩,
  ⟨some 8, .mov (.tmp 18), none⟩]
def S74.r7 : List AOpr := [
  ⟨some 4, .mov (.const (.int .i64 (-1))), none⟩]
def S74 : SFn := ⟨19, [.tmp 4], .seq (.reg S74.r0) (.seq (.seq (.reg S74.r1) (.block 0 (.loop [0, 1, 7, 8] [4] (.seq (.reg S74.r2) (.seq (.cond (.tmp 9) (.skip) (.exit 0)) (.seq (.block 1 (.seq (.reg S74.r3) (.seq (.reg S74.r4) (.cond (.tmp 16) (.seq (.reg S74.r5) (.ret)) (.skip))))) (.reg S74.r6))))))) (.seq (.reg S74.r7) (.ret)))⟩
theorem S74_ok : cFn Try.prog Try.f74 = some S74.erase := by kernel_rfl
def g74_l1 (cl : CL) (v0 v1 v7 v8 : AV) (h : AH) (k : AX → List AV → List AV → AH → Prop) : Prop :=
  wk (kArith h .lss v8 v7) fun v9 h =>
  wif v9 (
  wk (kIdxA h 22 v0 v8) fun v14 h =>
  wk (kLdn h 22 v14) fun v15 h =>
  wcall cl v1 [v15] h fun v16 h =>
  wif v16 (
  k .ret [v0, v1, v7, v8] [v8] h) (
  wk (kArith h .add v8 (.int .i64 1)) fun v18 h =>
  k .nrm [v0, v1, v7, v18] [.undef] h)) (
  k (.exit 0) [v0, v1, v7, v8] [.undef] h)
def g74_c2 (cl : CL) (h : AH) (Q : AV → AH → Prop) : Prop :=
  Q ((.int .i64 (-1))) h
def g74_j3 (cl : CL) (x : AX) (v4 : AV) (h : AH) (Q : AV → AH → Prop) : Prop :=
  xs x (g74_c2 cl h Q) (fun j => cond (Nat.beq j 0) (g74_c2 cl h Q) (False)) (Q (v4) h)
def g74 (cl : CL) (v0 v1 : AV) (h : AH) (Q : AV → AH → Prop) : Prop :=
  wk (kLen h v0) fun v7 h =>
  wloop (fun vs h k => g74_l1 cl (nthD vs 0) (nthD vs 1) (nthD vs 2) (nthD vs 3) h k) [v0, v1, v7, (.int .i64 0)] h fun x vs h => g74_j3 cl x (nthD vs 0) h Q
theorem g74_eq (cl : CL) (v0 v1 : AV) (h : AH) (Q : AV → AH → Prop) : wrun cl S74 [v0, v1] h Q = g74 cl v0 v1 h Q := by kernel_rfl
theorem C74 {cl : CL} (hcl : CLOk Try.prog cl) {v0 v1 : AV} {h : AH} {Q : AV → AH → Prop} (hg : g74 cl v0 v1 h Q) : CallsA Try.prog 74 [v0, v1] h Q := wfn_ok hcl (f := 74) (fn := Try.f74) (by kernel_rfl) S74_ok (by decide) (by kernel_rfl) (its_nil (by kernel_rfl)) (by rw [g74_eq]; exact hg)

/- slices.Backward[[]*widgetry/api.Transform,*widgetry/api.Transform] -/
def S75.r0 : List AOpr := [
  ⟨some 1, .box (.tmp 0), none⟩,
  ⟨some 2, .mov (.const (.nilfunc)), none⟩]
def S75.r1 : List AOpr := [
  ⟨some 3, .mkf (.func 85) [] [.tmp 1], none⟩,
  ⟨some 2, .mov (.tmp 3), none⟩]
def S75 : SFn := ⟨4, [.tmp 2], .seq (.reg S75.r0) (.seq (.reg S75.r1) (.ret))⟩
theorem S75_ok : cFn Try.prog Try.f75 = some S75.erase := by kernel_rfl
def g75 (cl : CL) (v0 : AV) (h : AH) (Q : AV → AH → Prop) : Prop :=
  wk (kBox h v0) fun v1 h =>
  wk (kMkf h (.func 85) [] [v1]) fun v3 h =>
  Q (v3) h
theorem g75_eq (cl : CL) (v0 : AV) (h : AH) (Q : AV → AH → Prop) : wrun cl S75 [v0] h Q = g75 cl v0 h Q := by kernel_rfl
theorem C75 {cl : CL} (hcl : CLOk Try.prog cl) {v0 : AV} {h : AH} {Q : AV → AH → Prop} (hg : g75 cl v0 h Q) : CallsA Try.prog 75 [v0] h Q := wfn_ok hcl (f := 75) (fn := Try.f75) (by kernel_rfl) S75_ok (by decide) (by kernel_rfl) (its_nil (by kernel_rfl)) (by rw [g75_eq]; exact hg)

/- widgetry/geometry.Apply -/
def S76.r0 : List AOpr := [
  ⟨some 2, .box (.tmp 0), none⟩,
  ⟨some 3, .box (.tmp 1), none⟩,
  ⟨some 4, .new [.int .i64 0, .int .i64 0, .int .i64 0, .int .i64 0], none⟩]
def S76.r1 : List (AOpr × Option Nat) := [
  (⟨some 6, .ldn 5 (.tmp 2), none⟩, none),
  (⟨some 7, .call (.const (.func (.func 65) [] [])) [.tmp 6], none⟩, none),
  (⟨some 8, .arith .neq (.tmp 7) (.const (.int .i64 0)), none⟩, none),
  (⟨some 9, .mov (.tmp 8), none⟩, none),
  (⟨some 10, .ldn 4 (.tmp 3), some (9, false)⟩, some 9),
  (⟨some 11, .call (.const (.func (.func 36) [] [])) [.tmp 10], some (9, false)⟩, none),
  (⟨some 12, .arith .neq (.tmp 11) (.const (.int .i64 0)), some (9, false)⟩, none),
  (⟨some 13, .pick (.tmp 9) (.const (.bool true)) (.tmp 12), none⟩, none)]
def S76.r2 : List AOpr := [
  ⟨some 14, .build [.int .i64 0, .int .i64 0, .int .i64 0, .int .i64 0] [], none⟩,
  ⟨none, .st 4 (.tmp 4) (.tmp 14), none⟩]
def S76.r3 : List AOpr := [
  ⟨some 15, .fldA 1 (.tmp 2), none⟩,
  ⟨some 16, .ld1 (.tmp 15), none⟩]
def S76.r4 : List AOpr := [
  ⟨some 17, .fldA 0 (.tmp 3), none⟩,
  ⟨some 18, .ld1 (.tmp 17), none⟩,
  ⟨some 19, .un .neg (.tmp 18), none⟩,
  ⟨some 20, .fldA 2 (.tmp 3), none⟩,
  ⟨some 21, .ld1 (.tmp 20), none⟩,
  ⟨some 22, .arith .sub (.tmp 19) (.tmp 21), none⟩,
  ⟨some 23, .fldA 0 (.tmp 3), none⟩,
  ⟨none, .st 1 (.tmp 23) (.tmp 22), none⟩]
def S76.r5 : List AOpr := [
  ⟨some 5, .mov (.const (.int .i64 0)), none⟩]
def S76.r6 : List AOpr := [
  ⟨some 24, .mov (.tmp 5), none⟩,
  ⟨some 25, .fldA 0 (.tmp 2), none⟩,
  ⟨some 26, .ld1 (.tmp 25), none⟩,
  ⟨some 27, .arith .lss (.tmp 24) (.tmp 26), none⟩]
def S76.r7 : List AOpr := [
  ⟨some 30, .fldA 1 (.tmp 3), none⟩,
  ⟨some 31, .ld1 (.tmp 30), none⟩,
  ⟨some 32, .un .neg (.tmp 31), none⟩,
  ⟨some 33, .fldA 3 (.tmp 3), none⟩,
  ⟨some 34, .ld1 (.tmp 33), none⟩,
  ⟨some 35, .arith .sub (.tmp 32) (.tmp 34), none⟩,
  ⟨some 36, .fldA 0 (.tmp 3), none⟩,
  ⟨some 37, .ld1 (.tmp 36), none⟩,
  ⟨some 38, .fldA 3 (.tmp 3), none⟩,
  ⟨some 39, .ld1 (.tmp 38), none⟩,
  ⟨some 40, .fldA 2 (.tmp 3), none⟩,
  ⟨some 41, .ld1 (.tmp 40), none⟩,
  ⟨some 42, .build [.int .i64 0, .int .i64 0, .int .i64 0, .int .i64 0] [(0, 1, .tmp 35), (1, 1, .tmp 37), (2, 1, .tmp 39), (3, 1, .tmp 41)], none⟩,
  ⟨none, .st 4 (.tmp 3) (.tmp 42), none⟩]
def S76.r8 : List AOpr := [
  ⟨some 28, .mov (.tmp 5), none⟩,
  ⟨some 29, .arith .add (.tmp 28) (.const (.int .i64 1)), none⟩,
  ⟨some 5, .mov (.tmp 29), none⟩]
def S76.r9 : List AOpr := [
  ⟨some 43, .fldA 0 (.tmp 3), none⟩,
  ⟨some 44, .ld1 (.tmp 43), none⟩,
  ⟨some 45, .fldA 2 (.tmp 2), none⟩,
  ⟨some 46, .ld1 (.tmp 45), none⟩,
  ⟨some 47, .arith .mul (.tmp 44) (.tmp 46), none⟩,
  ⟨some 48, .fldA 3 (.tmp 2), none⟩,
  ⟨some 49, .ld1 (.tmp 48), none⟩,
  ⟨some 50, .arith .add (.tmp 47) (.tmp 49), none⟩,
  ⟨some 51, .fldA 1 (.tmp 3), none⟩,
  ⟨some 52, .ld1 (.tmp 51), none⟩,
  ⟨some 53, .fldA 2 (.tmp 2), none⟩,
  ⟨some 54, .ld1 (.tmp 53), none⟩,
  ⟨some 55, .arith .mul (.tmp 52) (.tmp 54), none⟩,
  ⟨some 56, .fldA 4 (.tmp 2), none⟩,
  ⟨some 57, .ld1 (.tmp 56), none⟩,
  ⟨some 58, .arith .add (.tmp 55) (.tmp 57), none⟩,
  ⟨some 59, .fldA 2 (.tmp 3), none⟩,
  ⟨some 60, .ld1 (.tmp 59), none⟩,
  ⟨some 61, .fldA 2 (.tmp 2), none⟩,
  ⟨some 62, .ld1 (.tmp 61), none⟩,
  ⟨some 63, .arith .mul (.tmp 60) (.tmp 62), none⟩,
  ⟨some 64, .fldA 3 (.tmp 3), none⟩,
  ⟨some 65, .ld1 (.tmp 64), none⟩,
  ⟨some 66, .fldA 2 (.tmp 2), none⟩,
  ⟨some 67, .ld1 (.tmp 66), none⟩,
  ⟨some 68, .arith .mul (.tmp 65) (.tmp 67), none⟩,
  ⟨some 69, .build [.int .i64 0, .int .i64 0, .int .i64 0, .int .i64 0] [(0, 1, .tmp 50), (1, 1, .tmp 58), (2, 1, .tmp 63), (3, 1, .tmp 68)], none⟩,
  ⟨none, .st 4 (.tmp 4) (.tmp 69), none⟩]
def S76 : SFn := ⟨70, [.cell 4 (some 4)], .seq (.reg S76.r0) (.seq (.seq (.joinN [2, 3, 4, 13] (.regS S76.r1)) (.cond (.tmp 13) (.seq (.reg S76.r2) (.ret)) (.skip))) (.seq (.seq (.reg S76.r3) (.joinN [2, 3, 4] (.cond (.tmp 16) (.reg S76.r4) (.skip)))) (.seq (.seq (.reg S76.r5) (.block 0 (.loop [2, 3, 4, 5] [2, 3, 4] (.seq (.seq (.reg S76.r6) (.cond (.tmp 27) (.skip) (.exit 0))) (.seq (.block 1 (.reg S76.r7)) (.reg S76.r8)))))) (.seq (.reg S76.r9) (.ret)))))⟩
theorem S76_ok : cFn Try.prog Try.f76 = some S76.erase := by kernel_rfl
def g76_s1 (cl : CL) (v2 v3 v4 v7 : AV) (h : AH) (k : List AV → AH → Prop) : Prop :=
  wk (kArith h .neq v7 (.int .i64 0)) fun v8 h =>
  wsp v8 fun v9 =>
  wg (gdv false v9) (fun k => wk (kLdn h 4 v3) k) h fun v10 h =>
  wg (gdv false v9) (fun k => wcall cl (.func (.func 36) [] []) [v10] h k) h fun v11 h =>
  wg (gdv false v9) (fun k => wk (kArith h .neq v11 (.int .i64 0)) k) h fun v12 h =>
  wk (kPick h v9 (.bool true) v12) fun v13 h =>
  k [v2, v3, v4, v13] h
def g76_a1 (cl : CL) (v2 v3 v4 : AV) (h : AH) (k : List AV → AH → Prop) : Prop :=
  wk (kLdn h 5 v2) fun v6 h =>
  wcall cl (.func (.func 65) [] []) [v6] h fun v7 h =>
  g76_s1 cl (v2) (v3) (v4) (v7) h k
def g76_a2 (cl : CL) (v2 v3 v4 v16 : AV) (h : AH) (k : List AV → AH → Prop) : Prop :=
  wif v16 (
  wk (kFldA h 0 v3) fun v17 h =>
  wk (kLd1 h v17) fun v18 h =>
  wk (kUn h .neg v18) fun v19 h =>
  wk (kFldA h 2 v3) fun v20 h =>
  wk (kLd1 h v20) fun v21 h =>
  wk (kArith h .sub v19 v21) fun v22 h =>
  wk (kFldA h 0 v3) fun v23 h =>
  wk (kSt h 1 v23 v22) fun _ h =>
  k [v2, v3, v4] h) (
  k [v2, v3, v4] h)
def g76_s2 (cl : CL) (v2 v3 v4 v5 v42 : AV) (h : AH) (k : AX → List AV → List AV → AH → Prop) : Prop :=
  wk (kSt h 4 v3 v42) fun _ h =>
  wk (kArith h .add v5 (.int .i64 1)) fun v29 h =>
  k .nrm [v2, v3, v4, v29] [v2, v3, v4] h
def g76_s3 (cl : CL) (v2 v3 v4 v5 v32 v34 : AV) (h : AH) (k : AX → List AV → List AV → AH → Prop) : Prop :=
  wk (kArith h .sub v32 v34) fun v35 h =>
  wk (kFldA h 0 v3) fun v36 h =>
  wk (kLd1 h v36) fun v37 h =>
  wk (kFldA h 3 v3) fun v38 h =>
  wk (kLd1 h v38) fun v39 h =>
  wk (kFldA h 2 v3) fun v40 h =>
  wk (kLd1 h v40) fun v41 h =>
  wk (kBuild h [.int .i64 0, .int .i64 0, .int .i64 0, .int .i64 0] [(0, 1, v35), (1, 1, v37), (2, 1, v39), (3, 1, v41)]) fun v42 h =>
  g76_s2 cl (v2) (v3) (v4) (v5) (v42) h k
def g76_l3 (cl : CL) (v2 v3 v4 v5 : AV) (h : AH) (k : AX → List AV → List AV → AH → Prop) : Prop :=
  wk (kFldA h 0 v2) fun v25 h =>
  wk (kLd1 h v25) fun v26 h =>
  wk (kArith h .lss v5 v26) fun v27 h =>
  wif v27 (
  wk (kFldA h 1 v3) fun v30 h =>
  wk (kLd1 h v30) fun v31 h =>
  wk (kUn h .neg v31) fun v32 h =>
  wk (kFldA h 3 v3) fun v33 h =>
  wk (kLd1 h v33) fun v34 h =>
  g76_s3 cl (v2) (v3) (v4) (v5) (v32) (v34) h k) (
  k (.exit 0) [v2, v3, v4, v5] [v2, v3, v4] h)
def g76_s4 (cl : CL) (v4 v50 v58 v63 v65 v66 : AV) (h : AH) (Q : AV → AH → Prop) : Prop :=
  wk (kLd1 h v66) fun v67 h =>
  wk (kArith h .mul v65 v67) fun v68 h =>
  wk (kBuild h [.int .i64 0, .int .i64 0, .int .i64 0, .int .i64 0] [(0, 1, v50), (1, 1, v58), (2, 1, v63), (3, 1, v68)]) fun v69 h =>
  wk (kSt h 4 v4 v69) fun _ h =>
  wres (aresV h [.cell (v4) (some 4)]) h Q
def g76_s5 (cl : CL) (v2 v3 v4 v50 v58 : AV) (h : AH) (Q : AV → AH → Prop) : Prop :=
  wk (kFldA h 2 v3) fun v59 h =>
  wk (kLd1 h v59) fun v60 h =>
  wk (kFldA h 2 v2) fun v61 h =>
  wk (kLd1 h v61) fun v62 h =>
  wk (kArith h .mul v60 v62) fun v63 h =>
  wk (kFldA h 3 v3) fun v64 h =>
  wk (kLd1 h v64) fun v65 h =>
  wk (kFldA h 2 v2) fun v66 h =>
  g76_s4 cl (v4) (v50) (v58) (v63) (v65) (v66) h Q
def g76_s6 (cl : CL) (v2 v3 v4 v50 : AV) (h : AH) (Q : AV → AH → Prop) : Prop :=
  wk (kFldA h 1 v3) fun v51 h =>
  wk (kLd1 h v51) fun v52 h =>
  wk (kFldA h 2 v2) fun v53 h =>
  wk (kLd1 h v53) fun v54 h =>
  wk (kArith h .mul v52 v54) fun v55 h =>
  wk (kFldA h 4 v2) fun v56 h =>
  wk (kLd1 h v56) fun v57 h =>
  wk (kArith h .add v55 v57) fun v58 h =>
  g76_s5 cl (v2) (v3) (v4) (v50) (v58) h Q
def g76_c4 (cl : CL) (v2 v3 v4 : AV) (h : AH) (Q : AV → AH → Prop) : Prop :=
  wk (kFldA h 0 v3) fun v43 h =>
  wk (kLd1 h v43) fun v44 h =>
  wk (kFldA h 2 v2) fun v45 h =>
  wk (kLd1 h v45) fun v46 h =>
  wk (kArith h .mul v44 v46) fun v47 h =>
  wk (kFldA h 3 v2) fun v48 h =>
  wk (kLd1 h v48) fun v49 h =>
  wk (kArith h .add v47 v49) fun v50 h =>
  g76_s6 cl (v2) (v3) (v4) (v50) h Q
def g76_j5 (cl : CL) (x : AX) (v2 v3 v4 : AV) (h : AH) (Q : AV → AH → Prop) : Prop :=
  xs x (g76_c4 cl (v2) (v3) (v4) h Q) (fun j => cond (Nat.beq j 0) (g76_c4 cl (v2) (v3) (v4) h Q) (False)) (wres (aresV h [.cell (v4) (some 4)]) h Q)
def g76_j6 (cl : CL) (v2 v3 v4 : AV) (h : AH) (Q : AV → AH → Prop) : Prop :=
  wloop (fun vs h k => g76_l3 cl (nthD vs 0) (nthD vs 1) (nthD vs 2) (nthD vs 3) h k) [v2, v3, v4, (.int .i64 0)] h fun x vs h => g76_j5 cl x (nthD vs 0) (nthD vs 1) (nthD vs 2) h Q
def g76_j7 (cl : CL) (v2 v3 v4 v13 : AV) (h : AH) (Q : AV → AH → Prop) : Prop :=
  wif v13 (
  wk (kBuild h [.int .i64 0, .int .i64 0, .int .i64 0, .int .i64 0] []) fun v14 h =>
  wk (kSt h 4 v4 v14) fun _ h =>
  wres (aresV h [.cell (v4) (some 4)]) h Q) (
  wk (kFldA h 1 v2) fun v15 h =>
  wk (kLd1 h v15) fun v16 h =>
  wjoinN (g76_a2 cl (v2) (v3) (v4) (v16) h) fun vs h => g76_j6 cl (nthD vs 0) (nthD vs 1) (nthD vs 2) h Q)
def g76 (cl : CL) (v0 v1 : AV) (h : AH) (Q : AV → AH → Prop) : Prop :=
  wk (kBox h v0) fun v2 h =>
  wk (kBox h v1) fun v3 h =>
  wk (kNew h [.int .i64 0, .int .i64 0, .int .i64 0, .int .i64 0]) fun v4 h =>
  wjoinN (g76_a1 cl (v2) (v3) (v4) h) fun vs h => g76_j7 cl (nthD vs 0) (nthD vs 1) (nthD vs 2) (nthD vs 3) h Q
theorem g76_eq (cl : CL) (v0 v1 : AV) (h : AH) (Q : AV → AH → Prop) : wrun cl S76 [v0, v1] h Q = g76 cl v0 v1 h Q := by kernel_rfl
theorem C76 {cl : CL} (hcl : CLOk Try.prog cl) {v0 v1 : AV} {h : AH} {Q : AV → AH → Prop} (hg : g76 cl v0 v1 h Q) : CallsA Try.prog 76 [v0, v1] h Q := wfn_ok hcl (f := 76) (fn := Try.f76) (by kernel_rfl) S76_ok (by decide) (by kernel_rfl) (its_nil (by kernel_rfl)) (by rw [g76_eq]; exact hg)

/- widgetry/geometry.Empty -/
def S77.r0 : List AOpr := [
  ⟨some 1, .box (.tmp 0), none⟩,
  ⟨some 2, .mov (.const (.bool false)), none⟩]
def S77.r1 : List AOpr := [
  ⟨some 3, .ldn 4 (.tmp 1), none⟩,
  ⟨some 4, .call (.const (.func (.func 70) [] [])) [.tmp 3], none⟩,
  ⟨none, .st 4 (.tmp 1) (.tmp 4), none⟩]
def S77.r2 : List (AOpr × Option Nat) := [
  (⟨some 5, .fldA 2 (.tmp 1), none⟩, none),
  (⟨some 6, .ld1 (.tmp 5), none⟩, none),
  (⟨some 7, .arith .eql (.tmp 6) (.const (.int .i64 0)), none⟩, none),
  (⟨some 8, .mov (.tmp 7), none⟩, none),
  (⟨some 9, .fldA 3 (.tmp 1), some (8, false)⟩, some 8),
  (⟨some 10, .ld1 (.tmp 9), some (8, false)⟩, none),
  (⟨some 11, .arith .eql (.tmp 10) (.const (.int .i64 0)), some (8, false)⟩, none),
  (⟨some 12, .pick (.tmp 8) (.const (.bool true)) (.tmp 11), none⟩, none),
  (⟨some 2, .mov (.tmp 12), none⟩, none)]
def S77 : SFn := ⟨13, [.tmp 2], .seq (.reg S77.r0) (.seq (.reg S77.r1) (.seq (.regS S77.r2) (.ret)))⟩
theorem S77_ok : cFn Try.prog Try.f77 = some S77.erase := by kernel_rfl
def g77_s1 (cl : CL) (v8 v9 : AV) (h : AH) (Q : AV → AH → Prop) : Prop :=
  wg (gdv false v8) (fun k => wk (kLd1 h v9) k) h fun v10 h =>
  wg (gdv false v8) (fun k => wk (kArith h .eql v10 (.int .i64 0)) k) h fun v11 h =>
  wk (kPick h v8 (.bool true) v11) fun v12 h =>
  Q (v12) h
def g77 (cl : CL) (v0 : AV) (h : AH) (Q : AV → AH → Prop) : Prop :=
  wk (kBox h v0) fun v1 h =>
  wk (kLdn h 4 v1) fun v3 h =>
  wcall cl (.func (.func 70) [] []) [v3] h fun v4 h =>
  wk (kSt h 4 v1 v4) fun _ h =>
  wk (kFldA h 2 v1) fun v5 h =>
  wk (kLd1 h v5) fun v6 h =>
  wk (kArith h .eql v6 (.int .i64 0)) fun v7 h =>
  wsp v7 fun v8 =>
  wg (gdv false v8) (fun k => wk (kFldA h 3 v1) k) h fun v9 h =>
  g77_s1 cl (v8) (v9) h Q
theorem g77_eq (cl : CL) (v0 : AV) (h : AH) (Q : AV → AH → Prop) : wrun cl S77 [v0] h Q = g77 cl v0 h Q := by kernel_rfl
theorem C77 {cl : CL} (hcl : CLOk Try.prog cl) {v0 : AV} {h : AH} {Q : AV → AH → Prop} (hg : g77 cl v0 h Q) : CallsA Try.prog 77 [v0] h Q := wfn_ok hcl (f := 77) (fn := Try.f77) (by kernel_rfl) S77_ok (by decide) (by kernel_rfl) (its_nil (by kernel_rfl)) (by rw [g77_eq]; exact hg)

/- widgetry/display.copied -/
def S79.r0 : List AOpr := [
  ⟨some 1, .box (.tmp 0), none⟩,
  ⟨some 2, .new [.int .i64 0, .int .i64 0, .int .i64 0, .int .i64 0, .int .i64 0, .int .i64 0, .int .i64 0, .int .i64 0, .int .i64 0, .nilsl], none⟩]
def S79.r1 : List AOpr := [
  ⟨some 3, .fldA 9 (.tmp 1), none⟩,
  ⟨some 4, .ld1 (.tmp 3), none⟩,
  ⟨some 5, .call (.const (.func (.func 86) [] [])) [.tmp 4], none⟩,
  ⟨some 6, .fldA 9 (.tmp 1), none⟩,
  ⟨none, .st 1 (.tmp 6) (.tmp 5), none⟩]
def S79.r2 : List AOpr := [
  ⟨some 7, .ldn 10 (.tmp 1), none⟩,
  ⟨none, .st 10 (.tmp 2) (.tmp 7), none⟩]
def S79 : SFn := ⟨8, [.cell 2 (some 10)], .seq (.reg S79.r0) (.seq (.reg S79.r1) (.seq (.reg S79.r2) (.ret)))⟩
theorem S79_ok : cFn Try.prog Try.f79 = some S79.erase := by kernel_rfl
def g79_s1 (cl : CL) (v2 v7 : AV) (h : AH) (Q : AV → AH → Prop) : Prop :=
  wk (kSt h 10 v2 v7) fun _ h =>
  wres (aresV h [.cell (v2) (some 10)]) h Q
def g79 (cl : CL) (v0 : AV) (h : AH) (Q : AV → AH → Prop) : Prop :=
  wk (kBox h v0) fun v1 h =>
  wk (kNew h [.int .i64 0, .int .i64 0, .int .i64 0, .int .i64 0, .int .i64 0, .int .i64 0, .int .i64 0, .int .i64 0, .int .i64 0, .nilsl]) fun v2 h =>
  wk (kFldA h 9 v1) fun v3 h =>
  wk (kLd1 h v3) fun v4 h =>
  wcall cl (.func (.func 86) [] []) [v4] h fun v5 h =>
  wk (kFldA h 9 v1) fun v6 h =>
  wk (kSt h 1 v6 v5) fun _ h =>
  wk (kLdn h 10 v1) fun v7 h =>
  g79_s1 cl (v2) (v7) h Q
theorem g79_eq (cl : CL) (v0 : AV) (h : AH) (Q : AV → AH → Prop) : wrun cl S79 [v0] h Q = g79 cl v0 h Q := by kernel_rfl
theorem C79 {cl : CL} (hcl : CLOk Try.prog cl) {v0 : AV} {h : AH} {Q : AV → AH → Prop} (hg : g79 cl v0 h Q) : CallsA Try.prog 79 [v0] h Q := wfn_ok hcl (f := 79) (fn := Try.f79) (by kernel_rfl) S79_ok (by decide) (by kernel_rfl) (its_nil (by kernel_rfl)) (by rw [g79_eq]; exact hg)

/- slices.IndexFunc[[]widgetry/api.Glyph,widgetry/api.Glyph] -/
def S84.r0 : List AOpr := [
  ⟨some 4, .mov (.const (.int .i64 0)), none⟩]
def S84.r1 : List AOpr := [
  ⟨some 6, .mov (.tmp 0), none⟩,
  ⟨some 7, .len (.tmp 6), none⟩,
  ⟨some 8, .mov (.const (.int .i64 0)), none⟩]
def S84.r2 : List AOpr := [
  ⟨some 9, .arith .lss (.tmp 8) (.tmp 7), none⟩]
def S84.r3 : List AOpr := [
  ⟨some 10, .mov (.tmp 8), none⟩,
  ⟨some 5, .mov (.tmp 10), none⟩]
def S84.r4 : List AOpr := [
  ⟨some 11, .mov (.tmp 1), none⟩,
  ⟨some 12, .mov (.tmp 0), none⟩,
  ⟨some 13, .mov (.tmp 5), none⟩,
  ⟨some 14, .idxA 8 (.tmp 12) (.tmp 13), none⟩,
  ⟨some 15, .ldn 8 (.tmp 14), none⟩,
  ⟨some 16, .call (.tmp 11) [.tmp 15], none⟩]
def S84.r5 : List AOpr := [
  ⟨some 17, .mov (.tmp 5), none⟩,
  ⟨some 4, .mov (.tmp 17), none⟩]
def S84.r6 : List AOpr := [
  ⟨some 18, .arith .add (.tmp 8) (.const (.int .i64 1)), none⟩,
  ⟨some 8, .mov (.tmp 18), none⟩]
def S84.r7 : List AOpr := [
  ⟨some 4, .mov (.const (.int .i64 (-1))), none⟩]
def S84 : SFn := ⟨19, [.tmp 4], .seq (.reg S84.r0) (.seq (.seq (.reg S84.r1) (.block 0 (.loop [0, 1, 7, 8] [4] (.seq (.reg S84.r2) (.seq (.cond (.tmp 9) (.skip) (.exit 0)) (.seq (.block 1 (.seq (.reg S84.r3) (.seq (.reg S84.r4) (.cond (.tmp 16) (.seq (.reg S84.r5) (.ret)) (.skip))))) (.reg S84.r6))))))) (.seq (.reg S84.r7) (.ret)))⟩
theorem S84_ok : cFn Try.prog Try.f84 = some S84.erase := by kernel_rfl
def g84_l1 (cl : CL) (v0 v1 v7 v8 : AV) (h : AH) (k : AX → List AV → List AV → AH → Prop) : Prop :=
  wk (kArith h .lss v8 v7) fun v9 h =>
  wif v9 (
  wk (kIdxA h 8 v0 v8) fun v14 h =>
  wk (kLdn h 8 v14) fun v15 h =>
  wcall cl v1 [v15] h fun v16 h =>
  wif v16 (
  k .ret [v0, v1, v7, v8] [v8] h) (
  wk (kArith h .add v8 (.int .i64 1)) fun v18 h =>
  k .nrm [v0, v1, v7, v18] [.undef] h)) (
  k (.exit 0) [v0, v1, v7, v8] [.undef] h)
def g84_c2 (cl : CL) (h : AH) (Q : AV → AH → Prop) : Prop :=
  Q ((.int .i64 (-1))) h
def g84_j3 (cl : CL) (x : AX) (v4 : AV) (h : AH) (Q : AV → AH → Prop) : Prop :=
  xs x (g84_c2 cl h Q) (fun j => cond (Nat.beq j 0) (g84_c2 cl h Q) (False)) (Q (v4) h)
def g84 (cl : CL) (v0 v1 : AV) (h : AH) (Q : AV → AH → Prop) : Prop :=
  wk (kLen h v0) fun v7 h =>
  wloop (fun vs h k => g84_l1 cl (nthD vs 0) (nthD vs 1) (nthD vs 2) (nthD vs 3) h k) [v0, v1, v7, (.int .i64 0)] h fun x vs h => g84_j3 cl x (nthD vs 0) h Q
theorem g84_eq (cl : CL) (v0 v1 : AV) (h : AH) (Q : AV → AH → Prop) : wrun cl S84 [v0, v1] h Q = g84 cl v0 v1 h Q := by kernel_rfl
theorem C84 {cl : CL} (hcl : CLOk Try.prog cl) {v0 v1 : AV} {h : AH} {Q : AV → AH → Prop} (hg : g84 cl v0 v1 h Q) : CallsA Try.prog 84 [v0, v1] h Q := wfn_ok hcl (f := 84) (fn := Try.f84) (by kernel_rfl) S84_ok (by decide) (by kernel_rfl) (its_nil (by kernel_rfl)) (by rw [g84_eq]; exact hg)

/- slices.Clone[[]widgetry/api.Glyph,widgetry/api.Glyph] -/
def S86.r0 : List AOpr := [
  ⟨some 2, .mov (.const (.nilsl)), none⟩]
def S86.r1 : List AOpr := [
  ⟨some 3, .mov (.tmp 0), none⟩,
  ⟨some 4, .eqn .sl false (.tmp 3) (.const (.nilsl)), none⟩]
def S86.r2 : List AOpr := [
  ⟨some 2, .mov (.const (.nilsl)), none⟩]
def S86.r3 : List AOpr := [
  ⟨some 5, .buildSl 8 0 [] [], none⟩,
  ⟨some 6, .mov (.tmp 0), none⟩,
  ⟨some 7, .app 8 64 (.tmp 5) (.tmp 6), none⟩,
  ⟨some 2, .mov (.tmp 7), none⟩]
def S86 : SFn := ⟨8, [.tmp 2], .seq (.reg S86.r0) (.seq (.seq (.reg S86.r1) (.cond (.tmp 4) (.seq (.reg S86.r2) (.ret)) (.skip))) (.seq (.reg S86.r3) (.ret)))⟩
theorem S86_ok : cFn Try.prog Try.f86 = some S86.erase := by kernel_rfl
def g86 (cl : CL) (v0 : AV) (h : AH) (Q : AV → AH → Prop) : Prop :=
  wk (kEqn h .sl false v0 (.nilsl)) fun v4 h =>
  wif v4 (
  Q ((.nilsl)) h) (
  wk (kBuildSl h 8 0 [] []) fun v5 h =>
  wk (kApp h 8 64 v5 v0) fun v7 h =>
  Q (v7) h)
theorem g86_eq (cl : CL) (v0 : AV) (h : AH) (Q : AV → AH → Prop) : wrun cl S86 [v0] h Q = g86 cl v0 h Q := by kernel_rfl
theorem C86 {cl : CL} (hcl : CLOk Try.prog cl) {v0 : AV} {h : AH} {Q : AV → AH → Prop} (hg : g86 cl v0 h Q) : CallsA Try.prog 86 [v0] h Q := wfn_ok hcl (f := 86) (fn := Try.f86) (by kernel_rfl) S86_ok (by decide) (by kernel_rfl) (its_nil (by kernel_rfl)) (by rw [g86_eq]; exact hg)

end Go.Proofs.Ytpnekpbehcbmkaa
