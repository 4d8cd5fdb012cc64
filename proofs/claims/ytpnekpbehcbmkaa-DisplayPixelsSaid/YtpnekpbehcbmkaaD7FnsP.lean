/- Functions of the law DisplayPixels: their code with joins and live registers, and what they are as plain transformers of predicates; printed by a program of ours. -/
import Derived.Test.YtpnekpbehcbmkaaProg
import Derived.Test.YtpnekpbehcbmkaaEngP
import Derived.KernelRfl
set_option linter.unusedSimpArgs false
set_option linter.unusedVariables false
set_option linter.unnecessarySimpa false
namespace Go.Proofs.Ytpnekpbehcbmkaa
open Go.Eng
set_option maxRecDepth 100000

/- widgetry/widgetrylaw24.DisplayPixels -/
def S4.r0 : List AOpr := [
  ⟨some 2, .mov (.const (.bool false)), none⟩]
def S4.r1 : List AOpr := [
  ⟨some 7, .mov (.tmp 0), none⟩,
  ⟨some 8, .call (.const (.func (.func 18) [] [])) [.tmp 7], none⟩,
  ⟨some 3, .mov (.tmp 8), none⟩]
def S4.r2 : List AOpr := [
  ⟨some 9, .mov (.tmp 3), none⟩,
  ⟨some 10, .call (.const (.func (.func 19) [] [])) [.tmp 9, .const (.int .i64 14)], none⟩,
  ⟨some 4, .mov (.tmp 10), none⟩]
def S4.r3 : List (AOpr × Option Nat) := [
  (⟨some 11, .mov (.tmp 3), none⟩, none),
  (⟨some 12, .call (.const (.func (.func 20) [] [])) [.tmp 11, .const (.int .i64 5)], none⟩, none),
  (⟨some 13, .arith .eql (.tmp 12) (.const (.int .i64 0)), none⟩, none),
  (⟨some 14, .mov (.tmp 13), none⟩, none),
  (⟨some 15, .mov (.tmp 4), some (14, true)⟩, some 14),
  (⟨some 16, .len (.tmp 15), some (14, true)⟩, none),
  (⟨some 17, .arith .gtr (.tmp 16) (.const (.int .i64 0)), some (14, true)⟩, none),
  (⟨some 18, .pick (.tmp 14) (.tmp 17) (.const (.bool false)), none⟩, none)]
def S4.r4 : List (AOpr × Nat) := [
  (⟨some 19, .mov (.tmp 4), none⟩, 0),
  (⟨some 20, .mov (.tmp 3), none⟩, 0),
  (⟨some 21, .mov (.tmp 4), none⟩, 0),
  (⟨some 22, .len (.tmp 21), none⟩, 4),
  (⟨some 23, .call (.const (.func (.func 20) [] [])) [.tmp 20, .tmp 22], none⟩, 14),
  (⟨some 24, .sl 22 (.tmp 19) none (some (.tmp 23)) none, none⟩, 31),
  (⟨some 25, .mov (.tmp 3), none⟩, 0),
  (⟨some 26, .call (.const (.func (.func 21) [] [])) [.tmp 25, .const (.int .i64 0), .const (.int .i64 7)], none⟩, 94),
  (⟨some 27, .build [.int .i64 0, .int .i64 0, .int .i64 0, .int .i64 0, .int .i64 0, .int .i64 0, .bool false, .int .i64 0, .int .i64 0, .int .i64 0, .int .i64 0, .str [], .int .i64 0, .int .i64 0, .int .i64 0, .int .i64 0, .int .i64 0, .int .i64 0, .int .i64 0, .int .i64 0, .int .i64 0, .nilsl] [(0, 1, .tmp 26)], none⟩, 222),
  (⟨some 28, .buildSl 22 1 [.int .i64 0, .int .i64 0, .int .i64 0, .int .i64 0, .int .i64 0, .int .i64 0, .bool false, .int .i64 0, .int .i64 0, .int .i64 0, .int .i64 0, .str [], .int .i64 0, .int .i64 0, .int .i64 0, .int .i64 0, .int .i64 0, .int .i64 0, .int .i64 0, .int .i64 0, .int .i64 0, .nilsl] [(0, 22, .tmp 27)], none⟩, 478),
  (⟨some 29, .app 22 200 (.tmp 24) (.tmp 28), none⟩, 1023),
  (⟨some 4, .mov (.tmp 29), none⟩, 2047)]
def S4.r5 : List AOpr := [
  ⟨some 30, .mov (.tmp 4), none⟩,
  ⟨some 31, .call (.const (.func (.func 13) [] [])) [.tmp 30], none⟩,
  ⟨some 32, .mov (.tmp 4), none⟩,
  ⟨some 33, .call (.const (.func (.func 14) [] [])) [.tmp 32], none⟩,
  ⟨some 34, .arith .neq (.tmp 31) (.tmp 33), none⟩]
def S4.r6 : List AOpr := [
  ⟨some 2, .mov (.const (.bool false)), none⟩]
def S4.r7 : List AOpr := [
  ⟨some 5, .mov (.const (.int .i64 0)), none⟩]
def S4.r8 : List AOpr := [
  ⟨some 35, .mov (.tmp 5), none⟩,
  ⟨some 36, .arith .lss (.tmp 35) (.const (.int .i64 60)), none⟩]
def S4.r9 : List AOpr := [
  ⟨some 39, .mov (.tmp 5), none⟩,
  ⟨some 40, .arith .mul (.tmp 39) (.const (.int .i64 7)), none⟩,
  ⟨some 41, .arith .rem (.tmp 40) (.const (.int .i64 90)), none⟩,
  ⟨some 42, .arith .sub (.tmp 41) (.const (.int .i64 30)), none⟩,
  ⟨some 43, .mov (.tmp 5), none⟩,
  ⟨some 44, .arith .mul (.tmp 43) (.const (.int .i64 11)), none⟩,
  ⟨some 45, .arith .rem (.tmp 44) (.const (.int .i64 90)), none⟩,
  ⟨some 46, .arith .sub (.tmp 45) (.const (.int .i64 30)), none⟩,
  ⟨some 47, .build [.int .i64 0, .int .i64 0] [(0, 1, .tmp 42), (1, 1, .tmp 46)], none⟩,
  ⟨some 6, .new [.int .i64 0, .int .i64 0], none⟩,
  ⟨none, .st 2 (.tmp 6) (.tmp 47), none⟩]
def S4.r10 : List (AOpr × Nat) := [
  (⟨some 48, .mov (.tmp 4), none⟩, 0),
  (⟨some 49, .ldn 2 (.tmp 6), none⟩, 0),
  (⟨some 50, .call (.const (.func (.func 15) [] [])) [.tmp 48, .tmp 49], none⟩, 3),
  (⟨some 51, .mov (.tmp 4), none⟩, 0),
  (⟨some 52, .ldn 2 (.tmp 6), none⟩, 0),
  (⟨some 53, .call (.const (.func (.func 16) [] [])) [.tmp 51, .tmp 52], none⟩, 31),
  (⟨some 54, .arith .neq (.tmp 50) (.tmp 53), none⟩, 63)]
def S4.r11 : List AOpr := [
  ⟨some 2, .mov (.const (.bool false)), none⟩]
def S4.r12 : List AOpr := [
  ⟨some 37, .mov (.tmp 5), none⟩,
  ⟨some 38, .arith .add (.tmp 37) (.const (.int .i64 1)), none⟩,
  ⟨some 5, .mov (.tmp 38), none⟩]
def S4.r13 : List AOpr := [
  ⟨some 55, .call (.const (.func (.func 17) [] [])) [], none⟩,
  ⟨some 2, .mov (.tmp 55), none⟩]
def S4 : SFn := ⟨56, [.tmp 2], .seq (.reg S4.r0) (.seq (.reg S4.r1) (.seq (.reg S4.r2) (.seq (.seq (.joinN [3, 4, 18] (.regS S4.r3)) (.joinN [4] (.cond (.tmp 18) (.draw S4.r4) (.skip)))) (.seq (.seq (.reg S4.r5) (.cond (.tmp 34) (.seq (.reg S4.r6) (.ret)) (.skip))) (.seq (.seq (.reg S4.r7) (.block 0 (.loop [4, 5] [2] (.seq (.seq (.reg S4.r8) (.cond (.tmp 36) (.skip) (.exit 0))) (.seq (.block 1 (.seq (.reg S4.r9) (.seq (.draw S4.r10) (.cond (.tmp 54) (.seq (.reg S4.r11) (.ret)) (.skip))))) (.reg S4.r12)))))) (.seq (.reg S4.r13) (.ret)))))))⟩
theorem S4_ok : cFn Try.prog Try.f4 = some S4.erase := by kernel_rfl
def g4_s1 (cl : CL) (v3 v4 v12 : AV) (h : AH) (k : List AV → AH → Prop) : Prop :=
  wk (kArith h .eql v12 (.int .i64 0)) fun v13 h =>
  wsp v13 fun v14 =>
  wg (gdv true v14) (fun k => k v4 h) h fun v15 h =>
  wg (gdv true v14) (fun k => wk (kLen h v15) k) h fun v16 h =>
  wg (gdv true v14) (fun k => wk (kArith h .gtr v16 (.int .i64 0)) k) h fun v17 h =>
  wk (kPick h v14 v17 (.bool false)) fun v18 h =>
  k [v3, v4, v18] h
def g4_a1 (cl : CL) (v3 v4 : AV) (h : AH) (k : List AV → AH → Prop) : Prop :=
  wcall cl (.func (.func 20) [] []) [v3, (.int .i64 5)] h fun v12 h =>
  g4_s1 cl (v3) (v4) (v12) h k
def g4_s2 (cl : CL) (r : Nat) (v4 v24 v26 : AV) (h : AH) (k : List AV → AH → Prop) : Prop :=
  wdp h (kBuild h [.int .i64 0, .int .i64 0, .int .i64 0, .int .i64 0, .int .i64 0, .int .i64 0, .bool false, .int .i64 0, .int .i64 0, .int .i64 0, .int .i64 0, .str [], .int .i64 0, .int .i64 0, .int .i64 0, .int .i64 0, .int .i64 0, .int .i64 0, .int .i64 0, .int .i64 0, .int .i64 0, .nilsl] [(0, 1, v26)]) .pure fun v27 c8 h =>
  wda (r + 9) h (alBuildSl 22 1 [.int .i64 0, .int .i64 0, .int .i64 0, .int .i64 0, .int .i64 0, .int .i64 0, .bool false, .int .i64 0, .int .i64 0, .int .i64 0, .int .i64 0, .str [], .int .i64 0, .int .i64 0, .int .i64 0, .int .i64 0, .int .i64 0, .int .i64 0, .int .i64 0, .int .i64 0, .int .i64 0, .nilsl] [(0, 22, v27)]) fun v28 c9 h =>
  wde h (kApp h 22 200 v24 v28) fun v29 c10 h =>
  wdp h (kMov h v29) .pure fun v4 c11 h =>
  k [v4] h
def g4_a2 (cl : CL) (v3 v4 v18 : AV) (h : AH) (k : List AV → AH → Prop) : Prop :=
  wif v18 (
  wdr h 12 fun r h =>
  wdp h (kMov h v4) .pure fun v19 c0 h =>
  wdp h (kMov h v3) .pure fun v20 c1 h =>
  wdp h (kMov h v4) .pure fun v21 c2 h =>
  wdp h (kLen h v21) .pure fun v22 c3 h =>
  wdc cl (.func (.func 20) [] []) [v20, v22] h fun v23 c4 h =>
  wdp h (kSl h 22 v19 none (some v23) none) .pure fun v24 c5 h =>
  wdp h (kMov h v3) .pure fun v25 c6 h =>
  wdc cl (.func (.func 21) [] []) [v25, (.int .i64 0), (.int .i64 7)] h fun v26 c7 h =>
  g4_s2 cl r (v4) (v24) (v26) h k) (
  k [v4] h)
def g4_s3 (cl : CL) (c2 c4 : Rec) (v4 v5 v50 v53 : AV) (h : AH) (k : AX → List AV → List AV → AH → Prop) : Prop :=
  wdp h (kArith h .neq v50 v53) .pure fun v54 c6 h =>
  recOk c2 c4 = true ∧ wif v54 (
  k .ret [v4, v5] [(.bool false)] h) (
  wk (kArith h .add v5 (.int .i64 1)) fun v38 h =>
  k .nrm [v4, v38] [.undef] h)
def g4_s4 (cl : CL) (v4 v5 v47 : AV) (h : AH) (k : AX → List AV → List AV → AH → Prop) : Prop :=
  wk (kNew h [.int .i64 0, .int .i64 0]) fun v6 h =>
  wk (kSt h 2 v6 v47) fun _ h =>
  wdr h 7 fun r h =>
  wdp h (kMov h v4) .pure fun v48 c0 h =>
  wdp h (kLdn h 2 v6) (rdK (rdv v6)) fun v49 c1 h =>
  wdc cl (.func (.func 15) [] []) [v48, v49] h fun v50 c2 h =>
  wdp h (kMov h v4) .pure fun v51 c3 h =>
  wdp h (kLdn h 2 v6) (rdK (rdv v6)) fun v52 c4 h =>
  wdc cl (.func (.func 16) [] []) [v51, v52] h fun v53 c5 h =>
  g4_s3 cl c2 c4 (v4) (v5) (v50) (v53) h k
def g4_l3 (cl : CL) (v4 v5 : AV) (h : AH) (k : AX → List AV → List AV → AH → Prop) : Prop :=
  wk (kArith h .lss v5 (.int .i64 60)) fun v36 h =>
  wif v36 (
  wk (kArith h .mul v5 (.int .i64 7)) fun v40 h =>
  wk (kArith h .rem v40 (.int .i64 90)) fun v41 h =>
  wk (kArith h .sub v41 (.int .i64 30)) fun v42 h =>
  wk (kArith h .mul v5 (.int .i64 11)) fun v44 h =>
  wk (kArith h .rem v44 (.int .i64 90)) fun v45 h =>
  wk (kArith h .sub v45 (.int .i64 30)) fun v46 h =>
  wk (kBuild h [.int .i64 0, .int .i64 0] [(0, 1, v42), (1, 1, v46)]) fun v47 h =>
  g4_s4 cl (v4) (v5) (v47) h k) (
  k (.exit 0) [v4, v5] [.undef] h)
def g4_c4 (cl : CL) (h : AH) (Q : AV → AH → Prop) : Prop :=
  wcall cl (.func (.func 17) [] []) [] h fun v55 h =>
  Q (v55) h
def g4_j5 (cl : CL) (x : AX) (v2 : AV) (h : AH) (Q : AV → AH → Prop) : Prop :=
  xs x (g4_c4 cl h Q) (fun j => cond (Nat.beq j 0) (g4_c4 cl h Q) (False)) (Q (v2) h)
def g4_s5 (cl : CL) (v4 v31 : AV) (h : AH) (Q : AV → AH → Prop) : Prop :=
  wcall cl (.func (.func 14) [] []) [v4] h fun v33 h =>
  wk (kArith h .neq v31 v33) fun v34 h =>
  wif v34 (
  Q ((.bool false)) h) (
  wloop (fun vs h k => g4_l3 cl (nthD vs 0) (nthD vs 1) h k) [v4, (.int .i64 0)] h fun x vs h => g4_j5 cl x (nthD vs 0) h Q)
def g4_j6 (cl : CL) (v4 : AV) (h : AH) (Q : AV → AH → Prop) : Prop :=
  wcall cl (.func (.func 13) [] []) [v4] h fun v31 h =>
  g4_s5 cl (v4) (v31) h Q
def g4_j7 (cl : CL) (v3 v4 v18 : AV) (h : AH) (Q : AV → AH → Prop) : Prop :=
  wjoinN (g4_a2 cl (v3) (v4) (v18) h) fun vs h => g4_j6 cl (nthD vs 0) h Q
def g4 (cl : CL) (v0 : AV) (h : AH) (Q : AV → AH → Prop) : Prop :=
  wcall cl (.func (.func 18) [] []) [v0] h fun v8 h =>
  wcall cl (.func (.func 19) [] []) [v8, (.int .i64 14)] h fun v10 h =>
  wjoinN (g4_a1 cl (v8) (v10) h) fun vs h => g4_j7 cl (nthD vs 0) (nthD vs 1) (nthD vs 2) h Q
theorem g4_eq (cl : CL) (v0 : AV) (h : AH) (Q : AV → AH → Prop) : wrun cl S4 [v0] h Q = g4 cl v0 h Q := by kernel_rfl
theorem C4 {cl : CL} (hcl : CLOk Try.prog cl) {v0 : AV} {h : AH} {Q : AV → AH → Prop} (hg : g4 cl v0 h Q) : CallsA Try.prog 4 [v0] h Q := wfn_ok hcl (f := 4) (fn := Try.f4) (by kernel_rfl) S4_ok (by decide) (by kernel_rfl) (its_nil (by kernel_rfl)) (by rw [g4_eq]; exact hg)

/- widgetry/widgetrybase.New -/
def S18.r0 : List AOpr := [
  ⟨some 2, .mov (.const (.nilptr)), none⟩]
def S18.r1 : List AOpr := [
  ⟨some 3, .mov (.tmp 0), none⟩,
  ⟨some 4, .len (.tmp 3), none⟩,
  ⟨some 5, .arith .gtr (.tmp 4) (.const (.int .i64 4000)), none⟩]
def S18.r2 : List AOpr := [
  ⟨some 6, .mov (.tmp 0), none⟩,
  ⟨some 7, .sl 1 (.tmp 6) none (some (.const (.int .i64 4000))) none, none⟩,
  ⟨some 0, .mov (.tmp 7), none⟩]
def S18.r3 : List AOpr := [
  ⟨some 8, .mov (.tmp 0), none⟩,
  ⟨some 9, .build [.nilsl, .int .i64 0] [(0, 1, .tmp 8)], none⟩,
  ⟨some 10, .box (.tmp 9), none⟩,
  ⟨some 2, .mov (.tmp 10), none⟩]
def S18 : SFn := ⟨11, [.tmp 2], .seq (.reg S18.r0) (.seq (.seq (.reg S18.r1) (.joinN [0] (.cond (.tmp 5) (.reg S18.r2) (.skip)))) (.seq (.reg S18.r3) (.ret)))⟩
theorem S18_ok : cFn Try.prog Try.f18 = some S18.erase := by kernel_rfl
def g18_a1 (cl : CL) (v0 v5 : AV) (h : AH) (k : List AV → AH → Prop) : Prop :=
  wif v5 (
  wk (kSl h 1 v0 none (some (.int .i64 4000)) none) fun v7 h =>
  k [v7] h) (
  k [v0] h)
def g18_j2 (cl : CL) (v0 : AV) (h : AH) (Q : AV → AH → Prop) : Prop :=
  wk (kBuild h [.nilsl, .int .i64 0] [(0, 1, v0)]) fun v9 h =>
  wk (kBox h v9) fun v10 h =>
  Q (v10) h
def g18 (cl : CL) (v0 : AV) (h : AH) (Q : AV → AH → Prop) : Prop :=
  wk (kLen h v0) fun v4 h =>
  wk (kArith h .gtr v4 (.int .i64 4000)) fun v5 h =>
  wjoinN (g18_a1 cl (v0) (v5) h) fun vs h => g18_j2 cl (nthD vs 0) h Q
theorem g18_eq (cl : CL) (v0 : AV) (h : AH) (Q : AV → AH → Prop) : wrun cl S18 [v0] h Q = g18 cl v0 h Q := by kernel_rfl
theorem C18 {cl : CL} (hcl : CLOk Try.prog cl) {v0 : AV} {h : AH} {Q : AV → AH → Prop} (hg : g18 cl v0 h Q) : CallsA Try.prog 18 [v0] h Q := wfn_ok hcl (f := 18) (fn := Try.f18) (by kernel_rfl) S18_ok (by decide) (by kernel_rfl) (its_nil (by kernel_rfl)) (by rw [g18_eq]; exact hg)

/- widgetry/widgetrylaw24.commands -/
def S19.r0 : List AOpr := [
  ⟨some 4, .mov (.const (.nilsl)), none⟩]
def S19.r1 : List AOpr := [
  ⟨some 5, .mov (.const (.nilsl)), none⟩]
def S19.r2 : List AOpr := [
  ⟨some 6, .mov (.const (.int .i64 0)), none⟩]
def S19.r3 : List AOpr := [
  ⟨some 11, .mov (.tmp 0), none⟩,
  ⟨some 12, .mov (.tmp 1), none⟩,
  ⟨some 13, .arith .add (.tmp 12) (.const (.int .i64 1)), none⟩,
  ⟨some 14, .call (.const (.func (.func 20) [] [])) [.tmp 11, .tmp 13], none⟩,
  ⟨some 7, .mov (.tmp 14), none⟩]
def S19.r4 : List AOpr := [
  ⟨some 15, .mov (.tmp 7), none⟩,
  ⟨some 16, .arith .gtr (.tmp 15) (.const (.int .i64 0)), none⟩]
def S19.r5 : List AOpr := [
  ⟨some 19, .mov (.tmp 0), none⟩,
  ⟨some 20, .call (.const (.func (.func 21) [] [])) [.tmp 19, .const (.int .i64 (-20)), .const (.int .i64 40)], none⟩,
  ⟨some 21, .mov (.tmp 0), none⟩,
  ⟨some 22, .call (.const (.func (.func 21) [] [])) [.tmp 21, .const (.int .i64 (-20)), .const (.int .i64 40)], none⟩,
  ⟨some 23, .mov (.tmp 0), none⟩,
  ⟨some 24, .call (.const (.func (.func 20) [] [])) [.tmp 23, .const (.int .i64 40)], none⟩,
  ⟨some 25, .mov (.tmp 0), none⟩,
  ⟨some 26, .call (.const (.func (.func 20) [] [])) [.tmp 25, .const (.int .i64 40)], none⟩,
  ⟨some 27, .build [.int .i64 0, .int .i64 0, .int .i64 0, .int .i64 0] [(0, 1, .tmp 20), (1, 1, .tmp 22), (2, 1, .tmp 24), (3, 1, .tmp 26)], none⟩,
  ⟨some 8, .new [.int .i64 0, .int .i64 0, .int .i64 0, .int .i64 0], none⟩,
  ⟨none, .st 4 (.tmp 8) (.tmp 27), none⟩]
def S19.r6 : List AOpr := [
  ⟨some 28, .mov (.tmp 0), none⟩,
  ⟨some 29, .call (.const (.func (.func 20) [] [])) [.tmp 28, .const (.int .i64 9)], none⟩]
def S19.r7 : List AOpr := [
  ⟨some 38, .arith .eql (.tmp 29) (.const (.int .i64 0)), none⟩,
  ⟨some 37, .mov (.tmp 38), none⟩]
def S19.r8 : List AOpr := [
  ⟨some 39, .mov (.tmp 5), none⟩,
  ⟨some 40, .ldn 4 (.tmp 8), none⟩,
  ⟨some 41, .build [.int .i64 0, .int .i64 0, .int .i64 0, .int .i64 0, .int .i64 0, .int .i64 0, .bool false, .int .i64 0, .int .i64 0, .int .i64 0, .int .i64 0, .str [], .int .i64 0, .int .i64 0, .int .i64 0, .int .i64 0, .int .i64 0, .int .i64 0, .int .i64 0, .int .i64 0, .int .i64 0, .nilsl] [(0, 1, .const (.int .i64 1)), (1, 4, .tmp 40)], none⟩,
  ⟨some 42, .buildSl 22 1 [.int .i64 0, .int .i64 0, .int .i64 0, .int .i64 0, .int .i64 0, .int .i64 0, .bool false, .int .i64 0, .int .i64 0, .int .i64 0, .int .i64 0, .str [], .int .i64 0, .int .i64 0, .int .i64 0, .int .i64 0, .int .i64 0, .int .i64 0, .int .i64 0, .int .i64 0, .int .i64 0, .nilsl] [(0, 22, .tmp 41)], none⟩,
  ⟨some 43, .app 22 200 (.tmp 39) (.tmp 42), none⟩,
  ⟨some 5, .mov (.tmp 43), none⟩]
def S19.r9 : List AOpr := [
  ⟨some 44, .mov (.tmp 6), none⟩,
  ⟨some 45, .arith .add (.tmp 44) (.const (.int .i64 1)), none⟩,
  ⟨some 6, .mov (.tmp 45), none⟩]
def S19.r10 : List AOpr := [
  ⟨some 47, .arith .eql (.tmp 29) (.const (.int .i64 1)), none⟩,
  ⟨some 46, .mov (.tmp 47), none⟩]
def S19.r11 : List AOpr := [
  ⟨some 48, .mov (.tmp 5), none⟩,
  ⟨some 49, .mov (.tmp 0), none⟩,
  ⟨some 50, .call (.const (.func (.func 20) [] [])) [.tmp 49, .const (.int .i64 4)], none⟩,
  ⟨some 51, .mov (.tmp 0), none⟩,
  ⟨some 52, .call (.const (.func (.func 20) [] [])) [.tmp 51, .const (.int .i64 2)], none⟩,
  ⟨some 53, .arith .eql (.tmp 52) (.const (.int .i64 1)), none⟩,
  ⟨some 54, .mov (.tmp 0), none⟩,
  ⟨some 55, .call (.const (.func (.func 21) [] [])) [.tmp 54, .const (.int .i64 1), .const (.int .i64 3)], none⟩,
  ⟨some 56, .mov (.tmp 0), none⟩,
  ⟨some 57, .call (.const (.func (.func 21) [] [])) [.tmp 56, .const (.int .i64 (-20)), .const (.int .i64 20)], none⟩,
  ⟨some 58, .mov (.tmp 0), none⟩,
  ⟨some 59, .call (.const (.func (.func 21) [] [])) [.tmp 58, .const (.int .i64 (-20)), .const (.int .i64 20)], none⟩,
  ⟨some 60, .build [.int .i64 0, .bool false, .int .i64 0, .int .i64 0, .int .i64 0] [(0, 1, .tmp 50), (1, 1, .tmp 53), (2, 1, .tmp 55), (3, 1, .tmp 57), (4, 1, .tmp 59)], none⟩,
  ⟨some 61, .build [.int .i64 0, .int .i64 0, .int .i64 0, .int .i64 0, .int .i64 0, .int .i64 0, .bool false, .int .i64 0, .int .i64 0, .int .i64 0, .int .i64 0, .str [], .int .i64 0, .int .i64 0, .int .i64 0, .int .i64 0, .int .i64 0, .int .i64 0, .int .i64 0, .int .i64 0, .int .i64 0, .nilsl] [(0, 1, .const (.int .i64 2)), (5, 5, .tmp 60)], none⟩,
  ⟨some 62, .buildSl 22 1 [.int .i64 0, .int .i64 0, .int .i64 0, .int .i64 0, .int .i64 0, .int .i64 0, .bool false, .int .i64 0, .int .i64 0, .int .i64 0, .int .i64 0, .str [], .int .i64 0, .int .i64 0, .int .i64 0, .int .i64 0, .int .i64 0, .int .i64 0, .int .i64 0, .int .i64 0, .int .i64 0, .nilsl] [(0, 22, .tmp 61)], none⟩,
  ⟨some 63, .app 22 200 (.tmp 48) (.tmp 62), none⟩,
  ⟨some 5, .mov (.tmp 63), none⟩]
def S19.r12 : List AOpr := [
  ⟨some 64, .mov (.tmp 6), none⟩,
  ⟨some 65, .arith .add (.tmp 64) (.const (.int .i64 1)), none⟩,
  ⟨some 6, .mov (.tmp 65), none⟩]
def S19.r13 : List AOpr := [
  ⟨some 67, .arith .eql (.tmp 29) (.const (.int .i64 2)), none⟩,
  ⟨some 66, .mov (.tmp 67), none⟩]
def S19.r14 : List AOpr := [
  ⟨some 68, .arith .eql (.tmp 29) (.const (.int .i64 3)), none⟩,
  ⟨some 66, .mov (.tmp 68), none⟩]
def S19.r15 : List AOpr := [
  ⟨some 69, .mov (.tmp 6), none⟩,
  ⟨some 70, .arith .gtr (.tmp 69) (.const (.int .i64 0)), none⟩]
def S19.r16 : List AOpr := [
  ⟨some 71, .mov (.tmp 5), none⟩,
  ⟨some 72, .build [.int .i64 0, .int .i64 0, .int .i64 0, .int .i64 0, .int .i64 0, .int .i64 0, .bool false, .int .i64 0, .int .i64 0, .int .i64 0, .int .i64 0, .str [], .int .i64 0, .int .i64 0, .int .i64 0, .int .i64 0, .int .i64 0, .int .i64 0, .int .i64 0, .int .i64 0, .int .i64 0, .nilsl] [(0, 1, .const (.int .i64 3))], none⟩,
  ⟨some 73, .buildSl 22 1 [.int .i64 0, .int .i64 0, .int .i64 0, .int .i64 0, .int .i64 0, .int .i64 0, .bool false, .int .i64 0, .int .i64 0, .int .i64 0, .int .i64 0, .str [], .int .i64 0, .int .i64 0, .int .i64 0, .int .i64 0, .int .i64 0, .int .i64 0, .int .i64 0, .int .i64 0, .int .i64 0, .nilsl] [(0, 22, .tmp 72)], none⟩,
  ⟨some 74, .app 22 200 (.tmp 71) (.tmp 73), none⟩,
  ⟨some 5, .mov (.tmp 74), none⟩]
def S19.r17 : List AOpr := [
  ⟨some 75, .mov (.tmp 6), none⟩,
  ⟨some 76, .arith .sub (.tmp 75) (.const (.int .i64 1)), none⟩,
  ⟨some 6, .mov (.tmp 76), none⟩]
def S19.r18 : List AOpr := [
  ⟨some 78, .arith .eql (.tmp 29) (.const (.int .i64 4)), none⟩,
  ⟨some 77, .mov (.tmp 78), none⟩]
def S19.r19 : List (AOpr × Nat) := [
  (⟨some 79, .mov (.tmp 5), none⟩, 0),
  (⟨some 80, .ldn 4 (.tmp 8), none⟩, 0),
  (⟨some 81, .mov (.tmp 0), none⟩, 0),
  (⟨some 82, .call (.const (.func (.func 50) [] [])) [.tmp 81, .const (.int .i64 1)], none⟩, 4),
  (⟨some 83, .build [.int .i64 0, .int .i64 0, .int .i64 0, .int .i64 0, .int .i64 0, .int .i64 0, .bool false, .int .i64 0, .int .i64 0, .int .i64 0, .int .i64 0, .str [], .int .i64 0, .int .i64 0, .int .i64 0, .int .i64 0, .int .i64 0, .int .i64 0, .int .i64 0, .int .i64 0, .int .i64 0, .nilsl] [(0, 1, .const (.int .i64 6)), (1, 4, .tmp 80), (11, 1, .tmp 82)], none⟩, 14),
  (⟨some 84, .buildSl 22 1 [.int .i64 0, .int .i64 0, .int .i64 0, .int .i64 0, .int .i64 0, .int .i64 0, .bool false, .int .i64 0, .int .i64 0, .int .i64 0, .int .i64 0, .str [], .int .i64 0, .int .i64 0, .int .i64 0, .int .i64 0, .int .i64 0, .int .i64 0, .int .i64 0, .int .i64 0, .int .i64 0, .nilsl] [(0, 22, .tmp 83)], none⟩, 30),
  (⟨some 85, .app 22 200 (.tmp 79) (.tmp 84), none⟩, 63),
  (⟨some 5, .mov (.tmp 85), none⟩, 127)]
def S19.r20 : List AOpr := [
  ⟨some 87, .arith .eql (.tmp 29) (.const (.int .i64 5)), none⟩,
  ⟨some 86, .mov (.tmp 87), none⟩]
def S19.r21 : List AOpr := [
  ⟨some 88, .mov (.tmp 0), none⟩,
  ⟨some 89, .call (.const (.func (.func 20) [] [])) [.tmp 88, .const (.int .i64 5)], none⟩,
  ⟨some 90, .build [.int .i64 0, .int .i64 0, .int .i64 0, .int .i64 0, .int .i64 0, .int .i64 0, .int .i64 0, .int .i64 0, .int .i64 0, .nilsl] [(3, 1, .tmp 89)], none⟩,
  ⟨some 9, .new [.int .i64 0, .int .i64 0, .int .i64 0, .int .i64 0, .int .i64 0, .int .i64 0, .int .i64 0, .int .i64 0, .int .i64 0, .nilsl], none⟩,
  ⟨none, .st 10 (.tmp 9) (.tmp 90), none⟩]
def S19.r22 : List AOpr := [
  ⟨some 91, .mov (.tmp 0), none⟩,
  ⟨some 92, .call (.const (.func (.func 20) [] [])) [.tmp 91, .const (.int .i64 4)], none⟩,
  ⟨some 10, .mov (.tmp 92), none⟩]
def S19.r23 : List AOpr := [
  ⟨some 93, .mov (.tmp 10), none⟩,
  ⟨some 94, .arith .gtr (.tmp 93) (.const (.int .i64 0)), none⟩]
def S19.r24 : List (AOpr × Nat) := [
  (⟨some 97, .fldA 9 (.tmp 9), none⟩, 0),
  (⟨some 98, .ld1 (.tmp 97), none⟩, 1),
  (⟨some 99, .mov (.tmp 0), none⟩, 0),
  (⟨some 100, .call (.const (.func (.func 20) [] [])) [.tmp 99, .const (.int .i64 40)], none⟩, 4),
  (⟨some 101, .mov (.tmp 0), none⟩, 0),
  (⟨some 102, .call (.const (.func (.func 20) [] [])) [.tmp 101, .const (.int .i64 12)], none⟩, 28),
  (⟨some 103, .build [.int .i64 0, .int .i64 0, .int .i64 0, .int .i64 0, .int .i64 0, .int .i64 0, .int .i64 0, .int .i64 0] [(0, 1, .const (.int .i64 97)), (4, 1, .tmp 100), (5, 1, .tmp 102)], none⟩, 60),
  (⟨some 104, .buildSl 8 1 [.int .i64 0, .int .i64 0, .int .i64 0, .int .i64 0, .int .i64 0, .int .i64 0, .int .i64 0, .int .i64 0] [(0, 8, .tmp 103)], none⟩, 124),
  (⟨some 105, .app 8 64 (.tmp 98) (.tmp 104), none⟩, 255),
  (⟨some 106, .fldA 9 (.tmp 9), none⟩, 511),
  (⟨none, .st 1 (.tmp 106) (.tmp 105), none⟩, 1023)]
def S19.r25 : List AOpr := [
  ⟨some 95, .mov (.tmp 10), none⟩,
  ⟨some 96, .arith .sub (.tmp 95) (.const (.int .i64 1)), none⟩,
  ⟨some 10, .mov (.tmp 96), none⟩]
def S19.r26 : List (AOpr × Nat) := [
  (⟨some 107, .mov (.tmp 5), none⟩, 0),
  (⟨some 108, .ldn 4 (.tmp 8), none⟩, 0),
  (⟨some 109, .mov (.tmp 0), none⟩, 0),
  (⟨some 110, .call (.const (.func (.func 20) [] [])) [.tmp 109, .const (.int .i64 3)], none⟩, 4),
  (⟨some 111, .ldn 10 (.tmp 9), none⟩, 0),
  (⟨some 112, .build [.int .i64 0, .int .i64 0, .int .i64 0, .int .i64 0, .int .i64 0, .int .i64 0, .bool false, .int .i64 0, .int .i64 0, .int .i64 0, .int .i64 0, .str [], .int .i64 0, .int .i64 0, .int .i64 0, .int .i64 0, .int .i64 0, .int .i64 0, .int .i64 0, .int .i64 0, .int .i64 0, .nilsl] [(0, 1, .const (.int .i64 5)), (1, 4, .tmp 108), (10, 1, .tmp 110), (12, 10, .tmp 111)], none⟩, 30),
  (⟨some 113, .buildSl 22 1 [.int .i64 0, .int .i64 0, .int .i64 0, .int .i64 0, .int .i64 0, .int .i64 0, .bool false, .int .i64 0, .int .i64 0, .int .i64 0, .int .i64 0, .str [], .int .i64 0, .int .i64 0, .int .i64 0, .int .i64 0, .int .i64 0, .int .i64 0, .int .i64 0, .int .i64 0, .int .i64 0, .nilsl] [(0, 22, .tmp 112)], none⟩, 62),
  (⟨some 114, .app 22 200 (.tmp 107) (.tmp 113), none⟩, 127),
  (⟨some 5, .mov (.tmp 114), none⟩, 255)]
def S19.r27 : List (AOpr × Nat) := [
  (⟨some 30, .mov (.tmp 5), none⟩, 0),
  (⟨some 31, .ldn 4 (.tmp 8), none⟩, 0),
  (⟨some 32, .mov (.tmp 0), none⟩, 0),
  (⟨some 33, .call (.const (.func (.func 20) [] [])) [.tmp 32, .const (.int .i64 4)], none⟩, 4),
  (⟨some 34, .build [.int .i64 0, .int .i64 0, .int .i64 0, .int .i64 0, .int .i64 0, .int .i64 0, .bool false, .int .i64 0, .int .i64 0, .int .i64 0, .int .i64 0, .str [], .int .i64 0, .int .i64 0, .int .i64 0, .int .i64 0, .int .i64 0, .int .i64 0, .int .i64 0, .int .i64 0, .int .i64 0, .nilsl] [(0, 1, .const (.int .i64 4)), (1, 4, .tmp 31), (10, 1, .tmp 33)], none⟩, 14),
  (⟨some 35, .buildSl 22 1 [.int .i64 0, .int .i64 0, .int .i64 0, .int .i64 0, .int .i64 0, .int .i64 0, .bool false, .int .i64 0, .int .i64 0, .int .i64 0, .int .i64 0, .str [], .int .i64 0, .int .i64 0, .int .i64 0, .int .i64 0, .int .i64 0, .int .i64 0, .int .i64 0, .int .i64 0, .int .i64 0, .nilsl] [(0, 22, .tmp 34)], none⟩, 30),
  (⟨some 36, .app 22 200 (.tmp 30) (.tmp 35), none⟩, 63),
  (⟨some 5, .mov (.tmp 36), none⟩, 127)]
def S19.r28 : List AOpr := [
  ⟨some 17, .mov (.tmp 7), none⟩,
  ⟨some 18, .arith .sub (.tmp 17) (.const (.int .i64 1)), none⟩,
  ⟨some 7, .mov (.tmp 18), none⟩]
def S19.r29 : List AOpr := [
  ⟨some 115, .mov (.tmp 6), none⟩,
  ⟨some 116, .arith .gtr (.tmp 115) (.const (.int .i64 0)), none⟩]
def S19.r30 : List AOpr := [
  ⟨some 119, .mov (.tmp 5), none⟩,
  ⟨some 120, .build [.int .i64 0, .int .i64 0, .int .i64 0, .int .i64 0, .int .i64 0, .int .i64 0, .bool false, .int .i64 0, .int .i64 0, .int .i64 0, .int .i64 0, .str [], .int .i64 0, .int .i64 0, .int .i64 0, .int .i64 0, .int .i64 0, .int .i64 0, .int .i64 0, .int .i64 0, .int .i64 0, .nilsl] [(0, 1, .const (.int .i64 3))], none⟩,
  ⟨some 121, .buildSl 22 1 [.int .i64 0, .int .i64 0, .int .i64 0, .int .i64 0, .int .i64 0, .int .i64 0, .bool false, .int .i64 0, .int .i64 0, .int .i64 0, .int .i64 0, .str [], .int .i64 0, .int .i64 0, .int .i64 0, .int .i64 0, .int .i64 0, .int .i64 0, .int .i64 0, .int .i64 0, .int .i64 0, .nilsl] [(0, 22, .tmp 120)], none⟩,
  ⟨some 122, .app 22 200 (.tmp 119) (.tmp 121), none⟩,
  ⟨some 5, .mov (.tmp 122), none⟩]
def S19.r31 : List AOpr := [
  ⟨some 117, .mov (.tmp 6), none⟩,
  ⟨some 118, .arith .sub (.tmp 117) (.const (.int .i64 1)), none⟩,
  ⟨some 6, .mov (.tmp 118), none⟩]
def S19.r32 : List AOpr := [
  ⟨some 123, .mov (.tmp 5), none⟩,
  ⟨some 4, .mov (.tmp 123), none⟩]
def S19 : SFn := ⟨124, [.tmp 4], .seq (.reg S19.r0) (.seq (.reg S19.r1) (.seq (.reg S19.r2) (.seq (.seq (.reg S19.r3) (.block 0 (.loop [0, 5, 6, 7] [5, 6] (.seq (.seq (.reg S19.r4) (.cond (.tmp 16) (.skip) (.exit 0))) (.seq (.joinN [0, 5, 6, 7] (.block 1 (.seq (.reg S19.r5) (.seq (.reg S19.r6) (.block 2 (.seq (.reg S19.r7) (.cond (.tmp 37) (.seq (.reg S19.r8) (.reg S19.r9)) (.seq (.reg S19.r10) (.cond (.tmp 46) (.seq (.reg S19.r11) (.reg S19.r12)) (.seq (.seq (.reg S19.r13) (.joinN [0, 5, 6, 7, 8, 29, 66] (.cond (.tmp 66) (.skip) (.reg S19.r14)))) (.cond (.tmp 66) (.seq (.reg S19.r15) (.cond (.tmp 70) (.seq (.reg S19.r16) (.reg S19.r17)) (.skip))) (.seq (.reg S19.r18) (.cond (.tmp 77) (.draw S19.r19) (.seq (.reg S19.r20) (.cond (.tmp 86) (.seq (.reg S19.r21) (.seq (.seq (.reg S19.r22) (.block 3 (.loop [0, 5, 6, 7, 8, 9, 10] [0, 5, 6, 7, 8, 9] (.seq (.seq (.reg S19.r23) (.cond (.tmp 94) (.skip) (.exit 3))) (.seq (.block 4 (.draw S19.r24)) (.reg S19.r25)))))) (.draw S19.r26))) (.draw S19.r27)))))))))))))))) (.reg S19.r28)))))) (.seq (.block 5 (.loop [5, 6] [5] (.seq (.seq (.reg S19.r29) (.cond (.tmp 116) (.skip) (.exit 5))) (.seq (.block 6 (.reg S19.r30)) (.reg S19.r31))))) (.seq (.reg S19.r32) (.ret))))))⟩
theorem S19_ok : cFn Try.prog Try.f19 = some S19.erase := by kernel_rfl
def g19_s1 (cl : CL) (v0 v6 v7 v39 v42 : AV) (h : AH) (k : List AV → AH → Prop) : Prop :=
  wk (kApp h 22 200 v39 v42) fun v43 h =>
  wk (kArith h .add v6 (.int .i64 1)) fun v45 h =>
  k [v0, v43, v45, v7] h
def g19_s2 (cl : CL) (v0 v6 v7 v48 v50 v53 v55 v57 v59 : AV) (h : AH) (k : List AV → AH → Prop) : Prop :=
  wk (kBuild h [.int .i64 0, .bool false, .int .i64 0, .int .i64 0, .int .i64 0] [(0, 1, v50), (1, 1, v53), (2, 1, v55), (3, 1, v57), (4, 1, v59)]) fun v60 h =>
  wk (kBuild h [.int .i64 0, .int .i64 0, .int .i64 0, .int .i64 0, .int .i64 0, .int .i64 0, .bool false, .int .i64 0, .int .i64 0, .int .i64 0, .int .i64 0, .str [], .int .i64 0, .int .i64 0, .int .i64 0, .int .i64 0, .int .i64 0, .int .i64 0, .int .i64 0, .int .i64 0, .int .i64 0, .nilsl] [(0, 1, (.int .i64 2)), (5, 5, v60)]) fun v61 h =>
  wk (kBuildSl h 22 1 [.int .i64 0, .int .i64 0, .int .i64 0, .int .i64 0, .int .i64 0, .int .i64 0, .bool false, .int .i64 0, .int .i64 0, .int .i64 0, .int .i64 0, .str [], .int .i64 0, .int .i64 0, .int .i64 0, .int .i64 0, .int .i64 0, .int .i64 0, .int .i64 0, .int .i64 0, .int .i64 0, .nilsl] [(0, 22, v61)]) fun v62 h =>
  wk (kApp h 22 200 v48 v62) fun v63 h =>
  wk (kArith h .add v6 (.int .i64 1)) fun v65 h =>
  k [v0, v63, v65, v7] h
def g19_s3 (cl : CL) (v0 v6 v7 v48 v50 v53 v55 v57 : AV) (h : AH) (k : List AV → AH → Prop) : Prop :=
  wcall cl (.func (.func 21) [] []) [v0, (.int .i64 (-20)), (.int .i64 20)] h fun v59 h =>
  g19_s2 cl (v0) (v6) (v7) (v48) (v50) (v53) (v55) (v57) (v59) h k
def g19_s4 (cl : CL) (v0 v6 v7 v48 v50 v53 v55 : AV) (h : AH) (k : List AV → AH → Prop) : Prop :=
  wcall cl (.func (.func 21) [] []) [v0, (.int .i64 (-20)), (.int .i64 20)] h fun v57 h =>
  g19_s3 cl (v0) (v6) (v7) (v48) (v50) (v53) (v55) (v57) h k
def g19_s5 (cl : CL) (v0 v6 v7 v48 v50 v52 : AV) (h : AH) (k : List AV → AH → Prop) : Prop :=
  wk (kArith h .eql v52 (.int .i64 1)) fun v53 h =>
  wcall cl (.func (.func 21) [] []) [v0, (.int .i64 1), (.int .i64 3)] h fun v55 h =>
  g19_s4 cl (v0) (v6) (v7) (v48) (v50) (v53) (v55) h k
def g19_s6 (cl : CL) (v0 v6 v7 v48 v50 : AV) (h : AH) (k : List AV → AH → Prop) : Prop :=
  wcall cl (.func (.func 20) [] []) [v0, (.int .i64 2)] h fun v52 h =>
  g19_s5 cl (v0) (v6) (v7) (v48) (v50) (v52) h k
def g19_a1 (cl : CL) (v0 v5 v6 v7 v8 v29 v66 : AV) (h : AH) (k : List AV → AH → Prop) : Prop :=
  wif v66 (
  k [v0, v5, v6, v7, v8, v29, v66] h) (
  wk (kArith h .eql v29 (.int .i64 3)) fun v68 h =>
  k [v0, v5, v6, v7, v8, v29, v68] h)
def g19_s7 (cl : CL) (c1 c3 : Rec) (v0 v5 v6 v7 v85 : AV) (h : AH) (k : List AV → AH → Prop) : Prop :=
  wdp h (kMov h v85) .pure fun v5 c7 h =>
  recOk c1 c3 = true ∧ k [v0, v5, v6, v7] h
def g19_s8 (cl : CL) (r : Nat) (c1 c3 c5 : Rec) (v0 v5 v6 v7 v8 v9 v10 v98 v103 : AV) (h : AH) (k : AX → List AV → List AV → AH → Prop) : Prop :=
  wda (r + 7) h (alBuildSl 8 1 [.int .i64 0, .int .i64 0, .int .i64 0, .int .i64 0, .int .i64 0, .int .i64 0, .int .i64 0, .int .i64 0] [(0, 8, v103)]) fun v104 c7 h =>
  wde h (kApp h 8 64 v98 v104) fun v105 c8 h =>
  wdp h (kFldA h 9 v9) .pure fun v106 c9 h =>
  wde h (kSt h 1 v106 v105) fun _ c10 h =>
  recOk c1 c3 = true ∧ recOk c1 c5 = true ∧ recOk c1 c7 = true ∧ wk (kArith h .sub v10 (.int .i64 1)) fun v96 h =>
  k .nrm [v0, v5, v6, v7, v8, v9, v96] [v0, v5, v6, v7, v8, v9] h
def g19_l2 (cl : CL) (v0 v5 v6 v7 v8 v9 v10 : AV) (h : AH) (k : AX → List AV → List AV → AH → Prop) : Prop :=
  wk (kArith h .gtr v10 (.int .i64 0)) fun v94 h =>
  wif v94 (
  wdr h 11 fun r h =>
  wdp h (kFldA h 9 v9) .pure fun v97 c0 h =>
  wdp h (kLd1 h v97) (rdK (rdv v97)) fun v98 c1 h =>
  wdp h (kMov h v0) .pure fun v99 c2 h =>
  wdc cl (.func (.func 20) [] []) [v99, (.int .i64 40)] h fun v100 c3 h =>
  wdp h (kMov h v0) .pure fun v101 c4 h =>
  wdc cl (.func (.func 20) [] []) [v101, (.int .i64 12)] h fun v102 c5 h =>
  wdp h (kBuild h [.int .i64 0, .int .i64 0, .int .i64 0, .int .i64 0, .int .i64 0, .int .i64 0, .int .i64 0, .int .i64 0] [(0, 1, (.int .i64 97)), (4, 1, v100), (5, 1, v102)]) .pure fun v103 c6 h =>
  g19_s8 cl r c1 c3 c5 (v0) (v5) (v6) (v7) (v8) (v9) (v10) (v98) (v103) h k) (
  k (.exit 3) [v0, v5, v6, v7, v8, v9, v10] [v0, v5, v6, v7, v8, v9] h)
def g19_s9 (cl : CL) (c1 c3 c4 : Rec) (v0 v5 v6 v7 v114 : AV) (h : AH) (k : List AV → AH → Prop) : Prop :=
  wdp h (kMov h v114) .pure fun v5 c8 h =>
  recOk c1 c3 = true ∧ recOk c3 c4 = true ∧ k [v0, v5, v6, v7] h
def g19_c3 (cl : CL) (v0 v5 v6 v7 v8 v9 : AV) (h : AH) (k : List AV → AH → Prop) : Prop :=
  wdr h 9 fun r h =>
  wdp h (kMov h v5) .pure fun v107 c0 h =>
  wdp h (kLdn h 4 v8) (rdK (rdv v8)) fun v108 c1 h =>
  wdp h (kMov h v0) .pure fun v109 c2 h =>
  wdc cl (.func (.func 20) [] []) [v109, (.int .i64 3)] h fun v110 c3 h =>
  wdp h (kLdn h 10 v9) (rdK (rdv v9)) fun v111 c4 h =>
  wdp h (kBuild h [.int .i64 0, .int .i64 0, .int .i64 0, .int .i64 0, .int .i64 0, .int .i64 0, .bool false, .int .i64 0, .int .i64 0, .int .i64 0, .int .i64 0, .str [], .int .i64 0, .int .i64 0, .int .i64 0, .int .i64 0, .int .i64 0, .int .i64 0, .int .i64 0, .int .i64 0, .int .i64 0, .nilsl] [(0, 1, (.int .i64 5)), (1, 4, v108), (10, 1, v110), (12, 10, v111)]) .pure fun v112 c5 h =>
  wda (r + 6) h (alBuildSl 22 1 [.int .i64 0, .int .i64 0, .int .i64 0, .int .i64 0, .int .i64 0, .int .i64 0, .bool false, .int .i64 0, .int .i64 0, .int .i64 0, .int .i64 0, .str [], .int .i64 0, .int .i64 0, .int .i64 0, .int .i64 0, .int .i64 0, .int .i64 0, .int .i64 0, .int .i64 0, .int .i64 0, .nilsl] [(0, 22, v112)]) fun v113 c6 h =>
  wde h (kApp h 22 200 v107 v113) fun v114 c7 h =>
  g19_s9 cl c1 c3 c4 (v0) (v5) (v6) (v7) (v114) h k
def g19_j4 (cl : CL) (x : AX) (v0 v5 v6 v7 v8 v9 : AV) (h : AH) (k : List AV → AH → Prop) : Prop :=
  xs x (g19_c3 cl (v0) (v5) (v6) (v7) (v8) (v9) h k) (fun j => cond (Nat.beq j 3) (g19_c3 cl (v0) (v5) (v6) (v7) (v8) (v9) h k) (cond (Nat.beq j 2) (k [v0, v5, v6, v7] h) (cond (Nat.beq j 1) (k [v0, v5, v6, v7] h) (False)))) (False)
def g19_s10 (cl : CL) (v0 v5 v6 v7 v8 v89 : AV) (h : AH) (k : List AV → AH → Prop) : Prop :=
  wk (kBuild h [.int .i64 0, .int .i64 0, .int .i64 0, .int .i64 0, .int .i64 0, .int .i64 0, .int .i64 0, .int .i64 0, .int .i64 0, .nilsl] [(3, 1, v89)]) fun v90 h =>
  wk (kNew h [.int .i64 0, .int .i64 0, .int .i64 0, .int .i64 0, .int .i64 0, .int .i64 0, .int .i64 0, .int .i64 0, .int .i64 0, .nilsl]) fun v9 h =>
  wk (kSt h 10 v9 v90) fun _ h =>
  wcall cl (.func (.func 20) [] []) [v0, (.int .i64 4)] h fun v92 h =>
  wloop (fun vs h k => g19_l2 cl (nthD vs 0) (nthD vs 1) (nthD vs 2) (nthD vs 3) (nthD vs 4) (nthD vs 5) (nthD vs 6) h k) [v0, v5, v6, v7, v8, v9, v92] h fun x vs h => g19_j4 cl x (nthD vs 0) (nthD vs 1) (nthD vs 2) (nthD vs 3) (nthD vs 4) (nthD vs 5) h k
def g19_s11 (cl : CL) (c1 c3 : Rec) (v0 v5 v6 v7 v30 v35 : AV) (h : AH) (k : List AV → AH → Prop) : Prop :=
  wde h (kApp h 22 200 v30 v35) fun v36 c6 h =>
  wdp h (kMov h v36) .pure fun v5 c7 h =>
  recOk c1 c3 = true ∧ k [v0, v5, v6, v7] h
def g19_j5 (cl : CL) (v0 v5 v6 v7 v8 v29 v66 : AV) (h : AH) (k : List AV → AH → Prop) : Prop :=
  wif v66 (
  wk (kArith h .gtr v6 (.int .i64 0)) fun v70 h =>
  wif v70 (
  wk (kBuild h [.int .i64 0, .int .i64 0, .int .i64 0, .int .i64 0, .int .i64 0, .int .i64 0, .bool false, .int .i64 0, .int .i64 0, .int .i64 0, .int .i64 0, .str [], .int .i64 0, .int .i64 0, .int .i64 0, .int .i64 0, .int .i64 0, .int .i64 0, .int .i64 0, .int .i64 0, .int .i64 0, .nilsl] [(0, 1, (.int .i64 3))]) fun v72 h =>
  wk (kBuildSl h 22 1 [.int .i64 0, .int .i64 0, .int .i64 0, .int .i64 0, .int .i64 0, .int .i64 0, .bool false, .int .i64 0, .int .i64 0, .int .i64 0, .int .i64 0, .str [], .int .i64 0, .int .i64 0, .int .i64 0, .int .i64 0, .int .i64 0, .int .i64 0, .int .i64 0, .int .i64 0, .int .i64 0, .nilsl] [(0, 22, v72)]) fun v73 h =>
  wk (kApp h 22 200 v5 v73) fun v74 h =>
  wk (kArith h .sub v6 (.int .i64 1)) fun v76 h =>
  k [v0, v74, v76, v7] h) (
  k [v0, v5, v6, v7] h)) (
  wk (kArith h .eql v29 (.int .i64 4)) fun v78 h =>
  wif v78 (
  wdr h 8 fun r h =>
  wdp h (kMov h v5) .pure fun v79 c0 h =>
  wdp h (kLdn h 4 v8) (rdK (rdv v8)) fun v80 c1 h =>
  wdp h (kMov h v0) .pure fun v81 c2 h =>
  wdc cl (.func (.func 50) [] []) [v81, (.int .i64 1)] h fun v82 c3 h =>
  wdp h (kBuild h [.int .i64 0, .int .i64 0, .int .i64 0, .int .i64 0, .int .i64 0, .int .i64 0, .bool false, .int .i64 0, .int .i64 0, .int .i64 0, .int .i64 0, .str [], .int .i64 0, .int .i64 0, .int .i64 0, .int .i64 0, .int .i64 0, .int .i64 0, .int .i64 0, .int .i64 0, .int .i64 0, .nilsl] [(0, 1, (.int .i64 6)), (1, 4, v80), (11, 1, v82)]) .pure fun v83 c4 h =>
  wda (r + 5) h (alBuildSl 22 1 [.int .i64 0, .int .i64 0, .int .i64 0, .int .i64 0, .int .i64 0, .int .i64 0, .bool false, .int .i64 0, .int .i64 0, .int .i64 0, .int .i64 0, .str [], .int .i64 0, .int .i64 0, .int .i64 0, .int .i64 0, .int .i64 0, .int .i64 0, .int .i64 0, .int .i64 0, .int .i64 0, .nilsl] [(0, 22, v83)]) fun v84 c5 h =>
  wde h (kApp h 22 200 v79 v84) fun v85 c6 h =>
  g19_s7 cl c1 c3 (v0) (v5) (v6) (v7) (v85) h k) (
  wk (kArith h .eql v29 (.int .i64 5)) fun v87 h =>
  wif v87 (
  wcall cl (.func (.func 20) [] []) [v0, (.int .i64 5)] h fun v89 h =>
  g19_s10 cl (v0) (v5) (v6) (v7) (v8) (v89) h k) (
  wdr h 8 fun r h =>
  wdp h (kMov h v5) .pure fun v30 c0 h =>
  wdp h (kLdn h 4 v8) (rdK (rdv v8)) fun v31 c1 h =>
  wdp h (kMov h v0) .pure fun v32 c2 h =>
  wdc cl (.func (.func 20) [] []) [v32, (.int .i64 4)] h fun v33 c3 h =>
  wdp h (kBuild h [.int .i64 0, .int .i64 0, .int .i64 0, .int .i64 0, .int .i64 0, .int .i64 0, .bool false, .int .i64 0, .int .i64 0, .int .i64 0, .int .i64 0, .str [], .int .i64 0, .int .i64 0, .int .i64 0, .int .i64 0, .int .i64 0, .int .i64 0, .int .i64 0, .int .i64 0, .int .i64 0, .nilsl] [(0, 1, (.int .i64 4)), (1, 4, v31), (10, 1, v33)]) .pure fun v34 c4 h =>
  wda (r + 5) h (alBuildSl 22 1 [.int .i64 0, .int .i64 0, .int .i64 0, .int .i64 0, .int .i64 0, .int .i64 0, .bool false, .int .i64 0, .int .i64 0, .int .i64 0, .int .i64 0, .str [], .int .i64 0, .int .i64 0, .int .i64 0, .int .i64 0, .int .i64 0, .int .i64 0, .int .i64 0, .int .i64 0, .int .i64 0, .nilsl] [(0, 22, v34)]) fun v35 c5 h =>
  g19_s11 cl c1 c3 (v0) (v5) (v6) (v7) (v30) (v35) h k)))
def g19_s12 (cl : CL) (v0 v5 v6 v7 v20 v22 v24 v26 : AV) (h : AH) (k : List AV → AH → Prop) : Prop :=
  wk (kBuild h [.int .i64 0, .int .i64 0, .int .i64 0, .int .i64 0] [(0, 1, v20), (1, 1, v22), (2, 1, v24), (3, 1, v26)]) fun v27 h =>
  wk (kNew h [.int .i64 0, .int .i64 0, .int .i64 0, .int .i64 0]) fun v8 h =>
  wk (kSt h 4 v8 v27) fun _ h =>
  wcall cl (.func (.func 20) [] []) [v0, (.int .i64 9)] h fun v29 h =>
  wk (kArith h .eql v29 (.int .i64 0)) fun v38 h =>
  wif v38 (
  wk (kLdn h 4 v8) fun v40 h =>
  wk (kBuild h [.int .i64 0, .int .i64 0, .int .i64 0, .int .i64 0, .int .i64 0, .int .i64 0, .bool false, .int .i64 0, .int .i64 0, .int .i64 0, .int .i64 0, .str [], .int .i64 0, .int .i64 0, .int .i64 0, .int .i64 0, .int .i64 0, .int .i64 0, .int .i64 0, .int .i64 0, .int .i64 0, .nilsl] [(0, 1, (.int .i64 1)), (1, 4, v40)]) fun v41 h =>
  wk (kBuildSl h 22 1 [.int .i64 0, .int .i64 0, .int .i64 0, .int .i64 0, .int .i64 0, .int .i64 0, .bool false, .int .i64 0, .int .i64 0, .int .i64 0, .int .i64 0, .str [], .int .i64 0, .int .i64 0, .int .i64 0, .int .i64 0, .int .i64 0, .int .i64 0, .int .i64 0, .int .i64 0, .int .i64 0, .nilsl] [(0, 22, v41)]) fun v42 h =>
  g19_s1 cl (v0) (v6) (v7) (v5) (v42) h k) (
  wk (kArith h .eql v29 (.int .i64 1)) fun v47 h =>
  wif v47 (
  wcall cl (.func (.func 20) [] []) [v0, (.int .i64 4)] h fun v50 h =>
  g19_s6 cl (v0) (v6) (v7) (v5) (v50) h k) (
  wk (kArith h .eql v29 (.int .i64 2)) fun v67 h =>
  wjoinN (g19_a1 cl (v0) (v5) (v6) (v7) (v8) (v29) (v67) h) fun vs h => g19_j5 cl (nthD vs 0) (nthD vs 1) (nthD vs 2) (nthD vs 3) (nthD vs 4) (nthD vs 5) (nthD vs 6) h k))
def g19_s13 (cl : CL) (v0 v5 v6 v7 v20 v22 v24 : AV) (h : AH) (k : List AV → AH → Prop) : Prop :=
  wcall cl (.func (.func 20) [] []) [v0, (.int .i64 40)] h fun v26 h =>
  g19_s12 cl (v0) (v5) (v6) (v7) (v20) (v22) (v24) (v26) h k
def g19_s14 (cl : CL) (v0 v5 v6 v7 v20 v22 : AV) (h : AH) (k : List AV → AH → Prop) : Prop :=
  wcall cl (.func (.func 20) [] []) [v0, (.int .i64 40)] h fun v24 h =>
  g19_s13 cl (v0) (v5) (v6) (v7) (v20) (v22) (v24) h k
def g19_s15 (cl : CL) (v0 v5 v6 v7 v20 : AV) (h : AH) (k : List AV → AH → Prop) : Prop :=
  wcall cl (.func (.func 21) [] []) [v0, (.int .i64 (-20)), (.int .i64 40)] h fun v22 h =>
  g19_s14 cl (v0) (v5) (v6) (v7) (v20) (v22) h k
def g19_a6 (cl : CL) (v0 v5 v6 v7 : AV) (h : AH) (k : List AV → AH → Prop) : Prop :=
  wcall cl (.func (.func 21) [] []) [v0, (.int .i64 (-20)), (.int .i64 40)] h fun v20 h =>
  g19_s15 cl (v0) (v5) (v6) (v7) (v20) h k
def g19_j7 (cl : CL) (v0 v5 v6 v7 : AV) (h : AH) (k : AX → List AV → List AV → AH → Prop) : Prop :=
  wk (kArith h .sub v7 (.int .i64 1)) fun v18 h =>
  k .nrm [v0, v5, v6, v18] [v5, v6] h
def g19_l8 (cl : CL) (v0 v5 v6 v7 : AV) (h : AH) (k : AX → List AV → List AV → AH → Prop) : Prop :=
  wk (kArith h .gtr v7 (.int .i64 0)) fun v16 h =>
  wif v16 (
  wjoinN (g19_a6 cl (v0) (v5) (v6) (v7) h) fun vs h => g19_j7 cl (nthD vs 0) (nthD vs 1) (nthD vs 2) (nthD vs 3) h k) (
  k (.exit 0) [v0, v5, v6, v7] [v5, v6] h)
def g19_l9 (cl : CL) (v5 v6 : AV) (h : AH) (k : AX → List AV → List AV → AH → Prop) : Prop :=
  wk (kArith h .gtr v6 (.int .i64 0)) fun v116 h =>
  wif v116 (
  wk (kBuild h [.int .i64 0, .int .i64 0, .int .i64 0, .int .i64 0, .int .i64 0, .int .i64 0, .bool false, .int .i64 0, .int .i64 0, .int .i64 0, .int .i64 0, .str [], .int .i64 0, .int .i64 0, .int .i64 0, .int .i64 0, .int .i64 0, .int .i64 0, .int .i64 0, .int .i64 0, .int .i64 0, .nilsl] [(0, 1, (.int .i64 3))]) fun v120 h =>
  wk (kBuildSl h 22 1 [.int .i64 0, .int .i64 0, .int .i64 0, .int .i64 0, .int .i64 0, .int .i64 0, .bool false, .int .i64 0, .int .i64 0, .int .i64 0, .int .i64 0, .str [], .int .i64 0, .int .i64 0, .int .i64 0, .int .i64 0, .int .i64 0, .int .i64 0, .int .i64 0, .int .i64 0, .int .i64 0, .nilsl] [(0, 22, v120)]) fun v121 h =>
  wk (kApp h 22 200 v5 v121) fun v122 h =>
  wk (kArith h .sub v6 (.int .i64 1)) fun v118 h =>
  k .nrm [v122, v118] [v122] h) (
  k (.exit 5) [v5, v6] [v5] h)
def g19_c10 (cl : CL) (v5 : AV) (h : AH) (Q : AV → AH → Prop) : Prop :=
  Q (v5) h
def g19_j11 (cl : CL) (x : AX) (v5 : AV) (h : AH) (Q : AV → AH → Prop) : Prop :=
  xs x (g19_c10 cl (v5) h Q) (fun j => cond (Nat.beq j 5) (g19_c10 cl (v5) h Q) (False)) (Q (.undef) h)
def g19_c12 (cl : CL) (v5 v6 : AV) (h : AH) (Q : AV → AH → Prop) : Prop :=
  wloop (fun vs h k => g19_l9 cl (nthD vs 0) (nthD vs 1) h k) [v5, v6] h fun x vs h => g19_j11 cl x (nthD vs 0) h Q
def g19_j13 (cl : CL) (x : AX) (v5 v6 : AV) (h : AH) (Q : AV → AH → Prop) : Prop :=
  xs x (g19_c12 cl (v5) (v6) h Q) (fun j => cond (Nat.beq j 0) (g19_c12 cl (v5) (v6) h Q) (False)) (Q (.undef) h)
def g19 (cl : CL) (v0 v1 : AV) (h : AH) (Q : AV → AH → Prop) : Prop :=
  wk (kArith h .add v1 (.int .i64 1)) fun v13 h =>
  wcall cl (.func (.func 20) [] []) [v0, v13] h fun v14 h =>
  wloop (fun vs h k => g19_l8 cl (nthD vs 0) (nthD vs 1) (nthD vs 2) (nthD vs 3) h k) [v0, (.nilsl), (.int .i64 0), v14] h fun x vs h => g19_j13 cl x (nthD vs 0) (nthD vs 1) h Q
theorem g19_eq (cl : CL) (v0 v1 : AV) (h : AH) (Q : AV → AH → Prop) : wrun cl S19 [v0, v1] h Q = g19 cl v0 v1 h Q := by kernel_rfl
theorem C19 {cl : CL} (hcl : CLOk Try.prog cl) {v0 v1 : AV} {h : AH} {Q : AV → AH → Prop} (hg : g19 cl v0 v1 h Q) : CallsA Try.prog 19 [v0, v1] h Q := wfn_ok hcl (f := 19) (fn := Try.f19) (by kernel_rfl) S19_ok (by decide) (by kernel_rfl) (its_nil (by kernel_rfl)) (by rw [g19_eq]; exact hg)

/- (*widgetry/widgetrybase.Src).N -/
def S20.r0 : List AOpr := [
  ⟨some 4, .mov (.const (.int .i64 0)), none⟩]
def S20.r1 : List ((AOpr × Nat) × Option Nat) := [
  ((⟨some 6, .mov (.tmp 0), none⟩, 0), none),
  ((⟨some 7, .nilchk (.tmp 6), none⟩, 1), none),
  ((⟨some 8, .fldA 1 (.tmp 7), none⟩, 3), none),
  ((⟨some 9, .ld1 (.tmp 8), none⟩, 7), none),
  ((⟨some 10, .mov (.tmp 0), none⟩, 0), none),
  ((⟨some 11, .nilchk (.tmp 10), none⟩, 16), none),
  ((⟨some 12, .fldA 0 (.tmp 11), none⟩, 48), none),
  ((⟨some 13, .ld1 (.tmp 12), none⟩, 112), none),
  ((⟨some 14, .len (.tmp 13), none⟩, 240), none),
  ((⟨some 15, .arith .geq (.tmp 9) (.tmp 14), none⟩, 511), none),
  ((⟨some 16, .mov (.tmp 15), none⟩, 1023), none),
  ((⟨some 17, .mov (.tmp 1), some (16, false)⟩, 2047), some 16),
  ((⟨some 18, .arith .lss (.tmp 17) (.const (.int .i64 1)), some (16, false)⟩, 4095), none),
  ((⟨some 19, .pick (.tmp 16) (.const (.bool true)) (.tmp 18), none⟩, 8191), none)]
def S20.r2 : List AOpr := [
  ⟨some 4, .mov (.const (.int .i64 0)), none⟩]
def S20.r3 : List (AOpr × Nat) := [
  (⟨some 20, .mov (.tmp 0), none⟩, 0),
  (⟨some 21, .nilchk (.tmp 20), none⟩, 1),
  (⟨some 22, .fldA 0 (.tmp 21), none⟩, 3),
  (⟨some 23, .ld1 (.tmp 22), none⟩, 7),
  (⟨some 24, .mov (.tmp 0), none⟩, 0),
  (⟨some 25, .nilchk (.tmp 24), none⟩, 16),
  (⟨some 26, .fldA 1 (.tmp 25), none⟩, 48),
  (⟨some 27, .ld1 (.tmp 26), none⟩, 112),
  (⟨some 28, .idxA 1 (.tmp 23) (.tmp 27), none⟩, 255),
  (⟨some 29, .ld1 (.tmp 28), none⟩, 511),
  (⟨some 30, .mov (.tmp 1), none⟩, 0),
  (⟨some 31, .arith .rem (.tmp 29) (.tmp 30), none⟩, 2047),
  (⟨some 5, .mov (.tmp 31), none⟩, 4095)]
def S20.r4 : List AOpr := [
  ⟨some 32, .mov (.tmp 0), none⟩,
  ⟨some 33, .nilchk (.tmp 32), none⟩,
  ⟨some 34, .fldA 1 (.tmp 33), none⟩,
  ⟨some 35, .ld1 (.tmp 34), none⟩,
  ⟨some 36, .arith .add (.tmp 35) (.const (.int .i64 1)), none⟩,
  ⟨some 37, .nilchk (.tmp 32), none⟩,
  ⟨some 38, .fldA 1 (.tmp 37), none⟩,
  ⟨none, .st 1 (.tmp 38) (.tmp 36), none⟩]
def S20.r5 : List AOpr := [
  ⟨some 39, .mov (.tmp 5), none⟩,
  ⟨some 40, .arith .lss (.tmp 39) (.const (.int .i64 0)), none⟩]
def S20.r6 : List AOpr := [
  ⟨some 41, .mov (.tmp 5), none⟩,
  ⟨some 42, .mov (.tmp 1), none⟩,
  ⟨some 43, .arith .add (.tmp 41) (.tmp 42), none⟩,
  ⟨some 5, .mov (.tmp 43), none⟩]
def S20.r7 : List AOpr := [
  ⟨some 44, .mov (.tmp 5), none⟩,
  ⟨some 4, .mov (.tmp 44), none⟩]
def S20 : SFn := ⟨45, [.tmp 4], .seq (.reg S20.r0) (.seq (.seq (.joinN [0, 1, 19] (.drawS S20.r1)) (.cond (.tmp 19) (.seq (.reg S20.r2) (.ret)) (.skip))) (.seq (.draw S20.r3) (.seq (.reg S20.r4) (.seq (.seq (.reg S20.r5) (.joinN [5] (.cond (.tmp 40) (.reg S20.r6) (.skip)))) (.seq (.reg S20.r7) (.ret))))))⟩
theorem S20_ok : cFn Try.prog Try.f20 = some S20.erase := by kernel_rfl
def g20_s1 (cl : CL) (v0 v1 v9 v13 : AV) (h : AH) (k : List AV → AH → Prop) : Prop :=
  wdp h (kLen h v13) .pure fun v14 c8 h =>
  wdp h (kArith h .geq v9 v14) .pure fun v15 c9 h =>
  wdp h (kMov h v15) .pure fun v16 c10 h =>
  wsp v16 fun v16 =>
  wgd (gdv false v16) (fun k => wdp h (kMov h v1) .pure k) h fun v17 c11 h =>
  wgd (gdv false v16) (fun k => wdp h (kArith h .lss v17 (.int .i64 1)) .pure k) h fun v18 c12 h =>
  wdp h (kPick h v16 (.bool true) v18) .pure fun v19 c13 h =>
  k [v0, v1, v19] h
def g20_a1 (cl : CL) (v0 v1 : AV) (h : AH) (k : List AV → AH → Prop) : Prop :=
  wdr h 14 fun r h =>
  wdp h (kMov h v0) .pure fun v6 c0 h =>
  wdp h (kNilchk h v6) .pure fun v7 c1 h =>
  wdp h (kFldA h 1 v7) .pure fun v8 c2 h =>
  wdp h (kLd1 h v8) (rdK (rdv v8)) fun v9 c3 h =>
  wdp h (kMov h v0) .pure fun v10 c4 h =>
  wdp h (kNilchk h v10) .pure fun v11 c5 h =>
  wdp h (kFldA h 0 v11) .pure fun v12 c6 h =>
  wdp h (kLd1 h v12) (rdK (rdv v12)) fun v13 c7 h =>
  g20_s1 cl (v0) (v1) (v9) (v13) h k
def g20_a2 (cl : CL) (v1 v5 v40 : AV) (h : AH) (k : List AV → AH → Prop) : Prop :=
  wif v40 (
  wk (kArith h .add v5 v1) fun v43 h =>
  k [v43] h) (
  k [v5] h)
def g20_j3 (cl : CL) (v5 : AV) (h : AH) (Q : AV → AH → Prop) : Prop :=
  Q (v5) h
def g20_s2 (cl : CL) (v1 v5 v32 v35 : AV) (h : AH) (Q : AV → AH → Prop) : Prop :=
  wk (kArith h .add v35 (.int .i64 1)) fun v36 h =>
  wk (kNilchk h v32) fun v37 h =>
  wk (kFldA h 1 v37) fun v38 h =>
  wk (kSt h 1 v38 v36) fun _ h =>
  wk (kArith h .lss v5 (.int .i64 0)) fun v40 h =>
  wjoinN (g20_a2 cl (v1) (v5) (v40) h) fun vs h => g20_j3 cl (nthD vs 0) h Q
def g20_s3 (cl : CL) (v0 v1 v23 v27 : AV) (h : AH) (Q : AV → AH → Prop) : Prop :=
  wdp h (kIdxA h 1 v23 v27) .pure fun v28 c8 h =>
  wdp h (kLd1 h v28) (rdK (rdv v28)) fun v29 c9 h =>
  wdp h (kMov h v1) .pure fun v30 c10 h =>
  wdp h (kArith h .rem v29 v30) .pure fun v31 c11 h =>
  wdp h (kMov h v31) .pure fun v5 c12 h =>
  wk (kNilchk h v0) fun v33 h =>
  wk (kFldA h 1 v33) fun v34 h =>
  wk (kLd1 h v34) fun v35 h =>
  g20_s2 cl (v1) (v5) (v0) (v35) h Q
def g20_j4 (cl : CL) (v0 v1 v19 : AV) (h : AH) (Q : AV → AH → Prop) : Prop :=
  wif v19 (
  Q ((.int .i64 0)) h) (
  wdr h 13 fun r h =>
  wdp h (kMov h v0) .pure fun v20 c0 h =>
  wdp h (kNilchk h v20) .pure fun v21 c1 h =>
  wdp h (kFldA h 0 v21) .pure fun v22 c2 h =>
  wdp h (kLd1 h v22) (rdK (rdv v22)) fun v23 c3 h =>
  wdp h (kMov h v0) .pure fun v24 c4 h =>
  wdp h (kNilchk h v24) .pure fun v25 c5 h =>
  wdp h (kFldA h 1 v25) .pure fun v26 c6 h =>
  wdp h (kLd1 h v26) (rdK (rdv v26)) fun v27 c7 h =>
  g20_s3 cl (v0) (v1) (v23) (v27) h Q)
def g20 (cl : CL) (v0 v1 : AV) (h : AH) (Q : AV → AH → Prop) : Prop :=
  wjoinN (g20_a1 cl (v0) (v1) h) fun vs h => g20_j4 cl (nthD vs 0) (nthD vs 1) (nthD vs 2) h Q
theorem g20_eq (cl : CL) (v0 v1 : AV) (h : AH) (Q : AV → AH → Prop) : wrun cl S20 [v0, v1] h Q = g20 cl v0 v1 h Q := by kernel_rfl
theorem C20 {cl : CL} (hcl : CLOk Try.prog cl) {v0 v1 : AV} {h : AH} {Q : AV → AH → Prop} (hg : g20 cl v0 v1 h Q) : CallsA Try.prog 20 [v0, v1] h Q := wfn_ok hcl (f := 20) (fn := Try.f20) (by kernel_rfl) S20_ok (by decide) (by kernel_rfl) (its_nil (by kernel_rfl)) (by rw [g20_eq]; exact hg)

/- (*widgetry/widgetrybase.Src).Range -/
def S21.r0 : List AOpr := [
  ⟨some 6, .mov (.const (.int .i64 0)), none⟩]
def S21.r1 : List AOpr := [
  ⟨some 7, .mov (.tmp 1), none⟩,
  ⟨some 8, .mov (.tmp 0), none⟩,
  ⟨some 9, .mov (.tmp 2), none⟩,
  ⟨some 10, .mov (.tmp 1), none⟩,
  ⟨some 11, .arith .sub (.tmp 9) (.tmp 10), none⟩,
  ⟨some 12, .arith .add (.tmp 11) (.const (.int .i64 1)), none⟩,
  ⟨some 13, .call (.const (.func (.func 20) [] [])) [.tmp 8, .tmp 12], none⟩,
  ⟨some 14, .arith .add (.tmp 7) (.tmp 13), none⟩,
  ⟨some 6, .mov (.tmp 14), none⟩]
def S21 : SFn := ⟨15, [.tmp 6], .seq (.reg S21.r0) (.seq (.reg S21.r1) (.ret))⟩
theorem S21_ok : cFn Try.prog Try.f21 = some S21.erase := by kernel_rfl
def g21 (cl : CL) (v0 v1 v2 : AV) (h : AH) (Q : AV → AH → Prop) : Prop :=
  wk (kArith h .sub v2 v1) fun v11 h =>
  wk (kArith h .add v11 (.int .i64 1)) fun v12 h =>
  wcall cl (.func (.func 20) [] []) [v0, v12] h fun v13 h =>
  wk (kArith h .add v1 v13) fun v14 h =>
  Q (v14) h
theorem g21_eq (cl : CL) (v0 v1 v2 : AV) (h : AH) (Q : AV → AH → Prop) : wrun cl S21 [v0, v1, v2] h Q = g21 cl v0 v1 v2 h Q := by kernel_rfl
theorem C21 {cl : CL} (hcl : CLOk Try.prog cl) {v0 v1 v2 : AV} {h : AH} {Q : AV → AH → Prop} (hg : g21 cl v0 v1 v2 h Q) : CallsA Try.prog 21 [v0, v1, v2] h Q := wfn_ok hcl (f := 21) (fn := Try.f21) (by kernel_rfl) S21_ok (by decide) (by kernel_rfl) (its_nil (by kernel_rfl)) (by rw [g21_eq]; exact hg)

/- (*widgetry/widgetrybase.Src).Word -/
def S50.r0 : List AOpr := [
  ⟨some 4, .mov (.const (.str [])), none⟩]
def S50.r1 : List AOpr := [
  ⟨some 8, .mov (.tmp 0), none⟩,
  ⟨some 9, .mov (.tmp 1), none⟩,
  ⟨some 10, .arith .add (.tmp 9) (.const (.int .i64 1)), none⟩,
  ⟨some 11, .call (.const (.func (.func 20) [] [])) [.tmp 8, .tmp 10], none⟩,
  ⟨some 5, .mov (.tmp 11), none⟩]
def S50.r2 : List AOpr := [
  ⟨some 12, .mov (.tmp 5), none⟩,
  ⟨some 13, .mksl 1 1 [.int .u8 0] (.tmp 12) (.tmp 12), none⟩,
  ⟨some 6, .mov (.tmp 13), none⟩]
def S50.r3 : List AOpr := [
  ⟨some 7, .mov (.const (.int .i64 0)), none⟩]
def S50.r4 : List AOpr := [
  ⟨some 14, .mov (.tmp 7), none⟩,
  ⟨some 15, .mov (.tmp 5), none⟩,
  ⟨some 16, .arith .lss (.tmp 14) (.tmp 15), none⟩]
def S50.r5 : List AOpr := [
  ⟨some 19, .mov (.tmp 6), none⟩,
  ⟨some 20, .mov (.tmp 7), none⟩,
  ⟨some 21, .mov (.tmp 0), none⟩,
  ⟨some 22, .call (.const (.func (.func 20) [] [])) [.tmp 21, .const (.int .i64 4)], none⟩,
  ⟨some 23, .arith .add (.const (.int .i64 97)) (.tmp 22), none⟩,
  ⟨some 24, .convI .u8 (.tmp 23), none⟩,
  ⟨some 25, .idxA 1 (.tmp 19) (.tmp 20), none⟩,
  ⟨none, .st 1 (.tmp 25) (.tmp 24), none⟩]
def S50.r6 : List AOpr := [
  ⟨some 17, .mov (.tmp 7), none⟩,
  ⟨some 18, .arith .add (.tmp 17) (.const (.int .i64 1)), none⟩,
  ⟨some 7, .mov (.tmp 18), none⟩]
def S50.r7 : List AOpr := [
  ⟨some 26, .mov (.tmp 6), none⟩,
  ⟨some 27, .xo .b2s [.tmp 26], none⟩,
  ⟨some 4, .mov (.tmp 27), none⟩]
def S50 : SFn := ⟨28, [.tmp 4], .seq (.reg S50.r0) (.seq (.reg S50.r1) (.seq (.reg S50.r2) (.seq (.seq (.reg S50.r3) (.block 0 (.loop [0, 5, 6, 7] [6] (.seq (.seq (.reg S50.r4) (.cond (.tmp 16) (.skip) (.exit 0))) (.seq (.block 1 (.reg S50.r5)) (.reg S50.r6)))))) (.seq (.reg S50.r7) (.ret)))))⟩
theorem S50_ok : cFn Try.prog Try.f50 = some S50.erase := by kernel_rfl
def g50_s1 (cl : CL) (v0 v5 v6 v7 v19 v20 v22 : AV) (h : AH) (k : AX → List AV → List AV → AH → Prop) : Prop :=
  wk (kArith h .add (.int .i64 97) v22) fun v23 h =>
  wk (kConvI h .u8 v23) fun v24 h =>
  wk (kIdxA h 1 v19 v20) fun v25 h =>
  wk (kSt h 1 v25 v24) fun _ h =>
  wk (kArith h .add v7 (.int .i64 1)) fun v18 h =>
  k .nrm [v0, v5, v6, v18] [v6] h
def g50_l1 (cl : CL) (v0 v5 v6 v7 : AV) (h : AH) (k : AX → List AV → List AV → AH → Prop) : Prop :=
  wk (kArith h .lss v7 v5) fun v16 h =>
  wif v16 (
  wcall cl (.func (.func 20) [] []) [v0, (.int .i64 4)] h fun v22 h =>
  g50_s1 cl (v0) (v5) (v6) (v7) (v6) (v7) (v22) h k) (
  k (.exit 0) [v0, v5, v6, v7] [v6] h)
def g50_c2 (cl : CL) (v6 : AV) (h : AH) (Q : AV → AH → Prop) : Prop :=
  wk (kX h .b2s [v6]) fun v27 h =>
  Q (v27) h
def g50_j3 (cl : CL) (x : AX) (v6 : AV) (h : AH) (Q : AV → AH → Prop) : Prop :=
  xs x (g50_c2 cl (v6) h Q) (fun j => cond (Nat.beq j 0) (g50_c2 cl (v6) h Q) (False)) (Q (.undef) h)
def g50 (cl : CL) (v0 v1 : AV) (h : AH) (Q : AV → AH → Prop) : Prop :=
  wk (kArith h .add v1 (.int .i64 1)) fun v10 h =>
  wcall cl (.func (.func 20) [] []) [v0, v10] h fun v11 h =>
  wk (kMksl h 1 1 [.int .u8 0] v11 v11) fun v13 h =>
  wloop (fun vs h k => g50_l1 cl (nthD vs 0) (nthD vs 1) (nthD vs 2) (nthD vs 3) h k) [v0, v11, v13, (.int .i64 0)] h fun x vs h => g50_j3 cl x (nthD vs 0) h Q
theorem g50_eq (cl : CL) (v0 v1 : AV) (h : AH) (Q : AV → AH → Prop) : wrun cl S50 [v0, v1] h Q = g50 cl v0 v1 h Q := by kernel_rfl
theorem C50 {cl : CL} (hcl : CLOk Try.prog cl) {v0 v1 : AV} {h : AH} {Q : AV → AH → Prop} (hg : g50 cl v0 v1 h Q) : CallsA Try.prog 50 [v0, v1] h Q := wfn_ok hcl (f := 50) (fn := Try.f50) (by kernel_rfl) S50_ok (by decide) (by kernel_rfl) (its_nil (by kernel_rfl)) (by rw [g50_eq]; exact hg)

end Go.Proofs.Ytpnekpbehcbmkaa
