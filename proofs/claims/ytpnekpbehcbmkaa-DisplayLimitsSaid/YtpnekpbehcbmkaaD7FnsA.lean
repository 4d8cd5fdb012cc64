/- Functions of the laws: their code with joins and live registers, and what they are as plain transformers of predicates; printed by a program of ours. -/
import Derived.Test.YtpnekpbehcbmkaaProg
import Derived.Test.YtpnekpbehcbmkaaD7A
import Derived.KernelRfl
set_option linter.unusedSimpArgs false
set_option linter.unusedVariables false
set_option linter.unnecessarySimpa false
namespace Go.Proofs.Ytpnekpbehcbmkaa
open Go.Eng
set_option maxRecDepth 100000
def g3_s1 (cl : CL) (v0 v1 v5 v9 : AV) (h : AH) (k : List AV → AH → Prop) : Prop :=
  wsp v9 fun v10 =>
  wg (gdv false v10) (fun k => k v1 h) h fun v11 h =>
  wg (gdv false v10) (fun k => wcall cl (.func (.func 10) [] []) [v11] h k) h fun v12 h =>
  wk (kPick h v10 (.bool true) v12) fun v13 h =>
  k [v0, v1, v5, v13] h
def g3_a1 (cl : CL) (v0 v1 v5 : AV) (h : AH) (k : List AV → AH → Prop) : Prop :=
  wcall cl (.func (.func 10) [] []) [v0] h fun v9 h =>
  g3_s1 cl (v0) (v1) (v5) (v9) h k
def g3_a2 (cl : CL) (v0 v1 v5 v7 : AV) (h : AH) (k : List AV → AH → Prop) : Prop :=
  wk (kLen h v0) fun v16 h =>
  wk (kArith h .lss v7 v16) fun v17 h =>
  wsp v17 fun v18 =>
  wg (gdv true v18) (fun k => k v7 h) h fun v19 h =>
  wg (gdv true v18) (fun k => k v1 h) h fun v20 h =>
  wg (gdv true v18) (fun k => wk (kLen h v20) k) h fun v21 h =>
  wg (gdv true v18) (fun k => wk (kArith h .lss v19 v21) k) h fun v22 h =>
  wk (kPick h v18 v22 (.bool false)) fun v23 h =>
  k [v0, v1, v5, v7, v23] h
def g3_s2 (cl : CL) (c8 c12 c16 : Rec) (v0 v1 v5 v7 v45 v49 : AV) (h : AH) (k : List AV → AH → Prop) : Prop :=
  wgd (gdv false v45) (fun k => wdp h (kMov h v0) .pure k) h fun v50 c24 h =>
  wgd (gdv false v45) (fun k => wdp h (kMov h v7) .pure k) h fun v51 c25 h =>
  wgd (gdv false v45) (fun k => wdp h (kIdxA h 22 v50 v51) .pure k) h fun v52 c26 h =>
  wgd (gdv false v45) (fun k => wdp h (kLdn h 22 v52) (rdK (rdv v52)) k) h fun v53 c27 h =>
  wgd (gdv false v45) (fun k => wdc cl (.func (.func 11) [] []) [v49, v53] h k) h fun v54 c28 h =>
  wgd (gdv false v45) (fun k => wdp h (kUn h .not v54) .pure k) h fun v55 c29 h =>
  wdp h (kPick h v45 (.bool true) v55) .pure fun v56 c30 h =>
  recOk c8 c12 = true ∧ recOk c8 c16 = true ∧ k [v0, v1, v5, v7, v56] h
def g3_s3 (cl : CL) (c8 c12 : Rec) (v0 v1 v5 v7 v34 v38 v41 : AV) (h : AH) (k : List AV → AH → Prop) : Prop :=
  wdp h (kLdn h 22 v41) (rdK (rdv v41)) fun v42 c16 h =>
  wdc cl (.func (.func 12) [] []) [v38, v42] h fun v43 c17 h =>
  wdp h (kEqs h true v34 v43) .pure fun v44 c18 h =>
  wdp h (kMov h v44) .pure fun v45 c19 h =>
  wsp v45 fun v45 =>
  wgd (gdv false v45) (fun k => wdp h (kMov h v0) .pure k) h fun v46 c20 h =>
  wgd (gdv false v45) (fun k => wdp h (kMov h v7) .pure k) h fun v47 c21 h =>
  wgd (gdv false v45) (fun k => wdp h (kIdxA h 22 v46 v47) .pure k) h fun v48 c22 h =>
  wgd (gdv false v45) (fun k => wdp h (kLdn h 22 v48) (rdK (rdv v48)) k) h fun v49 c23 h =>
  g3_s2 cl c8 c12 c16 (v0) (v1) (v5) (v7) (v45) (v49) h k
def g3_s4 (cl : CL) (v0 v1 v5 v7 v29 v33 : AV) (h : AH) (k : List AV → AH → Prop) : Prop :=
  wdc cl (.func (.func 11) [] []) [v29, v33] h fun v34 c8 h =>
  wdp h (kMov h v0) .pure fun v35 c9 h =>
  wdp h (kMov h v7) .pure fun v36 c10 h =>
  wdp h (kIdxA h 22 v35 v36) .pure fun v37 c11 h =>
  wdp h (kLdn h 22 v37) (rdK (rdv v37)) fun v38 c12 h =>
  wdp h (kMov h v1) .pure fun v39 c13 h =>
  wdp h (kMov h v7) .pure fun v40 c14 h =>
  wdp h (kIdxA h 22 v39 v40) .pure fun v41 c15 h =>
  g3_s3 cl c8 c12 (v0) (v1) (v5) (v7) (v34) (v38) (v41) h k
def g3_a3 (cl : CL) (v0 v1 v5 v7 : AV) (h : AH) (k : List AV → AH → Prop) : Prop :=
  wdr h 31 fun r h =>
  wdp h (kMov h v0) .pure fun v26 c0 h =>
  wdp h (kMov h v7) .pure fun v27 c1 h =>
  wdp h (kIdxA h 22 v26 v27) .pure fun v28 c2 h =>
  wdp h (kLdn h 22 v28) (rdK (rdv v28)) fun v29 c3 h =>
  wdp h (kMov h v1) .pure fun v30 c4 h =>
  wdp h (kMov h v7) .pure fun v31 c5 h =>
  wdp h (kIdxA h 22 v30 v31) .pure fun v32 c6 h =>
  wdp h (kLdn h 22 v32) (rdK (rdv v32)) fun v33 c7 h =>
  g3_s4 cl (v0) (v1) (v5) (v7) (v29) (v33) h k
def g3_j4 (cl : CL) (v0 v1 v5 v7 v56 : AV) (h : AH) (k : AX → List AV → List AV → AH → Prop) : Prop :=
  wif v56 (
  k .ret [v0, v1, v5, v7] [v0, v5, (.bool false)] h) (
  wk (kArith h .add v7 (.int .i64 1)) fun v25 h =>
  k .nrm [v0, v1, v5, v25] [v0, v5, .undef] h)
def g3_j5 (cl : CL) (v0 v1 v5 v7 v23 : AV) (h : AH) (k : AX → List AV → List AV → AH → Prop) : Prop :=
  wif v23 (
  wjoinN (g3_a3 cl (v0) (v1) (v5) (v7) h) fun vs h => g3_j4 cl (nthD vs 0) (nthD vs 1) (nthD vs 2) (nthD vs 3) (nthD vs 4) h k) (
  k (.exit 0) [v0, v1, v5, v7] [v0, v5, .undef] h)
def g3_l6 (cl : CL) (v0 v1 v5 v7 : AV) (h : AH) (k : AX → List AV → List AV → AH → Prop) : Prop :=
  wjoinN (g3_a2 cl (v0) (v1) (v5) (v7) h) fun vs h => g3_j5 cl (nthD vs 0) (nthD vs 1) (nthD vs 2) (nthD vs 3) (nthD vs 4) h k
def g3_s5 (cl : CL) (c8 c10 : Rec) (v6 v71 v72 : AV) (h : AH) (Q : AV → AH → Prop) : Prop :=
  wdp h (kPick h v71 v72 (.bool false)) .pure fun v73 c16 h =>
  wdp h (kMov h v73) .pure fun v6 c17 h =>
  recOk c8 c10 = true ∧ Q (v6) h
def g3_s6 (cl : CL) (v0 v5 v6 v62 v63 v64 : AV) (h : AH) (Q : AV → AH → Prop) : Prop :=
  wgd (gdv true v62) (fun k => wdc cl (.func (.func 15) [] []) [v63, v64] h k) h fun v65 c8 h =>
  wgd (gdv true v62) (fun k => wdp h (kMov h v0) .pure k) h fun v66 c9 h =>
  wgd (gdv true v62) (fun k => wdp h (kLdn h 2 v5) (rdK (rdv v5)) k) h fun v67 c10 h =>
  wgd (gdv true v62) (fun k => wdc cl (.func (.func 16) [] []) [v66, v67] h k) h fun v68 c11 h =>
  wgd (gdv true v62) (fun k => wdp h (kArith h .eql v65 v68) .pure k) h fun v69 c12 h =>
  wdp h (kPick h v62 v69 (.bool false)) .pure fun v70 c13 h =>
  wdp h (kMov h v70) .pure fun v71 c14 h =>
  wsp v71 fun v71 =>
  wgd (gdv true v71) (fun k => wdc cl (.func (.func 17) [] []) [] h k) h fun v72 c15 h =>
  g3_s5 cl c8 c10 (v6) (v71) (v72) h Q
def g3_c7 (cl : CL) (v0 v5 v6 : AV) (h : AH) (Q : AV → AH → Prop) : Prop :=
  wdr h 18 fun r h =>
  wdp h (kMov h v0) .pure fun v57 c0 h =>
  wdc cl (.func (.func 13) [] []) [v57] h fun v58 c1 h =>
  wdp h (kMov h v0) .pure fun v59 c2 h =>
  wdc cl (.func (.func 14) [] []) [v59] h fun v60 c3 h =>
  wdp h (kArith h .eql v58 v60) .pure fun v61 c4 h =>
  wdp h (kMov h v61) .pure fun v62 c5 h =>
  wsp v62 fun v62 =>
  wgd (gdv true v62) (fun k => wdp h (kMov h v0) .pure k) h fun v63 c6 h =>
  wgd (gdv true v62) (fun k => wdp h (kLdn h 2 v5) (rdK (rdv v5)) k) h fun v64 c7 h =>
  g3_s6 cl (v0) (v5) (v6) (v62) (v63) (v64) h Q
def g3_j8 (cl : CL) (x : AX) (v0 v5 v6 : AV) (h : AH) (Q : AV → AH → Prop) : Prop :=
  xs x (g3_c7 cl (v0) (v5) (v6) h Q) (fun j => cond (Nat.beq j 0) (g3_c7 cl (v0) (v5) (v6) h Q) (False)) (Q (v6) h)
def g3_j9 (cl : CL) (v0 v1 v5 v13 : AV) (h : AH) (Q : AV → AH → Prop) : Prop :=
  wif v13 (
  Q ((.bool true)) h) (
  wloop (fun vs h k => g3_l6 cl (nthD vs 0) (nthD vs 1) (nthD vs 2) (nthD vs 3) h k) [v0, v1, v5, (.int .i64 0)] h fun x vs h => g3_j8 cl x (nthD vs 0) (nthD vs 1) (nthD vs 2) h Q)
def g3 (cl : CL) (v0 v1 v2 : AV) (h : AH) (Q : AV → AH → Prop) : Prop :=
  wk (kBox h v2) fun v5 h =>
  wjoinN (g3_a1 cl (v0) (v1) (v5) h) fun vs h => g3_j9 cl (nthD vs 0) (nthD vs 1) (nthD vs 2) (nthD vs 3) h Q
/- widgetry/widgetrylaw24.DisplayLimits -/
def S9.r0 : List AOpr := [
  ⟨some 2, .mov (.const (.bool false)), none⟩]
def S9.r1 : List AOpr := [
  ⟨some 8, .mov (.tmp 0), none⟩,
  ⟨some 9, .arith .and (.tmp 8) (.const (.int .i64 3)), none⟩,
  ⟨some 10, .arith .add (.const (.int .i64 19999)) (.tmp 9), none⟩,
  ⟨some 11, .mksl 22 200 [.int .i64 0, .int .i64 0, .int .i64 0, .int .i64 0, .int .i64 0, .int .i64 0, .bool false, .int .i64 0, .int .i64 0, .int .i64 0, .int .i64 0, .str [], .int .i64 0, .int .i64 0, .int .i64 0, .int .i64 0, .int .i64 0, .int .i64 0, .int .i64 0, .int .i64 0, .int .i64 0, .nilsl] (.tmp 10) (.tmp 10), none⟩,
  ⟨some 3, .mov (.tmp 11), none⟩]
def S9.r2 : List AOpr := [
  ⟨some 4, .mov (.const (.int .i64 0)), none⟩]
def S9.r3 : List AOpr := [
  ⟨some 12, .mov (.tmp 4), none⟩,
  ⟨some 13, .mov (.tmp 3), none⟩,
  ⟨some 14, .len (.tmp 13), none⟩,
  ⟨some 15, .arith .lss (.tmp 12) (.tmp 14), none⟩]
def S9.r4 : List AOpr := [
  ⟨some 18, .mov (.tmp 3), none⟩,
  ⟨some 19, .mov (.tmp 4), none⟩,
  ⟨some 20, .mov (.tmp 4), none⟩,
  ⟨some 21, .call (.const (.func (.func 26) [] [])) [.const (.int .i64 0), .const (.int .i64 0), .const (.int .i64 1), .const (.int .i64 1), .tmp 20], none⟩,
  ⟨some 22, .idxA 22 (.tmp 18) (.tmp 19), none⟩,
  ⟨none, .st 22 (.tmp 22) (.tmp 21), none⟩]
def S9.r5 : List AOpr := [
  ⟨some 16, .mov (.tmp 4), none⟩,
  ⟨some 17, .arith .add (.tmp 16) (.const (.int .i64 1)), none⟩,
  ⟨some 4, .mov (.tmp 17), none⟩]
def S9.r6 : List AOpr := [
  ⟨some 23, .mov (.tmp 3), none⟩,
  ⟨some 24, .call (.const (.func (.func 13) [] [])) [.tmp 23], none⟩,
  ⟨some 5, .mov (.tmp 24), none⟩]
def S9.r7 : List AOpr := [
  ⟨some 26, .mov (.tmp 3), none⟩,
  ⟨some 27, .call (.const (.func (.func 26) [] [])) [.const (.int .i64 1), .const (.int .i64 1), .const (.int .i64 1), .const (.int .i64 1), .const (.int .i64 0)], none⟩,
  ⟨some 28, .call (.const (.func (.func 26) [] [])) [.const (.int .i64 2), .const (.int .i64 2), .const (.int .i64 1), .const (.int .i64 1), .const (.int .i64 0)], none⟩,
  ⟨some 29, .buildSl 22 2 [.int .i64 0, .int .i64 0, .int .i64 0, .int .i64 0, .int .i64 0, .int .i64 0, .bool false, .int .i64 0, .int .i64 0, .int .i64 0, .int .i64 0, .str [], .int .i64 0, .int .i64 0, .int .i64 0, .int .i64 0, .int .i64 0, .int .i64 0, .int .i64 0, .int .i64 0, .int .i64 0, .nilsl, .int .i64 0, .int .i64 0, .int .i64 0, .int .i64 0, .int .i64 0, .int .i64 0, .bool false, .int .i64 0, .int .i64 0, .int .i64 0, .int .i64 0, .str [], .int .i64 0, .int .i64 0, .int .i64 0, .int .i64 0, .int .i64 0, .int .i64 0, .int .i64 0, .int .i64 0, .int .i64 0, .nilsl] [(0, 22, .tmp 27), (22, 22, .tmp 28)], none⟩,
  ⟨some 30, .build [.int .i64 0, .int .i64 0, .nilsl] [(0, 1, .const (.int .i64 0)), (1, 1, .const (.int .i64 1)), (2, 1, .tmp 29)], none⟩,
  ⟨some 31, .buildSl 3 1 [.int .i64 0, .int .i64 0, .nilsl] [(0, 3, .tmp 30)], none⟩,
  ⟨some 32, .call (.const (.func (.func 28) [] [])) [.tmp 26, .tmp 31], none⟩,
  ⟨some 25, .mov (.tmp 32), none⟩,
  ⟨some 33, .ext (.tmp 25) 0, none⟩,
  ⟨some 34, .ext (.tmp 25) 1, none⟩,
  ⟨some 6, .mov (.tmp 33), none⟩,
  ⟨some 7, .mov (.tmp 34), none⟩]
def S9.r8 : List (AOpr × Option Nat) := [
  (⟨some 35, .mov (.tmp 5), none⟩, none),
  (⟨some 36, .arith .eql (.tmp 35) (.const (.int .i64 0)), none⟩, none),
  (⟨some 37, .mov (.tmp 3), none⟩, none),
  (⟨some 38, .len (.tmp 37), none⟩, none),
  (⟨some 39, .arith .leq (.tmp 38) (.const (.int .i64 20000)), none⟩, none),
  (⟨some 40, .eqs true (.tmp 36) (.tmp 39), none⟩, none),
  (⟨some 41, .mov (.tmp 40), none⟩, none),
  (⟨some 42, .mov (.tmp 5), some (41, false)⟩, some 41),
  (⟨some 43, .arith .neq (.tmp 42) (.const (.int .i64 0)), some (41, false)⟩, none),
  (⟨some 44, .mov (.tmp 43), some (41, false)⟩, none),
  (⟨some 45, .mov (.tmp 5), some (44, true)⟩, some 44),
  (⟨some 46, .arith .neq (.tmp 45) (.const (.int .i64 2)), some (44, true)⟩, none),
  (⟨some 47, .pick (.tmp 44) (.tmp 46) (.const (.bool false)), some (41, false)⟩, none),
  (⟨some 48, .pick (.tmp 41) (.const (.bool true)) (.tmp 47), none⟩, none)]
def S9.r9 : List AOpr := [
  ⟨some 2, .mov (.const (.bool false)), none⟩]
def S9.r10 : List AOpr := [
  ⟨some 49, .mov (.tmp 3), none⟩,
  ⟨some 50, .len (.tmp 49), none⟩,
  ⟨some 51, .arith .geq (.tmp 50) (.const (.int .i64 20000)), none⟩]
def S9.r11 : List (AOpr × Option Nat) := [
  (⟨some 52, .mov (.tmp 7), none⟩, none),
  (⟨some 53, .arith .eql (.tmp 52) (.const (.int .i64 2)), none⟩, none),
  (⟨some 54, .mov (.tmp 53), none⟩, none),
  (⟨some 55, .mov (.tmp 6), some (54, true)⟩, some 54),
  (⟨some 56, .len (.tmp 55), some (54, true)⟩, none),
  (⟨some 57, .arith .eql (.tmp 56) (.const (.int .i64 0)), some (54, true)⟩, none),
  (⟨some 58, .pick (.tmp 54) (.tmp 57) (.const (.bool false)), none⟩, none),
  (⟨some 59, .mov (.tmp 58), none⟩, none),
  (⟨some 60, .call (.const (.func (.func 17) [] [])) [], some (59, true)⟩, some 59),
  (⟨some 61, .pick (.tmp 59) (.tmp 60) (.const (.bool false)), none⟩, none),
  (⟨some 2, .mov (.tmp 61), none⟩, none)]
def S9.r12 : List (AOpr × Option Nat) := [
  (⟨some 62, .mov (.tmp 7), none⟩, none),
  (⟨some 63, .arith .eql (.tmp 62) (.const (.int .i64 0)), none⟩, none),
  (⟨some 64, .mov (.tmp 63), none⟩, none),
  (⟨some 65, .mov (.tmp 6), some (64, true)⟩, some 64),
  (⟨some 66, .len (.tmp 65), some (64, true)⟩, none),
  (⟨some 67, .mov (.tmp 3), some (64, true)⟩, none),
  (⟨some 68, .len (.tmp 67), some (64, true)⟩, none),
  (⟨some 69, .arith .add (.tmp 68) (.const (.int .i64 1)), some (64, true)⟩, none),
  (⟨some 70, .arith .eql (.tmp 66) (.tmp 69), some (64, true)⟩, none),
  (⟨some 71, .pick (.tmp 64) (.tmp 70) (.const (.bool false)), none⟩, none),
  (⟨some 72, .mov (.tmp 71), none⟩, none),
  (⟨some 73, .call (.const (.func (.func 17) [] [])) [], some (72, true)⟩, some 72),
  (⟨some 74, .pick (.tmp 72) (.tmp 73) (.const (.bool false)), none⟩, none),
  (⟨some 2, .mov (.tmp 74), none⟩, none)]
def S9 : SFn := ⟨75, [.tmp 2], .seq (.reg S9.r0) (.seq (.reg S9.r1) (.seq (.seq (.reg S9.r2) (.block 0 (.loop [3, 4] [3] (.seq (.seq (.reg S9.r3) (.cond (.tmp 15) (.skip) (.exit 0))) (.seq (.block 1 (.reg S9.r4)) (.reg S9.r5)))))) (.seq (.reg S9.r6) (.seq (.reg S9.r7) (.seq (.seq (.joinN [3, 6, 7, 48] (.regS S9.r8)) (.cond (.tmp 48) (.seq (.reg S9.r9) (.ret)) (.skip))) (.seq (.seq (.reg S9.r10) (.cond (.tmp 51) (.seq (.joinN [2] (.regS S9.r11)) (.ret)) (.skip))) (.seq (.regS S9.r12) (.ret))))))))⟩
theorem S9_ok : cFn Try.prog Try.f9 = some S9.erase := by kernel_rfl
def g9_l1 (cl : CL) (v3 v4 : AV) (h : AH) (k : AX → List AV → List AV → AH → Prop) : Prop :=
  wk (kLen h v3) fun v14 h =>
  wk (kArith h .lss v4 v14) fun v15 h =>
  wif v15 (
  wcall cl (.func (.func 26) [] []) [(.int .i64 0), (.int .i64 0), (.int .i64 1), (.int .i64 1), v4] h fun v21 h =>
  wk (kIdxA h 22 v3 v4) fun v22 h =>
  wk (kSt h 22 v22 v21) fun _ h =>
  wk (kArith h .add v4 (.int .i64 1)) fun v17 h =>
  k .nrm [v3, v17] [v3] h) (
  k (.exit 0) [v3, v4] [v3] h)
def g9_s1 (cl : CL) (v3 v6 v7 v41 v44 v45 : AV) (h : AH) (k : List AV → AH → Prop) : Prop :=
  wg (gdv true v44) (fun k => wk (kArith h .neq v45 (.int .i64 2)) k) h fun v46 h =>
  wg (gdv false v41) (fun k => wk (kPick h v44 v46 (.bool false)) k) h fun v47 h =>
  wk (kPick h v41 (.bool true) v47) fun v48 h =>
  k [v3, v6, v7, v48] h
def g9_a2 (cl : CL) (v3 v5 v6 v7 : AV) (h : AH) (k : List AV → AH → Prop) : Prop :=
  wk (kArith h .eql v5 (.int .i64 0)) fun v36 h =>
  wk (kLen h v3) fun v38 h =>
  wk (kArith h .leq v38 (.int .i64 20000)) fun v39 h =>
  wk (kEqs h true v36 v39) fun v40 h =>
  wsp v40 fun v41 =>
  wg (gdv false v41) (fun k => k v5 h) h fun v42 h =>
  wg (gdv false v41) (fun k => wk (kArith h .neq v42 (.int .i64 0)) k) h fun v43 h =>
  wg (gdv false v41) (fun k => k v43 h) h fun v44 h =>
  wsp v44 fun v44 =>
  wg (gdv true v44) (fun k => k v5 h) h fun v45 h =>
  g9_s1 cl (v3) (v6) (v7) (v41) (v44) (v45) h k
def g9_a3 (cl : CL) (v6 v7 : AV) (h : AH) (k : List AV → AH → Prop) : Prop :=
  wk (kArith h .eql v7 (.int .i64 2)) fun v53 h =>
  wsp v53 fun v54 =>
  wg (gdv true v54) (fun k => k v6 h) h fun v55 h =>
  wg (gdv true v54) (fun k => wk (kLen h v55) k) h fun v56 h =>
  wg (gdv true v54) (fun k => wk (kArith h .eql v56 (.int .i64 0)) k) h fun v57 h =>
  wk (kPick h v54 v57 (.bool false)) fun v58 h =>
  wsp v58 fun v59 =>
  wg (gdv true v59) (fun k => wcall cl (.func (.func 17) [] []) [] h k) h fun v60 h =>
  wk (kPick h v59 v60 (.bool false)) fun v61 h =>
  k [v61] h
def g9_j4 (cl : CL) (v2 : AV) (h : AH) (Q : AV → AH → Prop) : Prop :=
  Q (v2) h
def g9_s2 (cl : CL) (v64 v66 v69 : AV) (h : AH) (Q : AV → AH → Prop) : Prop :=
  wg (gdv true v64) (fun k => wk (kArith h .eql v66 v69) k) h fun v70 h =>
  wk (kPick h v64 v70 (.bool false)) fun v71 h =>
  wsp v71 fun v72 =>
  wg (gdv true v72) (fun k => wcall cl (.func (.func 17) [] []) [] h k) h fun v73 h =>
  wk (kPick h v72 v73 (.bool false)) fun v74 h =>
  Q (v74) h
def g9_j5 (cl : CL) (v3 v6 v7 v48 : AV) (h : AH) (Q : AV → AH → Prop) : Prop :=
  wif v48 (
  Q ((.bool false)) h) (
  wk (kLen h v3) fun v50 h =>
  wk (kArith h .geq v50 (.int .i64 20000)) fun v51 h =>
  wif v51 (
  wjoinN (g9_a3 cl (v6) (v7) h) fun vs h => g9_j4 cl (nthD vs 0) h Q) (
  wk (kArith h .eql v7 (.int .i64 0)) fun v63 h =>
  wsp v63 fun v64 =>
  wg (gdv true v64) (fun k => k v6 h) h fun v65 h =>
  wg (gdv true v64) (fun k => wk (kLen h v65) k) h fun v66 h =>
  wg (gdv true v64) (fun k => k v3 h) h fun v67 h =>
  wg (gdv true v64) (fun k => wk (kLen h v67) k) h fun v68 h =>
  wg (gdv true v64) (fun k => wk (kArith h .add v68 (.int .i64 1)) k) h fun v69 h =>
  g9_s2 cl (v64) (v66) (v69) h Q))
def g9_s3 (cl : CL) (v3 v5 v32 : AV) (h : AH) (Q : AV → AH → Prop) : Prop :=
  wk (kExt h v32 0) fun v33 h =>
  wk (kExt h v32 1) fun v34 h =>
  wjoinN (g9_a2 cl (v3) (v5) (v33) (v34) h) fun vs h => g9_j5 cl (nthD vs 0) (nthD vs 1) (nthD vs 2) (nthD vs 3) h Q
def g9_s4 (cl : CL) (v3 v5 v26 v27 v28 : AV) (h : AH) (Q : AV → AH → Prop) : Prop :=
  wk (kBuildSl h 22 2 [.int .i64 0, .int .i64 0, .int .i64 0, .int .i64 0, .int .i64 0, .int .i64 0, .bool false, .int .i64 0, .int .i64 0, .int .i64 0, .int .i64 0, .str [], .int .i64 0, .int .i64 0, .int .i64 0, .int .i64 0, .int .i64 0, .int .i64 0, .int .i64 0, .int .i64 0, .int .i64 0, .nilsl, .int .i64 0, .int .i64 0, .int .i64 0, .int .i64 0, .int .i64 0, .int .i64 0, .bool false, .int .i64 0, .int .i64 0, .int .i64 0, .int .i64 0, .str [], .int .i64 0, .int .i64 0, .int .i64 0, .int .i64 0, .int .i64 0, .int .i64 0, .int .i64 0, .int .i64 0, .int .i64 0, .nilsl] [(0, 22, v27), (22, 22, v28)]) fun v29 h =>
  wk (kBuild h [.int .i64 0, .int .i64 0, .nilsl] [(0, 1, (.int .i64 0)), (1, 1, (.int .i64 1)), (2, 1, v29)]) fun v30 h =>
  wk (kBuildSl h 3 1 [.int .i64 0, .int .i64 0, .nilsl] [(0, 3, v30)]) fun v31 h =>
  wcall cl (.func (.func 28) [] []) [v26, v31] h fun v32 h =>
  g9_s3 cl (v3) (v5) (v32) h Q
def g9_s5 (cl : CL) (v3 v5 v26 v27 : AV) (h : AH) (Q : AV → AH → Prop) : Prop :=
  wcall cl (.func (.func 26) [] []) [(.int .i64 2), (.int .i64 2), (.int .i64 1), (.int .i64 1), (.int .i64 0)] h fun v28 h =>
  g9_s4 cl (v3) (v5) (v26) (v27) (v28) h Q
def g9_c6 (cl : CL) (v3 : AV) (h : AH) (Q : AV → AH → Prop) : Prop :=
  wcall cl (.func (.func 13) [] []) [v3] h fun v24 h =>
  wcall cl (.func (.func 26) [] []) [(.int .i64 1), (.int .i64 1), (.int .i64 1), (.int .i64 1), (.int .i64 0)] h fun v27 h =>
  g9_s5 cl (v3) (v24) (v3) (v27) h Q
def g9_j7 (cl : CL) (x : AX) (v3 : AV) (h : AH) (Q : AV → AH → Prop) : Prop :=
  xs x (g9_c6 cl (v3) h Q) (fun j => cond (Nat.beq j 0) (g9_c6 cl (v3) h Q) (False)) (Q (.undef) h)
def g9 (cl : CL) (v0 : AV) (h : AH) (Q : AV → AH → Prop) : Prop :=
  wk (kArith h .and v0 (.int .i64 3)) fun v9 h =>
  wk (kArith h .add (.int .i64 19999) v9) fun v10 h =>
  wk (kMksl h 22 200 [.int .i64 0, .int .i64 0, .int .i64 0, .int .i64 0, .int .i64 0, .int .i64 0, .bool false, .int .i64 0, .int .i64 0, .int .i64 0, .int .i64 0, .str [], .int .i64 0, .int .i64 0, .int .i64 0, .int .i64 0, .int .i64 0, .int .i64 0, .int .i64 0, .int .i64 0, .int .i64 0, .nilsl] v10 v10) fun v11 h =>
  wloop (fun vs h k => g9_l1 cl (nthD vs 0) (nthD vs 1) h k) [v11, (.int .i64 0)] h fun x vs h => g9_j7 cl x (nthD vs 0) h Q
theorem g9_eq (cl : CL) (v0 : AV) (h : AH) (Q : AV → AH → Prop) : wrun cl S9 [v0] h Q = g9 cl v0 h Q := by kernel_rfl
theorem C9 {cl : CL} (hcl : CLOk Try.prog cl) {v0 : AV} {h : AH} {Q : AV → AH → Prop} (hg : g9 cl v0 h Q) : CallsA Try.prog 9 [v0] h Q := wfn_ok hcl (f := 9) (fn := Try.f9) (by kernel_rfl) S9_ok (by decide) (by kernel_rfl) (its_nil (by kernel_rfl)) (by rw [g9_eq]; exact hg)

/- widgetry/display.Equal -/
def S11.r0 : List AOpr := [
  ⟨some 2, .box (.tmp 0), none⟩,
  ⟨some 3, .box (.tmp 1), none⟩,
  ⟨some 4, .mov (.const (.bool false)), none⟩]
def S11.r1 : List (AOpr × Nat) := [
  (⟨some 7, .fldA 12 (.tmp 2), none⟩, 0),
  (⟨some 8, .ldn 10 (.tmp 7), none⟩, 1),
  (⟨some 9, .fldA 12 (.tmp 3), none⟩, 0),
  (⟨some 10, .ldn 10 (.tmp 9), none⟩, 4),
  (⟨some 5, .new [.int .i64 0, .int .i64 0, .int .i64 0, .int .i64 0, .int .i64 0, .int .i64 0, .int .i64 0, .int .i64 0, .int .i64 0, .nilsl], none⟩, 0),
  (⟨some 6, .new [.int .i64 0, .int .i64 0, .int .i64 0, .int .i64 0, .int .i64 0, .int .i64 0, .int .i64 0, .int .i64 0, .int .i64 0, .nilsl], none⟩, 0),
  (⟨none, .st 10 (.tmp 5) (.tmp 8), none⟩, 51),
  (⟨none, .st 10 (.tmp 6) (.tmp 10), none⟩, 127)]
def S11.r2 : List (AOpr × Option Nat) := [
  (⟨some 11, .fldA 0 (.tmp 2), none⟩, none),
  (⟨some 12, .ld1 (.tmp 11), none⟩, none),
  (⟨some 13, .fldA 0 (.tmp 3), none⟩, none),
  (⟨some 14, .ld1 (.tmp 13), none⟩, none),
  (⟨some 15, .arith .eql (.tmp 12) (.tmp 14), none⟩, none),
  (⟨some 16, .mov (.tmp 15), none⟩, none),
  (⟨some 17, .fldA 1 (.tmp 2), some (16, true)⟩, some 16),
  (⟨some 18, .ldn 4 (.tmp 17), some (16, true)⟩, none),
  (⟨some 19, .fldA 1 (.tmp 3), some (16, true)⟩, none),
  (⟨some 20, .ldn 4 (.tmp 19), some (16, true)⟩, none),
  (⟨some 21, .eqf false [.int .i64, .int .i64, .int .i64, .int .i64] (.tmp 18) (.tmp 20), some (16, true)⟩, none),
  (⟨some 22, .pick (.tmp 16) (.tmp 21) (.const (.bool false)), none⟩, none),
  (⟨some 23, .mov (.tmp 22), none⟩, none),
  (⟨some 24, .fldA 5 (.tmp 2), some (23, true)⟩, some 23),
  (⟨some 25, .ldn 5 (.tmp 24), some (23, true)⟩, none),
  (⟨some 26, .fldA 5 (.tmp 3), some (23, true)⟩, none),
  (⟨some 27, .ldn 5 (.tmp 26), some (23, true)⟩, none),
  (⟨some 28, .eqf false [.int .i64, .bool, .int .i64, .int .i64, .int .i64] (.tmp 25) (.tmp 27), some (23, true)⟩, none),
  (⟨some 29, .pick (.tmp 23) (.tmp 28) (.const (.bool false)), none⟩, none),
  (⟨some 30, .mov (.tmp 29), none⟩, none),
  (⟨some 31, .fldA 10 (.tmp 2), some (30, true)⟩, some 30),
  (⟨some 32, .ld1 (.tmp 31), some (30, true)⟩, none),
  (⟨some 33, .fldA 10 (.tmp 3), some (30, true)⟩, none),
  (⟨some 34, .ld1 (.tmp 33), some (30, true)⟩, none),
  (⟨some 35, .arith .eql (.tmp 32) (.tmp 34), some (30, true)⟩, none),
  (⟨some 36, .pick (.tmp 30) (.tmp 35) (.const (.bool false)), none⟩, none),
  (⟨some 37, .mov (.tmp 36), none⟩, none),
  (⟨some 38, .fldA 11 (.tmp 2), some (37, true)⟩, some 37),
  (⟨some 39, .ld1 (.tmp 38), some (37, true)⟩, none),
  (⟨some 40, .fldA 11 (.tmp 3), some (37, true)⟩, none),
  (⟨some 41, .ld1 (.tmp 40), some (37, true)⟩, none),
  (⟨some 42, .arith .eql (.tmp 39) (.tmp 41), some (37, true)⟩, none),
  (⟨some 43, .pick (.tmp 37) (.tmp 42) (.const (.bool false)), none⟩, none),
  (⟨some 44, .mov (.tmp 43), none⟩, none),
  (⟨some 45, .fldA 0 (.tmp 5), some (44, true)⟩, some 44),
  (⟨some 46, .ld1 (.tmp 45), some (44, true)⟩, none),
  (⟨some 47, .fldA 0 (.tmp 6), some (44, true)⟩, none),
  (⟨some 48, .ld1 (.tmp 47), some (44, true)⟩, none),
  (⟨some 49, .arith .eql (.tmp 46) (.tmp 48), some (44, true)⟩, none),
  (⟨some 50, .pick (.tmp 44) (.tmp 49) (.const (.bool false)), none⟩, none),
  (⟨some 51, .mov (.tmp 50), none⟩, none),
  (⟨some 52, .fldA 1 (.tmp 5), some (51, true)⟩, some 51),
  (⟨some 53, .ld1 (.tmp 52), some (51, true)⟩, none),
  (⟨some 54, .fldA 1 (.tmp 6), some (51, true)⟩, none),
  (⟨some 55, .ld1 (.tmp 54), some (51, true)⟩, none),
  (⟨some 56, .arith .eql (.tmp 53) (.tmp 55), some (51, true)⟩, none),
  (⟨some 57, .pick (.tmp 51) (.tmp 56) (.const (.bool false)), none⟩, none),
  (⟨some 58, .mov (.tmp 57), none⟩, none),
  (⟨some 59, .fldA 2 (.tmp 5), some (58, true)⟩, some 58),
  (⟨some 60, .ld1 (.tmp 59), some (58, true)⟩, none),
  (⟨some 61, .fldA 2 (.tmp 6), some (58, true)⟩, none),
  (⟨some 62, .ld1 (.tmp 61), some (58, true)⟩, none),
  (⟨some 63, .arith .eql (.tmp 60) (.tmp 62), some (58, true)⟩, none),
  (⟨some 64, .pick (.tmp 58) (.tmp 63) (.const (.bool false)), none⟩, none),
  (⟨some 65, .mov (.tmp 64), none⟩, none),
  (⟨some 66, .fldA 3 (.tmp 5), some (65, true)⟩, some 65),
  (⟨some 67, .ld1 (.tmp 66), some (65, true)⟩, none),
  (⟨some 68, .fldA 3 (.tmp 6), some (65, true)⟩, none),
  (⟨some 69, .ld1 (.tmp 68), some (65, true)⟩, none),
  (⟨some 70, .arith .eql (.tmp 67) (.tmp 69), some (65, true)⟩, none),
  (⟨some 71, .pick (.tmp 65) (.tmp 70) (.const (.bool false)), none⟩, none),
  (⟨some 72, .mov (.tmp 71), none⟩, none),
  (⟨some 73, .fldA 4 (.tmp 5), some (72, true)⟩, some 72),
  (⟨some 74, .ld1 (.tmp 73), some (72, true)⟩, none),
  (⟨some 75, .fldA 4 (.tmp 6), some (72, true)⟩, none),
  (⟨some 76, .ld1 (.tmp 75), some (72, true)⟩, none),
  (⟨some 77, .arith .eql (.tmp 74) (.tmp 76), some (72, true)⟩, none),
  (⟨some 78, .pick (.tmp 72) (.tmp 77) (.const (.bool false)), none⟩, none),
  (⟨some 79, .mov (.tmp 78), none⟩, none),
  (⟨some 80, .fldA 5 (.tmp 5), some (79, true)⟩, some 79),
  (⟨some 81, .ld1 (.tmp 80), some (79, true)⟩, none),
  (⟨some 82, .fldA 5 (.tmp 6), some (79, true)⟩, none),
  (⟨some 83, .ld1 (.tmp 82), some (79, true)⟩, none),
  (⟨some 84, .arith .eql (.tmp 81) (.tmp 83), some (79, true)⟩, none),
  (⟨some 85, .pick (.tmp 79) (.tmp 84) (.const (.bool false)), none⟩, none),
  (⟨some 86, .mov (.tmp 85), none⟩, none),
  (⟨some 87, .fldA 6 (.tmp 5), some (86, true)⟩, some 86),
  (⟨some 88, .ld1 (.tmp 87), some (86, true)⟩, none),
  (⟨some 89, .fldA 6 (.tmp 6), some (86, true)⟩, none),
  (⟨some 90, .ld1 (.tmp 89), some (86, true)⟩, none),
  (⟨some 91, .arith .eql (.tmp 88) (.tmp 90), some (86, true)⟩, none),
  (⟨some 92, .pick (.tmp 86) (.tmp 91) (.const (.bool false)), none⟩, none),
  (⟨some 93, .mov (.tmp 92), none⟩, none),
  (⟨some 94, .fldA 7 (.tmp 5), some (93, true)⟩, some 93),
  (⟨some 95, .ld1 (.tmp 94), some (93, true)⟩, none),
  (⟨some 96, .fldA 7 (.tmp 6), some (93, true)⟩, none),
  (⟨some 97, .ld1 (.tmp 96), some (93, true)⟩, none),
  (⟨some 98, .arith .eql (.tmp 95) (.tmp 97), some (93, true)⟩, none),
  (⟨some 99, .pick (.tmp 93) (.tmp 98) (.const (.bool false)), none⟩, none),
  (⟨some 100, .mov (.tmp 99), none⟩, none),
  (⟨some 101, .fldA 8 (.tmp 5), some (100, true)⟩, some 100),
  (⟨some 102, .ld1 (.tmp 101), some (100, true)⟩, none),
  (⟨some 103, .fldA 8 (.tmp 6), some (100, true)⟩, none),
  (⟨some 104, .ld1 (.tmp 103), some (100, true)⟩, none),
  (⟨some 105, .arith .eql (.tmp 102) (.tmp 104), some (100, true)⟩, none),
  (⟨some 106, .pick (.tmp 100) (.tmp 105) (.const (.bool false)), none⟩, none),
  (⟨some 107, .mov (.tmp 106), none⟩, none),
  (⟨some 108, .fldA 9 (.tmp 5), some (107, true)⟩, some 107),
  (⟨some 109, .ld1 (.tmp 108), some (107, true)⟩, none),
  (⟨some 110, .fldA 9 (.tmp 6), some (107, true)⟩, none),
  (⟨some 111, .ld1 (.tmp 110), some (107, true)⟩, none),
  (⟨some 112, .call (.const (.func (.func 33) [] [])) [.tmp 109, .tmp 111], some (107, true)⟩, none),
  (⟨some 113, .pick (.tmp 107) (.tmp 112) (.const (.bool false)), none⟩, none),
  (⟨some 4, .mov (.tmp 113), none⟩, none)]
def S11 : SFn := ⟨114, [.tmp 4], .seq (.reg S11.r0) (.seq (.draw S11.r1) (.seq (.regS S11.r2) (.ret)))⟩
theorem S11_ok : cFn Try.prog Try.f11 = some S11.erase := by kernel_rfl
def g11_s1 (cl : CL) (v107 v109 v110 : AV) (h : AH) (Q : AV → AH → Prop) : Prop :=
  wg (gdv true v107) (fun k => wk (kLd1 h v110) k) h fun v111 h =>
  wg (gdv true v107) (fun k => wcall cl (.func (.func 33) [] []) [v109, v111] h k) h fun v112 h =>
  wk (kPick h v107 v112 (.bool false)) fun v113 h =>
  Q (v113) h
def g11_s2 (cl : CL) (v5 v6 v100 v101 : AV) (h : AH) (Q : AV → AH → Prop) : Prop :=
  wg (gdv true v100) (fun k => wk (kLd1 h v101) k) h fun v102 h =>
  wg (gdv true v100) (fun k => wk (kFldA h 8 v6) k) h fun v103 h =>
  wg (gdv true v100) (fun k => wk (kLd1 h v103) k) h fun v104 h =>
  wg (gdv true v100) (fun k => wk (kArith h .eql v102 v104) k) h fun v105 h =>
  wk (kPick h v100 v105 (.bool false)) fun v106 h =>
  wsp v106 fun v107 =>
  wg (gdv true v107) (fun k => wk (kFldA h 9 v5) k) h fun v108 h =>
  wg (gdv true v107) (fun k => wk (kLd1 h v108) k) h fun v109 h =>
  wg (gdv true v107) (fun k => wk (kFldA h 9 v6) k) h fun v110 h =>
  g11_s1 cl (v107) (v109) (v110) h Q
def g11_s3 (cl : CL) (v5 v6 v86 v91 : AV) (h : AH) (Q : AV → AH → Prop) : Prop :=
  wk (kPick h v86 v91 (.bool false)) fun v92 h =>
  wsp v92 fun v93 =>
  wg (gdv true v93) (fun k => wk (kFldA h 7 v5) k) h fun v94 h =>
  wg (gdv true v93) (fun k => wk (kLd1 h v94) k) h fun v95 h =>
  wg (gdv true v93) (fun k => wk (kFldA h 7 v6) k) h fun v96 h =>
  wg (gdv true v93) (fun k => wk (kLd1 h v96) k) h fun v97 h =>
  wg (gdv true v93) (fun k => wk (kArith h .eql v95 v97) k) h fun v98 h =>
  wk (kPick h v93 v98 (.bool false)) fun v99 h =>
  wsp v99 fun v100 =>
  wg (gdv true v100) (fun k => wk (kFldA h 8 v5) k) h fun v101 h =>
  g11_s2 cl (v5) (v6) (v100) (v101) h Q
def g11_s4 (cl : CL) (v5 v6 v79 v81 v82 : AV) (h : AH) (Q : AV → AH → Prop) : Prop :=
  wg (gdv true v79) (fun k => wk (kLd1 h v82) k) h fun v83 h =>
  wg (gdv true v79) (fun k => wk (kArith h .eql v81 v83) k) h fun v84 h =>
  wk (kPick h v79 v84 (.bool false)) fun v85 h =>
  wsp v85 fun v86 =>
  wg (gdv true v86) (fun k => wk (kFldA h 6 v5) k) h fun v87 h =>
  wg (gdv true v86) (fun k => wk (kLd1 h v87) k) h fun v88 h =>
  wg (gdv true v86) (fun k => wk (kFldA h 6 v6) k) h fun v89 h =>
  wg (gdv true v86) (fun k => wk (kLd1 h v89) k) h fun v90 h =>
  wg (gdv true v86) (fun k => wk (kArith h .eql v88 v90) k) h fun v91 h =>
  g11_s3 cl (v5) (v6) (v86) (v91) h Q
def g11_s5 (cl : CL) (v5 v6 v72 v73 : AV) (h : AH) (Q : AV → AH → Prop) : Prop :=
  wg (gdv true v72) (fun k => wk (kLd1 h v73) k) h fun v74 h =>
  wg (gdv true v72) (fun k => wk (kFldA h 4 v6) k) h fun v75 h =>
  wg (gdv true v72) (fun k => wk (kLd1 h v75) k) h fun v76 h =>
  wg (gdv true v72) (fun k => wk (kArith h .eql v74 v76) k) h fun v77 h =>
  wk (kPick h v72 v77 (.bool false)) fun v78 h =>
  wsp v78 fun v79 =>
  wg (gdv true v79) (fun k => wk (kFldA h 5 v5) k) h fun v80 h =>
  wg (gdv true v79) (fun k => wk (kLd1 h v80) k) h fun v81 h =>
  wg (gdv true v79) (fun k => wk (kFldA h 5 v6) k) h fun v82 h =>
  g11_s4 cl (v5) (v6) (v79) (v81) (v82) h Q
def g11_s6 (cl : CL) (v5 v6 v58 v63 : AV) (h : AH) (Q : AV → AH → Prop) : Prop :=
  wk (kPick h v58 v63 (.bool false)) fun v64 h =>
  wsp v64 fun v65 =>
  wg (gdv true v65) (fun k => wk (kFldA h 3 v5) k) h fun v66 h =>
  wg (gdv true v65) (fun k => wk (kLd1 h v66) k) h fun v67 h =>
  wg (gdv true v65) (fun k => wk (kFldA h 3 v6) k) h fun v68 h =>
  wg (gdv true v65) (fun k => wk (kLd1 h v68) k) h fun v69 h =>
  wg (gdv true v65) (fun k => wk (kArith h .eql v67 v69) k) h fun v70 h =>
  wk (kPick h v65 v70 (.bool false)) fun v71 h =>
  wsp v71 fun v72 =>
  wg (gdv true v72) (fun k => wk (kFldA h 4 v5) k) h fun v73 h =>
  g11_s5 cl (v5) (v6) (v72) (v73) h Q
def g11_s7 (cl : CL) (v5 v6 v51 v53 v54 : AV) (h : AH) (Q : AV → AH → Prop) : Prop :=
  wg (gdv true v51) (fun k => wk (kLd1 h v54) k) h fun v55 h =>
  wg (gdv true v51) (fun k => wk (kArith h .eql v53 v55) k) h fun v56 h =>
  wk (kPick h v51 v56 (.bool false)) fun v57 h =>
  wsp v57 fun v58 =>
  wg (gdv true v58) (fun k => wk (kFldA h 2 v5) k) h fun v59 h =>
  wg (gdv true v58) (fun k => wk (kLd1 h v59) k) h fun v60 h =>
  wg (gdv true v58) (fun k => wk (kFldA h 2 v6) k) h fun v61 h =>
  wg (gdv true v58) (fun k => wk (kLd1 h v61) k) h fun v62 h =>
  wg (gdv true v58) (fun k => wk (kArith h .eql v60 v62) k) h fun v63 h =>
  g11_s6 cl (v5) (v6) (v58) (v63) h Q
def g11_s8 (cl : CL) (v5 v6 v44 v45 : AV) (h : AH) (Q : AV → AH → Prop) : Prop :=
  wg (gdv true v44) (fun k => wk (kLd1 h v45) k) h fun v46 h =>
  wg (gdv true v44) (fun k => wk (kFldA h 0 v6) k) h fun v47 h =>
  wg (gdv true v44) (fun k => wk (kLd1 h v47) k) h fun v48 h =>
  wg (gdv true v44) (fun k => wk (kArith h .eql v46 v48) k) h fun v49 h =>
  wk (kPick h v44 v49 (.bool false)) fun v50 h =>
  wsp v50 fun v51 =>
  wg (gdv true v51) (fun k => wk (kFldA h 1 v5) k) h fun v52 h =>
  wg (gdv true v51) (fun k => wk (kLd1 h v52) k) h fun v53 h =>
  wg (gdv true v51) (fun k => wk (kFldA h 1 v6) k) h fun v54 h =>
  g11_s7 cl (v5) (v6) (v51) (v53) (v54) h Q
def g11_s9 (cl : CL) (v2 v3 v5 v6 v30 v35 : AV) (h : AH) (Q : AV → AH → Prop) : Prop :=
  wk (kPick h v30 v35 (.bool false)) fun v36 h =>
  wsp v36 fun v37 =>
  wg (gdv true v37) (fun k => wk (kFldA h 11 v2) k) h fun v38 h =>
  wg (gdv true v37) (fun k => wk (kLd1 h v38) k) h fun v39 h =>
  wg (gdv true v37) (fun k => wk (kFldA h 11 v3) k) h fun v40 h =>
  wg (gdv true v37) (fun k => wk (kLd1 h v40) k) h fun v41 h =>
  wg (gdv true v37) (fun k => wk (kArith h .eql v39 v41) k) h fun v42 h =>
  wk (kPick h v37 v42 (.bool false)) fun v43 h =>
  wsp v43 fun v44 =>
  wg (gdv true v44) (fun k => wk (kFldA h 0 v5) k) h fun v45 h =>
  g11_s8 cl (v5) (v6) (v44) (v45) h Q
def g11_s10 (cl : CL) (v2 v3 v5 v6 v23 v25 v26 : AV) (h : AH) (Q : AV → AH → Prop) : Prop :=
  wg (gdv true v23) (fun k => wk (kLdn h 5 v26) k) h fun v27 h =>
  wg (gdv true v23) (fun k => wk (kEqf h false [.int .i64, .bool, .int .i64, .int .i64, .int .i64] v25 v27) k) h fun v28 h =>
  wk (kPick h v23 v28 (.bool false)) fun v29 h =>
  wsp v29 fun v30 =>
  wg (gdv true v30) (fun k => wk (kFldA h 10 v2) k) h fun v31 h =>
  wg (gdv true v30) (fun k => wk (kLd1 h v31) k) h fun v32 h =>
  wg (gdv true v30) (fun k => wk (kFldA h 10 v3) k) h fun v33 h =>
  wg (gdv true v30) (fun k => wk (kLd1 h v33) k) h fun v34 h =>
  wg (gdv true v30) (fun k => wk (kArith h .eql v32 v34) k) h fun v35 h =>
  g11_s9 cl (v2) (v3) (v5) (v6) (v30) (v35) h Q
def g11_s11 (cl : CL) (v2 v3 v5 v6 v16 v17 : AV) (h : AH) (Q : AV → AH → Prop) : Prop :=
  wg (gdv true v16) (fun k => wk (kLdn h 4 v17) k) h fun v18 h =>
  wg (gdv true v16) (fun k => wk (kFldA h 1 v3) k) h fun v19 h =>
  wg (gdv true v16) (fun k => wk (kLdn h 4 v19) k) h fun v20 h =>
  wg (gdv true v16) (fun k => wk (kEqf h false [.int .i64, .int .i64, .int .i64, .int .i64] v18 v20) k) h fun v21 h =>
  wk (kPick h v16 v21 (.bool false)) fun v22 h =>
  wsp v22 fun v23 =>
  wg (gdv true v23) (fun k => wk (kFldA h 5 v2) k) h fun v24 h =>
  wg (gdv true v23) (fun k => wk (kLdn h 5 v24) k) h fun v25 h =>
  wg (gdv true v23) (fun k => wk (kFldA h 5 v3) k) h fun v26 h =>
  g11_s10 cl (v2) (v3) (v5) (v6) (v23) (v25) (v26) h Q
def g11_s12 (cl : CL) (c1 c3 c4 c5 : Rec) (v2 v3 v5 v6 v8 v10 : AV) (h : AH) (Q : AV → AH → Prop) : Prop :=
  wde h (kSt h 10 v5 v8) fun _ c6 h =>
  wde h (kSt h 10 v6 v10) fun _ c7 h =>
  recOk c1 c4 = true ∧ recOk c3 c4 = true ∧ recOk c1 c5 = true ∧ recOk c3 c5 = true ∧ recOk c3 c6 = true ∧ wk (kFldA h 0 v2) fun v11 h =>
  wk (kLd1 h v11) fun v12 h =>
  wk (kFldA h 0 v3) fun v13 h =>
  wk (kLd1 h v13) fun v14 h =>
  wk (kArith h .eql v12 v14) fun v15 h =>
  wsp v15 fun v16 =>
  wg (gdv true v16) (fun k => wk (kFldA h 1 v2) k) h fun v17 h =>
  g11_s11 cl (v2) (v3) (v5) (v6) (v16) (v17) h Q
def g11 (cl : CL) (v0 v1 : AV) (h : AH) (Q : AV → AH → Prop) : Prop :=
  wk (kBox h v0) fun v2 h =>
  wk (kBox h v1) fun v3 h =>
  wdr h 8 fun r h =>
  wdp h (kFldA h 12 v2) .pure fun v7 c0 h =>
  wdp h (kLdn h 10 v7) (rdK (rdv v7)) fun v8 c1 h =>
  wdp h (kFldA h 12 v3) .pure fun v9 c2 h =>
  wdp h (kLdn h 10 v9) (rdK (rdv v9)) fun v10 c3 h =>
  wda (r + 4) h (alNew [.int .i64 0, .int .i64 0, .int .i64 0, .int .i64 0, .int .i64 0, .int .i64 0, .int .i64 0, .int .i64 0, .int .i64 0, .nilsl]) fun v5 c4 h =>
  wda (r + 5) h (alNew [.int .i64 0, .int .i64 0, .int .i64 0, .int .i64 0, .int .i64 0, .int .i64 0, .int .i64 0, .int .i64 0, .int .i64 0, .nilsl]) fun v6 c5 h =>
  g11_s12 cl c1 c3 c4 c5 (v2) (v3) (v5) (v6) (v8) (v10) h Q
theorem g11_eq (cl : CL) (v0 v1 : AV) (h : AH) (Q : AV → AH → Prop) : wrun cl S11 [v0, v1] h Q = g11 cl v0 v1 h Q := by kernel_rfl
theorem C11 {cl : CL} (hcl : CLOk Try.prog cl) {v0 v1 : AV} {h : AH} {Q : AV → AH → Prop} (hg : g11 cl v0 v1 h Q) : CallsA Try.prog 11 [v0, v1] h Q := wfn_ok hcl (f := 11) (fn := Try.f11) (by kernel_rfl) S11_ok (by decide) (by kernel_rfl) (its_nil (by kernel_rfl)) (by rw [g11_eq]; exact hg)

/- widgetry/display.Validate -/
def S13.r0 : List AOpr := [
  ⟨some 2, .mov (.const (.int .i64 0)), none⟩]
def S13.r1 : List AOpr := [
  ⟨some 9, .mov (.tmp 0), none⟩,
  ⟨some 10, .len (.tmp 9), none⟩,
  ⟨some 11, .arith .gtr (.tmp 10) (.const (.int .i64 20000)), none⟩]
def S13.r2 : List AOpr := [
  ⟨some 2, .mov (.const (.int .i64 2)), none⟩]
def S13.r3 : List AOpr := [
  ⟨some 12, .build [.int .i64 0, .bool false, .int .i64 0, .int .i64 0, .int .i64 0] [(2, 1, .const (.int .i64 1))], none⟩,
  ⟨some 13, .build [.int .i64 0, .bool false, .int .i64 0, .int .i64 0, .int .i64 0] [(0, 5, .tmp 12)], none⟩,
  ⟨some 14, .buildSl 5 1 [.int .i64 0, .bool false, .int .i64 0, .int .i64 0, .int .i64 0] [(0, 5, .tmp 13)], none⟩,
  ⟨some 3, .mov (.tmp 14), none⟩]
def S13.r4 : List AOpr := [
  ⟨some 15, .mov (.tmp 0), none⟩,
  ⟨some 16, .len (.tmp 15), none⟩,
  ⟨some 17, .mov (.const (.int .i64 0)), none⟩]
def S13.r5 : List AOpr := [
  ⟨some 18, .arith .lss (.tmp 17) (.tmp 16), none⟩]
def S13.r6 : List AOpr := [
  ⟨some 19, .idxA 22 (.tmp 15) (.tmp 17), none⟩,
  ⟨some 20, .ldn 22 (.tmp 19), none⟩,
  ⟨some 5, .new [.int .i64 0, .int .i64 0, .int .i64 0, .int .i64 0, .int .i64 0, .int .i64 0, .bool false, .int .i64 0, .int .i64 0, .int .i64 0, .int .i64 0, .str [], .int .i64 0, .int .i64 0, .int .i64 0, .int .i64 0, .int .i64 0, .int .i64 0, .int .i64 0, .int .i64 0, .int .i64 0, .nilsl], none⟩,
  ⟨none, .st 22 (.tmp 5) (.tmp 20), none⟩]
def S13.r7 : List AOpr := [
  ⟨some 21, .mov (.tmp 3), none⟩,
  ⟨some 22, .mov (.tmp 3), none⟩,
  ⟨some 23, .len (.tmp 22), none⟩,
  ⟨some 24, .arith .sub (.tmp 23) (.const (.int .i64 1)), none⟩,
  ⟨some 25, .idxA 5 (.tmp 21) (.tmp 24), none⟩,
  ⟨some 26, .fldA 0 (.tmp 25), none⟩,
  ⟨some 27, .ldn 5 (.tmp 26), none⟩,
  ⟨some 6, .new [.int .i64 0, .bool false, .int .i64 0, .int .i64 0, .int .i64 0], none⟩,
  ⟨none, .st 5 (.tmp 6) (.tmp 27), none⟩]
def S13.r8 : List (AOpr × Option Nat) := [
  (⟨some 29, .fldA 0 (.tmp 5), none⟩, none),
  (⟨some 30, .ld1 (.tmp 29), none⟩, none),
  (⟨some 31, .arith .lss (.tmp 30) (.const (.int .i64 1)), none⟩, none),
  (⟨some 32, .mov (.tmp 31), none⟩, none),
  (⟨some 33, .fldA 0 (.tmp 5), some (32, false)⟩, some 32),
  (⟨some 34, .ld1 (.tmp 33), some (32, false)⟩, none),
  (⟨some 35, .arith .gtr (.tmp 34) (.const (.int .i64 6)), some (32, false)⟩, none),
  (⟨some 36, .pick (.tmp 32) (.const (.bool true)) (.tmp 35), none⟩, none),
  (⟨some 28, .mov (.tmp 36), none⟩, none)]
def S13.r9 : List AOpr := [
  ⟨some 2, .mov (.const (.int .i64 9)), none⟩]
def S13.r10 : List (AOpr × Option Nat) := [
  (⟨some 38, .fldA 0 (.tmp 5), none⟩, none),
  (⟨some 39, .ld1 (.tmp 38), none⟩, none),
  (⟨some 40, .call (.const (.func (.func 35) [] [])) [.tmp 39], none⟩, none),
  (⟨some 41, .mov (.tmp 40), none⟩, none),
  (⟨some 42, .fldA 1 (.tmp 5), some (41, true)⟩, some 41),
  (⟨some 43, .ldn 4 (.tmp 42), some (41, true)⟩, none),
  (⟨some 44, .call (.const (.func (.func 36) [] [])) [.tmp 43], some (41, true)⟩, none),
  (⟨some 45, .arith .neq (.tmp 44) (.const (.int .i64 0)), some (41, true)⟩, none),
  (⟨some 46, .pick (.tmp 41) (.tmp 45) (.const (.bool false)), none⟩, none),
  (⟨some 37, .mov (.tmp 46), none⟩, none)]
def S13.r11 : List (AOpr × Option Nat) := [
  (⟨some 47, .fldA 0 (.tmp 5), none⟩, none),
  (⟨some 48, .ld1 (.tmp 47), none⟩, none),
  (⟨some 49, .arith .eql (.tmp 48) (.const (.int .i64 4)), none⟩, none),
  (⟨some 50, .mov (.tmp 49), none⟩, none),
  (⟨some 51, .fldA 0 (.tmp 5), some (50, false)⟩, some 50),
  (⟨some 52, .ld1 (.tmp 51), some (50, false)⟩, none),
  (⟨some 53, .arith .eql (.tmp 52) (.const (.int .i64 5)), some (50, false)⟩, none),
  (⟨some 54, .pick (.tmp 50) (.const (.bool true)) (.tmp 53), none⟩, none),
  (⟨some 55, .mov (.tmp 54), none⟩, none),
  (⟨some 56, .fldA 10 (.tmp 5), some (55, true)⟩, some 55),
  (⟨some 57, .ld1 (.tmp 56), some (55, true)⟩, none),
  (⟨some 58, .call (.const (.func (.func 37) [] [])) [.tmp 57], some (55, true)⟩, none),
  (⟨some 59, .un .not (.tmp 58), some (55, true)⟩, none),
  (⟨some 60, .pick (.tmp 55) (.tmp 59) (.const (.bool false)), none⟩, none),
  (⟨some 37, .mov (.tmp 60), none⟩, none)]
def S13.r12 : List AOpr := [
  ⟨some 2, .mov (.const (.int .i64 1)), none⟩]
def S13.r13 : List (AOpr × Option Nat) := [
  (⟨some 62, .fldA 0 (.tmp 5), none⟩, none),
  (⟨some 63, .ld1 (.tmp 62), none⟩, none),
  (⟨some 64, .arith .eql (.tmp 63) (.const (.int .i64 5)), none⟩, none),
  (⟨some 65, .mov (.tmp 64), none⟩, none),
  (⟨some 66, .fldA 12 (.tmp 5), some (65, true)⟩, some 65),
  (⟨some 67, .ldn 10 (.tmp 66), some (65, true)⟩, none),
  (⟨some 68, .call (.const (.func (.func 38) [] [])) [.tmp 67], some (65, true)⟩, none),
  (⟨some 69, .un .not (.tmp 68), some (65, true)⟩, none),
  (⟨some 70, .pick (.tmp 65) (.tmp 69) (.const (.bool false)), none⟩, none),
  (⟨some 61, .mov (.tmp 70), none⟩, none)]
def S13.r14 : List AOpr := [
  ⟨some 2, .mov (.const (.int .i64 1)), none⟩]
def S13.r15 : List AOpr := [
  ⟨some 72, .fldA 0 (.tmp 5), none⟩,
  ⟨some 73, .ld1 (.tmp 72), none⟩,
  ⟨some 74, .arith .eql (.tmp 73) (.const (.int .i64 1)), none⟩,
  ⟨some 71, .mov (.tmp 74), none⟩]
def S13.r16 : List AOpr := [
  ⟨some 75, .mov (.tmp 3), none⟩,
  ⟨some 76, .ldn 5 (.tmp 6), none⟩,
  ⟨some 77, .build [.int .i64 0, .bool false, .int .i64 0, .int .i64 0, .int .i64 0] [(0, 5, .tmp 76)], none⟩,
  ⟨some 78, .buildSl 5 1 [.int .i64 0, .bool false, .int .i64 0, .int .i64 0, .int .i64 0] [(0, 5, .tmp 77)], none⟩,
  ⟨some 79, .app 5 40 (.tmp 75) (.tmp 78), none⟩,
  ⟨some 3, .mov (.tmp 79), none⟩]
def S13.r17 : List AOpr := [
  ⟨some 81, .fldA 0 (.tmp 5), none⟩,
  ⟨some 82, .ld1 (.tmp 81), none⟩,
  ⟨some 83, .arith .eql (.tmp 82) (.const (.int .i64 2)), none⟩,
  ⟨some 80, .mov (.tmp 83), none⟩]
def S13.r18 : List AOpr := [
  ⟨some 85, .ldn 5 (.tmp 6), none⟩,
  ⟨some 86, .fldA 5 (.tmp 5), none⟩,
  ⟨some 87, .ldn 5 (.tmp 86), none⟩,
  ⟨some 88, .call (.const (.func (.func 39) [] [])) [.tmp 85, .tmp 87], none⟩,
  ⟨some 84, .mov (.tmp 88), none⟩,
  ⟨some 89, .ext (.tmp 84) 0, none⟩,
  ⟨some 90, .ext (.tmp 84) 1, none⟩,
  ⟨some 7, .new [.int .i64 0, .bool false, .int .i64 0, .int .i64 0, .int .i64 0], none⟩,
  ⟨none, .st 5 (.tmp 7) (.tmp 89), none⟩,
  ⟨some 8, .mov (.tmp 90), none⟩]
def S13.r19 : List AOpr := [
  ⟨some 91, .mov (.tmp 8), none⟩,
  ⟨some 92, .arith .neq (.tmp 91) (.const (.int .i64 0)), none⟩]
def S13.r20 : List AOpr := [
  ⟨some 2, .mov (.const (.int .i64 1)), none⟩]
def S13.r21 : List AOpr := [
  ⟨some 93, .mov (.tmp 3), none⟩,
  ⟨some 94, .ldn 5 (.tmp 7), none⟩,
  ⟨some 95, .build [.int .i64 0, .bool false, .int .i64 0, .int .i64 0, .int .i64 0] [(0, 5, .tmp 94)], none⟩,
  ⟨some 96, .buildSl 5 1 [.int .i64 0, .bool false, .int .i64 0, .int .i64 0, .int .i64 0] [(0, 5, .tmp 95)], none⟩,
  ⟨some 97, .app 5 40 (.tmp 93) (.tmp 96), none⟩,
  ⟨some 3, .mov (.tmp 97), none⟩]
def S13.r22 : List AOpr := [
  ⟨some 99, .fldA 0 (.tmp 5), none⟩,
  ⟨some 100, .ld1 (.tmp 99), none⟩,
  ⟨some 101, .arith .eql (.tmp 100) (.const (.int .i64 3)), none⟩,
  ⟨some 98, .mov (.tmp 101), none⟩]
def S13.r23 : List AOpr := [
  ⟨some 102, .mov (.tmp 3), none⟩,
  ⟨some 103, .len (.tmp 102), none⟩,
  ⟨some 104, .arith .eql (.tmp 103) (.const (.int .i64 1)), none⟩]
def S13.r24 : List AOpr := [
  ⟨some 2, .mov (.const (.int .i64 12)), none⟩]
def S13.r25 : List AOpr := [
  ⟨some 105, .mov (.tmp 3), none⟩,
  ⟨some 106, .mov (.tmp 3), none⟩,
  ⟨some 107, .len (.tmp 106), none⟩,
  ⟨some 108, .arith .sub (.tmp 107) (.const (.int .i64 1)), none⟩,
  ⟨some 109, .sl 5 (.tmp 105) none (some (.tmp 108)) none, none⟩,
  ⟨some 3, .mov (.tmp 109), none⟩]
def S13.r26 : List AOpr := [
  ⟨some 110, .arith .add (.tmp 17) (.const (.int .i64 1)), none⟩,
  ⟨some 17, .mov (.tmp 110), none⟩]
def S13.r27 : List AOpr := [
  ⟨some 111, .mov (.tmp 3), none⟩,
  ⟨some 112, .len (.tmp 111), none⟩,
  ⟨some 113, .arith .gtr (.tmp 112) (.const (.int .i64 1)), none⟩]
def S13.r28 : List AOpr := [
  ⟨some 2, .mov (.const (.int .i64 12)), none⟩]
def S13.r29 : List AOpr := [
  ⟨some 2, .mov (.const (.int .i64 0)), none⟩]
def S13 : SFn := ⟨114, [.tmp 2], .seq (.reg S13.r0) (.seq (.seq (.reg S13.r1) (.cond (.tmp 11) (.seq (.reg S13.r2) (.ret)) (.skip))) (.seq (.reg S13.r3) (.seq (.seq (.reg S13.r4) (.block 0 (.loop [3, 15, 16, 17] [2, 3] (.seq (.reg S13.r5) (.seq (.cond (.tmp 18) (.skip) (.exit 0)) (.seq (.join [2, 3, 15, 16, 17] (.block 1 (.seq (.reg S13.r6) (.seq (.reg S13.r7) (.block 2 (.seq (.joinN [3, 5, 6, 15, 16, 17, 28] (.regS S13.r8)) (.cond (.tmp 28) (.seq (.reg S13.r9) (.ret)) (.seq (.seq (.joinN [3, 5, 6, 15, 16, 17, 37] (.regS S13.r10)) (.joinN [3, 5, 6, 15, 16, 17, 37] (.cond (.tmp 37) (.skip) (.regS S13.r11)))) (.cond (.tmp 37) (.seq (.reg S13.r12) (.ret)) (.seq (.joinN [3, 5, 6, 15, 16, 17, 61] (.regS S13.r13)) (.cond (.tmp 61) (.seq (.reg S13.r14) (.ret)) (.seq (.reg S13.r15) (.cond (.tmp 71) (.reg S13.r16) (.seq (.reg S13.r17) (.cond (.tmp 80) (.seq (.reg S13.r18) (.seq (.seq (.reg S13.r19) (.cond (.tmp 92) (.seq (.reg S13.r20) (.ret)) (.skip))) (.reg S13.r21))) (.seq (.reg S13.r22) (.cond (.tmp 98) (.seq (.seq (.reg S13.r23) (.cond (.tmp 104) (.seq (.reg S13.r24) (.ret)) (.skip))) (.reg S13.r25)) (.skip)))))))))))))))))) (.reg S13.r26))))))) (.seq (.seq (.reg S13.r27) (.cond (.tmp 113) (.seq (.reg S13.r28) (.ret)) (.skip))) (.seq (.reg S13.r29) (.ret))))))⟩
theorem S13_ok : cFn Try.prog Try.f13 = some S13.erase := by kernel_rfl
def g13_a1 (cl : CL) (v3 v5 v6 v15 v16 v17 : AV) (h : AH) (k : List AV → AH → Prop) : Prop :=
  wk (kFldA h 0 v5) fun v29 h =>
  wk (kLd1 h v29) fun v30 h =>
  wk (kArith h .lss v30 (.int .i64 1)) fun v31 h =>
  wsp v31 fun v32 =>
  wg (gdv false v32) (fun k => wk (kFldA h 0 v5) k) h fun v33 h =>
  wg (gdv false v32) (fun k => wk (kLd1 h v33) k) h fun v34 h =>
  wg (gdv false v32) (fun k => wk (kArith h .gtr v34 (.int .i64 6)) k) h fun v35 h =>
  wk (kPick h v32 (.bool true) v35) fun v36 h =>
  k [v3, v5, v6, v15, v16, v17, v36] h
def g13_s1 (cl : CL) (v3 v5 v6 v15 v16 v17 v40 : AV) (h : AH) (k : List AV → AH → Prop) : Prop :=
  wsp v40 fun v41 =>
  wg (gdv true v41) (fun k => wk (kFldA h 1 v5) k) h fun v42 h =>
  wg (gdv true v41) (fun k => wk (kLdn h 4 v42) k) h fun v43 h =>
  wg (gdv true v41) (fun k => wcall cl (.func (.func 36) [] []) [v43] h k) h fun v44 h =>
  wg (gdv true v41) (fun k => wk (kArith h .neq v44 (.int .i64 0)) k) h fun v45 h =>
  wk (kPick h v41 v45 (.bool false)) fun v46 h =>
  k [v3, v5, v6, v15, v16, v17, v46] h
def g13_a2 (cl : CL) (v3 v5 v6 v15 v16 v17 : AV) (h : AH) (k : List AV → AH → Prop) : Prop :=
  wk (kFldA h 0 v5) fun v38 h =>
  wk (kLd1 h v38) fun v39 h =>
  wcall cl (.func (.func 35) [] []) [v39] h fun v40 h =>
  g13_s1 cl (v3) (v5) (v6) (v15) (v16) (v17) (v40) h k
def g13_s2 (cl : CL) (v3 v5 v6 v15 v16 v17 v55 v56 : AV) (h : AH) (k : List AV → AH → Prop) : Prop :=
  wg (gdv true v55) (fun k => wk (kLd1 h v56) k) h fun v57 h =>
  wg (gdv true v55) (fun k => wcall cl (.func (.func 37) [] []) [v57] h k) h fun v58 h =>
  wg (gdv true v55) (fun k => wk (kUn h .not v58) k) h fun v59 h =>
  wk (kPick h v55 v59 (.bool false)) fun v60 h =>
  k [v3, v5, v6, v15, v16, v17, v60] h
def g13_a3 (cl : CL) (v3 v5 v6 v15 v16 v17 v37 : AV) (h : AH) (k : List AV → AH → Prop) : Prop :=
  wif v37 (
  k [v3, v5, v6, v15, v16, v17, v37] h) (
  wk (kFldA h 0 v5) fun v47 h =>
  wk (kLd1 h v47) fun v48 h =>
  wk (kArith h .eql v48 (.int .i64 4)) fun v49 h =>
  wsp v49 fun v50 =>
  wg (gdv false v50) (fun k => wk (kFldA h 0 v5) k) h fun v51 h =>
  wg (gdv false v50) (fun k => wk (kLd1 h v51) k) h fun v52 h =>
  wg (gdv false v50) (fun k => wk (kArith h .eql v52 (.int .i64 5)) k) h fun v53 h =>
  wk (kPick h v50 (.bool true) v53) fun v54 h =>
  wsp v54 fun v55 =>
  wg (gdv true v55) (fun k => wk (kFldA h 10 v5) k) h fun v56 h =>
  g13_s2 cl (v3) (v5) (v6) (v15) (v16) (v17) (v55) (v56) h k)
def g13_s3 (cl : CL) (v3 v5 v6 v15 v16 v17 v70 : AV) (h : AH) (k : List AV → AH → Prop) : Prop :=
  k [v3, v5, v6, v15, v16, v17, v70] h
def g13_a4 (cl : CL) (v3 v5 v6 v15 v16 v17 : AV) (h : AH) (k : List AV → AH → Prop) : Prop :=
  wk (kFldA h 0 v5) fun v62 h =>
  wk (kLd1 h v62) fun v63 h =>
  wk (kArith h .eql v63 (.int .i64 5)) fun v64 h =>
  wsp v64 fun v65 =>
  wg (gdv true v65) (fun k => wk (kFldA h 12 v5) k) h fun v66 h =>
  wg (gdv true v65) (fun k => wk (kLdn h 10 v66) k) h fun v67 h =>
  wg (gdv true v65) (fun k => wcall cl (.func (.func 38) [] []) [v67] h k) h fun v68 h =>
  wg (gdv true v65) (fun k => wk (kUn h .not v68) k) h fun v69 h =>
  wk (kPick h v65 v69 (.bool false)) fun v70 h =>
  g13_s3 cl (v3) (v5) (v6) (v15) (v16) (v17) (v70) h k
def g13_s4 (cl : CL) (v15 v16 v17 v93 v96 : AV) (h : AH) (k : AX → List AV → AH → Prop) : Prop :=
  wk (kApp h 5 40 v93 v96) fun v97 h =>
  k .nrm [.undef, v97, v15, v16, v17] h
def g13_s5 (cl : CL) (v3 v15 v16 v17 v88 : AV) (h : AH) (k : AX → List AV → AH → Prop) : Prop :=
  wk (kExt h v88 0) fun v89 h =>
  wk (kExt h v88 1) fun v90 h =>
  wk (kNew h [.int .i64 0, .bool false, .int .i64 0, .int .i64 0, .int .i64 0]) fun v7 h =>
  wk (kSt h 5 v7 v89) fun _ h =>
  wk (kArith h .neq v90 (.int .i64 0)) fun v92 h =>
  wif v92 (
  k .ret [(.int .i64 1), v3, v15, v16, v17] h) (
  wk (kLdn h 5 v7) fun v94 h =>
  wk (kBuild h [.int .i64 0, .bool false, .int .i64 0, .int .i64 0, .int .i64 0] [(0, 5, v94)]) fun v95 h =>
  wk (kBuildSl h 5 1 [.int .i64 0, .bool false, .int .i64 0, .int .i64 0, .int .i64 0] [(0, 5, v95)]) fun v96 h =>
  g13_s4 cl (v15) (v16) (v17) (v3) (v96) h k)
def g13_s6 (cl : CL) (v3 v15 v16 v17 v85 v86 : AV) (h : AH) (k : AX → List AV → AH → Prop) : Prop :=
  wk (kLdn h 5 v86) fun v87 h =>
  wcall cl (.func (.func 39) [] []) [v85, v87] h fun v88 h =>
  g13_s5 cl (v3) (v15) (v16) (v17) (v88) h k
def g13_s7 (cl : CL) (v3 v15 v16 v17 v100 : AV) (h : AH) (k : AX → List AV → AH → Prop) : Prop :=
  wk (kArith h .eql v100 (.int .i64 3)) fun v101 h =>
  wif v101 (
  wk (kLen h v3) fun v103 h =>
  wk (kArith h .eql v103 (.int .i64 1)) fun v104 h =>
  wif v104 (
  k .ret [(.int .i64 12), v3, v15, v16, v17] h) (
  wk (kLen h v3) fun v107 h =>
  wk (kArith h .sub v107 (.int .i64 1)) fun v108 h =>
  wk (kSl h 5 v3 none (some v108) none) fun v109 h =>
  k .nrm [.undef, v109, v15, v16, v17] h)) (
  k .nrm [.undef, v3, v15, v16, v17] h)
def g13_j5 (cl : CL) (v3 v5 v6 v15 v16 v17 v61 : AV) (h : AH) (k : AX → List AV → AH → Prop) : Prop :=
  wif v61 (
  k .ret [(.int .i64 1), v3, v15, v16, v17] h) (
  wk (kFldA h 0 v5) fun v72 h =>
  wk (kLd1 h v72) fun v73 h =>
  wk (kArith h .eql v73 (.int .i64 1)) fun v74 h =>
  wif v74 (
  wk (kLdn h 5 v6) fun v76 h =>
  wk (kBuild h [.int .i64 0, .bool false, .int .i64 0, .int .i64 0, .int .i64 0] [(0, 5, v76)]) fun v77 h =>
  wk (kBuildSl h 5 1 [.int .i64 0, .bool false, .int .i64 0, .int .i64 0, .int .i64 0] [(0, 5, v77)]) fun v78 h =>
  wk (kApp h 5 40 v3 v78) fun v79 h =>
  k .nrm [.undef, v79, v15, v16, v17] h) (
  wk (kFldA h 0 v5) fun v81 h =>
  wk (kLd1 h v81) fun v82 h =>
  wk (kArith h .eql v82 (.int .i64 2)) fun v83 h =>
  wif v83 (
  wk (kLdn h 5 v6) fun v85 h =>
  wk (kFldA h 5 v5) fun v86 h =>
  g13_s6 cl (v3) (v15) (v16) (v17) (v85) (v86) h k) (
  wk (kFldA h 0 v5) fun v99 h =>
  wk (kLd1 h v99) fun v100 h =>
  g13_s7 cl (v3) (v15) (v16) (v17) (v100) h k)))
def g13_j6 (cl : CL) (v3 v5 v6 v15 v16 v17 v37 : AV) (h : AH) (k : AX → List AV → AH → Prop) : Prop :=
  wif v37 (
  k .ret [(.int .i64 1), v3, v15, v16, v17] h) (
  wjoinN (g13_a4 cl (v3) (v5) (v6) (v15) (v16) (v17) h) fun vs h => g13_j5 cl (nthD vs 0) (nthD vs 1) (nthD vs 2) (nthD vs 3) (nthD vs 4) (nthD vs 5) (nthD vs 6) h k)
def g13_j7 (cl : CL) (v3 v5 v6 v15 v16 v17 v37 : AV) (h : AH) (k : AX → List AV → AH → Prop) : Prop :=
  wjoinN (g13_a3 cl (v3) (v5) (v6) (v15) (v16) (v17) (v37) h) fun vs h => g13_j6 cl (nthD vs 0) (nthD vs 1) (nthD vs 2) (nthD vs 3) (nthD vs 4) (nthD vs 5) (nthD vs 6) h k
def g13_j8 (cl : CL) (v3 v5 v6 v15 v16 v17 v28 : AV) (h : AH) (k : AX → List AV → AH → Prop) : Prop :=
  wif v28 (
  k .ret [(.int .i64 9), v3, v15, v16, v17] h) (
  wjoinN (g13_a2 cl (v3) (v5) (v6) (v15) (v16) (v17) h) fun vs h => g13_j7 cl (nthD vs 0) (nthD vs 1) (nthD vs 2) (nthD vs 3) (nthD vs 4) (nthD vs 5) (nthD vs 6) h k)
def g13_s8 (cl : CL) (v3 v5 v15 v16 v17 v26 : AV) (h : AH) (k : AX → List AV → AH → Prop) : Prop :=
  wk (kLdn h 5 v26) fun v27 h =>
  wk (kNew h [.int .i64 0, .bool false, .int .i64 0, .int .i64 0, .int .i64 0]) fun v6 h =>
  wk (kSt h 5 v6 v27) fun _ h =>
  wjoinN (g13_a1 cl (v3) (v5) (v6) (v15) (v16) (v17) h) fun vs h => g13_j8 cl (nthD vs 0) (nthD vs 1) (nthD vs 2) (nthD vs 3) (nthD vs 4) (nthD vs 5) (nthD vs 6) h k
def g13_a9 (cl : CL) (v3 v15 v16 v17 : AV) (h : AH) (k : AX → List AV → AH → Prop) : Prop :=
  wk (kIdxA h 22 v15 v17) fun v19 h =>
  wk (kLdn h 22 v19) fun v20 h =>
  wk (kNew h [.int .i64 0, .int .i64 0, .int .i64 0, .int .i64 0, .int .i64 0, .int .i64 0, .bool false, .int .i64 0, .int .i64 0, .int .i64 0, .int .i64 0, .str [], .int .i64 0, .int .i64 0, .int .i64 0, .int .i64 0, .int .i64 0, .int .i64 0, .int .i64 0, .int .i64 0, .int .i64 0, .nilsl]) fun v5 h =>
  wk (kSt h 22 v5 v20) fun _ h =>
  wk (kLen h v3) fun v23 h =>
  wk (kArith h .sub v23 (.int .i64 1)) fun v24 h =>
  wk (kIdxA h 5 v3 v24) fun v25 h =>
  wk (kFldA h 0 v25) fun v26 h =>
  g13_s8 cl (v3) (v5) (v15) (v16) (v17) (v26) h k
def g13_j10 (cl : CL) (x : AX) (v2 v3 v15 v16 v17 : AV) (h : AH) (k : AX → List AV → List AV → AH → Prop) : Prop :=
  xs x (wk (kArith h .add v17 (.int .i64 1)) fun v110 h =>
  k .nrm [v3, v15, v16, v110] [v2, v3] h) (fun j => k (.exit j) [v3, v15, v16, v17] [v2, v3] h) (k .ret [v3, v15, v16, v17] [v2, v3] h)
def g13_l11 (cl : CL) (v3 v15 v16 v17 : AV) (h : AH) (k : AX → List AV → List AV → AH → Prop) : Prop :=
  wk (kArith h .lss v17 v16) fun v18 h =>
  wif v18 (
  wjoin (g13_a9 cl (v3) (v15) (v16) (v17) h) fun x vs h => g13_j10 cl x (nthD vs 0) (nthD vs 1) (nthD vs 2) (nthD vs 3) (nthD vs 4) h k) (
  k (.exit 0) [v3, v15, v16, v17] [.undef, v3] h)
def g13_c12 (cl : CL) (v3 : AV) (h : AH) (Q : AV → AH → Prop) : Prop :=
  wk (kLen h v3) fun v112 h =>
  wk (kArith h .gtr v112 (.int .i64 1)) fun v113 h =>
  wif v113 (
  Q ((.int .i64 12)) h) (
  Q ((.int .i64 0)) h)
def g13_j13 (cl : CL) (x : AX) (v2 v3 : AV) (h : AH) (Q : AV → AH → Prop) : Prop :=
  xs x (g13_c12 cl (v3) h Q) (fun j => cond (Nat.beq j 0) (g13_c12 cl (v3) h Q) (False)) (Q (v2) h)
def g13 (cl : CL) (v0 : AV) (h : AH) (Q : AV → AH → Prop) : Prop :=
  wk (kLen h v0) fun v10 h =>
  wk (kArith h .gtr v10 (.int .i64 20000)) fun v11 h =>
  wif v11 (
  Q ((.int .i64 2)) h) (
  wk (kBuild h [.int .i64 0, .bool false, .int .i64 0, .int .i64 0, .int .i64 0] [(2, 1, (.int .i64 1))]) fun v12 h =>
  wk (kBuild h [.int .i64 0, .bool false, .int .i64 0, .int .i64 0, .int .i64 0] [(0, 5, v12)]) fun v13 h =>
  wk (kBuildSl h 5 1 [.int .i64 0, .bool false, .int .i64 0, .int .i64 0, .int .i64 0] [(0, 5, v13)]) fun v14 h =>
  wk (kLen h v0) fun v16 h =>
  wloop (fun vs h k => g13_l11 cl (nthD vs 0) (nthD vs 1) (nthD vs 2) (nthD vs 3) h k) [v14, v0, v16, (.int .i64 0)] h fun x vs h => g13_j13 cl x (nthD vs 0) (nthD vs 1) h Q)
theorem g13_eq (cl : CL) (v0 : AV) (h : AH) (Q : AV → AH → Prop) : wrun cl S13 [v0] h Q = g13 cl v0 h Q := by kernel_rfl
theorem C13 {cl : CL} (hcl : CLOk Try.prog cl) {v0 : AV} {h : AH} {Q : AV → AH → Prop} (hg : g13 cl v0 h Q) : CallsA Try.prog 13 [v0] h Q := wfn_ok hcl (f := 13) (fn := Try.f13) (by kernel_rfl) S13_ok (by decide) (by kernel_rfl) (its_nil (by kernel_rfl)) (by rw [g13_eq]; exact hg)

/- widgetry/display.Pixel -/
def S15.r0 : List AOpr := [
  ⟨some 3, .box (.tmp 1), none⟩,
  ⟨some 4, .mov (.const (.int .i64 0)), none⟩]
def S15.r1 : List (AOpr × Option Nat) := [
  (⟨some 11, .mov (.tmp 0), none⟩, none),
  (⟨some 12, .call (.const (.func (.func 13) [] [])) [.tmp 11], none⟩, none),
  (⟨some 13, .arith .neq (.tmp 12) (.const (.int .i64 0)), none⟩, none),
  (⟨some 14, .mov (.tmp 13), none⟩, none),
  (⟨some 15, .ldn 2 (.tmp 3), some (14, false)⟩, some 14),
  (⟨some 16, .call (.const (.func (.func 43) [] [])) [.tmp 15], some (14, false)⟩, none),
  (⟨some 17, .un .not (.tmp 16), some (14, false)⟩, none),
  (⟨some 18, .pick (.tmp 14) (.const (.bool true)) (.tmp 17), none⟩, none)]
def S15.r2 : List AOpr := [
  ⟨some 4, .mov (.const (.int .i64 (-1))), none⟩]
def S15.r3 : List AOpr := [
  ⟨some 19, .ldn 2 (.tmp 3), none⟩,
  ⟨some 20, .build [.int .i64 0, .int .i64 0, .bool false] [(0, 2, .tmp 19), (2, 1, .const (.bool true))], none⟩,
  ⟨some 21, .buildSl 3 1 [.int .i64 0, .int .i64 0, .bool false] [(0, 3, .tmp 20)], none⟩,
  ⟨some 5, .mov (.tmp 21), none⟩]
def S15.r4 : List AOpr := [
  ⟨some 6, .mov (.const (.int .i64 (-1))), none⟩]
def S15.r5 : List AOpr := [
  ⟨some 22, .mov (.tmp 0), none⟩,
  ⟨some 23, .len (.tmp 22), none⟩,
  ⟨some 24, .mov (.const (.int .i64 0)), none⟩]
def S15.r6 : List AOpr := [
  ⟨some 25, .arith .lss (.tmp 24) (.tmp 23), none⟩]
def S15.r7 : List AOpr := [
  ⟨some 26, .idxA 22 (.tmp 22) (.tmp 24), none⟩,
  ⟨some 27, .ldn 22 (.tmp 26), none⟩,
  ⟨some 8, .new [.int .i64 0, .int .i64 0, .int .i64 0, .int .i64 0, .int .i64 0, .int .i64 0, .bool false, .int .i64 0, .int .i64 0, .int .i64 0, .int .i64 0, .str [], .int .i64 0, .int .i64 0, .int .i64 0, .int .i64 0, .int .i64 0, .int .i64 0, .int .i64 0, .int .i64 0, .int .i64 0, .nilsl], none⟩,
  ⟨none, .st 22 (.tmp 8) (.tmp 27), none⟩]
def S15.r8 : List AOpr := [
  ⟨some 28, .mov (.tmp 5), none⟩,
  ⟨some 29, .mov (.tmp 5), none⟩,
  ⟨some 30, .len (.tmp 29), none⟩,
  ⟨some 31, .arith .sub (.tmp 30) (.const (.int .i64 1)), none⟩,
  ⟨some 32, .idxA 3 (.tmp 28) (.tmp 31), none⟩,
  ⟨some 33, .ldn 3 (.tmp 32), none⟩,
  ⟨some 9, .new [.int .i64 0, .int .i64 0, .bool false], none⟩,
  ⟨none, .st 3 (.tmp 9) (.tmp 33), none⟩]
def S15.r9 : List AOpr := [
  ⟨some 35, .fldA 0 (.tmp 8), none⟩,
  ⟨some 36, .ld1 (.tmp 35), none⟩,
  ⟨some 37, .arith .eql (.tmp 36) (.const (.int .i64 1)), none⟩,
  ⟨some 34, .mov (.tmp 37), none⟩]
def S15.r10 : List ((AOpr × Nat) × Option Nat) := [
  ((⟨some 38, .mov (.tmp 5), none⟩, 0), none),
  ((⟨some 39, .fldA 0 (.tmp 9), none⟩, 0), none),
  ((⟨some 40, .ldn 2 (.tmp 39), none⟩, 2), none),
  ((⟨some 41, .fldA 2 (.tmp 9), none⟩, 0), none),
  ((⟨some 42, .ld1 (.tmp 41), none⟩, 8), none),
  ((⟨some 43, .mov (.tmp 42), none⟩, 24), none),
  ((⟨some 44, .fldA 1 (.tmp 8), some (43, true)⟩, 56), some 43),
  ((⟨some 45, .ldn 4 (.tmp 44), some (43, true)⟩, 120), none),
  ((⟨some 46, .fldA 0 (.tmp 9), some (43, true)⟩, 56), none),
  ((⟨some 47, .ldn 2 (.tmp 46), some (43, true)⟩, 312), none),
  ((⟨some 48, .call (.const (.func (.func 44) [] [])) [.tmp 45, .tmp 47], some (43, true)⟩, 1016), none),
  ((⟨some 49, .pick (.tmp 43) (.tmp 48) (.const (.bool false)), none⟩, 2040), none),
  ((⟨some 50, .build [.int .i64 0, .int .i64 0, .bool false] [(0, 2, .tmp 40), (2, 1, .tmp 49)], none⟩, 4094), none),
  ((⟨some 51, .buildSl 3 1 [.int .i64 0, .int .i64 0, .bool false] [(0, 3, .tmp 50)], none⟩, 8190), none),
  ((⟨some 52, .app 3 24 (.tmp 38) (.tmp 51), none⟩, 16383), none),
  ((⟨some 5, .mov (.tmp 52), none⟩, 32767), none)]
def S15.r11 : List AOpr := [
  ⟨some 54, .fldA 0 (.tmp 8), none⟩,
  ⟨some 55, .ld1 (.tmp 54), none⟩,
  ⟨some 56, .arith .eql (.tmp 55) (.const (.int .i64 2)), none⟩,
  ⟨some 53, .mov (.tmp 56), none⟩]
def S15.r12 : List AOpr := [
  ⟨some 57, .fldA 5 (.tmp 8), none⟩,
  ⟨some 58, .ldn 5 (.tmp 57), none⟩,
  ⟨some 59, .fldA 0 (.tmp 9), none⟩,
  ⟨some 60, .ldn 2 (.tmp 59), none⟩,
  ⟨some 61, .call (.const (.func (.func 45) [] [])) [.tmp 58, .tmp 60], none⟩,
  ⟨some 10, .new [.int .i64 0, .int .i64 0], none⟩,
  ⟨none, .st 2 (.tmp 10) (.tmp 61), none⟩]
def S15.r13 : List ((AOpr × Nat) × Option Nat) := [
  ((⟨some 62, .mov (.tmp 5), none⟩, 0), none),
  ((⟨some 63, .ldn 2 (.tmp 10), none⟩, 0), none),
  ((⟨some 64, .fldA 2 (.tmp 9), none⟩, 0), none),
  ((⟨some 65, .ld1 (.tmp 64), none⟩, 4), none),
  ((⟨some 66, .mov (.tmp 65), none⟩, 12), none),
  ((⟨some 67, .ldn 2 (.tmp 10), some (66, true)⟩, 28), some 66),
  ((⟨some 68, .call (.const (.func (.func 43) [] [])) [.tmp 67], some (66, true)⟩, 60), none),
  ((⟨some 69, .pick (.tmp 66) (.tmp 68) (.const (.bool false)), none⟩, 124), none),
  ((⟨some 70, .build [.int .i64 0, .int .i64 0, .bool false] [(0, 2, .tmp 63), (2, 1, .tmp 69)], none⟩, 254), none),
  ((⟨some 71, .buildSl 3 1 [.int .i64 0, .int .i64 0, .bool false] [(0, 3, .tmp 70)], none⟩, 510), none),
  ((⟨some 72, .app 3 24 (.tmp 62) (.tmp 71), none⟩, 1023), none),
  ((⟨some 5, .mov (.tmp 72), none⟩, 2047), none)]
def S15.r14 : List AOpr := [
  ⟨some 74, .fldA 0 (.tmp 8), none⟩,
  ⟨some 75, .ld1 (.tmp 74), none⟩,
  ⟨some 76, .arith .eql (.tmp 75) (.const (.int .i64 3)), none⟩,
  ⟨some 73, .mov (.tmp 76), none⟩]
def S15.r15 : List AOpr := [
  ⟨some 77, .mov (.tmp 5), none⟩,
  ⟨some 78, .mov (.tmp 5), none⟩,
  ⟨some 79, .len (.tmp 78), none⟩,
  ⟨some 80, .arith .sub (.tmp 79) (.const (.int .i64 1)), none⟩,
  ⟨some 81, .sl 3 (.tmp 77) none (some (.tmp 80)) none, none⟩,
  ⟨some 5, .mov (.tmp 81), none⟩]
def S15.r16 : List (AOpr × Option Nat) := [
  (⟨some 83, .fldA 2 (.tmp 9), none⟩, none),
  (⟨some 84, .ld1 (.tmp 83), none⟩, none),
  (⟨some 85, .mov (.tmp 84), none⟩, none),
  (⟨some 86, .ldn 22 (.tmp 8), some (85, true)⟩, some 85),
  (⟨some 87, .fldA 0 (.tmp 9), some (85, true)⟩, none),
  (⟨some 88, .ldn 2 (.tmp 87), some (85, true)⟩, none),
  (⟨some 89, .call (.const (.func (.func 46) [] [])) [.tmp 86, .tmp 88], some (85, true)⟩, none),
  (⟨some 90, .pick (.tmp 85) (.tmp 89) (.const (.bool false)), none⟩, none),
  (⟨some 82, .mov (.tmp 90), none⟩, none)]
def S15.r17 : List AOpr := [
  ⟨some 91, .fldA 10 (.tmp 8), none⟩,
  ⟨some 92, .ld1 (.tmp 91), none⟩,
  ⟨some 6, .mov (.tmp 92), none⟩]
def S15.r18 : List AOpr := [
  ⟨some 93, .fldA 0 (.tmp 8), none⟩,
  ⟨some 94, .ld1 (.tmp 93), none⟩,
  ⟨some 95, .arith .eql (.tmp 94) (.const (.int .i64 6)), none⟩]
def S15.r19 : List AOpr := [
  ⟨some 6, .mov (.const (.int .i64 8421504)), none⟩]
def S15.r20 : List AOpr := [
  ⟨some 96, .arith .add (.tmp 24) (.const (.int .i64 1)), none⟩,
  ⟨some 24, .mov (.tmp 96), none⟩]
def S15.r21 : List AOpr := [
  ⟨some 97, .mov (.tmp 6), none⟩,
  ⟨some 4, .mov (.tmp 97), none⟩]
def S15 : SFn := ⟨98, [.tmp 4], .seq (.reg S15.r0) (.seq (.seq (.joinN [0, 3, 18] (.regS S15.r1)) (.cond (.tmp 18) (.seq (.reg S15.r2) (.ret)) (.skip))) (.seq (.reg S15.r3) (.seq (.reg S15.r4) (.seq (.seq (.reg S15.r5) (.block 0 (.loop [5, 6, 22, 23, 24] [6] (.seq (.reg S15.r6) (.seq (.cond (.tmp 25) (.skip) (.exit 0)) (.seq (.joinN [5, 6, 22, 23, 24] (.block 1 (.seq (.reg S15.r7) (.seq (.reg S15.r8) (.block 2 (.seq (.reg S15.r9) (.cond (.tmp 34) (.drawS S15.r10) (.seq (.reg S15.r11) (.cond (.tmp 53) (.seq (.reg S15.r12) (.drawS S15.r13)) (.seq (.reg S15.r14) (.cond (.tmp 73) (.reg S15.r15) (.seq (.joinN [5, 6, 8, 22, 23, 24, 82] (.regS S15.r16)) (.cond (.tmp 82) (.seq (.reg S15.r17) (.seq (.reg S15.r18) (.cond (.tmp 95) (.reg S15.r19) (.skip)))) (.skip)))))))))))))) (.reg S15.r20))))))) (.seq (.reg S15.r21) (.ret))))))⟩
theorem S15_ok : cFn Try.prog Try.f15 = some S15.erase := by kernel_rfl
def g15_s1 (cl : CL) (v0 v3 v12 : AV) (h : AH) (k : List AV → AH → Prop) : Prop :=
  wk (kArith h .neq v12 (.int .i64 0)) fun v13 h =>
  wsp v13 fun v14 =>
  wg (gdv false v14) (fun k => wk (kLdn h 2 v3) k) h fun v15 h =>
  wg (gdv false v14) (fun k => wcall cl (.func (.func 43) [] []) [v15] h k) h fun v16 h =>
  wg (gdv false v14) (fun k => wk (kUn h .not v16) k) h fun v17 h =>
  wk (kPick h v14 (.bool true) v17) fun v18 h =>
  k [v0, v3, v18] h
def g15_a1 (cl : CL) (v0 v3 : AV) (h : AH) (k : List AV → AH → Prop) : Prop :=
  wcall cl (.func (.func 13) [] []) [v0] h fun v12 h =>
  g15_s1 cl (v0) (v3) (v12) h k
def g15_s2 (cl : CL) (r : Nat) (c2 c10 : Rec) (v5 v6 v22 v23 v24 v38 v40 v43 v48 : AV) (h : AH) (k : List AV → AH → Prop) : Prop :=
  wdp h (kPick h v43 v48 (.bool false)) .pure fun v49 c11 h =>
  wdp h (kBuild h [.int .i64 0, .int .i64 0, .bool false] [(0, 2, v40), (2, 1, v49)]) .pure fun v50 c12 h =>
  wda (r + 13) h (alBuildSl 3 1 [.int .i64 0, .int .i64 0, .bool false] [(0, 3, v50)]) fun v51 c13 h =>
  wde h (kApp h 3 24 v38 v51) fun v52 c14 h =>
  wdp h (kMov h v52) .pure fun v5 c15 h =>
  recOk c2 c10 = true ∧ k [v5, v6, v22, v23, v24] h
def g15_s3 (cl : CL) (r : Nat) (c2 : Rec) (v5 v6 v8 v9 v22 v23 v24 v38 v40 : AV) (h : AH) (k : List AV → AH → Prop) : Prop :=
  wdp h (kFldA h 2 v9) .pure fun v41 c3 h =>
  wdp h (kLd1 h v41) (rdK (rdv v41)) fun v42 c4 h =>
  wdp h (kMov h v42) .pure fun v43 c5 h =>
  wsp v43 fun v43 =>
  wgd (gdv true v43) (fun k => wdp h (kFldA h 1 v8) .pure k) h fun v44 c6 h =>
  wgd (gdv true v43) (fun k => wdp h (kLdn h 4 v44) (rdK (rdv v44)) k) h fun v45 c7 h =>
  wgd (gdv true v43) (fun k => wdp h (kFldA h 0 v9) .pure k) h fun v46 c8 h =>
  wgd (gdv true v43) (fun k => wdp h (kLdn h 2 v46) (rdK (rdv v46)) k) h fun v47 c9 h =>
  wgd (gdv true v43) (fun k => wdc cl (.func (.func 44) [] []) [v45, v47] h k) h fun v48 c10 h =>
  g15_s2 cl r c2 c10 (v5) (v6) (v22) (v23) (v24) (v38) (v40) (v43) (v48) h k
def g15_s4 (cl : CL) (r : Nat) (c1 c6 : Rec) (v5 v6 v22 v23 v24 v62 v70 : AV) (h : AH) (k : List AV → AH → Prop) : Prop :=
  wda (r + 9) h (alBuildSl 3 1 [.int .i64 0, .int .i64 0, .bool false] [(0, 3, v70)]) fun v71 c9 h =>
  wde h (kApp h 3 24 v62 v71) fun v72 c10 h =>
  wdp h (kMov h v72) .pure fun v5 c11 h =>
  recOk c1 c6 = true ∧ k [v5, v6, v22, v23, v24] h
def g15_s5 (cl : CL) (r : Nat) (v5 v6 v9 v10 v22 v23 v24 v62 : AV) (h : AH) (k : List AV → AH → Prop) : Prop :=
  wdp h (kLdn h 2 v10) (rdK (rdv v10)) fun v63 c1 h =>
  wdp h (kFldA h 2 v9) .pure fun v64 c2 h =>
  wdp h (kLd1 h v64) (rdK (rdv v64)) fun v65 c3 h =>
  wdp h (kMov h v65) .pure fun v66 c4 h =>
  wsp v66 fun v66 =>
  wgd (gdv true v66) (fun k => wdp h (kLdn h 2 v10) (rdK (rdv v10)) k) h fun v67 c5 h =>
  wgd (gdv true v66) (fun k => wdc cl (.func (.func 43) [] []) [v67] h k) h fun v68 c6 h =>
  wdp h (kPick h v66 v68 (.bool false)) .pure fun v69 c7 h =>
  wdp h (kBuild h [.int .i64 0, .int .i64 0, .bool false] [(0, 2, v63), (2, 1, v69)]) .pure fun v70 c8 h =>
  g15_s4 cl r c1 c6 (v5) (v6) (v22) (v23) (v24) (v62) (v70) h k
def g15_a2 (cl : CL) (v5 v6 v8 v9 v22 v23 v24 : AV) (h : AH) (k : List AV → AH → Prop) : Prop :=
  wk (kFldA h 2 v9) fun v83 h =>
  wk (kLd1 h v83) fun v84 h =>
  wsp v84 fun v85 =>
  wg (gdv true v85) (fun k => wk (kLdn h 22 v8) k) h fun v86 h =>
  wg (gdv true v85) (fun k => wk (kFldA h 0 v9) k) h fun v87 h =>
  wg (gdv true v85) (fun k => wk (kLdn h 2 v87) k) h fun v88 h =>
  wg (gdv true v85) (fun k => wcall cl (.func (.func 46) [] []) [v86, v88] h k) h fun v89 h =>
  wk (kPick h v85 v89 (.bool false)) fun v90 h =>
  k [v5, v6, v8, v22, v23, v24, v90] h
def g15_j3 (cl : CL) (v5 v6 v8 v22 v23 v24 v82 : AV) (h : AH) (k : List AV → AH → Prop) : Prop :=
  wif v82 (
  wk (kFldA h 10 v8) fun v91 h =>
  wk (kLd1 h v91) fun v92 h =>
  wk (kFldA h 0 v8) fun v93 h =>
  wk (kLd1 h v93) fun v94 h =>
  wk (kArith h .eql v94 (.int .i64 6)) fun v95 h =>
  wif v95 (
  k [v5, (.int .i64 8421504), v22, v23, v24] h) (
  k [v5, v92, v22, v23, v24] h)) (
  k [v5, v6, v22, v23, v24] h)
def g15_s6 (cl : CL) (v5 v6 v8 v9 v22 v23 v24 v56 : AV) (h : AH) (k : List AV → AH → Prop) : Prop :=
  wif v56 (
  wk (kFldA h 5 v8) fun v57 h =>
  wk (kLdn h 5 v57) fun v58 h =>
  wk (kFldA h 0 v9) fun v59 h =>
  wk (kLdn h 2 v59) fun v60 h =>
  wcall cl (.func (.func 45) [] []) [v58, v60] h fun v61 h =>
  wk (kNew h [.int .i64 0, .int .i64 0]) fun v10 h =>
  wk (kSt h 2 v10 v61) fun _ h =>
  wdr h 12 fun r h =>
  wdp h (kMov h v5) .pure fun v62 c0 h =>
  g15_s5 cl r (v5) (v6) (v9) (v10) (v22) (v23) (v24) (v62) h k) (
  wk (kFldA h 0 v8) fun v74 h =>
  wk (kLd1 h v74) fun v75 h =>
  wk (kArith h .eql v75 (.int .i64 3)) fun v76 h =>
  wif v76 (
  wk (kLen h v5) fun v79 h =>
  wk (kArith h .sub v79 (.int .i64 1)) fun v80 h =>
  wk (kSl h 3 v5 none (some v80) none) fun v81 h =>
  k [v81, v6, v22, v23, v24] h) (
  wjoinN (g15_a2 cl (v5) (v6) (v8) (v9) (v22) (v23) (v24) h) fun vs h => g15_j3 cl (nthD vs 0) (nthD vs 1) (nthD vs 2) (nthD vs 3) (nthD vs 4) (nthD vs 5) (nthD vs 6) h k))
def g15_s7 (cl : CL) (v5 v6 v8 v22 v23 v24 v33 : AV) (h : AH) (k : List AV → AH → Prop) : Prop :=
  wk (kNew h [.int .i64 0, .int .i64 0, .bool false]) fun v9 h =>
  wk (kSt h 3 v9 v33) fun _ h =>
  wk (kFldA h 0 v8) fun v35 h =>
  wk (kLd1 h v35) fun v36 h =>
  wk (kArith h .eql v36 (.int .i64 1)) fun v37 h =>
  wif v37 (
  wdr h 16 fun r h =>
  wdp h (kMov h v5) .pure fun v38 c0 h =>
  wdp h (kFldA h 0 v9) .pure fun v39 c1 h =>
  wdp h (kLdn h 2 v39) (rdK (rdv v39)) fun v40 c2 h =>
  g15_s3 cl r c2 (v5) (v6) (v8) (v9) (v22) (v23) (v24) (v38) (v40) h k) (
  wk (kFldA h 0 v8) fun v54 h =>
  wk (kLd1 h v54) fun v55 h =>
  wk (kArith h .eql v55 (.int .i64 2)) fun v56 h =>
  g15_s6 cl (v5) (v6) (v8) (v9) (v22) (v23) (v24) (v56) h k)
def g15_a4 (cl : CL) (v5 v6 v22 v23 v24 : AV) (h : AH) (k : List AV → AH → Prop) : Prop :=
  wk (kIdxA h 22 v22 v24) fun v26 h =>
  wk (kLdn h 22 v26) fun v27 h =>
  wk (kNew h [.int .i64 0, .int .i64 0, .int .i64 0, .int .i64 0, .int .i64 0, .int .i64 0, .bool false, .int .i64 0, .int .i64 0, .int .i64 0, .int .i64 0, .str [], .int .i64 0, .int .i64 0, .int .i64 0, .int .i64 0, .int .i64 0, .int .i64 0, .int .i64 0, .int .i64 0, .int .i64 0, .nilsl]) fun v8 h =>
  wk (kSt h 22 v8 v27) fun _ h =>
  wk (kLen h v5) fun v30 h =>
  wk (kArith h .sub v30 (.int .i64 1)) fun v31 h =>
  wk (kIdxA h 3 v5 v31) fun v32 h =>
  wk (kLdn h 3 v32) fun v33 h =>
  g15_s7 cl (v5) (v6) (v8) (v22) (v23) (v24) (v33) h k
def g15_j5 (cl : CL) (v5 v6 v22 v23 v24 : AV) (h : AH) (k : AX → List AV → List AV → AH → Prop) : Prop :=
  wk (kArith h .add v24 (.int .i64 1)) fun v96 h =>
  k .nrm [v5, v6, v22, v23, v96] [v6] h
def g15_l6 (cl : CL) (v5 v6 v22 v23 v24 : AV) (h : AH) (k : AX → List AV → List AV → AH → Prop) : Prop :=
  wk (kArith h .lss v24 v23) fun v25 h =>
  wif v25 (
  wjoinN (g15_a4 cl (v5) (v6) (v22) (v23) (v24) h) fun vs h => g15_j5 cl (nthD vs 0) (nthD vs 1) (nthD vs 2) (nthD vs 3) (nthD vs 4) h k) (
  k (.exit 0) [v5, v6, v22, v23, v24] [v6] h)
def g15_c7 (cl : CL) (v6 : AV) (h : AH) (Q : AV → AH → Prop) : Prop :=
  Q (v6) h
def g15_j8 (cl : CL) (x : AX) (v6 : AV) (h : AH) (Q : AV → AH → Prop) : Prop :=
  xs x (g15_c7 cl (v6) h Q) (fun j => cond (Nat.beq j 0) (g15_c7 cl (v6) h Q) (False)) (Q (.undef) h)
def g15_j9 (cl : CL) (v0 v3 v18 : AV) (h : AH) (Q : AV → AH → Prop) : Prop :=
  wif v18 (
  Q ((.int .i64 (-1))) h) (
  wk (kLdn h 2 v3) fun v19 h =>
  wk (kBuild h [.int .i64 0, .int .i64 0, .bool false] [(0, 2, v19), (2, 1, (.bool true))]) fun v20 h =>
  wk (kBuildSl h 3 1 [.int .i64 0, .int .i64 0, .bool false] [(0, 3, v20)]) fun v21 h =>
  wk (kLen h v0) fun v23 h =>
  wloop (fun vs h k => g15_l6 cl (nthD vs 0) (nthD vs 1) (nthD vs 2) (nthD vs 3) (nthD vs 4) h k) [v21, (.int .i64 (-1)), v0, v23, (.int .i64 0)] h fun x vs h => g15_j8 cl x (nthD vs 0) h Q)
def g15 (cl : CL) (v0 v1 : AV) (h : AH) (Q : AV → AH → Prop) : Prop :=
  wk (kBox h v1) fun v3 h =>
  wjoinN (g15_a1 cl (v0) (v3) h) fun vs h => g15_j9 cl (nthD vs 0) (nthD vs 1) (nthD vs 2) h Q
theorem g15_eq (cl : CL) (v0 v1 : AV) (h : AH) (Q : AV → AH → Prop) : wrun cl S15 [v0, v1] h Q = g15 cl v0 v1 h Q := by kernel_rfl
theorem C15 {cl : CL} (hcl : CLOk Try.prog cl) {v0 v1 : AV} {h : AH} {Q : AV → AH → Prop} (hg : g15 cl v0 v1 h Q) : CallsA Try.prog 15 [v0, v1] h Q := wfn_ok hcl (f := 15) (fn := Try.f15) (by kernel_rfl) S15_ok (by decide) (by kernel_rfl) (its_nil (by kernel_rfl)) (by rw [g15_eq]; exact hg)

/- widgetry/widgetrylaw24.awake -/
def S17.r0 : List AOpr := [
  ⟨some 0, .mov (.const (.bool false)), none⟩]
def S17.r1 : List AOpr := [
  ⟨some 2, .call (.const (.func (.func 26) [] [])) [.const (.int .i64 0), .const (.int .i64 0), .const (.int .i64 10), .const (.int .i64 10), .const (.int .i64 1)], none⟩,
  ⟨some 3, .call (.const (.func (.func 26) [] [])) [.const (.int .i64 5), .const (.int .i64 5), .const (.int .i64 10), .const (.int .i64 10), .const (.int .i64 2)], none⟩,
  ⟨some 4, .buildSl 22 2 [.int .i64 0, .int .i64 0, .int .i64 0, .int .i64 0, .int .i64 0, .int .i64 0, .bool false, .int .i64 0, .int .i64 0, .int .i64 0, .int .i64 0, .str [], .int .i64 0, .int .i64 0, .int .i64 0, .int .i64 0, .int .i64 0, .int .i64 0, .int .i64 0, .int .i64 0, .int .i64 0, .nilsl, .int .i64 0, .int .i64 0, .int .i64 0, .int .i64 0, .int .i64 0, .int .i64 0, .bool false, .int .i64 0, .int .i64 0, .int .i64 0, .int .i64 0, .str [], .int .i64 0, .int .i64 0, .int .i64 0, .int .i64 0, .int .i64 0, .int .i64 0, .int .i64 0, .int .i64 0, .int .i64 0, .nilsl] [(0, 22, .tmp 2), (22, 22, .tmp 3)], none⟩,
  ⟨some 1, .mov (.tmp 4), none⟩]
def S17.r2 : List (AOpr × Option Nat) := [
  (⟨some 5, .mov (.tmp 1), none⟩, none),
  (⟨some 6, .build [.int .i64 0, .int .i64 0] [(0, 1, .const (.int .i64 7)), (1, 1, .const (.int .i64 7))], none⟩, none),
  (⟨some 7, .call (.const (.func (.func 15) [] [])) [.tmp 5, .tmp 6], none⟩, none),
  (⟨some 8, .arith .eql (.tmp 7) (.const (.int .i64 2)), none⟩, none),
  (⟨some 9, .mov (.tmp 8), none⟩, none),
  (⟨some 10, .mov (.tmp 1), some (9, true)⟩, some 9),
  (⟨some 11, .build [.int .i64 0, .int .i64 0] [(0, 1, .const (.int .i64 1)), (1, 1, .const (.int .i64 7))], some (9, true)⟩, none),
  (⟨some 12, .call (.const (.func (.func 15) [] [])) [.tmp 10, .tmp 11], some (9, true)⟩, none),
  (⟨some 13, .arith .eql (.tmp 12) (.const (.int .i64 1)), some (9, true)⟩, none),
  (⟨some 14, .pick (.tmp 9) (.tmp 13) (.const (.bool false)), none⟩, none),
  (⟨some 15, .mov (.tmp 14), none⟩, none),
  (⟨some 16, .mov (.tmp 1), some (15, true)⟩, some 15),
  (⟨some 17, .build [.int .i64 0, .int .i64 0] [(0, 1, .const (.int .i64 1)), (1, 1, .const (.int .i64 17))], some (15, true)⟩, none),
  (⟨some 18, .call (.const (.func (.func 15) [] [])) [.tmp 16, .tmp 17], some (15, true)⟩, none),
  (⟨some 19, .arith .eql (.tmp 18) (.const (.int .i64 (-1))), some (15, true)⟩, none),
  (⟨some 20, .pick (.tmp 15) (.tmp 19) (.const (.bool false)), none⟩, none),
  (⟨some 21, .mov (.tmp 20), none⟩, none),
  (⟨some 22, .mov (.tmp 1), some (21, true)⟩, some 21),
  (⟨some 23, .mov (.tmp 1), some (21, true)⟩, none),
  (⟨some 24, .sl 22 (.tmp 23) none (some (.const (.int .i64 1))) none, some (21, true)⟩, none),
  (⟨some 25, .call (.const (.func (.func 23) [] [])) [.tmp 22, .tmp 24], some (21, true)⟩, none),
  (⟨some 26, .len (.tmp 25), some (21, true)⟩, none),
  (⟨some 27, .arith .eql (.tmp 26) (.const (.int .i64 1)), some (21, true)⟩, none),
  (⟨some 28, .pick (.tmp 21) (.tmp 27) (.const (.bool false)), none⟩, none),
  (⟨some 0, .mov (.tmp 28), none⟩, none)]
def S17 : SFn := ⟨29, [.tmp 0], .seq (.reg S17.r0) (.seq (.reg S17.r1) (.seq (.regS S17.r2) (.ret)))⟩
theorem S17_ok : cFn Try.prog Try.f17 = some S17.erase := by kernel_rfl
def g17_s1 (cl : CL) (v21 v26 : AV) (h : AH) (Q : AV → AH → Prop) : Prop :=
  wg (gdv true v21) (fun k => wk (kArith h .eql v26 (.int .i64 1)) k) h fun v27 h =>
  wk (kPick h v21 v27 (.bool false)) fun v28 h =>
  Q (v28) h
def g17_s2 (cl : CL) (v1 v15 v16 v17 : AV) (h : AH) (Q : AV → AH → Prop) : Prop :=
  wg (gdv true v15) (fun k => wcall cl (.func (.func 15) [] []) [v16, v17] h k) h fun v18 h =>
  wg (gdv true v15) (fun k => wk (kArith h .eql v18 (.int .i64 (-1))) k) h fun v19 h =>
  wk (kPick h v15 v19 (.bool false)) fun v20 h =>
  wsp v20 fun v21 =>
  wg (gdv true v21) (fun k => k v1 h) h fun v22 h =>
  wg (gdv true v21) (fun k => k v1 h) h fun v23 h =>
  wg (gdv true v21) (fun k => wk (kSl h 22 v23 none (some (.int .i64 1)) none) k) h fun v24 h =>
  wg (gdv true v21) (fun k => wcall cl (.func (.func 23) [] []) [v22, v24] h k) h fun v25 h =>
  wg (gdv true v21) (fun k => wk (kLen h v25) k) h fun v26 h =>
  g17_s1 cl (v21) (v26) h Q
def g17_s3 (cl : CL) (v1 v7 : AV) (h : AH) (Q : AV → AH → Prop) : Prop :=
  wk (kArith h .eql v7 (.int .i64 2)) fun v8 h =>
  wsp v8 fun v9 =>
  wg (gdv true v9) (fun k => k v1 h) h fun v10 h =>
  wg (gdv true v9) (fun k => wk (kBuild h [.int .i64 0, .int .i64 0] [(0, 1, (.int .i64 1)), (1, 1, (.int .i64 7))]) k) h fun v11 h =>
  wg (gdv true v9) (fun k => wcall cl (.func (.func 15) [] []) [v10, v11] h k) h fun v12 h =>
  wg (gdv true v9) (fun k => wk (kArith h .eql v12 (.int .i64 1)) k) h fun v13 h =>
  wk (kPick h v9 v13 (.bool false)) fun v14 h =>
  wsp v14 fun v15 =>
  wg (gdv true v15) (fun k => k v1 h) h fun v16 h =>
  wg (gdv true v15) (fun k => wk (kBuild h [.int .i64 0, .int .i64 0] [(0, 1, (.int .i64 1)), (1, 1, (.int .i64 17))]) k) h fun v17 h =>
  g17_s2 cl (v1) (v15) (v16) (v17) h Q
def g17_s4 (cl : CL) (v2 : AV) (h : AH) (Q : AV → AH → Prop) : Prop :=
  wcall cl (.func (.func 26) [] []) [(.int .i64 5), (.int .i64 5), (.int .i64 10), (.int .i64 10), (.int .i64 2)] h fun v3 h =>
  wk (kBuildSl h 22 2 [.int .i64 0, .int .i64 0, .int .i64 0, .int .i64 0, .int .i64 0, .int .i64 0, .bool false, .int .i64 0, .int .i64 0, .int .i64 0, .int .i64 0, .str [], .int .i64 0, .int .i64 0, .int .i64 0, .int .i64 0, .int .i64 0, .int .i64 0, .int .i64 0, .int .i64 0, .int .i64 0, .nilsl, .int .i64 0, .int .i64 0, .int .i64 0, .int .i64 0, .int .i64 0, .int .i64 0, .bool false, .int .i64 0, .int .i64 0, .int .i64 0, .int .i64 0, .str [], .int .i64 0, .int .i64 0, .int .i64 0, .int .i64 0, .int .i64 0, .int .i64 0, .int .i64 0, .int .i64 0, .int .i64 0, .nilsl] [(0, 22, v2), (22, 22, v3)]) fun v4 h =>
  wk (kBuild h [.int .i64 0, .int .i64 0] [(0, 1, (.int .i64 7)), (1, 1, (.int .i64 7))]) fun v6 h =>
  wcall cl (.func (.func 15) [] []) [v4, v6] h fun v7 h =>
  g17_s3 cl (v4) (v7) h Q
def g17 (cl : CL) (h : AH) (Q : AV → AH → Prop) : Prop :=
  wcall cl (.func (.func 26) [] []) [(.int .i64 0), (.int .i64 0), (.int .i64 10), (.int .i64 10), (.int .i64 1)] h fun v2 h =>
  g17_s4 cl (v2) h Q
theorem g17_eq (cl : CL) (h : AH) (Q : AV → AH → Prop) : wrun cl S17 [] h Q = g17 cl  h Q := by kernel_rfl
theorem C17 {cl : CL} (hcl : CLOk Try.prog cl) {h : AH} {Q : AV → AH → Prop} (hg : g17 cl  h Q) : CallsA Try.prog 17 [] h Q := wfn_ok hcl (f := 17) (fn := Try.f17) (by kernel_rfl) S17_ok (by decide) (by kernel_rfl) (its_nil (by kernel_rfl)) (by rw [g17_eq]; exact hg)

/- widgetry/display.Damage -/
def S23.r0 : List AOpr := [
  ⟨some 4, .mov (.const (.nilsl)), none⟩]
def S23.r1 : List AOpr := [
  ⟨some 15, .mov (.tmp 0), none⟩,
  ⟨some 16, .mov (.tmp 1), none⟩,
  ⟨some 17, .call (.const (.func (.func 27) [] [])) [.tmp 15, .tmp 16], none⟩,
  ⟨some 5, .mov (.tmp 17), none⟩]
def S23.r2 : List AOpr := [
  ⟨some 18, .mov (.tmp 5), none⟩,
  ⟨some 19, .len (.tmp 18), none⟩,
  ⟨some 20, .arith .eql (.tmp 19) (.const (.int .i64 0)), none⟩]
def S23.r3 : List AOpr := [
  ⟨some 4, .mov (.const (.nilsl)), none⟩]
def S23.r4 : List (AOpr × Option Nat) := [
  (⟨some 21, .mov (.tmp 0), none⟩, none),
  (⟨some 22, .call (.const (.func (.func 13) [] [])) [.tmp 21], none⟩, none),
  (⟨some 23, .arith .neq (.tmp 22) (.const (.int .i64 0)), none⟩, none),
  (⟨some 24, .mov (.tmp 23), none⟩, none),
  (⟨some 25, .mov (.tmp 1), some (24, false)⟩, some 24),
  (⟨some 26, .call (.const (.func (.func 13) [] [])) [.tmp 25], some (24, false)⟩, none),
  (⟨some 27, .arith .neq (.tmp 26) (.const (.int .i64 0)), some (24, false)⟩, none),
  (⟨some 28, .pick (.tmp 24) (.const (.bool true)) (.tmp 27), none⟩, none)]
def S23.r5 : List AOpr := [
  ⟨some 29, .call (.const (.func (.func 51) [] [])) [], none⟩,
  ⟨some 4, .mov (.tmp 29), none⟩]
def S23.r6 : List AOpr := [
  ⟨some 30, .mov (.tmp 5), none⟩,
  ⟨some 31, .idxA 3 (.tmp 30) (.const (.int .i64 0)), none⟩,
  ⟨some 32, .ldn 3 (.tmp 31), none⟩,
  ⟨some 6, .new [.int .i64 0, .int .i64 0, .nilsl], none⟩,
  ⟨none, .st 3 (.tmp 6) (.tmp 32), none⟩]
def S23.r7 : List AOpr := [
  ⟨some 7, .mov (.const (.func (.func 52) [] [])), none⟩]
def S23.r8 : List (AOpr × Nat) := [
  (⟨some 33, .fldA 0 (.tmp 6), none⟩, 0),
  (⟨some 34, .ld1 (.tmp 33), none⟩, 1),
  (⟨some 35, .fldA 0 (.tmp 6), none⟩, 0),
  (⟨some 36, .ld1 (.tmp 35), none⟩, 4),
  (⟨some 37, .fldA 1 (.tmp 6), none⟩, 0),
  (⟨some 38, .ld1 (.tmp 37), none⟩, 16),
  (⟨some 39, .arith .add (.tmp 36) (.tmp 38), none⟩, 60),
  (⟨some 40, .fldA 0 (.tmp 6), none⟩, 0),
  (⟨some 41, .ld1 (.tmp 40), none⟩, 128),
  (⟨some 42, .fldA 2 (.tmp 6), none⟩, 0),
  (⟨some 43, .ld1 (.tmp 42), none⟩, 512),
  (⟨some 44, .len (.tmp 43), none⟩, 1536),
  (⟨some 45, .arith .add (.tmp 41) (.tmp 44), none⟩, 3968),
  (⟨some 8, .mov (.tmp 34), none⟩, 3),
  (⟨some 9, .mov (.tmp 39), none⟩, 8319),
  (⟨some 10, .mov (.tmp 45), none⟩, 32767)]
def S23.r9 : List (AOpr × Option Nat) := [
  (⟨some 46, .mov (.tmp 0), none⟩, none),
  (⟨some 47, .mov (.tmp 8), none⟩, none),
  (⟨some 48, .mov (.tmp 9), none⟩, none),
  (⟨some 49, .sl 22 (.tmp 46) (some (.tmp 47)) (some (.tmp 48)) none, none⟩, none),
  (⟨some 50, .mov (.tmp 7), none⟩, none),
  (⟨some 51, .call (.const (.func (.func 53) [] [])) [.tmp 49, .tmp 50], none⟩, none),
  (⟨some 52, .mov (.tmp 51), none⟩, none),
  (⟨some 53, .fldA 2 (.tmp 6), some (52, false)⟩, some 52),
  (⟨some 54, .ld1 (.tmp 53), some (52, false)⟩, none),
  (⟨some 55, .mov (.tmp 7), some (52, false)⟩, none),
  (⟨some 56, .call (.const (.func (.func 53) [] [])) [.tmp 54, .tmp 55], some (52, false)⟩, none),
  (⟨some 57, .pick (.tmp 52) (.const (.bool true)) (.tmp 56), none⟩, none)]
def S23.r10 : List AOpr := [
  ⟨some 58, .mov (.tmp 0), none⟩,
  ⟨some 59, .len (.tmp 58), none⟩,
  ⟨some 60, .mov (.tmp 1), none⟩,
  ⟨some 61, .len (.tmp 60), none⟩,
  ⟨some 8, .mov (.const (.int .i64 0)), none⟩,
  ⟨some 9, .mov (.tmp 59), none⟩,
  ⟨some 10, .mov (.tmp 61), none⟩]
def S23.r11 : List AOpr := [
  ⟨some 63, .mov (.tmp 0), none⟩,
  ⟨some 64, .mov (.tmp 8), none⟩,
  ⟨some 65, .mov (.tmp 9), none⟩,
  ⟨some 66, .call (.const (.func (.func 54) [] [])) [.tmp 63, .tmp 64, .tmp 65], none⟩,
  ⟨some 62, .mov (.tmp 66), none⟩,
  ⟨some 67, .ext (.tmp 62) 0, none⟩,
  ⟨some 68, .ext (.tmp 62) 1, none⟩,
  ⟨some 11, .mov (.tmp 67), none⟩,
  ⟨some 12, .mov (.tmp 68), none⟩]
def S23.r12 : List AOpr := [
  ⟨some 70, .mov (.tmp 1), none⟩,
  ⟨some 71, .mov (.tmp 8), none⟩,
  ⟨some 72, .mov (.tmp 10), none⟩,
  ⟨some 73, .call (.const (.func (.func 54) [] [])) [.tmp 70, .tmp 71, .tmp 72], none⟩,
  ⟨some 69, .mov (.tmp 73), none⟩,
  ⟨some 74, .ext (.tmp 69) 0, none⟩,
  ⟨some 75, .ext (.tmp 69) 1, none⟩,
  ⟨some 13, .mov (.tmp 74), none⟩,
  ⟨some 14, .mov (.tmp 75), none⟩]
def S23.r13 : List (AOpr × Option Nat) := [
  (⟨some 76, .mov (.tmp 12), none⟩, none),
  (⟨some 77, .un .not (.tmp 76), none⟩, none),
  (⟨some 78, .mov (.tmp 77), none⟩, none),
  (⟨some 79, .mov (.tmp 14), some (78, false)⟩, some 78),
  (⟨some 80, .un .not (.tmp 79), some (78, false)⟩, none),
  (⟨some 81, .pick (.tmp 78) (.const (.bool true)) (.tmp 80), none⟩, none)]
def S23.r14 : List AOpr := [
  ⟨some 82, .call (.const (.func (.func 51) [] [])) [], none⟩,
  ⟨some 4, .mov (.tmp 82), none⟩]
def S23.r15 : List AOpr := [
  ⟨some 83, .mov (.tmp 11), none⟩,
  ⟨some 84, .mov (.tmp 13), none⟩,
  ⟨some 85, .app 4 32 (.tmp 83) (.tmp 84), none⟩,
  ⟨some 4, .mov (.tmp 85), none⟩]
def S23 : SFn := ⟨86, [.tmp 4], .seq (.reg S23.r0) (.seq (.reg S23.r1) (.seq (.seq (.reg S23.r2) (.cond (.tmp 20) (.seq (.reg S23.r3) (.ret)) (.skip))) (.seq (.seq (.joinN [0, 1, 5, 28] (.regS S23.r4)) (.cond (.tmp 28) (.seq (.reg S23.r5) (.ret)) (.skip))) (.seq (.reg S23.r6) (.seq (.reg S23.r7) (.seq (.draw S23.r8) (.seq (.seq (.joinN [0, 1, 8, 9, 10, 57] (.regS S23.r9)) (.joinN [0, 1, 8, 9, 10] (.cond (.tmp 57) (.reg S23.r10) (.skip)))) (.seq (.reg S23.r11) (.seq (.reg S23.r12) (.seq (.seq (.joinN [11, 13, 81] (.regS S23.r13)) (.cond (.tmp 81) (.seq (.reg S23.r14) (.ret)) (.skip))) (.seq (.reg S23.r15) (.ret))))))))))))⟩
theorem S23_ok : cFn Try.prog Try.f23 = some S23.erase := by kernel_rfl
def g23_s1 (cl : CL) (v0 v1 v5 v22 : AV) (h : AH) (k : List AV → AH → Prop) : Prop :=
  wk (kArith h .neq v22 (.int .i64 0)) fun v23 h =>
  wsp v23 fun v24 =>
  wg (gdv false v24) (fun k => k v1 h) h fun v25 h =>
  wg (gdv false v24) (fun k => wcall cl (.func (.func 13) [] []) [v25] h k) h fun v26 h =>
  wg (gdv false v24) (fun k => wk (kArith h .neq v26 (.int .i64 0)) k) h fun v27 h =>
  wk (kPick h v24 (.bool true) v27) fun v28 h =>
  k [v0, v1, v5, v28] h
def g23_a1 (cl : CL) (v0 v1 v5 : AV) (h : AH) (k : List AV → AH → Prop) : Prop :=
  wcall cl (.func (.func 13) [] []) [v0] h fun v22 h =>
  g23_s1 cl (v0) (v1) (v5) (v22) h k
def g23_s2 (cl : CL) (v0 v1 v6 v7 v8 v9 v10 v51 : AV) (h : AH) (k : List AV → AH → Prop) : Prop :=
  wsp v51 fun v52 =>
  wg (gdv false v52) (fun k => wk (kFldA h 2 v6) k) h fun v53 h =>
  wg (gdv false v52) (fun k => wk (kLd1 h v53) k) h fun v54 h =>
  wg (gdv false v52) (fun k => k v7 h) h fun v55 h =>
  wg (gdv false v52) (fun k => wcall cl (.func (.func 53) [] []) [v54, v55] h k) h fun v56 h =>
  wk (kPick h v52 (.bool true) v56) fun v57 h =>
  k [v0, v1, v8, v9, v10, v57] h
def g23_a2 (cl : CL) (v0 v1 v6 v7 v8 v9 v10 : AV) (h : AH) (k : List AV → AH → Prop) : Prop :=
  wk (kSl h 22 v0 (some v8) (some v9) none) fun v49 h =>
  wcall cl (.func (.func 53) [] []) [v49, v7] h fun v51 h =>
  g23_s2 cl (v0) (v1) (v6) (v7) (v8) (v9) (v10) (v51) h k
def g23_a3 (cl : CL) (v0 v1 v8 v9 v10 v57 : AV) (h : AH) (k : List AV → AH → Prop) : Prop :=
  wif v57 (
  wk (kLen h v0) fun v59 h =>
  wk (kLen h v1) fun v61 h =>
  k [v0, v1, (.int .i64 0), v59, v61] h) (
  k [v0, v1, v8, v9, v10] h)
def g23_a4 (cl : CL) (v11 v12 v13 v14 : AV) (h : AH) (k : List AV → AH → Prop) : Prop :=
  wk (kUn h .not v12) fun v77 h =>
  wsp v77 fun v78 =>
  wg (gdv false v78) (fun k => k v14 h) h fun v79 h =>
  wg (gdv false v78) (fun k => wk (kUn h .not v79) k) h fun v80 h =>
  wk (kPick h v78 (.bool true) v80) fun v81 h =>
  k [v11, v13, v81] h
def g23_j5 (cl : CL) (v11 v13 v81 : AV) (h : AH) (Q : AV → AH → Prop) : Prop :=
  wif v81 (
  wcall cl (.func (.func 51) [] []) [] h fun v82 h =>
  Q (v82) h) (
  wk (kApp h 4 32 v11 v13) fun v85 h =>
  Q (v85) h)
def g23_s3 (cl : CL) (v11 v12 v73 : AV) (h : AH) (Q : AV → AH → Prop) : Prop :=
  wk (kExt h v73 0) fun v74 h =>
  wk (kExt h v73 1) fun v75 h =>
  wjoinN (g23_a4 cl (v11) (v12) (v74) (v75) h) fun vs h => g23_j5 cl (nthD vs 0) (nthD vs 1) (nthD vs 2) h Q
def g23_s4 (cl : CL) (v1 v8 v10 v66 : AV) (h : AH) (Q : AV → AH → Prop) : Prop :=
  wk (kExt h v66 0) fun v67 h =>
  wk (kExt h v66 1) fun v68 h =>
  wcall cl (.func (.func 54) [] []) [v1, v8, v10] h fun v73 h =>
  g23_s3 cl (v67) (v68) (v73) h Q
def g23_j6 (cl : CL) (v0 v1 v8 v9 v10 : AV) (h : AH) (Q : AV → AH → Prop) : Prop :=
  wcall cl (.func (.func 54) [] []) [v0, v8, v9] h fun v66 h =>
  g23_s4 cl (v1) (v8) (v10) (v66) h Q
def g23_j7 (cl : CL) (v0 v1 v8 v9 v10 v57 : AV) (h : AH) (Q : AV → AH → Prop) : Prop :=
  wjoinN (g23_a3 cl (v0) (v1) (v8) (v9) (v10) (v57) h) fun vs h => g23_j6 cl (nthD vs 0) (nthD vs 1) (nthD vs 2) (nthD vs 3) (nthD vs 4) h Q
def g23_s5 (cl : CL) (v0 v1 v6 v7 v34 v39 v41 v44 : AV) (h : AH) (Q : AV → AH → Prop) : Prop :=
  wdp h (kArith h .add v41 v44) .pure fun v45 c12 h =>
  wdp h (kMov h v34) .pure fun v8 c13 h =>
  wdp h (kMov h v39) .pure fun v9 c14 h =>
  wdp h (kMov h v45) .pure fun v10 c15 h =>
  wjoinN (g23_a2 cl (v0) (v1) (v6) (v7) (v8) (v9) (v10) h) fun vs h => g23_j7 cl (nthD vs 0) (nthD vs 1) (nthD vs 2) (nthD vs 3) (nthD vs 4) (nthD vs 5) h Q
def g23_s6 (cl : CL) (v0 v1 v6 v7 v34 v36 : AV) (h : AH) (Q : AV → AH → Prop) : Prop :=
  wdp h (kFldA h 1 v6) .pure fun v37 c4 h =>
  wdp h (kLd1 h v37) (rdK (rdv v37)) fun v38 c5 h =>
  wdp h (kArith h .add v36 v38) .pure fun v39 c6 h =>
  wdp h (kFldA h 0 v6) .pure fun v40 c7 h =>
  wdp h (kLd1 h v40) (rdK (rdv v40)) fun v41 c8 h =>
  wdp h (kFldA h 2 v6) .pure fun v42 c9 h =>
  wdp h (kLd1 h v42) (rdK (rdv v42)) fun v43 c10 h =>
  wdp h (kLen h v43) .pure fun v44 c11 h =>
  g23_s5 cl (v0) (v1) (v6) (v7) (v34) (v39) (v41) (v44) h Q
def g23_j8 (cl : CL) (v0 v1 v5 v28 : AV) (h : AH) (Q : AV → AH → Prop) : Prop :=
  wif v28 (
  wcall cl (.func (.func 51) [] []) [] h fun v29 h =>
  Q (v29) h) (
  wk (kIdxA h 3 v5 (.int .i64 0)) fun v31 h =>
  wk (kLdn h 3 v31) fun v32 h =>
  wk (kNew h [.int .i64 0, .int .i64 0, .nilsl]) fun v6 h =>
  wk (kSt h 3 v6 v32) fun _ h =>
  wdr h 16 fun r h =>
  wdp h (kFldA h 0 v6) .pure fun v33 c0 h =>
  wdp h (kLd1 h v33) (rdK (rdv v33)) fun v34 c1 h =>
  wdp h (kFldA h 0 v6) .pure fun v35 c2 h =>
  wdp h (kLd1 h v35) (rdK (rdv v35)) fun v36 c3 h =>
  g23_s6 cl (v0) (v1) (v6) ((.func (.func 52) [] [])) (v34) (v36) h Q)
def g23 (cl : CL) (v0 v1 : AV) (h : AH) (Q : AV → AH → Prop) : Prop :=
  wcall cl (.func (.func 27) [] []) [v0, v1] h fun v17 h =>
  wk (kLen h v17) fun v19 h =>
  wk (kArith h .eql v19 (.int .i64 0)) fun v20 h =>
  wif v20 (
  Q ((.nilsl)) h) (
  wjoinN (g23_a1 cl (v0) (v1) (v17) h) fun vs h => g23_j8 cl (nthD vs 0) (nthD vs 1) (nthD vs 2) (nthD vs 3) h Q)
theorem g23_eq (cl : CL) (v0 v1 : AV) (h : AH) (Q : AV → AH → Prop) : wrun cl S23 [v0, v1] h Q = g23 cl v0 v1 h Q := by kernel_rfl
theorem C23 {cl : CL} (hcl : CLOk Try.prog cl) {v0 v1 : AV} {h : AH} {Q : AV → AH → Prop} (hg : g23 cl v0 v1 h Q) : CallsA Try.prog 23 [v0, v1] h Q := wfn_ok hcl (f := 23) (fn := Try.f23) (by kernel_rfl) S23_ok (by decide) (by kernel_rfl) (its_nil (by kernel_rfl)) (by rw [g23_eq]; exact hg)

/- widgetry/widgetrylaw24.fill -/
def S26.r0 : List AOpr := [
  ⟨some 10, .new [.int .i64 0, .int .i64 0, .int .i64 0, .int .i64 0, .int .i64 0, .int .i64 0, .bool false, .int .i64 0, .int .i64 0, .int .i64 0, .int .i64 0, .str [], .int .i64 0, .int .i64 0, .int .i64 0, .int .i64 0, .int .i64 0, .int .i64 0, .int .i64 0, .int .i64 0, .int .i64 0, .nilsl], none⟩]
def S26.r1 : List AOpr := [
  ⟨some 11, .mov (.tmp 0), none⟩,
  ⟨some 12, .mov (.tmp 1), none⟩,
  ⟨some 13, .mov (.tmp 2), none⟩,
  ⟨some 14, .mov (.tmp 3), none⟩,
  ⟨some 15, .build [.int .i64 0, .int .i64 0, .int .i64 0, .int .i64 0] [(0, 1, .tmp 11), (1, 1, .tmp 12), (2, 1, .tmp 13), (3, 1, .tmp 14)], none⟩,
  ⟨some 16, .mov (.tmp 4), none⟩,
  ⟨some 17, .build [.int .i64 0, .int .i64 0, .int .i64 0, .int .i64 0, .int .i64 0, .int .i64 0, .bool false, .int .i64 0, .int .i64 0, .int .i64 0, .int .i64 0, .str [], .int .i64 0, .int .i64 0, .int .i64 0, .int .i64 0, .int .i64 0, .int .i64 0, .int .i64 0, .int .i64 0, .int .i64 0, .nilsl] [(0, 1, .const (.int .i64 4)), (1, 4, .tmp 15), (10, 1, .tmp 16)], none⟩,
  ⟨none, .st 22 (.tmp 10) (.tmp 17), none⟩]
def S26 : SFn := ⟨18, [.cell 10 (some 22)], .seq (.reg S26.r0) (.seq (.reg S26.r1) (.ret))⟩
theorem S26_ok : cFn Try.prog Try.f26 = some S26.erase := by kernel_rfl
def g26 (cl : CL) (v0 v1 v2 v3 v4 : AV) (h : AH) (Q : AV → AH → Prop) : Prop :=
  wk (kNew h [.int .i64 0, .int .i64 0, .int .i64 0, .int .i64 0, .int .i64 0, .int .i64 0, .bool false, .int .i64 0, .int .i64 0, .int .i64 0, .int .i64 0, .str [], .int .i64 0, .int .i64 0, .int .i64 0, .int .i64 0, .int .i64 0, .int .i64 0, .int .i64 0, .int .i64 0, .int .i64 0, .nilsl]) fun v10 h =>
  wk (kBuild h [.int .i64 0, .int .i64 0, .int .i64 0, .int .i64 0] [(0, 1, v0), (1, 1, v1), (2, 1, v2), (3, 1, v3)]) fun v15 h =>
  wk (kBuild h [.int .i64 0, .int .i64 0, .int .i64 0, .int .i64 0, .int .i64 0, .int .i64 0, .bool false, .int .i64 0, .int .i64 0, .int .i64 0, .int .i64 0, .str [], .int .i64 0, .int .i64 0, .int .i64 0, .int .i64 0, .int .i64 0, .int .i64 0, .int .i64 0, .int .i64 0, .int .i64 0, .nilsl] [(0, 1, (.int .i64 4)), (1, 4, v15), (10, 1, v4)]) fun v17 h =>
  wk (kSt h 22 v10 v17) fun _ h =>
  wres (aresV h [.cell (v10) (some 22)]) h Q
theorem g26_eq (cl : CL) (v0 v1 v2 v3 v4 : AV) (h : AH) (Q : AV → AH → Prop) : wrun cl S26 [v0, v1, v2, v3, v4] h Q = g26 cl v0 v1 v2 v3 v4 h Q := by kernel_rfl
theorem C26 {cl : CL} (hcl : CLOk Try.prog cl) {v0 v1 v2 v3 v4 : AV} {h : AH} {Q : AV → AH → Prop} (hg : g26 cl v0 v1 v2 v3 v4 h Q) : CallsA Try.prog 26 [v0, v1, v2, v3, v4] h Q := wfn_ok hcl (f := 26) (fn := Try.f26) (by kernel_rfl) S26_ok (by decide) (by kernel_rfl) (its_nil (by kernel_rfl)) (by rw [g26_eq]; exact hg)

/- widgetry/display.Diff -/
def S27.r0 : List AOpr := [
  ⟨some 4, .mov (.const (.nilsl)), none⟩]
def S27.r1 : List AOpr := [
  ⟨some 7, .mov (.tmp 0), none⟩,
  ⟨some 8, .mov (.tmp 1), none⟩,
  ⟨some 9, .call (.const (.func (.func 58) [] [])) [.tmp 7, .tmp 8, .const (.func (.func 11) [] [])], none⟩]
def S27.r2 : List AOpr := [
  ⟨some 4, .mov (.const (.nilsl)), none⟩]
def S27.r3 : List AOpr := [
  ⟨some 5, .mov (.const (.int .i64 0)), none⟩]
def S27.r4 : List ((AOpr × Nat) × Option Nat) := [
  ((⟨some 10, .mov (.tmp 5), none⟩, 0), none),
  ((⟨some 11, .mov (.tmp 0), none⟩, 0), none),
  ((⟨some 12, .len (.tmp 11), none⟩, 2), none),
  ((⟨some 13, .mov (.tmp 1), none⟩, 0), none),
  ((⟨some 14, .len (.tmp 13), none⟩, 8), none),
  ((⟨some 15, .mnmx false (.tmp 12) (.tmp 14), none⟩, 30), none),
  ((⟨some 16, .arith .lss (.tmp 10) (.tmp 15), none⟩, 63), none),
  ((⟨some 17, .mov (.tmp 16), none⟩, 127), none),
  ((⟨some 18, .mov (.tmp 0), some (17, true)⟩, 255), some 17),
  ((⟨some 19, .mov (.tmp 5), some (17, true)⟩, 255), none),
  ((⟨some 20, .idxA 22 (.tmp 18) (.tmp 19), some (17, true)⟩, 1023), none),
  ((⟨some 21, .ldn 22 (.tmp 20), some (17, true)⟩, 2047), none),
  ((⟨some 22, .mov (.tmp 1), some (17, true)⟩, 255), none),
  ((⟨some 23, .mov (.tmp 5), some (17, true)⟩, 255), none),
  ((⟨some 24, .idxA 22 (.tmp 22) (.tmp 23), some (17, true)⟩, 12543), none),
  ((⟨some 25, .ldn 22 (.tmp 24), some (17, true)⟩, 28927), none),
  ((⟨some 26, .call (.const (.func (.func 11) [] [])) [.tmp 21, .tmp 25], some (17, true)⟩, 65535), none),
  ((⟨some 27, .pick (.tmp 17) (.tmp 26) (.const (.bool false)), none⟩, 131071), none)]
def S27.r5 : List AOpr := [
  ⟨some 28, .mov (.tmp 5), none⟩,
  ⟨some 29, .arith .add (.tmp 28) (.const (.int .i64 1)), none⟩,
  ⟨some 5, .mov (.tmp 29), none⟩]
def S27.r6 : List AOpr := [
  ⟨some 6, .mov (.const (.int .i64 0)), none⟩]
def S27.r7 : List ((AOpr × Nat) × Option Nat) := [
  ((⟨some 30, .mov (.tmp 6), none⟩, 0), none),
  ((⟨some 31, .mov (.tmp 0), none⟩, 0), none),
  ((⟨some 32, .len (.tmp 31), none⟩, 2), none),
  ((⟨some 33, .mov (.tmp 1), none⟩, 0), none),
  ((⟨some 34, .len (.tmp 33), none⟩, 8), none),
  ((⟨some 35, .mnmx false (.tmp 32) (.tmp 34), none⟩, 30), none),
  ((⟨some 36, .mov (.tmp 5), none⟩, 0), none),
  ((⟨some 37, .arith .sub (.tmp 35) (.tmp 36), none⟩, 126), none),
  ((⟨some 38, .arith .lss (.tmp 30) (.tmp 37), none⟩, 255), none),
  ((⟨some 39, .mov (.tmp 38), none⟩, 511), none),
  ((⟨some 40, .mov (.tmp 0), some (39, true)⟩, 1023), some 39),
  ((⟨some 41, .mov (.tmp 0), some (39, true)⟩, 1023), none),
  ((⟨some 42, .len (.tmp 41), some (39, true)⟩, 3071), none),
  ((⟨some 43, .arith .sub (.tmp 42) (.const (.int .i64 1)), some (39, true)⟩, 7167), none),
  ((⟨some 44, .mov (.tmp 6), some (39, true)⟩, 1023), none),
  ((⟨some 45, .arith .sub (.tmp 43) (.tmp 44), some (39, true)⟩, 31743), none),
  ((⟨some 46, .idxA 22 (.tmp 40) (.tmp 45), some (39, true)⟩, 65535), none),
  ((⟨some 47, .ldn 22 (.tmp 46), some (39, true)⟩, 131071), none),
  ((⟨some 48, .mov (.tmp 1), some (39, true)⟩, 1023), none),
  ((⟨some 49, .mov (.tmp 1), some (39, true)⟩, 1023), none),
  ((⟨some 50, .len (.tmp 49), some (39, true)⟩, 525311), none),
  ((⟨some 51, .arith .sub (.tmp 50) (.const (.int .i64 1)), some (39, true)⟩, 1573887), none),
  ((⟨some 52, .mov (.tmp 6), some (39, true)⟩, 1023), none),
  ((⟨some 53, .arith .sub (.tmp 51) (.tmp 52), some (39, true)⟩, 7865343), none),
  ((⟨some 54, .idxA 22 (.tmp 48) (.tmp 53), some (39, true)⟩, 16516095), none),
  ((⟨some 55, .ldn 22 (.tmp 54), some (39, true)⟩, 33293311), none),
  ((⟨some 56, .call (.const (.func (.func 11) [] [])) [.tmp 47, .tmp 55], some (39, true)⟩, 67108863), none),
  ((⟨some 57, .pick (.tmp 39) (.tmp 56) (.const (.bool false)), none⟩, 134217727), none)]
def S27.r8 : List AOpr := [
  ⟨some 58, .mov (.tmp 6), none⟩,
  ⟨some 59, .arith .add (.tmp 58) (.const (.int .i64 1)), none⟩,
  ⟨some 6, .mov (.tmp 59), none⟩]
def S27.r9 : List AOpr := [
  ⟨some 60, .mov (.tmp 5), none⟩,
  ⟨some 61, .mov (.tmp 0), none⟩,
  ⟨some 62, .len (.tmp 61), none⟩,
  ⟨some 63, .mov (.tmp 6), none⟩,
  ⟨some 64, .arith .sub (.tmp 62) (.tmp 63), none⟩,
  ⟨some 65, .mov (.tmp 5), none⟩,
  ⟨some 66, .arith .sub (.tmp 64) (.tmp 65), none⟩,
  ⟨some 67, .mov (.tmp 1), none⟩,
  ⟨some 68, .mov (.tmp 5), none⟩,
  ⟨some 69, .mov (.tmp 1), none⟩,
  ⟨some 70, .len (.tmp 69), none⟩,
  ⟨some 71, .mov (.tmp 6), none⟩,
  ⟨some 72, .arith .sub (.tmp 70) (.tmp 71), none⟩,
  ⟨some 73, .sl 22 (.tmp 67) (some (.tmp 68)) (some (.tmp 72)) none, none⟩,
  ⟨some 74, .call (.const (.func (.func 59) [] [])) [.tmp 73], none⟩,
  ⟨some 75, .build [.int .i64 0, .int .i64 0, .nilsl] [(0, 1, .tmp 60), (1, 1, .tmp 66), (2, 1, .tmp 74)], none⟩,
  ⟨some 76, .buildSl 3 1 [.int .i64 0, .int .i64 0, .nilsl] [(0, 3, .tmp 75)], none⟩,
  ⟨some 4, .mov (.tmp 76), none⟩]
def S27 : SFn := ⟨77, [.tmp 4], .seq (.reg S27.r0) (.seq (.seq (.reg S27.r1) (.cond (.tmp 9) (.seq (.reg S27.r2) (.ret)) (.skip))) (.seq (.reg S27.r3) (.seq (.block 0 (.loop [0, 1, 5] [0, 1, 5] (.seq (.seq (.joinN [0, 1, 5, 27] (.drawS S27.r4)) (.cond (.tmp 27) (.skip) (.exit 0))) (.block 1 (.reg S27.r5))))) (.seq (.reg S27.r6) (.seq (.block 2 (.loop [0, 1, 5, 6] [0, 1, 5, 6] (.seq (.seq (.joinN [0, 1, 5, 6, 57] (.drawS S27.r7)) (.cond (.tmp 57) (.skip) (.exit 2))) (.block 3 (.reg S27.r8))))) (.seq (.reg S27.r9) (.ret)))))))⟩
theorem S27_ok : cFn Try.prog Try.f27 = some S27.erase := by kernel_rfl
def g27_s1 (cl : CL) (v0 v1 v5 v17 v21 v25 : AV) (h : AH) (k : List AV → AH → Prop) : Prop :=
  wgd (gdv true v17) (fun k => wdc cl (.func (.func 11) [] []) [v21, v25] h k) h fun v26 c16 h =>
  wdp h (kPick h v17 v26 (.bool false)) .pure fun v27 c17 h =>
  k [v0, v1, v5, v27] h
def g27_s2 (cl : CL) (v0 v1 v5 v17 : AV) (h : AH) (k : List AV → AH → Prop) : Prop :=
  wsp v17 fun v17 =>
  wgd (gdv true v17) (fun k => wdp h (kMov h v0) .pure k) h fun v18 c8 h =>
  wgd (gdv true v17) (fun k => wdp h (kMov h v5) .pure k) h fun v19 c9 h =>
  wgd (gdv true v17) (fun k => wdp h (kIdxA h 22 v18 v19) .pure k) h fun v20 c10 h =>
  wgd (gdv true v17) (fun k => wdp h (kLdn h 22 v20) (rdK (rdv v20)) k) h fun v21 c11 h =>
  wgd (gdv true v17) (fun k => wdp h (kMov h v1) .pure k) h fun v22 c12 h =>
  wgd (gdv true v17) (fun k => wdp h (kMov h v5) .pure k) h fun v23 c13 h =>
  wgd (gdv true v17) (fun k => wdp h (kIdxA h 22 v22 v23) .pure k) h fun v24 c14 h =>
  wgd (gdv true v17) (fun k => wdp h (kLdn h 22 v24) (rdK (rdv v24)) k) h fun v25 c15 h =>
  g27_s1 cl (v0) (v1) (v5) (v17) (v21) (v25) h k
def g27_a1 (cl : CL) (v0 v1 v5 : AV) (h : AH) (k : List AV → AH → Prop) : Prop :=
  wdr h 18 fun r h =>
  wdp h (kMov h v5) .pure fun v10 c0 h =>
  wdp h (kMov h v0) .pure fun v11 c1 h =>
  wdp h (kLen h v11) .pure fun v12 c2 h =>
  wdp h (kMov h v1) .pure fun v13 c3 h =>
  wdp h (kLen h v13) .pure fun v14 c4 h =>
  wdp h (kMnmx h false v12 v14) .pure fun v15 c5 h =>
  wdp h (kArith h .lss v10 v15) .pure fun v16 c6 h =>
  wdp h (kMov h v16) .pure fun v17 c7 h =>
  g27_s2 cl (v0) (v1) (v5) (v17) h k
def g27_j2 (cl : CL) (v0 v1 v5 v27 : AV) (h : AH) (k : AX → List AV → List AV → AH → Prop) : Prop :=
  wif v27 (
  wk (kArith h .add v5 (.int .i64 1)) fun v29 h =>
  k .nrm [v0, v1, v29] [v0, v1, v29] h) (
  k (.exit 0) [v0, v1, v5] [v0, v1, v5] h)
def g27_l3 (cl : CL) (v0 v1 v5 : AV) (h : AH) (k : AX → List AV → List AV → AH → Prop) : Prop :=
  wjoinN (g27_a1 cl (v0) (v1) (v5) h) fun vs h => g27_j2 cl (nthD vs 0) (nthD vs 1) (nthD vs 2) (nthD vs 3) h k
def g27_s3 (cl : CL) (v0 v1 v5 v6 v39 v47 v48 v53 : AV) (h : AH) (k : List AV → AH → Prop) : Prop :=
  wgd (gdv true v39) (fun k => wdp h (kIdxA h 22 v48 v53) .pure k) h fun v54 c24 h =>
  wgd (gdv true v39) (fun k => wdp h (kLdn h 22 v54) (rdK (rdv v54)) k) h fun v55 c25 h =>
  wgd (gdv true v39) (fun k => wdc cl (.func (.func 11) [] []) [v47, v55] h k) h fun v56 c26 h =>
  wdp h (kPick h v39 v56 (.bool false)) .pure fun v57 c27 h =>
  k [v0, v1, v5, v6, v57] h
def g27_s4 (cl : CL) (v0 v1 v5 v6 v39 v40 v45 : AV) (h : AH) (k : List AV → AH → Prop) : Prop :=
  wgd (gdv true v39) (fun k => wdp h (kIdxA h 22 v40 v45) .pure k) h fun v46 c16 h =>
  wgd (gdv true v39) (fun k => wdp h (kLdn h 22 v46) (rdK (rdv v46)) k) h fun v47 c17 h =>
  wgd (gdv true v39) (fun k => wdp h (kMov h v1) .pure k) h fun v48 c18 h =>
  wgd (gdv true v39) (fun k => wdp h (kMov h v1) .pure k) h fun v49 c19 h =>
  wgd (gdv true v39) (fun k => wdp h (kLen h v49) .pure k) h fun v50 c20 h =>
  wgd (gdv true v39) (fun k => wdp h (kArith h .sub v50 (.int .i64 1)) .pure k) h fun v51 c21 h =>
  wgd (gdv true v39) (fun k => wdp h (kMov h v6) .pure k) h fun v52 c22 h =>
  wgd (gdv true v39) (fun k => wdp h (kArith h .sub v51 v52) .pure k) h fun v53 c23 h =>
  g27_s3 cl (v0) (v1) (v5) (v6) (v39) (v47) (v48) (v53) h k
def g27_s5 (cl : CL) (v0 v1 v5 v6 v30 v37 : AV) (h : AH) (k : List AV → AH → Prop) : Prop :=
  wdp h (kArith h .lss v30 v37) .pure fun v38 c8 h =>
  wdp h (kMov h v38) .pure fun v39 c9 h =>
  wsp v39 fun v39 =>
  wgd (gdv true v39) (fun k => wdp h (kMov h v0) .pure k) h fun v40 c10 h =>
  wgd (gdv true v39) (fun k => wdp h (kMov h v0) .pure k) h fun v41 c11 h =>
  wgd (gdv true v39) (fun k => wdp h (kLen h v41) .pure k) h fun v42 c12 h =>
  wgd (gdv true v39) (fun k => wdp h (kArith h .sub v42 (.int .i64 1)) .pure k) h fun v43 c13 h =>
  wgd (gdv true v39) (fun k => wdp h (kMov h v6) .pure k) h fun v44 c14 h =>
  wgd (gdv true v39) (fun k => wdp h (kArith h .sub v43 v44) .pure k) h fun v45 c15 h =>
  g27_s4 cl (v0) (v1) (v5) (v6) (v39) (v40) (v45) h k
def g27_a4 (cl : CL) (v0 v1 v5 v6 : AV) (h : AH) (k : List AV → AH → Prop) : Prop :=
  wdr h 28 fun r h =>
  wdp h (kMov h v6) .pure fun v30 c0 h =>
  wdp h (kMov h v0) .pure fun v31 c1 h =>
  wdp h (kLen h v31) .pure fun v32 c2 h =>
  wdp h (kMov h v1) .pure fun v33 c3 h =>
  wdp h (kLen h v33) .pure fun v34 c4 h =>
  wdp h (kMnmx h false v32 v34) .pure fun v35 c5 h =>
  wdp h (kMov h v5) .pure fun v36 c6 h =>
  wdp h (kArith h .sub v35 v36) .pure fun v37 c7 h =>
  g27_s5 cl (v0) (v1) (v5) (v6) (v30) (v37) h k
def g27_j5 (cl : CL) (v0 v1 v5 v6 v57 : AV) (h : AH) (k : AX → List AV → List AV → AH → Prop) : Prop :=
  wif v57 (
  wk (kArith h .add v6 (.int .i64 1)) fun v59 h =>
  k .nrm [v0, v1, v5, v59] [v0, v1, v5, v59] h) (
  k (.exit 2) [v0, v1, v5, v6] [v0, v1, v5, v6] h)
def g27_l6 (cl : CL) (v0 v1 v5 v6 : AV) (h : AH) (k : AX → List AV → List AV → AH → Prop) : Prop :=
  wjoinN (g27_a4 cl (v0) (v1) (v5) (v6) h) fun vs h => g27_j5 cl (nthD vs 0) (nthD vs 1) (nthD vs 2) (nthD vs 3) (nthD vs 4) h k
def g27_s6 (cl : CL) (v60 v66 v74 : AV) (h : AH) (Q : AV → AH → Prop) : Prop :=
  wk (kBuild h [.int .i64 0, .int .i64 0, .nilsl] [(0, 1, v60), (1, 1, v66), (2, 1, v74)]) fun v75 h =>
  wk (kBuildSl h 3 1 [.int .i64 0, .int .i64 0, .nilsl] [(0, 3, v75)]) fun v76 h =>
  Q (v76) h
def g27_c7 (cl : CL) (v0 v1 v5 v6 : AV) (h : AH) (Q : AV → AH → Prop) : Prop :=
  wk (kLen h v0) fun v62 h =>
  wk (kArith h .sub v62 v6) fun v64 h =>
  wk (kArith h .sub v64 v5) fun v66 h =>
  wk (kLen h v1) fun v70 h =>
  wk (kArith h .sub v70 v6) fun v72 h =>
  wk (kSl h 22 v1 (some v5) (some v72) none) fun v73 h =>
  wcall cl (.func (.func 59) [] []) [v73] h fun v74 h =>
  g27_s6 cl (v5) (v66) (v74) h Q
def g27_j8 (cl : CL) (x : AX) (v0 v1 v5 v6 : AV) (h : AH) (Q : AV → AH → Prop) : Prop :=
  xs x (g27_c7 cl (v0) (v1) (v5) (v6) h Q) (fun j => cond (Nat.beq j 2) (g27_c7 cl (v0) (v1) (v5) (v6) h Q) (False)) (Q (.undef) h)
def g27_c9 (cl : CL) (v0 v1 v5 : AV) (h : AH) (Q : AV → AH → Prop) : Prop :=
  wloop (fun vs h k => g27_l6 cl (nthD vs 0) (nthD vs 1) (nthD vs 2) (nthD vs 3) h k) [v0, v1, v5, (.int .i64 0)] h fun x vs h => g27_j8 cl x (nthD vs 0) (nthD vs 1) (nthD vs 2) (nthD vs 3) h Q
def g27_j10 (cl : CL) (x : AX) (v0 v1 v5 : AV) (h : AH) (Q : AV → AH → Prop) : Prop :=
  xs x (g27_c9 cl (v0) (v1) (v5) h Q) (fun j => cond (Nat.beq j 0) (g27_c9 cl (v0) (v1) (v5) h Q) (False)) (Q (.undef) h)
def g27 (cl : CL) (v0 v1 : AV) (h : AH) (Q : AV → AH → Prop) : Prop :=
  wcall cl (.func (.func 58) [] []) [v0, v1, (.func (.func 11) [] [])] h fun v9 h =>
  wif v9 (
  Q ((.nilsl)) h) (
  wloop (fun vs h k => g27_l3 cl (nthD vs 0) (nthD vs 1) (nthD vs 2) h k) [v0, v1, (.int .i64 0)] h fun x vs h => g27_j10 cl x (nthD vs 0) (nthD vs 1) (nthD vs 2) h Q)
theorem g27_eq (cl : CL) (v0 v1 : AV) (h : AH) (Q : AV → AH → Prop) : wrun cl S27 [v0, v1] h Q = g27 cl v0 v1 h Q := by kernel_rfl
theorem C27 {cl : CL} (hcl : CLOk Try.prog cl) {v0 v1 : AV} {h : AH} {Q : AV → AH → Prop} (hg : g27 cl v0 v1 h Q) : CallsA Try.prog 27 [v0, v1] h Q := wfn_ok hcl (f := 27) (fn := Try.f27) (by kernel_rfl) S27_ok (by decide) (by kernel_rfl) (its_nil (by kernel_rfl)) (by rw [g27_eq]; exact hg)

/- widgetry/display.Apply -/
def S28.r0 : List AOpr := [
  ⟨some 4, .mov (.const (.nilsl)), none⟩,
  ⟨some 5, .mov (.const (.int .i64 0)), none⟩]
def S28.r1 : List AOpr := [
  ⟨some 9, .mov (.tmp 0), none⟩,
  ⟨some 10, .call (.const (.func (.func 59) [] [])) [.tmp 9], none⟩,
  ⟨some 6, .mov (.tmp 10), none⟩]
def S28.r2 : List AOpr := [
  ⟨some 11, .mov (.tmp 1), none⟩,
  ⟨some 12, .len (.tmp 11), none⟩,
  ⟨some 13, .mov (.const (.int .i64 0)), none⟩]
def S28.r3 : List AOpr := [
  ⟨some 14, .arith .lss (.tmp 13) (.tmp 12), none⟩]
def S28.r4 : List AOpr := [
  ⟨some 15, .idxA 3 (.tmp 11) (.tmp 13), none⟩,
  ⟨some 16, .ldn 3 (.tmp 15), none⟩,
  ⟨some 8, .new [.int .i64 0, .int .i64 0, .nilsl], none⟩,
  ⟨none, .st 3 (.tmp 8) (.tmp 16), none⟩]
def S28.r5 : List (AOpr × Option Nat) := [
  (⟨some 17, .fldA 0 (.tmp 8), none⟩, none),
  (⟨some 18, .ld1 (.tmp 17), none⟩, none),
  (⟨some 19, .arith .lss (.tmp 18) (.const (.int .i64 0)), none⟩, none),
  (⟨some 20, .mov (.tmp 19), none⟩, none),
  (⟨some 21, .fldA 1 (.tmp 8), some (20, false)⟩, some 20),
  (⟨some 22, .ld1 (.tmp 21), some (20, false)⟩, none),
  (⟨some 23, .arith .lss (.tmp 22) (.const (.int .i64 0)), some (20, false)⟩, none),
  (⟨some 24, .pick (.tmp 20) (.const (.bool true)) (.tmp 23), none⟩, none),
  (⟨some 25, .mov (.tmp 24), none⟩, none),
  (⟨some 26, .fldA 0 (.tmp 8), some (25, false)⟩, some 25),
  (⟨some 27, .ld1 (.tmp 26), some (25, false)⟩, none),
  (⟨some 28, .mov (.tmp 6), some (25, false)⟩, none),
  (⟨some 29, .len (.tmp 28), some (25, false)⟩, none),
  (⟨some 30, .arith .gtr (.tmp 27) (.tmp 29), some (25, false)⟩, none),
  (⟨some 31, .pick (.tmp 25) (.const (.bool true)) (.tmp 30), none⟩, none),
  (⟨some 32, .mov (.tmp 31), none⟩, none),
  (⟨some 33, .fldA 1 (.tmp 8), some (32, false)⟩, some 32),
  (⟨some 34, .ld1 (.tmp 33), some (32, false)⟩, none),
  (⟨some 35, .mov (.tmp 6), some (32, false)⟩, none),
  (⟨some 36, .len (.tmp 35), some (32, false)⟩, none),
  (⟨some 37, .fldA 0 (.tmp 8), some (32, false)⟩, none),
  (⟨some 38, .ld1 (.tmp 37), some (32, false)⟩, none),
  (⟨some 39, .arith .sub (.tmp 36) (.tmp 38), some (32, false)⟩, none),
  (⟨some 40, .arith .gtr (.tmp 34) (.tmp 39), some (32, false)⟩, none),
  (⟨some 41, .pick (.tmp 32) (.const (.bool true)) (.tmp 40), none⟩, none)]
def S28.r6 : List AOpr := [
  ⟨some 4, .mov (.const (.nilsl)), none⟩,
  ⟨some 5, .mov (.const (.int .i64 1)), none⟩]
def S28.r7 : List AOpr := [
  ⟨some 42, .mov (.tmp 6), none⟩,
  ⟨some 43, .len (.tmp 42), none⟩,
  ⟨some 44, .fldA 1 (.tmp 8), none⟩,
  ⟨some 45, .ld1 (.tmp 44), none⟩,
  ⟨some 46, .arith .sub (.tmp 43) (.tmp 45), none⟩,
  ⟨some 47, .fldA 2 (.tmp 8), none⟩,
  ⟨some 48, .ld1 (.tmp 47), none⟩,
  ⟨some 49, .len (.tmp 48), none⟩,
  ⟨some 50, .arith .add (.tmp 46) (.tmp 49), none⟩,
  ⟨some 51, .arith .gtr (.tmp 50) (.const (.int .i64 20000)), none⟩]
def S28.r8 : List AOpr := [
  ⟨some 4, .mov (.const (.nilsl)), none⟩,
  ⟨some 5, .mov (.const (.int .i64 2)), none⟩]
def S28.r9 : List (AOpr × Nat) := [
  (⟨some 52, .mov (.tmp 6), none⟩, 0),
  (⟨some 53, .fldA 0 (.tmp 8), none⟩, 0),
  (⟨some 54, .ld1 (.tmp 53), none⟩, 2),
  (⟨some 55, .fldA 0 (.tmp 8), none⟩, 0),
  (⟨some 56, .ld1 (.tmp 55), none⟩, 8),
  (⟨some 57, .fldA 1 (.tmp 8), none⟩, 0),
  (⟨some 58, .ld1 (.tmp 57), none⟩, 32),
  (⟨some 59, .arith .add (.tmp 56) (.tmp 58), none⟩, 120),
  (⟨some 60, .fldA 2 (.tmp 8), none⟩, 0),
  (⟨some 61, .ld1 (.tmp 60), none⟩, 256),
  (⟨some 62, .call (.const (.func (.func 59) [] [])) [.tmp 61], none⟩, 768),
  (⟨some 63, .call (.const (.func (.func 60) [] [])) [.tmp 52, .tmp 54, .tmp 59, .tmp 62], none⟩, 2047),
  (⟨some 6, .mov (.tmp 63), none⟩, 4095)]
def S28.r10 : List AOpr := [
  ⟨some 64, .arith .add (.tmp 13) (.const (.int .i64 1)), none⟩,
  ⟨some 13, .mov (.tmp 64), none⟩]
def S28.r11 : List AOpr := [
  ⟨some 65, .mov (.tmp 6), none⟩,
  ⟨some 4, .mov (.tmp 65), none⟩,
  ⟨some 5, .mov (.const (.int .i64 0)), none⟩]
def S28 : SFn := ⟨66, [.tmp 4, .tmp 5], .seq (.reg S28.r0) (.seq (.reg S28.r1) (.seq (.seq (.reg S28.r2) (.block 0 (.loop [6, 11, 12, 13] [4, 5, 6] (.seq (.reg S28.r3) (.seq (.cond (.tmp 14) (.skip) (.exit 0)) (.seq (.block 1 (.seq (.reg S28.r4) (.seq (.seq (.joinN [6, 8, 11, 12, 13, 41] (.regS S28.r5)) (.cond (.tmp 41) (.seq (.reg S28.r6) (.ret)) (.skip))) (.seq (.seq (.reg S28.r7) (.cond (.tmp 51) (.seq (.reg S28.r8) (.ret)) (.skip))) (.draw S28.r9))))) (.reg S28.r10))))))) (.seq (.reg S28.r11) (.ret))))⟩
theorem S28_ok : cFn Try.prog Try.f28 = some S28.erase := by kernel_rfl
def g28_s1 (cl : CL) (v6 v8 v11 v12 v13 v32 v34 v35 : AV) (h : AH) (k : List AV → AH → Prop) : Prop :=
  wg (gdv false v32) (fun k => wk (kLen h v35) k) h fun v36 h =>
  wg (gdv false v32) (fun k => wk (kFldA h 0 v8) k) h fun v37 h =>
  wg (gdv false v32) (fun k => wk (kLd1 h v37) k) h fun v38 h =>
  wg (gdv false v32) (fun k => wk (kArith h .sub v36 v38) k) h fun v39 h =>
  wg (gdv false v32) (fun k => wk (kArith h .gtr v34 v39) k) h fun v40 h =>
  wk (kPick h v32 (.bool true) v40) fun v41 h =>
  k [v6, v8, v11, v12, v13, v41] h
def g28_s2 (cl : CL) (v6 v8 v11 v12 v13 v25 v26 : AV) (h : AH) (k : List AV → AH → Prop) : Prop :=
  wg (gdv false v25) (fun k => wk (kLd1 h v26) k) h fun v27 h =>
  wg (gdv false v25) (fun k => k v6 h) h fun v28 h =>
  wg (gdv false v25) (fun k => wk (kLen h v28) k) h fun v29 h =>
  wg (gdv false v25) (fun k => wk (kArith h .gtr v27 v29) k) h fun v30 h =>
  wk (kPick h v25 (.bool true) v30) fun v31 h =>
  wsp v31 fun v32 =>
  wg (gdv false v32) (fun k => wk (kFldA h 1 v8) k) h fun v33 h =>
  wg (gdv false v32) (fun k => wk (kLd1 h v33) k) h fun v34 h =>
  wg (gdv false v32) (fun k => k v6 h) h fun v35 h =>
  g28_s1 cl (v6) (v8) (v11) (v12) (v13) (v32) (v34) (v35) h k
def g28_a1 (cl : CL) (v6 v8 v11 v12 v13 : AV) (h : AH) (k : List AV → AH → Prop) : Prop :=
  wk (kFldA h 0 v8) fun v17 h =>
  wk (kLd1 h v17) fun v18 h =>
  wk (kArith h .lss v18 (.int .i64 0)) fun v19 h =>
  wsp v19 fun v20 =>
  wg (gdv false v20) (fun k => wk (kFldA h 1 v8) k) h fun v21 h =>
  wg (gdv false v20) (fun k => wk (kLd1 h v21) k) h fun v22 h =>
  wg (gdv false v20) (fun k => wk (kArith h .lss v22 (.int .i64 0)) k) h fun v23 h =>
  wk (kPick h v20 (.bool true) v23) fun v24 h =>
  wsp v24 fun v25 =>
  wg (gdv false v25) (fun k => wk (kFldA h 0 v8) k) h fun v26 h =>
  g28_s2 cl (v6) (v8) (v11) (v12) (v13) (v25) (v26) h k
def g28_s3 (cl : CL) (c2 c4 c6 : Rec) (v6 v8 v11 v12 v13 v52 v54 v56 v58 : AV) (h : AH) (k : AX → List AV → List AV → AH → Prop) : Prop :=
  wdp h (kArith h .add v56 v58) .pure fun v59 c7 h =>
  wdp h (kFldA h 2 v8) .pure fun v60 c8 h =>
  wdp h (kLd1 h v60) (rdK (rdv v60)) fun v61 c9 h =>
  wdc cl (.func (.func 59) [] []) [v61] h fun v62 c10 h =>
  wdc cl (.func (.func 60) [] []) [v52, v54, v59, v62] h fun v63 c11 h =>
  wdp h (kMov h v63) .pure fun v6 c12 h =>
  recOk c2 c10 = true ∧ recOk c4 c10 = true ∧ recOk c6 c10 = true ∧ wk (kArith h .add v13 (.int .i64 1)) fun v64 h =>
  k .nrm [v6, v11, v12, v64] [.undef, .undef, v6] h
def g28_s4 (cl : CL) (v6 v8 v11 v12 v13 v50 : AV) (h : AH) (k : AX → List AV → List AV → AH → Prop) : Prop :=
  wk (kArith h .gtr v50 (.int .i64 20000)) fun v51 h =>
  wif v51 (
  k .ret [v6, v11, v12, v13] [(.nilsl), (.int .i64 2), v6] h) (
  wdr h 13 fun r h =>
  wdp h (kMov h v6) .pure fun v52 c0 h =>
  wdp h (kFldA h 0 v8) .pure fun v53 c1 h =>
  wdp h (kLd1 h v53) (rdK (rdv v53)) fun v54 c2 h =>
  wdp h (kFldA h 0 v8) .pure fun v55 c3 h =>
  wdp h (kLd1 h v55) (rdK (rdv v55)) fun v56 c4 h =>
  wdp h (kFldA h 1 v8) .pure fun v57 c5 h =>
  wdp h (kLd1 h v57) (rdK (rdv v57)) fun v58 c6 h =>
  g28_s3 cl c2 c4 c6 (v6) (v8) (v11) (v12) (v13) (v52) (v54) (v56) (v58) h k)
def g28_j2 (cl : CL) (v6 v8 v11 v12 v13 v41 : AV) (h : AH) (k : AX → List AV → List AV → AH → Prop) : Prop :=
  wif v41 (
  k .ret [v6, v11, v12, v13] [(.nilsl), (.int .i64 1), v6] h) (
  wk (kLen h v6) fun v43 h =>
  wk (kFldA h 1 v8) fun v44 h =>
  wk (kLd1 h v44) fun v45 h =>
  wk (kArith h .sub v43 v45) fun v46 h =>
  wk (kFldA h 2 v8) fun v47 h =>
  wk (kLd1 h v47) fun v48 h =>
  wk (kLen h v48) fun v49 h =>
  wk (kArith h .add v46 v49) fun v50 h =>
  g28_s4 cl (v6) (v8) (v11) (v12) (v13) (v50) h k)
def g28_l3 (cl : CL) (v6 v11 v12 v13 : AV) (h : AH) (k : AX → List AV → List AV → AH → Prop) : Prop :=
  wk (kArith h .lss v13 v12) fun v14 h =>
  wif v14 (
  wk (kIdxA h 3 v11 v13) fun v15 h =>
  wk (kLdn h 3 v15) fun v16 h =>
  wk (kNew h [.int .i64 0, .int .i64 0, .nilsl]) fun v8 h =>
  wk (kSt h 3 v8 v16) fun _ h =>
  wjoinN (g28_a1 cl (v6) (v8) (v11) (v12) (v13) h) fun vs h => g28_j2 cl (nthD vs 0) (nthD vs 1) (nthD vs 2) (nthD vs 3) (nthD vs 4) (nthD vs 5) h k) (
  k (.exit 0) [v6, v11, v12, v13] [.undef, .undef, v6] h)
def g28_c4 (cl : CL) (v6 : AV) (h : AH) (Q : AV → AH → Prop) : Prop :=
  Q (.tup [v6, (.int .i64 0)]) h
def g28_j5 (cl : CL) (x : AX) (v4 v5 v6 : AV) (h : AH) (Q : AV → AH → Prop) : Prop :=
  xs x (g28_c4 cl (v6) h Q) (fun j => cond (Nat.beq j 0) (g28_c4 cl (v6) h Q) (False)) (Q (.tup [v4, v5]) h)
def g28 (cl : CL) (v0 v1 : AV) (h : AH) (Q : AV → AH → Prop) : Prop :=
  wcall cl (.func (.func 59) [] []) [v0] h fun v10 h =>
  wk (kLen h v1) fun v12 h =>
  wloop (fun vs h k => g28_l3 cl (nthD vs 0) (nthD vs 1) (nthD vs 2) (nthD vs 3) h k) [v10, v1, v12, (.int .i64 0)] h fun x vs h => g28_j5 cl x (nthD vs 0) (nthD vs 1) (nthD vs 2) h Q
theorem g28_eq (cl : CL) (v0 v1 : AV) (h : AH) (Q : AV → AH → Prop) : wrun cl S28 [v0, v1] h Q = g28 cl v0 v1 h Q := by kernel_rfl
theorem C28 {cl : CL} (hcl : CLOk Try.prog cl) {v0 v1 : AV} {h : AH} {Q : AV → AH → Prop} (hg : g28 cl v0 v1 h Q) : CallsA Try.prog 28 [v0, v1] h Q := wfn_ok hcl (f := 28) (fn := Try.f28) (by kernel_rfl) S28_ok (by decide) (by kernel_rfl) (its_nil (by kernel_rfl)) (by rw [g28_eq]; exact hg)

/- slices.Equal[[]widgetry/api.Glyph,widgetry/api.Glyph] -/
def S33.r0 : List AOpr := [
  ⟨some 4, .mov (.const (.bool false)), none⟩]
def S33.r1 : List AOpr := [
  ⟨some 6, .mov (.tmp 0), none⟩,
  ⟨some 7, .len (.tmp 6), none⟩,
  ⟨some 8, .mov (.tmp 1), none⟩,
  ⟨some 9, .len (.tmp 8), none⟩,
  ⟨some 10, .arith .neq (.tmp 7) (.tmp 9), none⟩]
def S33.r2 : List AOpr := [
  ⟨some 4, .mov (.const (.bool false)), none⟩]
def S33.r3 : List AOpr := [
  ⟨some 11, .mov (.tmp 0), none⟩,
  ⟨some 12, .len (.tmp 11), none⟩,
  ⟨some 13, .mov (.const (.int .i64 0)), none⟩]
def S33.r4 : List AOpr := [
  ⟨some 14, .arith .lss (.tmp 13) (.tmp 12), none⟩]
def S33.r5 : List AOpr := [
  ⟨some 15, .mov (.tmp 13), none⟩,
  ⟨some 5, .mov (.tmp 15), none⟩]
def S33.r6 : List (AOpr × Nat) := [
  (⟨some 16, .mov (.tmp 0), none⟩, 0),
  (⟨some 17, .mov (.tmp 5), none⟩, 0),
  (⟨some 18, .idxA 8 (.tmp 16) (.tmp 17), none⟩, 3),
  (⟨some 19, .ldn 8 (.tmp 18), none⟩, 7),
  (⟨some 20, .mov (.tmp 1), none⟩, 0),
  (⟨some 21, .mov (.tmp 5), none⟩, 0),
  (⟨some 22, .idxA 8 (.tmp 20) (.tmp 21), none⟩, 48),
  (⟨some 23, .ldn 8 (.tmp 22), none⟩, 112),
  (⟨some 24, .eqf true [.int .i64, .int .i64, .int .i64, .int .i64, .int .i64, .int .i64, .int .i64, .int .i64] (.tmp 19) (.tmp 23), none⟩, 255)]
def S33.r7 : List AOpr := [
  ⟨some 4, .mov (.const (.bool false)), none⟩]
def S33.r8 : List AOpr := [
  ⟨some 25, .arith .add (.tmp 13) (.const (.int .i64 1)), none⟩,
  ⟨some 13, .mov (.tmp 25), none⟩]
def S33.r9 : List AOpr := [
  ⟨some 4, .mov (.const (.bool true)), none⟩]
def S33 : SFn := ⟨26, [.tmp 4], .seq (.reg S33.r0) (.seq (.seq (.reg S33.r1) (.cond (.tmp 10) (.seq (.reg S33.r2) (.ret)) (.skip))) (.seq (.seq (.reg S33.r3) (.block 0 (.loop [0, 1, 12, 13] [4] (.seq (.reg S33.r4) (.seq (.cond (.tmp 14) (.skip) (.exit 0)) (.seq (.block 1 (.seq (.reg S33.r5) (.seq (.draw S33.r6) (.cond (.tmp 24) (.seq (.reg S33.r7) (.ret)) (.skip))))) (.reg S33.r8))))))) (.seq (.reg S33.r9) (.ret))))⟩
theorem S33_ok : cFn Try.prog Try.f33 = some S33.erase := by kernel_rfl
def g33_s1 (cl : CL) (v0 v1 v12 v13 v19 v22 : AV) (h : AH) (k : AX → List AV → List AV → AH → Prop) : Prop :=
  wdp h (kLdn h 8 v22) (rdK (rdv v22)) fun v23 c7 h =>
  wdp h (kEqf h true [.int .i64, .int .i64, .int .i64, .int .i64, .int .i64, .int .i64, .int .i64, .int .i64] v19 v23) .pure fun v24 c8 h =>
  wif v24 (
  k .ret [v0, v1, v12, v13] [(.bool false)] h) (
  wk (kArith h .add v13 (.int .i64 1)) fun v25 h =>
  k .nrm [v0, v1, v12, v25] [.undef] h)
def g33_l1 (cl : CL) (v0 v1 v12 v13 : AV) (h : AH) (k : AX → List AV → List AV → AH → Prop) : Prop :=
  wk (kArith h .lss v13 v12) fun v14 h =>
  wif v14 (
  wdr h 9 fun r h =>
  wdp h (kMov h v0) .pure fun v16 c0 h =>
  wdp h (kMov h v13) .pure fun v17 c1 h =>
  wdp h (kIdxA h 8 v16 v17) .pure fun v18 c2 h =>
  wdp h (kLdn h 8 v18) (rdK (rdv v18)) fun v19 c3 h =>
  wdp h (kMov h v1) .pure fun v20 c4 h =>
  wdp h (kMov h v13) .pure fun v21 c5 h =>
  wdp h (kIdxA h 8 v20 v21) .pure fun v22 c6 h =>
  g33_s1 cl (v0) (v1) (v12) (v13) (v19) (v22) h k) (
  k (.exit 0) [v0, v1, v12, v13] [.undef] h)
def g33_c2 (cl : CL) (h : AH) (Q : AV → AH → Prop) : Prop :=
  Q ((.bool true)) h
def g33_j3 (cl : CL) (x : AX) (v4 : AV) (h : AH) (Q : AV → AH → Prop) : Prop :=
  xs x (g33_c2 cl h Q) (fun j => cond (Nat.beq j 0) (g33_c2 cl h Q) (False)) (Q (v4) h)
def g33 (cl : CL) (v0 v1 : AV) (h : AH) (Q : AV → AH → Prop) : Prop :=
  wk (kLen h v0) fun v7 h =>
  wk (kLen h v1) fun v9 h =>
  wk (kArith h .neq v7 v9) fun v10 h =>
  wif v10 (
  Q ((.bool false)) h) (
  wk (kLen h v0) fun v12 h =>
  wloop (fun vs h k => g33_l1 cl (nthD vs 0) (nthD vs 1) (nthD vs 2) (nthD vs 3) h k) [v0, v1, v12, (.int .i64 0)] h fun x vs h => g33_j3 cl x (nthD vs 0) h Q)
theorem g33_eq (cl : CL) (v0 v1 : AV) (h : AH) (Q : AV → AH → Prop) : wrun cl S33 [v0, v1] h Q = g33 cl v0 v1 h Q := by kernel_rfl
theorem C33 {cl : CL} (hcl : CLOk Try.prog cl) {v0 v1 : AV} {h : AH} {Q : AV → AH → Prop} (hg : g33 cl v0 v1 h Q) : CallsA Try.prog 33 [v0, v1] h Q := wfn_ok hcl (f := 33) (fn := Try.f33) (by kernel_rfl) S33_ok (by decide) (by kernel_rfl) (its_nil (by kernel_rfl)) (by rw [g33_eq]; exact hg)

/- widgetry/display.rectangular -/
def S35.r0 : List AOpr := [
  ⟨some 2, .mov (.const (.bool false)), none⟩]
def S35.r1 : List (AOpr × Option Nat) := [
  (⟨some 3, .mov (.tmp 0), none⟩, none),
  (⟨some 4, .arith .eql (.tmp 3) (.const (.int .i64 1)), none⟩, none),
  (⟨some 5, .mov (.tmp 4), none⟩, none),
  (⟨some 6, .mov (.tmp 0), some (5, false)⟩, some 5),
  (⟨some 7, .arith .eql (.tmp 6) (.const (.int .i64 4)), some (5, false)⟩, none),
  (⟨some 8, .pick (.tmp 5) (.const (.bool true)) (.tmp 7), none⟩, none),
  (⟨some 9, .mov (.tmp 8), none⟩, none),
  (⟨some 10, .mov (.tmp 0), some (9, false)⟩, some 9),
  (⟨some 11, .arith .eql (.tmp 10) (.const (.int .i64 5)), some (9, false)⟩, none),
  (⟨some 12, .pick (.tmp 9) (.const (.bool true)) (.tmp 11), none⟩, none),
  (⟨some 13, .mov (.tmp 12), none⟩, none),
  (⟨some 14, .mov (.tmp 0), some (13, false)⟩, some 13),
  (⟨some 15, .arith .eql (.tmp 14) (.const (.int .i64 6)), some (13, false)⟩, none),
  (⟨some 16, .pick (.tmp 13) (.const (.bool true)) (.tmp 15), none⟩, none),
  (⟨some 2, .mov (.tmp 16), none⟩, none)]
def S35 : SFn := ⟨17, [.tmp 2], .seq (.reg S35.r0) (.seq (.regS S35.r1) (.ret))⟩
theorem S35_ok : cFn Try.prog Try.f35 = some S35.erase := by kernel_rfl
def g35_s1 (cl : CL) (v13 v14 : AV) (h : AH) (Q : AV → AH → Prop) : Prop :=
  wg (gdv false v13) (fun k => wk (kArith h .eql v14 (.int .i64 6)) k) h fun v15 h =>
  wk (kPick h v13 (.bool true) v15) fun v16 h =>
  Q (v16) h
def g35 (cl : CL) (v0 : AV) (h : AH) (Q : AV → AH → Prop) : Prop :=
  wk (kArith h .eql v0 (.int .i64 1)) fun v4 h =>
  wsp v4 fun v5 =>
  wg (gdv false v5) (fun k => k v0 h) h fun v6 h =>
  wg (gdv false v5) (fun k => wk (kArith h .eql v6 (.int .i64 4)) k) h fun v7 h =>
  wk (kPick h v5 (.bool true) v7) fun v8 h =>
  wsp v8 fun v9 =>
  wg (gdv false v9) (fun k => k v0 h) h fun v10 h =>
  wg (gdv false v9) (fun k => wk (kArith h .eql v10 (.int .i64 5)) k) h fun v11 h =>
  wk (kPick h v9 (.bool true) v11) fun v12 h =>
  wsp v12 fun v13 =>
  wg (gdv false v13) (fun k => k v0 h) h fun v14 h =>
  g35_s1 cl (v13) (v14) h Q
theorem g35_eq (cl : CL) (v0 : AV) (h : AH) (Q : AV → AH → Prop) : wrun cl S35 [v0] h Q = g35 cl v0 h Q := by kernel_rfl
theorem C35 {cl : CL} (hcl : CLOk Try.prog cl) {v0 : AV} {h : AH} {Q : AV → AH → Prop} (hg : g35 cl v0 h Q) : CallsA Try.prog 35 [v0] h Q := wfn_ok hcl (f := 35) (fn := Try.f35) (by kernel_rfl) S35_ok (by decide) (by kernel_rfl) (its_nil (by kernel_rfl)) (by rw [g35_eq]; exact hg)

/- widgetry/geometry.Validate -/
def S36.r0 : List AOpr := [
  ⟨some 1, .box (.tmp 0), none⟩,
  ⟨some 2, .mov (.const (.int .i64 0)), none⟩]
def S36.r1 : List (AOpr × Option Nat) := [
  (⟨some 3, .fldA 0 (.tmp 1), none⟩, none),
  (⟨some 4, .ld1 (.tmp 3), none⟩, none),
  (⟨some 5, .call (.const (.func (.func 61) [] [])) [.tmp 4, .const (.int .i64 1048576)], none⟩, none),
  (⟨some 6, .un .not (.tmp 5), none⟩, none),
  (⟨some 7, .mov (.tmp 6), none⟩, none),
  (⟨some 8, .fldA 1 (.tmp 1), some (7, false)⟩, some 7),
  (⟨some 9, .ld1 (.tmp 8), some (7, false)⟩, none),
  (⟨some 10, .call (.const (.func (.func 61) [] [])) [.tmp 9, .const (.int .i64 1048576)], some (7, false)⟩, none),
  (⟨some 11, .un .not (.tmp 10), some (7, false)⟩, none),
  (⟨some 12, .pick (.tmp 7) (.const (.bool true)) (.tmp 11), none⟩, none),
  (⟨some 13, .mov (.tmp 12), none⟩, none),
  (⟨some 14, .fldA 2 (.tmp 1), some (13, false)⟩, some 13),
  (⟨some 15, .ld1 (.tmp 14), some (13, false)⟩, none),
  (⟨some 16, .arith .lss (.tmp 15) (.const (.int .i64 0)), some (13, false)⟩, none),
  (⟨some 17, .pick (.tmp 13) (.const (.bool true)) (.tmp 16), none⟩, none),
  (⟨some 18, .mov (.tmp 17), none⟩, none),
  (⟨some 19, .fldA 2 (.tmp 1), some (18, false)⟩, some 18),
  (⟨some 20, .ld1 (.tmp 19), some (18, false)⟩, none),
  (⟨some 21, .arith .gtr (.tmp 20) (.const (.int .i64 1048576)), some (18, false)⟩, none),
  (⟨some 22, .pick (.tmp 18) (.const (.bool true)) (.tmp 21), none⟩, none),
  (⟨some 23, .mov (.tmp 22), none⟩, none),
  (⟨some 24, .fldA 3 (.tmp 1), some (23, false)⟩, some 23),
  (⟨some 25, .ld1 (.tmp 24), some (23, false)⟩, none),
  (⟨some 26, .arith .lss (.tmp 25) (.const (.int .i64 0)), some (23, false)⟩, none),
  (⟨some 27, .pick (.tmp 23) (.const (.bool true)) (.tmp 26), none⟩, none),
  (⟨some 28, .mov (.tmp 27), none⟩, none),
  (⟨some 29, .fldA 3 (.tmp 1), some (28, false)⟩, some 28),
  (⟨some 30, .ld1 (.tmp 29), some (28, false)⟩, none),
  (⟨some 31, .arith .gtr (.tmp 30) (.const (.int .i64 1048576)), some (28, false)⟩, none),
  (⟨some 32, .pick (.tmp 28) (.const (.bool true)) (.tmp 31), none⟩, none)]
def S36.r2 : List AOpr := [
  ⟨some 2, .mov (.const (.int .i64 1)), none⟩]
def S36.r3 : List AOpr := [
  ⟨some 2, .mov (.const (.int .i64 0)), none⟩]
def S36 : SFn := ⟨33, [.tmp 2], .seq (.reg S36.r0) (.seq (.seq (.joinN [32] (.regS S36.r1)) (.cond (.tmp 32) (.seq (.reg S36.r2) (.ret)) (.skip))) (.seq (.reg S36.r3) (.ret)))⟩
theorem S36_ok : cFn Try.prog Try.f36 = some S36.erase := by kernel_rfl
def g36_s1 (cl : CL) (v1 v23 v25 : AV) (h : AH) (k : List AV → AH → Prop) : Prop :=
  wg (gdv false v23) (fun k => wk (kArith h .lss v25 (.int .i64 0)) k) h fun v26 h =>
  wk (kPick h v23 (.bool true) v26) fun v27 h =>
  wsp v27 fun v28 =>
  wg (gdv false v28) (fun k => wk (kFldA h 3 v1) k) h fun v29 h =>
  wg (gdv false v28) (fun k => wk (kLd1 h v29) k) h fun v30 h =>
  wg (gdv false v28) (fun k => wk (kArith h .gtr v30 (.int .i64 1048576)) k) h fun v31 h =>
  wk (kPick h v28 (.bool true) v31) fun v32 h =>
  k [v32] h
def g36_s2 (cl : CL) (v1 v13 v15 : AV) (h : AH) (k : List AV → AH → Prop) : Prop :=
  wg (gdv false v13) (fun k => wk (kArith h .lss v15 (.int .i64 0)) k) h fun v16 h =>
  wk (kPick h v13 (.bool true) v16) fun v17 h =>
  wsp v17 fun v18 =>
  wg (gdv false v18) (fun k => wk (kFldA h 2 v1) k) h fun v19 h =>
  wg (gdv false v18) (fun k => wk (kLd1 h v19) k) h fun v20 h =>
  wg (gdv false v18) (fun k => wk (kArith h .gtr v20 (.int .i64 1048576)) k) h fun v21 h =>
  wk (kPick h v18 (.bool true) v21) fun v22 h =>
  wsp v22 fun v23 =>
  wg (gdv false v23) (fun k => wk (kFldA h 3 v1) k) h fun v24 h =>
  wg (gdv false v23) (fun k => wk (kLd1 h v24) k) h fun v25 h =>
  g36_s1 cl (v1) (v23) (v25) h k
def g36_s3 (cl : CL) (v1 v5 : AV) (h : AH) (k : List AV → AH → Prop) : Prop :=
  wk (kUn h .not v5) fun v6 h =>
  wsp v6 fun v7 =>
  wg (gdv false v7) (fun k => wk (kFldA h 1 v1) k) h fun v8 h =>
  wg (gdv false v7) (fun k => wk (kLd1 h v8) k) h fun v9 h =>
  wg (gdv false v7) (fun k => wcall cl (.func (.func 61) [] []) [v9, (.int .i64 1048576)] h k) h fun v10 h =>
  wg (gdv false v7) (fun k => wk (kUn h .not v10) k) h fun v11 h =>
  wk (kPick h v7 (.bool true) v11) fun v12 h =>
  wsp v12 fun v13 =>
  wg (gdv false v13) (fun k => wk (kFldA h 2 v1) k) h fun v14 h =>
  wg (gdv false v13) (fun k => wk (kLd1 h v14) k) h fun v15 h =>
  g36_s2 cl (v1) (v13) (v15) h k
def g36_a1 (cl : CL) (v1 : AV) (h : AH) (k : List AV → AH → Prop) : Prop :=
  wk (kFldA h 0 v1) fun v3 h =>
  wk (kLd1 h v3) fun v4 h =>
  wcall cl (.func (.func 61) [] []) [v4, (.int .i64 1048576)] h fun v5 h =>
  g36_s3 cl (v1) (v5) h k
def g36_j2 (cl : CL) (v32 : AV) (h : AH) (Q : AV → AH → Prop) : Prop :=
  wif v32 (
  Q ((.int .i64 1)) h) (
  Q ((.int .i64 0)) h)
def g36 (cl : CL) (v0 : AV) (h : AH) (Q : AV → AH → Prop) : Prop :=
  wk (kBox h v0) fun v1 h =>
  wjoinN (g36_a1 cl (v1) h) fun vs h => g36_j2 cl (nthD vs 0) h Q
theorem g36_eq (cl : CL) (v0 : AV) (h : AH) (Q : AV → AH → Prop) : wrun cl S36 [v0] h Q = g36 cl v0 h Q := by kernel_rfl
theorem C36 {cl : CL} (hcl : CLOk Try.prog cl) {v0 : AV} {h : AH} {Q : AV → AH → Prop} (hg : g36 cl v0 h Q) : CallsA Try.prog 36 [v0] h Q := wfn_ok hcl (f := 36) (fn := Try.f36) (by kernel_rfl) S36_ok (by decide) (by kernel_rfl) (its_nil (by kernel_rfl)) (by rw [g36_eq]; exact hg)

/- widgetry/display.color -/
def S37.r0 : List AOpr := [
  ⟨some 2, .mov (.const (.bool false)), none⟩]
def S37.r1 : List (AOpr × Option Nat) := [
  (⟨some 3, .mov (.tmp 0), none⟩, none),
  (⟨some 4, .arith .geq (.tmp 3) (.const (.int .i64 0)), none⟩, none),
  (⟨some 5, .mov (.tmp 4), none⟩, none),
  (⟨some 6, .mov (.tmp 0), some (5, true)⟩, some 5),
  (⟨some 7, .arith .leq (.tmp 6) (.const (.int .i64 16777215)), some (5, true)⟩, none),
  (⟨some 8, .pick (.tmp 5) (.tmp 7) (.const (.bool false)), none⟩, none),
  (⟨some 2, .mov (.tmp 8), none⟩, none)]
def S37 : SFn := ⟨9, [.tmp 2], .seq (.reg S37.r0) (.seq (.regS S37.r1) (.ret))⟩
theorem S37_ok : cFn Try.prog Try.f37 = some S37.erase := by kernel_rfl
def g37 (cl : CL) (v0 : AV) (h : AH) (Q : AV → AH → Prop) : Prop :=
  wk (kArith h .geq v0 (.int .i64 0)) fun v4 h =>
  wsp v4 fun v5 =>
  wg (gdv true v5) (fun k => k v0 h) h fun v6 h =>
  wg (gdv true v5) (fun k => wk (kArith h .leq v6 (.int .i64 16777215)) k) h fun v7 h =>
  wk (kPick h v5 v7 (.bool false)) fun v8 h =>
  Q (v8) h
theorem g37_eq (cl : CL) (v0 : AV) (h : AH) (Q : AV → AH → Prop) : wrun cl S37 [v0] h Q = g37 cl v0 h Q := by kernel_rfl
theorem C37 {cl : CL} (hcl : CLOk Try.prog cl) {v0 : AV} {h : AH} {Q : AV → AH → Prop} (hg : g37 cl v0 h Q) : CallsA Try.prog 37 [v0] h Q := wfn_ok hcl (f := 37) (fn := Try.f37) (by kernel_rfl) S37_ok (by decide) (by kernel_rfl) (its_nil (by kernel_rfl)) (by rw [g37_eq]; exact hg)

/- widgetry/display.near -/
def S38.r0 : List AOpr := [
  ⟨some 1, .box (.tmp 0), none⟩,
  ⟨some 2, .mov (.const (.bool false)), none⟩]
def S38.r1 : List AOpr := [
  ⟨some 3, .new [.nilfunc], none⟩,
  ⟨none, .st 1 (.tmp 3) (.const (.func (.func 62) [] [])), none⟩]
def S38.r2 : List (AOpr × Option Nat) := [
  (⟨some 4, .ld1 (.tmp 3), none⟩, none),
  (⟨some 5, .fldA 3 (.tmp 1), none⟩, none),
  (⟨some 6, .ld1 (.tmp 5), none⟩, none),
  (⟨some 7, .call (.tmp 4) [.tmp 6], none⟩, none),
  (⟨some 8, .mov (.tmp 7), none⟩, none),
  (⟨some 9, .fldA 9 (.tmp 1), some (8, true)⟩, some 8),
  (⟨some 10, .ld1 (.tmp 9), some (8, true)⟩, none),
  (⟨some 11, .mkf (.func 64) [] [.tmp 3], some (8, true)⟩, none),
  (⟨some 12, .call (.const (.func (.func 63) [] [])) [.tmp 10, .tmp 11], some (8, true)⟩, none),
  (⟨some 13, .un .not (.tmp 12), some (8, true)⟩, none),
  (⟨some 14, .pick (.tmp 8) (.tmp 13) (.const (.bool false)), none⟩, none),
  (⟨some 2, .mov (.tmp 14), none⟩, none)]
def S38 : SFn := ⟨15, [.tmp 2], .seq (.reg S38.r0) (.seq (.reg S38.r1) (.seq (.regS S38.r2) (.ret)))⟩
theorem S38_ok : cFn Try.prog Try.f38 = some S38.erase := by kernel_rfl
def g38_s1 (cl : CL) (v1 v3 v7 : AV) (h : AH) (Q : AV → AH → Prop) : Prop :=
  wsp v7 fun v8 =>
  wg (gdv true v8) (fun k => wk (kFldA h 9 v1) k) h fun v9 h =>
  wg (gdv true v8) (fun k => wk (kLd1 h v9) k) h fun v10 h =>
  wg (gdv true v8) (fun k => wk (kMkf h (.func 64) [] [v3]) k) h fun v11 h =>
  wg (gdv true v8) (fun k => wcall cl (.func (.func 63) [] []) [v10, v11] h k) h fun v12 h =>
  wg (gdv true v8) (fun k => wk (kUn h .not v12) k) h fun v13 h =>
  wk (kPick h v8 v13 (.bool false)) fun v14 h =>
  Q (v14) h
def g38 (cl : CL) (v0 : AV) (h : AH) (Q : AV → AH → Prop) : Prop :=
  wk (kBox h v0) fun v1 h =>
  wk (kNew h [.nilfunc]) fun v3 h =>
  wk (kSt h 1 v3 (.func (.func 62) [] [])) fun _ h =>
  wk (kLd1 h v3) fun v4 h =>
  wk (kFldA h 3 v1) fun v5 h =>
  wk (kLd1 h v5) fun v6 h =>
  wcall cl v4 [v6] h fun v7 h =>
  g38_s1 cl (v1) (v3) (v7) h Q
theorem g38_eq (cl : CL) (v0 : AV) (h : AH) (Q : AV → AH → Prop) : wrun cl S38 [v0] h Q = g38 cl v0 h Q := by kernel_rfl
theorem C38 {cl : CL} (hcl : CLOk Try.prog cl) {v0 : AV} {h : AH} {Q : AV → AH → Prop} (hg : g38 cl v0 h Q) : CallsA Try.prog 38 [v0] h Q := wfn_ok hcl (f := 38) (fn := Try.f38) (by kernel_rfl) S38_ok (by decide) (by kernel_rfl) (its_nil (by kernel_rfl)) (by rw [g38_eq]; exact hg)

/- widgetry/geometry.Combine -/
def S39.r0 : List AOpr := [
  ⟨some 2, .box (.tmp 0), none⟩,
  ⟨some 3, .box (.tmp 1), none⟩,
  ⟨some 4, .new [.int .i64 0, .bool false, .int .i64 0, .int .i64 0, .int .i64 0], none⟩,
  ⟨some 5, .mov (.const (.int .i64 0)), none⟩]
def S39.r1 : List (AOpr × Option Nat) := [
  (⟨some 9, .ldn 5 (.tmp 2), none⟩, none),
  (⟨some 10, .call (.const (.func (.func 65) [] [])) [.tmp 9], none⟩, none),
  (⟨some 11, .arith .neq (.tmp 10) (.const (.int .i64 0)), none⟩, none),
  (⟨some 12, .mov (.tmp 11), none⟩, none),
  (⟨some 13, .ldn 5 (.tmp 3), some (12, false)⟩, some 12),
  (⟨some 14, .call (.const (.func (.func 65) [] [])) [.tmp 13], some (12, false)⟩, none),
  (⟨some 15, .arith .neq (.tmp 14) (.const (.int .i64 0)), some (12, false)⟩, none),
  (⟨some 16, .pick (.tmp 12) (.const (.bool true)) (.tmp 15), none⟩, none)]
def S39.r2 : List AOpr := [
  ⟨some 17, .build [.int .i64 0, .bool false, .int .i64 0, .int .i64 0, .int .i64 0] [], none⟩,
  ⟨none, .st 5 (.tmp 4) (.tmp 17), none⟩,
  ⟨some 5, .mov (.const (.int .i64 1)), none⟩]
def S39.r3 : List AOpr := [
  ⟨some 18, .fldA 0 (.tmp 2), none⟩,
  ⟨some 19, .ld1 (.tmp 18), none⟩,
  ⟨some 20, .fldA 0 (.tmp 3), none⟩,
  ⟨some 21, .ld1 (.tmp 20), none⟩,
  ⟨some 22, .arith .add (.tmp 19) (.tmp 21), none⟩,
  ⟨some 6, .mov (.tmp 22), none⟩]
def S39.r4 : List AOpr := [
  ⟨some 23, .fldA 1 (.tmp 2), none⟩,
  ⟨some 24, .ld1 (.tmp 23), none⟩]
def S39.r5 : List AOpr := [
  ⟨some 25, .fldA 0 (.tmp 2), none⟩,
  ⟨some 26, .ld1 (.tmp 25), none⟩,
  ⟨some 27, .arith .add (.tmp 26) (.const (.int .i64 4)), none⟩,
  ⟨some 28, .fldA 0 (.tmp 3), none⟩,
  ⟨some 29, .ld1 (.tmp 28), none⟩,
  ⟨some 30, .arith .sub (.tmp 27) (.tmp 29), none⟩,
  ⟨some 6, .mov (.tmp 30), none⟩]
def S39.r6 : List AOpr := [
  ⟨some 31, .ldn 5 (.tmp 2), none⟩,
  ⟨some 32, .fldA 3 (.tmp 3), none⟩,
  ⟨some 33, .ld1 (.tmp 32), none⟩,
  ⟨some 34, .fldA 4 (.tmp 3), none⟩,
  ⟨some 35, .ld1 (.tmp 34), none⟩,
  ⟨some 36, .build [.int .i64 0, .int .i64 0] [(0, 1, .tmp 33), (1, 1, .tmp 35)], none⟩,
  ⟨some 37, .call (.const (.func (.func 66) [] [])) [.tmp 31, .tmp 36], none⟩,
  ⟨some 7, .new [.int .i64 0, .int .i64 0], none⟩,
  ⟨none, .st 2 (.tmp 7) (.tmp 37), none⟩]
def S39.r7 : List AOpr := [
  ⟨some 38, .mov (.tmp 6), none⟩,
  ⟨some 39, .arith .rem (.tmp 38) (.const (.int .i64 4)), none⟩,
  ⟨some 40, .fldA 1 (.tmp 2), none⟩,
  ⟨some 41, .ld1 (.tmp 40), none⟩,
  ⟨some 42, .fldA 1 (.tmp 3), none⟩,
  ⟨some 43, .ld1 (.tmp 42), none⟩,
  ⟨some 44, .eqs true (.tmp 41) (.tmp 43), none⟩,
  ⟨some 45, .fldA 2 (.tmp 2), none⟩,
  ⟨some 46, .ld1 (.tmp 45), none⟩,
  ⟨some 47, .fldA 2 (.tmp 3), none⟩,
  ⟨some 48, .ld1 (.tmp 47), none⟩,
  ⟨some 49, .arith .mul (.tmp 46) (.tmp 48), none⟩,
  ⟨some 50, .fldA 0 (.tmp 7), none⟩,
  ⟨some 51, .ld1 (.tmp 50), none⟩,
  ⟨some 52, .fldA 3 (.tmp 2), none⟩,
  ⟨some 53, .ld1 (.tmp 52), none⟩,
  ⟨some 54, .arith .add (.tmp 51) (.tmp 53), none⟩,
  ⟨some 55, .fldA 1 (.tmp 7), none⟩,
  ⟨some 56, .ld1 (.tmp 55), none⟩,
  ⟨some 57, .fldA 4 (.tmp 2), none⟩,
  ⟨some 58, .ld1 (.tmp 57), none⟩,
  ⟨some 59, .arith .add (.tmp 56) (.tmp 58), none⟩,
  ⟨some 60, .build [.int .i64 0, .bool false, .int .i64 0, .int .i64 0, .int .i64 0] [(0, 1, .tmp 39), (1, 1, .tmp 44), (2, 1, .tmp 49), (3, 1, .tmp 54), (4, 1, .tmp 59)], none⟩,
  ⟨some 8, .new [.int .i64 0, .bool false, .int .i64 0, .int .i64 0, .int .i64 0], none⟩,
  ⟨none, .st 5 (.tmp 8) (.tmp 60), none⟩]
def S39.r8 : List AOpr := [
  ⟨some 61, .ldn 5 (.tmp 8), none⟩,
  ⟨some 62, .call (.const (.func (.func 65) [] [])) [.tmp 61], none⟩,
  ⟨some 63, .arith .neq (.tmp 62) (.const (.int .i64 0)), none⟩]
def S39.r9 : List AOpr := [
  ⟨some 64, .build [.int .i64 0, .bool false, .int .i64 0, .int .i64 0, .int .i64 0] [], none⟩,
  ⟨none, .st 5 (.tmp 4) (.tmp 64), none⟩,
  ⟨some 5, .mov (.const (.int .i64 1)), none⟩]
def S39.r10 : List AOpr := [
  ⟨some 65, .ldn 5 (.tmp 8), none⟩,
  ⟨none, .st 5 (.tmp 4) (.tmp 65), none⟩,
  ⟨some 5, .mov (.const (.int .i64 0)), none⟩]
def S39 : SFn := ⟨66, [.cell 4 (some 5), .tmp 5], .seq (.reg S39.r0) (.seq (.seq (.joinN [2, 3, 4, 16] (.regS S39.r1)) (.cond (.tmp 16) (.seq (.reg S39.r2) (.ret)) (.skip))) (.seq (.reg S39.r3) (.seq (.seq (.reg S39.r4) (.joinN [2, 3, 4, 6] (.cond (.tmp 24) (.reg S39.r5) (.skip)))) (.seq (.reg S39.r6) (.seq (.reg S39.r7) (.seq (.seq (.reg S39.r8) (.cond (.tmp 63) (.seq (.reg S39.r9) (.ret)) (.skip))) (.seq (.reg S39.r10) (.ret))))))))⟩
theorem S39_ok : cFn Try.prog Try.f39 = some S39.erase := by kernel_rfl
def g39_s1 (cl : CL) (v2 v3 v4 v10 : AV) (h : AH) (k : List AV → AH → Prop) : Prop :=
  wk (kArith h .neq v10 (.int .i64 0)) fun v11 h =>
  wsp v11 fun v12 =>
  wg (gdv false v12) (fun k => wk (kLdn h 5 v3) k) h fun v13 h =>
  wg (gdv false v12) (fun k => wcall cl (.func (.func 65) [] []) [v13] h k) h fun v14 h =>
  wg (gdv false v12) (fun k => wk (kArith h .neq v14 (.int .i64 0)) k) h fun v15 h =>
  wk (kPick h v12 (.bool true) v15) fun v16 h =>
  k [v2, v3, v4, v16] h
def g39_a1 (cl : CL) (v2 v3 v4 : AV) (h : AH) (k : List AV → AH → Prop) : Prop :=
  wk (kLdn h 5 v2) fun v9 h =>
  wcall cl (.func (.func 65) [] []) [v9] h fun v10 h =>
  g39_s1 cl (v2) (v3) (v4) (v10) h k
def g39_a2 (cl : CL) (v2 v3 v4 v6 v24 : AV) (h : AH) (k : List AV → AH → Prop) : Prop :=
  wif v24 (
  wk (kFldA h 0 v2) fun v25 h =>
  wk (kLd1 h v25) fun v26 h =>
  wk (kArith h .add v26 (.int .i64 4)) fun v27 h =>
  wk (kFldA h 0 v3) fun v28 h =>
  wk (kLd1 h v28) fun v29 h =>
  wk (kArith h .sub v27 v29) fun v30 h =>
  k [v2, v3, v4, v30] h) (
  k [v2, v3, v4, v6] h)
def g39_s2 (cl : CL) (v4 v8 v60 : AV) (h : AH) (Q : AV → AH → Prop) : Prop :=
  wk (kSt h 5 v8 v60) fun _ h =>
  wk (kLdn h 5 v8) fun v61 h =>
  wcall cl (.func (.func 65) [] []) [v61] h fun v62 h =>
  wk (kArith h .neq v62 (.int .i64 0)) fun v63 h =>
  wif v63 (
  wk (kBuild h [.int .i64 0, .bool false, .int .i64 0, .int .i64 0, .int .i64 0] []) fun v64 h =>
  wk (kSt h 5 v4 v64) fun _ h =>
  wres (aresV h [.cell (v4) (some 5), .val ((.int .i64 1))]) h Q) (
  wk (kLdn h 5 v8) fun v65 h =>
  wk (kSt h 5 v4 v65) fun _ h =>
  wres (aresV h [.cell (v4) (some 5), .val ((.int .i64 0))]) h Q)
def g39_s3 (cl : CL) (v2 v4 v7 v39 v44 v49 v51 v53 : AV) (h : AH) (Q : AV → AH → Prop) : Prop :=
  wk (kArith h .add v51 v53) fun v54 h =>
  wk (kFldA h 1 v7) fun v55 h =>
  wk (kLd1 h v55) fun v56 h =>
  wk (kFldA h 4 v2) fun v57 h =>
  wk (kLd1 h v57) fun v58 h =>
  wk (kArith h .add v56 v58) fun v59 h =>
  wk (kBuild h [.int .i64 0, .bool false, .int .i64 0, .int .i64 0, .int .i64 0] [(0, 1, v39), (1, 1, v44), (2, 1, v49), (3, 1, v54), (4, 1, v59)]) fun v60 h =>
  wk (kNew h [.int .i64 0, .bool false, .int .i64 0, .int .i64 0, .int .i64 0]) fun v8 h =>
  g39_s2 cl (v4) (v8) (v60) h Q
def g39_s4 (cl : CL) (v2 v3 v4 v7 v39 v44 v45 : AV) (h : AH) (Q : AV → AH → Prop) : Prop :=
  wk (kLd1 h v45) fun v46 h =>
  wk (kFldA h 2 v3) fun v47 h =>
  wk (kLd1 h v47) fun v48 h =>
  wk (kArith h .mul v46 v48) fun v49 h =>
  wk (kFldA h 0 v7) fun v50 h =>
  wk (kLd1 h v50) fun v51 h =>
  wk (kFldA h 3 v2) fun v52 h =>
  wk (kLd1 h v52) fun v53 h =>
  g39_s3 cl (v2) (v4) (v7) (v39) (v44) (v49) (v51) (v53) h Q
def g39_s5 (cl : CL) (v2 v3 v4 v6 v7 v37 : AV) (h : AH) (Q : AV → AH → Prop) : Prop :=
  wk (kSt h 2 v7 v37) fun _ h =>
  wk (kArith h .rem v6 (.int .i64 4)) fun v39 h =>
  wk (kFldA h 1 v2) fun v40 h =>
  wk (kLd1 h v40) fun v41 h =>
  wk (kFldA h 1 v3) fun v42 h =>
  wk (kLd1 h v42) fun v43 h =>
  wk (kEqs h true v41 v43) fun v44 h =>
  wk (kFldA h 2 v2) fun v45 h =>
  g39_s4 cl (v2) (v3) (v4) (v7) (v39) (v44) (v45) h Q
def g39_j3 (cl : CL) (v2 v3 v4 v6 : AV) (h : AH) (Q : AV → AH → Prop) : Prop :=
  wk (kLdn h 5 v2) fun v31 h =>
  wk (kFldA h 3 v3) fun v32 h =>
  wk (kLd1 h v32) fun v33 h =>
  wk (kFldA h 4 v3) fun v34 h =>
  wk (kLd1 h v34) fun v35 h =>
  wk (kBuild h [.int .i64 0, .int .i64 0] [(0, 1, v33), (1, 1, v35)]) fun v36 h =>
  wcall cl (.func (.func 66) [] []) [v31, v36] h fun v37 h =>
  wk (kNew h [.int .i64 0, .int .i64 0]) fun v7 h =>
  g39_s5 cl (v2) (v3) (v4) (v6) (v7) (v37) h Q
def g39_j4 (cl : CL) (v2 v3 v4 v16 : AV) (h : AH) (Q : AV → AH → Prop) : Prop :=
  wif v16 (
  wk (kBuild h [.int .i64 0, .bool false, .int .i64 0, .int .i64 0, .int .i64 0] []) fun v17 h =>
  wk (kSt h 5 v4 v17) fun _ h =>
  wres (aresV h [.cell (v4) (some 5), .val ((.int .i64 1))]) h Q) (
  wk (kFldA h 0 v2) fun v18 h =>
  wk (kLd1 h v18) fun v19 h =>
  wk (kFldA h 0 v3) fun v20 h =>
  wk (kLd1 h v20) fun v21 h =>
  wk (kArith h .add v19 v21) fun v22 h =>
  wk (kFldA h 1 v2) fun v23 h =>
  wk (kLd1 h v23) fun v24 h =>
  wjoinN (g39_a2 cl (v2) (v3) (v4) (v22) (v24) h) fun vs h => g39_j3 cl (nthD vs 0) (nthD vs 1) (nthD vs 2) (nthD vs 3) h Q)
def g39 (cl : CL) (v0 v1 : AV) (h : AH) (Q : AV → AH → Prop) : Prop :=
  wk (kBox h v0) fun v2 h =>
  wk (kBox h v1) fun v3 h =>
  wk (kNew h [.int .i64 0, .bool false, .int .i64 0, .int .i64 0, .int .i64 0]) fun v4 h =>
  wjoinN (g39_a1 cl (v2) (v3) (v4) h) fun vs h => g39_j4 cl (nthD vs 0) (nthD vs 1) (nthD vs 2) (nthD vs 3) h Q
theorem g39_eq (cl : CL) (v0 v1 : AV) (h : AH) (Q : AV → AH → Prop) : wrun cl S39 [v0, v1] h Q = g39 cl v0 v1 h Q := by kernel_rfl
theorem C39 {cl : CL} (hcl : CLOk Try.prog cl) {v0 v1 : AV} {h : AH} {Q : AV → AH → Prop} (hg : g39 cl v0 v1 h Q) : CallsA Try.prog 39 [v0, v1] h Q := wfn_ok hcl (f := 39) (fn := Try.f39) (by kernel_rfl) S39_ok (by decide) (by kernel_rfl) (its_nil (by kernel_rfl)) (by rw [g39_eq]; exact hg)

end Go.Proofs.Ytpnekpbehcbmkaa
