/- Functions of the laws: their code with joins and live registers, and what they are as plain transformers of predicates; printed by a program of ours. -/
import Derived.Test.YtpnekpbehcbmkaaProg
import Derived.Test.YtpnekpbehcbmkaaD7A
import Derived.KernelRfl
set_option linter.unusedSimpArgs false
set_option linter.unusedVariables false
set_option linter.unnecessarySimpa false
namespace Go.Proofs.Ytpnekpbehcbmkaa
open Go.Eng
set_option maxRecDepth 100000
def g3_s1 (cl : CL) (v0 v1 v5 v9 : AV) (h : AH) (k : List AV → AH → Prop) : Prop :=
  wsp v9 fun v10 =>
  wg (gdv false v10) (fun k => k v1 h) h fun v11 h =>
  wg (gdv false v10) (fun k => wcall cl (.func (.func 10) [] []) [v11] h k) h fun v12 h =>
  wk (kPick h v10 (.bool true) v12) fun v13 h =>
  k [v0, v1, v5, v13] h
def g3_a1 (cl : CL) (v0 v1 v5 : AV) (h : AH) (k : List AV → AH → Prop) : Prop :=
  wcall cl (.func (.func 10) [] []) [v0] h fun v9 h =>
  g3_s1 cl (v0) (v1) (v5) (v9) h k
def g3_a2 (cl : CL) (v0 v1 v5 v7 : AV) (h : AH) (k : List AV → AH → Prop) : Prop :=
  wk (kLen h v0) fun v16 h =>
  wk (kArith h .lss v7 v16) fun v17 h =>
  wsp v17 fun v18 =>
  wg (gdv true v18) (fun k => k v7 h) h fun v19 h =>
  wg (gdv true v18) (fun k => k v1 h) h fun v20 h =>
  wg (gdv true v18) (fun k => wk (kLen h v20) k) h fun v21 h =>
  wg (gdv true v18) (fun k => wk (kArith h .lss v19 v21) k) h fun v22 h =>
  wk (kPick h v18 v22 (.bool false)) fun v23 h =>
  k [v0, v1, v5, v7, v23] h
def g3_s2 (cl : CL) (c8 c12 c16 : Rec) (v0 v1 v5 v7 v45 v49 : AV) (h : AH) (k : List AV → AH → Prop) : Prop :=
  wgd (gdv false v45) (fun k => wdp h (kMov h v0) .pure k) h fun v50 c24 h =>
  wgd (gdv false v45) (fun k => wdp h (kMov h v7) .pure k) h fun v51 c25 h =>
  wgd (gdv false v45) (fun k => wdp h (kIdxA h 22 v50 v51) .pure k) h fun v52 c26 h =>
  wgd (gdv false v45) (fun k => wdp h (kLdn h 22 v52) (rdK (rdv v52)) k) h fun v53 c27 h =>
  wgd (gdv false v45) (fun k => wdc cl (.func (.func 11) [] []) [v49, v53] h k) h fun v54 c28 h =>
  wgd (gdv false v45) (fun k => wdp h (kUn h .not v54) .pure k) h fun v55 c29 h =>
  wdp h (kPick h v45 (.bool true) v55) .pure fun v56 c30 h =>
  recOk c8 c12 = true ∧ recOk c8 c16 = true ∧ k [v0, v1, v5, v7, v56] h
def g3_s3 (cl : CL) (c8 c12 : Rec) (v0 v1 v5 v7 v34 v38 v41 : AV) (h : AH) (k : List AV → AH → Prop) : Prop :=
  wdp h (kLdn h 22 v41) (rdK (rdv v41)) fun v42 c16 h =>
  wdc cl (.func (.func 12) [] []) [v38, v42] h fun v43 c17 h =>
  wdp h (kEqs h true v34 v43) .pure fun v44 c18 h =>
  wdp h (kMov h v44) .pure fun v45 c19 h =>
  wsp v45 fun v45 =>
  wgd (gdv false v45) (fun k => wdp h (kMov h v0) .pure k) h fun v46 c20 h =>
  wgd (gdv false v45) (fun k => wdp h (kMov h v7) .pure k) h fun v47 c21 h =>
  wgd (gdv false v45) (fun k => wdp h (kIdxA h 22 v46 v47) .pure k) h fun v48 c22 h =>
  wgd (gdv false v45) (fun k => wdp h (kLdn h 22 v48) (rdK (rdv v48)) k) h fun v49 c23 h =>
  g3_s2 cl c8 c12 c16 (v0) (v1) (v5) (v7) (v45) (v49) h k
def g3_s4 (cl : CL) (v0 v1 v5 v7 v29 v33 : AV) (h : AH) (k : List AV → AH → Prop) : Prop :=
  wdc cl (.func (.func 11) [] []) [v29, v33] h fun v34 c8 h =>
  wdp h (kMov h v0) .pure fun v35 c9 h =>
  wdp h (kMov h v7) .pure fun v36 c10 h =>
  wdp h (kIdxA h 22 v35 v36) .pure fun v37 c11 h =>
  wdp h (kLdn h 22 v37) (rdK (rdv v37)) fun v38 c12 h =>
  wdp h (kMov h v1) .pure fun v39 c13 h =>
  wdp h (kMov h v7) .pure fun v40 c14 h =>
  wdp h (kIdxA h 22 v39 v40) .pure fun v41 c15 h =>
  g3_s3 cl c8 c12 (v0) (v1) (v5) (v7) (v34) (v38) (v41) h k
def g3_a3 (cl : CL) (v0 v1 v5 v7 : AV) (h : AH) (k : List AV → AH → Prop) : Prop :=
  wdr h 31 fun r h =>
  wdp h (kMov h v0) .pure fun v26 c0 h =>
  wdp h (kMov h v7) .pure fun v27 c1 h =>
  wdp h (kIdxA h 22 v26 v27) .pure fun v28 c2 h =>
  wdp h (kLdn h 22 v28) (rdK (rdv v28)) fun v29 c3 h =>
  wdp h (kMov h v1) .pure fun v30 c4 h =>
  wdp h (kMov h v7) .pure fun v31 c5 h =>
  wdp h (kIdxA h 22 v30 v31) .pure fun v32 c6 h =>
  wdp h (kLdn h 22 v32) (rdK (rdv v32)) fun v33 c7 h =>
  g3_s4 cl (v0) (v1) (v5) (v7) (v29) (v33) h k
def g3_j4 (cl : CL) (v0 v1 v5 v7 v56 : AV) (h : AH) (k : AX → List AV → List AV → AH → Prop) : Prop :=
  wif v56 (
  k .ret [v0, v1, v5, v7] [v0, v5, (.bool false)] h) (
  wk (kArith h .add v7 (.int .i64 1)) fun v25 h =>
  k .nrm [v0, v1, v5, v25] [v0, v5, .undef] h)
def g3_j5 (cl : CL) (v0 v1 v5 v7 v23 : AV) (h : AH) (k : AX → List AV → List AV → AH → Prop) : Prop :=
  wif v23 (
  wjoinN (g3_a3 cl (v0) (v1) (v5) (v7) h) fun vs h => g3_j4 cl (nthD vs 0) (nthD vs 1) (nthD vs 2) (nthD vs 3) (nthD vs 4) h k) (
  k (.exit 0) [v0, v1, v5, v7] [v0, v5, .undef] h)
def g3_l6 (cl : CL) (v0 v1 v5 v7 : AV) (h : AH) (k : AX → List AV → List AV → AH → Prop) : Prop :=
  wjoinN (g3_a2 cl (v0) (v1) (v5) (v7) h) fun vs h => g3_j5 cl (nthD vs 0) (nthD vs 1) (nthD vs 2) (nthD vs 3) (nthD vs 4) h k
def g3_s5 (cl : CL) (c8 c10 : Rec) (v6 v71 v72 : AV) (h : AH) (Q : AV → AH → Prop) : Prop :=
  wdp h (kPick h v71 v72 (.bool false)) .pure fun v73 c16 h =>
  wdp h (kMov h v73) .pure fun v6 c17 h =>
  recOk c8 c10 = true ∧ Q (v6) h
def g3_s6 (cl : CL) (v0 v5 v6 v62 v63 v64 : AV) (h : AH) (Q : AV → AH → Prop) : Prop :=
  wgd (gdv true v62) (fun k => wdc cl (.func (.func 15) [] []) [v63, v64] h k) h fun v65 c8 h =>
  wgd (gdv true v62) (fun k => wdp h (kMov h v0) .pure k) h fun v66 c9 h =>
  wgd (gdv true v62) (fun k => wdp h (kLdn h 2 v5) (rdK (rdv v5)) k) h fun v67 c10 h =>
  wgd (gdv true v62) (fun k => wdc cl (.func (.func 16) [] []) [v66, v67] h k) h fun v68 c11 h =>
  wgd (gdv true v62) (fun k => wdp h (kArith h .eql v65 v68) .pure k) h fun v69 c12 h =>
  wdp h (kPick h v62 v69 (.bool false)) .pure fun v70 c13 h =>
  wdp h (kMov h v70) .pure fun v71 c14 h =>
  wsp v71 fun v71 =>
  wgd (gdv true v71) (fun k => wdc cl (.func (.func 17) [] []) [] h k) h fun v72 c15 h =>
  g3_s5 cl c8 c10 (v6) (v71) (v72) h Q
def g3_c7 (cl : CL) (v0 v5 v6 : AV) (h : AH) (Q : AV → AH → Prop) : Prop :=
  wdr h 18 fun r h =>
  wdp h (kMov h v0) .pure fun v57 c0 h =>
  wdc cl (.func (.func 13) [] []) [v57] h fun v58 c1 h =>
  wdp h (kMov h v0) .pure fun v59 c2 h =>
  wdc cl (.func (.func 14) [] []) [v59] h fun v60 c3 h =>
  wdp h (kArith h .eql v58 v60) .pure fun v61 c4 h =>
  wdp h (kMov h v61) .pure fun v62 c5 h =>
  wsp v62 fun v62 =>
  wgd (gdv true v62) (fun k => wdp h (kMov h v0) .pure k) h fun v63 c6 h =>
  wgd (gdv true v62) (fun k => wdp h (kLdn h 2 v5) (rdK (rdv v5)) k) h fun v64 c7 h =>
  g3_s6 cl (v0) (v5) (v6) (v62) (v63) (v64) h Q
def g3_j8 (cl : CL) (x : AX) (v0 v5 v6 : AV) (h : AH) (Q : AV → AH → Prop) : Prop :=
  xs x (g3_c7 cl (v0) (v5) (v6) h Q) (fun j => cond (Nat.beq j 0) (g3_c7 cl (v0) (v5) (v6) h Q) (False)) (Q (v6) h)
def g3_j9 (cl : CL) (v0 v1 v5 v13 : AV) (h : AH) (Q : AV → AH → Prop) : Prop :=
  wif v13 (
  Q ((.bool true)) h) (
  wloop (fun vs h k => g3_l6 cl (nthD vs 0) (nthD vs 1) (nthD vs 2) (nthD vs 3) h k) [v0, v1, v5, (.int .i64 0)] h fun x vs h => g3_j8 cl x (nthD vs 0) (nthD vs 1) (nthD vs 2) h Q)
def g3 (cl : CL) (v0 v1 v2 : AV) (h : AH) (Q : AV → AH → Prop) : Prop :=
  wk (kBox h v2) fun v5 h =>
  wjoinN (g3_a1 cl (v0) (v1) (v5) h) fun vs h => g3_j9 cl (nthD vs 0) (nthD vs 1) (nthD vs 2) (nthD vs 3) h Q
def g5_s1 (cl : CL) (v6 v7 v8 v9 v10 v11 v57 v58 v59 : AV) (h : AH) (k : AX → List AV → List AV → AH → Prop) : Prop :=
  wdp h (kIdxA h 4 v58 v59) .pure fun v60 c6 h =>
  wdp h (kLdn h 4 v60) (rdK (rdv v60)) fun v61 c7 h =>
  wdp h (kEqf h true [.int .i64, .int .i64, .int .i64, .int .i64] v57 v61) .pure fun v62 c8 h =>
  wif v62 (
  k .ret [v6, v7, v8, v9, v10, v11] [(.bool false), v6, v7, v8] h) (
  wk (kArith h .add v11 (.int .i64 1)) fun v53 h =>
  k .nrm [v6, v7, v8, v9, v10, v53] [.undef, v6, v7, v8] h)
def g5_l1 (cl : CL) (v6 v7 v8 v9 v10 v11 : AV) (h : AH) (k : AX → List AV → List AV → AH → Prop) : Prop :=
  wk (kLen h v9) fun v50 h =>
  wk (kArith h .lss v11 v50) fun v51 h =>
  wif v51 (
  wdr h 9 fun r h =>
  wdp h (kMov h v9) .pure fun v54 c0 h =>
  wdp h (kMov h v11) .pure fun v55 c1 h =>
  wdp h (kIdxA h 4 v54 v55) .pure fun v56 c2 h =>
  wdp h (kLdn h 4 v56) (rdK (rdv v56)) fun v57 c3 h =>
  wdp h (kMov h v10) .pure fun v58 c4 h =>
  wdp h (kMov h v11) .pure fun v59 c5 h =>
  g5_s1 cl (v6) (v7) (v8) (v9) (v10) (v11) (v57) (v58) (v59) h k) (
  k (.exit 2) [v6, v7, v8, v9, v10, v11] [.undef, v6, v7, v8] h)
def g5_c2 (cl : CL) (v4 v6 v7 v8 : AV) (h : AH) (k : AX → List AV → List AV → AH → Prop) : Prop :=
  wk (kArith h .add v8 (.int .i64 1)) fun v30 h =>
  k .nrm [v6, v7, v30] [v4] h
def g5_j3 (cl : CL) (x : AX) (v4 v6 v7 v8 : AV) (h : AH) (k : AX → List AV → List AV → AH → Prop) : Prop :=
  xs x (g5_c2 cl (v4) (v6) (v7) (v8) h k) (fun j => cond (Nat.beq j 2) (g5_c2 cl (v4) (v6) (v7) (v8) h k) (cond (Nat.beq j 1) (wk (kArith h .add v8 (.int .i64 1)) fun v30 h =>
  k .nrm [v6, v7, v30] [v4] h) (k (.exit j) [v6, v7, v8] [v4] h))) (k .ret [v6, v7, v8] [v4] h)
def g5_s2 (cl : CL) (v6 v7 v8 v9 v10 : AV) (h : AH) (k : AX → List AV → List AV → AH → Prop) : Prop :=
  wk (kLen h v9) fun v44 h =>
  wk (kLen h v10) fun v46 h =>
  wk (kArith h .neq v44 v46) fun v47 h =>
  wif v47 (
  k .ret [v6, v7, v8] [(.bool false)] h) (
  wloop (fun vs h k => g5_l1 cl (nthD vs 0) (nthD vs 1) (nthD vs 2) (nthD vs 3) (nthD vs 4) (nthD vs 5) h k) [v6, v7, v8, v9, v10, (.int .i64 0)] h fun x vs h => g5_j3 cl x (nthD vs 0) (nthD vs 1) (nthD vs 2) (nthD vs 3) h k)
def g5_s3 (cl : CL) (c5 : Rec) (v6 v7 v8 v36 : AV) (h : AH) (k : AX → List AV → List AV → AH → Prop) : Prop :=
  wdp h (kMov h v6) .pure fun v37 c6 h =>
  wdp h (kMov h v7) .pure fun v38 c7 h =>
  wdp h (kMov h v8) .pure fun v39 c8 h =>
  wdp h (kIdxA h 1 v38 v39) .pure fun v40 c9 h =>
  wdp h (kLd1 h v40) (rdK (rdv v40)) fun v41 c10 h =>
  wdc cl (.func (.func 24) [] []) [v37, v41] h fun v42 c11 h =>
  wdp h (kMov h v36) .pure fun v9 c12 h =>
  wdp h (kMov h v42) .pure fun v10 c13 h =>
  recOk c5 c10 = true ∧ g5_s2 cl (v6) (v7) (v8) (v9) (v10) h k
def g5_l4 (cl : CL) (v6 v7 v8 : AV) (h : AH) (k : AX → List AV → List AV → AH → Prop) : Prop :=
  wk (kLen h v7) fun v27 h =>
  wk (kArith h .lss v8 v27) fun v28 h =>
  wif v28 (
  wdr h 14 fun r h =>
  wdp h (kMov h v6) .pure fun v31 c0 h =>
  wdp h (kMov h v7) .pure fun v32 c1 h =>
  wdp h (kMov h v8) .pure fun v33 c2 h =>
  wdp h (kIdxA h 1 v32 v33) .pure fun v34 c3 h =>
  wdp h (kLd1 h v34) (rdK (rdv v34)) fun v35 c4 h =>
  wdc cl (.func (.func 23) [] []) [v31, v35] h fun v36 c5 h =>
  g5_s3 cl c5 (v6) (v7) (v8) (v36) h k) (
  k (.exit 0) [v6, v7, v8] [.undef] h)
def g5_c5 (cl : CL) (h : AH) (Q : AV → AH → Prop) : Prop :=
  wcall cl (.func (.func 17) [] []) [] h fun v63 h =>
  Q (v63) h
def g5_j6 (cl : CL) (x : AX) (v4 : AV) (h : AH) (Q : AV → AH → Prop) : Prop :=
  xs x (g5_c5 cl h Q) (fun j => cond (Nat.beq j 0) (g5_c5 cl h Q) (False)) (Q (v4) h)
def g5_s4 (cl : CL) (v1 v6 v20 v22 : AV) (h : AH) (Q : AV → AH → Prop) : Prop :=
  wk (kBuildSl h 1 4 [.nilsl, .nilsl, .nilsl, .nilsl] [(0, 1, v20), (1, 1, v22), (2, 1, v1), (3, 1, (.nilsl))]) fun v24 h =>
  wloop (fun vs h k => g5_l4 cl (nthD vs 0) (nthD vs 1) (nthD vs 2) h k) [v6, v24, (.int .i64 0)] h fun x vs h => g5_j6 cl x (nthD vs 0) h Q
def g5_s5 (cl : CL) (v1 v5 v6 v20 : AV) (h : AH) (Q : AV → AH → Prop) : Prop :=
  wcall cl (.func (.func 19) [] []) [v5, (.int .i64 6)] h fun v22 h =>
  g5_s4 cl (v1) (v6) (v20) (v22) h Q
def g5 (cl : CL) (v0 v1 : AV) (h : AH) (Q : AV → AH → Prop) : Prop :=
  wcall cl (.func (.func 10) [] []) [v1] h fun v13 h =>
  wif v13 (
  Q ((.bool true)) h) (
  wcall cl (.func (.func 18) [] []) [v0] h fun v15 h =>
  wcall cl (.func (.func 19) [] []) [v15, (.int .i64 12)] h fun v17 h =>
  wcall cl (.func (.func 22) [] []) [v15, v17] h fun v20 h =>
  g5_s5 cl (v1) (v15) (v17) (v20) h Q)
def g6_a1 (cl : CL) (v3 v4 v5 v20 : AV) (h : AH) (k : List AV → AH → Prop) : Prop :=
  wif v20 (
  wcall cl (.func (.func 19) [] []) [v3, (.int .i64 12)] h fun v22 h =>
  k [v4, v22] h) (
  k [v4, v5] h)
def g6_s1 (cl : CL) (v4 v5 v6 v7 v8 v9 v10 v46 v52 : AV) (h : AH) (k : List AV → AH → Prop) : Prop :=
  wdp h (kPick h v46 (.bool true) v52) .pure fun v53 c8 h =>
  wdp h (kMov h v53) .pure fun v9 c9 h =>
  k [v4, v5, v6, v7, v8, v9, v10] h
def g6_a2 (cl : CL) (v4 v5 v6 v7 v8 v9 v10 : AV) (h : AH) (k : List AV → AH → Prop) : Prop :=
  wdr h 10 fun r h =>
  wdp h (kMov h v9) .pure fun v45 c0 h =>
  wdp h (kMov h v45) .pure fun v46 c1 h =>
  wsp v46 fun v46 =>
  wgd (gdv false v46) (fun k => wdp h (kMov h v6) .pure k) h fun v47 c2 h =>
  wgd (gdv false v46) (fun k => wdp h (kMov h v10) .pure k) h fun v48 c3 h =>
  wgd (gdv false v46) (fun k => wdp h (kIdxA h 4 v47 v48) .pure k) h fun v49 c4 h =>
  wgd (gdv false v46) (fun k => wdp h (kLdn h 4 v49) (rdK (rdv v49)) k) h fun v50 c5 h =>
  wgd (gdv false v46) (fun k => wdp h (kLdn h 2 v8) (rdK (rdv v8)) k) h fun v51 c6 h =>
  wgd (gdv false v46) (fun k => wdc cl (.func (.func 25) [] []) [v50, v51] h k) h fun v52 c7 h =>
  g6_s1 cl (v4) (v5) (v6) (v7) (v8) (v9) (v10) (v46) (v52) h k
def g6_j3 (cl : CL) (v4 v5 v6 v7 v8 v9 v10 : AV) (h : AH) (k : AX → List AV → List AV → AH → Prop) : Prop :=
  wk (kArith h .add v10 (.int .i64 1)) fun v44 h =>
  k .nrm [v4, v5, v6, v7, v8, v9, v44] [v4, v5, v6, v7, v8, v9] h
def g6_l4 (cl : CL) (v4 v5 v6 v7 v8 v9 v10 : AV) (h : AH) (k : AX → List AV → List AV → AH → Prop) : Prop :=
  wk (kLen h v6) fun v41 h =>
  wk (kArith h .lss v10 v41) fun v42 h =>
  wif v42 (
  wjoinN (g6_a2 cl (v4) (v5) (v6) (v7) (v8) (v9) (v10) h) fun vs h => g6_j3 cl (nthD vs 0) (nthD vs 1) (nthD vs 2) (nthD vs 3) (nthD vs 4) (nthD vs 5) (nthD vs 6) h k) (
  k (.exit 2) [v4, v5, v6, v7, v8, v9, v10] [v4, v5, v6, v7, v8, v9] h)
def g6_s2 (cl : CL) (c5 c7 : Rec) (v4 v5 v6 v7 v56 v59 v60 v61 : AV) (h : AH) (k : List AV → AH → Prop) : Prop :=
  wgd (gdv true v56) (fun k => wdc cl (.func (.func 15) [] []) [v60, v61] h k) h fun v62 c8 h =>
  wgd (gdv true v56) (fun k => wdp h (kArith h .neq v59 v62) .pure k) h fun v63 c9 h =>
  wdp h (kPick h v56 v63 (.bool false)) .pure fun v64 c10 h =>
  recOk c5 c7 = true ∧ k [v4, v5, v6, v7, v64] h
def g6_a5 (cl : CL) (v4 v5 v6 v7 v8 v9 : AV) (h : AH) (k : List AV → AH → Prop) : Prop :=
  wdr h 11 fun r h =>
  wdp h (kMov h v9) .pure fun v54 c0 h =>
  wdp h (kUn h .not v54) .pure fun v55 c1 h =>
  wdp h (kMov h v55) .pure fun v56 c2 h =>
  wsp v56 fun v56 =>
  wgd (gdv true v56) (fun k => wdp h (kMov h v4) .pure k) h fun v57 c3 h =>
  wgd (gdv true v56) (fun k => wdp h (kLdn h 2 v8) (rdK (rdv v8)) k) h fun v58 c4 h =>
  wgd (gdv true v56) (fun k => wdc cl (.func (.func 15) [] []) [v57, v58] h k) h fun v59 c5 h =>
  wgd (gdv true v56) (fun k => wdp h (kMov h v5) .pure k) h fun v60 c6 h =>
  wgd (gdv true v56) (fun k => wdp h (kLdn h 2 v8) (rdK (rdv v8)) k) h fun v61 c7 h =>
  g6_s2 cl c5 c7 (v4) (v5) (v6) (v7) (v56) (v59) (v60) (v61) h k
def g6_j6 (cl : CL) (v4 v5 v6 v7 v64 : AV) (h : AH) (k : AX → List AV → List AV → AH → Prop) : Prop :=
  wif v64 (
  k .ret [v4, v5, v6, v7] [(.bool false)] h) (
  wk (kArith h .add v7 (.int .i64 1)) fun v29 h =>
  k .nrm [v4, v5, v6, v29] [.undef] h)
def g6_c7 (cl : CL) (v4 v5 v6 v7 v8 v9 : AV) (h : AH) (k : AX → List AV → List AV → AH → Prop) : Prop :=
  wjoinN (g6_a5 cl (v4) (v5) (v6) (v7) (v8) (v9) h) fun vs h => g6_j6 cl (nthD vs 0) (nthD vs 1) (nthD vs 2) (nthD vs 3) (nthD vs 4) h k
def g6_j8 (cl : CL) (x : AX) (v4 v5 v6 v7 v8 v9 : AV) (h : AH) (k : AX → List AV → List AV → AH → Prop) : Prop :=
  xs x (g6_c7 cl (v4) (v5) (v6) (v7) (v8) (v9) h k) (fun j => cond (Nat.beq j 2) (g6_c7 cl (v4) (v5) (v6) (v7) (v8) (v9) h k) (cond (Nat.beq j 1) (wk (kArith h .add v7 (.int .i64 1)) fun v29 h =>
  k .nrm [v4, v5, v6, v29] [.undef] h) (k (.exit j) [v4, v5, v6, v7] [.undef] h))) (k .ret [v4, v5, v6, v7] [.undef] h)
def g6_s3 (cl : CL) (v4 v5 v6 v7 v38 : AV) (h : AH) (k : AX → List AV → List AV → AH → Prop) : Prop :=
  wk (kNew h [.int .i64 0, .int .i64 0]) fun v8 h =>
  wk (kSt h 2 v8 v38) fun _ h =>
  wloop (fun vs h k => g6_l4 cl (nthD vs 0) (nthD vs 1) (nthD vs 2) (nthD vs 3) (nthD vs 4) (nthD vs 5) (nthD vs 6) h k) [v4, v5, v6, v7, v8, (.bool false), (.int .i64 0)] h fun x vs h => g6_j8 cl x (nthD vs 0) (nthD vs 1) (nthD vs 2) (nthD vs 3) (nthD vs 4) (nthD vs 5) h k
def g6_l9 (cl : CL) (v4 v5 v6 v7 : AV) (h : AH) (k : AX → List AV → List AV → AH → Prop) : Prop :=
  wk (kArith h .lss v7 (.int .i64 200)) fun v27 h =>
  wif v27 (
  wk (kArith h .mul v7 (.int .i64 13)) fun v31 h =>
  wk (kArith h .rem v31 (.int .i64 160)) fun v32 h =>
  wk (kArith h .sub v32 (.int .i64 60)) fun v33 h =>
  wk (kArith h .mul v7 (.int .i64 29)) fun v35 h =>
  wk (kArith h .rem v35 (.int .i64 160)) fun v36 h =>
  wk (kArith h .sub v36 (.int .i64 60)) fun v37 h =>
  wk (kBuild h [.int .i64 0, .int .i64 0] [(0, 1, v33), (1, 1, v37)]) fun v38 h =>
  g6_s3 cl (v4) (v5) (v6) (v7) (v38) h k) (
  k (.exit 0) [v4, v5, v6, v7] [.undef] h)
def g6_c10 (cl : CL) (h : AH) (Q : AV → AH → Prop) : Prop :=
  wcall cl (.func (.func 17) [] []) [] h fun v65 h =>
  Q (v65) h
def g6_j11 (cl : CL) (x : AX) (v2 : AV) (h : AH) (Q : AV → AH → Prop) : Prop :=
  xs x (g6_c10 cl h Q) (fun j => cond (Nat.beq j 0) (g6_c10 cl h Q) (False)) (Q (v2) h)
def g6_j12 (cl : CL) (v4 v5 : AV) (h : AH) (Q : AV → AH → Prop) : Prop :=
  wcall cl (.func (.func 23) [] []) [v4, v5] h fun v25 h =>
  wloop (fun vs h k => g6_l9 cl (nthD vs 0) (nthD vs 1) (nthD vs 2) (nthD vs 3) h k) [v4, v5, v25, (.int .i64 0)] h fun x vs h => g6_j11 cl x (nthD vs 0) h Q
def g6 (cl : CL) (v0 : AV) (h : AH) (Q : AV → AH → Prop) : Prop :=
  wcall cl (.func (.func 18) [] []) [v0] h fun v12 h =>
  wcall cl (.func (.func 19) [] []) [v12, (.int .i64 12)] h fun v14 h =>
  wcall cl (.func (.func 22) [] []) [v12, v14] h fun v17 h =>
  wcall cl (.func (.func 20) [] []) [v12, (.int .i64 4)] h fun v19 h =>
  wk (kArith h .eql v19 (.int .i64 0)) fun v20 h =>
  wjoinN (g6_a1 cl (v12) (v14) (v17) (v20) h) fun vs h => g6_j12 cl (nthD vs 0) (nthD vs 1) h Q
def g7_s1 (cl : CL) (v1 v5 v6 v7 v24 v28 v30 : AV) (h : AH) (k : List AV → AH → Prop) : Prop :=
  wcall cl (.func (.func 26) [] []) [v30, (.int .i64 0), (.int .i64 5), (.int .i64 5), (.int .i64 1)] h fun v31 h =>
  wk (kIdxA h 22 v24 v28) fun v32 h =>
  wk (kSt h 22 v32 v31) fun _ h =>
  k [v1, v5, v6, v7] h
def g7_s2 (cl : CL) (v1 v5 v6 v7 v24 v28 : AV) (h : AH) (k : List AV → AH → Prop) : Prop :=
  wcall cl (.func (.func 20) [] []) [v5, (.int .i64 3)] h fun v30 h =>
  g7_s1 cl (v1) (v5) (v6) (v7) (v24) (v28) (v30) h k
def g7_a1 (cl : CL) (v1 v5 v6 v7 v23 : AV) (h : AH) (k : List AV → AH → Prop) : Prop :=
  wif v23 (
  wk (kLen h v7) fun v27 h =>
  wcall cl (.func (.func 20) [] []) [v5, v27] h fun v28 h =>
  g7_s2 cl (v1) (v5) (v6) (v7) (v7) (v28) h k) (
  k [v1, v5, v6, v7] h)
def g7_s3 (cl : CL) (v6 v8 v9 v70 v71 v74 : AV) (h : AH) (k : List AV → AH → Prop) : Prop :=
  wg (gdv false v70) (fun k => wk (kLd1 h v74) k) h fun v75 h =>
  wg (gdv false v70) (fun k => wcall cl (.func (.func 31) [] []) [v71, v75] h k) h fun v76 h =>
  wg (gdv false v70) (fun k => wk (kUn h .not v76) k) h fun v77 h =>
  wk (kPick h v70 (.bool true) v77) fun v78 h =>
  k [v6, v8, v9, v78] h
def g7_s4 (cl : CL) (v6 v8 v9 v11 v12 v64 : AV) (h : AH) (k : List AV → AH → Prop) : Prop :=
  wk (kUn h .not v64) fun v65 h =>
  wsp v65 fun v66 =>
  wg (gdv false v66) (fun k => k v12 h) h fun v67 h =>
  wg (gdv false v66) (fun k => wk (kArith h .neq v67 (.int .i64 0)) k) h fun v68 h =>
  wk (kPick h v66 (.bool true) v68) fun v69 h =>
  wsp v69 fun v70 =>
  wg (gdv false v70) (fun k => k v11 h) h fun v71 h =>
  wg (gdv false v70) (fun k => k v8 h) h fun v72 h =>
  wg (gdv false v70) (fun k => k v9 h) h fun v73 h =>
  wg (gdv false v70) (fun k => wk (kIdxA h 1 v72 v73) k) h fun v74 h =>
  g7_s3 cl (v6) (v8) (v9) (v70) (v71) (v74) h k
def g7_s5 (cl : CL) (v6 v8 v9 v11 v12 v57 v63 : AV) (h : AH) (k : List AV → AH → Prop) : Prop :=
  wcall cl (.func (.func 29) [] []) [v57, v63] h fun v64 h =>
  g7_s4 cl (v6) (v8) (v9) (v11) (v12) (v64) h k
def g7_a2 (cl : CL) (v6 v8 v9 v10 v11 v12 : AV) (h : AH) (k : List AV → AH → Prop) : Prop :=
  wk (kIdxA h 1 v8 v9) fun v61 h =>
  wk (kLd1 h v61) fun v62 h =>
  wcall cl (.func (.func 30) [] []) [v6, v62] h fun v63 h =>
  g7_s5 cl (v6) (v8) (v9) (v11) (v12) (v10) (v63) h k
def g7_j3 (cl : CL) (v6 v8 v9 v78 : AV) (h : AH) (k : AX → List AV → List AV → AH → Prop) : Prop :=
  wif v78 (
  k .ret [v6, v8, v9] [(.bool false)] h) (
  wk (kArith h .add v9 (.int .i64 1)) fun v44 h =>
  k .nrm [v6, v8, v44] [.undef] h)
def g7_s6 (cl : CL) (v6 v8 v9 v10 v54 : AV) (h : AH) (k : AX → List AV → List AV → AH → Prop) : Prop :=
  wk (kExt h v54 0) fun v55 h =>
  wk (kExt h v54 1) fun v56 h =>
  wjoinN (g7_a2 cl (v6) (v8) (v9) (v10) (v55) (v56) h) fun vs h => g7_j3 cl (nthD vs 0) (nthD vs 1) (nthD vs 2) (nthD vs 3) h k
def g7_l4 (cl : CL) (v6 v8 v9 : AV) (h : AH) (k : AX → List AV → List AV → AH → Prop) : Prop :=
  wk (kLen h v8) fun v41 h =>
  wk (kArith h .lss v9 v41) fun v42 h =>
  wif v42 (
  wk (kIdxA h 1 v8 v9) fun v48 h =>
  wk (kLd1 h v48) fun v49 h =>
  wcall cl (.func (.func 27) [] []) [v6, v49] h fun v50 h =>
  wcall cl (.func (.func 28) [] []) [v6, v50] h fun v54 h =>
  g7_s6 cl (v6) (v8) (v9) (v50) (v54) h k) (
  k (.exit 0) [v6, v8, v9] [.undef] h)
def g7_c5 (cl : CL) (h : AH) (Q : AV → AH → Prop) : Prop :=
  wcall cl (.func (.func 17) [] []) [] h fun v79 h =>
  Q (v79) h
def g7_j6 (cl : CL) (x : AX) (v4 : AV) (h : AH) (Q : AV → AH → Prop) : Prop :=
  xs x (g7_c5 cl h Q) (fun j => cond (Nat.beq j 0) (g7_c5 cl h Q) (False)) (Q (v4) h)
def g7_f7 (cl : CL) (v6 v8 v9 : AV) (h : AH) (Q : AV → AH → Prop) : Prop :=
  wloop (fun vs h k => g7_l4 cl (nthD vs 0) (nthD vs 1) (nthD vs 2) h k) [v6, v8, v9] h fun x vs h => g7_j6 cl x (nthD vs 0) h Q
def g7_j8 (cl : CL) (v1 v5 v6 v7 : AV) (h : AH) (Q : AV → AH → Prop) : Prop :=
  wcall cl (.func (.func 19) [] []) [v5, (.int .i64 4)] h fun v37 h =>
  wk (kBuildSl h 1 5 [.nilsl, .nilsl, .nilsl, .nilsl, .nilsl] [(0, 1, v6), (1, 1, v1), (2, 1, v7), (3, 1, v37), (4, 1, (.nilsl))]) fun v38 h =>
  wfrz [v6, v38, (.int .i64 0)] h fun vs h => g7_f7 cl (nthD vs 0) (nthD vs 1) (nthD vs 2) h Q
def g7 (cl : CL) (v0 v1 : AV) (h : AH) (Q : AV → AH → Prop) : Prop :=
  wcall cl (.func (.func 10) [] []) [v1] h fun v14 h =>
  wif v14 (
  Q ((.bool true)) h) (
  wcall cl (.func (.func 18) [] []) [v0] h fun v16 h =>
  wcall cl (.func (.func 19) [] []) [v16, (.int .i64 10)] h fun v18 h =>
  wk (kApp h 22 200 (.nilsl) v18) fun v20 h =>
  wk (kLen h v20) fun v22 h =>
  wk (kArith h .gtr v22 (.int .i64 0)) fun v23 h =>
  wjoinN (g7_a1 cl (v1) (v16) (v18) (v20) (v23) h) fun vs h => g7_j8 cl (nthD vs 0) (nthD vs 1) (nthD vs 2) (nthD vs 3) h Q)
/- widgetry/widgetrylaw24.DisplayApplies -/
def S8.r0 : List AOpr := [
  ⟨some 4, .mov (.const (.bool false)), none⟩]
def S8.r1 : List AOpr := [
  ⟨some 18, .mov (.tmp 1), none⟩,
  ⟨some 19, .len (.tmp 18), none⟩,
  ⟨some 20, .arith .gtr (.tmp 19) (.const (.int .i64 6)), none⟩]
def S8.r2 : List AOpr := [
  ⟨some 4, .mov (.const (.bool true)), none⟩]
def S8.r3 : List AOpr := [
  ⟨some 5, .mov (.const (.int .i64 0)), none⟩]
def S8.r4 : List AOpr := [
  ⟨some 21, .mov (.tmp 5), none⟩,
  ⟨some 22, .mov (.tmp 1), none⟩,
  ⟨some 23, .len (.tmp 22), none⟩,
  ⟨some 24, .arith .lss (.tmp 21) (.tmp 23), none⟩]
def S8.r5 : List AOpr := [
  ⟨some 27, .mov (.tmp 1), none⟩,
  ⟨some 28, .mov (.tmp 5), none⟩,
  ⟨some 29, .idxA 3 (.tmp 27) (.tmp 28), none⟩,
  ⟨some 30, .fldA 2 (.tmp 29), none⟩,
  ⟨some 31, .ld1 (.tmp 30), none⟩,
  ⟨some 32, .call (.const (.func (.func 10) [] [])) [.tmp 31], none⟩]
def S8.r6 : List AOpr := [
  ⟨some 4, .mov (.const (.bool true)), none⟩]
def S8.r7 : List AOpr := [
  ⟨some 25, .mov (.tmp 5), none⟩,
  ⟨some 26, .arith .add (.tmp 25) (.const (.int .i64 1)), none⟩,
  ⟨some 5, .mov (.tmp 26), none⟩]
def S8.r8 : List AOpr := [
  ⟨some 33, .mov (.tmp 0), none⟩,
  ⟨some 34, .call (.const (.func (.func 18) [] [])) [.tmp 33], none⟩,
  ⟨some 6, .mov (.tmp 34), none⟩]
def S8.r9 : List AOpr := [
  ⟨some 35, .mov (.tmp 6), none⟩,
  ⟨some 36, .call (.const (.func (.func 19) [] [])) [.tmp 35, .const (.int .i64 8)], none⟩,
  ⟨some 7, .mov (.tmp 36), none⟩]
def S8.r10 : List AOpr := [
  ⟨some 8, .mov (.const (.nilsl)), none⟩]
def S8.r11 : List AOpr := [
  ⟨some 37, .mov (.tmp 6), none⟩,
  ⟨some 38, .call (.const (.func (.func 20) [] [])) [.tmp 37, .const (.int .i64 4)], none⟩,
  ⟨some 9, .mov (.tmp 38), none⟩]
def S8.r12 : List AOpr := [
  ⟨some 39, .mov (.tmp 9), none⟩,
  ⟨some 40, .arith .gtr (.tmp 39) (.const (.int .i64 0)), none⟩]
def S8.r13 : List AOpr := [
  ⟨some 43, .mov (.tmp 8), none⟩,
  ⟨some 44, .mov (.tmp 6), none⟩,
  ⟨some 45, .call (.const (.func (.func 21) [] [])) [.tmp 44, .const (.int .i64 (-1)), .const (.int .i64 9)], none⟩,
  ⟨some 46, .mov (.tmp 6), none⟩,
  ⟨some 47, .call (.const (.func (.func 21) [] [])) [.tmp 46, .const (.int .i64 (-1)), .const (.int .i64 4)], none⟩,
  ⟨some 48, .mov (.tmp 6), none⟩,
  ⟨some 49, .call (.const (.func (.func 19) [] [])) [.tmp 48, .const (.int .i64 2)], none⟩,
  ⟨some 50, .build [.int .i64 0, .int .i64 0, .nilsl] [(0, 1, .tmp 45), (1, 1, .tmp 47), (2, 1, .tmp 49)], none⟩,
  ⟨some 51, .buildSl 3 1 [.int .i64 0, .int .i64 0, .nilsl] [(0, 3, .tmp 50)], none⟩,
  ⟨some 52, .app 3 40 (.tmp 43) (.tmp 51), none⟩,
  ⟨some 8, .mov (.tmp 52), none⟩]
def S8.r14 : List AOpr := [
  ⟨some 41, .mov (.tmp 9), none⟩,
  ⟨some 42, .arith .sub (.tmp 41) (.const (.int .i64 1)), none⟩,
  ⟨some 9, .mov (.tmp 42), none⟩]
def S8.r15 : List AOpr := [
  ⟨some 54, .mov (.tmp 7), none⟩,
  ⟨some 55, .mov (.tmp 8), none⟩,
  ⟨some 56, .call (.const (.func (.func 28) [] [])) [.tmp 54, .tmp 55], none⟩,
  ⟨some 53, .mov (.tmp 56), none⟩,
  ⟨some 57, .ext (.tmp 53) 0, none⟩,
  ⟨some 58, .ext (.tmp 53) 1, none⟩,
  ⟨some 10, .mov (.tmp 57), none⟩,
  ⟨some 11, .mov (.tmp 58), none⟩]
def S8.r16 : List AOpr := [
  ⟨some 60, .mov (.tmp 7), none⟩,
  ⟨some 61, .mov (.tmp 8), none⟩,
  ⟨some 62, .call (.const (.func (.func 32) [] [])) [.tmp 60, .tmp 61], none⟩,
  ⟨some 59, .mov (.tmp 62), none⟩,
  ⟨some 63, .ext (.tmp 59) 0, none⟩,
  ⟨some 64, .ext (.tmp 59) 1, none⟩,
  ⟨some 12, .mov (.tmp 63), none⟩,
  ⟨some 13, .mov (.tmp 64), none⟩]
def S8.r17 : List AOpr := [
  ⟨some 66, .mov (.tmp 7), none⟩,
  ⟨some 67, .mov (.tmp 1), none⟩,
  ⟨some 68, .call (.const (.func (.func 28) [] [])) [.tmp 66, .tmp 67], none⟩,
  ⟨some 65, .mov (.tmp 68), none⟩,
  ⟨some 69, .ext (.tmp 65) 0, none⟩,
  ⟨some 70, .ext (.tmp 65) 1, none⟩,
  ⟨some 14, .mov (.tmp 69), none⟩,
  ⟨some 15, .mov (.tmp 70), none⟩]
def S8.r18 : List AOpr := [
  ⟨some 72, .mov (.tmp 7), none⟩,
  ⟨some 73, .mov (.tmp 1), none⟩,
  ⟨some 74, .call (.const (.func (.func 32) [] [])) [.tmp 72, .tmp 73], none⟩,
  ⟨some 71, .mov (.tmp 74), none⟩,
  ⟨some 75, .ext (.tmp 71) 0, none⟩,
  ⟨some 76, .ext (.tmp 71) 1, none⟩,
  ⟨some 16, .mov (.tmp 75), none⟩,
  ⟨some 17, .mov (.tmp 76), none⟩]
def S8.r19 : List (AOpr × Option Nat) := [
  (⟨some 77, .mov (.tmp 11), none⟩, none),
  (⟨some 78, .mov (.tmp 13), none⟩, none),
  (⟨some 79, .arith .eql (.tmp 77) (.tmp 78), none⟩, none),
  (⟨some 80, .mov (.tmp 79), none⟩, none),
  (⟨some 81, .mov (.tmp 10), some (80, true)⟩, some 80),
  (⟨some 82, .mov (.tmp 12), some (80, true)⟩, none),
  (⟨some 83, .call (.const (.func (.func 31) [] [])) [.tmp 81, .tmp 82], some (80, true)⟩, none),
  (⟨some 84, .pick (.tmp 80) (.tmp 83) (.const (.bool false)), none⟩, none),
  (⟨some 85, .mov (.tmp 84), none⟩, none),
  (⟨some 86, .mov (.tmp 15), some (85, true)⟩, some 85),
  (⟨some 87, .mov (.tmp 17), some (85, true)⟩, none),
  (⟨some 88, .arith .eql (.tmp 86) (.tmp 87), some (85, true)⟩, none),
  (⟨some 89, .pick (.tmp 85) (.tmp 88) (.const (.bool false)), none⟩, none),
  (⟨some 90, .mov (.tmp 89), none⟩, none),
  (⟨some 91, .mov (.tmp 14), some (90, true)⟩, some 90),
  (⟨some 92, .mov (.tmp 16), some (90, true)⟩, none),
  (⟨some 93, .call (.const (.func (.func 31) [] [])) [.tmp 91, .tmp 92], some (90, true)⟩, none),
  (⟨some 94, .pick (.tmp 90) (.tmp 93) (.const (.bool false)), none⟩, none),
  (⟨some 95, .mov (.tmp 94), none⟩, none),
  (⟨some 96, .call (.const (.func (.func 17) [] [])) [], some (95, true)⟩, some 95),
  (⟨some 97, .pick (.tmp 95) (.tmp 96) (.const (.bool false)), none⟩, none),
  (⟨some 4, .mov (.tmp 97), none⟩, none)]
def S8 : SFn := ⟨98, [.tmp 4], .seq (.reg S8.r0) (.seq (.seq (.reg S8.r1) (.cond (.tmp 20) (.seq (.reg S8.r2) (.ret)) (.skip))) (.seq (.seq (.reg S8.r3) (.block 0 (.loop [0, 1, 5] [0, 1, 4] (.seq (.seq (.reg S8.r4) (.cond (.tmp 24) (.skip) (.exit 0))) (.seq (.block 1 (.seq (.reg S8.r5) (.cond (.tmp 32) (.seq (.reg S8.r6) (.ret)) (.skip)))) (.reg S8.r7)))))) (.seq (.reg S8.r8) (.seq (.reg S8.r9) (.seq (.reg S8.r10) (.seq (.seq (.reg S8.r11) (.block 2 (.loop [1, 6, 7, 8, 9] [1, 7, 8] (.seq (.seq (.reg S8.r12) (.cond (.tmp 40) (.skip) (.exit 2))) (.seq (.block 3 (.reg S8.r13)) (.reg S8.r14)))))) (.frz [1, 7, 8] (.seq (.reg S8.r15) (.seq (.reg S8.r16) (.seq (.reg S8.r17) (.seq (.reg S8.r18) (.seq (.regS S8.r19) (.ret)))))))))))))⟩
theorem S8_ok : cFn Try.prog Try.f8 = some S8.erase := by kernel_rfl
def g8_l1 (cl : CL) (v0 v1 v5 : AV) (h : AH) (k : AX → List AV → List AV → AH → Prop) : Prop :=
  wk (kLen h v1) fun v23 h =>
  wk (kArith h .lss v5 v23) fun v24 h =>
  wif v24 (
  wk (kIdxA h 3 v1 v5) fun v29 h =>
  wk (kFldA h 2 v29) fun v30 h =>
  wk (kLd1 h v30) fun v31 h =>
  wcall cl (.func (.func 10) [] []) [v31] h fun v32 h =>
  wif v32 (
  k .ret [v0, v1, v5] [v0, v1, (.bool true)] h) (
  wk (kArith h .add v5 (.int .i64 1)) fun v26 h =>
  k .nrm [v0, v1, v26] [v0, v1, .undef] h)) (
  k (.exit 0) [v0, v1, v5] [v0, v1, .undef] h)
def g8_s1 (cl : CL) (v1 v6 v7 v9 v43 v45 v47 v49 : AV) (h : AH) (k : AX → List AV → List AV → AH → Prop) : Prop :=
  wk (kBuild h [.int .i64 0, .int .i64 0, .nilsl] [(0, 1, v45), (1, 1, v47), (2, 1, v49)]) fun v50 h =>
  wk (kBuildSl h 3 1 [.int .i64 0, .int .i64 0, .nilsl] [(0, 3, v50)]) fun v51 h =>
  wk (kApp h 3 40 v43 v51) fun v52 h =>
  wk (kArith h .sub v9 (.int .i64 1)) fun v42 h =>
  k .nrm [v1, v6, v7, v52, v42] [v1, v7, v52] h
def g8_s2 (cl : CL) (v1 v6 v7 v9 v43 v45 v47 : AV) (h : AH) (k : AX → List AV → List AV → AH → Prop) : Prop :=
  wcall cl (.func (.func 19) [] []) [v6, (.int .i64 2)] h fun v49 h =>
  g8_s1 cl (v1) (v6) (v7) (v9) (v43) (v45) (v47) (v49) h k
def g8_s3 (cl : CL) (v1 v6 v7 v9 v43 v45 : AV) (h : AH) (k : AX → List AV → List AV → AH → Prop) : Prop :=
  wcall cl (.func (.func 21) [] []) [v6, (.int .i64 (-1)), (.int .i64 4)] h fun v47 h =>
  g8_s2 cl (v1) (v6) (v7) (v9) (v43) (v45) (v47) h k
def g8_l2 (cl : CL) (v1 v6 v7 v8 v9 : AV) (h : AH) (k : AX → List AV → List AV → AH → Prop) : Prop :=
  wk (kArith h .gtr v9 (.int .i64 0)) fun v40 h =>
  wif v40 (
  wcall cl (.func (.func 21) [] []) [v6, (.int .i64 (-1)), (.int .i64 9)] h fun v45 h =>
  g8_s3 cl (v1) (v6) (v7) (v9) (v8) (v45) h k) (
  k (.exit 2) [v1, v6, v7, v8, v9] [v1, v7, v8] h)
def g8_s4 (cl : CL) (v95 v96 : AV) (h : AH) (Q : AV → AH → Prop) : Prop :=
  wk (kPick h v95 v96 (.bool false)) fun v97 h =>
  Q (v97) h
def g8_s5 (cl : CL) (v14 v16 v17 v85 v86 : AV) (h : AH) (Q : AV → AH → Prop) : Prop :=
  wg (gdv true v85) (fun k => k v17 h) h fun v87 h =>
  wg (gdv true v85) (fun k => wk (kArith h .eql v86 v87) k) h fun v88 h =>
  wk (kPick h v85 v88 (.bool false)) fun v89 h =>
  wsp v89 fun v90 =>
  wg (gdv true v90) (fun k => k v14 h) h fun v91 h =>
  wg (gdv true v90) (fun k => k v16 h) h fun v92 h =>
  wg (gdv true v90) (fun k => wcall cl (.func (.func 31) [] []) [v91, v92] h k) h fun v93 h =>
  wk (kPick h v90 v93 (.bool false)) fun v94 h =>
  wsp v94 fun v95 =>
  wg (gdv true v95) (fun k => wcall cl (.func (.func 17) [] []) [] h k) h fun v96 h =>
  g8_s4 cl (v95) (v96) h Q
def g8_s6 (cl : CL) (v10 v11 v12 v13 v14 v15 v74 : AV) (h : AH) (Q : AV → AH → Prop) : Prop :=
  wk (kExt h v74 0) fun v75 h =>
  wk (kExt h v74 1) fun v76 h =>
  wk (kArith h .eql v11 v13) fun v79 h =>
  wsp v79 fun v80 =>
  wg (gdv true v80) (fun k => k v10 h) h fun v81 h =>
  wg (gdv true v80) (fun k => k v12 h) h fun v82 h =>
  wg (gdv true v80) (fun k => wcall cl (.func (.func 31) [] []) [v81, v82] h k) h fun v83 h =>
  wk (kPick h v80 v83 (.bool false)) fun v84 h =>
  wsp v84 fun v85 =>
  wg (gdv true v85) (fun k => k v15 h) h fun v86 h =>
  g8_s5 cl (v14) (v75) (v76) (v85) (v86) h Q
def g8_s7 (cl : CL) (v1 v7 v10 v11 v12 v13 v68 : AV) (h : AH) (Q : AV → AH → Prop) : Prop :=
  wk (kExt h v68 0) fun v69 h =>
  wk (kExt h v68 1) fun v70 h =>
  wcall cl (.func (.func 32) [] []) [v7, v1] h fun v74 h =>
  g8_s6 cl (v10) (v11) (v12) (v13) (v69) (v70) (v74) h Q
def g8_s8 (cl : CL) (v1 v7 v10 v11 v62 : AV) (h : AH) (Q : AV → AH → Prop) : Prop :=
  wk (kExt h v62 0) fun v63 h =>
  wk (kExt h v62 1) fun v64 h =>
  wcall cl (.func (.func 28) [] []) [v7, v1] h fun v68 h =>
  g8_s7 cl (v1) (v7) (v10) (v11) (v63) (v64) (v68) h Q
def g8_s9 (cl : CL) (v1 v7 v8 v56 : AV) (h : AH) (Q : AV → AH → Prop) : Prop :=
  wk (kExt h v56 0) fun v57 h =>
  wk (kExt h v56 1) fun v58 h =>
  wcall cl (.func (.func 32) [] []) [v7, v8] h fun v62 h =>
  g8_s8 cl (v1) (v7) (v57) (v58) (v62) h Q
def g8_f3 (cl : CL) (v1 v7 v8 : AV) (h : AH) (Q : AV → AH → Prop) : Prop :=
  wcall cl (.func (.func 28) [] []) [v7, v8] h fun v56 h =>
  g8_s9 cl (v1) (v7) (v8) (v56) h Q
def g8_c4 (cl : CL) (v1 v7 v8 : AV) (h : AH) (Q : AV → AH → Prop) : Prop :=
  wfrz [v1, v7, v8] h fun vs h => g8_f3 cl (nthD vs 0) (nthD vs 1) (nthD vs 2) h Q
def g8_j5 (cl : CL) (x : AX) (v1 v7 v8 : AV) (h : AH) (Q : AV → AH → Prop) : Prop :=
  xs x (g8_c4 cl (v1) (v7) (v8) h Q) (fun j => cond (Nat.beq j 2) (g8_c4 cl (v1) (v7) (v8) h Q) (False)) (Q (.undef) h)
def g8_c6 (cl : CL) (v0 v1 : AV) (h : AH) (Q : AV → AH → Prop) : Prop :=
  wcall cl (.func (.func 18) [] []) [v0] h fun v34 h =>
  wcall cl (.func (.func 19) [] []) [v34, (.int .i64 8)] h fun v36 h =>
  wcall cl (.func (.func 20) [] []) [v34, (.int .i64 4)] h fun v38 h =>
  wloop (fun vs h k => g8_l2 cl (nthD vs 0) (nthD vs 1) (nthD vs 2) (nthD vs 3) (nthD vs 4) h k) [v1, v34, v36, (.nilsl), v38] h fun x vs h => g8_j5 cl x (nthD vs 0) (nthD vs 1) (nthD vs 2) h Q
def g8_j7 (cl : CL) (x : AX) (v0 v1 v4 : AV) (h : AH) (Q : AV → AH → Prop) : Prop :=
  xs x (g8_c6 cl (v0) (v1) h Q) (fun j => cond (Nat.beq j 0) (g8_c6 cl (v0) (v1) h Q) (False)) (Q (v4) h)
def g8 (cl : CL) (v0 v1 : AV) (h : AH) (Q : AV → AH → Prop) : Prop :=
  wk (kLen h v1) fun v19 h =>
  wk (kArith h .gtr v19 (.int .i64 6)) fun v20 h =>
  wif v20 (
  Q ((.bool true)) h) (
  wloop (fun vs h k => g8_l1 cl (nthD vs 0) (nthD vs 1) (nthD vs 2) h k) [v0, v1, (.int .i64 0)] h fun x vs h => g8_j7 cl x (nthD vs 0) (nthD vs 1) (nthD vs 2) h Q)
theorem g8_eq (cl : CL) (v0 v1 : AV) (h : AH) (Q : AV → AH → Prop) : wrun cl S8 [v0, v1] h Q = g8 cl v0 v1 h Q := by kernel_rfl
theorem C8 {cl : CL} (hcl : CLOk Try.prog cl) {v0 v1 : AV} {h : AH} {Q : AV → AH → Prop} (hg : g8 cl v0 v1 h Q) : CallsA Try.prog 8 [v0, v1] h Q := wfn_ok hcl (f := 8) (fn := Try.f8) (by kernel_rfl) S8_ok (by decide) (by kernel_rfl) (its_nil (by kernel_rfl)) (by rw [g8_eq]; exact hg)

/- widgetry/widgetrylaw24.heavy -/
def S10.r0 : List AOpr := [
  ⟨some 2, .mov (.const (.bool false)), none⟩]
def S10.r1 : List AOpr := [
  ⟨some 4, .mov (.tmp 0), none⟩,
  ⟨some 5, .len (.tmp 4), none⟩,
  ⟨some 6, .arith .gtr (.tmp 5) (.const (.int .i64 60)), none⟩]
def S10.r2 : List AOpr := [
  ⟨some 2, .mov (.const (.bool true)), none⟩]
def S10.r3 : List AOpr := [
  ⟨some 3, .mov (.const (.int .i64 0)), none⟩]
def S10.r4 : List AOpr := [
  ⟨some 7, .mov (.tmp 3), none⟩,
  ⟨some 8, .mov (.tmp 0), none⟩,
  ⟨some 9, .len (.tmp 8), none⟩,
  ⟨some 10, .arith .lss (.tmp 7) (.tmp 9), none⟩]
def S10.r5 : List AOpr := [
  ⟨some 13, .mov (.tmp 0), none⟩,
  ⟨some 14, .mov (.tmp 3), none⟩,
  ⟨some 15, .idxA 22 (.tmp 13) (.tmp 14), none⟩,
  ⟨some 16, .fldA 12 (.tmp 15), none⟩,
  ⟨some 17, .fldA 9 (.tmp 16), none⟩,
  ⟨some 18, .ld1 (.tmp 17), none⟩,
  ⟨some 19, .len (.tmp 18), none⟩,
  ⟨some 20, .arith .gtr (.tmp 19) (.const (.int .i64 30)), none⟩]
def S10.r6 : List AOpr := [
  ⟨some 2, .mov (.const (.bool true)), none⟩]
def S10.r7 : List AOpr := [
  ⟨some 11, .mov (.tmp 3), none⟩,
  ⟨some 12, .arith .add (.tmp 11) (.const (.int .i64 1)), none⟩,
  ⟨some 3, .mov (.tmp 12), none⟩]
def S10.r8 : List AOpr := [
  ⟨some 2, .mov (.const (.bool false)), none⟩]
def S10 : SFn := ⟨21, [.tmp 2], .seq (.reg S10.r0) (.seq (.seq (.reg S10.r1) (.cond (.tmp 6) (.seq (.reg S10.r2) (.ret)) (.skip))) (.seq (.seq (.reg S10.r3) (.block 0 (.loop [0, 3] [2] (.seq (.seq (.reg S10.r4) (.cond (.tmp 10) (.skip) (.exit 0))) (.seq (.block 1 (.seq (.reg S10.r5) (.cond (.tmp 20) (.seq (.reg S10.r6) (.ret)) (.skip)))) (.reg S10.r7)))))) (.seq (.reg S10.r8) (.ret))))⟩
theorem S10_ok : cFn Try.prog Try.f10 = some S10.erase := by kernel_rfl
def g10_s1 (cl : CL) (v0 v3 : AV) (h : AH) (k : AX → List AV → List AV → AH → Prop) : Prop :=
  k .ret [v0, v3] [(.bool true)] h
def g10_s2 (cl : CL) (v0 v3 : AV) (h : AH) (k : AX → List AV → List AV → AH → Prop) : Prop :=
  wk (kArith h .add v3 (.int .i64 1)) fun v12 h =>
  k .nrm [v0, v12] [.undef] h
def g10_l1 (cl : CL) (v0 v3 : AV) (h : AH) (k : AX → List AV → List AV → AH → Prop) : Prop :=
  wk (kLen h v0) fun v9 h =>
  wk (kArith h .lss v3 v9) fun v10 h =>
  wif v10 (
  wk (kIdxA h 22 v0 v3) fun v15 h =>
  wk (kFldA h 12 v15) fun v16 h =>
  wk (kFldA h 9 v16) fun v17 h =>
  wk (kLd1 h v17) fun v18 h =>
  wk (kLen h v18) fun v19 h =>
  wk (kArith h .gtr v19 (.int .i64 30)) fun v20 h =>
  wif v20 (
  g10_s1 cl (v0) (v3) h k) (
  g10_s2 cl (v0) (v3) h k)) (
  k (.exit 0) [v0, v3] [.undef] h)
def g10_c2 (cl : CL) (h : AH) (Q : AV → AH → Prop) : Prop :=
  Q ((.bool false)) h
def g10_j3 (cl : CL) (x : AX) (v2 : AV) (h : AH) (Q : AV → AH → Prop) : Prop :=
  xs x (g10_c2 cl h Q) (fun j => cond (Nat.beq j 0) (g10_c2 cl h Q) (False)) (Q (v2) h)
def g10 (cl : CL) (v0 : AV) (h : AH) (Q : AV → AH → Prop) : Prop :=
  wk (kLen h v0) fun v5 h =>
  wk (kArith h .gtr v5 (.int .i64 60)) fun v6 h =>
  wif v6 (
  Q ((.bool true)) h) (
  wloop (fun vs h k => g10_l1 cl (nthD vs 0) (nthD vs 1) h k) [v0, (.int .i64 0)] h fun x vs h => g10_j3 cl x (nthD vs 0) h Q)
theorem g10_eq (cl : CL) (v0 : AV) (h : AH) (Q : AV → AH → Prop) : wrun cl S10 [v0] h Q = g10 cl v0 h Q := by kernel_rfl
theorem C10 {cl : CL} (hcl : CLOk Try.prog cl) {v0 : AV} {h : AH} {Q : AV → AH → Prop} (hg : g10 cl v0 h Q) : CallsA Try.prog 10 [v0] h Q := wfn_ok hcl (f := 10) (fn := Try.f10) (by kernel_rfl) S10_ok (by decide) (by kernel_rfl) (its_nil (by kernel_rfl)) (by rw [g10_eq]; exact hg)

/- widgetry/display.Equal -/
def S11.r0 : List AOpr := [
  ⟨some 2, .box (.tmp 0), none⟩,
  ⟨some 3, .box (.tmp 1), none⟩,
  ⟨some 4, .mov (.const (.bool false)), none⟩]
def S11.r1 : List (AOpr × Nat) := [
  (⟨some 7, .fldA 12 (.tmp 2), none⟩, 0),
  (⟨some 8, .ldn 10 (.tmp 7), none⟩, 1),
  (⟨some 9, .fldA 12 (.tmp 3), none⟩, 0),
  (⟨some 10, .ldn 10 (.tmp 9), none⟩, 4),
  (⟨some 5, .new [.int .i64 0, .int .i64 0, .int .i64 0, .int .i64 0, .int .i64 0, .int .i64 0, .int .i64 0, .int .i64 0, .int .i64 0, .nilsl], none⟩, 0),
  (⟨some 6, .new [.int .i64 0, .int .i64 0, .int .i64 0, .int .i64 0, .int .i64 0, .int .i64 0, .int .i64 0, .int .i64 0, .int .i64 0, .nilsl], none⟩, 0),
  (⟨none, .st 10 (.tmp 5) (.tmp 8), none⟩, 51),
  (⟨none, .st 10 (.tmp 6) (.tmp 10), none⟩, 127)]
def S11.r2 : List (AOpr × Option Nat) := [
  (⟨some 11, .fldA 0 (.tmp 2), none⟩, none),
  (⟨some 12, .ld1 (.tmp 11), none⟩, none),
  (⟨some 13, .fldA 0 (.tmp 3), none⟩, none),
  (⟨some 14, .ld1 (.tmp 13), none⟩, none),
  (⟨some 15, .arith .eql (.tmp 12) (.tmp 14), none⟩, none),
  (⟨some 16, .mov (.tmp 15), none⟩, none),
  (⟨some 17, .fldA 1 (.tmp 2), some (16, true)⟩, some 16),
  (⟨some 18, .ldn 4 (.tmp 17), some (16, true)⟩, none),
  (⟨some 19, .fldA 1 (.tmp 3), some (16, true)⟩, none),
  (⟨some 20, .ldn 4 (.tmp 19), some (16, true)⟩, none),
  (⟨some 21, .eqf false [.int .i64, .int .i64, .int .i64, .int .i64] (.tmp 18) (.tmp 20), some (16, true)⟩, none),
  (⟨some 22, .pick (.tmp 16) (.tmp 21) (.const (.bool false)), none⟩, none),
  (⟨some 23, .mov (.tmp 22), none⟩, none),
  (⟨some 24, .fldA 5 (.tmp 2), some (23, true)⟩, some 23),
  (⟨some 25, .ldn 5 (.tmp 24), some (23, true)⟩, none),
  (⟨some 26, .fldA 5 (.tmp 3), some (23, true)⟩, none),
  (⟨some 27, .ldn 5 (.tmp 26), some (23, true)⟩, none),
  (⟨some 28, .eqf false [.int .i64, .bool, .int .i64, .int .i64, .int .i64] (.tmp 25) (.tmp 27), some (23, true)⟩, none),
  (⟨some 29, .pick (.tmp 23) (.tmp 28) (.const (.bool false)), none⟩, none),
  (⟨some 30, .mov (.tmp 29), none⟩, none),
  (⟨some 31, .fldA 10 (.tmp 2), some (30, true)⟩, some 30),
  (⟨some 32, .ld1 (.tmp 31), some (30, true)⟩, none),
  (⟨some 33, .fldA 10 (.tmp 3), some (30, true)⟩, none),
  (⟨some 34, .ld1 (.tmp 33), some (30, true)⟩, none),
  (⟨some 35, .arith .eql (.tmp 32) (.tmp 34), some (30, true)⟩, none),
  (⟨some 36, .pick (.tmp 30) (.tmp 35) (.const (.bool false)), none⟩, none),
  (⟨some 37, .mov (.tmp 36), none⟩, none),
  (⟨some 38, .fldA 11 (.tmp 2), some (37, true)⟩, some 37),
  (⟨some 39, .ld1 (.tmp 38), some (37, true)⟩, none),
  (⟨some 40, .fldA 11 (.tmp 3), some (37, true)⟩, none),
  (⟨some 41, .ld1 (.tmp 40), some (37, true)⟩, none),
  (⟨some 42, .arith .eql (.tmp 39) (.tmp 41), some (37, true)⟩, none),
  (⟨some 43, .pick (.tmp 37) (.tmp 42) (.const (.bool false)), none⟩, none),
  (⟨some 44, .mov (.tmp 43), none⟩, none),
  (⟨some 45, .fldA 0 (.tmp 5), some (44, true)⟩, some 44),
  (⟨some 46, .ld1 (.tmp 45), some (44, true)⟩, none),
  (⟨some 47, .fldA 0 (.tmp 6), some (44, true)⟩, none),
  (⟨some 48, .ld1 (.tmp 47), some (44, true)⟩, none),
  (⟨some 49, .arith .eql (.tmp 46) (.tmp 48), some (44, true)⟩, none),
  (⟨some 50, .pick (.tmp 44) (.tmp 49) (.const (.bool false)), none⟩, none),
  (⟨some 51, .mov (.tmp 50), none⟩, none),
  (⟨some 52, .fldA 1 (.tmp 5), some (51, true)⟩, some 51),
  (⟨some 53, .ld1 (.tmp 52), some (51, true)⟩, none),
  (⟨some 54, .fldA 1 (.tmp 6), some (51, true)⟩, none),
  (⟨some 55, .ld1 (.tmp 54), some (51, true)⟩, none),
  (⟨some 56, .arith .eql (.tmp 53) (.tmp 55), some (51, true)⟩, none),
  (⟨some 57, .pick (.tmp 51) (.tmp 56) (.const (.bool false)), none⟩, none),
  (⟨some 58, .mov (.tmp 57), none⟩, none),
  (⟨some 59, .fldA 2 (.tmp 5), some (58, true)⟩, some 58),
  (⟨some 60, .ld1 (.tmp 59), some (58, true)⟩, none),
  (⟨some 61, .fldA 2 (.tmp 6), some (58, true)⟩, none),
  (⟨some 62, .ld1 (.tmp 61), some (58, true)⟩, none),
  (⟨some 63, .arith .eql (.tmp 60) (.tmp 62), some (58, true)⟩, none),
  (⟨some 64, .pick (.tmp 58) (.tmp 63) (.const (.bool false)), none⟩, none),
  (⟨some 65, .mov (.tmp 64), none⟩, none),
  (⟨some 66, .fldA 3 (.tmp 5), some (65, true)⟩, some 65),
  (⟨some 67, .ld1 (.tmp 66), some (65, true)⟩, none),
  (⟨some 68, .fldA 3 (.tmp 6), some (65, true)⟩, none),
  (⟨some 69, .ld1 (.tmp 68), some (65, true)⟩, none),
  (⟨some 70, .arith .eql (.tmp 67) (.tmp 69), some (65, true)⟩, none),
  (⟨some 71, .pick (.tmp 65) (.tmp 70) (.const (.bool false)), none⟩, none),
  (⟨some 72, .mov (.tmp 71), none⟩, none),
  (⟨some 73, .fldA 4 (.tmp 5), some (72, true)⟩, some 72),
  (⟨some 74, .ld1 (.tmp 73), some (72, true)⟩, none),
  (⟨some 75, .fldA 4 (.tmp 6), some (72, true)⟩, none),
  (⟨some 76, .ld1 (.tmp 75), some (72, true)⟩, none),
  (⟨some 77, .arith .eql (.tmp 74) (.tmp 76), some (72, true)⟩, none),
  (⟨some 78, .pick (.tmp 72) (.tmp 77) (.const (.bool false)), none⟩, none),
  (⟨some 79, .mov (.tmp 78), none⟩, none),
  (⟨some 80, .fldA 5 (.tmp 5), some (79, true)⟩, some 79),
  (⟨some 81, .ld1 (.tmp 80), some (79, true)⟩, none),
  (⟨some 82, .fldA 5 (.tmp 6), some (79, true)⟩, none),
  (⟨some 83, .ld1 (.tmp 82), some (79, true)⟩, none),
  (⟨some 84, .arith .eql (.tmp 81) (.tmp 83), some (79, true)⟩, none),
  (⟨some 85, .pick (.tmp 79) (.tmp 84) (.const (.bool false)), none⟩, none),
  (⟨some 86, .mov (.tmp 85), none⟩, none),
  (⟨some 87, .fldA 6 (.tmp 5), some (86, true)⟩, some 86),
  (⟨some 88, .ld1 (.tmp 87), some (86, true)⟩, none),
  (⟨some 89, .fldA 6 (.tmp 6), some (86, true)⟩, none),
  (⟨some 90, .ld1 (.tmp 89), some (86, true)⟩, none),
  (⟨some 91, .arith .eql (.tmp 88) (.tmp 90), some (86, true)⟩, none),
  (⟨some 92, .pick (.tmp 86) (.tmp 91) (.const (.bool false)), none⟩, none),
  (⟨some 93, .mov (.tmp 92), none⟩, none),
  (⟨some 94, .fldA 7 (.tmp 5), some (93, true)⟩, some 93),
  (⟨some 95, .ld1 (.tmp 94), some (93, true)⟩, none),
  (⟨some 96, .fldA 7 (.tmp 6), some (93, true)⟩, none),
  (⟨some 97, .ld1 (.tmp 96), some (93, true)⟩, none),
  (⟨some 98, .arith .eql (.tmp 95) (.tmp 97), some (93, true)⟩, none),
  (⟨some 99, .pick (.tmp 93) (.tmp 98) (.const (.bool false)), none⟩, none),
  (⟨some 100, .mov (.tmp 99), none⟩, none),
  (⟨some 101, .fldA 8 (.tmp 5), some (100, true)⟩, some 100),
  (⟨some 102, .ld1 (.tmp 101), some (100, true)⟩, none),
  (⟨some 103, .fldA 8 (.tmp 6), some (100, true)⟩, none),
  (⟨some 104, .ld1 (.tmp 103), some (100, true)⟩, none),
  (⟨some 105, .arith .eql (.tmp 102) (.tmp 104), some (100, true)⟩, none),
  (⟨some 106, .pick (.tmp 100) (.tmp 105) (.const (.bool false)), none⟩, none),
  (⟨some 107, .mov (.tmp 106), none⟩, none),
  (⟨some 108, .fldA 9 (.tmp 5), some (107, true)⟩, some 107),
  (⟨some 109, .ld1 (.tmp 108), some (107, true)⟩, none),
  (⟨some 110, .fldA 9 (.tmp 6), some (107, true)⟩, none),
  (⟨some 111, .ld1 (.tmp 110), some (107, true)⟩, none),
  (⟨some 112, .call (.const (.func (.func 33) [] [])) [.tmp 109, .tmp 111], some (107, true)⟩, none),
  (⟨some 113, .pick (.tmp 107) (.tmp 112) (.const (.bool false)), none⟩, none),
  (⟨some 4, .mov (.tmp 113), none⟩, none)]
def S11 : SFn := ⟨114, [.tmp 4], .seq (.reg S11.r0) (.seq (.draw S11.r1) (.seq (.regS S11.r2) (.ret)))⟩
theorem S11_ok : cFn Try.prog Try.f11 = some S11.erase := by kernel_rfl
def g11_s1 (cl : CL) (v107 v109 v110 : AV) (h : AH) (Q : AV → AH → Prop) : Prop :=
  wg (gdv true v107) (fun k => wk (kLd1 h v110) k) h fun v111 h =>
  wg (gdv true v107) (fun k => wcall cl (.func (.func 33) [] []) [v109, v111] h k) h fun v112 h =>
  wk (kPick h v107 v112 (.bool false)) fun v113 h =>
  Q (v113) h
def g11_s2 (cl : CL) (v5 v6 v100 v101 : AV) (h : AH) (Q : AV → AH → Prop) : Prop :=
  wg (gdv true v100) (fun k => wk (kLd1 h v101) k) h fun v102 h =>
  wg (gdv true v100) (fun k => wk (kFldA h 8 v6) k) h fun v103 h =>
  wg (gdv true v100) (fun k => wk (kLd1 h v103) k) h fun v104 h =>
  wg (gdv true v100) (fun k => wk (kArith h .eql v102 v104) k) h fun v105 h =>
  wk (kPick h v100 v105 (.bool false)) fun v106 h =>
  wsp v106 fun v107 =>
  wg (gdv true v107) (fun k => wk (kFldA h 9 v5) k) h fun v108 h =>
  wg (gdv true v107) (fun k => wk (kLd1 h v108) k) h fun v109 h =>
  wg (gdv true v107) (fun k => wk (kFldA h 9 v6) k) h fun v110 h =>
  g11_s1 cl (v107) (v109) (v110) h Q
def g11_s3 (cl : CL) (v5 v6 v86 v91 : AV) (h : AH) (Q : AV → AH → Prop) : Prop :=
  wk (kPick h v86 v91 (.bool false)) fun v92 h =>
  wsp v92 fun v93 =>
  wg (gdv true v93) (fun k => wk (kFldA h 7 v5) k) h fun v94 h =>
  wg (gdv true v93) (fun k => wk (kLd1 h v94) k) h fun v95 h =>
  wg (gdv true v93) (fun k => wk (kFldA h 7 v6) k) h fun v96 h =>
  wg (gdv true v93) (fun k => wk (kLd1 h v96) k) h fun v97 h =>
  wg (gdv true v93) (fun k => wk (kArith h .eql v95 v97) k) h fun v98 h =>
  wk (kPick h v93 v98 (.bool false)) fun v99 h =>
  wsp v99 fun v100 =>
  wg (gdv true v100) (fun k => wk (kFldA h 8 v5) k) h fun v101 h =>
  g11_s2 cl (v5) (v6) (v100) (v101) h Q
def g11_s4 (cl : CL) (v5 v6 v79 v81 v82 : AV) (h : AH) (Q : AV → AH → Prop) : Prop :=
  wg (gdv true v79) (fun k => wk (kLd1 h v82) k) h fun v83 h =>
  wg (gdv true v79) (fun k => wk (kArith h .eql v81 v83) k) h fun v84 h =>
  wk (kPick h v79 v84 (.bool false)) fun v85 h =>
  wsp v85 fun v86 =>
  wg (gdv true v86) (fun k => wk (kFldA h 6 v5) k) h fun v87 h =>
  wg (gdv true v86) (fun k => wk (kLd1 h v87) k) h fun v88 h =>
  wg (gdv true v86) (fun k => wk (kFldA h 6 v6) k) h fun v89 h =>
  wg (gdv true v86) (fun k => wk (kLd1 h v89) k) h fun v90 h =>
  wg (gdv true v86) (fun k => wk (kArith h .eql v88 v90) k) h fun v91 h =>
  g11_s3 cl (v5) (v6) (v86) (v91) h Q
def g11_s5 (cl : CL) (v5 v6 v72 v73 : AV) (h : AH) (Q : AV → AH → Prop) : Prop :=
  wg (gdv true v72) (fun k => wk (kLd1 h v73) k) h fun v74 h =>
  wg (gdv true v72) (fun k => wk (kFldA h 4 v6) k) h fun v75 h =>
  wg (gdv true v72) (fun k => wk (kLd1 h v75) k) h fun v76 h =>
  wg (gdv true v72) (fun k => wk (kArith h .eql v74 v76) k) h fun v77 h =>
  wk (kPick h v72 v77 (.bool false)) fun v78 h =>
  wsp v78 fun v79 =>
  wg (gdv true v79) (fun k => wk (kFldA h 5 v5) k) h fun v80 h =>
  wg (gdv true v79) (fun k => wk (kLd1 h v80) k) h fun v81 h =>
  wg (gdv true v79) (fun k => wk (kFldA h 5 v6) k) h fun v82 h =>
  g11_s4 cl (v5) (v6) (v79) (v81) (v82) h Q
def g11_s6 (cl : CL) (v5 v6 v58 v63 : AV) (h : AH) (Q : AV → AH → Prop) : Prop :=
  wk (kPick h v58 v63 (.bool false)) fun v64 h =>
  wsp v64 fun v65 =>
  wg (gdv true v65) (fun k => wk (kFldA h 3 v5) k) h fun v66 h =>
  wg (gdv true v65) (fun k => wk (kLd1 h v66) k) h fun v67 h =>
  wg (gdv true v65) (fun k => wk (kFldA h 3 v6) k) h fun v68 h =>
  wg (gdv true v65) (fun k => wk (kLd1 h v68) k) h fun v69 h =>
  wg (gdv true v65) (fun k => wk (kArith h .eql v67 v69) k) h fun v70 h =>
  wk (kPick h v65 v70 (.bool false)) fun v71 h =>
  wsp v71 fun v72 =>
  wg (gdv true v72) (fun k => wk (kFldA h 4 v5) k) h fun v73 h =>
  g11_s5 cl (v5) (v6) (v72) (v73) h Q
def g11_s7 (cl : CL) (v5 v6 v51 v53 v54 : AV) (h : AH) (Q : AV → AH → Prop) : Prop :=
  wg (gdv true v51) (fun k => wk (kLd1 h v54) k) h fun v55 h =>
  wg (gdv true v51) (fun k => wk (kArith h .eql v53 v55) k) h fun v56 h =>
  wk (kPick h v51 v56 (.bool false)) fun v57 h =>
  wsp v57 fun v58 =>
  wg (gdv true v58) (fun k => wk (kFldA h 2 v5) k) h fun v59 h =>
  wg (gdv true v58) (fun k => wk (kLd1 h v59) k) h fun v60 h =>
  wg (gdv true v58) (fun k => wk (kFldA h 2 v6) k) h fun v61 h =>
  wg (gdv true v58) (fun k => wk (kLd1 h v61) k) h fun v62 h =>
  wg (gdv true v58) (fun k => wk (kArith h .eql v60 v62) k) h fun v63 h =>
  g11_s6 cl (v5) (v6) (v58) (v63) h Q
def g11_s8 (cl : CL) (v5 v6 v44 v45 : AV) (h : AH) (Q : AV → AH → Prop) : Prop :=
  wg (gdv true v44) (fun k => wk (kLd1 h v45) k) h fun v46 h =>
  wg (gdv true v44) (fun k => wk (kFldA h 0 v6) k) h fun v47 h =>
  wg (gdv true v44) (fun k => wk (kLd1 h v47) k) h fun v48 h =>
  wg (gdv true v44) (fun k => wk (kArith h .eql v46 v48) k) h fun v49 h =>
  wk (kPick h v44 v49 (.bool false)) fun v50 h =>
  wsp v50 fun v51 =>
  wg (gdv true v51) (fun k => wk (kFldA h 1 v5) k) h fun v52 h =>
  wg (gdv true v51) (fun k => wk (kLd1 h v52) k) h fun v53 h =>
  wg (gdv true v51) (fun k => wk (kFldA h 1 v6) k) h fun v54 h =>
  g11_s7 cl (v5) (v6) (v51) (v53) (v54) h Q
def g11_s9 (cl : CL) (v2 v3 v5 v6 v30 v35 : AV) (h : AH) (Q : AV → AH → Prop) : Prop :=
  wk (kPick h v30 v35 (.bool false)) fun v36 h =>
  wsp v36 fun v37 =>
  wg (gdv true v37) (fun k => wk (kFldA h 11 v2) k) h fun v38 h =>
  wg (gdv true v37) (fun k => wk (kLd1 h v38) k) h fun v39 h =>
  wg (gdv true v37) (fun k => wk (kFldA h 11 v3) k) h fun v40 h =>
  wg (gdv true v37) (fun k => wk (kLd1 h v40) k) h fun v41 h =>
  wg (gdv true v37) (fun k => wk (kArith h .eql v39 v41) k) h fun v42 h =>
  wk (kPick h v37 v42 (.bool false)) fun v43 h =>
  wsp v43 fun v44 =>
  wg (gdv true v44) (fun k => wk (kFldA h 0 v5) k) h fun v45 h =>
  g11_s8 cl (v5) (v6) (v44) (v45) h Q
def g11_s10 (cl : CL) (v2 v3 v5 v6 v23 v25 v26 : AV) (h : AH) (Q : AV → AH → Prop) : Prop :=
  wg (gdv true v23) (fun k => wk (kLdn h 5 v26) k) h fun v27 h =>
  wg (gdv true v23) (fun k => wk (kEqf h false [.int .i64, .bool, .int .i64, .int .i64, .int .i64] v25 v27) k) h fun v28 h =>
  wk (kPick h v23 v28 (.bool false)) fun v29 h =>
  wsp v29 fun v30 =>
  wg (gdv true v30) (fun k => wk (kFldA h 10 v2) k) h fun v31 h =>
  wg (gdv true v30) (fun k => wk (kLd1 h v31) k) h fun v32 h =>
  wg (gdv true v30) (fun k => wk (kFldA h 10 v3) k) h fun v33 h =>
  wg (gdv true v30) (fun k => wk (kLd1 h v33) k) h fun v34 h =>
  wg (gdv true v30) (fun k => wk (kArith h .eql v32 v34) k) h fun v35 h =>
  g11_s9 cl (v2) (v3) (v5) (v6) (v30) (v35) h Q
def g11_s11 (cl : CL) (v2 v3 v5 v6 v16 v17 : AV) (h : AH) (Q : AV → AH → Prop) : Prop :=
  wg (gdv true v16) (fun k => wk (kLdn h 4 v17) k) h fun v18 h =>
  wg (gdv true v16) (fun k => wk (kFldA h 1 v3) k) h fun v19 h =>
  wg (gdv true v16) (fun k => wk (kLdn h 4 v19) k) h fun v20 h =>
  wg (gdv true v16) (fun k => wk (kEqf h false [.int .i64, .int .i64, .int .i64, .int .i64] v18 v20) k) h fun v21 h =>
  wk (kPick h v16 v21 (.bool false)) fun v22 h =>
  wsp v22 fun v23 =>
  wg (gdv true v23) (fun k => wk (kFldA h 5 v2) k) h fun v24 h =>
  wg (gdv true v23) (fun k => wk (kLdn h 5 v24) k) h fun v25 h =>
  wg (gdv true v23) (fun k => wk (kFldA h 5 v3) k) h fun v26 h =>
  g11_s10 cl (v2) (v3) (v5) (v6) (v23) (v25) (v26) h Q
def g11_s12 (cl : CL) (c1 c3 c4 c5 : Rec) (v2 v3 v5 v6 v8 v10 : AV) (h : AH) (Q : AV → AH → Prop) : Prop :=
  wde h (kSt h 10 v5 v8) fun _ c6 h =>
  wde h (kSt h 10 v6 v10) fun _ c7 h =>
  recOk c1 c4 = true ∧ recOk c3 c4 = true ∧ recOk c1 c5 = true ∧ recOk c3 c5 = true ∧ recOk c3 c6 = true ∧ wk (kFldA h 0 v2) fun v11 h =>
  wk (kLd1 h v11) fun v12 h =>
  wk (kFldA h 0 v3) fun v13 h =>
  wk (kLd1 h v13) fun v14 h =>
  wk (kArith h .eql v12 v14) fun v15 h =>
  wsp v15 fun v16 =>
  wg (gdv true v16) (fun k => wk (kFldA h 1 v2) k) h fun v17 h =>
  g11_s11 cl (v2) (v3) (v5) (v6) (v16) (v17) h Q
def g11 (cl : CL) (v0 v1 : AV) (h : AH) (Q : AV → AH → Prop) : Prop :=
  wk (kBox h v0) fun v2 h =>
  wk (kBox h v1) fun v3 h =>
  wdr h 8 fun r h =>
  wdp h (kFldA h 12 v2) .pure fun v7 c0 h =>
  wdp h (kLdn h 10 v7) (rdK (rdv v7)) fun v8 c1 h =>
  wdp h (kFldA h 12 v3) .pure fun v9 c2 h =>
  wdp h (kLdn h 10 v9) (rdK (rdv v9)) fun v10 c3 h =>
  wda (r + 4) h (alNew [.int .i64 0, .int .i64 0, .int .i64 0, .int .i64 0, .int .i64 0, .int .i64 0, .int .i64 0, .int .i64 0, .int .i64 0, .nilsl]) fun v5 c4 h =>
  wda (r + 5) h (alNew [.int .i64 0, .int .i64 0, .int .i64 0, .int .i64 0, .int .i64 0, .int .i64 0, .int .i64 0, .int .i64 0, .int .i64 0, .nilsl]) fun v6 c5 h =>
  g11_s12 cl c1 c3 c4 c5 (v2) (v3) (v5) (v6) (v8) (v10) h Q
theorem g11_eq (cl : CL) (v0 v1 : AV) (h : AH) (Q : AV → AH → Prop) : wrun cl S11 [v0, v1] h Q = g11 cl v0 v1 h Q := by kernel_rfl
theorem C11 {cl : CL} (hcl : CLOk Try.prog cl) {v0 v1 : AV} {h : AH} {Q : AV → AH → Prop} (hg : g11 cl v0 v1 h Q) : CallsA Try.prog 11 [v0, v1] h Q := wfn_ok hcl (f := 11) (fn := Try.f11) (by kernel_rfl) S11_ok (by decide) (by kernel_rfl) (its_nil (by kernel_rfl)) (by rw [g11_eq]; exact hg)

/- widgetry/widgetryref24.Equal -/
def S12.r0 : List AOpr := [
  ⟨some 2, .box (.tmp 0), none⟩,
  ⟨some 3, .box (.tmp 1), none⟩,
  ⟨some 4, .mov (.const (.bool false)), none⟩]
def S12.r1 : List (AOpr × Option Nat) := [
  (⟨some 5, .fldA 0 (.tmp 2), none⟩, none),
  (⟨some 6, .ld1 (.tmp 5), none⟩, none),
  (⟨some 7, .fldA 0 (.tmp 3), none⟩, none),
  (⟨some 8, .ld1 (.tmp 7), none⟩, none),
  (⟨some 9, .arith .eql (.tmp 6) (.tmp 8), none⟩, none),
  (⟨some 10, .mov (.tmp 9), none⟩, none),
  (⟨some 11, .fldA 1 (.tmp 2), some (10, true)⟩, some 10),
  (⟨some 12, .ldn 4 (.tmp 11), some (10, true)⟩, none),
  (⟨some 13, .fldA 1 (.tmp 3), some (10, true)⟩, none),
  (⟨some 14, .ldn 4 (.tmp 13), some (10, true)⟩, none),
  (⟨some 15, .eqf false [.int .i64, .int .i64, .int .i64, .int .i64] (.tmp 12) (.tmp 14), some (10, true)⟩, none),
  (⟨some 16, .pick (.tmp 10) (.tmp 15) (.const (.bool false)), none⟩, none),
  (⟨some 17, .mov (.tmp 16), none⟩, none),
  (⟨some 18, .fldA 5 (.tmp 2), some (17, true)⟩, some 17),
  (⟨some 19, .ldn 5 (.tmp 18), some (17, true)⟩, none),
  (⟨some 20, .fldA 5 (.tmp 3), some (17, true)⟩, none),
  (⟨some 21, .ldn 5 (.tmp 20), some (17, true)⟩, none),
  (⟨some 22, .eqf false [.int .i64, .bool, .int .i64, .int .i64, .int .i64] (.tmp 19) (.tmp 21), some (17, true)⟩, none),
  (⟨some 23, .pick (.tmp 17) (.tmp 22) (.const (.bool false)), none⟩, none),
  (⟨some 24, .mov (.tmp 23), none⟩, none),
  (⟨some 25, .fldA 10 (.tmp 2), some (24, true)⟩, some 24),
  (⟨some 26, .ld1 (.tmp 25), some (24, true)⟩, none),
  (⟨some 27, .fldA 10 (.tmp 3), some (24, true)⟩, none),
  (⟨some 28, .ld1 (.tmp 27), some (24, true)⟩, none),
  (⟨some 29, .arith .eql (.tmp 26) (.tmp 28), some (24, true)⟩, none),
  (⟨some 30, .pick (.tmp 24) (.tmp 29) (.const (.bool false)), none⟩, none),
  (⟨some 31, .mov (.tmp 30), none⟩, none),
  (⟨some 32, .fldA 11 (.tmp 2), some (31, true)⟩, some 31),
  (⟨some 33, .ld1 (.tmp 32), some (31, true)⟩, none),
  (⟨some 34, .fldA 11 (.tmp 3), some (31, true)⟩, none),
  (⟨some 35, .ld1 (.tmp 34), some (31, true)⟩, none),
  (⟨some 36, .arith .eql (.tmp 33) (.tmp 35), some (31, true)⟩, none),
  (⟨some 37, .pick (.tmp 31) (.tmp 36) (.const (.bool false)), none⟩, none),
  (⟨some 38, .mov (.tmp 37), none⟩, none),
  (⟨some 39, .fldA 12 (.tmp 2), some (38, true)⟩, some 38),
  (⟨some 40, .ldn 10 (.tmp 39), some (38, true)⟩, none),
  (⟨some 41, .fldA 12 (.tmp 3), some (38, true)⟩, none),
  (⟨some 42, .ldn 10 (.tmp 41), some (38, true)⟩, none),
  (⟨some 43, .call (.const (.func (.func 34) [] [])) [.tmp 40, .tmp 42], some (38, true)⟩, none),
  (⟨some 44, .pick (.tmp 38) (.tmp 43) (.const (.bool false)), none⟩, none),
  (⟨some 4, .mov (.tmp 44), none⟩, none)]
def S12 : SFn := ⟨45, [.tmp 4], .seq (.reg S12.r0) (.seq (.regS S12.r1) (.ret))⟩
theorem S12_ok : cFn Try.prog Try.f12 = some S12.erase := by kernel_rfl
def g12_s1 (cl : CL) (v3 v38 v39 : AV) (h : AH) (Q : AV → AH → Prop) : Prop :=
  wg (gdv true v38) (fun k => wk (kLdn h 10 v39) k) h fun v40 h =>
  wg (gdv true v38) (fun k => wk (kFldA h 12 v3) k) h fun v41 h =>
  wg (gdv true v38) (fun k => wk (kLdn h 10 v41) k) h fun v42 h =>
  wg (gdv true v38) (fun k => wcall cl (.func (.func 34) [] []) [v40, v42] h k) h fun v43 h =>
  wk (kPick h v38 v43 (.bool false)) fun v44 h =>
  Q (v44) h
def g12_s2 (cl : CL) (v2 v3 v24 v29 : AV) (h : AH) (Q : AV → AH → Prop) : Prop :=
  wk (kPick h v24 v29 (.bool false)) fun v30 h =>
  wsp v30 fun v31 =>
  wg (gdv true v31) (fun k => wk (kFldA h 11 v2) k) h fun v32 h =>
  wg (gdv true v31) (fun k => wk (kLd1 h v32) k) h fun v33 h =>
  wg (gdv true v31) (fun k => wk (kFldA h 11 v3) k) h fun v34 h =>
  wg (gdv true v31) (fun k => wk (kLd1 h v34) k) h fun v35 h =>
  wg (gdv true v31) (fun k => wk (kArith h .eql v33 v35) k) h fun v36 h =>
  wk (kPick h v31 v36 (.bool false)) fun v37 h =>
  wsp v37 fun v38 =>
  wg (gdv true v38) (fun k => wk (kFldA h 12 v2) k) h fun v39 h =>
  g12_s1 cl (v3) (v38) (v39) h Q
def g12_s3 (cl : CL) (v2 v3 v17 v19 v20 : AV) (h : AH) (Q : AV → AH → Prop) : Prop :=
  wg (gdv true v17) (fun k => wk (kLdn h 5 v20) k) h fun v21 h =>
  wg (gdv true v17) (fun k => wk (kEqf h false [.int .i64, .bool, .int .i64, .int .i64, .int .i64] v19 v21) k) h fun v22 h =>
  wk (kPick h v17 v22 (.bool false)) fun v23 h =>
  wsp v23 fun v24 =>
  wg (gdv true v24) (fun k => wk (kFldA h 10 v2) k) h fun v25 h =>
  wg (gdv true v24) (fun k => wk (kLd1 h v25) k) h fun v26 h =>
  wg (gdv true v24) (fun k => wk (kFldA h 10 v3) k) h fun v27 h =>
  wg (gdv true v24) (fun k => wk (kLd1 h v27) k) h fun v28 h =>
  wg (gdv true v24) (fun k => wk (kArith h .eql v26 v28) k) h fun v29 h =>
  g12_s2 cl (v2) (v3) (v24) (v29) h Q
def g12_s4 (cl : CL) (v2 v3 v10 v11 : AV) (h : AH) (Q : AV → AH → Prop) : Prop :=
  wg (gdv true v10) (fun k => wk (kLdn h 4 v11) k) h fun v12 h =>
  wg (gdv true v10) (fun k => wk (kFldA h 1 v3) k) h fun v13 h =>
  wg (gdv true v10) (fun k => wk (kLdn h 4 v13) k) h fun v14 h =>
  wg (gdv true v10) (fun k => wk (kEqf h false [.int .i64, .int .i64, .int .i64, .int .i64] v12 v14) k) h fun v15 h =>
  wk (kPick h v10 v15 (.bool false)) fun v16 h =>
  wsp v16 fun v17 =>
  wg (gdv true v17) (fun k => wk (kFldA h 5 v2) k) h fun v18 h =>
  wg (gdv true v17) (fun k => wk (kLdn h 5 v18) k) h fun v19 h =>
  wg (gdv true v17) (fun k => wk (kFldA h 5 v3) k) h fun v20 h =>
  g12_s3 cl (v2) (v3) (v17) (v19) (v20) h Q
def g12 (cl : CL) (v0 v1 : AV) (h : AH) (Q : AV → AH → Prop) : Prop :=
  wk (kBox h v0) fun v2 h =>
  wk (kBox h v1) fun v3 h =>
  wk (kFldA h 0 v2) fun v5 h =>
  wk (kLd1 h v5) fun v6 h =>
  wk (kFldA h 0 v3) fun v7 h =>
  wk (kLd1 h v7) fun v8 h =>
  wk (kArith h .eql v6 v8) fun v9 h =>
  wsp v9 fun v10 =>
  wg (gdv true v10) (fun k => wk (kFldA h 1 v2) k) h fun v11 h =>
  g12_s4 cl (v2) (v3) (v10) (v11) h Q
theorem g12_eq (cl : CL) (v0 v1 : AV) (h : AH) (Q : AV → AH → Prop) : wrun cl S12 [v0, v1] h Q = g12 cl v0 v1 h Q := by kernel_rfl
theorem C12 {cl : CL} (hcl : CLOk Try.prog cl) {v0 v1 : AV} {h : AH} {Q : AV → AH → Prop} (hg : g12 cl v0 v1 h Q) : CallsA Try.prog 12 [v0, v1] h Q := wfn_ok hcl (f := 12) (fn := Try.f12) (by kernel_rfl) S12_ok (by decide) (by kernel_rfl) (its_nil (by kernel_rfl)) (by rw [g12_eq]; exact hg)

/- widgetry/display.Validate -/
def S13.r0 : List AOpr := [
  ⟨some 2, .mov (.const (.int .i64 0)), none⟩]
def S13.r1 : List AOpr := [
  ⟨some 9, .mov (.tmp 0), none⟩,
  ⟨some 10, .len (.tmp 9), none⟩,
  ⟨some 11, .arith .gtr (.tmp 10) (.const (.int .i64 20000)), none⟩]
def S13.r2 : List AOpr := [
  ⟨some 2, .mov (.const (.int .i64 2)), none⟩]
def S13.r3 : List AOpr := [
  ⟨some 12, .build [.int .i64 0, .bool false, .int .i64 0, .int .i64 0, .int .i64 0] [(2, 1, .const (.int .i64 1))], none⟩,
  ⟨some 13, .build [.int .i64 0, .bool false, .int .i64 0, .int .i64 0, .int .i64 0] [(0, 5, .tmp 12)], none⟩,
  ⟨some 14, .buildSl 5 1 [.int .i64 0, .bool false, .int .i64 0, .int .i64 0, .int .i64 0] [(0, 5, .tmp 13)], none⟩,
  ⟨some 3, .mov (.tmp 14), none⟩]
def S13.r4 : List AOpr := [
  ⟨some 15, .mov (.tmp 0), none⟩,
  ⟨some 16, .len (.tmp 15), none⟩,
  ⟨some 17, .mov (.const (.int .i64 0)), none⟩]
def S13.r5 : List AOpr := [
  ⟨some 18, .arith .lss (.tmp 17) (.tmp 16), none⟩]
def S13.r6 : List AOpr := [
  ⟨some 19, .idxA 22 (.tmp 15) (.tmp 17), none⟩,
  ⟨some 20, .ldn 22 (.tmp 19), none⟩,
  ⟨some 5, .new [.int .i64 0, .int .i64 0, .int .i64 0, .int .i64 0, .int .i64 0, .int .i64 0, .bool false, .int .i64 0, .int .i64 0, .int .i64 0, .int .i64 0, .str [], .int .i64 0, .int .i64 0, .int .i64 0, .int .i64 0, .int .i64 0, .int .i64 0, .int .i64 0, .int .i64 0, .int .i64 0, .nilsl], none⟩,
  ⟨none, .st 22 (.tmp 5) (.tmp 20), none⟩]
def S13.r7 : List AOpr := [
  ⟨some 21, .mov (.tmp 3), none⟩,
  ⟨some 22, .mov (.tmp 3), none⟩,
  ⟨some 23, .len (.tmp 22), none⟩,
  ⟨some 24, .arith .sub (.tmp 23) (.const (.int .i64 1)), none⟩,
  ⟨some 25, .idxA 5 (.tmp 21) (.tmp 24), none⟩,
  ⟨some 26, .fldA 0 (.tmp 25), none⟩,
  ⟨some 27, .ldn 5 (.tmp 26), none⟩,
  ⟨some 6, .new [.int .i64 0, .bool false, .int .i64 0, .int .i64 0, .int .i64 0], none⟩,
  ⟨none, .st 5 (.tmp 6) (.tmp 27), none⟩]
def S13.r8 : List (AOpr × Option Nat) := [
  (⟨some 29, .fldA 0 (.tmp 5), none⟩, none),
  (⟨some 30, .ld1 (.tmp 29), none⟩, none),
  (⟨some 31, .arith .lss (.tmp 30) (.const (.int .i64 1)), none⟩, none),
  (⟨some 32, .mov (.tmp 31), none⟩, none),
  (⟨some 33, .fldA 0 (.tmp 5), some (32, false)⟩, some 32),
  (⟨some 34, .ld1 (.tmp 33), some (32, false)⟩, none),
  (⟨some 35, .arith .gtr (.tmp 34) (.const (.int .i64 6)), some (32, false)⟩, none),
  (⟨some 36, .pick (.tmp 32) (.const (.bool true)) (.tmp 35), none⟩, none),
  (⟨some 28, .mov (.tmp 36), none⟩, none)]
def S13.r9 : List AOpr := [
  ⟨some 2, .mov (.const (.int .i64 9)), none⟩]
def S13.r10 : List (AOpr × Option Nat) := [
  (⟨some 38, .fldA 0 (.tmp 5), none⟩, none),
  (⟨some 39, .ld1 (.tmp 38), none⟩, none),
  (⟨some 40, .call (.const (.func (.func 35) [] [])) [.tmp 39], none⟩, none),
  (⟨some 41, .mov (.tmp 40), none⟩, none),
  (⟨some 42, .fldA 1 (.tmp 5), some (41, true)⟩, some 41),
  (⟨some 43, .ldn 4 (.tmp 42), some (41, true)⟩, none),
  (⟨some 44, .call (.const (.func (.func 36) [] [])) [.tmp 43], some (41, true)⟩, none),
  (⟨some 45, .arith .neq (.tmp 44) (.const (.int .i64 0)), some (41, true)⟩, none),
  (⟨some 46, .pick (.tmp 41) (.tmp 45) (.const (.bool false)), none⟩, none),
  (⟨some 37, .mov (.tmp 46), none⟩, none)]
def S13.r11 : List (AOpr × Option Nat) := [
  (⟨some 47, .fldA 0 (.tmp 5), none⟩, none),
  (⟨some 48, .ld1 (.tmp 47), none⟩, none),
  (⟨some 49, .arith .eql (.tmp 48) (.const (.int .i64 4)), none⟩, none),
  (⟨some 50, .mov (.tmp 49), none⟩, none),
  (⟨some 51, .fldA 0 (.tmp 5), some (50, false)⟩, some 50),
  (⟨some 52, .ld1 (.tmp 51), some (50, false)⟩, none),
  (⟨some 53, .arith .eql (.tmp 52) (.const (.int .i64 5)), some (50, false)⟩, none),
  (⟨some 54, .pick (.tmp 50) (.const (.bool true)) (.tmp 53), none⟩, none),
  (⟨some 55, .mov (.tmp 54), none⟩, none),
  (⟨some 56, .fldA 10 (.tmp 5), some (55, true)⟩, some 55),
  (⟨some 57, .ld1 (.tmp 56), some (55, true)⟩, none),
  (⟨some 58, .call (.const (.func (.func 37) [] [])) [.tmp 57], some (55, true)⟩, none),
  (⟨some 59, .un .not (.tmp 58), some (55, true)⟩, none),
  (⟨some 60, .pick (.tmp 55) (.tmp 59) (.const (.bool false)), none⟩, none),
  (⟨some 37, .mov (.tmp 60), none⟩, none)]
def S13.r12 : List AOpr := [
  ⟨some 2, .mov (.const (.int .i64 1)), none⟩]
def S13.r13 : List (AOpr × Option Nat) := [
  (⟨some 62, .fldA 0 (.tmp 5), none⟩, none),
  (⟨some 63, .ld1 (.tmp 62), none⟩, none),
  (⟨some 64, .arith .eql (.tmp 63) (.const (.int .i64 5)), none⟩, none),
  (⟨some 65, .mov (.tmp 64), none⟩, none),
  (⟨some 66, .fldA 12 (.tmp 5), some (65, true)⟩, some 65),
  (⟨some 67, .ldn 10 (.tmp 66), some (65, true)⟩, none),
  (⟨some 68, .call (.const (.func (.func 38) [] [])) [.tmp 67], some (65, true)⟩, none),
  (⟨some 69, .un .not (.tmp 68), some (65, true)⟩, none),
  (⟨some 70, .pick (.tmp 65) (.tmp 69) (.const (.bool false)), none⟩, none),
  (⟨some 61, .mov (.tmp 70), none⟩, none)]
def S13.r14 : List AOpr := [
  ⟨some 2, .mov (.const (.int .i64 1)), none⟩]
def S13.r15 : List AOpr := [
  ⟨some 72, .fldA 0 (.tmp 5), none⟩,
  ⟨some 73, .ld1 (.tmp 72), none⟩,
  ⟨some 74, .arith .eql (.tmp 73) (.const (.int .i64 1)), none⟩,
  ⟨some 71, .mov (.tmp 74), none⟩]
def S13.r16 : List AOpr := [
  ⟨some 75, .mov (.tmp 3), none⟩,
  ⟨some 76, .ldn 5 (.tmp 6), none⟩,
  ⟨some 77, .build [.int .i64 0, .bool false, .int .i64 0, .int .i64 0, .int .i64 0] [(0, 5, .tmp 76)], none⟩,
  ⟨some 78, .buildSl 5 1 [.int .i64 0, .bool false, .int .i64 0, .int .i64 0, .int .i64 0] [(0, 5, .tmp 77)], none⟩,
  ⟨some 79, .app 5 40 (.tmp 75) (.tmp 78), none⟩,
  ⟨some 3, .mov (.tmp 79), none⟩]
def S13.r17 : List AOpr := [
  ⟨some 81, .fldA 0 (.tmp 5), none⟩,
  ⟨some 82, .ld1 (.tmp 81), none⟩,
  ⟨some 83, .arith .eql (.tmp 82) (.const (.int .i64 2)), none⟩,
  ⟨some 80, .mov (.tmp 83), none⟩]
def S13.r18 : List AOpr := [
  ⟨some 85, .ldn 5 (.tmp 6), none⟩,
  ⟨some 86, .fldA 5 (.tmp 5), none⟩,
  ⟨some 87, .ldn 5 (.tmp 86), none⟩,
  ⟨some 88, .call (.const (.func (.func 39) [] [])) [.tmp 85, .tmp 87], none⟩,
  ⟨some 84, .mov (.tmp 88), none⟩,
  ⟨some 89, .ext (.tmp 84) 0, none⟩,
  ⟨some 90, .ext (.tmp 84) 1, none⟩,
  ⟨some 7, .new [.int .i64 0, .bool false, .int .i64 0, .int .i64 0, .int .i64 0], none⟩,
  ⟨none, .st 5 (.tmp 7) (.tmp 89), none⟩,
  ⟨some 8, .mov (.tmp 90), none⟩]
def S13.r19 : List AOpr := [
  ⟨some 91, .mov (.tmp 8), none⟩,
  ⟨some 92, .arith .neq (.tmp 91) (.const (.int .i64 0)), none⟩]
def S13.r20 : List AOpr := [
  ⟨some 2, .mov (.const (.int .i64 1)), none⟩]
def S13.r21 : List AOpr := [
  ⟨some 93, .mov (.tmp 3), none⟩,
  ⟨some 94, .ldn 5 (.tmp 7), none⟩,
  ⟨some 95, .build [.int .i64 0, .bool false, .int .i64 0, .int .i64 0, .int .i64 0] [(0, 5, .tmp 94)], none⟩,
  ⟨some 96, .buildSl 5 1 [.int .i64 0, .bool false, .int .i64 0, .int .i64 0, .int .i64 0] [(0, 5, .tmp 95)], none⟩,
  ⟨some 97, .app 5 40 (.tmp 93) (.tmp 96), none⟩,
  ⟨some 3, .mov (.tmp 97), none⟩]
def S13.r22 : List AOpr := [
  ⟨some 99, .fldA 0 (.tmp 5), none⟩,
  ⟨some 100, .ld1 (.tmp 99), none⟩,
  ⟨some 101, .arith .eql (.tmp 100) (.const (.int .i64 3)), none⟩,
  ⟨some 98, .mov (.tmp 101), none⟩]
def S13.r23 : List AOpr := [
  ⟨some 102, .mov (.tmp 3), none⟩,
  ⟨some 103, .len (.tmp 102), none⟩,
  ⟨some 104, .arith .eql (.tmp 103) (.const (.int .i64 1)), none⟩]
def S13.r24 : List AOpr := [
  ⟨some 2, .mov (.const (.int .i64 12)), none⟩]
def S13.r25 : List AOpr := [
  ⟨some 105, .mov (.tmp 3), none⟩,
  ⟨some 106, .mov (.tmp 3), none⟩,
  ⟨some 107, .len (.tmp 106), none⟩,
  ⟨some 108, .arith .sub (.tmp 107) (.const (.int .i64 1)), none⟩,
  ⟨some 109, .sl 5 (.tmp 105) none (some (.tmp 108)) none, none⟩,
  ⟨some 3, .mov (.tmp 109), none⟩]
def S13.r26 : List AOpr := [
  ⟨some 110, .arith .add (.tmp 17) (.const (.int .i64 1)), none⟩,
  ⟨some 17, .mov (.tmp 110), none⟩]
def S13.r27 : List AOpr := [
  ⟨some 111, .mov (.tmp 3), none⟩,
  ⟨some 112, .len (.tmp 111), none⟩,
  ⟨some 113, .arith .gtr (.tmp 112) (.const (.int .i64 1)), none⟩]
def S13.r28 : List AOpr := [
  ⟨some 2, .mov (.const (.int .i64 12)), none⟩]
def S13.r29 : List AOpr := [
  ⟨some 2, .mov (.const (.int .i64 0)), none⟩]
def S13 : SFn := ⟨114, [.tmp 2], .seq (.reg S13.r0) (.seq (.seq (.reg S13.r1) (.cond (.tmp 11) (.seq (.reg S13.r2) (.ret)) (.skip))) (.seq (.reg S13.r3) (.seq (.seq (.reg S13.r4) (.block 0 (.loop [3, 15, 16, 17] [2, 3] (.seq (.reg S13.r5) (.seq (.cond (.tmp 18) (.skip) (.exit 0)) (.seq (.join [2, 3, 15, 16, 17] (.block 1 (.seq (.reg S13.r6) (.seq (.reg S13.r7) (.block 2 (.seq (.joinN [3, 5, 6, 15, 16, 17, 28] (.regS S13.r8)) (.cond (.tmp 28) (.seq (.reg S13.r9) (.ret)) (.seq (.seq (.joinN [3, 5, 6, 15, 16, 17, 37] (.regS S13.r10)) (.joinN [3, 5, 6, 15, 16, 17, 37] (.cond (.tmp 37) (.skip) (.regS S13.r11)))) (.cond (.tmp 37) (.seq (.reg S13.r12) (.ret)) (.seq (.joinN [3, 5, 6, 15, 16, 17, 61] (.regS S13.r13)) (.cond (.tmp 61) (.seq (.reg S13.r14) (.ret)) (.seq (.reg S13.r15) (.cond (.tmp 71) (.reg S13.r16) (.seq (.reg S13.r17) (.cond (.tmp 80) (.seq (.reg S13.r18) (.seq (.seq (.reg S13.r19) (.cond (.tmp 92) (.seq (.reg S13.r20) (.ret)) (.skip))) (.reg S13.r21))) (.seq (.reg S13.r22) (.cond (.tmp 98) (.seq (.seq (.reg S13.r23) (.cond (.tmp 104) (.seq (.reg S13.r24) (.ret)) (.skip))) (.reg S13.r25)) (.skip)))))))))))))))))) (.reg S13.r26))))))) (.seq (.seq (.reg S13.r27) (.cond (.tmp 113) (.seq (.reg S13.r28) (.ret)) (.skip))) (.seq (.reg S13.r29) (.ret))))))⟩
theorem S13_ok : cFn Try.prog Try.f13 = some S13.erase := by kernel_rfl
def g13_a1 (cl : CL) (v3 v5 v6 v15 v16 v17 : AV) (h : AH) (k : List AV → AH → Prop) : Prop :=
  wk (kFldA h 0 v5) fun v29 h =>
  wk (kLd1 h v29) fun v30 h =>
  wk (kArith h .lss v30 (.int .i64 1)) fun v31 h =>
  wsp v31 fun v32 =>
  wg (gdv false v32) (fun k => wk (kFldA h 0 v5) k) h fun v33 h =>
  wg (gdv false v32) (fun k => wk (kLd1 h v33) k) h fun v34 h =>
  wg (gdv false v32) (fun k => wk (kArith h .gtr v34 (.int .i64 6)) k) h fun v35 h =>
  wk (kPick h v32 (.bool true) v35) fun v36 h =>
  k [v3, v5, v6, v15, v16, v17, v36] h
def g13_s1 (cl : CL) (v3 v5 v6 v15 v16 v17 v40 : AV) (h : AH) (k : List AV → AH → Prop) : Prop :=
  wsp v40 fun v41 =>
  wg (gdv true v41) (fun k => wk (kFldA h 1 v5) k) h fun v42 h =>
  wg (gdv true v41) (fun k => wk (kLdn h 4 v42) k) h fun v43 h =>
  wg (gdv true v41) (fun k => wcall cl (.func (.func 36) [] []) [v43] h k) h fun v44 h =>
  wg (gdv true v41) (fun k => wk (kArith h .neq v44 (.int .i64 0)) k) h fun v45 h =>
  wk (kPick h v41 v45 (.bool false)) fun v46 h =>
  k [v3, v5, v6, v15, v16, v17, v46] h
def g13_a2 (cl : CL) (v3 v5 v6 v15 v16 v17 : AV) (h : AH) (k : List AV → AH → Prop) : Prop :=
  wk (kFldA h 0 v5) fun v38 h =>
  wk (kLd1 h v38) fun v39 h =>
  wcall cl (.func (.func 35) [] []) [v39] h fun v40 h =>
  g13_s1 cl (v3) (v5) (v6) (v15) (v16) (v17) (v40) h k
def g13_s2 (cl : CL) (v3 v5 v6 v15 v16 v17 v55 v56 : AV) (h : AH) (k : List AV → AH → Prop) : Prop :=
  wg (gdv true v55) (fun k => wk (kLd1 h v56) k) h fun v57 h =>
  wg (gdv true v55) (fun k => wcall cl (.func (.func 37) [] []) [v57] h k) h fun v58 h =>
  wg (gdv true v55) (fun k => wk (kUn h .not v58) k) h fun v59 h =>
  wk (kPick h v55 v59 (.bool false)) fun v60 h =>
  k [v3, v5, v6, v15, v16, v17, v60] h
def g13_a3 (cl : CL) (v3 v5 v6 v15 v16 v17 v37 : AV) (h : AH) (k : List AV → AH → Prop) : Prop :=
  wif v37 (
  k [v3, v5, v6, v15, v16, v17, v37] h) (
  wk (kFldA h 0 v5) fun v47 h =>
  wk (kLd1 h v47) fun v48 h =>
  wk (kArith h .eql v48 (.int .i64 4)) fun v49 h =>
  wsp v49 fun v50 =>
  wg (gdv false v50) (fun k => wk (kFldA h 0 v5) k) h fun v51 h =>
  wg (gdv false v50) (fun k => wk (kLd1 h v51) k) h fun v52 h =>
  wg (gdv false v50) (fun k => wk (kArith h .eql v52 (.int .i64 5)) k) h fun v53 h =>
  wk (kPick h v50 (.bool true) v53) fun v54 h =>
  wsp v54 fun v55 =>
  wg (gdv true v55) (fun k => wk (kFldA h 10 v5) k) h fun v56 h =>
  g13_s2 cl (v3) (v5) (v6) (v15) (v16) (v17) (v55) (v56) h k)
def g13_s3 (cl : CL) (v3 v5 v6 v15 v16 v17 v70 : AV) (h : AH) (k : List AV → AH → Prop) : Prop :=
  k [v3, v5, v6, v15, v16, v17, v70] h
def g13_a4 (cl : CL) (v3 v5 v6 v15 v16 v17 : AV) (h : AH) (k : List AV → AH → Prop) : Prop :=
  wk (kFldA h 0 v5) fun v62 h =>
  wk (kLd1 h v62) fun v63 h =>
  wk (kArith h .eql v63 (.int .i64 5)) fun v64 h =>
  wsp v64 fun v65 =>
  wg (gdv true v65) (fun k => wk (kFldA h 12 v5) k) h fun v66 h =>
  wg (gdv true v65) (fun k => wk (kLdn h 10 v66) k) h fun v67 h =>
  wg (gdv true v65) (fun k => wcall cl (.func (.func 38) [] []) [v67] h k) h fun v68 h =>
  wg (gdv true v65) (fun k => wk (kUn h .not v68) k) h fun v69 h =>
  wk (kPick h v65 v69 (.bool false)) fun v70 h =>
  g13_s3 cl (v3) (v5) (v6) (v15) (v16) (v17) (v70) h k
def g13_s4 (cl : CL) (v15 v16 v17 v93 v96 : AV) (h : AH) (k : AX → List AV → AH → Prop) : Prop :=
  wk (kApp h 5 40 v93 v96) fun v97 h =>
  k .nrm [.undef, v97, v15, v16, v17] h
def g13_s5 (cl : CL) (v3 v15 v16 v17 v88 : AV) (h : AH) (k : AX → List AV → AH → Prop) : Prop :=
  wk (kExt h v88 0) fun v89 h =>
  wk (kExt h v88 1) fun v90 h =>
  wk (kNew h [.int .i64 0, .bool false, .int .i64 0, .int .i64 0, .int .i64 0]) fun v7 h =>
  wk (kSt h 5 v7 v89) fun _ h =>
  wk (kArith h .neq v90 (.int .i64 0)) fun v92 h =>
  wif v92 (
  k .ret [(.int .i64 1), v3, v15, v16, v17] h) (
  wk (kLdn h 5 v7) fun v94 h =>
  wk (kBuild h [.int .i64 0, .bool false, .int .i64 0, .int .i64 0, .int .i64 0] [(0, 5, v94)]) fun v95 h =>
  wk (kBuildSl h 5 1 [.int .i64 0, .bool false, .int .i64 0, .int .i64 0, .int .i64 0] [(0, 5, v95)]) fun v96 h =>
  g13_s4 cl (v15) (v16) (v17) (v3) (v96) h k)
def g13_s6 (cl : CL) (v3 v15 v16 v17 v85 v86 : AV) (h : AH) (k : AX → List AV → AH → Prop) : Prop :=
  wk (kLdn h 5 v86) fun v87 h =>
  wcall cl (.func (.func 39) [] []) [v85, v87] h fun v88 h =>
  g13_s5 cl (v3) (v15) (v16) (v17) (v88) h k
def g13_s7 (cl : CL) (v3 v15 v16 v17 v100 : AV) (h : AH) (k : AX → List AV → AH → Prop) : Prop :=
  wk (kArith h .eql v100 (.int .i64 3)) fun v101 h =>
  wif v101 (
  wk (kLen h v3) fun v103 h =>
  wk (kArith h .eql v103 (.int .i64 1)) fun v104 h =>
  wif v104 (
  k .ret [(.int .i64 12), v3, v15, v16, v17] h) (
  wk (kLen h v3) fun v107 h =>
  wk (kArith h .sub v107 (.int .i64 1)) fun v108 h =>
  wk (kSl h 5 v3 none (some v108) none) fun v109 h =>
  k .nrm [.undef, v109, v15, v16, v17] h)) (
  k .nrm [.undef, v3, v15, v16, v17] h)
def g13_j5 (cl : CL) (v3 v5 v6 v15 v16 v17 v61 : AV) (h : AH) (k : AX → List AV → AH → Prop) : Prop :=
  wif v61 (
  k .ret [(.int .i64 1), v3, v15, v16, v17] h) (
  wk (kFldA h 0 v5) fun v72 h =>
  wk (kLd1 h v72) fun v73 h =>
  wk (kArith h .eql v73 (.int .i64 1)) fun v74 h =>
  wif v74 (
  wk (kLdn h 5 v6) fun v76 h =>
  wk (kBuild h [.int .i64 0, .bool false, .int .i64 0, .int .i64 0, .int .i64 0] [(0, 5, v76)]) fun v77 h =>
  wk (kBuildSl h 5 1 [.int .i64 0, .bool false, .int .i64 0, .int .i64 0, .int .i64 0] [(0, 5, v77)]) fun v78 h =>
  wk (kApp h 5 40 v3 v78) fun v79 h =>
  k .nrm [.undef, v79, v15, v16, v17] h) (
  wk (kFldA h 0 v5) fun v81 h =>
  wk (kLd1 h v81) fun v82 h =>
  wk (kArith h .eql v82 (.int .i64 2)) fun v83 h =>
  wif v83 (
  wk (kLdn h 5 v6) fun v85 h =>
  wk (kFldA h 5 v5) fun v86 h =>
  g13_s6 cl (v3) (v15) (v16) (v17) (v85) (v86) h k) (
  wk (kFldA h 0 v5) fun v99 h =>
  wk (kLd1 h v99) fun v100 h =>
  g13_s7 cl (v3) (v15) (v16) (v17) (v100) h k)))
def g13_j6 (cl : CL) (v3 v5 v6 v15 v16 v17 v37 : AV) (h : AH) (k : AX → List AV → AH → Prop) : Prop :=
  wif v37 (
  k .ret [(.int .i64 1), v3, v15, v16, v17] h) (
  wjoinN (g13_a4 cl (v3) (v5) (v6) (v15) (v16) (v17) h) fun vs h => g13_j5 cl (nthD vs 0) (nthD vs 1) (nthD vs 2) (nthD vs 3) (nthD vs 4) (nthD vs 5) (nthD vs 6) h k)
def g13_j7 (cl : CL) (v3 v5 v6 v15 v16 v17 v37 : AV) (h : AH) (k : AX → List AV → AH → Prop) : Prop :=
  wjoinN (g13_a3 cl (v3) (v5) (v6) (v15) (v16) (v17) (v37) h) fun vs h => g13_j6 cl (nthD vs 0) (nthD vs 1) (nthD vs 2) (nthD vs 3) (nthD vs 4) (nthD vs 5) (nthD vs 6) h k
def g13_j8 (cl : CL) (v3 v5 v6 v15 v16 v17 v28 : AV) (h : AH) (k : AX → List AV → AH → Prop) : Prop :=
  wif v28 (
  k .ret [(.int .i64 9), v3, v15, v16, v17] h) (
  wjoinN (g13_a2 cl (v3) (v5) (v6) (v15) (v16) (v17) h) fun vs h => g13_j7 cl (nthD vs 0) (nthD vs 1) (nthD vs 2) (nthD vs 3) (nthD vs 4) (nthD vs 5) (nthD vs 6) h k)
def g13_s8 (cl : CL) (v3 v5 v15 v16 v17 v26 : AV) (h : AH) (k : AX → List AV → AH → Prop) : Prop :=
  wk (kLdn h 5 v26) fun v27 h =>
  wk (kNew h [.int .i64 0, .bool false, .int .i64 0, .int .i64 0, .int .i64 0]) fun v6 h =>
  wk (kSt h 5 v6 v27) fun _ h =>
  wjoinN (g13_a1 cl (v3) (v5) (v6) (v15) (v16) (v17) h) fun vs h => g13_j8 cl (nthD vs 0) (nthD vs 1) (nthD vs 2) (nthD vs 3) (nthD vs 4) (nthD vs 5) (nthD vs 6) h k
def g13_a9 (cl : CL) (v3 v15 v16 v17 : AV) (h : AH) (k : AX → List AV → AH → Prop) : Prop :=
  wk (kIdxA h 22 v15 v17) fun v19 h =>
  wk (kLdn h 22 v19) fun v20 h =>
  wk (kNew h [.int .i64 0, .int .i64 0, .int .i64 0, .int .i64 0, .int .i64 0, .int .i64 0, .bool false, .int .i64 0, .int .i64 0, .int .i64 0, .int .i64 0, .str [], .int .i64 0, .int .i64 0, .int .i64 0, .int .i64 0, .int .i64 0, .int .i64 0, .int .i64 0, .int .i64 0, .int .i64 0, .nilsl]) fun v5 h =>
  wk (kSt h 22 v5 v20) fun _ h =>
  wk (kLen h v3) fun v23 h =>
  wk (kArith h .sub v23 (.int .i64 1)) fun v24 h =>
  wk (kIdxA h 5 v3 v24) fun v25 h =>
  wk (kFldA h 0 v25) fun v26 h =>
  g13_s8 cl (v3) (v5) (v15) (v16) (v17) (v26) h k
def g13_j10 (cl : CL) (x : AX) (v2 v3 v15 v16 v17 : AV) (h : AH) (k : AX → List AV → List AV → AH → Prop) : Prop :=
  xs x (wk (kArith h .add v17 (.int .i64 1)) fun v110 h =>
  k .nrm [v3, v15, v16, v110] [v2, v3] h) (fun j => k (.exit j) [v3, v15, v16, v17] [v2, v3] h) (k .ret [v3, v15, v16, v17] [v2, v3] h)
def g13_l11 (cl : CL) (v3 v15 v16 v17 : AV) (h : AH) (k : AX → List AV → List AV → AH → Prop) : Prop :=
  wk (kArith h .lss v17 v16) fun v18 h =>
  wif v18 (
  wjoin (g13_a9 cl (v3) (v15) (v16) (v17) h) fun x vs h => g13_j10 cl x (nthD vs 0) (nthD vs 1) (nthD vs 2) (nthD vs 3) (nthD vs 4) h k) (
  k (.exit 0) [v3, v15, v16, v17] [.undef, v3] h)
def g13_c12 (cl : CL) (v3 : AV) (h : AH) (Q : AV → AH → Prop) : Prop :=
  wk (kLen h v3) fun v112 h =>
  wk (kArith h .gtr v112 (.int .i64 1)) fun v113 h =>
  wif v113 (
  Q ((.int .i64 12)) h) (
  Q ((.int .i64 0)) h)
def g13_j13 (cl : CL) (x : AX) (v2 v3 : AV) (h : AH) (Q : AV → AH → Prop) : Prop :=
  xs x (g13_c12 cl (v3) h Q) (fun j => cond (Nat.beq j 0) (g13_c12 cl (v3) h Q) (False)) (Q (v2) h)
def g13 (cl : CL) (v0 : AV) (h : AH) (Q : AV → AH → Prop) : Prop :=
  wk (kLen h v0) fun v10 h =>
  wk (kArith h .gtr v10 (.int .i64 20000)) fun v11 h =>
  wif v11 (
  Q ((.int .i64 2)) h) (
  wk (kBuild h [.int .i64 0, .bool false, .int .i64 0, .int .i64 0, .int .i64 0] [(2, 1, (.int .i64 1))]) fun v12 h =>
  wk (kBuild h [.int .i64 0, .bool false, .int .i64 0, .int .i64 0, .int .i64 0] [(0, 5, v12)]) fun v13 h =>
  wk (kBuildSl h 5 1 [.int .i64 0, .bool false, .int .i64 0, .int .i64 0, .int .i64 0] [(0, 5, v13)]) fun v14 h =>
  wk (kLen h v0) fun v16 h =>
  wloop (fun vs h k => g13_l11 cl (nthD vs 0) (nthD vs 1) (nthD vs 2) (nthD vs 3) h k) [v14, v0, v16, (.int .i64 0)] h fun x vs h => g13_j13 cl x (nthD vs 0) (nthD vs 1) h Q)
theorem g13_eq (cl : CL) (v0 : AV) (h : AH) (Q : AV → AH → Prop) : wrun cl S13 [v0] h Q = g13 cl v0 h Q := by kernel_rfl
theorem C13 {cl : CL} (hcl : CLOk Try.prog cl) {v0 : AV} {h : AH} {Q : AV → AH → Prop} (hg : g13 cl v0 h Q) : CallsA Try.prog 13 [v0] h Q := wfn_ok hcl (f := 13) (fn := Try.f13) (by kernel_rfl) S13_ok (by decide) (by kernel_rfl) (its_nil (by kernel_rfl)) (by rw [g13_eq]; exact hg)

/- widgetry/display.Pixel -/
def S15.r0 : List AOpr := [
  ⟨some 3, .box (.tmp 1), none⟩,
  ⟨some 4, .mov (.const (.int .i64 0)), none⟩]
def S15.r1 : List (AOpr × Option Nat) := [
  (⟨some 11, .mov (.tmp 0), none⟩, none),
  (⟨some 12, .call (.const (.func (.func 13) [] [])) [.tmp 11], none⟩, none),
  (⟨some 13, .arith .neq (.tmp 12) (.const (.int .i64 0)), none⟩, none),
  (⟨some 14, .mov (.tmp 13), none⟩, none),
  (⟨some 15, .ldn 2 (.tmp 3), some (14, false)⟩, some 14),
  (⟨some 16, .call (.const (.func (.func 43) [] [])) [.tmp 15], some (14, false)⟩, none),
  (⟨some 17, .un .not (.tmp 16), some (14, false)⟩, none),
  (⟨some 18, .pick (.tmp 14) (.const (.bool true)) (.tmp 17), none⟩, none)]
def S15.r2 : List AOpr := [
  ⟨some 4, .mov (.const (.int .i64 (-1))), none⟩]
def S15.r3 : List AOpr := [
  ⟨some 19, .ldn 2 (.tmp 3), none⟩,
  ⟨some 20, .build [.int .i64 0, .int .i64 0, .bool false] [(0, 2, .tmp 19), (2, 1, .const (.bool true))], none⟩,
  ⟨some 21, .buildSl 3 1 [.int .i64 0, .int .i64 0, .bool false] [(0, 3, .tmp 20)], none⟩,
  ⟨some 5, .mov (.tmp 21), none⟩]
def S15.r4 : List AOpr := [
  ⟨some 6, .mov (.const (.int .i64 (-1))), none⟩]
def S15.r5 : List AOpr := [
  ⟨some 22, .mov (.tmp 0), none⟩,
  ⟨some 23, .len (.tmp 22), none⟩,
  ⟨some 24, .mov (.const (.int .i64 0)), none⟩]
def S15.r6 : List AOpr := [
  ⟨some 25, .arith .lss (.tmp 24) (.tmp 23), none⟩]
def S15.r7 : List AOpr := [
  ⟨some 26, .idxA 22 (.tmp 22) (.tmp 24), none⟩,
  ⟨some 27, .ldn 22 (.tmp 26), none⟩,
  ⟨some 8, .new [.int .i64 0, .int .i64 0, .int .i64 0, .int .i64 0, .int .i64 0, .int .i64 0, .bool false, .int .i64 0, .int .i64 0, .int .i64 0, .int .i64 0, .str [], .int .i64 0, .int .i64 0, .int .i64 0, .int .i64 0, .int .i64 0, .int .i64 0, .int .i64 0, .int .i64 0, .int .i64 0, .nilsl], none⟩,
  ⟨none, .st 22 (.tmp 8) (.tmp 27), none⟩]
def S15.r8 : List AOpr := [
  ⟨some 28, .mov (.tmp 5), none⟩,
  ⟨some 29, .mov (.tmp 5), none⟩,
  ⟨some 30, .len (.tmp 29), none⟩,
  ⟨some 31, .arith .sub (.tmp 30) (.const (.int .i64 1)), none⟩,
  ⟨some 32, .idxA 3 (.tmp 28) (.tmp 31), none⟩,
  ⟨some 33, .ldn 3 (.tmp 32), none⟩,
  ⟨some 9, .new [.int .i64 0, .int .i64 0, .bool false], none⟩,
  ⟨none, .st 3 (.tmp 9) (.tmp 33), none⟩]
def S15.r9 : List AOpr := [
  ⟨some 35, .fldA 0 (.tmp 8), none⟩,
  ⟨some 36, .ld1 (.tmp 35), none⟩,
  ⟨some 37, .arith .eql (.tmp 36) (.const (.int .i64 1)), none⟩,
  ⟨some 34, .mov (.tmp 37), none⟩]
def S15.r10 : List ((AOpr × Nat) × Option Nat) := [
  ((⟨some 38, .mov (.tmp 5), none⟩, 0), none),
  ((⟨some 39, .fldA 0 (.tmp 9), none⟩, 0), none),
  ((⟨some 40, .ldn 2 (.tmp 39), none⟩, 2), none),
  ((⟨some 41, .fldA 2 (.tmp 9), none⟩, 0), none),
  ((⟨some 42, .ld1 (.tmp 41), none⟩, 8), none),
  ((⟨some 43, .mov (.tmp 42), none⟩, 24), none),
  ((⟨some 44, .fldA 1 (.tmp 8), some (43, true)⟩, 56), some 43),
  ((⟨some 45, .ldn 4 (.tmp 44), some (43, true)⟩, 120), none),
  ((⟨some 46, .fldA 0 (.tmp 9), some (43, true)⟩, 56), none),
  ((⟨some 47, .ldn 2 (.tmp 46), some (43, true)⟩, 312), none),
  ((⟨some 48, .call (.const (.func (.func 44) [] [])) [.tmp 45, .tmp 47], some (43, true)⟩, 1016), none),
  ((⟨some 49, .pick (.tmp 43) (.tmp 48) (.const (.bool false)), none⟩, 2040), none),
  ((⟨some 50, .build [.int .i64 0, .int .i64 0, .bool false] [(0, 2, .tmp 40), (2, 1, .tmp 49)], none⟩, 4094), none),
  ((⟨some 51, .buildSl 3 1 [.int .i64 0, .int .i64 0, .bool false] [(0, 3, .tmp 50)], none⟩, 8190), none),
  ((⟨some 52, .app 3 24 (.tmp 38) (.tmp 51), none⟩, 16383), none),
  ((⟨some 5, .mov (.tmp 52), none⟩, 32767), none)]
def S15.r11 : List AOpr := [
  ⟨some 54, .fldA 0 (.tmp 8), none⟩,
  ⟨some 55, .ld1 (.tmp 54), none⟩,
  ⟨some 56, .arith .eql (.tmp 55) (.const (.int .i64 2)), none⟩,
  ⟨some 53, .mov (.tmp 56), none⟩]
def S15.r12 : List AOpr := [
  ⟨some 57, .fldA 5 (.tmp 8), none⟩,
  ⟨some 58, .ldn 5 (.tmp 57), none⟩,
  ⟨some 59, .fldA 0 (.tmp 9), none⟩,
  ⟨some 60, .ldn 2 (.tmp 59), none⟩,
  ⟨some 61, .call (.const (.func (.func 45) [] [])) [.tmp 58, .tmp 60], none⟩,
  ⟨some 10, .new [.int .i64 0, .int .i64 0], none⟩,
  ⟨none, .st 2 (.tmp 10) (.tmp 61), none⟩]
def S15.r13 : List ((AOpr × Nat) × Option Nat) := [
  ((⟨some 62, .mov (.tmp 5), none⟩, 0), none),
  ((⟨some 63, .ldn 2 (.tmp 10), none⟩, 0), none),
  ((⟨some 64, .fldA 2 (.tmp 9), none⟩, 0), none),
  ((⟨some 65, .ld1 (.tmp 64), none⟩, 4), none),
  ((⟨some 66, .mov (.tmp 65), none⟩, 12), none),
  ((⟨some 67, .ldn 2 (.tmp 10), some (66, true)⟩, 28), some 66),
  ((⟨some 68, .call (.const (.func (.func 43) [] [])) [.tmp 67], some (66, true)⟩, 60), none),
  ((⟨some 69, .pick (.tmp 66) (.tmp 68) (.const (.bool false)), none⟩, 124), none),
  ((⟨some 70, .build [.int .i64 0, .int .i64 0, .bool false] [(0, 2, .tmp 63), (2, 1, .tmp 69)], none⟩, 254), none),
  ((⟨some 71, .buildSl 3 1 [.int .i64 0, .int .i64 0, .bool false] [(0, 3, .tmp 70)], none⟩, 510), none),
  ((⟨some 72, .app 3 24 (.tmp 62) (.tmp 71), none⟩, 1023), none),
  ((⟨some 5, .mov (.tmp 72), none⟩, 2047), none)]
def S15.r14 : List AOpr := [
  ⟨some 74, .fldA 0 (.tmp 8), none⟩,
  ⟨some 75, .ld1 (.tmp 74), none⟩,
  ⟨some 76, .arith .eql (.tmp 75) (.const (.int .i64 3)), none⟩,
  ⟨some 73, .mov (.tmp 76), none⟩]
def S15.r15 : List AOpr := [
  ⟨some 77, .mov (.tmp 5), none⟩,
  ⟨some 78, .mov (.tmp 5), none⟩,
  ⟨some 79, .len (.tmp 78), none⟩,
  ⟨some 80, .arith .sub (.tmp 79) (.const (.int .i64 1)), none⟩,
  ⟨some 81, .sl 3 (.tmp 77) none (some (.tmp 80)) none, none⟩,
  ⟨some 5, .mov (.tmp 81), none⟩]
def S15.r16 : List (AOpr × Option Nat) := [
  (⟨some 83, .fldA 2 (.tmp 9), none⟩, none),
  (⟨some 84, .ld1 (.tmp 83), none⟩, none),
  (⟨some 85, .mov (.tmp 84), none⟩, none),
  (⟨some 86, .ldn 22 (.tmp 8), some (85, true)⟩, some 85),
  (⟨some 87, .fldA 0 (.tmp 9), some (85, true)⟩, none),
  (⟨some 88, .ldn 2 (.tmp 87), some (85, true)⟩, none),
  (⟨some 89, .call (.const (.func (.func 46) [] [])) [.tmp 86, .tmp 88], some (85, true)⟩, none),
  (⟨some 90, .pick (.tmp 85) (.tmp 89) (.const (.bool false)), none⟩, none),
  (⟨some 82, .mov (.tmp 90), none⟩, none)]
def S15.r17 : List AOpr := [
  ⟨some 91, .fldA 10 (.tmp 8), none⟩,
  ⟨some 92, .ld1 (.tmp 91), none⟩,
  ⟨some 6, .mov (.tmp 92), none⟩]
def S15.r18 : List AOpr := [
  ⟨some 93, .fldA 0 (.tmp 8), none⟩,
  ⟨some 94, .ld1 (.tmp 93), none⟩,
  ⟨some 95, .arith .eql (.tmp 94) (.const (.int .i64 6)), none⟩]
def S15.r19 : List AOpr := [
  ⟨some 6, .mov (.const (.int .i64 8421504)), none⟩]
def S15.r20 : List AOpr := [
  ⟨some 96, .arith .add (.tmp 24) (.const (.int .i64 1)), none⟩,
  ⟨some 24, .mov (.tmp 96), none⟩]
def S15.r21 : List AOpr := [
  ⟨some 97, .mov (.tmp 6), none⟩,
  ⟨some 4, .mov (.tmp 97), none⟩]
def S15 : SFn := ⟨98, [.tmp 4], .seq (.reg S15.r0) (.seq (.seq (.joinN [0, 3, 18] (.regS S15.r1)) (.cond (.tmp 18) (.seq (.reg S15.r2) (.ret)) (.skip))) (.seq (.reg S15.r3) (.seq (.reg S15.r4) (.seq (.seq (.reg S15.r5) (.block 0 (.loop [5, 6, 22, 23, 24] [6] (.seq (.reg S15.r6) (.seq (.cond (.tmp 25) (.skip) (.exit 0)) (.seq (.joinN [5, 6, 22, 23, 24] (.block 1 (.seq (.reg S15.r7) (.seq (.reg S15.r8) (.block 2 (.seq (.reg S15.r9) (.cond (.tmp 34) (.drawS S15.r10) (.seq (.reg S15.r11) (.cond (.tmp 53) (.seq (.reg S15.r12) (.drawS S15.r13)) (.seq (.reg S15.r14) (.cond (.tmp 73) (.reg S15.r15) (.seq (.joinN [5, 6, 8, 22, 23, 24, 82] (.regS S15.r16)) (.cond (.tmp 82) (.seq (.reg S15.r17) (.seq (.reg S15.r18) (.cond (.tmp 95) (.reg S15.r19) (.skip)))) (.skip)))))))))))))) (.reg S15.r20))))))) (.seq (.reg S15.r21) (.ret))))))⟩
theorem S15_ok : cFn Try.prog Try.f15 = some S15.erase := by kernel_rfl
def g15_s1 (cl : CL) (v0 v3 v12 : AV) (h : AH) (k : List AV → AH → Prop) : Prop :=
  wk (kArith h .neq v12 (.int .i64 0)) fun v13 h =>
  wsp v13 fun v14 =>
  wg (gdv false v14) (fun k => wk (kLdn h 2 v3) k) h fun v15 h =>
  wg (gdv false v14) (fun k => wcall cl (.func (.func 43) [] []) [v15] h k) h fun v16 h =>
  wg (gdv false v14) (fun k => wk (kUn h .not v16) k) h fun v17 h =>
  wk (kPick h v14 (.bool true) v17) fun v18 h =>
  k [v0, v3, v18] h
def g15_a1 (cl : CL) (v0 v3 : AV) (h : AH) (k : List AV → AH → Prop) : Prop :=
  wcall cl (.func (.func 13) [] []) [v0] h fun v12 h =>
  g15_s1 cl (v0) (v3) (v12) h k
def g15_s2 (cl : CL) (r : Nat) (c2 c10 : Rec) (v5 v6 v22 v23 v24 v38 v40 v43 v48 : AV) (h : AH) (k : List AV → AH → Prop) : Prop :=
  wdp h (kPick h v43 v48 (.bool false)) .pure fun v49 c11 h =>
  wdp h (kBuild h [.int .i64 0, .int .i64 0, .bool false] [(0, 2, v40), (2, 1, v49)]) .pure fun v50 c12 h =>
  wda (r + 13) h (alBuildSl 3 1 [.int .i64 0, .int .i64 0, .bool false] [(0, 3, v50)]) fun v51 c13 h =>
  wde h (kApp h 3 24 v38 v51) fun v52 c14 h =>
  wdp h (kMov h v52) .pure fun v5 c15 h =>
  recOk c2 c10 = true ∧ k [v5, v6, v22, v23, v24] h
def g15_s3 (cl : CL) (r : Nat) (c2 : Rec) (v5 v6 v8 v9 v22 v23 v24 v38 v40 : AV) (h : AH) (k : List AV → AH → Prop) : Prop :=
  wdp h (kFldA h 2 v9) .pure fun v41 c3 h =>
  wdp h (kLd1 h v41) (rdK (rdv v41)) fun v42 c4 h =>
  wdp h (kMov h v42) .pure fun v43 c5 h =>
  wsp v43 fun v43 =>
  wgd (gdv true v43) (fun k => wdp h (kFldA h 1 v8) .pure k) h fun v44 c6 h =>
  wgd (gdv true v43) (fun k => wdp h (kLdn h 4 v44) (rdK (rdv v44)) k) h fun v45 c7 h =>
  wgd (gdv true v43) (fun k => wdp h (kFldA h 0 v9) .pure k) h fun v46 c8 h =>
  wgd (gdv true v43) (fun k => wdp h (kLdn h 2 v46) (rdK (rdv v46)) k) h fun v47 c9 h =>
  wgd (gdv true v43) (fun k => wdc cl (.func (.func 44) [] []) [v45, v47] h k) h fun v48 c10 h =>
  g15_s2 cl r c2 c10 (v5) (v6) (v22) (v23) (v24) (v38) (v40) (v43) (v48) h k
def g15_s4 (cl : CL) (r : Nat) (c1 c6 : Rec) (v5 v6 v22 v23 v24 v62 v70 : AV) (h : AH) (k : List AV → AH → Prop) : Prop :=
  wda (r + 9) h (alBuildSl 3 1 [.int .i64 0, .int .i64 0, .bool false] [(0, 3, v70)]) fun v71 c9 h =>
  wde h (kApp h 3 24 v62 v71) fun v72 c10 h =>
  wdp h (kMov h v72) .pure fun v5 c11 h =>
  recOk c1 c6 = true ∧ k [v5, v6, v22, v23, v24] h
def g15_s5 (cl : CL) (r : Nat) (v5 v6 v9 v10 v22 v23 v24 v62 : AV) (h : AH) (k : List AV → AH → Prop) : Prop :=
  wdp h (kLdn h 2 v10) (rdK (rdv v10)) fun v63 c1 h =>
  wdp h (kFldA h 2 v9) .pure fun v64 c2 h =>
  wdp h (kLd1 h v64) (rdK (rdv v64)) fun v65 c3 h =>
  wdp h (kMov h v65) .pure fun v66 c4 h =>
  wsp v66 fun v66 =>
  wgd (gdv true v66) (fun k => wdp h (kLdn h 2 v10) (rdK (rdv v10)) k) h fun v67 c5 h =>
  wgd (gdv true v66) (fun k => wdc cl (.func (.func 43) [] []) [v67] h k) h fun v68 c6 h =>
  wdp h (kPick h v66 v68 (.bool false)) .pure fun v69 c7 h =>
  wdp h (kBuild h [.int .i64 0, .int .i64 0, .bool false] [(0, 2, v63), (2, 1, v69)]) .pure fun v70 c8 h =>
  g15_s4 cl r c1 c6 (v5) (v6) (v22) (v23) (v24) (v62) (v70) h k
def g15_a2 (cl : CL) (v5 v6 v8 v9 v22 v23 v24 : AV) (h : AH) (k : List AV → AH → Prop) : Prop :=
  wk (kFldA h 2 v9) fun v83 h =>
  wk (kLd1 h v83) fun v84 h =>
  wsp v84 fun v85 =>
  wg (gdv true v85) (fun k => wk (kLdn h 22 v8) k) h fun v86 h =>
  wg (gdv true v85) (fun k => wk (kFldA h 0 v9) k) h fun v87 h =>
  wg (gdv true v85) (fun k => wk (kLdn h 2 v87) k) h fun v88 h =>
  wg (gdv true v85) (fun k => wcall cl (.func (.func 46) [] []) [v86, v88] h k) h fun v89 h =>
  wk (kPick h v85 v89 (.bool false)) fun v90 h =>
  k [v5, v6, v8, v22, v23, v24, v90] h
def g15_j3 (cl : CL) (v5 v6 v8 v22 v23 v24 v82 : AV) (h : AH) (k : List AV → AH → Prop) : Prop :=
  wif v82 (
  wk (kFldA h 10 v8) fun v91 h =>
  wk (kLd1 h v91) fun v92 h =>
  wk (kFldA h 0 v8) fun v93 h =>
  wk (kLd1 h v93) fun v94 h =>
  wk (kArith h .eql v94 (.int .i64 6)) fun v95 h =>
  wif v95 (
  k [v5, (.int .i64 8421504), v22, v23, v24] h) (
  k [v5, v92, v22, v23, v24] h)) (
  k [v5, v6, v22, v23, v24] h)
def g15_s6 (cl : CL) (v5 v6 v8 v9 v22 v23 v24 v56 : AV) (h : AH) (k : List AV → AH → Prop) : Prop :=
  wif v56 (
  wk (kFldA h 5 v8) fun v57 h =>
  wk (kLdn h 5 v57) fun v58 h =>
  wk (kFldA h 0 v9) fun v59 h =>
  wk (kLdn h 2 v59) fun v60 h =>
  wcall cl (.func (.func 45) [] []) [v58, v60] h fun v61 h =>
  wk (kNew h [.int .i64 0, .int .i64 0]) fun v10 h =>
  wk (kSt h 2 v10 v61) fun _ h =>
  wdr h 12 fun r h =>
  wdp h (kMov h v5) .pure fun v62 c0 h =>
  g15_s5 cl r (v5) (v6) (v9) (v10) (v22) (v23) (v24) (v62) h k) (
  wk (kFldA h 0 v8) fun v74 h =>
  wk (kLd1 h v74) fun v75 h =>
  wk (kArith h .eql v75 (.int .i64 3)) fun v76 h =>
  wif v76 (
  wk (kLen h v5) fun v79 h =>
  wk (kArith h .sub v79 (.int .i64 1)) fun v80 h =>
  wk (kSl h 3 v5 none (some v80) none) fun v81 h =>
  k [v81, v6, v22, v23, v24] h) (
  wjoinN (g15_a2 cl (v5) (v6) (v8) (v9) (v22) (v23) (v24) h) fun vs h => g15_j3 cl (nthD vs 0) (nthD vs 1) (nthD vs 2) (nthD vs 3) (nthD vs 4) (nthD vs 5) (nthD vs 6) h k))
def g15_s7 (cl : CL) (v5 v6 v8 v22 v23 v24 v33 : AV) (h : AH) (k : List AV → AH → Prop) : Prop :=
  wk (kNew h [.int .i64 0, .int .i64 0, .bool false]) fun v9 h =>
  wk (kSt h 3 v9 v33) fun _ h =>
  wk (kFldA h 0 v8) fun v35 h =>
  wk (kLd1 h v35) fun v36 h =>
  wk (kArith h .eql v36 (.int .i64 1)) fun v37 h =>
  wif v37 (
  wdr h 16 fun r h =>
  wdp h (kMov h v5) .pure fun v38 c0 h =>
  wdp h (kFldA h 0 v9) .pure fun v39 c1 h =>
  wdp h (kLdn h 2 v39) (rdK (rdv v39)) fun v40 c2 h =>
  g15_s3 cl r c2 (v5) (v6) (v8) (v9) (v22) (v23) (v24) (v38) (v40) h k) (
  wk (kFldA h 0 v8) fun v54 h =>
  wk (kLd1 h v54) fun v55 h =>
  wk (kArith h .eql v55 (.int .i64 2)) fun v56 h =>
  g15_s6 cl (v5) (v6) (v8) (v9) (v22) (v23) (v24) (v56) h k)
def g15_a4 (cl : CL) (v5 v6 v22 v23 v24 : AV) (h : AH) (k : List AV → AH → Prop) : Prop :=
  wk (kIdxA h 22 v22 v24) fun v26 h =>
  wk (kLdn h 22 v26) fun v27 h =>
  wk (kNew h [.int .i64 0, .int .i64 0, .int .i64 0, .int .i64 0, .int .i64 0, .int .i64 0, .bool false, .int .i64 0, .int .i64 0, .int .i64 0, .int .i64 0, .str [], .int .i64 0, .int .i64 0, .int .i64 0, .int .i64 0, .int .i64 0, .int .i64 0, .int .i64 0, .int .i64 0, .int .i64 0, .nilsl]) fun v8 h =>
  wk (kSt h 22 v8 v27) fun _ h =>
  wk (kLen h v5) fun v30 h =>
  wk (kArith h .sub v30 (.int .i64 1)) fun v31 h =>
  wk (kIdxA h 3 v5 v31) fun v32 h =>
  wk (kLdn h 3 v32) fun v33 h =>
  g15_s7 cl (v5) (v6) (v8) (v22) (v23) (v24) (v33) h k
def g15_j5 (cl : CL) (v5 v6 v22 v23 v24 : AV) (h : AH) (k : AX → List AV → List AV → AH → Prop) : Prop :=
  wk (kArith h .add v24 (.int .i64 1)) fun v96 h =>
  k .nrm [v5, v6, v22, v23, v96] [v6] h
def g15_l6 (cl : CL) (v5 v6 v22 v23 v24 : AV) (h : AH) (k : AX → List AV → List AV → AH → Prop) : Prop :=
  wk (kArith h .lss v24 v23) fun v25 h =>
  wif v25 (
  wjoinN (g15_a4 cl (v5) (v6) (v22) (v23) (v24) h) fun vs h => g15_j5 cl (nthD vs 0) (nthD vs 1) (nthD vs 2) (nthD vs 3) (nthD vs 4) h k) (
  k (.exit 0) [v5, v6, v22, v23, v24] [v6] h)
def g15_c7 (cl : CL) (v6 : AV) (h : AH) (Q : AV → AH → Prop) : Prop :=
  Q (v6) h
def g15_j8 (cl : CL) (x : AX) (v6 : AV) (h : AH) (Q : AV → AH → Prop) : Prop :=
  xs x (g15_c7 cl (v6) h Q) (fun j => cond (Nat.beq j 0) (g15_c7 cl (v6) h Q) (False)) (Q (.undef) h)
def g15_j9 (cl : CL) (v0 v3 v18 : AV) (h : AH) (Q : AV → AH → Prop) : Prop :=
  wif v18 (
  Q ((.int .i64 (-1))) h) (
  wk (kLdn h 2 v3) fun v19 h =>
  wk (kBuild h [.int .i64 0, .int .i64 0, .bool false] [(0, 2, v19), (2, 1, (.bool true))]) fun v20 h =>
  wk (kBuildSl h 3 1 [.int .i64 0, .int .i64 0, .bool false] [(0, 3, v20)]) fun v21 h =>
  wk (kLen h v0) fun v23 h =>
  wloop (fun vs h k => g15_l6 cl (nthD vs 0) (nthD vs 1) (nthD vs 2) (nthD vs 3) (nthD vs 4) h k) [v21, (.int .i64 (-1)), v0, v23, (.int .i64 0)] h fun x vs h => g15_j8 cl x (nthD vs 0) h Q)
def g15 (cl : CL) (v0 v1 : AV) (h : AH) (Q : AV → AH → Prop) : Prop :=
  wk (kBox h v1) fun v3 h =>
  wjoinN (g15_a1 cl (v0) (v3) h) fun vs h => g15_j9 cl (nthD vs 0) (nthD vs 1) (nthD vs 2) h Q
theorem g15_eq (cl : CL) (v0 v1 : AV) (h : AH) (Q : AV → AH → Prop) : wrun cl S15 [v0, v1] h Q = g15 cl v0 v1 h Q := by kernel_rfl
theorem C15 {cl : CL} (hcl : CLOk Try.prog cl) {v0 v1 : AV} {h : AH} {Q : AV → AH → Prop} (hg : g15 cl v0 v1 h Q) : CallsA Try.prog 15 [v0, v1] h Q := wfn_ok hcl (f := 15) (fn := Try.f15) (by kernel_rfl) S15_ok (by decide) (by kernel_rfl) (its_nil (by kernel_rfl)) (by rw [g15_eq]; exact hg)

/- widgetry/widgetrylaw24.awake -/
def S17.r0 : List AOpr := [
  ⟨some 0, .mov (.const (.bool false)), none⟩]
def S17.r1 : List AOpr := [
  ⟨some 2, .call (.const (.func (.func 26) [] [])) [.const (.int .i64 0), .const (.int .i64 0), .const (.int .i64 10), .const (.int .i64 10), .const (.int .i64 1)], none⟩,
  ⟨some 3, .call (.const (.func (.func 26) [] [])) [.const (.int .i64 5), .const (.int .i64 5), .const (.int .i64 10), .const (.int .i64 10), .const (.int .i64 2)], none⟩,
  ⟨some 4, .buildSl 22 2 [.int .i64 0, .int .i64 0, .int .i64 0, .int .i64 0, .int .i64 0, .int .i64 0, .bool false, .int .i64 0, .int .i64 0, .int .i64 0, .int .i64 0, .str [], .int .i64 0, .int .i64 0, .int .i64 0, .int .i64 0, .int .i64 0, .int .i64 0, .int .i64 0, .int .i64 0, .int .i64 0, .nilsl, .int .i64 0, .int .i64 0, .int .i64 0, .int .i64 0, .int .i64 0, .int .i64 0, .bool false, .int .i64 0, .int .i64 0, .int .i64 0, .int .i64 0, .str [], .int .i64 0, .int .i64 0, .int .i64 0, .int .i64 0, .int .i64 0, .int .i64 0, .int .i64 0, .int .i64 0, .int .i64 0, .nilsl] [(0, 22, .tmp 2), (22, 22, .tmp 3)], none⟩,
  ⟨some 1, .mov (.tmp 4), none⟩]
def S17.r2 : List (AOpr × Option Nat) := [
  (⟨some 5, .mov (.tmp 1), none⟩, none),
  (⟨some 6, .build [.int .i64 0, .int .i64 0] [(0, 1, .const (.int .i64 7)), (1, 1, .const (.int .i64 7))], none⟩, none),
  (⟨some 7, .call (.const (.func (.func 15) [] [])) [.tmp 5, .tmp 6], none⟩, none),
  (⟨some 8, .arith .eql (.tmp 7) (.const (.int .i64 2)), none⟩, none),
  (⟨some 9, .mov (.tmp 8), none⟩, none),
  (⟨some 10, .mov (.tmp 1), some (9, true)⟩, some 9),
  (⟨some 11, .build [.int .i64 0, .int .i64 0] [(0, 1, .const (.int .i64 1)), (1, 1, .const (.int .i64 7))], some (9, true)⟩, none),
  (⟨some 12, .call (.const (.func (.func 15) [] [])) [.tmp 10, .tmp 11], some (9, true)⟩, none),
  (⟨some 13, .arith .eql (.tmp 12) (.const (.int .i64 1)), some (9, true)⟩, none),
  (⟨some 14, .pick (.tmp 9) (.tmp 13) (.const (.bool false)), none⟩, none),
  (⟨some 15, .mov (.tmp 14), none⟩, none),
  (⟨some 16, .mov (.tmp 1), some (15, true)⟩, some 15),
  (⟨some 17, .build [.int .i64 0, .int .i64 0] [(0, 1, .const (.int .i64 1)), (1, 1, .const (.int .i64 17))], some (15, true)⟩, none),
  (⟨some 18, .call (.const (.func (.func 15) [] [])) [.tmp 16, .tmp 17], some (15, true)⟩, none),
  (⟨some 19, .arith .eql (.tmp 18) (.const (.int .i64 (-1))), some (15, true)⟩, none),
  (⟨some 20, .pick (.tmp 15) (.tmp 19) (.const (.bool false)), none⟩, none),
  (⟨some 21, .mov (.tmp 20), none⟩, none),
  (⟨some 22, .mov (.tmp 1), some (21, true)⟩, some 21),
  (⟨some 23, .mov (.tmp 1), some (21, true)⟩, none),
  (⟨some 24, .sl 22 (.tmp 23) none (some (.const (.int .i64 1))) none, some (21, true)⟩, none),
  (⟨some 25, .call (.const (.func (.func 23) [] [])) [.tmp 22, .tmp 24], some (21, true)⟩, none),
  (⟨some 26, .len (.tmp 25), some (21, true)⟩, none),
  (⟨some 27, .arith .eql (.tmp 26) (.const (.int .i64 1)), some (21, true)⟩, none),
  (⟨some 28, .pick (.tmp 21) (.tmp 27) (.const (.bool false)), none⟩, none),
  (⟨some 0, .mov (.tmp 28), none⟩, none)]
def S17 : SFn := ⟨29, [.tmp 0], .seq (.reg S17.r0) (.seq (.reg S17.r1) (.seq (.regS S17.r2) (.ret)))⟩
theorem S17_ok : cFn Try.prog Try.f17 = some S17.erase := by kernel_rfl
def g17_s1 (cl : CL) (v21 v26 : AV) (h : AH) (Q : AV → AH → Prop) : Prop :=
  wg (gdv true v21) (fun k => wk (kArith h .eql v26 (.int .i64 1)) k) h fun v27 h =>
  wk (kPick h v21 v27 (.bool false)) fun v28 h =>
  Q (v28) h
def g17_s2 (cl : CL) (v1 v15 v16 v17 : AV) (h : AH) (Q : AV → AH → Prop) : Prop :=
  wg (gdv true v15) (fun k => wcall cl (.func (.func 15) [] []) [v16, v17] h k) h fun v18 h =>
  wg (gdv true v15) (fun k => wk (kArith h .eql v18 (.int .i64 (-1))) k) h fun v19 h =>
  wk (kPick h v15 v19 (.bool false)) fun v20 h =>
  wsp v20 fun v21 =>
  wg (gdv true v21) (fun k => k v1 h) h fun v22 h =>
  wg (gdv true v21) (fun k => k v1 h) h fun v23 h =>
  wg (gdv true v21) (fun k => wk (kSl h 22 v23 none (some (.int .i64 1)) none) k) h fun v24 h =>
  wg (gdv true v21) (fun k => wcall cl (.func (.func 23) [] []) [v22, v24] h k) h fun v25 h =>
  wg (gdv true v21) (fun k => wk (kLen h v25) k) h fun v26 h =>
  g17_s1 cl (v21) (v26) h Q
def g17_s3 (cl : CL) (v1 v7 : AV) (h : AH) (Q : AV → AH → Prop) : Prop :=
  wk (kArith h .eql v7 (.int .i64 2)) fun v8 h =>
  wsp v8 fun v9 =>
  wg (gdv true v9) (fun k => k v1 h) h fun v10 h =>
  wg (gdv true v9) (fun k => wk (kBuild h [.int .i64 0, .int .i64 0] [(0, 1, (.int .i64 1)), (1, 1, (.int .i64 7))]) k) h fun v11 h =>
  wg (gdv true v9) (fun k => wcall cl (.func (.func 15) [] []) [v10, v11] h k) h fun v12 h =>
  wg (gdv true v9) (fun k => wk (kArith h .eql v12 (.int .i64 1)) k) h fun v13 h =>
  wk (kPick h v9 v13 (.bool false)) fun v14 h =>
  wsp v14 fun v15 =>
  wg (gdv true v15) (fun k => k v1 h) h fun v16 h =>
  wg (gdv true v15) (fun k => wk (kBuild h [.int .i64 0, .int .i64 0] [(0, 1, (.int .i64 1)), (1, 1, (.int .i64 17))]) k) h fun v17 h =>
  g17_s2 cl (v1) (v15) (v16) (v17) h Q
def g17_s4 (cl : CL) (v2 : AV) (h : AH) (Q : AV → AH → Prop) : Prop :=
  wcall cl (.func (.func 26) [] []) [(.int .i64 5), (.int .i64 5), (.int .i64 10), (.int .i64 10), (.int .i64 2)] h fun v3 h =>
  wk (kBuildSl h 22 2 [.int .i64 0, .int .i64 0, .int .i64 0, .int .i64 0, .int .i64 0, .int .i64 0, .bool false, .int .i64 0, .int .i64 0, .int .i64 0, .int .i64 0, .str [], .int .i64 0, .int .i64 0, .int .i64 0, .int .i64 0, .int .i64 0, .int .i64 0, .int .i64 0, .int .i64 0, .int .i64 0, .nilsl, .int .i64 0, .int .i64 0, .int .i64 0, .int .i64 0, .int .i64 0, .int .i64 0, .bool false, .int .i64 0, .int .i64 0, .int .i64 0, .int .i64 0, .str [], .int .i64 0, .int .i64 0, .int .i64 0, .int .i64 0, .int .i64 0, .int .i64 0, .int .i64 0, .int .i64 0, .int .i64 0, .nilsl] [(0, 22, v2), (22, 22, v3)]) fun v4 h =>
  wk (kBuild h [.int .i64 0, .int .i64 0] [(0, 1, (.int .i64 7)), (1, 1, (.int .i64 7))]) fun v6 h =>
  wcall cl (.func (.func 15) [] []) [v4, v6] h fun v7 h =>
  g17_s3 cl (v4) (v7) h Q
def g17 (cl : CL) (h : AH) (Q : AV → AH → Prop) : Prop :=
  wcall cl (.func (.func 26) [] []) [(.int .i64 0), (.int .i64 0), (.int .i64 10), (.int .i64 10), (.int .i64 1)] h fun v2 h =>
  g17_s4 cl (v2) h Q
theorem g17_eq (cl : CL) (h : AH) (Q : AV → AH → Prop) : wrun cl S17 [] h Q = g17 cl  h Q := by kernel_rfl
theorem C17 {cl : CL} (hcl : CLOk Try.prog cl) {h : AH} {Q : AV → AH → Prop} (hg : g17 cl  h Q) : CallsA Try.prog 17 [] h Q := wfn_ok hcl (f := 17) (fn := Try.f17) (by kernel_rfl) S17_ok (by decide) (by kernel_rfl) (its_nil (by kernel_rfl)) (by rw [g17_eq]; exact hg)

/- widgetry/widgetrybase.New -/
def S18.r0 : List AOpr := [
  ⟨some 2, .mov (.const (.nilptr)), none⟩]
def S18.r1 : List AOpr := [
  ⟨some 3, .mov (.tmp 0), none⟩,
  ⟨some 4, .len (.tmp 3), none⟩,
  ⟨some 5, .arith .gtr (.tmp 4) (.const (.int .i64 4000)), none⟩]
def S18.r2 : List AOpr := [
  ⟨some 6, .mov (.tmp 0), none⟩,
  ⟨some 7, .sl 1 (.tmp 6) none (some (.const (.int .i64 4000))) none, none⟩,
  ⟨some 0, .mov (.tmp 7), none⟩]
def S18.r3 : List AOpr := [
  ⟨some 8, .mov (.tmp 0), none⟩,
  ⟨some 9, .build [.nilsl, .int .i64 0] [(0, 1, .tmp 8)], none⟩,
  ⟨some 10, .box (.tmp 9), none⟩,
  ⟨some 2, .mov (.tmp 10), none⟩]
def S18 : SFn := ⟨11, [.tmp 2], .seq (.reg S18.r0) (.seq (.seq (.reg S18.r1) (.joinN [0] (.cond (.tmp 5) (.reg S18.r2) (.skip)))) (.seq (.reg S18.r3) (.ret)))⟩
theorem S18_ok : cFn Try.prog Try.f18 = some S18.erase := by kernel_rfl
def g18_a1 (cl : CL) (v0 v5 : AV) (h : AH) (k : List AV → AH → Prop) : Prop :=
  wif v5 (
  wk (kSl h 1 v0 none (some (.int .i64 4000)) none) fun v7 h =>
  k [v7] h) (
  k [v0] h)
def g18_j2 (cl : CL) (v0 : AV) (h : AH) (Q : AV → AH → Prop) : Prop :=
  wk (kBuild h [.nilsl, .int .i64 0] [(0, 1, v0)]) fun v9 h =>
  wk (kBox h v9) fun v10 h =>
  Q (v10) h
def g18 (cl : CL) (v0 : AV) (h : AH) (Q : AV → AH → Prop) : Prop :=
  wk (kLen h v0) fun v4 h =>
  wk (kArith h .gtr v4 (.int .i64 4000)) fun v5 h =>
  wjoinN (g18_a1 cl (v0) (v5) h) fun vs h => g18_j2 cl (nthD vs 0) h Q
theorem g18_eq (cl : CL) (v0 : AV) (h : AH) (Q : AV → AH → Prop) : wrun cl S18 [v0] h Q = g18 cl v0 h Q := by kernel_rfl
theorem C18 {cl : CL} (hcl : CLOk Try.prog cl) {v0 : AV} {h : AH} {Q : AV → AH → Prop} (hg : g18 cl v0 h Q) : CallsA Try.prog 18 [v0] h Q := wfn_ok hcl (f := 18) (fn := Try.f18) (by kernel_rfl) S18_ok (by decide) (by kernel_rfl) (its_nil (by kernel_rfl)) (by rw [g18_eq]; exact hg)

/- widgetry/widgetrylaw24.commands -/
def S19.r0 : List AOpr := [
  ⟨some 4, .mov (.const (.nilsl)), none⟩]
def S19.r1 : List AOpr := [
  ⟨some 5, .mov (.const (.nilsl)), none⟩]
def S19.r2 : List AOpr := [
  ⟨some 6, .mov (.const (.int .i64 0)), none⟩]
def S19.r3 : List AOpr := [
  ⟨some 11, .mov (.tmp 0), none⟩,
  ⟨some 12, .mov (.tmp 1), none⟩,
  ⟨some 13, .arith .add (.tmp 12) (.const (.int .i64 1)), none⟩,
  ⟨some 14, .call (.const (.func (.func 20) [] [])) [.tmp 11, .tmp 13], none⟩,
  ⟨some 7, .mov (.tmp 14), none⟩]
def S19.r4 : List AOpr := [
  ⟨some 15, .mov (.tmp 7), none⟩,
  ⟨some 16, .arith .gtr (.tmp 15) (.const (.int .i64 0)), none⟩]
def S19.r5 : List AOpr := [
  ⟨some 19, .mov (.tmp 0), none⟩,
  ⟨some 20, .call (.const (.func (.func 21) [] [])) [.tmp 19, .const (.int .i64 (-20)), .const (.int .i64 40)], none⟩,
  ⟨some 21, .mov (.tmp 0), none⟩,
  ⟨some 22, .call (.const (.func (.func 21) [] [])) [.tmp 21, .const (.int .i64 (-20)), .const (.int .i64 40)], none⟩,
  ⟨some 23, .mov (.tmp 0), none⟩,
  ⟨some 24, .call (.const (.func (.func 20) [] [])) [.tmp 23, .const (.int .i64 40)], none⟩,
  ⟨some 25, .mov (.tmp 0), none⟩,
  ⟨some 26, .call (.const (.func (.func 20) [] [])) [.tmp 25, .const (.int .i64 40)], none⟩,
  ⟨some 27, .build [.int .i64 0, .int .i64 0, .int .i64 0, .int .i64 0] [(0, 1, .tmp 20), (1, 1, .tmp 22), (2, 1, .tmp 24), (3, 1, .tmp 26)], none⟩,
  ⟨some 8, .new [.int .i64 0, .int .i64 0, .int .i64 0, .int .i64 0], none⟩,
  ⟨none, .st 4 (.tmp 8) (.tmp 27), none⟩]
def S19.r6 : List AOpr := [
  ⟨some 28, .mov (.tmp 0), none⟩,
  ⟨some 29, .call (.const (.func (.func 20) [] [])) [.tmp 28, .const (.int .i64 9)], none⟩]
def S19.r7 : List AOpr := [
  ⟨some 38, .arith .eql (.tmp 29) (.const (.int .i64 0)), none⟩,
  ⟨some 37, .mov (.tmp 38), none⟩]
def S19.r8 : List AOpr := [
  ⟨some 39, .mov (.tmp 5), none⟩,
  ⟨some 40, .ldn 4 (.tmp 8), none⟩,
  ⟨some 41, .build [.int .i64 0, .int .i64 0, .int .i64 0, .int .i64 0, .int .i64 0, .int .i64 0, .bool false, .int .i64 0, .int .i64 0, .int .i64 0, .int .i64 0, .str [], .int .i64 0, .int .i64 0, .int .i64 0, .int .i64 0, .int .i64 0, .int .i64 0, .int .i64 0, .int .i64 0, .int .i64 0, .nilsl] [(0, 1, .const (.int .i64 1)), (1, 4, .tmp 40)], none⟩,
  ⟨some 42, .buildSl 22 1 [.int .i64 0, .int .i64 0, .int .i64 0, .int .i64 0, .int .i64 0, .int .i64 0, .bool false, .int .i64 0, .int .i64 0, .int .i64 0, .int .i64 0, .str [], .int .i64 0, .int .i64 0, .int .i64 0, .int .i64 0, .int .i64 0, .int .i64 0, .int .i64 0, .int .i64 0, .int .i64 0, .nilsl] [(0, 22, .tmp 41)], none⟩,
  ⟨some 43, .app 22 200 (.tmp 39) (.tmp 42), none⟩,
  ⟨some 5, .mov (.tmp 43), none⟩]
def S19.r9 : List AOpr := [
  ⟨some 44, .mov (.tmp 6), none⟩,
  ⟨some 45, .arith .add (.tmp 44) (.const (.int .i64 1)), none⟩,
  ⟨some 6, .mov (.tmp 45), none⟩]
def S19.r10 : List AOpr := [
  ⟨some 47, .arith .eql (.tmp 29) (.const (.int .i64 1)), none⟩,
  ⟨some 46, .mov (.tmp 47), none⟩]
def S19.r11 : List AOpr := [
  ⟨some 48, .mov (.tmp 5), none⟩,
  ⟨some 49, .mov (.tmp 0), none⟩,
  ⟨some 50, .call (.const (.func (.func 20) [] [])) [.tmp 49, .const (.int .i64 4)], none⟩,
  ⟨some 51, .mov (.tmp 0), none⟩,
  ⟨some 52, .call (.const (.func (.func 20) [] [])) [.tmp 51, .const (.int .i64 2)], none⟩,
  ⟨some 53, .arith .eql (.tmp 52) (.const (.int .i64 1)), none⟩,
  ⟨some 54, .mov (.tmp 0), none⟩,
  ⟨some 55, .call (.const (.func (.func 21) [] [])) [.tmp 54, .const (.int .i64 1), .const (.int .i64 3)], none⟩,
  ⟨some 56, .mov (.tmp 0), none⟩,
  ⟨some 57, .call (.const (.func (.func 21) [] [])) [.tmp 56, .const (.int .i64 (-20)), .const (.int .i64 20)], none⟩,
  ⟨some 58, .mov (.tmp 0), none⟩,
  ⟨some 59, .call (.const (.func (.func 21) [] [])) [.tmp 58, .const (.int .i64 (-20)), .const (.int .i64 20)], none⟩,
  ⟨some 60, .build [.int .i64 0, .bool false, .int .i64 0, .int .i64 0, .int .i64 0] [(0, 1, .tmp 50), (1, 1, .tmp 53), (2, 1, .tmp 55), (3, 1, .tmp 57), (4, 1, .tmp 59)], none⟩,
  ⟨some 61, .build [.int .i64 0, .int .i64 0, .int .i64 0, .int .i64 0, .int .i64 0, .int .i64 0, .bool false, .int .i64 0, .int .i64 0, .int .i64 0, .int .i64 0, .str [], .int .i64 0, .int .i64 0, .int .i64 0, .int .i64 0, .int .i64 0, .int .i64 0, .int .i64 0, .int .i64 0, .int .i64 0, .nilsl] [(0, 1, .const (.int .i64 2)), (5, 5, .tmp 60)], none⟩,
  ⟨some 62, .buildSl 22 1 [.int .i64 0, .int .i64 0, .int .i64 0, .int .i64 0, .int .i64 0, .int .i64 0, .bool false, .int .i64 0, .int .i64 0, .int .i64 0, .int .i64 0, .str [], .int .i64 0, .int .i64 0, .int .i64 0, .int .i64 0, .int .i64 0, .int .i64 0, .int .i64 0, .int .i64 0, .int .i64 0, .nilsl] [(0, 22, .tmp 61)], none⟩,
  ⟨some 63, .app 22 200 (.tmp 48) (.tmp 62), none⟩,
  ⟨some 5, .mov (.tmp 63), none⟩]
def S19.r12 : List AOpr := [
  ⟨some 64, .mov (.tmp 6), none⟩,
  ⟨some 65, .arith .add (.tmp 64) (.const (.int .i64 1)), none⟩,
  ⟨some 6, .mov (.tmp 65), none⟩]
def S19.r13 : List AOpr := [
  ⟨some 67, .arith .eql (.tmp 29) (.const (.int .i64 2)), none⟩,
  ⟨some 66, .mov (.tmp 67), none⟩]
def S19.r14 : List AOpr := [
  ⟨some 68, .arith .eql (.tmp 29) (.const (.int .i64 3)), none⟩,
  ⟨some 66, .mov (.tmp 68), none⟩]
def S19.r15 : List AOpr := [
  ⟨some 69, .mov (.tmp 6), none⟩,
  ⟨some 70, .arith .gtr (.tmp 69) (.const (.int .i64 0)), none⟩]
def S19.r16 : List AOpr := [
  ⟨some 71, .mov (.tmp 5), none⟩,
  ⟨some 72, .build [.int .i64 0, .int .i64 0, .int .i64 0, .int .i64 0, .int .i64 0, .int .i64 0, .bool false, .int .i64 0, .int .i64 0, .int .i64 0, .int .i64 0, .str [], .int .i64 0, .int .i64 0, .int .i64 0, .int .i64 0, .int .i64 0, .int .i64 0, .int .i64 0, .int .i64 0, .int .i64 0, .nilsl] [(0, 1, .const (.int .i64 3))], none⟩,
  ⟨some 73, .buildSl 22 1 [.int .i64 0, .int .i64 0, .int .i64 0, .int .i64 0, .int .i64 0, .int .i64 0, .bool false, .int .i64 0, .int .i64 0, .int .i64 0, .int .i64 0, .str [], .int .i64 0, .int .i64 0, .int .i64 0, .int .i64 0, .int .i64 0, .int .i64 0, .int .i64 0, .int .i64 0, .int .i64 0, .nilsl] [(0, 22, .tmp 72)], none⟩,
  ⟨some 74, .app 22 200 (.tmp 71) (.tmp 73), none⟩,
  ⟨some 5, .mov (.tmp 74), none⟩]
def S19.r17 : List AOpr := [
  ⟨some 75, .mov (.tmp 6), none⟩,
  ⟨some 76, .arith .sub (.tmp 75) (.const (.int .i64 1)), none⟩,
  ⟨some 6, .mov (.tmp 76), none⟩]
def S19.r18 : List AOpr := [
  ⟨some 78, .arith .eql (.tmp 29) (.const (.int .i64 4)), none⟩,
  ⟨some 77, .mov (.tmp 78), none⟩]
def S19.r19 : List (AOpr × Nat) := [
  (⟨some 79, .mov (.tmp 5), none⟩, 0),
  (⟨some 80, .ldn 4 (.tmp 8), none⟩, 0),
  (⟨some 81, .mov (.tmp 0), none⟩, 0),
  (⟨some 82, .call (.const (.func (.func 50) [] [])) [.tmp 81, .const (.int .i64 1)], none⟩, 4),
  (⟨some 83, .build [.int .i64 0, .int .i64 0, .int .i64 0, .int .i64 0, .int .i64 0, .int .i64 0, .bool false, .int .i64 0, .int .i64 0, .int .i64 0, .int .i64 0, .str [], .int .i64 0, .int .i64 0, .int .i64 0, .int .i64 0, .int .i64 0, .int .i64 0, .int .i64 0, .int .i64 0, .int .i64 0, .nilsl] [(0, 1, .const (.int .i64 6)), (1, 4, .tmp 80), (11, 1, .tmp 82)], none⟩, 14),
  (⟨some 84, .buildSl 22 1 [.int .i64 0, .int .i64 0, .int .i64 0, .int .i64 0, .int .i64 0, .int .i64 0, .bool false, .int .i64 0, .int .i64 0, .int .i64 0, .int .i64 0, .str [], .int .i64 0, .int .i64 0, .int .i64 0, .int .i64 0, .int .i64 0, .int .i64 0, .int .i64 0, .int .i64 0, .int .i64 0, .nilsl] [(0, 22, .tmp 83)], none⟩, 30),
  (⟨some 85, .app 22 200 (.tmp 79) (.tmp 84), none⟩, 63),
  (⟨some 5, .mov (.tmp 85), none⟩, 127)]
def S19.r20 : List AOpr := [
  ⟨some 87, .arith .eql (.tmp 29) (.const (.int .i64 5)), none⟩,
  ⟨some 86, .mov (.tmp 87), none⟩]
def S19.r21 : List AOpr := [
  ⟨some 88, .mov (.tmp 0), none⟩,
  ⟨some 89, .call (.const (.func (.func 20) [] [])) [.tmp 88, .const (.int .i64 5)], none⟩,
  ⟨some 90, .build [.int .i64 0, .int .i64 0, .int .i64 0, .int .i64 0, .int .i64 0, .int .i64 0, .int .i64 0, .int .i64 0, .int .i64 0, .nilsl] [(3, 1, .tmp 89)], none⟩,
  ⟨some 9, .new [.int .i64 0, .int .i64 0, .int .i64 0, .int .i64 0, .int .i64 0, .int .i64 0, .int .i64 0, .int .i64 0, .int .i64 0, .nilsl], none⟩,
  ⟨none, .st 10 (.tmp 9) (.tmp 90), none⟩]
def S19.r22 : List AOpr := [
  ⟨some 91, .mov (.tmp 0), none⟩,
  ⟨some 92, .call (.const (.func (.func 20) [] [])) [.tmp 91, .const (.int .i64 4)], none⟩,
  ⟨some 10, .mov (.tmp 92), none⟩]
def S19.r23 : List AOpr := [
  ⟨some 93, .mov (.tmp 10), none⟩,
  ⟨some 94, .arith .gtr (.tmp 93) (.const (.int .i64 0)), none⟩]
def S19.r24 : List (AOpr × Nat) := [
  (⟨some 97, .fldA 9 (.tmp 9), none⟩, 0),
  (⟨some 98, .ld1 (.tmp 97), none⟩, 1),
  (⟨some 99, .mov (.tmp 0), none⟩, 0),
  (⟨some 100, .call (.const (.func (.func 20) [] [])) [.tmp 99, .const (.int .i64 40)], none⟩, 4),
  (⟨some 101, .mov (.tmp 0), none⟩, 0),
  (⟨some 102, .call (.const (.func (.func 20) [] [])) [.tmp 101, .const (.int .i64 12)], none⟩, 28),
  (⟨some 103, .build [.int .i64 0, .int .i64 0, .int .i64 0, .int .i64 0, .int .i64 0, .int .i64 0, .int .i64 0, .int .i64 0] [(0, 1, .const (.int .i64 97)), (4, 1, .tmp 100), (5, 1, .tmp 102)], none⟩, 60),
  (⟨some 104, .buildSl 8 1 [.int .i64 0, .int .i64 0, .int .i64 0, .int .i64 0, .int .i64 0, .int .i64 0, .int .i64 0, .int .i64 0] [(0, 8, .tmp 103)], none⟩, 124),
  (⟨some 105, .app 8 64 (.tmp 98) (.tmp 104), none⟩, 255),
  (⟨some 106, .fldA 9 (.tmp 9), none⟩, 511),
  (⟨none, .st 1 (.tmp 106) (.tmp 105), none⟩, 1023)]
def S19.r25 : List AOpr := [
  ⟨some 95, .mov (.tmp 10), none⟩,
  ⟨some 96, .arith .sub (.tmp 95) (.const (.int .i64 1)), none⟩,
  ⟨some 10, .mov (.tmp 96), none⟩]
def S19.r26 : List (AOpr × Nat) := [
  (⟨some 107, .mov (.tmp 5), none⟩, 0),
  (⟨some 108, .ldn 4 (.tmp 8), none⟩, 0),
  (⟨some 109, .mov (.tmp 0), none⟩, 0),
  (⟨some 110, .call (.const (.func (.func 20) [] [])) [.tmp 109, .const (.int .i64 3)], none⟩, 4),
  (⟨some 111, .ldn 10 (.tmp 9), none⟩, 0),
  (⟨some 112, .build [.int .i64 0, .int .i64 0, .int .i64 0, .int .i64 0, .int .i64 0, .int .i64 0, .bool false, .int .i64 0, .int .i64 0, .int .i64 0, .int .i64 0, .str [], .int .i64 0, .int .i64 0, .int .i64 0, .int .i64 0, .int .i64 0, .int .i64 0, .int .i64 0, .int .i64 0, .int .i64 0, .nilsl] [(0, 1, .const (.int .i64 5)), (1, 4, .tmp 108), (10, 1, .tmp 110), (12, 10, .tmp 111)], none⟩, 30),
  (⟨some 113, .buildSl 22 1 [.int .i64 0, .int .i64 0, .int .i64 0, .int .i64 0, .int .i64 0, .int .i64 0, .bool false, .int .i64 0, .int .i64 0, .int .i64 0, .int .i64 0, .str [], .int .i64 0, .int .i64 0, .int .i64 0, .int .i64 0, .int .i64 0, .int .i64 0, .int .i64 0, .int .i64 0, .int .i64 0, .nilsl] [(0, 22, .tmp 112)], none⟩, 62),
  (⟨some 114, .app 22 200 (.tmp 107) (.tmp 113), none⟩, 127),
  (⟨some 5, .mov (.tmp 114), none⟩, 255)]
def S19.r27 : List (AOpr × Nat) := [
  (⟨some 30, .mov (.tmp 5), none⟩, 0),
  (⟨some 31, .ldn 4 (.tmp 8), none⟩, 0),
  (⟨some 32, .mov (.tmp 0), none⟩, 0),
  (⟨some 33, .call (.const (.func (.func 20) [] [])) [.tmp 32, .const (.int .i64 4)], none⟩, 4),
  (⟨some 34, .build [.int .i64 0, .int .i64 0, .int .i64 0, .int .i64 0, .int .i64 0, .int .i64 0, .bool false, .int .i64 0, .int .i64 0, .int .i64 0, .int .i64 0, .str [], .int .i64 0, .int .i64 0, .int .i64 0, .int .i64 0, .int .i64 0, .int .i64 0, .int .i64 0, .int .i64 0, .int .i64 0, .nilsl] [(0, 1, .const (.int .i64 4)), (1, 4, .tmp 31), (10, 1, .tmp 33)], none⟩, 14),
  (⟨some 35, .buildSl 22 1 [.int .i64 0, .int .i64 0, .int .i64 0, .int .i64 0, .int .i64 0, .int .i64 0, .bool false, .int .i64 0, .int .i64 0, .int .i64 0, .int .i64 0, .str [], .int .i64 0, .int .i64 0, .int .i64 0, .int .i64 0, .int .i64 0, .int .i64 0, .int .i64 0, .int .i64 0, .int .i64 0, .nilsl] [(0, 22, .tmp 34)], none⟩, 30),
  (⟨some 36, .app 22 200 (.tmp 30) (.tmp 35), none⟩, 63),
  (⟨some 5, .mov (.tmp 36), none⟩, 127)]
def S19.r28 : List AOpr := [
  ⟨some 17, .mov (.tmp 7), none⟩,
  ⟨some 18, .arith .sub (.tmp 17) (.const (.int .i64 1)), none⟩,
  ⟨some 7, .mov (.tmp 18), none⟩]
def S19.r29 : List AOpr := [
  ⟨some 115, .mov (.tmp 6), none⟩,
  ⟨some 116, .arith .gtr (.tmp 115) (.const (.int .i64 0)), none⟩]
def S19.r30 : List AOpr := [
  ⟨some 119, .mov (.tmp 5), none⟩,
  ⟨some 120, .build [.int .i64 0, .int .i64 0, .int .i64 0, .int .i64 0, .int .i64 0, .int .i64 0, .bool false, .int .i64 0, .int .i64 0, .int .i64 0, .int .i64 0, .str [], .int .i64 0, .int .i64 0, .int .i64 0, .int .i64 0, .int .i64 0, .int .i64 0, .int .i64 0, .int .i64 0, .int .i64 0, .nilsl] [(0, 1, .const (.int .i64 3))], none⟩,
  ⟨some 121, .buildSl 22 1 [.int .i64 0, .int .i64 0, .int .i64 0, .int .i64 0, .int .i64 0, .int .i64 0, .bool false, .int .i64 0, .int .i64 0, .int .i64 0, .int .i64 0, .str [], .int .i64 0, .int .i64 0, .int .i64 0, .int .i64 0, .int .i64 0, .int .i64 0, .int .i64 0, .int .i64 0, .int .i64 0, .nilsl] [(0, 22, .tmp 120)], none⟩,
  ⟨some 122, .app 22 200 (.tmp 119) (.tmp 121), none⟩,
  ⟨some 5, .mov (.tmp 122), none⟩]
def S19.r31 : List AOpr := [
  ⟨some 117, .mov (.tmp 6), none⟩,
  ⟨some 118, .arith .sub (.tmp 117) (.const (.int .i64 1)), none⟩,
  ⟨some 6, .mov (.tmp 118), none⟩]
def S19.r32 : List AOpr := [
  ⟨some 123, .mov (.tmp 5), none⟩,
  ⟨some 4, .mov (.tmp 123), none⟩]
def S19 : SFn := ⟨124, [.tmp 4], .seq (.reg S19.r0) (.seq (.reg S19.r1) (.seq (.reg S19.r2) (.seq (.seq (.reg S19.r3) (.block 0 (.loop [0, 5, 6, 7] [5, 6] (.seq (.seq (.reg S19.r4) (.cond (.tmp 16) (.skip) (.exit 0))) (.seq (.joinN [0, 5, 6, 7] (.block 1 (.seq (.reg S19.r5) (.seq (.reg S19.r6) (.block 2 (.seq (.reg S19.r7) (.cond (.tmp 37) (.seq (.reg S19.r8) (.reg S19.r9)) (.seq (.reg S19.r10) (.cond (.tmp 46) (.seq (.reg S19.r11) (.reg S19.r12)) (.seq (.seq (.reg S19.r13) (.joinN [0, 5, 6, 7, 8, 29, 66] (.cond (.tmp 66) (.skip) (.reg S19.r14)))) (.cond (.tmp 66) (.seq (.reg S19.r15) (.cond (.tmp 70) (.seq (.reg S19.r16) (.reg S19.r17)) (.skip))) (.seq (.reg S19.r18) (.cond (.tmp 77) (.draw S19.r19) (.seq (.reg S19.r20) (.cond (.tmp 86) (.seq (.reg S19.r21) (.seq (.seq (.reg S19.r22) (.block 3 (.loop [0, 5, 6, 7, 8, 9, 10] [0, 5, 6, 7, 8, 9] (.seq (.seq (.reg S19.r23) (.cond (.tmp 94) (.skip) (.exit 3))) (.seq (.block 4 (.draw S19.r24)) (.reg S19.r25)))))) (.draw S19.r26))) (.draw S19.r27)))))))))))))))) (.reg S19.r28)))))) (.seq (.block 5 (.loop [5, 6] [5] (.seq (.seq (.reg S19.r29) (.cond (.tmp 116) (.skip) (.exit 5))) (.seq (.block 6 (.reg S19.r30)) (.reg S19.r31))))) (.seq (.reg S19.r32) (.ret))))))⟩
theorem S19_ok : cFn Try.prog Try.f19 = some S19.erase := by kernel_rfl
def g19_s1 (cl : CL) (v0 v6 v7 v39 v42 : AV) (h : AH) (k : List AV → AH → Prop) : Prop :=
  wk (kApp h 22 200 v39 v42) fun v43 h =>
  wk (kArith h .add v6 (.int .i64 1)) fun v45 h =>
  k [v0, v43, v45, v7] h
def g19_s2 (cl : CL) (v0 v6 v7 v48 v50 v53 v55 v57 v59 : AV) (h : AH) (k : List AV → AH → Prop) : Prop :=
  wk (kBuild h [.int .i64 0, .bool false, .int .i64 0, .int .i64 0, .int .i64 0] [(0, 1, v50), (1, 1, v53), (2, 1, v55), (3, 1, v57), (4, 1, v59)]) fun v60 h =>
  wk (kBuild h [.int .i64 0, .int .i64 0, .int .i64 0, .int .i64 0, .int .i64 0, .int .i64 0, .bool false, .int .i64 0, .int .i64 0, .int .i64 0, .int .i64 0, .str [], .int .i64 0, .int .i64 0, .int .i64 0, .int .i64 0, .int .i64 0, .int .i64 0, .int .i64 0, .int .i64 0, .int .i64 0, .nilsl] [(0, 1, (.int .i64 2)), (5, 5, v60)]) fun v61 h =>
  wk (kBuildSl h 22 1 [.int .i64 0, .int .i64 0, .int .i64 0, .int .i64 0, .int .i64 0, .int .i64 0, .bool false, .int .i64 0, .int .i64 0, .int .i64 0, .int .i64 0, .str [], .int .i64 0, .int .i64 0, .int .i64 0, .int .i64 0, .int .i64 0, .int .i64 0, .int .i64 0, .int .i64 0, .int .i64 0, .nilsl] [(0, 22, v61)]) fun v62 h =>
  wk (kApp h 22 200 v48 v62) fun v63 h =>
  wk (kArith h .add v6 (.int .i64 1)) fun v65 h =>
  k [v0, v63, v65, v7] h
def g19_s3 (cl : CL) (v0 v6 v7 v48 v50 v53 v55 v57 : AV) (h : AH) (k : List AV → AH → Prop) : Prop :=
  wcall cl (.func (.func 21) [] []) [v0, (.int .i64 (-20)), (.int .i64 20)] h fun v59 h =>
  g19_s2 cl (v0) (v6) (v7) (v48) (v50) (v53) (v55) (v57) (v59) h k
def g19_s4 (cl : CL) (v0 v6 v7 v48 v50 v53 v55 : AV) (h : AH) (k : List AV → AH → Prop) : Prop :=
  wcall cl (.func (.func 21) [] []) [v0, (.int .i64 (-20)), (.int .i64 20)] h fun v57 h =>
  g19_s3 cl (v0) (v6) (v7) (v48) (v50) (v53) (v55) (v57) h k
def g19_s5 (cl : CL) (v0 v6 v7 v48 v50 v52 : AV) (h : AH) (k : List AV → AH → Prop) : Prop :=
  wk (kArith h .eql v52 (.int .i64 1)) fun v53 h =>
  wcall cl (.func (.func 21) [] []) [v0, (.int .i64 1), (.int .i64 3)] h fun v55 h =>
  g19_s4 cl (v0) (v6) (v7) (v48) (v50) (v53) (v55) h k
def g19_s6 (cl : CL) (v0 v6 v7 v48 v50 : AV) (h : AH) (k : List AV → AH → Prop) : Prop :=
  wcall cl (.func (.func 20) [] []) [v0, (.int .i64 2)] h fun v52 h =>
  g19_s5 cl (v0) (v6) (v7) (v48) (v50) (v52) h k
def g19_a1 (cl : CL) (v0 v5 v6 v7 v8 v29 v66 : AV) (h : AH) (k : List AV → AH → Prop) : Prop :=
  wif v66 (
  k [v0, v5, v6, v7, v8, v29, v66] h) (
  wk (kArith h .eql v29 (.int .i64 3)) fun v68 h =>
  k [v0, v5, v6, v7, v8, v29, v68] h)
def g19_s7 (cl : CL) (c1 c3 : Rec) (v0 v5 v6 v7 v85 : AV) (h : AH) (k : List AV → AH → Prop) : Prop :=
  wdp h (kMov h v85) .pure fun v5 c7 h =>
  recOk c1 c3 = true ∧ k [v0, v5, v6, v7] h
def g19_s8 (cl : CL) (r : Nat) (c1 c3 c5 : Rec) (v0 v5 v6 v7 v8 v9 v10 v98 v103 : AV) (h : AH) (k : AX → List AV → List AV → AH → Prop) : Prop :=
  wda (r + 7) h (alBuildSl 8 1 [.int .i64 0, .int .i64 0, .int .i64 0, .int .i64 0, .int .i64 0, .int .i64 0, .int .i64 0, .int .i64 0] [(0, 8, v103)]) fun v104 c7 h =>
  wde h (kApp h 8 64 v98 v104) fun v105 c8 h =>
  wdp h (kFldA h 9 v9) .pure fun v106 c9 h =>
  wde h (kSt h 1 v106 v105) fun _ c10 h =>
  recOk c1 c3 = true ∧ recOk c1 c5 = true ∧ recOk c1 c7 = true ∧ wk (kArith h .sub v10 (.int .i64 1)) fun v96 h =>
  k .nrm [v0, v5, v6, v7, v8, v9, v96] [v0, v5, v6, v7, v8, v9] h
def g19_l2 (cl : CL) (v0 v5 v6 v7 v8 v9 v10 : AV) (h : AH) (k : AX → List AV → List AV → AH → Prop) : Prop :=
  wk (kArith h .gtr v10 (.int .i64 0)) fun v94 h =>
  wif v94 (
  wdr h 11 fun r h =>
  wdp h (kFldA h 9 v9) .pure fun v97 c0 h =>
  wdp h (kLd1 h v97) (rdK (rdv v97)) fun v98 c1 h =>
  wdp h (kMov h v0) .pure fun v99 c2 h =>
  wdc cl (.func (.func 20) [] []) [v99, (.int .i64 40)] h fun v100 c3 h =>
  wdp h (kMov h v0) .pure fun v101 c4 h =>
  wdc cl (.func (.func 20) [] []) [v101, (.int .i64 12)] h fun v102 c5 h =>
  wdp h (kBuild h [.int .i64 0, .int .i64 0, .int .i64 0, .int .i64 0, .int .i64 0, .int .i64 0, .int .i64 0, .int .i64 0] [(0, 1, (.int .i64 97)), (4, 1, v100), (5, 1, v102)]) .pure fun v103 c6 h =>
  g19_s8 cl r c1 c3 c5 (v0) (v5) (v6) (v7) (v8) (v9) (v10) (v98) (v103) h k) (
  k (.exit 3) [v0, v5, v6, v7, v8, v9, v10] [v0, v5, v6, v7, v8, v9] h)
def g19_s9 (cl : CL) (c1 c3 c4 : Rec) (v0 v5 v6 v7 v114 : AV) (h : AH) (k : List AV → AH → Prop) : Prop :=
  wdp h (kMov h v114) .pure fun v5 c8 h =>
  recOk c1 c3 = true ∧ recOk c3 c4 = true ∧ k [v0, v5, v6, v7] h
def g19_c3 (cl : CL) (v0 v5 v6 v7 v8 v9 : AV) (h : AH) (k : List AV → AH → Prop) : Prop :=
  wdr h 9 fun r h =>
  wdp h (kMov h v5) .pure fun v107 c0 h =>
  wdp h (kLdn h 4 v8) (rdK (rdv v8)) fun v108 c1 h =>
  wdp h (kMov h v0) .pure fun v109 c2 h =>
  wdc cl (.func (.func 20) [] []) [v109, (.int .i64 3)] h fun v110 c3 h =>
  wdp h (kLdn h 10 v9) (rdK (rdv v9)) fun v111 c4 h =>
  wdp h (kBuild h [.int .i64 0, .int .i64 0, .int .i64 0, .int .i64 0, .int .i64 0, .int .i64 0, .bool false, .int .i64 0, .int .i64 0, .int .i64 0, .int .i64 0, .str [], .int .i64 0, .int .i64 0, .int .i64 0, .int .i64 0, .int .i64 0, .int .i64 0, .int .i64 0, .int .i64 0, .int .i64 0, .nilsl] [(0, 1, (.int .i64 5)), (1, 4, v108), (10, 1, v110), (12, 10, v111)]) .pure fun v112 c5 h =>
  wda (r + 6) h (alBuildSl 22 1 [.int .i64 0, .int .i64 0, .int .i64 0, .int .i64 0, .int .i64 0, .int .i64 0, .bool false, .int .i64 0, .int .i64 0, .int .i64 0, .int .i64 0, .str [], .int .i64 0, .int .i64 0, .int .i64 0, .int .i64 0, .int .i64 0, .int .i64 0, .int .i64 0, .int .i64 0, .int .i64 0, .nilsl] [(0, 22, v112)]) fun v113 c6 h =>
  wde h (kApp h 22 200 v107 v113) fun v114 c7 h =>
  g19_s9 cl c1 c3 c4 (v0) (v5) (v6) (v7) (v114) h k
def g19_j4 (cl : CL) (x : AX) (v0 v5 v6 v7 v8 v9 : AV) (h : AH) (k : List AV → AH → Prop) : Prop :=
  xs x (g19_c3 cl (v0) (v5) (v6) (v7) (v8) (v9) h k) (fun j => cond (Nat.beq j 3) (g19_c3 cl (v0) (v5) (v6) (v7) (v8) (v9) h k) (cond (Nat.beq j 2) (k [v0, v5, v6, v7] h) (cond (Nat.beq j 1) (k [v0, v5, v6, v7] h) (False)))) (False)
def g19_s10 (cl : CL) (v0 v5 v6 v7 v8 v89 : AV) (h : AH) (k : List AV → AH → Prop) : Prop :=
  wk (kBuild h [.int .i64 0, .int .i64 0, .int .i64 0, .int .i64 0, .int .i64 0, .int .i64 0, .int .i64 0, .int .i64 0, .int .i64 0, .nilsl] [(3, 1, v89)]) fun v90 h =>
  wk (kNew h [.int .i64 0, .int .i64 0, .int .i64 0, .int .i64 0, .int .i64 0, .int .i64 0, .int .i64 0, .int .i64 0, .int .i64 0, .nilsl]) fun v9 h =>
  wk (kSt h 10 v9 v90) fun _ h =>
  wcall cl (.func (.func 20) [] []) [v0, (.int .i64 4)] h fun v92 h =>
  wloop (fun vs h k => g19_l2 cl (nthD vs 0) (nthD vs 1) (nthD vs 2) (nthD vs 3) (nthD vs 4) (nthD vs 5) (nthD vs 6) h k) [v0, v5, v6, v7, v8, v9, v92] h fun x vs h => g19_j4 cl x (nthD vs 0) (nthD vs 1) (nthD vs 2) (nthD vs 3) (nthD vs 4) (nthD vs 5) h k
def g19_s11 (cl : CL) (c1 c3 : Rec) (v0 v5 v6 v7 v30 v35 : AV) (h : AH) (k : List AV → AH → Prop) : Prop :=
  wde h (kApp h 22 200 v30 v35) fun v36 c6 h =>
  wdp h (kMov h v36) .pure fun v5 c7 h =>
  recOk c1 c3 = true ∧ k [v0, v5, v6, v7] h
def g19_j5 (cl : CL) (v0 v5 v6 v7 v8 v29 v66 : AV) (h : AH) (k : List AV → AH → Prop) : Prop :=
  wif v66 (
  wk (kArith h .gtr v6 (.int .i64 0)) fun v70 h =>
  wif v70 (
  wk (kBuild h [.int .i64 0, .int .i64 0, .int .i64 0, .int .i64 0, .int .i64 0, .int .i64 0, .bool false, .int .i64 0, .int .i64 0, .int .i64 0, .int .i64 0, .str [], .int .i64 0, .int .i64 0, .int .i64 0, .int .i64 0, .int .i64 0, .int .i64 0, .int .i64 0, .int .i64 0, .int .i64 0, .nilsl] [(0, 1, (.int .i64 3))]) fun v72 h =>
  wk (kBuildSl h 22 1 [.int .i64 0, .int .i64 0, .int .i64 0, .int .i64 0, .int .i64 0, .int .i64 0, .bool false, .int .i64 0, .int .i64 0, .int .i64 0, .int .i64 0, .str [], .int .i64 0, .int .i64 0, .int .i64 0, .int .i64 0, .int .i64 0, .int .i64 0, .int .i64 0, .int .i64 0, .int .i64 0, .nilsl] [(0, 22, v72)]) fun v73 h =>
  wk (kApp h 22 200 v5 v73) fun v74 h =>
  wk (kArith h .sub v6 (.int .i64 1)) fun v76 h =>
  k [v0, v74, v76, v7] h) (
  k [v0, v5, v6, v7] h)) (
  wk (kArith h .eql v29 (.int .i64 4)) fun v78 h =>
  wif v78 (
  wdr h 8 fun r h =>
  wdp h (kMov h v5) .pure fun v79 c0 h =>
  wdp h (kLdn h 4 v8) (rdK (rdv v8)) fun v80 c1 h =>
  wdp h (kMov h v0) .pure fun v81 c2 h =>
  wdc cl (.func (.func 50) [] []) [v81, (.int .i64 1)] h fun v82 c3 h =>
  wdp h (kBuild h [.int .i64 0, .int .i64 0, .int .i64 0, .int .i64 0, .int .i64 0, .int .i64 0, .bool false, .int .i64 0, .int .i64 0, .int .i64 0, .int .i64 0, .str [], .int .i64 0, .int .i64 0, .int .i64 0, .int .i64 0, .int .i64 0, .int .i64 0, .int .i64 0, .int .i64 0, .int .i64 0, .nilsl] [(0, 1, (.int .i64 6)), (1, 4, v80), (11, 1, v82)]) .pure fun v83 c4 h =>
  wda (r + 5) h (alBuildSl 22 1 [.int .i64 0, .int .i64 0, .int .i64 0, .int .i64 0, .int .i64 0, .int .i64 0, .bool false, .int .i64 0, .int .i64 0, .int .i64 0, .int .i64 0, .str [], .int .i64 0, .int .i64 0, .int .i64 0, .int .i64 0, .int .i64 0, .int .i64 0, .int .i64 0, .int .i64 0, .int .i64 0, .nilsl] [(0, 22, v83)]) fun v84 c5 h =>
  wde h (kApp h 22 200 v79 v84) fun v85 c6 h =>
  g19_s7 cl c1 c3 (v0) (v5) (v6) (v7) (v85) h k) (
  wk (kArith h .eql v29 (.int .i64 5)) fun v87 h =>
  wif v87 (
  wcall cl (.func (.func 20) [] []) [v0, (.int .i64 5)] h fun v89 h =>
  g19_s10 cl (v0) (v5) (v6) (v7) (v8) (v89) h k) (
  wdr h 8 fun r h =>
  wdp h (kMov h v5) .pure fun v30 c0 h =>
  wdp h (kLdn h 4 v8) (rdK (rdv v8)) fun v31 c1 h =>
  wdp h (kMov h v0) .pure fun v32 c2 h =>
  wdc cl (.func (.func 20) [] []) [v32, (.int .i64 4)] h fun v33 c3 h =>
  wdp h (kBuild h [.int .i64 0, .int .i64 0, .int .i64 0, .int .i64 0, .int .i64 0, .int .i64 0, .bool false, .int .i64 0, .int .i64 0, .int .i64 0, .int .i64 0, .str [], .int .i64 0, .int .i64 0, .int .i64 0, .int .i64 0, .int .i64 0, .int .i64 0, .int .i64 0, .int .i64 0, .int .i64 0, .nilsl] [(0, 1, (.int .i64 4)), (1, 4, v31), (10, 1, v33)]) .pure fun v34 c4 h =>
  wda (r + 5) h (alBuildSl 22 1 [.int .i64 0, .int .i64 0, .int .i64 0, .int .i64 0, .int .i64 0, .int .i64 0, .bool false, .int .i64 0, .int .i64 0, .int .i64 0, .int .i64 0, .str [], .int .i64 0, .int .i64 0, .int .i64 0, .int .i64 0, .int .i64 0, .int .i64 0, .int .i64 0, .int .i64 0, .int .i64 0, .nilsl] [(0, 22, v34)]) fun v35 c5 h =>
  g19_s11 cl c1 c3 (v0) (v5) (v6) (v7) (v30) (v35) h k)))
def g19_s12 (cl : CL) (v0 v5 v6 v7 v20 v22 v24 v26 : AV) (h : AH) (k : List AV → AH → Prop) : Prop :=
  wk (kBuild h [.int .i64 0, .int .i64 0, .int .i64 0, .int .i64 0] [(0, 1, v20), (1, 1, v22), (2, 1, v24), (3, 1, v26)]) fun v27 h =>
  wk (kNew h [.int .i64 0, .int .i64 0, .int .i64 0, .int .i64 0]) fun v8 h =>
  wk (kSt h 4 v8 v27) fun _ h =>
  wcall cl (.func (.func 20) [] []) [v0, (.int .i64 9)] h fun v29 h =>
  wk (kArith h .eql v29 (.int .i64 0)) fun v38 h =>
  wif v38 (
  wk (kLdn h 4 v8) fun v40 h =>
  wk (kBuild h [.int .i64 0, .int .i64 0, .int .i64 0, .int .i64 0, .int .i64 0, .int .i64 0, .bool false, .int .i64 0, .int .i64 0, .int .i64 0, .int .i64 0, .str [], .int .i64 0, .int .i64 0, .int .i64 0, .int .i64 0, .int .i64 0, .int .i64 0, .int .i64 0, .int .i64 0, .int .i64 0, .nilsl] [(0, 1, (.int .i64 1)), (1, 4, v40)]) fun v41 h =>
  wk (kBuildSl h 22 1 [.int .i64 0, .int .i64 0, .int .i64 0, .int .i64 0, .int .i64 0, .int .i64 0, .bool false, .int .i64 0, .int .i64 0, .int .i64 0, .int .i64 0, .str [], .int .i64 0, .int .i64 0, .int .i64 0, .int .i64 0, .int .i64 0, .int .i64 0, .int .i64 0, .int .i64 0, .int .i64 0, .nilsl] [(0, 22, v41)]) fun v42 h =>
  g19_s1 cl (v0) (v6) (v7) (v5) (v42) h k) (
  wk (kArith h .eql v29 (.int .i64 1)) fun v47 h =>
  wif v47 (
  wcall cl (.func (.func 20) [] []) [v0, (.int .i64 4)] h fun v50 h =>
  g19_s6 cl (v0) (v6) (v7) (v5) (v50) h k) (
  wk (kArith h .eql v29 (.int .i64 2)) fun v67 h =>
  wjoinN (g19_a1 cl (v0) (v5) (v6) (v7) (v8) (v29) (v67) h) fun vs h => g19_j5 cl (nthD vs 0) (nthD vs 1) (nthD vs 2) (nthD vs 3) (nthD vs 4) (nthD vs 5) (nthD vs 6) h k))
def g19_s13 (cl : CL) (v0 v5 v6 v7 v20 v22 v24 : AV) (h : AH) (k : List AV → AH → Prop) : Prop :=
  wcall cl (.func (.func 20) [] []) [v0, (.int .i64 40)] h fun v26 h =>
  g19_s12 cl (v0) (v5) (v6) (v7) (v20) (v22) (v24) (v26) h k
def g19_s14 (cl : CL) (v0 v5 v6 v7 v20 v22 : AV) (h : AH) (k : List AV → AH → Prop) : Prop :=
  wcall cl (.func (.func 20) [] []) [v0, (.int .i64 40)] h fun v24 h =>
  g19_s13 cl (v0) (v5) (v6) (v7) (v20) (v22) (v24) h k
def g19_s15 (cl : CL) (v0 v5 v6 v7 v20 : AV) (h : AH) (k : List AV → AH → Prop) : Prop :=
  wcall cl (.func (.func 21) [] []) [v0, (.int .i64 (-20)), (.int .i64 40)] h fun v22 h =>
  g19_s14 cl (v0) (v5) (v6) (v7) (v20) (v22) h k
def g19_a6 (cl : CL) (v0 v5 v6 v7 : AV) (h : AH) (k : List AV → AH → Prop) : Prop :=
  wcall cl (.func (.func 21) [] []) [v0, (.int .i64 (-20)), (.int .i64 40)] h fun v20 h =>
  g19_s15 cl (v0) (v5) (v6) (v7) (v20) h k
def g19_j7 (cl : CL) (v0 v5 v6 v7 : AV) (h : AH) (k : AX → List AV → List AV → AH → Prop) : Prop :=
  wk (kArith h .sub v7 (.int .i64 1)) fun v18 h =>
  k .nrm [v0, v5, v6, v18] [v5, v6] h
def g19_l8 (cl : CL) (v0 v5 v6 v7 : AV) (h : AH) (k : AX → List AV → List AV → AH → Prop) : Prop :=
  wk (kArith h .gtr v7 (.int .i64 0)) fun v16 h =>
  wif v16 (
  wjoinN (g19_a6 cl (v0) (v5) (v6) (v7) h) fun vs h => g19_j7 cl (nthD vs 0) (nthD vs 1) (nthD vs 2) (nthD vs 3) h k) (
  k (.exit 0) [v0, v5, v6, v7] [v5, v6] h)
def g19_l9 (cl : CL) (v5 v6 : AV) (h : AH) (k : AX → List AV → List AV → AH → Prop) : Prop :=
  wk (kArith h .gtr v6 (.int .i64 0)) fun v116 h =>
  wif v116 (
  wk (kBuild h [.int .i64 0, .int .i64 0, .int .i64 0, .int .i64 0, .int .i64 0, .int .i64 0, .bool false, .int .i64 0, .int .i64 0, .int .i64 0, .int .i64 0, .str [], .int .i64 0, .int .i64 0, .int .i64 0, .int .i64 0, .int .i64 0, .int .i64 0, .int .i64 0, .int .i64 0, .int .i64 0, .nilsl] [(0, 1, (.int .i64 3))]) fun v120 h =>
  wk (kBuildSl h 22 1 [.int .i64 0, .int .i64 0, .int .i64 0, .int .i64 0, .int .i64 0, .int .i64 0, .bool false, .int .i64 0, .int .i64 0, .int .i64 0, .int .i64 0, .str [], .int .i64 0, .int .i64 0, .int .i64 0, .int .i64 0, .int .i64 0, .int .i64 0, .int .i64 0, .int .i64 0, .int .i64 0, .nilsl] [(0, 22, v120)]) fun v121 h =>
  wk (kApp h 22 200 v5 v121) fun v122 h =>
  wk (kArith h .sub v6 (.int .i64 1)) fun v118 h =>
  k .nrm [v122, v118] [v122] h) (
  k (.exit 5) [v5, v6] [v5] h)
def g19_c10 (cl : CL) (v5 : AV) (h : AH) (Q : AV → AH → Prop) : Prop :=
  Q (v5) h
def g19_j11 (cl : CL) (x : AX) (v5 : AV) (h : AH) (Q : AV → AH → Prop) : Prop :=
  xs x (g19_c10 cl (v5) h Q) (fun j => cond (Nat.beq j 5) (g19_c10 cl (v5) h Q) (False)) (Q (.undef) h)
def g19_c12 (cl : CL) (v5 v6 : AV) (h : AH) (Q : AV → AH → Prop) : Prop :=
  wloop (fun vs h k => g19_l9 cl (nthD vs 0) (nthD vs 1) h k) [v5, v6] h fun x vs h => g19_j11 cl x (nthD vs 0) h Q
def g19_j13 (cl : CL) (x : AX) (v5 v6 : AV) (h : AH) (Q : AV → AH → Prop) : Prop :=
  xs x (g19_c12 cl (v5) (v6) h Q) (fun j => cond (Nat.beq j 0) (g19_c12 cl (v5) (v6) h Q) (False)) (Q (.undef) h)
def g19 (cl : CL) (v0 v1 : AV) (h : AH) (Q : AV → AH → Prop) : Prop :=
  wk (kArith h .add v1 (.int .i64 1)) fun v13 h =>
  wcall cl (.func (.func 20) [] []) [v0, v13] h fun v14 h =>
  wloop (fun vs h k => g19_l8 cl (nthD vs 0) (nthD vs 1) (nthD vs 2) (nthD vs 3) h k) [v0, (.nilsl), (.int .i64 0), v14] h fun x vs h => g19_j13 cl x (nthD vs 0) (nthD vs 1) h Q
theorem g19_eq (cl : CL) (v0 v1 : AV) (h : AH) (Q : AV → AH → Prop) : wrun cl S19 [v0, v1] h Q = g19 cl v0 v1 h Q := by kernel_rfl
theorem C19 {cl : CL} (hcl : CLOk Try.prog cl) {v0 v1 : AV} {h : AH} {Q : AV → AH → Prop} (hg : g19 cl v0 v1 h Q) : CallsA Try.prog 19 [v0, v1] h Q := wfn_ok hcl (f := 19) (fn := Try.f19) (by kernel_rfl) S19_ok (by decide) (by kernel_rfl) (its_nil (by kernel_rfl)) (by rw [g19_eq]; exact hg)

/- (*widgetry/widgetrybase.Src).N -/
def S20.r0 : List AOpr := [
  ⟨some 4, .mov (.const (.int .i64 0)), none⟩]
def S20.r1 : List ((AOpr × Nat) × Option Nat) := [
  ((⟨some 6, .mov (.tmp 0), none⟩, 0), none),
  ((⟨some 7, .nilchk (.tmp 6), none⟩, 1), none),
  ((⟨some 8, .fldA 1 (.tmp 7), none⟩, 3), none),
  ((⟨some 9, .ld1 (.tmp 8), none⟩, 7), none),
  ((⟨some 10, .mov (.tmp 0), none⟩, 0), none),
  ((⟨some 11, .nilchk (.tmp 10), none⟩, 16), none),
  ((⟨some 12, .fldA 0 (.tmp 11), none⟩, 48), none),
  ((⟨some 13, .ld1 (.tmp 12), none⟩, 112), none),
  ((⟨some 14, .len (.tmp 13), none⟩, 240), none),
  ((⟨some 15, .arith .geq (.tmp 9) (.tmp 14), none⟩, 511), none),
  ((⟨some 16, .mov (.tmp 15), none⟩, 1023), none),
  ((⟨some 17, .mov (.tmp 1), some (16, false)⟩, 2047), some 16),
  ((⟨some 18, .arith .lss (.tmp 17) (.const (.int .i64 1)), some (16, false)⟩, 4095), none),
  ((⟨some 19, .pick (.tmp 16) (.const (.bool true)) (.tmp 18), none⟩, 8191), none)]
def S20.r2 : List AOpr := [
  ⟨some 4, .mov (.const (.int .i64 0)), none⟩]
def S20.r3 : List (AOpr × Nat) := [
  (⟨some 20, .mov (.tmp 0), none⟩, 0),
  (⟨some 21, .nilchk (.tmp 20), none⟩, 1),
  (⟨some 22, .fldA 0 (.tmp 21), none⟩, 3),
  (⟨some 23, .ld1 (.tmp 22), none⟩, 7),
  (⟨some 24, .mov (.tmp 0), none⟩, 0),
  (⟨some 25, .nilchk (.tmp 24), none⟩, 16),
  (⟨some 26, .fldA 1 (.tmp 25), none⟩, 48),
  (⟨some 27, .ld1 (.tmp 26), none⟩, 112),
  (⟨some 28, .idxA 1 (.tmp 23) (.tmp 27), none⟩, 255),
  (⟨some 29, .ld1 (.tmp 28), none⟩, 511),
  (⟨some 30, .mov (.tmp 1), none⟩, 0),
  (⟨some 31, .arith .rem (.tmp 29) (.tmp 30), none⟩, 2047),
  (⟨some 5, .mov (.tmp 31), none⟩, 4095)]
def S20.r4 : List AOpr := [
  ⟨some 32, .mov (.tmp 0), none⟩,
  ⟨some 33, .nilchk (.tmp 32), none⟩,
  ⟨some 34, .fldA 1 (.tmp 33), none⟩,
  ⟨some 35, .ld1 (.tmp 34), none⟩,
  ⟨some 36, .arith .add (.tmp 35) (.const (.int .i64 1)), none⟩,
  ⟨some 37, .nilchk (.tmp 32), none⟩,
  ⟨some 38, .fldA 1 (.tmp 37), none⟩,
  ⟨none, .st 1 (.tmp 38) (.tmp 36), none⟩]
def S20.r5 : List AOpr := [
  ⟨some 39, .mov (.tmp 5), none⟩,
  ⟨some 40, .arith .lss (.tmp 39) (.const (.int .i64 0)), none⟩]
def S20.r6 : List AOpr := [
  ⟨some 41, .mov (.tmp 5), none⟩,
  ⟨some 42, .mov (.tmp 1), none⟩,
  ⟨some 43, .arith .add (.tmp 41) (.tmp 42), none⟩,
  ⟨some 5, .mov (.tmp 43), none⟩]
def S20.r7 : List AOpr := [
  ⟨some 44, .mov (.tmp 5), none⟩,
  ⟨some 4, .mov (.tmp 44), none⟩]
def S20 : SFn := ⟨45, [.tmp 4], .seq (.reg S20.r0) (.seq (.seq (.joinN [0, 1, 19] (.drawS S20.r1)) (.cond (.tmp 19) (.seq (.reg S20.r2) (.ret)) (.skip))) (.seq (.draw S20.r3) (.seq (.reg S20.r4) (.seq (.seq (.reg S20.r5) (.joinN [5] (.cond (.tmp 40) (.reg S20.r6) (.skip)))) (.seq (.reg S20.r7) (.ret))))))⟩
theorem S20_ok : cFn Try.prog Try.f20 = some S20.erase := by kernel_rfl
def g20_s1 (cl : CL) (v0 v1 v9 v13 : AV) (h : AH) (k : List AV → AH → Prop) : Prop :=
  wdp h (kLen h v13) .pure fun v14 c8 h =>
  wdp h (kArith h .geq v9 v14) .pure fun v15 c9 h =>
  wdp h (kMov h v15) .pure fun v16 c10 h =>
  wsp v16 fun v16 =>
  wgd (gdv false v16) (fun k => wdp h (kMov h v1) .pure k) h fun v17 c11 h =>
  wgd (gdv false v16) (fun k => wdp h (kArith h .lss v17 (.int .i64 1)) .pure k) h fun v18 c12 h =>
  wdp h (kPick h v16 (.bool true) v18) .pure fun v19 c13 h =>
  k [v0, v1, v19] h
def g20_a1 (cl : CL) (v0 v1 : AV) (h : AH) (k : List AV → AH → Prop) : Prop :=
  wdr h 14 fun r h =>
  wdp h (kMov h v0) .pure fun v6 c0 h =>
  wdp h (kNilchk h v6) .pure fun v7 c1 h =>
  wdp h (kFldA h 1 v7) .pure fun v8 c2 h =>
  wdp h (kLd1 h v8) (rdK (rdv v8)) fun v9 c3 h =>
  wdp h (kMov h v0) .pure fun v10 c4 h =>
  wdp h (kNilchk h v10) .pure fun v11 c5 h =>
  wdp h (kFldA h 0 v11) .pure fun v12 c6 h =>
  wdp h (kLd1 h v12) (rdK (rdv v12)) fun v13 c7 h =>
  g20_s1 cl (v0) (v1) (v9) (v13) h k
def g20_a2 (cl : CL) (v1 v5 v40 : AV) (h : AH) (k : List AV → AH → Prop) : Prop :=
  wif v40 (
  wk (kArith h .add v5 v1) fun v43 h =>
  k [v43] h) (
  k [v5] h)
def g20_j3 (cl : CL) (v5 : AV) (h : AH) (Q : AV → AH → Prop) : Prop :=
  Q (v5) h
def g20_s2 (cl : CL) (v1 v5 v32 v35 : AV) (h : AH) (Q : AV → AH → Prop) : Prop :=
  wk (kArith h .add v35 (.int .i64 1)) fun v36 h =>
  wk (kNilchk h v32) fun v37 h =>
  wk (kFldA h 1 v37) fun v38 h =>
  wk (kSt h 1 v38 v36) fun _ h =>
  wk (kArith h .lss v5 (.int .i64 0)) fun v40 h =>
  wjoinN (g20_a2 cl (v1) (v5) (v40) h) fun vs h => g20_j3 cl (nthD vs 0) h Q
def g20_s3 (cl : CL) (v0 v1 v23 v27 : AV) (h : AH) (Q : AV → AH → Prop) : Prop :=
  wdp h (kIdxA h 1 v23 v27) .pure fun v28 c8 h =>
  wdp h (kLd1 h v28) (rdK (rdv v28)) fun v29 c9 h =>
  wdp h (kMov h v1) .pure fun v30 c10 h =>
  wdp h (kArith h .rem v29 v30) .pure fun v31 c11 h =>
  wdp h (kMov h v31) .pure fun v5 c12 h =>
  wk (kNilchk h v0) fun v33 h =>
  wk (kFldA h 1 v33) fun v34 h =>
  wk (kLd1 h v34) fun v35 h =>
  g20_s2 cl (v1) (v5) (v0) (v35) h Q
def g20_j4 (cl : CL) (v0 v1 v19 : AV) (h : AH) (Q : AV → AH → Prop) : Prop :=
  wif v19 (
  Q ((.int .i64 0)) h) (
  wdr h 13 fun r h =>
  wdp h (kMov h v0) .pure fun v20 c0 h =>
  wdp h (kNilchk h v20) .pure fun v21 c1 h =>
  wdp h (kFldA h 0 v21) .pure fun v22 c2 h =>
  wdp h (kLd1 h v22) (rdK (rdv v22)) fun v23 c3 h =>
  wdp h (kMov h v0) .pure fun v24 c4 h =>
  wdp h (kNilchk h v24) .pure fun v25 c5 h =>
  wdp h (kFldA h 1 v25) .pure fun v26 c6 h =>
  wdp h (kLd1 h v26) (rdK (rdv v26)) fun v27 c7 h =>
  g20_s3 cl (v0) (v1) (v23) (v27) h Q)
def g20 (cl : CL) (v0 v1 : AV) (h : AH) (Q : AV → AH → Prop) : Prop :=
  wjoinN (g20_a1 cl (v0) (v1) h) fun vs h => g20_j4 cl (nthD vs 0) (nthD vs 1) (nthD vs 2) h Q
theorem g20_eq (cl : CL) (v0 v1 : AV) (h : AH) (Q : AV → AH → Prop) : wrun cl S20 [v0, v1] h Q = g20 cl v0 v1 h Q := by kernel_rfl
theorem C20 {cl : CL} (hcl : CLOk Try.prog cl) {v0 v1 : AV} {h : AH} {Q : AV → AH → Prop} (hg : g20 cl v0 v1 h Q) : CallsA Try.prog 20 [v0, v1] h Q := wfn_ok hcl (f := 20) (fn := Try.f20) (by kernel_rfl) S20_ok (by decide) (by kernel_rfl) (its_nil (by kernel_rfl)) (by rw [g20_eq]; exact hg)

end Go.Proofs.Ytpnekpbehcbmkaa
