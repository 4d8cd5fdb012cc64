/- Functions of the law's road as words; printed by a program of ours. -/
import Derived.Test.YtfegfialedlfcaaGreatDoorEngBB
import Derived.Test.YtfegfialedlfcaaGreatDoorEngIN
import Derived.Test.YtfegfialedlfcaaGreatDoorEngGI
import Derived.Test.YtfegfialedlfcaaGreatDoorProg
import Derived.KernelRfl
set_option linter.unusedSimpArgs false
set_option linter.unusedVariables false
set_option linter.unnecessarySimpa false
noncomputable section
namespace Go.Proofs.YtfegfialedlfcaaGreatDoor
open Go.Eng
set_option maxRecDepth 100000
def g3_s1 (cl : CL) (v0 v1 v2 v3 v9 v10 v48 v49 : AV) (h : AH) (k : KT) : Prop :=
  wk (kSt h 1 v49 v48) fun _ h =>
  wk (kArith h .add v10 (.int .i64 1)) fun v43 h =>
  k .nrm [v0, v1, v2, v3, v9, v43] [v0, v1, v2, v3, v9] h
def g3_l1 (cl : CL) (v0 v1 v2 v3 v9 v10 : AV) (h : AH) (k : KT) : Prop :=
  wk (kLen h v0) fun v40 h =>
  wk (kArith h .lss v10 v40) fun v41 h =>
  wif v41 (
  wk (kFldA h 4 v9) fun v44 h =>
  wk (kLd1 h v44) fun v45 h =>
  wk (kBuild h [.int .i64 0, .str [], .nilsl, .nilsl, .nilsl] [(0, 1, (.int .i64 1))]) fun v46 h =>
  wk (kBuildSl h 5 1 [.int .i64 0, .str [], .nilsl, .nilsl, .nilsl] [(0, 5, v46)]) fun v47 h =>
  wk (kApp h 5 96 v45 v47) fun v48 h =>
  wk (kFldA h 4 v9) fun v49 h =>
  g3_s1 cl v0 v1 v2 v3 v9 v10 v48 v49 h k) (
  k (.exit 0) [v0, v1, v2, v3, v9, v10] [v0, v1, v2, v3, v9] h)
def g3_s2 (cl : CL) (v0 v1 v2 v3 v11 v13 v15 v16 v17 v18 : AV) (h : AH) (k : KT) : Prop :=
  wk (kBuildSl h 1 1 [.int .i64 0] [(0, 1, v15)]) fun v94 h =>
  wk (kApp h 1 8 v16 v94) fun v95 h =>
  wk (kArith h .add v15 v18) fun v98 h =>
  wk (kArith h .add v17 (.int .i64 1)) fun v71 h =>
  k .nrm [v0, v1, v2, v3, v11, v13, v98, v95, v71] [v0, v1, v2, v3, v11, v13, v95] h
def g3_s3 (cl : CL) (v0 v1 v2 v3 v11 v13 v15 v16 v17 v18 v80 v82 : AV) (h : AH) (k : KT) : Prop :=
  wk (kIdxArrA h 22 1 v82 (.int .i64 15)) fun v83 h =>
  wk (kSt h 1 v83 v80) fun _ h =>
  wk (kArith h .add v17 (.int .i64 1)) fun v86 h =>
  wk (kArith h .add v17 (.int .i64 1)) fun v88 h =>
  wk (kIdxA h 23 v13 v86) fun v89 h =>
  wk (kFldA h 1 v89) fun v90 h =>
  wk (kIdxArrA h 22 1 v90 (.int .i64 1)) fun v91 h =>
  wk (kSt h 1 v91 v88) fun _ h =>
  g3_s2 cl v0 v1 v2 v3 v11 v13 v15 v16 v17 v18 h k
def g3_l2 (cl : CL) (v0 v1 v2 v3 v11 v13 v15 v16 v17 : AV) (h : AH) (k : KT) : Prop :=
  wk (kLen h v0) fun v68 h =>
  wk (kArith h .lss v17 v68) fun v69 h =>
  wif v69 (
  wk (kIdxA h 1 v0 v17) fun v74 h =>
  wk (kLd1 h v74) fun v75 h =>
  wk (kArith h .and v75 (.int .i64 31)) fun v76 h =>
  wk (kArith h .add v17 (.int .i64 1)) fun v79 h =>
  wk (kIdxA h 23 v13 v79) fun v81 h =>
  wk (kFldA h 1 v81) fun v82 h =>
  g3_s3 cl v0 v1 v2 v3 v11 v13 v15 v16 v17 v76 v76 v82 h k) (
  k (.exit 2) [v0, v1, v2, v3, v11, v13, v15, v16, v17] [v0, v1, v2, v3, v11, v13, v16] h)
def g3_a3 (cl : CL) (v0 v1 v2 v3 v16 v20 v21 v22 : AV) (h : AH) (k : NT) : Prop :=
  wk (kArith h .neq v20 (.int .i64 0)) fun v121 h =>
  wsp v121 fun v122 =>
  wg (gdv false v122) (fun k => k v22 h) h fun v123 h =>
  gB v122 (kArith h .neq v123 (.int .i64 0)) h fun v124 h =>
  wk (kPick h v122 (.bool true) v124) fun v125 h =>
  k [v0, v1, v2, v3, v16, v21, v125] h
def g3_s4 (cl : CL) (v0 v1 v2 v3 v16 v21 v23 v24 v25 v140 v143 : AV) (h : AH) (k : NT) : Prop :=
  wk (kPick h v140 v143 (.bool false)) fun v144 h =>
  k [v0, v1, v2, v3, v16, v21, v23, v24, v25, v144] h
def g3_a4 (cl : CL) (v0 v1 v2 v3 v16 v21 v23 v24 v25 : AV) (h : AH) (k : NT) : Prop :=
  wk (kLen h v16) fun v134 h =>
  wk (kArith h .lss v25 v134) fun v135 h =>
  wsp v135 fun v136 =>
  wg (gdv true v136) (fun k => k v23 h) h fun v137 h =>
  gA v136 (kArith h .geq v137 (.int .i64 0)) h fun v138 h =>
  wk (kPick h v136 v138 (.bool false)) fun v139 h =>
  wsp v139 fun v140 =>
  wg (gdv true v140) (fun k => k v23 h) h fun v141 h =>
  wg (gdv true v140) (fun k => k v3 h) h fun v142 h =>
  gA v140 (kArith h .lss v141 v142) h fun v143 h =>
  g3_s4 cl v0 v1 v2 v3 v16 v21 v23 v24 v25 v140 v143 h k
def g3_s5 (cl : CL) (v0 v1 v2 v3 v16 v21 v23 v24 v25 v155 v158 v162 : AV) (h : AH) (k : NT) : Prop :=
  wA v155 (kMov h v0) h fun v163 c16 h =>
  wA v155 (kMov h v25) h fun v164 c17 h =>
  wA v155 (kIdxA h 1 v163 v164) h fun v165 c18 h =>
  wC v155 (kLd1 h v165) v165 h fun v166 c19 h =>
  wA v155 (kArith h .and v166 (.int .i64 31)) h fun v167 c20 h =>
  wA v155 (kArith h .add v162 v167) h fun v168 c21 h =>
  wA v155 (kArith h .lss v158 v168) h fun v169 c22 h =>
  wP h (kPick h v155 v169 (.bool false)) fun v170 c23 h =>
  k [v0, v1, v2, v3, v16, v21, v23, v24, v25, v170] h
def g3_s6 (cl : CL) (v0 v1 v2 v3 v16 v21 v23 v24 v25 v154 : AV) (h : AH) (k : NT) : Prop :=
  wP h (kMov h v154) fun v155 c8 h =>
  wsp v155 fun v155 =>
  wA v155 (kMov h v23) h fun v156 c9 h =>
  wA v155 (kMov h v1) h fun v157 c10 h =>
  wA v155 (kArith h .add v156 v157) h fun v158 c11 h =>
  wA v155 (kMov h v16) h fun v159 c12 h =>
  wA v155 (kMov h v25) h fun v160 c13 h =>
  wA v155 (kIdxA h 1 v159 v160) h fun v161 c14 h =>
  wC v155 (kLd1 h v161) v161 h fun v162 c15 h =>
  g3_s5 cl v0 v1 v2 v3 v16 v21 v23 v24 v25 v155 v158 v162 h k
def g3_a5 (cl : CL) (v0 v1 v2 v3 v16 v21 v23 v24 v25 : AV) (h : AH) (k : NT) : Prop :=
  wdr h 24 fun r h =>
  wP h (kMov h v23) fun v147 c0 h =>
  wP h (kMov h v1) fun v148 c1 h =>
  wP h (kArith h .add v147 v148) fun v149 c2 h =>
  wP h (kMov h v16) fun v150 c3 h =>
  wP h (kMov h v25) fun v151 c4 h =>
  wP h (kIdxA h 1 v150 v151) fun v152 c5 h =>
  wR h (kLd1 h v152) v152 fun v153 c6 h =>
  wP h (kArith h .geq v149 v153) fun v154 c7 h =>
  g3_s6 cl v0 v1 v2 v3 v16 v21 v23 v24 v25 v154 h k
def g3_j6 (cl : CL) (v0 v1 v2 v3 v16 v21 v23 v24 v25 v170 : AV) (h : AH) (k : NT) : Prop :=
  wif v170 (
  wk (kArith h .add v25 (.int .i64 1)) fun v172 h =>
  k [v0, v1, v2, v3, v16, v21, v23, v172, v25] h) (
  k [v0, v1, v2, v3, v16, v21, v23, v24, v25] h)
def g3_a7 (cl : CL) (v0 v1 v2 v3 v16 v21 v23 v24 v25 : AV) (h : AH) (k : NT) : Prop :=
  wjoinN (g3_a5 cl v0 v1 v2 v3 v16 v21 v23 v24 v25 h) fun vs h => g3_j6 cl (nthD vs 0) (nthD vs 1) (nthD vs 2) (nthD vs 3) (nthD vs 4) (nthD vs 5) (nthD vs 6) (nthD vs 7) (nthD vs 8) (nthD vs 9) h k
def g3_j8 (cl : CL) (v0 v1 v2 v3 v16 v21 v23 v24 v25 : AV) (h : AH) (k : KT) : Prop :=
  wk (kArith h .add v25 (.int .i64 1)) fun v146 h =>
  k .nrm [v0, v1, v2, v3, v16, v21, v23, v24, v146] [v0, v1, v2, v3, v16, v21, v23, v24] h
def g3_j9 (cl : CL) (v0 v1 v2 v3 v16 v21 v23 v24 v25 v144 : AV) (h : AH) (k : KT) : Prop :=
  wif v144 (
  wjoinN (g3_a7 cl v0 v1 v2 v3 v16 v21 v23 v24 v25 h) fun vs h => g3_j8 cl (nthD vs 0) (nthD vs 1) (nthD vs 2) (nthD vs 3) (nthD vs 4) (nthD vs 5) (nthD vs 6) (nthD vs 7) (nthD vs 8) h k) (
  k (.exit 6) [v0, v1, v2, v3, v16, v21, v23, v24, v25] [v0, v1, v2, v3, v16, v21, v23, v24] h)
def g3_l10 (cl : CL) (v0 v1 v2 v3 v16 v21 v23 v24 v25 : AV) (h : AH) (k : KT) : Prop :=
  wjoinN (g3_a4 cl v0 v1 v2 v3 v16 v21 v23 v24 v25 h) fun vs h => g3_j9 cl (nthD vs 0) (nthD vs 1) (nthD vs 2) (nthD vs 3) (nthD vs 4) (nthD vs 5) (nthD vs 6) (nthD vs 7) (nthD vs 8) (nthD vs 9) h k
def g3_s7 (cl : CL) (v0 v1 v2 v3 v16 v21 v23 v24 v176 : AV) (h : AH) (k : NT) : Prop :=
  wk (kArith h .neq v176 v24) fun v178 h =>
  wsp v178 fun v179 =>
  wg (gdv false v179) (fun k => k v21 h) h fun v180 h =>
  wg (gdv false v179) (fun k => k v2 h) h fun v181 h =>
  wg (gdv false v179) (fun k => k v23 h) h fun v182 h =>
  gB v179 (kBuild h [.int .i64 0, .int .i64 0] [(0, 1, v181), (1, 1, v182)]) h fun v183 h =>
  wg (gdv false v179) (fun k => wcall cl (F 8) [v180, v183] h k) h fun v184 h =>
  gB v179 (kArith h .neq v184 (.int .i64 (-1))) h fun v185 h =>
  wk (kPick h v179 (.bool true) v185) fun v186 h =>
  k [v0, v1, v2, v3, v16, v21, v23, v186] h
def g3_a11 (cl : CL) (v0 v1 v2 v3 v16 v21 v23 v24 : AV) (h : AH) (k : NT) : Prop :=
  wk (kBuild h [.int .i64 0, .int .i64 0] [(0, 1, (.int .i64 3)), (1, 1, v23)]) fun v175 h =>
  wcall cl (F 8) [v21, v175] h fun v176 h =>
  g3_s7 cl v0 v1 v2 v3 v16 v21 v23 v24 v176 h k
def g3_j12 (cl : CL) (v0 v1 v2 v3 v16 v21 v23 v186 : AV) (h : AH) (k : KT) : Prop :=
  wif v186 (
  k .ret [v0, v1, v2, v3, v16, v21, v23] [.bool false] h) (
  wk (kArith h .add v23 (.int .i64 1)) fun v131 h =>
  k .nrm [v0, v1, v2, v3, v16, v21, v131] [.undef] h)
def g3_c13 (cl : CL) (v0 v1 v2 v3 v16 v21 v23 v24 : AV) (h : AH) (k : KT) : Prop :=
  wjoinN (g3_a11 cl v0 v1 v2 v3 v16 v21 v23 v24 h) fun vs h => g3_j12 cl (nthD vs 0) (nthD vs 1) (nthD vs 2) (nthD vs 3) (nthD vs 4) (nthD vs 5) (nthD vs 6) (nthD vs 7) h k
def g3_j14 (cl : CL) (x : AX) (v0 v1 v2 v3 v16 v21 v23 v24 : AV) (h : AH) (k : KT) : Prop :=
  xs x (g3_c13 cl v0 v1 v2 v3 v16 v21 v23 v24 h k) (fun j => cond (Nat.beq j 6) (g3_c13 cl v0 v1 v2 v3 v16 v21 v23 v24 h k) (cond (Nat.beq j 5) (wk (kArith h .add v23 (.int .i64 1)) fun v131 h =>
  k .nrm [v0, v1, v2, v3, v16, v21, v131] [.undef] h) (k (.exit j) [v0, v1, v2, v3, v16, v21, v23] [.undef] h))) (k .ret [v0, v1, v2, v3, v16, v21, v23] [.undef] h)
def g3_l15 (cl : CL) (v0 v1 v2 v3 v16 v21 v23 : AV) (h : AH) (k : KT) : Prop :=
  wk (kArith h .add v3 (.int .i64 5)) fun v128 h =>
  wk (kArith h .lss v23 v128) fun v129 h =>
  wif v129 (
  wloop (fun vs h k => g3_l10 cl (nthD vs 0) (nthD vs 1) (nthD vs 2) (nthD vs 3) (nthD vs 4) (nthD vs 5) (nthD vs 6) (nthD vs 7) (nthD vs 8) h k) [v0, v1, v2, v3, v16, v21, v23, (.int .i64 (-1)), .int .i64 0] h fun x vs h => g3_j14 cl x (nthD vs 0) (nthD vs 1) (nthD vs 2) (nthD vs 3) (nthD vs 4) (nthD vs 5) (nthD vs 6) (nthD vs 7) h k) (
  k (.exit 4) [v0, v1, v2, v3, v16, v21, v23] [.undef] h)
def g3_c16 (cl : CL) (h : AH) (Q : QT) : Prop :=
  wcall cl (F 9) [] h fun v187 h =>
  Q v187 h
def g3_j17 (cl : CL) (x : AX) (v8 : AV) (h : AH) (Q : QT) : Prop :=
  xs x (g3_c16 cl h Q) (fun j => cond (Nat.beq j 4) (g3_c16 cl h Q) (False)) (Q v8 h)
def g3_j18 (cl : CL) (v0 v1 v2 v3 v16 v21 v125 : AV) (h : AH) (Q : QT) : Prop :=
  wif v125 (
  Q ((.bool false)) h) (
  wloop (fun vs h k => g3_l15 cl (nthD vs 0) (nthD vs 1) (nthD vs 2) (nthD vs 3) (nthD vs 4) (nthD vs 5) (nthD vs 6) h k) [v0, v1, v2, v3, v16, v21, (.int .i64 (-5))] h fun x vs h => g3_j17 cl x (nthD vs 0) h Q)
def g3_s8 (cl : CL) (v0 v1 v2 v3 v16 v20 v117 : AV) (h : AH) (Q : QT) : Prop :=
  wk (kExt h v117 0) fun v118 h =>
  wk (kExt h v117 1) fun v119 h =>
  wjoinN (g3_a3 cl v0 v1 v2 v3 v16 v20 v118 v119 h) fun vs h => g3_j18 cl (nthD vs 0) (nthD vs 1) (nthD vs 2) (nthD vs 3) (nthD vs 4) (nthD vs 5) (nthD vs 6) h Q
def g3_s9 (cl : CL) (v0 v1 v2 v3 v11 v13 v16 v107 : AV) (h : AH) (Q : QT) : Prop :=
  wk (kExt h v107 0) fun v108 h =>
  wk (kExt h v107 1) fun v109 h =>
  wk (kLdn h 3 v11) fun v111 h =>
  wk (kBuild h [.int .i64 0, .int .i64 0] [(0, 1, (.int .i64 1)), (1, 1, v1)]) fun v115 h =>
  wk (kBuildSl h 2 1 [.int .i64 0, .int .i64 0] [(0, 2, v115)]) fun v116 h =>
  wcall cl (F 7) [v111, v13, v108, v116, (.nilsl)] h fun v117 h =>
  g3_s8 cl v0 v1 v2 v3 v16 v109 v117 h Q
def g3_c19 (cl : CL) (v0 v1 v2 v3 v11 v13 v16 : AV) (h : AH) (Q : QT) : Prop :=
  wk (kLdn h 3 v11) fun v100 h =>
  wk (kBuild h [.int .i64 0, .int .i64 0, .int .i64 0, .int .i64 0, .int .i64 0, .nilsl, .nilsl, .nilsl] [(0, 1, (.int .i64 16)), (1, 1, (.int .i64 12)), (2, 1, (.int .i64 4)), (4, 1, (.int .i64 8))]) fun v102 h =>
  wk (kBuildSl h 8 1 [.int .i64 0, .int .i64 0, .int .i64 0, .int .i64 0, .int .i64 0, .nilsl, .nilsl, .nilsl] [(0, 8, v102)]) fun v103 h =>
  wk (kBuild h [.int .i64 0, .int .i64 0] [(0, 1, v2), (1, 1, v3)]) fun v106 h =>
  wcall cl (F 6) [v100, v13, v103, v106] h fun v107 h =>
  g3_s9 cl v0 v1 v2 v3 v11 v13 v16 v107 h Q
def g3_j20 (cl : CL) (x : AX) (v0 v1 v2 v3 v11 v13 v16 : AV) (h : AH) (Q : QT) : Prop :=
  xs x (g3_c19 cl v0 v1 v2 v3 v11 v13 v16 h Q) (fun j => cond (Nat.beq j 2) (g3_c19 cl v0 v1 v2 v3 v11 v13 v16 h Q) (False)) (Q (.undef) h)
def g3_s10 (cl : CL) (v0 v1 v2 v3 v11 v62 : AV) (h : AH) (Q : QT) : Prop :=
  wk (kExt h v62 0) fun v63 h =>
  wk (kExt h v62 1) fun v64 h =>
  wk (kBuildSl h 1 0 [] []) fun v65 h =>
  wloop (fun vs h k => g3_l2 cl (nthD vs 0) (nthD vs 1) (nthD vs 2) (nthD vs 3) (nthD vs 4) (nthD vs 5) (nthD vs 6) (nthD vs 7) (nthD vs 8) h k) [v0, v1, v2, v3, v11, v63, .int .i64 0, v65, .int .i64 0] h fun x vs h => g3_j20 cl x (nthD vs 0) (nthD vs 1) (nthD vs 2) (nthD vs 3) (nthD vs 4) (nthD vs 5) (nthD vs 6) h Q
def g3_s11 (cl : CL) (v0 v1 v2 v3 v11 v58 v59 v60 : AV) (h : AH) (Q : QT) : Prop :=
  wk (kLdn h 3 v11) fun v61 h =>
  wcall cl (F 5) [v58, v59, v60, v61, (.nilsl)] h fun v62 h =>
  g3_s10 cl v0 v1 v2 v3 v11 v62 h Q
def g3_s12 (cl : CL) (v0 v1 v2 v3 v52 : AV) (h : AH) (Q : QT) : Prop :=
  wk (kExt h v52 0) fun v53 h =>
  wk (kExt h v52 1) fun v54 h =>
  wk (kNew h [.int .i64 0, .int .i64 0, .nilsl]) fun v11 h =>
  wk (kSt h 3 v11 v53) fun _ h =>
  wk (kArith h .neq v54 (.int .i64 0)) fun v56 h =>
  wif v56 (
  Q ((.bool true)) h) (
  wk (kBuild h [.nilsl] []) fun v58 h =>
  wk (kBuild h [.nilsl] []) fun v59 h =>
  wk (kBuild h [.bool false, .bool false, .int .i64 0] [(2, 1, (.int .i64 100))]) fun v60 h =>
  g3_s11 cl v0 v1 v2 v3 v11 v58 v59 v60 h Q)
def g3_c21 (cl : CL) (v0 v1 v2 v3 v9 : AV) (h : AH) (Q : QT) : Prop :=
  wk (kLdn h 5 v9) fun v51 h =>
  wcall cl (F 4) [v51, .int .i64 1] h fun v52 h =>
  g3_s12 cl v0 v1 v2 v3 v52 h Q
def g3_j22 (cl : CL) (x : AX) (v0 v1 v2 v3 v9 : AV) (h : AH) (Q : QT) : Prop :=
  xs x (g3_c21 cl v0 v1 v2 v3 v9 h Q) (fun j => cond (Nat.beq j 0) (g3_c21 cl v0 v1 v2 v3 v9 h Q) (False)) (Q (.undef) h)
def g3_s13 (cl : CL) (v0 v1 v2 v3 v37 : AV) (h : AH) (Q : QT) : Prop :=
  wk (kNew h [.int .i64 0, .str [], .nilsl, .nilsl, .nilsl]) fun v9 h =>
  wk (kSt h 5 v9 v37) fun _ h =>
  wloop (fun vs h k => g3_l1 cl (nthD vs 0) (nthD vs 1) (nthD vs 2) (nthD vs 3) (nthD vs 4) (nthD vs 5) h k) [v0, v1, v2, v3, v9, .int .i64 0] h fun x vs h => g3_j22 cl x (nthD vs 0) (nthD vs 1) (nthD vs 2) (nthD vs 3) (nthD vs 4) h Q
def g3 (cl : CL) (v0 v1 v2 v3 : AV) (h : AH) (Q : QT) : Prop :=
  wk (kLen h v0) fun v27 h =>
  wk (kArith h .gtr v27 (.int .i64 20)) fun v28 h =>
  wif v28 (
  Q ((.bool true)) h) (
  wk (kArith h .rem v1 (.int .i64 500)) fun v30 h =>
  wk (kArith h .and v2 (.int .i64 127)) fun v32 h =>
  wk (kArith h .add (.int .i64 10) v32) fun v33 h =>
  wk (kArith h .and v3 (.int .i64 127)) fun v35 h =>
  wk (kArith h .add (.int .i64 10) v35) fun v36 h =>
  wk (kBuild h [.int .i64 0, .str [], .nilsl, .nilsl, .nilsl] [(0, 1, (.int .i64 8))]) fun v37 h =>
  g3_s13 cl v0 v30 v33 v36 v37 h Q)
theorem C3 {cl} (hcl : CLOk Tryz.prog cl) {v0 v1 v2 v3 h Q} (hg : g3 cl v0 v1 v2 v3 h Q) : CallsA Tryz.prog 3 [v0, v1, v2, v3] h Q := wfnM hcl [(8,.l [0,1,2,3,9,10] [0,1,2,3,9]),(23,.l [0,1,2,3,11,13,15,16,17] [0,1,2,3,11,13,16]),(35,.jn [0,1,2,3,16,21,125]),(40,.l [0,1,2,3,16,21,23] [8]),(47,.l [0,1,2,3,16,21,23,24,25] [0,1,2,3,16,21,23,24]),(48,.jn [0,1,2,3,16,21,23,24,25,144]),(50,.jn [0,1,2,3,16,21,23,24,25]),(51,.jn [0,1,2,3,16,21,23,24,25,170]),(55,.jn [0,1,2,3,16,21,23,186])] Tryz.func3 (by kernel_rfl) (by kernel_rfl) hg
def g7_s1 (cl : CL) (c11 c12 c18 : Rec) (v1 v2 v5 v13 v37 v38 v39 v47 v53 v55 v56 v61 v62 : AV) (h : AH) (k : KT) : Prop :=
  wP h (kExt h v62 1) fun v63 c19 h =>
  wde h (kX h .entst [v47, v63, v56]) fun _ c20 h =>
  wde h (kX h (.mapent (.one (.int .i64)) (.agg [.int .i64 0, .int .i64 0, .int .i64 0, .int .i64 0, .int .i64 0, .int .i64 0, .int .i64 0, .int .i64 0, .int .i64 0, .int .i64 0, .int .i64 0, .int .i64 0, .int .i64 0, .int .i64 0, .int .i64 0, .int .i64 0, .int .i64 0, .int .i64 0, .int .i64 0, .int .i64 0, .int .i64 0, .int .i64 0])) [v53, v55]) fun v64 c21 h =>
  wP h (kExt h v64 1) fun v65 c22 h =>
  wde h (kX h .entst [v53, v65, v61]) fun _ c23 h =>
  recOk c11 c18 = true ∧ recOk c12 c18 = true ∧ recOk c11 c20 = true ∧ wk (kArith h .add v39 (.int .i64 1)) fun v66 h =>
  k .nrm [v1, v2, v5, v13, v37, v38, v66] [v2, v5, v13] h
def g7_s2 (cl : CL) (v1 v2 v5 v13 v14 v15 v37 v38 v39 v47 v49 v53 v54 : AV) (h : AH) (k : KT) : Prop :=
  wR h (kLd1 h v54) v54 fun v55 c11 h =>
  wR h (kLdn h 7 v15) v15 fun v56 c12 h =>
  wP h (kMov h v1) fun v57 c13 h =>
  wP h (kMov h v14) fun v58 c14 h =>
  wP h (kIdxA h 23 v57 v58) fun v59 c15 h =>
  wP h (kFldA h 1 v59) fun v60 c16 h =>
  wR h (kLdn h 22 v60) v60 fun v61 c17 h =>
  wde h (kX h (.mapent (.one (.int .i64)) (.agg [.int .i64 0, .int .i64 0, .int .i64 0, .str [], .nilsl, .nilsl, .nilsl])) [v47, v49]) fun v62 c18 h =>
  g7_s1 cl c11 c12 c18 v1 v2 v5 v13 v37 v38 v39 v47 v53 v55 v56 v61 v62 h k
def g7_s3 (cl : CL) (v1 v2 v5 v13 v14 v15 v37 v38 v39 v46 : AV) (h : AH) (k : KT) : Prop :=
  wR h (kLd1 h v46) v46 fun v47 c3 h =>
  wP h (kFldA h 0 v15) fun v48 c4 h =>
  wR h (kLd1 h v48) v48 fun v49 c5 h =>
  wP h (kMov h v13) fun v50 c6 h =>
  wP h (kNilchk h v50) fun v51 c7 h =>
  wP h (kFldA h 1 v51) fun v52 c8 h =>
  wR h (kLd1 h v52) v52 fun v53 c9 h =>
  wP h (kFldA h 0 v15) fun v54 c10 h =>
  g7_s2 cl v1 v2 v5 v13 v14 v15 v37 v38 v39 v47 v49 v53 v54 h k
def g7_l1 (cl : CL) (v1 v2 v5 v13 v37 v38 v39 : AV) (h : AH) (k : KT) : Prop :=
  wk (kArith h .lss v39 v38) fun v40 h =>
  wif v40 (
  wk (kIdxA h 7 v37 v39) fun v42 h =>
  wk (kLdn h 7 v42) fun v43 h =>
  wk (kNew h [.int .i64 0, .int .i64 0, .int .i64 0, .str [], .nilsl, .nilsl, .nilsl]) fun v15 h =>
  wk (kSt h 7 v15 v43) fun _ h =>
  wdr h 24 fun r h =>
  wP h (kMov h v13) fun v44 c0 h =>
  wP h (kNilchk h v44) fun v45 c1 h =>
  wP h (kFldA h 0 v45) fun v46 c2 h =>
  g7_s3 cl v1 v2 v5 v13 v39 v15 v37 v38 v39 v46 h k) (
  k (.exit 0) [v1, v2, v5, v13, v37, v38, v39] [v2, v5, v13] h)
def g7_s4 (cl : CL) (v5 v13 v17 v67 v68 v69 v75 : AV) (h : AH) (k : KT) : Prop :=
  wR h (kLd1 h v75) v75 fun v76 c3 h =>
  wP h (kFldA h 0 v17) fun v77 c4 h =>
  wR h (kLd1 h v77) v77 fun v78 c5 h =>
  wR h (kLdn h 7 v17) v17 fun v79 c6 h =>
  wde h (kX h (.mapset (.one (.int .i64))) [v76, v78, v79]) fun _ c7 h =>
  wk (kArith h .add v69 (.int .i64 1)) fun v80 h =>
  k .nrm [v5, v13, v67, v68, v80] [v5, v13] h
def g7_l2 (cl : CL) (v5 v13 v67 v68 v69 : AV) (h : AH) (k : KT) : Prop :=
  wk (kArith h .lss v69 v68) fun v70 h =>
  wif v70 (
  wk (kIdxA h 7 v67 v69) fun v71 h =>
  wk (kLdn h 7 v71) fun v72 h =>
  wk (kNew h [.int .i64 0, .int .i64 0, .int .i64 0, .int .i64 0, .int .i64 0, .int .i64 0, .nilsl]) fun v17 h =>
  wk (kSt h 7 v17 v72) fun _ h =>
  wdr h 8 fun r h =>
  wP h (kMov h v13) fun v73 c0 h =>
  wP h (kNilchk h v73) fun v74 c1 h =>
  wP h (kFldA h 2 v74) fun v75 c2 h =>
  g7_s4 cl v5 v13 v17 v67 v68 v69 v75 h k) (
  k (.exit 2) [v5, v13, v67, v68, v69] [v5, v13] h)
def g7_s5 (cl : CL) (v13 v92 v94 v97 v100 : AV) (h : AH) (k : NT) : Prop :=
  wk (kBuild h [.int .i64 0, .int .i64 0] [(0, 1, v97), (1, 1, v100)]) fun v101 h =>
  wcall cl (F 24) [v92, v94, v101] h fun v102 h =>
  k [v13] h
def g7_a3 (cl : CL) (v5 v13 v18 v91 : AV) (h : AH) (k : NT) : Prop :=
  wif v91 (
  wk (kFldA h 0 v5) fun v93 h =>
  wk (kLd1 h v93) fun v94 h =>
  wk (kFldA h 1 v18) fun v95 h =>
  wk (kFldA h 0 v95) fun v96 h =>
  wk (kLd1 h v96) fun v97 h =>
  wk (kFldA h 1 v18) fun v98 h =>
  wk (kFldA h 1 v98) fun v99 h =>
  wk (kLd1 h v99) fun v100 h =>
  g7_s5 cl v13 v13 v94 v97 v100 h k) (
  k [v13] h)
def g7_s6 (cl : CL) (v114 : AV) (h : AH) (Q : QT) : Prop :=
  Q (.tup [v114, .int .i64 0]) h
def g7_j4 (cl : CL) (v13 : AV) (h : AH) (Q : QT) : Prop :=
  wk (kNilchk h v13) fun v104 h =>
  wk (kFldA h 5 v104) fun v105 h =>
  wk (kLd1 h v105) fun v106 h =>
  wcall cl (F 25) [v106] h fun v107 h =>
  wk (kArith h .neq v107 (.int .i64 0)) fun v109 h =>
  wif v109 (
  Q (.tup [(.nilsl), v107]) h) (
  wk (kNilchk h v13) fun v112 h =>
  wk (kFldA h 5 v112) fun v113 h =>
  wk (kLd1 h v113) fun v114 h =>
  g7_s6 cl v114 h Q)
def g7_s7 (cl : CL) (r : Nat) (c3 c5 c6 : Rec) (v5 v13 v81 : AV) (h : AH) (Q : QT) : Prop :=
  wP h (kExt h v81 0) fun v89 c8 h =>
  wP h (kExt h v81 1) fun v90 c9 h =>
  wda (r + 10) h (alNew [.int .i64 0, .int .i64 0, .int .i64 0, .int .i64 0, .int .i64 0, .int .i64 0, .nilsl]) fun v18 c10 h =>
  wde h (kSt h 7 v18 v89) fun _ c11 h =>
  wP h (kMov h v90) fun v19 c12 h =>
  recOk c3 c10 = true ∧ recOk c5 c10 = true ∧ recOk c6 c10 = true ∧ wjoinN (g7_a3 cl v5 v13 v18 v19 h) fun vs h => g7_j4 cl (nthD vs 0) h Q
def g7_c5 (cl : CL) (v5 v13 : AV) (h : AH) (Q : QT) : Prop :=
  wdr h 13 fun r h =>
  wP h (kMov h v13) fun v82 c0 h =>
  wP h (kNilchk h v82) fun v83 c1 h =>
  wP h (kFldA h 2 v83) fun v84 c2 h =>
  wR h (kLd1 h v84) v84 fun v85 c3 h =>
  wP h (kFldA h 0 v5) fun v86 c4 h =>
  wR h (kLd1 h v86) v86 fun v87 c5 h =>
  wdp h (kX h (.mapget (.one (.int .i64)) true (.agg [.int .i64 0, .int .i64 0, .int .i64 0, .int .i64 0, .int .i64 0, .int .i64 0, .nilsl])) [v85, v87]) (rdK (xRd (.mapget (.one (.int .i64)) true (.agg [.int .i64 0, .int .i64 0, .int .i64 0, .int .i64 0, .int .i64 0, .int .i64 0, .nilsl])) [v85, v87])) fun v88 c6 h =>
  wP h (kMov h v88) fun v81 c7 h =>
  g7_s7 cl r c3 c5 c6 v5 v13 v81 h Q
def g7_j6 (cl : CL) (x : AX) (v5 v13 : AV) (h : AH) (Q : QT) : Prop :=
  xs x (g7_c5 cl v5 v13 h Q) (fun j => cond (Nat.beq j 2) (g7_c5 cl v5 v13 h Q) (False)) (Q (.tup [.undef, .undef]) h)
def g7_c7 (cl : CL) (v2 v5 v13 : AV) (h : AH) (Q : QT) : Prop :=
  wk (kLen h v2) fun v68 h =>
  wloop (fun vs h k => g7_l2 cl (nthD vs 0) (nthD vs 1) (nthD vs 2) (nthD vs 3) (nthD vs 4) h k) [v5, v13, v2, v68, .int .i64 0] h fun x vs h => g7_j6 cl x (nthD vs 0) (nthD vs 1) h Q
def g7_j8 (cl : CL) (x : AX) (v2 v5 v13 : AV) (h : AH) (Q : QT) : Prop :=
  xs x (g7_c7 cl v2 v5 v13 h Q) (fun j => cond (Nat.beq j 0) (g7_c7 cl v2 v5 v13 h Q) (False)) (Q (.tup [.undef, .undef]) h)
def g7_s8 (cl : CL) (v1 v2 v5 v34 : AV) (h : AH) (Q : QT) : Prop :=
  wk (kBox h v34) fun v35 h =>
  wk (kFldA h 2 v5) fun v36 h =>
  wk (kLd1 h v36) fun v37 h =>
  wk (kLen h v37) fun v38 h =>
  wloop (fun vs h k => g7_l1 cl (nthD vs 0) (nthD vs 1) (nthD vs 2) (nthD vs 3) (nthD vs 4) (nthD vs 5) (nthD vs 6) h k) [v1, v2, v5, v35, v37, v38, .int .i64 0] h fun x vs h => g7_j8 cl x (nthD vs 0) (nthD vs 1) (nthD vs 2) h Q
def g7 (cl : CL) (v0 v1 v2 v3 v4 : AV) (h : AH) (Q : QT) : Prop :=
  wk (kBox h v0) fun v5 h =>
  wk (kLdn h 3 v5) fun v21 h =>
  wcall cl (F 23) [v21, v1, v2, v3] h fun v25 h =>
  wk (kArith h .neq v25 (.int .i64 0)) fun v27 h =>
  wif v27 (
  Q (.tup [(.nilsl), v25]) h) (
  wk (kX h .mkmap []) fun v29 h =>
  wk (kX h .mkmap []) fun v30 h =>
  wk (kX h .mkmap []) fun v31 h =>
  wk (kBuild h [.nilmap, .nilmap, .nilmap, .nilsl, .nilsl, .nilsl] [(0, 1, v29), (1, 1, v30), (2, 1, v31), (3, 1, v3), (4, 1, v4)]) fun v34 h =>
  g7_s8 cl v1 v2 v5 v34 h Q)
theorem C7 {cl} (hcl : CLOk Tryz.prog cl) {v0 v1 v2 v3 v4 h Q} (hg : g7 cl v0 v1 v2 v3 v4 h Q) : CallsA Tryz.prog 7 [v0, v1, v2, v3, v4] h Q := wfnM hcl [(8,.l [1,2,5,13,37,38,39] [2,5,13]),(17,.l [5,13,67,68,69] [5,13]),(26,.jn [13])] Tryz.func7 (by kernel_rfl) (by kernel_rfl) hg
def g8_s1 (cl : CL) (v0 v3 v12 : AV) (h : AH) (k : NT) : Prop :=
  wk (kArith h .neq v12 (.int .i64 0)) fun v13 h =>
  wsp v13 fun v14 =>
  gB v14 (kLdn h 2 v3) h fun v15 h =>
  wg (gdv false v14) (fun k => wcall cl (F 26) [v15] h k) h fun v16 h =>
  gB v14 (kUn h .not v16) h fun v17 h =>
  wk (kPick h v14 (.bool true) v17) fun v18 h =>
  k [v0, v3, v18] h
def g8_a1 (cl : CL) (v0 v3 : AV) (h : AH) (k : NT) : Prop :=
  wcall cl (F 25) [v0] h fun v12 h =>
  g8_s1 cl v0 v3 v12 h k
def g8_s2 (cl : CL) (r : Nat) (c2 c10 : Rec) (v5 v6 v22 v23 v24 v38 v40 v43 v48 : AV) (h : AH) (k : NT) : Prop :=
  wP h (kPick h v43 v48 (.bool false)) fun v49 c11 h =>
  wP h (kBuild h [.int .i64 0, .int .i64 0, .bool false] [(0, 2, v40), (2, 1, v49)]) fun v50 c12 h =>
  wda (r + 13) h (alBuildSl 3 1 [.int .i64 0, .int .i64 0, .bool false] [(0, 3, v50)]) fun v51 c13 h =>
  wde h (kApp h 3 24 v38 v51) fun v52 c14 h =>
  wP h (kMov h v52) fun v5 c15 h =>
  recOk c2 c10 = true ∧ k [v5, v6, v22, v23, v24] h
def g8_s3 (cl : CL) (r : Nat) (c2 : Rec) (v5 v6 v8 v9 v22 v23 v24 v38 v40 : AV) (h : AH) (k : NT) : Prop :=
  wP h (kFldA h 2 v9) fun v41 c3 h =>
  wR h (kLd1 h v41) v41 fun v42 c4 h =>
  wP h (kMov h v42) fun v43 c5 h =>
  wsp v43 fun v43 =>
  wA v43 (kFldA h 1 v8) h fun v44 c6 h =>
  wC v43 (kLdn h 4 v44) v44 h fun v45 c7 h =>
  wA v43 (kFldA h 0 v9) h fun v46 c8 h =>
  wC v43 (kLdn h 2 v46) v46 h fun v47 c9 h =>
  wgd (gdv true v43) (fun k => wdc cl (F 27) [v45, v47] h k) h fun v48 c10 h =>
  g8_s2 cl r c2 c10 v5 v6 v22 v23 v24 v38 v40 v43 v48 h k
def g8_s4 (cl : CL) (r : Nat) (c1 c6 : Rec) (v5 v6 v22 v23 v24 v62 v70 : AV) (h : AH) (k : NT) : Prop :=
  wda (r + 9) h (alBuildSl 3 1 [.int .i64 0, .int .i64 0, .bool false] [(0, 3, v70)]) fun v71 c9 h =>
  wde h (kApp h 3 24 v62 v71) fun v72 c10 h =>
  wP h (kMov h v72) fun v5 c11 h =>
  recOk c1 c6 = true ∧ k [v5, v6, v22, v23, v24] h
def g8_s5 (cl : CL) (r : Nat) (v5 v6 v9 v10 v22 v23 v24 v62 : AV) (h : AH) (k : NT) : Prop :=
  wR h (kLdn h 2 v10) v10 fun v63 c1 h =>
  wP h (kFldA h 2 v9) fun v64 c2 h =>
  wR h (kLd1 h v64) v64 fun v65 c3 h =>
  wP h (kMov h v65) fun v66 c4 h =>
  wsp v66 fun v66 =>
  wC v66 (kLdn h 2 v10) v10 h fun v67 c5 h =>
  wgd (gdv true v66) (fun k => wdc cl (F 26) [v67] h k) h fun v68 c6 h =>
  wP h (kPick h v66 v68 (.bool false)) fun v69 c7 h =>
  wP h (kBuild h [.int .i64 0, .int .i64 0, .bool false] [(0, 2, v63), (2, 1, v69)]) fun v70 c8 h =>
  g8_s4 cl r c1 c6 v5 v6 v22 v23 v24 v62 v70 h k
def g8_a2 (cl : CL) (v5 v6 v8 v9 v22 v23 v24 : AV) (h : AH) (k : NT) : Prop :=
  wk (kFldA h 2 v9) fun v83 h =>
  wk (kLd1 h v83) fun v84 h =>
  wsp v84 fun v85 =>
  gA v85 (kLdn h 22 v8) h fun v86 h =>
  gA v85 (kFldA h 0 v9) h fun v87 h =>
  gA v85 (kLdn h 2 v87) h fun v88 h =>
  wg (gdv true v85) (fun k => wcall cl (F 29) [v86, v88] h k) h fun v89 h =>
  wk (kPick h v85 v89 (.bool false)) fun v90 h =>
  k [v5, v6, v8, v22, v23, v24, v90] h
def g8_j3 (cl : CL) (v5 v6 v8 v22 v23 v24 v82 : AV) (h : AH) (k : NT) : Prop :=
  wif v82 (
  wk (kFldA h 10 v8) fun v91 h =>
  wk (kLd1 h v91) fun v92 h =>
  wk (kFldA h 0 v8) fun v93 h =>
  wk (kLd1 h v93) fun v94 h =>
  wk (kArith h .eql v94 (.int .i64 6)) fun v95 h =>
  wif v95 (
  k [v5, .int .i64 8421504, v22, v23, v24] h) (
  k [v5, v92, v22, v23, v24] h)) (
  k [v5, v6, v22, v23, v24] h)
def g8_s6 (cl : CL) (v5 v6 v8 v9 v22 v23 v24 v56 : AV) (h : AH) (k : NT) : Prop :=
  wif v56 (
  wk (kFldA h 5 v8) fun v57 h =>
  wk (kLdn h 5 v57) fun v58 h =>
  wk (kFldA h 0 v9) fun v59 h =>
  wk (kLdn h 2 v59) fun v60 h =>
  wcall cl (F 28) [v58, v60] h fun v61 h =>
  wk (kNew h [.int .i64 0, .int .i64 0]) fun v10 h =>
  wk (kSt h 2 v10 v61) fun _ h =>
  wdr h 12 fun r h =>
  wP h (kMov h v5) fun v62 c0 h =>
  g8_s5 cl r v5 v6 v9 v10 v22 v23 v24 v62 h k) (
  wk (kFldA h 0 v8) fun v74 h =>
  wk (kLd1 h v74) fun v75 h =>
  wk (kArith h .eql v75 (.int .i64 3)) fun v76 h =>
  wif v76 (
  wk (kLen h v5) fun v79 h =>
  wk (kArith h .sub v79 (.int .i64 1)) fun v80 h =>
  wk (kSl h 3 v5 none (some v80) none) fun v81 h =>
  k [v81, v6, v22, v23, v24] h) (
  wjoinN (g8_a2 cl v5 v6 v8 v9 v22 v23 v24 h) fun vs h => g8_j3 cl (nthD vs 0) (nthD vs 1) (nthD vs 2) (nthD vs 3) (nthD vs 4) (nthD vs 5) (nthD vs 6) h k))
def g8_s7 (cl : CL) (v5 v6 v8 v22 v23 v24 v33 : AV) (h : AH) (k : NT) : Prop :=
  wk (kNew h [.int .i64 0, .int .i64 0, .bool false]) fun v9 h =>
  wk (kSt h 3 v9 v33) fun _ h =>
  wk (kFldA h 0 v8) fun v35 h =>
  wk (kLd1 h v35) fun v36 h =>
  wk (kArith h .eql v36 (.int .i64 1)) fun v37 h =>
  wif v37 (
  wdr h 16 fun r h =>
  wP h (kMov h v5) fun v38 c0 h =>
  wP h (kFldA h 0 v9) fun v39 c1 h =>
  wR h (kLdn h 2 v39) v39 fun v40 c2 h =>
  g8_s3 cl r c2 v5 v6 v8 v9 v22 v23 v24 v38 v40 h k) (
  wk (kFldA h 0 v8) fun v54 h =>
  wk (kLd1 h v54) fun v55 h =>
  wk (kArith h .eql v55 (.int .i64 2)) fun v56 h =>
  g8_s6 cl v5 v6 v8 v9 v22 v23 v24 v56 h k)
def g8_a4 (cl : CL) (v5 v6 v22 v23 v24 : AV) (h : AH) (k : NT) : Prop :=
  wk (kIdxA h 22 v22 v24) fun v26 h =>
  wk (kLdn h 22 v26) fun v27 h =>
  wk (kNew h [.int .i64 0, .int .i64 0, .int .i64 0, .int .i64 0, .int .i64 0, .int .i64 0, .bool false, .int .i64 0, .int .i64 0, .int .i64 0, .int .i64 0, .str [], .int .i64 0, .int .i64 0, .int .i64 0, .int .i64 0, .int .i64 0, .int .i64 0, .int .i64 0, .int .i64 0, .int .i64 0, .nilsl]) fun v8 h =>
  wk (kSt h 22 v8 v27) fun _ h =>
  wk (kLen h v5) fun v30 h =>
  wk (kArith h .sub v30 (.int .i64 1)) fun v31 h =>
  wk (kIdxA h 3 v5 v31) fun v32 h =>
  wk (kLdn h 3 v32) fun v33 h =>
  g8_s7 cl v5 v6 v8 v22 v23 v24 v33 h k
def g8_j5 (cl : CL) (v5 v6 v22 v23 v24 : AV) (h : AH) (k : KT) : Prop :=
  wk (kArith h .add v24 (.int .i64 1)) fun v96 h =>
  k .nrm [v5, v6, v22, v23, v96] [v6] h
def g8_l6 (cl : CL) (v5 v6 v22 v23 v24 : AV) (h : AH) (k : KT) : Prop :=
  wk (kArith h .lss v24 v23) fun v25 h =>
  wif v25 (
  wjoinN (g8_a4 cl v5 v6 v22 v23 v24 h) fun vs h => g8_j5 cl (nthD vs 0) (nthD vs 1) (nthD vs 2) (nthD vs 3) (nthD vs 4) h k) (
  k (.exit 0) [v5, v6, v22, v23, v24] [v6] h)
def g8_c7 (cl : CL) (v6 : AV) (h : AH) (Q : QT) : Prop :=
  Q v6 h
def g8_j8 (cl : CL) (x : AX) (v6 : AV) (h : AH) (Q : QT) : Prop :=
  xs x (g8_c7 cl v6 h Q) (fun j => cond (Nat.beq j 0) (g8_c7 cl v6 h Q) (False)) (Q (.undef) h)
def g8_j9 (cl : CL) (v0 v3 v18 : AV) (h : AH) (Q : QT) : Prop :=
  wif v18 (
  Q ((.int .i64 (-1))) h) (
  wk (kLdn h 2 v3) fun v19 h =>
  wk (kBuild h [.int .i64 0, .int .i64 0, .bool false] [(0, 2, v19), (2, 1, (.bool true))]) fun v20 h =>
  wk (kBuildSl h 3 1 [.int .i64 0, .int .i64 0, .bool false] [(0, 3, v20)]) fun v21 h =>
  wk (kLen h v0) fun v23 h =>
  wloop (fun vs h k => g8_l6 cl (nthD vs 0) (nthD vs 1) (nthD vs 2) (nthD vs 3) (nthD vs 4) h k) [v21, (.int .i64 (-1)), v0, v23, .int .i64 0] h fun x vs h => g8_j8 cl x (nthD vs 0) h Q)
def g8 (cl : CL) (v0 v1 : AV) (h : AH) (Q : QT) : Prop :=
  wk (kBox h v1) fun v3 h =>
  wjoinN (g8_a1 cl v0 v3 h) fun vs h => g8_j9 cl (nthD vs 0) (nthD vs 1) (nthD vs 2) h Q
theorem C8 {cl} (hcl : CLOk Tryz.prog cl) {v0 v1 h Q} (hg : g8 cl v0 v1 h Q) : CallsA Tryz.prog 8 [v0, v1] h Q := wfnM hcl [(1,.jn [0,3,18]),(8,.l [5,6,22,23,24] [6]),(11,.jn [5,6,22,23,24]),(25,.jn [5,6,8,22,23,24,82])] Tryz.func8 (by kernel_rfl) (by kernel_rfl) hg
def g22_s1 (cl : CL) (v1 v23 v25 : AV) (h : AH) (k : NT) : Prop :=
  gB v23 (kArith h .lss v25 (.int .i64 0)) h fun v26 h =>
  wk (kPick h v23 (.bool true) v26) fun v27 h =>
  wsp v27 fun v28 =>
  gB v28 (kFldA h 3 v1) h fun v29 h =>
  gB v28 (kLd1 h v29) h fun v30 h =>
  gB v28 (kArith h .gtr v30 (.int .i64 1048576)) h fun v31 h =>
  wk (kPick h v28 (.bool true) v31) fun v32 h =>
  k [v32] h
def g22_s2 (cl : CL) (v1 v13 v15 : AV) (h : AH) (k : NT) : Prop :=
  gB v13 (kArith h .lss v15 (.int .i64 0)) h fun v16 h =>
  wk (kPick h v13 (.bool true) v16) fun v17 h =>
  wsp v17 fun v18 =>
  gB v18 (kFldA h 2 v1) h fun v19 h =>
  gB v18 (kLd1 h v19) h fun v20 h =>
  gB v18 (kArith h .gtr v20 (.int .i64 1048576)) h fun v21 h =>
  wk (kPick h v18 (.bool true) v21) fun v22 h =>
  wsp v22 fun v23 =>
  gB v23 (kFldA h 3 v1) h fun v24 h =>
  gB v23 (kLd1 h v24) h fun v25 h =>
  g22_s1 cl v1 v23 v25 h k
def g22_s3 (cl : CL) (v1 v5 : AV) (h : AH) (k : NT) : Prop :=
  wk (kUn h .not v5) fun v6 h =>
  wsp v6 fun v7 =>
  gB v7 (kFldA h 1 v1) h fun v8 h =>
  gB v7 (kLd1 h v8) h fun v9 h =>
  wg (gdv false v7) (fun k => wcall cl (F 53) [v9, .int .i64 1048576] h k) h fun v10 h =>
  gB v7 (kUn h .not v10) h fun v11 h =>
  wk (kPick h v7 (.bool true) v11) fun v12 h =>
  wsp v12 fun v13 =>
  gB v13 (kFldA h 2 v1) h fun v14 h =>
  gB v13 (kLd1 h v14) h fun v15 h =>
  g22_s2 cl v1 v13 v15 h k
def g22_a1 (cl : CL) (v1 : AV) (h : AH) (k : NT) : Prop :=
  wk (kFldA h 0 v1) fun v3 h =>
  wk (kLd1 h v3) fun v4 h =>
  wcall cl (F 53) [v4, .int .i64 1048576] h fun v5 h =>
  g22_s3 cl v1 v5 h k
def g22_j2 (cl : CL) (v32 : AV) (h : AH) (Q : QT) : Prop :=
  wif v32 (
  Q ((.int .i64 1)) h) (
  Q ((.int .i64 0)) h)
def g22 (cl : CL) (v0 : AV) (h : AH) (Q : QT) : Prop :=
  wk (kBox h v0) fun v1 h =>
  wjoinN (g22_a1 cl v1 h) fun vs h => g22_j2 cl (nthD vs 0) h Q
theorem C22 {cl} (hcl : CLOk Tryz.prog cl) {v0 h Q} (hg : g22 cl v0 h Q) : CallsA Tryz.prog 22 [v0] h Q := wfnM hcl [(1,.jn [32])] Tryz.func22 (by kernel_rfl) (by kernel_rfl) hg
def g24_s1 (cl : CL) (v0 v1 v5 v6 v7 v8 v9 v52 v58 : AV) (h : AH) (k : NT) : Prop :=
  wk (kPick h v52 v58 (.bool false)) fun v59 h =>
  k [v0, v1, v5, v6, v7, v8, v9, v59] h
def g24_s2 (cl : CL) (v0 v1 v5 v6 v7 v8 v9 v48 v49 : AV) (h : AH) (k : NT) : Prop :=
  gA v48 (kArith h .leq v49 (.int .i64 16)) h fun v50 h =>
  wk (kPick h v48 v50 (.bool false)) fun v51 h =>
  wsp v51 fun v52 =>
  wg (gdv true v52) (fun k => k v8 h) h fun v53 h =>
  gA v52 (kArith h .neq v53 (.int .i64 0)) h fun v54 h =>
  wg (gdv true v52) (fun k => k v54 h) h fun v55 h =>
  wsp v55 fun v55 =>
  wg (gdv false v55) (fun k => k v9 h) h fun v56 h =>
  gB v55 (kArith h .neq v56 (.int .i64 1)) h fun v57 h =>
  gA v52 (kPick h v55 (.bool true) v57) h fun v58 h =>
  g24_s1 cl v0 v1 v5 v6 v7 v8 v9 v52 v58 h k
def g24_a1 (cl : CL) (v0 v1 v5 v6 v7 v8 v9 : AV) (h : AH) (k : NT) : Prop :=
  wk (kArith h .geq v8 (.int .i64 0)) fun v39 h =>
  wsp v39 fun v40 =>
  wg (gdv true v40) (fun k => k v8 h) h fun v41 h =>
  gA v40 (kArith h .leq v41 (.int .i64 3)) h fun v42 h =>
  wk (kPick h v40 v42 (.bool false)) fun v43 h =>
  wsp v43 fun v44 =>
  wg (gdv true v44) (fun k => k v9 h) h fun v45 h =>
  gA v44 (kArith h .geq v45 (.int .i64 1)) h fun v46 h =>
  wk (kPick h v44 v46 (.bool false)) fun v47 h =>
  wsp v47 fun v48 =>
  wg (gdv true v48) (fun k => k v9 h) h fun v49 h =>
  g24_s2 cl v0 v1 v5 v6 v7 v8 v9 v48 v49 h k
def g24_s3 (cl : CL) (c4 c13 : Rec) (v0 v1 v5 v6 v7 v10 v75 v76 : AV) (h : AH) (k : NT) : Prop :=
  wP h (kFldA h 5 v76) fun v77 c16 h =>
  wde h (kSt h 1 v77 v75) fun _ c17 h =>
  recOk c4 c13 = true ∧ wk (kBuild h [.int .i64 0, .int .i64 0] []) fun v78 h =>
  wk (kSt h 2 v5 v78) fun _ h =>
  k [v0, v1, v5, v6, v7, v10] h
def g24_s4 (cl : CL) (r : Nat) (c4 : Rec) (v0 v1 v5 v6 v7 v10 v61 v65 v66 v67 v68 : AV) (h : AH) (k : NT) : Prop :=
  wR h (kLd1 h v68) v68 fun v69 c8 h =>
  wP h (kFldA h 1 v5) fun v70 c9 h =>
  wR h (kLd1 h v70) v70 fun v71 c10 h =>
  wP h (kBuild h [.int .i64 0, .bool false, .int .i64 0, .int .i64 0, .int .i64 0] [(0, 1, v66), (2, 1, v67), (3, 1, v69), (4, 1, v71)]) fun v72 c11 h =>
  wP h (kBuild h [.int .i64 0, .int .i64 0, .int .i64 0, .int .i64 0, .int .i64 0, .int .i64 0, .bool false, .int .i64 0, .int .i64 0, .int .i64 0, .int .i64 0, .str [], .int .i64 0, .int .i64 0, .int .i64 0, .int .i64 0, .int .i64 0, .int .i64 0, .int .i64 0, .int .i64 0, .int .i64 0, .nilsl] [(0, 1, (.int .i64 2)), (5, 5, v72)]) fun v73 c12 h =>
  wda (r + 13) h (alBuildSl 22 1 [.int .i64 0, .int .i64 0, .int .i64 0, .int .i64 0, .int .i64 0, .int .i64 0, .bool false, .int .i64 0, .int .i64 0, .int .i64 0, .int .i64 0, .str [], .int .i64 0, .int .i64 0, .int .i64 0, .int .i64 0, .int .i64 0, .int .i64 0, .int .i64 0, .int .i64 0, .int .i64 0, .nilsl] [(0, 22, v73)]) fun v74 c13 h =>
  wde h (kApp h 22 200 v65 v74) fun v75 c14 h =>
  wP h (kNilchk h v61) fun v76 c15 h =>
  g24_s3 cl c4 c13 v0 v1 v5 v6 v7 v10 v75 v76 h k
def g24_a2 (cl : CL) (v0 v1 v5 v6 v7 v8 v9 v10 v60 : AV) (h : AH) (k : NT) : Prop :=
  wif v60 (
  wdr h 18 fun r h =>
  wP h (kMov h v0) fun v61 c0 h =>
  wP h (kMov h v0) fun v62 c1 h =>
  wP h (kNilchk h v62) fun v63 c2 h =>
  wP h (kFldA h 5 v63) fun v64 c3 h =>
  wR h (kLd1 h v64) v64 fun v65 c4 h =>
  wP h (kMov h v8) fun v66 c5 h =>
  wP h (kMov h v9) fun v67 c6 h =>
  wP h (kFldA h 0 v5) fun v68 c7 h =>
  g24_s4 cl r c4 v0 v1 v5 v6 v7 v10 v61 v65 v66 v67 v68 h k) (
  k [v0, v1, v5, v6, v7, v10] h)
def g24_s5 (cl : CL) (v0 v1 v5 v6 v10 v11 v12 v14 v95 v96 v97 v108 v109 : AV) (h : AH) (k : NT) : Prop :=
  wk (kNew h [.int .i64 0, .int .i64 0, .int .i64 0, .int .i64 0, .int .i64 0, .int .i64 0, .nilsl]) fun v15 h =>
  wk (kSt h 7 v15 v108) fun _ h =>
  wif v109 (
  wk (kBuildSl h 1 1 [.int .i64 0] [(0, 1, v14)]) fun v113 h =>
  wk (kApp h 1 8 v12 v113) fun v114 h =>
  k [v0, v1, v5, v6, v10, v11, v114, v95, v96, v97] h) (
  k [v0, v1, v5, v6, v10, v11, v12, v95, v96, v97] h)
def g24_a3 (cl : CL) (v0 v1 v5 v6 v10 v11 v12 v95 v96 v97 : AV) (h : AH) (k : NT) : Prop :=
  wk (kIdxA h 1 v95 v97) fun v99 h =>
  wk (kLd1 h v99) fun v100 h =>
  wk (kNilchk h v0) fun v103 h =>
  wk (kFldA h 2 v103) fun v104 h =>
  wk (kLd1 h v104) fun v105 h =>
  wk (kX h (.mapget (.one (.int .i64)) true (.agg [.int .i64 0, .int .i64 0, .int .i64 0, .int .i64 0, .int .i64 0, .int .i64 0, .nilsl])) [v105, v100]) fun v107 h =>
  wk (kExt h v107 0) fun v108 h =>
  wk (kExt h v107 1) fun v109 h =>
  g24_s5 cl v0 v1 v5 v6 v10 v11 v12 v100 v95 v96 v97 v108 v109 h k
def g24_j4 (cl : CL) (v0 v1 v5 v6 v10 v11 v12 v95 v96 v97 : AV) (h : AH) (k : KT) : Prop :=
  wk (kArith h .add v97 (.int .i64 1)) fun v115 h =>
  k .nrm [v0, v1, v5, v6, v10, v11, v12, v95, v96, v115] [v0, v1, v5, v6, v10, v11, v12] h
def g24_l5 (cl : CL) (v0 v1 v5 v6 v10 v11 v12 v95 v96 v97 : AV) (h : AH) (k : KT) : Prop :=
  wk (kArith h .lss v97 v96) fun v98 h =>
  wif v98 (
  wjoinN (g24_a3 cl v0 v1 v5 v6 v10 v11 v12 v95 v96 v97 h) fun vs h => g24_j4 cl (nthD vs 0) (nthD vs 1) (nthD vs 2) (nthD vs 3) (nthD vs 4) (nthD vs 5) (nthD vs 6) (nthD vs 7) (nthD vs 8) (nthD vs 9) h k) (
  k (.exit 0) [v0, v1, v5, v6, v10, v11, v12, v95, v96, v97] [v0, v1, v5, v6, v10, v11, v12] h)
def g24_s6 (cl : CL) (v0 v5 v10 v19 v124 v125 v126 v137 v138 v143 v144 : AV) (h : AH) (k : KT) : Prop :=
  wk (kLd1 h v144) fun v145 h =>
  wk (kFldA h 1 v19) fun v146 h =>
  wk (kLd1 h v146) fun v147 h =>
  wk (kArith h .add v145 v147) fun v148 h =>
  wk (kBuild h [.int .i64 0, .int .i64 0] [(0, 1, v143), (1, 1, v148)]) fun v149 h =>
  wcall cl (F 24) [v137, v138, v149] h fun v150 h =>
  wk (kArith h .add v126 (.int .i64 1)) fun v151 h =>
  k .nrm [v0, v5, v10, v124, v125, v151] [v0, v10] h
def g24_s7 (cl : CL) (v0 v5 v10 v18 v124 v125 v126 v136 : AV) (h : AH) (k : KT) : Prop :=
  wk (kNew h [.int .i64 0, .int .i64 0, .int .i64 0, .int .i64 0]) fun v19 h =>
  wk (kSt h 4 v19 v136) fun _ h =>
  wk (kFldA h 0 v5) fun v139 h =>
  wk (kLd1 h v139) fun v140 h =>
  wk (kFldA h 0 v19) fun v141 h =>
  wk (kLd1 h v141) fun v142 h =>
  wk (kArith h .add v140 v142) fun v143 h =>
  wk (kFldA h 1 v5) fun v144 h =>
  g24_s6 cl v0 v5 v10 v19 v124 v125 v126 v0 v18 v143 v144 h k
def g24_l6 (cl : CL) (v0 v5 v10 v124 v125 v126 : AV) (h : AH) (k : KT) : Prop :=
  wk (kArith h .lss v126 v125) fun v127 h =>
  wif v127 (
  wk (kIdxA h 1 v124 v126) fun v128 h =>
  wk (kLd1 h v128) fun v129 h =>
  wk (kNilchk h v0) fun v131 h =>
  wk (kFldA h 2 v131) fun v132 h =>
  wk (kLd1 h v132) fun v133 h =>
  wk (kX h (.mapget (.one (.int .i64)) false (.agg [.int .i64 0, .int .i64 0, .int .i64 0, .int .i64 0, .int .i64 0, .int .i64 0, .nilsl])) [v133, v129]) fun v135 h =>
  wk (kFld h 1 (some 4) v135) fun v136 h =>
  g24_s7 cl v0 v5 v10 v129 v124 v125 v126 v136 h k) (
  k (.exit 2) [v0, v5, v10, v124, v125, v126] [v0, v10] h)
def g24_c7 (cl : CL) (v0 v10 : AV) (h : AH) (k : NT) : Prop :=
  k [v0, v10] h
def g24_j8 (cl : CL) (x : AX) (v0 v10 : AV) (h : AH) (k : NT) : Prop :=
  xs x (g24_c7 cl v0 v10 h k) (fun j => cond (Nat.beq j 2) (g24_c7 cl v0 v10 h k) (False)) (False)
def g24_a9 (cl : CL) (v0 v1 v5 v10 v11 v12 v118 : AV) (h : AH) (k : NT) : Prop :=
  wif v118 (
  wk (kLdn h 4 v11) fun v121 h =>
  wcall cl (F 61) [v0, v1, v121, v12] h fun v123 h =>
  k [v0, v10] h) (
  wk (kLen h v12) fun v125 h =>
  wloop (fun vs h k => g24_l6 cl (nthD vs 0) (nthD vs 1) (nthD vs 2) (nthD vs 3) (nthD vs 4) (nthD vs 5) h k) [v0, v5, v10, v12, v125, .int .i64 0] h fun x vs h => g24_j8 cl x (nthD vs 0) (nthD vs 1) h k)
def g24_s8 (cl : CL) (v160 v162 : AV) (h : AH) (Q : QT) : Prop :=
  wk (kSt h 1 v162 v160) fun _ h =>
  Q (.tup []) h
def g24_j10 (cl : CL) (v0 v10 : AV) (h : AH) (Q : QT) : Prop :=
  wif v10 (
  wk (kNilchk h v0) fun v155 h =>
  wk (kFldA h 5 v155) fun v156 h =>
  wk (kLd1 h v156) fun v157 h =>
  wk (kBuild h [.int .i64 0, .int .i64 0, .int .i64 0, .int .i64 0, .int .i64 0, .int .i64 0, .bool false, .int .i64 0, .int .i64 0, .int .i64 0, .int .i64 0, .str [], .int .i64 0, .int .i64 0, .int .i64 0, .int .i64 0, .int .i64 0, .int .i64 0, .int .i64 0, .int .i64 0, .int .i64 0, .nilsl] [(0, 1, (.int .i64 3))]) fun v158 h =>
  wk (kBuildSl h 22 1 [.int .i64 0, .int .i64 0, .int .i64 0, .int .i64 0, .int .i64 0, .int .i64 0, .bool false, .int .i64 0, .int .i64 0, .int .i64 0, .int .i64 0, .str [], .int .i64 0, .int .i64 0, .int .i64 0, .int .i64 0, .int .i64 0, .int .i64 0, .int .i64 0, .int .i64 0, .int .i64 0, .nilsl] [(0, 22, v158)]) fun v159 h =>
  wk (kApp h 22 200 v157 v159) fun v160 h =>
  wk (kNilchk h v0) fun v161 h =>
  wk (kFldA h 5 v161) fun v162 h =>
  g24_s8 cl v160 v162 h Q) (
  Q (.tup []) h)
def g24_c11 (cl : CL) (v0 v1 v5 v6 v10 v11 v12 : AV) (h : AH) (Q : QT) : Prop :=
  wk (kFldA h 2 v6) fun v116 h =>
  wk (kLd1 h v116) fun v117 h =>
  wk (kArith h .eql v117 (.int .i64 8)) fun v118 h =>
  wjoinN (g24_a9 cl v0 v1 v5 v10 v11 v12 v118 h) fun vs h => g24_j10 cl (nthD vs 0) (nthD vs 1) h Q
def g24_j12 (cl : CL) (x : AX) (v0 v1 v5 v6 v10 v11 v12 : AV) (h : AH) (Q : QT) : Prop :=
  xs x (g24_c11 cl v0 v1 v5 v6 v10 v11 v12 h Q) (fun j => cond (Nat.beq j 0) (g24_c11 cl v0 v1 v5 v6 v10 v11 v12 h Q) (False)) (Q (.tup []) h)
def g24_s9 (cl : CL) (v0 v1 v5 v6 v10 v11 v12 v94 : AV) (h : AH) (Q : QT) : Prop :=
  wk (kLd1 h v94) fun v95 h =>
  wk (kLen h v95) fun v96 h =>
  wloop (fun vs h k => g24_l5 cl (nthD vs 0) (nthD vs 1) (nthD vs 2) (nthD vs 3) (nthD vs 4) (nthD vs 5) (nthD vs 6) (nthD vs 7) (nthD vs 8) (nthD vs 9) h k) [v0, v1, v5, v6, v10, v11, v12, v95, v96, .int .i64 0] h fun x vs h => g24_j12 cl x (nthD vs 0) (nthD vs 1) (nthD vs 2) (nthD vs 3) (nthD vs 4) (nthD vs 5) (nthD vs 6) h Q
def g24_s10 (cl : CL) (v0 v1 v5 v6 v10 v80 v82 v85 v86 : AV) (h : AH) (Q : QT) : Prop :=
  wk (kFldA h 3 v86) fun v87 h =>
  wk (kLd1 h v87) fun v88 h =>
  wk (kBuild h [.int .i64 0, .int .i64 0, .int .i64 0, .int .i64 0] [(0, 1, v80), (1, 1, v82), (2, 1, v85), (3, 1, v88)]) fun v89 h =>
  wk (kNew h [.int .i64 0, .int .i64 0, .int .i64 0, .int .i64 0]) fun v11 h =>
  wk (kSt h 4 v11 v89) fun _ h =>
  wk (kLdn h 4 v11) fun v92 h =>
  wcall cl (F 60) [v0, v1, v92] h fun v93 h =>
  wk (kFldA h 6 v6) fun v94 h =>
  g24_s9 cl v0 v1 v5 v6 v10 v11 ((.nilsl)) v94 h Q
def g24_j13 (cl : CL) (v0 v1 v5 v6 v7 v10 : AV) (h : AH) (Q : QT) : Prop :=
  wk (kFldA h 0 v5) fun v79 h =>
  wk (kLd1 h v79) fun v80 h =>
  wk (kFldA h 1 v5) fun v81 h =>
  wk (kLd1 h v81) fun v82 h =>
  wk (kFldA h 1 v7) fun v83 h =>
  wk (kFldA h 2 v83) fun v84 h =>
  wk (kLd1 h v84) fun v85 h =>
  wk (kFldA h 1 v7) fun v86 h =>
  g24_s10 cl v0 v1 v5 v6 v10 v80 v82 v85 v86 h Q
def g24_j14 (cl : CL) (v0 v1 v5 v6 v7 v8 v9 v10 : AV) (h : AH) (Q : QT) : Prop :=
  wjoinN (g24_a2 cl v0 v1 v5 v6 v7 v8 v9 v10 v10 h) fun vs h => g24_j13 cl (nthD vs 0) (nthD vs 1) (nthD vs 2) (nthD vs 3) (nthD vs 4) (nthD vs 5) h Q
def g24_s11 (cl : CL) (c2 c4 : Rec) (v0 v1 v5 v6 v7 v8 v37 : AV) (h : AH) (Q : QT) : Prop :=
  wP h (kMov h v37) fun v9 c7 h =>
  recOk c2 c4 = true ∧ wjoinN (g24_a1 cl v0 v1 v5 v6 v7 v8 v9 h) fun vs h => g24_j14 cl (nthD vs 0) (nthD vs 1) (nthD vs 2) (nthD vs 3) (nthD vs 4) (nthD vs 5) (nthD vs 6) (nthD vs 7) h Q
def g24_s12 (cl : CL) (r : Nat) (c0 c1 c2 c3 c4 c5 c6 c9 c11 c12 c13 c14 : Rec) (v0 v1 v5 v6 v7 v31 : AV) (h : AH) (Q : QT) : Prop :=
  wde h (kSt h 7 v7 v31) fun _ c15 h =>
  recOk c3 c12 = true ∧ recOk c5 c12 = true ∧ recOk c9 c12 = true ∧ recOk c11 c12 = true ∧ recOk c3 c13 = true ∧ recOk c5 c13 = true ∧ recOk c9 c13 = true ∧ recOk c11 c13 = true ∧ recOk c9 c14 = true ∧ recOk c11 c14 = true ∧ wdr h 8 fun r h =>
  wP h (kFldA h 4 v6) fun v32 c0 h =>
  wR h (kLd1 h v32) v32 fun v33 c1 h =>
  wdc cl (F 59) [v33, .str [116, 117, 114, 110], .int .i64 0] h fun v34 c2 h =>
  wP h (kFldA h 4 v6) fun v35 c3 h =>
  wR h (kLd1 h v35) v35 fun v36 c4 h =>
  wdc cl (F 59) [v36, .str [115, 99, 97, 108, 101], .int .i64 1] h fun v37 c5 h =>
  wP h (kMov h v34) fun v8 c6 h =>
  g24_s11 cl c2 c4 v0 v1 v5 v6 v7 v8 v37 h Q
def g24_s13 (cl : CL) (r : Nat) (c0 c1 c2 c3 c4 c5 c6 : Rec) (v0 v1 v5 v25 v26 : AV) (h : AH) (Q : QT) : Prop :=
  wP h (kNilchk h v26) fun v27 c7 h =>
  wP h (kFldA h 2 v27) fun v28 c8 h =>
  wR h (kLd1 h v28) v28 fun v29 c9 h =>
  wP h (kMov h v1) fun v30 c10 h =>
  wdp h (kX h (.mapget (.one (.int .i64)) false (.agg [.int .i64 0, .int .i64 0, .int .i64 0, .int .i64 0, .int .i64 0, .int .i64 0, .nilsl])) [v29, v30]) (rdK (xRd (.mapget (.one (.int .i64)) false (.agg [.int .i64 0, .int .i64 0, .int .i64 0, .int .i64 0, .int .i64 0, .int .i64 0, .nilsl])) [v29, v30])) fun v31 c11 h =>
  wda (r + 12) h (alNew [.int .i64 0, .int .i64 0, .int .i64 0, .str [], .nilsl, .nilsl, .nilsl]) fun v6 c12 h =>
  wda (r + 13) h (alNew [.int .i64 0, .int .i64 0, .int .i64 0, .int .i64 0, .int .i64 0, .int .i64 0, .nilsl]) fun v7 c13 h =>
  wde h (kSt h 7 v6 v25) fun _ c14 h =>
  g24_s12 cl r c0 c1 c2 c3 c4 c5 c6 c9 c11 c12 c13 c14 v0 v1 v5 v6 v7 v31 h Q
def g24 (cl : CL) (v0 v1 v2 : AV) (h : AH) (Q : QT) : Prop :=
  wk (kBox h v2) fun v5 h =>
  wdr h 16 fun r h =>
  wP h (kMov h v0) fun v20 c0 h =>
  wP h (kNilchk h v20) fun v21 c1 h =>
  wP h (kFldA h 0 v21) fun v22 c2 h =>
  wR h (kLd1 h v22) v22 fun v23 c3 h =>
  wP h (kMov h v1) fun v24 c4 h =>
  wdp h (kX h (.mapget (.one (.int .i64)) false (.agg [.int .i64 0, .int .i64 0, .int .i64 0, .str [], .nilsl, .nilsl, .nilsl])) [v23, v24]) (rdK (xRd (.mapget (.one (.int .i64)) false (.agg [.int .i64 0, .int .i64 0, .int .i64 0, .str [], .nilsl, .nilsl, .nilsl])) [v23, v24])) fun v25 c5 h =>
  wP h (kMov h v0) fun v26 c6 h =>
  g24_s13 cl r c0 c1 c2 c3 c4 c5 c6 v0 v1 v5 v25 v26 h Q
theorem C24 {cl} (hcl : CLOk Tryz.prog cl) {v0 v1 v2 h Q} (hg : g24 cl v0 v1 v2 h Q) : CallsA Tryz.prog 24 [v0, v1, v2] h Q := wfnM hcl [(3,.jn [0,1,5,6,7,8,9,10]),(5,.jn [0,1,5,6,7,10]),(13,.l [0,1,5,6,10,11,12,95,96,97] [0,1,5,6,10,11,12]),(16,.jn [0,1,5,6,10,11,12,95,96,97]),(24,.jn [0,10]),(28,.l [0,5,10,124,125,126] [0,10])] Tryz.func24 (by kernel_rfl) (by kernel_rfl) hg
def g25_a1 (cl : CL) (v3 v5 v6 v15 v16 v17 : AV) (h : AH) (k : NT) : Prop :=
  wk (kFldA h 0 v5) fun v29 h =>
  wk (kLd1 h v29) fun v30 h =>
  wk (kArith h .lss v30 (.int .i64 1)) fun v31 h =>
  wsp v31 fun v32 =>
  gB v32 (kFldA h 0 v5) h fun v33 h =>
  gB v32 (kLd1 h v33) h fun v34 h =>
  gB v32 (kArith h .gtr v34 (.int .i64 6)) h fun v35 h =>
  wk (kPick h v32 (.bool true) v35) fun v36 h =>
  k [v3, v5, v6, v15, v16, v17, v36] h
def g25_s1 (cl : CL) (v3 v5 v6 v15 v16 v17 v40 : AV) (h : AH) (k : NT) : Prop :=
  wsp v40 fun v41 =>
  gA v41 (kFldA h 1 v5) h fun v42 h =>
  gA v41 (kLdn h 4 v42) h fun v43 h =>
  wg (gdv true v41) (fun k => wcall cl (F 22) [v43] h k) h fun v44 h =>
  gA v41 (kArith h .neq v44 (.int .i64 0)) h fun v45 h =>
  wk (kPick h v41 v45 (.bool false)) fun v46 h =>
  k [v3, v5, v6, v15, v16, v17, v46] h
def g25_a2 (cl : CL) (v3 v5 v6 v15 v16 v17 : AV) (h : AH) (k : NT) : Prop :=
  wk (kFldA h 0 v5) fun v38 h =>
  wk (kLd1 h v38) fun v39 h =>
  wcall cl (F 62) [v39] h fun v40 h =>
  g25_s1 cl v3 v5 v6 v15 v16 v17 v40 h k
def g25_s2 (cl : CL) (v3 v5 v6 v15 v16 v17 v55 v56 : AV) (h : AH) (k : NT) : Prop :=
  gA v55 (kLd1 h v56) h fun v57 h =>
  wg (gdv true v55) (fun k => wcall cl (F 63) [v57] h k) h fun v58 h =>
  gA v55 (kUn h .not v58) h fun v59 h =>
  wk (kPick h v55 v59 (.bool false)) fun v60 h =>
  k [v3, v5, v6, v15, v16, v17, v60] h
def g25_a3 (cl : CL) (v3 v5 v6 v15 v16 v17 v37 : AV) (h : AH) (k : NT) : Prop :=
  wif v37 (
  k [v3, v5, v6, v15, v16, v17, v37] h) (
  wk (kFldA h 0 v5) fun v47 h =>
  wk (kLd1 h v47) fun v48 h =>
  wk (kArith h .eql v48 (.int .i64 4)) fun v49 h =>
  wsp v49 fun v50 =>
  gB v50 (kFldA h 0 v5) h fun v51 h =>
  gB v50 (kLd1 h v51) h fun v52 h =>
  gB v50 (kArith h .eql v52 (.int .i64 5)) h fun v53 h =>
  wk (kPick h v50 (.bool true) v53) fun v54 h =>
  wsp v54 fun v55 =>
  gA v55 (kFldA h 10 v5) h fun v56 h =>
  g25_s2 cl v3 v5 v6 v15 v16 v17 v55 v56 h k)
def g25_s3 (cl : CL) (v3 v5 v6 v15 v16 v17 v70 : AV) (h : AH) (k : NT) : Prop :=
  k [v3, v5, v6, v15, v16, v17, v70] h
def g25_a4 (cl : CL) (v3 v5 v6 v15 v16 v17 : AV) (h : AH) (k : NT) : Prop :=
  wk (kFldA h 0 v5) fun v62 h =>
  wk (kLd1 h v62) fun v63 h =>
  wk (kArith h .eql v63 (.int .i64 5)) fun v64 h =>
  wsp v64 fun v65 =>
  gA v65 (kFldA h 12 v5) h fun v66 h =>
  gA v65 (kLdn h 10 v66) h fun v67 h =>
  wg (gdv true v65) (fun k => wcall cl (F 64) [v67] h k) h fun v68 h =>
  gA v65 (kUn h .not v68) h fun v69 h =>
  wk (kPick h v65 v69 (.bool false)) fun v70 h =>
  g25_s3 cl v3 v5 v6 v15 v16 v17 v70 h k
def g25_s4 (cl : CL) (v15 v16 v17 v93 v96 : AV) (h : AH) (k : JT) : Prop :=
  wk (kApp h 5 40 v93 v96) fun v97 h =>
  k .nrm [.undef, v97, v15, v16, v17] h
def g25_s5 (cl : CL) (v3 v15 v16 v17 v88 : AV) (h : AH) (k : JT) : Prop :=
  wk (kExt h v88 0) fun v89 h =>
  wk (kExt h v88 1) fun v90 h =>
  wk (kNew h [.int .i64 0, .bool false, .int .i64 0, .int .i64 0, .int .i64 0]) fun v7 h =>
  wk (kSt h 5 v7 v89) fun _ h =>
  wk (kArith h .neq v90 (.int .i64 0)) fun v92 h =>
  wif v92 (
  k .ret [.int .i64 1, v3, v15, v16, v17] h) (
  wk (kLdn h 5 v7) fun v94 h =>
  wk (kBuild h [.int .i64 0, .bool false, .int .i64 0, .int .i64 0, .int .i64 0] [(0, 5, v94)]) fun v95 h =>
  wk (kBuildSl h 5 1 [.int .i64 0, .bool false, .int .i64 0, .int .i64 0, .int .i64 0] [(0, 5, v95)]) fun v96 h =>
  g25_s4 cl v15 v16 v17 v3 v96 h k)
def g25_s6 (cl : CL) (v3 v15 v16 v17 v85 v86 : AV) (h : AH) (k : JT) : Prop :=
  wk (kLdn h 5 v86) fun v87 h =>
  wcall cl (F 65) [v85, v87] h fun v88 h =>
  g25_s5 cl v3 v15 v16 v17 v88 h k
def g25_s7 (cl : CL) (v3 v15 v16 v17 v100 : AV) (h : AH) (k : JT) : Prop :=
  wk (kArith h .eql v100 (.int .i64 3)) fun v101 h =>
  wif v101 (
  wk (kLen h v3) fun v103 h =>
  wk (kArith h .eql v103 (.int .i64 1)) fun v104 h =>
  wif v104 (
  k .ret [.int .i64 12, v3, v15, v16, v17] h) (
  wk (kLen h v3) fun v107 h =>
  wk (kArith h .sub v107 (.int .i64 1)) fun v108 h =>
  wk (kSl h 5 v3 none (some v108) none) fun v109 h =>
  k .nrm [.undef, v109, v15, v16, v17] h)) (
  k .nrm [.undef, v3, v15, v16, v17] h)
def g25_j5 (cl : CL) (v3 v5 v6 v15 v16 v17 v61 : AV) (h : AH) (k : JT) : Prop :=
  wif v61 (
  k .ret [.int .i64 1, v3, v15, v16, v17] h) (
  wk (kFldA h 0 v5) fun v72 h =>
  wk (kLd1 h v72) fun v73 h =>
  wk (kArith h .eql v73 (.int .i64 1)) fun v74 h =>
  wif v74 (
  wk (kLdn h 5 v6) fun v76 h =>
  wk (kBuild h [.int .i64 0, .bool false, .int .i64 0, .int .i64 0, .int .i64 0] [(0, 5, v76)]) fun v77 h =>
  wk (kBuildSl h 5 1 [.int .i64 0, .bool false, .int .i64 0, .int .i64 0, .int .i64 0] [(0, 5, v77)]) fun v78 h =>
  wk (kApp h 5 40 v3 v78) fun v79 h =>
  k .nrm [.undef, v79, v15, v16, v17] h) (
  wk (kFldA h 0 v5) fun v81 h =>
  wk (kLd1 h v81) fun v82 h =>
  wk (kArith h .eql v82 (.int .i64 2)) fun v83 h =>
  wif v83 (
  wk (kLdn h 5 v6) fun v85 h =>
  wk (kFldA h 5 v5) fun v86 h =>
  g25_s6 cl v3 v15 v16 v17 v85 v86 h k) (
  wk (kFldA h 0 v5) fun v99 h =>
  wk (kLd1 h v99) fun v100 h =>
  g25_s7 cl v3 v15 v16 v17 v100 h k)))
def g25_j6 (cl : CL) (v3 v5 v6 v15 v16 v17 v37 : AV) (h : AH) (k : JT) : Prop :=
  wif v37 (
  k .ret [.int .i64 1, v3, v15, v16, v17] h) (
  wjoinN (g25_a4 cl v3 v5 v6 v15 v16 v17 h) fun vs h => g25_j5 cl (nthD vs 0) (nthD vs 1) (nthD vs 2) (nthD vs 3) (nthD vs 4) (nthD vs 5) (nthD vs 6) h k)
def g25_j7 (cl : CL) (v3 v5 v6 v15 v16 v17 v37 : AV) (h : AH) (k : JT) : Prop :=
  wjoinN (g25_a3 cl v3 v5 v6 v15 v16 v17 v37 h) fun vs h => g25_j6 cl (nthD vs 0) (nthD vs 1) (nthD vs 2) (nthD vs 3) (nthD vs 4) (nthD vs 5) (nthD vs 6) h k
def g25_j8 (cl : CL) (v3 v5 v6 v15 v16 v17 v28 : AV) (h : AH) (k : JT) : Prop :=
  wif v28 (
  k .ret [.int .i64 9, v3, v15, v16, v17] h) (
  wjoinN (g25_a2 cl v3 v5 v6 v15 v16 v17 h) fun vs h => g25_j7 cl (nthD vs 0) (nthD vs 1) (nthD vs 2) (nthD vs 3) (nthD vs 4) (nthD vs 5) (nthD vs 6) h k)
def g25_s8 (cl : CL) (v3 v5 v15 v16 v17 v26 : AV) (h : AH) (k : JT) : Prop :=
  wk (kLdn h 5 v26) fun v27 h =>
  wk (kNew h [.int .i64 0, .bool false, .int .i64 0, .int .i64 0, .int .i64 0]) fun v6 h =>
  wk (kSt h 5 v6 v27) fun _ h =>
  wjoinN (g25_a1 cl v3 v5 v6 v15 v16 v17 h) fun vs h => g25_j8 cl (nthD vs 0) (nthD vs 1) (nthD vs 2) (nthD vs 3) (nthD vs 4) (nthD vs 5) (nthD vs 6) h k
def g25_a9 (cl : CL) (v3 v15 v16 v17 : AV) (h : AH) (k : JT) : Prop :=
  wk (kIdxA h 22 v15 v17) fun v19 h =>
  wk (kLdn h 22 v19) fun v20 h =>
  wk (kNew h [.int .i64 0, .int .i64 0, .int .i64 0, .int .i64 0, .int .i64 0, .int .i64 0, .bool false, .int .i64 0, .int .i64 0, .int .i64 0, .int .i64 0, .str [], .int .i64 0, .int .i64 0, .int .i64 0, .int .i64 0, .int .i64 0, .int .i64 0, .int .i64 0, .int .i64 0, .int .i64 0, .nilsl]) fun v5 h =>
  wk (kSt h 22 v5 v20) fun _ h =>
  wk (kLen h v3) fun v23 h =>
  wk (kArith h .sub v23 (.int .i64 1)) fun v24 h =>
  wk (kIdxA h 5 v3 v24) fun v25 h =>
  wk (kFldA h 0 v25) fun v26 h =>
  g25_s8 cl v3 v5 v15 v16 v17 v26 h k
def g25_j10 (cl : CL) (x : AX) (v2 v3 v15 v16 v17 : AV) (h : AH) (k : KT) : Prop :=
  xs x (wk (kArith h .add v17 (.int .i64 1)) fun v110 h =>
  k .nrm [v3, v15, v16, v110] [v2, v3] h) (fun j => k (.exit j) [v3, v15, v16, v17] [v2, v3] h) (k .ret [v3, v15, v16, v17] [v2, v3] h)
def g25_l11 (cl : CL) (v3 v15 v16 v17 : AV) (h : AH) (k : KT) : Prop :=
  wk (kArith h .lss v17 v16) fun v18 h =>
  wif v18 (
  wjoin (g25_a9 cl v3 v15 v16 v17 h) fun x vs h => g25_j10 cl x (nthD vs 0) (nthD vs 1) (nthD vs 2) (nthD vs 3) (nthD vs 4) h k) (
  k (.exit 0) [v3, v15, v16, v17] [.undef, v3] h)
def g25_c12 (cl : CL) (v3 : AV) (h : AH) (Q : QT) : Prop :=
  wk (kLen h v3) fun v112 h =>
  wk (kArith h .gtr v112 (.int .i64 1)) fun v113 h =>
  wif v113 (
  Q ((.int .i64 12)) h) (
  Q ((.int .i64 0)) h)
def g25_j13 (cl : CL) (x : AX) (v2 v3 : AV) (h : AH) (Q : QT) : Prop :=
  xs x (g25_c12 cl v3 h Q) (fun j => cond (Nat.beq j 0) (g25_c12 cl v3 h Q) (False)) (Q v2 h)
def g25 (cl : CL) (v0 : AV) (h : AH) (Q : QT) : Prop :=
  wk (kLen h v0) fun v10 h =>
  wk (kArith h .gtr v10 (.int .i64 20000)) fun v11 h =>
  wif v11 (
  Q ((.int .i64 2)) h) (
  wk (kBuild h [.int .i64 0, .bool false, .int .i64 0, .int .i64 0, .int .i64 0] [(2, 1, (.int .i64 1))]) fun v12 h =>
  wk (kBuild h [.int .i64 0, .bool false, .int .i64 0, .int .i64 0, .int .i64 0] [(0, 5, v12)]) fun v13 h =>
  wk (kBuildSl h 5 1 [.int .i64 0, .bool false, .int .i64 0, .int .i64 0, .int .i64 0] [(0, 5, v13)]) fun v14 h =>
  wk (kLen h v0) fun v16 h =>
  wloop (fun vs h k => g25_l11 cl (nthD vs 0) (nthD vs 1) (nthD vs 2) (nthD vs 3) h k) [v14, v0, v16, .int .i64 0] h fun x vs h => g25_j13 cl x (nthD vs 0) (nthD vs 1) h Q)
theorem C25 {cl} (hcl : CLOk Tryz.prog cl) {v0 h Q} (hg : g25 cl v0 h Q) : CallsA Tryz.prog 25 [v0] h Q := wfnM hcl [(7,.l [3,15,16,17] [2,3]),(10,.j [2,3,15,16,17]),(14,.jn [3,5,6,15,16,17,28]),(17,.jn [3,5,6,15,16,17,37]),(18,.jn [3,5,6,15,16,17,37]),(22,.jn [3,5,6,15,16,17,61])] Tryz.func25 (by kernel_rfl) (by kernel_rfl) hg
def g26_s1 (cl : CL) (v20 : AV) (h : AH) (Q : QT) : Prop :=
  Q v20 h
def g26_s2 (cl : CL) (v1 v10 : AV) (h : AH) (Q : QT) : Prop :=
  wsp v10 fun v11 =>
  gA v11 (kFldA h 1 v1) h fun v12 h =>
  gA v11 (kLd1 h v12) h fun v13 h =>
  gA v11 (kArith h .geq v13 (.int .i64 (-2097152))) h fun v14 h =>
  wk (kPick h v11 v14 (.bool false)) fun v15 h =>
  wsp v15 fun v16 =>
  gA v16 (kFldA h 1 v1) h fun v17 h =>
  gA v16 (kLd1 h v17) h fun v18 h =>
  gA v16 (kArith h .leq v18 (.int .i64 2097152)) h fun v19 h =>
  wk (kPick h v16 v19 (.bool false)) fun v20 h =>
  g26_s1 cl v20 h Q
def g26 (cl : CL) (v0 : AV) (h : AH) (Q : QT) : Prop :=
  wk (kBox h v0) fun v1 h =>
  wk (kFldA h 0 v1) fun v3 h =>
  wk (kLd1 h v3) fun v4 h =>
  wk (kArith h .geq v4 (.int .i64 (-2097152))) fun v5 h =>
  wsp v5 fun v6 =>
  gA v6 (kFldA h 0 v1) h fun v7 h =>
  gA v6 (kLd1 h v7) h fun v8 h =>
  gA v6 (kArith h .leq v8 (.int .i64 2097152)) h fun v9 h =>
  wk (kPick h v6 v9 (.bool false)) fun v10 h =>
  g26_s2 cl v1 v10 h Q
theorem C26 {cl} (hcl : CLOk Tryz.prog cl) {v0 h Q} (hg : g26 cl v0 h Q) : CallsA Tryz.prog 26 [v0] h Q := wfnM hcl [] Tryz.func26 (by kernel_rfl) (by kernel_rfl) hg
def g27_s1 (cl : CL) (v29 v31 v36 : AV) (h : AH) (Q : QT) : Prop :=
  gA v29 (kArith h .lss v31 v36) h fun v37 h =>
  wk (kPick h v29 v37 (.bool false)) fun v38 h =>
  Q v38 h
def g27_s2 (cl : CL) (v2 v3 v22 v27 : AV) (h : AH) (Q : QT) : Prop :=
  wk (kPick h v22 v27 (.bool false)) fun v28 h =>
  wsp v28 fun v29 =>
  gA v29 (kFldA h 1 v3) h fun v30 h =>
  gA v29 (kLd1 h v30) h fun v31 h =>
  gA v29 (kFldA h 1 v2) h fun v32 h =>
  gA v29 (kLd1 h v32) h fun v33 h =>
  gA v29 (kFldA h 3 v2) h fun v34 h =>
  gA v29 (kLd1 h v34) h fun v35 h =>
  gA v29 (kArith h .add v33 v35) h fun v36 h =>
  g27_s1 cl v29 v31 v36 h Q
def g27_s3 (cl : CL) (v2 v3 v12 v14 v16 v18 : AV) (h : AH) (Q : QT) : Prop :=
  gA v12 (kArith h .add v16 v18) h fun v19 h =>
  gA v12 (kArith h .lss v14 v19) h fun v20 h =>
  wk (kPick h v12 v20 (.bool false)) fun v21 h =>
  wsp v21 fun v22 =>
  gA v22 (kFldA h 1 v2) h fun v23 h =>
  gA v22 (kLd1 h v23) h fun v24 h =>
  gA v22 (kFldA h 1 v3) h fun v25 h =>
  gA v22 (kLd1 h v25) h fun v26 h =>
  gA v22 (kArith h .leq v24 v26) h fun v27 h =>
  g27_s2 cl v2 v3 v22 v27 h Q
def g27_s4 (cl : CL) (v2 v3 v8 v9 : AV) (h : AH) (Q : QT) : Prop :=
  wk (kLd1 h v9) fun v10 h =>
  wk (kArith h .leq v8 v10) fun v11 h =>
  wsp v11 fun v12 =>
  gA v12 (kFldA h 0 v3) h fun v13 h =>
  gA v12 (kLd1 h v13) h fun v14 h =>
  gA v12 (kFldA h 0 v2) h fun v15 h =>
  gA v12 (kLd1 h v15) h fun v16 h =>
  gA v12 (kFldA h 2 v2) h fun v17 h =>
  gA v12 (kLd1 h v17) h fun v18 h =>
  g27_s3 cl v2 v3 v12 v14 v16 v18 h Q
def g27 (cl : CL) (v0 v1 : AV) (h : AH) (Q : QT) : Prop :=
  wk (kBox h v0) fun v2 h =>
  wk (kBox h v1) fun v3 h =>
  wk (kLdn h 4 v2) fun v5 h =>
  wcall cl (F 66) [v5] h fun v6 h =>
  wk (kSt h 4 v2 v6) fun _ h =>
  wk (kFldA h 0 v2) fun v7 h =>
  wk (kLd1 h v7) fun v8 h =>
  wk (kFldA h 0 v3) fun v9 h =>
  g27_s4 cl v2 v3 v8 v9 h Q
theorem C27 {cl} (hcl : CLOk Tryz.prog cl) {v0 v1 h Q} (hg : g27 cl v0 v1 h Q) : CallsA Tryz.prog 27 [v0, v1] h Q := wfnM hcl [] Tryz.func27 (by kernel_rfl) (by kernel_rfl) hg
def g29_a1 (cl : CL) (v2 v4 : AV) (h : AH) (k : NT) : Prop :=
  wk (kFldA h 0 v2) fun v14 h =>
  wk (kLd1 h v14) fun v15 h =>
  wk (kArith h .eql v15 (.int .i64 4)) fun v16 h =>
  wsp v16 fun v17 =>
  gB v17 (kFldA h 0 v2) h fun v18 h =>
  gB v17 (kLd1 h v18) h fun v19 h =>
  gB v17 (kArith h .eql v19 (.int .i64 6)) h fun v20 h =>
  wk (kPick h v17 (.bool true) v20) fun v21 h =>
  k [v21] h
def g29_j2 (cl : CL) (v4 : AV) (h : AH) (Q : QT) : Prop :=
  Q v4 h
def g29_s1 (cl : CL) (v5 v33 : AV) (h : AH) (Q : QT) : Prop :=
  wk (kLd1 h v33) fun v34 h =>
  wk (kMkf h (.func 70) [] [v5]) fun v35 h =>
  wcall cl (F 69) [v34, v35] h fun v36 h =>
  Q v36 h
def g29_s2 (cl : CL) (v2 v27 : AV) (h : AH) (Q : QT) : Prop :=
  wk (kFldA h 12 v2) fun v28 h =>
  wk (kFldA h 3 v28) fun v29 h =>
  wk (kLd1 h v29) fun v30 h =>
  wk (kArith h .add v27 v30) fun v31 h =>
  wk (kNew h [.int .i64 0]) fun v5 h =>
  wk (kSt h 1 v5 v31) fun _ h =>
  wk (kFldA h 12 v2) fun v32 h =>
  wk (kFldA h 9 v32) fun v33 h =>
  g29_s1 cl v5 v33 h Q
def g29_s3 (cl : CL) (v2 v3 v4 v11 : AV) (h : AH) (Q : QT) : Prop :=
  wk (kLd1 h v11) fun v12 h =>
  wk (kArith h .neq v12 (.int .i64 5)) fun v13 h =>
  wif v13 (
  wjoinN (g29_a1 cl v2 v4 h) fun vs h => g29_j2 cl (nthD vs 0) h Q) (
  wk (kFldA h 0 v3) fun v22 h =>
  wk (kLd1 h v22) fun v23 h =>
  wk (kFldA h 1 v2) fun v24 h =>
  wk (kFldA h 0 v24) fun v25 h =>
  wk (kLd1 h v25) fun v26 h =>
  wk (kArith h .sub v23 v26) fun v27 h =>
  g29_s2 cl v2 v27 h Q)
def g29 (cl : CL) (v0 v1 : AV) (h : AH) (Q : QT) : Prop :=
  wk (kBox h v0) fun v2 h =>
  wk (kBox h v1) fun v3 h =>
  wk (kFldA h 1 v2) fun v6 h =>
  wk (kLdn h 4 v6) fun v7 h =>
  wk (kLdn h 2 v3) fun v8 h =>
  wcall cl (F 27) [v7, v8] h fun v9 h =>
  wk (kUn h .not v9) fun v10 h =>
  wif v10 (
  Q ((.bool false)) h) (
  wk (kFldA h 0 v2) fun v11 h =>
  g29_s3 cl v2 v3 ((.bool false)) v11 h Q)
theorem C29 {cl} (hcl : CLOk Tryz.prog cl) {v0 v1 h Q} (hg : g29 cl v0 v1 h Q) : CallsA Tryz.prog 29 [v0, v1] h Q := wfnM hcl [(6,.jn [4])] Tryz.func29 (by kernel_rfl) (by kernel_rfl) hg
def g53 (cl : CL) (v0 v1 : AV) (h : AH) (Q : QT) : Prop :=
  wk (kUn h .neg v1) fun v7 h =>
  wk (kArith h .geq v0 v7) fun v8 h =>
  wsp v8 fun v9 =>
  wg (gdv true v9) (fun k => k v0 h) h fun v10 h =>
  wg (gdv true v9) (fun k => k v1 h) h fun v11 h =>
  gA v9 (kArith h .leq v10 v11) h fun v12 h =>
  wk (kPick h v9 v12 (.bool false)) fun v13 h =>
  Q v13 h
theorem C53 {cl} (hcl : CLOk Tryz.prog cl) {v0 v1 h Q} (hg : g53 cl v0 v1 h Q) : CallsA Tryz.prog 53 [v0, v1] h Q := wfnM hcl [] Tryz.func53 (by kernel_rfl) (by kernel_rfl) hg
def g60_s1 (cl : CL) (r : Nat) (c4 : Rec) (v0 v1 v5 v6 v7 v8 v37 v41 v44 : AV) (h : AH) (k : NT) : Prop :=
  wda (r + 8) h (alBuildSl 22 1 [.int .i64 0, .int .i64 0, .int .i64 0, .int .i64 0, .int .i64 0, .int .i64 0, .bool false, .int .i64 0, .int .i64 0, .int .i64 0, .int .i64 0, .str [], .int .i64 0, .int .i64 0, .int .i64 0, .int .i64 0, .int .i64 0, .int .i64 0, .int .i64 0, .int .i64 0, .int .i64 0, .nilsl] [(0, 22, v44)]) fun v45 c8 h =>
  wde h (kApp h 22 200 v41 v45) fun v46 c9 h =>
  wP h (kNilchk h v37) fun v47 c10 h =>
  wP h (kFldA h 5 v47) fun v48 c11 h =>
  wde h (kSt h 1 v48 v46) fun _ c12 h =>
  recOk c4 c8 = true ∧ k [v0, v1, v5, v6, v7, v8] h
def g60_a1 (cl : CL) (v0 v1 v5 v6 v7 v8 v9 v36 : AV) (h : AH) (k : NT) : Prop :=
  wif v36 (
  wdr h 13 fun r h =>
  wP h (kMov h v0) fun v37 c0 h =>
  wP h (kMov h v0) fun v38 c1 h =>
  wP h (kNilchk h v38) fun v39 c2 h =>
  wP h (kFldA h 5 v39) fun v40 c3 h =>
  wR h (kLd1 h v40) v40 fun v41 c4 h =>
  wR h (kLdn h 4 v5) v5 fun v42 c5 h =>
  wP h (kMov h v9) fun v43 c6 h =>
  wP h (kBuild h [.int .i64 0, .int .i64 0, .int .i64 0, .int .i64 0, .int .i64 0, .int .i64 0, .bool false, .int .i64 0, .int .i64 0, .int .i64 0, .int .i64 0, .str [], .int .i64 0, .int .i64 0, .int .i64 0, .int .i64 0, .int .i64 0, .int .i64 0, .int .i64 0, .int .i64 0, .int .i64 0, .nilsl] [(0, 1, (.int .i64 4)), (1, 4, v42), (10, 1, v43)]) fun v44 c7 h =>
  g60_s1 cl r c4 v0 v1 v5 v6 v7 v8 v37 v41 v44 h k) (
  k [v0, v1, v5, v6, v7, v8] h)
def g60_s2 (cl : CL) (v0 v1 v5 v6 v7 v8 v11 v12 v62 v63 v64 v83 : AV) (h : AH) (k : NT) : Prop :=
  wsp v83 fun v84 =>
  gA v84 (kFldA h 7 v11) h fun v85 h =>
  gA v84 (kLd1 h v85) h fun v86 h =>
  wg (gdv true v84) (fun k => wcall cl (F 118) [v86] h k) h fun v87 h =>
  wk (kPick h v84 v87 (.bool false)) fun v88 h =>
  k [v0, v1, v5, v6, v7, v8, v11, v12, v62, v63, v64, v88] h
def g60_a2 (cl : CL) (v0 v1 v5 v6 v7 v8 v11 v12 v62 v63 v64 : AV) (h : AH) (k : NT) : Prop :=
  wk (kFldA h 6 v11) fun v81 h =>
  wk (kLd1 h v81) fun v82 h =>
  wcall cl (F 118) [v82] h fun v83 h =>
  g60_s2 cl v0 v1 v5 v6 v7 v8 v11 v12 v62 v63 v64 v83 h k
def g60_a3 (cl : CL) (v0 v1 v5 v6 v7 v8 v11 v12 v62 v63 v64 v88 : AV) (h : AH) (k : NT) : Prop :=
  wif v88 (
  wk (kFldA h 6 v11) fun v89 h =>
  wk (kLd1 h v89) fun v90 h =>
  wk (kFldA h 7 v11) fun v91 h =>
  wk (kLd1 h v91) fun v92 h =>
  wk (kArith h .add v90 v92) fun v93 h =>
  wk (kFldA h 3 v12) fun v94 h =>
  wk (kSt h 1 v94 v93) fun _ h =>
  k [v0, v1, v5, v6, v7, v8, v11, v12, v62, v63, v64] h) (
  k [v0, v1, v5, v6, v7, v8, v11, v12, v62, v63, v64] h)
def g60_s3 (cl : CL) (v0 v1 v5 v6 v7 v8 v62 v63 v64 : AV) (h : AH) (k : KT) : Prop :=
  wk (kArith h .add v64 (.int .i64 1)) fun v110 h =>
  k .nrm [v0, v1, v5, v6, v7, v8, v62, v63, v110] [v0, v1, v5, v6, v8] h
def g60_s4 (cl : CL) (r : Nat) (c4 c5 c7 : Rec) (v0 v1 v5 v6 v7 v8 v11 v62 v63 v64 v95 v99 v100 v102 : AV) (h : AH) (k : KT) : Prop :=
  wR h (kLdn h 10 v11) v11 fun v103 c8 h =>
  wdc cl (F 119) [v103] h fun v104 c9 h =>
  wP h (kBuild h [.int .i64 0, .int .i64 0, .int .i64 0, .int .i64 0, .int .i64 0, .int .i64 0, .bool false, .int .i64 0, .int .i64 0, .int .i64 0, .int .i64 0, .str [], .int .i64 0, .int .i64 0, .int .i64 0, .int .i64 0, .int .i64 0, .int .i64 0, .int .i64 0, .int .i64 0, .int .i64 0, .nilsl] [(0, 1, (.int .i64 5)), (1, 4, v100), (10, 1, v102), (12, 10, v104)]) fun v105 c10 h =>
  wda (r + 11) h (alBuildSl 22 1 [.int .i64 0, .int .i64 0, .int .i64 0, .int .i64 0, .int .i64 0, .int .i64 0, .bool false, .int .i64 0, .int .i64 0, .int .i64 0, .int .i64 0, .str [], .int .i64 0, .int .i64 0, .int .i64 0, .int .i64 0, .int .i64 0, .int .i64 0, .int .i64 0, .int .i64 0, .int .i64 0, .nilsl] [(0, 22, v105)]) fun v106 c11 h =>
  wde h (kApp h 22 200 v99 v106) fun v107 c12 h =>
  wP h (kNilchk h v95) fun v108 c13 h =>
  wP h (kFldA h 5 v108) fun v109 c14 h =>
  wde h (kSt h 1 v109 v107) fun _ c15 h =>
  recOk c4 c9 = true ∧ recOk c5 c9 = true ∧ recOk c7 c9 = true ∧ recOk c4 c11 = true ∧ g60_s3 cl v0 v1 v5 v6 v7 v8 v62 v63 v64 h k
def g60_j4 (cl : CL) (v0 v1 v5 v6 v7 v8 v11 v12 v62 v63 v64 : AV) (h : AH) (k : KT) : Prop :=
  wdr h 16 fun r h =>
  wP h (kMov h v0) fun v95 c0 h =>
  wP h (kMov h v0) fun v96 c1 h =>
  wP h (kNilchk h v96) fun v97 c2 h =>
  wP h (kFldA h 5 v97) fun v98 c3 h =>
  wR h (kLd1 h v98) v98 fun v99 c4 h =>
  wR h (kLdn h 4 v12) v12 fun v100 c5 h =>
  wP h (kIdxArrA h 22 1 v7 (.int .i64 0)) fun v101 c6 h =>
  wR h (kLd1 h v101) v101 fun v102 c7 h =>
  g60_s4 cl r c4 c5 c7 v0 v1 v5 v6 v7 v8 v11 v62 v63 v64 v95 v99 v100 v102 h k
def g60_j5 (cl : CL) (v0 v1 v5 v6 v7 v8 v11 v12 v62 v63 v64 v88 : AV) (h : AH) (k : KT) : Prop :=
  wjoinN (g60_a3 cl v0 v1 v5 v6 v7 v8 v11 v12 v62 v63 v64 v88 h) fun vs h => g60_j4 cl (nthD vs 0) (nthD vs 1) (nthD vs 2) (nthD vs 3) (nthD vs 4) (nthD vs 5) (nthD vs 6) (nthD vs 7) (nthD vs 8) (nthD vs 9) (nthD vs 10) h k
def g60_s5 (cl : CL) (v0 v1 v5 v6 v7 v8 v11 v62 v63 v64 v72 v77 v78 : AV) (h : AH) (k : KT) : Prop :=
  wk (kLd1 h v78) fun v79 h =>
  wk (kBuild h [.int .i64 0, .int .i64 0, .int .i64 0, .int .i64 0] [(0, 1, v72), (1, 1, v77), (2, 1, v79), (3, 1, (.int .i64 (-1)))]) fun v80 h =>
  wk (kNew h [.int .i64 0, .int .i64 0, .int .i64 0, .int .i64 0]) fun v12 h =>
  wk (kSt h 4 v12 v80) fun _ h =>
  wjoinN (g60_a2 cl v0 v1 v5 v6 v7 v8 v11 v12 v62 v63 v64 h) fun vs h => g60_j5 cl (nthD vs 0) (nthD vs 1) (nthD vs 2) (nthD vs 3) (nthD vs 4) (nthD vs 5) (nthD vs 6) (nthD vs 7) (nthD vs 8) (nthD vs 9) (nthD vs 10) (nthD vs 11) h k
def g60_s6 (cl : CL) (v0 v1 v5 v6 v7 v8 v11 v62 v63 v64 v69 v70 : AV) (h : AH) (k : KT) : Prop :=
  wk (kLd1 h v70) fun v71 h =>
  wk (kArith h .add v69 v71) fun v72 h =>
  wk (kFldA h 1 v8) fun v73 h =>
  wk (kLd1 h v73) fun v74 h =>
  wk (kFldA h 4 v11) fun v75 h =>
  wk (kLd1 h v75) fun v76 h =>
  wk (kArith h .add v74 v76) fun v77 h =>
  wk (kFldA h 5 v11) fun v78 h =>
  g60_s5 cl v0 v1 v5 v6 v7 v8 v11 v62 v63 v64 v72 v77 v78 h k
def g60_l6 (cl : CL) (v0 v1 v5 v6 v7 v8 v62 v63 v64 : AV) (h : AH) (k : KT) : Prop :=
  wk (kArith h .lss v64 v63) fun v65 h =>
  wif v65 (
  wk (kIdxA h 10 v62 v64) fun v66 h =>
  wk (kLdn h 10 v66) fun v67 h =>
  wk (kNew h [.int .i64 0, .int .i64 0, .int .i64 0, .int .i64 0, .int .i64 0, .int .i64 0, .int .i64 0, .int .i64 0, .int .i64 0, .nilsl]) fun v11 h =>
  wk (kSt h 10 v11 v67) fun _ h =>
  wk (kFldA h 0 v8) fun v68 h =>
  wk (kLd1 h v68) fun v69 h =>
  wk (kFldA h 3 v11) fun v70 h =>
  g60_s6 cl v0 v1 v5 v6 v7 v8 v11 v62 v63 v64 v69 v70 h k) (
  k (.exit 0) [v0, v1, v5, v6, v7, v8, v62, v63, v64] [v0, v1, v5, v6, v8] h)
def g60_c7 (cl : CL) (v0 v1 v5 v6 v8 : AV) (h : AH) (k : NT) : Prop :=
  k [v0, v1, v5, v6, v8] h
def g60_j8 (cl : CL) (x : AX) (v0 v1 v5 v6 v8 : AV) (h : AH) (k : NT) : Prop :=
  xs x (g60_c7 cl v0 v1 v5 v6 v8 h k) (fun j => cond (Nat.beq j 0) (g60_c7 cl v0 v1 v5 v6 v8 h k) (False)) (False)
def g60_a9 (cl : CL) (v0 v1 v5 v6 v7 v8 v55 : AV) (h : AH) (k : NT) : Prop :=
  wif v55 (
  wk (kNilchk h v0) fun v57 h =>
  wk (kFldA h 2 v57) fun v58 h =>
  wk (kLd1 h v58) fun v59 h =>
  wk (kX h (.mapget (.one (.int .i64)) false (.agg [.int .i64 0, .int .i64 0, .int .i64 0, .int .i64 0, .int .i64 0, .int .i64 0, .nilsl])) [v59, v1]) fun v61 h =>
  wk (kFld h 6 none v61) fun v62 h =>
  wk (kLen h v62) fun v63 h =>
  wloop (fun vs h k => g60_l6 cl (nthD vs 0) (nthD vs 1) (nthD vs 2) (nthD vs 3) (nthD vs 4) (nthD vs 5) (nthD vs 6) (nthD vs 7) (nthD vs 8) h k) [v0, v1, v5, v6, v7, v8, v62, v63, .int .i64 0] h fun x vs h => g60_j8 cl x (nthD vs 0) (nthD vs 1) (nthD vs 2) (nthD vs 3) (nthD vs 4) h k) (
  k [v0, v1, v5, v6, v8] h)
def g60_s7 (cl : CL) (r : Nat) (c4 c5 : Rec) (v0 v1 v8 v114 v118 v119 v121 : AV) (h : AH) (k : NT) : Prop :=
  wdc cl (F 120) [v121, .str [115, 114, 99]] h fun v122 c8 h =>
  wP h (kBuild h [.int .i64 0, .int .i64 0, .int .i64 0, .int .i64 0, .int .i64 0, .int .i64 0, .bool false, .int .i64 0, .int .i64 0, .int .i64 0, .int .i64 0, .str [], .int .i64 0, .int .i64 0, .int .i64 0, .int .i64 0, .int .i64 0, .int .i64 0, .int .i64 0, .int .i64 0, .int .i64 0, .nilsl] [(0, 1, (.int .i64 6)), (1, 4, v119), (11, 1, v122)]) fun v123 c9 h =>
  wda (r + 10) h (alBuildSl 22 1 [.int .i64 0, .int .i64 0, .int .i64 0, .int .i64 0, .int .i64 0, .int .i64 0, .bool false, .int .i64 0, .int .i64 0, .int .i64 0, .int .i64 0, .str [], .int .i64 0, .int .i64 0, .int .i64 0, .int .i64 0, .int .i64 0, .int .i64 0, .int .i64 0, .int .i64 0, .int .i64 0, .nilsl] [(0, 22, v123)]) fun v124 c10 h =>
  wde h (kApp h 22 200 v118 v124) fun v125 c11 h =>
  wP h (kNilchk h v114) fun v126 c12 h =>
  wP h (kFldA h 5 v126) fun v127 c13 h =>
  wde h (kSt h 1 v127 v125) fun _ c14 h =>
  recOk c4 c8 = true ∧ recOk c5 c8 = true ∧ recOk c4 c10 = true ∧ k [v0, v1, v8] h
def g60_a10 (cl : CL) (v0 v1 v5 v6 v8 v113 : AV) (h : AH) (k : NT) : Prop :=
  wif v113 (
  wdr h 15 fun r h =>
  wP h (kMov h v0) fun v114 c0 h =>
  wP h (kMov h v0) fun v115 c1 h =>
  wP h (kNilchk h v115) fun v116 c2 h =>
  wP h (kFldA h 5 v116) fun v117 c3 h =>
  wR h (kLd1 h v117) v117 fun v118 c4 h =>
  wR h (kLdn h 4 v5) v5 fun v119 c5 h =>
  wP h (kFldA h 4 v6) fun v120 c6 h =>
  wR h (kLd1 h v120) v120 fun v121 c7 h =>
  g60_s7 cl r c4 c5 v0 v1 v8 v114 v118 v119 v121 h k) (
  k [v0, v1, v8] h)
def g60_j11 (cl : CL) (v0 v1 v8 : AV) (h : AH) (Q : QT) : Prop :=
  wk (kLdn h 2 v8) fun v130 h =>
  wcall cl (F 116) [v0, v1, v130, .bool true] h fun v131 h =>
  Q (.tup []) h
def g60_j12 (cl : CL) (v0 v1 v5 v6 v8 : AV) (h : AH) (Q : QT) : Prop :=
  wk (kFldA h 2 v6) fun v111 h =>
  wk (kLd1 h v111) fun v112 h =>
  wk (kArith h .eql v112 (.int .i64 5)) fun v113 h =>
  wjoinN (g60_a10 cl v0 v1 v5 v6 v8 v113 h) fun vs h => g60_j11 cl (nthD vs 0) (nthD vs 1) (nthD vs 2) h Q
def g60_j13 (cl : CL) (v0 v1 v5 v6 v7 v8 : AV) (h : AH) (Q : QT) : Prop :=
  wk (kLdn h 2 v8) fun v51 h =>
  wcall cl (F 116) [v0, v1, v51, .bool false] h fun v52 h =>
  wk (kFldA h 2 v6) fun v53 h =>
  wk (kLd1 h v53) fun v54 h =>
  wcall cl (F 117) [v54] h fun v55 h =>
  wjoinN (g60_a9 cl v0 v1 v5 v6 v7 v8 v55 h) fun vs h => g60_j12 cl (nthD vs 0) (nthD vs 1) (nthD vs 2) (nthD vs 3) (nthD vs 4) h Q
def g60_s8 (cl : CL) (v0 v1 v5 v6 v7 v8 : AV) (h : AH) (Q : QT) : Prop :=
  wk (kIdxArrA h 22 1 v7 (.int .i64 21)) fun v30 h =>
  wk (kLd1 h v30) fun v31 h =>
  wk (kArith h .eql v31 (.int .i64 1)) fun v32 h =>
  wif v32 (
  Q (.tup []) h) (
  wk (kIdxArrA h 22 1 v7 (.int .i64 1)) fun v33 h =>
  wk (kLd1 h v33) fun v34 h =>
  wk (kArith h .neq v34 (.int .i64 (-1))) fun v36 h =>
  wjoinN (g60_a1 cl v0 v1 v5 v6 v7 v8 v34 v36 h) fun vs h => g60_j13 cl (nthD vs 0) (nthD vs 1) (nthD vs 2) (nthD vs 3) (nthD vs 4) (nthD vs 5) h Q)
def g60_s9 (cl : CL) (r : Nat) (c3 c5 c9 c11 c13 : Rec) (v0 v1 v5 v18 v24 v26 v27 : AV) (h : AH) (Q : QT) : Prop :=
  wR h (kLd1 h v27) v27 fun v28 c15 h =>
  wP h (kBuild h [.int .i64 0, .int .i64 0] [(0, 1, v26), (1, 1, v28)]) fun v29 c16 h =>
  wda (r + 17) h (alNew [.int .i64 0, .int .i64 0, .int .i64 0, .str [], .nilsl, .nilsl, .nilsl]) fun v6 c17 h =>
  wda (r + 18) h (alNew [.int .i64 0, .int .i64 0, .int .i64 0, .int .i64 0, .int .i64 0, .int .i64 0, .int .i64 0, .int .i64 0, .int .i64 0, .int .i64 0, .int .i64 0, .int .i64 0, .int .i64 0, .int .i64 0, .int .i64 0, .int .i64 0, .int .i64 0, .int .i64 0, .int .i64 0, .int .i64 0, .int .i64 0, .int .i64 0]) fun v7 c18 h =>
  wda (r + 19) h (alNew [.int .i64 0, .int .i64 0]) fun v8 c19 h =>
  wde h (kSt h 7 v6 v18) fun _ c20 h =>
  wde h (kSt h 22 v7 v24) fun _ c21 h =>
  wde h (kSt h 2 v8 v29) fun _ c22 h =>
  recOk c3 c17 = true ∧ recOk c5 c17 = true ∧ recOk c9 c17 = true ∧ recOk c11 c17 = true ∧ recOk c13 c17 = true ∧ recOk c15 c17 = true ∧ recOk c3 c18 = true ∧ recOk c5 c18 = true ∧ recOk c9 c18 = true ∧ recOk c11 c18 = true ∧ recOk c13 c18 = true ∧ recOk c15 c18 = true ∧ recOk c3 c19 = true ∧ recOk c5 c19 = true ∧ recOk c9 c19 = true ∧ recOk c11 c19 = true ∧ recOk c13 c19 = true ∧ recOk c15 c19 = true ∧ recOk c9 c20 = true ∧ recOk c11 c20 = true ∧ recOk c13 c20 = true ∧ recOk c15 c20 = true ∧ recOk c13 c21 = true ∧ recOk c15 c21 = true ∧ g60_s8 cl v0 v1 v5 v6 v7 v8 h Q
def g60_s10 (cl : CL) (r : Nat) (c3 c5 : Rec) (v0 v1 v5 v18 v19 : AV) (h : AH) (Q : QT) : Prop :=
  wP h (kNilchk h v19) fun v20 c7 h =>
  wP h (kFldA h 1 v20) fun v21 c8 h =>
  wR h (kLd1 h v21) v21 fun v22 c9 h =>
  wP h (kMov h v1) fun v23 c10 h =>
  wdp h (kX h (.mapget (.one (.int .i64)) false (.agg [.int .i64 0, .int .i64 0, .int .i64 0, .int .i64 0, .int .i64 0, .int .i64 0, .int .i64 0, .int .i64 0, .int .i64 0, .int .i64 0, .int .i64 0, .int .i64 0, .int .i64 0, .int .i64 0, .int .i64 0, .int .i64 0, .int .i64 0, .int .i64 0, .int .i64 0, .int .i64 0, .int .i64 0, .int .i64 0])) [v22, v23]) (rdK (xRd (.mapget (.one (.int .i64)) false (.agg [.int .i64 0, .int .i64 0, .int .i64 0, .int .i64 0, .int .i64 0, .int .i64 0, .int .i64 0, .int .i64 0, .int .i64 0, .int .i64 0, .int .i64 0, .int .i64 0, .int .i64 0, .int .i64 0, .int .i64 0, .int .i64 0, .int .i64 0, .int .i64 0, .int .i64 0, .int .i64 0, .int .i64 0, .int .i64 0])) [v22, v23])) fun v24 c11 h =>
  wP h (kFldA h 0 v5) fun v25 c12 h =>
  wR h (kLd1 h v25) v25 fun v26 c13 h =>
  wP h (kFldA h 1 v5) fun v27 c14 h =>
  g60_s9 cl r c3 c5 c9 c11 c13 v0 v1 v5 v18 v24 v26 v27 h Q
def g60 (cl : CL) (v0 v1 v2 : AV) (h : AH) (Q : QT) : Prop :=
  wk (kBox h v2) fun v5 h =>
  wdr h 23 fun r h =>
  wP h (kMov h v0) fun v13 c0 h =>
  wP h (kNilchk h v13) fun v14 c1 h =>
  wP h (kFldA h 0 v14) fun v15 c2 h =>
  wR h (kLd1 h v15) v15 fun v16 c3 h =>
  wP h (kMov h v1) fun v17 c4 h =>
  wdp h (kX h (.mapget (.one (.int .i64)) false (.agg [.int .i64 0, .int .i64 0, .int .i64 0, .str [], .nilsl, .nilsl, .nilsl])) [v16, v17]) (rdK (xRd (.mapget (.one (.int .i64)) false (.agg [.int .i64 0, .int .i64 0, .int .i64 0, .str [], .nilsl, .nilsl, .nilsl])) [v16, v17])) fun v18 c5 h =>
  wP h (kMov h v0) fun v19 c6 h =>
  g60_s10 cl r c3 c5 v0 v1 v5 v18 v19 h Q
theorem C60 {cl} (hcl : CLOk Tryz.prog cl) {v0 v1 v2 h Q} (hg : g60 cl v0 v1 v2 h Q) : CallsA Tryz.prog 60 [v0, v1, v2] h Q := wfnM hcl [(6,.jn [0,1,5,6,7,8]),(10,.jn [0,1,5,6,8]),(13,.l [0,1,5,6,7,8,62,63,64] [0,1,5,6,8]),(19,.jn [0,1,5,6,7,8,11,12,62,63,64,88]),(20,.jn [0,1,5,6,7,8,11,12,62,63,64]),(25,.jn [0,1,8])] Tryz.func60 (by kernel_rfl) (by kernel_rfl) hg
def g61_s1 (cl : CL) (v0 v6 v8 v9 v10 v12 v13 v35 v36 v37 v51 v58 : AV) (h : AH) (k : NT) : Prop :=
  wk (kPick h v51 (.bool true) v58) fun v59 h =>
  k [v0, v6, v8, v9, v10, v12, v13, v35, v36, v37, v59] h
def g61_a1 (cl : CL) (v0 v6 v8 v9 v10 v11 v12 v13 v35 v36 v37 : AV) (h : AH) (k : NT) : Prop :=
  wk (kArith h .eql v11 (.int .i64 0)) fun v50 h =>
  wsp v50 fun v51 =>
  gB v51 (kFldA h 1 v13) h fun v52 h =>
  gB v51 (kLd1 h v52) h fun v53 h =>
  gB v51 (kFldA h 3 v13) h fun v54 h =>
  gB v51 (kLd1 h v54) h fun v55 h =>
  gB v51 (kArith h .add v53 v55) h fun v56 h =>
  wg (gdv false v51) (fun k => k v9 h) h fun v57 h =>
  gB v51 (kArith h .gtr v56 v57) h fun v58 h =>
  g61_s1 cl v0 v6 v8 v9 v10 v12 v13 v35 v36 v37 v51 v58 h k
def g61_a2 (cl : CL) (v0 v6 v8 v9 v10 v12 v13 v35 v36 v37 v59 : AV) (h : AH) (k : NT) : Prop :=
  wif v59 (
  wk (kFldA h 1 v13) fun v60 h =>
  wk (kLd1 h v60) fun v61 h =>
  wk (kFldA h 3 v13) fun v62 h =>
  wk (kLd1 h v62) fun v63 h =>
  wk (kArith h .add v61 v63) fun v64 h =>
  k [v0, v6, v8, v64, v10, v12, v13, v35, v36, v37] h) (
  k [v0, v6, v8, v9, v10, v12, v13, v35, v36, v37] h)
def g61_s2 (cl : CL) (v0 v6 v8 v9 v35 v36 v37 v76 : AV) (h : AH) (k : NT) : Prop :=
  k [v0, v6, v8, v9, v76, v35, v36, v37] h
def g61_s3 (cl : CL) (v0 v6 v8 v9 v10 v12 v13 v14 v35 v36 v37 v106 v110 v111 : AV) (h : AH) (k : NT) : Prop :=
  gA v106 (kLd1 h v111) h fun v112 h =>
  gA v106 (kArith h .gtr v110 v112) h fun v113 h =>
  wk (kPick h v106 v113 (.bool false)) fun v114 h =>
  k [v0, v6, v8, v9, v10, v12, v13, v14, v35, v36, v37, v114] h
def g61_s4 (cl : CL) (v0 v6 v8 v9 v10 v12 v13 v14 v35 v36 v37 v97 v98 v100 v102 : AV) (h : AH) (k : NT) : Prop :=
  gA v97 (kArith h .add v100 v102) h fun v103 h =>
  gA v97 (kArith h .lss v98 v103) h fun v104 h =>
  wk (kPick h v97 v104 (.bool false)) fun v105 h =>
  wsp v105 fun v106 =>
  wg (gdv true v106) (fun k => k v14 h) h fun v107 h =>
  gA v106 (kFldA h 3 v13) h fun v108 h =>
  gA v106 (kLd1 h v108) h fun v109 h =>
  gA v106 (kArith h .add v107 v109) h fun v110 h =>
  gA v106 (kFldA h 1 v6) h fun v111 h =>
  g61_s3 cl v0 v6 v8 v9 v10 v12 v13 v14 v35 v36 v37 v106 v110 v111 h k
def g61_s5 (cl : CL) (v0 v6 v8 v9 v10 v12 v13 v14 v35 v36 v37 v92 v93 : AV) (h : AH) (k : NT) : Prop :=
  gA v92 (kLd1 h v93) h fun v94 h =>
  gA v92 (kArith h .gtr v94 (.int .i64 0)) h fun v95 h =>
  wk (kPick h v92 v95 (.bool false)) fun v96 h =>
  wsp v96 fun v97 =>
  wg (gdv true v97) (fun k => k v14 h) h fun v98 h =>
  gA v97 (kFldA h 1 v6) h fun v99 h =>
  gA v97 (kLd1 h v99) h fun v100 h =>
  gA v97 (kFldA h 3 v6) h fun v101 h =>
  gA v97 (kLd1 h v101) h fun v102 h =>
  g61_s4 cl v0 v6 v8 v9 v10 v12 v13 v14 v35 v36 v37 v97 v98 v100 v102 h k
def g61_a3 (cl : CL) (v0 v6 v8 v9 v10 v12 v13 v14 v35 v36 v37 : AV) (h : AH) (k : NT) : Prop :=
  wk (kFldA h 2 v13) fun v84 h =>
  wk (kLd1 h v84) fun v85 h =>
  wk (kArith h .gtr v85 (.int .i64 0)) fun v86 h =>
  wsp v86 fun v87 =>
  gA v87 (kFldA h 3 v13) h fun v88 h =>
  gA v87 (kLd1 h v88) h fun v89 h =>
  gA v87 (kArith h .gtr v89 (.int .i64 0)) h fun v90 h =>
  wk (kPick h v87 v90 (.bool false)) fun v91 h =>
  wsp v91 fun v92 =>
  gA v92 (kFldA h 3 v6) h fun v93 h =>
  g61_s5 cl v0 v6 v8 v9 v10 v12 v13 v14 v35 v36 v37 v92 v93 h k
def g61_j4 (cl : CL) (v0 v6 v8 v9 v10 v12 v13 v14 v35 v36 v37 v114 : AV) (h : AH) (k : NT) : Prop :=
  wif v114 (
  wk (kFldA h 0 v6) fun v117 h =>
  wk (kLd1 h v117) fun v118 h =>
  wk (kFldA h 0 v13) fun v119 h =>
  wk (kLd1 h v119) fun v120 h =>
  wk (kArith h .add v118 v120) fun v121 h =>
  wk (kBuild h [.int .i64 0, .int .i64 0] [(0, 1, v121), (1, 1, v14)]) fun v123 h =>
  wcall cl (F 24) [v0, v12, v123] h fun v124 h =>
  k [v0, v6, v8, v9, v10, v35, v36, v37] h) (
  k [v0, v6, v8, v9, v10, v35, v36, v37] h)
def g61_s6 (cl : CL) (v0 v6 v8 v9 v10 v12 v13 v35 v36 v37 v78 : AV) (h : AH) (k : NT) : Prop :=
  wk (kFldA h 1 v13) fun v79 h =>
  wk (kLd1 h v79) fun v80 h =>
  wk (kArith h .add v78 v80) fun v81 h =>
  wk (kArith h .sub v81 v8) fun v83 h =>
  wjoinN (g61_a3 cl v0 v6 v8 v9 v10 v12 v13 v83 v35 v36 v37 h) fun vs h => g61_j4 cl (nthD vs 0) (nthD vs 1) (nthD vs 2) (nthD vs 3) (nthD vs 4) (nthD vs 5) (nthD vs 6) (nthD vs 7) (nthD vs 8) (nthD vs 9) (nthD vs 10) (nthD vs 11) h k
def g61_j5 (cl : CL) (v0 v6 v8 v9 v10 v12 v13 v35 v36 v37 : AV) (h : AH) (k : NT) : Prop :=
  wk (kNilchk h v0) fun v66 h =>
  wk (kFldA h 0 v66) fun v67 h =>
  wk (kLd1 h v67) fun v68 h =>
  wk (kX h (.mapget (.one (.int .i64)) false (.agg [.int .i64 0, .int .i64 0, .int .i64 0, .str [], .nilsl, .nilsl, .nilsl])) [v68, v12]) fun v70 h =>
  wk (kFld h 4 none v70) fun v71 h =>
  wcall cl (F 122) [v71, .str [112, 105, 110, 110, 101, 100]] h fun v72 h =>
  wif v72 (
  wk (kBuildSl h 1 1 [.int .i64 0] [(0, 1, v12)]) fun v75 h =>
  wk (kApp h 1 8 v10 v75) fun v76 h =>
  g61_s2 cl v0 v6 v8 v9 v35 v36 v37 v76 h k) (
  wk (kFldA h 1 v6) fun v77 h =>
  wk (kLd1 h v77) fun v78 h =>
  g61_s6 cl v0 v6 v8 v9 v10 v12 v13 v35 v36 v37 v78 h k)
def g61_j6 (cl : CL) (v0 v6 v8 v9 v10 v12 v13 v35 v36 v37 v59 : AV) (h : AH) (k : NT) : Prop :=
  wjoinN (g61_a2 cl v0 v6 v8 v9 v10 v12 v13 v35 v36 v37 v59 h) fun vs h => g61_j5 cl (nthD vs 0) (nthD vs 1) (nthD vs 2) (nthD vs 3) (nthD vs 4) (nthD vs 5) (nthD vs 6) (nthD vs 7) (nthD vs 8) (nthD vs 9) h k
def g61_s7 (cl : CL) (v0 v6 v8 v9 v10 v11 v12 v13 v35 v36 v37 v48 : AV) (h : AH) (k : NT) : Prop :=
  wk (kSt h 4 v13 v48) fun _ h =>
  wjoinN (g61_a1 cl v0 v6 v8 v9 v10 v11 v12 v13 v35 v36 v37 h) fun vs h => g61_j6 cl (nthD vs 0) (nthD vs 1) (nthD vs 2) (nthD vs 3) (nthD vs 4) (nthD vs 5) (nthD vs 6) (nthD vs 7) (nthD vs 8) (nthD vs 9) (nthD vs 10) h k
def g61_a7 (cl : CL) (v0 v6 v8 v9 v10 v35 v36 v37 : AV) (h : AH) (k : NT) : Prop :=
  wk (kIdxA h 1 v35 v37) fun v40 h =>
  wk (kLd1 h v40) fun v41 h =>
  wk (kNilchk h v0) fun v43 h =>
  wk (kFldA h 2 v43) fun v44 h =>
  wk (kLd1 h v44) fun v45 h =>
  wk (kX h (.mapget (.one (.int .i64)) false (.agg [.int .i64 0, .int .i64 0, .int .i64 0, .int .i64 0, .int .i64 0, .int .i64 0, .nilsl])) [v45, v41]) fun v47 h =>
  wk (kFld h 1 (some 4) v47) fun v48 h =>
  wk (kNew h [.int .i64 0, .int .i64 0, .int .i64 0, .int .i64 0]) fun v13 h =>
  g61_s7 cl v0 v6 v8 v9 v10 v37 v41 v13 v35 v36 v37 v48 h k
def g61_j8 (cl : CL) (v0 v6 v8 v9 v10 v35 v36 v37 : AV) (h : AH) (k : KT) : Prop :=
  wk (kArith h .add v37 (.int .i64 1)) fun v125 h =>
  k .nrm [v0, v6, v8, v9, v10, v35, v36, v125] [v0, v6, v8, v9, v10] h
def g61_l9 (cl : CL) (v0 v6 v8 v9 v10 v35 v36 v37 : AV) (h : AH) (k : KT) : Prop :=
  wk (kArith h .lss v37 v36) fun v38 h =>
  wif v38 (
  wjoinN (g61_a7 cl v0 v6 v8 v9 v10 v35 v36 v37 h) fun vs h => g61_j8 cl (nthD vs 0) (nthD vs 1) (nthD vs 2) (nthD vs 3) (nthD vs 4) (nthD vs 5) (nthD vs 6) (nthD vs 7) h k) (
  k (.exit 0) [v0, v6, v8, v9, v10, v35, v36, v37] [v0, v6, v8, v9, v10] h)
def g61_s8 (cl : CL) (v0 v6 v8 v9 v10 v16 v17 v18 v126 v127 v128 v149 v153 : AV) (h : AH) (k : NT) : Prop :=
  wR h (kLd1 h v153) v153 fun v154 c8 h =>
  wdp h (kX h (.mapget (.one (.int .i64)) false (.agg [.int .i64 0, .int .i64 0, .int .i64 0, .int .i64 0, .int .i64 0, .int .i64 0, .nilsl])) [v149, v154]) (rdK (xRd (.mapget (.one (.int .i64)) false (.agg [.int .i64 0, .int .i64 0, .int .i64 0, .int .i64 0, .int .i64 0, .int .i64 0, .nilsl])) [v149, v154])) fun v155 c9 h =>
  wP h (kFld h 1 (some 4) v155) fun v156 c10 h =>
  wP h (kFld h 1 none v156) fun v157 c11 h =>
  wP h (kMov h v157) fun v18 c12 h =>
  k [v0, v6, v8, v9, v10, v16, v17, v18, v126, v127, v128] h
def g61_a10 (cl : CL) (v0 v6 v8 v9 v10 v15 v16 v17 v18 v126 v127 v128 v145 : AV) (h : AH) (k : NT) : Prop :=
  wif v145 (
  wdr h 13 fun r h =>
  wP h (kMov h v0) fun v146 c0 h =>
  wP h (kNilchk h v146) fun v147 c1 h =>
  wP h (kFldA h 2 v147) fun v148 c2 h =>
  wR h (kLd1 h v148) v148 fun v149 c3 h =>
  wP h (kMov h v10) fun v150 c4 h =>
  wP h (kMov h v15) fun v151 c5 h =>
  wP h (kArith h .add v151 (.int .i64 1)) fun v152 c6 h =>
  wP h (kIdxA h 1 v150 v152) fun v153 c7 h =>
  g61_s8 cl v0 v6 v8 v9 v10 v16 v17 v18 v126 v127 v128 v149 v153 h k) (
  k [v0, v6, v8, v9, v10, v16, v17, v18, v126, v127, v128] h)
def g61_a11 (cl : CL) (v0 v6 v8 v9 v10 v16 v17 v19 v20 v126 v127 v128 v175 : AV) (h : AH) (k : NT) : Prop :=
  wif v175 (
  wk (kIdxA h 1 v19 (.int .i64 0)) fun v177 h =>
  wk (kLd1 h v177) fun v178 h =>
  k [v0, v6, v8, v9, v10, v16, v17, v178, v126, v127, v128] h) (
  k [v0, v6, v8, v9, v10, v16, v17, v20, v126, v127, v128] h)
def g61_s9 (cl : CL) (v0 v6 v8 v9 v10 v126 v127 v128 v179 v180 v185 v189 : AV) (h : AH) (k : KT) : Prop :=
  wk (kArith h .sub v189 v8) fun v191 h =>
  wk (kBuild h [.int .i64 0, .int .i64 0] [(0, 1, v185), (1, 1, v191)]) fun v192 h =>
  wcall cl (F 24) [v179, v180, v192] h fun v193 h =>
  wk (kArith h .add v128 (.int .i64 1)) fun v194 h =>
  k .nrm [v0, v6, v8, v9, v10, v126, v127, v194] [v0] h
def g61_j12 (cl : CL) (v0 v6 v8 v9 v10 v16 v17 v20 v126 v127 v128 : AV) (h : AH) (k : KT) : Prop :=
  wk (kFldA h 0 v6) fun v181 h =>
  wk (kLd1 h v181) fun v182 h =>
  wk (kFldA h 0 v17) fun v183 h =>
  wk (kLd1 h v183) fun v184 h =>
  wk (kArith h .add v182 v184) fun v185 h =>
  wk (kFldA h 1 v6) fun v186 h =>
  wk (kLd1 h v186) fun v187 h =>
  wk (kArith h .add v187 v20) fun v189 h =>
  g61_s9 cl v0 v6 v8 v9 v10 v126 v127 v128 v0 v16 v185 v189 h k
def g61_s10 (cl : CL) (v0 v6 v8 v9 v10 v16 v17 v126 v127 v128 v159 v164 v166 : AV) (h : AH) (k : KT) : Prop :=
  wk (kBuild h [.int .i64 0, .int .i64 0, .int .i64 0] [(0, 1, v159), (1, 1, v164), (2, 1, v166)]) fun v167 h =>
  wk (kBuildSl h 3 1 [.int .i64 0, .int .i64 0, .int .i64 0] [(0, 3, v167)]) fun v168 h =>
  wcall cl (F 123) [v168, v8] h fun v170 h =>
  wk (kFldA h 1 v17) fun v171 h =>
  wk (kLd1 h v171) fun v172 h =>
  wk (kLen h v170) fun v174 h =>
  wk (kArith h .eql v174 (.int .i64 1)) fun v175 h =>
  wjoinN (g61_a11 cl v0 v6 v8 v9 v10 v16 v17 v170 v172 v126 v127 v128 v175 h) fun vs h => g61_j12 cl (nthD vs 0) (nthD vs 1) (nthD vs 2) (nthD vs 3) (nthD vs 4) (nthD vs 5) (nthD vs 6) (nthD vs 7) (nthD vs 8) (nthD vs 9) (nthD vs 10) h k
def g61_j13 (cl : CL) (v0 v6 v8 v9 v10 v16 v17 v18 v126 v127 v128 : AV) (h : AH) (k : KT) : Prop :=
  wk (kFldA h 1 v17) fun v158 h =>
  wk (kLd1 h v158) fun v159 h =>
  wk (kFldA h 1 v17) fun v161 h =>
  wk (kLd1 h v161) fun v162 h =>
  wk (kArith h .sub v18 v162) fun v163 h =>
  wk (kMnmx h true v163 (.int .i64 0)) fun v164 h =>
  wk (kFldA h 3 v17) fun v165 h =>
  wk (kLd1 h v165) fun v166 h =>
  g61_s10 cl v0 v6 v8 v9 v10 v16 v17 v126 v127 v128 v159 v164 v166 h k
def g61_s11 (cl : CL) (v0 v6 v8 v9 v10 v15 v16 v126 v127 v128 v139 : AV) (h : AH) (k : KT) : Prop :=
  wk (kNew h [.int .i64 0, .int .i64 0, .int .i64 0, .int .i64 0]) fun v17 h =>
  wk (kSt h 4 v17 v139) fun _ h =>
  wk (kArith h .add v15 (.int .i64 1)) fun v142 h =>
  wk (kLen h v10) fun v144 h =>
  wk (kArith h .lss v142 v144) fun v145 h =>
  wjoinN (g61_a10 cl v0 v6 v8 v9 v10 v15 v16 v17 v9 v126 v127 v128 v145 h) fun vs h => g61_j13 cl (nthD vs 0) (nthD vs 1) (nthD vs 2) (nthD vs 3) (nthD vs 4) (nthD vs 5) (nthD vs 6) (nthD vs 7) (nthD vs 8) (nthD vs 9) (nthD vs 10) h k
def g61_l14 (cl : CL) (v0 v6 v8 v9 v10 v126 v127 v128 : AV) (h : AH) (k : KT) : Prop :=
  wk (kArith h .lss v128 v127) fun v129 h =>
  wif v129 (
  wk (kIdxA h 1 v126 v128) fun v131 h =>
  wk (kLd1 h v131) fun v132 h =>
  wk (kNilchk h v0) fun v134 h =>
  wk (kFldA h 2 v134) fun v135 h =>
  wk (kLd1 h v135) fun v136 h =>
  wk (kX h (.mapget (.one (.int .i64)) false (.agg [.int .i64 0, .int .i64 0, .int .i64 0, .int .i64 0, .int .i64 0, .int .i64 0, .nilsl])) [v136, v132]) fun v138 h =>
  wk (kFld h 1 (some 4) v138) fun v139 h =>
  g61_s11 cl v0 v6 v8 v9 v10 v128 v132 v126 v127 v128 v139 h k) (
  k (.exit 2) [v0, v6, v8, v9, v10, v126, v127, v128] [v0] h)
def g61_s12 (cl : CL) (v202 v204 : AV) (h : AH) (Q : QT) : Prop :=
  wk (kSt h 1 v204 v202) fun _ h =>
  Q (.tup []) h
def g61_c15 (cl : CL) (v0 : AV) (h : AH) (Q : QT) : Prop :=
  wk (kNilchk h v0) fun v197 h =>
  wk (kFldA h 5 v197) fun v198 h =>
  wk (kLd1 h v198) fun v199 h =>
  wk (kBuild h [.int .i64 0, .int .i64 0, .int .i64 0, .int .i64 0, .int .i64 0, .int .i64 0, .bool false, .int .i64 0, .int .i64 0, .int .i64 0, .int .i64 0, .str [], .int .i64 0, .int .i64 0, .int .i64 0, .int .i64 0, .int .i64 0, .int .i64 0, .int .i64 0, .int .i64 0, .int .i64 0, .nilsl] [(0, 1, (.int .i64 3))]) fun v200 h =>
  wk (kBuildSl h 22 1 [.int .i64 0, .int .i64 0, .int .i64 0, .int .i64 0, .int .i64 0, .int .i64 0, .bool false, .int .i64 0, .int .i64 0, .int .i64 0, .int .i64 0, .str [], .int .i64 0, .int .i64 0, .int .i64 0, .int .i64 0, .int .i64 0, .int .i64 0, .int .i64 0, .int .i64 0, .int .i64 0, .nilsl] [(0, 22, v200)]) fun v201 h =>
  wk (kApp h 22 200 v199 v201) fun v202 h =>
  wk (kNilchk h v0) fun v203 h =>
  wk (kFldA h 5 v203) fun v204 h =>
  g61_s12 cl v202 v204 h Q
def g61_j16 (cl : CL) (x : AX) (v0 : AV) (h : AH) (Q : QT) : Prop :=
  xs x (g61_c15 cl v0 h Q) (fun j => cond (Nat.beq j 2) (g61_c15 cl v0 h Q) (False)) (Q (.tup []) h)
def g61_c17 (cl : CL) (v0 v6 v8 v9 v10 : AV) (h : AH) (Q : QT) : Prop :=
  wk (kLen h v10) fun v127 h =>
  wloop (fun vs h k => g61_l14 cl (nthD vs 0) (nthD vs 1) (nthD vs 2) (nthD vs 3) (nthD vs 4) (nthD vs 5) (nthD vs 6) (nthD vs 7) h k) [v0, v6, v8, v9, v10, v10, v127, .int .i64 0] h fun x vs h => g61_j16 cl x (nthD vs 0) h Q
def g61_j18 (cl : CL) (x : AX) (v0 v6 v8 v9 v10 : AV) (h : AH) (Q : QT) : Prop :=
  xs x (g61_c17 cl v0 v6 v8 v9 v10 h Q) (fun j => cond (Nat.beq j 0) (g61_c17 cl v0 v6 v8 v9 v10 h Q) (False)) (Q (.tup []) h)
def g61_s13 (cl : CL) (r : Nat) (c4 : Rec) (v0 v1 v3 v6 v21 v25 v27 : AV) (h : AH) (Q : QT) : Prop :=
  wda (r + 7) h (alBuildSl 22 1 [.int .i64 0, .int .i64 0, .int .i64 0, .int .i64 0, .int .i64 0, .int .i64 0, .bool false, .int .i64 0, .int .i64 0, .int .i64 0, .int .i64 0, .str [], .int .i64 0, .int .i64 0, .int .i64 0, .int .i64 0, .int .i64 0, .int .i64 0, .int .i64 0, .int .i64 0, .int .i64 0, .nilsl] [(0, 22, v27)]) fun v28 c7 h =>
  wde h (kApp h 22 200 v25 v28) fun v29 c8 h =>
  wP h (kNilchk h v21) fun v30 c9 h =>
  wP h (kFldA h 5 v30) fun v31 c10 h =>
  wde h (kSt h 1 v31 v29) fun _ c11 h =>
  recOk c4 c7 = true ∧ wcall cl (F 121) [v0, v1] h fun v34 h =>
  wk (kLen h v3) fun v36 h =>
  wloop (fun vs h k => g61_l9 cl (nthD vs 0) (nthD vs 1) (nthD vs 2) (nthD vs 3) (nthD vs 4) (nthD vs 5) (nthD vs 6) (nthD vs 7) h k) [v0, v6, v34, .int .i64 0, (.nilsl), v3, v36, .int .i64 0] h fun x vs h => g61_j18 cl x (nthD vs 0) (nthD vs 1) (nthD vs 2) (nthD vs 3) (nthD vs 4) h Q
def g61 (cl : CL) (v0 v1 v2 v3 : AV) (h : AH) (Q : QT) : Prop :=
  wk (kBox h v2) fun v6 h =>
  wdr h 12 fun r h =>
  wP h (kMov h v0) fun v21 c0 h =>
  wP h (kMov h v0) fun v22 c1 h =>
  wP h (kNilchk h v22) fun v23 c2 h =>
  wP h (kFldA h 5 v23) fun v24 c3 h =>
  wR h (kLd1 h v24) v24 fun v25 c4 h =>
  wR h (kLdn h 4 v6) v6 fun v26 c5 h =>
  wP h (kBuild h [.int .i64 0, .int .i64 0, .int .i64 0, .int .i64 0, .int .i64 0, .int .i64 0, .bool false, .int .i64 0, .int .i64 0, .int .i64 0, .int .i64 0, .str [], .int .i64 0, .int .i64 0, .int .i64 0, .int .i64 0, .int .i64 0, .int .i64 0, .int .i64 0, .int .i64 0, .int .i64 0, .nilsl] [(0, 1, (.int .i64 1)), (1, 4, v26)]) fun v27 c6 h =>
  g61_s13 cl r c4 v0 v1 v3 v6 v21 v25 v27 h Q
theorem C61 {cl} (hcl : CLOk Tryz.prog cl) {v0 v1 v2 v3 h Q} (hg : g61 cl v0 v1 v2 v3 h Q) : CallsA Tryz.prog 61 [v0, v1, v2, v3] h Q := wfnM hcl [(7,.l [0,6,8,9,10,35,36,37] [0,6,8,9,10]),(10,.jn [0,6,8,9,10,35,36,37]),(13,.jn [0,6,8,9,10,12,13,35,36,37,59]),(14,.jn [0,6,8,9,10,12,13,35,36,37]),(20,.jn [0,6,8,9,10,12,13,14,35,36,37,114]),(26,.l [0,6,8,9,10,126,127,128] [0]),(34,.jn [0,6,8,9,10,16,17,18,126,127,128]),(39,.jn [0,6,8,9,10,16,17,20,126,127,128])] Tryz.func61 (by kernel_rfl) (by kernel_rfl) hg
def g62_s1 (cl : CL) (v13 v14 : AV) (h : AH) (Q : QT) : Prop :=
  gB v13 (kArith h .eql v14 (.int .i64 6)) h fun v15 h =>
  wk (kPick h v13 (.bool true) v15) fun v16 h =>
  Q v16 h
def g62 (cl : CL) (v0 : AV) (h : AH) (Q : QT) : Prop :=
  wk (kArith h .eql v0 (.int .i64 1)) fun v4 h =>
  wsp v4 fun v5 =>
  wg (gdv false v5) (fun k => k v0 h) h fun v6 h =>
  gB v5 (kArith h .eql v6 (.int .i64 4)) h fun v7 h =>
  wk (kPick h v5 (.bool true) v7) fun v8 h =>
  wsp v8 fun v9 =>
  wg (gdv false v9) (fun k => k v0 h) h fun v10 h =>
  gB v9 (kArith h .eql v10 (.int .i64 5)) h fun v11 h =>
  wk (kPick h v9 (.bool true) v11) fun v12 h =>
  wsp v12 fun v13 =>
  wg (gdv false v13) (fun k => k v0 h) h fun v14 h =>
  g62_s1 cl v13 v14 h Q
theorem C62 {cl} (hcl : CLOk Tryz.prog cl) {v0 h Q} (hg : g62 cl v0 h Q) : CallsA Tryz.prog 62 [v0] h Q := wfnM hcl [] Tryz.func62 (by kernel_rfl) (by kernel_rfl) hg
def g63 (cl : CL) (v0 : AV) (h : AH) (Q : QT) : Prop :=
  wk (kArith h .geq v0 (.int .i64 0)) fun v4 h =>
  wsp v4 fun v5 =>
  wg (gdv true v5) (fun k => k v0 h) h fun v6 h =>
  gA v5 (kArith h .leq v6 (.int .i64 16777215)) h fun v7 h =>
  wk (kPick h v5 v7 (.bool false)) fun v8 h =>
  Q v8 h
theorem C63 {cl} (hcl : CLOk Tryz.prog cl) {v0 h Q} (hg : g63 cl v0 h Q) : CallsA Tryz.prog 63 [v0] h Q := wfnM hcl [] Tryz.func63 (by kernel_rfl) (by kernel_rfl) hg
def g66 (cl : CL) (v0 : AV) (h : AH) (Q : QT) : Prop :=
  wk (kBox h v0) fun v1 h =>
  wk (kNew h [.int .i64 0, .int .i64 0, .int .i64 0, .int .i64 0]) fun v2 h =>
  wk (kLdn h 4 v1) fun v3 h =>
  wcall cl (F 22) [v3] h fun v4 h =>
  wk (kArith h .neq v4 (.int .i64 0)) fun v5 h =>
  wif v5 (
  wk (kBuild h [.int .i64 0, .int .i64 0, .int .i64 0, .int .i64 0] []) fun v6 h =>
  wk (kSt h 4 v2 v6) fun _ h =>
  wres (aresV h [.cell v2 (some 4)]) h Q) (
  wk (kLdn h 4 v1) fun v7 h =>
  wk (kSt h 4 v2 v7) fun _ h =>
  wres (aresV h [.cell v2 (some 4)]) h Q)
theorem C66 {cl} (hcl : CLOk Tryz.prog cl) {v0 h Q} (hg : g66 cl v0 h Q) : CallsA Tryz.prog 66 [v0] h Q := wfnM hcl [] Tryz.func66 (by kernel_rfl) (by kernel_rfl) hg
def g116_a1 (cl : CL) (v0 v1 v3 v6 v9 v14 v15 v16 : AV) (h : AH) (k : NT) : Prop :=
  wk (kFldA h 0 v9) fun v20 h =>
  wk (kLd1 h v20) fun v21 h =>
  wk (kArith h .eql v21 v1) fun v23 h =>
  wsp v23 fun v24 =>
  gA v24 (kFldA h 6 v9) h fun v25 h =>
  gA v24 (kLd1 h v25) h fun v26 h =>
  wg (gdv true v24) (fun k => k v3 h) h fun v27 h =>
  gA v24 (kEqs h false v26 v27) h fun v28 h =>
  wk (kPick h v24 v28 (.bool false)) fun v29 h =>
  k [v0, v1, v3, v6, v9, v14, v15, v16, v29] h
def g116_s1 (cl : CL) (r : Nat) (c4 : Rec) (v0 v1 v3 v6 v9 v14 v15 v16 v44 v48 v49 : AV) (h : AH) (k : NT) : Prop :=
  wP h (kFldA h 5 v9) fun v50 c6 h =>
  wR h (kLd1 h v50) v50 fun v51 c7 h =>
  wP h (kBuild h [.int .i64 0, .int .i64 0, .int .i64 0, .int .i64 0, .int .i64 0, .int .i64 0, .bool false, .int .i64 0, .int .i64 0, .int .i64 0, .int .i64 0, .str [], .int .i64 0, .int .i64 0, .int .i64 0, .int .i64 0, .int .i64 0, .int .i64 0, .int .i64 0, .int .i64 0, .int .i64 0, .nilsl] [(0, 1, (.int .i64 4)), (1, 4, v49), (10, 1, v51)]) fun v52 c8 h =>
  wda (r + 9) h (alBuildSl 22 1 [.int .i64 0, .int .i64 0, .int .i64 0, .int .i64 0, .int .i64 0, .int .i64 0, .bool false, .int .i64 0, .int .i64 0, .int .i64 0, .int .i64 0, .str [], .int .i64 0, .int .i64 0, .int .i64 0, .int .i64 0, .int .i64 0, .int .i64 0, .int .i64 0, .int .i64 0, .int .i64 0, .nilsl] [(0, 22, v52)]) fun v53 c9 h =>
  wde h (kApp h 22 200 v48 v53) fun v54 c10 h =>
  wP h (kNilchk h v44) fun v55 c11 h =>
  wP h (kFldA h 5 v55) fun v56 c12 h =>
  wde h (kSt h 1 v56 v54) fun _ c13 h =>
  recOk c4 c9 = true ∧ k [v0, v1, v3, v6, v14, v15, v16] h
def g116_s2 (cl : CL) (r : Nat) (c0 c1 c2 c3 c4 c5 c8 c11 : Rec) (v0 v1 v3 v6 v9 v10 v14 v15 v16 v41 : AV) (h : AH) (k : NT) : Prop :=
  wP h (kFldA h 1 v10) fun v43 c12 h =>
  wde h (kSt h 1 v43 v41) fun _ c13 h =>
  recOk c8 c11 = true ∧ wdr h 14 fun r h =>
  wP h (kMov h v0) fun v44 c0 h =>
  wP h (kMov h v0) fun v45 c1 h =>
  wP h (kNilchk h v45) fun v46 c2 h =>
  wP h (kFldA h 5 v46) fun v47 c3 h =>
  wR h (kLd1 h v47) v47 fun v48 c4 h =>
  wR h (kLdn h 4 v10) v10 fun v49 c5 h =>
  g116_s1 cl r c4 v0 v1 v3 v6 v9 v14 v15 v16 v44 v48 v49 h k
def g116_s3 (cl : CL) (r : Nat) (c0 c1 c2 c3 : Rec) (v0 v1 v3 v6 v9 v10 v14 v15 v16 v33 v35 : AV) (h : AH) (k : NT) : Prop :=
  wP h (kArith h .add v33 v35) fun v36 c4 h =>
  wP h (kFldA h 1 v10) fun v37 c5 h =>
  wR h (kLd1 h v37) v37 fun v38 c6 h =>
  wP h (kFldA h 1 v6) fun v39 c7 h =>
  wR h (kLd1 h v39) v39 fun v40 c8 h =>
  wP h (kArith h .add v38 v40) fun v41 c9 h =>
  wP h (kFldA h 0 v10) fun v42 c10 h =>
  wde h (kSt h 1 v42 v36) fun _ c11 h =>
  g116_s2 cl r c0 c1 c2 c3 c4 c5 c8 c11 v0 v1 v3 v6 v9 v10 v14 v15 v16 v41 h k
def g116_j2 (cl : CL) (v0 v1 v3 v6 v9 v14 v15 v16 v29 : AV) (h : AH) (k : NT) : Prop :=
  wif v29 (
  wk (kFldA h 1 v9) fun v30 h =>
  wk (kLdn h 4 v30) fun v31 h =>
  wk (kNew h [.int .i64 0, .int .i64 0, .int .i64 0, .int .i64 0]) fun v10 h =>
  wk (kSt h 4 v10 v31) fun _ h =>
  wdr h 14 fun r h =>
  wP h (kFldA h 0 v10) fun v32 c0 h =>
  wR h (kLd1 h v32) v32 fun v33 c1 h =>
  wP h (kFldA h 0 v6) fun v34 c2 h =>
  wR h (kLd1 h v34) v34 fun v35 c3 h =>
  g116_s3 cl r c0 c1 c2 c3 v0 v1 v3 v6 v9 v10 v14 v15 v16 v33 v35 h k) (
  k [v0, v1, v3, v6, v14, v15, v16] h)
def g116_a3 (cl : CL) (v0 v1 v3 v6 v14 v15 v16 : AV) (h : AH) (k : NT) : Prop :=
  wk (kIdxA h 7 v14 v16) fun v18 h =>
  wk (kLdn h 7 v18) fun v19 h =>
  wk (kNew h [.int .i64 0, .int .i64 0, .int .i64 0, .int .i64 0, .int .i64 0, .int .i64 0, .bool false]) fun v9 h =>
  wk (kSt h 7 v9 v19) fun _ h =>
  wjoinN (g116_a1 cl v0 v1 v3 v6 v9 v14 v15 v16 h) fun vs h => g116_j2 cl (nthD vs 0) (nthD vs 1) (nthD vs 2) (nthD vs 3) (nthD vs 4) (nthD vs 5) (nthD vs 6) (nthD vs 7) (nthD vs 8) h k
def g116_j4 (cl : CL) (v0 v1 v3 v6 v14 v15 v16 : AV) (h : AH) (k : KT) : Prop :=
  wk (kArith h .add v16 (.int .i64 1)) fun v57 h =>
  k .nrm [v0, v1, v3, v6, v14, v15, v57] [] h
def g116_l5 (cl : CL) (v0 v1 v3 v6 v14 v15 v16 : AV) (h : AH) (k : KT) : Prop :=
  wk (kArith h .lss v16 v15) fun v17 h =>
  wif v17 (
  wjoinN (g116_a3 cl v0 v1 v3 v6 v14 v15 v16 h) fun vs h => g116_j4 cl (nthD vs 0) (nthD vs 1) (nthD vs 2) (nthD vs 3) (nthD vs 4) (nthD vs 5) (nthD vs 6) h k) (
  k (.exit 0) [v0, v1, v3, v6, v14, v15, v16] [] h)
def g116_c6 (cl : CL) (h : AH) (Q : QT) : Prop :=
  Q (.tup []) h
def g116_j7 (cl : CL) (x : AX) (h : AH) (Q : QT) : Prop :=
  xs x (g116_c6 cl h Q) (fun j => cond (Nat.beq j 0) (g116_c6 cl h Q) (False)) (Q (.tup []) h)
def g116 (cl : CL) (v0 v1 v2 v3 : AV) (h : AH) (Q : QT) : Prop :=
  wk (kBox h v2) fun v6 h =>
  wk (kNilchk h v0) fun v12 h =>
  wk (kFldA h 4 v12) fun v13 h =>
  wk (kLd1 h v13) fun v14 h =>
  wk (kLen h v14) fun v15 h =>
  wloop (fun vs h k => g116_l5 cl (nthD vs 0) (nthD vs 1) (nthD vs 2) (nthD vs 3) (nthD vs 4) (nthD vs 5) (nthD vs 6) h k) [v0, v1, v3, v6, v14, v15, .int .i64 0] h fun x vs h => g116_j7 cl x h Q
theorem C116 {cl} (hcl : CLOk Tryz.prog cl) {v0 v1 v2 v3 h Q} (hg : g116 cl v0 v1 v2 v3 h Q) : CallsA Tryz.prog 116 [v0, v1, v2, v3] h Q := wfnM hcl [(3,.l [0,1,3,6,14,15,16] []),(6,.jn [0,1,3,6,14,15,16]),(8,.jn [0,1,3,6,9,14,15,16,29])] Tryz.func116 (by kernel_rfl) (by kernel_rfl) hg
def g117_s1 (cl : CL) (v13 v14 : AV) (h : AH) (Q : QT) : Prop :=
  gB v13 (kArith h .eql v14 (.int .i64 9)) h fun v15 h =>
  wk (kPick h v13 (.bool true) v15) fun v16 h =>
  Q v16 h
def g117 (cl : CL) (v0 : AV) (h : AH) (Q : QT) : Prop :=
  wk (kArith h .eql v0 (.int .i64 2)) fun v4 h =>
  wsp v4 fun v5 =>
  wg (gdv false v5) (fun k => k v0 h) h fun v6 h =>
  gB v5 (kArith h .eql v6 (.int .i64 4)) h fun v7 h =>
  wk (kPick h v5 (.bool true) v7) fun v8 h =>
  wsp v8 fun v9 =>
  wg (gdv false v9) (fun k => k v0 h) h fun v10 h =>
  gB v9 (kArith h .eql v10 (.int .i64 7)) h fun v11 h =>
  wk (kPick h v9 (.bool true) v11) fun v12 h =>
  wsp v12 fun v13 =>
  wg (gdv false v13) (fun k => k v0 h) h fun v14 h =>
  g117_s1 cl v13 v14 h Q
theorem C117 {cl} (hcl : CLOk Tryz.prog cl) {v0 h Q} (hg : g117 cl v0 h Q) : CallsA Tryz.prog 117 [v0] h Q := wfnM hcl [] Tryz.func117 (by kernel_rfl) (by kernel_rfl) hg
def g121_s1 (cl : CL) (v1 v6 v10 v11 v12 : AV) (h : AH) (k : KT) : Prop :=
  wk (kFldA h 1 v6) fun v20 h =>
  wk (kLd1 h v20) fun v21 h =>
  k .ret [v1, v10, v11, v12] [v21] h
def g121_s2 (cl : CL) (v1 v10 v11 v12 : AV) (h : AH) (k : KT) : Prop :=
  wk (kArith h .add v12 (.int .i64 1)) fun v22 h =>
  k .nrm [v1, v10, v11, v22] [.undef] h
def g121_l1 (cl : CL) (v1 v10 v11 v12 : AV) (h : AH) (k : KT) : Prop :=
  wk (kArith h .lss v12 v11) fun v13 h =>
  wif v13 (
  wk (kIdxA h 2 v10 v12) fun v14 h =>
  wk (kLdn h 2 v14) fun v15 h =>
  wk (kNew h [.int .i64 0, .int .i64 0]) fun v6 h =>
  wk (kSt h 2 v6 v15) fun _ h =>
  wk (kFldA h 0 v6) fun v16 h =>
  wk (kLd1 h v16) fun v17 h =>
  wk (kArith h .eql v17 v1) fun v19 h =>
  wif v19 (
  g121_s1 cl v1 v6 v10 v11 v12 h k) (
  g121_s2 cl v1 v10 v11 v12 h k)) (
  k (.exit 0) [v1, v10, v11, v12] [.undef] h)
def g121_c2 (cl : CL) (h : AH) (Q : QT) : Prop :=
  Q ((.int .i64 0)) h
def g121_j3 (cl : CL) (x : AX) (v4 : AV) (h : AH) (Q : QT) : Prop :=
  xs x (g121_c2 cl h Q) (fun j => cond (Nat.beq j 0) (g121_c2 cl h Q) (False)) (Q v4 h)
def g121 (cl : CL) (v0 v1 : AV) (h : AH) (Q : QT) : Prop :=
  wk (kNilchk h v0) fun v8 h =>
  wk (kFldA h 3 v8) fun v9 h =>
  wk (kLd1 h v9) fun v10 h =>
  wk (kLen h v10) fun v11 h =>
  wloop (fun vs h k => g121_l1 cl (nthD vs 0) (nthD vs 1) (nthD vs 2) (nthD vs 3) h k) [v1, v10, v11, .int .i64 0] h fun x vs h => g121_j3 cl x (nthD vs 0) h Q
theorem C121 {cl} (hcl : CLOk Tryz.prog cl) {v0 v1 h Q} (hg : g121 cl v0 v1 h Q) : CallsA Tryz.prog 121 [v0, v1] h Q := wfnM hcl [(3,.l [1,10,11,12] [4])] Tryz.func121 (by kernel_rfl) (by kernel_rfl) hg
def g149_a1 (cl : CL) (v0 v1 v2 : AV) (h : AH) (k : NT) : Prop :=
  wk (kArith h .lss v0 v1) fun v10 h =>
  wsp v10 fun v11 =>
  wg (gdv false v11) (fun k => k v2 h) h fun v12 h =>
  wg (gdv false v11) (fun k => k v1 h) h fun v13 h =>
  gB v11 (kArith h .lss v12 v13) h fun v14 h =>
  wk (kPick h v11 (.bool true) v14) fun v15 h =>
  k [v0, v1, v2, v15] h
def g149_j2 (cl : CL) (v0 v1 v2 v7 : AV) (h : AH) (Q : QT) : Prop :=
  wif v7 (
  Q v1 h) (
  wk (kArith h .gtr v0 v2) fun v20 h =>
  wif v20 (
  Q v2 h) (
  Q v0 h))
def g149 (cl : CL) (v0 v1 v2 : AV) (h : AH) (Q : QT) : Prop :=
  wjoinN (g149_a1 cl v0 v1 v2 h) fun vs h => g149_j2 cl (nthD vs 0) (nthD vs 1) (nthD vs 2) (nthD vs 3) h Q
theorem C149 {cl} (hcl : CLOk Tryz.prog cl) {v0 v1 v2 h Q} (hg : g149 cl v0 v1 v2 h Q) : CallsA Tryz.prog 149 [v0, v1, v2] h Q := wfnM hcl [(2,.jn [0,1,2,7])] Tryz.func149 (by kernel_rfl) (by kernel_rfl) hg
end Go.Proofs.YtfegfialedlfcaaGreatDoor
end
