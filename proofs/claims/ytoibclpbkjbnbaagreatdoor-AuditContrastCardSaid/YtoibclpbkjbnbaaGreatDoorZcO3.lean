/- The functions that the law of AuditContrast runs through, fourth part: their code and what they are as plain definitions; written by a program. -/
import Derived.Test.YtoibclpbkjbnbaaGreatDoorEngOX
import Derived.Test.YtoibclpbkjbnbaaGreatDoorProg
import Derived.KernelRfl
set_option linter.unusedSimpArgs false
set_option linter.unusedVariables false
set_option linter.unnecessarySimpa false
noncomputable section
namespace Go.Proofs.YtoibclpbkjbnbaaGreatDoor
open Go.Eng
set_option maxRecDepth 100000
def S153.z0 : List AV := [.int .i64 0, .int .i64 0, .int .i64 0, .int .i64 0, .int .i64 0, .int .i64 0, .nilsl]
def S153.z1 : List AV := [.int .i64 0, .int .i64 0, .int .i64 0, .str [], .nilsl, .nilsl, .nilsl]
def S153.z2 : List AV := [.int .i64 0, .bool false, .int .i64 0, .int .i64 0, .int .i64 0]
/- widgetry/widgetryref29.way -/
def S153.r0 : List AOpr := [
  q 5 (.box (x 0)),
  q 10 (.new [.nilsl, .int .i64 0, .int .i64 0]),
  q 11 (.mov (.const (.bool false)))]
def S153.r1 : List AOpr := [
  q 25 (.mov (x 2)),
  q 26 (.fldA 0 (x 5)),
  q 27 (.ld1 (x 26)),
  q 28 (.call (.const (.func (.func 107) [] [])) [.tmp 25, .tmp 27]),
  q 24 (.mov (x 28)),
  q 29 (.ext (x 24) 0),
  q 30 (.ext (x 24) 1),
  q 12 (.new S153.z0),
  ⟨none, .st 7 (x 12) (x 29), none⟩,
  q 13 (.mov (x 30))]
def S153.r2 : List AOpr := [
  q 31 (.ldn 3 (x 5)),
  q 32 (.mov (x 1)),
  q 33 (.mov (x 2)),
  q 34 (.mov (x 3)),
  q 35 (.call (.const (.func (.func 177) [] [])) [.tmp 31, .tmp 32, .tmp 33, .tmp 34]),
  q 36 (.un .not (x 35)),
  q 37 (.mov (x 36)),
  ⟨some 38, .mov (x 13), some (37, false)⟩,
  ⟨some 39, .un .not (x 38), some (37, false)⟩,
  q 40 (.pick (x 37) (.const (.bool true)) (x 39))]
def S153.r3 : List AOpr := [
  q 41 (.build [.nilsl, .int .i64 0, .int .i64 0] []),
  ⟨none, .st 3 (x 10) (x 41), none⟩,
  q 11 (.mov (.const (.bool false)))]
def S153.r4 : List AOpr := [
  q 42 (.ldn 3 (x 5)),
  q 43 (.mov (x 4)),
  q 44 (.call (.const (.func (.func 151) [] [])) [.tmp 42, .tmp 43]),
  q 14 (.mov (x 44))]
def S153.r5 : List AOpr := [
  q 45 (.mov (x 14)),
  q 46 (.len (x 45)),
  q 47 (.arith .eql (x 46) (.const (.int .i64 0)))]
def S153.r6 : List AOpr := [
  q 48 (.build [.nilsl, .int .i64 0, .int .i64 0] []),
  ⟨none, .st 3 (x 10) (x 48), none⟩,
  q 11 (.mov (.const (.bool false)))]
def S153.r7 : List AOpr := [
  q 49 (.fldA 1 (x 12)),
  q 50 (.fldA 0 (x 49)),
  q 51 (.ld1 (x 50)),
  q 52 (.fldA 1 (x 12)),
  q 53 (.fldA 1 (x 52)),
  q 54 (.ld1 (x 53)),
  q 55 (.build [.nilsl, .int .i64 0, .int .i64 0] [(1, 1, .tmp 51), (2, 1, .tmp 54)]),
  q 15 (.new [.nilsl, .int .i64 0, .int .i64 0]),
  ⟨none, .st 3 (x 15) (x 55), none⟩]
def S153.r8 : List AOpr := [
  q 16 (.mov (.const (.int .i64 0)))]
def S153.r9 : List AOpr := [
  q 56 (.mov (x 16)),
  q 57 (.mov (x 14)),
  q 58 (.len (x 57)),
  q 59 (.arith .lss (x 56) (x 58))]
def S153.r10 : List (AOpr × Nat) := [
  (q 63 (.ldn 3 (x 5)), 0),
  (q 64 (.mov (x 14)), 0),
  (q 65 (.mov (x 16)), 0),
  (q 66 (.idxA 1 (x 64) (x 65)), 6),
  (q 67 (.ld1 (x 66)), 14),
  (q 68 (.call (.const (.func (.func 42) [] [])) [.tmp 63, .tmp 67]), 31),
  (q 62 (.mov (x 68)), 63),
  (q 69 (.ext (x 62) 0), 127),
  (q 70 (.ext (x 62) 1), 127),
  (q 17 (.new S153.z1), 0),
  (⟨none, .st 7 (x 17) (x 69), none⟩, 767),
  (q 18 (.mov (x 70)), 2047)]
def S153.r11 : List AOpr := [
  q 72 (.ldn 7 (x 17)),
  q 73 (.fldA 1 (x 15)),
  q 74 (.ld1 (x 73)),
  q 75 (.fldA 2 (x 15)),
  q 76 (.ld1 (x 75)),
  q 77 (.call (.const (.func (.func 178) [] [])) [.tmp 72, .tmp 74, .tmp 76]),
  q 71 (.mov (x 77)),
  q 78 (.ext (x 71) 0),
  q 79 (.ext (x 71) 1),
  q 19 (.new S153.z2),
  ⟨none, .st 5 (x 19) (x 78), none⟩,
  q 20 (.mov (x 79))]
def S153.r12 : List AOpr := [
  q 80 (.mov (x 20))]
def S153.r13 : List AOpr := [
  q 81 (.fldA 0 (x 15)),
  q 82 (.ld1 (x 81)),
  q 83 (.ldn 5 (x 19)),
  q 84 (.buildSl 5 1 S153.z2 [(0, 5, .tmp 83)]),
  q 85 (.app 5 40 (x 82) (x 84)),
  q 86 (.fldA 0 (x 15)),
  ⟨none, .st 1 (x 86) (x 85), none⟩]
def S153.r14 : List AOpr := [
  q 87 (.fldA 1 (x 15)),
  ⟨none, .st 1 (x 87) (.const (.int .i64 0)), none⟩,
  q 88 (.fldA 2 (x 15)),
  ⟨none, .st 1 (x 88) (.const (.int .i64 0)), none⟩]
def S153.r15 : List AOpr := [
  q 89 (.mov (x 16)),
  q 90 (.arith .add (x 89) (.const (.int .i64 1))),
  q 91 (.mov (x 14)),
  q 92 (.len (x 91)),
  q 93 (.arith .eql (x 90) (x 92))]
def S153.r16 : List AOpr := [
  q 21 (.mov (.const (.bool false)))]
def S153.r17 : List AOpr := [
  q 94 (.ldn 3 (x 5)),
  q 95 (.mov (x 2)),
  q 96 (.mov (x 3)),
  q 97 (.ldn 7 (x 17)),
  q 98 (.call (.const (.func (.func 179) [] [])) [.tmp 94, .tmp 95, .tmp 96, .tmp 97]),
  q 22 (.mov (x 98))]
def S153.r18 : List AOpr := [
  q 23 (.mov (.const (.int .i64 0)))]
def S153.r19 : List AOpr := [
  q 99 (.mov (x 23)),
  q 100 (.mov (x 22)),
  q 101 (.len (x 100)),
  q 102 (.arith .lss (x 99) (x 101))]
def S153.r20 : List (AOpr × Nat) := [
  (q 105 (.mov (x 22)), 0),
  (q 106 (.mov (x 23)), 0),
  (q 107 (.idxA 3 (x 105) (x 106)), 3),
  (q 108 (.fldA 0 (x 107)), 7),
  (q 109 (.ld1 (x 108)), 15),
  (q 110 (.mov (x 14)), 0),
  (q 111 (.mov (x 16)), 0),
  (q 112 (.arith .add (x 111) (.const (.int .i64 1))), 64),
  (q 113 (.idxA 1 (x 110) (x 112)), 224),
  (q 114 (.ld1 (x 113)), 480),
  (q 115 (.arith .eql (x 109) (x 114)), 1023)]
def S153.r21 : List (AOpr × Nat) := [
  (q 116 (.fldA 1 (x 15)), 0),
  (q 117 (.ld1 (x 116)), 1),
  (q 118 (.mov (x 22)), 0),
  (q 119 (.mov (x 23)), 0),
  (q 120 (.idxA 3 (x 118) (x 119)), 12),
  (q 121 (.fldA 1 (x 120)), 28),
  (q 122 (.ld1 (x 121)), 60),
  (q 123 (.arith .add (x 117) (x 122)), 127),
  (q 124 (.fldA 2 (x 15)), 0),
  (q 125 (.ld1 (x 124)), 256),
  (q 126 (.mov (x 22)), 0),
  (q 127 (.mov (x 23)), 0),
  (q 128 (.idxA 3 (x 126) (x 127)), 3072),
  (q 129 (.fldA 2 (x 128)), 7168),
  (q 130 (.ld1 (x 129)), 15360),
  (q 131 (.arith .add (x 125) (x 130)), 32512),
  (q 132 (.fldA 1 (x 15)), 1023),
  (⟨none, .st 1 (x 132) (x 123), none⟩, 66559),
  (q 133 (.fldA 2 (x 15)), 262143),
  (⟨none, .st 1 (x 133) (x 131), none⟩, 524287),
  (q 21 (.mov (.const (.bool true))), 1048575)]
def S153.r22 : List AOpr := [
  q 103 (.mov (x 23)),
  q 104 (.arith .add (x 103) (.const (.int .i64 1))),
  q 23 (.mov (x 104))]
def S153.r23 : List AOpr := [
  q 134 (.mov (x 21)),
  q 135 (.un .not (x 134))]
def S153.r24 : List AOpr := [
  q 136 (.build [.nilsl, .int .i64 0, .int .i64 0] []),
  ⟨none, .st 3 (x 10) (x 136), none⟩,
  q 11 (.mov (.const (.bool false)))]
def S153.r25 : List AOpr := [
  q 60 (.mov (x 16)),
  q 61 (.arith .add (x 60) (.const (.int .i64 1))),
  q 16 (.mov (x 61))]
def S153.r26 : List AOpr := [
  q 137 (.ldn 3 (x 15)),
  ⟨none, .st 3 (x 10) (x 137), none⟩,
  q 11 (.mov (.const (.bool true)))]
def S153 : SFn := ⟨138, [.cell 10 (some 3), .tmp 11], .seq (.reg S153.r0) (.seq (.reg S153.r1) (.seq (.seq (.joinN [2, 3, 4, 5, 10, 12, 40] (.reg S153.r2)) (.cond (x 40) (.seq (.reg S153.r3) (.ret)) (.skip))) (.seq (.reg S153.r4) (.seq (.seq (.reg S153.r5) (.cond (x 47) (.seq (.reg S153.r6) (.ret)) (.skip))) (.seq (.reg S153.r7) (.seq (.seq (.reg S153.r8) (.block 0 (.loop [2, 3, 5, 10, 14, 15, 16] [10, 11, 15] (.seq (.seq (.reg S153.r9) (.cond (x 59) (.skip) (.exit 0))) (.seq (.block 1 (.seq (.draw S153.r10) (.seq (.seq (.reg S153.r11) (.seq (.reg S153.r12) (.joinN [2, 3, 5, 10, 14, 15, 16, 17] (.cond (x 80) (.seq (.reg S153.r13) (.reg S153.r14)) (.skip))))) (.seq (.seq (.reg S153.r15) (.cond (x 93) (.exit 0) (.skip))) (.seq (.reg S153.r16) (.seq (.reg S153.r17) (.seq (.seq (.reg S153.r18) (.block 2 (.loop [2, 3, 5, 10, 14, 15, 16, 21, 22, 23] [2, 3, 5, 10, 14, 15, 16, 21] (.seq (.seq (.reg S153.r19) (.cond (x 102) (.skip) (.exit 2))) (.seq (.joinN [2, 3, 5, 10, 14, 15, 16, 21, 22, 23] (.block 3 (.seq (.draw S153.r20) (.cond (x 115) (.draw S153.r21) (.skip))))) (.reg S153.r22)))))) (.seq (.reg S153.r23) (.cond (x 135) (.seq (.reg S153.r24) (.ret)) (.skip)))))))))) (.reg S153.r25)))))) (.seq (.reg S153.r26) (.ret))))))))⟩
theorem S153_ok : EOk Tryz.prog 153 S153 := ⟨Tryz.f153, by kernel_rfl, by kernel_rfl, by decide, by kernel_rfl, its_nil (by kernel_rfl)⟩
def o153_a1 (cl : Handler) (N : Nat) (v1 v2 v3 v4 v5 v10 v12 v13 : AV) (h : AH) : Ans :=
  fst (kLdn h 3 v5) fun v31 h =>
  fst (cl 177 [v31, v1, v2, v3] h) fun v35 h =>
  fst (kUn h .not v35) fun v36 h =>
  fgd (gdv false v36) (kMov h v13) h fun v38 h =>
  fgd (gdv false v36) (kUn h .not v38) h fun v39 h =>
  fst (kPick h v36 (.bool true) v39) fun v40 h =>
  some (.nrm, [], [v2, v3, v4, v5, v10, v12, v40], h)
def o153_s1 (cl : Handler) (N : Nat) (v2 v3 v5 v10 v14 v15 v16 v17 v88 : AV) (h : AH) : Ans :=
  fst (kSt h 1 v88 (.int .i64 0)) fun _ h =>
  some (.nrm, [], [v2, v3, v5, v10, v14, v15, v16, v17], h)
def o153_a2 (cl : Handler) (N : Nat) (v2 v3 v5 v10 v14 v15 v16 v17 v19 v80 : AV) (h : AH) : Ans :=
  fif v80 (
  fst (kFldA h 0 v15) fun v81 h =>
  fst (kLd1 h v81) fun v82 h =>
  fst (kLdn h 5 v19) fun v83 h =>
  fst (kBuildSl h 5 1 S153.z2 [(0, 5, v83)]) fun v84 h =>
  fst (kApp h 5 40 v82 v84) fun v85 h =>
  fst (kFldA h 0 v15) fun v86 h =>
  fst (kSt h 1 v86 v85) fun _ h =>
  fst (kFldA h 1 v15) fun v87 h =>
  fst (kSt h 1 v87 (.int .i64 0)) fun _ h =>
  fst (kFldA h 2 v15) fun v88 h =>
  o153_s1 cl N v2 v3 v5 v10 v14 v15 v16 v17 v88 h) (
  some (.nrm, [], [v2, v3, v5, v10, v14, v15, v16, v17], h))
def o153_s2 (cl : Handler) (N : Nat) (c0 c1 c2 c3 c4 c5 c6 c7 c8 c9 c10 c11 c12 c13 c14 c15 c16 c17 c18 : Rec) (v2 v3 v5 v10 v14 v15 v16 v21 v22 v23 v131 v133 : AV) (h : AH) : Ans :=
  fde h (kSt h 1 v133 v131) fun _ c19 h =>
  fdp h (kMov h (.bool true)) .pure fun v21 c20 h =>
  cond (fchk [c0, c1, c2, c3, c4, c5, c6, c7, c8, c9, c10, c11, c12, c13, c14, c15, c16, c17, c18, c19, c20] [(14, 17)]) (some (.nrm, [], [v2, v3, v5, v10, v14, v15, v16, v21, v22, v23], h)) none
def o153_s3 (cl : Handler) (N : Nat) (c0 c1 c2 c3 c4 c5 c6 c7 c8 : Rec) (v2 v3 v5 v10 v14 v15 v16 v21 v22 v23 v123 v124 : AV) (h : AH) : Ans :=
  fdp h (kLd1 h v124) (rdK (rdv v124)) fun v125 c9 h =>
  fdp h (kMov h v22) .pure fun v126 c10 h =>
  fdp h (kMov h v23) .pure fun v127 c11 h =>
  fdp h (kIdxA h 3 v126 v127) .pure fun v128 c12 h =>
  fdp h (kFldA h 2 v128) .pure fun v129 c13 h =>
  fdp h (kLd1 h v129) (rdK (rdv v129)) fun v130 c14 h =>
  fdp h (kArith h .add v125 v130) .pure fun v131 c15 h =>
  fdp h (kFldA h 1 v15) .pure fun v132 c16 h =>
  fde h (kSt h 1 v132 v123) fun _ c17 h =>
  fdp h (kFldA h 2 v15) .pure fun v133 c18 h =>
  o153_s2 cl N c0 c1 c2 c3 c4 c5 c6 c7 c8 c9 c10 c11 c12 c13 c14 c15 c16 c17 c18 v2 v3 v5 v10 v14 v15 v16 v21 v22 v23 v131 v133 h
def o153_s4 (cl : Handler) (N : Nat) (r : Nat) (c0 c1 c2 c3 c4 c5 c6 c7 c8 c9 : Rec) (v2 v3 v5 v10 v14 v15 v16 v21 v22 v23 v109 v114 : AV) (h : AH) : Ans :=
  fdp h (kArith h .eql v109 v114) .pure fun v115 c10 h =>
  cond (fchk [c0, c1, c2, c3, c4, c5, c6, c7, c8, c9, c10] []) (fif v115 (
  fdr h 21 fun r h =>
  fdp h (kFldA h 1 v15) .pure fun v116 c0 h =>
  fdp h (kLd1 h v116) (rdK (rdv v116)) fun v117 c1 h =>
  fdp h (kMov h v22) .pure fun v118 c2 h =>
  fdp h (kMov h v23) .pure fun v119 c3 h =>
  fdp h (kIdxA h 3 v118 v119) .pure fun v120 c4 h =>
  fdp h (kFldA h 1 v120) .pure fun v121 c5 h =>
  fdp h (kLd1 h v121) (rdK (rdv v121)) fun v122 c6 h =>
  fdp h (kArith h .add v117 v122) .pure fun v123 c7 h =>
  fdp h (kFldA h 2 v15) .pure fun v124 c8 h =>
  o153_s3 cl N c0 c1 c2 c3 c4 c5 c6 c7 c8 v2 v3 v5 v10 v14 v15 v16 v21 v22 v23 v123 v124 h) (
  some (.nrm, [], [v2, v3, v5, v10, v14, v15, v16, v21, v22, v23], h))) none
def o153_a3 (cl : Handler) (N : Nat) (v2 v3 v5 v10 v14 v15 v16 v21 v22 v23 : AV) (h : AH) : Ans :=
  fdr h 11 fun r h =>
  fdp h (kMov h v22) .pure fun v105 c0 h =>
  fdp h (kMov h v23) .pure fun v106 c1 h =>
  fdp h (kIdxA h 3 v105 v106) .pure fun v107 c2 h =>
  fdp h (kFldA h 0 v107) .pure fun v108 c3 h =>
  fdp h (kLd1 h v108) (rdK (rdv v108)) fun v109 c4 h =>
  fdp h (kMov h v14) .pure fun v110 c5 h =>
  fdp h (kMov h v16) .pure fun v111 c6 h =>
  fdp h (kArith h .add v111 (.int .i64 1)) .pure fun v112 c7 h =>
  fdp h (kIdxA h 1 v110 v112) .pure fun v113 c8 h =>
  fdp h (kLd1 h v113) (rdK (rdv v113)) fun v114 c9 h =>
  o153_s4 cl N r c0 c1 c2 c3 c4 c5 c6 c7 c8 c9 v2 v3 v5 v10 v14 v15 v16 v21 v22 v23 v109 v114 h
def o153_j4 (cl : Handler) (N : Nat) (v2 v3 v5 v10 v14 v15 v16 v21 v22 v23 : AV) (h : AH) : Ans :=
  fst (kArith h .add v23 (.int .i64 1)) fun v104 h =>
  some (.nrm, [v2, v3, v5, v10, v14, v15, v16, v21, v22, v104], [v2, v3, v5, v10, v14, v15, v16, v21], h)
def o153_l5 (cl : Handler) (N : Nat) (v2 v3 v5 v10 v14 v15 v16 v21 v22 v23 : AV) (h : AH) : Ans :=
  fst (kLen h v22) fun v101 h =>
  fst (kArith h .lss v23 v101) fun v102 h =>
  fif v102 (
  fjn (o153_a3 cl N v2 v3 v5 v10 v14 v15 v16 v21 v22 v23 h) fun _ vs h => o153_j4 cl N (nthD vs 0) (nthD vs 1) (nthD vs 2) (nthD vs 3) (nthD vs 4) (nthD vs 5) (nthD vs 6) (nthD vs 7) (nthD vs 8) (nthD vs 9) h) (
  some ((.exit 2), [v2, v3, v5, v10, v14, v15, v16, v21, v22, v23], [v2, v3, v5, v10, v14, v15, v16, v21], h))
def o153_c6 (cl : Handler) (N : Nat) (v2 v3 v5 v10 v14 v15 v16 v21 : AV) (h : AH) : Ans :=
  fst (kUn h .not v21) fun v135 h =>
  fif v135 (
  fst (kBuild h [.nilsl, .int .i64 0, .int .i64 0] []) fun v136 h =>
  fst (kSt h 3 v10 v136) fun _ h =>
  some (.ret, [v2, v3, v5, v10, v14, v15, v16], [v10, (.bool false), v15], h)) (
  fst (kArith h .add v16 (.int .i64 1)) fun v61 h =>
  some (.nrm, [v2, v3, v5, v10, v14, v15, v61], [v10, .undef, v15], h))
def o153_j7 (cl : Handler) (N : Nat) (x : AX) (v2 v3 v5 v10 v14 v15 v16 v21 : AV) (h : AH) : Ans :=
  fxs x (o153_c6 cl N v2 v3 v5 v10 v14 v15 v16 v21 h) (fun j => cond (Nat.beq j 2) (o153_c6 cl N v2 v3 v5 v10 v14 v15 v16 v21 h) (cond (Nat.beq j 1) (fst (kArith h .add v16 (.int .i64 1)) fun v61 h =>
  some (.nrm, [v2, v3, v5, v10, v14, v15, v61], [v10, .undef, v15], h)) (some ((.exit j), [v2, v3, v5, v10, v14, v15, v16], [v10, .undef, v15], h)))) (some (.ret, [v2, v3, v5, v10, v14, v15, v16], [v10, .undef, v15], h))
def o153_j8 (cl : Handler) (N : Nat) (v2 v3 v5 v10 v14 v15 v16 v17 : AV) (h : AH) : Ans :=
  fst (kArith h .add v16 (.int .i64 1)) fun v90 h =>
  fst (kLen h v14) fun v92 h =>
  fst (kArith h .eql v90 v92) fun v93 h =>
  fif v93 (
  some ((.exit 0), [v2, v3, v5, v10, v14, v15, v16], [v10, .undef, v15], h)) (
  fst (kLdn h 3 v5) fun v94 h =>
  fst (kLdn h 7 v17) fun v97 h =>
  fst (cl 179 [v94, v2, v3, v97] h) fun v98 h =>
  fjn (fiter (fun vs h => o153_l5 cl N (nthD vs 0) (nthD vs 1) (nthD vs 2) (nthD vs 3) (nthD vs 4) (nthD vs 5) (nthD vs 6) (nthD vs 7) (nthD vs 8) (nthD vs 9) h) N [v2, v3, v5, v10, v14, v15, v16, (.bool false), v98, (.int .i64 0)] h) fun x vs h => o153_j7 cl N x (nthD vs 0) (nthD vs 1) (nthD vs 2) (nthD vs 3) (nthD vs 4) (nthD vs 5) (nthD vs 6) (nthD vs 7) h)
def o153_s5 (cl : Handler) (N : Nat) (v2 v3 v5 v10 v14 v15 v16 v17 v77 : AV) (h : AH) : Ans :=
  fst (kExt h v77 0) fun v78 h =>
  fst (kExt h v77 1) fun v79 h =>
  fst (kNew h S153.z2) fun v19 h =>
  fst (kSt h 5 v19 v78) fun _ h =>
  fjn (o153_a2 cl N v2 v3 v5 v10 v14 v15 v16 v17 v19 v79 h) fun _ vs h => o153_j8 cl N (nthD vs 0) (nthD vs 1) (nthD vs 2) (nthD vs 3) (nthD vs 4) (nthD vs 5) (nthD vs 6) (nthD vs 7) h
def o153_s6 (cl : Handler) (N : Nat) (r : Nat) (c0 c1 c2 c3 c4 c5 c6 c7 : Rec) (v2 v3 v5 v10 v14 v15 v16 v62 v69 : AV) (h : AH) : Ans :=
  fdp h (kExt h v62 1) .pure fun v70 c8 h =>
  fda (r + 9) h (alNew S153.z1) fun v17 c9 h =>
  fde h (kSt h 7 v17 v69) fun _ c10 h =>
  fdp h (kMov h v70) .pure fun v18 c11 h =>
  cond (fchk [c0, c1, c2, c3, c4, c5, c6, c7, c8, c9, c10, c11] [(0, 9), (4, 9)]) (fst (kLdn h 7 v17) fun v72 h =>
  fst (kFldA h 1 v15) fun v73 h =>
  fst (kLd1 h v73) fun v74 h =>
  fst (kFldA h 2 v15) fun v75 h =>
  fst (kLd1 h v75) fun v76 h =>
  fst (cl 178 [v72, v74, v76] h) fun v77 h =>
  o153_s5 cl N v2 v3 v5 v10 v14 v15 v16 v17 v77 h) none
def o153_l9 (cl : Handler) (N : Nat) (v2 v3 v5 v10 v14 v15 v16 : AV) (h : AH) : Ans :=
  fst (kLen h v14) fun v58 h =>
  fst (kArith h .lss v16 v58) fun v59 h =>
  fif v59 (
  fdr h 12 fun r h =>
  fdp h (kLdn h 3 v5) (rdK (rdv v5)) fun v63 c0 h =>
  fdp h (kMov h v14) .pure fun v64 c1 h =>
  fdp h (kMov h v16) .pure fun v65 c2 h =>
  fdp h (kIdxA h 1 v64 v65) .pure fun v66 c3 h =>
  fdp h (kLd1 h v66) (rdK (rdv v66)) fun v67 c4 h =>
  fde h (cl 42 [v63, v67] h) fun v68 c5 h =>
  fdp h (kMov h v68) .pure fun v62 c6 h =>
  fdp h (kExt h v62 0) .pure fun v69 c7 h =>
  o153_s6 cl N r c0 c1 c2 c3 c4 c5 c6 c7 v2 v3 v5 v10 v14 v15 v16 v62 v69 h) (
  some ((.exit 0), [v2, v3, v5, v10, v14, v15, v16], [v10, .undef, v15], h))
def o153_c10 (cl : Handler) (N : Nat) (v10 v15 : AV) (h : AH) : Ans :=
  fst (kLdn h 3 v15) fun v137 h =>
  fst (kSt h 3 v10 v137) fun _ h =>
  fres (aresV h [.cell (v10) (some 3), .val ((.bool true))]) h
def o153_j11 (cl : Handler) (N : Nat) (x : AX) (v10 v11 v15 : AV) (h : AH) : Ans :=
  fxs x (o153_c10 cl N v10 v15 h) (fun j => cond (Nat.beq j 0) (o153_c10 cl N v10 v15 h) (none)) (fres (aresV h [.cell (v10) (some 3), .val (v11)]) h)
def o153_s7 (cl : Handler) (N : Nat) (v2 v3 v5 v10 v14 v51 v54 : AV) (h : AH) : Ans :=
  fst (kBuild h [.nilsl, .int .i64 0, .int .i64 0] [(1, 1, v51), (2, 1, v54)]) fun v55 h =>
  fst (kNew h [.nilsl, .int .i64 0, .int .i64 0]) fun v15 h =>
  fst (kSt h 3 v15 v55) fun _ h =>
  fjn (fiter (fun vs h => o153_l9 cl N (nthD vs 0) (nthD vs 1) (nthD vs 2) (nthD vs 3) (nthD vs 4) (nthD vs 5) (nthD vs 6) h) N [v2, v3, v5, v10, v14, v15, (.int .i64 0)] h) fun x vs h => o153_j11 cl N x (nthD vs 0) (nthD vs 1) (nthD vs 2) h
def o153_j12 (cl : Handler) (N : Nat) (v2 v3 v4 v5 v10 v12 v40 : AV) (h : AH) : Ans :=
  fif v40 (
  fst (kBuild h [.nilsl, .int .i64 0, .int .i64 0] []) fun v41 h =>
  fst (kSt h 3 v10 v41) fun _ h =>
  fres (aresV h [.cell (v10) (some 3), .val ((.bool false))]) h) (
  fst (kLdn h 3 v5) fun v42 h =>
  fst (cl 151 [v42, v4] h) fun v44 h =>
  fst (kLen h v44) fun v46 h =>
  fst (kArith h .eql v46 (.int .i64 0)) fun v47 h =>
  fif v47 (
  fst (kBuild h [.nilsl, .int .i64 0, .int .i64 0] []) fun v48 h =>
  fst (kSt h 3 v10 v48) fun _ h =>
  fres (aresV h [.cell (v10) (some 3), .val ((.bool false))]) h) (
  fst (kFldA h 1 v12) fun v49 h =>
  fst (kFldA h 0 v49) fun v50 h =>
  fst (kLd1 h v50) fun v51 h =>
  fst (kFldA h 1 v12) fun v52 h =>
  fst (kFldA h 1 v52) fun v53 h =>
  fst (kLd1 h v53) fun v54 h =>
  o153_s7 cl N v2 v3 v5 v10 v44 v51 v54 h))
def o153 (cl : Handler) (N : Nat) (v0 v1 v2 v3 v4 : AV) (h : AH) : Ans :=
  fst (kBox h v0) fun v5 h =>
  fst (kNew h [.nilsl, .int .i64 0, .int .i64 0]) fun v10 h =>
  fst (kFldA h 0 v5) fun v26 h =>
  fst (kLd1 h v26) fun v27 h =>
  fst (cl 107 [v2, v27] h) fun v28 h =>
  fst (kExt h v28 0) fun v29 h =>
  fst (kExt h v28 1) fun v30 h =>
  fst (kNew h S153.z0) fun v12 h =>
  fst (kSt h 7 v12 v29) fun _ h =>
  fjn (o153_a1 cl N v1 v2 v3 v4 v5 v10 v12 v30 h) fun _ vs h => o153_j12 cl N (nthD vs 0) (nthD vs 1) (nthD vs 2) (nthD vs 3) (nthD vs 4) (nthD vs 5) (nthD vs 6) h
theorem o153_eq (cl : Handler) (N : Nat) (v0 v1 v2 v3 v4 : AV) (h : AH) : frun cl N S153 [v0, v1, v2, v3, v4] h = fans (o153 cl N v0 v1 v2 v3 v4 h) := by kernel_rfl
def w153 (N : Nat) : OF := fun cl args h => match args with
  | [v0, v1, v2, v3, v4] => fans (o153 cl N v0 v1 v2 v3 v4 h)
  | _ => none
theorem w153_ok (N : Nat) : OkF Tryz.prog 153 (w153 N) := .of (N := N) (S153_ok) fun cl args h r hr => by
  unfold w153 at hr
  split at hr
  · exact (o153_eq cl N _ _ _ _ _ _).trans hr
  · cases hr

def S158.z0 : List AV := [.int .i64 0, .int .i64 0, .int .i64 0, .str [], .nilsl, .nilsl, .nilsl]
/- widgetry/view.graph -/
def S158.r0 : List AOpr := [
  q 1 (.box (x 0)),
  q 2 (.mov (.const (.nilmap))),
  q 3 (.mov (.const (.bool false)))]
def S158.r1 : List AOpr := [
  q 17 (.fldA 1 (x 1)),
  q 18 (.ld1 (x 17)),
  q 19 (.arith .lss (x 18) (.const (.int .i64 2))),
  q 20 (.mov (x 19)),
  ⟨some 21, .fldA 1 (x 1), some (20, false)⟩,
  ⟨some 22, .ld1 (x 21), some (20, false)⟩,
  ⟨some 23, .arith .gtr (x 22) (.const (.int .i64 1099511627776)), some (20, false)⟩,
  q 24 (.pick (x 20) (.const (.bool true)) (x 23)),
  q 25 (.mov (x 24)),
  ⟨some 26, .fldA 2 (x 1), some (25, false)⟩,
  ⟨some 27, .ld1 (x 26), some (25, false)⟩,
  ⟨some 28, .len (x 27), some (25, false)⟩,
  ⟨some 29, .arith .lss (x 28) (.const (.int .i64 1)), some (25, false)⟩,
  q 30 (.pick (x 25) (.const (.bool true)) (x 29)),
  q 31 (.mov (x 30)),
  ⟨some 32, .fldA 2 (x 1), some (31, false)⟩,
  ⟨some 33, .ld1 (x 32), some (31, false)⟩,
  ⟨some 34, .len (x 33), some (31, false)⟩,
  ⟨some 35, .arith .gtr (x 34) (.const (.int .i64 400)), some (31, false)⟩,
  q 36 (.pick (x 31) (.const (.bool true)) (x 35))]
def S158.r2 : List AOpr := [
  q 2 (.mov (.const (.nilmap))),
  q 3 (.mov (.const (.bool false)))]
def S158.r3 : List AOpr := [
  q 37 (.xo .mkmap []),
  q 4 (.mov (x 37))]
def S158.r4 : List AOpr := [
  q 5 (.mov (.const (.int .i64 0)))]
def S158.r5 : List AOpr := [
  q 38 (.fldA 2 (x 1)),
  q 39 (.ld1 (x 38)),
  q 40 (.len (x 39)),
  q 41 (.mov (.const (.int .i64 0)))]
def S158.r6 : List AOpr := [
  q 42 (.arith .lss (x 41) (x 40))]
def S158.r7 : List AOpr := [
  q 43 (.idxA 7 (x 39) (x 41)),
  q 44 (.ldn 7 (x 43)),
  q 7 (.new S158.z0),
  ⟨none, .st 7 (x 7) (x 44), none⟩]
def S158.r8 : List AOpr := [
  q 45 (.fldA 0 (x 7)),
  q 46 (.ld1 (x 45)),
  q 47 (.mov (x 5)),
  q 48 (.arith .leq (x 46) (x 47)),
  q 49 (.mov (x 48)),
  ⟨some 50, .fldA 0 (x 7), some (49, false)⟩,
  ⟨some 51, .ld1 (x 50), some (49, false)⟩,
  ⟨some 52, .fldA 1 (x 1), some (49, false)⟩,
  ⟨some 53, .ld1 (x 52), some (49, false)⟩,
  ⟨some 54, .arith .geq (x 51) (x 53), some (49, false)⟩,
  q 55 (.pick (x 49) (.const (.bool true)) (x 54)),
  q 56 (.mov (x 55)),
  ⟨some 57, .fldA 1 (x 7), some (56, false)⟩,
  ⟨some 58, .ld1 (x 57), some (56, false)⟩,
  ⟨some 59, .arith .eql (x 58) (.const (.int .i64 0)), some (56, false)⟩,
  ⟨some 60, .fldA 0 (x 7), some (56, false)⟩,
  ⟨some 61, .ld1 (x 60), some (56, false)⟩,
  ⟨some 62, .fldA 0 (x 1), some (56, false)⟩,
  ⟨some 63, .ld1 (x 62), some (56, false)⟩,
  ⟨some 64, .arith .eql (x 61) (x 63), some (56, false)⟩,
  ⟨some 65, .eqs true (x 59) (x 64), some (56, false)⟩,
  q 66 (.pick (x 56) (.const (.bool true)) (x 65))]
def S158.r9 : List AOpr := [
  q 2 (.mov (.const (.nilmap))),
  q 3 (.mov (.const (.bool false)))]
def S158.r10 : List AOpr := [
  q 67 (.fldA 0 (x 7)),
  q 68 (.ld1 (x 67)),
  q 5 (.mov (x 68))]
def S158.r11 : List AOpr := [
  q 69 (.mov (x 4)),
  q 70 (.fldA 0 (x 7)),
  q 71 (.ld1 (x 70)),
  q 72 (.ldn 7 (x 7)),
  ⟨none, .xo (.mapset (.int .i64)) [.tmp 69, .tmp 71, .tmp 72], none⟩]
def S158.r12 : List AOpr := [
  q 73 (.arith .add (x 41) (.const (.int .i64 1))),
  q 41 (.mov (x 73))]
def S158.r13 : List AOpr := [
  q 75 (.mov (x 4)),
  q 76 (.fldA 0 (x 1)),
  q 77 (.ld1 (x 76)),
  q 78 (.xo (.mapget (.int .i64) true (.agg S158.z0)) [.tmp 75, .tmp 77]),
  q 74 (.mov (x 78)),
  q 79 (.ext (x 74) 0),
  q 80 (.ext (x 74) 1),
  q 8 (.new S158.z0),
  ⟨none, .st 7 (x 8) (x 79), none⟩,
  q 9 (.mov (x 80))]
def S158.r14 : List AOpr := [
  q 81 (.mov (x 9)),
  q 82 (.un .not (x 81))]
def S158.r15 : List AOpr := [
  q 2 (.mov (.const (.nilmap))),
  q 3 (.mov (.const (.bool false)))]
def S158.r16 : List AOpr := [
  q 83 (.xo .mkmap []),
  q 84 (.fldA 0 (x 1)),
  q 85 (.ld1 (x 84)),
  ⟨none, .xo (.mapset (.int .i64)) [.tmp 83, .tmp 85, .const (.bool true)], none⟩,
  q 86 (.mov (x 83)),
  q 10 (.mov (x 86))]
def S158.r17 : List AOpr := [
  q 87 (.fldA 2 (x 1)),
  q 88 (.ld1 (x 87)),
  q 89 (.len (x 88)),
  q 90 (.mov (.const (.int .i64 0)))]
def S158.r18 : List AOpr := [
  q 91 (.arith .lss (x 90) (x 89))]
def S158.r19 : List AOpr := [
  q 92 (.idxA 7 (x 88) (x 90)),
  q 93 (.ldn 7 (x 92)),
  q 12 (.new S158.z0),
  ⟨none, .st 7 (x 12) (x 93), none⟩]
def S158.r20 : List AOpr := [
  q 94 (.fldA 6 (x 12)),
  q 95 (.ld1 (x 94)),
  q 96 (.len (x 95)),
  q 97 (.mov (.const (.int .i64 0)))]
def S158.r21 : List AOpr := [
  q 98 (.arith .lss (x 97) (x 96))]
def S158.r22 : List AOpr := [
  q 99 (.idxA 1 (x 95) (x 97)),
  q 100 (.ld1 (x 99)),
  q 14 (.mov (x 100))]
def S158.r23 : List AOpr := [
  q 102 (.mov (x 4)),
  q 103 (.mov (x 14)),
  q 104 (.xo (.mapget (.int .i64) true (.agg S158.z0)) [.tmp 102, .tmp 103]),
  q 101 (.mov (x 104)),
  q 105 (.ext (x 101) 0),
  q 106 (.ext (x 101) 1),
  q 15 (.new S158.z0),
  ⟨none, .st 7 (x 15) (x 105), none⟩,
  q 16 (.mov (x 106))]
def S158.r24 : List AOpr := [
  q 107 (.mov (x 16)),
  q 108 (.un .not (x 107)),
  q 109 (.mov (x 108)),
  ⟨some 110, .fldA 1 (x 15), some (109, false)⟩,
  ⟨some 111, .ld1 (x 110), some (109, false)⟩,
  ⟨some 112, .fldA 0 (x 12), some (109, false)⟩,
  ⟨some 113, .ld1 (x 112), some (109, false)⟩,
  ⟨some 114, .arith .neq (x 111) (x 113), some (109, false)⟩,
  q 115 (.pick (x 109) (.const (.bool true)) (x 114)),
  q 116 (.mov (x 115)),
  ⟨some 117, .mov (x 10), some (116, false)⟩,
  ⟨some 118, .mov (x 14), some (116, false)⟩,
  ⟨some 119, .xo (.mapget (.int .i64) false (.bool false)) [.tmp 117, .tmp 118], some (116, false)⟩,
  q 120 (.pick (x 116) (.const (.bool true)) (x 119))]
def S158.r25 : List AOpr := [
  q 2 (.mov (.const (.nilmap))),
  q 3 (.mov (.const (.bool false)))]
def S158.r26 : List AOpr := [
  q 121 (.mov (x 10)),
  q 122 (.mov (x 14)),
  ⟨none, .xo (.mapset (.int .i64)) [.tmp 121, .tmp 122, .const (.bool true)], none⟩]
def S158.r27 : List AOpr := [
  q 123 (.arith .add (x 97) (.const (.int .i64 1))),
  q 97 (.mov (x 123))]
def S158.r28 : List AOpr := [
  q 124 (.arith .add (x 90) (.const (.int .i64 1))),
  q 90 (.mov (x 124))]
def S158.r29 : List AOpr := [
  q 125 (.mov (x 10)),
  q 126 (.xo .maplen [.tmp 125]),
  q 127 (.mov (x 4)),
  q 128 (.xo .maplen [.tmp 127]),
  q 129 (.arith .neq (x 126) (x 128))]
def S158.r30 : List AOpr := [
  q 2 (.mov (.const (.nilmap))),
  q 3 (.mov (.const (.bool false)))]
def S158.r31 : List AOpr := [
  q 130 (.mov (x 4)),
  q 131 (.mov (x 4)),
  q 132 (.fldA 0 (x 1)),
  q 133 (.ld1 (x 132)),
  q 134 (.call (.const (.func (.func 69) [] [])) [.tmp 131, .tmp 133]),
  q 135 (.len (x 134)),
  q 136 (.mov (x 4)),
  q 137 (.xo .maplen [.tmp 136]),
  q 138 (.arith .eql (x 135) (x 137)),
  q 2 (.mov (x 130)),
  q 3 (.mov (x 138))]
def S158 : SFn := ⟨139, [.tmp 2, .tmp 3], .seq (.reg S158.r0) (.seq (.seq (.joinN [1, 36] (.reg S158.r1)) (.cond (x 36) (.seq (.reg S158.r2) (.ret)) (.skip))) (.seq (.reg S158.r3) (.seq (.reg S158.r4) (.seq (.seq (.reg S158.r5) (.block 0 (.loop [1, 4, 5, 39, 40, 41] [1, 2, 3, 4] (.seq (.reg S158.r6) (.seq (.cond (x 42) (.skip) (.exit 0)) (.seq (.block 1 (.seq (.reg S158.r7) (.seq (.seq (.joinN [1, 4, 7, 39, 40, 41, 66] (.reg S158.r8)) (.cond (x 66) (.seq (.reg S158.r9) (.ret)) (.skip))) (.seq (.reg S158.r10) (.reg S158.r11))))) (.reg S158.r12))))))) (.seq (.seq (.reg S158.r13) (.seq (.reg S158.r14) (.cond (x 82) (.seq (.reg S158.r15) (.ret)) (.skip)))) (.seq (.reg S158.r16) (.seq (.seq (.reg S158.r17) (.block 2 (.loop [1, 4, 10, 88, 89, 90] [1, 2, 3, 4, 10] (.seq (.reg S158.r18) (.seq (.cond (x 91) (.skip) (.exit 2)) (.seq (.block 3 (.seq (.reg S158.r19) (.seq (.reg S158.r20) (.block 4 (.loop [1, 4, 10, 12, 88, 89, 90, 95, 96, 97] [1, 2, 3, 4, 10, 88, 89, 90] (.seq (.reg S158.r21) (.seq (.cond (x 98) (.skip) (.exit 4)) (.seq (.block 5 (.seq (.reg S158.r22) (.seq (.seq (.reg S158.r23) (.seq (.joinN [1, 4, 10, 12, 14, 88, 89, 90, 95, 96, 97, 120] (.reg S158.r24)) (.cond (x 120) (.seq (.reg S158.r25) (.ret)) (.skip)))) (.reg S158.r26)))) (.reg S158.r27))))))))) (.reg S158.r28))))))) (.seq (.seq (.reg S158.r29) (.cond (x 129) (.seq (.reg S158.r30) (.ret)) (.skip))) (.seq (.reg S158.r31) (.ret))))))))))⟩
theorem S158_ok : EOk Tryz.prog 158 S158 := ⟨Tryz.f158, by kernel_rfl, by kernel_rfl, by decide, by kernel_rfl, its_nil (by kernel_rfl)⟩
def o158_s1 (cl : Handler) (N : Nat) (v1 v25 v28 : AV) (h : AH) : Ans :=
  fgd (gdv false v25) (kArith h .lss v28 (.int .i64 1)) h fun v29 h =>
  fst (kPick h v25 (.bool true) v29) fun v30 h =>
  fgd (gdv false v30) (kFldA h 2 v1) h fun v32 h =>
  fgd (gdv false v30) (kLd1 h v32) h fun v33 h =>
  fgd (gdv false v30) (kLen h v33) h fun v34 h =>
  fgd (gdv false v30) (kArith h .gtr v34 (.int .i64 400)) h fun v35 h =>
  fst (kPick h v30 (.bool true) v35) fun v36 h =>
  some (.nrm, [], [v1, v36], h)
def o158_a1 (cl : Handler) (N : Nat) (v1 : AV) (h : AH) : Ans :=
  fst (kFldA h 1 v1) fun v17 h =>
  fst (kLd1 h v17) fun v18 h =>
  fst (kArith h .lss v18 (.int .i64 2)) fun v19 h =>
  fgd (gdv false v19) (kFldA h 1 v1) h fun v21 h =>
  fgd (gdv false v19) (kLd1 h v21) h fun v22 h =>
  fgd (gdv false v19) (kArith h .gtr v22 (.int .i64 1099511627776)) h fun v23 h =>
  fst (kPick h v19 (.bool true) v23) fun v24 h =>
  fgd (gdv false v24) (kFldA h 2 v1) h fun v26 h =>
  fgd (gdv false v24) (kLd1 h v26) h fun v27 h =>
  fgd (gdv false v24) (kLen h v27) h fun v28 h =>
  o158_s1 cl N v1 v24 v28 h
def o158_s2 (cl : Handler) (N : Nat) (v1 v4 v7 v39 v40 v41 v56 v57 : AV) (h : AH) : Ans :=
  fgd (gdv false v56) (kLd1 h v57) h fun v58 h =>
  fgd (gdv false v56) (kArith h .eql v58 (.int .i64 0)) h fun v59 h =>
  fgd (gdv false v56) (kFldA h 0 v7) h fun v60 h =>
  fgd (gdv false v56) (kLd1 h v60) h fun v61 h =>
  fgd (gdv false v56) (kFldA h 0 v1) h fun v62 h =>
  fgd (gdv false v56) (kLd1 h v62) h fun v63 h =>
  fgd (gdv false v56) (kArith h .eql v61 v63) h fun v64 h =>
  fgd (gdv false v56) (kEqs h true v59 v64) h fun v65 h =>
  fst (kPick h v56 (.bool true) v65) fun v66 h =>
  some (.nrm, [], [v1, v4, v7, v39, v40, v41, v66], h)
def o158_a2 (cl : Handler) (N : Nat) (v1 v4 v5 v7 v39 v40 v41 : AV) (h : AH) : Ans :=
  fst (kFldA h 0 v7) fun v45 h =>
  fst (kLd1 h v45) fun v46 h =>
  fst (kArith h .leq v46 v5) fun v48 h =>
  fgd (gdv false v48) (kFldA h 0 v7) h fun v50 h =>
  fgd (gdv false v48) (kLd1 h v50) h fun v51 h =>
  fgd (gdv false v48) (kFldA h 1 v1) h fun v52 h =>
  fgd (gdv false v48) (kLd1 h v52) h fun v53 h =>
  fgd (gdv false v48) (kArith h .geq v51 v53) h fun v54 h =>
  fst (kPick h v48 (.bool true) v54) fun v55 h =>
  fgd (gdv false v55) (kFldA h 1 v7) h fun v57 h =>
  o158_s2 cl N v1 v4 v7 v39 v40 v41 v55 v57 h
def o158_j3 (cl : Handler) (N : Nat) (v1 v4 v7 v39 v40 v41 v66 : AV) (h : AH) : Ans :=
  fif v66 (
  some (.ret, [v1, v4, .undef, v39, v40, v41], [v1, (.nilmap), (.bool false), v4], h)) (
  fst (kFldA h 0 v7) fun v67 h =>
  fst (kLd1 h v67) fun v68 h =>
  fst (kFldA h 0 v7) fun v70 h =>
  fst (kLd1 h v70) fun v71 h =>
  fst (kLdn h 7 v7) fun v72 h =>
  fst (kX h (.mapset (.int .i64)) [v4, v71, v72]) fun _ h =>
  fst (kArith h .add v41 (.int .i64 1)) fun v73 h =>
  some (.nrm, [v1, v4, v68, v39, v40, v73], [v1, .undef, .undef, v4], h))
def o158_l4 (cl : Handler) (N : Nat) (v1 v4 v5 v39 v40 v41 : AV) (h : AH) : Ans :=
  fst (kArith h .lss v41 v40) fun v42 h =>
  fif v42 (
  fst (kIdxA h 7 v39 v41) fun v43 h =>
  fst (kLdn h 7 v43) fun v44 h =>
  fst (kNew h S158.z0) fun v7 h =>
  fst (kSt h 7 v7 v44) fun _ h =>
  fjn (o158_a2 cl N v1 v4 v5 v7 v39 v40 v41 h) fun _ vs h => o158_j3 cl N (nthD vs 0) (nthD vs 1) (nthD vs 2) (nthD vs 3) (nthD vs 4) (nthD vs 5) (nthD vs 6) h) (
  some ((.exit 0), [v1, v4, v5, v39, v40, v41], [v1, .undef, .undef, v4], h))
def o158_s3 (cl : Handler) (N : Nat) (v1 v4 v10 v12 v14 v88 v89 v90 v95 v96 v97 v116 v119 : AV) (h : AH) : Ans :=
  fst (kPick h v116 (.bool true) v119) fun v120 h =>
  some (.nrm, [], [v1, v4, v10, v12, v14, v88, v89, v90, v95, v96, v97, v120], h)
def o158_a5 (cl : Handler) (N : Nat) (v1 v4 v10 v12 v14 v15 v16 v88 v89 v90 v95 v96 v97 : AV) (h : AH) : Ans :=
  fst (kUn h .not v16) fun v108 h =>
  fgd (gdv false v108) (kFldA h 1 v15) h fun v110 h =>
  fgd (gdv false v108) (kLd1 h v110) h fun v111 h =>
  fgd (gdv false v108) (kFldA h 0 v12) h fun v112 h =>
  fgd (gdv false v108) (kLd1 h v112) h fun v113 h =>
  fgd (gdv false v108) (kArith h .neq v111 v113) h fun v114 h =>
  fst (kPick h v108 (.bool true) v114) fun v115 h =>
  fgd (gdv false v115) (kMov h v10) h fun v117 h =>
  fgd (gdv false v115) (kMov h v14) h fun v118 h =>
  fgd (gdv false v115) (kX h (.mapget (.int .i64) false (.bool false)) [v117, v118]) h fun v119 h =>
  o158_s3 cl N v1 v4 v10 v12 v14 v88 v89 v90 v95 v96 v97 v115 v119 h
def o158_j6 (cl : Handler) (N : Nat) (v1 v4 v10 v12 v14 v88 v89 v90 v95 v96 v97 v120 : AV) (h : AH) : Ans :=
  fif v120 (
  some (.ret, [v1, v4, v10, v12, v88, v89, v90, v95, v96, v97], [v1, (.nilmap), (.bool false), v4, v10, v88, v89, v90], h)) (
  fst (kX h (.mapset (.int .i64)) [v10, v14, (.bool true)]) fun _ h =>
  fst (kArith h .add v97 (.int .i64 1)) fun v123 h =>
  some (.nrm, [v1, v4, v10, v12, v88, v89, v90, v95, v96, v123], [v1, .undef, .undef, v4, v10, v88, v89, v90], h))
def o158_l7 (cl : Handler) (N : Nat) (v1 v4 v10 v12 v88 v89 v90 v95 v96 v97 : AV) (h : AH) : Ans :=
  fst (kArith h .lss v97 v96) fun v98 h =>
  fif v98 (
  fst (kIdxA h 1 v95 v97) fun v99 h =>
  fst (kLd1 h v99) fun v100 h =>
  fst (kX h (.mapget (.int .i64) true (.agg S158.z0)) [v4, v100]) fun v104 h =>
  fst (kExt h v104 0) fun v105 h =>
  fst (kExt h v104 1) fun v106 h =>
  fst (kNew h S158.z0) fun v15 h =>
  fst (kSt h 7 v15 v105) fun _ h =>
  fjn (o158_a5 cl N v1 v4 v10 v12 v100 v15 v106 v88 v89 v90 v95 v96 v97 h) fun _ vs h => o158_j6 cl N (nthD vs 0) (nthD vs 1) (nthD vs 2) (nthD vs 3) (nthD vs 4) (nthD vs 5) (nthD vs 6) (nthD vs 7) (nthD vs 8) (nthD vs 9) (nthD vs 10) (nthD vs 11) h) (
  some ((.exit 4), [v1, v4, v10, v12, v88, v89, v90, v95, v96, v97], [v1, .undef, .undef, v4, v10, v88, v89, v90], h))
def o158_c8 (cl : Handler) (N : Nat) (v1 v2 v3 v4 v10 v88 v89 v90 : AV) (h : AH) : Ans :=
  fst (kArith h .add v90 (.int .i64 1)) fun v124 h =>
  some (.nrm, [v1, v4, v10, v88, v89, v124], [v1, v2, v3, v4, v10], h)
def o158_j9 (cl : Handler) (N : Nat) (x : AX) (v1 v2 v3 v4 v10 v88 v89 v90 : AV) (h : AH) : Ans :=
  fxs x (o158_c8 cl N v1 v2 v3 v4 v10 v88 v89 v90 h) (fun j => cond (Nat.beq j 4) (o158_c8 cl N v1 v2 v3 v4 v10 v88 v89 v90 h) (cond (Nat.beq j 3) (fst (kArith h .add v90 (.int .i64 1)) fun v124 h =>
  some (.nrm, [v1, v4, v10, v88, v89, v124], [v1, v2, v3, v4, v10], h)) (some ((.exit j), [v1, v4, v10, v88, v89, v90], [v1, v2, v3, v4, v10], h)))) (some (.ret, [v1, v4, v10, v88, v89, v90], [v1, v2, v3, v4, v10], h))
def o158_l10 (cl : Handler) (N : Nat) (v1 v4 v10 v88 v89 v90 : AV) (h : AH) : Ans :=
  fst (kArith h .lss v90 v89) fun v91 h =>
  fif v91 (
  fst (kIdxA h 7 v88 v90) fun v92 h =>
  fst (kLdn h 7 v92) fun v93 h =>
  fst (kNew h S158.z0) fun v12 h =>
  fst (kSt h 7 v12 v93) fun _ h =>
  fst (kFldA h 6 v12) fun v94 h =>
  fst (kLd1 h v94) fun v95 h =>
  fst (kLen h v95) fun v96 h =>
  fjn (fiter (fun vs h => o158_l7 cl N (nthD vs 0) (nthD vs 1) (nthD vs 2) (nthD vs 3) (nthD vs 4) (nthD vs 5) (nthD vs 6) (nthD vs 7) (nthD vs 8) (nthD vs 9) h) N [v1, v4, v10, v12, v88, v89, v90, v95, v96, (.int .i64 0)] h) fun x vs h => o158_j9 cl N x (nthD vs 0) (nthD vs 1) (nthD vs 2) (nthD vs 3) (nthD vs 4) (nthD vs 5) (nthD vs 6) (nthD vs 7) h) (
  some ((.exit 2), [v1, v4, v10, v88, v89, v90], [v1, .undef, .undef, v4, v10], h))
def o158_c11 (cl : Handler) (N : Nat) (v1 v4 v10 : AV) (h : AH) : Ans :=
  fst (kX h .maplen [v10]) fun v126 h =>
  fst (kX h .maplen [v4]) fun v128 h =>
  fst (kArith h .neq v126 v128) fun v129 h =>
  fif v129 (
  some (.nrm, [], [.tup [(.nilmap), (.bool false)]], h)) (
  fst (kFldA h 0 v1) fun v132 h =>
  fst (kLd1 h v132) fun v133 h =>
  fst (cl 69 [v4, v133] h) fun v134 h =>
  fst (kLen h v134) fun v135 h =>
  fst (kX h .maplen [v4]) fun v137 h =>
  fst (kArith h .eql v135 v137) fun v138 h =>
  some (.nrm, [], [.tup [v4, v138]], h))
def o158_j12 (cl : Handler) (N : Nat) (x : AX) (v1 v2 v3 v4 v10 : AV) (h : AH) : Ans :=
  fxs x (o158_c11 cl N v1 v4 v10 h) (fun j => cond (Nat.beq j 2) (o158_c11 cl N v1 v4 v10 h) (none)) (some (.nrm, [], [.tup [v2, v3]], h))
def o158_s4 (cl : Handler) (N : Nat) (v1 v4 v83 v84 : AV) (h : AH) : Ans :=
  fst (kLd1 h v84) fun v85 h =>
  fst (kX h (.mapset (.int .i64)) [v83, v85, (.bool true)]) fun _ h =>
  fst (kFldA h 2 v1) fun v87 h =>
  fst (kLd1 h v87) fun v88 h =>
  fst (kLen h v88) fun v89 h =>
  fjn (fiter (fun vs h => o158_l10 cl N (nthD vs 0) (nthD vs 1) (nthD vs 2) (nthD vs 3) (nthD vs 4) (nthD vs 5) h) N [v1, v4, v83, v88, v89, (.int .i64 0)] h) fun x vs h => o158_j12 cl N x (nthD vs 0) (nthD vs 1) (nthD vs 2) (nthD vs 3) (nthD vs 4) h
def o158_c13 (cl : Handler) (N : Nat) (v1 v4 : AV) (h : AH) : Ans :=
  fst (kFldA h 0 v1) fun v76 h =>
  fst (kLd1 h v76) fun v77 h =>
  fst (kX h (.mapget (.int .i64) true (.agg S158.z0)) [v4, v77]) fun v78 h =>
  fst (kExt h v78 0) fun v79 h =>
  fst (kExt h v78 1) fun v80 h =>
  fst (kNew h S158.z0) fun v8 h =>
  fst (kSt h 7 v8 v79) fun _ h =>
  fst (kUn h .not v80) fun v82 h =>
  fif v82 (
  some (.nrm, [], [.tup [(.nilmap), (.bool false)]], h)) (
  fst (kX h .mkmap []) fun v83 h =>
  fst (kFldA h 0 v1) fun v84 h =>
  o158_s4 cl N v1 v4 v83 v84 h)
def o158_j14 (cl : Handler) (N : Nat) (x : AX) (v1 v2 v3 v4 : AV) (h : AH) : Ans :=
  fxs x (o158_c13 cl N v1 v4 h) (fun j => cond (Nat.beq j 0) (o158_c13 cl N v1 v4 h) (none)) (some (.nrm, [], [.tup [v2, v3]], h))
def o158_j15 (cl : Handler) (N : Nat) (v1 v36 : AV) (h : AH) : Ans :=
  fif v36 (
  some (.nrm, [], [.tup [(.nilmap), (.bool false)]], h)) (
  fst (kX h .mkmap []) fun v37 h =>
  fst (kFldA h 2 v1) fun v38 h =>
  fst (kLd1 h v38) fun v39 h =>
  fst (kLen h v39) fun v40 h =>
  fjn (fiter (fun vs h => o158_l4 cl N (nthD vs 0) (nthD vs 1) (nthD vs 2) (nthD vs 3) (nthD vs 4) (nthD vs 5) h) N [v1, v37, (.int .i64 0), v39, v40, (.int .i64 0)] h) fun x vs h => o158_j14 cl N x (nthD vs 0) (nthD vs 1) (nthD vs 2) (nthD vs 3) h)
def o158 (cl : Handler) (N : Nat) (v0 : AV) (h : AH) : Ans :=
  fst (kBox h v0) fun v1 h =>
  fjn (o158_a1 cl N v1 h) fun _ vs h => o158_j15 cl N (nthD vs 0) (nthD vs 1) h
theorem o158_eq (cl : Handler) (N : Nat) (v0 : AV) (h : AH) : frun cl N S158 [v0] h = fans (o158 cl N v0 h) := by kernel_rfl
def w158 (N : Nat) : OF := fun cl args h => match args with
  | [v0] => fans (o158 cl N v0 h)
  | _ => none
theorem w158_ok (N : Nat) : OkF Tryz.prog 158 (w158 N) := .of (N := N) (S158_ok) fun cl args h r hr => by
  unfold w158 at hr
  split at hr
  · exact (o158_eq cl N _ _).trans hr
  · cases hr

def S159.z0 : List AV := [.int .i64 0, .str [], .nilsl, .nilsl, .nilsl]
def S159.z1 : List AV := [.int .i64 0, .int .i64 0, .int .i64 0, .str [], .nilsl, .nilsl, .nilsl]
/- widgetry/view.described -/
def S159.r0 : List AOpr := [
  q 4 (.new S159.z0)]
def S159.r1 : List AOpr := [
  q 9 (.mov (x 0)),
  q 10 (.mov (x 1)),
  q 11 (.xo (.mapget (.int .i64) false (.agg S159.z1)) [.tmp 9, .tmp 10]),
  q 5 (.new S159.z1),
  ⟨none, .st 7 (x 5) (x 11), none⟩]
def S159.r2 : List AOpr := [
  q 12 (.fldA 2 (x 5)),
  q 13 (.ld1 (x 12)),
  q 14 (.fldA 3 (x 5)),
  q 15 (.ld1 (x 14)),
  q 16 (.fldA 4 (x 5)),
  q 17 (.ld1 (x 16)),
  q 18 (.fldA 5 (x 5)),
  q 19 (.ld1 (x 18)),
  q 20 (.build S159.z0 [(0, 1, .tmp 13), (1, 1, .tmp 15), (2, 1, .tmp 17), (3, 1, .tmp 19)]),
  q 6 (.new S159.z0),
  ⟨none, .st 5 (x 6) (x 20), none⟩]
def S159.r3 : List AOpr := [
  q 21 (.fldA 6 (x 5)),
  q 22 (.ld1 (x 21)),
  q 23 (.len (x 22)),
  q 24 (.mov (.const (.int .i64 0)))]
def S159.r4 : List AOpr := [
  q 25 (.arith .lss (x 24) (x 23))]
def S159.r5 : List AOpr := [
  q 26 (.idxA 1 (x 22) (x 24)),
  q 27 (.ld1 (x 26)),
  q 8 (.mov (x 27))]
def S159.r6 : List (AOpr × Nat) := [
  (q 28 (.fldA 4 (x 6)), 0),
  (q 29 (.ld1 (x 28)), 1),
  (q 30 (.mov (x 0)), 0),
  (q 31 (.mov (x 8)), 0),
  (q 32 (.call (.const (.func (.func 159) [] [])) [.tmp 30, .tmp 31]), 12),
  (q 33 (.buildSl 5 1 S159.z0 [(0, 5, .tmp 32)]), 28),
  (q 34 (.app 5 96 (x 29) (x 33)), 63),
  (q 35 (.fldA 4 (x 6)), 127),
  (⟨none, .st 1 (x 35) (x 34), none⟩, 255)]
def S159.r7 : List AOpr := [
  q 36 (.arith .add (x 24) (.const (.int .i64 1))),
  q 24 (.mov (x 36))]
def S159.r8 : List AOpr := [
  q 37 (.ldn 5 (x 6)),
  ⟨none, .st 5 (x 4) (x 37), none⟩]
def S159 : SFn := ⟨38, [.cell 4 (some 5)], .seq (.reg S159.r0) (.seq (.reg S159.r1) (.seq (.reg S159.r2) (.seq (.seq (.reg S159.r3) (.block 0 (.loop [0, 4, 6, 22, 23, 24] [4, 6] (.seq (.reg S159.r4) (.seq (.cond (x 25) (.skip) (.exit 0)) (.seq (.block 1 (.seq (.reg S159.r5) (.draw S159.r6))) (.reg S159.r7))))))) (.seq (.reg S159.r8) (.ret)))))⟩
theorem S159_ok : EOk Tryz.prog 159 S159 := ⟨Tryz.f159, by kernel_rfl, by kernel_rfl, by decide, by kernel_rfl, its_nil (by kernel_rfl)⟩
def o159_s1 (cl : Handler) (N : Nat) (c0 c1 c2 c3 c4 c5 c6 : Rec) (v0 v4 v6 v22 v23 v24 v34 : AV) (h : AH) : Ans :=
  fdp h (kFldA h 4 v6) .pure fun v35 c7 h =>
  fde h (kSt h 1 v35 v34) fun _ c8 h =>
  cond (fchk [c0, c1, c2, c3, c4, c5, c6, c7, c8] [(1, 4), (1, 5)]) (fst (kArith h .add v24 (.int .i64 1)) fun v36 h =>
  some (.nrm, [v0, v4, v6, v22, v23, v36], [v4, v6], h)) none
def o159_l1 (cl : Handler) (N : Nat) (v0 v4 v6 v22 v23 v24 : AV) (h : AH) : Ans :=
  fst (kArith h .lss v24 v23) fun v25 h =>
  fif v25 (
  fst (kIdxA h 1 v22 v24) fun v26 h =>
  fst (kLd1 h v26) fun v27 h =>
  fdr h 9 fun r h =>
  fdp h (kFldA h 4 v6) .pure fun v28 c0 h =>
  fdp h (kLd1 h v28) (rdK (rdv v28)) fun v29 c1 h =>
  fdp h (kMov h v0) .pure fun v30 c2 h =>
  fdp h (kMov h v27) .pure fun v31 c3 h =>
  fde h (cl 159 [v30, v31] h) fun v32 c4 h =>
  fda (r + 5) h (alBuildSl 5 1 S159.z0 [(0, 5, v32)]) fun v33 c5 h =>
  fde h (kApp h 5 96 v29 v33) fun v34 c6 h =>
  o159_s1 cl N c0 c1 c2 c3 c4 c5 c6 v0 v4 v6 v22 v23 v24 v34 h) (
  some ((.exit 0), [v0, v4, v6, v22, v23, v24], [v4, v6], h))
def o159_c2 (cl : Handler) (N : Nat) (v4 v6 : AV) (h : AH) : Ans :=
  fst (kLdn h 5 v6) fun v37 h =>
  fst (kSt h 5 v4 v37) fun _ h =>
  fres (aresV h [.cell (v4) (some 5)]) h
def o159_j3 (cl : Handler) (N : Nat) (x : AX) (v4 v6 : AV) (h : AH) : Ans :=
  fxs x (o159_c2 cl N v4 v6 h) (fun j => cond (Nat.beq j 0) (o159_c2 cl N v4 v6 h) (none)) (fres (aresV h [.cell (v4) (some 5)]) h)
def o159_s2 (cl : Handler) (N : Nat) (v0 v4 v5 v13 v15 v17 : AV) (h : AH) : Ans :=
  fst (kFldA h 5 v5) fun v18 h =>
  fst (kLd1 h v18) fun v19 h =>
  fst (kBuild h S159.z0 [(0, 1, v13), (1, 1, v15), (2, 1, v17), (3, 1, v19)]) fun v20 h =>
  fst (kNew h S159.z0) fun v6 h =>
  fst (kSt h 5 v6 v20) fun _ h =>
  fst (kFldA h 6 v5) fun v21 h =>
  fst (kLd1 h v21) fun v22 h =>
  fst (kLen h v22) fun v23 h =>
  fjn (fiter (fun vs h => o159_l1 cl N (nthD vs 0) (nthD vs 1) (nthD vs 2) (nthD vs 3) (nthD vs 4) (nthD vs 5) h) N [v0, v4, v6, v22, v23, (.int .i64 0)] h) fun x vs h => o159_j3 cl N x (nthD vs 0) (nthD vs 1) h
def o159 (cl : Handler) (N : Nat) (v0 v1 : AV) (h : AH) : Ans :=
  fst (kNew h S159.z0) fun v4 h =>
  fst (kX h (.mapget (.int .i64) false (.agg S159.z1)) [v0, v1]) fun v11 h =>
  fst (kNew h S159.z1) fun v5 h =>
  fst (kSt h 7 v5 v11) fun _ h =>
  fst (kFldA h 2 v5) fun v12 h =>
  fst (kLd1 h v12) fun v13 h =>
  fst (kFldA h 3 v5) fun v14 h =>
  fst (kLd1 h v14) fun v15 h =>
  fst (kFldA h 4 v5) fun v16 h =>
  fst (kLd1 h v16) fun v17 h =>
  o159_s2 cl N v0 v4 v5 v13 v15 v17 h
theorem o159_eq (cl : Handler) (N : Nat) (v0 v1 : AV) (h : AH) : frun cl N S159 [v0, v1] h = fans (o159 cl N v0 v1 h) := by kernel_rfl
def w159 (N : Nat) : OF := fun cl args h => match args with
  | [v0, v1] => fans (o159 cl N v0 v1 h)
  | _ => none
theorem w159_ok (N : Nat) : OkF Tryz.prog 159 (w159 N) := .of (N := N) (S159_ok) fun cl args h r hr => by
  unfold w159 at hr
  split at hr
  · exact (o159_eq cl N _ _ _).trans hr
  · cases hr

/- widgetry/view.Validate -/
def S160.r0 : List AOpr := [
  q 1 (.box (x 0)),
  q 2 (.mov (.const (.int .i64 0)))]
def S160.r1 : List AOpr := [
  q 3 (.new [.int .i64 0]),
  ⟨none, .st 1 (x 3) (.const (.int .i64 0)), none⟩]
def S160.r2 : List AOpr := [
  q 4 (.ldn 5 (x 1)),
  q 5 (.call (.const (.func (.func 182) [] [])) [.tmp 4, .const (.int .i64 1), .tmp 3]),
  q 2 (.mov (x 5))]
def S160 : SFn := ⟨6, [.tmp 2], .seq (.reg S160.r0) (.seq (.reg S160.r1) (.seq (.reg S160.r2) (.ret)))⟩
theorem S160_ok : EOk Tryz.prog 160 S160 := ⟨Tryz.f160, by kernel_rfl, by kernel_rfl, by decide, by kernel_rfl, its_nil (by kernel_rfl)⟩
def o160 (cl : Handler) (N : Nat) (v0 : AV) (h : AH) : Ans :=
  fst (kBox h v0) fun v1 h =>
  fst (kNew h [.int .i64 0]) fun v3 h =>
  fst (kSt h 1 v3 (.int .i64 0)) fun _ h =>
  fst (kLdn h 5 v1) fun v4 h =>
  fst (cl 182 [v4, (.int .i64 1), v3] h) fun v5 h =>
  some (.nrm, [], [v5], h)
theorem o160_eq (cl : Handler) (N : Nat) (v0 : AV) (h : AH) : frun cl N S160 [v0] h = fans (o160 cl N v0 h) := by kernel_rfl
def w160 (N : Nat) : OF := fun cl args h => match args with
  | [v0] => fans (o160 cl N v0 h)
  | _ => none
theorem w160_ok (N : Nat) : OkF Tryz.prog 160 (w160 N) := .of (N := N) (S160_ok) fun cl args h r hr => by
  unfold w160 at hr
  split at hr
  · exact (o160_eq cl N _ _).trans hr
  · cases hr

def S161.z0 : List AV := [.int .i64 0, .int .i64 0, .int .i64 0, .str [], .nilsl, .nilsl, .nilsl]
def S161.z1 : List AV := [.int .i64 0, .int .i64 0, .int .i64 0, .int .i64 0, .int .i64 0, .int .i64 0, .int .i64 0, .int .i64 0, .int .i64 0, .int .i64 0, .int .i64 0, .int .i64 0, .int .i64 0, .int .i64 0, .int .i64 0, .int .i64 0, .int .i64 0, .int .i64 0, .int .i64 0, .int .i64 0, .int .i64 0, .int .i64 0, .int .i64 0]
/- slices.EqualFunc[[]widgetry/api.Node,[]widgetry/api.Styled,widgetry/api.Node,widgetry/api.Styled] -/
def S161.r0 : List AOpr := [
  q 6 (.mov (.const (.bool false)))]
def S161.r1 : List AOpr := [
  q 10 (.mov (x 0)),
  q 11 (.len (x 10)),
  q 12 (.mov (x 1)),
  q 13 (.len (x 12)),
  q 14 (.arith .neq (x 11) (x 13))]
def S161.r2 : List AOpr := [
  q 6 (.mov (.const (.bool false)))]
def S161.r3 : List AOpr := [
  q 15 (.mov (x 0)),
  q 16 (.len (x 15)),
  q 17 (.mov (.const (.int .i64 0)))]
def S161.r4 : List AOpr := [
  q 18 (.arith .lss (x 17) (x 16))]
def S161.r5 : List AOpr := [
  q 19 (.mov (x 17)),
  q 20 (.idxA 7 (x 15) (x 17)),
  q 21 (.ldn 7 (x 20)),
  q 8 (.new S161.z0),
  q 7 (.mov (x 19)),
  ⟨none, .st 7 (x 8) (x 21), none⟩]
def S161.r6 : List AOpr := [
  q 22 (.mov (x 1)),
  q 23 (.mov (x 7)),
  q 24 (.idxA 23 (x 22) (x 23)),
  q 25 (.ldn 23 (x 24)),
  q 9 (.new S161.z1),
  ⟨none, .st 23 (x 9) (x 25), none⟩]
def S161.r7 : List AOpr := [
  q 26 (.mov (x 2)),
  q 27 (.ldn 7 (x 8)),
  q 28 (.ldn 23 (x 9)),
  q 29 (.call (x 26) [.tmp 27, .tmp 28]),
  q 30 (.un .not (x 29))]
def S161.r8 : List AOpr := [
  q 6 (.mov (.const (.bool false)))]
def S161.r9 : List AOpr := [
  q 31 (.arith .add (x 17) (.const (.int .i64 1))),
  q 17 (.mov (x 31))]
def S161.r10 : List AOpr := [
  q 6 (.mov (.const (.bool true)))]
def S161 : SFn := ⟨32, [.tmp 6], .seq (.reg S161.r0) (.seq (.seq (.reg S161.r1) (.cond (x 14) (.seq (.reg S161.r2) (.ret)) (.skip))) (.seq (.seq (.reg S161.r3) (.block 0 (.loop [1, 2, 15, 16, 17] [6] (.seq (.reg S161.r4) (.seq (.cond (x 18) (.skip) (.exit 0)) (.seq (.block 1 (.seq (.reg S161.r5) (.seq (.reg S161.r6) (.seq (.reg S161.r7) (.cond (x 30) (.seq (.reg S161.r8) (.ret)) (.skip)))))) (.reg S161.r9))))))) (.seq (.reg S161.r10) (.ret))))⟩
theorem S161_ok : EOk Tryz.prog 161 S161 := ⟨Tryz.f161, by kernel_rfl, by kernel_rfl, by decide, by kernel_rfl, its_nil (by kernel_rfl)⟩
def o161_s1 (cl : Handler) (N : Nat) (v1 v2 v9 v15 v16 v17 v26 v27 : AV) (h : AH) : Ans :=
  fst (kLdn h 23 v9) fun v28 h =>
  fst (kCall cl h v26 [v27, v28]) fun v29 h =>
  fst (kUn h .not v29) fun v30 h =>
  fif v30 (
  some (.ret, [v1, v2, v15, v16, v17], [(.bool false)], h)) (
  fst (kArith h .add v17 (.int .i64 1)) fun v31 h =>
  some (.nrm, [v1, v2, v15, v16, v31], [.undef], h))
def o161_l1 (cl : Handler) (N : Nat) (v1 v2 v15 v16 v17 : AV) (h : AH) : Ans :=
  fst (kArith h .lss v17 v16) fun v18 h =>
  fif v18 (
  fst (kIdxA h 7 v15 v17) fun v20 h =>
  fst (kLdn h 7 v20) fun v21 h =>
  fst (kNew h S161.z0) fun v8 h =>
  fst (kSt h 7 v8 v21) fun _ h =>
  fst (kIdxA h 23 v1 v17) fun v24 h =>
  fst (kLdn h 23 v24) fun v25 h =>
  fst (kNew h S161.z1) fun v9 h =>
  fst (kSt h 23 v9 v25) fun _ h =>
  fst (kLdn h 7 v8) fun v27 h =>
  o161_s1 cl N v1 v2 v9 v15 v16 v17 v2 v27 h) (
  some ((.exit 0), [v1, v2, v15, v16, v17], [.undef], h))
def o161_c2 (cl : Handler) (N : Nat) (h : AH) : Ans :=
  some (.nrm, [], [(.bool true)], h)
def o161_j3 (cl : Handler) (N : Nat) (x : AX) (v6 : AV) (h : AH) : Ans :=
  fxs x (o161_c2 cl N h) (fun j => cond (Nat.beq j 0) (o161_c2 cl N h) (none)) (some (.nrm, [], [v6], h))
def o161 (cl : Handler) (N : Nat) (v0 v1 v2 : AV) (h : AH) : Ans :=
  fst (kLen h v0) fun v11 h =>
  fst (kLen h v1) fun v13 h =>
  fst (kArith h .neq v11 v13) fun v14 h =>
  fif v14 (
  some (.nrm, [], [(.bool false)], h)) (
  fst (kLen h v0) fun v16 h =>
  fjn (fiter (fun vs h => o161_l1 cl N (nthD vs 0) (nthD vs 1) (nthD vs 2) (nthD vs 3) (nthD vs 4) h) N [v1, v2, v0, v16, (.int .i64 0)] h) fun x vs h => o161_j3 cl N x (nthD vs 0) h)
theorem o161_eq (cl : Handler) (N : Nat) (v0 v1 v2 : AV) (h : AH) : frun cl N S161 [v0, v1, v2] h = fans (o161 cl N v0 v1 v2 h) := by kernel_rfl
def w161 (N : Nat) : OF := fun cl args h => match args with
  | [v0, v1, v2] => fans (o161 cl N v0 v1 v2 h)
  | _ => none
theorem w161_ok (N : Nat) : OkF Tryz.prog 161 (w161 N) := .of (N := N) (S161_ok) fun cl args h r hr => by
  unfold w161 at hr
  split at hr
  · exact (o161_eq cl N _ _ _ _).trans hr
  · cases hr

/- widgetry/layout.complete$1 -/
def S162.r0 : List AOpr := [
  q 2 (.box (x 0)),
  q 3 (.box (x 1)),
  q 4 (.mov (.const (.bool false)))]
def S162.r1 : List AOpr := [
  q 5 (.fldA 0 (x 2)),
  q 6 (.ld1 (x 5)),
  q 7 (.fldA 0 (x 3)),
  q 8 (.ld1 (x 7)),
  q 9 (.arith .eql (x 6) (x 8)),
  q 4 (.mov (x 9))]
def S162 : SFn := ⟨10, [.tmp 4], .seq (.reg S162.r0) (.seq (.reg S162.r1) (.ret))⟩
theorem S162_ok : EOk Tryz.prog 162 S162 := ⟨Tryz.f162, by kernel_rfl, by kernel_rfl, by decide, by kernel_rfl, its_nil (by kernel_rfl)⟩
def o162 (cl : Handler) (N : Nat) (v0 v1 : AV) (h : AH) : Ans :=
  fst (kBox h v0) fun v2 h =>
  fst (kBox h v1) fun v3 h =>
  fst (kFldA h 0 v2) fun v5 h =>
  fst (kLd1 h v5) fun v6 h =>
  fst (kFldA h 0 v3) fun v7 h =>
  fst (kLd1 h v7) fun v8 h =>
  fst (kArith h .eql v6 v8) fun v9 h =>
  some (.nrm, [], [v9], h)
theorem o162_eq (cl : Handler) (N : Nat) (v0 v1 : AV) (h : AH) : frun cl N S162 [v0, v1] h = fans (o162 cl N v0 v1 h) := by kernel_rfl
def w162 (N : Nat) : OF := fun cl args h => match args with
  | [v0, v1] => fans (o162 cl N v0 v1 h)
  | _ => none
theorem w162_ok (N : Nat) : OkF Tryz.prog 162 (w162 N) := .of (N := N) (S162_ok) fun cl args h r hr => by
  unfold w162 at hr
  split at hr
  · exact (o162_eq cl N _ _ _).trans hr
  · cases hr

/- widgetry/style.InRange -/
def S163.r0 : List AOpr := [
  q 4 (.mov (.const (.bool false)))]
def S163.r1 : List AOpr := [
  q 5 (.mov (x 0)),
  q 6 (.call (.const (.func (.func 183) [] [])) [.tmp 5]),
  q 7 (.mov (x 6)),
  ⟨some 8, .mov (x 1), some (7, true)⟩,
  ⟨some 9, .mov (x 0), some (7, true)⟩,
  ⟨some 10, .idxArrA 22 4 (.const (.gptr 0 0)) (x 9), some (7, true)⟩,
  ⟨some 11, .fldA 1 (x 10), some (7, true)⟩,
  ⟨some 12, .ld1 (x 11), some (7, true)⟩,
  ⟨some 13, .arith .geq (x 8) (x 12), some (7, true)⟩,
  q 14 (.pick (x 7) (x 13) (.const (.bool false))),
  q 15 (.mov (x 14)),
  ⟨some 16, .mov (x 1), some (15, true)⟩,
  ⟨some 17, .mov (x 0), some (15, true)⟩,
  ⟨some 18, .idxArrA 22 4 (.const (.gptr 0 0)) (x 17), some (15, true)⟩,
  ⟨some 19, .fldA 2 (x 18), some (15, true)⟩,
  ⟨some 20, .ld1 (x 19), some (15, true)⟩,
  ⟨some 21, .arith .leq (x 16) (x 20), some (15, true)⟩,
  q 22 (.pick (x 15) (x 21) (.const (.bool false))),
  q 4 (.mov (x 22))]
def S163 : SFn := ⟨23, [.tmp 4], .seq (.reg S163.r0) (.seq (.reg S163.r1) (.ret))⟩
theorem S163_ok : EOk Tryz.prog 163 S163 := ⟨Tryz.f163, by kernel_rfl, by kernel_rfl, by decide, by kernel_rfl, its_nil (by kernel_rfl)⟩
def o163_s1 (cl : Handler) (N : Nat) (v15 v16 v17 : AV) (h : AH) : Ans :=
  fgd (gdv true v15) (kIdxArrA h 22 4 (.gptr 0 0) v17) h fun v18 h =>
  fgd (gdv true v15) (kFldA h 2 v18) h fun v19 h =>
  fgd (gdv true v15) (kLd1 h v19) h fun v20 h =>
  fgd (gdv true v15) (kArith h .leq v16 v20) h fun v21 h =>
  fst (kPick h v15 v21 (.bool false)) fun v22 h =>
  some (.nrm, [], [v22], h)
def o163 (cl : Handler) (N : Nat) (v0 v1 : AV) (h : AH) : Ans :=
  fst (cl 183 [v0] h) fun v6 h =>
  fgd (gdv true v6) (kMov h v1) h fun v8 h =>
  fgd (gdv true v6) (kMov h v0) h fun v9 h =>
  fgd (gdv true v6) (kIdxArrA h 22 4 (.gptr 0 0) v9) h fun v10 h =>
  fgd (gdv true v6) (kFldA h 1 v10) h fun v11 h =>
  fgd (gdv true v6) (kLd1 h v11) h fun v12 h =>
  fgd (gdv true v6) (kArith h .geq v8 v12) h fun v13 h =>
  fst (kPick h v6 v13 (.bool false)) fun v14 h =>
  fgd (gdv true v14) (kMov h v1) h fun v16 h =>
  fgd (gdv true v14) (kMov h v0) h fun v17 h =>
  o163_s1 cl N v14 v16 v17 h
theorem o163_eq (cl : Handler) (N : Nat) (v0 v1 : AV) (h : AH) : frun cl N S163 [v0, v1] h = fans (o163 cl N v0 v1 h) := by kernel_rfl
def w163 (N : Nat) : OF := fun cl args h => match args with
  | [v0, v1] => fans (o163 cl N v0 v1 h)
  | _ => none
theorem w163_ok (N : Nat) : OkF Tryz.prog 163 (w163 N) := .of (N := N) (S163_ok) fun cl args h r hr => by
  unfold w163 at hr
  split at hr
  · exact (o163_eq cl N _ _ _).trans hr
  · cases hr

def S164.z0 : List AV := [.int .i64 0, .int .i64 0, .int .i64 0, .int .i64 0, .int .i64 0, .int .i64 0, .int .i64 0, .int .i64 0, .int .i64 0, .int .i64 0, .int .i64 0, .int .i64 0, .int .i64 0, .int .i64 0, .int .i64 0, .int .i64 0, .int .i64 0, .int .i64 0, .int .i64 0, .int .i64 0, .int .i64 0, .int .i64 0]
def S164.z1 : List AV := [.int .i64 0, .int .i64 0, .int .i64 0, .str [], .nilsl, .nilsl, .nilsl]
/- (*widgetry/layout.scene).hidden -/
def S164.r0 : List AOpr := [
  q 4 (.mov (.const (.bool false)))]
def S164.r1 : List AOpr := [
  q 5 (.mov (x 0)),
  q 6 (.nilchk (x 5)),
  q 7 (.fldA 5 (x 6)),
  q 8 (.ld1 (x 7)),
  q 9 (.mov (x 1)),
  q 10 (.xo (.mapget (.int .i64) false (.agg S164.z0)) [.tmp 8, .tmp 9]),
  q 11 (.idx 22 1 none (x 10) (.const (.int .i64 5))),
  q 12 (.arith .eql (x 11) (.const (.int .i64 0))),
  q 13 (.mov (x 12)),
  ⟨some 14, .mov (x 0), some (13, false)⟩,
  ⟨some 15, .nilchk (x 14), some (13, false)⟩,
  ⟨some 16, .fldA 4 (x 15), some (13, false)⟩,
  ⟨some 17, .ld1 (x 16), some (13, false)⟩,
  ⟨some 18, .mov (x 1), some (13, false)⟩,
  ⟨some 19, .xo (.mapget (.int .i64) false (.agg S164.z1)) [.tmp 17, .tmp 18], some (13, false)⟩,
  ⟨some 20, .fld 4 none (x 19), some (13, false)⟩,
  ⟨some 21, .call (.const (.func (.func 87) [] [])) [.tmp 20, .const (.str [104, 105, 100, 100, 101, 110])], some (13, false)⟩,
  q 22 (.pick (x 13) (.const (.bool true)) (x 21)),
  q 4 (.mov (x 22))]
def S164 : SFn := ⟨23, [.tmp 4], .seq (.reg S164.r0) (.seq (.reg S164.r1) (.ret))⟩
theorem S164_ok : EOk Tryz.prog 164 S164 := ⟨Tryz.f164, by kernel_rfl, by kernel_rfl, by decide, by kernel_rfl, its_nil (by kernel_rfl)⟩
def o164_s1 (cl : Handler) (N : Nat) (v1 v13 v17 : AV) (h : AH) : Ans :=
  fgd (gdv false v13) (kMov h v1) h fun v18 h =>
  fgd (gdv false v13) (kX h (.mapget (.int .i64) false (.agg S164.z1)) [v17, v18]) h fun v19 h =>
  fgd (gdv false v13) (kFld h 4 none v19) h fun v20 h =>
  fgd (gdv false v13) (cl 87 [v20, (.str [104, 105, 100, 100, 101, 110])] h) h fun v21 h =>
  fst (kPick h v13 (.bool true) v21) fun v22 h =>
  some (.nrm, [], [v22], h)
def o164 (cl : Handler) (N : Nat) (v0 v1 : AV) (h : AH) : Ans :=
  fst (kNilchk h v0) fun v6 h =>
  fst (kFldA h 5 v6) fun v7 h =>
  fst (kLd1 h v7) fun v8 h =>
  fst (kX h (.mapget (.int .i64) false (.agg S164.z0)) [v8, v1]) fun v10 h =>
  fst (kIdx h 22 1 none v10 (.int .i64 5)) fun v11 h =>
  fst (kArith h .eql v11 (.int .i64 0)) fun v12 h =>
  fgd (gdv false v12) (kMov h v0) h fun v14 h =>
  fgd (gdv false v12) (kNilchk h v14) h fun v15 h =>
  fgd (gdv false v12) (kFldA h 4 v15) h fun v16 h =>
  fgd (gdv false v12) (kLd1 h v16) h fun v17 h =>
  o164_s1 cl N v1 v12 v17 h
theorem o164_eq (cl : Handler) (N : Nat) (v0 v1 : AV) (h : AH) : frun cl N S164 [v0, v1] h = fans (o164 cl N v0 v1 h) := by kernel_rfl
def w164 (N : Nat) : OF := fun cl args h => match args with
  | [v0, v1] => fans (o164 cl N v0 v1 h)
  | _ => none
theorem w164_ok (N : Nat) : OkF Tryz.prog 164 (w164 N) := .of (N := N) (S164_ok) fun cl args h r hr => by
  unfold w164 at hr
  split at hr
  · exact (o164_eq cl N _ _ _).trans hr
  · cases hr

def S165.z0 : List AV := [.int .i64 0, .int .i64 0, .int .i64 0, .str [], .nilsl, .nilsl, .nilsl]
/- (*widgetry/layout.scene).show -/
def S165.r0 : List AOpr := [
  q 7 (.mov (x 0)),
  q 8 (.mov (x 0)),
  q 9 (.nilchk (x 8)),
  q 10 (.fldA 7 (x 9)),
  q 11 (.ld1 (x 10)),
  q 12 (.mov (x 1)),
  q 13 (.buildSl 1 1 [.int .i64 0] [(0, 1, .tmp 12)]),
  q 14 (.app 1 8 (x 11) (x 13)),
  q 15 (.nilchk (x 7)),
  q 16 (.fldA 7 (x 15)),
  ⟨none, .st 1 (x 16) (x 14), none⟩]
def S165.r1 : List AOpr := [
  q 17 (.mov (x 0)),
  q 18 (.nilchk (x 17)),
  q 19 (.fldA 4 (x 18)),
  q 20 (.ld1 (x 19)),
  q 21 (.mov (x 1)),
  q 22 (.xo (.mapget (.int .i64) false (.agg S165.z0)) [.tmp 20, .tmp 21]),
  q 4 (.new S165.z0),
  ⟨none, .st 7 (x 4) (x 22), none⟩]
def S165.r2 : List AOpr := [
  q 23 (.fldA 2 (x 4)),
  q 24 (.ld1 (x 23)),
  q 25 (.call (.const (.func (.func 184) [] [])) [.tmp 24]),
  q 26 (.mov (x 25)),
  ⟨some 27, .fldA 2 (x 4), some (26, false)⟩,
  ⟨some 28, .ld1 (x 27), some (26, false)⟩,
  ⟨some 29, .call (.const (.func (.func 185) [] [])) [.tmp 28], some (26, false)⟩,
  q 30 (.pick (x 26) (.const (.bool true)) (x 29))]
def S165.r3 : List AOpr := [
  q 31 (.fldA 6 (x 4)),
  q 32 (.ld1 (x 31)),
  q 33 (.len (x 32)),
  q 34 (.mov (.const (.int .i64 0)))]
def S165.r4 : List AOpr := [
  q 35 (.arith .lss (x 34) (x 33))]
def S165.r5 : List AOpr := [
  q 36 (.idxA 1 (x 32) (x 34)),
  q 37 (.ld1 (x 36)),
  q 6 (.mov (x 37))]
def S165.r6 : List AOpr := [
  q 38 (.mov (x 0)),
  q 39 (.mov (x 6)),
  q 40 (.call (.const (.func (.func 164) [] [])) [.tmp 38, .tmp 39]),
  q 41 (.un .not (x 40))]
def S165.r7 : List (AOpr × Nat) := [
  (q 42 (.mov (x 0)), 0),
  (q 43 (.nilchk (x 42)), 1),
  (q 44 (.fldA 6 (x 43)), 3),
  (q 45 (.ld1 (x 44)), 7),
  (q 46 (.mov (x 1)), 0),
  (q 47 (.mov (x 0)), 0),
  (q 48 (.nilchk (x 47)), 32),
  (q 49 (.fldA 6 (x 48)), 96),
  (q 50 (.ld1 (x 49)), 224),
  (q 51 (.mov (x 1)), 0),
  (q 52 (.xo (.mapget (.int .i64) false (.nilsl)) [.tmp 50, .tmp 51]), 992),
  (q 53 (.mov (x 6)), 0),
  (q 54 (.buildSl 1 1 [.int .i64 0] [(0, 1, .tmp 53)]), 2048),
  (q 55 (.app 1 8 (x 52) (x 54)), 8160),
  (⟨none, .xo (.mapset (.int .i64)) [.tmp 45, .tmp 46, .tmp 55], none⟩, 16383)]
def S165.r8 : List AOpr := [
  q 56 (.mov (x 0)),
  q 57 (.mov (x 6)),
  q 58 (.call (.const (.func (.func 165) [] [])) [.tmp 56, .tmp 57])]
def S165.r9 : List AOpr := [
  q 59 (.arith .add (x 34) (.const (.int .i64 1))),
  q 34 (.mov (x 59))]
def S165 : SFn := ⟨60, [], .seq (.reg S165.r0) (.seq (.reg S165.r1) (.seq (.seq (.joinN [0, 1, 4, 30] (.reg S165.r2)) (.cond (x 30) (.ret) (.skip))) (.seq (.reg S165.r3) (.block 0 (.loop [0, 1, 32, 33, 34] [] (.seq (.reg S165.r4) (.seq (.cond (x 35) (.skip) (.exit 0)) (.seq (.joinN [0, 1, 32, 33, 34] (.block 1 (.seq (.reg S165.r5) (.seq (.reg S165.r6) (.cond (x 41) (.seq (.draw S165.r7) (.reg S165.r8)) (.skip)))))) (.reg S165.r9)))))))))⟩
theorem S165_ok : EOk Tryz.prog 165 S165 := ⟨Tryz.f165, by kernel_rfl, by kernel_rfl, by decide, by kernel_rfl, its_nil (by kernel_rfl)⟩
def o165_a1 (cl : Handler) (N : Nat) (v0 v1 v4 : AV) (h : AH) : Ans :=
  fst (kFldA h 2 v4) fun v23 h =>
  fst (kLd1 h v23) fun v24 h =>
  fst (cl 184 [v24] h) fun v25 h =>
  fgd (gdv false v25) (kFldA h 2 v4) h fun v27 h =>
  fgd (gdv false v25) (kLd1 h v27) h fun v28 h =>
  fgd (gdv false v25) (cl 185 [v28] h) h fun v29 h =>
  fst (kPick h v25 (.bool true) v29) fun v30 h =>
  some (.nrm, [], [v0, v1, v4, v30], h)
def o165_s1 (cl : Handler) (N : Nat) (r : Nat) (c0 c1 c2 c3 c4 c5 : Rec) (v0 v1 v6 v32 v33 v34 v45 v46 v47 : AV) (h : AH) : Ans :=
  fdp h (kNilchk h v47) .pure fun v48 c6 h =>
  fdp h (kFldA h 6 v48) .pure fun v49 c7 h =>
  fdp h (kLd1 h v49) (rdK (rdv v49)) fun v50 c8 h =>
  fdp h (kMov h v1) .pure fun v51 c9 h =>
  fdp h (kX h (.mapget (.int .i64) false (.nilsl)) [v50, v51]) (rdK (xRd (.mapget (.int .i64) false (.nilsl)) [v50, v51])) fun v52 c10 h =>
  fdp h (kMov h v6) .pure fun v53 c11 h =>
  fda (r + 12) h (alBuildSl 1 1 [.int .i64 0] [(0, 1, v53)]) fun v54 c12 h =>
  fde h (kApp h 1 8 v52 v54) fun v55 c13 h =>
  fde h (kX h (.mapset (.int .i64)) [v45, v46, v55]) fun _ c14 h =>
  cond (fchk [c0, c1, c2, c3, c4, c5, c6, c7, c8, c9, c10, c11, c12, c13, c14] [(3, 12), (8, 12), (10, 12), (3, 13)]) (fst (cl 165 [v0, v6] h) fun v58 h =>
  some (.nrm, [], [v0, v1, v32, v33, v34], h)) none
def o165_a2 (cl : Handler) (N : Nat) (v0 v1 v32 v33 v34 : AV) (h : AH) : Ans :=
  fst (kIdxA h 1 v32 v34) fun v36 h =>
  fst (kLd1 h v36) fun v37 h =>
  fst (cl 164 [v0, v37] h) fun v40 h =>
  fst (kUn h .not v40) fun v41 h =>
  fif v41 (
  fdr h 15 fun r h =>
  fdp h (kMov h v0) .pure fun v42 c0 h =>
  fdp h (kNilchk h v42) .pure fun v43 c1 h =>
  fdp h (kFldA h 6 v43) .pure fun v44 c2 h =>
  fdp h (kLd1 h v44) (rdK (rdv v44)) fun v45 c3 h =>
  fdp h (kMov h v1) .pure fun v46 c4 h =>
  fdp h (kMov h v0) .pure fun v47 c5 h =>
  o165_s1 cl N r c0 c1 c2 c3 c4 c5 v0 v1 v37 v32 v33 v34 v45 v46 v47 h) (
  some (.nrm, [], [v0, v1, v32, v33, v34], h))
def o165_j3 (cl : Handler) (N : Nat) (v0 v1 v32 v33 v34 : AV) (h : AH) : Ans :=
  fst (kArith h .add v34 (.int .i64 1)) fun v59 h =>
  some (.nrm, [v0, v1, v32, v33, v59], [], h)
def o165_l4 (cl : Handler) (N : Nat) (v0 v1 v32 v33 v34 : AV) (h : AH) : Ans :=
  fst (kArith h .lss v34 v33) fun v35 h =>
  fif v35 (
  fjn (o165_a2 cl N v0 v1 v32 v33 v34 h) fun _ vs h => o165_j3 cl N (nthD vs 0) (nthD vs 1) (nthD vs 2) (nthD vs 3) (nthD vs 4) h) (
  some ((.exit 0), [v0, v1, v32, v33, v34], [], h))
def o165_c5 (cl : Handler) (N : Nat) (h : AH) : Ans :=
  some (.nrm, [], [.tup []], h)
def o165_j6 (cl : Handler) (N : Nat) (x : AX) (h : AH) : Ans :=
  fxs x (o165_c5 cl N h) (fun j => cond (Nat.beq j 0) (o165_c5 cl N h) (none)) (some (.nrm, [], [.tup []], h))
def o165_j7 (cl : Handler) (N : Nat) (v0 v1 v4 v30 : AV) (h : AH) : Ans :=
  fif v30 (
  some (.nrm, [], [.tup []], h)) (
  fst (kFldA h 6 v4) fun v31 h =>
  fst (kLd1 h v31) fun v32 h =>
  fst (kLen h v32) fun v33 h =>
  fjn (fiter (fun vs h => o165_l4 cl N (nthD vs 0) (nthD vs 1) (nthD vs 2) (nthD vs 3) (nthD vs 4) h) N [v0, v1, v32, v33, (.int .i64 0)] h) fun x vs h => o165_j6 cl N x h)
def o165_s2 (cl : Handler) (N : Nat) (v0 v1 v19 : AV) (h : AH) : Ans :=
  fst (kLd1 h v19) fun v20 h =>
  fst (kX h (.mapget (.int .i64) false (.agg S165.z0)) [v20, v1]) fun v22 h =>
  fst (kNew h S165.z0) fun v4 h =>
  fst (kSt h 7 v4 v22) fun _ h =>
  fjn (o165_a1 cl N v0 v1 v4 h) fun _ vs h => o165_j7 cl N (nthD vs 0) (nthD vs 1) (nthD vs 2) (nthD vs 3) h
def o165 (cl : Handler) (N : Nat) (v0 v1 : AV) (h : AH) : Ans :=
  fst (kNilchk h v0) fun v9 h =>
  fst (kFldA h 7 v9) fun v10 h =>
  fst (kLd1 h v10) fun v11 h =>
  fst (kBuildSl h 1 1 [.int .i64 0] [(0, 1, v1)]) fun v13 h =>
  fst (kApp h 1 8 v11 v13) fun v14 h =>
  fst (kNilchk h v0) fun v15 h =>
  fst (kFldA h 7 v15) fun v16 h =>
  fst (kSt h 1 v16 v14) fun _ h =>
  fst (kNilchk h v0) fun v18 h =>
  fst (kFldA h 4 v18) fun v19 h =>
  o165_s2 cl N v0 v1 v19 h
theorem o165_eq (cl : Handler) (N : Nat) (v0 v1 : AV) (h : AH) : frun cl N S165 [v0, v1] h = fans (o165 cl N v0 v1 h) := by kernel_rfl
def w165 (N : Nat) : OF := fun cl args h => match args with
  | [v0, v1] => fans (o165 cl N v0 v1 h)
  | _ => none
theorem w165_ok (N : Nat) : OkF Tryz.prog 165 (w165 N) := .of (N := N) (S165_ok) fun cl args h r hr => by
  unfold w165 at hr
  split at hr
  · exact (o165_eq cl N _ _ _).trans hr
  · cases hr

/- slices.Reverse[[]int,int] -/
def S166.r0 : List AOpr := [
  q 4 (.mov (x 0)),
  q 5 (.len (x 4)),
  q 6 (.arith .sub (x 5) (.const (.int .i64 1))),
  q 2 (.mov (.const (.int .i64 0))),
  q 3 (.mov (x 6))]
def S166.r1 : List AOpr := [
  q 7 (.mov (x 2)),
  q 8 (.mov (x 3)),
  q 9 (.arith .lss (x 7) (x 8))]
def S166.r2 : List (AOpr × Nat) := [
  (q 14 (.mov (x 0)), 0),
  (q 15 (.mov (x 2)), 0),
  (q 16 (.mov (x 0)), 0),
  (q 17 (.mov (x 3)), 0),
  (q 18 (.mov (x 0)), 0),
  (q 19 (.mov (x 3)), 0),
  (q 20 (.idxA 1 (x 18) (x 19)), 48),
  (q 21 (.ld1 (x 20)), 112),
  (q 22 (.mov (x 0)), 0),
  (q 23 (.mov (x 2)), 0),
  (q 24 (.idxA 1 (x 22) (x 23)), 768),
  (q 25 (.ld1 (x 24)), 1792),
  (q 26 (.idxA 1 (x 14) (x 15)), 4083),
  (⟨none, .st 1 (x 26) (x 21), none⟩, 8179),
  (q 27 (.idxA 1 (x 16) (x 17)), 16383),
  (⟨none, .st 1 (x 27) (x 25), none⟩, 32767)]
def S166.r3 : List AOpr := [
  q 10 (.mov (x 2)),
  q 11 (.arith .add (x 10) (.const (.int .i64 1))),
  q 12 (.mov (x 3)),
  q 13 (.arith .sub (x 12) (.const (.int .i64 1))),
  q 2 (.mov (x 11)),
  q 3 (.mov (x 13))]
def S166 : SFn := ⟨28, [], .seq (.reg S166.r0) (.block 0 (.loop [0, 2, 3] [] (.seq (.seq (.reg S166.r1) (.cond (x 9) (.skip) (.exit 0))) (.seq (.block 1 (.draw S166.r2)) (.reg S166.r3)))))⟩
theorem S166_ok : EOk Tryz.prog 166 S166 := ⟨Tryz.f166, by kernel_rfl, by kernel_rfl, by decide, by kernel_rfl, its_nil (by kernel_rfl)⟩
def o166_s1 (cl : Handler) (N : Nat) (c0 c1 c2 c3 c4 c5 c6 c7 c8 : Rec) (v0 v2 v3 v14 v15 v16 v17 v21 v22 : AV) (h : AH) : Ans :=
  fdp h (kMov h v2) .pure fun v23 c9 h =>
  fdp h (kIdxA h 1 v22 v23) .pure fun v24 c10 h =>
  fdp h (kLd1 h v24) (rdK (rdv v24)) fun v25 c11 h =>
  fdp h (kIdxA h 1 v14 v15) .pure fun v26 c12 h =>
  fde h (kSt h 1 v26 v21) fun _ c13 h =>
  fdp h (kIdxA h 1 v16 v17) .pure fun v27 c14 h =>
  fde h (kSt h 1 v27 v25) fun _ c15 h =>
  cond (fchk [c0, c1, c2, c3, c4, c5, c6, c7, c8, c9, c10, c11, c12, c13, c14, c15] []) (fst (kArith h .add v2 (.int .i64 1)) fun v11 h =>
  fst (kArith h .sub v3 (.int .i64 1)) fun v13 h =>
  some (.nrm, [v0, v11, v13], [], h)) none
def o166_l1 (cl : Handler) (N : Nat) (v0 v2 v3 : AV) (h : AH) : Ans :=
  fst (kArith h .lss v2 v3) fun v9 h =>
  fif v9 (
  fdr h 16 fun r h =>
  fdp h (kMov h v0) .pure fun v14 c0 h =>
  fdp h (kMov h v2) .pure fun v15 c1 h =>
  fdp h (kMov h v0) .pure fun v16 c2 h =>
  fdp h (kMov h v3) .pure fun v17 c3 h =>
  fdp h (kMov h v0) .pure fun v18 c4 h =>
  fdp h (kMov h v3) .pure fun v19 c5 h =>
  fdp h (kIdxA h 1 v18 v19) .pure fun v20 c6 h =>
  fdp h (kLd1 h v20) (rdK (rdv v20)) fun v21 c7 h =>
  fdp h (kMov h v0) .pure fun v22 c8 h =>
  o166_s1 cl N c0 c1 c2 c3 c4 c5 c6 c7 c8 v0 v2 v3 v14 v15 v16 v17 v21 v22 h) (
  some ((.exit 0), [v0, v2, v3], [], h))
def o166_c2 (cl : Handler) (N : Nat) (h : AH) : Ans :=
  some (.nrm, [], [.tup []], h)
def o166_j3 (cl : Handler) (N : Nat) (x : AX) (h : AH) : Ans :=
  fxs x (o166_c2 cl N h) (fun j => cond (Nat.beq j 0) (o166_c2 cl N h) (none)) (some (.nrm, [], [.tup []], h))
def o166 (cl : Handler) (N : Nat) (v0 : AV) (h : AH) : Ans :=
  fst (kLen h v0) fun v5 h =>
  fst (kArith h .sub v5 (.int .i64 1)) fun v6 h =>
  fjn (fiter (fun vs h => o166_l1 cl N (nthD vs 0) (nthD vs 1) (nthD vs 2) h) N [v0, (.int .i64 0), v6] h) fun x vs h => o166_j3 cl N x h
theorem o166_eq (cl : Handler) (N : Nat) (v0 : AV) (h : AH) : frun cl N S166 [v0] h = fans (o166 cl N v0 h) := by kernel_rfl
def w166 (N : Nat) : OF := fun cl args h => match args with
  | [v0] => fans (o166 cl N v0 h)
  | _ => none
theorem w166_ok (N : Nat) : OkF Tryz.prog 166 (w166 N) := .of (N := N) (S166_ok) fun cl args h r hr => by
  unfold w166 at hr
  split at hr
  · exact (o166_eq cl N _ _).trans hr
  · cases hr

/- widgetry/widgetryref13.Key -/
def S172.r0 : List AOpr := [
  q 2 (.mov (.const (.bool false)))]
def S172.r1 : List AOpr := [
  q 3 (.mov (.const (.int .i64 0)))]
def S172.r2 : List AOpr := [
  q 5 (.mov (x 3)),
  q 6 (.mov (x 0)),
  q 7 (.lenS (x 6)),
  q 8 (.arith .lss (x 5) (x 7))]
def S172.r3 : List AOpr := [
  q 11 (.mov (x 0)),
  q 12 (.mov (x 3)),
  q 13 (.idxS (x 11) (x 12)),
  q 4 (.mov (x 13))]
def S172.r4 : List AOpr := [
  q 14 (.mov (x 4)),
  q 15 (.arith .lss (x 14) (.const (.int .u8 97))),
  q 16 (.mov (x 15)),
  ⟨some 17, .mov (x 4), some (16, false)⟩,
  ⟨some 18, .arith .gtr (x 17) (.const (.int .u8 122)), some (16, false)⟩,
  q 19 (.pick (x 16) (.const (.bool true)) (x 18)),
  q 20 (.mov (x 19)),
  ⟨some 21, .mov (x 4), some (20, true)⟩,
  ⟨some 22, .arith .lss (x 21) (.const (.int .u8 65)), some (20, true)⟩,
  ⟨some 23, .mov (x 22), some (20, true)⟩,
  ⟨some 24, .mov (x 4), some (23, false)⟩,
  ⟨some 25, .arith .gtr (x 24) (.const (.int .u8 90)), some (23, false)⟩,
  ⟨some 26, .pick (x 23) (.const (.bool true)) (x 25), some (20, true)⟩,
  q 27 (.pick (x 20) (x 26) (.const (.bool false))),
  q 28 (.mov (x 27)),
  ⟨some 29, .mov (x 4), some (28, true)⟩,
  ⟨some 30, .arith .lss (x 29) (.const (.int .u8 48)), some (28, true)⟩,
  ⟨some 31, .mov (x 30), some (28, true)⟩,
  ⟨some 32, .mov (x 4), some (31, false)⟩,
  ⟨some 33, .arith .gtr (x 32) (.const (.int .u8 57)), some (31, false)⟩,
  ⟨some 34, .pick (x 31) (.const (.bool true)) (x 33), some (28, true)⟩,
  q 35 (.pick (x 28) (x 34) (.const (.bool false))),
  q 36 (.mov (x 35)),
  ⟨some 37, .mov (x 4), some (36, true)⟩,
  ⟨some 38, .arith .neq (x 37) (.const (.int .u8 45)), some (36, true)⟩,
  q 39 (.pick (x 36) (x 38) (.const (.bool false))),
  q 40 (.mov (x 39)),
  ⟨some 41, .mov (x 4), some (40, true)⟩,
  ⟨some 42, .arith .neq (x 41) (.const (.int .u8 95)), some (40, true)⟩,
  q 43 (.pick (x 40) (x 42) (.const (.bool false)))]
def S172.r5 : List AOpr := [
  q 2 (.mov (.const (.bool false)))]
def S172.r6 : List AOpr := [
  q 9 (.mov (x 3)),
  q 10 (.arith .add (x 9) (.const (.int .i64 1))),
  q 3 (.mov (x 10))]
def S172.r7 : List AOpr := [
  q 44 (.mov (x 0)),
  q 45 (.lenS (x 44)),
  q 46 (.arith .leq (x 45) (.const (.int .i64 24))),
  q 2 (.mov (x 46))]
def S172 : SFn := ⟨47, [.tmp 2], .seq (.reg S172.r0) (.seq (.seq (.reg S172.r1) (.block 0 (.loop [0, 3] [0, 2] (.seq (.seq (.reg S172.r2) (.cond (x 8) (.skip) (.exit 0))) (.seq (.block 1 (.seq (.reg S172.r3) (.seq (.joinN [0, 3, 43] (.reg S172.r4)) (.cond (x 43) (.seq (.reg S172.r5) (.ret)) (.skip))))) (.reg S172.r6)))))) (.seq (.reg S172.r7) (.ret)))⟩
theorem S172_ok : EOk Tryz.prog 172 S172 := ⟨Tryz.f172, by kernel_rfl, by kernel_rfl, by decide, by kernel_rfl, its_nil (by kernel_rfl)⟩
def o172_s1 (cl : Handler) (N : Nat) (v0 v3 v4 v36 v38 : AV) (h : AH) : Ans :=
  fst (kPick h v36 v38 (.bool false)) fun v39 h =>
  fgd (gdv true v39) (kMov h v4) h fun v41 h =>
  fgd (gdv true v39) (kArith h .neq v41 (.int .u8 95)) h fun v42 h =>
  fst (kPick h v39 v42 (.bool false)) fun v43 h =>
  some (.nrm, [], [v0, v3, v43], h)
def o172_s2 (cl : Handler) (N : Nat) (v0 v3 v4 v20 v26 : AV) (h : AH) : Ans :=
  fst (kPick h v20 v26 (.bool false)) fun v27 h =>
  fgd (gdv true v27) (kMov h v4) h fun v29 h =>
  fgd (gdv true v27) (kArith h .lss v29 (.int .u8 48)) h fun v30 h =>
  fgd (gdv true v27) (kMov h v30) h fun v31 h =>
  fgd (gdv false v31) (kMov h v4) h fun v32 h =>
  fgd (gdv false v31) (kArith h .gtr v32 (.int .u8 57)) h fun v33 h =>
  fgd (gdv true v27) (kPick h v31 (.bool true) v33) h fun v34 h =>
  fst (kPick h v27 v34 (.bool false)) fun v35 h =>
  fgd (gdv true v35) (kMov h v4) h fun v37 h =>
  fgd (gdv true v35) (kArith h .neq v37 (.int .u8 45)) h fun v38 h =>
  o172_s1 cl N v0 v3 v4 v35 v38 h
def o172_a1 (cl : Handler) (N : Nat) (v0 v3 v4 : AV) (h : AH) : Ans :=
  fst (kArith h .lss v4 (.int .u8 97)) fun v15 h =>
  fgd (gdv false v15) (kMov h v4) h fun v17 h =>
  fgd (gdv false v15) (kArith h .gtr v17 (.int .u8 122)) h fun v18 h =>
  fst (kPick h v15 (.bool true) v18) fun v19 h =>
  fgd (gdv true v19) (kMov h v4) h fun v21 h =>
  fgd (gdv true v19) (kArith h .lss v21 (.int .u8 65)) h fun v22 h =>
  fgd (gdv true v19) (kMov h v22) h fun v23 h =>
  fgd (gdv false v23) (kMov h v4) h fun v24 h =>
  fgd (gdv false v23) (kArith h .gtr v24 (.int .u8 90)) h fun v25 h =>
  fgd (gdv true v19) (kPick h v23 (.bool true) v25) h fun v26 h =>
  o172_s2 cl N v0 v3 v4 v19 v26 h
def o172_j2 (cl : Handler) (N : Nat) (v0 v3 v43 : AV) (h : AH) : Ans :=
  fif v43 (
  some (.ret, [v0, v3], [v0, (.bool false)], h)) (
  fst (kArith h .add v3 (.int .i64 1)) fun v10 h =>
  some (.nrm, [v0, v10], [v0, .undef], h))
def o172_l3 (cl : Handler) (N : Nat) (v0 v3 : AV) (h : AH) : Ans :=
  fst (kLenS h v0) fun v7 h =>
  fst (kArith h .lss v3 v7) fun v8 h =>
  fif v8 (
  fst (kIdxS h v0 v3) fun v13 h =>
  fjn (o172_a1 cl N v0 v3 v13 h) fun _ vs h => o172_j2 cl N (nthD vs 0) (nthD vs 1) (nthD vs 2) h) (
  some ((.exit 0), [v0, v3], [v0, .undef], h))
def o172_c4 (cl : Handler) (N : Nat) (v0 : AV) (h : AH) : Ans :=
  fst (kLenS h v0) fun v45 h =>
  fst (kArith h .leq v45 (.int .i64 24)) fun v46 h =>
  some (.nrm, [], [v46], h)
def o172_j5 (cl : Handler) (N : Nat) (x : AX) (v0 v2 : AV) (h : AH) : Ans :=
  fxs x (o172_c4 cl N v0 h) (fun j => cond (Nat.beq j 0) (o172_c4 cl N v0 h) (none)) (some (.nrm, [], [v2], h))
def o172 (cl : Handler) (N : Nat) (v0 : AV) (h : AH) : Ans :=
  fjn (fiter (fun vs h => o172_l3 cl N (nthD vs 0) (nthD vs 1) h) N [v0, (.int .i64 0)] h) fun x vs h => o172_j5 cl N x (nthD vs 0) (nthD vs 1) h
theorem o172_eq (cl : Handler) (N : Nat) (v0 : AV) (h : AH) : frun cl N S172 [v0] h = fans (o172 cl N v0 h) := by kernel_rfl
def w172 (N : Nat) : OF := fun cl args h => match args with
  | [v0] => fans (o172 cl N v0 h)
  | _ => none
theorem w172_ok (N : Nat) : OkF Tryz.prog 172 (w172 N) := .of (N := N) (S172_ok) fun cl args h r hr => by
  unfold w172 at hr
  split at hr
  · exact (o172_eq cl N _ _).trans hr
  · cases hr

/- widgetry/widgetryref11.letter -/
def S173.r0 : List AOpr := [
  q 2 (.mov (.const (.bool false)))]
def S173.r1 : List AOpr := [
  q 3 (.mov (x 0)),
  q 4 (.arith .geq (x 3) (.const (.int .u8 97))),
  q 5 (.mov (x 4)),
  ⟨some 6, .mov (x 0), some (5, true)⟩,
  ⟨some 7, .arith .leq (x 6) (.const (.int .u8 122)), some (5, true)⟩,
  q 8 (.pick (x 5) (x 7) (.const (.bool false))),
  q 9 (.mov (x 8)),
  ⟨some 10, .mov (x 0), some (9, false)⟩,
  ⟨some 11, .arith .geq (x 10) (.const (.int .u8 65)), some (9, false)⟩,
  ⟨some 12, .mov (x 11), some (9, false)⟩,
  ⟨some 13, .mov (x 0), some (12, true)⟩,
  ⟨some 14, .arith .leq (x 13) (.const (.int .u8 90)), some (12, true)⟩,
  ⟨some 15, .pick (x 12) (x 14) (.const (.bool false)), some (9, false)⟩,
  q 16 (.pick (x 9) (.const (.bool true)) (x 15)),
  q 2 (.mov (x 16))]
def S173 : SFn := ⟨17, [.tmp 2], .seq (.reg S173.r0) (.seq (.reg S173.r1) (.ret))⟩
theorem S173_ok : EOk Tryz.prog 173 S173 := ⟨Tryz.f173, by kernel_rfl, by kernel_rfl, by decide, by kernel_rfl, its_nil (by kernel_rfl)⟩
def o173_s1 (cl : Handler) (N : Nat) (v9 v15 : AV) (h : AH) : Ans :=
  fst (kPick h v9 (.bool true) v15) fun v16 h =>
  some (.nrm, [], [v16], h)
def o173 (cl : Handler) (N : Nat) (v0 : AV) (h : AH) : Ans :=
  fst (kArith h .geq v0 (.int .u8 97)) fun v4 h =>
  fgd (gdv true v4) (kMov h v0) h fun v6 h =>
  fgd (gdv true v4) (kArith h .leq v6 (.int .u8 122)) h fun v7 h =>
  fst (kPick h v4 v7 (.bool false)) fun v8 h =>
  fgd (gdv false v8) (kMov h v0) h fun v10 h =>
  fgd (gdv false v8) (kArith h .geq v10 (.int .u8 65)) h fun v11 h =>
  fgd (gdv false v8) (kMov h v11) h fun v12 h =>
  fgd (gdv true v12) (kMov h v0) h fun v13 h =>
  fgd (gdv true v12) (kArith h .leq v13 (.int .u8 90)) h fun v14 h =>
  fgd (gdv false v8) (kPick h v12 v14 (.bool false)) h fun v15 h =>
  o173_s1 cl N v8 v15 h
theorem o173_eq (cl : Handler) (N : Nat) (v0 : AV) (h : AH) : frun cl N S173 [v0] h = fans (o173 cl N v0 h) := by kernel_rfl
def w173 (N : Nat) : OF := fun cl args h => match args with
  | [v0] => fans (o173 cl N v0 h)
  | _ => none
theorem w173_ok (N : Nat) : OkF Tryz.prog 173 (w173 N) := .of (N := N) (S173_ok) fun cl args h r hr => by
  unfold w173 at hr
  split at hr
  · exact (o173_eq cl N _ _).trans hr
  · cases hr

/- widgetry/widgetryref11.TypeOf -/
def S174.r0 : List AOpr := [
  q 1 (.box (x 0)),
  q 2 (.new [.int .i64 0, .nilsl]),
  q 3 (.mov (.const (.int .i64 0)))]
def S174.r1 : List AOpr := [
  q 8 (.ldn 4 (x 1)),
  q 9 (.call (.const (.func (.func 189) [] [])) [.tmp 8, .const (.int .i64 1), .const (.int .i64 0)]),
  q 7 (.mov (x 9)),
  q 10 (.ext (x 7) 0),
  q 11 (.ext (x 7) 1),
  q 12 (.ext (x 7) 2),
  q 4 (.new [.int .i64 0, .nilsl]),
  ⟨none, .st 2 (x 4) (x 10), none⟩,
  q 5 (.mov (x 11)),
  q 6 (.mov (x 12))]
def S174.r2 : List AOpr := [
  q 13 (.ldn 2 (x 4)),
  q 14 (.mov (x 6)),
  ⟨none, .st 2 (x 2) (x 13), none⟩,
  q 3 (.mov (x 14))]
def S174 : SFn := ⟨15, [.cell 2 (some 2), .tmp 3], .seq (.reg S174.r0) (.seq (.reg S174.r1) (.seq (.reg S174.r2) (.ret)))⟩
theorem S174_ok : EOk Tryz.prog 174 S174 := ⟨Tryz.f174, by kernel_rfl, by kernel_rfl, by decide, by kernel_rfl, its_nil (by kernel_rfl)⟩
def o174_s1 (cl : Handler) (N : Nat) (v2 v6 v13 : AV) (h : AH) : Ans :=
  fst (kSt h 2 v2 v13) fun _ h =>
  fres (aresV h [.cell (v2) (some 2), .val (v6)]) h
def o174 (cl : Handler) (N : Nat) (v0 : AV) (h : AH) : Ans :=
  fst (kBox h v0) fun v1 h =>
  fst (kNew h [.int .i64 0, .nilsl]) fun v2 h =>
  fst (kLdn h 4 v1) fun v8 h =>
  fst (cl 189 [v8, (.int .i64 1), (.int .i64 0)] h) fun v9 h =>
  fst (kExt h v9 0) fun v10 h =>
  fst (kExt h v9 1) fun v11 h =>
  fst (kExt h v9 2) fun v12 h =>
  fst (kNew h [.int .i64 0, .nilsl]) fun v4 h =>
  fst (kSt h 2 v4 v10) fun _ h =>
  fst (kLdn h 2 v4) fun v13 h =>
  o174_s1 cl N v2 v12 v13 h
theorem o174_eq (cl : Handler) (N : Nat) (v0 : AV) (h : AH) : frun cl N S174 [v0] h = fans (o174 cl N v0 h) := by kernel_rfl
def w174 (N : Nat) : OF := fun cl args h => match args with
  | [v0] => fans (o174 cl N v0 h)
  | _ => none
theorem w174_ok (N : Nat) : OkF Tryz.prog 174 (w174 N) := .of (N := N) (S174_ok) fun cl args h r hr => by
  unfold w174 at hr
  split at hr
  · exact (o174_eq cl N _ _).trans hr
  · cases hr

/- widgetry/widgetryref02.within -/
def S175.r0 : List AOpr := [
  q 4 (.mov (.const (.bool false)))]
def S175.r1 : List AOpr := [
  q 5 (.mov (x 0)),
  q 6 (.mov (x 1)),
  q 7 (.un .neg (x 6)),
  q 8 (.arith .geq (x 5) (x 7)),
  q 9 (.mov (x 8)),
  ⟨some 10, .mov (x 0), some (9, true)⟩,
  ⟨some 11, .mov (x 1), some (9, true)⟩,
  ⟨some 12, .arith .leq (x 10) (x 11), some (9, true)⟩,
  q 13 (.pick (x 9) (x 12) (.const (.bool false))),
  q 4 (.mov (x 13))]
def S175 : SFn := ⟨14, [.tmp 4], .seq (.reg S175.r0) (.seq (.reg S175.r1) (.ret))⟩
theorem S175_ok : EOk Tryz.prog 175 S175 := ⟨Tryz.f175, by kernel_rfl, by kernel_rfl, by decide, by kernel_rfl, its_nil (by kernel_rfl)⟩
def o175 (cl : Handler) (N : Nat) (v0 v1 : AV) (h : AH) : Ans :=
  fst (kUn h .neg v1) fun v7 h =>
  fst (kArith h .geq v0 v7) fun v8 h =>
  fgd (gdv true v8) (kMov h v0) h fun v10 h =>
  fgd (gdv true v8) (kMov h v1) h fun v11 h =>
  fgd (gdv true v8) (kArith h .leq v10 v11) h fun v12 h =>
  fst (kPick h v8 v12 (.bool false)) fun v13 h =>
  some (.nrm, [], [v13], h)
theorem o175_eq (cl : Handler) (N : Nat) (v0 v1 : AV) (h : AH) : frun cl N S175 [v0, v1] h = fans (o175 cl N v0 v1 h) := by kernel_rfl
def w175 (N : Nat) : OF := fun cl args h => match args with
  | [v0, v1] => fans (o175 cl N v0 v1 h)
  | _ => none
theorem w175_ok (N : Nat) : OkF Tryz.prog 175 (w175 N) := .of (N := N) (S175_ok) fun cl args h r hr => by
  unfold w175 at hr
  split at hr
  · exact (o175_eq cl N _ _ _).trans hr
  · cases hr

def S176.z0 : List AV := [.int .i64 0, .int .i64 0, .int .i64 0, .str [], .nilsl, .nilsl, .nilsl]
/- widgetry/widgetryref14.path -/
def S176.r0 : List AOpr := [
  q 2 (.box (x 0)),
  q 4 (.mov (.const (.nilsl)))]
def S176.r1 : List AOpr := [
  q 6 (.ldn 3 (x 2)),
  q 7 (.mov (x 1)),
  q 8 (.call (.const (.func (.func 97) [] [])) [.tmp 6, .tmp 7]),
  q 5 (.new S176.z0),
  ⟨none, .st 7 (x 5) (x 8), none⟩]
def S176.r2 : List AOpr := [
  q 9 (.fldA 1 (x 5)),
  q 10 (.ld1 (x 9)),
  q 11 (.arith .eql (x 10) (.const (.int .i64 0)))]
def S176.r3 : List AOpr := [
  q 12 (.mov (x 1)),
  q 13 (.buildSl 1 1 [.int .i64 0] [(0, 1, .tmp 12)]),
  q 4 (.mov (x 13))]
def S176.r4 : List AOpr := [
  q 14 (.ldn 3 (x 2)),
  q 15 (.fldA 1 (x 5)),
  q 16 (.ld1 (x 15)),
  q 17 (.call (.const (.func (.func 176) [] [])) [.tmp 14, .tmp 16]),
  q 18 (.mov (x 1)),
  q 19 (.buildSl 1 1 [.int .i64 0] [(0, 1, .tmp 18)]),
  q 20 (.app 1 8 (x 17) (x 19)),
  q 4 (.mov (x 20))]
def S176 : SFn := ⟨21, [.tmp 4], .seq (.reg S176.r0) (.seq (.reg S176.r1) (.seq (.seq (.reg S176.r2) (.cond (x 11) (.seq (.reg S176.r3) (.ret)) (.skip))) (.seq (.reg S176.r4) (.ret))))⟩
theorem S176_ok : EOk Tryz.prog 176 S176 := ⟨Tryz.f176, by kernel_rfl, by kernel_rfl, by decide, by kernel_rfl, its_nil (by kernel_rfl)⟩
def o176_s1 (cl : Handler) (N : Nat) (v1 v14 v15 : AV) (h : AH) : Ans :=
  fst (kLd1 h v15) fun v16 h =>
  fst (cl 176 [v14, v16] h) fun v17 h =>
  fst (kBuildSl h 1 1 [.int .i64 0] [(0, 1, v1)]) fun v19 h =>
  fst (kApp h 1 8 v17 v19) fun v20 h =>
  some (.nrm, [], [v20], h)
def o176 (cl : Handler) (N : Nat) (v0 v1 : AV) (h : AH) : Ans :=
  fst (kBox h v0) fun v2 h =>
  fst (kLdn h 3 v2) fun v6 h =>
  fst (cl 97 [v6, v1] h) fun v8 h =>
  fst (kNew h S176.z0) fun v5 h =>
  fst (kSt h 7 v5 v8) fun _ h =>
  fst (kFldA h 1 v5) fun v9 h =>
  fst (kLd1 h v9) fun v10 h =>
  fst (kArith h .eql v10 (.int .i64 0)) fun v11 h =>
  fif v11 (
  fst (kBuildSl h 1 1 [.int .i64 0] [(0, 1, v1)]) fun v13 h =>
  some (.nrm, [], [v13], h)) (
  fst (kLdn h 3 v2) fun v14 h =>
  fst (kFldA h 1 v5) fun v15 h =>
  o176_s1 cl N v1 v14 v15 h)
theorem o176_eq (cl : Handler) (N : Nat) (v0 v1 : AV) (h : AH) : frun cl N S176 [v0, v1] h = fans (o176 cl N v0 v1 h) := by kernel_rfl
def w176 (N : Nat) : OF := fun cl args h => match args with
  | [v0, v1] => fans (o176 cl N v0 v1 h)
  | _ => none
theorem w176_ok (N : Nat) : OkF Tryz.prog 176 (w176 N) := .of (N := N) (S176_ok) fun cl args h r hr => by
  unfold w176 at hr
  split at hr
  · exact (o176_eq cl N _ _ _).trans hr
  · cases hr

def S177.z0 : List AV := [.int .i64 0, .int .i64 0, .int .i64 0, .str [], .nilsl, .nilsl, .nilsl]
def S177.z1 : List AV := [.int .i64 0, .int .i64 0, .int .i64 0, .int .i64 0, .int .i64 0, .int .i64 0, .nilsl]
/- widgetry/widgetryref29.Valid -/
def S177.r0 : List AOpr := [
  q 4 (.box (x 0)),
  q 8 (.mov (.const (.bool false)))]
def S177.r1 : List AOpr := [
  q 15 (.ldn 3 (x 4)),
  q 16 (.call (.const (.func (.func 93) [] [])) [.tmp 15]),
  q 17 (.arith .neq (x 16) (.const (.int .i64 0))),
  q 18 (.mov (x 17)),
  ⟨some 19, .ldn 3 (x 4), some (18, false)⟩,
  ⟨some 20, .mov (x 1), some (18, false)⟩,
  ⟨some 21, .call (.const (.func (.func 94) [] [])) [.tmp 19, .tmp 20], some (18, false)⟩,
  ⟨some 22, .arith .neq (x 21) (.const (.int .i64 0)), some (18, false)⟩,
  q 23 (.pick (x 18) (.const (.bool true)) (x 22))]
def S177.r2 : List AOpr := [
  q 8 (.mov (.const (.bool false)))]
def S177.r3 : List AOpr := [
  q 9 (.mov (.const (.int .i64 0)))]
def S177.r4 : List AOpr := [
  q 24 (.mov (x 9)),
  q 25 (.mov (x 3)),
  q 26 (.len (x 25)),
  q 27 (.arith .lss (x 24) (x 26))]
def S177.r5 : List AOpr := [
  q 30 (.mov (x 3)),
  q 31 (.mov (x 9)),
  q 32 (.idxA 2 (x 30) (x 31)),
  q 33 (.fldA 1 (x 32)),
  q 34 (.ld1 (x 33)),
  q 35 (.call (.const (.func (.func 190) [] [])) [.tmp 34])]
def S177.r6 : List AOpr := [
  q 8 (.mov (.const (.bool false)))]
def S177.r7 : List AOpr := [
  q 28 (.mov (x 9)),
  q 29 (.arith .add (x 28) (.const (.int .i64 1))),
  q 9 (.mov (x 29))]
def S177.r8 : List AOpr := [
  q 10 (.mov (.const (.int .i64 0)))]
def S177.r9 : List AOpr := [
  q 36 (.mov (x 10)),
  q 37 (.mov (x 2)),
  q 38 (.len (x 37)),
  q 39 (.arith .lss (x 36) (x 38))]
def S177.r10 : List (AOpr × Nat) := [
  (q 43 (.ldn 3 (x 4)), 0),
  (q 44 (.mov (x 2)), 0),
  (q 45 (.mov (x 10)), 0),
  (q 46 (.idxA 7 (x 44) (x 45)), 6),
  (q 47 (.fldA 0 (x 46)), 14),
  (q 48 (.ld1 (x 47)), 30),
  (q 49 (.call (.const (.func (.func 42) [] [])) [.tmp 43, .tmp 48]), 63),
  (q 42 (.mov (x 49)), 127),
  (q 50 (.ext (x 42) 0), 255),
  (q 51 (.ext (x 42) 1), 255),
  (q 11 (.new S177.z0), 0),
  (⟨none, .st 7 (x 11) (x 50), none⟩, 1535),
  (q 12 (.mov (x 51)), 4095)]
def S177.r11 : List (AOpr × Nat) := [
  (q 52 (.mov (x 12)), 0),
  (q 53 (.un .not (x 52)), 1),
  (q 54 (.mov (x 53)), 3),
  (⟨some 55, .mov (x 10), some (54, false)⟩, 7),
  (⟨some 56, .arith .gtr (x 55) (.const (.int .i64 0)), some (54, false)⟩, 15),
  (⟨some 57, .mov (x 56), some (54, false)⟩, 31),
  (⟨some 58, .mov (x 2), some (57, true)⟩, 63),
  (⟨some 59, .mov (x 10), some (57, true)⟩, 63),
  (⟨some 60, .arith .sub (x 59) (.const (.int .i64 1)), some (57, true)⟩, 191),
  (⟨some 61, .idxA 7 (x 58) (x 60), some (57, true)⟩, 511),
  (⟨some 62, .fldA 0 (x 61), some (57, true)⟩, 1023),
  (⟨some 63, .ld1 (x 62), some (57, true)⟩, 2047),
  (⟨some 64, .mov (x 2), some (57, true)⟩, 63),
  (⟨some 65, .mov (x 10), some (57, true)⟩, 63),
  (⟨some 66, .idxA 7 (x 64) (x 65), some (57, true)⟩, 12351),
  (⟨some 67, .fldA 0 (x 66), some (57, true)⟩, 28735),
  (⟨some 68, .ld1 (x 67), some (57, true)⟩, 61503),
  (⟨some 69, .arith .geq (x 63) (x 68), some (57, true)⟩, 131071),
  (⟨some 70, .pick (x 57) (x 69) (.const (.bool false)), some (54, false)⟩, 262143),
  (q 71 (.pick (x 54) (.const (.bool true)) (x 70)), 524287),
  (q 72 (.mov (x 71)), 1048575),
  (⟨some 73, .mov (x 2), some (72, false)⟩, 2097151),
  (⟨some 74, .mov (x 10), some (72, false)⟩, 2097151),
  (⟨some 75, .idxA 7 (x 73) (x 74), some (72, false)⟩, 8388607),
  (⟨some 76, .fldA 1 (x 75), some (72, false)⟩, 16777215),
  (⟨some 77, .ldn 4 (x 76), some (72, false)⟩, 33554431),
  (⟨some 78, .call (.const (.func (.func 149) [] [])) [.tmp 77], some (72, false)⟩, 67108863),
  (⟨some 79, .un .not (x 78), some (72, false)⟩, 134217727),
  (q 80 (.pick (x 72) (.const (.bool true)) (x 79)), 268435455)]
def S177.r12 : List AOpr := [
  q 8 (.mov (.const (.bool false)))]
def S177.r13 : List AOpr := [
  q 82 (.mov (x 2)),
  q 83 (.fldA 1 (x 11)),
  q 84 (.ld1 (x 83)),
  q 85 (.call (.const (.func (.func 107) [] [])) [.tmp 82, .tmp 84]),
  q 81 (.mov (x 85)),
  q 86 (.ext (x 81) 0),
  q 87 (.ext (x 81) 1),
  q 13 (.new S177.z1),
  ⟨none, .st 7 (x 13) (x 86), none⟩,
  q 14 (.mov (x 87))]
def S177.r14 : List AOpr := [
  q 88 (.mov (x 14)),
  q 89 (.un .not (x 88)),
  q 90 (.mov (x 89)),
  ⟨some 91, .fldA 1 (x 11), some (90, true)⟩,
  ⟨some 92, .ld1 (x 91), some (90, true)⟩,
  ⟨some 93, .arith .neq (x 92) (.const (.int .i64 0)), some (90, true)⟩,
  q 94 (.pick (x 90) (x 93) (.const (.bool false)))]
def S177.r15 : List AOpr := [
  q 8 (.mov (.const (.bool false)))]
def S177.r16 : List AOpr := [
  q 40 (.mov (x 10)),
  q 41 (.arith .add (x 40) (.const (.int .i64 1))),
  q 10 (.mov (x 41))]
def S177.r17 : List AOpr := [
  q 8 (.mov (.const (.bool true)))]
def S177 : SFn := ⟨95, [.tmp 8], .seq (.reg S177.r0) (.seq (.seq (.joinN [2, 3, 4, 23] (.reg S177.r1)) (.cond (x 23) (.seq (.reg S177.r2) (.ret)) (.skip))) (.seq (.seq (.reg S177.r3) (.block 0 (.loop [2, 3, 4, 9] [2, 4, 8] (.seq (.seq (.reg S177.r4) (.cond (x 27) (.skip) (.exit 0))) (.seq (.block 1 (.seq (.reg S177.r5) (.cond (x 35) (.seq (.reg S177.r6) (.ret)) (.skip)))) (.reg S177.r7)))))) (.seq (.seq (.reg S177.r8) (.block 2 (.loop [2, 4, 10] [8] (.seq (.seq (.reg S177.r9) (.cond (x 39) (.skip) (.exit 2))) (.seq (.block 3 (.seq (.draw S177.r10) (.seq (.seq (.joinN [2, 4, 10, 11, 80] (.draw S177.r11)) (.cond (x 80) (.seq (.reg S177.r12) (.ret)) (.skip))) (.seq (.reg S177.r13) (.seq (.joinN [2, 4, 10, 94] (.reg S177.r14)) (.cond (x 94) (.seq (.reg S177.r15) (.ret)) (.skip))))))) (.reg S177.r16)))))) (.seq (.reg S177.r17) (.ret)))))⟩
theorem S177_ok : EOk Tryz.prog 177 S177 := ⟨Tryz.f177, by kernel_rfl, by kernel_rfl, by decide, by kernel_rfl, its_nil (by kernel_rfl)⟩
def o177_a1 (cl : Handler) (N : Nat) (v1 v2 v3 v4 : AV) (h : AH) : Ans :=
  fst (kLdn h 3 v4) fun v15 h =>
  fst (cl 93 [v15] h) fun v16 h =>
  fst (kArith h .neq v16 (.int .i64 0)) fun v17 h =>
  fgd (gdv false v17) (kLdn h 3 v4) h fun v19 h =>
  fgd (gdv false v17) (kMov h v1) h fun v20 h =>
  fgd (gdv false v17) (cl 94 [v19, v20] h) h fun v21 h =>
  fgd (gdv false v17) (kArith h .neq v21 (.int .i64 0)) h fun v22 h =>
  fst (kPick h v17 (.bool true) v22) fun v23 h =>
  some (.nrm, [], [v2, v3, v4, v23], h)
def o177_l2 (cl : Handler) (N : Nat) (v2 v3 v4 v9 : AV) (h : AH) : Ans :=
  fst (kLen h v3) fun v26 h =>
  fst (kArith h .lss v9 v26) fun v27 h =>
  fif v27 (
  fst (kIdxA h 2 v3 v9) fun v32 h =>
  fst (kFldA h 1 v32) fun v33 h =>
  fst (kLd1 h v33) fun v34 h =>
  fst (cl 190 [v34] h) fun v35 h =>
  fif v35 (
  some (.ret, [v2, v3, v4, v9], [v2, v4, (.bool false)], h)) (
  fst (kArith h .add v9 (.int .i64 1)) fun v29 h =>
  some (.nrm, [v2, v3, v4, v29], [v2, v4, .undef], h))) (
  some ((.exit 0), [v2, v3, v4, v9], [v2, v4, .undef], h))
def o177_s1 (cl : Handler) (N : Nat) (c0 c1 c2 c3 c4 c5 c6 c7 c8 c9 c10 c11 c12 c13 c14 c15 c16 c17 c18 c19 : Rec) (v2 v4 v10 v11 v71 : AV) (h : AH) : Ans :=
  fdp h (kMov h v71) .pure fun v72 c20 h =>
  fgq (gdv false v72) (fun k => fdp h (kMov h v2) .pure k) h fun v73 c21 h =>
  fgq (gdv false v72) (fun k => fdp h (kMov h v10) .pure k) h fun v74 c22 h =>
  fgq (gdv false v72) (fun k => fdp h (kIdxA h 7 v73 v74) .pure k) h fun v75 c23 h =>
  fgq (gdv false v72) (fun k => fdp h (kFldA h 1 v75) .pure k) h fun v76 c24 h =>
  fgq (gdv false v72) (fun k => fdp h (kLdn h 4 v76) (rdK (rdv v76)) k) h fun v77 c25 h =>
  fgq (gdv false v72) (fun k => fde h (cl 149 [v77] h) k) h fun v78 c26 h =>
  fgq (gdv false v72) (fun k => fdp h (kUn h .not v78) .pure k) h fun v79 c27 h =>
  fdp h (kPick h v72 (.bool true) v79) .pure fun v80 c28 h =>
  cond (fchk [c0, c1, c2, c3, c4, c5, c6, c7, c8, c9, c10, c11, c12, c13, c14, c15, c16, c17, c18, c19, c20, c21, c22, c23, c24, c25, c26, c27, c28] []) (some (.nrm, [], [v2, v4, v10, v11, v80], h)) none
def o177_s2 (cl : Handler) (N : Nat) (c0 c1 c2 c3 c4 c5 c6 c7 c8 c9 : Rec) (v2 v4 v10 v11 v54 v57 v61 : AV) (h : AH) : Ans :=
  fgq (gdv true v57) (fun k => fdp h (kFldA h 0 v61) .pure k) h fun v62 c10 h =>
  fgq (gdv true v57) (fun k => fdp h (kLd1 h v62) (rdK (rdv v62)) k) h fun v63 c11 h =>
  fgq (gdv true v57) (fun k => fdp h (kMov h v2) .pure k) h fun v64 c12 h =>
  fgq (gdv true v57) (fun k => fdp h (kMov h v10) .pure k) h fun v65 c13 h =>
  fgq (gdv true v57) (fun k => fdp h (kIdxA h 7 v64 v65) .pure k) h fun v66 c14 h =>
  fgq (gdv true v57) (fun k => fdp h (kFldA h 0 v66) .pure k) h fun v67 c15 h =>
  fgq (gdv true v57) (fun k => fdp h (kLd1 h v67) (rdK (rdv v67)) k) h fun v68 c16 h =>
  fgq (gdv true v57) (fun k => fdp h (kArith h .geq v63 v68) .pure k) h fun v69 c17 h =>
  fgq (gdv false v54) (fun k => fdp h (kPick h v57 v69 (.bool false)) .pure k) h fun v70 c18 h =>
  fdp h (kPick h v54 (.bool true) v70) .pure fun v71 c19 h =>
  o177_s1 cl N c0 c1 c2 c3 c4 c5 c6 c7 c8 c9 c10 c11 c12 c13 c14 c15 c16 c17 c18 c19 v2 v4 v10 v11 v71 h
def o177_a3 (cl : Handler) (N : Nat) (v2 v4 v10 v11 v12 : AV) (h : AH) : Ans :=
  fdr h 29 fun r h =>
  fdp h (kMov h v12) .pure fun v52 c0 h =>
  fdp h (kUn h .not v52) .pure fun v53 c1 h =>
  fdp h (kMov h v53) .pure fun v54 c2 h =>
  fgq (gdv false v54) (fun k => fdp h (kMov h v10) .pure k) h fun v55 c3 h =>
  fgq (gdv false v54) (fun k => fdp h (kArith h .gtr v55 (.int .i64 0)) .pure k) h fun v56 c4 h =>
  fgq (gdv false v54) (fun k => fdp h (kMov h v56) .pure k) h fun v57 c5 h =>
  fgq (gdv true v57) (fun k => fdp h (kMov h v2) .pure k) h fun v58 c6 h =>
  fgq (gdv true v57) (fun k => fdp h (kMov h v10) .pure k) h fun v59 c7 h =>
  fgq (gdv true v57) (fun k => fdp h (kArith h .sub v59 (.int .i64 1)) .pure k) h fun v60 c8 h =>
  fgq (gdv true v57) (fun k => fdp h (kIdxA h 7 v58 v60) .pure k) h fun v61 c9 h =>
  o177_s2 cl N c0 c1 c2 c3 c4 c5 c6 c7 c8 c9 v2 v4 v10 v11 v54 v57 v61 h
def o177_a4 (cl : Handler) (N : Nat) (v2 v4 v10 v11 v14 : AV) (h : AH) : Ans :=
  fst (kUn h .not v14) fun v89 h =>
  fgd (gdv true v89) (kFldA h 1 v11) h fun v91 h =>
  fgd (gdv true v89) (kLd1 h v91) h fun v92 h =>
  fgd (gdv true v89) (kArith h .neq v92 (.int .i64 0)) h fun v93 h =>
  fst (kPick h v89 v93 (.bool false)) fun v94 h =>
  some (.nrm, [], [v2, v4, v10, v94], h)
def o177_j5 (cl : Handler) (N : Nat) (v2 v4 v10 v94 : AV) (h : AH) : Ans :=
  fif v94 (
  some (.ret, [v2, v4, v10], [(.bool false)], h)) (
  fst (kArith h .add v10 (.int .i64 1)) fun v41 h =>
  some (.nrm, [v2, v4, v41], [.undef], h))
def o177_j6 (cl : Handler) (N : Nat) (v2 v4 v10 v11 v80 : AV) (h : AH) : Ans :=
  fif v80 (
  some (.ret, [v2, v4, v10], [(.bool false)], h)) (
  fst (kFldA h 1 v11) fun v83 h =>
  fst (kLd1 h v83) fun v84 h =>
  fst (cl 107 [v2, v84] h) fun v85 h =>
  fst (kExt h v85 0) fun v86 h =>
  fst (kExt h v85 1) fun v87 h =>
  fst (kNew h S177.z1) fun v13 h =>
  fst (kSt h 7 v13 v86) fun _ h =>
  fjn (o177_a4 cl N v2 v4 v10 v11 v87 h) fun _ vs h => o177_j5 cl N (nthD vs 0) (nthD vs 1) (nthD vs 2) (nthD vs 3) h)
def o177_s3 (cl : Handler) (N : Nat) (r : Nat) (c0 c1 c2 c3 c4 c5 c6 c7 : Rec) (v2 v4 v10 v42 : AV) (h : AH) : Ans :=
  fdp h (kExt h v42 0) .pure fun v50 c8 h =>
  fdp h (kExt h v42 1) .pure fun v51 c9 h =>
  fda (r + 10) h (alNew S177.z0) fun v11 c10 h =>
  fde h (kSt h 7 v11 v50) fun _ c11 h =>
  fdp h (kMov h v51) .pure fun v12 c12 h =>
  cond (fchk [c0, c1, c2, c3, c4, c5, c6, c7, c8, c9, c10, c11, c12] [(0, 10), (5, 10)]) (fjn (o177_a3 cl N v2 v4 v10 v11 v12 h) fun _ vs h => o177_j6 cl N (nthD vs 0) (nthD vs 1) (nthD vs 2) (nthD vs 3) (nthD vs 4) h) none
def o177_l7 (cl : Handler) (N : Nat) (v2 v4 v10 : AV) (h : AH) : Ans :=
  fst (kLen h v2) fun v38 h =>
  fst (kArith h .lss v10 v38) fun v39 h =>
  fif v39 (
  fdr h 13 fun r h =>
  fdp h (kLdn h 3 v4) (rdK (rdv v4)) fun v43 c0 h =>
  fdp h (kMov h v2) .pure fun v44 c1 h =>
  fdp h (kMov h v10) .pure fun v45 c2 h =>
  fdp h (kIdxA h 7 v44 v45) .pure fun v46 c3 h =>
  fdp h (kFldA h 0 v46) .pure fun v47 c4 h =>
  fdp h (kLd1 h v47) (rdK (rdv v47)) fun v48 c5 h =>
  fde h (cl 42 [v43, v48] h) fun v49 c6 h =>
  fdp h (kMov h v49) .pure fun v42 c7 h =>
  o177_s3 cl N r c0 c1 c2 c3 c4 c5 c6 c7 v2 v4 v10 v42 h) (
  some ((.exit 2), [v2, v4, v10], [.undef], h))
def o177_c8 (cl : Handler) (N : Nat) (h : AH) : Ans :=
  some (.nrm, [], [(.bool true)], h)
def o177_j9 (cl : Handler) (N : Nat) (x : AX) (v8 : AV) (h : AH) : Ans :=
  fxs x (o177_c8 cl N h) (fun j => cond (Nat.beq j 2) (o177_c8 cl N h) (none)) (some (.nrm, [], [v8], h))
def o177_c10 (cl : Handler) (N : Nat) (v2 v4 : AV) (h : AH) : Ans :=
  fjn (fiter (fun vs h => o177_l7 cl N (nthD vs 0) (nthD vs 1) (nthD vs 2) h) N [v2, v4, (.int .i64 0)] h) fun x vs h => o177_j9 cl N x (nthD vs 0) h
def o177_j11 (cl : Handler) (N : Nat) (x : AX) (v2 v4 v8 : AV) (h : AH) : Ans :=
  fxs x (o177_c10 cl N v2 v4 h) (fun j => cond (Nat.beq j 0) (o177_c10 cl N v2 v4 h) (none)) (some (.nrm, [], [v8], h))
def o177_j12 (cl : Handler) (N : Nat) (v2 v3 v4 v23 : AV) (h : AH) : Ans :=
  fif v23 (
  some (.nrm, [], [(.bool false)], h)) (
  fjn (fiter (fun vs h => o177_l2 cl N (nthD vs 0) (nthD vs 1) (nthD vs 2) (nthD vs 3) h) N [v2, v3, v4, (.int .i64 0)] h) fun x vs h => o177_j11 cl N x (nthD vs 0) (nthD vs 1) (nthD vs 2) h)
def o177 (cl : Handler) (N : Nat) (v0 v1 v2 v3 : AV) (h : AH) : Ans :=
  fst (kBox h v0) fun v4 h =>
  fjn (o177_a1 cl N v1 v2 v3 v4 h) fun _ vs h => o177_j12 cl N (nthD vs 0) (nthD vs 1) (nthD vs 2) (nthD vs 3) h
theorem o177_eq (cl : Handler) (N : Nat) (v0 v1 v2 v3 : AV) (h : AH) : frun cl N S177 [v0, v1, v2, v3] h = fans (o177 cl N v0 v1 v2 v3 h) := by kernel_rfl
def w177 (N : Nat) : OF := fun cl args h => match args with
  | [v0, v1, v2, v3] => fans (o177 cl N v0 v1 v2 v3 h)
  | _ => none
theorem w177_ok (N : Nat) : OkF Tryz.prog 177 (w177 N) := .of (N := N) (S177_ok) fun cl args h r hr => by
  unfold w177 at hr
  split at hr
  · exact (o177_eq cl N _ _ _ _ _).trans hr
  · cases hr

def S178.z0 : List AV := [.int .i64 0, .bool false, .int .i64 0, .int .i64 0, .int .i64 0]
/- widgetry/widgetryref29.own -/
def S178.r0 : List AOpr := [
  q 3 (.box (x 0)),
  q 6 (.new S178.z0),
  q 7 (.mov (.const (.bool false)))]
def S178.r1 : List AOpr := [
  q 12 (.ldn 7 (x 3)),
  q 13 (.call (.const (.func (.func 191) [] [])) [.tmp 12]),
  q 11 (.mov (x 13)),
  q 14 (.ext (x 11) 0),
  q 15 (.ext (x 11) 1),
  q 16 (.ext (x 11) 2),
  q 8 (.mov (x 14)),
  q 9 (.mov (x 15)),
  q 10 (.mov (x 16))]
def S178.r2 : List AOpr := [
  q 17 (.mov (x 8)),
  q 18 (.mov (x 9)),
  q 19 (.mov (x 1)),
  q 20 (.mov (x 2)),
  q 21 (.build S178.z0 [(0, 1, .tmp 17), (2, 1, .tmp 18), (3, 1, .tmp 19), (4, 1, .tmp 20)]),
  q 22 (.mov (x 10)),
  ⟨none, .st 5 (x 6) (x 21), none⟩,
  q 7 (.mov (x 22))]
def S178 : SFn := ⟨23, [.cell 6 (some 5), .tmp 7], .seq (.reg S178.r0) (.seq (.reg S178.r1) (.seq (.reg S178.r2) (.ret)))⟩
theorem S178_ok : EOk Tryz.prog 178 S178 := ⟨Tryz.f178, by kernel_rfl, by kernel_rfl, by decide, by kernel_rfl, its_nil (by kernel_rfl)⟩
def o178 (cl : Handler) (N : Nat) (v0 v1 v2 : AV) (h : AH) : Ans :=
  fst (kBox h v0) fun v3 h =>
  fst (kNew h S178.z0) fun v6 h =>
  fst (kLdn h 7 v3) fun v12 h =>
  fst (cl 191 [v12] h) fun v13 h =>
  fst (kExt h v13 0) fun v14 h =>
  fst (kExt h v13 1) fun v15 h =>
  fst (kExt h v13 2) fun v16 h =>
  fst (kBuild h S178.z0 [(0, 1, v14), (2, 1, v15), (3, 1, v1), (4, 1, v2)]) fun v21 h =>
  fst (kSt h 5 v6 v21) fun _ h =>
  fres (aresV h [.cell (v6) (some 5), .val (v16)]) h
theorem o178_eq (cl : Handler) (N : Nat) (v0 v1 v2 : AV) (h : AH) : frun cl N S178 [v0, v1, v2] h = fans (o178 cl N v0 v1 v2 h) := by kernel_rfl
def w178 (N : Nat) : OF := fun cl args h => match args with
  | [v0, v1, v2] => fans (o178 cl N v0 v1 v2 h)
  | _ => none
theorem w178_ok (N : Nat) : OkF Tryz.prog 178 (w178 N) := .of (N := N) (S178_ok) fun cl args h r hr => by
  unfold w178 at hr
  split at hr
  · exact (o178_eq cl N _ _ _ _).trans hr
  · cases hr

def S179.z0 : List AV := [.int .i64 0, .int .i64 0, .int .i64 0, .int .i64 0, .int .i64 0, .int .i64 0, .nilsl]
def S179.z1 : List AV := [.int .i64 0, .int .i64 0, .int .i64 0, .str [], .nilsl, .nilsl, .nilsl]
/- widgetry/widgetryref29.present -/
def S179.r0 : List AOpr := [
  q 4 (.box (x 0)),
  q 7 (.box (x 3)),
  q 8 (.mov (.const (.nilsl)))]
def S179.r1 : List AOpr := [
  q 9 (.mov (.const (.nilsl)))]
def S179.r2 : List AOpr := [
  q 23 (.mov (x 1)),
  q 24 (.fldA 0 (x 7)),
  q 25 (.ld1 (x 24)),
  q 26 (.call (.const (.func (.func 107) [] [])) [.tmp 23, .tmp 25]),
  q 22 (.mov (x 26)),
  q 27 (.ext (x 22) 0),
  q 28 (.ext (x 22) 1),
  q 10 (.new S179.z0),
  ⟨none, .st 7 (x 10) (x 27), none⟩,
  q 11 (.mov (x 28))]
def S179.r3 : List AOpr := [
  q 29 (.mov (x 2)),
  q 30 (.fldA 0 (x 7)),
  q 31 (.ld1 (x 30)),
  q 32 (.call (.const (.func (.func 108) [] [])) [.tmp 29, .tmp 31]),
  q 12 (.mov (x 32))]
def S179.r4 : List AOpr := [
  q 13 (.mov (.const (.int .i64 0)))]
def S179.r5 : List AOpr := [
  q 33 (.mov (x 13)),
  q 34 (.fldA 6 (x 7)),
  q 35 (.ld1 (x 34)),
  q 36 (.len (x 35)),
  q 37 (.arith .lss (x 33) (x 36))]
def S179.r6 : List AOpr := [
  q 41 (.mov (x 1)),
  q 42 (.fldA 6 (x 7)),
  q 43 (.ld1 (x 42)),
  q 44 (.mov (x 13)),
  q 45 (.idxA 1 (x 43) (x 44)),
  q 46 (.ld1 (x 45)),
  q 47 (.call (.const (.func (.func 107) [] [])) [.tmp 41, .tmp 46]),
  q 40 (.mov (x 47)),
  q 48 (.ext (x 40) 0),
  q 49 (.ext (x 40) 1),
  q 14 (.new S179.z0),
  ⟨none, .st 7 (x 14) (x 48), none⟩,
  q 15 (.mov (x 49))]
def S179.r7 : List AOpr := [
  q 50 (.mov (x 15)),
  q 51 (.un .not (x 50))]
def S179.r8 : List AOpr := [
  q 52 (.fldA 2 (x 7)),
  q 53 (.ld1 (x 52)),
  q 54 (.arith .neq (x 53) (.const (.int .i64 8)))]
def S179.r9 : List AOpr := [
  q 55 (.mov (x 9)),
  q 56 (.fldA 0 (x 14)),
  q 57 (.ld1 (x 56)),
  q 58 (.fldA 1 (x 14)),
  q 59 (.fldA 0 (x 58)),
  q 60 (.ld1 (x 59)),
  q 61 (.fldA 1 (x 14)),
  q 62 (.fldA 1 (x 61)),
  q 63 (.ld1 (x 62)),
  q 64 (.build [.int .i64 0, .int .i64 0, .int .i64 0] [(0, 1, .tmp 57), (1, 1, .tmp 60), (2, 1, .tmp 63)]),
  q 65 (.buildSl 3 1 [.int .i64 0, .int .i64 0, .int .i64 0] [(0, 3, .tmp 64)]),
  q 66 (.app 3 24 (x 55) (x 65)),
  q 9 (.mov (x 66))]
def S179.r10 : List AOpr := [
  q 67 (.fldA 1 (x 14)),
  q 68 (.fldA 1 (x 67)),
  q 69 (.ld1 (x 68)),
  q 70 (.mov (x 12)),
  q 71 (.arith .sub (x 69) (x 70)),
  q 16 (.mov (x 71))]
def S179.r11 : List AOpr := [
  q 73 (.ldn 3 (x 4)),
  q 74 (.fldA 0 (x 14)),
  q 75 (.ld1 (x 74)),
  q 76 (.call (.const (.func (.func 42) [] [])) [.tmp 73, .tmp 75]),
  q 72 (.mov (x 76)),
  q 77 (.ext (x 72) 0),
  q 78 (.ext (x 72) 1),
  q 17 (.new S179.z1),
  ⟨none, .st 7 (x 17) (x 77), none⟩,
  q 18 (.mov (x 78))]
def S179.r12 : List AOpr := [
  q 79 (.fldA 4 (x 17)),
  q 80 (.ld1 (x 79)),
  q 81 (.call (.const (.func (.func 62) [] [])) [.tmp 80, .const (.str [112, 105, 110, 110, 101, 100])]),
  q 82 (.un .not (x 81)),
  q 83 (.mov (x 82)),
  ⟨some 84, .fldA 1 (x 14), some (83, true)⟩,
  ⟨some 85, .fldA 2 (x 84), some (83, true)⟩,
  ⟨some 86, .ld1 (x 85), some (83, true)⟩,
  ⟨some 87, .arith .gtr (x 86) (.const (.int .i64 0)), some (83, true)⟩,
  q 88 (.pick (x 83) (x 87) (.const (.bool false))),
  q 89 (.mov (x 88)),
  ⟨some 90, .fldA 1 (x 14), some (89, true)⟩,
  ⟨some 91, .fldA 3 (x 90), some (89, true)⟩,
  ⟨some 92, .ld1 (x 91), some (89, true)⟩,
  ⟨some 93, .arith .gtr (x 92) (.const (.int .i64 0)), some (89, true)⟩,
  q 94 (.pick (x 89) (x 93) (.const (.bool false))),
  q 95 (.mov (x 94)),
  ⟨some 96, .fldA 1 (x 10), some (95, true)⟩,
  ⟨some 97, .fldA 3 (x 96), some (95, true)⟩,
  ⟨some 98, .ld1 (x 97), some (95, true)⟩,
  ⟨some 99, .arith .gtr (x 98) (.const (.int .i64 0)), some (95, true)⟩,
  q 100 (.pick (x 95) (x 99) (.const (.bool false))),
  q 101 (.mov (x 100)),
  ⟨some 102, .mov (x 16), some (101, true)⟩,
  ⟨some 103, .fldA 1 (x 10), some (101, true)⟩,
  ⟨some 104, .fldA 3 (x 103), some (101, true)⟩,
  ⟨some 105, .ld1 (x 104), some (101, true)⟩,
  ⟨some 106, .arith .lss (x 102) (x 105), some (101, true)⟩,
  q 107 (.pick (x 101) (x 106) (.const (.bool false))),
  q 108 (.mov (x 107)),
  ⟨some 109, .mov (x 16), some (108, true)⟩,
  ⟨some 110, .fldA 1 (x 14), some (108, true)⟩,
  ⟨some 111, .fldA 3 (x 110), some (108, true)⟩,
  ⟨some 112, .ld1 (x 111), some (108, true)⟩,
  ⟨some 113, .arith .add (x 109) (x 112), some (108, true)⟩,
  ⟨some 114, .arith .gtr (x 113) (.const (.int .i64 0)), some (108, true)⟩,
  q 115 (.pick (x 108) (x 114) (.const (.bool false)))]
def S179.r13 : List AOpr := [
  q 116 (.mov (x 9)),
  q 117 (.fldA 0 (x 14)),
  q 118 (.ld1 (x 117)),
  q 119 (.fldA 1 (x 14)),
  q 120 (.fldA 0 (x 119)),
  q 121 (.ld1 (x 120)),
  q 122 (.mov (x 16)),
  q 123 (.build [.int .i64 0, .int .i64 0, .int .i64 0] [(0, 1, .tmp 118), (1, 1, .tmp 121), (2, 1, .tmp 122)]),
  q 124 (.buildSl 3 1 [.int .i64 0, .int .i64 0, .int .i64 0] [(0, 3, .tmp 123)]),
  q 125 (.app 3 24 (x 116) (x 124)),
  q 9 (.mov (x 125))]
def S179.r14 : List AOpr := [
  q 38 (.mov (x 13)),
  q 39 (.arith .add (x 38) (.const (.int .i64 1))),
  q 13 (.mov (x 39))]
def S179.r15 : List AOpr := [
  q 126 (.fldA 2 (x 7)),
  q 127 (.ld1 (x 126)),
  q 128 (.arith .eql (x 127) (.const (.int .i64 8)))]
def S179.r16 : List AOpr := [
  q 130 (.ldn 3 (x 4)),
  q 131 (.mov (x 1)),
  q 132 (.ldn 7 (x 7)),
  q 133 (.mov (x 12)),
  q 134 (.call (.const (.func (.func 192) [] [])) [.tmp 130, .tmp 131, .tmp 132, .tmp 133]),
  q 129 (.mov (x 134)),
  q 135 (.ext (x 129) 0),
  q 136 (.ext (x 129) 1),
  q 19 (.mov (x 135)),
  q 20 (.mov (x 136))]
def S179.r17 : List AOpr := [
  q 21 (.mov (.const (.int .i64 0)))]
def S179.r18 : List AOpr := [
  q 137 (.mov (x 21)),
  q 138 (.mov (x 19)),
  q 139 (.len (x 138)),
  q 140 (.arith .lss (x 137) (x 139))]
def S179.r19 : List (AOpr × Nat) := [
  (q 143 (.mov (x 9)), 0),
  (q 144 (.mov (x 19)), 0),
  (q 145 (.mov (x 21)), 0),
  (q 146 (.idxA 7 (x 144) (x 145)), 6),
  (q 147 (.fldA 0 (x 146)), 14),
  (q 148 (.ld1 (x 147)), 30),
  (q 149 (.mov (x 19)), 0),
  (q 150 (.mov (x 21)), 0),
  (q 151 (.idxA 7 (x 149) (x 150)), 192),
  (q 152 (.fldA 1 (x 151)), 448),
  (q 153 (.fldA 0 (x 152)), 960),
  (q 154 (.ld1 (x 153)), 1984),
  (q 155 (.mov (x 20)), 0),
  (q 156 (.mov (x 21)), 0),
  (q 157 (.idxA 1 (x 155) (x 156)), 12288),
  (q 158 (.ld1 (x 157)), 28672),
  (q 159 (.build [.int .i64 0, .int .i64 0, .int .i64 0] [(0, 1, .tmp 148), (1, 1, .tmp 154), (2, 1, .tmp 158)]), 65534),
  (q 160 (.buildSl 3 1 [.int .i64 0, .int .i64 0, .int .i64 0] [(0, 3, .tmp 159)]), 131070),
  (q 161 (.app 3 24 (x 143) (x 160)), 262143),
  (q 9 (.mov (x 161)), 524287)]
def S179.r20 : List AOpr := [
  q 141 (.mov (x 21)),
  q 142 (.arith .add (x 141) (.const (.int .i64 1))),
  q 21 (.mov (x 142))]
def S179.r21 : List AOpr := [
  q 162 (.mov (x 9)),
  q 8 (.mov (x 162))]
def S179 : SFn := ⟨163, [.tmp 8], .seq (.reg S179.r0) (.seq (.reg S179.r1) (.seq (.reg S179.r2) (.seq (.reg S179.r3) (.seq (.seq (.reg S179.r4) (.block 0 (.loop [1, 4, 7, 9, 10, 12, 13] [1, 4, 7, 9, 12] (.seq (.seq (.reg S179.r5) (.cond (x 37) (.skip) (.exit 0))) (.seq (.joinN [1, 4, 7, 9, 10, 12, 13] (.block 1 (.seq (.reg S179.r6) (.seq (.seq (.reg S179.r7) (.cond (x 51) (.exit 1) (.skip))) (.seq (.seq (.reg S179.r8) (.cond (x 54) (.seq (.reg S179.r9) (.exit 1)) (.skip))) (.seq (.reg S179.r10) (.seq (.reg S179.r11) (.seq (.joinN [1, 4, 7, 9, 10, 12, 13, 14, 16, 115] (.reg S179.r12)) (.cond (x 115) (.reg S179.r13) (.skip)))))))))) (.reg S179.r14)))))) (.seq (.seq (.reg S179.r15) (.joinN [9] (.cond (x 128) (.seq (.reg S179.r16) (.seq (.reg S179.r17) (.block 2 (.loop [9, 19, 20, 21] [9] (.seq (.seq (.reg S179.r18) (.cond (x 140) (.skip) (.exit 2))) (.seq (.block 3 (.draw S179.r19)) (.reg S179.r20))))))) (.skip)))) (.seq (.reg S179.r21) (.ret)))))))⟩
theorem S179_ok : EOk Tryz.prog 179 S179 := ⟨Tryz.f179, by kernel_rfl, by kernel_rfl, by decide, by kernel_rfl, its_nil (by kernel_rfl)⟩
def o179_s1 (cl : Handler) (N : Nat) (v1 v4 v7 v10 v12 v13 v55 v57 v60 v62 : AV) (h : AH) : Ans :=
  fst (kLd1 h v62) fun v63 h =>
  fst (kBuild h [.int .i64 0, .int .i64 0, .int .i64 0] [(0, 1, v57), (1, 1, v60), (2, 1, v63)]) fun v64 h =>
  fst (kBuildSl h 3 1 [.int .i64 0, .int .i64 0, .int .i64 0] [(0, 3, v64)]) fun v65 h =>
  fst (kApp h 3 24 v55 v65) fun v66 h =>
  some (.nrm, [], [v1, v4, v7, v66, v10, v12, v13], h)
def o179_s2 (cl : Handler) (N : Nat) (v1 v4 v7 v9 v10 v12 v13 v14 v16 v108 v113 : AV) (h : AH) : Ans :=
  fgd (gdv true v108) (kArith h .gtr v113 (.int .i64 0)) h fun v114 h =>
  fst (kPick h v108 v114 (.bool false)) fun v115 h =>
  some (.nrm, [], [v1, v4, v7, v9, v10, v12, v13, v14, v16, v115], h)
def o179_s3 (cl : Handler) (N : Nat) (v1 v4 v7 v9 v10 v12 v13 v14 v16 v101 v102 : AV) (h : AH) : Ans :=
  fgd (gdv true v101) (kFldA h 1 v10) h fun v103 h =>
  fgd (gdv true v101) (kFldA h 3 v103) h fun v104 h =>
  fgd (gdv true v101) (kLd1 h v104) h fun v105 h =>
  fgd (gdv true v101) (kArith h .lss v102 v105) h fun v106 h =>
  fst (kPick h v101 v106 (.bool false)) fun v107 h =>
  fgd (gdv true v107) (kMov h v16) h fun v109 h =>
  fgd (gdv true v107) (kFldA h 1 v14) h fun v110 h =>
  fgd (gdv true v107) (kFldA h 3 v110) h fun v111 h =>
  fgd (gdv true v107) (kLd1 h v111) h fun v112 h =>
  fgd (gdv true v107) (kArith h .add v109 v112) h fun v113 h =>
  o179_s2 cl N v1 v4 v7 v9 v10 v12 v13 v14 v16 v107 v113 h
def o179_s4 (cl : Handler) (N : Nat) (v1 v4 v7 v9 v10 v12 v13 v14 v16 v89 v90 : AV) (h : AH) : Ans :=
  fgd (gdv true v89) (kFldA h 3 v90) h fun v91 h =>
  fgd (gdv true v89) (kLd1 h v91) h fun v92 h =>
  fgd (gdv true v89) (kArith h .gtr v92 (.int .i64 0)) h fun v93 h =>
  fst (kPick h v89 v93 (.bool false)) fun v94 h =>
  fgd (gdv true v94) (kFldA h 1 v10) h fun v96 h =>
  fgd (gdv true v94) (kFldA h 3 v96) h fun v97 h =>
  fgd (gdv true v94) (kLd1 h v97) h fun v98 h =>
  fgd (gdv true v94) (kArith h .gtr v98 (.int .i64 0)) h fun v99 h =>
  fst (kPick h v94 v99 (.bool false)) fun v100 h =>
  fgd (gdv true v100) (kMov h v16) h fun v102 h =>
  o179_s3 cl N v1 v4 v7 v9 v10 v12 v13 v14 v16 v100 v102 h
def o179_a1 (cl : Handler) (N : Nat) (v1 v4 v7 v9 v10 v12 v13 v14 v16 v17 : AV) (h : AH) : Ans :=
  fst (kFldA h 4 v17) fun v79 h =>
  fst (kLd1 h v79) fun v80 h =>
  fst (cl 62 [v80, (.str [112, 105, 110, 110, 101, 100])] h) fun v81 h =>
  fst (kUn h .not v81) fun v82 h =>
  fgd (gdv true v82) (kFldA h 1 v14) h fun v84 h =>
  fgd (gdv true v82) (kFldA h 2 v84) h fun v85 h =>
  fgd (gdv true v82) (kLd1 h v85) h fun v86 h =>
  fgd (gdv true v82) (kArith h .gtr v86 (.int .i64 0)) h fun v87 h =>
  fst (kPick h v82 v87 (.bool false)) fun v88 h =>
  fgd (gdv true v88) (kFldA h 1 v14) h fun v90 h =>
  o179_s4 cl N v1 v4 v7 v9 v10 v12 v13 v14 v16 v88 v90 h
def o179_j2 (cl : Handler) (N : Nat) (v1 v4 v7 v9 v10 v12 v13 v14 v16 v115 : AV) (h : AH) : Ans :=
  fif v115 (
  fst (kFldA h 0 v14) fun v117 h =>
  fst (kLd1 h v117) fun v118 h =>
  fst (kFldA h 1 v14) fun v119 h =>
  fst (kFldA h 0 v119) fun v120 h =>
  fst (kLd1 h v120) fun v121 h =>
  fst (kBuild h [.int .i64 0, .int .i64 0, .int .i64 0] [(0, 1, v118), (1, 1, v121), (2, 1, v16)]) fun v123 h =>
  fst (kBuildSl h 3 1 [.int .i64 0, .int .i64 0, .int .i64 0] [(0, 3, v123)]) fun v124 h =>
  fst (kApp h 3 24 v9 v124) fun v125 h =>
  some (.nrm, [], [v1, v4, v7, v125, v10, v12, v13], h)) (
  some (.nrm, [], [v1, v4, v7, v9, v10, v12, v13], h))
def o179_s5 (cl : Handler) (N : Nat) (v1 v4 v7 v9 v10 v12 v13 v14 v16 v73 v75 : AV) (h : AH) : Ans :=
  fst (cl 42 [v73, v75] h) fun v76 h =>
  fst (kExt h v76 0) fun v77 h =>
  fst (kExt h v76 1) fun v78 h =>
  fst (kNew h S179.z1) fun v17 h =>
  fst (kSt h 7 v17 v77) fun _ h =>
  fjn (o179_a1 cl N v1 v4 v7 v9 v10 v12 v13 v14 v16 v17 h) fun _ vs h => o179_j2 cl N (nthD vs 0) (nthD vs 1) (nthD vs 2) (nthD vs 3) (nthD vs 4) (nthD vs 5) (nthD vs 6) (nthD vs 7) (nthD vs 8) (nthD vs 9) h
def o179_s6 (cl : Handler) (N : Nat) (v1 v4 v7 v9 v10 v12 v13 v14 : AV) (h : AH) : Ans :=
  fst (kFldA h 2 v7) fun v52 h =>
  fst (kLd1 h v52) fun v53 h =>
  fst (kArith h .neq v53 (.int .i64 8)) fun v54 h =>
  fif v54 (
  fst (kFldA h 0 v14) fun v56 h =>
  fst (kLd1 h v56) fun v57 h =>
  fst (kFldA h 1 v14) fun v58 h =>
  fst (kFldA h 0 v58) fun v59 h =>
  fst (kLd1 h v59) fun v60 h =>
  fst (kFldA h 1 v14) fun v61 h =>
  fst (kFldA h 1 v61) fun v62 h =>
  o179_s1 cl N v1 v4 v7 v10 v12 v13 v9 v57 v60 v62 h) (
  fst (kFldA h 1 v14) fun v67 h =>
  fst (kFldA h 1 v67) fun v68 h =>
  fst (kLd1 h v68) fun v69 h =>
  fst (kArith h .sub v69 v12) fun v71 h =>
  fst (kLdn h 3 v4) fun v73 h =>
  fst (kFldA h 0 v14) fun v74 h =>
  fst (kLd1 h v74) fun v75 h =>
  o179_s5 cl N v1 v4 v7 v9 v10 v12 v13 v14 v71 v73 v75 h)
def o179_a3 (cl : Handler) (N : Nat) (v1 v4 v7 v9 v10 v12 v13 : AV) (h : AH) : Ans :=
  fst (kFldA h 6 v7) fun v42 h =>
  fst (kLd1 h v42) fun v43 h =>
  fst (kIdxA h 1 v43 v13) fun v45 h =>
  fst (kLd1 h v45) fun v46 h =>
  fst (cl 107 [v1, v46] h) fun v47 h =>
  fst (kExt h v47 0) fun v48 h =>
  fst (kExt h v47 1) fun v49 h =>
  fst (kNew h S179.z0) fun v14 h =>
  fst (kSt h 7 v14 v48) fun _ h =>
  fst (kUn h .not v49) fun v51 h =>
  fif v51 (
  some (.nrm, [], [v1, v4, v7, v9, v10, v12, v13], h)) (
  o179_s6 cl N v1 v4 v7 v9 v10 v12 v13 v14 h)
def o179_j4 (cl : Handler) (N : Nat) (v1 v4 v7 v9 v10 v12 v13 : AV) (h : AH) : Ans :=
  fst (kArith h .add v13 (.int .i64 1)) fun v39 h =>
  some (.nrm, [v1, v4, v7, v9, v10, v12, v39], [v1, v4, v7, v9, v12], h)
def o179_l5 (cl : Handler) (N : Nat) (v1 v4 v7 v9 v10 v12 v13 : AV) (h : AH) : Ans :=
  fst (kFldA h 6 v7) fun v34 h =>
  fst (kLd1 h v34) fun v35 h =>
  fst (kLen h v35) fun v36 h =>
  fst (kArith h .lss v13 v36) fun v37 h =>
  fif v37 (
  fjn (o179_a3 cl N v1 v4 v7 v9 v10 v12 v13 h) fun _ vs h => o179_j4 cl N (nthD vs 0) (nthD vs 1) (nthD vs 2) (nthD vs 3) (nthD vs 4) (nthD vs 5) (nthD vs 6) h) (
  some ((.exit 0), [v1, v4, v7, v9, v10, v12, v13], [v1, v4, v7, v9, v12], h))
def o179_s7 (cl : Handler) (N : Nat) (c0 c1 c2 c3 c4 c5 c6 c7 c8 c9 c10 c11 c12 c13 c14 c15 c16 c17 : Rec) (v9 v19 v20 v21 v143 v160 : AV) (h : AH) : Ans :=
  fde h (kApp h 3 24 v143 v160) fun v161 c18 h =>
  fdp h (kMov h v161) .pure fun v9 c19 h =>
  cond (fchk [c0, c1, c2, c3, c4, c5, c6, c7, c8, c9, c10, c11, c12, c13, c14, c15, c16, c17, c18, c19] []) (fst (kArith h .add v21 (.int .i64 1)) fun v142 h =>
  some (.nrm, [v9, v19, v20, v142], [v9], h)) none
def o179_s8 (cl : Handler) (N : Nat) (r : Nat) (c0 c1 c2 c3 c4 c5 c6 c7 : Rec) (v9 v19 v20 v21 v143 v148 v149 v150 : AV) (h : AH) : Ans :=
  fdp h (kIdxA h 7 v149 v150) .pure fun v151 c8 h =>
  fdp h (kFldA h 1 v151) .pure fun v152 c9 h =>
  fdp h (kFldA h 0 v152) .pure fun v153 c10 h =>
  fdp h (kLd1 h v153) (rdK (rdv v153)) fun v154 c11 h =>
  fdp h (kMov h v20) .pure fun v155 c12 h =>
  fdp h (kMov h v21) .pure fun v156 c13 h =>
  fdp h (kIdxA h 1 v155 v156) .pure fun v157 c14 h =>
  fdp h (kLd1 h v157) (rdK (rdv v157)) fun v158 c15 h =>
  fdp h (kBuild h [.int .i64 0, .int .i64 0, .int .i64 0] [(0, 1, v148), (1, 1, v154), (2, 1, v158)]) .pure fun v159 c16 h =>
  fda (r + 17) h (alBuildSl 3 1 [.int .i64 0, .int .i64 0, .int .i64 0] [(0, 3, v159)]) fun v160 c17 h =>
  o179_s7 cl N c0 c1 c2 c3 c4 c5 c6 c7 c8 c9 c10 c11 c12 c13 c14 c15 c16 c17 v9 v19 v20 v21 v143 v160 h
def o179_l6 (cl : Handler) (N : Nat) (v9 v19 v20 v21 : AV) (h : AH) : Ans :=
  fst (kLen h v19) fun v139 h =>
  fst (kArith h .lss v21 v139) fun v140 h =>
  fif v140 (
  fdr h 20 fun r h =>
  fdp h (kMov h v9) .pure fun v143 c0 h =>
  fdp h (kMov h v19) .pure fun v144 c1 h =>
  fdp h (kMov h v21) .pure fun v145 c2 h =>
  fdp h (kIdxA h 7 v144 v145) .pure fun v146 c3 h =>
  fdp h (kFldA h 0 v146) .pure fun v147 c4 h =>
  fdp h (kLd1 h v147) (rdK (rdv v147)) fun v148 c5 h =>
  fdp h (kMov h v19) .pure fun v149 c6 h =>
  fdp h (kMov h v21) .pure fun v150 c7 h =>
  o179_s8 cl N r c0 c1 c2 c3 c4 c5 c6 c7 v9 v19 v20 v21 v143 v148 v149 v150 h) (
  some ((.exit 2), [v9, v19, v20, v21], [v9], h))
def o179_c7 (cl : Handler) (N : Nat) (v9 : AV) (h : AH) : Ans :=
  some (.nrm, [], [v9], h)
def o179_j8 (cl : Handler) (N : Nat) (x : AX) (v9 : AV) (h : AH) : Ans :=
  fxs x (o179_c7 cl N v9 h) (fun j => cond (Nat.beq j 2) (o179_c7 cl N v9 h) (none)) (none)
def o179_a9 (cl : Handler) (N : Nat) (v1 v4 v7 v9 v12 v128 : AV) (h : AH) : Ans :=
  fif v128 (
  fst (kLdn h 3 v4) fun v130 h =>
  fst (kLdn h 7 v7) fun v132 h =>
  fst (cl 192 [v130, v1, v132, v12] h) fun v134 h =>
  fst (kExt h v134 0) fun v135 h =>
  fst (kExt h v134 1) fun v136 h =>
  fjn (fiter (fun vs h => o179_l6 cl N (nthD vs 0) (nthD vs 1) (nthD vs 2) (nthD vs 3) h) N [v9, v135, v136, (.int .i64 0)] h) fun x vs h => o179_j8 cl N x (nthD vs 0) h) (
  some (.nrm, [], [v9], h))
def o179_j10 (cl : Handler) (N : Nat) (v9 : AV) (h : AH) : Ans :=
  some (.nrm, [], [v9], h)
def o179_c11 (cl : Handler) (N : Nat) (v1 v4 v7 v9 v12 : AV) (h : AH) : Ans :=
  fst (kFldA h 2 v7) fun v126 h =>
  fst (kLd1 h v126) fun v127 h =>
  fst (kArith h .eql v127 (.int .i64 8)) fun v128 h =>
  fjn (o179_a9 cl N v1 v4 v7 v9 v12 v128 h) fun _ vs h => o179_j10 cl N (nthD vs 0) h
def o179_j12 (cl : Handler) (N : Nat) (x : AX) (v1 v4 v7 v9 v12 : AV) (h : AH) : Ans :=
  fxs x (o179_c11 cl N v1 v4 v7 v9 v12 h) (fun j => cond (Nat.beq j 0) (o179_c11 cl N v1 v4 v7 v9 v12 h) (none)) (some (.nrm, [], [.undef], h))
def o179_s9 (cl : Handler) (N : Nat) (v1 v4 v7 v9 v10 v29 v30 : AV) (h : AH) : Ans :=
  fst (kLd1 h v30) fun v31 h =>
  fst (cl 108 [v29, v31] h) fun v32 h =>
  fjn (fiter (fun vs h => o179_l5 cl N (nthD vs 0) (nthD vs 1) (nthD vs 2) (nthD vs 3) (nthD vs 4) (nthD vs 5) (nthD vs 6) h) N [v1, v4, v7, v9, v10, v32, (.int .i64 0)] h) fun x vs h => o179_j12 cl N x (nthD vs 0) (nthD vs 1) (nthD vs 2) (nthD vs 3) (nthD vs 4) h
def o179 (cl : Handler) (N : Nat) (v0 v1 v2 v3 : AV) (h : AH) : Ans :=
  fst (kBox h v0) fun v4 h =>
  fst (kBox h v3) fun v7 h =>
  fst (kFldA h 0 v7) fun v24 h =>
  fst (kLd1 h v24) fun v25 h =>
  fst (cl 107 [v1, v25] h) fun v26 h =>
  fst (kExt h v26 0) fun v27 h =>
  fst (kExt h v26 1) fun v28 h =>
  fst (kNew h S179.z0) fun v10 h =>
  fst (kSt h 7 v10 v27) fun _ h =>
  fst (kFldA h 0 v7) fun v30 h =>
  o179_s9 cl N v1 v4 v7 (.nilsl) v10 v2 v30 h
theorem o179_eq (cl : Handler) (N : Nat) (v0 v1 v2 v3 : AV) (h : AH) : frun cl N S179 [v0, v1, v2, v3] h = fans (o179 cl N v0 v1 v2 v3 h) := by kernel_rfl
def w179 (N : Nat) : OF := fun cl args h => match args with
  | [v0, v1, v2, v3] => fans (o179 cl N v0 v1 v2 v3 h)
  | _ => none
theorem w179_ok (N : Nat) : OkF Tryz.prog 179 (w179 N) := .of (N := N) (S179_ok) fun cl args h r hr => by
  unfold w179 at hr
  split at hr
  · exact (o179_eq cl N _ _ _ _ _).trans hr
  · cases hr

def S182.z0 : List AV := [.int .i64 0, .str [], .nilsl, .nilsl, .nilsl]
/- widgetry/view.validate -/
def S182.r0 : List AOpr := [
  q 3 (.box (x 0)),
  q 6 (.mov (.const (.int .i64 0)))]
def S182.r1 : List AOpr := [
  q 15 (.mov (x 2)),
  q 16 (.nilchk (x 15)),
  q 17 (.ld1 (x 16)),
  q 18 (.arith .add (x 17) (.const (.int .i64 1))),
  q 19 (.nilchk (x 15)),
  ⟨none, .st 1 (x 19) (x 18), none⟩]
def S182.r2 : List AOpr := [
  q 21 (.mov (x 1)),
  q 22 (.arith .gtr (x 21) (.const (.int .i64 16))),
  q 20 (.mov (x 22))]
def S182.r3 : List AOpr := [
  q 6 (.mov (.const (.int .i64 8)))]
def S182.r4 : List AOpr := [
  q 24 (.mov (x 2)),
  q 25 (.nilchk (x 24)),
  q 26 (.ld1 (x 25)),
  q 27 (.arith .gtr (x 26) (.const (.int .i64 400))),
  q 23 (.mov (x 27))]
def S182.r5 : List AOpr := [
  q 6 (.mov (.const (.int .i64 2)))]
def S182.r6 : List AOpr := [
  q 29 (.fldA 0 (x 3)),
  q 30 (.ld1 (x 29)),
  q 31 (.arith .lss (x 30) (.const (.int .i64 1))),
  q 32 (.mov (x 31)),
  ⟨some 33, .fldA 0 (x 3), some (32, false)⟩,
  ⟨some 34, .ld1 (x 33), some (32, false)⟩,
  ⟨some 35, .arith .gtr (x 34) (.const (.int .i64 13)), some (32, false)⟩,
  q 36 (.pick (x 32) (.const (.bool true)) (x 35)),
  q 28 (.mov (x 36))]
def S182.r7 : List AOpr := [
  q 6 (.mov (.const (.int .i64 9)))]
def S182.r8 : List AOpr := [
  q 38 (.fldA 1 (x 3)),
  q 39 (.ld1 (x 38)),
  q 40 (.call (.const (.func (.func 193) [] [])) [.tmp 39]),
  q 41 (.un .not (x 40)),
  q 37 (.mov (x 41))]
def S182.r9 : List AOpr := [
  q 6 (.mov (.const (.int .i64 4)))]
def S182.r10 : List AOpr := [
  q 43 (.fldA 2 (x 3)),
  q 44 (.ld1 (x 43)),
  q 45 (.len (x 44)),
  q 46 (.arith .gtr (x 45) (.const (.int .i64 24))),
  q 47 (.mov (x 46)),
  ⟨some 48, .fldA 3 (x 3), some (47, false)⟩,
  ⟨some 49, .ld1 (x 48), some (47, false)⟩,
  ⟨some 50, .len (x 49), some (47, false)⟩,
  ⟨some 51, .arith .gtr (x 50) (.const (.int .i64 24)), some (47, false)⟩,
  q 52 (.pick (x 47) (.const (.bool true)) (x 51)),
  q 53 (.mov (x 52)),
  ⟨some 54, .fldA 4 (x 3), some (53, false)⟩,
  ⟨some 55, .ld1 (x 54), some (53, false)⟩,
  ⟨some 56, .len (x 55), some (53, false)⟩,
  ⟨some 57, .arith .gtr (x 56) (.const (.int .i64 100)), some (53, false)⟩,
  q 58 (.pick (x 53) (.const (.bool true)) (x 57)),
  q 42 (.mov (x 58))]
def S182.r11 : List AOpr := [
  q 6 (.mov (.const (.int .i64 2)))]
def S182.r12 : List AOpr := [
  q 59 (.fldA 2 (x 3)),
  q 60 (.ld1 (x 59)),
  q 61 (.call (.const (.func (.func 194) [] [])) [.tmp 60]),
  q 7 (.mov (x 61))]
def S182.r13 : List AOpr := [
  q 62 (.mov (x 7)),
  q 63 (.arith .neq (x 62) (.const (.int .i64 0)))]
def S182.r14 : List AOpr := [
  q 64 (.mov (x 7)),
  q 6 (.mov (x 64))]
def S182.r15 : List AOpr := [
  q 65 (.fldA 3 (x 3)),
  q 66 (.ld1 (x 65)),
  q 67 (.call (.const (.func (.func 195) [] [])) [.tmp 66]),
  q 8 (.mov (x 67))]
def S182.r16 : List AOpr := [
  q 68 (.mov (x 8)),
  q 69 (.arith .neq (x 68) (.const (.int .i64 0)))]
def S182.r17 : List AOpr := [
  q 70 (.mov (x 8)),
  q 6 (.mov (x 70))]
def S182.r18 : List AOpr := [
  q 71 (.xo .mkmap []),
  q 9 (.mov (x 71))]
def S182.r19 : List AOpr := [
  q 72 (.fldA 4 (x 3)),
  q 73 (.ld1 (x 72)),
  q 74 (.len (x 73)),
  q 75 (.mov (.const (.int .i64 0)))]
def S182.r20 : List AOpr := [
  q 76 (.arith .lss (x 75) (x 74))]
def S182.r21 : List AOpr := [
  q 77 (.idxA 5 (x 73) (x 75)),
  q 78 (.ldn 5 (x 77)),
  q 11 (.new S182.z0),
  ⟨none, .st 5 (x 11) (x 78), none⟩]
def S182.r22 : List AOpr := [
  q 79 (.fldA 1 (x 11)),
  q 80 (.ld1 (x 79)),
  q 81 (.arith .neq (x 80) (.const (.str []))),
  q 82 (.mov (x 81)),
  ⟨some 83, .mov (x 9), some (82, true)⟩,
  ⟨some 84, .fldA 1 (x 11), some (82, true)⟩,
  ⟨some 85, .ld1 (x 84), some (82, true)⟩,
  ⟨some 86, .xo (.mapget .str false (.bool false)) [.tmp 83, .tmp 85], some (82, true)⟩,
  q 87 (.pick (x 82) (x 86) (.const (.bool false)))]
def S182.r23 : List AOpr := [
  q 6 (.mov (.const (.int .i64 6)))]
def S182.r24 : List AOpr := [
  q 88 (.mov (x 9)),
  q 89 (.fldA 1 (x 11)),
  q 90 (.ld1 (x 89)),
  ⟨none, .xo (.mapset .str) [.tmp 88, .tmp 90, .const (.bool true)], none⟩]
def S182.r25 : List AOpr := [
  q 91 (.arith .add (x 75) (.const (.int .i64 1))),
  q 75 (.mov (x 91))]
def S182.r26 : List AOpr := [
  q 92 (.fldA 4 (x 3)),
  q 93 (.ld1 (x 92)),
  q 94 (.len (x 93)),
  q 95 (.mov (.const (.int .i64 0)))]
def S182.r27 : List AOpr := [
  q 96 (.arith .lss (x 95) (x 94))]
def S182.r28 : List AOpr := [
  q 97 (.idxA 5 (x 93) (x 95)),
  q 98 (.ldn 5 (x 97)),
  q 13 (.new S182.z0),
  ⟨none, .st 5 (x 13) (x 98), none⟩]
def S182.r29 : List AOpr := [
  q 99 (.ldn 5 (x 13)),
  q 100 (.mov (x 1)),
  q 101 (.arith .add (x 100) (.const (.int .i64 1))),
  q 102 (.mov (x 2)),
  q 103 (.call (.const (.func (.func 182) [] [])) [.tmp 99, .tmp 101, .tmp 102]),
  q 14 (.mov (x 103))]
def S182.r30 : List AOpr := [
  q 104 (.mov (x 14)),
  q 105 (.arith .neq (x 104) (.const (.int .i64 0)))]
def S182.r31 : List AOpr := [
  q 106 (.mov (x 14)),
  q 6 (.mov (x 106))]
def S182.r32 : List AOpr := [
  q 107 (.arith .add (x 95) (.const (.int .i64 1))),
  q 95 (.mov (x 107))]
def S182.r33 : List AOpr := [
  q 6 (.mov (.const (.int .i64 0)))]
def S182 : SFn := ⟨108, [.tmp 6], .seq (.reg S182.r0) (.seq (.reg S182.r1) (.seq (.block 0 (.seq (.reg S182.r2) (.cond (x 20) (.seq (.reg S182.r3) (.ret)) (.seq (.reg S182.r4) (.cond (x 23) (.seq (.reg S182.r5) (.ret)) (.seq (.joinN [1, 2, 3, 28] (.reg S182.r6)) (.cond (x 28) (.seq (.reg S182.r7) (.ret)) (.seq (.reg S182.r8) (.cond (x 37) (.seq (.reg S182.r9) (.ret)) (.seq (.joinN [1, 2, 3, 42] (.reg S182.r10)) (.cond (x 42) (.seq (.reg S182.r11) (.ret)) (.skip)))))))))))) (.seq (.seq (.reg S182.r12) (.seq (.reg S182.r13) (.cond (x 63) (.seq (.reg S182.r14) (.ret)) (.skip)))) (.seq (.seq (.reg S182.r15) (.seq (.reg S182.r16) (.cond (x 69) (.seq (.reg S182.r17) (.ret)) (.skip)))) (.seq (.reg S182.r18) (.seq (.seq (.reg S182.r19) (.block 1 (.loop [1, 2, 3, 9, 73, 74, 75] [1, 2, 3, 6] (.seq (.reg S182.r20) (.seq (.cond (x 76) (.skip) (.exit 1)) (.seq (.block 2 (.seq (.reg S182.r21) (.seq (.seq (.joinN [1, 2, 3, 9, 11, 73, 74, 75, 87] (.reg S182.r22)) (.cond (x 87) (.seq (.reg S182.r23) (.ret)) (.skip))) (.reg S182.r24)))) (.reg S182.r25))))))) (.seq (.seq (.reg S182.r26) (.block 3 (.loop [1, 2, 93, 94, 95] [6] (.seq (.reg S182.r27) (.seq (.cond (x 96) (.skip) (.exit 3)) (.seq (.block 4 (.seq (.reg S182.r28) (.seq (.reg S182.r29) (.seq (.reg S182.r30) (.cond (x 105) (.seq (.reg S182.r31) (.ret)) (.skip)))))) (.reg S182.r32))))))) (.seq (.reg S182.r33) (.ret)))))))))⟩
theorem S182_ok : EOk Tryz.prog 182 S182 := ⟨Tryz.f182, by kernel_rfl, by kernel_rfl, by decide, by kernel_rfl, its_nil (by kernel_rfl)⟩
def o182_a1 (cl : Handler) (N : Nat) (v1 v2 v3 : AV) (h : AH) : Ans :=
  fst (kFldA h 0 v3) fun v29 h =>
  fst (kLd1 h v29) fun v30 h =>
  fst (kArith h .lss v30 (.int .i64 1)) fun v31 h =>
  fgd (gdv false v31) (kFldA h 0 v3) h fun v33 h =>
  fgd (gdv false v31) (kLd1 h v33) h fun v34 h =>
  fgd (gdv false v31) (kArith h .gtr v34 (.int .i64 13)) h fun v35 h =>
  fst (kPick h v31 (.bool true) v35) fun v36 h =>
  some (.nrm, [], [v1, v2, v3, v36], h)
def o182_s1 (cl : Handler) (N : Nat) (v1 v2 v3 v53 v54 : AV) (h : AH) : Ans :=
  fgd (gdv false v53) (kLd1 h v54) h fun v55 h =>
  fgd (gdv false v53) (kLen h v55) h fun v56 h =>
  fgd (gdv false v53) (kArith h .gtr v56 (.int .i64 100)) h fun v57 h =>
  fst (kPick h v53 (.bool true) v57) fun v58 h =>
  some (.nrm, [], [v1, v2, v3, v58], h)
def o182_a2 (cl : Handler) (N : Nat) (v1 v2 v3 : AV) (h : AH) : Ans :=
  fst (kFldA h 2 v3) fun v43 h =>
  fst (kLd1 h v43) fun v44 h =>
  fst (kLen h v44) fun v45 h =>
  fst (kArith h .gtr v45 (.int .i64 24)) fun v46 h =>
  fgd (gdv false v46) (kFldA h 3 v3) h fun v48 h =>
  fgd (gdv false v46) (kLd1 h v48) h fun v49 h =>
  fgd (gdv false v46) (kLen h v49) h fun v50 h =>
  fgd (gdv false v46) (kArith h .gtr v50 (.int .i64 24)) h fun v51 h =>
  fst (kPick h v46 (.bool true) v51) fun v52 h =>
  fgd (gdv false v52) (kFldA h 4 v3) h fun v54 h =>
  o182_s1 cl N v1 v2 v3 v52 v54 h
def o182_a3 (cl : Handler) (N : Nat) (v1 v2 v3 v9 v11 v73 v74 v75 : AV) (h : AH) : Ans :=
  fst (kFldA h 1 v11) fun v79 h =>
  fst (kLd1 h v79) fun v80 h =>
  fst (kArith h .neq v80 (.str [])) fun v81 h =>
  fgd (gdv true v81) (kMov h v9) h fun v83 h =>
  fgd (gdv true v81) (kFldA h 1 v11) h fun v84 h =>
  fgd (gdv true v81) (kLd1 h v84) h fun v85 h =>
  fgd (gdv true v81) (kX h (.mapget .str false (.bool false)) [v83, v85]) h fun v86 h =>
  fst (kPick h v81 v86 (.bool false)) fun v87 h =>
  some (.nrm, [], [v1, v2, v3, v9, v11, v73, v74, v75, v87], h)
def o182_j4 (cl : Handler) (N : Nat) (v1 v2 v3 v9 v11 v73 v74 v75 v87 : AV) (h : AH) : Ans :=
  fif v87 (
  some (.ret, [v1, v2, v3, v9, v73, v74, v75], [v1, v2, v3, (.int .i64 6)], h)) (
  fst (kFldA h 1 v11) fun v89 h =>
  fst (kLd1 h v89) fun v90 h =>
  fst (kX h (.mapset .str) [v9, v90, (.bool true)]) fun _ h =>
  fst (kArith h .add v75 (.int .i64 1)) fun v91 h =>
  some (.nrm, [v1, v2, v3, v9, v73, v74, v91], [v1, v2, v3, .undef], h))
def o182_l5 (cl : Handler) (N : Nat) (v1 v2 v3 v9 v73 v74 v75 : AV) (h : AH) : Ans :=
  fst (kArith h .lss v75 v74) fun v76 h =>
  fif v76 (
  fst (kIdxA h 5 v73 v75) fun v77 h =>
  fst (kLdn h 5 v77) fun v78 h =>
  fst (kNew h S182.z0) fun v11 h =>
  fst (kSt h 5 v11 v78) fun _ h =>
  fjn (o182_a3 cl N v1 v2 v3 v9 v11 v73 v74 v75 h) fun _ vs h => o182_j4 cl N (nthD vs 0) (nthD vs 1) (nthD vs 2) (nthD vs 3) (nthD vs 4) (nthD vs 5) (nthD vs 6) (nthD vs 7) (nthD vs 8) h) (
  some ((.exit 1), [v1, v2, v3, v9, v73, v74, v75], [v1, v2, v3, .undef], h))
def o182_s2 (cl : Handler) (N : Nat) (v1 v2 v93 v94 v107 : AV) (h : AH) : Ans :=
  some (.nrm, [v1, v2, v93, v94, v107], [.undef], h)
def o182_l6 (cl : Handler) (N : Nat) (v1 v2 v93 v94 v95 : AV) (h : AH) : Ans :=
  fst (kArith h .lss v95 v94) fun v96 h =>
  fif v96 (
  fst (kIdxA h 5 v93 v95) fun v97 h =>
  fst (kLdn h 5 v97) fun v98 h =>
  fst (kNew h S182.z0) fun v13 h =>
  fst (kSt h 5 v13 v98) fun _ h =>
  fst (kLdn h 5 v13) fun v99 h =>
  fst (kArith h .add v1 (.int .i64 1)) fun v101 h =>
  fst (cl 182 [v99, v101, v2] h) fun v103 h =>
  fst (kArith h .neq v103 (.int .i64 0)) fun v105 h =>
  fif v105 (
  some (.ret, [v1, v2, v93, v94, v95], [v103], h)) (
  fst (kArith h .add v95 (.int .i64 1)) fun v107 h =>
  o182_s2 cl N v1 v2 v93 v94 v107 h)) (
  some ((.exit 3), [v1, v2, v93, v94, v95], [.undef], h))
def o182_c7 (cl : Handler) (N : Nat) (h : AH) : Ans :=
  some (.nrm, [], [(.int .i64 0)], h)
def o182_j8 (cl : Handler) (N : Nat) (x : AX) (v6 : AV) (h : AH) : Ans :=
  fxs x (o182_c7 cl N h) (fun j => cond (Nat.beq j 3) (o182_c7 cl N h) (none)) (some (.nrm, [], [v6], h))
def o182_c9 (cl : Handler) (N : Nat) (v1 v2 v3 : AV) (h : AH) : Ans :=
  fst (kFldA h 4 v3) fun v92 h =>
  fst (kLd1 h v92) fun v93 h =>
  fst (kLen h v93) fun v94 h =>
  fjn (fiter (fun vs h => o182_l6 cl N (nthD vs 0) (nthD vs 1) (nthD vs 2) (nthD vs 3) (nthD vs 4) h) N [v1, v2, v93, v94, (.int .i64 0)] h) fun x vs h => o182_j8 cl N x (nthD vs 0) h
def o182_j10 (cl : Handler) (N : Nat) (x : AX) (v1 v2 v3 v6 : AV) (h : AH) : Ans :=
  fxs x (o182_c9 cl N v1 v2 v3 h) (fun j => cond (Nat.beq j 1) (o182_c9 cl N v1 v2 v3 h) (none)) (some (.nrm, [], [v6], h))
def o182_s3 (cl : Handler) (N : Nat) (v1 v2 v3 v9 v72 : AV) (h : AH) : Ans :=
  fst (kLd1 h v72) fun v73 h =>
  fst (kLen h v73) fun v74 h =>
  fjn (fiter (fun vs h => o182_l5 cl N (nthD vs 0) (nthD vs 1) (nthD vs 2) (nthD vs 3) (nthD vs 4) (nthD vs 5) (nthD vs 6) h) N [v1, v2, v3, v9, v73, v74, (.int .i64 0)] h) fun x vs h => o182_j10 cl N x (nthD vs 0) (nthD vs 1) (nthD vs 2) (nthD vs 3) h
def o182_j11 (cl : Handler) (N : Nat) (v1 v2 v3 v42 : AV) (h : AH) : Ans :=
  fif v42 (
  some (.nrm, [], [(.int .i64 2)], h)) (
  fst (kFldA h 2 v3) fun v59 h =>
  fst (kLd1 h v59) fun v60 h =>
  fst (cl 194 [v60] h) fun v61 h =>
  fst (kArith h .neq v61 (.int .i64 0)) fun v63 h =>
  fif v63 (
  some (.nrm, [], [v61], h)) (
  fst (kFldA h 3 v3) fun v65 h =>
  fst (kLd1 h v65) fun v66 h =>
  fst (cl 195 [v66] h) fun v67 h =>
  fst (kArith h .neq v67 (.int .i64 0)) fun v69 h =>
  fif v69 (
  some (.nrm, [], [v67], h)) (
  fst (kX h .mkmap []) fun v71 h =>
  fst (kFldA h 4 v3) fun v72 h =>
  o182_s3 cl N v1 v2 v3 v71 v72 h)))
def o182_j12 (cl : Handler) (N : Nat) (v1 v2 v3 v28 : AV) (h : AH) : Ans :=
  fif v28 (
  some (.nrm, [], [(.int .i64 9)], h)) (
  fst (kFldA h 1 v3) fun v38 h =>
  fst (kLd1 h v38) fun v39 h =>
  fst (cl 193 [v39] h) fun v40 h =>
  fst (kUn h .not v40) fun v41 h =>
  fif v41 (
  some (.nrm, [], [(.int .i64 4)], h)) (
  fjn (o182_a2 cl N v1 v2 v3 h) fun _ vs h => o182_j11 cl N (nthD vs 0) (nthD vs 1) (nthD vs 2) (nthD vs 3) h))
def o182_s4 (cl : Handler) (N : Nat) (v1 v2 v3 v27 : AV) (h : AH) : Ans :=
  fif v27 (
  some (.nrm, [], [(.int .i64 2)], h)) (
  fjn (o182_a1 cl N v1 v2 v3 h) fun _ vs h => o182_j12 cl N (nthD vs 0) (nthD vs 1) (nthD vs 2) (nthD vs 3) h)
def o182 (cl : Handler) (N : Nat) (v0 v1 v2 : AV) (h : AH) : Ans :=
  fst (kBox h v0) fun v3 h =>
  fst (kNilchk h v2) fun v16 h =>
  fst (kLd1 h v16) fun v17 h =>
  fst (kArith h .add v17 (.int .i64 1)) fun v18 h =>
  fst (kNilchk h v2) fun v19 h =>
  fst (kSt h 1 v19 v18) fun _ h =>
  fst (kArith h .gtr v1 (.int .i64 16)) fun v22 h =>
  fif v22 (
  some (.nrm, [], [(.int .i64 8)], h)) (
  fst (kNilchk h v2) fun v25 h =>
  fst (kLd1 h v25) fun v26 h =>
  fst (kArith h .gtr v26 (.int .i64 400)) fun v27 h =>
  o182_s4 cl N v1 v2 v3 v27 h)
theorem o182_eq (cl : Handler) (N : Nat) (v0 v1 v2 : AV) (h : AH) : frun cl N S182 [v0, v1, v2] h = fans (o182 cl N v0 v1 v2 h) := by kernel_rfl
def w182 (N : Nat) : OF := fun cl args h => match args with
  | [v0, v1, v2] => fans (o182 cl N v0 v1 v2 h)
  | _ => none
theorem w182_ok (N : Nat) : OkF Tryz.prog 182 (w182 N) := .of (N := N) (S182_ok) fun cl args h r hr => by
  unfold w182 at hr
  split at hr
  · exact (o182_eq cl N _ _ _ _).trans hr
  · cases hr

/- widgetry/style.exists -/
def S183.r0 : List AOpr := [
  q 2 (.mov (.const (.bool false)))]
def S183.r1 : List AOpr := [
  q 3 (.mov (x 0)),
  q 4 (.arith .geq (x 3) (.const (.int .i64 0))),
  q 5 (.mov (x 4)),
  ⟨some 6, .mov (x 0), some (5, true)⟩,
  ⟨some 7, .arith .lss (x 6) (.const (.int .i64 22)), some (5, true)⟩,
  q 8 (.pick (x 5) (x 7) (.const (.bool false))),
  q 2 (.mov (x 8))]
def S183 : SFn := ⟨9, [.tmp 2], .seq (.reg S183.r0) (.seq (.reg S183.r1) (.ret))⟩
theorem S183_ok : EOk Tryz.prog 183 S183 := ⟨Tryz.f183, by kernel_rfl, by kernel_rfl, by decide, by kernel_rfl, its_nil (by kernel_rfl)⟩
def o183 (cl : Handler) (N : Nat) (v0 : AV) (h : AH) : Ans :=
  fst (kArith h .geq v0 (.int .i64 0)) fun v4 h =>
  fgd (gdv true v4) (kMov h v0) h fun v6 h =>
  fgd (gdv true v4) (kArith h .lss v6 (.int .i64 22)) h fun v7 h =>
  fst (kPick h v4 v7 (.bool false)) fun v8 h =>
  some (.nrm, [], [v8], h)
theorem o183_eq (cl : Handler) (N : Nat) (v0 : AV) (h : AH) : frun cl N S183 [v0] h = fans (o183 cl N v0 h) := by kernel_rfl
def w183 (N : Nat) : OF := fun cl args h => match args with
  | [v0] => fans (o183 cl N v0 h)
  | _ => none
theorem w183_ok (N : Nat) : OkF Tryz.prog 183 (w183 N) := .of (N := N) (S183_ok) fun cl args h r hr => by
  unfold w183 at hr
  split at hr
  · exact (o183_eq cl N _ _).trans hr
  · cases hr

/- widgetry/layout.isText -/
def S184.r0 : List AOpr := [
  q 2 (.mov (.const (.bool false)))]
def S184.r1 : List AOpr := [
  q 3 (.mov (x 0)),
  q 4 (.arith .eql (x 3) (.const (.int .i64 2))),
  q 5 (.mov (x 4)),
  ⟨some 6, .mov (x 0), some (5, false)⟩,
  ⟨some 7, .arith .eql (x 6) (.const (.int .i64 4)), some (5, false)⟩,
  q 8 (.pick (x 5) (.const (.bool true)) (x 7)),
  q 9 (.mov (x 8)),
  ⟨some 10, .mov (x 0), some (9, false)⟩,
  ⟨some 11, .arith .eql (x 10) (.const (.int .i64 7)), some (9, false)⟩,
  q 12 (.pick (x 9) (.const (.bool true)) (x 11)),
  q 13 (.mov (x 12)),
  ⟨some 14, .mov (x 0), some (13, false)⟩,
  ⟨some 15, .arith .eql (x 14) (.const (.int .i64 9)), some (13, false)⟩,
  q 16 (.pick (x 13) (.const (.bool true)) (x 15)),
  q 2 (.mov (x 16))]
def S184 : SFn := ⟨17, [.tmp 2], .seq (.reg S184.r0) (.seq (.reg S184.r1) (.ret))⟩
theorem S184_ok : EOk Tryz.prog 184 S184 := ⟨Tryz.f184, by kernel_rfl, by kernel_rfl, by decide, by kernel_rfl, its_nil (by kernel_rfl)⟩
def o184_s1 (cl : Handler) (N : Nat) (v16 : AV) (h : AH) : Ans :=
  some (.nrm, [], [v16], h)
def o184 (cl : Handler) (N : Nat) (v0 : AV) (h : AH) : Ans :=
  fst (kArith h .eql v0 (.int .i64 2)) fun v4 h =>
  fgd (gdv false v4) (kMov h v0) h fun v6 h =>
  fgd (gdv false v4) (kArith h .eql v6 (.int .i64 4)) h fun v7 h =>
  fst (kPick h v4 (.bool true) v7) fun v8 h =>
  fgd (gdv false v8) (kMov h v0) h fun v10 h =>
  fgd (gdv false v8) (kArith h .eql v10 (.int .i64 7)) h fun v11 h =>
  fst (kPick h v8 (.bool true) v11) fun v12 h =>
  fgd (gdv false v12) (kMov h v0) h fun v14 h =>
  fgd (gdv false v12) (kArith h .eql v14 (.int .i64 9)) h fun v15 h =>
  fst (kPick h v12 (.bool true) v15) fun v16 h =>
  o184_s1 cl N v16 h
theorem o184_eq (cl : Handler) (N : Nat) (v0 : AV) (h : AH) : frun cl N S184 [v0] h = fans (o184 cl N v0 h) := by kernel_rfl
def w184 (N : Nat) : OF := fun cl args h => match args with
  | [v0] => fans (o184 cl N v0 h)
  | _ => none
theorem w184_ok (N : Nat) : OkF Tryz.prog 184 (w184 N) := .of (N := N) (S184_ok) fun cl args h r hr => by
  unfold w184 at hr
  split at hr
  · exact (o184_eq cl N _ _).trans hr
  · cases hr

/- widgetry/layout.isFigure -/
def S185.r0 : List AOpr := [
  q 2 (.mov (.const (.bool false)))]
def S185.r1 : List AOpr := [
  q 3 (.mov (x 0)),
  q 4 (.arith .eql (x 3) (.const (.int .i64 5))),
  q 5 (.mov (x 4)),
  ⟨some 6, .mov (x 0), some (5, false)⟩,
  ⟨some 7, .arith .eql (x 6) (.const (.int .i64 13)), some (5, false)⟩,
  q 8 (.pick (x 5) (.const (.bool true)) (x 7)),
  q 2 (.mov (x 8))]
def S185 : SFn := ⟨9, [.tmp 2], .seq (.reg S185.r0) (.seq (.reg S185.r1) (.ret))⟩
theorem S185_ok : EOk Tryz.prog 185 S185 := ⟨Tryz.f185, by kernel_rfl, by kernel_rfl, by decide, by kernel_rfl, its_nil (by kernel_rfl)⟩
def o185 (cl : Handler) (N : Nat) (v0 : AV) (h : AH) : Ans :=
  fst (kArith h .eql v0 (.int .i64 5)) fun v4 h =>
  fgd (gdv false v4) (kMov h v0) h fun v6 h =>
  fgd (gdv false v4) (kArith h .eql v6 (.int .i64 13)) h fun v7 h =>
  fst (kPick h v4 (.bool true) v7) fun v8 h =>
  some (.nrm, [], [v8], h)
theorem o185_eq (cl : Handler) (N : Nat) (v0 : AV) (h : AH) : frun cl N S185 [v0] h = fans (o185 cl N v0 h) := by kernel_rfl
def w185 (N : Nat) : OF := fun cl args h => match args with
  | [v0] => fans (o185 cl N v0 h)
  | _ => none
theorem w185_ok (N : Nat) : OkF Tryz.prog 185 (w185 N) := .of (N := N) (S185_ok) fun cl args h r hr => by
  unfold w185 at hr
  split at hr
  · exact (o185_eq cl N _ _).trans hr
  · cases hr

/- widgetry/widgetryref11.check -/
def S189.r0 : List AOpr := [
  q 3 (.box (x 0)),
  q 6 (.new [.int .i64 0, .nilsl]),
  q 7 (.mov (.const (.int .i64 0))),
  q 8 (.mov (.const (.int .i64 0)))]
def S189.r1 : List AOpr := [
  q 18 (.mov (x 2)),
  q 19 (.arith .add (x 18) (.const (.int .i64 1))),
  q 2 (.mov (x 19))]
def S189.r2 : List AOpr := [
  q 20 (.fldA 0 (x 3)),
  q 21 (.ld1 (x 20)),
  q 22 (.arith .eql (x 21) (.const (.int .i64 4))),
  q 9 (.mov (x 22))]
def S189.r3 : List AOpr := [
  q 23 (.mov (x 9)),
  q 24 (.mov (x 23)),
  ⟨some 25, .mov (x 1), some (24, true)⟩,
  ⟨some 26, .arith .gtr (x 25) (.const (.int .i64 16)), some (24, true)⟩,
  q 27 (.pick (x 24) (x 26) (.const (.bool false)))]
def S189.r4 : List AOpr := [
  q 28 (.build [.int .i64 0, .nilsl] []),
  q 29 (.mov (x 2)),
  ⟨none, .st 2 (x 6) (x 28), none⟩,
  q 7 (.mov (x 29)),
  q 8 (.mov (.const (.int .i64 8)))]
def S189.r5 : List AOpr := [
  q 30 (.fldA 0 (x 3)),
  q 31 (.ld1 (x 30)),
  q 32 (.arith .lss (x 31) (.const (.int .i64 1))),
  q 33 (.mov (x 32)),
  ⟨some 34, .fldA 0 (x 3), some (33, false)⟩,
  ⟨some 35, .ld1 (x 34), some (33, false)⟩,
  ⟨some 36, .arith .gtr (x 35) (.const (.int .i64 4)), some (33, false)⟩,
  q 37 (.pick (x 33) (.const (.bool true)) (x 36)),
  q 38 (.mov (x 37)),
  ⟨some 39, .fldA 1 (x 3), some (38, false)⟩,
  ⟨some 40, .ld1 (x 39), some (38, false)⟩,
  ⟨some 41, .arith .neq (x 40) (.const (.int .i64 0)), some (38, false)⟩,
  ⟨some 42, .mov (x 41), some (38, false)⟩,
  ⟨some 43, .fldA 0 (x 3), some (42, true)⟩,
  ⟨some 44, .ld1 (x 43), some (42, true)⟩,
  ⟨some 45, .arith .neq (x 44) (.const (.int .i64 1)), some (42, true)⟩,
  ⟨some 46, .pick (x 42) (x 45) (.const (.bool false)), some (38, false)⟩,
  ⟨some 47, .mov (x 46), some (38, false)⟩,
  ⟨some 48, .fldA 0 (x 3), some (47, true)⟩,
  ⟨some 49, .ld1 (x 48), some (47, true)⟩,
  ⟨some 50, .arith .neq (x 49) (.const (.int .i64 2)), some (47, true)⟩,
  ⟨some 51, .pick (x 47) (x 50) (.const (.bool false)), some (38, false)⟩,
  q 52 (.pick (x 38) (.const (.bool true)) (x 51)),
  q 53 (.mov (x 52)),
  ⟨some 54, .fldA 2 (x 3), some (53, false)⟩,
  ⟨some 55, .ld1 (x 54), some (53, false)⟩,
  ⟨some 56, .arith .neq (x 55) (.const (.str [])), some (53, false)⟩,
  ⟨some 57, .mov (x 56), some (53, false)⟩,
  ⟨some 58, .fldA 0 (x 3), some (57, true)⟩,
  ⟨some 59, .ld1 (x 58), some (57, true)⟩,
  ⟨some 60, .arith .neq (x 59) (.const (.int .i64 3)), some (57, true)⟩,
  ⟨some 61, .pick (x 57) (x 60) (.const (.bool false)), some (53, false)⟩,
  q 62 (.pick (x 53) (.const (.bool true)) (x 61)),
  q 63 (.mov (x 62)),
  ⟨some 64, .fldA 3 (x 3), some (63, false)⟩,
  ⟨some 65, .ld1 (x 64), some (63, false)⟩,
  ⟨some 66, .len (x 65), some (63, false)⟩,
  ⟨some 67, .arith .gtr (x 66) (.const (.int .i64 0)), some (63, false)⟩,
  ⟨some 68, .mov (x 67), some (63, false)⟩,
  ⟨some 69, .mov (x 9), some (68, true)⟩,
  ⟨some 70, .un .not (x 69), some (68, true)⟩,
  ⟨some 71, .pick (x 68) (x 70) (.const (.bool false)), some (63, false)⟩,
  q 72 (.pick (x 63) (.const (.bool true)) (x 71))]
def S189.r6 : List AOpr := [
  q 73 (.build [.int .i64 0, .nilsl] []),
  q 74 (.mov (x 2)),
  ⟨none, .st 2 (x 6) (x 73), none⟩,
  q 7 (.mov (x 74)),
  q 8 (.mov (.const (.int .i64 9)))]
def S189.r7 : List AOpr := [
  q 75 (.fldA 0 (x 3)),
  q 76 (.ld1 (x 75)),
  q 77 (.arith .eql (x 76) (.const (.int .i64 1))),
  q 78 (.mov (x 77)),
  ⟨some 79, .fldA 1 (x 3), some (78, true)⟩,
  ⟨some 80, .ld1 (x 79), some (78, true)⟩,
  ⟨some 81, .arith .lss (x 80) (.const (.int .i64 (-1099511627776))), some (78, true)⟩,
  ⟨some 82, .mov (x 81), some (78, true)⟩,
  ⟨some 83, .fldA 1 (x 3), some (82, false)⟩,
  ⟨some 84, .ld1 (x 83), some (82, false)⟩,
  ⟨some 85, .arith .gtr (x 84) (.const (.int .i64 1099511627776)), some (82, false)⟩,
  ⟨some 86, .pick (x 82) (.const (.bool true)) (x 85), some (78, true)⟩,
  q 87 (.pick (x 78) (x 86) (.const (.bool false))),
  q 88 (.mov (x 87)),
  ⟨some 89, .fldA 0 (x 3), some (88, false)⟩,
  ⟨some 90, .ld1 (x 89), some (88, false)⟩,
  ⟨some 91, .arith .eql (x 90) (.const (.int .i64 2)), some (88, false)⟩,
  ⟨some 92, .mov (x 91), some (88, false)⟩,
  ⟨some 93, .fldA 1 (x 3), some (92, true)⟩,
  ⟨some 94, .ld1 (x 93), some (92, true)⟩,
  ⟨some 95, .arith .neq (x 94) (.const (.int .i64 0)), some (92, true)⟩,
  ⟨some 96, .pick (x 92) (x 95) (.const (.bool false)), some (88, false)⟩,
  ⟨some 97, .mov (x 96), some (88, false)⟩,
  ⟨some 98, .fldA 1 (x 3), some (97, true)⟩,
  ⟨some 99, .ld1 (x 98), some (97, true)⟩,
  ⟨some 100, .arith .neq (x 99) (.const (.int .i64 1)), some (97, true)⟩,
  ⟨some 101, .pick (x 97) (x 100) (.const (.bool false)), some (88, false)⟩,
  q 102 (.pick (x 88) (.const (.bool true)) (x 101))]
def S189.r8 : List AOpr := [
  q 103 (.build [.int .i64 0, .nilsl] []),
  q 104 (.mov (x 2)),
  ⟨none, .st 2 (x 6) (x 103), none⟩,
  q 7 (.mov (x 104)),
  q 8 (.mov (.const (.int .i64 1)))]
def S189.r9 : List AOpr := [
  q 105 (.fldA 2 (x 3)),
  q 106 (.ld1 (x 105)),
  q 107 (.lenS (x 106)),
  q 108 (.arith .gtr (x 107) (.const (.int .i64 2000))),
  q 109 (.mov (x 108)),
  ⟨some 110, .fldA 3 (x 3), some (109, false)⟩,
  ⟨some 111, .ld1 (x 110), some (109, false)⟩,
  ⟨some 112, .len (x 111), some (109, false)⟩,
  ⟨some 113, .arith .gtr (x 112) (.const (.int .i64 100)), some (109, false)⟩,
  q 114 (.pick (x 109) (.const (.bool true)) (x 113)),
  q 115 (.mov (x 114)),
  ⟨some 116, .mov (x 2), some (115, false)⟩,
  ⟨some 117, .arith .gtr (x 116) (.const (.int .i64 1000)), some (115, false)⟩,
  q 118 (.pick (x 115) (.const (.bool true)) (x 117))]
def S189.r10 : List AOpr := [
  q 119 (.build [.int .i64 0, .nilsl] []),
  q 120 (.mov (x 2)),
  ⟨none, .st 2 (x 6) (x 119), none⟩,
  q 7 (.mov (x 120)),
  q 8 (.mov (.const (.int .i64 2)))]
def S189.r11 : List AOpr := [
  q 121 (.fldA 2 (x 3)),
  q 122 (.ld1 (x 121)),
  q 123 (.call (.const (.func (.func 197) [] [])) [.tmp 122]),
  q 124 (.un .not (x 123))]
def S189.r12 : List AOpr := [
  q 125 (.build [.int .i64 0, .nilsl] []),
  q 126 (.mov (x 2)),
  ⟨none, .st 2 (x 6) (x 125), none⟩,
  q 7 (.mov (x 126)),
  q 8 (.mov (.const (.int .i64 3)))]
def S189.r13 : List AOpr := [
  q 127 (.fldA 0 (x 3)),
  q 128 (.ld1 (x 127)),
  q 129 (.build [.int .i64 0, .nilsl] [(0, 1, .tmp 128)]),
  q 10 (.new [.int .i64 0, .nilsl]),
  ⟨none, .st 2 (x 10) (x 129), none⟩]
def S189.r14 : List AOpr := [
  q 11 (.mov (.const (.bool true)))]
def S189.r15 : List AOpr := [
  q 12 (.mov (.const (.int .i64 0)))]
def S189.r16 : List AOpr := [
  q 130 (.mov (x 12)),
  q 131 (.fldA 3 (x 3)),
  q 132 (.ld1 (x 131)),
  q 133 (.len (x 132)),
  q 134 (.arith .lss (x 130) (x 133))]
def S189.r17 : List AOpr := [
  q 138 (.fldA 3 (x 3)),
  q 139 (.ld1 (x 138)),
  q 140 (.mov (x 12)),
  q 141 (.idxA 4 (x 139) (x 140)),
  q 142 (.ldn 4 (x 141)),
  q 143 (.mov (x 1)),
  q 144 (.arith .add (x 143) (.const (.int .i64 1))),
  q 145 (.mov (x 2)),
  q 146 (.call (.const (.func (.func 189) [] [])) [.tmp 142, .tmp 144, .tmp 145]),
  q 137 (.mov (x 146)),
  q 147 (.ext (x 137) 0),
  q 148 (.ext (x 137) 1),
  q 149 (.ext (x 137) 2),
  q 13 (.new [.int .i64 0, .nilsl]),
  ⟨none, .st 2 (x 13) (x 147), none⟩,
  q 14 (.mov (x 148)),
  q 15 (.mov (x 149))]
def S189.r18 : List AOpr := [
  q 150 (.mov (x 14)),
  q 2 (.mov (x 150))]
def S189.r19 : List AOpr := [
  q 151 (.mov (x 15)),
  q 152 (.arith .neq (x 151) (.const (.int .i64 0)))]
def S189.r20 : List AOpr := [
  q 153 (.build [.int .i64 0, .nilsl] []),
  q 154 (.mov (x 2)),
  q 155 (.mov (x 15)),
  ⟨none, .st 2 (x 6) (x 153), none⟩,
  q 7 (.mov (x 154)),
  q 8 (.mov (x 155))]
def S189.r21 : List AOpr := [
  q 156 (.mov (x 11)),
  q 157 (.un .not (x 156))]
def S189.r22 : List AOpr := [
  q 158 (.fldA 1 (x 10)),
  q 159 (.ld1 (x 158)),
  q 160 (.len (x 159)),
  q 161 (.arith .eql (x 160) (.const (.int .i64 0)))]
def S189.r23 : List AOpr := [
  q 162 (.ldn 2 (x 13)),
  q 163 (.buildSl 2 1 [.int .i64 0, .nilsl] [(0, 2, .tmp 162)]),
  q 164 (.fldA 1 (x 10)),
  ⟨none, .st 1 (x 164) (x 163), none⟩]
def S189.r24 : List (AOpr × Nat) := [
  (q 166 (.fldA 1 (x 10)), 0),
  (q 167 (.ld1 (x 166)), 1),
  (q 168 (.idxA 2 (x 167) (.const (.int .i64 0))), 3),
  (q 169 (.ldn 2 (x 168)), 7),
  (q 170 (.ldn 2 (x 13)), 0),
  (q 171 (.call (.const (.func (.func 198) [] [])) [.tmp 169, .tmp 170]), 31),
  (q 165 (.mov (x 171)), 63),
  (q 172 (.ext (x 165) 0), 127),
  (q 173 (.ext (x 165) 1), 127),
  (q 16 (.new [.int .i64 0, .nilsl]), 0),
  (⟨none, .st 2 (x 16) (x 172), none⟩, 767),
  (q 17 (.mov (x 173)), 2047)]
def S189.r25 : List AOpr := [
  q 174 (.mov (x 17)),
  q 11 (.mov (x 174))]
def S189.r26 : List AOpr := [
  q 175 (.ldn 2 (x 16)),
  q 176 (.buildSl 2 1 [.int .i64 0, .nilsl] [(0, 2, .tmp 175)]),
  q 177 (.fldA 1 (x 10)),
  ⟨none, .st 1 (x 177) (x 176), none⟩]
def S189.r27 : List AOpr := [
  q 135 (.mov (x 12)),
  q 136 (.arith .add (x 135) (.const (.int .i64 1))),
  q 12 (.mov (x 136))]
def S189.r28 : List AOpr := [
  q 178 (.mov (x 11)),
  q 179 (.un .not (x 178))]
def S189.r29 : List AOpr := [
  q 180 (.build [.int .i64 0, .nilsl] []),
  q 181 (.mov (x 2)),
  ⟨none, .st 2 (x 6) (x 180), none⟩,
  q 7 (.mov (x 181)),
  q 8 (.mov (.const (.int .i64 5)))]
def S189.r30 : List AOpr := [
  q 182 (.ldn 2 (x 10)),
  q 183 (.mov (x 2)),
  ⟨none, .st 2 (x 6) (x 182), none⟩,
  q 7 (.mov (x 183)),
  q 8 (.mov (.const (.int .i64 0)))]
def S189 : SFn := ⟨184, [.cell 6 (some 2), .tmp 7, .tmp 8], .seq (.reg S189.r0) (.seq (.reg S189.r1) (.seq (.reg S189.r2) (.seq (.seq (.joinN [1, 2, 3, 6, 9, 27] (.reg S189.r3)) (.cond (x 27) (.seq (.reg S189.r4) (.ret)) (.skip))) (.seq (.seq (.joinN [1, 2, 3, 6, 72] (.reg S189.r5)) (.cond (x 72) (.seq (.reg S189.r6) (.ret)) (.skip))) (.seq (.seq (.joinN [1, 2, 3, 6, 102] (.reg S189.r7)) (.cond (x 102) (.seq (.reg S189.r8) (.ret)) (.skip))) (.seq (.seq (.joinN [1, 2, 3, 6, 118] (.reg S189.r9)) (.cond (x 118) (.seq (.reg S189.r10) (.ret)) (.skip))) (.seq (.seq (.reg S189.r11) (.cond (x 124) (.seq (.reg S189.r12) (.ret)) (.skip))) (.seq (.reg S189.r13) (.seq (.reg S189.r14) (.seq (.seq (.reg S189.r15) (.block 0 (.loop [1, 2, 3, 6, 10, 11, 12] [2, 6, 7, 8, 10, 11] (.seq (.seq (.reg S189.r16) (.cond (x 134) (.skip) (.exit 0))) (.seq (.join [1, 2, 3, 6, 7, 8, 10, 11, 12] (.block 1 (.seq (.reg S189.r17) (.seq (.reg S189.r18) (.seq (.seq (.reg S189.r19) (.cond (x 152) (.seq (.reg S189.r20) (.ret)) (.skip))) (.seq (.seq (.reg S189.r21) (.cond (x 157) (.exit 1) (.skip))) (.seq (.seq (.reg S189.r22) (.cond (x 161) (.seq (.reg S189.r23) (.exit 1)) (.skip))) (.seq (.draw S189.r24) (.seq (.reg S189.r25) (.reg S189.r26)))))))))) (.reg S189.r27)))))) (.seq (.seq (.reg S189.r28) (.cond (x 179) (.seq (.reg S189.r29) (.ret)) (.skip))) (.seq (.reg S189.r30) (.ret)))))))))))))⟩
theorem S189_ok : EOk Tryz.prog 189 S189 := ⟨Tryz.f189, by kernel_rfl, by kernel_rfl, by decide, by kernel_rfl, its_nil (by kernel_rfl)⟩
def o189_a1 (cl : Handler) (N : Nat) (v1 v2 v3 v6 v9 : AV) (h : AH) : Ans :=
  fgd (gdv true v9) (kMov h v1) h fun v25 h =>
  fgd (gdv true v9) (kArith h .gtr v25 (.int .i64 16)) h fun v26 h =>
  fst (kPick h v9 v26 (.bool false)) fun v27 h =>
  some (.nrm, [], [v1, v2, v3, v6, v9, v27], h)
def o189_s1 (cl : Handler) (N : Nat) (v1 v2 v3 v6 v9 v62 : AV) (h : AH) : Ans :=
  fgd (gdv false v62) (kFldA h 3 v3) h fun v64 h =>
  fgd (gdv false v62) (kLd1 h v64) h fun v65 h =>
  fgd (gdv false v62) (kLen h v65) h fun v66 h =>
  fgd (gdv false v62) (kArith h .gtr v66 (.int .i64 0)) h fun v67 h =>
  fgd (gdv false v62) (kMov h v67) h fun v68 h =>
  fgd (gdv true v68) (kMov h v9) h fun v69 h =>
  fgd (gdv true v68) (kUn h .not v69) h fun v70 h =>
  fgd (gdv false v62) (kPick h v68 v70 (.bool false)) h fun v71 h =>
  fst (kPick h v62 (.bool true) v71) fun v72 h =>
  some (.nrm, [], [v1, v2, v3, v6, v72], h)
def o189_s2 (cl : Handler) (N : Nat) (v1 v2 v3 v6 v9 v38 v51 : AV) (h : AH) : Ans :=
  fst (kPick h v38 (.bool true) v51) fun v52 h =>
  fgd (gdv false v52) (kFldA h 2 v3) h fun v54 h =>
  fgd (gdv false v52) (kLd1 h v54) h fun v55 h =>
  fgd (gdv false v52) (kArith h .neq v55 (.str [])) h fun v56 h =>
  fgd (gdv false v52) (kMov h v56) h fun v57 h =>
  fgd (gdv true v57) (kFldA h 0 v3) h fun v58 h =>
  fgd (gdv true v57) (kLd1 h v58) h fun v59 h =>
  fgd (gdv true v57) (kArith h .neq v59 (.int .i64 3)) h fun v60 h =>
  fgd (gdv false v52) (kPick h v57 v60 (.bool false)) h fun v61 h =>
  fst (kPick h v52 (.bool true) v61) fun v62 h =>
  o189_s1 cl N v1 v2 v3 v6 v9 v62 h
def o189_s3 (cl : Handler) (N : Nat) (v1 v2 v3 v6 v9 v38 v41 : AV) (h : AH) : Ans :=
  fgd (gdv false v38) (kMov h v41) h fun v42 h =>
  fgd (gdv true v42) (kFldA h 0 v3) h fun v43 h =>
  fgd (gdv true v42) (kLd1 h v43) h fun v44 h =>
  fgd (gdv true v42) (kArith h .neq v44 (.int .i64 1)) h fun v45 h =>
  fgd (gdv false v38) (kPick h v42 v45 (.bool false)) h fun v46 h =>
  fgd (gdv false v38) (kMov h v46) h fun v47 h =>
  fgd (gdv true v47) (kFldA h 0 v3) h fun v48 h =>
  fgd (gdv true v47) (kLd1 h v48) h fun v49 h =>
  fgd (gdv true v47) (kArith h .neq v49 (.int .i64 2)) h fun v50 h =>
  fgd (gdv false v38) (kPick h v47 v50 (.bool false)) h fun v51 h =>
  o189_s2 cl N v1 v2 v3 v6 v9 v38 v51 h
def o189_a2 (cl : Handler) (N : Nat) (v1 v2 v3 v6 v9 : AV) (h : AH) : Ans :=
  fst (kFldA h 0 v3) fun v30 h =>
  fst (kLd1 h v30) fun v31 h =>
  fst (kArith h .lss v31 (.int .i64 1)) fun v32 h =>
  fgd (gdv false v32) (kFldA h 0 v3) h fun v34 h =>
  fgd (gdv false v32) (kLd1 h v34) h fun v35 h =>
  fgd (gdv false v32) (kArith h .gtr v35 (.int .i64 4)) h fun v36 h =>
  fst (kPick h v32 (.bool true) v36) fun v37 h =>
  fgd (gdv false v37) (kFldA h 1 v3) h fun v39 h =>
  fgd (gdv false v37) (kLd1 h v39) h fun v40 h =>
  fgd (gdv false v37) (kArith h .neq v40 (.int .i64 0)) h fun v41 h =>
  o189_s3 cl N v1 v2 v3 v6 v9 v37 v41 h
def o189_s4 (cl : Handler) (N : Nat) (v1 v2 v3 v6 v88 v96 : AV) (h : AH) : Ans :=
  fgd (gdv false v88) (kMov h v96) h fun v97 h =>
  fgd (gdv true v97) (kFldA h 1 v3) h fun v98 h =>
  fgd (gdv true v97) (kLd1 h v98) h fun v99 h =>
  fgd (gdv true v97) (kArith h .neq v99 (.int .i64 1)) h fun v100 h =>
  fgd (gdv false v88) (kPick h v97 v100 (.bool false)) h fun v101 h =>
  fst (kPick h v88 (.bool true) v101) fun v102 h =>
  some (.nrm, [], [v1, v2, v3, v6, v102], h)
def o189_s5 (cl : Handler) (N : Nat) (v1 v2 v3 v6 v78 v82 v85 : AV) (h : AH) : Ans :=
  fgd (gdv true v78) (kPick h v82 (.bool true) v85) h fun v86 h =>
  fst (kPick h v78 v86 (.bool false)) fun v87 h =>
  fgd (gdv false v87) (kFldA h 0 v3) h fun v89 h =>
  fgd (gdv false v87) (kLd1 h v89) h fun v90 h =>
  fgd (gdv false v87) (kArith h .eql v90 (.int .i64 2)) h fun v91 h =>
  fgd (gdv false v87) (kMov h v91) h fun v92 h =>
  fgd (gdv true v92) (kFldA h 1 v3) h fun v93 h =>
  fgd (gdv true v92) (kLd1 h v93) h fun v94 h =>
  fgd (gdv true v92) (kArith h .neq v94 (.int .i64 0)) h fun v95 h =>
  fgd (gdv false v87) (kPick h v92 v95 (.bool false)) h fun v96 h =>
  o189_s4 cl N v1 v2 v3 v6 v87 v96 h
def o189_a3 (cl : Handler) (N : Nat) (v1 v2 v3 v6 : AV) (h : AH) : Ans :=
  fst (kFldA h 0 v3) fun v75 h =>
  fst (kLd1 h v75) fun v76 h =>
  fst (kArith h .eql v76 (.int .i64 1)) fun v77 h =>
  fgd (gdv true v77) (kFldA h 1 v3) h fun v79 h =>
  fgd (gdv true v77) (kLd1 h v79) h fun v80 h =>
  fgd (gdv true v77) (kArith h .lss v80 (.int .i64 (-1099511627776))) h fun v81 h =>
  fgd (gdv true v77) (kMov h v81) h fun v82 h =>
  fgd (gdv false v82) (kFldA h 1 v3) h fun v83 h =>
  fgd (gdv false v82) (kLd1 h v83) h fun v84 h =>
  fgd (gdv false v82) (kArith h .gtr v84 (.int .i64 1099511627776)) h fun v85 h =>
  o189_s5 cl N v1 v2 v3 v6 v77 v82 v85 h
def o189_s6 (cl : Handler) (N : Nat) (v1 v2 v3 v6 v115 v116 : AV) (h : AH) : Ans :=
  fgd (gdv false v115) (kArith h .gtr v116 (.int .i64 1000)) h fun v117 h =>
  fst (kPick h v115 (.bool true) v117) fun v118 h =>
  some (.nrm, [], [v1, v2, v3, v6, v118], h)
def o189_a4 (cl : Handler) (N : Nat) (v1 v2 v3 v6 : AV) (h : AH) : Ans :=
  fst (kFldA h 2 v3) fun v105 h =>
  fst (kLd1 h v105) fun v106 h =>
  fst (kLenS h v106) fun v107 h =>
  fst (kArith h .gtr v107 (.int .i64 2000)) fun v108 h =>
  fgd (gdv false v108) (kFldA h 3 v3) h fun v110 h =>
  fgd (gdv false v108) (kLd1 h v110) h fun v111 h =>
  fgd (gdv false v108) (kLen h v111) h fun v112 h =>
  fgd (gdv false v108) (kArith h .gtr v112 (.int .i64 100)) h fun v113 h =>
  fst (kPick h v108 (.bool true) v113) fun v114 h =>
  fgd (gdv false v114) (kMov h v2) h fun v116 h =>
  o189_s6 cl N v1 v2 v3 v6 v114 v116 h
def o189_s7 (cl : Handler) (N : Nat) (v1 v2 v3 v6 v10 v11 v12 v163 v164 : AV) (h : AH) : Ans :=
  fst (kSt h 1 v164 v163) fun _ h =>
  some (.nrm, [], [v1, v2, v3, v6, .undef, .undef, v10, v11, v12], h)
def o189_s8 (cl : Handler) (N : Nat) (v1 v2 v3 v6 v10 v11 v12 v175 : AV) (h : AH) : Ans :=
  fst (kBuildSl h 2 1 [.int .i64 0, .nilsl] [(0, 2, v175)]) fun v176 h =>
  fst (kFldA h 1 v10) fun v177 h =>
  fst (kSt h 1 v177 v176) fun _ h =>
  some (.nrm, [], [v1, v2, v3, v6, .undef, .undef, v10, v11, v12], h)
def o189_s9 (cl : Handler) (N : Nat) (r : Nat) (c0 c1 c2 : Rec) (v1 v2 v3 v6 v10 v12 v13 v168 : AV) (h : AH) : Ans :=
  fdp h (kLdn h 2 v168) (rdK (rdv v168)) fun v169 c3 h =>
  fdp h (kLdn h 2 v13) (rdK (rdv v13)) fun v170 c4 h =>
  fde h (cl 198 [v169, v170] h) fun v171 c5 h =>
  fdp h (kMov h v171) .pure fun v165 c6 h =>
  fdp h (kExt h v165 0) .pure fun v172 c7 h =>
  fdp h (kExt h v165 1) .pure fun v173 c8 h =>
  fda (r + 9) h (alNew [.int .i64 0, .nilsl]) fun v16 c9 h =>
  fde h (kSt h 2 v16 v172) fun _ c10 h =>
  fdp h (kMov h v173) .pure fun v17 c11 h =>
  cond (fchk [c0, c1, c2, c3, c4, c5, c6, c7, c8, c9, c10, c11] [(1, 9), (3, 9), (4, 9)]) (fst (kLdn h 2 v16) fun v175 h =>
  o189_s8 cl N v1 v2 v3 v6 v10 v17 v12 v175 h) none
def o189_s10 (cl : Handler) (N : Nat) (v1 v3 v6 v10 v11 v12 v13 v147 v148 v149 : AV) (h : AH) : Ans :=
  fst (kSt h 2 v13 v147) fun _ h =>
  fst (kArith h .neq v149 (.int .i64 0)) fun v152 h =>
  fif v152 (
  fst (kBuild h [.int .i64 0, .nilsl] []) fun v153 h =>
  fst (kSt h 2 v6 v153) fun _ h =>
  some (.ret, [], [v1, v148, v3, v6, v148, v149, v10, v11, v12], h)) (
  fst (kUn h .not v11) fun v157 h =>
  fif v157 (
  some (.nrm, [], [v1, v148, v3, v6, .undef, .undef, v10, v11, v12], h)) (
  fst (kFldA h 1 v10) fun v158 h =>
  fst (kLd1 h v158) fun v159 h =>
  fst (kLen h v159) fun v160 h =>
  fst (kArith h .eql v160 (.int .i64 0)) fun v161 h =>
  fif v161 (
  fst (kLdn h 2 v13) fun v162 h =>
  fst (kBuildSl h 2 1 [.int .i64 0, .nilsl] [(0, 2, v162)]) fun v163 h =>
  fst (kFldA h 1 v10) fun v164 h =>
  o189_s7 cl N v1 v148 v3 v6 v10 v11 v12 v163 v164 h) (
  fdr h 12 fun r h =>
  fdp h (kFldA h 1 v10) .pure fun v166 c0 h =>
  fdp h (kLd1 h v166) (rdK (rdv v166)) fun v167 c1 h =>
  fdp h (kIdxA h 2 v167 (.int .i64 0)) .pure fun v168 c2 h =>
  o189_s9 cl N r c0 c1 c2 v1 v148 v3 v6 v10 v12 v13 v168 h)))
def o189_a5 (cl : Handler) (N : Nat) (v1 v2 v3 v6 v10 v11 v12 : AV) (h : AH) : Ans :=
  fst (kFldA h 3 v3) fun v138 h =>
  fst (kLd1 h v138) fun v139 h =>
  fst (kIdxA h 4 v139 v12) fun v141 h =>
  fst (kLdn h 4 v141) fun v142 h =>
  fst (kArith h .add v1 (.int .i64 1)) fun v144 h =>
  fst (cl 189 [v142, v144, v2] h) fun v146 h =>
  fst (kExt h v146 0) fun v147 h =>
  fst (kExt h v146 1) fun v148 h =>
  fst (kExt h v146 2) fun v149 h =>
  fst (kNew h [.int .i64 0, .nilsl]) fun v13 h =>
  o189_s10 cl N v1 v3 v6 v10 v11 v12 v13 v147 v148 v149 h
def o189_j6 (cl : Handler) (N : Nat) (x : AX) (v1 v2 v3 v6 v7 v8 v10 v11 v12 : AV) (h : AH) : Ans :=
  fxs x (fst (kArith h .add v12 (.int .i64 1)) fun v136 h =>
  some (.nrm, [v1, v2, v3, v6, v10, v11, v136], [v2, v6, v7, v8, v10, v11], h)) (fun j => some ((.exit j), [v1, v2, v3, v6, v10, v11, v12], [v2, v6, v7, v8, v10, v11], h)) (some (.ret, [v1, v2, v3, v6, v10, v11, v12], [v2, v6, v7, v8, v10, v11], h))
def o189_l7 (cl : Handler) (N : Nat) (v1 v2 v3 v6 v10 v11 v12 : AV) (h : AH) : Ans :=
  fst (kFldA h 3 v3) fun v131 h =>
  fst (kLd1 h v131) fun v132 h =>
  fst (kLen h v132) fun v133 h =>
  fst (kArith h .lss v12 v133) fun v134 h =>
  fif v134 (
  fjn (o189_a5 cl N v1 v2 v3 v6 v10 v11 v12 h) fun x vs h => o189_j6 cl N x (nthD vs 0) (nthD vs 1) (nthD vs 2) (nthD vs 3) (nthD vs 4) (nthD vs 5) (nthD vs 6) (nthD vs 7) (nthD vs 8) h) (
  some ((.exit 0), [v1, v2, v3, v6, v10, v11, v12], [v2, v6, .undef, .undef, v10, v11], h))
def o189_c8 (cl : Handler) (N : Nat) (v2 v6 v10 v11 : AV) (h : AH) : Ans :=
  fst (kUn h .not v11) fun v179 h =>
  fif v179 (
  fst (kBuild h [.int .i64 0, .nilsl] []) fun v180 h =>
  fst (kSt h 2 v6 v180) fun _ h =>
  fres (aresV h [.cell (v6) (some 2), .val (v2), .val ((.int .i64 5))]) h) (
  fst (kLdn h 2 v10) fun v182 h =>
  fst (kSt h 2 v6 v182) fun _ h =>
  fres (aresV h [.cell (v6) (some 2), .val (v2), .val ((.int .i64 0))]) h)
def o189_j9 (cl : Handler) (N : Nat) (x : AX) (v2 v6 v7 v8 v10 v11 : AV) (h : AH) : Ans :=
  fxs x (o189_c8 cl N v2 v6 v10 v11 h) (fun j => cond (Nat.beq j 0) (o189_c8 cl N v2 v6 v10 v11 h) (none)) (fres (aresV h [.cell (v6) (some 2), .val (v7), .val (v8)]) h)
def o189_j10 (cl : Handler) (N : Nat) (v1 v2 v3 v6 v118 : AV) (h : AH) : Ans :=
  fif v118 (
  fst (kBuild h [.int .i64 0, .nilsl] []) fun v119 h =>
  fst (kSt h 2 v6 v119) fun _ h =>
  fres (aresV h [.cell (v6) (some 2), .val (v2), .val ((.int .i64 2))]) h) (
  fst (kFldA h 2 v3) fun v121 h =>
  fst (kLd1 h v121) fun v122 h =>
  fst (cl 197 [v122] h) fun v123 h =>
  fst (kUn h .not v123) fun v124 h =>
  fif v124 (
  fst (kBuild h [.int .i64 0, .nilsl] []) fun v125 h =>
  fst (kSt h 2 v6 v125) fun _ h =>
  fres (aresV h [.cell (v6) (some 2), .val (v2), .val ((.int .i64 3))]) h) (
  fst (kFldA h 0 v3) fun v127 h =>
  fst (kLd1 h v127) fun v128 h =>
  fst (kBuild h [.int .i64 0, .nilsl] [(0, 1, v128)]) fun v129 h =>
  fst (kNew h [.int .i64 0, .nilsl]) fun v10 h =>
  fst (kSt h 2 v10 v129) fun _ h =>
  fjn (fiter (fun vs h => o189_l7 cl N (nthD vs 0) (nthD vs 1) (nthD vs 2) (nthD vs 3) (nthD vs 4) (nthD vs 5) (nthD vs 6) h) N [v1, v2, v3, v6, v10, (.bool true), (.int .i64 0)] h) fun x vs h => o189_j9 cl N x (nthD vs 0) (nthD vs 1) (nthD vs 2) (nthD vs 3) (nthD vs 4) (nthD vs 5) h))
def o189_j11 (cl : Handler) (N : Nat) (v1 v2 v3 v6 v102 : AV) (h : AH) : Ans :=
  fif v102 (
  fst (kBuild h [.int .i64 0, .nilsl] []) fun v103 h =>
  fst (kSt h 2 v6 v103) fun _ h =>
  fres (aresV h [.cell (v6) (some 2), .val (v2), .val ((.int .i64 1))]) h) (
  fjn (o189_a4 cl N v1 v2 v3 v6 h) fun _ vs h => o189_j10 cl N (nthD vs 0) (nthD vs 1) (nthD vs 2) (nthD vs 3) (nthD vs 4) h)
def o189_j12 (cl : Handler) (N : Nat) (v1 v2 v3 v6 v72 : AV) (h : AH) : Ans :=
  fif v72 (
  fst (kBuild h [.int .i64 0, .nilsl] []) fun v73 h =>
  fst (kSt h 2 v6 v73) fun _ h =>
  fres (aresV h [.cell (v6) (some 2), .val (v2), .val ((.int .i64 9))]) h) (
  fjn (o189_a3 cl N v1 v2 v3 v6 h) fun _ vs h => o189_j11 cl N (nthD vs 0) (nthD vs 1) (nthD vs 2) (nthD vs 3) (nthD vs 4) h)
def o189_j13 (cl : Handler) (N : Nat) (v1 v2 v3 v6 v9 v27 : AV) (h : AH) : Ans :=
  fif v27 (
  fst (kBuild h [.int .i64 0, .nilsl] []) fun v28 h =>
  fst (kSt h 2 v6 v28) fun _ h =>
  fres (aresV h [.cell (v6) (some 2), .val (v2), .val ((.int .i64 8))]) h) (
  fjn (o189_a2 cl N v1 v2 v3 v6 v9 h) fun _ vs h => o189_j12 cl N (nthD vs 0) (nthD vs 1) (nthD vs 2) (nthD vs 3) (nthD vs 4) h)
def o189 (cl : Handler) (N : Nat) (v0 v1 v2 : AV) (h : AH) : Ans :=
  fst (kBox h v0) fun v3 h =>
  fst (kNew h [.int .i64 0, .nilsl]) fun v6 h =>
  fst (kArith h .add v2 (.int .i64 1)) fun v19 h =>
  fst (kFldA h 0 v3) fun v20 h =>
  fst (kLd1 h v20) fun v21 h =>
  fst (kArith h .eql v21 (.int .i64 4)) fun v22 h =>
  fjn (o189_a1 cl N v1 v19 v3 v6 v22 h) fun _ vs h => o189_j13 cl N (nthD vs 0) (nthD vs 1) (nthD vs 2) (nthD vs 3) (nthD vs 4) (nthD vs 5) h
theorem o189_eq (cl : Handler) (N : Nat) (v0 v1 v2 : AV) (h : AH) : frun cl N S189 [v0, v1, v2] h = fans (o189 cl N v0 v1 v2 h) := by kernel_rfl
def w189 (N : Nat) : OF := fun cl args h => match args with
  | [v0, v1, v2] => fans (o189 cl N v0 v1 v2 h)
  | _ => none
theorem w189_ok (N : Nat) : OkF Tryz.prog 189 (w189 N) := .of (N := N) (S189_ok) fun cl args h r hr => by
  unfold w189 at hr
  split at hr
  · exact (o189_eq cl N _ _ _ _).trans hr
  · cases hr

/- widgetry/widgetryref24.Own -/
def S191.r0 : List AOpr := [
  q 1 (.box (x 0)),
  q 2 (.mov (.const (.int .i64 0))),
  q 3 (.mov (.const (.int .i64 0))),
  q 4 (.mov (.const (.bool false)))]
def S191.r1 : List (AOpr × Nat) := [
  (q 7 (.fldA 4 (x 1)), 0),
  (q 8 (.ld1 (x 7)), 1),
  (q 9 (.call (.const (.func (.func 52) [] [])) [.tmp 8, .const (.str [116, 117, 114, 110]), .const (.int .i64 0)]), 3),
  (q 10 (.fldA 4 (x 1)), 0),
  (q 11 (.ld1 (x 10)), 8),
  (q 12 (.call (.const (.func (.func 52) [] [])) [.tmp 11, .const (.str [115, 99, 97, 108, 101]), .const (.int .i64 1)]), 31),
  (q 5 (.mov (x 9)), 63),
  (q 6 (.mov (x 12)), 127)]
def S191.r2 : List AOpr := [
  q 13 (.mov (x 5)),
  q 14 (.mov (x 6)),
  q 15 (.mov (x 5)),
  q 16 (.arith .geq (x 15) (.const (.int .i64 0))),
  q 17 (.mov (x 16)),
  ⟨some 18, .mov (x 5), some (17, true)⟩,
  ⟨some 19, .arith .leq (x 18) (.const (.int .i64 3)), some (17, true)⟩,
  q 20 (.pick (x 17) (x 19) (.const (.bool false))),
  q 21 (.mov (x 20)),
  ⟨some 22, .mov (x 6), some (21, true)⟩,
  ⟨some 23, .arith .geq (x 22) (.const (.int .i64 1)), some (21, true)⟩,
  q 24 (.pick (x 21) (x 23) (.const (.bool false))),
  q 25 (.mov (x 24)),
  ⟨some 26, .mov (x 6), some (25, true)⟩,
  ⟨some 27, .arith .leq (x 26) (.const (.int .i64 16)), some (25, true)⟩,
  q 28 (.pick (x 25) (x 27) (.const (.bool false))),
  q 29 (.mov (x 28)),
  ⟨some 30, .mov (x 5), some (29, true)⟩,
  ⟨some 31, .arith .neq (x 30) (.const (.int .i64 0)), some (29, true)⟩,
  ⟨some 32, .mov (x 31), some (29, true)⟩,
  ⟨some 33, .mov (x 6), some (32, false)⟩,
  ⟨some 34, .arith .neq (x 33) (.const (.int .i64 1)), some (32, false)⟩,
  ⟨some 35, .pick (x 32) (.const (.bool true)) (x 34), some (29, true)⟩,
  q 36 (.pick (x 29) (x 35) (.const (.bool false))),
  q 2 (.mov (x 13)),
  q 3 (.mov (x 14)),
  q 4 (.mov (x 36))]
def S191 : SFn := ⟨37, [.tmp 2, .tmp 3, .tmp 4], .seq (.reg S191.r0) (.seq (.draw S191.r1) (.seq (.reg S191.r2) (.ret)))⟩
theorem S191_ok : EOk Tryz.prog 191 S191 := ⟨Tryz.f191, by kernel_rfl, by kernel_rfl, by decide, by kernel_rfl, its_nil (by kernel_rfl)⟩
def o191_s1 (cl : Handler) (N : Nat) (v6 v13 v14 v29 v30 : AV) (h : AH) : Ans :=
  fgd (gdv true v29) (kArith h .neq v30 (.int .i64 0)) h fun v31 h =>
  fgd (gdv true v29) (kMov h v31) h fun v32 h =>
  fgd (gdv false v32) (kMov h v6) h fun v33 h =>
  fgd (gdv false v32) (kArith h .neq v33 (.int .i64 1)) h fun v34 h =>
  fgd (gdv true v29) (kPick h v32 (.bool true) v34) h fun v35 h =>
  fst (kPick h v29 v35 (.bool false)) fun v36 h =>
  some (.nrm, [], [.tup [v13, v14, v36]], h)
def o191_s2 (cl : Handler) (N : Nat) (v5 v6 v13 v14 v16 : AV) (h : AH) : Ans :=
  fgd (gdv true v16) (kMov h v5) h fun v18 h =>
  fgd (gdv true v16) (kArith h .leq v18 (.int .i64 3)) h fun v19 h =>
  fst (kPick h v16 v19 (.bool false)) fun v20 h =>
  fgd (gdv true v20) (kMov h v6) h fun v22 h =>
  fgd (gdv true v20) (kArith h .geq v22 (.int .i64 1)) h fun v23 h =>
  fst (kPick h v20 v23 (.bool false)) fun v24 h =>
  fgd (gdv true v24) (kMov h v6) h fun v26 h =>
  fgd (gdv true v24) (kArith h .leq v26 (.int .i64 16)) h fun v27 h =>
  fst (kPick h v24 v27 (.bool false)) fun v28 h =>
  fgd (gdv true v28) (kMov h v5) h fun v30 h =>
  o191_s1 cl N v6 v13 v14 v28 v30 h
def o191 (cl : Handler) (N : Nat) (v0 : AV) (h : AH) : Ans :=
  fst (kBox h v0) fun v1 h =>
  fdr h 8 fun r h =>
  fdp h (kFldA h 4 v1) .pure fun v7 c0 h =>
  fdp h (kLd1 h v7) (rdK (rdv v7)) fun v8 c1 h =>
  fde h (cl 52 [v8, (.str [116, 117, 114, 110]), (.int .i64 0)] h) fun v9 c2 h =>
  fdp h (kFldA h 4 v1) .pure fun v10 c3 h =>
  fdp h (kLd1 h v10) (rdK (rdv v10)) fun v11 c4 h =>
  fde h (cl 52 [v11, (.str [115, 99, 97, 108, 101]), (.int .i64 1)] h) fun v12 c5 h =>
  fdp h (kMov h v9) .pure fun v5 c6 h =>
  fdp h (kMov h v12) .pure fun v6 c7 h =>
  cond (fchk [c0, c1, c2, c3, c4, c5, c6, c7] [(2, 4)]) (fst (kArith h .geq v5 (.int .i64 0)) fun v16 h =>
  o191_s2 cl N v5 v6 v5 v6 v16 h) none
theorem o191_eq (cl : Handler) (N : Nat) (v0 : AV) (h : AH) : frun cl N S191 [v0] h = fans (o191 cl N v0 h) := by kernel_rfl
def w191 (N : Nat) : OF := fun cl args h => match args with
  | [v0] => fans (o191 cl N v0 h)
  | _ => none
theorem w191_ok (N : Nat) : OkF Tryz.prog 191 (w191 N) := .of (N := N) (S191_ok) fun cl args h r hr => by
  unfold w191 at hr
  split at hr
  · exact (o191_eq cl N _ _).trans hr
  · cases hr

/- widgetry/view.Key -/
def S193.r0 : List AOpr := [
  q 2 (.mov (.const (.bool false)))]
def S193.r1 : List AOpr := [
  q 5 (.mov (x 0)),
  q 6 (.lenS (x 5)),
  q 7 (.mov (.const (.int .i64 0)))]
def S193.r2 : List AOpr := [
  q 8 (.arith .lss (x 7) (x 6))]
def S193.r3 : List AOpr := [
  q 9 (.mov (x 7)),
  q 3 (.mov (x 9))]
def S193.r4 : List AOpr := [
  q 10 (.mov (x 0)),
  q 11 (.mov (x 3)),
  q 12 (.idxS (x 10) (x 11)),
  q 4 (.mov (x 12))]
def S193.r5 : List AOpr := [
  q 13 (.mov (x 4)),
  q 14 (.arith .lss (x 13) (.const (.int .u8 97))),
  q 15 (.mov (x 14)),
  ⟨some 16, .mov (x 4), some (15, false)⟩,
  ⟨some 17, .arith .gtr (x 16) (.const (.int .u8 122)), some (15, false)⟩,
  q 18 (.pick (x 15) (.const (.bool true)) (x 17)),
  q 19 (.mov (x 18)),
  ⟨some 20, .mov (x 4), some (19, true)⟩,
  ⟨some 21, .arith .lss (x 20) (.const (.int .u8 65)), some (19, true)⟩,
  ⟨some 22, .mov (x 21), some (19, true)⟩,
  ⟨some 23, .mov (x 4), some (22, false)⟩,
  ⟨some 24, .arith .gtr (x 23) (.const (.int .u8 90)), some (22, false)⟩,
  ⟨some 25, .pick (x 22) (.const (.bool true)) (x 24), some (19, true)⟩,
  q 26 (.pick (x 19) (x 25) (.const (.bool false))),
  q 27 (.mov (x 26)),
  ⟨some 28, .mov (x 4), some (27, true)⟩,
  ⟨some 29, .arith .lss (x 28) (.const (.int .u8 48)), some (27, true)⟩,
  ⟨some 30, .mov (x 29), some (27, true)⟩,
  ⟨some 31, .mov (x 4), some (30, false)⟩,
  ⟨some 32, .arith .gtr (x 31) (.const (.int .u8 57)), some (30, false)⟩,
  ⟨some 33, .pick (x 30) (.const (.bool true)) (x 32), some (27, true)⟩,
  q 34 (.pick (x 27) (x 33) (.const (.bool false))),
  q 35 (.mov (x 34)),
  ⟨some 36, .mov (x 4), some (35, true)⟩,
  ⟨some 37, .arith .neq (x 36) (.const (.int .u8 45)), some (35, true)⟩,
  q 38 (.pick (x 35) (x 37) (.const (.bool false))),
  q 39 (.mov (x 38)),
  ⟨some 40, .mov (x 4), some (39, true)⟩,
  ⟨some 41, .arith .neq (x 40) (.const (.int .u8 95)), some (39, true)⟩,
  q 42 (.pick (x 39) (x 41) (.const (.bool false)))]
def S193.r6 : List AOpr := [
  q 2 (.mov (.const (.bool false)))]
def S193.r7 : List AOpr := [
  q 43 (.arith .add (x 7) (.const (.int .i64 1))),
  q 7 (.mov (x 43))]
def S193.r8 : List AOpr := [
  q 44 (.mov (x 0)),
  q 45 (.lenS (x 44)),
  q 46 (.arith .leq (x 45) (.const (.int .i64 24))),
  q 2 (.mov (x 46))]
def S193 : SFn := ⟨47, [.tmp 2], .seq (.reg S193.r0) (.seq (.seq (.reg S193.r1) (.block 0 (.loop [0, 6, 7] [0, 2] (.seq (.reg S193.r2) (.seq (.cond (x 8) (.skip) (.exit 0)) (.seq (.block 1 (.seq (.reg S193.r3) (.seq (.reg S193.r4) (.seq (.joinN [0, 6, 7, 42] (.reg S193.r5)) (.cond (x 42) (.seq (.reg S193.r6) (.ret)) (.skip)))))) (.reg S193.r7))))))) (.seq (.reg S193.r8) (.ret)))⟩
theorem S193_ok : EOk Tryz.prog 193 S193 := ⟨Tryz.f193, by kernel_rfl, by kernel_rfl, by decide, by kernel_rfl, its_nil (by kernel_rfl)⟩
def o193_s1 (cl : Handler) (N : Nat) (v0 v4 v6 v7 v35 v37 : AV) (h : AH) : Ans :=
  fst (kPick h v35 v37 (.bool false)) fun v38 h =>
  fgd (gdv true v38) (kMov h v4) h fun v40 h =>
  fgd (gdv true v38) (kArith h .neq v40 (.int .u8 95)) h fun v41 h =>
  fst (kPick h v38 v41 (.bool false)) fun v42 h =>
  some (.nrm, [], [v0, v6, v7, v42], h)
def o193_s2 (cl : Handler) (N : Nat) (v0 v4 v6 v7 v19 v25 : AV) (h : AH) : Ans :=
  fst (kPick h v19 v25 (.bool false)) fun v26 h =>
  fgd (gdv true v26) (kMov h v4) h fun v28 h =>
  fgd (gdv true v26) (kArith h .lss v28 (.int .u8 48)) h fun v29 h =>
  fgd (gdv true v26) (kMov h v29) h fun v30 h =>
  fgd (gdv false v30) (kMov h v4) h fun v31 h =>
  fgd (gdv false v30) (kArith h .gtr v31 (.int .u8 57)) h fun v32 h =>
  fgd (gdv true v26) (kPick h v30 (.bool true) v32) h fun v33 h =>
  fst (kPick h v26 v33 (.bool false)) fun v34 h =>
  fgd (gdv true v34) (kMov h v4) h fun v36 h =>
  fgd (gdv true v34) (kArith h .neq v36 (.int .u8 45)) h fun v37 h =>
  o193_s1 cl N v0 v4 v6 v7 v34 v37 h
def o193_a1 (cl : Handler) (N : Nat) (v0 v4 v6 v7 : AV) (h : AH) : Ans :=
  fst (kArith h .lss v4 (.int .u8 97)) fun v14 h =>
  fgd (gdv false v14) (kMov h v4) h fun v16 h =>
  fgd (gdv false v14) (kArith h .gtr v16 (.int .u8 122)) h fun v17 h =>
  fst (kPick h v14 (.bool true) v17) fun v18 h =>
  fgd (gdv true v18) (kMov h v4) h fun v20 h =>
  fgd (gdv true v18) (kArith h .lss v20 (.int .u8 65)) h fun v21 h =>
  fgd (gdv true v18) (kMov h v21) h fun v22 h =>
  fgd (gdv false v22) (kMov h v4) h fun v23 h =>
  fgd (gdv false v22) (kArith h .gtr v23 (.int .u8 90)) h fun v24 h =>
  fgd (gdv true v18) (kPick h v22 (.bool true) v24) h fun v25 h =>
  o193_s2 cl N v0 v4 v6 v7 v18 v25 h
def o193_j2 (cl : Handler) (N : Nat) (v0 v6 v7 v42 : AV) (h : AH) : Ans :=
  fif v42 (
  some (.ret, [v0, v6, v7], [v0, (.bool false)], h)) (
  fst (kArith h .add v7 (.int .i64 1)) fun v43 h =>
  some (.nrm, [v0, v6, v43], [v0, .undef], h))
def o193_l3 (cl : Handler) (N : Nat) (v0 v6 v7 : AV) (h : AH) : Ans :=
  fst (kArith h .lss v7 v6) fun v8 h =>
  fif v8 (
  fst (kIdxS h v0 v7) fun v12 h =>
  fjn (o193_a1 cl N v0 v12 v6 v7 h) fun _ vs h => o193_j2 cl N (nthD vs 0) (nthD vs 1) (nthD vs 2) (nthD vs 3) h) (
  some ((.exit 0), [v0, v6, v7], [v0, .undef], h))
def o193_c4 (cl : Handler) (N : Nat) (v0 : AV) (h : AH) : Ans :=
  fst (kLenS h v0) fun v45 h =>
  fst (kArith h .leq v45 (.int .i64 24)) fun v46 h =>
  some (.nrm, [], [v46], h)
def o193_j5 (cl : Handler) (N : Nat) (x : AX) (v0 v2 : AV) (h : AH) : Ans :=
  fxs x (o193_c4 cl N v0 h) (fun j => cond (Nat.beq j 0) (o193_c4 cl N v0 h) (none)) (some (.nrm, [], [v2], h))
def o193 (cl : Handler) (N : Nat) (v0 : AV) (h : AH) : Ans :=
  fst (kLenS h v0) fun v6 h =>
  fjn (fiter (fun vs h => o193_l3 cl N (nthD vs 0) (nthD vs 1) (nthD vs 2) h) N [v0, v6, (.int .i64 0)] h) fun x vs h => o193_j5 cl N x (nthD vs 0) (nthD vs 1) h
theorem o193_eq (cl : Handler) (N : Nat) (v0 : AV) (h : AH) : frun cl N S193 [v0] h = fans (o193 cl N v0 h) := by kernel_rfl
def w193 (N : Nat) : OF := fun cl args h => match args with
  | [v0] => fans (o193 cl N v0 h)
  | _ => none
theorem w193_ok (N : Nat) : OkF Tryz.prog 193 (w193 N) := .of (N := N) (S193_ok) fun cl args h r hr => by
  unfold w193 at hr
  split at hr
  · exact (o193_eq cl N _ _).trans hr
  · cases hr

def S194.z0 : List AV := [.str [], .int .i64 0, .int .i64 0, .str [], .nilsl]
/- widgetry/view.attributes -/
def S194.r0 : List AOpr := [
  q 2 (.mov (.const (.int .i64 0)))]
def S194.r1 : List AOpr := [
  q 6 (.mov (x 0)),
  q 7 (.len (x 6)),
  q 8 (.mov (.const (.int .i64 0)))]
def S194.r2 : List AOpr := [
  q 9 (.arith .lss (x 8) (x 7))]
def S194.r3 : List AOpr := [
  q 10 (.mov (x 8)),
  q 11 (.idxA 5 (x 6) (x 8)),
  q 12 (.ldn 5 (x 11)),
  q 4 (.new S194.z0),
  q 3 (.mov (x 10)),
  ⟨none, .st 5 (x 4) (x 12), none⟩]
def S194.r4 : List AOpr := [
  q 14 (.fldA 0 (x 4)),
  q 15 (.ld1 (x 14)),
  q 16 (.call (.const (.func (.func 201) [] [])) [.tmp 15]),
  q 17 (.un .not (x 16)),
  q 13 (.mov (x 17))]
def S194.r5 : List AOpr := [
  q 2 (.mov (.const (.int .i64 4)))]
def S194.r6 : List (AOpr × Nat) := [
  (q 19 (.mov (x 3)), 0),
  (q 20 (.arith .gtr (x 19) (.const (.int .i64 0))), 1),
  (q 21 (.mov (x 20)), 3),
  (⟨some 22, .mov (x 0), some (21, true)⟩, 7),
  (⟨some 23, .mov (x 3), some (21, true)⟩, 7),
  (⟨some 24, .arith .sub (x 23) (.const (.int .i64 1)), some (21, true)⟩, 23),
  (⟨some 25, .idxA 5 (x 22) (x 24), some (21, true)⟩, 63),
  (⟨some 26, .fldA 0 (x 25), some (21, true)⟩, 127),
  (⟨some 27, .ld1 (x 26), some (21, true)⟩, 255),
  (⟨some 28, .fldA 0 (x 4), some (21, true)⟩, 7),
  (⟨some 29, .ld1 (x 28), some (21, true)⟩, 519),
  (⟨some 30, .arith .geq (x 27) (x 29), some (21, true)⟩, 2047),
  (q 31 (.pick (x 21) (x 30) (.const (.bool false))), 4095),
  (q 18 (.mov (x 31)), 8191)]
def S194.r7 : List AOpr := [
  q 2 (.mov (.const (.int .i64 10)))]
def S194.r8 : List AOpr := [
  q 32 (.fldA 1 (x 4)),
  q 33 (.ldn 4 (x 32)),
  q 34 (.call (.const (.func (.func 202) [] [])) [.tmp 33]),
  q 5 (.mov (x 34))]
def S194.r9 : List AOpr := [
  q 35 (.mov (x 5)),
  q 36 (.arith .neq (x 35) (.const (.int .i64 0)))]
def S194.r10 : List AOpr := [
  q 37 (.mov (x 5)),
  q 2 (.mov (x 37))]
def S194.r11 : List AOpr := [
  q 38 (.arith .add (x 8) (.const (.int .i64 1))),
  q 8 (.mov (x 38))]
def S194.r12 : List AOpr := [
  q 2 (.mov (.const (.int .i64 0)))]
def S194 : SFn := ⟨39, [.tmp 2], .seq (.reg S194.r0) (.seq (.seq (.reg S194.r1) (.block 0 (.loop [0, 6, 7, 8] [2] (.seq (.reg S194.r2) (.seq (.cond (x 9) (.skip) (.exit 0)) (.seq (.block 1 (.seq (.reg S194.r3) (.seq (.block 2 (.seq (.reg S194.r4) (.cond (x 13) (.seq (.reg S194.r5) (.ret)) (.seq (.joinN [0, 4, 6, 7, 8, 18] (.draw S194.r6)) (.cond (x 18) (.seq (.reg S194.r7) (.ret)) (.skip)))))) (.seq (.reg S194.r8) (.seq (.reg S194.r9) (.cond (x 36) (.seq (.reg S194.r10) (.ret)) (.skip))))))) (.reg S194.r11))))))) (.seq (.reg S194.r12) (.ret)))⟩
theorem S194_ok : EOk Tryz.prog 194 S194 := ⟨Tryz.f194, by kernel_rfl, by kernel_rfl, by decide, by kernel_rfl, its_nil (by kernel_rfl)⟩
def o194_s1 (cl : Handler) (N : Nat) (c0 c1 c2 c3 c4 c5 c6 c7 c8 c9 : Rec) (v0 v4 v6 v7 v8 v21 v27 v28 : AV) (h : AH) : Ans :=
  fgq (gdv true v21) (fun k => fdp h (kLd1 h v28) (rdK (rdv v28)) k) h fun v29 c10 h =>
  fgq (gdv true v21) (fun k => fdp h (kArith h .geq v27 v29) .pure k) h fun v30 c11 h =>
  fdp h (kPick h v21 v30 (.bool false)) .pure fun v31 c12 h =>
  fdp h (kMov h v31) .pure fun v18 c13 h =>
  cond (fchk [c0, c1, c2, c3, c4, c5, c6, c7, c8, c9, c10, c11, c12, c13] []) (some (.nrm, [], [v0, v4, v6, v7, v8, v18], h)) none
def o194_a1 (cl : Handler) (N : Nat) (v0 v3 v4 v6 v7 v8 : AV) (h : AH) : Ans :=
  fdr h 14 fun r h =>
  fdp h (kMov h v3) .pure fun v19 c0 h =>
  fdp h (kArith h .gtr v19 (.int .i64 0)) .pure fun v20 c1 h =>
  fdp h (kMov h v20) .pure fun v21 c2 h =>
  fgq (gdv true v21) (fun k => fdp h (kMov h v0) .pure k) h fun v22 c3 h =>
  fgq (gdv true v21) (fun k => fdp h (kMov h v3) .pure k) h fun v23 c4 h =>
  fgq (gdv true v21) (fun k => fdp h (kArith h .sub v23 (.int .i64 1)) .pure k) h fun v24 c5 h =>
  fgq (gdv true v21) (fun k => fdp h (kIdxA h 5 v22 v24) .pure k) h fun v25 c6 h =>
  fgq (gdv true v21) (fun k => fdp h (kFldA h 0 v25) .pure k) h fun v26 c7 h =>
  fgq (gdv true v21) (fun k => fdp h (kLd1 h v26) (rdK (rdv v26)) k) h fun v27 c8 h =>
  fgq (gdv true v21) (fun k => fdp h (kFldA h 0 v4) .pure k) h fun v28 c9 h =>
  o194_s1 cl N c0 c1 c2 c3 c4 c5 c6 c7 c8 c9 v0 v4 v6 v7 v8 v21 v27 v28 h
def o194_j2 (cl : Handler) (N : Nat) (v0 v4 v6 v7 v8 v18 : AV) (h : AH) : Ans :=
  fif v18 (
  some (.ret, [v0, v6, v7, v8], [(.int .i64 10)], h)) (
  fst (kFldA h 1 v4) fun v32 h =>
  fst (kLdn h 4 v32) fun v33 h =>
  fst (cl 202 [v33] h) fun v34 h =>
  fst (kArith h .neq v34 (.int .i64 0)) fun v36 h =>
  fif v36 (
  some (.ret, [v0, v6, v7, v8], [v34], h)) (
  fst (kArith h .add v8 (.int .i64 1)) fun v38 h =>
  some (.nrm, [v0, v6, v7, v38], [.undef], h)))
def o194_l3 (cl : Handler) (N : Nat) (v0 v6 v7 v8 : AV) (h : AH) : Ans :=
  fst (kArith h .lss v8 v7) fun v9 h =>
  fif v9 (
  fst (kIdxA h 5 v6 v8) fun v11 h =>
  fst (kLdn h 5 v11) fun v12 h =>
  fst (kNew h S194.z0) fun v4 h =>
  fst (kSt h 5 v4 v12) fun _ h =>
  fst (kFldA h 0 v4) fun v14 h =>
  fst (kLd1 h v14) fun v15 h =>
  fst (cl 201 [v15] h) fun v16 h =>
  fst (kUn h .not v16) fun v17 h =>
  fif v17 (
  some (.ret, [v0, v6, v7, v8], [(.int .i64 4)], h)) (
  fjn (o194_a1 cl N v0 v8 v4 v6 v7 v8 h) fun _ vs h => o194_j2 cl N (nthD vs 0) (nthD vs 1) (nthD vs 2) (nthD vs 3) (nthD vs 4) (nthD vs 5) h)) (
  some ((.exit 0), [v0, v6, v7, v8], [.undef], h))
def o194_c4 (cl : Handler) (N : Nat) (h : AH) : Ans :=
  some (.nrm, [], [(.int .i64 0)], h)
def o194_j5 (cl : Handler) (N : Nat) (x : AX) (v2 : AV) (h : AH) : Ans :=
  fxs x (o194_c4 cl N h) (fun j => cond (Nat.beq j 0) (o194_c4 cl N h) (none)) (some (.nrm, [], [v2], h))
def o194 (cl : Handler) (N : Nat) (v0 : AV) (h : AH) : Ans :=
  fst (kLen h v0) fun v7 h =>
  fjn (fiter (fun vs h => o194_l3 cl N (nthD vs 0) (nthD vs 1) (nthD vs 2) (nthD vs 3) h) N [v0, v0, v7, (.int .i64 0)] h) fun x vs h => o194_j5 cl N x (nthD vs 0) h
theorem o194_eq (cl : Handler) (N : Nat) (v0 : AV) (h : AH) : frun cl N S194 [v0] h = fans (o194 cl N v0 h) := by kernel_rfl
def w194 (N : Nat) : OF := fun cl args h => match args with
  | [v0] => fans (o194 cl N v0 h)
  | _ => none
theorem w194_ok (N : Nat) : OkF Tryz.prog 194 (w194 N) := .of (N := N) (S194_ok) fun cl args h r hr => by
  unfold w194 at hr
  split at hr
  · exact (o194_eq cl N _ _).trans hr
  · cases hr

def S195.z0 : List AV := [.str [], .str [], .str [], .nilsl]
def S195.z1 : List AV := [.int .i64 0, .int .i64 0, .str [], .nilsl]
/- widgetry/view.actions -/
def S195.r0 : List AOpr := [
  q 2 (.mov (.const (.int .i64 0)))]
def S195.r1 : List AOpr := [
  q 8 (.mov (x 0)),
  q 9 (.len (x 8)),
  q 10 (.mov (.const (.int .i64 0)))]
def S195.r2 : List AOpr := [
  q 11 (.arith .lss (x 10) (x 9))]
def S195.r3 : List AOpr := [
  q 12 (.mov (x 10)),
  q 13 (.idxA 4 (x 8) (x 10)),
  q 14 (.ldn 4 (x 13)),
  q 4 (.new S195.z0),
  q 3 (.mov (x 12)),
  ⟨none, .st 4 (x 4) (x 14), none⟩]
def S195.r4 : List AOpr := [
  q 16 (.fldA 0 (x 4)),
  q 17 (.ld1 (x 16)),
  q 18 (.call (.const (.func (.func 201) [] [])) [.tmp 17]),
  q 19 (.un .not (x 18)),
  q 20 (.mov (x 19)),
  ⟨some 21, .fldA 2 (x 4), some (20, false)⟩,
  ⟨some 22, .ld1 (x 21), some (20, false)⟩,
  ⟨some 23, .call (.const (.func (.func 201) [] [])) [.tmp 22], some (20, false)⟩,
  ⟨some 24, .un .not (x 23), some (20, false)⟩,
  q 25 (.pick (x 20) (.const (.bool true)) (x 24)),
  q 15 (.mov (x 25))]
def S195.r5 : List AOpr := [
  q 2 (.mov (.const (.int .i64 4)))]
def S195.r6 : List (AOpr × Nat) := [
  (q 27 (.mov (x 3)), 0),
  (q 28 (.arith .gtr (x 27) (.const (.int .i64 0))), 1),
  (q 29 (.mov (x 28)), 3),
  (⟨some 30, .mov (x 0), some (29, true)⟩, 7),
  (⟨some 31, .mov (x 3), some (29, true)⟩, 7),
  (⟨some 32, .arith .sub (x 31) (.const (.int .i64 1)), some (29, true)⟩, 23),
  (⟨some 33, .idxA 4 (x 30) (x 32), some (29, true)⟩, 63),
  (⟨some 34, .fldA 0 (x 33), some (29, true)⟩, 127),
  (⟨some 35, .ld1 (x 34), some (29, true)⟩, 255),
  (⟨some 36, .fldA 0 (x 4), some (29, true)⟩, 7),
  (⟨some 37, .ld1 (x 36), some (29, true)⟩, 519),
  (⟨some 38, .arith .geq (x 35) (x 37), some (29, true)⟩, 2047),
  (q 39 (.pick (x 29) (x 38) (.const (.bool false))), 4095),
  (q 26 (.mov (x 39)), 8191)]
def S195.r7 : List AOpr := [
  q 2 (.mov (.const (.int .i64 10)))]
def S195.r8 : List AOpr := [
  q 41 (.fldA 1 (x 4)),
  q 42 (.ld1 (x 41)),
  q 43 (.lenS (x 42)),
  q 44 (.arith .gtr (x 43) (.const (.int .i64 400))),
  q 45 (.mov (x 44)),
  ⟨some 46, .fldA 3 (x 4), some (45, false)⟩,
  ⟨some 47, .ld1 (x 46), some (45, false)⟩,
  ⟨some 48, .len (x 47), some (45, false)⟩,
  ⟨some 49, .arith .gtr (x 48) (.const (.int .i64 100)), some (45, false)⟩,
  q 50 (.pick (x 45) (.const (.bool true)) (x 49)),
  q 40 (.mov (x 50))]
def S195.r9 : List AOpr := [
  q 2 (.mov (.const (.int .i64 2)))]
def S195.r10 : List AOpr := [
  q 51 (.fldA 3 (x 4)),
  q 52 (.ld1 (x 51)),
  q 53 (.len (x 52)),
  q 54 (.mov (.const (.int .i64 0)))]
def S195.r11 : List AOpr := [
  q 55 (.arith .lss (x 54) (x 53))]
def S195.r12 : List AOpr := [
  q 56 (.idxA 4 (x 52) (x 54)),
  q 57 (.ldn 4 (x 56)),
  q 6 (.new S195.z1),
  ⟨none, .st 4 (x 6) (x 57), none⟩]
def S195.r13 : List AOpr := [
  q 58 (.ldn 4 (x 6)),
  q 59 (.call (.const (.func (.func 202) [] [])) [.tmp 58]),
  q 7 (.mov (x 59))]
def S195.r14 : List AOpr := [
  q 60 (.mov (x 7)),
  q 61 (.arith .neq (x 60) (.const (.int .i64 0)))]
def S195.r15 : List AOpr := [
  q 62 (.mov (x 7)),
  q 2 (.mov (x 62))]
def S195.r16 : List AOpr := [
  q 63 (.arith .add (x 54) (.const (.int .i64 1))),
  q 54 (.mov (x 63))]
def S195.r17 : List AOpr := [
  q 64 (.arith .add (x 10) (.const (.int .i64 1))),
  q 10 (.mov (x 64))]
def S195.r18 : List AOpr := [
  q 2 (.mov (.const (.int .i64 0)))]
def S195 : SFn := ⟨65, [.tmp 2], .seq (.reg S195.r0) (.seq (.seq (.reg S195.r1) (.block 0 (.loop [0, 8, 9, 10] [2] (.seq (.reg S195.r2) (.seq (.cond (x 11) (.skip) (.exit 0)) (.seq (.block 1 (.seq (.reg S195.r3) (.seq (.block 2 (.seq (.joinN [0, 3, 4, 8, 9, 10, 15] (.reg S195.r4)) (.cond (x 15) (.seq (.reg S195.r5) (.ret)) (.seq (.joinN [0, 4, 8, 9, 10, 26] (.draw S195.r6)) (.cond (x 26) (.seq (.reg S195.r7) (.ret)) (.seq (.joinN [0, 4, 8, 9, 10, 40] (.reg S195.r8)) (.cond (x 40) (.seq (.reg S195.r9) (.ret)) (.skip)))))))) (.seq (.reg S195.r10) (.block 3 (.loop [0, 8, 9, 10, 52, 53, 54] [0, 2, 8, 9, 10] (.seq (.reg S195.r11) (.seq (.cond (x 55) (.skip) (.exit 3)) (.seq (.block 4 (.seq (.reg S195.r12) (.seq (.reg S195.r13) (.seq (.reg S195.r14) (.cond (x 61) (.seq (.reg S195.r15) (.ret)) (.skip)))))) (.reg S195.r16)))))))))) (.reg S195.r17))))))) (.seq (.reg S195.r18) (.ret)))⟩
theorem S195_ok : EOk Tryz.prog 195 S195 := ⟨Tryz.f195, by kernel_rfl, by kernel_rfl, by decide, by kernel_rfl, its_nil (by kernel_rfl)⟩
def o195_a1 (cl : Handler) (N : Nat) (v0 v3 v4 v8 v9 v10 : AV) (h : AH) : Ans :=
  fst (kFldA h 0 v4) fun v16 h =>
  fst (kLd1 h v16) fun v17 h =>
  fst (cl 201 [v17] h) fun v18 h =>
  fst (kUn h .not v18) fun v19 h =>
  fgd (gdv false v19) (kFldA h 2 v4) h fun v21 h =>
  fgd (gdv false v19) (kLd1 h v21) h fun v22 h =>
  fgd (gdv false v19) (cl 201 [v22] h) h fun v23 h =>
  fgd (gdv false v19) (kUn h .not v23) h fun v24 h =>
  fst (kPick h v19 (.bool true) v24) fun v25 h =>
  some (.nrm, [], [v0, v3, v4, v8, v9, v10, v25], h)
def o195_s1 (cl : Handler) (N : Nat) (c0 c1 c2 c3 c4 c5 c6 c7 c8 c9 : Rec) (v0 v4 v8 v9 v10 v29 v35 v36 : AV) (h : AH) : Ans :=
  fgq (gdv true v29) (fun k => fdp h (kLd1 h v36) (rdK (rdv v36)) k) h fun v37 c10 h =>
  fgq (gdv true v29) (fun k => fdp h (kArith h .geq v35 v37) .pure k) h fun v38 c11 h =>
  fdp h (kPick h v29 v38 (.bool false)) .pure fun v39 c12 h =>
  fdp h (kMov h v39) .pure fun v26 c13 h =>
  cond (fchk [c0, c1, c2, c3, c4, c5, c6, c7, c8, c9, c10, c11, c12, c13] []) (some (.nrm, [], [v0, v4, v8, v9, v10, v26], h)) none
def o195_a2 (cl : Handler) (N : Nat) (v0 v3 v4 v8 v9 v10 : AV) (h : AH) : Ans :=
  fdr h 14 fun r h =>
  fdp h (kMov h v3) .pure fun v27 c0 h =>
  fdp h (kArith h .gtr v27 (.int .i64 0)) .pure fun v28 c1 h =>
  fdp h (kMov h v28) .pure fun v29 c2 h =>
  fgq (gdv true v29) (fun k => fdp h (kMov h v0) .pure k) h fun v30 c3 h =>
  fgq (gdv true v29) (fun k => fdp h (kMov h v3) .pure k) h fun v31 c4 h =>
  fgq (gdv true v29) (fun k => fdp h (kArith h .sub v31 (.int .i64 1)) .pure k) h fun v32 c5 h =>
  fgq (gdv true v29) (fun k => fdp h (kIdxA h 4 v30 v32) .pure k) h fun v33 c6 h =>
  fgq (gdv true v29) (fun k => fdp h (kFldA h 0 v33) .pure k) h fun v34 c7 h =>
  fgq (gdv true v29) (fun k => fdp h (kLd1 h v34) (rdK (rdv v34)) k) h fun v35 c8 h =>
  fgq (gdv true v29) (fun k => fdp h (kFldA h 0 v4) .pure k) h fun v36 c9 h =>
  o195_s1 cl N c0 c1 c2 c3 c4 c5 c6 c7 c8 c9 v0 v4 v8 v9 v10 v29 v35 v36 h
def o195_a3 (cl : Handler) (N : Nat) (v0 v4 v8 v9 v10 : AV) (h : AH) : Ans :=
  fst (kFldA h 1 v4) fun v41 h =>
  fst (kLd1 h v41) fun v42 h =>
  fst (kLenS h v42) fun v43 h =>
  fst (kArith h .gtr v43 (.int .i64 400)) fun v44 h =>
  fgd (gdv false v44) (kFldA h 3 v4) h fun v46 h =>
  fgd (gdv false v44) (kLd1 h v46) h fun v47 h =>
  fgd (gdv false v44) (kLen h v47) h fun v48 h =>
  fgd (gdv false v44) (kArith h .gtr v48 (.int .i64 100)) h fun v49 h =>
  fst (kPick h v44 (.bool true) v49) fun v50 h =>
  some (.nrm, [], [v0, v4, v8, v9, v10, v50], h)
def o195_l4 (cl : Handler) (N : Nat) (v0 v8 v9 v10 v52 v53 v54 : AV) (h : AH) : Ans :=
  fst (kArith h .lss v54 v53) fun v55 h =>
  fif v55 (
  fst (kIdxA h 4 v52 v54) fun v56 h =>
  fst (kLdn h 4 v56) fun v57 h =>
  fst (kNew h S195.z1) fun v6 h =>
  fst (kSt h 4 v6 v57) fun _ h =>
  fst (kLdn h 4 v6) fun v58 h =>
  fst (cl 202 [v58] h) fun v59 h =>
  fst (kArith h .neq v59 (.int .i64 0)) fun v61 h =>
  fif v61 (
  some (.ret, [v0, v8, v9, v10, v52, v53, v54], [v0, v59, v8, v9, v10], h)) (
  fst (kArith h .add v54 (.int .i64 1)) fun v63 h =>
  some (.nrm, [v0, v8, v9, v10, v52, v53, v63], [v0, .undef, v8, v9, v10], h))) (
  some ((.exit 3), [v0, v8, v9, v10, v52, v53, v54], [v0, .undef, v8, v9, v10], h))
def o195_c5 (cl : Handler) (N : Nat) (v0 v2 v8 v9 v10 : AV) (h : AH) : Ans :=
  fst (kArith h .add v10 (.int .i64 1)) fun v64 h =>
  some (.nrm, [v0, v8, v9, v64], [v2], h)
def o195_j6 (cl : Handler) (N : Nat) (x : AX) (v0 v2 v8 v9 v10 : AV) (h : AH) : Ans :=
  fxs x (o195_c5 cl N v0 v2 v8 v9 v10 h) (fun j => cond (Nat.beq j 3) (o195_c5 cl N v0 v2 v8 v9 v10 h) (cond (Nat.beq j 1) (fst (kArith h .add v10 (.int .i64 1)) fun v64 h =>
  some (.nrm, [v0, v8, v9, v64], [v2], h)) (some ((.exit j), [v0, v8, v9, v10], [v2], h)))) (some (.ret, [v0, v8, v9, v10], [v2], h))
def o195_j7 (cl : Handler) (N : Nat) (v0 v4 v8 v9 v10 v40 : AV) (h : AH) : Ans :=
  fif v40 (
  some (.ret, [v0, v8, v9, v10], [(.int .i64 2)], h)) (
  fst (kFldA h 3 v4) fun v51 h =>
  fst (kLd1 h v51) fun v52 h =>
  fst (kLen h v52) fun v53 h =>
  fjn (fiter (fun vs h => o195_l4 cl N (nthD vs 0) (nthD vs 1) (nthD vs 2) (nthD vs 3) (nthD vs 4) (nthD vs 5) (nthD vs 6) h) N [v0, v8, v9, v10, v52, v53, (.int .i64 0)] h) fun x vs h => o195_j6 cl N x (nthD vs 0) (nthD vs 1) (nthD vs 2) (nthD vs 3) (nthD vs 4) h)
def o195_j8 (cl : Handler) (N : Nat) (v0 v4 v8 v9 v10 v26 : AV) (h : AH) : Ans :=
  fif v26 (
  some (.ret, [v0, v8, v9, v10], [(.int .i64 10)], h)) (
  fjn (o195_a3 cl N v0 v4 v8 v9 v10 h) fun _ vs h => o195_j7 cl N (nthD vs 0) (nthD vs 1) (nthD vs 2) (nthD vs 3) (nthD vs 4) (nthD vs 5) h)
def o195_j9 (cl : Handler) (N : Nat) (v0 v3 v4 v8 v9 v10 v15 : AV) (h : AH) : Ans :=
  fif v15 (
  some (.ret, [v0, v8, v9, v10], [(.int .i64 4)], h)) (
  fjn (o195_a2 cl N v0 v3 v4 v8 v9 v10 h) fun _ vs h => o195_j8 cl N (nthD vs 0) (nthD vs 1) (nthD vs 2) (nthD vs 3) (nthD vs 4) (nthD vs 5) h)
def o195_l10 (cl : Handler) (N : Nat) (v0 v8 v9 v10 : AV) (h : AH) : Ans :=
  fst (kArith h .lss v10 v9) fun v11 h =>
  fif v11 (
  fst (kIdxA h 4 v8 v10) fun v13 h =>
  fst (kLdn h 4 v13) fun v14 h =>
  fst (kNew h S195.z0) fun v4 h =>
  fst (kSt h 4 v4 v14) fun _ h =>
  fjn (o195_a1 cl N v0 v10 v4 v8 v9 v10 h) fun _ vs h => o195_j9 cl N (nthD vs 0) (nthD vs 1) (nthD vs 2) (nthD vs 3) (nthD vs 4) (nthD vs 5) (nthD vs 6) h) (
  some ((.exit 0), [v0, v8, v9, v10], [.undef], h))
def o195_c11 (cl : Handler) (N : Nat) (h : AH) : Ans :=
  some (.nrm, [], [(.int .i64 0)], h)
def o195_j12 (cl : Handler) (N : Nat) (x : AX) (v2 : AV) (h : AH) : Ans :=
  fxs x (o195_c11 cl N h) (fun j => cond (Nat.beq j 0) (o195_c11 cl N h) (none)) (some (.nrm, [], [v2], h))
def o195 (cl : Handler) (N : Nat) (v0 : AV) (h : AH) : Ans :=
  fst (kLen h v0) fun v9 h =>
  fjn (fiter (fun vs h => o195_l10 cl N (nthD vs 0) (nthD vs 1) (nthD vs 2) (nthD vs 3) h) N [v0, v0, v9, (.int .i64 0)] h) fun x vs h => o195_j12 cl N x (nthD vs 0) h
theorem o195_eq (cl : Handler) (N : Nat) (v0 : AV) (h : AH) : frun cl N S195 [v0] h = fans (o195 cl N v0 h) := by kernel_rfl
def w195 (N : Nat) : OF := fun cl args h => match args with
  | [v0] => fans (o195 cl N v0 h)
  | _ => none
theorem w195_ok (N : Nat) : OkF Tryz.prog 195 (w195 N) := .of (N := N) (S195_ok) fun cl args h r hr => by
  unfold w195 at hr
  split at hr
  · exact (o195_eq cl N _ _).trans hr
  · cases hr

/- widgetry/widgetryref11.UTF8 -/
def S197.r0 : List AOpr := [
  q 2 (.mov (.const (.bool false)))]
def S197.r1 : List AOpr := [
  q 3 (.mov (x 0)),
  q 4 (.xo .s2r [.tmp 3]),
  q 5 (.xo .r2s [.tmp 4]),
  q 6 (.mov (x 0)),
  q 7 (.arith .eql (x 5) (x 6)),
  q 2 (.mov (x 7))]
def S197 : SFn := ⟨8, [.tmp 2], .seq (.reg S197.r0) (.seq (.reg S197.r1) (.ret))⟩
theorem S197_ok : EOk Tryz.prog 197 S197 := ⟨Tryz.f197, by kernel_rfl, by kernel_rfl, by decide, by kernel_rfl, its_nil (by kernel_rfl)⟩
def o197 (cl : Handler) (N : Nat) (v0 : AV) (h : AH) : Ans :=
  fst (kX h .s2r [v0]) fun v4 h =>
  fst (kX h .r2s [v4]) fun v5 h =>
  fst (kArith h .eql v5 v0) fun v7 h =>
  some (.nrm, [], [v7], h)
theorem o197_eq (cl : Handler) (N : Nat) (v0 : AV) (h : AH) : frun cl N S197 [v0] h = fans (o197 cl N v0 h) := by kernel_rfl
def w197 (N : Nat) : OF := fun cl args h => match args with
  | [v0] => fans (o197 cl N v0 h)
  | _ => none
theorem w197_ok (N : Nat) : OkF Tryz.prog 197 (w197 N) := .of (N := N) (S197_ok) fun cl args h r hr => by
  unfold w197 at hr
  split at hr
  · exact (o197_eq cl N _ _).trans hr
  · cases hr

/- widgetry/expr.Name -/
def S201.r0 : List AOpr := [
  q 2 (.mov (.const (.bool false)))]
def S201.r1 : List AOpr := [
  q 6 (.mov (x 0)),
  q 7 (.lenS (x 6)),
  q 8 (.arith .eql (x 7) (.const (.int .i64 0))),
  q 9 (.mov (x 8)),
  ⟨some 10, .mov (x 0), some (9, false)⟩,
  ⟨some 11, .lenS (x 10), some (9, false)⟩,
  ⟨some 12, .arith .gtr (x 11) (.const (.int .i64 24)), some (9, false)⟩,
  q 13 (.pick (x 9) (.const (.bool true)) (x 12))]
def S201.r2 : List AOpr := [
  q 2 (.mov (.const (.bool false)))]
def S201.r3 : List AOpr := [
  q 14 (.mov (x 0)),
  q 15 (.lenS (x 14)),
  q 16 (.mov (.const (.int .i64 0)))]
def S201.r4 : List AOpr := [
  q 17 (.arith .lss (x 16) (x 15))]
def S201.r5 : List AOpr := [
  q 18 (.mov (x 16)),
  q 3 (.mov (x 18))]
def S201.r6 : List AOpr := [
  q 19 (.mov (x 0)),
  q 20 (.mov (x 3)),
  q 21 (.idxS (x 19) (x 20)),
  q 4 (.mov (x 21))]
def S201.r7 : List AOpr := [
  q 22 (.mov (x 4)),
  q 23 (.arith .geq (x 22) (.const (.int .u8 97))),
  q 24 (.mov (x 23)),
  ⟨some 25, .mov (x 4), some (24, true)⟩,
  ⟨some 26, .arith .leq (x 25) (.const (.int .u8 122)), some (24, true)⟩,
  q 27 (.pick (x 24) (x 26) (.const (.bool false))),
  q 28 (.mov (x 27)),
  ⟨some 29, .mov (x 4), some (28, false)⟩,
  ⟨some 30, .arith .geq (x 29) (.const (.int .u8 65)), some (28, false)⟩,
  ⟨some 31, .mov (x 30), some (28, false)⟩,
  ⟨some 32, .mov (x 4), some (31, true)⟩,
  ⟨some 33, .arith .leq (x 32) (.const (.int .u8 90)), some (31, true)⟩,
  ⟨some 34, .pick (x 31) (x 33) (.const (.bool false)), some (28, false)⟩,
  q 35 (.pick (x 28) (.const (.bool true)) (x 34)),
  q 5 (.mov (x 35))]
def S201.r8 : List AOpr := [
  q 36 (.mov (x 5)),
  q 37 (.un .not (x 36)),
  q 38 (.mov (x 37)),
  ⟨some 39, .mov (x 3), some (38, true)⟩,
  ⟨some 40, .arith .eql (x 39) (.const (.int .i64 0)), some (38, true)⟩,
  ⟨some 41, .mov (x 40), some (38, true)⟩,
  ⟨some 42, .mov (x 4), some (41, false)⟩,
  ⟨some 43, .arith .lss (x 42) (.const (.int .u8 48)), some (41, false)⟩,
  ⟨some 44, .mov (x 43), some (41, false)⟩,
  ⟨some 45, .mov (x 4), some (44, false)⟩,
  ⟨some 46, .arith .gtr (x 45) (.const (.int .u8 57)), some (44, false)⟩,
  ⟨some 47, .pick (x 44) (.const (.bool true)) (x 46), some (41, false)⟩,
  ⟨some 48, .mov (x 47), some (41, false)⟩,
  ⟨some 49, .mov (x 4), some (48, true)⟩,
  ⟨some 50, .arith .neq (x 49) (.const (.int .u8 45)), some (48, true)⟩,
  ⟨some 51, .pick (x 48) (x 50) (.const (.bool false)), some (41, false)⟩,
  ⟨some 52, .mov (x 51), some (41, false)⟩,
  ⟨some 53, .mov (x 4), some (52, true)⟩,
  ⟨some 54, .arith .neq (x 53) (.const (.int .u8 95)), some (52, true)⟩,
  ⟨some 55, .pick (x 52) (x 54) (.const (.bool false)), some (41, false)⟩,
  ⟨some 56, .pick (x 41) (.const (.bool true)) (x 55), some (38, true)⟩,
  q 57 (.pick (x 38) (x 56) (.const (.bool false)))]
def S201.r9 : List AOpr := [
  q 2 (.mov (.const (.bool false)))]
def S201.r10 : List AOpr := [
  q 58 (.arith .add (x 16) (.const (.int .i64 1))),
  q 16 (.mov (x 58))]
def S201.r11 : List AOpr := [
  q 2 (.mov (.const (.bool true)))]
def S201 : SFn := ⟨59, [.tmp 2], .seq (.reg S201.r0) (.seq (.seq (.joinN [0, 13] (.reg S201.r1)) (.cond (x 13) (.seq (.reg S201.r2) (.ret)) (.skip))) (.seq (.seq (.reg S201.r3) (.block 0 (.loop [0, 15, 16] [2] (.seq (.reg S201.r4) (.seq (.cond (x 17) (.skip) (.exit 0)) (.seq (.block 1 (.seq (.reg S201.r5) (.seq (.reg S201.r6) (.seq (.joinN [0, 3, 4, 5, 15, 16] (.reg S201.r7)) (.seq (.joinN [0, 15, 16, 57] (.reg S201.r8)) (.cond (x 57) (.seq (.reg S201.r9) (.ret)) (.skip))))))) (.reg S201.r10))))))) (.seq (.reg S201.r11) (.ret))))⟩
theorem S201_ok : EOk Tryz.prog 201 S201 := ⟨Tryz.f201, by kernel_rfl, by kernel_rfl, by decide, by kernel_rfl, its_nil (by kernel_rfl)⟩
def o201_a1 (cl : Handler) (N : Nat) (v0 : AV) (h : AH) : Ans :=
  fst (kLenS h v0) fun v7 h =>
  fst (kArith h .eql v7 (.int .i64 0)) fun v8 h =>
  fgd (gdv false v8) (kMov h v0) h fun v10 h =>
  fgd (gdv false v8) (kLenS h v10) h fun v11 h =>
  fgd (gdv false v8) (kArith h .gtr v11 (.int .i64 24)) h fun v12 h =>
  fst (kPick h v8 (.bool true) v12) fun v13 h =>
  some (.nrm, [], [v0, v13], h)
def o201_s1 (cl : Handler) (N : Nat) (v0 v3 v4 v15 v16 v28 v34 : AV) (h : AH) : Ans :=
  fst (kPick h v28 (.bool true) v34) fun v35 h =>
  some (.nrm, [], [v0, v3, v4, v35, v15, v16], h)
def o201_a2 (cl : Handler) (N : Nat) (v0 v3 v4 v15 v16 : AV) (h : AH) : Ans :=
  fst (kArith h .geq v4 (.int .u8 97)) fun v23 h =>
  fgd (gdv true v23) (kMov h v4) h fun v25 h =>
  fgd (gdv true v23) (kArith h .leq v25 (.int .u8 122)) h fun v26 h =>
  fst (kPick h v23 v26 (.bool false)) fun v27 h =>
  fgd (gdv false v27) (kMov h v4) h fun v29 h =>
  fgd (gdv false v27) (kArith h .geq v29 (.int .u8 65)) h fun v30 h =>
  fgd (gdv false v27) (kMov h v30) h fun v31 h =>
  fgd (gdv true v31) (kMov h v4) h fun v32 h =>
  fgd (gdv true v31) (kArith h .leq v32 (.int .u8 90)) h fun v33 h =>
  fgd (gdv false v27) (kPick h v31 v33 (.bool false)) h fun v34 h =>
  o201_s1 cl N v0 v3 v4 v15 v16 v27 v34 h
def o201_s2 (cl : Handler) (N : Nat) (v0 v4 v15 v16 v38 v41 v47 : AV) (h : AH) : Ans :=
  fgd (gdv false v41) (kMov h v47) h fun v48 h =>
  fgd (gdv true v48) (kMov h v4) h fun v49 h =>
  fgd (gdv true v48) (kArith h .neq v49 (.int .u8 45)) h fun v50 h =>
  fgd (gdv false v41) (kPick h v48 v50 (.bool false)) h fun v51 h =>
  fgd (gdv false v41) (kMov h v51) h fun v52 h =>
  fgd (gdv true v52) (kMov h v4) h fun v53 h =>
  fgd (gdv true v52) (kArith h .neq v53 (.int .u8 95)) h fun v54 h =>
  fgd (gdv false v41) (kPick h v52 v54 (.bool false)) h fun v55 h =>
  fgd (gdv true v38) (kPick h v41 (.bool true) v55) h fun v56 h =>
  fst (kPick h v38 v56 (.bool false)) fun v57 h =>
  some (.nrm, [], [v0, v15, v16, v57], h)
def o201_a3 (cl : Handler) (N : Nat) (v0 v3 v4 v5 v15 v16 : AV) (h : AH) : Ans :=
  fst (kUn h .not v5) fun v37 h =>
  fgd (gdv true v37) (kMov h v3) h fun v39 h =>
  fgd (gdv true v37) (kArith h .eql v39 (.int .i64 0)) h fun v40 h =>
  fgd (gdv true v37) (kMov h v40) h fun v41 h =>
  fgd (gdv false v41) (kMov h v4) h fun v42 h =>
  fgd (gdv false v41) (kArith h .lss v42 (.int .u8 48)) h fun v43 h =>
  fgd (gdv false v41) (kMov h v43) h fun v44 h =>
  fgd (gdv false v44) (kMov h v4) h fun v45 h =>
  fgd (gdv false v44) (kArith h .gtr v45 (.int .u8 57)) h fun v46 h =>
  fgd (gdv false v41) (kPick h v44 (.bool true) v46) h fun v47 h =>
  o201_s2 cl N v0 v4 v15 v16 v37 v41 v47 h
def o201_j4 (cl : Handler) (N : Nat) (v0 v15 v16 v57 : AV) (h : AH) : Ans :=
  fif v57 (
  some (.ret, [v0, v15, v16], [(.bool false)], h)) (
  fst (kArith h .add v16 (.int .i64 1)) fun v58 h =>
  some (.nrm, [v0, v15, v58], [.undef], h))
def o201_j5 (cl : Handler) (N : Nat) (v0 v3 v4 v5 v15 v16 : AV) (h : AH) : Ans :=
  fjn (o201_a3 cl N v0 v3 v4 v5 v15 v16 h) fun _ vs h => o201_j4 cl N (nthD vs 0) (nthD vs 1) (nthD vs 2) (nthD vs 3) h
def o201_l6 (cl : Handler) (N : Nat) (v0 v15 v16 : AV) (h : AH) : Ans :=
  fst (kArith h .lss v16 v15) fun v17 h =>
  fif v17 (
  fst (kIdxS h v0 v16) fun v21 h =>
  fjn (o201_a2 cl N v0 v16 v21 v15 v16 h) fun _ vs h => o201_j5 cl N (nthD vs 0) (nthD vs 1) (nthD vs 2) (nthD vs 3) (nthD vs 4) (nthD vs 5) h) (
  some ((.exit 0), [v0, v15, v16], [.undef], h))
def o201_c7 (cl : Handler) (N : Nat) (h : AH) : Ans :=
  some (.nrm, [], [(.bool true)], h)
def o201_j8 (cl : Handler) (N : Nat) (x : AX) (v2 : AV) (h : AH) : Ans :=
  fxs x (o201_c7 cl N h) (fun j => cond (Nat.beq j 0) (o201_c7 cl N h) (none)) (some (.nrm, [], [v2], h))
def o201_j9 (cl : Handler) (N : Nat) (v0 v13 : AV) (h : AH) : Ans :=
  fif v13 (
  some (.nrm, [], [(.bool false)], h)) (
  fst (kLenS h v0) fun v15 h =>
  fjn (fiter (fun vs h => o201_l6 cl N (nthD vs 0) (nthD vs 1) (nthD vs 2) h) N [v0, v15, (.int .i64 0)] h) fun x vs h => o201_j8 cl N x (nthD vs 0) h)
def o201 (cl : Handler) (N : Nat) (v0 : AV) (h : AH) : Ans :=
  fjn (o201_a1 cl N v0 h) fun _ vs h => o201_j9 cl N (nthD vs 0) (nthD vs 1) h
theorem o201_eq (cl : Handler) (N : Nat) (v0 : AV) (h : AH) : frun cl N S201 [v0] h = fans (o201 cl N v0 h) := by kernel_rfl
def w201 (N : Nat) : OF := fun cl args h => match args with
  | [v0] => fans (o201 cl N v0 h)
  | _ => none
theorem w201_ok (N : Nat) : OkF Tryz.prog 201 (w201 N) := .of (N := N) (S201_ok) fun cl args h r hr => by
  unfold w201 at hr
  split at hr
  · exact (o201_eq cl N _ _).trans hr
  · cases hr

/- widgetry/expr.Check -/
def S202.r0 : List AOpr := [
  q 1 (.box (x 0)),
  q 2 (.mov (.const (.int .i64 0)))]
def S202.r1 : List AOpr := [
  q 6 (.ldn 4 (x 1)),
  q 7 (.call (.const (.func (.func 206) [] [])) [.tmp 6]),
  q 5 (.mov (x 7)),
  q 8 (.ext (x 5) 0),
  q 9 (.ext (x 5) 1),
  q 3 (.new [.int .i64 0, .nilsl]),
  ⟨none, .st 2 (x 3) (x 8), none⟩,
  q 4 (.mov (x 9))]
def S202.r2 : List AOpr := [
  q 10 (.mov (x 4)),
  q 2 (.mov (x 10))]
def S202 : SFn := ⟨11, [.tmp 2], .seq (.reg S202.r0) (.seq (.reg S202.r1) (.seq (.reg S202.r2) (.ret)))⟩
theorem S202_ok : EOk Tryz.prog 202 S202 := ⟨Tryz.f202, by kernel_rfl, by kernel_rfl, by decide, by kernel_rfl, its_nil (by kernel_rfl)⟩
def o202 (cl : Handler) (N : Nat) (v0 : AV) (h : AH) : Ans :=
  fst (kBox h v0) fun v1 h =>
  fst (kLdn h 4 v1) fun v6 h =>
  fst (cl 206 [v6] h) fun v7 h =>
  fst (kExt h v7 0) fun v8 h =>
  fst (kExt h v7 1) fun v9 h =>
  fst (kNew h [.int .i64 0, .nilsl]) fun v3 h =>
  fst (kSt h 2 v3 v8) fun _ h =>
  some (.nrm, [], [v9], h)
theorem o202_eq (cl : Handler) (N : Nat) (v0 : AV) (h : AH) : frun cl N S202 [v0] h = fans (o202 cl N v0 h) := by kernel_rfl
def w202 (N : Nat) : OF := fun cl args h => match args with
  | [v0] => fans (o202 cl N v0 h)
  | _ => none
theorem w202_ok (N : Nat) : OkF Tryz.prog 202 (w202 N) := .of (N := N) (S202_ok) fun cl args h r hr => by
  unfold w202 at hr
  split at hr
  · exact (o202_eq cl N _ _).trans hr
  · cases hr

/- widgetry/expr.TypeOf -/
def S206.r0 : List AOpr := [
  q 1 (.box (x 0)),
  q 2 (.new [.int .i64 0, .nilsl]),
  q 3 (.mov (.const (.int .i64 0)))]
def S206.r1 : List AOpr := [
  q 4 (.new [.int .i64 0]),
  ⟨none, .st 1 (x 4) (.const (.int .i64 0)), none⟩]
def S206.r2 : List AOpr := [
  q 8 (.ldn 4 (x 1)),
  q 9 (.call (.const (.func (.func 207) [] [])) [.tmp 8, .const (.int .i64 0), .tmp 4]),
  q 7 (.mov (x 9)),
  q 10 (.ext (x 7) 0),
  q 11 (.ext (x 7) 1),
  q 5 (.new [.int .i64 0, .nilsl]),
  ⟨none, .st 2 (x 5) (x 10), none⟩,
  q 6 (.mov (x 11))]
def S206.r3 : List AOpr := [
  q 12 (.mov (x 6)),
  q 13 (.arith .neq (x 12) (.const (.int .i64 0)))]
def S206.r4 : List AOpr := [
  q 14 (.build [.int .i64 0, .nilsl] []),
  q 15 (.mov (x 6)),
  ⟨none, .st 2 (x 2) (x 14), none⟩,
  q 3 (.mov (x 15))]
def S206.r5 : List AOpr := [
  q 16 (.ldn 2 (x 5)),
  q 17 (.call (.const (.func (.func 208) [] [])) [.tmp 16]),
  ⟨none, .st 2 (x 2) (x 17), none⟩,
  q 3 (.mov (.const (.int .i64 0)))]
def S206 : SFn := ⟨18, [.cell 2 (some 2), .tmp 3], .seq (.reg S206.r0) (.seq (.reg S206.r1) (.seq (.reg S206.r2) (.seq (.seq (.reg S206.r3) (.cond (x 13) (.seq (.reg S206.r4) (.ret)) (.skip))) (.seq (.reg S206.r5) (.ret)))))⟩
theorem S206_ok : EOk Tryz.prog 206 S206 := ⟨Tryz.f206, by kernel_rfl, by kernel_rfl, by decide, by kernel_rfl, its_nil (by kernel_rfl)⟩
def o206_s1 (cl : Handler) (N : Nat) (v2 v5 v11 : AV) (h : AH) : Ans :=
  fst (kArith h .neq v11 (.int .i64 0)) fun v13 h =>
  fif v13 (
  fst (kBuild h [.int .i64 0, .nilsl] []) fun v14 h =>
  fst (kSt h 2 v2 v14) fun _ h =>
  fres (aresV h [.cell (v2) (some 2), .val (v11)]) h) (
  fst (kLdn h 2 v5) fun v16 h =>
  fst (cl 208 [v16] h) fun v17 h =>
  fst (kSt h 2 v2 v17) fun _ h =>
  fres (aresV h [.cell (v2) (some 2), .val ((.int .i64 0))]) h)
def o206 (cl : Handler) (N : Nat) (v0 : AV) (h : AH) : Ans :=
  fst (kBox h v0) fun v1 h =>
  fst (kNew h [.int .i64 0, .nilsl]) fun v2 h =>
  fst (kNew h [.int .i64 0]) fun v4 h =>
  fst (kSt h 1 v4 (.int .i64 0)) fun _ h =>
  fst (kLdn h 4 v1) fun v8 h =>
  fst (cl 207 [v8, (.int .i64 0), v4] h) fun v9 h =>
  fst (kExt h v9 0) fun v10 h =>
  fst (kExt h v9 1) fun v11 h =>
  fst (kNew h [.int .i64 0, .nilsl]) fun v5 h =>
  fst (kSt h 2 v5 v10) fun _ h =>
  o206_s1 cl N v2 v5 v11 h
theorem o206_eq (cl : Handler) (N : Nat) (v0 : AV) (h : AH) : frun cl N S206 [v0] h = fans (o206 cl N v0 h) := by kernel_rfl
def w206 (N : Nat) : OF := fun cl args h => match args with
  | [v0] => fans (o206 cl N v0 h)
  | _ => none
theorem w206_ok (N : Nat) : OkF Tryz.prog 206 (w206 N) := .of (N := N) (S206_ok) fun cl args h r hr => by
  unfold w206 at hr
  split at hr
  · exact (o206_eq cl N _ _).trans hr
  · cases hr

def S207.z0 : List AV := [.int .i64 0, .int .i64 0, .str [], .nilsl]
/- widgetry/expr.check -/
def S207.r0 : List AOpr := [
  q 3 (.box (x 0)),
  q 6 (.new [.int .i64 0, .nilsl]),
  q 7 (.mov (.const (.int .i64 0)))]
def S207.r1 : List AOpr := [
  q 15 (.fldA 0 (x 3)),
  q 16 (.ld1 (x 15)),
  q 17 (.arith .eql (x 16) (.const (.int .i64 4))),
  q 18 (.mov (x 17)),
  ⟨some 19, .mov (x 1), some (18, true)⟩,
  ⟨some 20, .arith .geq (x 19) (.const (.int .i64 16)), some (18, true)⟩,
  q 21 (.pick (x 18) (x 20) (.const (.bool false)))]
def S207.r2 : List AOpr := [
  q 22 (.build [.int .i64 0, .nilsl] []),
  ⟨none, .st 2 (x 6) (x 22), none⟩,
  q 7 (.mov (.const (.int .i64 8)))]
def S207.r3 : List AOpr := [
  q 23 (.mov (x 2)),
  q 24 (.nilchk (x 23)),
  q 25 (.ld1 (x 24)),
  q 26 (.arith .add (x 25) (.const (.int .i64 1))),
  q 27 (.nilchk (x 23)),
  ⟨none, .st 1 (x 27) (x 26), none⟩]
def S207.r4 : List AOpr := [
  q 29 (.ldn 4 (x 3)),
  q 30 (.call (.const (.func (.func 209) [] [])) [.tmp 29]),
  q 31 (.un .not (x 30)),
  q 28 (.mov (x 31))]
def S207.r5 : List AOpr := [
  q 32 (.build [.int .i64 0, .nilsl] []),
  ⟨none, .st 2 (x 6) (x 32), none⟩,
  q 7 (.mov (.const (.int .i64 9)))]
def S207.r6 : List AOpr := [
  q 34 (.fldA 0 (x 3)),
  q 35 (.ld1 (x 34)),
  q 36 (.arith .eql (x 35) (.const (.int .i64 1))),
  q 37 (.mov (x 36)),
  ⟨some 38, .fldA 1 (x 3), some (37, true)⟩,
  ⟨some 39, .ld1 (x 38), some (37, true)⟩,
  ⟨some 40, .call (.const (.func (.func 210) [] [])) [.tmp 39], some (37, true)⟩,
  ⟨some 41, .un .not (x 40), some (37, true)⟩,
  q 42 (.pick (x 37) (x 41) (.const (.bool false))),
  q 33 (.mov (x 42))]
def S207.r7 : List AOpr := [
  q 43 (.fldA 0 (x 3)),
  q 44 (.ld1 (x 43)),
  q 45 (.arith .eql (x 44) (.const (.int .i64 2))),
  q 46 (.mov (x 45)),
  ⟨some 47, .fldA 1 (x 3), some (46, true)⟩,
  ⟨some 48, .ld1 (x 47), some (46, true)⟩,
  ⟨some 49, .arith .neq (x 48) (.const (.int .i64 0)), some (46, true)⟩,
  q 50 (.pick (x 46) (x 49) (.const (.bool false))),
  q 51 (.mov (x 50)),
  ⟨some 52, .fldA 1 (x 3), some (51, true)⟩,
  ⟨some 53, .ld1 (x 52), some (51, true)⟩,
  ⟨some 54, .arith .neq (x 53) (.const (.int .i64 1)), some (51, true)⟩,
  q 55 (.pick (x 51) (x 54) (.const (.bool false))),
  q 33 (.mov (x 55))]
def S207.r8 : List AOpr := [
  q 56 (.build [.int .i64 0, .nilsl] []),
  ⟨none, .st 2 (x 6) (x 56), none⟩,
  q 7 (.mov (.const (.int .i64 1)))]
def S207.r9 : List AOpr := [
  q 58 (.fldA 2 (x 3)),
  q 59 (.ld1 (x 58)),
  q 60 (.lenS (x 59)),
  q 61 (.arith .gtr (x 60) (.const (.int .i64 2000))),
  q 62 (.mov (x 61)),
  ⟨some 63, .fldA 3 (x 3), some (62, false)⟩,
  ⟨some 64, .ld1 (x 63), some (62, false)⟩,
  ⟨some 65, .len (x 64), some (62, false)⟩,
  ⟨some 66, .arith .gtr (x 65) (.const (.int .i64 100)), some (62, false)⟩,
  q 67 (.pick (x 62) (.const (.bool true)) (x 66)),
  q 68 (.mov (x 67)),
  ⟨some 69, .mov (x 2), some (68, false)⟩,
  ⟨some 70, .nilchk (x 69), some (68, false)⟩,
  ⟨some 71, .ld1 (x 70), some (68, false)⟩,
  ⟨some 72, .arith .gtr (x 71) (.const (.int .i64 1000)), some (68, false)⟩,
  q 73 (.pick (x 68) (.const (.bool true)) (x 72)),
  q 57 (.mov (x 73))]
def S207.r10 : List AOpr := [
  q 74 (.build [.int .i64 0, .nilsl] []),
  ⟨none, .st 2 (x 6) (x 74), none⟩,
  q 7 (.mov (.const (.int .i64 2)))]
def S207.r11 : List AOpr := [
  q 76 (.fldA 2 (x 3)),
  q 77 (.ld1 (x 76)),
  q 78 (.call (.const (.func (.func 211) [] [])) [.tmp 77]),
  q 79 (.un .not (x 78)),
  q 75 (.mov (x 79))]
def S207.r12 : List AOpr := [
  q 80 (.build [.int .i64 0, .nilsl] []),
  ⟨none, .st 2 (x 6) (x 80), none⟩,
  q 7 (.mov (.const (.int .i64 3)))]
def S207.r13 : List AOpr := [
  q 82 (.fldA 0 (x 3)),
  q 83 (.ld1 (x 82)),
  q 84 (.arith .neq (x 83) (.const (.int .i64 4))),
  q 81 (.mov (x 84))]
def S207.r14 : List AOpr := [
  q 85 (.fldA 0 (x 3)),
  q 86 (.ld1 (x 85)),
  q 87 (.build [.int .i64 0, .nilsl] [(0, 1, .tmp 86)]),
  ⟨none, .st 2 (x 6) (x 87), none⟩,
  q 7 (.mov (.const (.int .i64 0)))]
def S207.r15 : List AOpr := [
  q 8 (.mov (.const (.nilsl)))]
def S207.r16 : List AOpr := [
  q 88 (.fldA 3 (x 3)),
  q 89 (.ld1 (x 88)),
  q 90 (.len (x 89)),
  q 91 (.mov (.const (.int .i64 0)))]
def S207.r17 : List AOpr := [
  q 92 (.arith .lss (x 91) (x 90))]
def S207.r18 : List AOpr := [
  q 93 (.idxA 4 (x 89) (x 91)),
  q 94 (.ldn 4 (x 93)),
  q 10 (.new S207.z0),
  ⟨none, .st 4 (x 10) (x 94), none⟩]
def S207.r19 : List AOpr := [
  q 96 (.ldn 4 (x 10)),
  q 97 (.mov (x 1)),
  q 98 (.arith .add (x 97) (.const (.int .i64 1))),
  q 99 (.mov (x 2)),
  q 100 (.call (.const (.func (.func 207) [] [])) [.tmp 96, .tmp 98, .tmp 99]),
  q 95 (.mov (x 100)),
  q 101 (.ext (x 95) 0),
  q 102 (.ext (x 95) 1),
  q 11 (.new [.int .i64 0, .nilsl]),
  ⟨none, .st 2 (x 11) (x 101), none⟩,
  q 12 (.mov (x 102))]
def S207.r20 : List AOpr := [
  q 103 (.mov (x 12)),
  q 104 (.arith .neq (x 103) (.const (.int .i64 0)))]
def S207.r21 : List AOpr := [
  q 105 (.build [.int .i64 0, .nilsl] []),
  q 106 (.mov (x 12)),
  ⟨none, .st 2 (x 6) (x 105), none⟩,
  q 7 (.mov (x 106))]
def S207.r22 : List AOpr := [
  q 107 (.mov (x 8)),
  q 108 (.ldn 2 (x 11)),
  q 109 (.buildSl 2 1 [.int .i64 0, .nilsl] [(0, 2, .tmp 108)]),
  q 110 (.app 2 32 (x 107) (x 109)),
  q 8 (.mov (x 110))]
def S207.r23 : List AOpr := [
  q 111 (.arith .add (x 91) (.const (.int .i64 1))),
  q 91 (.mov (x 111))]
def S207.r24 : List AOpr := [
  q 113 (.mov (x 8)),
  q 114 (.call (.const (.func (.func 212) [] [])) [.tmp 113]),
  q 112 (.mov (x 114)),
  q 115 (.ext (x 112) 0),
  q 116 (.ext (x 112) 1),
  q 13 (.new [.int .i64 0, .nilsl]),
  ⟨none, .st 2 (x 13) (x 115), none⟩,
  q 14 (.mov (x 116))]
def S207.r25 : List AOpr := [
  q 117 (.mov (x 14)),
  q 118 (.un .not (x 117))]
def S207.r26 : List AOpr := [
  q 119 (.build [.int .i64 0, .nilsl] []),
  ⟨none, .st 2 (x 6) (x 119), none⟩,
  q 7 (.mov (.const (.int .i64 5)))]
def S207.r27 : List AOpr := [
  q 120 (.ldn 2 (x 13)),
  ⟨none, .st 2 (x 6) (x 120), none⟩,
  q 7 (.mov (.const (.int .i64 0)))]
def S207 : SFn := ⟨121, [.cell 6 (some 2), .tmp 7], .seq (.reg S207.r0) (.seq (.seq (.joinN [1, 2, 3, 6, 21] (.reg S207.r1)) (.cond (x 21) (.seq (.reg S207.r2) (.ret)) (.skip))) (.seq (.reg S207.r3) (.seq (.block 0 (.seq (.reg S207.r4) (.cond (x 28) (.seq (.reg S207.r5) (.ret)) (.seq (.seq (.joinN [1, 2, 3, 6, 33] (.reg S207.r6)) (.joinN [1, 2, 3, 6, 33] (.cond (x 33) (.skip) (.reg S207.r7)))) (.cond (x 33) (.seq (.reg S207.r8) (.ret)) (.seq (.joinN [1, 2, 3, 6, 57] (.reg S207.r9)) (.cond (x 57) (.seq (.reg S207.r10) (.ret)) (.seq (.reg S207.r11) (.cond (x 75) (.seq (.reg S207.r12) (.ret)) (.seq (.reg S207.r13) (.cond (x 81) (.seq (.reg S207.r14) (.ret)) (.skip)))))))))))) (.seq (.reg S207.r15) (.seq (.seq (.reg S207.r16) (.block 1 (.loop [1, 2, 6, 8, 89, 90, 91] [6, 7, 8] (.seq (.reg S207.r17) (.seq (.cond (x 92) (.skip) (.exit 1)) (.seq (.block 2 (.seq (.reg S207.r18) (.seq (.reg S207.r19) (.seq (.seq (.reg S207.r20) (.cond (x 104) (.seq (.reg S207.r21) (.ret)) (.skip))) (.reg S207.r22))))) (.reg S207.r23))))))) (.seq (.reg S207.r24) (.seq (.seq (.reg S207.r25) (.cond (x 118) (.seq (.reg S207.r26) (.ret)) (.skip))) (.seq (.reg S207.r27) (.ret)))))))))⟩
theorem S207_ok : EOk Tryz.prog 207 S207 := ⟨Tryz.f207, by kernel_rfl, by kernel_rfl, by decide, by kernel_rfl, its_nil (by kernel_rfl)⟩
def o207_a1 (cl : Handler) (N : Nat) (v1 v2 v3 v6 : AV) (h : AH) : Ans :=
  fst (kFldA h 0 v3) fun v15 h =>
  fst (kLd1 h v15) fun v16 h =>
  fst (kArith h .eql v16 (.int .i64 4)) fun v17 h =>
  fgd (gdv true v17) (kMov h v1) h fun v19 h =>
  fgd (gdv true v17) (kArith h .geq v19 (.int .i64 16)) h fun v20 h =>
  fst (kPick h v17 v20 (.bool false)) fun v21 h =>
  some (.nrm, [], [v1, v2, v3, v6, v21], h)
def o207_s1 (cl : Handler) (N : Nat) (v6 : AV) (h : AH) : Ans :=
  fres (aresV h [.cell (v6) (some 2), .val ((.int .i64 9))]) h
def o207_a2 (cl : Handler) (N : Nat) (v1 v2 v3 v6 : AV) (h : AH) : Ans :=
  fst (kFldA h 0 v3) fun v34 h =>
  fst (kLd1 h v34) fun v35 h =>
  fst (kArith h .eql v35 (.int .i64 1)) fun v36 h =>
  fgd (gdv true v36) (kFldA h 1 v3) h fun v38 h =>
  fgd (gdv true v36) (kLd1 h v38) h fun v39 h =>
  fgd (gdv true v36) (cl 210 [v39] h) h fun v40 h =>
  fgd (gdv true v36) (kUn h .not v40) h fun v41 h =>
  fst (kPick h v36 v41 (.bool false)) fun v42 h =>
  some (.nrm, [], [v1, v2, v3, v6, v42], h)
def o207_s2 (cl : Handler) (N : Nat) (v1 v2 v3 v6 v51 v54 : AV) (h : AH) : Ans :=
  fst (kPick h v51 v54 (.bool false)) fun v55 h =>
  some (.nrm, [], [v1, v2, v3, v6, v55], h)
def o207_a3 (cl : Handler) (N : Nat) (v1 v2 v3 v6 v33 : AV) (h : AH) : Ans :=
  fif v33 (
  some (.nrm, [], [v1, v2, v3, v6, v33], h)) (
  fst (kFldA h 0 v3) fun v43 h =>
  fst (kLd1 h v43) fun v44 h =>
  fst (kArith h .eql v44 (.int .i64 2)) fun v45 h =>
  fgd (gdv true v45) (kFldA h 1 v3) h fun v47 h =>
  fgd (gdv true v45) (kLd1 h v47) h fun v48 h =>
  fgd (gdv true v45) (kArith h .neq v48 (.int .i64 0)) h fun v49 h =>
  fst (kPick h v45 v49 (.bool false)) fun v50 h =>
  fgd (gdv true v50) (kFldA h 1 v3) h fun v52 h =>
  fgd (gdv true v50) (kLd1 h v52) h fun v53 h =>
  fgd (gdv true v50) (kArith h .neq v53 (.int .i64 1)) h fun v54 h =>
  o207_s2 cl N v1 v2 v3 v6 v50 v54 h)
def o207_s3 (cl : Handler) (N : Nat) (v1 v2 v3 v6 v68 v69 : AV) (h : AH) : Ans :=
  fgd (gdv false v68) (kNilchk h v69) h fun v70 h =>
  fgd (gdv false v68) (kLd1 h v70) h fun v71 h =>
  fgd (gdv false v68) (kArith h .gtr v71 (.int .i64 1000)) h fun v72 h =>
  fst (kPick h v68 (.bool true) v72) fun v73 h =>
  some (.nrm, [], [v1, v2, v3, v6, v73], h)
def o207_a4 (cl : Handler) (N : Nat) (v1 v2 v3 v6 : AV) (h : AH) : Ans :=
  fst (kFldA h 2 v3) fun v58 h =>
  fst (kLd1 h v58) fun v59 h =>
  fst (kLenS h v59) fun v60 h =>
  fst (kArith h .gtr v60 (.int .i64 2000)) fun v61 h =>
  fgd (gdv false v61) (kFldA h 3 v3) h fun v63 h =>
  fgd (gdv false v61) (kLd1 h v63) h fun v64 h =>
  fgd (gdv false v61) (kLen h v64) h fun v65 h =>
  fgd (gdv false v61) (kArith h .gtr v65 (.int .i64 100)) h fun v66 h =>
  fst (kPick h v61 (.bool true) v66) fun v67 h =>
  fgd (gdv false v67) (kMov h v2) h fun v69 h =>
  o207_s3 cl N v1 v2 v3 v6 v67 v69 h
def o207_s4 (cl : Handler) (N : Nat) (v6 v87 : AV) (h : AH) : Ans :=
  fst (kSt h 2 v6 v87) fun _ h =>
  fres (aresV h [.cell (v6) (some 2), .val ((.int .i64 0))]) h
def o207_s5 (cl : Handler) (N : Nat) (v1 v2 v6 v8 v89 v90 v91 v101 v102 : AV) (h : AH) : Ans :=
  fst (kNew h [.int .i64 0, .nilsl]) fun v11 h =>
  fst (kSt h 2 v11 v101) fun _ h =>
  fst (kArith h .neq v102 (.int .i64 0)) fun v104 h =>
  fif v104 (
  fst (kBuild h [.int .i64 0, .nilsl] []) fun v105 h =>
  fst (kSt h 2 v6 v105) fun _ h =>
  some (.ret, [v1, v2, v6, v8, v89, v90, v91], [v6, v102, v8], h)) (
  fst (kLdn h 2 v11) fun v108 h =>
  fst (kBuildSl h 2 1 [.int .i64 0, .nilsl] [(0, 2, v108)]) fun v109 h =>
  fst (kApp h 2 32 v8 v109) fun v110 h =>
  fst (kArith h .add v91 (.int .i64 1)) fun v111 h =>
  some (.nrm, [v1, v2, v6, v110, v89, v90, v111], [v6, .undef, v110], h))
def o207_l5 (cl : Handler) (N : Nat) (v1 v2 v6 v8 v89 v90 v91 : AV) (h : AH) : Ans :=
  fst (kArith h .lss v91 v90) fun v92 h =>
  fif v92 (
  fst (kIdxA h 4 v89 v91) fun v93 h =>
  fst (kLdn h 4 v93) fun v94 h =>
  fst (kNew h S207.z0) fun v10 h =>
  fst (kSt h 4 v10 v94) fun _ h =>
  fst (kLdn h 4 v10) fun v96 h =>
  fst (kArith h .add v1 (.int .i64 1)) fun v98 h =>
  fst (cl 207 [v96, v98, v2] h) fun v100 h =>
  fst (kExt h v100 0) fun v101 h =>
  fst (kExt h v100 1) fun v102 h =>
  o207_s5 cl N v1 v2 v6 v8 v89 v90 v91 v101 v102 h) (
  some ((.exit 1), [v1, v2, v6, v8, v89, v90, v91], [v6, .undef, v8], h))
def o207_c6 (cl : Handler) (N : Nat) (v6 v8 : AV) (h : AH) : Ans :=
  fst (cl 212 [v8] h) fun v114 h =>
  fst (kExt h v114 0) fun v115 h =>
  fst (kExt h v114 1) fun v116 h =>
  fst (kNew h [.int .i64 0, .nilsl]) fun v13 h =>
  fst (kSt h 2 v13 v115) fun _ h =>
  fst (kUn h .not v116) fun v118 h =>
  fif v118 (
  fst (kBuild h [.int .i64 0, .nilsl] []) fun v119 h =>
  fst (kSt h 2 v6 v119) fun _ h =>
  fres (aresV h [.cell (v6) (some 2), .val ((.int .i64 5))]) h) (
  fst (kLdn h 2 v13) fun v120 h =>
  fst (kSt h 2 v6 v120) fun _ h =>
  fres (aresV h [.cell (v6) (some 2), .val ((.int .i64 0))]) h)
def o207_j7 (cl : Handler) (N : Nat) (x : AX) (v6 v7 v8 : AV) (h : AH) : Ans :=
  fxs x (o207_c6 cl N v6 v8 h) (fun j => cond (Nat.beq j 1) (o207_c6 cl N v6 v8 h) (none)) (fres (aresV h [.cell (v6) (some 2), .val (v7)]) h)
def o207_s6 (cl : Handler) (N : Nat) (v1 v2 v6 v8 v89 v90 : AV) (h : AH) : Ans :=
  fjn (fiter (fun vs h => o207_l5 cl N (nthD vs 0) (nthD vs 1) (nthD vs 2) (nthD vs 3) (nthD vs 4) (nthD vs 5) (nthD vs 6) h) N [v1, v2, v6, v8, v89, v90, (.int .i64 0)] h) fun x vs h => o207_j7 cl N x (nthD vs 0) (nthD vs 1) (nthD vs 2) h
def o207_j8 (cl : Handler) (N : Nat) (v1 v2 v3 v6 v57 : AV) (h : AH) : Ans :=
  fif v57 (
  fst (kBuild h [.int .i64 0, .nilsl] []) fun v74 h =>
  fst (kSt h 2 v6 v74) fun _ h =>
  fres (aresV h [.cell (v6) (some 2), .val ((.int .i64 2))]) h) (
  fst (kFldA h 2 v3) fun v76 h =>
  fst (kLd1 h v76) fun v77 h =>
  fst (cl 211 [v77] h) fun v78 h =>
  fst (kUn h .not v78) fun v79 h =>
  fif v79 (
  fst (kBuild h [.int .i64 0, .nilsl] []) fun v80 h =>
  fst (kSt h 2 v6 v80) fun _ h =>
  fres (aresV h [.cell (v6) (some 2), .val ((.int .i64 3))]) h) (
  fst (kFldA h 0 v3) fun v82 h =>
  fst (kLd1 h v82) fun v83 h =>
  fst (kArith h .neq v83 (.int .i64 4)) fun v84 h =>
  fif v84 (
  fst (kFldA h 0 v3) fun v85 h =>
  fst (kLd1 h v85) fun v86 h =>
  fst (kBuild h [.int .i64 0, .nilsl] [(0, 1, v86)]) fun v87 h =>
  o207_s4 cl N v6 v87 h) (
  fst (kFldA h 3 v3) fun v88 h =>
  fst (kLd1 h v88) fun v89 h =>
  fst (kLen h v89) fun v90 h =>
  o207_s6 cl N v1 v2 v6 (.nilsl) v89 v90 h)))
def o207_j9 (cl : Handler) (N : Nat) (v1 v2 v3 v6 v33 : AV) (h : AH) : Ans :=
  fif v33 (
  fst (kBuild h [.int .i64 0, .nilsl] []) fun v56 h =>
  fst (kSt h 2 v6 v56) fun _ h =>
  fres (aresV h [.cell (v6) (some 2), .val ((.int .i64 1))]) h) (
  fjn (o207_a4 cl N v1 v2 v3 v6 h) fun _ vs h => o207_j8 cl N (nthD vs 0) (nthD vs 1) (nthD vs 2) (nthD vs 3) (nthD vs 4) h)
def o207_j10 (cl : Handler) (N : Nat) (v1 v2 v3 v6 v33 : AV) (h : AH) : Ans :=
  fjn (o207_a3 cl N v1 v2 v3 v6 v33 h) fun _ vs h => o207_j9 cl N (nthD vs 0) (nthD vs 1) (nthD vs 2) (nthD vs 3) (nthD vs 4) h
def o207_j11 (cl : Handler) (N : Nat) (v1 v2 v3 v6 v21 : AV) (h : AH) : Ans :=
  fif v21 (
  fst (kBuild h [.int .i64 0, .nilsl] []) fun v22 h =>
  fst (kSt h 2 v6 v22) fun _ h =>
  fres (aresV h [.cell (v6) (some 2), .val ((.int .i64 8))]) h) (
  fst (kNilchk h v2) fun v24 h =>
  fst (kLd1 h v24) fun v25 h =>
  fst (kArith h .add v25 (.int .i64 1)) fun v26 h =>
  fst (kNilchk h v2) fun v27 h =>
  fst (kSt h 1 v27 v26) fun _ h =>
  fst (kLdn h 4 v3) fun v29 h =>
  fst (cl 209 [v29] h) fun v30 h =>
  fst (kUn h .not v30) fun v31 h =>
  fif v31 (
  fst (kBuild h [.int .i64 0, .nilsl] []) fun v32 h =>
  fst (kSt h 2 v6 v32) fun _ h =>
  o207_s1 cl N v6 h) (
  fjn (o207_a2 cl N v1 v2 v3 v6 h) fun _ vs h => o207_j10 cl N (nthD vs 0) (nthD vs 1) (nthD vs 2) (nthD vs 3) (nthD vs 4) h))
def o207 (cl : Handler) (N : Nat) (v0 v1 v2 : AV) (h : AH) : Ans :=
  fst (kBox h v0) fun v3 h =>
  fst (kNew h [.int .i64 0, .nilsl]) fun v6 h =>
  fjn (o207_a1 cl N v1 v2 v3 v6 h) fun _ vs h => o207_j11 cl N (nthD vs 0) (nthD vs 1) (nthD vs 2) (nthD vs 3) (nthD vs 4) h
theorem o207_eq (cl : Handler) (N : Nat) (v0 v1 v2 : AV) (h : AH) : frun cl N S207 [v0, v1, v2] h = fans (o207 cl N v0 v1 v2 h) := by kernel_rfl
def w207 (N : Nat) : OF := fun cl args h => match args with
  | [v0, v1, v2] => fans (o207 cl N v0 v1 v2 h)
  | _ => none
theorem w207_ok (N : Nat) : OkF Tryz.prog 207 (w207 N) := .of (N := N) (S207_ok) fun cl args h r hr => by
  unfold w207 at hr
  split at hr
  · exact (o207_eq cl N _ _ _ _).trans hr
  · cases hr

/- widgetry/expr.copyType -/
def S208.r0 : List AOpr := [
  q 1 (.box (x 0)),
  q 2 (.new [.int .i64 0, .nilsl])]
def S208.r1 : List AOpr := [
  q 3 (.fldA 1 (x 1)),
  q 4 (.ld1 (x 3)),
  q 5 (.len (x 4)),
  q 6 (.arith .eql (x 5) (.const (.int .i64 0)))]
def S208.r2 : List AOpr := [
  q 7 (.fldA 0 (x 1)),
  q 8 (.ld1 (x 7)),
  q 9 (.build [.int .i64 0, .nilsl] [(0, 1, .tmp 8)]),
  ⟨none, .st 2 (x 2) (x 9), none⟩]
def S208.r3 : List AOpr := [
  q 10 (.fldA 1 (x 1)),
  q 11 (.ld1 (x 10)),
  q 12 (.idxA 2 (x 11) (.const (.int .i64 0))),
  q 13 (.ldn 2 (x 12)),
  q 14 (.call (.const (.func (.func 208) [] [])) [.tmp 13]),
  q 15 (.call (.const (.func (.func 213) [] [])) [.tmp 14]),
  ⟨none, .st 2 (x 2) (x 15), none⟩]
def S208 : SFn := ⟨16, [.cell 2 (some 2)], .seq (.reg S208.r0) (.seq (.seq (.reg S208.r1) (.cond (x 6) (.seq (.reg S208.r2) (.ret)) (.skip))) (.seq (.reg S208.r3) (.ret)))⟩
theorem S208_ok : EOk Tryz.prog 208 S208 := ⟨Tryz.f208, by kernel_rfl, by kernel_rfl, by decide, by kernel_rfl, its_nil (by kernel_rfl)⟩
def o208_s1 (cl : Handler) (N : Nat) (v2 v13 : AV) (h : AH) : Ans :=
  fst (cl 208 [v13] h) fun v14 h =>
  fst (cl 213 [v14] h) fun v15 h =>
  fst (kSt h 2 v2 v15) fun _ h =>
  fres (aresV h [.cell (v2) (some 2)]) h
def o208 (cl : Handler) (N : Nat) (v0 : AV) (h : AH) : Ans :=
  fst (kBox h v0) fun v1 h =>
  fst (kNew h [.int .i64 0, .nilsl]) fun v2 h =>
  fst (kFldA h 1 v1) fun v3 h =>
  fst (kLd1 h v3) fun v4 h =>
  fst (kLen h v4) fun v5 h =>
  fst (kArith h .eql v5 (.int .i64 0)) fun v6 h =>
  fif v6 (
  fst (kFldA h 0 v1) fun v7 h =>
  fst (kLd1 h v7) fun v8 h =>
  fst (kBuild h [.int .i64 0, .nilsl] [(0, 1, v8)]) fun v9 h =>
  fst (kSt h 2 v2 v9) fun _ h =>
  fres (aresV h [.cell (v2) (some 2)]) h) (
  fst (kFldA h 1 v1) fun v10 h =>
  fst (kLd1 h v10) fun v11 h =>
  fst (kIdxA h 2 v11 (.int .i64 0)) fun v12 h =>
  fst (kLdn h 2 v12) fun v13 h =>
  o208_s1 cl N v2 v13 h)
theorem o208_eq (cl : Handler) (N : Nat) (v0 : AV) (h : AH) : frun cl N S208 [v0] h = fans (o208 cl N v0 h) := by kernel_rfl
def w208 (N : Nat) : OF := fun cl args h => match args with
  | [v0] => fans (o208 cl N v0 h)
  | _ => none
theorem w208_ok (N : Nat) : OkF Tryz.prog 208 (w208 N) := .of (N := N) (S208_ok) fun cl args h r hr => by
  unfold w208 at hr
  split at hr
  · exact (o208_eq cl N _ _).trans hr
  · cases hr

/- widgetry/expr.fields -/
def S209.r0 : List AOpr := [
  q 1 (.box (x 0)),
  q 2 (.mov (.const (.bool false)))]
def S209.r1 : List AOpr := [
  q 3 (.fldA 0 (x 1)),
  q 4 (.ld1 (x 3))]
def S209.r2 : List AOpr := [
  q 6 (.arith .eql (x 4) (.const (.int .i64 1))),
  q 5 (.mov (x 6))]
def S209.r3 : List AOpr := [
  q 7 (.arith .eql (x 4) (.const (.int .i64 2))),
  q 5 (.mov (x 7))]
def S209.r4 : List AOpr := [
  q 8 (.fldA 2 (x 1)),
  q 9 (.ld1 (x 8)),
  q 10 (.arith .eql (x 9) (.const (.str []))),
  q 11 (.mov (x 10)),
  ⟨some 12, .fldA 3 (x 1), some (11, true)⟩,
  ⟨some 13, .ld1 (x 12), some (11, true)⟩,
  ⟨some 14, .len (x 13), some (11, true)⟩,
  ⟨some 15, .arith .eql (x 14) (.const (.int .i64 0)), some (11, true)⟩,
  q 16 (.pick (x 11) (x 15) (.const (.bool false))),
  q 2 (.mov (x 16))]
def S209.r5 : List AOpr := [
  q 18 (.arith .eql (x 4) (.const (.int .i64 3))),
  q 17 (.mov (x 18))]
def S209.r6 : List AOpr := [
  q 19 (.fldA 1 (x 1)),
  q 20 (.ld1 (x 19)),
  q 21 (.arith .eql (x 20) (.const (.int .i64 0))),
  q 22 (.mov (x 21)),
  ⟨some 23, .fldA 3 (x 1), some (22, true)⟩,
  ⟨some 24, .ld1 (x 23), some (22, true)⟩,
  ⟨some 25, .len (x 24), some (22, true)⟩,
  ⟨some 26, .arith .eql (x 25) (.const (.int .i64 0)), some (22, true)⟩,
  q 27 (.pick (x 22) (x 26) (.const (.bool false))),
  q 2 (.mov (x 27))]
def S209.r7 : List AOpr := [
  q 29 (.arith .eql (x 4) (.const (.int .i64 4))),
  q 28 (.mov (x 29))]
def S209.r8 : List AOpr := [
  q 30 (.fldA 1 (x 1)),
  q 31 (.ld1 (x 30)),
  q 32 (.arith .eql (x 31) (.const (.int .i64 0))),
  q 33 (.mov (x 32)),
  ⟨some 34, .fldA 2 (x 1), some (33, true)⟩,
  ⟨some 35, .ld1 (x 34), some (33, true)⟩,
  ⟨some 36, .arith .eql (x 35) (.const (.str [])), some (33, true)⟩,
  q 37 (.pick (x 33) (x 36) (.const (.bool false))),
  q 2 (.mov (x 37))]
def S209.r9 : List AOpr := [
  q 2 (.mov (.const (.bool false)))]
def S209 : SFn := ⟨38, [.tmp 2], .seq (.reg S209.r0) (.seq (.seq (.reg S209.r1) (.block 0 (.seq (.seq (.reg S209.r2) (.joinN [1, 4, 5] (.cond (x 5) (.skip) (.reg S209.r3)))) (.cond (x 5) (.seq (.joinN [2] (.reg S209.r4)) (.ret)) (.seq (.reg S209.r5) (.cond (x 17) (.seq (.joinN [2] (.reg S209.r6)) (.ret)) (.seq (.reg S209.r7) (.cond (x 28) (.seq (.joinN [2] (.reg S209.r8)) (.ret)) (.skip))))))))) (.seq (.reg S209.r9) (.ret)))⟩
theorem S209_ok : EOk Tryz.prog 209 S209 := ⟨Tryz.f209, by kernel_rfl, by kernel_rfl, by decide, by kernel_rfl, its_nil (by kernel_rfl)⟩
def o209_a1 (cl : Handler) (N : Nat) (v1 v4 v5 : AV) (h : AH) : Ans :=
  fif v5 (
  some (.nrm, [], [v1, v4, v5], h)) (
  fst (kArith h .eql v4 (.int .i64 2)) fun v7 h =>
  some (.nrm, [], [v1, v4, v7], h))
def o209_a2 (cl : Handler) (N : Nat) (v1 : AV) (h : AH) : Ans :=
  fst (kFldA h 2 v1) fun v8 h =>
  fst (kLd1 h v8) fun v9 h =>
  fst (kArith h .eql v9 (.str [])) fun v10 h =>
  fgd (gdv true v10) (kFldA h 3 v1) h fun v12 h =>
  fgd (gdv true v10) (kLd1 h v12) h fun v13 h =>
  fgd (gdv true v10) (kLen h v13) h fun v14 h =>
  fgd (gdv true v10) (kArith h .eql v14 (.int .i64 0)) h fun v15 h =>
  fst (kPick h v10 v15 (.bool false)) fun v16 h =>
  some (.nrm, [], [v16], h)
def o209_j3 (cl : Handler) (N : Nat) (v2 : AV) (h : AH) : Ans :=
  some (.nrm, [], [v2], h)
def o209_a4 (cl : Handler) (N : Nat) (v1 : AV) (h : AH) : Ans :=
  fst (kFldA h 1 v1) fun v19 h =>
  fst (kLd1 h v19) fun v20 h =>
  fst (kArith h .eql v20 (.int .i64 0)) fun v21 h =>
  fgd (gdv true v21) (kFldA h 3 v1) h fun v23 h =>
  fgd (gdv true v21) (kLd1 h v23) h fun v24 h =>
  fgd (gdv true v21) (kLen h v24) h fun v25 h =>
  fgd (gdv true v21) (kArith h .eql v25 (.int .i64 0)) h fun v26 h =>
  fst (kPick h v21 v26 (.bool false)) fun v27 h =>
  some (.nrm, [], [v27], h)
def o209_j5 (cl : Handler) (N : Nat) (v2 : AV) (h : AH) : Ans :=
  some (.nrm, [], [v2], h)
def o209_a6 (cl : Handler) (N : Nat) (v1 : AV) (h : AH) : Ans :=
  fst (kFldA h 1 v1) fun v30 h =>
  fst (kLd1 h v30) fun v31 h =>
  fst (kArith h .eql v31 (.int .i64 0)) fun v32 h =>
  fgd (gdv true v32) (kFldA h 2 v1) h fun v34 h =>
  fgd (gdv true v32) (kLd1 h v34) h fun v35 h =>
  fgd (gdv true v32) (kArith h .eql v35 (.str [])) h fun v36 h =>
  fst (kPick h v32 v36 (.bool false)) fun v37 h =>
  some (.nrm, [], [v37], h)
def o209_j7 (cl : Handler) (N : Nat) (v2 : AV) (h : AH) : Ans :=
  some (.nrm, [], [v2], h)
def o209_j8 (cl : Handler) (N : Nat) (v1 v4 v5 : AV) (h : AH) : Ans :=
  fif v5 (
  fjn (o209_a2 cl N v1 h) fun _ vs h => o209_j3 cl N (nthD vs 0) h) (
  fst (kArith h .eql v4 (.int .i64 3)) fun v18 h =>
  fif v18 (
  fjn (o209_a4 cl N v1 h) fun _ vs h => o209_j5 cl N (nthD vs 0) h) (
  fst (kArith h .eql v4 (.int .i64 4)) fun v29 h =>
  fif v29 (
  fjn (o209_a6 cl N v1 h) fun _ vs h => o209_j7 cl N (nthD vs 0) h) (
  some (.nrm, [], [(.bool false)], h))))
def o209 (cl : Handler) (N : Nat) (v0 : AV) (h : AH) : Ans :=
  fst (kBox h v0) fun v1 h =>
  fst (kFldA h 0 v1) fun v3 h =>
  fst (kLd1 h v3) fun v4 h =>
  fst (kArith h .eql v4 (.int .i64 1)) fun v6 h =>
  fjn (o209_a1 cl N v1 v4 v6 h) fun _ vs h => o209_j8 cl N (nthD vs 0) (nthD vs 1) (nthD vs 2) h
theorem o209_eq (cl : Handler) (N : Nat) (v0 : AV) (h : AH) : frun cl N S209 [v0] h = fans (o209 cl N v0 h) := by kernel_rfl
def w209 (N : Nat) : OF := fun cl args h => match args with
  | [v0] => fans (o209 cl N v0 h)
  | _ => none
theorem w209_ok (N : Nat) : OkF Tryz.prog 209 (w209 N) := .of (N := N) (S209_ok) fun cl args h r hr => by
  unfold w209 at hr
  split at hr
  · exact (o209_eq cl N _ _).trans hr
  · cases hr

/- unicode/utf8.ValidString -/
def S211.r0 : List AOpr := [
  q 2 (.mov (.const (.bool false)))]
def S211.r1 : List AOpr := [
  q 7 (.mov (x 0)),
  q 8 (.lenS (x 7)),
  q 9 (.arith .gtr (x 8) (.const (.int .i64 0)))]
def S211.r2 : List AOpr := [
  q 10 (.mov (x 0)),
  q 11 (.idxS (x 10) (.const (.int .i64 0))),
  q 3 (.mov (x 11))]
def S211.r3 : List AOpr := [
  q 12 (.mov (x 3)),
  q 13 (.arith .lss (x 12) (.const (.int .u8 128)))]
def S211.r4 : List AOpr := [
  q 14 (.mov (x 0)),
  q 15 (.slS (x 14) (some (.const (.int .i64 1))) none),
  q 0 (.mov (x 15))]
def S211.r5 : List AOpr := [
  q 16 (.mov (x 0)),
  q 17 (.lenS (x 16)),
  q 18 (.arith .gtr (x 17) (.const (.int .i64 8))),
  q 19 (.mov (x 18)),
  ⟨some 20, .mov (x 0), some (19, true)⟩,
  ⟨some 21, .call (.const (.func (.func 214) [] [])) [.tmp 20], some (19, true)⟩,
  ⟨some 22, .arith .and (x 21) (.const (.int .u64 9259542123273814144)), some (19, true)⟩,
  ⟨some 23, .arith .eql (x 22) (.const (.int .u64 0)), some (19, true)⟩,
  q 24 (.pick (x 19) (x 23) (.const (.bool false)))]
def S211.r6 : List AOpr := [
  q 25 (.mov (x 0)),
  q 26 (.slS (x 25) (some (.const (.int .i64 8))) none),
  q 0 (.mov (x 26))]
def S211.r7 : List (AOpr × Nat) := [
  (q 27 (.mov (x 0)), 0),
  (q 28 (.lenS (x 27)), 1),
  (q 29 (.arith .gtr (x 28) (.const (.int .i64 16))), 3),
  (q 30 (.mov (x 29)), 7),
  (⟨some 31, .mov (x 0), some (30, true)⟩, 15),
  (⟨some 32, .call (.const (.func (.func 214) [] [])) [.tmp 31], some (30, true)⟩, 31),
  (⟨some 33, .mov (x 0), some (30, true)⟩, 15),
  (⟨some 34, .slS (x 33) (some (.const (.int .i64 8))) none, some (30, true)⟩, 79),
  (⟨some 35, .call (.const (.func (.func 214) [] [])) [.tmp 34], some (30, true)⟩, 255),
  (⟨some 36, .arith .or (x 32) (x 35), some (30, true)⟩, 511),
  (⟨some 37, .arith .and (x 36) (.const (.int .u64 9259542123273814144)), some (30, true)⟩, 1023),
  (⟨some 38, .arith .eql (x 37) (.const (.int .u64 0)), some (30, true)⟩, 2047),
  (q 39 (.pick (x 30) (x 38) (.const (.bool false))), 4095)]
def S211.r8 : List AOpr := [
  q 40 (.mov (x 0)),
  q 41 (.slS (x 40) (some (.const (.int .i64 16))) none),
  q 0 (.mov (x 41))]
def S211.r9 : List (AOpr × Nat) := [
  (q 42 (.mov (x 0)), 0),
  (q 43 (.lenS (x 42)), 1),
  (q 44 (.arith .gtr (x 43) (.const (.int .i64 32))), 3),
  (q 45 (.mov (x 44)), 7),
  (⟨some 46, .mov (x 0), some (45, true)⟩, 15),
  (⟨some 47, .call (.const (.func (.func 214) [] [])) [.tmp 46], some (45, true)⟩, 31),
  (⟨some 48, .mov (x 0), some (45, true)⟩, 15),
  (⟨some 49, .slS (x 48) (some (.const (.int .i64 8))) none, some (45, true)⟩, 79),
  (⟨some 50, .call (.const (.func (.func 214) [] [])) [.tmp 49], some (45, true)⟩, 255),
  (⟨some 51, .arith .or (x 47) (x 50), some (45, true)⟩, 511),
  (⟨some 52, .mov (x 0), some (45, true)⟩, 15),
  (⟨some 53, .slS (x 52) (some (.const (.int .i64 16))) none, some (45, true)⟩, 1039),
  (⟨some 54, .call (.const (.func (.func 214) [] [])) [.tmp 53], some (45, true)⟩, 3583),
  (⟨some 55, .mov (x 0), some (45, true)⟩, 15),
  (⟨some 56, .slS (x 55) (some (.const (.int .i64 24))) none, some (45, true)⟩, 8207),
  (⟨some 57, .call (.const (.func (.func 214) [] [])) [.tmp 56], some (45, true)⟩, 32255),
  (⟨some 58, .arith .or (x 54) (x 57), some (45, true)⟩, 65023),
  (⟨some 59, .arith .or (x 51) (x 58), some (45, true)⟩, 131071),
  (⟨some 60, .arith .and (x 59) (.const (.int .u64 9259542123273814144)), some (45, true)⟩, 262143),
  (⟨some 61, .arith .eql (x 60) (.const (.int .u64 0)), some (45, true)⟩, 524287),
  (q 62 (.pick (x 45) (x 61) (.const (.bool false))), 1048575)]
def S211.r10 : List AOpr := [
  q 63 (.mov (x 0)),
  q 64 (.slS (x 63) (some (.const (.int .i64 32))) none),
  q 0 (.mov (x 64))]
def S211.r11 : List AOpr := [
  q 65 (.mov (x 3)),
  q 66 (.idxArrA 256 1 (.const (.gptr 1 0)) (x 65)),
  q 67 (.ld1 (x 66)),
  q 4 (.mov (x 67))]
def S211.r12 : List AOpr := [
  q 68 (.mov (x 4)),
  q 69 (.arith .and (x 68) (.const (.int .u8 7))),
  q 70 (.convI .i64 (x 69)),
  q 5 (.mov (x 70))]
def S211.r13 : List AOpr := [
  q 71 (.mov (x 4)),
  q 72 (.arith .shr (x 71) (.const (.int .u64 4))),
  q 73 (.idxArrA 16 2 (.const (.gptr 2 0)) (x 72)),
  q 74 (.ldn 2 (x 73)),
  q 6 (.new [.int .u8 0, .int .u8 0]),
  ⟨none, .st 2 (x 6) (x 74), none⟩]
def S211.r14 : List AOpr := [
  q 75 (.mov (x 5))]
def S211.r15 : List AOpr := [
  q 77 (.arith .eql (x 75) (.const (.int .i64 2))),
  q 76 (.mov (x 77))]
def S211.r16 : List (AOpr × Nat) := [
  (q 78 (.mov (x 0)), 0),
  (q 79 (.lenS (x 78)), 1),
  (q 80 (.arith .lss (x 79) (.const (.int .i64 2))), 3),
  (q 81 (.mov (x 80)), 7),
  (⟨some 82, .mov (x 0), some (81, false)⟩, 15),
  (⟨some 83, .idxS (x 82) (.const (.int .i64 1)), some (81, false)⟩, 31),
  (⟨some 84, .fldA 0 (x 6), some (81, false)⟩, 15),
  (⟨some 85, .ld1 (x 84), some (81, false)⟩, 79),
  (⟨some 86, .arith .lss (x 83) (x 85), some (81, false)⟩, 255),
  (q 87 (.pick (x 81) (.const (.bool true)) (x 86)), 511),
  (q 88 (.mov (x 87)), 1023),
  (⟨some 89, .fldA 1 (x 6), some (88, false)⟩, 2047),
  (⟨some 90, .ld1 (x 89), some (88, false)⟩, 4095),
  (⟨some 91, .mov (x 0), some (88, false)⟩, 2047),
  (⟨some 92, .idxS (x 91) (.const (.int .i64 1)), some (88, false)⟩, 10239),
  (⟨some 93, .arith .lss (x 90) (x 92), some (88, false)⟩, 32767),
  (q 94 (.pick (x 88) (.const (.bool true)) (x 93)), 65535)]
def S211.r17 : List AOpr := [
  q 2 (.mov (.const (.bool false)))]
def S211.r18 : List AOpr := [
  q 95 (.mov (x 0)),
  q 96 (.slS (x 95) (some (.const (.int .i64 2))) none),
  q 0 (.mov (x 96))]
def S211.r19 : List AOpr := [
  q 98 (.arith .eql (x 75) (.const (.int .i64 3))),
  q 97 (.mov (x 98))]
def S211.r20 : List (AOpr × Nat) := [
  (q 99 (.mov (x 0)), 0),
  (q 100 (.lenS (x 99)), 1),
  (q 101 (.arith .lss (x 100) (.const (.int .i64 3))), 3),
  (q 102 (.mov (x 101)), 7),
  (⟨some 103, .mov (x 0), some (102, false)⟩, 15),
  (⟨some 104, .idxS (x 103) (.const (.int .i64 1)), some (102, false)⟩, 31),
  (⟨some 105, .fldA 0 (x 6), some (102, false)⟩, 15),
  (⟨some 106, .ld1 (x 105), some (102, false)⟩, 79),
  (⟨some 107, .arith .lss (x 104) (x 106), some (102, false)⟩, 255),
  (q 108 (.pick (x 102) (.const (.bool true)) (x 107)), 511),
  (q 109 (.mov (x 108)), 1023),
  (⟨some 110, .fldA 1 (x 6), some (109, false)⟩, 2047),
  (⟨some 111, .ld1 (x 110), some (109, false)⟩, 4095),
  (⟨some 112, .mov (x 0), some (109, false)⟩, 2047),
  (⟨some 113, .idxS (x 112) (.const (.int .i64 1)), some (109, false)⟩, 10239),
  (⟨some 114, .arith .lss (x 111) (x 113), some (109, false)⟩, 32767),
  (q 115 (.pick (x 109) (.const (.bool true)) (x 114)), 65535),
  (q 116 (.mov (x 115)), 131071),
  (⟨some 117, .mov (x 0), some (116, false)⟩, 262143),
  (⟨some 118, .idxS (x 117) (.const (.int .i64 2)), some (116, false)⟩, 524287),
  (⟨some 119, .arith .lss (x 118) (.const (.int .u8 128)), some (116, false)⟩, 1048575),
  (q 120 (.pick (x 116) (.const (.bool true)) (x 119)), 2097151),
  (q 121 (.mov (x 120)), 4194303),
  (⟨some 122, .mov (x 0), some (121, false)⟩, 8388607),
  (⟨some 123, .idxS (x 122) (.const (.int .i64 2)), some (121, false)⟩, 16777215),
  (⟨some 124, .arith .lss (.const (.int .u8 191)) (x 123), some (121, false)⟩, 33554431),
  (q 125 (.pick (x 121) (.const (.bool true)) (x 124)), 67108863)]
def S211.r21 : List AOpr := [
  q 2 (.mov (.const (.bool false)))]
def S211.r22 : List AOpr := [
  q 126 (.mov (x 0)),
  q 127 (.slS (x 126) (some (.const (.int .i64 3))) none),
  q 0 (.mov (x 127))]
def S211.r23 : List AOpr := [
  q 129 (.arith .eql (x 75) (.const (.int .i64 4))),
  q 128 (.mov (x 129))]
def S211.r24 : List (AOpr × Nat) := [
  (q 130 (.mov (x 0)), 0),
  (q 131 (.lenS (x 130)), 1),
  (q 132 (.arith .lss (x 131) (.const (.int .i64 4))), 3),
  (q 133 (.mov (x 132)), 7),
  (⟨some 134, .mov (x 0), some (133, false)⟩, 15),
  (⟨some 135, .idxS (x 134) (.const (.int .i64 1)), some (133, false)⟩, 31),
  (⟨some 136, .fldA 0 (x 6), some (133, false)⟩, 15),
  (⟨some 137, .ld1 (x 136), some (133, false)⟩, 79),
  (⟨some 138, .arith .lss (x 135) (x 137), some (133, false)⟩, 255),
  (q 139 (.pick (x 133) (.const (.bool true)) (x 138)), 511),
  (q 140 (.mov (x 139)), 1023),
  (⟨some 141, .fldA 1 (x 6), some (140, false)⟩, 2047),
  (⟨some 142, .ld1 (x 141), some (140, false)⟩, 4095),
  (⟨some 143, .mov (x 0), some (140, false)⟩, 2047),
  (⟨some 144, .idxS (x 143) (.const (.int .i64 1)), some (140, false)⟩, 10239),
  (⟨some 145, .arith .lss (x 142) (x 144), some (140, false)⟩, 32767),
  (q 146 (.pick (x 140) (.const (.bool true)) (x 145)), 65535),
  (q 147 (.mov (x 146)), 131071),
  (⟨some 148, .mov (x 0), some (147, false)⟩, 262143),
  (⟨some 149, .idxS (x 148) (.const (.int .i64 2)), some (147, false)⟩, 524287),
  (⟨some 150, .arith .lss (x 149) (.const (.int .u8 128)), some (147, false)⟩, 1048575),
  (q 151 (.pick (x 147) (.const (.bool true)) (x 150)), 2097151),
  (q 152 (.mov (x 151)), 4194303),
  (⟨some 153, .mov (x 0), some (152, false)⟩, 8388607),
  (⟨some 154, .idxS (x 153) (.const (.int .i64 2)), some (152, false)⟩, 16777215),
  (⟨some 155, .arith .lss (.const (.int .u8 191)) (x 154), some (152, false)⟩, 33554431),
  (q 156 (.pick (x 152) (.const (.bool true)) (x 155)), 67108863),
  (q 157 (.mov (x 156)), 134217727),
  (⟨some 158, .mov (x 0), some (157, false)⟩, 268435455),
  (⟨some 159, .idxS (x 158) (.const (.int .i64 3)), some (157, false)⟩, 536870911),
  (⟨some 160, .arith .lss (x 159) (.const (.int .u8 128)), some (157, false)⟩, 1073741823),
  (q 161 (.pick (x 157) (.const (.bool true)) (x 160)), 2147483647),
  (q 162 (.mov (x 161)), 4294967295),
  (⟨some 163, .mov (x 0), some (162, false)⟩, 8589934591),
  (⟨some 164, .idxS (x 163) (.const (.int .i64 3)), some (162, false)⟩, 17179869183),
  (⟨some 165, .arith .lss (.const (.int .u8 191)) (x 164), some (162, false)⟩, 34359738367),
  (q 166 (.pick (x 162) (.const (.bool true)) (x 165)), 68719476735)]
def S211.r25 : List AOpr := [
  q 2 (.mov (.const (.bool false)))]
def S211.r26 : List AOpr := [
  q 167 (.mov (x 0)),
  q 168 (.slS (x 167) (some (.const (.int .i64 4))) none),
  q 0 (.mov (x 168))]
def S211.r27 : List AOpr := [
  q 2 (.mov (.const (.bool false)))]
def S211.r28 : List AOpr := [
  q 2 (.mov (.const (.bool true)))]
def S211 : SFn := ⟨169, [.tmp 2], .seq (.reg S211.r0) (.seq (.block 0 (.loop [0] [2] (.seq (.seq (.reg S211.r1) (.cond (x 9) (.skip) (.exit 0))) (.block 1 (.seq (.reg S211.r2) (.seq (.seq (.reg S211.r3) (.cond (x 13) (.seq (.reg S211.r4) (.seq (.seq (.joinN [0, 24] (.reg S211.r5)) (.joinN [0] (.cond (x 24) (.seq (.reg S211.r6) (.seq (.joinN [0, 39] (.draw S211.r7)) (.cond (x 39) (.seq (.reg S211.r8) (.block 2 (.loop [0] [0] (.seq (.seq (.joinN [0, 62] (.draw S211.r9)) (.cond (x 62) (.skip) (.exit 2))) (.block 3 (.reg S211.r10)))))) (.skip)))) (.skip)))) (.exit 1))) (.skip))) (.seq (.reg S211.r11) (.seq (.reg S211.r12) (.seq (.reg S211.r13) (.seq (.reg S211.r14) (.block 4 (.seq (.reg S211.r15) (.cond (x 76) (.seq (.seq (.joinN [0, 94] (.draw S211.r16)) (.cond (x 94) (.seq (.reg S211.r17) (.ret)) (.skip))) (.reg S211.r18)) (.seq (.reg S211.r19) (.cond (x 97) (.seq (.seq (.joinN [0, 125] (.draw S211.r20)) (.cond (x 125) (.seq (.reg S211.r21) (.ret)) (.skip))) (.reg S211.r22)) (.seq (.reg S211.r23) (.cond (x 128) (.seq (.seq (.joinN [0, 166] (.draw S211.r24)) (.cond (x 166) (.seq (.reg S211.r25) (.ret)) (.skip))) (.reg S211.r26)) (.seq (.reg S211.r27) (.ret))))))))))))))))))) (.seq (.reg S211.r28) (.ret)))⟩
theorem S211_ok : EOk Tryz.prog 211 S211 := ⟨Tryz.f211, by kernel_rfl, by kernel_rfl, by decide, by kernel_rfl, its_nil (by kernel_rfl)⟩
def o211_a1 (cl : Handler) (N : Nat) (v0 : AV) (h : AH) : Ans :=
  fst (kLenS h v0) fun v17 h =>
  fst (kArith h .gtr v17 (.int .i64 8)) fun v18 h =>
  fgd (gdv true v18) (kMov h v0) h fun v20 h =>
  fgd (gdv true v18) (cl 214 [v20] h) h fun v21 h =>
  fgd (gdv true v18) (kArith h .and v21 (.int .u64 9259542123273814144)) h fun v22 h =>
  fgd (gdv true v18) (kArith h .eql v22 (.int .u64 0)) h fun v23 h =>
  fst (kPick h v18 v23 (.bool false)) fun v24 h =>
  some (.nrm, [], [v0, v24], h)
def o211_s1 (cl : Handler) (N : Nat) (c0 c1 c2 c3 c4 c5 c6 c7 c8 c9 : Rec) (v0 v30 v36 : AV) (h : AH) : Ans :=
  fgq (gdv true v30) (fun k => fdp h (kArith h .and v36 (.int .u64 9259542123273814144)) .pure k) h fun v37 c10 h =>
  fgq (gdv true v30) (fun k => fdp h (kArith h .eql v37 (.int .u64 0)) .pure k) h fun v38 c11 h =>
  fdp h (kPick h v30 v38 (.bool false)) .pure fun v39 c12 h =>
  cond (fchk [c0, c1, c2, c3, c4, c5, c6, c7, c8, c9, c10, c11, c12] []) (some (.nrm, [], [v0, v39], h)) none
def o211_a2 (cl : Handler) (N : Nat) (v0 : AV) (h : AH) : Ans :=
  fdr h 13 fun r h =>
  fdp h (kMov h v0) .pure fun v27 c0 h =>
  fdp h (kLenS h v27) .pure fun v28 c1 h =>
  fdp h (kArith h .gtr v28 (.int .i64 16)) .pure fun v29 c2 h =>
  fdp h (kMov h v29) .pure fun v30 c3 h =>
  fgq (gdv true v30) (fun k => fdp h (kMov h v0) .pure k) h fun v31 c4 h =>
  fgq (gdv true v30) (fun k => fde h (cl 214 [v31] h) k) h fun v32 c5 h =>
  fgq (gdv true v30) (fun k => fdp h (kMov h v0) .pure k) h fun v33 c6 h =>
  fgq (gdv true v30) (fun k => fdp h (kSlS h v33 (some (.int .i64 8)) none) .pure k) h fun v34 c7 h =>
  fgq (gdv true v30) (fun k => fde h (cl 214 [v34] h) k) h fun v35 c8 h =>
  fgq (gdv true v30) (fun k => fdp h (kArith h .or v32 v35) .pure k) h fun v36 c9 h =>
  o211_s1 cl N c0 c1 c2 c3 c4 c5 c6 c7 c8 c9 v0 v30 v36 h
def o211_s2 (cl : Handler) (N : Nat) (c0 c1 c2 c3 c4 c5 c6 c7 c8 c9 c10 c11 c12 c13 c14 c15 c16 c17 c18 c19 : Rec) (v0 v45 v61 : AV) (h : AH) : Ans :=
  fdp h (kPick h v45 v61 (.bool false)) .pure fun v62 c20 h =>
  cond (fchk [c0, c1, c2, c3, c4, c5, c6, c7, c8, c9, c10, c11, c12, c13, c14, c15, c16, c17, c18, c19, c20] []) (some (.nrm, [], [v0, v62], h)) none
def o211_s3 (cl : Handler) (N : Nat) (c0 c1 c2 c3 c4 c5 c6 c7 c8 c9 : Rec) (v0 v45 v51 : AV) (h : AH) : Ans :=
  fgq (gdv true v45) (fun k => fdp h (kMov h v0) .pure k) h fun v52 c10 h =>
  fgq (gdv true v45) (fun k => fdp h (kSlS h v52 (some (.int .i64 16)) none) .pure k) h fun v53 c11 h =>
  fgq (gdv true v45) (fun k => fde h (cl 214 [v53] h) k) h fun v54 c12 h =>
  fgq (gdv true v45) (fun k => fdp h (kMov h v0) .pure k) h fun v55 c13 h =>
  fgq (gdv true v45) (fun k => fdp h (kSlS h v55 (some (.int .i64 24)) none) .pure k) h fun v56 c14 h =>
  fgq (gdv true v45) (fun k => fde h (cl 214 [v56] h) k) h fun v57 c15 h =>
  fgq (gdv true v45) (fun k => fdp h (kArith h .or v54 v57) .pure k) h fun v58 c16 h =>
  fgq (gdv true v45) (fun k => fdp h (kArith h .or v51 v58) .pure k) h fun v59 c17 h =>
  fgq (gdv true v45) (fun k => fdp h (kArith h .and v59 (.int .u64 9259542123273814144)) .pure k) h fun v60 c18 h =>
  fgq (gdv true v45) (fun k => fdp h (kArith h .eql v60 (.int .u64 0)) .pure k) h fun v61 c19 h =>
  o211_s2 cl N c0 c1 c2 c3 c4 c5 c6 c7 c8 c9 c10 c11 c12 c13 c14 c15 c16 c17 c18 c19 v0 v45 v61 h
def o211_a3 (cl : Handler) (N : Nat) (v0 : AV) (h : AH) : Ans :=
  fdr h 21 fun r h =>
  fdp h (kMov h v0) .pure fun v42 c0 h =>
  fdp h (kLenS h v42) .pure fun v43 c1 h =>
  fdp h (kArith h .gtr v43 (.int .i64 32)) .pure fun v44 c2 h =>
  fdp h (kMov h v44) .pure fun v45 c3 h =>
  fgq (gdv true v45) (fun k => fdp h (kMov h v0) .pure k) h fun v46 c4 h =>
  fgq (gdv true v45) (fun k => fde h (cl 214 [v46] h) k) h fun v47 c5 h =>
  fgq (gdv true v45) (fun k => fdp h (kMov h v0) .pure k) h fun v48 c6 h =>
  fgq (gdv true v45) (fun k => fdp h (kSlS h v48 (some (.int .i64 8)) none) .pure k) h fun v49 c7 h =>
  fgq (gdv true v45) (fun k => fde h (cl 214 [v49] h) k) h fun v50 c8 h =>
  fgq (gdv true v45) (fun k => fdp h (kArith h .or v47 v50) .pure k) h fun v51 c9 h =>
  o211_s3 cl N c0 c1 c2 c3 c4 c5 c6 c7 c8 c9 v0 v45 v51 h
def o211_j4 (cl : Handler) (N : Nat) (v0 v62 : AV) (h : AH) : Ans :=
  fif v62 (
  fst (kSlS h v0 (some (.int .i64 32)) none) fun v64 h =>
  some (.nrm, [v64], [v64], h)) (
  some ((.exit 2), [v0], [v0], h))
def o211_l5 (cl : Handler) (N : Nat) (v0 : AV) (h : AH) : Ans :=
  fjn (o211_a3 cl N v0 h) fun _ vs h => o211_j4 cl N (nthD vs 0) (nthD vs 1) h
def o211_c6 (cl : Handler) (N : Nat) (v0 : AV) (h : AH) : Ans :=
  some (.nrm, [], [v0], h)
def o211_j7 (cl : Handler) (N : Nat) (x : AX) (v0 : AV) (h : AH) : Ans :=
  fxs x (o211_c6 cl N v0 h) (fun j => cond (Nat.beq j 2) (o211_c6 cl N v0 h) (none)) (none)
def o211_j8 (cl : Handler) (N : Nat) (v0 v39 : AV) (h : AH) : Ans :=
  fif v39 (
  fst (kSlS h v0 (some (.int .i64 16)) none) fun v41 h =>
  fjn (fiter (fun vs h => o211_l5 cl N (nthD vs 0) h) N [v41] h) fun x vs h => o211_j7 cl N x (nthD vs 0) h) (
  some (.nrm, [], [v0], h))
def o211_a9 (cl : Handler) (N : Nat) (v0 v24 : AV) (h : AH) : Ans :=
  fif v24 (
  fst (kSlS h v0 (some (.int .i64 8)) none) fun v26 h =>
  fjn (o211_a2 cl N v26 h) fun _ vs h => o211_j8 cl N (nthD vs 0) (nthD vs 1) h) (
  some (.nrm, [], [v0], h))
def o211_j10 (cl : Handler) (N : Nat) (v0 : AV) (h : AH) : Ans :=
  some (.nrm, [v0], [.undef], h)
def o211_j11 (cl : Handler) (N : Nat) (v0 v24 : AV) (h : AH) : Ans :=
  fjn (o211_a9 cl N v0 v24 h) fun _ vs h => o211_j10 cl N (nthD vs 0) h
def o211_s4 (cl : Handler) (N : Nat) (c0 c1 c2 c3 c4 c5 c6 c7 c8 c9 : Rec) (v0 v6 v87 : AV) (h : AH) : Ans :=
  fdp h (kMov h v87) .pure fun v88 c10 h =>
  fgq (gdv false v88) (fun k => fdp h (kFldA h 1 v6) .pure k) h fun v89 c11 h =>
  fgq (gdv false v88) (fun k => fdp h (kLd1 h v89) (rdK (rdv v89)) k) h fun v90 c12 h =>
  fgq (gdv false v88) (fun k => fdp h (kMov h v0) .pure k) h fun v91 c13 h =>
  fgq (gdv false v88) (fun k => fdp h (kIdxS h v91 (.int .i64 1)) .pure k) h fun v92 c14 h =>
  fgq (gdv false v88) (fun k => fdp h (kArith h .lss v90 v92) .pure k) h fun v93 c15 h =>
  fdp h (kPick h v88 (.bool true) v93) .pure fun v94 c16 h =>
  cond (fchk [c0, c1, c2, c3, c4, c5, c6, c7, c8, c9, c10, c11, c12, c13, c14, c15, c16] []) (some (.nrm, [], [v0, v94], h)) none
def o211_a12 (cl : Handler) (N : Nat) (v0 v6 : AV) (h : AH) : Ans :=
  fdr h 17 fun r h =>
  fdp h (kMov h v0) .pure fun v78 c0 h =>
  fdp h (kLenS h v78) .pure fun v79 c1 h =>
  fdp h (kArith h .lss v79 (.int .i64 2)) .pure fun v80 c2 h =>
  fdp h (kMov h v80) .pure fun v81 c3 h =>
  fgq (gdv false v81) (fun k => fdp h (kMov h v0) .pure k) h fun v82 c4 h =>
  fgq (gdv false v81) (fun k => fdp h (kIdxS h v82 (.int .i64 1)) .pure k) h fun v83 c5 h =>
  fgq (gdv false v81) (fun k => fdp h (kFldA h 0 v6) .pure k) h fun v84 c6 h =>
  fgq (gdv false v81) (fun k => fdp h (kLd1 h v84) (rdK (rdv v84)) k) h fun v85 c7 h =>
  fgq (gdv false v81) (fun k => fdp h (kArith h .lss v83 v85) .pure k) h fun v86 c8 h =>
  fdp h (kPick h v81 (.bool true) v86) .pure fun v87 c9 h =>
  o211_s4 cl N c0 c1 c2 c3 c4 c5 c6 c7 c8 c9 v0 v6 v87 h
def o211_j13 (cl : Handler) (N : Nat) (v0 v94 : AV) (h : AH) : Ans :=
  fif v94 (
  some (.ret, [v0], [(.bool false)], h)) (
  fst (kSlS h v0 (some (.int .i64 2)) none) fun v96 h =>
  some (.nrm, [v96], [.undef], h))
def o211_s5 (cl : Handler) (N : Nat) (c0 c1 c2 c3 c4 c5 c6 c7 c8 c9 c10 c11 c12 c13 c14 c15 c16 c17 c18 c19 : Rec) (v0 v116 v118 : AV) (h : AH) : Ans :=
  fgq (gdv false v116) (fun k => fdp h (kArith h .lss v118 (.int .u8 128)) .pure k) h fun v119 c20 h =>
  fdp h (kPick h v116 (.bool true) v119) .pure fun v120 c21 h =>
  fdp h (kMov h v120) .pure fun v121 c22 h =>
  fgq (gdv false v121) (fun k => fdp h (kMov h v0) .pure k) h fun v122 c23 h =>
  fgq (gdv false v121) (fun k => fdp h (kIdxS h v122 (.int .i64 2)) .pure k) h fun v123 c24 h =>
  fgq (gdv false v121) (fun k => fdp h (kArith h .lss (.int .u8 191) v123) .pure k) h fun v124 c25 h =>
  fdp h (kPick h v121 (.bool true) v124) .pure fun v125 c26 h =>
  cond (fchk [c0, c1, c2, c3, c4, c5, c6, c7, c8, c9, c10, c11, c12, c13, c14, c15, c16, c17, c18, c19, c20, c21, c22, c23, c24, c25, c26] []) (some (.nrm, [], [v0, v125], h)) none
def o211_s6 (cl : Handler) (N : Nat) (c0 c1 c2 c3 c4 c5 c6 c7 c8 c9 : Rec) (v0 v6 v108 : AV) (h : AH) : Ans :=
  fdp h (kMov h v108) .pure fun v109 c10 h =>
  fgq (gdv false v109) (fun k => fdp h (kFldA h 1 v6) .pure k) h fun v110 c11 h =>
  fgq (gdv false v109) (fun k => fdp h (kLd1 h v110) (rdK (rdv v110)) k) h fun v111 c12 h =>
  fgq (gdv false v109) (fun k => fdp h (kMov h v0) .pure k) h fun v112 c13 h =>
  fgq (gdv false v109) (fun k => fdp h (kIdxS h v112 (.int .i64 1)) .pure k) h fun v113 c14 h =>
  fgq (gdv false v109) (fun k => fdp h (kArith h .lss v111 v113) .pure k) h fun v114 c15 h =>
  fdp h (kPick h v109 (.bool true) v114) .pure fun v115 c16 h =>
  fdp h (kMov h v115) .pure fun v116 c17 h =>
  fgq (gdv false v116) (fun k => fdp h (kMov h v0) .pure k) h fun v117 c18 h =>
  fgq (gdv false v116) (fun k => fdp h (kIdxS h v117 (.int .i64 2)) .pure k) h fun v118 c19 h =>
  o211_s5 cl N c0 c1 c2 c3 c4 c5 c6 c7 c8 c9 c10 c11 c12 c13 c14 c15 c16 c17 c18 c19 v0 v116 v118 h
def o211_a14 (cl : Handler) (N : Nat) (v0 v6 : AV) (h : AH) : Ans :=
  fdr h 27 fun r h =>
  fdp h (kMov h v0) .pure fun v99 c0 h =>
  fdp h (kLenS h v99) .pure fun v100 c1 h =>
  fdp h (kArith h .lss v100 (.int .i64 3)) .pure fun v101 c2 h =>
  fdp h (kMov h v101) .pure fun v102 c3 h =>
  fgq (gdv false v102) (fun k => fdp h (kMov h v0) .pure k) h fun v103 c4 h =>
  fgq (gdv false v102) (fun k => fdp h (kIdxS h v103 (.int .i64 1)) .pure k) h fun v104 c5 h =>
  fgq (gdv false v102) (fun k => fdp h (kFldA h 0 v6) .pure k) h fun v105 c6 h =>
  fgq (gdv false v102) (fun k => fdp h (kLd1 h v105) (rdK (rdv v105)) k) h fun v106 c7 h =>
  fgq (gdv false v102) (fun k => fdp h (kArith h .lss v104 v106) .pure k) h fun v107 c8 h =>
  fdp h (kPick h v102 (.bool true) v107) .pure fun v108 c9 h =>
  o211_s6 cl N c0 c1 c2 c3 c4 c5 c6 c7 c8 c9 v0 v6 v108 h
def o211_j15 (cl : Handler) (N : Nat) (v0 v125 : AV) (h : AH) : Ans :=
  fif v125 (
  some (.ret, [v0], [(.bool false)], h)) (
  fst (kSlS h v0 (some (.int .i64 3)) none) fun v127 h =>
  some (.nrm, [v127], [.undef], h))
def o211_s7 (cl : Handler) (N : Nat) (c0 c1 c2 c3 c4 c5 c6 c7 c8 c9 c10 c11 c12 c13 c14 c15 c16 c17 c18 c19 c20 c21 c22 c23 c24 c25 c26 c27 c28 c29 : Rec) (v0 v157 v159 : AV) (h : AH) : Ans :=
  fgq (gdv false v157) (fun k => fdp h (kArith h .lss v159 (.int .u8 128)) .pure k) h fun v160 c30 h =>
  fdp h (kPick h v157 (.bool true) v160) .pure fun v161 c31 h =>
  fdp h (kMov h v161) .pure fun v162 c32 h =>
  fgq (gdv false v162) (fun k => fdp h (kMov h v0) .pure k) h fun v163 c33 h =>
  fgq (gdv false v162) (fun k => fdp h (kIdxS h v163 (.int .i64 3)) .pure k) h fun v164 c34 h =>
  fgq (gdv false v162) (fun k => fdp h (kArith h .lss (.int .u8 191) v164) .pure k) h fun v165 c35 h =>
  fdp h (kPick h v162 (.bool true) v165) .pure fun v166 c36 h =>
  cond (fchk [c0, c1, c2, c3, c4, c5, c6, c7, c8, c9, c10, c11, c12, c13, c14, c15, c16, c17, c18, c19, c20, c21, c22, c23, c24, c25, c26, c27, c28, c29, c30, c31, c32, c33, c34, c35, c36] []) (some (.nrm, [], [v0, v166], h)) none
def o211_s8 (cl : Handler) (N : Nat) (c0 c1 c2 c3 c4 c5 c6 c7 c8 c9 c10 c11 c12 c13 c14 c15 c16 c17 c18 c19 : Rec) (v0 v147 v149 : AV) (h : AH) : Ans :=
  fgq (gdv false v147) (fun k => fdp h (kArith h .lss v149 (.int .u8 128)) .pure k) h fun v150 c20 h =>
  fdp h (kPick h v147 (.bool true) v150) .pure fun v151 c21 h =>
  fdp h (kMov h v151) .pure fun v152 c22 h =>
  fgq (gdv false v152) (fun k => fdp h (kMov h v0) .pure k) h fun v153 c23 h =>
  fgq (gdv false v152) (fun k => fdp h (kIdxS h v153 (.int .i64 2)) .pure k) h fun v154 c24 h =>
  fgq (gdv false v152) (fun k => fdp h (kArith h .lss (.int .u8 191) v154) .pure k) h fun v155 c25 h =>
  fdp h (kPick h v152 (.bool true) v155) .pure fun v156 c26 h =>
  fdp h (kMov h v156) .pure fun v157 c27 h =>
  fgq (gdv false v157) (fun k => fdp h (kMov h v0) .pure k) h fun v158 c28 h =>
  fgq (gdv false v157) (fun k => fdp h (kIdxS h v158 (.int .i64 3)) .pure k) h fun v159 c29 h =>
  o211_s7 cl N c0 c1 c2 c3 c4 c5 c6 c7 c8 c9 c10 c11 c12 c13 c14 c15 c16 c17 c18 c19 c20 c21 c22 c23 c24 c25 c26 c27 c28 c29 v0 v157 v159 h
def o211_s9 (cl : Handler) (N : Nat) (c0 c1 c2 c3 c4 c5 c6 c7 c8 c9 : Rec) (v0 v6 v139 : AV) (h : AH) : Ans :=
  fdp h (kMov h v139) .pure fun v140 c10 h =>
  fgq (gdv false v140) (fun k => fdp h (kFldA h 1 v6) .pure k) h fun v141 c11 h =>
  fgq (gdv false v140) (fun k => fdp h (kLd1 h v141) (rdK (rdv v141)) k) h fun v142 c12 h =>
  fgq (gdv false v140) (fun k => fdp h (kMov h v0) .pure k) h fun v143 c13 h =>
  fgq (gdv false v140) (fun k => fdp h (kIdxS h v143 (.int .i64 1)) .pure k) h fun v144 c14 h =>
  fgq (gdv false v140) (fun k => fdp h (kArith h .lss v142 v144) .pure k) h fun v145 c15 h =>
  fdp h (kPick h v140 (.bool true) v145) .pure fun v146 c16 h =>
  fdp h (kMov h v146) .pure fun v147 c17 h =>
  fgq (gdv false v147) (fun k => fdp h (kMov h v0) .pure k) h fun v148 c18 h =>
  fgq (gdv false v147) (fun k => fdp h (kIdxS h v148 (.int .i64 2)) .pure k) h fun v149 c19 h =>
  o211_s8 cl N c0 c1 c2 c3 c4 c5 c6 c7 c8 c9 c10 c11 c12 c13 c14 c15 c16 c17 c18 c19 v0 v147 v149 h
def o211_a16 (cl : Handler) (N : Nat) (v0 v6 : AV) (h : AH) : Ans :=
  fdr h 37 fun r h =>
  fdp h (kMov h v0) .pure fun v130 c0 h =>
  fdp h (kLenS h v130) .pure fun v131 c1 h =>
  fdp h (kArith h .lss v131 (.int .i64 4)) .pure fun v132 c2 h =>
  fdp h (kMov h v132) .pure fun v133 c3 h =>
  fgq (gdv false v133) (fun k => fdp h (kMov h v0) .pure k) h fun v134 c4 h =>
  fgq (gdv false v133) (fun k => fdp h (kIdxS h v134 (.int .i64 1)) .pure k) h fun v135 c5 h =>
  fgq (gdv false v133) (fun k => fdp h (kFldA h 0 v6) .pure k) h fun v136 c6 h =>
  fgq (gdv false v133) (fun k => fdp h (kLd1 h v136) (rdK (rdv v136)) k) h fun v137 c7 h =>
  fgq (gdv false v133) (fun k => fdp h (kArith h .lss v135 v137) .pure k) h fun v138 c8 h =>
  fdp h (kPick h v133 (.bool true) v138) .pure fun v139 c9 h =>
  o211_s9 cl N c0 c1 c2 c3 c4 c5 c6 c7 c8 c9 v0 v6 v139 h
def o211_j17 (cl : Handler) (N : Nat) (v0 v166 : AV) (h : AH) : Ans :=
  fif v166 (
  some (.ret, [v0], [(.bool false)], h)) (
  fst (kSlS h v0 (some (.int .i64 4)) none) fun v168 h =>
  some (.nrm, [v168], [.undef], h))
def o211_s10 (cl : Handler) (N : Nat) (v0 v5 v73 : AV) (h : AH) : Ans :=
  fst (kLdn h 2 v73) fun v74 h =>
  fst (kNew h [.int .u8 0, .int .u8 0]) fun v6 h =>
  fst (kSt h 2 v6 v74) fun _ h =>
  fst (kArith h .eql v5 (.int .i64 2)) fun v77 h =>
  fif v77 (
  fjn (o211_a12 cl N v0 v6 h) fun _ vs h => o211_j13 cl N (nthD vs 0) (nthD vs 1) h) (
  fst (kArith h .eql v5 (.int .i64 3)) fun v98 h =>
  fif v98 (
  fjn (o211_a14 cl N v0 v6 h) fun _ vs h => o211_j15 cl N (nthD vs 0) (nthD vs 1) h) (
  fst (kArith h .eql v5 (.int .i64 4)) fun v129 h =>
  fif v129 (
  fjn (o211_a16 cl N v0 v6 h) fun _ vs h => o211_j17 cl N (nthD vs 0) (nthD vs 1) h) (
  some (.ret, [v0], [(.bool false)], h))))
def o211_l18 (cl : Handler) (N : Nat) (v0 : AV) (h : AH) : Ans :=
  fst (kLenS h v0) fun v8 h =>
  fst (kArith h .gtr v8 (.int .i64 0)) fun v9 h =>
  fif v9 (
  fst (kIdxS h v0 (.int .i64 0)) fun v11 h =>
  fst (kArith h .lss v11 (.int .u8 128)) fun v13 h =>
  fif v13 (
  fst (kSlS h v0 (some (.int .i64 1)) none) fun v15 h =>
  fjn (o211_a1 cl N v15 h) fun _ vs h => o211_j11 cl N (nthD vs 0) (nthD vs 1) h) (
  fst (kIdxArrA h 256 1 (.gptr 1 0) v11) fun v66 h =>
  fst (kLd1 h v66) fun v67 h =>
  fst (kArith h .and v67 (.int .u8 7)) fun v69 h =>
  fst (kConvI h .i64 v69) fun v70 h =>
  fst (kArith h .shr v67 (.int .u64 4)) fun v72 h =>
  fst (kIdxArrA h 16 2 (.gptr 2 0) v72) fun v73 h =>
  o211_s10 cl N v0 v70 v73 h)) (
  some ((.exit 0), [v0], [.undef], h))
def o211_c19 (cl : Handler) (N : Nat) (h : AH) : Ans :=
  some (.nrm, [], [(.bool true)], h)
def o211_j20 (cl : Handler) (N : Nat) (x : AX) (v2 : AV) (h : AH) : Ans :=
  fxs x (o211_c19 cl N h) (fun j => cond (Nat.beq j 0) (o211_c19 cl N h) (none)) (some (.nrm, [], [v2], h))
def o211 (cl : Handler) (N : Nat) (v0 : AV) (h : AH) : Ans :=
  fjn (fiter (fun vs h => o211_l18 cl N (nthD vs 0) h) N [v0] h) fun x vs h => o211_j20 cl N x (nthD vs 0) h
theorem o211_eq (cl : Handler) (N : Nat) (v0 : AV) (h : AH) : frun cl N S211 [v0] h = fans (o211 cl N v0 h) := by kernel_rfl
def w211 (N : Nat) : OF := fun cl args h => match args with
  | [v0] => fans (o211 cl N v0 h)
  | _ => none
theorem w211_ok (N : Nat) : OkF Tryz.prog 211 (w211 N) := .of (N := N) (S211_ok) fun cl args h r hr => by
  unfold w211 at hr
  split at hr
  · exact (o211_eq cl N _ _).trans hr
  · cases hr

def otr3 (N : Nat) : OT := .node 179 (.node 165 (.node 161 (.node 159 (.node 158 (.one 153 (w153 N)) (.one 158 (w158 N))) (.node 160 (.one 159 (w159 N)) (.one 160 (w160 N)))) (.node 163 (.node 162 (.one 161 (w161 N)) (.one 162 (w162 N))) (.node 164 (.one 163 (w163 N)) (.one 164 (w164 N))))) (.node 174 (.node 172 (.node 166 (.one 165 (w165 N)) (.one 166 (w166 N))) (.node 173 (.one 172 (w172 N)) (.one 173 (w173 N)))) (.node 176 (.node 175 (.one 174 (w174 N)) (.one 175 (w175 N))) (.node 177 (.one 176 (w176 N)) (.node 178 (.one 177 (w177 N)) (.one 178 (w178 N))))))) (.node 195 (.node 185 (.node 183 (.node 182 (.one 179 (w179 N)) (.one 182 (w182 N))) (.node 184 (.one 183 (w183 N)) (.one 184 (w184 N)))) (.node 191 (.node 189 (.one 185 (w185 N)) (.one 189 (w189 N))) (.node 193 (.one 191 (w191 N)) (.node 194 (.one 193 (w193 N)) (.one 194 (w194 N)))))) (.node 206 (.node 201 (.node 197 (.one 195 (w195 N)) (.one 197 (w197 N))) (.node 202 (.one 201 (w201 N)) (.one 202 (w202 N)))) (.node 208 (.node 207 (.one 206 (w206 N)) (.one 207 (w207 N))) (.node 209 (.one 208 (w208 N)) (.node 211 (.one 209 (w209 N)) (.one 211 (w211 N)))))))
theorem otr3_ok (N : Nat) : (otr3 N).Ok Tryz.prog := ⟨⟨⟨⟨⟨w153_ok N, w158_ok N⟩, ⟨w159_ok N, w160_ok N⟩⟩, ⟨⟨w161_ok N, w162_ok N⟩, ⟨w163_ok N, w164_ok N⟩⟩⟩, ⟨⟨⟨w165_ok N, w166_ok N⟩, ⟨w172_ok N, w173_ok N⟩⟩, ⟨⟨w174_ok N, w175_ok N⟩, ⟨w176_ok N, ⟨w177_ok N, w178_ok N⟩⟩⟩⟩⟩, ⟨⟨⟨⟨w179_ok N, w182_ok N⟩, ⟨w183_ok N, w184_ok N⟩⟩, ⟨⟨w185_ok N, w189_ok N⟩, ⟨w191_ok N, ⟨w193_ok N, w194_ok N⟩⟩⟩⟩, ⟨⟨⟨w195_ok N, w197_ok N⟩, ⟨w201_ok N, w202_ok N⟩⟩, ⟨⟨w206_ok N, w207_ok N⟩, ⟨w208_ok N, ⟨w209_ok N, w211_ok N⟩⟩⟩⟩⟩⟩

end Go.Proofs.YtoibclpbkjbnbaaGreatDoor
end
