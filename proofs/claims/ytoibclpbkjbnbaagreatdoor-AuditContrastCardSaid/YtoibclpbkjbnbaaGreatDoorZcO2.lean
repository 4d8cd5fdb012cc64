/- The functions that the law of AuditContrast runs through, third part: their code and what they are as plain definitions; written by a program. -/
import Derived.Test.YtoibclpbkjbnbaaGreatDoorEngOX
import Derived.Test.YtoibclpbkjbnbaaGreatDoorProg
import Derived.KernelRfl
set_option linter.unusedSimpArgs false
set_option linter.unusedVariables false
set_option linter.unnecessarySimpa false
noncomputable section
namespace Go.Proofs.YtoibclpbkjbnbaaGreatDoor
open Go.Eng
set_option maxRecDepth 100000
def S105.z0 : List AV := [.int .i64 0, .int .i64 0, .int .i64 0, .int .i64 0]
/- widgetry/widgetryref02.Intersect -/
def S105.r0 : List AOpr := [
  q 2 (.box (x 0)),
  q 3 (.box (x 1)),
  q 4 (.new S105.z0)]
def S105.r1 : List (AOpr × Nat) := [
  (q 9 (.ldn 4 (x 2)), 0),
  (q 10 (.call (.const (.func (.func 150) [] [])) [.tmp 9]), 1),
  (q 11 (.ldn 4 (x 3)), 0),
  (q 12 (.call (.const (.func (.func 150) [] [])) [.tmp 11]), 7),
  (⟨none, .st 4 (x 2) (x 10), none⟩, 15),
  (⟨none, .st 4 (x 3) (x 12), none⟩, 31)]
def S105.r2 : List (AOpr × Nat) := [
  (q 13 (.fldA 0 (x 2)), 0),
  (q 14 (.ld1 (x 13)), 1),
  (q 15 (.fldA 0 (x 3)), 0),
  (q 16 (.ld1 (x 15)), 4),
  (q 17 (.mnmx true (x 14) (x 16)), 15),
  (q 18 (.fldA 1 (x 2)), 0),
  (q 19 (.ld1 (x 18)), 32),
  (q 20 (.fldA 1 (x 3)), 0),
  (q 21 (.ld1 (x 20)), 128),
  (q 22 (.mnmx true (x 19) (x 21)), 480),
  (q 5 (.mov (x 17)), 31),
  (q 6 (.mov (x 22)), 2047)]
def S105.r3 : List (AOpr × Nat) := [
  (q 23 (.fldA 0 (x 2)), 0),
  (q 24 (.ld1 (x 23)), 1),
  (q 25 (.fldA 2 (x 2)), 0),
  (q 26 (.ld1 (x 25)), 4),
  (q 27 (.arith .add (x 24) (x 26)), 15),
  (q 28 (.fldA 0 (x 3)), 0),
  (q 29 (.ld1 (x 28)), 32),
  (q 30 (.fldA 2 (x 3)), 0),
  (q 31 (.ld1 (x 30)), 128),
  (q 32 (.arith .add (x 29) (x 31)), 480),
  (q 33 (.mnmx false (x 27) (x 32)), 1023),
  (q 34 (.mov (x 5)), 0),
  (q 35 (.arith .sub (x 33) (x 34)), 4095),
  (q 36 (.fldA 1 (x 2)), 0),
  (q 37 (.ld1 (x 36)), 8192),
  (q 38 (.fldA 3 (x 2)), 0),
  (q 39 (.ld1 (x 38)), 32768),
  (q 40 (.arith .add (x 37) (x 39)), 122880),
  (q 41 (.fldA 1 (x 3)), 0),
  (q 42 (.ld1 (x 41)), 262144),
  (q 43 (.fldA 3 (x 3)), 0),
  (q 44 (.ld1 (x 43)), 1048576),
  (q 45 (.arith .add (x 42) (x 44)), 3932160),
  (q 46 (.mnmx false (x 40) (x 45)), 8380416),
  (q 47 (.mov (x 6)), 0),
  (q 48 (.arith .sub (x 46) (x 47)), 33546240),
  (q 7 (.mov (x 35)), 8191),
  (q 8 (.mov (x 48)), 134217727)]
def S105.r4 : List AOpr := [
  q 49 (.mov (x 7)),
  q 50 (.arith .leq (x 49) (.const (.int .i64 0))),
  q 51 (.mov (x 50)),
  ⟨some 52, .mov (x 8), some (51, false)⟩,
  ⟨some 53, .arith .leq (x 52) (.const (.int .i64 0)), some (51, false)⟩,
  q 54 (.pick (x 51) (.const (.bool true)) (x 53))]
def S105.r5 : List AOpr := [
  q 55 (.build S105.z0 []),
  ⟨none, .st 4 (x 4) (x 55), none⟩]
def S105.r6 : List AOpr := [
  q 56 (.mov (x 5)),
  q 57 (.mov (x 6)),
  q 58 (.mov (x 7)),
  q 59 (.mov (x 8)),
  q 60 (.build S105.z0 [(0, 1, .tmp 56), (1, 1, .tmp 57), (2, 1, .tmp 58), (3, 1, .tmp 59)]),
  ⟨none, .st 4 (x 4) (x 60), none⟩]
def S105 : SFn := ⟨61, [.cell 4 (some 4)], .seq (.reg S105.r0) (.seq (.draw S105.r1) (.seq (.draw S105.r2) (.seq (.draw S105.r3) (.seq (.seq (.joinN [4, 5, 6, 7, 8, 54] (.reg S105.r4)) (.cond (x 54) (.seq (.reg S105.r5) (.ret)) (.skip))) (.seq (.reg S105.r6) (.ret))))))⟩
theorem S105_ok : EOk Tryz.prog 105 S105 := ⟨Tryz.f105, by kernel_rfl, by kernel_rfl, by decide, by kernel_rfl, its_nil (by kernel_rfl)⟩
def o105_a1 (cl : Handler) (N : Nat) (v4 v5 v6 v7 v8 : AV) (h : AH) : Ans :=
  fst (kArith h .leq v7 (.int .i64 0)) fun v50 h =>
  fgd (gdv false v50) (kMov h v8) h fun v52 h =>
  fgd (gdv false v50) (kArith h .leq v52 (.int .i64 0)) h fun v53 h =>
  fst (kPick h v50 (.bool true) v53) fun v54 h =>
  some (.nrm, [], [v4, v5, v6, v7, v8, v54], h)
def o105_j2 (cl : Handler) (N : Nat) (v4 v5 v6 v7 v8 v54 : AV) (h : AH) : Ans :=
  fif v54 (
  fst (kBuild h S105.z0 []) fun v55 h =>
  fst (kSt h 4 v4 v55) fun _ h =>
  fres (aresV h [.cell (v4) (some 4)]) h) (
  fst (kBuild h S105.z0 [(0, 1, v5), (1, 1, v6), (2, 1, v7), (3, 1, v8)]) fun v60 h =>
  fst (kSt h 4 v4 v60) fun _ h =>
  fres (aresV h [.cell (v4) (some 4)]) h)
def o105_s1 (cl : Handler) (N : Nat) (c0 c1 c2 c3 c4 c5 c6 c7 c8 c9 c10 c11 c12 c13 c14 c15 c16 c17 c18 : Rec) (v3 v4 v5 v6 v35 v40 v41 : AV) (h : AH) : Ans :=
  fdp h (kLd1 h v41) (rdK (rdv v41)) fun v42 c19 h =>
  fdp h (kFldA h 3 v3) .pure fun v43 c20 h =>
  fdp h (kLd1 h v43) (rdK (rdv v43)) fun v44 c21 h =>
  fdp h (kArith h .add v42 v44) .pure fun v45 c22 h =>
  fdp h (kMnmx h false v40 v45) .pure fun v46 c23 h =>
  fdp h (kMov h v6) .pure fun v47 c24 h =>
  fdp h (kArith h .sub v46 v47) .pure fun v48 c25 h =>
  fdp h (kMov h v35) .pure fun v7 c26 h =>
  fdp h (kMov h v48) .pure fun v8 c27 h =>
  cond (fchk [c0, c1, c2, c3, c4, c5, c6, c7, c8, c9, c10, c11, c12, c13, c14, c15, c16, c17, c18, c19, c20, c21, c22, c23, c24, c25, c26, c27] []) (fjn (o105_a1 cl N v4 v5 v6 v7 v8 h) fun _ vs h => o105_j2 cl N (nthD vs 0) (nthD vs 1) (nthD vs 2) (nthD vs 3) (nthD vs 4) (nthD vs 5) h) none
def o105_s2 (cl : Handler) (N : Nat) (c0 c1 c2 c3 c4 c5 c6 c7 c8 : Rec) (v2 v3 v4 v5 v6 v27 v29 v31 : AV) (h : AH) : Ans :=
  fdp h (kArith h .add v29 v31) .pure fun v32 c9 h =>
  fdp h (kMnmx h false v27 v32) .pure fun v33 c10 h =>
  fdp h (kMov h v5) .pure fun v34 c11 h =>
  fdp h (kArith h .sub v33 v34) .pure fun v35 c12 h =>
  fdp h (kFldA h 1 v2) .pure fun v36 c13 h =>
  fdp h (kLd1 h v36) (rdK (rdv v36)) fun v37 c14 h =>
  fdp h (kFldA h 3 v2) .pure fun v38 c15 h =>
  fdp h (kLd1 h v38) (rdK (rdv v38)) fun v39 c16 h =>
  fdp h (kArith h .add v37 v39) .pure fun v40 c17 h =>
  fdp h (kFldA h 1 v3) .pure fun v41 c18 h =>
  o105_s1 cl N c0 c1 c2 c3 c4 c5 c6 c7 c8 c9 c10 c11 c12 c13 c14 c15 c16 c17 c18 v3 v4 v5 v6 v35 v40 v41 h
def o105_s3 (cl : Handler) (N : Nat) (r : Nat) (c0 c1 c2 c3 c4 c5 c6 c7 c8 c9 c10 : Rec) (v2 v3 v4 v5 v22 : AV) (h : AH) : Ans :=
  fdp h (kMov h v22) .pure fun v6 c11 h =>
  cond (fchk [c0, c1, c2, c3, c4, c5, c6, c7, c8, c9, c10, c11] []) (fdr h 28 fun r h =>
  fdp h (kFldA h 0 v2) .pure fun v23 c0 h =>
  fdp h (kLd1 h v23) (rdK (rdv v23)) fun v24 c1 h =>
  fdp h (kFldA h 2 v2) .pure fun v25 c2 h =>
  fdp h (kLd1 h v25) (rdK (rdv v25)) fun v26 c3 h =>
  fdp h (kArith h .add v24 v26) .pure fun v27 c4 h =>
  fdp h (kFldA h 0 v3) .pure fun v28 c5 h =>
  fdp h (kLd1 h v28) (rdK (rdv v28)) fun v29 c6 h =>
  fdp h (kFldA h 2 v3) .pure fun v30 c7 h =>
  fdp h (kLd1 h v30) (rdK (rdv v30)) fun v31 c8 h =>
  o105_s2 cl N c0 c1 c2 c3 c4 c5 c6 c7 c8 v2 v3 v4 v5 v6 v27 v29 v31 h) none
def o105_s4 (cl : Handler) (N : Nat) (r : Nat) (c0 : Rec) (v2 v3 v4 v13 : AV) (h : AH) : Ans :=
  fdp h (kLd1 h v13) (rdK (rdv v13)) fun v14 c1 h =>
  fdp h (kFldA h 0 v3) .pure fun v15 c2 h =>
  fdp h (kLd1 h v15) (rdK (rdv v15)) fun v16 c3 h =>
  fdp h (kMnmx h true v14 v16) .pure fun v17 c4 h =>
  fdp h (kFldA h 1 v2) .pure fun v18 c5 h =>
  fdp h (kLd1 h v18) (rdK (rdv v18)) fun v19 c6 h =>
  fdp h (kFldA h 1 v3) .pure fun v20 c7 h =>
  fdp h (kLd1 h v20) (rdK (rdv v20)) fun v21 c8 h =>
  fdp h (kMnmx h true v19 v21) .pure fun v22 c9 h =>
  fdp h (kMov h v17) .pure fun v5 c10 h =>
  o105_s3 cl N r c0 c1 c2 c3 c4 c5 c6 c7 c8 c9 c10 v2 v3 v4 v5 v22 h
def o105 (cl : Handler) (N : Nat) (v0 v1 : AV) (h : AH) : Ans :=
  fst (kBox h v0) fun v2 h =>
  fst (kBox h v1) fun v3 h =>
  fst (kNew h S105.z0) fun v4 h =>
  fdr h 6 fun r h =>
  fdp h (kLdn h 4 v2) (rdK (rdv v2)) fun v9 c0 h =>
  fde h (cl 150 [v9] h) fun v10 c1 h =>
  fdp h (kLdn h 4 v3) (rdK (rdv v3)) fun v11 c2 h =>
  fde h (cl 150 [v11] h) fun v12 c3 h =>
  fde h (kSt h 4 v2 v10) fun _ c4 h =>
  fde h (kSt h 4 v3 v12) fun _ c5 h =>
  cond (fchk [c0, c1, c2, c3, c4, c5] [(1, 2)]) (fdr h 12 fun r h =>
  fdp h (kFldA h 0 v2) .pure fun v13 c0 h =>
  o105_s4 cl N r c0 v2 v3 v4 v13 h) none
theorem o105_eq (cl : Handler) (N : Nat) (v0 v1 : AV) (h : AH) : frun cl N S105 [v0, v1] h = fans (o105 cl N v0 v1 h) := by kernel_rfl
def w105 (N : Nat) : OF := fun cl args h => match args with
  | [v0, v1] => fans (o105 cl N v0 v1 h)
  | _ => none
theorem w105_ok (N : Nat) : OkF Tryz.prog 105 (w105 N) := .of (N := N) (S105_ok) fun cl args h r hr => by
  unfold w105 at hr
  split at hr
  · exact (o105_eq cl N _ _ _).trans hr
  · cases hr

def S106.z0 : List AV := [.int .i64 0, .int .i64 0, .int .i64 0, .int .i64 0]
def S106.z1 : List AV := [.int .i64 0, .int .i64 0, .int .i64 0, .str [], .nilsl, .nilsl, .nilsl]
/- widgetry/widgetryref29.Visible -/
def S106.r0 : List AOpr := [
  q 5 (.box (x 0)),
  q 10 (.new S106.z0)]
def S106.r1 : List AOpr := [
  q 16 (.ldn 3 (x 5)),
  q 17 (.mov (x 1)),
  q 18 (.mov (x 2)),
  q 19 (.mov (x 3)),
  q 20 (.mov (x 4)),
  q 21 (.call (.const (.func (.func 50) [] [])) [.tmp 16, .tmp 17, .tmp 18, .tmp 19, .tmp 20]),
  q 11 (.new S106.z0),
  ⟨none, .st 4 (x 11) (x 21), none⟩]
def S106.r2 : List AOpr := [
  q 22 (.ldn 3 (x 5)),
  q 23 (.mov (x 4)),
  q 24 (.call (.const (.func (.func 151) [] [])) [.tmp 22, .tmp 23]),
  q 12 (.mov (x 24))]
def S106.r3 : List AOpr := [
  q 13 (.mov (.const (.int .i64 0)))]
def S106.r4 : List AOpr := [
  q 25 (.mov (x 13)),
  q 26 (.arith .add (x 25) (.const (.int .i64 1))),
  q 27 (.mov (x 12)),
  q 28 (.len (x 27)),
  q 29 (.arith .lss (x 26) (x 28))]
def S106.r5 : List (AOpr × Nat) := [
  (q 33 (.ldn 3 (x 5)), 0),
  (q 34 (.mov (x 12)), 0),
  (q 35 (.mov (x 13)), 0),
  (q 36 (.idxA 1 (x 34) (x 35)), 6),
  (q 37 (.ld1 (x 36)), 14),
  (q 38 (.call (.const (.func (.func 42) [] [])) [.tmp 33, .tmp 37]), 31),
  (q 32 (.mov (x 38)), 63),
  (q 39 (.ext (x 32) 0), 127),
  (q 40 (.ext (x 32) 1), 127),
  (q 14 (.new S106.z1), 0),
  (⟨none, .st 7 (x 14) (x 39), none⟩, 767),
  (q 15 (.mov (x 40)), 2047)]
def S106.r6 : List AOpr := [
  q 41 (.fldA 2 (x 14)),
  q 42 (.ld1 (x 41)),
  q 43 (.arith .eql (x 42) (.const (.int .i64 8)))]
def S106.r7 : List (AOpr × Nat) := [
  (q 44 (.ldn 4 (x 11)), 0),
  (q 45 (.ldn 3 (x 5)), 0),
  (q 46 (.mov (x 1)), 0),
  (q 47 (.mov (x 2)), 0),
  (q 48 (.mov (x 3)), 0),
  (q 49 (.mov (x 12)), 0),
  (q 50 (.mov (x 13)), 0),
  (q 51 (.idxA 1 (x 49) (x 50)), 96),
  (q 52 (.ld1 (x 51)), 224),
  (q 53 (.call (.const (.func (.func 50) [] [])) [.tmp 45, .tmp 46, .tmp 47, .tmp 48, .tmp 52]), 510),
  (q 54 (.call (.const (.func (.func 105) [] [])) [.tmp 44, .tmp 53]), 1023),
  (⟨none, .st 4 (x 11) (x 54), none⟩, 2047)]
def S106.r8 : List AOpr := [
  q 30 (.mov (x 13)),
  q 31 (.arith .add (x 30) (.const (.int .i64 1))),
  q 13 (.mov (x 31))]
def S106.r9 : List AOpr := [
  q 55 (.ldn 4 (x 11)),
  ⟨none, .st 4 (x 10) (x 55), none⟩]
def S106 : SFn := ⟨56, [.cell 10 (some 4)], .seq (.reg S106.r0) (.seq (.reg S106.r1) (.seq (.reg S106.r2) (.seq (.seq (.reg S106.r3) (.block 0 (.loop [1, 2, 3, 5, 10, 11, 12, 13] [10, 11] (.seq (.seq (.reg S106.r4) (.cond (x 29) (.skip) (.exit 0))) (.seq (.joinN [1, 2, 3, 5, 10, 11, 12, 13] (.block 1 (.seq (.draw S106.r5) (.seq (.reg S106.r6) (.cond (x 43) (.draw S106.r7) (.skip)))))) (.reg S106.r8)))))) (.seq (.reg S106.r9) (.ret)))))⟩
theorem S106_ok : EOk Tryz.prog 106 S106 := ⟨Tryz.f106, by kernel_rfl, by kernel_rfl, by decide, by kernel_rfl, its_nil (by kernel_rfl)⟩
def o106_s1 (cl : Handler) (N : Nat) (c0 c1 c2 c3 c4 : Rec) (v1 v2 v3 v5 v10 v11 v12 v13 v44 v45 v46 v47 v48 : AV) (h : AH) : Ans :=
  fdp h (kMov h v12) .pure fun v49 c5 h =>
  fdp h (kMov h v13) .pure fun v50 c6 h =>
  fdp h (kIdxA h 1 v49 v50) .pure fun v51 c7 h =>
  fdp h (kLd1 h v51) (rdK (rdv v51)) fun v52 c8 h =>
  fde h (cl 50 [v45, v46, v47, v48, v52] h) fun v53 c9 h =>
  fde h (cl 105 [v44, v53] h) fun v54 c10 h =>
  fde h (kSt h 4 v11 v54) fun _ c11 h =>
  cond (fchk [c0, c1, c2, c3, c4, c5, c6, c7, c8, c9, c10, c11] [(0, 9)]) (some (.nrm, [], [v1, v2, v3, v5, v10, v11, v12, v13], h)) none
def o106_s2 (cl : Handler) (N : Nat) (r : Nat) (c0 c1 c2 c3 c4 c5 c6 c7 c8 c9 : Rec) (v1 v2 v3 v5 v10 v11 v12 v13 v14 v39 v40 : AV) (h : AH) : Ans :=
  fde h (kSt h 7 v14 v39) fun _ c10 h =>
  fdp h (kMov h v40) .pure fun v15 c11 h =>
  cond (fchk [c0, c1, c2, c3, c4, c5, c6, c7, c8, c9, c10, c11] [(0, 9), (4, 9)]) (fst (kFldA h 2 v14) fun v41 h =>
  fst (kLd1 h v41) fun v42 h =>
  fst (kArith h .eql v42 (.int .i64 8)) fun v43 h =>
  fif v43 (
  fdr h 12 fun r h =>
  fdp h (kLdn h 4 v11) (rdK (rdv v11)) fun v44 c0 h =>
  fdp h (kLdn h 3 v5) (rdK (rdv v5)) fun v45 c1 h =>
  fdp h (kMov h v1) .pure fun v46 c2 h =>
  fdp h (kMov h v2) .pure fun v47 c3 h =>
  fdp h (kMov h v3) .pure fun v48 c4 h =>
  o106_s1 cl N c0 c1 c2 c3 c4 v1 v2 v3 v5 v10 v11 v12 v13 v44 v45 v46 v47 v48 h) (
  some (.nrm, [], [v1, v2, v3, v5, v10, v11, v12, v13], h))) none
def o106_a1 (cl : Handler) (N : Nat) (v1 v2 v3 v5 v10 v11 v12 v13 : AV) (h : AH) : Ans :=
  fdr h 12 fun r h =>
  fdp h (kLdn h 3 v5) (rdK (rdv v5)) fun v33 c0 h =>
  fdp h (kMov h v12) .pure fun v34 c1 h =>
  fdp h (kMov h v13) .pure fun v35 c2 h =>
  fdp h (kIdxA h 1 v34 v35) .pure fun v36 c3 h =>
  fdp h (kLd1 h v36) (rdK (rdv v36)) fun v37 c4 h =>
  fde h (cl 42 [v33, v37] h) fun v38 c5 h =>
  fdp h (kMov h v38) .pure fun v32 c6 h =>
  fdp h (kExt h v32 0) .pure fun v39 c7 h =>
  fdp h (kExt h v32 1) .pure fun v40 c8 h =>
  fda (r + 9) h (alNew S106.z1) fun v14 c9 h =>
  o106_s2 cl N r c0 c1 c2 c3 c4 c5 c6 c7 c8 c9 v1 v2 v3 v5 v10 v11 v12 v13 v14 v39 v40 h
def o106_j2 (cl : Handler) (N : Nat) (v1 v2 v3 v5 v10 v11 v12 v13 : AV) (h : AH) : Ans :=
  fst (kArith h .add v13 (.int .i64 1)) fun v31 h =>
  some (.nrm, [v1, v2, v3, v5, v10, v11, v12, v31], [v10, v11], h)
def o106_l3 (cl : Handler) (N : Nat) (v1 v2 v3 v5 v10 v11 v12 v13 : AV) (h : AH) : Ans :=
  fst (kArith h .add v13 (.int .i64 1)) fun v26 h =>
  fst (kLen h v12) fun v28 h =>
  fst (kArith h .lss v26 v28) fun v29 h =>
  fif v29 (
  fjn (o106_a1 cl N v1 v2 v3 v5 v10 v11 v12 v13 h) fun _ vs h => o106_j2 cl N (nthD vs 0) (nthD vs 1) (nthD vs 2) (nthD vs 3) (nthD vs 4) (nthD vs 5) (nthD vs 6) (nthD vs 7) h) (
  some ((.exit 0), [v1, v2, v3, v5, v10, v11, v12, v13], [v10, v11], h))
def o106_c4 (cl : Handler) (N : Nat) (v10 v11 : AV) (h : AH) : Ans :=
  fst (kLdn h 4 v11) fun v55 h =>
  fst (kSt h 4 v10 v55) fun _ h =>
  fres (aresV h [.cell (v10) (some 4)]) h
def o106_j5 (cl : Handler) (N : Nat) (x : AX) (v10 v11 : AV) (h : AH) : Ans :=
  fxs x (o106_c4 cl N v10 v11 h) (fun j => cond (Nat.beq j 0) (o106_c4 cl N v10 v11 h) (none)) (fres (aresV h [.cell (v10) (some 4)]) h)
def o106 (cl : Handler) (N : Nat) (v0 v1 v2 v3 v4 : AV) (h : AH) : Ans :=
  fst (kBox h v0) fun v5 h =>
  fst (kNew h S106.z0) fun v10 h =>
  fst (kLdn h 3 v5) fun v16 h =>
  fst (cl 50 [v16, v1, v2, v3, v4] h) fun v21 h =>
  fst (kNew h S106.z0) fun v11 h =>
  fst (kSt h 4 v11 v21) fun _ h =>
  fst (kLdn h 3 v5) fun v22 h =>
  fst (cl 151 [v22, v4] h) fun v24 h =>
  fjn (fiter (fun vs h => o106_l3 cl N (nthD vs 0) (nthD vs 1) (nthD vs 2) (nthD vs 3) (nthD vs 4) (nthD vs 5) (nthD vs 6) (nthD vs 7) h) N [v1, v2, v3, v5, v10, v11, v24, (.int .i64 0)] h) fun x vs h => o106_j5 cl N x (nthD vs 0) (nthD vs 1) h
theorem o106_eq (cl : Handler) (N : Nat) (v0 v1 v2 v3 v4 : AV) (h : AH) : frun cl N S106 [v0, v1, v2, v3, v4] h = fans (o106 cl N v0 v1 v2 v3 v4 h) := by kernel_rfl
def w106 (N : Nat) : OF := fun cl args h => match args with
  | [v0, v1, v2, v3, v4] => fans (o106 cl N v0 v1 v2 v3 v4 h)
  | _ => none
theorem w106_ok (N : Nat) : OkF Tryz.prog 106 (w106 N) := .of (N := N) (S106_ok) fun cl args h r hr => by
  unfold w106 at hr
  split at hr
  · exact (o106_eq cl N _ _ _ _ _ _).trans hr
  · cases hr

def S107.z0 : List AV := [.int .i64 0, .int .i64 0, .int .i64 0, .int .i64 0, .int .i64 0, .int .i64 0, .nilsl]
/- widgetry/widgetryref21.Find -/
def S107.r0 : List AOpr := [
  q 4 (.new S107.z0),
  q 5 (.mov (.const (.bool false)))]
def S107.r1 : List AOpr := [
  q 6 (.mov (.const (.int .i64 0)))]
def S107.r2 : List AOpr := [
  q 7 (.mov (x 6)),
  q 8 (.mov (x 0)),
  q 9 (.len (x 8)),
  q 10 (.arith .lss (x 7) (x 9))]
def S107.r3 : List AOpr := [
  q 13 (.mov (x 0)),
  q 14 (.mov (x 6)),
  q 15 (.idxA 7 (x 13) (x 14)),
  q 16 (.fldA 0 (x 15)),
  q 17 (.ld1 (x 16)),
  q 18 (.mov (x 1)),
  q 19 (.arith .eql (x 17) (x 18))]
def S107.r4 : List AOpr := [
  q 20 (.mov (x 0)),
  q 21 (.mov (x 6)),
  q 22 (.idxA 7 (x 20) (x 21)),
  q 23 (.ldn 7 (x 22)),
  ⟨none, .st 7 (x 4) (x 23), none⟩,
  q 5 (.mov (.const (.bool true)))]
def S107.r5 : List AOpr := [
  q 11 (.mov (x 6)),
  q 12 (.arith .add (x 11) (.const (.int .i64 1))),
  q 6 (.mov (x 12))]
def S107.r6 : List AOpr := [
  q 24 (.build S107.z0 []),
  ⟨none, .st 7 (x 4) (x 24), none⟩,
  q 5 (.mov (.const (.bool false)))]
def S107 : SFn := ⟨25, [.cell 4 (some 7), .tmp 5], .seq (.reg S107.r0) (.seq (.seq (.reg S107.r1) (.block 0 (.loop [0, 1, 4, 6] [4, 5] (.seq (.seq (.reg S107.r2) (.cond (x 10) (.skip) (.exit 0))) (.seq (.block 1 (.seq (.reg S107.r3) (.cond (x 19) (.seq (.reg S107.r4) (.ret)) (.skip)))) (.reg S107.r5)))))) (.seq (.reg S107.r6) (.ret)))⟩
theorem S107_ok : EOk Tryz.prog 107 S107 := ⟨Tryz.f107, by kernel_rfl, by kernel_rfl, by decide, by kernel_rfl, its_nil (by kernel_rfl)⟩
def o107_l1 (cl : Handler) (N : Nat) (v0 v1 v4 v6 : AV) (h : AH) : Ans :=
  fst (kLen h v0) fun v9 h =>
  fst (kArith h .lss v6 v9) fun v10 h =>
  fif v10 (
  fst (kIdxA h 7 v0 v6) fun v15 h =>
  fst (kFldA h 0 v15) fun v16 h =>
  fst (kLd1 h v16) fun v17 h =>
  fst (kArith h .eql v17 v1) fun v19 h =>
  fif v19 (
  fst (kIdxA h 7 v0 v6) fun v22 h =>
  fst (kLdn h 7 v22) fun v23 h =>
  fst (kSt h 7 v4 v23) fun _ h =>
  some (.ret, [v0, v1, v4, v6], [v4, (.bool true)], h)) (
  fst (kArith h .add v6 (.int .i64 1)) fun v12 h =>
  some (.nrm, [v0, v1, v4, v12], [v4, .undef], h))) (
  some ((.exit 0), [v0, v1, v4, v6], [v4, .undef], h))
def o107_c2 (cl : Handler) (N : Nat) (v4 : AV) (h : AH) : Ans :=
  fst (kBuild h S107.z0 []) fun v24 h =>
  fst (kSt h 7 v4 v24) fun _ h =>
  fres (aresV h [.cell (v4) (some 7), .val ((.bool false))]) h
def o107_j3 (cl : Handler) (N : Nat) (x : AX) (v4 v5 : AV) (h : AH) : Ans :=
  fxs x (o107_c2 cl N v4 h) (fun j => cond (Nat.beq j 0) (o107_c2 cl N v4 h) (none)) (fres (aresV h [.cell (v4) (some 7), .val (v5)]) h)
def o107 (cl : Handler) (N : Nat) (v0 v1 : AV) (h : AH) : Ans :=
  fst (kNew h S107.z0) fun v4 h =>
  fjn (fiter (fun vs h => o107_l1 cl N (nthD vs 0) (nthD vs 1) (nthD vs 2) (nthD vs 3) h) N [v0, v1, v4, (.int .i64 0)] h) fun x vs h => o107_j3 cl N x (nthD vs 0) (nthD vs 1) h
theorem o107_eq (cl : Handler) (N : Nat) (v0 v1 : AV) (h : AH) : frun cl N S107 [v0, v1] h = fans (o107 cl N v0 v1 h) := by kernel_rfl
def w107 (N : Nat) : OF := fun cl args h => match args with
  | [v0, v1] => fans (o107 cl N v0 v1 h)
  | _ => none
theorem w107_ok (N : Nat) : OkF Tryz.prog 107 (w107 N) := .of (N := N) (S107_ok) fun cl args h r hr => by
  unfold w107 at hr
  split at hr
  · exact (o107_eq cl N _ _ _).trans hr
  · cases hr

/- widgetry/widgetryref24.Offset -/
def S108.r0 : List AOpr := [
  q 4 (.mov (.const (.int .i64 0)))]
def S108.r1 : List AOpr := [
  q 5 (.mov (.const (.int .i64 0)))]
def S108.r2 : List AOpr := [
  q 6 (.mov (x 5)),
  q 7 (.mov (x 0)),
  q 8 (.len (x 7)),
  q 9 (.arith .lss (x 6) (x 8))]
def S108.r3 : List AOpr := [
  q 12 (.mov (x 0)),
  q 13 (.mov (x 5)),
  q 14 (.idxA 2 (x 12) (x 13)),
  q 15 (.fldA 0 (x 14)),
  q 16 (.ld1 (x 15)),
  q 17 (.mov (x 1)),
  q 18 (.arith .eql (x 16) (x 17))]
def S108.r4 : List AOpr := [
  q 19 (.mov (x 0)),
  q 20 (.mov (x 5)),
  q 21 (.idxA 2 (x 19) (x 20)),
  q 22 (.fldA 1 (x 21)),
  q 23 (.ld1 (x 22)),
  q 4 (.mov (x 23))]
def S108.r5 : List AOpr := [
  q 10 (.mov (x 5)),
  q 11 (.arith .add (x 10) (.const (.int .i64 1))),
  q 5 (.mov (x 11))]
def S108.r6 : List AOpr := [
  q 4 (.mov (.const (.int .i64 0)))]
def S108 : SFn := ⟨24, [.tmp 4], .seq (.reg S108.r0) (.seq (.seq (.reg S108.r1) (.block 0 (.loop [0, 1, 5] [4] (.seq (.seq (.reg S108.r2) (.cond (x 9) (.skip) (.exit 0))) (.seq (.block 1 (.seq (.reg S108.r3) (.cond (x 18) (.seq (.reg S108.r4) (.ret)) (.skip)))) (.reg S108.r5)))))) (.seq (.reg S108.r6) (.ret)))⟩
theorem S108_ok : EOk Tryz.prog 108 S108 := ⟨Tryz.f108, by kernel_rfl, by kernel_rfl, by decide, by kernel_rfl, its_nil (by kernel_rfl)⟩
def o108_l1 (cl : Handler) (N : Nat) (v0 v1 v5 : AV) (h : AH) : Ans :=
  fst (kLen h v0) fun v8 h =>
  fst (kArith h .lss v5 v8) fun v9 h =>
  fif v9 (
  fst (kIdxA h 2 v0 v5) fun v14 h =>
  fst (kFldA h 0 v14) fun v15 h =>
  fst (kLd1 h v15) fun v16 h =>
  fst (kArith h .eql v16 v1) fun v18 h =>
  fif v18 (
  fst (kIdxA h 2 v0 v5) fun v21 h =>
  fst (kFldA h 1 v21) fun v22 h =>
  fst (kLd1 h v22) fun v23 h =>
  some (.ret, [v0, v1, v5], [v23], h)) (
  fst (kArith h .add v5 (.int .i64 1)) fun v11 h =>
  some (.nrm, [v0, v1, v11], [.undef], h))) (
  some ((.exit 0), [v0, v1, v5], [.undef], h))
def o108_c2 (cl : Handler) (N : Nat) (h : AH) : Ans :=
  some (.nrm, [], [(.int .i64 0)], h)
def o108_j3 (cl : Handler) (N : Nat) (x : AX) (v4 : AV) (h : AH) : Ans :=
  fxs x (o108_c2 cl N h) (fun j => cond (Nat.beq j 0) (o108_c2 cl N h) (none)) (some (.nrm, [], [v4], h))
def o108 (cl : Handler) (N : Nat) (v0 v1 : AV) (h : AH) : Ans :=
  fjn (fiter (fun vs h => o108_l1 cl N (nthD vs 0) (nthD vs 1) (nthD vs 2) h) N [v0, v1, (.int .i64 0)] h) fun x vs h => o108_j3 cl N x (nthD vs 0) h
theorem o108_eq (cl : Handler) (N : Nat) (v0 v1 : AV) (h : AH) : frun cl N S108 [v0, v1] h = fans (o108 cl N v0 v1 h) := by kernel_rfl
def w108 (N : Nat) : OF := fun cl args h => match args with
  | [v0, v1] => fans (o108 cl N v0 v1 h)
  | _ => none
theorem w108_ok (N : Nat) : OkF Tryz.prog 108 (w108 N) := .of (N := N) (S108_ok) fun cl args h r hr => by
  unfold w108 at hr
  split at hr
  · exact (o108_eq cl N _ _ _).trans hr
  · cases hr

def S110.z0 : List AV := [.str [], .str [], .str [], .nilsl]
/- widgetry/widgetryref30.Acts -/
def S110.r0 : List AOpr := [
  q 2 (.box (x 0)),
  q 4 (.mov (.const (.bool false)))]
def S110.r1 : List AOpr := [
  q 8 (.ldn 7 (x 2)),
  q 9 (.mov (x 1)),
  q 10 (.call (.const (.func (.func 152) [] [])) [.tmp 8, .tmp 9]),
  q 7 (.mov (x 10)),
  q 11 (.ext (x 7) 0),
  q 12 (.ext (x 7) 1),
  q 5 (.new S110.z0),
  ⟨none, .st 4 (x 5) (x 11), none⟩,
  q 6 (.mov (x 12))]
def S110.r2 : List AOpr := [
  q 13 (.mov (x 6)),
  q 4 (.mov (x 13))]
def S110 : SFn := ⟨14, [.tmp 4], .seq (.reg S110.r0) (.seq (.reg S110.r1) (.seq (.reg S110.r2) (.ret)))⟩
theorem S110_ok : EOk Tryz.prog 110 S110 := ⟨Tryz.f110, by kernel_rfl, by kernel_rfl, by decide, by kernel_rfl, its_nil (by kernel_rfl)⟩
def o110 (cl : Handler) (N : Nat) (v0 v1 : AV) (h : AH) : Ans :=
  fst (kBox h v0) fun v2 h =>
  fst (kLdn h 7 v2) fun v8 h =>
  fst (cl 152 [v8, v1] h) fun v10 h =>
  fst (kExt h v10 0) fun v11 h =>
  fst (kExt h v10 1) fun v12 h =>
  fst (kNew h S110.z0) fun v5 h =>
  fst (kSt h 4 v5 v11) fun _ h =>
  some (.nrm, [], [v12], h)
theorem o110_eq (cl : Handler) (N : Nat) (v0 v1 : AV) (h : AH) : frun cl N S110 [v0, v1] h = fans (o110 cl N v0 v1 h) := by kernel_rfl
def w110 (N : Nat) : OF := fun cl args h => match args with
  | [v0, v1] => fans (o110 cl N v0 v1 h)
  | _ => none
theorem w110_ok (N : Nat) : OkF Tryz.prog 110 (w110 N) := .of (N := N) (S110_ok) fun cl args h r hr => by
  unfold w110 at hr
  split at hr
  · exact (o110_eq cl N _ _ _).trans hr
  · cases hr

def S111.z0 : List AV := [.int .i64 0, .int .i64 0, .int .i64 0, .int .i64 0]
/- widgetry/widgetryref29.Bounds -/
def S111.r0 : List AOpr := [
  q 6 (.box (x 0)),
  q 11 (.box (x 5)),
  q 12 (.new S111.z0)]
def S111.r1 : List AOpr := [
  q 17 (.ldn 3 (x 6)),
  q 18 (.mov (x 1)),
  q 19 (.mov (x 2)),
  q 20 (.mov (x 3)),
  q 21 (.mov (x 4)),
  q 22 (.call (.const (.func (.func 153) [] [])) [.tmp 17, .tmp 18, .tmp 19, .tmp 20, .tmp 21]),
  q 16 (.mov (x 22)),
  q 23 (.ext (x 16) 0),
  q 24 (.ext (x 16) 1),
  q 13 (.new [.nilsl, .int .i64 0, .int .i64 0]),
  ⟨none, .st 3 (x 13) (x 23), none⟩,
  q 14 (.mov (x 24))]
def S111.r2 : List AOpr := [
  q 25 (.mov (x 14)),
  q 26 (.un .not (x 25)),
  q 27 (.mov (x 26)),
  ⟨some 28, .ldn 4 (x 11), some (27, false)⟩,
  ⟨some 29, .call (.const (.func (.func 149) [] [])) [.tmp 28], some (27, false)⟩,
  ⟨some 30, .un .not (x 29), some (27, false)⟩,
  q 31 (.pick (x 27) (.const (.bool true)) (x 30))]
def S111.r3 : List AOpr := [
  q 32 (.build S111.z0 []),
  ⟨none, .st 4 (x 12) (x 32), none⟩]
def S111.r4 : List AOpr := [
  q 33 (.fldA 0 (x 11)),
  q 34 (.ld1 (x 33)),
  q 35 (.fldA 1 (x 13)),
  q 36 (.ld1 (x 35)),
  q 37 (.arith .add (x 34) (x 36)),
  q 38 (.fldA 1 (x 11)),
  q 39 (.ld1 (x 38)),
  q 40 (.fldA 2 (x 13)),
  q 41 (.ld1 (x 40)),
  q 42 (.arith .add (x 39) (x 41)),
  q 43 (.fldA 2 (x 11)),
  q 44 (.ld1 (x 43)),
  q 45 (.fldA 3 (x 11)),
  q 46 (.ld1 (x 45)),
  q 47 (.build S111.z0 [(0, 1, .tmp 37), (1, 1, .tmp 42), (2, 1, .tmp 44), (3, 1, .tmp 46)]),
  ⟨none, .st 4 (x 11) (x 47), none⟩]
def S111.r5 : List AOpr := [
  q 48 (.fldA 0 (x 13)),
  q 49 (.ld1 (x 48)),
  q 50 (.len (x 49)),
  q 51 (.arith .sub (x 50) (.const (.int .i64 1))),
  q 15 (.mov (x 51))]
def S111.r6 : List AOpr := [
  q 52 (.mov (x 15)),
  q 53 (.arith .geq (x 52) (.const (.int .i64 0)))]
def S111.r7 : List AOpr := [
  q 56 (.ldn 4 (x 11)),
  q 57 (.call (.const (.func (.func 149) [] [])) [.tmp 56]),
  q 58 (.un .not (x 57)),
  q 59 (.mov (x 58)),
  ⟨some 60, .fldA 0 (x 13), some (59, false)⟩,
  ⟨some 61, .ld1 (x 60), some (59, false)⟩,
  ⟨some 62, .mov (x 15), some (59, false)⟩,
  ⟨some 63, .idxA 5 (x 61) (x 62), some (59, false)⟩,
  ⟨some 64, .ldn 5 (x 63), some (59, false)⟩,
  ⟨some 65, .call (.const (.func (.func 154) [] [])) [.tmp 64], some (59, false)⟩,
  ⟨some 66, .un .not (x 65), some (59, false)⟩,
  q 67 (.pick (x 59) (.const (.bool true)) (x 66))]
def S111.r8 : List AOpr := [
  q 68 (.build S111.z0 []),
  ⟨none, .st 4 (x 12) (x 68), none⟩]
def S111.r9 : List (AOpr × Nat) := [
  (q 69 (.fldA 0 (x 13)), 0),
  (q 70 (.ld1 (x 69)), 1),
  (q 71 (.mov (x 15)), 0),
  (q 72 (.idxA 5 (x 70) (x 71)), 7),
  (q 73 (.ldn 5 (x 72)), 15),
  (q 74 (.ldn 4 (x 11)), 0),
  (q 75 (.call (.const (.func (.func 155) [] [])) [.tmp 73, .tmp 74]), 63),
  (⟨none, .st 4 (x 11) (x 75), none⟩, 127)]
def S111.r10 : List AOpr := [
  q 54 (.mov (x 15)),
  q 55 (.arith .sub (x 54) (.const (.int .i64 1))),
  q 15 (.mov (x 55))]
def S111.r11 : List AOpr := [
  q 76 (.ldn 4 (x 11)),
  q 77 (.call (.const (.func (.func 149) [] [])) [.tmp 76]),
  q 78 (.un .not (x 77))]
def S111.r12 : List AOpr := [
  q 79 (.build S111.z0 []),
  ⟨none, .st 4 (x 12) (x 79), none⟩]
def S111.r13 : List AOpr := [
  q 80 (.ldn 4 (x 11)),
  ⟨none, .st 4 (x 12) (x 80), none⟩]
def S111 : SFn := ⟨81, [.cell 12 (some 4)], .seq (.reg S111.r0) (.seq (.reg S111.r1) (.seq (.seq (.joinN [11, 12, 13, 31] (.reg S111.r2)) (.cond (x 31) (.seq (.reg S111.r3) (.ret)) (.skip))) (.seq (.reg S111.r4) (.seq (.seq (.reg S111.r5) (.block 0 (.loop [11, 12, 13, 15] [11, 12] (.seq (.seq (.reg S111.r6) (.cond (x 53) (.skip) (.exit 0))) (.seq (.block 1 (.seq (.seq (.joinN [11, 12, 13, 15, 67] (.reg S111.r7)) (.cond (x 67) (.seq (.reg S111.r8) (.ret)) (.skip))) (.draw S111.r9))) (.reg S111.r10)))))) (.seq (.seq (.reg S111.r11) (.cond (x 78) (.seq (.reg S111.r12) (.ret)) (.skip))) (.seq (.reg S111.r13) (.ret)))))))⟩
theorem S111_ok : EOk Tryz.prog 111 S111 := ⟨Tryz.f111, by kernel_rfl, by kernel_rfl, by decide, by kernel_rfl, its_nil (by kernel_rfl)⟩
def o111_a1 (cl : Handler) (N : Nat) (v11 v12 v13 v14 : AV) (h : AH) : Ans :=
  fst (kUn h .not v14) fun v26 h =>
  fgd (gdv false v26) (kLdn h 4 v11) h fun v28 h =>
  fgd (gdv false v26) (cl 149 [v28] h) h fun v29 h =>
  fgd (gdv false v26) (kUn h .not v29) h fun v30 h =>
  fst (kPick h v26 (.bool true) v30) fun v31 h =>
  some (.nrm, [], [v11, v12, v13, v31], h)
def o111_s1 (cl : Handler) (N : Nat) (v11 v12 v13 v15 v59 v66 : AV) (h : AH) : Ans :=
  fst (kPick h v59 (.bool true) v66) fun v67 h =>
  some (.nrm, [], [v11, v12, v13, v15, v67], h)
def o111_a2 (cl : Handler) (N : Nat) (v11 v12 v13 v15 : AV) (h : AH) : Ans :=
  fst (kLdn h 4 v11) fun v56 h =>
  fst (cl 149 [v56] h) fun v57 h =>
  fst (kUn h .not v57) fun v58 h =>
  fgd (gdv false v58) (kFldA h 0 v13) h fun v60 h =>
  fgd (gdv false v58) (kLd1 h v60) h fun v61 h =>
  fgd (gdv false v58) (kMov h v15) h fun v62 h =>
  fgd (gdv false v58) (kIdxA h 5 v61 v62) h fun v63 h =>
  fgd (gdv false v58) (kLdn h 5 v63) h fun v64 h =>
  fgd (gdv false v58) (cl 154 [v64] h) h fun v65 h =>
  fgd (gdv false v58) (kUn h .not v65) h fun v66 h =>
  o111_s1 cl N v11 v12 v13 v15 v58 v66 h
def o111_j3 (cl : Handler) (N : Nat) (v11 v12 v13 v15 v67 : AV) (h : AH) : Ans :=
  fif v67 (
  fst (kBuild h S111.z0 []) fun v68 h =>
  fst (kSt h 4 v12 v68) fun _ h =>
  some (.ret, [v11, v12, v13, v15], [v11, v12], h)) (
  fdr h 8 fun r h =>
  fdp h (kFldA h 0 v13) .pure fun v69 c0 h =>
  fdp h (kLd1 h v69) (rdK (rdv v69)) fun v70 c1 h =>
  fdp h (kMov h v15) .pure fun v71 c2 h =>
  fdp h (kIdxA h 5 v70 v71) .pure fun v72 c3 h =>
  fdp h (kLdn h 5 v72) (rdK (rdv v72)) fun v73 c4 h =>
  fdp h (kLdn h 4 v11) (rdK (rdv v11)) fun v74 c5 h =>
  fde h (cl 155 [v73, v74] h) fun v75 c6 h =>
  fde h (kSt h 4 v11 v75) fun _ c7 h =>
  cond (fchk [c0, c1, c2, c3, c4, c5, c6, c7] []) (fst (kArith h .sub v15 (.int .i64 1)) fun v55 h =>
  some (.nrm, [v11, v12, v13, v55], [v11, v12], h)) none)
def o111_l4 (cl : Handler) (N : Nat) (v11 v12 v13 v15 : AV) (h : AH) : Ans :=
  fst (kArith h .geq v15 (.int .i64 0)) fun v53 h =>
  fif v53 (
  fjn (o111_a2 cl N v11 v12 v13 v15 h) fun _ vs h => o111_j3 cl N (nthD vs 0) (nthD vs 1) (nthD vs 2) (nthD vs 3) (nthD vs 4) h) (
  some ((.exit 0), [v11, v12, v13, v15], [v11, v12], h))
def o111_c5 (cl : Handler) (N : Nat) (v11 v12 : AV) (h : AH) : Ans :=
  fst (kLdn h 4 v11) fun v76 h =>
  fst (cl 149 [v76] h) fun v77 h =>
  fst (kUn h .not v77) fun v78 h =>
  fif v78 (
  fst (kBuild h S111.z0 []) fun v79 h =>
  fst (kSt h 4 v12 v79) fun _ h =>
  fres (aresV h [.cell (v12) (some 4)]) h) (
  fst (kLdn h 4 v11) fun v80 h =>
  fst (kSt h 4 v12 v80) fun _ h =>
  fres (aresV h [.cell (v12) (some 4)]) h)
def o111_j6 (cl : Handler) (N : Nat) (x : AX) (v11 v12 : AV) (h : AH) : Ans :=
  fxs x (o111_c5 cl N v11 v12 h) (fun j => cond (Nat.beq j 0) (o111_c5 cl N v11 v12 h) (none)) (fres (aresV h [.cell (v12) (some 4)]) h)
def o111_s2 (cl : Handler) (N : Nat) (v11 v12 v13 v51 : AV) (h : AH) : Ans :=
  fjn (fiter (fun vs h => o111_l4 cl N (nthD vs 0) (nthD vs 1) (nthD vs 2) (nthD vs 3) h) N [v11, v12, v13, v51] h) fun x vs h => o111_j6 cl N x (nthD vs 0) (nthD vs 1) h
def o111_s3 (cl : Handler) (N : Nat) (v11 v12 v13 v37 v42 : AV) (h : AH) : Ans :=
  fst (kFldA h 2 v11) fun v43 h =>
  fst (kLd1 h v43) fun v44 h =>
  fst (kFldA h 3 v11) fun v45 h =>
  fst (kLd1 h v45) fun v46 h =>
  fst (kBuild h S111.z0 [(0, 1, v37), (1, 1, v42), (2, 1, v44), (3, 1, v46)]) fun v47 h =>
  fst (kSt h 4 v11 v47) fun _ h =>
  fst (kFldA h 0 v13) fun v48 h =>
  fst (kLd1 h v48) fun v49 h =>
  fst (kLen h v49) fun v50 h =>
  fst (kArith h .sub v50 (.int .i64 1)) fun v51 h =>
  o111_s2 cl N v11 v12 v13 v51 h
def o111_j7 (cl : Handler) (N : Nat) (v11 v12 v13 v31 : AV) (h : AH) : Ans :=
  fif v31 (
  fst (kBuild h S111.z0 []) fun v32 h =>
  fst (kSt h 4 v12 v32) fun _ h =>
  fres (aresV h [.cell (v12) (some 4)]) h) (
  fst (kFldA h 0 v11) fun v33 h =>
  fst (kLd1 h v33) fun v34 h =>
  fst (kFldA h 1 v13) fun v35 h =>
  fst (kLd1 h v35) fun v36 h =>
  fst (kArith h .add v34 v36) fun v37 h =>
  fst (kFldA h 1 v11) fun v38 h =>
  fst (kLd1 h v38) fun v39 h =>
  fst (kFldA h 2 v13) fun v40 h =>
  fst (kLd1 h v40) fun v41 h =>
  fst (kArith h .add v39 v41) fun v42 h =>
  o111_s3 cl N v11 v12 v13 v37 v42 h)
def o111 (cl : Handler) (N : Nat) (v0 v1 v2 v3 v4 v5 : AV) (h : AH) : Ans :=
  fst (kBox h v0) fun v6 h =>
  fst (kBox h v5) fun v11 h =>
  fst (kNew h S111.z0) fun v12 h =>
  fst (kLdn h 3 v6) fun v17 h =>
  fst (cl 153 [v17, v1, v2, v3, v4] h) fun v22 h =>
  fst (kExt h v22 0) fun v23 h =>
  fst (kExt h v22 1) fun v24 h =>
  fst (kNew h [.nilsl, .int .i64 0, .int .i64 0]) fun v13 h =>
  fst (kSt h 3 v13 v23) fun _ h =>
  fjn (o111_a1 cl N v11 v12 v13 v24 h) fun _ vs h => o111_j7 cl N (nthD vs 0) (nthD vs 1) (nthD vs 2) (nthD vs 3) h
theorem o111_eq (cl : Handler) (N : Nat) (v0 v1 v2 v3 v4 v5 : AV) (h : AH) : frun cl N S111 [v0, v1, v2, v3, v4, v5] h = fans (o111 cl N v0 v1 v2 v3 v4 v5 h) := by kernel_rfl
def w111 (N : Nat) : OF := fun cl args h => match args with
  | [v0, v1, v2, v3, v4, v5] => fans (o111 cl N v0 v1 v2 v3 v4 v5 h)
  | _ => none
theorem w111_ok (N : Nat) : OkF Tryz.prog 111 (w111 N) := .of (N := N) (S111_ok) fun cl args h r hr => by
  unfold w111 at hr
  split at hr
  · exact (o111_eq cl N _ _ _ _ _ _ _).trans hr
  · cases hr

def S112.z0 : List AV := [.int .i64 0, .int .i64 0, .str [], .nilsl]
/- widgetry/widgetryref37.Texts -/
def S112.r0 : List AOpr := [
  q 2 (.box (x 0)),
  q 4 (.mov (.const (.nilsl)))]
def S112.r1 : List AOpr := [
  q 10 (.fldA 4 (x 2)),
  q 11 (.ld1 (x 10)),
  q 12 (.mov (x 1)),
  q 13 (.call (.const (.func (.func 114) [] [])) [.tmp 11, .tmp 12]),
  q 9 (.mov (x 13)),
  q 14 (.ext (x 9) 0),
  q 15 (.ext (x 9) 1),
  q 5 (.new S112.z0),
  ⟨none, .st 4 (x 5) (x 14), none⟩,
  q 6 (.mov (x 15))]
def S112.r2 : List AOpr := [
  q 7 (.mov (.const (.nilsl)))]
def S112.r3 : List AOpr := [
  q 17 (.mov (x 6)),
  q 18 (.un .not (x 17)),
  q 16 (.mov (x 18))]
def S112.r4 : List AOpr := [
  q 20 (.fldA 0 (x 5)),
  q 21 (.ld1 (x 20)),
  q 22 (.arith .eql (x 21) (.const (.int .i64 3))),
  q 19 (.mov (x 22))]
def S112.r5 : List AOpr := [
  q 23 (.mov (x 7)),
  q 24 (.fldA 2 (x 5)),
  q 25 (.ld1 (x 24)),
  q 26 (.buildSl 1 1 [.str []] [(0, 1, .tmp 25)]),
  q 27 (.app 1 16 (x 23) (x 26)),
  q 7 (.mov (x 27))]
def S112.r6 : List AOpr := [
  q 29 (.fldA 0 (x 5)),
  q 30 (.ld1 (x 29)),
  q 31 (.arith .eql (x 30) (.const (.int .i64 4))),
  q 28 (.mov (x 31))]
def S112.r7 : List AOpr := [
  q 8 (.mov (.const (.int .i64 0)))]
def S112.r8 : List AOpr := [
  q 32 (.mov (x 8)),
  q 33 (.fldA 3 (x 5)),
  q 34 (.ld1 (x 33)),
  q 35 (.len (x 34)),
  q 36 (.arith .lss (x 32) (x 35))]
def S112.r9 : List AOpr := [
  q 39 (.fldA 3 (x 5)),
  q 40 (.ld1 (x 39)),
  q 41 (.mov (x 8)),
  q 42 (.idxA 4 (x 40) (x 41)),
  q 43 (.fldA 0 (x 42)),
  q 44 (.ld1 (x 43)),
  q 45 (.arith .eql (x 44) (.const (.int .i64 3)))]
def S112.r10 : List AOpr := [
  q 46 (.mov (x 7)),
  q 47 (.fldA 3 (x 5)),
  q 48 (.ld1 (x 47)),
  q 49 (.mov (x 8)),
  q 50 (.idxA 4 (x 48) (x 49)),
  q 51 (.fldA 2 (x 50)),
  q 52 (.ld1 (x 51)),
  q 53 (.buildSl 1 1 [.str []] [(0, 1, .tmp 52)]),
  q 54 (.app 1 16 (x 46) (x 53)),
  q 7 (.mov (x 54))]
def S112.r11 : List AOpr := [
  q 37 (.mov (x 8)),
  q 38 (.arith .add (x 37) (.const (.int .i64 1))),
  q 8 (.mov (x 38))]
def S112.r12 : List AOpr := [
  q 55 (.mov (x 7)),
  q 4 (.mov (x 55))]
def S112 : SFn := ⟨56, [.tmp 4], .seq (.reg S112.r0) (.seq (.reg S112.r1) (.seq (.reg S112.r2) (.seq (.joinN [7] (.block 0 (.seq (.reg S112.r3) (.cond (x 16) (.skip) (.seq (.reg S112.r4) (.cond (x 19) (.reg S112.r5) (.seq (.reg S112.r6) (.cond (x 28) (.seq (.reg S112.r7) (.block 1 (.loop [5, 7, 8] [7] (.seq (.seq (.reg S112.r8) (.cond (x 36) (.skip) (.exit 1))) (.seq (.joinN [5, 7, 8] (.block 2 (.seq (.reg S112.r9) (.cond (x 45) (.reg S112.r10) (.skip))))) (.reg S112.r11)))))) (.skip))))))))) (.seq (.reg S112.r12) (.ret)))))⟩
theorem S112_ok : EOk Tryz.prog 112 S112 := ⟨Tryz.f112, by kernel_rfl, by kernel_rfl, by decide, by kernel_rfl, its_nil (by kernel_rfl)⟩
def o112_s1 (cl : Handler) (N : Nat) (v5 v8 v46 v51 : AV) (h : AH) : Ans :=
  fst (kLd1 h v51) fun v52 h =>
  fst (kBuildSl h 1 1 [.str []] [(0, 1, v52)]) fun v53 h =>
  fst (kApp h 1 16 v46 v53) fun v54 h =>
  some (.nrm, [], [v5, v54, v8], h)
def o112_a1 (cl : Handler) (N : Nat) (v5 v7 v8 : AV) (h : AH) : Ans :=
  fst (kFldA h 3 v5) fun v39 h =>
  fst (kLd1 h v39) fun v40 h =>
  fst (kIdxA h 4 v40 v8) fun v42 h =>
  fst (kFldA h 0 v42) fun v43 h =>
  fst (kLd1 h v43) fun v44 h =>
  fst (kArith h .eql v44 (.int .i64 3)) fun v45 h =>
  fif v45 (
  fst (kFldA h 3 v5) fun v47 h =>
  fst (kLd1 h v47) fun v48 h =>
  fst (kIdxA h 4 v48 v8) fun v50 h =>
  fst (kFldA h 2 v50) fun v51 h =>
  o112_s1 cl N v5 v8 v7 v51 h) (
  some (.nrm, [], [v5, v7, v8], h))
def o112_j2 (cl : Handler) (N : Nat) (v5 v7 v8 : AV) (h : AH) : Ans :=
  fst (kArith h .add v8 (.int .i64 1)) fun v38 h =>
  some (.nrm, [v5, v7, v38], [v7], h)
def o112_l3 (cl : Handler) (N : Nat) (v5 v7 v8 : AV) (h : AH) : Ans :=
  fst (kFldA h 3 v5) fun v33 h =>
  fst (kLd1 h v33) fun v34 h =>
  fst (kLen h v34) fun v35 h =>
  fst (kArith h .lss v8 v35) fun v36 h =>
  fif v36 (
  fjn (o112_a1 cl N v5 v7 v8 h) fun _ vs h => o112_j2 cl N (nthD vs 0) (nthD vs 1) (nthD vs 2) h) (
  some ((.exit 1), [v5, v7, v8], [v7], h))
def o112_c4 (cl : Handler) (N : Nat) (v7 : AV) (h : AH) : Ans :=
  some (.nrm, [], [v7], h)
def o112_j5 (cl : Handler) (N : Nat) (x : AX) (v7 : AV) (h : AH) : Ans :=
  fxs x (o112_c4 cl N v7 h) (fun j => cond (Nat.beq j 1) (o112_c4 cl N v7 h) (cond (Nat.beq j 0) (some (.nrm, [], [v7], h)) (none))) (none)
def o112_a6 (cl : Handler) (N : Nat) (v5 v6 v7 : AV) (h : AH) : Ans :=
  fst (kUn h .not v6) fun v18 h =>
  fif v18 (
  some (.nrm, [], [v7], h)) (
  fst (kFldA h 0 v5) fun v20 h =>
  fst (kLd1 h v20) fun v21 h =>
  fst (kArith h .eql v21 (.int .i64 3)) fun v22 h =>
  fif v22 (
  fst (kFldA h 2 v5) fun v24 h =>
  fst (kLd1 h v24) fun v25 h =>
  fst (kBuildSl h 1 1 [.str []] [(0, 1, v25)]) fun v26 h =>
  fst (kApp h 1 16 v7 v26) fun v27 h =>
  some (.nrm, [], [v27], h)) (
  fst (kFldA h 0 v5) fun v29 h =>
  fst (kLd1 h v29) fun v30 h =>
  fst (kArith h .eql v30 (.int .i64 4)) fun v31 h =>
  fif v31 (
  fjn (fiter (fun vs h => o112_l3 cl N (nthD vs 0) (nthD vs 1) (nthD vs 2) h) N [v5, v7, (.int .i64 0)] h) fun x vs h => o112_j5 cl N x (nthD vs 0) h) (
  some (.nrm, [], [v7], h))))
def o112_j7 (cl : Handler) (N : Nat) (v7 : AV) (h : AH) : Ans :=
  some (.nrm, [], [v7], h)
def o112 (cl : Handler) (N : Nat) (v0 v1 : AV) (h : AH) : Ans :=
  fst (kBox h v0) fun v2 h =>
  fst (kFldA h 4 v2) fun v10 h =>
  fst (kLd1 h v10) fun v11 h =>
  fst (cl 114 [v11, v1] h) fun v13 h =>
  fst (kExt h v13 0) fun v14 h =>
  fst (kExt h v13 1) fun v15 h =>
  fst (kNew h S112.z0) fun v5 h =>
  fst (kSt h 4 v5 v14) fun _ h =>
  fjn (o112_a6 cl N v5 v15 (.nilsl) h) fun _ vs h => o112_j7 cl N (nthD vs 0) h
theorem o112_eq (cl : Handler) (N : Nat) (v0 v1 : AV) (h : AH) : frun cl N S112 [v0, v1] h = fans (o112 cl N v0 v1 h) := by kernel_rfl
def w112 (N : Nat) : OF := fun cl args h => match args with
  | [v0, v1] => fans (o112 cl N v0 v1 h)
  | _ => none
theorem w112_ok (N : Nat) : OkF Tryz.prog 112 (w112 N) := .of (N := N) (S112_ok) fun cl args h r hr => by
  unfold w112 at hr
  split at hr
  · exact (o112_eq cl N _ _ _).trans hr
  · cases hr

def S114.z0 : List AV := [.int .i64 0, .int .i64 0, .str [], .nilsl]
/- widgetry/widgetryref14.Attr -/
def S114.r0 : List AOpr := [
  q 4 (.new S114.z0),
  q 5 (.mov (.const (.bool false)))]
def S114.r1 : List AOpr := [
  q 6 (.mov (.const (.int .i64 0)))]
def S114.r2 : List AOpr := [
  q 7 (.mov (x 6)),
  q 8 (.mov (x 0)),
  q 9 (.len (x 8)),
  q 10 (.arith .lss (x 7) (x 9))]
def S114.r3 : List AOpr := [
  q 13 (.mov (x 0)),
  q 14 (.mov (x 6)),
  q 15 (.idxA 5 (x 13) (x 14)),
  q 16 (.fldA 0 (x 15)),
  q 17 (.ld1 (x 16)),
  q 18 (.mov (x 1)),
  q 19 (.arith .eql (x 17) (x 18))]
def S114.r4 : List AOpr := [
  q 20 (.mov (x 0)),
  q 21 (.mov (x 6)),
  q 22 (.idxA 5 (x 20) (x 21)),
  q 23 (.fldA 1 (x 22)),
  q 24 (.ldn 4 (x 23)),
  ⟨none, .st 4 (x 4) (x 24), none⟩,
  q 5 (.mov (.const (.bool true)))]
def S114.r5 : List AOpr := [
  q 11 (.mov (x 6)),
  q 12 (.arith .add (x 11) (.const (.int .i64 1))),
  q 6 (.mov (x 12))]
def S114.r6 : List AOpr := [
  q 25 (.build S114.z0 []),
  ⟨none, .st 4 (x 4) (x 25), none⟩,
  q 5 (.mov (.const (.bool false)))]
def S114 : SFn := ⟨26, [.cell 4 (some 4), .tmp 5], .seq (.reg S114.r0) (.seq (.seq (.reg S114.r1) (.block 0 (.loop [0, 1, 4, 6] [4, 5] (.seq (.seq (.reg S114.r2) (.cond (x 10) (.skip) (.exit 0))) (.seq (.block 1 (.seq (.reg S114.r3) (.cond (x 19) (.seq (.reg S114.r4) (.ret)) (.skip)))) (.reg S114.r5)))))) (.seq (.reg S114.r6) (.ret)))⟩
theorem S114_ok : EOk Tryz.prog 114 S114 := ⟨Tryz.f114, by kernel_rfl, by kernel_rfl, by decide, by kernel_rfl, its_nil (by kernel_rfl)⟩
def o114_s1 (cl : Handler) (N : Nat) (v0 v1 v4 v6 : AV) (h : AH) : Ans :=
  some (.ret, [v0, v1, v4, v6], [v4, (.bool true)], h)
def o114_l1 (cl : Handler) (N : Nat) (v0 v1 v4 v6 : AV) (h : AH) : Ans :=
  fst (kLen h v0) fun v9 h =>
  fst (kArith h .lss v6 v9) fun v10 h =>
  fif v10 (
  fst (kIdxA h 5 v0 v6) fun v15 h =>
  fst (kFldA h 0 v15) fun v16 h =>
  fst (kLd1 h v16) fun v17 h =>
  fst (kArith h .eql v17 v1) fun v19 h =>
  fif v19 (
  fst (kIdxA h 5 v0 v6) fun v22 h =>
  fst (kFldA h 1 v22) fun v23 h =>
  fst (kLdn h 4 v23) fun v24 h =>
  fst (kSt h 4 v4 v24) fun _ h =>
  o114_s1 cl N v0 v1 v4 v6 h) (
  fst (kArith h .add v6 (.int .i64 1)) fun v12 h =>
  some (.nrm, [v0, v1, v4, v12], [v4, .undef], h))) (
  some ((.exit 0), [v0, v1, v4, v6], [v4, .undef], h))
def o114_c2 (cl : Handler) (N : Nat) (v4 : AV) (h : AH) : Ans :=
  fst (kBuild h S114.z0 []) fun v25 h =>
  fst (kSt h 4 v4 v25) fun _ h =>
  fres (aresV h [.cell (v4) (some 4), .val ((.bool false))]) h
def o114_j3 (cl : Handler) (N : Nat) (x : AX) (v4 v5 : AV) (h : AH) : Ans :=
  fxs x (o114_c2 cl N v4 h) (fun j => cond (Nat.beq j 0) (o114_c2 cl N v4 h) (none)) (fres (aresV h [.cell (v4) (some 4), .val (v5)]) h)
def o114 (cl : Handler) (N : Nat) (v0 v1 : AV) (h : AH) : Ans :=
  fst (kNew h S114.z0) fun v4 h =>
  fjn (fiter (fun vs h => o114_l1 cl N (nthD vs 0) (nthD vs 1) (nthD vs 2) (nthD vs 3) h) N [v0, v1, v4, (.int .i64 0)] h) fun x vs h => o114_j3 cl N x (nthD vs 0) (nthD vs 1) h
theorem o114_eq (cl : Handler) (N : Nat) (v0 v1 : AV) (h : AH) : frun cl N S114 [v0, v1] h = fans (o114 cl N v0 v1 h) := by kernel_rfl
def w114 (N : Nat) : OF := fun cl args h => match args with
  | [v0, v1] => fans (o114 cl N v0 v1 h)
  | _ => none
theorem w114_ok (N : Nat) : OkF Tryz.prog 114 (w114 N) := .of (N := N) (S114_ok) fun cl args h r hr => by
  unfold w114 at hr
  split at hr
  · exact (o114_eq cl N _ _ _).trans hr
  · cases hr

def S116.z0 : List AV := [.int .i64 0, .int .i64 0, .int .i64 0, .str [], .nilsl, .nilsl, .nilsl]
/- widgetry/widgetryref14.order -/
def S116.r0 : List AOpr := [
  q 3 (.box (x 0)),
  q 6 (.mov (.const (.nilsl)))]
def S116.r1 : List AOpr := [
  q 9 (.mov (x 2)),
  q 10 (.mov (x 1)),
  q 11 (.buildSl 1 1 [.int .i64 0] [(0, 1, .tmp 10)]),
  q 12 (.app 1 8 (x 9) (x 11)),
  q 2 (.mov (x 12))]
def S116.r2 : List AOpr := [
  q 13 (.ldn 3 (x 3)),
  q 14 (.mov (x 1)),
  q 15 (.call (.const (.func (.func 97) [] [])) [.tmp 13, .tmp 14]),
  q 7 (.new S116.z0),
  ⟨none, .st 7 (x 7) (x 15), none⟩]
def S116.r3 : List AOpr := [
  q 8 (.mov (.const (.int .i64 0)))]
def S116.r4 : List AOpr := [
  q 16 (.mov (x 8)),
  q 17 (.fldA 6 (x 7)),
  q 18 (.ld1 (x 17)),
  q 19 (.len (x 18)),
  q 20 (.arith .lss (x 16) (x 19))]
def S116.r5 : List (AOpr × Nat) := [
  (q 23 (.ldn 3 (x 3)), 0),
  (q 24 (.fldA 6 (x 7)), 0),
  (q 25 (.ld1 (x 24)), 2),
  (q 26 (.mov (x 8)), 0),
  (q 27 (.idxA 1 (x 25) (x 26)), 14),
  (q 28 (.ld1 (x 27)), 30),
  (q 29 (.mov (x 2)), 0),
  (q 30 (.call (.const (.func (.func 116) [] [])) [.tmp 23, .tmp 28, .tmp 29]), 127),
  (q 2 (.mov (x 30)), 255)]
def S116.r6 : List AOpr := [
  q 21 (.mov (x 8)),
  q 22 (.arith .add (x 21) (.const (.int .i64 1))),
  q 8 (.mov (x 22))]
def S116.r7 : List AOpr := [
  q 31 (.mov (x 2)),
  q 6 (.mov (x 31))]
def S116 : SFn := ⟨32, [.tmp 6], .seq (.reg S116.r0) (.seq (.reg S116.r1) (.seq (.reg S116.r2) (.seq (.seq (.reg S116.r3) (.block 0 (.loop [2, 3, 7, 8] [2] (.seq (.seq (.reg S116.r4) (.cond (x 20) (.skip) (.exit 0))) (.seq (.block 1 (.draw S116.r5)) (.reg S116.r6)))))) (.seq (.reg S116.r7) (.ret)))))⟩
theorem S116_ok : EOk Tryz.prog 116 S116 := ⟨Tryz.f116, by kernel_rfl, by kernel_rfl, by decide, by kernel_rfl, its_nil (by kernel_rfl)⟩
def o116_s1 (cl : Handler) (N : Nat) (c0 c1 c2 c3 c4 c5 : Rec) (v2 v3 v7 v8 v23 v28 : AV) (h : AH) : Ans :=
  fdp h (kMov h v2) .pure fun v29 c6 h =>
  fde h (cl 116 [v23, v28, v29] h) fun v30 c7 h =>
  fdp h (kMov h v30) .pure fun v2 c8 h =>
  cond (fchk [c0, c1, c2, c3, c4, c5, c6, c7, c8] []) (fst (kArith h .add v8 (.int .i64 1)) fun v22 h =>
  some (.nrm, [v2, v3, v7, v22], [v2], h)) none
def o116_l1 (cl : Handler) (N : Nat) (v2 v3 v7 v8 : AV) (h : AH) : Ans :=
  fst (kFldA h 6 v7) fun v17 h =>
  fst (kLd1 h v17) fun v18 h =>
  fst (kLen h v18) fun v19 h =>
  fst (kArith h .lss v8 v19) fun v20 h =>
  fif v20 (
  fdr h 9 fun r h =>
  fdp h (kLdn h 3 v3) (rdK (rdv v3)) fun v23 c0 h =>
  fdp h (kFldA h 6 v7) .pure fun v24 c1 h =>
  fdp h (kLd1 h v24) (rdK (rdv v24)) fun v25 c2 h =>
  fdp h (kMov h v8) .pure fun v26 c3 h =>
  fdp h (kIdxA h 1 v25 v26) .pure fun v27 c4 h =>
  fdp h (kLd1 h v27) (rdK (rdv v27)) fun v28 c5 h =>
  o116_s1 cl N c0 c1 c2 c3 c4 c5 v2 v3 v7 v8 v23 v28 h) (
  some ((.exit 0), [v2, v3, v7, v8], [v2], h))
def o116_c2 (cl : Handler) (N : Nat) (v2 : AV) (h : AH) : Ans :=
  some (.nrm, [], [v2], h)
def o116_j3 (cl : Handler) (N : Nat) (x : AX) (v2 : AV) (h : AH) : Ans :=
  fxs x (o116_c2 cl N v2 h) (fun j => cond (Nat.beq j 0) (o116_c2 cl N v2 h) (none)) (some (.nrm, [], [.undef], h))
def o116 (cl : Handler) (N : Nat) (v0 v1 v2 : AV) (h : AH) : Ans :=
  fst (kBox h v0) fun v3 h =>
  fst (kBuildSl h 1 1 [.int .i64 0] [(0, 1, v1)]) fun v11 h =>
  fst (kApp h 1 8 v2 v11) fun v12 h =>
  fst (kLdn h 3 v3) fun v13 h =>
  fst (cl 97 [v13, v1] h) fun v15 h =>
  fst (kNew h S116.z0) fun v7 h =>
  fst (kSt h 7 v7 v15) fun _ h =>
  fjn (fiter (fun vs h => o116_l1 cl N (nthD vs 0) (nthD vs 1) (nthD vs 2) (nthD vs 3) h) N [v12, v3, v7, (.int .i64 0)] h) fun x vs h => o116_j3 cl N x (nthD vs 0) h
theorem o116_eq (cl : Handler) (N : Nat) (v0 v1 v2 : AV) (h : AH) : frun cl N S116 [v0, v1, v2] h = fans (o116 cl N v0 v1 v2 h) := by kernel_rfl
def w116 (N : Nat) : OF := fun cl args h => match args with
  | [v0, v1, v2] => fans (o116 cl N v0 v1 v2 h)
  | _ => none
theorem w116_ok (N : Nat) : OkF Tryz.prog 116 (w116 N) := .of (N := N) (S116_ok) fun cl args h r hr => by
  unfold w116 at hr
  split at hr
  · exact (o116_eq cl N _ _ _ _).trans hr
  · cases hr

def S117.z0 : List AV := [.int .i64 0, .str [], .nilsl, .nilsl, .nilsl]
/- widgetry/view.examine -/
def S117.r0 : List AOpr := [
  q 1 (.box (x 0)),
  q 2 (.mov (.const (.nilmap))),
  q 3 (.new S117.z0),
  q 4 (.mov (.const (.int .i64 0)))]
def S117.r1 : List AOpr := [
  q 9 (.ldn 3 (x 1)),
  q 10 (.call (.const (.func (.func 158) [] [])) [.tmp 9]),
  q 8 (.mov (x 10)),
  q 11 (.ext (x 8) 0),
  q 12 (.ext (x 8) 1),
  q 5 (.mov (x 11)),
  q 6 (.mov (x 12))]
def S117.r2 : List AOpr := [
  q 13 (.mov (x 6)),
  q 14 (.un .not (x 13))]
def S117.r3 : List AOpr := [
  q 15 (.build S117.z0 []),
  q 2 (.mov (.const (.nilmap))),
  ⟨none, .st 5 (x 3) (x 15), none⟩,
  q 4 (.mov (.const (.int .i64 12)))]
def S117.r4 : List AOpr := [
  q 16 (.mov (x 5)),
  q 17 (.fldA 0 (x 1)),
  q 18 (.ld1 (x 17)),
  q 19 (.call (.const (.func (.func 159) [] [])) [.tmp 16, .tmp 18]),
  q 7 (.new S117.z0),
  ⟨none, .st 5 (x 7) (x 19), none⟩]
def S117.r5 : List (AOpr × Nat) := [
  (q 20 (.mov (x 5)), 0),
  (q 21 (.ldn 5 (x 7)), 0),
  (q 22 (.ldn 5 (x 7)), 0),
  (q 23 (.call (.const (.func (.func 160) [] [])) [.tmp 22]), 4),
  (q 2 (.mov (x 20)), 13),
  (⟨none, .st 5 (x 3) (x 21), none⟩, 31),
  (q 4 (.mov (x 23)), 63)]
def S117 : SFn := ⟨24, [.tmp 2, .cell 3 (some 5), .tmp 4], .seq (.reg S117.r0) (.seq (.reg S117.r1) (.seq (.seq (.reg S117.r2) (.cond (x 14) (.seq (.reg S117.r3) (.ret)) (.skip))) (.seq (.reg S117.r4) (.seq (.draw S117.r5) (.ret)))))⟩
theorem S117_ok : EOk Tryz.prog 117 S117 := ⟨Tryz.f117, by kernel_rfl, by kernel_rfl, by decide, by kernel_rfl, its_nil (by kernel_rfl)⟩
def o117_s1 (cl : Handler) (N : Nat) (v2 v3 v4 v5 v19 : AV) (h : AH) : Ans :=
  fst (kNew h S117.z0) fun v7 h =>
  fst (kSt h 5 v7 v19) fun _ h =>
  fdr h 7 fun r h =>
  fdp h (kMov h v5) .pure fun v20 c0 h =>
  fdp h (kLdn h 5 v7) (rdK (rdv v7)) fun v21 c1 h =>
  fdp h (kLdn h 5 v7) (rdK (rdv v7)) fun v22 c2 h =>
  fde h (cl 160 [v22] h) fun v23 c3 h =>
  fdp h (kMov h v20) .pure fun v2 c4 h =>
  fde h (kSt h 5 v3 v21) fun _ c5 h =>
  fdp h (kMov h v23) .pure fun v4 c6 h =>
  cond (fchk [c0, c1, c2, c3, c4, c5, c6] [(1, 3)]) (fres (aresV h [.val (v2), .cell (v3) (some 5), .val (v4)]) h) none
def o117 (cl : Handler) (N : Nat) (v0 : AV) (h : AH) : Ans :=
  fst (kBox h v0) fun v1 h =>
  fst (kNew h S117.z0) fun v3 h =>
  fst (kLdn h 3 v1) fun v9 h =>
  fst (cl 158 [v9] h) fun v10 h =>
  fst (kExt h v10 0) fun v11 h =>
  fst (kExt h v10 1) fun v12 h =>
  fst (kUn h .not v12) fun v14 h =>
  fif v14 (
  fst (kBuild h S117.z0 []) fun v15 h =>
  fst (kSt h 5 v3 v15) fun _ h =>
  fres (aresV h [.val ((.nilmap)), .cell (v3) (some 5), .val ((.int .i64 12))]) h) (
  fst (kFldA h 0 v1) fun v17 h =>
  fst (kLd1 h v17) fun v18 h =>
  fst (cl 159 [v11, v18] h) fun v19 h =>
  o117_s1 cl N (.nilmap) v3 (.int .i64 0) v11 v19 h)
theorem o117_eq (cl : Handler) (N : Nat) (v0 : AV) (h : AH) : frun cl N S117 [v0] h = fans (o117 cl N v0 h) := by kernel_rfl
def w117 (N : Nat) : OF := fun cl args h => match args with
  | [v0] => fans (o117 cl N v0 h)
  | _ => none
theorem w117_ok (N : Nat) : OkF Tryz.prog 117 (w117 N) := .of (N := N) (S117_ok) fun cl args h r hr => by
  unfold w117 at hr
  split at hr
  · exact (o117_eq cl N _ _).trans hr
  · cases hr

def S118.z0 : List AV := [.int .i64 0, .int .i64 0, .str [], .nilsl]
/- widgetry/view.value -/
def S118.r0 : List AOpr := [
  q 1 (.box (x 0)),
  q 2 (.new S118.z0)]
def S118.r1 : List AOpr := [
  q 3 (.fldA 3 (x 1)),
  q 4 (.ld1 (x 3)),
  q 5 (.call (.const (.func (.func 119) [] [])) [.tmp 4]),
  q 6 (.fldA 3 (x 1)),
  ⟨none, .st 1 (x 6) (x 5), none⟩]
def S118.r2 : List AOpr := [
  q 7 (.ldn 4 (x 1)),
  ⟨none, .st 4 (x 2) (x 7), none⟩]
def S118 : SFn := ⟨8, [.cell 2 (some 4)], .seq (.reg S118.r0) (.seq (.reg S118.r1) (.seq (.reg S118.r2) (.ret)))⟩
theorem S118_ok : EOk Tryz.prog 118 S118 := ⟨Tryz.f118, by kernel_rfl, by kernel_rfl, by decide, by kernel_rfl, its_nil (by kernel_rfl)⟩
def o118 (cl : Handler) (N : Nat) (v0 : AV) (h : AH) : Ans :=
  fst (kBox h v0) fun v1 h =>
  fst (kNew h S118.z0) fun v2 h =>
  fst (kFldA h 3 v1) fun v3 h =>
  fst (kLd1 h v3) fun v4 h =>
  fst (cl 119 [v4] h) fun v5 h =>
  fst (kFldA h 3 v1) fun v6 h =>
  fst (kSt h 1 v6 v5) fun _ h =>
  fst (kLdn h 4 v1) fun v7 h =>
  fst (kSt h 4 v2 v7) fun _ h =>
  fres (aresV h [.cell (v2) (some 4)]) h
theorem o118_eq (cl : Handler) (N : Nat) (v0 : AV) (h : AH) : frun cl N S118 [v0] h = fans (o118 cl N v0 h) := by kernel_rfl
def w118 (N : Nat) : OF := fun cl args h => match args with
  | [v0] => fans (o118 cl N v0 h)
  | _ => none
theorem w118_ok (N : Nat) : OkF Tryz.prog 118 (w118 N) := .of (N := N) (S118_ok) fun cl args h r hr => by
  unfold w118 at hr
  split at hr
  · exact (o118_eq cl N _ _).trans hr
  · cases hr

def S119.z0 : List AV := [.int .i64 0, .int .i64 0, .str [], .nilsl]
/- widgetry/view.values -/
def S119.r0 : List AOpr := [
  q 2 (.mov (.const (.nilsl)))]
def S119.r1 : List AOpr := [
  q 3 (.mov (.const (.nilsl)))]
def S119.r2 : List AOpr := [
  q 6 (.mov (x 0)),
  q 7 (.len (x 6)),
  q 8 (.mov (.const (.int .i64 0)))]
def S119.r3 : List AOpr := [
  q 9 (.arith .lss (x 8) (x 7))]
def S119.r4 : List AOpr := [
  q 10 (.idxA 4 (x 6) (x 8)),
  q 11 (.ldn 4 (x 10)),
  q 5 (.new S119.z0),
  ⟨none, .st 4 (x 5) (x 11), none⟩]
def S119.r5 : List AOpr := [
  q 12 (.mov (x 3)),
  q 13 (.ldn 4 (x 5)),
  q 14 (.call (.const (.func (.func 118) [] [])) [.tmp 13]),
  q 15 (.buildSl 4 1 S119.z0 [(0, 4, .tmp 14)]),
  q 16 (.app 4 56 (x 12) (x 15)),
  q 3 (.mov (x 16))]
def S119.r6 : List AOpr := [
  q 17 (.arith .add (x 8) (.const (.int .i64 1))),
  q 8 (.mov (x 17))]
def S119.r7 : List AOpr := [
  q 18 (.mov (x 3)),
  q 2 (.mov (x 18))]
def S119 : SFn := ⟨19, [.tmp 2], .seq (.reg S119.r0) (.seq (.reg S119.r1) (.seq (.seq (.reg S119.r2) (.block 0 (.loop [3, 6, 7, 8] [3] (.seq (.reg S119.r3) (.seq (.cond (x 9) (.skip) (.exit 0)) (.seq (.block 1 (.seq (.reg S119.r4) (.reg S119.r5))) (.reg S119.r6))))))) (.seq (.reg S119.r7) (.ret))))⟩
theorem S119_ok : EOk Tryz.prog 119 S119 := ⟨Tryz.f119, by kernel_rfl, by kernel_rfl, by decide, by kernel_rfl, its_nil (by kernel_rfl)⟩
def o119_s1 (cl : Handler) (N : Nat) (v3 v6 v7 v17 : AV) (h : AH) : Ans :=
  some (.nrm, [v3, v6, v7, v17], [v3], h)
def o119_l1 (cl : Handler) (N : Nat) (v3 v6 v7 v8 : AV) (h : AH) : Ans :=
  fst (kArith h .lss v8 v7) fun v9 h =>
  fif v9 (
  fst (kIdxA h 4 v6 v8) fun v10 h =>
  fst (kLdn h 4 v10) fun v11 h =>
  fst (kNew h S119.z0) fun v5 h =>
  fst (kSt h 4 v5 v11) fun _ h =>
  fst (kLdn h 4 v5) fun v13 h =>
  fst (cl 118 [v13] h) fun v14 h =>
  fst (kBuildSl h 4 1 S119.z0 [(0, 4, v14)]) fun v15 h =>
  fst (kApp h 4 56 v3 v15) fun v16 h =>
  fst (kArith h .add v8 (.int .i64 1)) fun v17 h =>
  o119_s1 cl N v16 v6 v7 v17 h) (
  some ((.exit 0), [v3, v6, v7, v8], [v3], h))
def o119_c2 (cl : Handler) (N : Nat) (v3 : AV) (h : AH) : Ans :=
  some (.nrm, [], [v3], h)
def o119_j3 (cl : Handler) (N : Nat) (x : AX) (v3 : AV) (h : AH) : Ans :=
  fxs x (o119_c2 cl N v3 h) (fun j => cond (Nat.beq j 0) (o119_c2 cl N v3 h) (none)) (some (.nrm, [], [.undef], h))
def o119 (cl : Handler) (N : Nat) (v0 : AV) (h : AH) : Ans :=
  fst (kLen h v0) fun v7 h =>
  fjn (fiter (fun vs h => o119_l1 cl N (nthD vs 0) (nthD vs 1) (nthD vs 2) (nthD vs 3) h) N [(.nilsl), v0, v7, (.int .i64 0)] h) fun x vs h => o119_j3 cl N x (nthD vs 0) h
theorem o119_eq (cl : Handler) (N : Nat) (v0 : AV) (h : AH) : frun cl N S119 [v0] h = fans (o119 cl N v0 h) := by kernel_rfl
def w119 (N : Nat) : OF := fun cl args h => match args with
  | [v0] => fans (o119 cl N v0 h)
  | _ => none
theorem w119_ok (N : Nat) : OkF Tryz.prog 119 (w119 N) := .of (N := N) (S119_ok) fun cl args h r hr => by
  unfold w119 at hr
  split at hr
  · exact (o119_eq cl N _ _).trans hr
  · cases hr

def S120.z0 : List AV := [.int .i64 0, .str [], .nilsl, .nilsl, .nilsl]
/- widgetry/view.Check -/
def S120.r0 : List AOpr := [
  q 1 (.box (x 0)),
  q 2 (.mov (.const (.int .i64 0)))]
def S120.r1 : List AOpr := [
  q 7 (.ldn 3 (x 1)),
  q 8 (.call (.const (.func (.func 117) [] [])) [.tmp 7]),
  q 6 (.mov (x 8)),
  q 9 (.ext (x 6) 0),
  q 10 (.ext (x 6) 1),
  q 11 (.ext (x 6) 2),
  q 4 (.new S120.z0),
  q 3 (.mov (x 9)),
  ⟨none, .st 5 (x 4) (x 10), none⟩,
  q 5 (.mov (x 11))]
def S120.r2 : List AOpr := [
  q 12 (.mov (x 5)),
  q 2 (.mov (x 12))]
def S120 : SFn := ⟨13, [.tmp 2], .seq (.reg S120.r0) (.seq (.reg S120.r1) (.seq (.reg S120.r2) (.ret)))⟩
theorem S120_ok : EOk Tryz.prog 120 S120 := ⟨Tryz.f120, by kernel_rfl, by kernel_rfl, by decide, by kernel_rfl, its_nil (by kernel_rfl)⟩
def o120 (cl : Handler) (N : Nat) (v0 : AV) (h : AH) : Ans :=
  fst (kBox h v0) fun v1 h =>
  fst (kLdn h 3 v1) fun v7 h =>
  fst (cl 117 [v7] h) fun v8 h =>
  fst (kExt h v8 0) fun v9 h =>
  fst (kExt h v8 1) fun v10 h =>
  fst (kExt h v8 2) fun v11 h =>
  fst (kNew h S120.z0) fun v4 h =>
  fst (kSt h 5 v4 v10) fun _ h =>
  some (.nrm, [], [v11], h)
theorem o120_eq (cl : Handler) (N : Nat) (v0 : AV) (h : AH) : frun cl N S120 [v0] h = fans (o120 cl N v0 h) := by kernel_rfl
def w120 (N : Nat) : OF := fun cl args h => match args with
  | [v0] => fans (o120 cl N v0 h)
  | _ => none
theorem w120_ok (N : Nat) : OkF Tryz.prog 120 (w120 N) := .of (N := N) (S120_ok) fun cl args h r hr => by
  unfold w120 at hr
  split at hr
  · exact (o120_eq cl N _ _).trans hr
  · cases hr

/- widgetry/layout.complete -/
def S121.r0 : List AOpr := [
  q 2 (.box (x 0)),
  q 4 (.mov (.const (.bool false)))]
def S121.r1 : List AOpr := [
  q 5 (.fldA 2 (x 2)),
  q 6 (.ld1 (x 5)),
  q 7 (.mov (x 1)),
  q 8 (.call (.const (.func (.func 161) [] [])) [.tmp 6, .tmp 7, .const (.func (.func 162) [] [])]),
  q 4 (.mov (x 8))]
def S121 : SFn := ⟨9, [.tmp 4], .seq (.reg S121.r0) (.seq (.reg S121.r1) (.ret))⟩
theorem S121_ok : EOk Tryz.prog 121 S121 := ⟨Tryz.f121, by kernel_rfl, by kernel_rfl, by decide, by kernel_rfl, its_nil (by kernel_rfl)⟩
def o121 (cl : Handler) (N : Nat) (v0 v1 : AV) (h : AH) : Ans :=
  fst (kBox h v0) fun v2 h =>
  fst (kFldA h 2 v2) fun v5 h =>
  fst (kLd1 h v5) fun v6 h =>
  fst (cl 161 [v6, v1, (.func (.func 162) [] [])] h) fun v8 h =>
  some (.nrm, [], [v8], h)
theorem o121_eq (cl : Handler) (N : Nat) (v0 v1 : AV) (h : AH) : frun cl N S121 [v0, v1] h = fans (o121 cl N v0 v1 h) := by kernel_rfl
def w121 (N : Nat) : OF := fun cl args h => match args with
  | [v0, v1] => fans (o121 cl N v0 v1 h)
  | _ => none
theorem w121_ok (N : Nat) : OkF Tryz.prog 121 (w121 N) := .of (N := N) (S121_ok) fun cl args h r hr => by
  unfold w121 at hr
  split at hr
  · exact (o121_eq cl N _ _ _).trans hr
  · cases hr

def S122.z0 : List AV := [.int .i64 0, .int .i64 0, .int .i64 0, .int .i64 0, .int .i64 0, .int .i64 0, .int .i64 0, .int .i64 0, .int .i64 0, .int .i64 0, .int .i64 0, .int .i64 0, .int .i64 0, .int .i64 0, .int .i64 0, .int .i64 0, .int .i64 0, .int .i64 0, .int .i64 0, .int .i64 0, .int .i64 0, .int .i64 0, .int .i64 0]
/- widgetry/layout.styled -/
def S122.r0 : List AOpr := [
  q 2 (.mov (.const (.bool false)))]
def S122.r1 : List AOpr := [
  q 7 (.mov (x 0)),
  q 8 (.len (x 7)),
  q 9 (.mov (.const (.int .i64 0)))]
def S122.r2 : List AOpr := [
  q 10 (.arith .lss (x 9) (x 8))]
def S122.r3 : List AOpr := [
  q 11 (.idxA 23 (x 7) (x 9)),
  q 12 (.ldn 23 (x 11)),
  q 4 (.new S122.z0),
  ⟨none, .st 23 (x 4) (x 12), none⟩]
def S122.r4 : List AOpr := [
  q 13 (.fldA 1 (x 4)),
  q 14 (.ldn 22 (x 13)),
  q 15 (.mov (.const (.int .i64 0)))]
def S122.r5 : List AOpr := [
  q 16 (.arith .lss (x 15) (.const (.int .i64 22)))]
def S122.r6 : List AOpr := [
  q 17 (.mov (x 15)),
  q 18 (.idx 22 1 none (x 14) (x 15)),
  q 5 (.mov (x 17)),
  q 6 (.mov (x 18))]
def S122.r7 : List AOpr := [
  q 19 (.mov (x 5)),
  q 20 (.mov (x 6)),
  q 21 (.call (.const (.func (.func 163) [] [])) [.tmp 19, .tmp 20]),
  q 22 (.un .not (x 21))]
def S122.r8 : List AOpr := [
  q 2 (.mov (.const (.bool false)))]
def S122.r9 : List AOpr := [
  q 23 (.arith .add (x 15) (.const (.int .i64 1))),
  q 15 (.mov (x 23))]
def S122.r10 : List AOpr := [
  q 24 (.arith .add (x 9) (.const (.int .i64 1))),
  q 9 (.mov (x 24))]
def S122.r11 : List AOpr := [
  q 2 (.mov (.const (.bool true)))]
def S122 : SFn := ⟨25, [.tmp 2], .seq (.reg S122.r0) (.seq (.seq (.reg S122.r1) (.block 0 (.loop [7, 8, 9] [2] (.seq (.reg S122.r2) (.seq (.cond (x 10) (.skip) (.exit 0)) (.seq (.block 1 (.seq (.reg S122.r3) (.seq (.reg S122.r4) (.block 2 (.loop [7, 8, 9, 14, 15] [2, 7, 8, 9] (.seq (.reg S122.r5) (.seq (.cond (x 16) (.skip) (.exit 2)) (.seq (.block 3 (.seq (.reg S122.r6) (.seq (.reg S122.r7) (.cond (x 22) (.seq (.reg S122.r8) (.ret)) (.skip))))) (.reg S122.r9))))))))) (.reg S122.r10))))))) (.seq (.reg S122.r11) (.ret)))⟩
theorem S122_ok : EOk Tryz.prog 122 S122 := ⟨Tryz.f122, by kernel_rfl, by kernel_rfl, by decide, by kernel_rfl, its_nil (by kernel_rfl)⟩
def o122_l1 (cl : Handler) (N : Nat) (v7 v8 v9 v14 v15 : AV) (h : AH) : Ans :=
  fst (kArith h .lss v15 (.int .i64 22)) fun v16 h =>
  fif v16 (
  fst (kIdx h 22 1 none v14 v15) fun v18 h =>
  fst (cl 163 [v15, v18] h) fun v21 h =>
  fst (kUn h .not v21) fun v22 h =>
  fif v22 (
  some (.ret, [v7, v8, v9, v14, v15], [(.bool false), v7, v8, v9], h)) (
  fst (kArith h .add v15 (.int .i64 1)) fun v23 h =>
  some (.nrm, [v7, v8, v9, v14, v23], [.undef, v7, v8, v9], h))) (
  some ((.exit 2), [v7, v8, v9, v14, v15], [.undef, v7, v8, v9], h))
def o122_c2 (cl : Handler) (N : Nat) (v2 v7 v8 v9 : AV) (h : AH) : Ans :=
  fst (kArith h .add v9 (.int .i64 1)) fun v24 h =>
  some (.nrm, [v7, v8, v24], [v2], h)
def o122_j3 (cl : Handler) (N : Nat) (x : AX) (v2 v7 v8 v9 : AV) (h : AH) : Ans :=
  fxs x (o122_c2 cl N v2 v7 v8 v9 h) (fun j => cond (Nat.beq j 2) (o122_c2 cl N v2 v7 v8 v9 h) (cond (Nat.beq j 1) (fst (kArith h .add v9 (.int .i64 1)) fun v24 h =>
  some (.nrm, [v7, v8, v24], [v2], h)) (some ((.exit j), [v7, v8, v9], [v2], h)))) (some (.ret, [v7, v8, v9], [v2], h))
def o122_l4 (cl : Handler) (N : Nat) (v7 v8 v9 : AV) (h : AH) : Ans :=
  fst (kArith h .lss v9 v8) fun v10 h =>
  fif v10 (
  fst (kIdxA h 23 v7 v9) fun v11 h =>
  fst (kLdn h 23 v11) fun v12 h =>
  fst (kNew h S122.z0) fun v4 h =>
  fst (kSt h 23 v4 v12) fun _ h =>
  fst (kFldA h 1 v4) fun v13 h =>
  fst (kLdn h 22 v13) fun v14 h =>
  fjn (fiter (fun vs h => o122_l1 cl N (nthD vs 0) (nthD vs 1) (nthD vs 2) (nthD vs 3) (nthD vs 4) h) N [v7, v8, v9, v14, (.int .i64 0)] h) fun x vs h => o122_j3 cl N x (nthD vs 0) (nthD vs 1) (nthD vs 2) (nthD vs 3) h) (
  some ((.exit 0), [v7, v8, v9], [.undef], h))
def o122_c5 (cl : Handler) (N : Nat) (h : AH) : Ans :=
  some (.nrm, [], [(.bool true)], h)
def o122_j6 (cl : Handler) (N : Nat) (x : AX) (v2 : AV) (h : AH) : Ans :=
  fxs x (o122_c5 cl N h) (fun j => cond (Nat.beq j 0) (o122_c5 cl N h) (none)) (some (.nrm, [], [v2], h))
def o122 (cl : Handler) (N : Nat) (v0 : AV) (h : AH) : Ans :=
  fst (kLen h v0) fun v8 h =>
  fjn (fiter (fun vs h => o122_l4 cl N (nthD vs 0) (nthD vs 1) (nthD vs 2) h) N [v0, v8, (.int .i64 0)] h) fun x vs h => o122_j6 cl N x (nthD vs 0) h
theorem o122_eq (cl : Handler) (N : Nat) (v0 : AV) (h : AH) : frun cl N S122 [v0] h = fans (o122 cl N v0 h) := by kernel_rfl
def w122 (N : Nat) : OF := fun cl args h => match args with
  | [v0] => fans (o122 cl N v0 h)
  | _ => none
theorem w122_ok (N : Nat) : OkF Tryz.prog 122 (w122 N) := .of (N := N) (S122_ok) fun cl args h r hr => by
  unfold w122 at hr
  split at hr
  · exact (o122_eq cl N _ _).trans hr
  · cases hr

def S123.z0 : List AV := [.int .i64 0, .int .i64 0, .nilsl, .nilsl, .nilmap, .nilmap, .nilmap, .nilsl, .nilmap, .nilmap, .nilmap, .nilmap]
def S123.z1 : List AV := [.int .i64 0, .int .i64 0, .int .i64 0, .str [], .nilsl, .nilsl, .nilsl]
def S123.z2 : List AV := [.int .i64 0, .int .i64 0, .int .i64 0, .int .i64 0, .int .i64 0, .int .i64 0, .int .i64 0, .int .i64 0, .int .i64 0, .int .i64 0, .int .i64 0, .int .i64 0, .int .i64 0, .int .i64 0, .int .i64 0, .int .i64 0, .int .i64 0, .int .i64 0, .int .i64 0, .int .i64 0, .int .i64 0, .int .i64 0]
/- widgetry/layout.open -/
def S123.r0 : List AOpr := [
  q 3 (.box (x 0)),
  q 6 (.mov (.const (.nilptr)))]
def S123.r1 : List AOpr := [
  q 10 (.ldn 3 (x 3)),
  q 11 (.mov (x 2)),
  q 12 (.xo .mkmap []),
  q 13 (.xo .mkmap []),
  q 14 (.xo .mkmap []),
  q 15 (.xo .mkmap []),
  q 16 (.xo .mkmap []),
  q 17 (.xo .mkmap []),
  q 18 (.xo .mkmap []),
  q 19 (.build S123.z0 [(0, 3, .tmp 10), (3, 1, .tmp 11), (4, 1, .tmp 12), (5, 1, .tmp 13), (6, 1, .tmp 14), (8, 1, .tmp 15), (9, 1, .tmp 16), (10, 1, .tmp 17), (11, 1, .tmp 18)]),
  q 20 (.box (x 19)),
  q 7 (.mov (x 20))]
def S123.r2 : List AOpr := [
  q 21 (.fldA 2 (x 3)),
  q 22 (.ld1 (x 21)),
  q 23 (.len (x 22)),
  q 24 (.mov (.const (.int .i64 0)))]
def S123.r3 : List AOpr := [
  q 25 (.arith .lss (x 24) (x 23))]
def S123.r4 : List AOpr := [
  q 26 (.mov (x 24)),
  q 27 (.idxA 7 (x 22) (x 24)),
  q 28 (.ldn 7 (x 27)),
  q 9 (.new S123.z1),
  q 8 (.mov (x 26)),
  ⟨none, .st 7 (x 9) (x 28), none⟩]
def S123.r5 : List (AOpr × Nat) := [
  (q 29 (.mov (x 7)), 0),
  (q 30 (.nilchk (x 29)), 1),
  (q 31 (.fldA 4 (x 30)), 3),
  (q 32 (.ld1 (x 31)), 7),
  (q 33 (.fldA 0 (x 9)), 0),
  (q 34 (.ld1 (x 33)), 16),
  (q 35 (.mov (x 7)), 0),
  (q 36 (.nilchk (x 35)), 64),
  (q 37 (.fldA 5 (x 36)), 192),
  (q 38 (.ld1 (x 37)), 448),
  (q 39 (.fldA 0 (x 9)), 0),
  (q 40 (.ld1 (x 39)), 1024),
  (q 41 (.ldn 7 (x 9)), 0),
  (q 42 (.mov (x 1)), 0),
  (q 43 (.mov (x 8)), 0),
  (q 44 (.idxA 23 (x 42) (x 43)), 24576),
  (q 45 (.fldA 1 (x 44)), 57344),
  (q 46 (.ldn 22 (x 45)), 122880),
  (q 47 (.xo (.mapent (.int .i64) (.agg S123.z1)) [.tmp 32, .tmp 34]), 254975),
  (q 48 (.ext (x 47) 1), 517119),
  (⟨none, .xo .entst [.tmp 32, .tmp 48, .tmp 41], none⟩, 1045503),
  (q 49 (.xo (.mapent (.int .i64) (.agg S123.z2)) [.tmp 38, .tmp 40]), 2097151),
  (q 50 (.ext (x 49) 1), 4194303),
  (⟨none, .xo .entst [.tmp 38, .tmp 50, .tmp 46], none⟩, 8388607)]
def S123.r6 : List AOpr := [
  q 51 (.arith .add (x 24) (.const (.int .i64 1))),
  q 24 (.mov (x 51))]
def S123.r7 : List AOpr := [
  q 52 (.mov (x 7)),
  q 53 (.fldA 0 (x 3)),
  q 54 (.ld1 (x 53)),
  q 55 (.call (.const (.func (.func 164) [] [])) [.tmp 52, .tmp 54]),
  q 56 (.un .not (x 55))]
def S123.r8 : List AOpr := [
  q 57 (.mov (x 7)),
  q 58 (.fldA 0 (x 3)),
  q 59 (.ld1 (x 58)),
  q 60 (.call (.const (.func (.func 165) [] [])) [.tmp 57, .tmp 59])]
def S123.r9 : List AOpr := [
  q 61 (.mov (x 7)),
  q 6 (.mov (x 61))]
def S123 : SFn := ⟨62, [.tmp 6], .seq (.reg S123.r0) (.seq (.reg S123.r1) (.seq (.seq (.reg S123.r2) (.block 0 (.loop [1, 3, 7, 22, 23, 24] [3, 7] (.seq (.reg S123.r3) (.seq (.cond (x 25) (.skip) (.exit 0)) (.seq (.block 1 (.seq (.reg S123.r4) (.draw S123.r5))) (.reg S123.r6))))))) (.seq (.seq (.reg S123.r7) (.joinN [7] (.cond (x 56) (.reg S123.r8) (.skip)))) (.seq (.reg S123.r9) (.ret)))))⟩
theorem S123_ok : EOk Tryz.prog 123 S123 := ⟨Tryz.f123, by kernel_rfl, by kernel_rfl, by decide, by kernel_rfl, its_nil (by kernel_rfl)⟩
def o123_s1 (cl : Handler) (N : Nat) (v1 v3 v7 v22 v23 v51 : AV) (h : AH) : Ans :=
  some (.nrm, [v1, v3, v7, v22, v23, v51], [v3, v7], h)
def o123_s2 (cl : Handler) (N : Nat) (c0 c1 c2 c3 c4 c5 c6 c7 c8 c9 c10 c11 c12 c13 c14 : Rec) (v1 v3 v7 v22 v23 v24 v32 v34 v38 v40 v41 v42 v43 : AV) (h : AH) : Ans :=
  fdp h (kIdxA h 23 v42 v43) .pure fun v44 c15 h =>
  fdp h (kFldA h 1 v44) .pure fun v45 c16 h =>
  fdp h (kLdn h 22 v45) (rdK (rdv v45)) fun v46 c17 h =>
  fde h (kX h (.mapent (.int .i64) (.agg S123.z1)) [v32, v34]) fun v47 c18 h =>
  fdp h (kExt h v47 1) .pure fun v48 c19 h =>
  fde h (kX h .entst [v32, v48, v41]) fun _ c20 h =>
  fde h (kX h (.mapent (.int .i64) (.agg S123.z2)) [v38, v40]) fun v49 c21 h =>
  fdp h (kExt h v49 1) .pure fun v50 c22 h =>
  fde h (kX h .entst [v38, v50, v46]) fun _ c23 h =>
  cond (fchk [c0, c1, c2, c3, c4, c5, c6, c7, c8, c9, c10, c11, c12, c13, c14, c15, c16, c17, c18, c19, c20, c21, c22, c23] [(11, 18), (12, 18), (11, 20)]) (fst (kArith h .add v24 (.int .i64 1)) fun v51 h =>
  o123_s1 cl N v1 v3 v7 v22 v23 v51 h) none
def o123_s3 (cl : Handler) (N : Nat) (c0 c1 c2 c3 c4 : Rec) (v1 v3 v7 v8 v9 v22 v23 v24 v32 v33 : AV) (h : AH) : Ans :=
  fdp h (kLd1 h v33) (rdK (rdv v33)) fun v34 c5 h =>
  fdp h (kMov h v7) .pure fun v35 c6 h =>
  fdp h (kNilchk h v35) .pure fun v36 c7 h =>
  fdp h (kFldA h 5 v36) .pure fun v37 c8 h =>
  fdp h (kLd1 h v37) (rdK (rdv v37)) fun v38 c9 h =>
  fdp h (kFldA h 0 v9) .pure fun v39 c10 h =>
  fdp h (kLd1 h v39) (rdK (rdv v39)) fun v40 c11 h =>
  fdp h (kLdn h 7 v9) (rdK (rdv v9)) fun v41 c12 h =>
  fdp h (kMov h v1) .pure fun v42 c13 h =>
  fdp h (kMov h v8) .pure fun v43 c14 h =>
  o123_s2 cl N c0 c1 c2 c3 c4 c5 c6 c7 c8 c9 c10 c11 c12 c13 c14 v1 v3 v7 v22 v23 v24 v32 v34 v38 v40 v41 v42 v43 h
def o123_l1 (cl : Handler) (N : Nat) (v1 v3 v7 v22 v23 v24 : AV) (h : AH) : Ans :=
  fst (kArith h .lss v24 v23) fun v25 h =>
  fif v25 (
  fst (kIdxA h 7 v22 v24) fun v27 h =>
  fst (kLdn h 7 v27) fun v28 h =>
  fst (kNew h S123.z1) fun v9 h =>
  fst (kSt h 7 v9 v28) fun _ h =>
  fdr h 24 fun r h =>
  fdp h (kMov h v7) .pure fun v29 c0 h =>
  fdp h (kNilchk h v29) .pure fun v30 c1 h =>
  fdp h (kFldA h 4 v30) .pure fun v31 c2 h =>
  fdp h (kLd1 h v31) (rdK (rdv v31)) fun v32 c3 h =>
  fdp h (kFldA h 0 v9) .pure fun v33 c4 h =>
  o123_s3 cl N c0 c1 c2 c3 c4 v1 v3 v7 v24 v9 v22 v23 v24 v32 v33 h) (
  some ((.exit 0), [v1, v3, v7, v22, v23, v24], [v3, v7], h))
def o123_a2 (cl : Handler) (N : Nat) (v3 v7 v56 : AV) (h : AH) : Ans :=
  fif v56 (
  fst (kFldA h 0 v3) fun v58 h =>
  fst (kLd1 h v58) fun v59 h =>
  fst (cl 165 [v7, v59] h) fun v60 h =>
  some (.nrm, [], [v7], h)) (
  some (.nrm, [], [v7], h))
def o123_j3 (cl : Handler) (N : Nat) (v7 : AV) (h : AH) : Ans :=
  some (.nrm, [], [v7], h)
def o123_c4 (cl : Handler) (N : Nat) (v3 v7 : AV) (h : AH) : Ans :=
  fst (kFldA h 0 v3) fun v53 h =>
  fst (kLd1 h v53) fun v54 h =>
  fst (cl 164 [v7, v54] h) fun v55 h =>
  fst (kUn h .not v55) fun v56 h =>
  fjn (o123_a2 cl N v3 v7 v56 h) fun _ vs h => o123_j3 cl N (nthD vs 0) h
def o123_j5 (cl : Handler) (N : Nat) (x : AX) (v3 v7 : AV) (h : AH) : Ans :=
  fxs x (o123_c4 cl N v3 v7 h) (fun j => cond (Nat.beq j 0) (o123_c4 cl N v3 v7 h) (none)) (some (.nrm, [], [.undef], h))
def o123_s4 (cl : Handler) (N : Nat) (v1 v3 v19 : AV) (h : AH) : Ans :=
  fst (kBox h v19) fun v20 h =>
  fst (kFldA h 2 v3) fun v21 h =>
  fst (kLd1 h v21) fun v22 h =>
  fst (kLen h v22) fun v23 h =>
  fjn (fiter (fun vs h => o123_l1 cl N (nthD vs 0) (nthD vs 1) (nthD vs 2) (nthD vs 3) (nthD vs 4) (nthD vs 5) h) N [v1, v3, v20, v22, v23, (.int .i64 0)] h) fun x vs h => o123_j5 cl N x (nthD vs 0) (nthD vs 1) h
def o123 (cl : Handler) (N : Nat) (v0 v1 v2 : AV) (h : AH) : Ans :=
  fst (kBox h v0) fun v3 h =>
  fst (kLdn h 3 v3) fun v10 h =>
  fst (kX h .mkmap []) fun v12 h =>
  fst (kX h .mkmap []) fun v13 h =>
  fst (kX h .mkmap []) fun v14 h =>
  fst (kX h .mkmap []) fun v15 h =>
  fst (kX h .mkmap []) fun v16 h =>
  fst (kX h .mkmap []) fun v17 h =>
  fst (kX h .mkmap []) fun v18 h =>
  fst (kBuild h S123.z0 [(0, 3, v10), (3, 1, v2), (4, 1, v12), (5, 1, v13), (6, 1, v14), (8, 1, v15), (9, 1, v16), (10, 1, v17), (11, 1, v18)]) fun v19 h =>
  o123_s4 cl N v1 v3 v19 h
theorem o123_eq (cl : Handler) (N : Nat) (v0 v1 v2 : AV) (h : AH) : frun cl N S123 [v0, v1, v2] h = fans (o123 cl N v0 v1 v2 h) := by kernel_rfl
def w123 (N : Nat) : OF := fun cl args h => match args with
  | [v0, v1, v2] => fans (o123 cl N v0 v1 v2 h)
  | _ => none
theorem w123_ok (N : Nat) : OkF Tryz.prog 123 (w123 N) := .of (N := N) (S123_ok) fun cl args h r hr => by
  unfold w123 at hr
  split at hr
  · exact (o123_eq cl N _ _ _ _).trans hr
  · cases hr

def S127.z0 : List AV := [.int .i64 0, .int .i64 0, .int .i64 0, .str [], .nilsl, .nilsl, .nilsl]
/- widgetry/view.path -/
def S127.r0 : List AOpr := [
  q 4 (.mov (.const (.nilsl)))]
def S127.r1 : List AOpr := [
  q 5 (.mov (.const (.nilsl)))]
def S127.r2 : List AOpr := [
  q 9 (.mov (x 0)),
  q 10 (.mov (x 1)),
  q 11 (.xo (.mapget (.int .i64) true (.agg S127.z0)) [.tmp 9, .tmp 10]),
  q 8 (.mov (x 11)),
  q 12 (.ext (x 8) 0),
  q 13 (.ext (x 8) 1),
  q 6 (.new S127.z0),
  ⟨none, .st 7 (x 6) (x 12), none⟩,
  q 7 (.mov (x 13))]
def S127.r3 : List AOpr := [
  q 14 (.mov (x 7))]
def S127.r4 : List AOpr := [
  q 22 (.mov (x 5)),
  q 23 (.fldA 0 (x 6)),
  q 24 (.ld1 (x 23)),
  q 25 (.buildSl 1 1 [.int .i64 0] [(0, 1, .tmp 24)]),
  q 26 (.app 1 8 (x 22) (x 25)),
  q 5 (.mov (x 26))]
def S127.r5 : List AOpr := [
  q 27 (.ldn 7 (x 6))]
def S127.r6 : List AOpr := [
  q 6 (.new S127.z0),
  ⟨none, .st 7 (x 6) (x 27), none⟩]
def S127.r7 : List AOpr := [
  q 16 (.mov (x 0)),
  q 17 (.fldA 1 (x 6)),
  q 18 (.ld1 (x 17)),
  q 19 (.xo (.mapget (.int .i64) true (.agg S127.z0)) [.tmp 16, .tmp 18]),
  q 15 (.mov (x 19)),
  q 20 (.ext (x 15) 0),
  q 21 (.ext (x 15) 1),
  ⟨none, .st 7 (x 6) (x 20), none⟩,
  q 7 (.mov (x 21))]
def S127.r8 : List AOpr := [
  q 28 (.mov (x 5)),
  q 29 (.call (.const (.func (.func 166) [] [])) [.tmp 28])]
def S127.r9 : List AOpr := [
  q 30 (.mov (x 5)),
  q 4 (.mov (x 30))]
def S127 : SFn := ⟨31, [.tmp 4], .seq (.reg S127.r0) (.seq (.reg S127.r1) (.seq (.seq (.reg S127.r2) (.block 0 (.loop [0, 5, 6, 7] [5] (.seq (.seq (.reg S127.r3) (.cond (x 14) (.skip) (.exit 0))) (.seq (.block 1 (.reg S127.r4)) (.seq (.seq (.reg S127.r5) (.reg S127.r6)) (.reg S127.r7))))))) (.seq (.reg S127.r8) (.seq (.reg S127.r9) (.ret)))))⟩
theorem S127_ok : EOk Tryz.prog 127 S127 := ⟨Tryz.f127, by kernel_rfl, by kernel_rfl, by decide, by kernel_rfl, its_nil (by kernel_rfl)⟩
def o127_s1 (cl : Handler) (N : Nat) (v0 v5 v6 v19 : AV) (h : AH) : Ans :=
  fst (kExt h v19 0) fun v20 h =>
  fst (kExt h v19 1) fun v21 h =>
  fst (kSt h 7 v6 v20) fun _ h =>
  some (.nrm, [v0, v5, v6, v21], [v5], h)
def o127_l1 (cl : Handler) (N : Nat) (v0 v5 v6 v7 : AV) (h : AH) : Ans :=
  fif v7 (
  fst (kFldA h 0 v6) fun v23 h =>
  fst (kLd1 h v23) fun v24 h =>
  fst (kBuildSl h 1 1 [.int .i64 0] [(0, 1, v24)]) fun v25 h =>
  fst (kApp h 1 8 v5 v25) fun v26 h =>
  fst (kLdn h 7 v6) fun v27 h =>
  fst (kNew h S127.z0) fun v6 h =>
  fst (kSt h 7 v6 v27) fun _ h =>
  fst (kFldA h 1 v6) fun v17 h =>
  fst (kLd1 h v17) fun v18 h =>
  fst (kX h (.mapget (.int .i64) true (.agg S127.z0)) [v0, v18]) fun v19 h =>
  o127_s1 cl N v0 v26 v6 v19 h) (
  some ((.exit 0), [v0, v5, v6, v7], [v5], h))
def o127_c2 (cl : Handler) (N : Nat) (v5 : AV) (h : AH) : Ans :=
  fst (cl 166 [v5] h) fun v29 h =>
  some (.nrm, [], [v5], h)
def o127_j3 (cl : Handler) (N : Nat) (x : AX) (v5 : AV) (h : AH) : Ans :=
  fxs x (o127_c2 cl N v5 h) (fun j => cond (Nat.beq j 0) (o127_c2 cl N v5 h) (none)) (some (.nrm, [], [.undef], h))
def o127 (cl : Handler) (N : Nat) (v0 v1 : AV) (h : AH) : Ans :=
  fst (kX h (.mapget (.int .i64) true (.agg S127.z0)) [v0, v1]) fun v11 h =>
  fst (kExt h v11 0) fun v12 h =>
  fst (kExt h v11 1) fun v13 h =>
  fst (kNew h S127.z0) fun v6 h =>
  fst (kSt h 7 v6 v12) fun _ h =>
  fjn (fiter (fun vs h => o127_l1 cl N (nthD vs 0) (nthD vs 1) (nthD vs 2) (nthD vs 3) h) N [v0, (.nilsl), v6, v13] h) fun x vs h => o127_j3 cl N x (nthD vs 0) h
theorem o127_eq (cl : Handler) (N : Nat) (v0 v1 : AV) (h : AH) : frun cl N S127 [v0, v1] h = fans (o127 cl N v0 v1 h) := by kernel_rfl
def w127 (N : Nat) : OF := fun cl args h => match args with
  | [v0, v1] => fans (o127 cl N v0 v1 h)
  | _ => none
theorem w127_ok (N : Nat) : OkF Tryz.prog 127 (w127 N) := .of (N := N) (S127_ok) fun cl args h r hr => by
  unfold w127 at hr
  split at hr
  · exact (o127_eq cl N _ _ _).trans hr
  · cases hr

def S128.z0 : List AV := [.int .i64 0, .int .i64 0, .str [], .nilsl]
def S128.z1 : List AV := [.str [], .int .i64 0, .int .i64 0, .str [], .nilsl]
/- widgetry/view.Attr -/
def S128.r0 : List AOpr := [
  q 4 (.new S128.z0),
  q 5 (.mov (.const (.bool false)))]
def S128.r1 : List AOpr := [
  q 8 (.mov (x 0)),
  q 9 (.len (x 8)),
  q 10 (.mov (.const (.int .i64 0)))]
def S128.r2 : List AOpr := [
  q 11 (.arith .lss (x 10) (x 9))]
def S128.r3 : List AOpr := [
  q 12 (.idxA 5 (x 8) (x 10)),
  q 13 (.ldn 5 (x 12)),
  q 7 (.new S128.z1),
  ⟨none, .st 5 (x 7) (x 13), none⟩]
def S128.r4 : List AOpr := [
  q 14 (.fldA 0 (x 7)),
  q 15 (.ld1 (x 14)),
  q 16 (.mov (x 1)),
  q 17 (.arith .eql (x 15) (x 16))]
def S128.r5 : List AOpr := [
  q 18 (.fldA 1 (x 7)),
  q 19 (.ldn 4 (x 18)),
  q 20 (.call (.const (.func (.func 118) [] [])) [.tmp 19]),
  ⟨none, .st 4 (x 4) (x 20), none⟩,
  q 5 (.mov (.const (.bool true)))]
def S128.r6 : List AOpr := [
  q 21 (.arith .add (x 10) (.const (.int .i64 1))),
  q 10 (.mov (x 21))]
def S128.r7 : List AOpr := [
  q 22 (.build S128.z0 []),
  ⟨none, .st 4 (x 4) (x 22), none⟩,
  q 5 (.mov (.const (.bool false)))]
def S128 : SFn := ⟨23, [.cell 4 (some 4), .tmp 5], .seq (.reg S128.r0) (.seq (.seq (.reg S128.r1) (.block 0 (.loop [1, 4, 8, 9, 10] [4, 5] (.seq (.reg S128.r2) (.seq (.cond (x 11) (.skip) (.exit 0)) (.seq (.block 1 (.seq (.reg S128.r3) (.seq (.reg S128.r4) (.cond (x 17) (.seq (.reg S128.r5) (.ret)) (.skip))))) (.reg S128.r6))))))) (.seq (.reg S128.r7) (.ret)))⟩
theorem S128_ok : EOk Tryz.prog 128 S128 := ⟨Tryz.f128, by kernel_rfl, by kernel_rfl, by decide, by kernel_rfl, its_nil (by kernel_rfl)⟩
def o128_s1 (cl : Handler) (N : Nat) (v1 v4 v8 v9 v10 v19 : AV) (h : AH) : Ans :=
  fst (cl 118 [v19] h) fun v20 h =>
  fst (kSt h 4 v4 v20) fun _ h =>
  some (.ret, [v1, v4, v8, v9, v10], [v4, (.bool true)], h)
def o128_l1 (cl : Handler) (N : Nat) (v1 v4 v8 v9 v10 : AV) (h : AH) : Ans :=
  fst (kArith h .lss v10 v9) fun v11 h =>
  fif v11 (
  fst (kIdxA h 5 v8 v10) fun v12 h =>
  fst (kLdn h 5 v12) fun v13 h =>
  fst (kNew h S128.z1) fun v7 h =>
  fst (kSt h 5 v7 v13) fun _ h =>
  fst (kFldA h 0 v7) fun v14 h =>
  fst (kLd1 h v14) fun v15 h =>
  fst (kArith h .eql v15 v1) fun v17 h =>
  fif v17 (
  fst (kFldA h 1 v7) fun v18 h =>
  fst (kLdn h 4 v18) fun v19 h =>
  o128_s1 cl N v1 v4 v8 v9 v10 v19 h) (
  fst (kArith h .add v10 (.int .i64 1)) fun v21 h =>
  some (.nrm, [v1, v4, v8, v9, v21], [v4, .undef], h))) (
  some ((.exit 0), [v1, v4, v8, v9, v10], [v4, .undef], h))
def o128_c2 (cl : Handler) (N : Nat) (v4 : AV) (h : AH) : Ans :=
  fst (kBuild h S128.z0 []) fun v22 h =>
  fst (kSt h 4 v4 v22) fun _ h =>
  fres (aresV h [.cell (v4) (some 4), .val ((.bool false))]) h
def o128_j3 (cl : Handler) (N : Nat) (x : AX) (v4 v5 : AV) (h : AH) : Ans :=
  fxs x (o128_c2 cl N v4 h) (fun j => cond (Nat.beq j 0) (o128_c2 cl N v4 h) (none)) (fres (aresV h [.cell (v4) (some 4), .val (v5)]) h)
def o128 (cl : Handler) (N : Nat) (v0 v1 : AV) (h : AH) : Ans :=
  fst (kNew h S128.z0) fun v4 h =>
  fst (kLen h v0) fun v9 h =>
  fjn (fiter (fun vs h => o128_l1 cl N (nthD vs 0) (nthD vs 1) (nthD vs 2) (nthD vs 3) (nthD vs 4) h) N [v1, v4, v0, v9, (.int .i64 0)] h) fun x vs h => o128_j3 cl N x (nthD vs 0) (nthD vs 1) h
theorem o128_eq (cl : Handler) (N : Nat) (v0 v1 : AV) (h : AH) : frun cl N S128 [v0, v1] h = fans (o128 cl N v0 v1 h) := by kernel_rfl
def w128 (N : Nat) : OF := fun cl args h => match args with
  | [v0, v1] => fans (o128 cl N v0 v1 h)
  | _ => none
theorem w128_ok (N : Nat) : OkF Tryz.prog 128 (w128 N) := .of (N := N) (S128_ok) fun cl args h r hr => by
  unfold w128 at hr
  split at hr
  · exact (o128_eq cl N _ _ _).trans hr
  · cases hr

/- widgetry/widgetryref14.Key -/
def S134.r0 : List AOpr := [
  q 2 (.mov (.const (.bool false)))]
def S134.r1 : List AOpr := [
  q 3 (.mov (x 0)),
  q 4 (.call (.const (.func (.func 172) [] [])) [.tmp 3]),
  q 2 (.mov (x 4))]
def S134 : SFn := ⟨5, [.tmp 2], .seq (.reg S134.r0) (.seq (.reg S134.r1) (.ret))⟩
theorem S134_ok : EOk Tryz.prog 134 S134 := ⟨Tryz.f134, by kernel_rfl, by kernel_rfl, by decide, by kernel_rfl, its_nil (by kernel_rfl)⟩
def o134 (cl : Handler) (N : Nat) (v0 : AV) (h : AH) : Ans :=
  fst (cl 172 [v0] h) fun v4 h =>
  some (.nrm, [], [v4], h)
theorem o134_eq (cl : Handler) (N : Nat) (v0 : AV) (h : AH) : frun cl N S134 [v0] h = fans (o134 cl N v0 h) := by kernel_rfl
def w134 (N : Nat) : OF := fun cl args h => match args with
  | [v0] => fans (o134 cl N v0 h)
  | _ => none
theorem w134_ok (N : Nat) : OkF Tryz.prog 134 (w134 N) := .of (N := N) (S134_ok) fun cl args h r hr => by
  unfold w134 at hr
  split at hr
  · exact (o134_eq cl N _ _).trans hr
  · cases hr

/- widgetry/widgetryref11.Name -/
def S135.r0 : List AOpr := [
  q 2 (.mov (.const (.bool false)))]
def S135.r1 : List AOpr := [
  q 4 (.mov (x 0)),
  q 5 (.lenS (x 4)),
  q 6 (.arith .lss (x 5) (.const (.int .i64 1))),
  q 7 (.mov (x 6)),
  ⟨some 8, .mov (x 0), some (7, false)⟩,
  ⟨some 9, .lenS (x 8), some (7, false)⟩,
  ⟨some 10, .arith .gtr (x 9) (.const (.int .i64 24)), some (7, false)⟩,
  q 11 (.pick (x 7) (.const (.bool true)) (x 10)),
  q 12 (.mov (x 11)),
  ⟨some 13, .mov (x 0), some (12, false)⟩,
  ⟨some 14, .idxS (x 13) (.const (.int .i64 0)), some (12, false)⟩,
  ⟨some 15, .call (.const (.func (.func 173) [] [])) [.tmp 14], some (12, false)⟩,
  ⟨some 16, .un .not (x 15), some (12, false)⟩,
  q 17 (.pick (x 12) (.const (.bool true)) (x 16))]
def S135.r2 : List AOpr := [
  q 2 (.mov (.const (.bool false)))]
def S135.r3 : List AOpr := [
  q 3 (.mov (.const (.int .i64 1)))]
def S135.r4 : List AOpr := [
  q 18 (.mov (x 3)),
  q 19 (.mov (x 0)),
  q 20 (.lenS (x 19)),
  q 21 (.arith .lss (x 18) (x 20))]
def S135.r5 : List AOpr := [
  q 24 (.mov (x 0)),
  q 25 (.mov (x 3)),
  q 26 (.idxS (x 24) (x 25)),
  q 27 (.call (.const (.func (.func 173) [] [])) [.tmp 26]),
  q 28 (.un .not (x 27)),
  q 29 (.mov (x 28)),
  ⟨some 30, .mov (x 0), some (29, true)⟩,
  ⟨some 31, .mov (x 3), some (29, true)⟩,
  ⟨some 32, .idxS (x 30) (x 31), some (29, true)⟩,
  ⟨some 33, .arith .lss (x 32) (.const (.int .u8 48)), some (29, true)⟩,
  ⟨some 34, .mov (x 33), some (29, true)⟩,
  ⟨some 35, .mov (x 0), some (34, false)⟩,
  ⟨some 36, .mov (x 3), some (34, false)⟩,
  ⟨some 37, .idxS (x 35) (x 36), some (34, false)⟩,
  ⟨some 38, .arith .gtr (x 37) (.const (.int .u8 57)), some (34, false)⟩,
  ⟨some 39, .pick (x 34) (.const (.bool true)) (x 38), some (29, true)⟩,
  q 40 (.pick (x 29) (x 39) (.const (.bool false))),
  q 41 (.mov (x 40)),
  ⟨some 42, .mov (x 0), some (41, true)⟩,
  ⟨some 43, .mov (x 3), some (41, true)⟩,
  ⟨some 44, .idxS (x 42) (x 43), some (41, true)⟩,
  ⟨some 45, .arith .neq (x 44) (.const (.int .u8 45)), some (41, true)⟩,
  q 46 (.pick (x 41) (x 45) (.const (.bool false))),
  q 47 (.mov (x 46)),
  ⟨some 48, .mov (x 0), some (47, true)⟩,
  ⟨some 49, .mov (x 3), some (47, true)⟩,
  ⟨some 50, .idxS (x 48) (x 49), some (47, true)⟩,
  ⟨some 51, .arith .neq (x 50) (.const (.int .u8 95)), some (47, true)⟩,
  q 52 (.pick (x 47) (x 51) (.const (.bool false)))]
def S135.r6 : List AOpr := [
  q 2 (.mov (.const (.bool false)))]
def S135.r7 : List AOpr := [
  q 22 (.mov (x 3)),
  q 23 (.arith .add (x 22) (.const (.int .i64 1))),
  q 3 (.mov (x 23))]
def S135.r8 : List AOpr := [
  q 2 (.mov (.const (.bool true)))]
def S135 : SFn := ⟨53, [.tmp 2], .seq (.reg S135.r0) (.seq (.seq (.joinN [0, 17] (.reg S135.r1)) (.cond (x 17) (.seq (.reg S135.r2) (.ret)) (.skip))) (.seq (.seq (.reg S135.r3) (.block 0 (.loop [0, 3] [2] (.seq (.seq (.reg S135.r4) (.cond (x 21) (.skip) (.exit 0))) (.seq (.block 1 (.seq (.joinN [0, 3, 52] (.reg S135.r5)) (.cond (x 52) (.seq (.reg S135.r6) (.ret)) (.skip)))) (.reg S135.r7)))))) (.seq (.reg S135.r8) (.ret))))⟩
theorem S135_ok : EOk Tryz.prog 135 S135 := ⟨Tryz.f135, by kernel_rfl, by kernel_rfl, by decide, by kernel_rfl, its_nil (by kernel_rfl)⟩
def o135_s1 (cl : Handler) (N : Nat) (v0 v12 v16 : AV) (h : AH) : Ans :=
  fst (kPick h v12 (.bool true) v16) fun v17 h =>
  some (.nrm, [], [v0, v17], h)
def o135_a1 (cl : Handler) (N : Nat) (v0 : AV) (h : AH) : Ans :=
  fst (kLenS h v0) fun v5 h =>
  fst (kArith h .lss v5 (.int .i64 1)) fun v6 h =>
  fgd (gdv false v6) (kMov h v0) h fun v8 h =>
  fgd (gdv false v6) (kLenS h v8) h fun v9 h =>
  fgd (gdv false v6) (kArith h .gtr v9 (.int .i64 24)) h fun v10 h =>
  fst (kPick h v6 (.bool true) v10) fun v11 h =>
  fgd (gdv false v11) (kMov h v0) h fun v13 h =>
  fgd (gdv false v11) (kIdxS h v13 (.int .i64 0)) h fun v14 h =>
  fgd (gdv false v11) (cl 173 [v14] h) h fun v15 h =>
  fgd (gdv false v11) (kUn h .not v15) h fun v16 h =>
  o135_s1 cl N v0 v11 v16 h
def o135_s2 (cl : Handler) (N : Nat) (v0 v3 v47 v48 : AV) (h : AH) : Ans :=
  fgd (gdv true v47) (kMov h v3) h fun v49 h =>
  fgd (gdv true v47) (kIdxS h v48 v49) h fun v50 h =>
  fgd (gdv true v47) (kArith h .neq v50 (.int .u8 95)) h fun v51 h =>
  fst (kPick h v47 v51 (.bool false)) fun v52 h =>
  some (.nrm, [], [v0, v3, v52], h)
def o135_s3 (cl : Handler) (N : Nat) (v0 v3 v29 v34 v35 v36 : AV) (h : AH) : Ans :=
  fgd (gdv false v34) (kIdxS h v35 v36) h fun v37 h =>
  fgd (gdv false v34) (kArith h .gtr v37 (.int .u8 57)) h fun v38 h =>
  fgd (gdv true v29) (kPick h v34 (.bool true) v38) h fun v39 h =>
  fst (kPick h v29 v39 (.bool false)) fun v40 h =>
  fgd (gdv true v40) (kMov h v0) h fun v42 h =>
  fgd (gdv true v40) (kMov h v3) h fun v43 h =>
  fgd (gdv true v40) (kIdxS h v42 v43) h fun v44 h =>
  fgd (gdv true v40) (kArith h .neq v44 (.int .u8 45)) h fun v45 h =>
  fst (kPick h v40 v45 (.bool false)) fun v46 h =>
  fgd (gdv true v46) (kMov h v0) h fun v48 h =>
  o135_s2 cl N v0 v3 v46 v48 h
def o135_a2 (cl : Handler) (N : Nat) (v0 v3 : AV) (h : AH) : Ans :=
  fst (kIdxS h v0 v3) fun v26 h =>
  fst (cl 173 [v26] h) fun v27 h =>
  fst (kUn h .not v27) fun v28 h =>
  fgd (gdv true v28) (kMov h v0) h fun v30 h =>
  fgd (gdv true v28) (kMov h v3) h fun v31 h =>
  fgd (gdv true v28) (kIdxS h v30 v31) h fun v32 h =>
  fgd (gdv true v28) (kArith h .lss v32 (.int .u8 48)) h fun v33 h =>
  fgd (gdv true v28) (kMov h v33) h fun v34 h =>
  fgd (gdv false v34) (kMov h v0) h fun v35 h =>
  fgd (gdv false v34) (kMov h v3) h fun v36 h =>
  o135_s3 cl N v0 v3 v28 v34 v35 v36 h
def o135_j3 (cl : Handler) (N : Nat) (v0 v3 v52 : AV) (h : AH) : Ans :=
  fif v52 (
  some (.ret, [v0, v3], [(.bool false)], h)) (
  fst (kArith h .add v3 (.int .i64 1)) fun v23 h =>
  some (.nrm, [v0, v23], [.undef], h))
def o135_l4 (cl : Handler) (N : Nat) (v0 v3 : AV) (h : AH) : Ans :=
  fst (kLenS h v0) fun v20 h =>
  fst (kArith h .lss v3 v20) fun v21 h =>
  fif v21 (
  fjn (o135_a2 cl N v0 v3 h) fun _ vs h => o135_j3 cl N (nthD vs 0) (nthD vs 1) (nthD vs 2) h) (
  some ((.exit 0), [v0, v3], [.undef], h))
def o135_c5 (cl : Handler) (N : Nat) (h : AH) : Ans :=
  some (.nrm, [], [(.bool true)], h)
def o135_j6 (cl : Handler) (N : Nat) (x : AX) (v2 : AV) (h : AH) : Ans :=
  fxs x (o135_c5 cl N h) (fun j => cond (Nat.beq j 0) (o135_c5 cl N h) (none)) (some (.nrm, [], [v2], h))
def o135_j7 (cl : Handler) (N : Nat) (v0 v17 : AV) (h : AH) : Ans :=
  fif v17 (
  some (.nrm, [], [(.bool false)], h)) (
  fjn (fiter (fun vs h => o135_l4 cl N (nthD vs 0) (nthD vs 1) h) N [v0, (.int .i64 1)] h) fun x vs h => o135_j6 cl N x (nthD vs 0) h)
def o135 (cl : Handler) (N : Nat) (v0 : AV) (h : AH) : Ans :=
  fjn (o135_a1 cl N v0 h) fun _ vs h => o135_j7 cl N (nthD vs 0) (nthD vs 1) h
theorem o135_eq (cl : Handler) (N : Nat) (v0 : AV) (h : AH) : frun cl N S135 [v0] h = fans (o135 cl N v0 h) := by kernel_rfl
def w135 (N : Nat) : OF := fun cl args h => match args with
  | [v0] => fans (o135 cl N v0 h)
  | _ => none
theorem w135_ok (N : Nat) : OkF Tryz.prog 135 (w135 N) := .of (N := N) (S135_ok) fun cl args h r hr => by
  unfold w135 at hr
  split at hr
  · exact (o135_eq cl N _ _).trans hr
  · cases hr

/- widgetry/widgetryref11.Check -/
def S136.r0 : List AOpr := [
  q 1 (.box (x 0)),
  q 2 (.mov (.const (.int .i64 0)))]
def S136.r1 : List AOpr := [
  q 6 (.ldn 4 (x 1)),
  q 7 (.call (.const (.func (.func 174) [] [])) [.tmp 6]),
  q 5 (.mov (x 7)),
  q 8 (.ext (x 5) 0),
  q 9 (.ext (x 5) 1),
  q 3 (.new [.int .i64 0, .nilsl]),
  ⟨none, .st 2 (x 3) (x 8), none⟩,
  q 4 (.mov (x 9))]
def S136.r2 : List AOpr := [
  q 10 (.mov (x 4)),
  q 2 (.mov (x 10))]
def S136 : SFn := ⟨11, [.tmp 2], .seq (.reg S136.r0) (.seq (.reg S136.r1) (.seq (.reg S136.r2) (.ret)))⟩
theorem S136_ok : EOk Tryz.prog 136 S136 := ⟨Tryz.f136, by kernel_rfl, by kernel_rfl, by decide, by kernel_rfl, its_nil (by kernel_rfl)⟩
def o136 (cl : Handler) (N : Nat) (v0 : AV) (h : AH) : Ans :=
  fst (kBox h v0) fun v1 h =>
  fst (kLdn h 4 v1) fun v6 h =>
  fst (cl 174 [v6] h) fun v7 h =>
  fst (kExt h v7 0) fun v8 h =>
  fst (kExt h v7 1) fun v9 h =>
  fst (kNew h [.int .i64 0, .nilsl]) fun v3 h =>
  fst (kSt h 2 v3 v8) fun _ h =>
  some (.nrm, [], [v9], h)
theorem o136_eq (cl : Handler) (N : Nat) (v0 : AV) (h : AH) : frun cl N S136 [v0] h = fans (o136 cl N v0 h) := by kernel_rfl
def w136 (N : Nat) : OF := fun cl args h => match args with
  | [v0] => fans (o136 cl N v0 h)
  | _ => none
theorem w136_ok (N : Nat) : OkF Tryz.prog 136 (w136 N) := .of (N := N) (S136_ok) fun cl args h r hr => by
  unfold w136 at hr
  split at hr
  · exact (o136_eq cl N _ _).trans hr
  · cases hr

def S138.z0 : List AV := [.int .i64 0, .int .i64 0, .int .i64 0, .str [], .nilsl, .nilsl, .nilsl]
/- widgetry/widgetryref14.shaped -/
def S138.r0 : List AOpr := [
  q 1 (.box (x 0)),
  q 2 (.mov (.const (.bool false)))]
def S138.r1 : List AOpr := [
  q 12 (.fldA 1 (x 1)),
  q 13 (.ld1 (x 12)),
  q 14 (.arith .lss (x 13) (.const (.int .i64 2))),
  q 15 (.mov (x 14)),
  ⟨some 16, .fldA 1 (x 1), some (15, false)⟩,
  ⟨some 17, .ld1 (x 16), some (15, false)⟩,
  ⟨some 18, .arith .gtr (x 17) (.const (.int .i64 1099511627776)), some (15, false)⟩,
  q 19 (.pick (x 15) (.const (.bool true)) (x 18)),
  q 20 (.mov (x 19)),
  ⟨some 21, .fldA 2 (x 1), some (20, false)⟩,
  ⟨some 22, .ld1 (x 21), some (20, false)⟩,
  ⟨some 23, .len (x 22), some (20, false)⟩,
  ⟨some 24, .arith .lss (x 23) (.const (.int .i64 1)), some (20, false)⟩,
  q 25 (.pick (x 20) (.const (.bool true)) (x 24)),
  q 26 (.mov (x 25)),
  ⟨some 27, .fldA 2 (x 1), some (26, false)⟩,
  ⟨some 28, .ld1 (x 27), some (26, false)⟩,
  ⟨some 29, .len (x 28), some (26, false)⟩,
  ⟨some 30, .arith .gtr (x 29) (.const (.int .i64 400)), some (26, false)⟩,
  q 31 (.pick (x 26) (.const (.bool true)) (x 30))]
def S138.r2 : List AOpr := [
  q 2 (.mov (.const (.bool false)))]
def S138.r3 : List AOpr := [
  q 3 (.mov (.const (.int .i64 0)))]
def S138.r4 : List AOpr := [
  q 4 (.mov (.const (.int .i64 0)))]
def S138.r5 : List AOpr := [
  q 32 (.mov (x 4)),
  q 33 (.fldA 2 (x 1)),
  q 34 (.ld1 (x 33)),
  q 35 (.len (x 34)),
  q 36 (.arith .lss (x 32) (x 35))]
def S138.r6 : List (AOpr × Nat) := [
  (q 39 (.fldA 2 (x 1)), 0),
  (q 40 (.ld1 (x 39)), 1),
  (q 41 (.mov (x 4)), 0),
  (q 42 (.idxA 7 (x 40) (x 41)), 7),
  (q 43 (.fldA 0 (x 42)), 15),
  (q 44 (.ld1 (x 43)), 31),
  (q 45 (.mov (x 3)), 0),
  (q 46 (.arith .leq (x 44) (x 45)), 127),
  (q 47 (.mov (x 46)), 255),
  (⟨some 48, .fldA 2 (x 1), some (47, false)⟩, 511),
  (⟨some 49, .ld1 (x 48), some (47, false)⟩, 1023),
  (⟨some 50, .mov (x 4), some (47, false)⟩, 511),
  (⟨some 51, .idxA 7 (x 49) (x 50), some (47, false)⟩, 4095),
  (⟨some 52, .fldA 0 (x 51), some (47, false)⟩, 8191),
  (⟨some 53, .ld1 (x 52), some (47, false)⟩, 16383),
  (⟨some 54, .fldA 1 (x 1), some (47, false)⟩, 511),
  (⟨some 55, .ld1 (x 54), some (47, false)⟩, 33279),
  (⟨some 56, .arith .geq (x 53) (x 55), some (47, false)⟩, 131071),
  (q 57 (.pick (x 47) (.const (.bool true)) (x 56)), 262143)]
def S138.r7 : List AOpr := [
  q 2 (.mov (.const (.bool false)))]
def S138.r8 : List AOpr := [
  q 58 (.fldA 2 (x 1)),
  q 59 (.ld1 (x 58)),
  q 60 (.mov (x 4)),
  q 61 (.idxA 7 (x 59) (x 60)),
  q 62 (.fldA 0 (x 61)),
  q 63 (.ld1 (x 62)),
  q 3 (.mov (x 63))]
def S138.r9 : List AOpr := [
  q 37 (.mov (x 4)),
  q 38 (.arith .add (x 37) (.const (.int .i64 1))),
  q 4 (.mov (x 38))]
def S138.r10 : List AOpr := [
  q 64 (.ldn 3 (x 1)),
  q 65 (.fldA 0 (x 1)),
  q 66 (.ld1 (x 65)),
  q 67 (.call (.const (.func (.func 96) [] [])) [.tmp 64, .tmp 66]),
  q 5 (.mov (x 67))]
def S138.r11 : List AOpr := [
  q 68 (.mov (x 5)),
  q 69 (.arith .lss (x 68) (.const (.int .i64 0)))]
def S138.r12 : List AOpr := [
  q 2 (.mov (.const (.bool false)))]
def S138.r13 : List AOpr := [
  q 6 (.mov (.const (.int .i64 0)))]
def S138.r14 : List AOpr := [
  q 7 (.mov (.const (.int .i64 0)))]
def S138.r15 : List AOpr := [
  q 70 (.mov (x 7)),
  q 71 (.fldA 2 (x 1)),
  q 72 (.ld1 (x 71)),
  q 73 (.len (x 72)),
  q 74 (.arith .lss (x 70) (x 73))]
def S138.r16 : List AOpr := [
  q 77 (.fldA 2 (x 1)),
  q 78 (.ld1 (x 77)),
  q 79 (.mov (x 7)),
  q 80 (.idxA 7 (x 78) (x 79)),
  q 81 (.ldn 7 (x 80)),
  q 8 (.new S138.z0),
  ⟨none, .st 7 (x 8) (x 81), none⟩]
def S138.r17 : List AOpr := [
  q 82 (.fldA 1 (x 8)),
  q 83 (.ld1 (x 82)),
  q 84 (.arith .eql (x 83) (.const (.int .i64 0))),
  q 85 (.mov (x 7)),
  q 86 (.mov (x 5)),
  q 87 (.arith .eql (x 85) (x 86)),
  q 88 (.eqs true (x 84) (x 87))]
def S138.r18 : List AOpr := [
  q 2 (.mov (.const (.bool false)))]
def S138.r19 : List AOpr := [
  q 89 (.fldA 6 (x 8)),
  q 90 (.ld1 (x 89)),
  q 91 (.len (x 90)),
  q 92 (.fldA 2 (x 1)),
  q 93 (.ld1 (x 92)),
  q 94 (.len (x 93)),
  q 95 (.arith .gtr (x 91) (x 94))]
def S138.r20 : List AOpr := [
  q 2 (.mov (.const (.bool false)))]
def S138.r21 : List AOpr := [
  q 9 (.mov (.const (.int .i64 0)))]
def S138.r22 : List AOpr := [
  q 96 (.mov (x 9)),
  q 97 (.fldA 6 (x 8)),
  q 98 (.ld1 (x 97)),
  q 99 (.len (x 98)),
  q 100 (.arith .lss (x 96) (x 99))]
def S138.r23 : List (AOpr × Nat) := [
  (q 103 (.ldn 3 (x 1)), 0),
  (q 104 (.fldA 6 (x 8)), 0),
  (q 105 (.ld1 (x 104)), 2),
  (q 106 (.mov (x 9)), 0),
  (q 107 (.idxA 1 (x 105) (x 106)), 14),
  (q 108 (.ld1 (x 107)), 30),
  (q 109 (.call (.const (.func (.func 96) [] [])) [.tmp 103, .tmp 108]), 63),
  (q 10 (.mov (x 109)), 127)]
def S138.r24 : List (AOpr × Nat) := [
  (q 110 (.mov (x 10)), 0),
  (q 111 (.arith .lss (x 110) (.const (.int .i64 0))), 1),
  (q 112 (.mov (x 111)), 3),
  (⟨some 113, .fldA 2 (x 1), some (112, false)⟩, 7),
  (⟨some 114, .ld1 (x 113), some (112, false)⟩, 15),
  (⟨some 115, .mov (x 10), some (112, false)⟩, 7),
  (⟨some 116, .idxA 7 (x 114) (x 115), some (112, false)⟩, 63),
  (⟨some 117, .fldA 1 (x 116), some (112, false)⟩, 127),
  (⟨some 118, .ld1 (x 117), some (112, false)⟩, 255),
  (⟨some 119, .fldA 0 (x 8), some (112, false)⟩, 7),
  (⟨some 120, .ld1 (x 119), some (112, false)⟩, 519),
  (⟨some 121, .arith .neq (x 118) (x 120), some (112, false)⟩, 2047),
  (q 122 (.pick (x 112) (.const (.bool true)) (x 121)), 4095)]
def S138.r25 : List AOpr := [
  q 2 (.mov (.const (.bool false)))]
def S138.r26 : List AOpr := [
  q 11 (.mov (.const (.int .i64 0)))]
def S138.r27 : List AOpr := [
  q 123 (.mov (x 11)),
  q 124 (.mov (x 9)),
  q 125 (.arith .lss (x 123) (x 124))]
def S138.r28 : List (AOpr × Nat) := [
  (q 128 (.fldA 6 (x 8)), 0),
  (q 129 (.ld1 (x 128)), 1),
  (q 130 (.mov (x 11)), 0),
  (q 131 (.idxA 1 (x 129) (x 130)), 7),
  (q 132 (.ld1 (x 131)), 15),
  (q 133 (.fldA 6 (x 8)), 0),
  (q 134 (.ld1 (x 133)), 32),
  (q 135 (.mov (x 9)), 0),
  (q 136 (.idxA 1 (x 134) (x 135)), 224),
  (q 137 (.ld1 (x 136)), 480),
  (q 138 (.arith .eql (x 132) (x 137)), 1023)]
def S138.r29 : List AOpr := [
  q 2 (.mov (.const (.bool false)))]
def S138.r30 : List AOpr := [
  q 126 (.mov (x 11)),
  q 127 (.arith .add (x 126) (.const (.int .i64 1))),
  q 11 (.mov (x 127))]
def S138.r31 : List AOpr := [
  q 139 (.mov (x 6)),
  q 140 (.arith .add (x 139) (.const (.int .i64 1))),
  q 6 (.mov (x 140))]
def S138.r32 : List AOpr := [
  q 101 (.mov (x 9)),
  q 102 (.arith .add (x 101) (.const (.int .i64 1))),
  q 9 (.mov (x 102))]
def S138.r33 : List AOpr := [
  q 75 (.mov (x 7)),
  q 76 (.arith .add (x 75) (.const (.int .i64 1))),
  q 7 (.mov (x 76))]
def S138.r34 : List AOpr := [
  q 141 (.mov (x 6)),
  q 142 (.fldA 2 (x 1)),
  q 143 (.ld1 (x 142)),
  q 144 (.len (x 143)),
  q 145 (.arith .sub (x 144) (.const (.int .i64 1))),
  q 146 (.arith .neq (x 141) (x 145))]
def S138.r35 : List AOpr := [
  q 2 (.mov (.const (.bool false)))]
def S138.r36 : List (AOpr × Nat) := [
  (q 147 (.ldn 3 (x 1)), 0),
  (q 148 (.fldA 0 (x 1)), 0),
  (q 149 (.ld1 (x 148)), 2),
  (q 150 (.call (.const (.func (.func 116) [] [])) [.tmp 147, .tmp 149, .const (.nilsl)]), 7),
  (q 151 (.len (x 150)), 15),
  (q 152 (.fldA 2 (x 1)), 0),
  (q 153 (.ld1 (x 152)), 32),
  (q 154 (.len (x 153)), 96),
  (q 155 (.arith .eql (x 151) (x 154)), 255),
  (q 2 (.mov (x 155)), 511)]
def S138 : SFn := ⟨156, [.tmp 2], .seq (.reg S138.r0) (.seq (.seq (.joinN [1, 31] (.reg S138.r1)) (.cond (x 31) (.seq (.reg S138.r2) (.ret)) (.skip))) (.seq (.reg S138.r3) (.seq (.seq (.reg S138.r4) (.block 0 (.loop [1, 3, 4] [1, 2] (.seq (.seq (.reg S138.r5) (.cond (x 36) (.skip) (.exit 0))) (.seq (.block 1 (.seq (.seq (.joinN [1, 4, 57] (.draw S138.r6)) (.cond (x 57) (.seq (.reg S138.r7) (.ret)) (.skip))) (.reg S138.r8))) (.reg S138.r9)))))) (.seq (.reg S138.r10) (.seq (.seq (.reg S138.r11) (.cond (x 69) (.seq (.reg S138.r12) (.ret)) (.skip))) (.seq (.reg S138.r13) (.seq (.seq (.reg S138.r14) (.block 2 (.loop [1, 5, 6, 7] [1, 2, 6] (.seq (.seq (.reg S138.r15) (.cond (x 74) (.skip) (.exit 2))) (.seq (.block 3 (.seq (.reg S138.r16) (.seq (.seq (.reg S138.r17) (.cond (x 88) (.seq (.reg S138.r18) (.ret)) (.skip))) (.seq (.seq (.reg S138.r19) (.cond (x 95) (.seq (.reg S138.r20) (.ret)) (.skip))) (.seq (.reg S138.r21) (.block 4 (.loop [1, 5, 6, 7, 8, 9] [1, 2, 5, 6, 7] (.seq (.seq (.reg S138.r22) (.cond (x 100) (.skip) (.exit 4))) (.seq (.block 5 (.seq (.draw S138.r23) (.seq (.seq (.joinN [1, 5, 6, 7, 8, 9, 122] (.draw S138.r24)) (.cond (x 122) (.seq (.reg S138.r25) (.ret)) (.skip))) (.seq (.seq (.reg S138.r26) (.block 6 (.loop [1, 5, 6, 7, 8, 9, 11] [1, 2, 5, 6, 7, 8, 9] (.seq (.seq (.reg S138.r27) (.cond (x 125) (.skip) (.exit 6))) (.seq (.block 7 (.seq (.draw S138.r28) (.cond (x 138) (.seq (.reg S138.r29) (.ret)) (.skip)))) (.reg S138.r30)))))) (.reg S138.r31))))) (.reg S138.r32)))))))))) (.reg S138.r33)))))) (.seq (.seq (.reg S138.r34) (.cond (x 146) (.seq (.reg S138.r35) (.ret)) (.skip))) (.seq (.draw S138.r36) (.ret))))))))))⟩
theorem S138_ok : EOk Tryz.prog 138 S138 := ⟨Tryz.f138, by kernel_rfl, by kernel_rfl, by decide, by kernel_rfl, its_nil (by kernel_rfl)⟩
def o138_s1 (cl : Handler) (N : Nat) (v1 v20 v23 : AV) (h : AH) : Ans :=
  fgd (gdv false v20) (kArith h .lss v23 (.int .i64 1)) h fun v24 h =>
  fst (kPick h v20 (.bool true) v24) fun v25 h =>
  fgd (gdv false v25) (kFldA h 2 v1) h fun v27 h =>
  fgd (gdv false v25) (kLd1 h v27) h fun v28 h =>
  fgd (gdv false v25) (kLen h v28) h fun v29 h =>
  fgd (gdv false v25) (kArith h .gtr v29 (.int .i64 400)) h fun v30 h =>
  fst (kPick h v25 (.bool true) v30) fun v31 h =>
  some (.nrm, [], [v1, v31], h)
def o138_a1 (cl : Handler) (N : Nat) (v1 : AV) (h : AH) : Ans :=
  fst (kFldA h 1 v1) fun v12 h =>
  fst (kLd1 h v12) fun v13 h =>
  fst (kArith h .lss v13 (.int .i64 2)) fun v14 h =>
  fgd (gdv false v14) (kFldA h 1 v1) h fun v16 h =>
  fgd (gdv false v14) (kLd1 h v16) h fun v17 h =>
  fgd (gdv false v14) (kArith h .gtr v17 (.int .i64 1099511627776)) h fun v18 h =>
  fst (kPick h v14 (.bool true) v18) fun v19 h =>
  fgd (gdv false v19) (kFldA h 2 v1) h fun v21 h =>
  fgd (gdv false v19) (kLd1 h v21) h fun v22 h =>
  fgd (gdv false v19) (kLen h v22) h fun v23 h =>
  o138_s1 cl N v1 v19 v23 h
def o138_s2 (cl : Handler) (N : Nat) (c0 c1 c2 c3 c4 c5 c6 c7 c8 c9 : Rec) (v1 v4 v47 v48 : AV) (h : AH) : Ans :=
  fgq (gdv false v47) (fun k => fdp h (kLd1 h v48) (rdK (rdv v48)) k) h fun v49 c10 h =>
  fgq (gdv false v47) (fun k => fdp h (kMov h v4) .pure k) h fun v50 c11 h =>
  fgq (gdv false v47) (fun k => fdp h (kIdxA h 7 v49 v50) .pure k) h fun v51 c12 h =>
  fgq (gdv false v47) (fun k => fdp h (kFldA h 0 v51) .pure k) h fun v52 c13 h =>
  fgq (gdv false v47) (fun k => fdp h (kLd1 h v52) (rdK (rdv v52)) k) h fun v53 c14 h =>
  fgq (gdv false v47) (fun k => fdp h (kFldA h 1 v1) .pure k) h fun v54 c15 h =>
  fgq (gdv false v47) (fun k => fdp h (kLd1 h v54) (rdK (rdv v54)) k) h fun v55 c16 h =>
  fgq (gdv false v47) (fun k => fdp h (kArith h .geq v53 v55) .pure k) h fun v56 c17 h =>
  fdp h (kPick h v47 (.bool true) v56) .pure fun v57 c18 h =>
  cond (fchk [c0, c1, c2, c3, c4, c5, c6, c7, c8, c9, c10, c11, c12, c13, c14, c15, c16, c17, c18] []) (some (.nrm, [], [v1, v4, v57], h)) none
def o138_a2 (cl : Handler) (N : Nat) (v1 v3 v4 : AV) (h : AH) : Ans :=
  fdr h 19 fun r h =>
  fdp h (kFldA h 2 v1) .pure fun v39 c0 h =>
  fdp h (kLd1 h v39) (rdK (rdv v39)) fun v40 c1 h =>
  fdp h (kMov h v4) .pure fun v41 c2 h =>
  fdp h (kIdxA h 7 v40 v41) .pure fun v42 c3 h =>
  fdp h (kFldA h 0 v42) .pure fun v43 c4 h =>
  fdp h (kLd1 h v43) (rdK (rdv v43)) fun v44 c5 h =>
  fdp h (kMov h v3) .pure fun v45 c6 h =>
  fdp h (kArith h .leq v44 v45) .pure fun v46 c7 h =>
  fdp h (kMov h v46) .pure fun v47 c8 h =>
  fgq (gdv false v47) (fun k => fdp h (kFldA h 2 v1) .pure k) h fun v48 c9 h =>
  o138_s2 cl N c0 c1 c2 c3 c4 c5 c6 c7 c8 c9 v1 v4 v47 v48 h
def o138_j3 (cl : Handler) (N : Nat) (v1 v4 v57 : AV) (h : AH) : Ans :=
  fif v57 (
  some (.ret, [v1, .undef, v4], [v1, (.bool false)], h)) (
  fst (kFldA h 2 v1) fun v58 h =>
  fst (kLd1 h v58) fun v59 h =>
  fst (kIdxA h 7 v59 v4) fun v61 h =>
  fst (kFldA h 0 v61) fun v62 h =>
  fst (kLd1 h v62) fun v63 h =>
  fst (kArith h .add v4 (.int .i64 1)) fun v38 h =>
  some (.nrm, [v1, v63, v38], [v1, .undef], h))
def o138_l4 (cl : Handler) (N : Nat) (v1 v3 v4 : AV) (h : AH) : Ans :=
  fst (kFldA h 2 v1) fun v33 h =>
  fst (kLd1 h v33) fun v34 h =>
  fst (kLen h v34) fun v35 h =>
  fst (kArith h .lss v4 v35) fun v36 h =>
  fif v36 (
  fjn (o138_a2 cl N v1 v3 v4 h) fun _ vs h => o138_j3 cl N (nthD vs 0) (nthD vs 1) (nthD vs 2) h) (
  some ((.exit 0), [v1, v3, v4], [v1, .undef], h))
def o138_s3 (cl : Handler) (N : Nat) (c0 c1 c2 c3 c4 c5 c6 c7 c8 c9 : Rec) (v1 v5 v6 v7 v8 v9 v112 v118 v119 : AV) (h : AH) : Ans :=
  fgq (gdv false v112) (fun k => fdp h (kLd1 h v119) (rdK (rdv v119)) k) h fun v120 c10 h =>
  fgq (gdv false v112) (fun k => fdp h (kArith h .neq v118 v120) .pure k) h fun v121 c11 h =>
  fdp h (kPick h v112 (.bool true) v121) .pure fun v122 c12 h =>
  cond (fchk [c0, c1, c2, c3, c4, c5, c6, c7, c8, c9, c10, c11, c12] []) (some (.nrm, [], [v1, v5, v6, v7, v8, v9, v122], h)) none
def o138_a5 (cl : Handler) (N : Nat) (v1 v5 v6 v7 v8 v9 v10 : AV) (h : AH) : Ans :=
  fdr h 13 fun r h =>
  fdp h (kMov h v10) .pure fun v110 c0 h =>
  fdp h (kArith h .lss v110 (.int .i64 0)) .pure fun v111 c1 h =>
  fdp h (kMov h v111) .pure fun v112 c2 h =>
  fgq (gdv false v112) (fun k => fdp h (kFldA h 2 v1) .pure k) h fun v113 c3 h =>
  fgq (gdv false v112) (fun k => fdp h (kLd1 h v113) (rdK (rdv v113)) k) h fun v114 c4 h =>
  fgq (gdv false v112) (fun k => fdp h (kMov h v10) .pure k) h fun v115 c5 h =>
  fgq (gdv false v112) (fun k => fdp h (kIdxA h 7 v114 v115) .pure k) h fun v116 c6 h =>
  fgq (gdv false v112) (fun k => fdp h (kFldA h 1 v116) .pure k) h fun v117 c7 h =>
  fgq (gdv false v112) (fun k => fdp h (kLd1 h v117) (rdK (rdv v117)) k) h fun v118 c8 h =>
  fgq (gdv false v112) (fun k => fdp h (kFldA h 0 v8) .pure k) h fun v119 c9 h =>
  o138_s3 cl N c0 c1 c2 c3 c4 c5 c6 c7 c8 c9 v1 v5 v6 v7 v8 v9 v112 v118 v119 h
def o138_s4 (cl : Handler) (N : Nat) (c0 c1 c2 c3 c4 c5 c6 c7 c8 : Rec) (v1 v5 v6 v7 v8 v9 v11 v132 v136 : AV) (h : AH) : Ans :=
  fdp h (kLd1 h v136) (rdK (rdv v136)) fun v137 c9 h =>
  fdp h (kArith h .eql v132 v137) .pure fun v138 c10 h =>
  cond (fchk [c0, c1, c2, c3, c4, c5, c6, c7, c8, c9, c10] []) (fif v138 (
  some (.ret, [v1, v5, v6, v7, v8, v9, v11], [v1, (.bool false), v5, v6, v7, v8, v9], h)) (
  fst (kArith h .add v11 (.int .i64 1)) fun v127 h =>
  some (.nrm, [v1, v5, v6, v7, v8, v9, v127], [v1, .undef, v5, v6, v7, v8, v9], h))) none
def o138_l6 (cl : Handler) (N : Nat) (v1 v5 v6 v7 v8 v9 v11 : AV) (h : AH) : Ans :=
  fst (kArith h .lss v11 v9) fun v125 h =>
  fif v125 (
  fdr h 11 fun r h =>
  fdp h (kFldA h 6 v8) .pure fun v128 c0 h =>
  fdp h (kLd1 h v128) (rdK (rdv v128)) fun v129 c1 h =>
  fdp h (kMov h v11) .pure fun v130 c2 h =>
  fdp h (kIdxA h 1 v129 v130) .pure fun v131 c3 h =>
  fdp h (kLd1 h v131) (rdK (rdv v131)) fun v132 c4 h =>
  fdp h (kFldA h 6 v8) .pure fun v133 c5 h =>
  fdp h (kLd1 h v133) (rdK (rdv v133)) fun v134 c6 h =>
  fdp h (kMov h v9) .pure fun v135 c7 h =>
  fdp h (kIdxA h 1 v134 v135) .pure fun v136 c8 h =>
  o138_s4 cl N c0 c1 c2 c3 c4 c5 c6 c7 c8 v1 v5 v6 v7 v8 v9 v11 v132 v136 h) (
  some ((.exit 6), [v1, v5, v6, v7, v8, v9, v11], [v1, .undef, v5, v6, v7, v8, v9], h))
def o138_c7 (cl : Handler) (N : Nat) (v1 v2 v5 v6 v7 v8 v9 : AV) (h : AH) : Ans :=
  fst (kArith h .add v6 (.int .i64 1)) fun v140 h =>
  fst (kArith h .add v9 (.int .i64 1)) fun v102 h =>
  some (.nrm, [v1, v5, v140, v7, v8, v102], [v1, v2, v5, v140, v7], h)
def o138_j8 (cl : Handler) (N : Nat) (x : AX) (v1 v2 v5 v6 v7 v8 v9 : AV) (h : AH) : Ans :=
  fxs x (o138_c7 cl N v1 v2 v5 v6 v7 v8 v9 h) (fun j => cond (Nat.beq j 6) (o138_c7 cl N v1 v2 v5 v6 v7 v8 v9 h) (cond (Nat.beq j 5) (fst (kArith h .add v9 (.int .i64 1)) fun v102 h =>
  some (.nrm, [v1, v5, v6, v7, v8, v102], [v1, v2, v5, v6, v7], h)) (some ((.exit j), [v1, v5, v6, v7, v8, v9], [v1, v2, v5, v6, v7], h)))) (some (.ret, [v1, v5, v6, v7, v8, v9], [v1, v2, v5, v6, v7], h))
def o138_j9 (cl : Handler) (N : Nat) (v1 v5 v6 v7 v8 v9 v122 : AV) (h : AH) : Ans :=
  fif v122 (
  some (.ret, [v1, v5, v6, v7, v8, v9], [v1, (.bool false), v5, v6, v7], h)) (
  fjn (fiter (fun vs h => o138_l6 cl N (nthD vs 0) (nthD vs 1) (nthD vs 2) (nthD vs 3) (nthD vs 4) (nthD vs 5) (nthD vs 6) h) N [v1, v5, v6, v7, v8, v9, (.int .i64 0)] h) fun x vs h => o138_j8 cl N x (nthD vs 0) (nthD vs 1) (nthD vs 2) (nthD vs 3) (nthD vs 4) (nthD vs 5) (nthD vs 6) h)
def o138_s5 (cl : Handler) (N : Nat) (c0 c1 c2 c3 c4 c5 : Rec) (v1 v5 v6 v7 v8 v9 v103 v108 : AV) (h : AH) : Ans :=
  fde h (cl 96 [v103, v108] h) fun v109 c6 h =>
  fdp h (kMov h v109) .pure fun v10 c7 h =>
  cond (fchk [c0, c1, c2, c3, c4, c5, c6, c7] []) (fjn (o138_a5 cl N v1 v5 v6 v7 v8 v9 v10 h) fun _ vs h => o138_j9 cl N (nthD vs 0) (nthD vs 1) (nthD vs 2) (nthD vs 3) (nthD vs 4) (nthD vs 5) (nthD vs 6) h) none
def o138_l10 (cl : Handler) (N : Nat) (v1 v5 v6 v7 v8 v9 : AV) (h : AH) : Ans :=
  fst (kFldA h 6 v8) fun v97 h =>
  fst (kLd1 h v97) fun v98 h =>
  fst (kLen h v98) fun v99 h =>
  fst (kArith h .lss v9 v99) fun v100 h =>
  fif v100 (
  fdr h 8 fun r h =>
  fdp h (kLdn h 3 v1) (rdK (rdv v1)) fun v103 c0 h =>
  fdp h (kFldA h 6 v8) .pure fun v104 c1 h =>
  fdp h (kLd1 h v104) (rdK (rdv v104)) fun v105 c2 h =>
  fdp h (kMov h v9) .pure fun v106 c3 h =>
  fdp h (kIdxA h 1 v105 v106) .pure fun v107 c4 h =>
  fdp h (kLd1 h v107) (rdK (rdv v107)) fun v108 c5 h =>
  o138_s5 cl N c0 c1 c2 c3 c4 c5 v1 v5 v6 v7 v8 v9 v103 v108 h) (
  some ((.exit 4), [v1, v5, v6, v7, v8, v9], [v1, .undef, v5, v6, v7], h))
def o138_c11 (cl : Handler) (N : Nat) (v1 v2 v5 v6 v7 : AV) (h : AH) : Ans :=
  fst (kArith h .add v7 (.int .i64 1)) fun v76 h =>
  some (.nrm, [v1, v5, v6, v76], [v1, v2, v6], h)
def o138_j12 (cl : Handler) (N : Nat) (x : AX) (v1 v2 v5 v6 v7 : AV) (h : AH) : Ans :=
  fxs x (o138_c11 cl N v1 v2 v5 v6 v7 h) (fun j => cond (Nat.beq j 4) (o138_c11 cl N v1 v2 v5 v6 v7 h) (cond (Nat.beq j 3) (fst (kArith h .add v7 (.int .i64 1)) fun v76 h =>
  some (.nrm, [v1, v5, v6, v76], [v1, v2, v6], h)) (some ((.exit j), [v1, v5, v6, v7], [v1, v2, v6], h)))) (some (.ret, [v1, v5, v6, v7], [v1, v2, v6], h))
def o138_s6 (cl : Handler) (N : Nat) (v1 v5 v6 v7 v8 v91 v93 : AV) (h : AH) : Ans :=
  fst (kLen h v93) fun v94 h =>
  fst (kArith h .gtr v91 v94) fun v95 h =>
  fif v95 (
  some (.ret, [v1, v5, v6, v7], [v1, (.bool false), v6], h)) (
  fjn (fiter (fun vs h => o138_l10 cl N (nthD vs 0) (nthD vs 1) (nthD vs 2) (nthD vs 3) (nthD vs 4) (nthD vs 5) h) N [v1, v5, v6, v7, v8, (.int .i64 0)] h) fun x vs h => o138_j12 cl N x (nthD vs 0) (nthD vs 1) (nthD vs 2) (nthD vs 3) (nthD vs 4) h)
def o138_s7 (cl : Handler) (N : Nat) (v1 v5 v6 v7 v8 : AV) (h : AH) : Ans :=
  fst (kFldA h 1 v8) fun v82 h =>
  fst (kLd1 h v82) fun v83 h =>
  fst (kArith h .eql v83 (.int .i64 0)) fun v84 h =>
  fst (kArith h .eql v7 v5) fun v87 h =>
  fst (kEqs h true v84 v87) fun v88 h =>
  fif v88 (
  some (.ret, [v1, v5, v6, v7], [v1, (.bool false), v6], h)) (
  fst (kFldA h 6 v8) fun v89 h =>
  fst (kLd1 h v89) fun v90 h =>
  fst (kLen h v90) fun v91 h =>
  fst (kFldA h 2 v1) fun v92 h =>
  fst (kLd1 h v92) fun v93 h =>
  o138_s6 cl N v1 v5 v6 v7 v8 v91 v93 h)
def o138_l13 (cl : Handler) (N : Nat) (v1 v5 v6 v7 : AV) (h : AH) : Ans :=
  fst (kFldA h 2 v1) fun v71 h =>
  fst (kLd1 h v71) fun v72 h =>
  fst (kLen h v72) fun v73 h =>
  fst (kArith h .lss v7 v73) fun v74 h =>
  fif v74 (
  fst (kFldA h 2 v1) fun v77 h =>
  fst (kLd1 h v77) fun v78 h =>
  fst (kIdxA h 7 v78 v7) fun v80 h =>
  fst (kLdn h 7 v80) fun v81 h =>
  fst (kNew h S138.z0) fun v8 h =>
  fst (kSt h 7 v8 v81) fun _ h =>
  o138_s7 cl N v1 v5 v6 v7 v8 h) (
  some ((.exit 2), [v1, v5, v6, v7], [v1, .undef, v6], h))
def o138_s8 (cl : Handler) (N : Nat) (c0 c1 c2 c3 c4 : Rec) (v1 v2 v151 : AV) (h : AH) : Ans :=
  fdp h (kFldA h 2 v1) .pure fun v152 c5 h =>
  fdp h (kLd1 h v152) (rdK (rdv v152)) fun v153 c6 h =>
  fdp h (kLen h v153) .pure fun v154 c7 h =>
  fdp h (kArith h .eql v151 v154) .pure fun v155 c8 h =>
  fdp h (kMov h v155) .pure fun v2 c9 h =>
  cond (fchk [c0, c1, c2, c3, c4, c5, c6, c7, c8, c9] [(3, 6)]) (some (.nrm, [], [v2], h)) none
def o138_c14 (cl : Handler) (N : Nat) (v1 v2 v6 : AV) (h : AH) : Ans :=
  fst (kFldA h 2 v1) fun v142 h =>
  fst (kLd1 h v142) fun v143 h =>
  fst (kLen h v143) fun v144 h =>
  fst (kArith h .sub v144 (.int .i64 1)) fun v145 h =>
  fst (kArith h .neq v6 v145) fun v146 h =>
  fif v146 (
  some (.nrm, [], [(.bool false)], h)) (
  fdr h 10 fun r h =>
  fdp h (kLdn h 3 v1) (rdK (rdv v1)) fun v147 c0 h =>
  fdp h (kFldA h 0 v1) .pure fun v148 c1 h =>
  fdp h (kLd1 h v148) (rdK (rdv v148)) fun v149 c2 h =>
  fde h (cl 116 [v147, v149, (.nilsl)] h) fun v150 c3 h =>
  fdp h (kLen h v150) .pure fun v151 c4 h =>
  o138_s8 cl N c0 c1 c2 c3 c4 v1 v2 v151 h)
def o138_j15 (cl : Handler) (N : Nat) (x : AX) (v1 v2 v6 : AV) (h : AH) : Ans :=
  fxs x (o138_c14 cl N v1 v2 v6 h) (fun j => cond (Nat.beq j 2) (o138_c14 cl N v1 v2 v6 h) (none)) (some (.nrm, [], [v2], h))
def o138_c16 (cl : Handler) (N : Nat) (v1 : AV) (h : AH) : Ans :=
  fst (kLdn h 3 v1) fun v64 h =>
  fst (kFldA h 0 v1) fun v65 h =>
  fst (kLd1 h v65) fun v66 h =>
  fst (cl 96 [v64, v66] h) fun v67 h =>
  fst (kArith h .lss v67 (.int .i64 0)) fun v69 h =>
  fif v69 (
  some (.nrm, [], [(.bool false)], h)) (
  fjn (fiter (fun vs h => o138_l13 cl N (nthD vs 0) (nthD vs 1) (nthD vs 2) (nthD vs 3) h) N [v1, v67, (.int .i64 0), (.int .i64 0)] h) fun x vs h => o138_j15 cl N x (nthD vs 0) (nthD vs 1) (nthD vs 2) h)
def o138_j17 (cl : Handler) (N : Nat) (x : AX) (v1 v2 : AV) (h : AH) : Ans :=
  fxs x (o138_c16 cl N v1 h) (fun j => cond (Nat.beq j 0) (o138_c16 cl N v1 h) (none)) (some (.nrm, [], [v2], h))
def o138_j18 (cl : Handler) (N : Nat) (v1 v31 : AV) (h : AH) : Ans :=
  fif v31 (
  some (.nrm, [], [(.bool false)], h)) (
  fjn (fiter (fun vs h => o138_l4 cl N (nthD vs 0) (nthD vs 1) (nthD vs 2) h) N [v1, (.int .i64 0), (.int .i64 0)] h) fun x vs h => o138_j17 cl N x (nthD vs 0) (nthD vs 1) h)
def o138 (cl : Handler) (N : Nat) (v0 : AV) (h : AH) : Ans :=
  fst (kBox h v0) fun v1 h =>
  fjn (o138_a1 cl N v1 h) fun _ vs h => o138_j18 cl N (nthD vs 0) (nthD vs 1) h
theorem o138_eq (cl : Handler) (N : Nat) (v0 : AV) (h : AH) : frun cl N S138 [v0] h = fans (o138 cl N v0 h) := by kernel_rfl
def w138 (N : Nat) : OF := fun cl args h => match args with
  | [v0] => fans (o138 cl N v0 h)
  | _ => none
theorem w138_ok (N : Nat) : OkF Tryz.prog 138 (w138 N) := .of (N := N) (S138_ok) fun cl args h r hr => by
  unfold w138 at hr
  split at hr
  · exact (o138_eq cl N _ _).trans hr
  · cases hr

def S139.z0 : List AV := [.int .i64 0, .str [], .nilsl, .nilsl, .nilsl]
def S139.z1 : List AV := [.int .i64 0, .int .i64 0, .int .i64 0, .str [], .nilsl, .nilsl, .nilsl]
/- widgetry/widgetryref14.describe -/
def S139.r0 : List AOpr := [
  q 2 (.box (x 0)),
  q 4 (.new S139.z0)]
def S139.r1 : List AOpr := [
  q 8 (.ldn 3 (x 2)),
  q 9 (.mov (x 1)),
  q 10 (.call (.const (.func (.func 97) [] [])) [.tmp 8, .tmp 9]),
  q 5 (.new S139.z1),
  ⟨none, .st 7 (x 5) (x 10), none⟩]
def S139.r2 : List AOpr := [
  q 11 (.fldA 2 (x 5)),
  q 12 (.ld1 (x 11)),
  q 13 (.fldA 3 (x 5)),
  q 14 (.ld1 (x 13)),
  q 15 (.fldA 4 (x 5)),
  q 16 (.ld1 (x 15)),
  q 17 (.fldA 5 (x 5)),
  q 18 (.ld1 (x 17)),
  q 19 (.build S139.z0 [(0, 1, .tmp 12), (1, 1, .tmp 14), (2, 1, .tmp 16), (3, 1, .tmp 18)]),
  q 6 (.new S139.z0),
  ⟨none, .st 5 (x 6) (x 19), none⟩]
def S139.r3 : List AOpr := [
  q 7 (.mov (.const (.int .i64 0)))]
def S139.r4 : List AOpr := [
  q 20 (.mov (x 7)),
  q 21 (.fldA 6 (x 5)),
  q 22 (.ld1 (x 21)),
  q 23 (.len (x 22)),
  q 24 (.arith .lss (x 20) (x 23))]
def S139.r5 : List (AOpr × Nat) := [
  (q 27 (.fldA 4 (x 6)), 0),
  (q 28 (.ld1 (x 27)), 1),
  (q 29 (.ldn 3 (x 2)), 0),
  (q 30 (.fldA 6 (x 5)), 0),
  (q 31 (.ld1 (x 30)), 8),
  (q 32 (.mov (x 7)), 0),
  (q 33 (.idxA 1 (x 31) (x 32)), 56),
  (q 34 (.ld1 (x 33)), 120),
  (q 35 (.call (.const (.func (.func 139) [] [])) [.tmp 29, .tmp 34]), 252),
  (q 36 (.buildSl 5 1 S139.z0 [(0, 5, .tmp 35)]), 508),
  (q 37 (.app 5 96 (x 28) (x 36)), 1023),
  (q 38 (.fldA 4 (x 6)), 2047),
  (⟨none, .st 1 (x 38) (x 37), none⟩, 4095)]
def S139.r6 : List AOpr := [
  q 25 (.mov (x 7)),
  q 26 (.arith .add (x 25) (.const (.int .i64 1))),
  q 7 (.mov (x 26))]
def S139.r7 : List AOpr := [
  q 39 (.ldn 5 (x 6)),
  ⟨none, .st 5 (x 4) (x 39), none⟩]
def S139 : SFn := ⟨40, [.cell 4 (some 5)], .seq (.reg S139.r0) (.seq (.reg S139.r1) (.seq (.reg S139.r2) (.seq (.seq (.reg S139.r3) (.block 0 (.loop [2, 4, 5, 6, 7] [4, 6] (.seq (.seq (.reg S139.r4) (.cond (x 24) (.skip) (.exit 0))) (.seq (.block 1 (.draw S139.r5)) (.reg S139.r6)))))) (.seq (.reg S139.r7) (.ret)))))⟩
theorem S139_ok : EOk Tryz.prog 139 S139 := ⟨Tryz.f139, by kernel_rfl, by kernel_rfl, by decide, by kernel_rfl, its_nil (by kernel_rfl)⟩
def o139_s1 (cl : Handler) (N : Nat) (r : Nat) (c0 c1 c2 c3 c4 c5 : Rec) (v2 v4 v5 v6 v7 v28 v29 v31 v32 : AV) (h : AH) : Ans :=
  fdp h (kIdxA h 1 v31 v32) .pure fun v33 c6 h =>
  fdp h (kLd1 h v33) (rdK (rdv v33)) fun v34 c7 h =>
  fde h (cl 139 [v29, v34] h) fun v35 c8 h =>
  fda (r + 9) h (alBuildSl 5 1 S139.z0 [(0, 5, v35)]) fun v36 c9 h =>
  fde h (kApp h 5 96 v28 v36) fun v37 c10 h =>
  fdp h (kFldA h 4 v6) .pure fun v38 c11 h =>
  fde h (kSt h 1 v38 v37) fun _ c12 h =>
  cond (fchk [c0, c1, c2, c3, c4, c5, c6, c7, c8, c9, c10, c11, c12] [(1, 8), (1, 9)]) (fst (kArith h .add v7 (.int .i64 1)) fun v26 h =>
  some (.nrm, [v2, v4, v5, v6, v26], [v4, v6], h)) none
def o139_l1 (cl : Handler) (N : Nat) (v2 v4 v5 v6 v7 : AV) (h : AH) : Ans :=
  fst (kFldA h 6 v5) fun v21 h =>
  fst (kLd1 h v21) fun v22 h =>
  fst (kLen h v22) fun v23 h =>
  fst (kArith h .lss v7 v23) fun v24 h =>
  fif v24 (
  fdr h 13 fun r h =>
  fdp h (kFldA h 4 v6) .pure fun v27 c0 h =>
  fdp h (kLd1 h v27) (rdK (rdv v27)) fun v28 c1 h =>
  fdp h (kLdn h 3 v2) (rdK (rdv v2)) fun v29 c2 h =>
  fdp h (kFldA h 6 v5) .pure fun v30 c3 h =>
  fdp h (kLd1 h v30) (rdK (rdv v30)) fun v31 c4 h =>
  fdp h (kMov h v7) .pure fun v32 c5 h =>
  o139_s1 cl N r c0 c1 c2 c3 c4 c5 v2 v4 v5 v6 v7 v28 v29 v31 v32 h) (
  some ((.exit 0), [v2, v4, v5, v6, v7], [v4, v6], h))
def o139_c2 (cl : Handler) (N : Nat) (v4 v6 : AV) (h : AH) : Ans :=
  fst (kLdn h 5 v6) fun v39 h =>
  fst (kSt h 5 v4 v39) fun _ h =>
  fres (aresV h [.cell (v4) (some 5)]) h
def o139_j3 (cl : Handler) (N : Nat) (x : AX) (v4 v6 : AV) (h : AH) : Ans :=
  fxs x (o139_c2 cl N v4 v6 h) (fun j => cond (Nat.beq j 0) (o139_c2 cl N v4 v6 h) (none)) (fres (aresV h [.cell (v4) (some 5)]) h)
def o139_s2 (cl : Handler) (N : Nat) (v2 v4 v5 v12 v14 : AV) (h : AH) : Ans :=
  fst (kFldA h 4 v5) fun v15 h =>
  fst (kLd1 h v15) fun v16 h =>
  fst (kFldA h 5 v5) fun v17 h =>
  fst (kLd1 h v17) fun v18 h =>
  fst (kBuild h S139.z0 [(0, 1, v12), (1, 1, v14), (2, 1, v16), (3, 1, v18)]) fun v19 h =>
  fst (kNew h S139.z0) fun v6 h =>
  fst (kSt h 5 v6 v19) fun _ h =>
  fjn (fiter (fun vs h => o139_l1 cl N (nthD vs 0) (nthD vs 1) (nthD vs 2) (nthD vs 3) (nthD vs 4) h) N [v2, v4, v5, v6, (.int .i64 0)] h) fun x vs h => o139_j3 cl N x (nthD vs 0) (nthD vs 1) h
def o139 (cl : Handler) (N : Nat) (v0 v1 : AV) (h : AH) : Ans :=
  fst (kBox h v0) fun v2 h =>
  fst (kNew h S139.z0) fun v4 h =>
  fst (kLdn h 3 v2) fun v8 h =>
  fst (cl 97 [v8, v1] h) fun v10 h =>
  fst (kNew h S139.z1) fun v5 h =>
  fst (kSt h 7 v5 v10) fun _ h =>
  fst (kFldA h 2 v5) fun v11 h =>
  fst (kLd1 h v11) fun v12 h =>
  fst (kFldA h 3 v5) fun v13 h =>
  fst (kLd1 h v13) fun v14 h =>
  o139_s2 cl N v2 v4 v5 v12 v14 h
theorem o139_eq (cl : Handler) (N : Nat) (v0 v1 : AV) (h : AH) : frun cl N S139 [v0, v1] h = fans (o139 cl N v0 v1 h) := by kernel_rfl
def w139 (N : Nat) : OF := fun cl args h => match args with
  | [v0, v1] => fans (o139 cl N v0 v1 h)
  | _ => none
theorem w139_ok (N : Nat) : OkF Tryz.prog 139 (w139 N) := .of (N := N) (S139_ok) fun cl args h r hr => by
  unfold w139 at hr
  split at hr
  · exact (o139_eq cl N _ _ _).trans hr
  · cases hr

/- widgetry/widgetryref17.Complete -/
def S140.r0 : List AOpr := [
  q 2 (.box (x 0)),
  q 4 (.mov (.const (.bool false)))]
def S140.r1 : List AOpr := [
  q 6 (.mov (x 1)),
  q 7 (.len (x 6)),
  q 8 (.fldA 2 (x 2)),
  q 9 (.ld1 (x 8)),
  q 10 (.len (x 9)),
  q 11 (.arith .neq (x 7) (x 10))]
def S140.r2 : List AOpr := [
  q 4 (.mov (.const (.bool false)))]
def S140.r3 : List AOpr := [
  q 5 (.mov (.const (.int .i64 0)))]
def S140.r4 : List AOpr := [
  q 12 (.mov (x 5)),
  q 13 (.mov (x 1)),
  q 14 (.len (x 13)),
  q 15 (.arith .lss (x 12) (x 14))]
def S140.r5 : List (AOpr × Nat) := [
  (q 18 (.mov (x 1)), 0),
  (q 19 (.mov (x 5)), 0),
  (q 20 (.idxA 23 (x 18) (x 19)), 3),
  (q 21 (.fldA 0 (x 20)), 7),
  (q 22 (.ld1 (x 21)), 15),
  (q 23 (.fldA 2 (x 2)), 0),
  (q 24 (.ld1 (x 23)), 32),
  (q 25 (.mov (x 5)), 0),
  (q 26 (.idxA 7 (x 24) (x 25)), 224),
  (q 27 (.fldA 0 (x 26)), 480),
  (q 28 (.ld1 (x 27)), 992),
  (q 29 (.arith .neq (x 22) (x 28)), 2047)]
def S140.r6 : List AOpr := [
  q 4 (.mov (.const (.bool false)))]
def S140.r7 : List AOpr := [
  q 16 (.mov (x 5)),
  q 17 (.arith .add (x 16) (.const (.int .i64 1))),
  q 5 (.mov (x 17))]
def S140.r8 : List AOpr := [
  q 4 (.mov (.const (.bool true)))]
def S140 : SFn := ⟨30, [.tmp 4], .seq (.reg S140.r0) (.seq (.seq (.reg S140.r1) (.cond (x 11) (.seq (.reg S140.r2) (.ret)) (.skip))) (.seq (.seq (.reg S140.r3) (.block 0 (.loop [1, 2, 5] [4] (.seq (.seq (.reg S140.r4) (.cond (x 15) (.skip) (.exit 0))) (.seq (.block 1 (.seq (.draw S140.r5) (.cond (x 29) (.seq (.reg S140.r6) (.ret)) (.skip)))) (.reg S140.r7)))))) (.seq (.reg S140.r8) (.ret))))⟩
theorem S140_ok : EOk Tryz.prog 140 S140 := ⟨Tryz.f140, by kernel_rfl, by kernel_rfl, by decide, by kernel_rfl, its_nil (by kernel_rfl)⟩
def o140_s1 (cl : Handler) (N : Nat) (c0 c1 c2 c3 c4 c5 c6 c7 : Rec) (v1 v2 v5 v22 v24 v25 : AV) (h : AH) : Ans :=
  fdp h (kIdxA h 7 v24 v25) .pure fun v26 c8 h =>
  fdp h (kFldA h 0 v26) .pure fun v27 c9 h =>
  fdp h (kLd1 h v27) (rdK (rdv v27)) fun v28 c10 h =>
  fdp h (kArith h .neq v22 v28) .pure fun v29 c11 h =>
  cond (fchk [c0, c1, c2, c3, c4, c5, c6, c7, c8, c9, c10, c11] []) (fif v29 (
  some (.ret, [v1, v2, v5], [(.bool false)], h)) (
  fst (kArith h .add v5 (.int .i64 1)) fun v17 h =>
  some (.nrm, [v1, v2, v17], [.undef], h))) none
def o140_l1 (cl : Handler) (N : Nat) (v1 v2 v5 : AV) (h : AH) : Ans :=
  fst (kLen h v1) fun v14 h =>
  fst (kArith h .lss v5 v14) fun v15 h =>
  fif v15 (
  fdr h 12 fun r h =>
  fdp h (kMov h v1) .pure fun v18 c0 h =>
  fdp h (kMov h v5) .pure fun v19 c1 h =>
  fdp h (kIdxA h 23 v18 v19) .pure fun v20 c2 h =>
  fdp h (kFldA h 0 v20) .pure fun v21 c3 h =>
  fdp h (kLd1 h v21) (rdK (rdv v21)) fun v22 c4 h =>
  fdp h (kFldA h 2 v2) .pure fun v23 c5 h =>
  fdp h (kLd1 h v23) (rdK (rdv v23)) fun v24 c6 h =>
  fdp h (kMov h v5) .pure fun v25 c7 h =>
  o140_s1 cl N c0 c1 c2 c3 c4 c5 c6 c7 v1 v2 v5 v22 v24 v25 h) (
  some ((.exit 0), [v1, v2, v5], [.undef], h))
def o140_c2 (cl : Handler) (N : Nat) (h : AH) : Ans :=
  some (.nrm, [], [(.bool true)], h)
def o140_j3 (cl : Handler) (N : Nat) (x : AX) (v4 : AV) (h : AH) : Ans :=
  fxs x (o140_c2 cl N h) (fun j => cond (Nat.beq j 0) (o140_c2 cl N h) (none)) (some (.nrm, [], [v4], h))
def o140 (cl : Handler) (N : Nat) (v0 v1 : AV) (h : AH) : Ans :=
  fst (kBox h v0) fun v2 h =>
  fst (kLen h v1) fun v7 h =>
  fst (kFldA h 2 v2) fun v8 h =>
  fst (kLd1 h v8) fun v9 h =>
  fst (kLen h v9) fun v10 h =>
  fst (kArith h .neq v7 v10) fun v11 h =>
  fif v11 (
  some (.nrm, [], [(.bool false)], h)) (
  fjn (fiter (fun vs h => o140_l1 cl N (nthD vs 0) (nthD vs 1) (nthD vs 2) h) N [v1, v2, (.int .i64 0)] h) fun x vs h => o140_j3 cl N x (nthD vs 0) h)
theorem o140_eq (cl : Handler) (N : Nat) (v0 v1 : AV) (h : AH) : frun cl N S140 [v0, v1] h = fans (o140 cl N v0 v1 h) := by kernel_rfl
def w140 (N : Nat) : OF := fun cl args h => match args with
  | [v0, v1] => fans (o140 cl N v0 v1 h)
  | _ => none
theorem w140_ok (N : Nat) : OkF Tryz.prog 140 (w140 N) := .of (N := N) (S140_ok) fun cl args h r hr => by
  unfold w140 at hr
  split at hr
  · exact (o140_eq cl N _ _ _).trans hr
  · cases hr

/- widgetry/widgetryref17.InRange -/
def S141.r0 : List AOpr := [
  q 4 (.mov (.const (.bool false)))]
def S141.r1 : List AOpr := [
  q 5 (.mov (.const (.int .i64 0))),
  q 6 (.mov (.const (.int .i64 1048576)))]
def S141.r2 : List AOpr := [
  q 7 (.mov (x 0))]
def S141.r3 : List AOpr := [
  q 9 (.arith .eql (x 7) (.const (.int .i64 0))),
  q 8 (.mov (x 9))]
def S141.r4 : List AOpr := [
  q 6 (.mov (.const (.int .i64 16777215)))]
def S141.r5 : List AOpr := [
  q 11 (.arith .eql (x 7) (.const (.int .i64 1))),
  q 10 (.mov (x 11))]
def S141.r6 : List AOpr := [
  q 5 (.mov (.const (.int .i64 (-1)))),
  q 6 (.mov (.const (.int .i64 16777215)))]
def S141.r7 : List AOpr := [
  q 13 (.arith .eql (x 7) (.const (.int .i64 2))),
  q 12 (.mov (x 13))]
def S141.r8 : List AOpr := [
  q 5 (.mov (.const (.int .i64 1))),
  q 6 (.mov (.const (.int .i64 1000)))]
def S141.r9 : List AOpr := [
  q 15 (.arith .eql (x 7) (.const (.int .i64 3))),
  q 14 (.mov (x 15))]
def S141.r10 : List AOpr := [
  q 6 (.mov (.const (.int .i64 7)))]
def S141.r11 : List AOpr := [
  q 17 (.arith .eql (x 7) (.const (.int .i64 4))),
  q 16 (.mov (x 17))]
def S141.r12 : List AOpr := [
  q 18 (.arith .eql (x 7) (.const (.int .i64 21))),
  q 16 (.mov (x 18))]
def S141.r13 : List AOpr := [
  q 6 (.mov (.const (.int .i64 1)))]
def S141.r14 : List AOpr := [
  q 20 (.arith .eql (x 7) (.const (.int .i64 5))),
  q 19 (.mov (x 20))]
def S141.r15 : List AOpr := [
  q 21 (.arith .eql (x 7) (.const (.int .i64 6))),
  q 19 (.mov (x 21))]
def S141.r16 : List AOpr := [
  q 6 (.mov (.const (.int .i64 4)))]
def S141.r17 : List AOpr := [
  q 23 (.arith .eql (x 7) (.const (.int .i64 7))),
  q 22 (.mov (x 23))]
def S141.r18 : List AOpr := [
  q 6 (.mov (.const (.int .i64 3)))]
def S141.r19 : List AOpr := [
  q 25 (.arith .eql (x 7) (.const (.int .i64 8))),
  q 24 (.mov (x 25))]
def S141.r20 : List AOpr := [
  q 6 (.mov (.const (.int .i64 2)))]
def S141.r21 : List AOpr := [
  q 27 (.arith .eql (x 7) (.const (.int .i64 10))),
  q 26 (.mov (x 27))]
def S141.r22 : List AOpr := [
  q 28 (.arith .eql (x 7) (.const (.int .i64 11))),
  q 26 (.mov (x 28))]
def S141.r23 : List AOpr := [
  q 6 (.mov (.const (.int .i64 1000)))]
def S141.r24 : List AOpr := [
  q 30 (.arith .eql (x 7) (.const (.int .i64 12))),
  q 29 (.mov (x 30))]
def S141.r25 : List AOpr := [
  q 5 (.mov (.const (.int .i64 (-1))))]
def S141.r26 : List AOpr := [
  q 31 (.mov (x 0)),
  q 32 (.arith .geq (x 31) (.const (.int .i64 0))),
  q 33 (.mov (x 32)),
  ⟨some 34, .mov (x 0), some (33, true)⟩,
  ⟨some 35, .arith .lss (x 34) (.const (.int .i64 22)), some (33, true)⟩,
  q 36 (.pick (x 33) (x 35) (.const (.bool false))),
  q 37 (.mov (x 36)),
  ⟨some 38, .mov (x 1), some (37, true)⟩,
  ⟨some 39, .mov (x 5), some (37, true)⟩,
  ⟨some 40, .arith .geq (x 38) (x 39), some (37, true)⟩,
  q 41 (.pick (x 37) (x 40) (.const (.bool false))),
  q 42 (.mov (x 41)),
  ⟨some 43, .mov (x 1), some (42, true)⟩,
  ⟨some 44, .mov (x 6), some (42, true)⟩,
  ⟨some 45, .arith .leq (x 43) (x 44), some (42, true)⟩,
  q 46 (.pick (x 42) (x 45) (.const (.bool false))),
  q 4 (.mov (x 46))]
def S141 : SFn := ⟨47, [.tmp 4], .seq (.reg S141.r0) (.seq (.reg S141.r1) (.seq (.seq (.reg S141.r2) (.joinN [0, 1, 5, 6] (.block 0 (.seq (.reg S141.r3) (.cond (x 8) (.reg S141.r4) (.seq (.reg S141.r5) (.cond (x 10) (.reg S141.r6) (.seq (.reg S141.r7) (.cond (x 12) (.reg S141.r8) (.seq (.reg S141.r9) (.cond (x 14) (.reg S141.r10) (.seq (.seq (.reg S141.r11) (.joinN [0, 1, 5, 6, 7, 16] (.cond (x 16) (.skip) (.reg S141.r12)))) (.cond (x 16) (.reg S141.r13) (.seq (.seq (.reg S141.r14) (.joinN [0, 1, 5, 6, 7, 19] (.cond (x 19) (.skip) (.reg S141.r15)))) (.cond (x 19) (.reg S141.r16) (.seq (.reg S141.r17) (.cond (x 22) (.reg S141.r18) (.seq (.reg S141.r19) (.cond (x 24) (.reg S141.r20) (.seq (.seq (.reg S141.r21) (.joinN [0, 1, 5, 6, 7, 26] (.cond (x 26) (.skip) (.reg S141.r22)))) (.cond (x 26) (.reg S141.r23) (.seq (.reg S141.r24) (.cond (x 29) (.reg S141.r25) (.skip)))))))))))))))))))))))) (.seq (.reg S141.r26) (.ret))))⟩
theorem S141_ok : EOk Tryz.prog 141 S141 := ⟨Tryz.f141, by kernel_rfl, by kernel_rfl, by decide, by kernel_rfl, its_nil (by kernel_rfl)⟩
def o141_a1 (cl : Handler) (N : Nat) (v0 v1 v5 v6 v7 v16 : AV) (h : AH) : Ans :=
  fif v16 (
  some (.nrm, [], [v0, v1, v5, v6, v7, v16], h)) (
  fst (kArith h .eql v7 (.int .i64 21)) fun v18 h =>
  some (.nrm, [], [v0, v1, v5, v6, v7, v18], h))
def o141_a2 (cl : Handler) (N : Nat) (v0 v1 v5 v6 v7 v19 : AV) (h : AH) : Ans :=
  fif v19 (
  some (.nrm, [], [v0, v1, v5, v6, v7, v19], h)) (
  fst (kArith h .eql v7 (.int .i64 6)) fun v21 h =>
  some (.nrm, [], [v0, v1, v5, v6, v7, v21], h))
def o141_a3 (cl : Handler) (N : Nat) (v0 v1 v5 v6 v7 v26 : AV) (h : AH) : Ans :=
  fif v26 (
  some (.nrm, [], [v0, v1, v5, v6, v7, v26], h)) (
  fst (kArith h .eql v7 (.int .i64 11)) fun v28 h =>
  some (.nrm, [], [v0, v1, v5, v6, v7, v28], h))
def o141_j4 (cl : Handler) (N : Nat) (v0 v1 v5 v6 v7 v26 : AV) (h : AH) : Ans :=
  fif v26 (
  some (.nrm, [], [v0, v1, v5, (.int .i64 1000)], h)) (
  fst (kArith h .eql v7 (.int .i64 12)) fun v30 h =>
  fif v30 (
  some (.nrm, [], [v0, v1, (.int .i64 (-1)), v6], h)) (
  some (.nrm, [], [v0, v1, v5, v6], h)))
def o141_j5 (cl : Handler) (N : Nat) (v0 v1 v5 v6 v7 v19 : AV) (h : AH) : Ans :=
  fif v19 (
  some (.nrm, [], [v0, v1, v5, (.int .i64 4)], h)) (
  fst (kArith h .eql v7 (.int .i64 7)) fun v23 h =>
  fif v23 (
  some (.nrm, [], [v0, v1, v5, (.int .i64 3)], h)) (
  fst (kArith h .eql v7 (.int .i64 8)) fun v25 h =>
  fif v25 (
  some (.nrm, [], [v0, v1, v5, (.int .i64 2)], h)) (
  fst (kArith h .eql v7 (.int .i64 10)) fun v27 h =>
  fjn (o141_a3 cl N v0 v1 v5 v6 v7 v27 h) fun _ vs h => o141_j4 cl N (nthD vs 0) (nthD vs 1) (nthD vs 2) (nthD vs 3) (nthD vs 4) (nthD vs 5) h)))
def o141_j6 (cl : Handler) (N : Nat) (v0 v1 v5 v6 v7 v16 : AV) (h : AH) : Ans :=
  fif v16 (
  some (.nrm, [], [v0, v1, v5, (.int .i64 1)], h)) (
  fst (kArith h .eql v7 (.int .i64 5)) fun v20 h =>
  fjn (o141_a2 cl N v0 v1 v5 v6 v7 v20 h) fun _ vs h => o141_j5 cl N (nthD vs 0) (nthD vs 1) (nthD vs 2) (nthD vs 3) (nthD vs 4) (nthD vs 5) h)
def o141_a7 (cl : Handler) (N : Nat) (v0 v1 v5 v6 v7 : AV) (h : AH) : Ans :=
  fst (kArith h .eql v7 (.int .i64 0)) fun v9 h =>
  fif v9 (
  some (.nrm, [], [v0, v1, v5, (.int .i64 16777215)], h)) (
  fst (kArith h .eql v7 (.int .i64 1)) fun v11 h =>
  fif v11 (
  some (.nrm, [], [v0, v1, (.int .i64 (-1)), (.int .i64 16777215)], h)) (
  fst (kArith h .eql v7 (.int .i64 2)) fun v13 h =>
  fif v13 (
  some (.nrm, [], [v0, v1, (.int .i64 1), (.int .i64 1000)], h)) (
  fst (kArith h .eql v7 (.int .i64 3)) fun v15 h =>
  fif v15 (
  some (.nrm, [], [v0, v1, v5, (.int .i64 7)], h)) (
  fst (kArith h .eql v7 (.int .i64 4)) fun v17 h =>
  fjn (o141_a1 cl N v0 v1 v5 v6 v7 v17 h) fun _ vs h => o141_j6 cl N (nthD vs 0) (nthD vs 1) (nthD vs 2) (nthD vs 3) (nthD vs 4) (nthD vs 5) h))))
def o141_s1 (cl : Handler) (N : Nat) (v42 v43 v44 : AV) (h : AH) : Ans :=
  fgd (gdv true v42) (kArith h .leq v43 v44) h fun v45 h =>
  fst (kPick h v42 v45 (.bool false)) fun v46 h =>
  some (.nrm, [], [v46], h)
def o141_j8 (cl : Handler) (N : Nat) (v0 v1 v5 v6 : AV) (h : AH) : Ans :=
  fst (kArith h .geq v0 (.int .i64 0)) fun v32 h =>
  fgd (gdv true v32) (kMov h v0) h fun v34 h =>
  fgd (gdv true v32) (kArith h .lss v34 (.int .i64 22)) h fun v35 h =>
  fst (kPick h v32 v35 (.bool false)) fun v36 h =>
  fgd (gdv true v36) (kMov h v1) h fun v38 h =>
  fgd (gdv true v36) (kMov h v5) h fun v39 h =>
  fgd (gdv true v36) (kArith h .geq v38 v39) h fun v40 h =>
  fst (kPick h v36 v40 (.bool false)) fun v41 h =>
  fgd (gdv true v41) (kMov h v1) h fun v43 h =>
  fgd (gdv true v41) (kMov h v6) h fun v44 h =>
  o141_s1 cl N v41 v43 v44 h
def o141 (cl : Handler) (N : Nat) (v0 v1 : AV) (h : AH) : Ans :=
  fjn (o141_a7 cl N v0 v1 (.int .i64 0) (.int .i64 1048576) v0 h) fun _ vs h => o141_j8 cl N (nthD vs 0) (nthD vs 1) (nthD vs 2) (nthD vs 3) h
theorem o141_eq (cl : Handler) (N : Nat) (v0 v1 : AV) (h : AH) : frun cl N S141 [v0, v1] h = fans (o141 cl N v0 v1 h) := by kernel_rfl
def w141 (N : Nat) : OF := fun cl args h => match args with
  | [v0, v1] => fans (o141 cl N v0 v1 h)
  | _ => none
theorem w141_ok (N : Nat) : OkF Tryz.prog 141 (w141 N) := .of (N := N) (S141_ok) fun cl args h r hr => by
  unfold w141 at hr
  split at hr
  · exact (o141_eq cl N _ _ _).trans hr
  · cases hr

/- widgetry/widgetryref21.Textual -/
def S142.r0 : List AOpr := [
  q 2 (.mov (.const (.bool false)))]
def S142.r1 : List AOpr := [
  q 3 (.mov (x 0)),
  q 4 (.arith .eql (x 3) (.const (.int .i64 2))),
  q 5 (.mov (x 4)),
  ⟨some 6, .mov (x 0), some (5, false)⟩,
  ⟨some 7, .arith .eql (x 6) (.const (.int .i64 4)), some (5, false)⟩,
  q 8 (.pick (x 5) (.const (.bool true)) (x 7)),
  q 9 (.mov (x 8)),
  ⟨some 10, .mov (x 0), some (9, false)⟩,
  ⟨some 11, .arith .eql (x 10) (.const (.int .i64 7)), some (9, false)⟩,
  q 12 (.pick (x 9) (.const (.bool true)) (x 11)),
  q 13 (.mov (x 12)),
  ⟨some 14, .mov (x 0), some (13, false)⟩,
  ⟨some 15, .arith .eql (x 14) (.const (.int .i64 9)), some (13, false)⟩,
  q 16 (.pick (x 13) (.const (.bool true)) (x 15)),
  q 2 (.mov (x 16))]
def S142 : SFn := ⟨17, [.tmp 2], .seq (.reg S142.r0) (.seq (.reg S142.r1) (.ret))⟩
theorem S142_ok : EOk Tryz.prog 142 S142 := ⟨Tryz.f142, by kernel_rfl, by kernel_rfl, by decide, by kernel_rfl, its_nil (by kernel_rfl)⟩
def o142_s1 (cl : Handler) (N : Nat) (v16 : AV) (h : AH) : Ans :=
  some (.nrm, [], [v16], h)
def o142 (cl : Handler) (N : Nat) (v0 : AV) (h : AH) : Ans :=
  fst (kArith h .eql v0 (.int .i64 2)) fun v4 h =>
  fgd (gdv false v4) (kMov h v0) h fun v6 h =>
  fgd (gdv false v4) (kArith h .eql v6 (.int .i64 4)) h fun v7 h =>
  fst (kPick h v4 (.bool true) v7) fun v8 h =>
  fgd (gdv false v8) (kMov h v0) h fun v10 h =>
  fgd (gdv false v8) (kArith h .eql v10 (.int .i64 7)) h fun v11 h =>
  fst (kPick h v8 (.bool true) v11) fun v12 h =>
  fgd (gdv false v12) (kMov h v0) h fun v14 h =>
  fgd (gdv false v12) (kArith h .eql v14 (.int .i64 9)) h fun v15 h =>
  fst (kPick h v12 (.bool true) v15) fun v16 h =>
  o142_s1 cl N v16 h
theorem o142_eq (cl : Handler) (N : Nat) (v0 : AV) (h : AH) : frun cl N S142 [v0] h = fans (o142 cl N v0 h) := by kernel_rfl
def w142 (N : Nat) : OF := fun cl args h => match args with
  | [v0] => fans (o142 cl N v0 h)
  | _ => none
theorem w142_ok (N : Nat) : OkF Tryz.prog 142 (w142 N) := .of (N := N) (S142_ok) fun cl args h r hr => by
  unfold w142 at hr
  split at hr
  · exact (o142_eq cl N _ _).trans hr
  · cases hr

/- widgetry/widgetryref21.Figure -/
def S143.r0 : List AOpr := [
  q 2 (.mov (.const (.bool false)))]
def S143.r1 : List AOpr := [
  q 3 (.mov (x 0)),
  q 4 (.arith .eql (x 3) (.const (.int .i64 5))),
  q 5 (.mov (x 4)),
  ⟨some 6, .mov (x 0), some (5, false)⟩,
  ⟨some 7, .arith .eql (x 6) (.const (.int .i64 13)), some (5, false)⟩,
  q 8 (.pick (x 5) (.const (.bool true)) (x 7)),
  q 2 (.mov (x 8))]
def S143 : SFn := ⟨9, [.tmp 2], .seq (.reg S143.r0) (.seq (.reg S143.r1) (.ret))⟩
theorem S143_ok : EOk Tryz.prog 143 S143 := ⟨Tryz.f143, by kernel_rfl, by kernel_rfl, by decide, by kernel_rfl, its_nil (by kernel_rfl)⟩
def o143 (cl : Handler) (N : Nat) (v0 : AV) (h : AH) : Ans :=
  fst (kArith h .eql v0 (.int .i64 5)) fun v4 h =>
  fgd (gdv false v4) (kMov h v0) h fun v6 h =>
  fgd (gdv false v4) (kArith h .eql v6 (.int .i64 13)) h fun v7 h =>
  fst (kPick h v4 (.bool true) v7) fun v8 h =>
  some (.nrm, [], [v8], h)
theorem o143_eq (cl : Handler) (N : Nat) (v0 : AV) (h : AH) : frun cl N S143 [v0] h = fans (o143 cl N v0 h) := by kernel_rfl
def w143 (N : Nat) : OF := fun cl args h => match args with
  | [v0] => fans (o143 cl N v0 h)
  | _ => none
theorem w143_ok (N : Nat) : OkF Tryz.prog 143 (w143 N) := .of (N := N) (S143_ok) fun cl args h r hr => by
  unfold w143 at hr
  split at hr
  · exact (o143_eq cl N _ _).trans hr
  · cases hr

def S144.z0 : List AV := [.str [], .str [], .str [], .str [], .str [], .str [], .str [], .str [], .str [], .str [], .str [], .str [], .str [], .str [], .str [], .str []]
/- widgetry/widgetryref37.roles -/
def S144.r0 : List AOpr := [
  q 0 (.mov (.const (.nilsl)))]
def S144.r1 : List AOpr := [
  q 1 (.buildSl 1 16 S144.z0 [(0, 1, .const (.str [110, 111, 110, 101])), (1, 1, .const (.str [119, 105, 110, 100, 111, 119])), (2, 1, .const (.str [103, 114, 111, 117, 112])), (3, 1, .const (.str [116, 101, 120, 116])), (4, 1, .const (.str [98, 117, 116, 116, 111, 110])), (5, 1, .const (.str [116, 101, 120, 116, 98, 111, 120])), (6, 1, .const (.str [105, 109, 97, 103, 101])), (7, 1, .const (.str [99, 104, 101, 99, 107, 98, 111, 120])), (8, 1, .const (.str [108, 105, 110, 107])), (9, 1, .const (.str [115, 99, 114, 111, 108, 108])), (10, 1, .const (.str [104, 101, 97, 100, 105, 110, 103])), (11, 1, .const (.str [108, 105, 115, 116])), (12, 1, .const (.str [105, 116, 101, 109])), (13, 1, .const (.str [100, 105, 97, 108, 111, 103])), (14, 1, .const (.str [115, 108, 105, 100, 101, 114])), (15, 1, .const (.str [115, 116, 97, 116, 117, 115]))]),
  q 0 (.mov (x 1))]
def S144 : SFn := ⟨2, [.tmp 0], .seq (.reg S144.r0) (.seq (.reg S144.r1) (.ret))⟩
theorem S144_ok : EOk Tryz.prog 144 S144 := ⟨Tryz.f144, by kernel_rfl, by kernel_rfl, by decide, by kernel_rfl, its_nil (by kernel_rfl)⟩
def o144 (cl : Handler) (N : Nat) (h : AH) : Ans :=
  fst (kBuildSl h 1 16 S144.z0 [(0, 1, (.str [110, 111, 110, 101])), (1, 1, (.str [119, 105, 110, 100, 111, 119])), (2, 1, (.str [103, 114, 111, 117, 112])), (3, 1, (.str [116, 101, 120, 116])), (4, 1, (.str [98, 117, 116, 116, 111, 110])), (5, 1, (.str [116, 101, 120, 116, 98, 111, 120])), (6, 1, (.str [105, 109, 97, 103, 101])), (7, 1, (.str [99, 104, 101, 99, 107, 98, 111, 120])), (8, 1, (.str [108, 105, 110, 107])), (9, 1, (.str [115, 99, 114, 111, 108, 108])), (10, 1, (.str [104, 101, 97, 100, 105, 110, 103])), (11, 1, (.str [108, 105, 115, 116])), (12, 1, (.str [105, 116, 101, 109])), (13, 1, (.str [100, 105, 97, 108, 111, 103])), (14, 1, (.str [115, 108, 105, 100, 101, 114])), (15, 1, (.str [115, 116, 97, 116, 117, 115]))]) fun v1 h =>
  some (.nrm, [], [v1], h)
theorem o144_eq (cl : Handler) (N : Nat) (h : AH) : frun cl N S144 [] h = fans (o144 cl N  h) := by kernel_rfl
def w144 (N : Nat) : OF := fun cl args h => match args with
  | [] => fans (o144 cl N  h)
  | _ => none
theorem w144_ok (N : Nat) : OkF Tryz.prog 144 (w144 N) := .of (N := N) (S144_ok) fun cl args h r hr => by
  unfold w144 at hr
  split at hr
  · exact (o144_eq cl N _).trans hr
  · cases hr

/- widgetry/widgetryref37.loud -/
def S145.r0 : List AOpr := [
  q 1 (.box (x 0)),
  q 2 (.mov (.const (.bool false)))]
def S145.r1 : List AOpr := [
  q 4 (.fldA 4 (x 1)),
  q 5 (.ld1 (x 4)),
  q 6 (.call (.const (.func (.func 54) [] [])) [.tmp 5, .const (.str [108, 105, 118, 101])]),
  q 3 (.mov (x 6))]
def S145.r2 : List AOpr := [
  q 7 (.mov (x 3)),
  q 8 (.arith .eql (x 7) (.const (.str [112, 111, 108, 105, 116, 101]))),
  q 9 (.mov (x 8)),
  ⟨some 10, .mov (x 3), some (9, false)⟩,
  ⟨some 11, .arith .eql (x 10) (.const (.str [97, 115, 115, 101, 114, 116, 105, 118, 101])), some (9, false)⟩,
  q 12 (.pick (x 9) (.const (.bool true)) (x 11)),
  q 2 (.mov (x 12))]
def S145 : SFn := ⟨13, [.tmp 2], .seq (.reg S145.r0) (.seq (.reg S145.r1) (.seq (.reg S145.r2) (.ret)))⟩
theorem S145_ok : EOk Tryz.prog 145 S145 := ⟨Tryz.f145, by kernel_rfl, by kernel_rfl, by decide, by kernel_rfl, its_nil (by kernel_rfl)⟩
def o145 (cl : Handler) (N : Nat) (v0 : AV) (h : AH) : Ans :=
  fst (kBox h v0) fun v1 h =>
  fst (kFldA h 4 v1) fun v4 h =>
  fst (kLd1 h v4) fun v5 h =>
  fst (cl 54 [v5, (.str [108, 105, 118, 101])] h) fun v6 h =>
  fst (kArith h .eql v6 (.str [112, 111, 108, 105, 116, 101])) fun v8 h =>
  fgd (gdv false v8) (kMov h v6) h fun v10 h =>
  fgd (gdv false v8) (kArith h .eql v10 (.str [97, 115, 115, 101, 114, 116, 105, 118, 101])) h fun v11 h =>
  fst (kPick h v8 (.bool true) v11) fun v12 h =>
  some (.nrm, [], [v12], h)
theorem o145_eq (cl : Handler) (N : Nat) (v0 : AV) (h : AH) : frun cl N S145 [v0] h = fans (o145 cl N v0 h) := by kernel_rfl
def w145 (N : Nat) : OF := fun cl args h => match args with
  | [v0] => fans (o145 cl N v0 h)
  | _ => none
theorem w145_ok (N : Nat) : OkF Tryz.prog 145 (w145 N) := .of (N := N) (S145_ok) fun cl args h r hr => by
  unfold w145 at hr
  split at hr
  · exact (o145_eq cl N _ _).trans hr
  · cases hr

/- widgetry/widgetryref38.white -/
def S148.r0 : List AOpr := [
  q 2 (.mov (.const (.bool false)))]
def S148.r1 : List AOpr := [
  q 3 (.mov (x 0)),
  q 4 (.arith .geq (x 3) (.const (.int .i32 9))),
  q 5 (.mov (x 4)),
  ⟨some 6, .mov (x 0), some (5, true)⟩,
  ⟨some 7, .arith .leq (x 6) (.const (.int .i32 13)), some (5, true)⟩,
  q 8 (.pick (x 5) (x 7) (.const (.bool false))),
  q 9 (.mov (x 8)),
  ⟨some 10, .mov (x 0), some (9, false)⟩,
  ⟨some 11, .arith .eql (x 10) (.const (.int .i32 32)), some (9, false)⟩,
  q 12 (.pick (x 9) (.const (.bool true)) (x 11)),
  q 13 (.mov (x 12)),
  ⟨some 14, .mov (x 0), some (13, false)⟩,
  ⟨some 15, .arith .eql (x 14) (.const (.int .i32 160)), some (13, false)⟩,
  q 16 (.pick (x 13) (.const (.bool true)) (x 15)),
  q 2 (.mov (x 16))]
def S148 : SFn := ⟨17, [.tmp 2], .seq (.reg S148.r0) (.seq (.reg S148.r1) (.ret))⟩
theorem S148_ok : EOk Tryz.prog 148 S148 := ⟨Tryz.f148, by kernel_rfl, by kernel_rfl, by decide, by kernel_rfl, its_nil (by kernel_rfl)⟩
def o148_s1 (cl : Handler) (N : Nat) (v16 : AV) (h : AH) : Ans :=
  some (.nrm, [], [v16], h)
def o148 (cl : Handler) (N : Nat) (v0 : AV) (h : AH) : Ans :=
  fst (kArith h .geq v0 (.int .i32 9)) fun v4 h =>
  fgd (gdv true v4) (kMov h v0) h fun v6 h =>
  fgd (gdv true v4) (kArith h .leq v6 (.int .i32 13)) h fun v7 h =>
  fst (kPick h v4 v7 (.bool false)) fun v8 h =>
  fgd (gdv false v8) (kMov h v0) h fun v10 h =>
  fgd (gdv false v8) (kArith h .eql v10 (.int .i32 32)) h fun v11 h =>
  fst (kPick h v8 (.bool true) v11) fun v12 h =>
  fgd (gdv false v12) (kMov h v0) h fun v14 h =>
  fgd (gdv false v12) (kArith h .eql v14 (.int .i32 160)) h fun v15 h =>
  fst (kPick h v12 (.bool true) v15) fun v16 h =>
  o148_s1 cl N v16 h
theorem o148_eq (cl : Handler) (N : Nat) (v0 : AV) (h : AH) : frun cl N S148 [v0] h = fans (o148 cl N v0 h) := by kernel_rfl
def w148 (N : Nat) : OF := fun cl args h => match args with
  | [v0] => fans (o148 cl N v0 h)
  | _ => none
theorem w148_ok (N : Nat) : OkF Tryz.prog 148 (w148 N) := .of (N := N) (S148_ok) fun cl args h r hr => by
  unfold w148 at hr
  split at hr
  · exact (o148_eq cl N _ _).trans hr
  · cases hr

/- widgetry/widgetryref02.ValidRect -/
def S149.r0 : List AOpr := [
  q 1 (.box (x 0)),
  q 2 (.mov (.const (.bool false)))]
def S149.r1 : List AOpr := [
  q 3 (.fldA 0 (x 1)),
  q 4 (.ld1 (x 3)),
  q 5 (.call (.const (.func (.func 175) [] [])) [.tmp 4, .const (.int .i64 1048576)]),
  q 6 (.mov (x 5)),
  ⟨some 7, .fldA 1 (x 1), some (6, true)⟩,
  ⟨some 8, .ld1 (x 7), some (6, true)⟩,
  ⟨some 9, .call (.const (.func (.func 175) [] [])) [.tmp 8, .const (.int .i64 1048576)], some (6, true)⟩,
  q 10 (.pick (x 6) (x 9) (.const (.bool false))),
  q 11 (.mov (x 10)),
  ⟨some 12, .fldA 2 (x 1), some (11, true)⟩,
  ⟨some 13, .ld1 (x 12), some (11, true)⟩,
  ⟨some 14, .arith .geq (x 13) (.const (.int .i64 0)), some (11, true)⟩,
  q 15 (.pick (x 11) (x 14) (.const (.bool false))),
  q 16 (.mov (x 15)),
  ⟨some 17, .fldA 2 (x 1), some (16, true)⟩,
  ⟨some 18, .ld1 (x 17), some (16, true)⟩,
  ⟨some 19, .arith .leq (x 18) (.const (.int .i64 1048576)), some (16, true)⟩,
  q 20 (.pick (x 16) (x 19) (.const (.bool false))),
  q 21 (.mov (x 20)),
  ⟨some 22, .fldA 3 (x 1), some (21, true)⟩,
  ⟨some 23, .ld1 (x 22), some (21, true)⟩,
  ⟨some 24, .arith .geq (x 23) (.const (.int .i64 0)), some (21, true)⟩,
  q 25 (.pick (x 21) (x 24) (.const (.bool false))),
  q 26 (.mov (x 25)),
  ⟨some 27, .fldA 3 (x 1), some (26, true)⟩,
  ⟨some 28, .ld1 (x 27), some (26, true)⟩,
  ⟨some 29, .arith .leq (x 28) (.const (.int .i64 1048576)), some (26, true)⟩,
  q 30 (.pick (x 26) (x 29) (.const (.bool false))),
  q 2 (.mov (x 30))]
def S149 : SFn := ⟨31, [.tmp 2], .seq (.reg S149.r0) (.seq (.reg S149.r1) (.ret))⟩
theorem S149_ok : EOk Tryz.prog 149 S149 := ⟨Tryz.f149, by kernel_rfl, by kernel_rfl, by decide, by kernel_rfl, its_nil (by kernel_rfl)⟩
def o149_s1 (cl : Handler) (N : Nat) (v1 v25 : AV) (h : AH) : Ans :=
  fgd (gdv true v25) (kFldA h 3 v1) h fun v27 h =>
  fgd (gdv true v25) (kLd1 h v27) h fun v28 h =>
  fgd (gdv true v25) (kArith h .leq v28 (.int .i64 1048576)) h fun v29 h =>
  fst (kPick h v25 v29 (.bool false)) fun v30 h =>
  some (.nrm, [], [v30], h)
def o149_s2 (cl : Handler) (N : Nat) (v1 v11 v13 : AV) (h : AH) : Ans :=
  fgd (gdv true v11) (kArith h .geq v13 (.int .i64 0)) h fun v14 h =>
  fst (kPick h v11 v14 (.bool false)) fun v15 h =>
  fgd (gdv true v15) (kFldA h 2 v1) h fun v17 h =>
  fgd (gdv true v15) (kLd1 h v17) h fun v18 h =>
  fgd (gdv true v15) (kArith h .leq v18 (.int .i64 1048576)) h fun v19 h =>
  fst (kPick h v15 v19 (.bool false)) fun v20 h =>
  fgd (gdv true v20) (kFldA h 3 v1) h fun v22 h =>
  fgd (gdv true v20) (kLd1 h v22) h fun v23 h =>
  fgd (gdv true v20) (kArith h .geq v23 (.int .i64 0)) h fun v24 h =>
  fst (kPick h v20 v24 (.bool false)) fun v25 h =>
  o149_s1 cl N v1 v25 h
def o149 (cl : Handler) (N : Nat) (v0 : AV) (h : AH) : Ans :=
  fst (kBox h v0) fun v1 h =>
  fst (kFldA h 0 v1) fun v3 h =>
  fst (kLd1 h v3) fun v4 h =>
  fst (cl 175 [v4, (.int .i64 1048576)] h) fun v5 h =>
  fgd (gdv true v5) (kFldA h 1 v1) h fun v7 h =>
  fgd (gdv true v5) (kLd1 h v7) h fun v8 h =>
  fgd (gdv true v5) (cl 175 [v8, (.int .i64 1048576)] h) h fun v9 h =>
  fst (kPick h v5 v9 (.bool false)) fun v10 h =>
  fgd (gdv true v10) (kFldA h 2 v1) h fun v12 h =>
  fgd (gdv true v10) (kLd1 h v12) h fun v13 h =>
  o149_s2 cl N v1 v10 v13 h
theorem o149_eq (cl : Handler) (N : Nat) (v0 : AV) (h : AH) : frun cl N S149 [v0] h = fans (o149 cl N v0 h) := by kernel_rfl
def w149 (N : Nat) : OF := fun cl args h => match args with
  | [v0] => fans (o149 cl N v0 h)
  | _ => none
theorem w149_ok (N : Nat) : OkF Tryz.prog 149 (w149 N) := .of (N := N) (S149_ok) fun cl args h r hr => by
  unfold w149 at hr
  split at hr
  · exact (o149_eq cl N _ _).trans hr
  · cases hr

def S150.z0 : List AV := [.int .i64 0, .int .i64 0, .int .i64 0, .int .i64 0]
/- widgetry/widgetryref02.valid -/
def S150.r0 : List AOpr := [
  q 1 (.box (x 0)),
  q 2 (.new S150.z0)]
def S150.r1 : List AOpr := [
  q 3 (.ldn 4 (x 1)),
  q 4 (.call (.const (.func (.func 149) [] [])) [.tmp 3]),
  q 5 (.un .not (x 4))]
def S150.r2 : List AOpr := [
  q 6 (.build S150.z0 []),
  ⟨none, .st 4 (x 2) (x 6), none⟩]
def S150.r3 : List AOpr := [
  q 7 (.ldn 4 (x 1)),
  ⟨none, .st 4 (x 2) (x 7), none⟩]
def S150 : SFn := ⟨8, [.cell 2 (some 4)], .seq (.reg S150.r0) (.seq (.seq (.reg S150.r1) (.cond (x 5) (.seq (.reg S150.r2) (.ret)) (.skip))) (.seq (.reg S150.r3) (.ret)))⟩
theorem S150_ok : EOk Tryz.prog 150 S150 := ⟨Tryz.f150, by kernel_rfl, by kernel_rfl, by decide, by kernel_rfl, its_nil (by kernel_rfl)⟩
def o150 (cl : Handler) (N : Nat) (v0 : AV) (h : AH) : Ans :=
  fst (kBox h v0) fun v1 h =>
  fst (kNew h S150.z0) fun v2 h =>
  fst (kLdn h 4 v1) fun v3 h =>
  fst (cl 149 [v3] h) fun v4 h =>
  fst (kUn h .not v4) fun v5 h =>
  fif v5 (
  fst (kBuild h S150.z0 []) fun v6 h =>
  fst (kSt h 4 v2 v6) fun _ h =>
  fres (aresV h [.cell (v2) (some 4)]) h) (
  fst (kLdn h 4 v1) fun v7 h =>
  fst (kSt h 4 v2 v7) fun _ h =>
  fres (aresV h [.cell (v2) (some 4)]) h)
theorem o150_eq (cl : Handler) (N : Nat) (v0 : AV) (h : AH) : frun cl N S150 [v0] h = fans (o150 cl N v0 h) := by kernel_rfl
def w150 (N : Nat) : OF := fun cl args h => match args with
  | [v0] => fans (o150 cl N v0 h)
  | _ => none
theorem w150_ok (N : Nat) : OkF Tryz.prog 150 (w150 N) := .of (N := N) (S150_ok) fun cl args h r hr => by
  unfold w150 at hr
  split at hr
  · exact (o150_eq cl N _ _).trans hr
  · cases hr

/- widgetry/widgetryref14.Path -/
def S151.r0 : List AOpr := [
  q 2 (.box (x 0)),
  q 4 (.mov (.const (.nilsl)))]
def S151.r1 : List AOpr := [
  q 5 (.ldn 3 (x 2)),
  q 6 (.call (.const (.func (.func 93) [] [])) [.tmp 5]),
  q 7 (.arith .neq (x 6) (.const (.int .i64 0))),
  q 8 (.mov (x 7)),
  ⟨some 9, .ldn 3 (x 2), some (8, false)⟩,
  ⟨some 10, .mov (x 1), some (8, false)⟩,
  ⟨some 11, .call (.const (.func (.func 96) [] [])) [.tmp 9, .tmp 10], some (8, false)⟩,
  ⟨some 12, .arith .lss (x 11) (.const (.int .i64 0)), some (8, false)⟩,
  q 13 (.pick (x 8) (.const (.bool true)) (x 12))]
def S151.r2 : List AOpr := [
  q 4 (.mov (.const (.nilsl)))]
def S151.r3 : List AOpr := [
  q 14 (.ldn 3 (x 2)),
  q 15 (.mov (x 1)),
  q 16 (.call (.const (.func (.func 176) [] [])) [.tmp 14, .tmp 15]),
  q 4 (.mov (x 16))]
def S151 : SFn := ⟨17, [.tmp 4], .seq (.reg S151.r0) (.seq (.seq (.joinN [1, 2, 13] (.reg S151.r1)) (.cond (x 13) (.seq (.reg S151.r2) (.ret)) (.skip))) (.seq (.reg S151.r3) (.ret)))⟩
theorem S151_ok : EOk Tryz.prog 151 S151 := ⟨Tryz.f151, by kernel_rfl, by kernel_rfl, by decide, by kernel_rfl, its_nil (by kernel_rfl)⟩
def o151_a1 (cl : Handler) (N : Nat) (v1 v2 : AV) (h : AH) : Ans :=
  fst (kLdn h 3 v2) fun v5 h =>
  fst (cl 93 [v5] h) fun v6 h =>
  fst (kArith h .neq v6 (.int .i64 0)) fun v7 h =>
  fgd (gdv false v7) (kLdn h 3 v2) h fun v9 h =>
  fgd (gdv false v7) (kMov h v1) h fun v10 h =>
  fgd (gdv false v7) (cl 96 [v9, v10] h) h fun v11 h =>
  fgd (gdv false v7) (kArith h .lss v11 (.int .i64 0)) h fun v12 h =>
  fst (kPick h v7 (.bool true) v12) fun v13 h =>
  some (.nrm, [], [v1, v2, v13], h)
def o151_j2 (cl : Handler) (N : Nat) (v1 v2 v13 : AV) (h : AH) : Ans :=
  fif v13 (
  some (.nrm, [], [(.nilsl)], h)) (
  fst (kLdn h 3 v2) fun v14 h =>
  fst (cl 176 [v14, v1] h) fun v16 h =>
  some (.nrm, [], [v16], h))
def o151 (cl : Handler) (N : Nat) (v0 v1 : AV) (h : AH) : Ans :=
  fst (kBox h v0) fun v2 h =>
  fjn (o151_a1 cl N v1 v2 h) fun _ vs h => o151_j2 cl N (nthD vs 0) (nthD vs 1) (nthD vs 2) h
theorem o151_eq (cl : Handler) (N : Nat) (v0 v1 : AV) (h : AH) : frun cl N S151 [v0, v1] h = fans (o151 cl N v0 v1 h) := by kernel_rfl
def w151 (N : Nat) : OF := fun cl args h => match args with
  | [v0, v1] => fans (o151 cl N v0 v1 h)
  | _ => none
theorem w151_ok (N : Nat) : OkF Tryz.prog 151 (w151 N) := .of (N := N) (S151_ok) fun cl args h r hr => by
  unfold w151 at hr
  split at hr
  · exact (o151_eq cl N _ _ _).trans hr
  · cases hr

def S152.z0 : List AV := [.str [], .str [], .str [], .nilsl]
/- widgetry/widgetryref30.action -/
def S152.r0 : List AOpr := [
  q 2 (.box (x 0)),
  q 4 (.new S152.z0),
  q 5 (.mov (.const (.bool false)))]
def S152.r1 : List AOpr := [
  q 6 (.mov (.const (.int .i64 0)))]
def S152.r2 : List AOpr := [
  q 7 (.mov (x 6)),
  q 8 (.fldA 5 (x 2)),
  q 9 (.ld1 (x 8)),
  q 10 (.len (x 9)),
  q 11 (.arith .lss (x 7) (x 10))]
def S152.r3 : List AOpr := [
  q 14 (.fldA 5 (x 2)),
  q 15 (.ld1 (x 14)),
  q 16 (.mov (x 6)),
  q 17 (.idxA 4 (x 15) (x 16)),
  q 18 (.fldA 0 (x 17)),
  q 19 (.ld1 (x 18)),
  q 20 (.mov (x 1)),
  q 21 (.arith .eql (x 19) (x 20))]
def S152.r4 : List AOpr := [
  q 22 (.fldA 5 (x 2)),
  q 23 (.ld1 (x 22)),
  q 24 (.mov (x 6)),
  q 25 (.idxA 4 (x 23) (x 24)),
  q 26 (.ldn 4 (x 25)),
  ⟨none, .st 4 (x 4) (x 26), none⟩,
  q 5 (.mov (.const (.bool true)))]
def S152.r5 : List AOpr := [
  q 12 (.mov (x 6)),
  q 13 (.arith .add (x 12) (.const (.int .i64 1))),
  q 6 (.mov (x 13))]
def S152.r6 : List AOpr := [
  q 27 (.build S152.z0 []),
  ⟨none, .st 4 (x 4) (x 27), none⟩,
  q 5 (.mov (.const (.bool false)))]
def S152 : SFn := ⟨28, [.cell 4 (some 4), .tmp 5], .seq (.reg S152.r0) (.seq (.seq (.reg S152.r1) (.block 0 (.loop [1, 2, 4, 6] [4, 5] (.seq (.seq (.reg S152.r2) (.cond (x 11) (.skip) (.exit 0))) (.seq (.block 1 (.seq (.reg S152.r3) (.cond (x 21) (.seq (.reg S152.r4) (.ret)) (.skip)))) (.reg S152.r5)))))) (.seq (.reg S152.r6) (.ret)))⟩
theorem S152_ok : EOk Tryz.prog 152 S152 := ⟨Tryz.f152, by kernel_rfl, by kernel_rfl, by decide, by kernel_rfl, its_nil (by kernel_rfl)⟩
def o152_s1 (cl : Handler) (N : Nat) (v1 v2 v4 v6 : AV) (h : AH) : Ans :=
  fst (kFldA h 5 v2) fun v22 h =>
  fst (kLd1 h v22) fun v23 h =>
  fst (kIdxA h 4 v23 v6) fun v25 h =>
  fst (kLdn h 4 v25) fun v26 h =>
  fst (kSt h 4 v4 v26) fun _ h =>
  some (.ret, [v1, v2, v4, v6], [v4, (.bool true)], h)
def o152_s2 (cl : Handler) (N : Nat) (v1 v2 v4 v6 : AV) (h : AH) : Ans :=
  fst (kArith h .add v6 (.int .i64 1)) fun v13 h =>
  some (.nrm, [v1, v2, v4, v13], [v4, .undef], h)
def o152_l1 (cl : Handler) (N : Nat) (v1 v2 v4 v6 : AV) (h : AH) : Ans :=
  fst (kFldA h 5 v2) fun v8 h =>
  fst (kLd1 h v8) fun v9 h =>
  fst (kLen h v9) fun v10 h =>
  fst (kArith h .lss v6 v10) fun v11 h =>
  fif v11 (
  fst (kFldA h 5 v2) fun v14 h =>
  fst (kLd1 h v14) fun v15 h =>
  fst (kIdxA h 4 v15 v6) fun v17 h =>
  fst (kFldA h 0 v17) fun v18 h =>
  fst (kLd1 h v18) fun v19 h =>
  fst (kArith h .eql v19 v1) fun v21 h =>
  fif v21 (
  o152_s1 cl N v1 v2 v4 v6 h) (
  o152_s2 cl N v1 v2 v4 v6 h)) (
  some ((.exit 0), [v1, v2, v4, v6], [v4, .undef], h))
def o152_c2 (cl : Handler) (N : Nat) (v4 : AV) (h : AH) : Ans :=
  fst (kBuild h S152.z0 []) fun v27 h =>
  fst (kSt h 4 v4 v27) fun _ h =>
  fres (aresV h [.cell (v4) (some 4), .val ((.bool false))]) h
def o152_j3 (cl : Handler) (N : Nat) (x : AX) (v4 v5 : AV) (h : AH) : Ans :=
  fxs x (o152_c2 cl N v4 h) (fun j => cond (Nat.beq j 0) (o152_c2 cl N v4 h) (none)) (fres (aresV h [.cell (v4) (some 4), .val (v5)]) h)
def o152 (cl : Handler) (N : Nat) (v0 v1 : AV) (h : AH) : Ans :=
  fst (kBox h v0) fun v2 h =>
  fst (kNew h S152.z0) fun v4 h =>
  fjn (fiter (fun vs h => o152_l1 cl N (nthD vs 0) (nthD vs 1) (nthD vs 2) (nthD vs 3) h) N [v1, v2, v4, (.int .i64 0)] h) fun x vs h => o152_j3 cl N x (nthD vs 0) (nthD vs 1) h
theorem o152_eq (cl : Handler) (N : Nat) (v0 v1 : AV) (h : AH) : frun cl N S152 [v0, v1] h = fans (o152 cl N v0 v1 h) := by kernel_rfl
def w152 (N : Nat) : OF := fun cl args h => match args with
  | [v0, v1] => fans (o152 cl N v0 v1 h)
  | _ => none
theorem w152_ok (N : Nat) : OkF Tryz.prog 152 (w152 N) := .of (N := N) (S152_ok) fun cl args h r hr => by
  unfold w152 at hr
  split at hr
  · exact (o152_eq cl N _ _ _).trans hr
  · cases hr

def otr2 (N : Nat) : OT := .node 128 (.node 116 (.node 110 (.node 107 (.node 106 (.one 105 (w105 N)) (.one 106 (w106 N))) (.node 108 (.one 107 (w107 N)) (.one 108 (w108 N)))) (.node 112 (.node 111 (.one 110 (w110 N)) (.one 111 (w111 N))) (.node 114 (.one 112 (w112 N)) (.one 114 (w114 N))))) (.node 120 (.node 118 (.node 117 (.one 116 (w116 N)) (.one 117 (w117 N))) (.node 119 (.one 118 (w118 N)) (.one 119 (w119 N)))) (.node 122 (.node 121 (.one 120 (w120 N)) (.one 121 (w121 N))) (.node 123 (.one 122 (w122 N)) (.node 127 (.one 123 (w123 N)) (.one 127 (w127 N))))))) (.node 142 (.node 138 (.node 135 (.node 134 (.one 128 (w128 N)) (.one 134 (w134 N))) (.node 136 (.one 135 (w135 N)) (.one 136 (w136 N)))) (.node 140 (.node 139 (.one 138 (w138 N)) (.one 139 (w139 N))) (.node 141 (.one 140 (w140 N)) (.one 141 (w141 N))))) (.node 148 (.node 144 (.node 143 (.one 142 (w142 N)) (.one 143 (w143 N))) (.node 145 (.one 144 (w144 N)) (.one 145 (w145 N)))) (.node 150 (.node 149 (.one 148 (w148 N)) (.one 149 (w149 N))) (.node 151 (.one 150 (w150 N)) (.node 152 (.one 151 (w151 N)) (.one 152 (w152 N)))))))
theorem otr2_ok (N : Nat) : (otr2 N).Ok Tryz.prog := ⟨⟨⟨⟨⟨w105_ok N, w106_ok N⟩, ⟨w107_ok N, w108_ok N⟩⟩, ⟨⟨w110_ok N, w111_ok N⟩, ⟨w112_ok N, w114_ok N⟩⟩⟩, ⟨⟨⟨w116_ok N, w117_ok N⟩, ⟨w118_ok N, w119_ok N⟩⟩, ⟨⟨w120_ok N, w121_ok N⟩, ⟨w122_ok N, ⟨w123_ok N, w127_ok N⟩⟩⟩⟩⟩, ⟨⟨⟨⟨w128_ok N, w134_ok N⟩, ⟨w135_ok N, w136_ok N⟩⟩, ⟨⟨w138_ok N, w139_ok N⟩, ⟨w140_ok N, w141_ok N⟩⟩⟩, ⟨⟨⟨w142_ok N, w143_ok N⟩, ⟨w144_ok N, w145_ok N⟩⟩, ⟨⟨w148_ok N, w149_ok N⟩, ⟨w150_ok N, ⟨w151_ok N, w152_ok N⟩⟩⟩⟩⟩⟩

end Go.Proofs.YtoibclpbkjbnbaaGreatDoor
end
