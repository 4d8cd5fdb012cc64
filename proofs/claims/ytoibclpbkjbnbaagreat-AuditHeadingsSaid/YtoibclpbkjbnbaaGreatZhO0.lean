/- The functions that building and exporting a view of headings run through, first part: their code and what they are as plain definitions; written by a program. -/
import Derived.Test.YtoibclpbkjbnbaaGreatEngOX
import Derived.Test.YtoibclpbkjbnbaaGreatProg
import Derived.KernelRfl
set_option linter.unusedSimpArgs false
set_option linter.unusedVariables false
set_option linter.unnecessarySimpa false
noncomputable section
namespace Go.Proofs.YtoibclpbkjbnbaaGreat
open Go.Eng
set_option maxRecDepth 100000
def S6.z0 : List AV := [.int .i64 0, .int .i64 0, .nilsl, .nilsl, .nilsl, .nilsl, .nilsl, .nilsl, .nilsl, .nilsl, .int .i64 0]
def S6.z1 : List AV := [.int .i64 0, .int .i64 0, .int .i64 0, .int .i64 0, .int .i64 0, .int .i64 0, .int .i64 0, .int .i64 0, .int .i64 0, .int .i64 0, .int .i64 0, .int .i64 0, .int .i64 0, .int .i64 0, .int .i64 0, .int .i64 0, .int .i64 0, .int .i64 0, .int .i64 0, .int .i64 0, .int .i64 0, .int .i64 0, .int .i64 0]
def S6.z2 : List AV := [.int .i64 0, .int .i64 0, .int .i64 0, .int .i64 0, .int .i64 0, .int .i64 0, .nilsl]
/- widgetry/widgetrylaw43.of -/
def S6.r0 : List AOpr := [
  q 2 (.box (x 0)),
  q 4 (.new S6.z0)]
def S6.r1 : List AOpr := [
  q 11 (.ldn 5 (x 2)),
  q 12 (.call (.const (.func (.func 8) [] [])) [.tmp 11, .const (.int .i64 1)]),
  q 10 (.mov (x 12)),
  q 13 (.ext (x 10) 0),
  q 14 (.ext (x 10) 1),
  q 5 (.new [.int .i64 0, .int .i64 0, .nilsl]),
  ⟨none, .st 3 (x 5) (x 13), none⟩,
  q 6 (.mov (x 14))]
def S6.r2 : List AOpr := [
  q 15 (.ldn 3 (x 5)),
  q 16 (.build S6.z0 [(0, 3, .tmp 15)]),
  q 7 (.new S6.z0),
  ⟨none, .st 11 (x 7) (x 16), none⟩]
def S6.r3 : List AOpr := [
  q 8 (.mov (.const (.int .i64 0)))]
def S6.r4 : List AOpr := [
  q 17 (.mov (x 8)),
  q 18 (.fldA 2 (x 5)),
  q 19 (.ld1 (x 18)),
  q 20 (.len (x 19)),
  q 21 (.arith .lss (x 17) (x 20))]
def S6.r5 : List (AOpr × Nat) := [
  (q 24 (.fldA 4 (x 7)), 0),
  (q 25 (.ld1 (x 24)), 1),
  (q 26 (.fldA 2 (x 5)), 0),
  (q 27 (.ld1 (x 26)), 4),
  (q 28 (.mov (x 8)), 0),
  (q 29 (.idxA 7 (x 27) (x 28)), 28),
  (q 30 (.fldA 0 (x 29)), 60),
  (q 31 (.ld1 (x 30)), 124),
  (q 32 (.call (.const (.func (.func 9) [] [])) []), 0),
  (q 33 (.build S6.z1 [(0, 1, .tmp 31), (1, 22, .tmp 32)]), 508),
  (q 34 (.buildSl 23 1 S6.z1 [(0, 23, .tmp 33)]), 1020),
  (q 35 (.app 23 184 (x 25) (x 34)), 2047),
  (q 36 (.fldA 4 (x 7)), 4095),
  (⟨none, .st 1 (x 36) (x 35), none⟩, 8191)]
def S6.r6 : List AOpr := [
  q 22 (.mov (x 8)),
  q 23 (.arith .add (x 22) (.const (.int .i64 1))),
  q 8 (.mov (x 23))]
def S6.r7 : List AOpr := [
  q 9 (.mov (.const (.int .i64 0)))]
def S6.r8 : List AOpr := [
  q 37 (.mov (x 9)),
  q 38 (.mov (x 1)),
  q 39 (.len (x 38)),
  q 40 (.arith .lss (x 37) (x 39))]
def S6.r9 : List (AOpr × Nat) := [
  (q 43 (.fldA 5 (x 7)), 0),
  (q 44 (.ld1 (x 43)), 1),
  (q 45 (.mov (x 9)), 0),
  (q 46 (.arith .add (x 45) (.const (.int .i64 1))), 4),
  (q 47 (.mov (x 1)), 0),
  (q 48 (.mov (x 9)), 0),
  (q 49 (.idxA 4 (x 47) (x 48)), 48),
  (q 50 (.ldn 4 (x 49)), 112),
  (q 51 (.build S6.z2 [(0, 1, .tmp 46), (1, 4, .tmp 50)]), 252),
  (q 52 (.buildSl 7 1 S6.z2 [(0, 7, .tmp 51)]), 508),
  (q 53 (.app 7 72 (x 44) (x 52)), 1023),
  (q 54 (.fldA 5 (x 7)), 2047),
  (⟨none, .st 1 (x 54) (x 53), none⟩, 4095)]
def S6.r10 : List AOpr := [
  q 41 (.mov (x 9)),
  q 42 (.arith .add (x 41) (.const (.int .i64 1))),
  q 9 (.mov (x 42))]
def S6.r11 : List AOpr := [
  q 55 (.ldn 3 (x 5)),
  q 56 (.fldA 4 (x 7)),
  q 57 (.ld1 (x 56)),
  q 58 (.fldA 5 (x 7)),
  q 59 (.ld1 (x 58)),
  q 60 (.build [.int .i64 0, .int .i64 0] [(0, 1, .const (.int .i64 100)), (1, 1, .const (.int .i64 100))]),
  q 61 (.call (.const (.func (.func 10) [] [])) [.tmp 55, .tmp 57, .tmp 59, .const (.nilsl), .tmp 60, .const (.nilsl), .const (.int .i64 0)]),
  q 62 (.fldA 9 (x 7)),
  ⟨none, .st 2 (x 62) (x 61), none⟩]
def S6.r12 : List AOpr := [
  q 63 (.ldn 11 (x 7)),
  ⟨none, .st 11 (x 4) (x 63), none⟩]
def S6 : SFn := ⟨64, [.cell 4 (some 11)], .seq (.reg S6.r0) (.seq (.reg S6.r1) (.seq (.reg S6.r2) (.seq (.seq (.reg S6.r3) (.block 0 (.loop [1, 4, 5, 7, 8] [1, 4, 5, 7] (.seq (.seq (.reg S6.r4) (.cond (x 21) (.skip) (.exit 0))) (.seq (.block 1 (.draw S6.r5)) (.reg S6.r6)))))) (.seq (.seq (.reg S6.r7) (.block 2 (.loop [1, 4, 5, 7, 9] [4, 5, 7] (.seq (.seq (.reg S6.r8) (.cond (x 40) (.skip) (.exit 2))) (.seq (.block 3 (.draw S6.r9)) (.reg S6.r10)))))) (.seq (.reg S6.r11) (.seq (.reg S6.r12) (.ret)))))))⟩
theorem S6_ok : EOk Tryz.prog 6 S6 := ⟨Tryz.f6, by kernel_rfl, by kernel_rfl, by decide, by kernel_rfl, its_nil (by kernel_rfl)⟩
def o6_s1 (cl : Handler) (N : Nat) (r : Nat) (c0 c1 c2 c3 c4 c5 : Rec) (v1 v4 v5 v7 v8 v25 v29 : AV) (h : AH) : Ans :=
  fdp h (kFldA h 0 v29) .pure fun v30 c6 h =>
  fdp h (kLd1 h v30) (rdK (rdv v30)) fun v31 c7 h =>
  fde h (cl 9 [] h) fun v32 c8 h =>
  fdp h (kBuild h S6.z1 [(0, 1, v31), (1, 22, v32)]) .pure fun v33 c9 h =>
  fda (r + 10) h (alBuildSl 23 1 S6.z1 [(0, 23, v33)]) fun v34 c10 h =>
  fde h (kApp h 23 184 v25 v34) fun v35 c11 h =>
  fdp h (kFldA h 4 v7) .pure fun v36 c12 h =>
  fde h (kSt h 1 v36 v35) fun _ c13 h =>
  cond (fchk [c0, c1, c2, c3, c4, c5, c6, c7, c8, c9, c10, c11, c12, c13] [(1, 8), (3, 8), (7, 8), (1, 10)]) (fst (kArith h .add v8 (.int .i64 1)) fun v23 h =>
  some (.nrm, [v1, v4, v5, v7, v23], [v1, v4, v5, v7], h)) none
def o6_l1 (cl : Handler) (N : Nat) (v1 v4 v5 v7 v8 : AV) (h : AH) : Ans :=
  fst (kFldA h 2 v5) fun v18 h =>
  fst (kLd1 h v18) fun v19 h =>
  fst (kLen h v19) fun v20 h =>
  fst (kArith h .lss v8 v20) fun v21 h =>
  fif v21 (
  fdr h 14 fun r h =>
  fdp h (kFldA h 4 v7) .pure fun v24 c0 h =>
  fdp h (kLd1 h v24) (rdK (rdv v24)) fun v25 c1 h =>
  fdp h (kFldA h 2 v5) .pure fun v26 c2 h =>
  fdp h (kLd1 h v26) (rdK (rdv v26)) fun v27 c3 h =>
  fdp h (kMov h v8) .pure fun v28 c4 h =>
  fdp h (kIdxA h 7 v27 v28) .pure fun v29 c5 h =>
  o6_s1 cl N r c0 c1 c2 c3 c4 c5 v1 v4 v5 v7 v8 v25 v29 h) (
  some ((.exit 0), [v1, v4, v5, v7, v8], [v1, v4, v5, v7], h))
def o6_s2 (cl : Handler) (N : Nat) (r : Nat) (c0 c1 c2 c3 c4 c5 c6 c7 : Rec) (v1 v4 v5 v7 v9 v44 v46 v50 : AV) (h : AH) : Ans :=
  fdp h (kBuild h S6.z2 [(0, 1, v46), (1, 4, v50)]) .pure fun v51 c8 h =>
  fda (r + 9) h (alBuildSl 7 1 S6.z2 [(0, 7, v51)]) fun v52 c9 h =>
  fde h (kApp h 7 72 v44 v52) fun v53 c10 h =>
  fdp h (kFldA h 5 v7) .pure fun v54 c11 h =>
  fde h (kSt h 1 v54 v53) fun _ c12 h =>
  cond (fchk [c0, c1, c2, c3, c4, c5, c6, c7, c8, c9, c10, c11, c12] [(1, 9)]) (fst (kArith h .add v9 (.int .i64 1)) fun v42 h =>
  some (.nrm, [v1, v4, v5, v7, v42], [v4, v5, v7], h)) none
def o6_l2 (cl : Handler) (N : Nat) (v1 v4 v5 v7 v9 : AV) (h : AH) : Ans :=
  fst (kLen h v1) fun v39 h =>
  fst (kArith h .lss v9 v39) fun v40 h =>
  fif v40 (
  fdr h 13 fun r h =>
  fdp h (kFldA h 5 v7) .pure fun v43 c0 h =>
  fdp h (kLd1 h v43) (rdK (rdv v43)) fun v44 c1 h =>
  fdp h (kMov h v9) .pure fun v45 c2 h =>
  fdp h (kArith h .add v45 (.int .i64 1)) .pure fun v46 c3 h =>
  fdp h (kMov h v1) .pure fun v47 c4 h =>
  fdp h (kMov h v9) .pure fun v48 c5 h =>
  fdp h (kIdxA h 4 v47 v48) .pure fun v49 c6 h =>
  fdp h (kLdn h 4 v49) (rdK (rdv v49)) fun v50 c7 h =>
  o6_s2 cl N r c0 c1 c2 c3 c4 c5 c6 c7 v1 v4 v5 v7 v9 v44 v46 v50 h) (
  some ((.exit 2), [v1, v4, v5, v7, v9], [v4, v5, v7], h))
def o6_s3 (cl : Handler) (N : Nat) (v4 v63 : AV) (h : AH) : Ans :=
  fst (kSt h 11 v4 v63) fun _ h =>
  fres (aresV h [.cell (v4) (some 11)]) h
def o6_c3 (cl : Handler) (N : Nat) (v4 v5 v7 : AV) (h : AH) : Ans :=
  fst (kLdn h 3 v5) fun v55 h =>
  fst (kFldA h 4 v7) fun v56 h =>
  fst (kLd1 h v56) fun v57 h =>
  fst (kFldA h 5 v7) fun v58 h =>
  fst (kLd1 h v58) fun v59 h =>
  fst (kBuild h [.int .i64 0, .int .i64 0] [(0, 1, (.int .i64 100)), (1, 1, (.int .i64 100))]) fun v60 h =>
  fst (cl 10 [v55, v57, v59, (.nilsl), v60, (.nilsl), (.int .i64 0)] h) fun v61 h =>
  fst (kFldA h 9 v7) fun v62 h =>
  fst (kSt h 2 v62 v61) fun _ h =>
  fst (kLdn h 11 v7) fun v63 h =>
  o6_s3 cl N v4 v63 h
def o6_j4 (cl : Handler) (N : Nat) (x : AX) (v4 v5 v7 : AV) (h : AH) : Ans :=
  fxs x (o6_c3 cl N v4 v5 v7 h) (fun j => cond (Nat.beq j 2) (o6_c3 cl N v4 v5 v7 h) (none)) (fres (aresV h [.cell (v4) (some 11)]) h)
def o6_c5 (cl : Handler) (N : Nat) (v1 v4 v5 v7 : AV) (h : AH) : Ans :=
  fjn (fiter (fun vs h => o6_l2 cl N (nthD vs 0) (nthD vs 1) (nthD vs 2) (nthD vs 3) (nthD vs 4) h) N [v1, v4, v5, v7, (.int .i64 0)] h) fun x vs h => o6_j4 cl N x (nthD vs 0) (nthD vs 1) (nthD vs 2) h
def o6_j6 (cl : Handler) (N : Nat) (x : AX) (v1 v4 v5 v7 : AV) (h : AH) : Ans :=
  fxs x (o6_c5 cl N v1 v4 v5 v7 h) (fun j => cond (Nat.beq j 0) (o6_c5 cl N v1 v4 v5 v7 h) (none)) (fres (aresV h [.cell (v4) (some 11)]) h)
def o6_s4 (cl : Handler) (N : Nat) (v1 v4 v5 v16 : AV) (h : AH) : Ans :=
  fst (kNew h S6.z0) fun v7 h =>
  fst (kSt h 11 v7 v16) fun _ h =>
  fjn (fiter (fun vs h => o6_l1 cl N (nthD vs 0) (nthD vs 1) (nthD vs 2) (nthD vs 3) (nthD vs 4) h) N [v1, v4, v5, v7, (.int .i64 0)] h) fun x vs h => o6_j6 cl N x (nthD vs 0) (nthD vs 1) (nthD vs 2) (nthD vs 3) h
def o6 (cl : Handler) (N : Nat) (v0 v1 : AV) (h : AH) : Ans :=
  fst (kBox h v0) fun v2 h =>
  fst (kNew h S6.z0) fun v4 h =>
  fst (kLdn h 5 v2) fun v11 h =>
  fst (cl 8 [v11, (.int .i64 1)] h) fun v12 h =>
  fst (kExt h v12 0) fun v13 h =>
  fst (kExt h v12 1) fun v14 h =>
  fst (kNew h [.int .i64 0, .int .i64 0, .nilsl]) fun v5 h =>
  fst (kSt h 3 v5 v13) fun _ h =>
  fst (kLdn h 3 v5) fun v15 h =>
  fst (kBuild h S6.z0 [(0, 3, v15)]) fun v16 h =>
  o6_s4 cl N v1 v4 v5 v16 h
theorem o6_eq (cl : Handler) (N : Nat) (v0 v1 : AV) (h : AH) : frun cl N S6 [v0, v1] h = fans (o6 cl N v0 v1 h) := by kernel_rfl
def w6 (N : Nat) : OF := fun cl args h => match args with
  | [v0, v1] => fans (o6 cl N v0 v1 h)
  | _ => none
theorem w6_ok (N : Nat) : OkF Tryz.prog 6 (w6 N) := .of (N := N) (S6_ok) fun cl args h r hr => by
  unfold w6 at hr
  split at hr
  · exact (o6_eq cl N _ _ _).trans hr
  · cases hr

def S7.z0 : List AV := [.int .i64 0, .str [], .nilsl, .nilsl, .nilsl]
/- widgetry/widgetrylaw43.awake -/
def S7.r0 : List AOpr := [
  q 0 (.mov (.const (.bool false)))]
def S7.r1 : List AOpr := [
  q 2 (.build S7.z0 [(0, 1, .const (.int .i64 3))]),
  q 3 (.buildSl 5 1 S7.z0 [(0, 5, .tmp 2)]),
  q 4 (.build S7.z0 [(0, 1, .const (.int .i64 1)), (4, 1, .tmp 3)]),
  q 5 (.call (.const (.func (.func 6) [] [])) [.tmp 4, .const (.nilsl)]),
  q 6 (.call (.const (.func (.func 11) [] [])) [.tmp 5]),
  q 1 (.mov (x 6))]
def S7.r2 : List AOpr := [
  q 7 (.mov (x 1)),
  q 8 (.len (x 7)),
  q 9 (.arith .eql (x 8) (.const (.int .i64 1))),
  q 10 (.mov (x 9)),
  ⟨some 11, .mov (x 1), some (10, true)⟩,
  ⟨some 12, .idxA 3 (x 11) (.const (.int .i64 0)), some (10, true)⟩,
  ⟨some 13, .ldn 3 (x 12), some (10, true)⟩,
  ⟨some 14, .build [.int .i64 0, .int .i64 0, .int .i64 0] [(0, 1, .const (.int .i64 1)), (1, 1, .const (.int .i64 2))], some (10, true)⟩,
  ⟨some 15, .eqf false [.int .i64, .int .i64, .int .i64] (x 13) (x 14), some (10, true)⟩,
  q 16 (.pick (x 10) (x 15) (.const (.bool false))),
  q 0 (.mov (x 16))]
def S7 : SFn := ⟨17, [.tmp 0], .seq (.reg S7.r0) (.seq (.reg S7.r1) (.seq (.reg S7.r2) (.ret)))⟩
theorem S7_ok : EOk Tryz.prog 7 S7 := ⟨Tryz.f7, by kernel_rfl, by kernel_rfl, by decide, by kernel_rfl, its_nil (by kernel_rfl)⟩
def o7_s1 (cl : Handler) (N : Nat) (v10 v13 : AV) (h : AH) : Ans :=
  fgd (gdv true v10) (kBuild h [.int .i64 0, .int .i64 0, .int .i64 0] [(0, 1, (.int .i64 1)), (1, 1, (.int .i64 2))]) h fun v14 h =>
  fgd (gdv true v10) (kEqf h false [.int .i64, .int .i64, .int .i64] v13 v14) h fun v15 h =>
  fst (kPick h v10 v15 (.bool false)) fun v16 h =>
  some (.nrm, [], [v16], h)
def o7 (cl : Handler) (N : Nat) (h : AH) : Ans :=
  fst (kBuild h S7.z0 [(0, 1, (.int .i64 3))]) fun v2 h =>
  fst (kBuildSl h 5 1 S7.z0 [(0, 5, v2)]) fun v3 h =>
  fst (kBuild h S7.z0 [(0, 1, (.int .i64 1)), (4, 1, v3)]) fun v4 h =>
  fst (cl 6 [v4, (.nilsl)] h) fun v5 h =>
  fst (cl 11 [v5] h) fun v6 h =>
  fst (kLen h v6) fun v8 h =>
  fst (kArith h .eql v8 (.int .i64 1)) fun v9 h =>
  fgd (gdv true v9) (kMov h v6) h fun v11 h =>
  fgd (gdv true v9) (kIdxA h 3 v11 (.int .i64 0)) h fun v12 h =>
  fgd (gdv true v9) (kLdn h 3 v12) h fun v13 h =>
  o7_s1 cl N v9 v13 h
theorem o7_eq (cl : Handler) (N : Nat) (h : AH) : frun cl N S7 [] h = fans (o7 cl N  h) := by kernel_rfl
def w7 (N : Nat) : OF := fun cl args h => match args with
  | [] => fans (o7 cl N  h)
  | _ => none
theorem w7_ok (N : Nat) : OkF Tryz.prog 7 (w7 N) := .of (N := N) (S7_ok) fun cl args h r hr => by
  unfold w7 at hr
  split at hr
  · exact (o7_eq cl N _).trans hr
  · cases hr

/- widgetry/widgetryref14.Build -/
def S8.r0 : List AOpr := [
  q 2 (.box (x 0)),
  q 4 (.new [.int .i64 0, .int .i64 0, .nilsl]),
  q 5 (.mov (.const (.int .i64 0)))]
def S8.r1 : List AOpr := [
  q 8 (.ldn 5 (x 2)),
  q 9 (.call (.const (.func (.func 12) [] [])) [.tmp 8]),
  q 6 (.mov (x 9))]
def S8.r2 : List AOpr := [
  q 10 (.mov (x 6)),
  q 11 (.arith .neq (x 10) (.const (.int .i64 0)))]
def S8.r3 : List AOpr := [
  q 12 (.build [.int .i64 0, .int .i64 0, .nilsl] []),
  q 13 (.mov (x 6)),
  ⟨none, .st 3 (x 4) (x 12), none⟩,
  q 5 (.mov (x 13))]
def S8.r4 : List AOpr := [
  q 14 (.mov (x 1)),
  q 15 (.arith .lss (x 14) (.const (.int .i64 1))),
  q 16 (.mov (x 15)),
  ⟨some 17, .mov (x 1), some (16, false)⟩,
  ⟨some 18, .arith .gtr (x 17) (.const (.int .i64 1099511627376)), some (16, false)⟩,
  q 19 (.pick (x 16) (.const (.bool true)) (x 18))]
def S8.r5 : List AOpr := [
  q 20 (.build [.int .i64 0, .int .i64 0, .nilsl] []),
  ⟨none, .st 3 (x 4) (x 20), none⟩,
  q 5 (.mov (.const (.int .i64 1)))]
def S8.r6 : List AOpr := [
  q 21 (.mov (x 1)),
  q 22 (.mov (x 1)),
  q 23 (.build [.int .i64 0, .int .i64 0, .nilsl] [(0, 1, .tmp 21), (1, 1, .tmp 22)]),
  q 7 (.new [.int .i64 0, .int .i64 0, .nilsl]),
  ⟨none, .st 3 (x 7) (x 23), none⟩]
def S8.r7 : List AOpr := [
  q 24 (.ldn 5 (x 2)),
  q 25 (.ldn 3 (x 7)),
  q 26 (.call (.const (.func (.func 13) [] [])) [.tmp 24, .const (.int .i64 0), .tmp 25]),
  ⟨none, .st 3 (x 4) (x 26), none⟩,
  q 5 (.mov (.const (.int .i64 0)))]
def S8 : SFn := ⟨27, [.cell 4 (some 3), .tmp 5], .seq (.reg S8.r0) (.seq (.seq (.reg S8.r1) (.seq (.reg S8.r2) (.cond (x 11) (.seq (.reg S8.r3) (.ret)) (.skip)))) (.seq (.seq (.joinN [1, 2, 4, 19] (.reg S8.r4)) (.cond (x 19) (.seq (.reg S8.r5) (.ret)) (.skip))) (.seq (.reg S8.r6) (.seq (.reg S8.r7) (.ret)))))⟩
theorem S8_ok : EOk Tryz.prog 8 S8 := ⟨Tryz.f8, by kernel_rfl, by kernel_rfl, by decide, by kernel_rfl, its_nil (by kernel_rfl)⟩
def o8_a1 (cl : Handler) (N : Nat) (v1 v2 v4 : AV) (h : AH) : Ans :=
  fst (kArith h .lss v1 (.int .i64 1)) fun v15 h =>
  fgd (gdv false v15) (kMov h v1) h fun v17 h =>
  fgd (gdv false v15) (kArith h .gtr v17 (.int .i64 1099511627376)) h fun v18 h =>
  fst (kPick h v15 (.bool true) v18) fun v19 h =>
  some (.nrm, [], [v1, v2, v4, v19], h)
def o8_j2 (cl : Handler) (N : Nat) (v1 v2 v4 v19 : AV) (h : AH) : Ans :=
  fif v19 (
  fst (kBuild h [.int .i64 0, .int .i64 0, .nilsl] []) fun v20 h =>
  fst (kSt h 3 v4 v20) fun _ h =>
  fres (aresV h [.cell (v4) (some 3), .val ((.int .i64 1))]) h) (
  fst (kBuild h [.int .i64 0, .int .i64 0, .nilsl] [(0, 1, v1), (1, 1, v1)]) fun v23 h =>
  fst (kNew h [.int .i64 0, .int .i64 0, .nilsl]) fun v7 h =>
  fst (kSt h 3 v7 v23) fun _ h =>
  fst (kLdn h 5 v2) fun v24 h =>
  fst (kLdn h 3 v7) fun v25 h =>
  fst (cl 13 [v24, (.int .i64 0), v25] h) fun v26 h =>
  fst (kSt h 3 v4 v26) fun _ h =>
  fres (aresV h [.cell (v4) (some 3), .val ((.int .i64 0))]) h)
def o8 (cl : Handler) (N : Nat) (v0 v1 : AV) (h : AH) : Ans :=
  fst (kBox h v0) fun v2 h =>
  fst (kNew h [.int .i64 0, .int .i64 0, .nilsl]) fun v4 h =>
  fst (kLdn h 5 v2) fun v8 h =>
  fst (cl 12 [v8] h) fun v9 h =>
  fst (kArith h .neq v9 (.int .i64 0)) fun v11 h =>
  fif v11 (
  fst (kBuild h [.int .i64 0, .int .i64 0, .nilsl] []) fun v12 h =>
  fst (kSt h 3 v4 v12) fun _ h =>
  fres (aresV h [.cell (v4) (some 3), .val (v9)]) h) (
  fjn (o8_a1 cl N v1 v2 v4 h) fun _ vs h => o8_j2 cl N (nthD vs 0) (nthD vs 1) (nthD vs 2) (nthD vs 3) h)
theorem o8_eq (cl : Handler) (N : Nat) (v0 v1 : AV) (h : AH) : frun cl N S8 [v0, v1] h = fans (o8 cl N v0 v1 h) := by kernel_rfl
def w8 (N : Nat) : OF := fun cl args h => match args with
  | [v0, v1] => fans (o8 cl N v0 v1 h)
  | _ => none
theorem w8_ok (N : Nat) : OkF Tryz.prog 8 (w8 N) := .of (N := N) (S8_ok) fun cl args h r hr => by
  unfold w8 at hr
  split at hr
  · exact (o8_eq cl N _ _ _).trans hr
  · cases hr

def S9.z0 : List AV := [.int .i64 0, .int .i64 0, .int .i64 0, .int .i64 0, .int .i64 0, .int .i64 0, .int .i64 0, .int .i64 0, .int .i64 0, .int .i64 0, .int .i64 0, .int .i64 0, .int .i64 0, .int .i64 0, .int .i64 0, .int .i64 0, .int .i64 0, .int .i64 0, .int .i64 0, .int .i64 0, .int .i64 0, .int .i64 0]
/- widgetry/widgetryref17.Initial -/
def S9.r0 : List AOpr := [
  q 0 (.new S9.z0)]
def S9.r1 : List AOpr := [
  q 1 (.new S9.z0)]
def S9.r2 : List AOpr := [
  q 2 (.idxArrA 22 1 (x 1) (.const (.int .i64 1))),
  ⟨none, .st 1 (x 2) (.const (.int .i64 (-1))), none⟩]
def S9.r3 : List AOpr := [
  q 3 (.idxArrA 22 1 (x 1) (.const (.int .i64 2))),
  ⟨none, .st 1 (x 3) (.const (.int .i64 16)), none⟩]
def S9.r4 : List AOpr := [
  q 4 (.idxArrA 22 1 (x 1) (.const (.int .i64 5))),
  ⟨none, .st 1 (x 4) (.const (.int .i64 1)), none⟩]
def S9.r5 : List AOpr := [
  q 5 (.idxArrA 22 1 (x 1) (.const (.int .i64 6))),
  ⟨none, .st 1 (x 5) (.const (.int .i64 3)), none⟩]
def S9.r6 : List AOpr := [
  q 6 (.idxArrA 22 1 (x 1) (.const (.int .i64 11))),
  ⟨none, .st 1 (x 6) (.const (.int .i64 1)), none⟩]
def S9.r7 : List AOpr := [
  q 7 (.idxArrA 22 1 (x 1) (.const (.int .i64 12))),
  ⟨none, .st 1 (x 7) (.const (.int .i64 (-1))), none⟩]
def S9.r8 : List AOpr := [
  q 8 (.idxArrA 22 1 (x 1) (.const (.int .i64 14))),
  ⟨none, .st 1 (x 8) (.const (.int .i64 1048576)), none⟩]
def S9.r9 : List AOpr := [
  q 9 (.idxArrA 22 1 (x 1) (.const (.int .i64 16))),
  ⟨none, .st 1 (x 9) (.const (.int .i64 1048576)), none⟩]
def S9.r10 : List AOpr := [
  q 10 (.ldn 22 (x 1)),
  ⟨none, .st 22 (x 0) (x 10), none⟩]
def S9 : SFn := ⟨11, [.cell 0 (some 22)], .seq (.reg S9.r0) (.seq (.reg S9.r1) (.seq (.reg S9.r2) (.seq (.reg S9.r3) (.seq (.reg S9.r4) (.seq (.reg S9.r5) (.seq (.reg S9.r6) (.seq (.reg S9.r7) (.seq (.reg S9.r8) (.seq (.reg S9.r9) (.seq (.reg S9.r10) (.ret)))))))))))⟩
theorem S9_ok : EOk Tryz.prog 9 S9 := ⟨Tryz.f9, by kernel_rfl, by kernel_rfl, by decide, by kernel_rfl, its_nil (by kernel_rfl)⟩
def o9_s1 (cl : Handler) (N : Nat) (v0 v1 : AV) (h : AH) : Ans :=
  fst (kIdxArrA h 22 1 v1 (.int .i64 11)) fun v6 h =>
  fst (kSt h 1 v6 (.int .i64 1)) fun _ h =>
  fst (kIdxArrA h 22 1 v1 (.int .i64 12)) fun v7 h =>
  fst (kSt h 1 v7 (.int .i64 (-1))) fun _ h =>
  fst (kIdxArrA h 22 1 v1 (.int .i64 14)) fun v8 h =>
  fst (kSt h 1 v8 (.int .i64 1048576)) fun _ h =>
  fst (kIdxArrA h 22 1 v1 (.int .i64 16)) fun v9 h =>
  fst (kSt h 1 v9 (.int .i64 1048576)) fun _ h =>
  fst (kLdn h 22 v1) fun v10 h =>
  fst (kSt h 22 v0 v10) fun _ h =>
  fres (aresV h [.cell (v0) (some 22)]) h
def o9 (cl : Handler) (N : Nat) (h : AH) : Ans :=
  fst (kNew h S9.z0) fun v0 h =>
  fst (kNew h S9.z0) fun v1 h =>
  fst (kIdxArrA h 22 1 v1 (.int .i64 1)) fun v2 h =>
  fst (kSt h 1 v2 (.int .i64 (-1))) fun _ h =>
  fst (kIdxArrA h 22 1 v1 (.int .i64 2)) fun v3 h =>
  fst (kSt h 1 v3 (.int .i64 16)) fun _ h =>
  fst (kIdxArrA h 22 1 v1 (.int .i64 5)) fun v4 h =>
  fst (kSt h 1 v4 (.int .i64 1)) fun _ h =>
  fst (kIdxArrA h 22 1 v1 (.int .i64 6)) fun v5 h =>
  fst (kSt h 1 v5 (.int .i64 3)) fun _ h =>
  o9_s1 cl N v0 v1 h
theorem o9_eq (cl : Handler) (N : Nat) (h : AH) : frun cl N S9 [] h = fans (o9 cl N  h) := by kernel_rfl
def w9 (N : Nat) : OF := fun cl args h => match args with
  | [] => fans (o9 cl N  h)
  | _ => none
theorem w9_ok (N : Nat) : OkF Tryz.prog 9 (w9 N) := .of (N := N) (S9_ok) fun cl args h r hr => by
  unfold w9 at hr
  split at hr
  · exact (o9_eq cl N _).trans hr
  · cases hr

def S10.z0 : List AV := [.int .i64 0, .int .i64 0, .nilsl, .nilsl, .nilsl, .nilsl, .nilsl, .int .i64 0, .nilsl]
def S10.z1 : List AV := [.int .i64 0, .int .i64 0, .int .i64 0, .str [], .nilsl, .nilsl, .nilsl]
def S10.z2 : List AV := [.int .i64 0, .int .i64 0, .int .i64 0, .str [], .str [], .str [], .int .i64 0, .int .i64 0, .int .i64 0, .int .i64 0, .int .i64 0, .int .i64 0, .int .i64 0, .int .i64 0, .int .i64 0, .int .i64 0, .int .i64 0, .int .i64 0, .int .i64 0, .bool false, .nilsl, .nilsl]
def S10.z3 : List AV := [.nilsl, .nilsl, .int .i64 0, .int .i64 0, .bool false, .bool false, .int .i64 0, .int .i64 0, .nilsl, .nilsl, .int .i64 0, .int .i64 0, .nilsl, .nilsl, .nilsl, .bool false, .int .i64 0, .int .i64 0, .int .i64 0]
/- widgetry/widgetryref38.Export -/
def S10.r0 : List AOpr := [
  q 7 (.box (x 0)),
  q 11 (.box (x 4)),
  q 14 (.new [.nilsl, .int .i64 0])]
def S10.r1 : List AOpr := [
  q 26 (.ldn 3 (x 7)),
  q 27 (.mov (x 1)),
  q 28 (.call (.const (.func (.func 14) [] [])) [.tmp 26, .tmp 27]),
  q 15 (.new S10.z0),
  ⟨none, .st 9 (x 15) (x 28), none⟩]
def S10.r2 : List AOpr := [
  q 29 (.ldn 3 (x 7)),
  q 30 (.mov (x 1)),
  q 31 (.call (.const (.func (.func 15) [] [])) [.tmp 29, .tmp 30]),
  q 16 (.mov (x 31))]
def S10.r3 : List AOpr := [
  q 17 (.new [.nilsl, .int .i64 0])]
def S10.r4 : List AOpr := [
  q 18 (.mov (.const (.int .i64 0)))]
def S10.r5 : List AOpr := [
  q 32 (.mov (x 18)),
  q 33 (.fldA 8 (x 15)),
  q 34 (.ld1 (x 33)),
  q 35 (.len (x 34)),
  q 36 (.arith .lss (x 32) (x 35))]
def S10.r6 : List AOpr := [
  q 39 (.fldA 8 (x 15)),
  q 40 (.ld1 (x 39)),
  q 41 (.mov (x 18)),
  q 42 (.idxA 1 (x 40) (x 41)),
  q 43 (.ld1 (x 42)),
  q 19 (.mov (x 43))]
def S10.r7 : List AOpr := [
  q 45 (.ldn 3 (x 7)),
  q 46 (.mov (x 19)),
  q 47 (.call (.const (.func (.func 16) [] [])) [.tmp 45, .tmp 46]),
  q 44 (.mov (x 47)),
  q 48 (.ext (x 44) 0),
  q 49 (.ext (x 44) 1),
  q 20 (.new S10.z1),
  ⟨none, .st 7 (x 20) (x 48), none⟩,
  q 21 (.mov (x 49))]
def S10.r8 : List (AOpr × Nat) := [
  (q 50 (.mov (x 19)), 0),
  (q 51 (.ldn 9 (x 15)), 0),
  (q 52 (.mov (x 19)), 0),
  (q 53 (.call (.const (.func (.func 17) [] [])) [.tmp 51, .tmp 52]), 6),
  (q 54 (.ldn 3 (x 7)), 0),
  (q 55 (.mov (x 19)), 0),
  (q 56 (.call (.const (.func (.func 18) [] [])) [.tmp 54, .tmp 55]), 62),
  (q 57 (.fldA 0 (x 15)), 0),
  (q 58 (.ldn 6 (x 57)), 128),
  (q 59 (.mov (x 16)), 0),
  (q 60 (.mov (x 19)), 0),
  (q 61 (.call (.const (.func (.func 19) [] [])) [.tmp 58, .tmp 59, .tmp 60]), 2046),
  (q 62 (.fldA 0 (x 15)), 0),
  (q 63 (.ldn 6 (x 62)), 4096),
  (q 64 (.mov (x 16)), 0),
  (q 65 (.mov (x 19)), 0),
  (q 66 (.call (.const (.func (.func 20) [] [])) [.tmp 63, .tmp 64, .tmp 65]), 65534),
  (q 67 (.build S10.z2 [(0, 1, .tmp 50), (1, 1, .tmp 53), (2, 1, .tmp 56), (3, 1, .tmp 61), (4, 1, .tmp 66)]), 131071),
  (q 22 (.new S10.z2), 0),
  (⟨none, .st 22 (x 22) (x 67), none⟩, 524287)]
def S10.r9 : List (AOpr × Nat) := [
  (q 68 (.ldn 9 (x 15)), 0),
  (q 69 (.mov (x 2)), 0),
  (q 70 (.mov (x 3)), 0),
  (q 71 (.ldn 2 (x 11)), 0),
  (q 72 (.mov (x 6)), 0),
  (q 73 (.mov (x 19)), 0),
  (q 74 (.call (.const (.func (.func 21) [] [])) [.tmp 68, .tmp 69, .tmp 70, .tmp 71, .tmp 72, .tmp 73]), 63),
  (q 75 (.ldn 9 (x 15)), 0),
  (q 76 (.mov (x 2)), 0),
  (q 77 (.mov (x 3)), 0),
  (q 78 (.mov (x 19)), 0),
  (q 79 (.call (.const (.func (.func 22) [] [])) [.tmp 75, .tmp 76, .tmp 77, .tmp 78]), 2047),
  (q 80 (.fldA 6 (x 22)), 127),
  (⟨none, .st 1 (x 80) (x 74), none⟩, 8191),
  (q 81 (.fldA 7 (x 22)), 16383),
  (⟨none, .st 1 (x 81) (x 79), none⟩, 32767)]
def S10.r10 : List (AOpr × Nat) := [
  (q 82 (.ldn 7 (x 20)), 0),
  (q 83 (.fldA 2 (x 22)), 0),
  (q 84 (.ld1 (x 83)), 2),
  (q 85 (.call (.const (.func (.func 23) [] [])) [.tmp 82, .tmp 84]), 7),
  (q 86 (.ldn 3 (x 7)), 0),
  (q 87 (.mov (x 1)), 0),
  (q 88 (.mov (x 2)), 0),
  (q 89 (.mov (x 3)), 0),
  (q 90 (.mov (x 19)), 0),
  (q 91 (.call (.const (.func (.func 24) [] [])) [.tmp 86, .tmp 87, .tmp 88, .tmp 89, .tmp 90]), 511),
  (q 92 (.ldn 9 (x 15)), 0),
  (q 93 (.mov (x 19)), 0),
  (q 94 (.call (.const (.func (.func 25) [] [])) [.tmp 92, .tmp 93]), 4095),
  (q 95 (.fldA 12 (x 22)), 15),
  (⟨none, .st 1 (x 95) (x 85), none⟩, 16383),
  (q 96 (.fldA 13 (x 22)), 32767),
  (⟨none, .st 4 (x 96) (x 91), none⟩, 65535),
  (q 97 (.fldA 20 (x 22)), 131071),
  (⟨none, .st 1 (x 97) (x 94), none⟩, 262143)]
def S10.r11 : List AOpr := [
  q 98 (.fldA 2 (x 22)),
  q 99 (.ld1 (x 98)),
  q 100 (.arith .eql (x 99) (.const (.int .i64 10)))]
def S10.r12 : List AOpr := [
  q 101 (.fldA 4 (x 20)),
  q 102 (.ld1 (x 101)),
  q 103 (.call (.const (.func (.func 26) [] [])) [.tmp 102, .const (.str [108, 101, 118, 101, 108]), .const (.int .i64 1)]),
  q 104 (.mnmx false (.const (.int .i64 6)) (x 103)),
  q 105 (.mnmx true (.const (.int .i64 1)) (x 104)),
  q 106 (.fldA 8 (x 22)),
  ⟨none, .st 1 (x 106) (x 105), none⟩]
def S10.r13 : List AOpr := [
  q 107 (.fldA 2 (x 20)),
  q 108 (.ld1 (x 107))]
def S10.r14 : List AOpr := [
  q 110 (.arith .eql (x 108) (.const (.int .i64 13))),
  q 109 (.mov (x 110))]
def S10.r15 : List (AOpr × Nat) := [
  (q 111 (.fldA 4 (x 20)), 0),
  (q 112 (.ld1 (x 111)), 1),
  (q 113 (.call (.const (.func (.func 26) [] [])) [.tmp 112, .const (.str [118, 97, 108, 117, 101]), .const (.int .i64 0)]), 3),
  (q 114 (.fldA 4 (x 20)), 0),
  (q 115 (.ld1 (x 114)), 8),
  (q 116 (.call (.const (.func (.func 26) [] [])) [.tmp 115, .const (.str [108, 101, 97, 115, 116]), .const (.int .i64 0)]), 31),
  (q 117 (.fldA 4 (x 20)), 0),
  (q 118 (.ld1 (x 117)), 64),
  (q 119 (.call (.const (.func (.func 26) [] [])) [.tmp 118, .const (.str [109, 111, 115, 116]), .const (.int .i64 100)]), 255),
  (q 120 (.fldA 9 (x 22)), 7),
  (⟨none, .st 1 (x 120) (x 113), none⟩, 1023),
  (q 121 (.fldA 10 (x 22)), 2047),
  (⟨none, .st 1 (x 121) (x 116), none⟩, 4095),
  (q 122 (.fldA 11 (x 22)), 8191),
  (⟨none, .st 1 (x 122) (x 119), none⟩, 16383)]
def S10.r16 : List AOpr := [
  q 123 (.fldA 9 (x 22)),
  q 124 (.ld1 (x 123)),
  q 125 (.call (.const (.func (.func 27) [] [])) [.tmp 124]),
  q 126 (.fldA 5 (x 22)),
  ⟨none, .st 1 (x 126) (x 125), none⟩]
def S10.r17 : List AOpr := [
  q 128 (.arith .eql (x 108) (.const (.int .i64 4))),
  q 127 (.mov (x 128))]
def S10.r18 : List AOpr := [
  q 129 (.fldA 4 (x 20)),
  q 130 (.ld1 (x 129)),
  q 131 (.call (.const (.func (.func 28) [] [])) [.tmp 130, .const (.str [116, 101, 120, 116])]),
  q 132 (.fldA 5 (x 22)),
  ⟨none, .st 1 (x 132) (x 131), none⟩]
def S10.r19 : List AOpr := [
  q 134 (.mov (x 5)),
  q 135 (.mov (x 19)),
  q 136 (.call (.const (.func (.func 29) [] [])) [.tmp 134, .tmp 135]),
  q 133 (.mov (x 136)),
  q 137 (.ext (x 133) 0),
  q 138 (.ext (x 133) 1),
  q 23 (.new S10.z3),
  ⟨none, .st 19 (x 23) (x 137), none⟩,
  q 24 (.mov (x 138))]
def S10.r20 : List AOpr := [
  q 139 (.mov (x 24))]
def S10.r21 : List (AOpr × Nat) := [
  (q 140 (.fldA 0 (x 23)), 0),
  (q 141 (.fldA 0 (x 140)), 1),
  (q 142 (.ld1 (x 141)), 3),
  (q 143 (.xo .r2s [.tmp 142]), 7),
  (q 144 (.fldA 2 (x 23)), 0),
  (q 145 (.ldn 3 (x 144)), 16),
  (q 146 (.fldA 5 (x 22)), 15),
  (⟨none, .st 1 (x 146) (x 143), none⟩, 79),
  (q 147 (.fldA 17 (x 22)), 255),
  (⟨none, .st 3 (x 147) (x 145), none⟩, 511)]
def S10.r22 : List AOpr := [
  q 25 (.mov (.const (.int .i64 0)))]
def S10.r23 : List AOpr := [
  q 148 (.mov (x 25)),
  q 149 (.fldA 8 (x 15)),
  q 150 (.ld1 (x 149)),
  q 151 (.len (x 150)),
  q 152 (.arith .lss (x 148) (x 151))]
def S10.r24 : List (AOpr × Nat) := [
  (q 155 (.ldn 9 (x 15)), 0),
  (q 156 (.fldA 8 (x 15)), 0),
  (q 157 (.ld1 (x 156)), 2),
  (q 158 (.mov (x 25)), 0),
  (q 159 (.idxA 1 (x 157) (x 158)), 14),
  (q 160 (.ld1 (x 159)), 30),
  (q 161 (.call (.const (.func (.func 17) [] [])) [.tmp 155, .tmp 160]), 63),
  (q 162 (.mov (x 19)), 0),
  (q 163 (.arith .eql (x 161) (x 162)), 255)]
def S10.r25 : List (AOpr × Nat) := [
  (q 164 (.fldA 21 (x 22)), 0),
  (q 165 (.ld1 (x 164)), 1),
  (q 166 (.fldA 8 (x 15)), 0),
  (q 167 (.ld1 (x 166)), 4),
  (q 168 (.mov (x 25)), 0),
  (q 169 (.idxA 1 (x 167) (x 168)), 28),
  (q 170 (.ld1 (x 169)), 60),
  (q 171 (.buildSl 1 1 [.int .i64 0] [(0, 1, .tmp 170)]), 124),
  (q 172 (.app 1 8 (x 165) (x 171)), 255),
  (q 173 (.fldA 21 (x 22)), 511),
  (⟨none, .st 1 (x 173) (x 172), none⟩, 1023)]
def S10.r26 : List AOpr := [
  q 153 (.mov (x 25)),
  q 154 (.arith .add (x 153) (.const (.int .i64 1))),
  q 25 (.mov (x 154))]
def S10.r27 : List AOpr := [
  q 174 (.fldA 0 (x 17)),
  q 175 (.ld1 (x 174)),
  q 176 (.ldn 22 (x 22)),
  q 177 (.buildSl 22 1 S10.z2 [(0, 22, .tmp 176)]),
  q 178 (.app 22 232 (x 175) (x 177)),
  q 179 (.fldA 0 (x 17)),
  ⟨none, .st 1 (x 179) (x 178), none⟩]
def S10.r28 : List AOpr := [
  q 37 (.mov (x 18)),
  q 38 (.arith .add (x 37) (.const (.int .i64 1))),
  q 18 (.mov (x 38))]
def S10.r29 : List AOpr := [
  q 180 (.fldA 8 (x 15)),
  q 181 (.ld1 (x 180)),
  q 182 (.mov (x 6)),
  q 183 (.call (.const (.func (.func 30) [] [])) [.tmp 181, .tmp 182])]
def S10.r30 : List AOpr := [
  q 184 (.mov (x 6)),
  q 185 (.fldA 1 (x 17)),
  ⟨none, .st 1 (x 185) (x 184), none⟩]
def S10.r31 : List AOpr := [
  q 186 (.mov (x 6)),
  q 187 (.arith .neq (x 186) (.const (.int .i64 0)))]
def S10.r32 : List AOpr := [
  q 188 (.ldn 9 (x 15)),
  q 189 (.mov (x 6)),
  q 190 (.call (.const (.func (.func 17) [] [])) [.tmp 188, .tmp 189]),
  q 191 (.fldA 1 (x 17)),
  ⟨none, .st 1 (x 191) (x 190), none⟩]
def S10.r33 : List AOpr := [
  q 192 (.ldn 2 (x 17)),
  ⟨none, .st 2 (x 14) (x 192), none⟩]
def S10 : SFn := ⟨193, [.cell 14 (some 2)], .seq (.reg S10.r0) (.seq (.reg S10.r1) (.seq (.reg S10.r2) (.seq (.reg S10.r3) (.seq (.seq (.reg S10.r4) (.block 0 (.loop [1, 2, 3, 5, 6, 7, 11, 14, 15, 16, 17, 18] [6, 14, 15, 17] (.seq (.seq (.reg S10.r5) (.cond (x 36) (.skip) (.exit 0))) (.seq (.block 1 (.seq (.reg S10.r6) (.seq (.reg S10.r7) (.seq (.draw S10.r8) (.seq (.draw S10.r9) (.seq (.draw S10.r10) (.seq (.seq (.reg S10.r11) (.joinN [1, 2, 3, 5, 6, 7, 11, 14, 15, 16, 17, 18, 19, 20, 22] (.cond (x 100) (.reg S10.r12) (.skip)))) (.seq (.seq (.reg S10.r13) (.joinN [1, 2, 3, 5, 6, 7, 11, 14, 15, 16, 17, 18, 19, 22] (.block 2 (.seq (.reg S10.r14) (.cond (x 109) (.seq (.draw S10.r15) (.reg S10.r16)) (.seq (.reg S10.r17) (.cond (x 127) (.seq (.reg S10.r18) (.seq (.reg S10.r19) (.seq (.reg S10.r20) (.cond (x 139) (.draw S10.r21) (.skip))))) (.skip)))))))) (.seq (.seq (.reg S10.r22) (.block 3 (.loop [1, 2, 3, 5, 6, 7, 11, 14, 15, 16, 17, 18, 19, 22, 25] [1, 2, 3, 5, 6, 7, 11, 14, 15, 16, 17, 18, 22] (.seq (.seq (.reg S10.r23) (.cond (x 152) (.skip) (.exit 3))) (.seq (.joinN [1, 2, 3, 5, 6, 7, 11, 14, 15, 16, 17, 18, 19, 22, 25] (.block 4 (.seq (.draw S10.r24) (.cond (x 163) (.draw S10.r25) (.skip))))) (.reg S10.r26)))))) (.reg S10.r27)))))))))) (.reg S10.r28)))))) (.seq (.seq (.reg S10.r29) (.joinN [14, 17] (.cond (x 183) (.reg S10.r30) (.seq (.reg S10.r31) (.cond (x 187) (.reg S10.r32) (.skip)))))) (.seq (.reg S10.r33) (.ret)))))))⟩
theorem S10_ok : EOk Tryz.prog 10 S10 := ⟨Tryz.f10, by kernel_rfl, by kernel_rfl, by decide, by kernel_rfl, its_nil (by kernel_rfl)⟩
def o10_a1 (cl : Handler) (N : Nat) (v1 v2 v3 v5 v6 v7 v11 v14 v15 v16 v17 v18 v19 v20 v22 v100 : AV) (h : AH) : Ans :=
  fif v100 (
  fst (kFldA h 4 v20) fun v101 h =>
  fst (kLd1 h v101) fun v102 h =>
  fst (cl 26 [v102, (.str [108, 101, 118, 101, 108]), (.int .i64 1)] h) fun v103 h =>
  fst (kMnmx h false (.int .i64 6) v103) fun v104 h =>
  fst (kMnmx h true (.int .i64 1) v104) fun v105 h =>
  fst (kFldA h 8 v22) fun v106 h =>
  fst (kSt h 1 v106 v105) fun _ h =>
  some (.nrm, [], [v1, v2, v3, v5, v6, v7, v11, v14, v15, v16, v17, v18, v19, v20, v22], h)) (
  some (.nrm, [], [v1, v2, v3, v5, v6, v7, v11, v14, v15, v16, v17, v18, v19, v20, v22], h))
def o10_s1 (cl : Handler) (N : Nat) (v1 v2 v3 v5 v6 v7 v11 v14 v15 v16 v17 v18 v19 v22 v125 v126 : AV) (h : AH) : Ans :=
  fst (kSt h 1 v126 v125) fun _ h =>
  some (.nrm, [], [v1, v2, v3, v5, v6, v7, v11, v14, v15, v16, v17, v18, v19, v22], h)
def o10_s2 (cl : Handler) (N : Nat) (c0 c1 c2 c3 c4 c5 c6 c7 c8 : Rec) (v1 v2 v3 v5 v6 v7 v11 v14 v15 v16 v17 v18 v19 v22 v113 v116 v119 : AV) (h : AH) : Ans :=
  fdp h (kFldA h 9 v22) .pure fun v120 c9 h =>
  fde h (kSt h 1 v120 v113) fun _ c10 h =>
  fdp h (kFldA h 10 v22) .pure fun v121 c11 h =>
  fde h (kSt h 1 v121 v116) fun _ c12 h =>
  fdp h (kFldA h 11 v22) .pure fun v122 c13 h =>
  fde h (kSt h 1 v122 v119) fun _ c14 h =>
  cond (fchk [c0, c1, c2, c3, c4, c5, c6, c7, c8, c9, c10, c11, c12, c13, c14] [(2, 4), (2, 7), (5, 7)]) (fst (kFldA h 9 v22) fun v123 h =>
  fst (kLd1 h v123) fun v124 h =>
  fst (cl 27 [v124] h) fun v125 h =>
  fst (kFldA h 5 v22) fun v126 h =>
  o10_s1 cl N v1 v2 v3 v5 v6 v7 v11 v14 v15 v16 v17 v18 v19 v22 v125 v126 h) none
def o10_s3 (cl : Handler) (N : Nat) (c0 c1 c2 c3 c4 c5 c6 c7 : Rec) (v1 v2 v3 v5 v6 v7 v11 v14 v15 v16 v17 v18 v19 v22 v145 : AV) (h : AH) : Ans :=
  fdp h (kFldA h 17 v22) .pure fun v147 c8 h =>
  fde h (kSt h 3 v147 v145) fun _ c9 h =>
  cond (fchk [c0, c1, c2, c3, c4, c5, c6, c7, c8, c9] [(3, 5), (5, 7)]) (some (.nrm, [], [v1, v2, v3, v5, v6, v7, v11, v14, v15, v16, v17, v18, v19, v22], h)) none
def o10_s4 (cl : Handler) (N : Nat) (v1 v2 v3 v5 v6 v7 v11 v14 v15 v16 v17 v18 v19 v22 v137 v138 : AV) (h : AH) : Ans :=
  fst (kNew h S10.z3) fun v23 h =>
  fst (kSt h 19 v23 v137) fun _ h =>
  fif v138 (
  fdr h 10 fun r h =>
  fdp h (kFldA h 0 v23) .pure fun v140 c0 h =>
  fdp h (kFldA h 0 v140) .pure fun v141 c1 h =>
  fdp h (kLd1 h v141) (rdK (rdv v141)) fun v142 c2 h =>
  fde h (kX h .r2s [v142]) fun v143 c3 h =>
  fdp h (kFldA h 2 v23) .pure fun v144 c4 h =>
  fdp h (kLdn h 3 v144) (rdK (rdv v144)) fun v145 c5 h =>
  fdp h (kFldA h 5 v22) .pure fun v146 c6 h =>
  fde h (kSt h 1 v146 v143) fun _ c7 h =>
  o10_s3 cl N c0 c1 c2 c3 c4 c5 c6 c7 v1 v2 v3 v5 v6 v7 v11 v14 v15 v16 v17 v18 v19 v22 v145 h) (
  some (.nrm, [], [v1, v2, v3, v5, v6, v7, v11, v14, v15, v16, v17, v18, v19, v22], h))
def o10_a2 (cl : Handler) (N : Nat) (v1 v2 v3 v5 v6 v7 v11 v14 v15 v16 v17 v18 v19 v20 v22 v108 : AV) (h : AH) : Ans :=
  fst (kArith h .eql v108 (.int .i64 13)) fun v110 h =>
  fif v110 (
  fdr h 15 fun r h =>
  fdp h (kFldA h 4 v20) .pure fun v111 c0 h =>
  fdp h (kLd1 h v111) (rdK (rdv v111)) fun v112 c1 h =>
  fde h (cl 26 [v112, (.str [118, 97, 108, 117, 101]), (.int .i64 0)] h) fun v113 c2 h =>
  fdp h (kFldA h 4 v20) .pure fun v114 c3 h =>
  fdp h (kLd1 h v114) (rdK (rdv v114)) fun v115 c4 h =>
  fde h (cl 26 [v115, (.str [108, 101, 97, 115, 116]), (.int .i64 0)] h) fun v116 c5 h =>
  fdp h (kFldA h 4 v20) .pure fun v117 c6 h =>
  fdp h (kLd1 h v117) (rdK (rdv v117)) fun v118 c7 h =>
  fde h (cl 26 [v118, (.str [109, 111, 115, 116]), (.int .i64 100)] h) fun v119 c8 h =>
  o10_s2 cl N c0 c1 c2 c3 c4 c5 c6 c7 c8 v1 v2 v3 v5 v6 v7 v11 v14 v15 v16 v17 v18 v19 v22 v113 v116 v119 h) (
  fst (kArith h .eql v108 (.int .i64 4)) fun v128 h =>
  fif v128 (
  fst (kFldA h 4 v20) fun v129 h =>
  fst (kLd1 h v129) fun v130 h =>
  fst (cl 28 [v130, (.str [116, 101, 120, 116])] h) fun v131 h =>
  fst (kFldA h 5 v22) fun v132 h =>
  fst (kSt h 1 v132 v131) fun _ h =>
  fst (cl 29 [v5, v19] h) fun v136 h =>
  fst (kExt h v136 0) fun v137 h =>
  fst (kExt h v136 1) fun v138 h =>
  o10_s4 cl N v1 v2 v3 v5 v6 v7 v11 v14 v15 v16 v17 v18 v19 v22 v137 v138 h) (
  some (.nrm, [], [v1, v2, v3, v5, v6, v7, v11, v14, v15, v16, v17, v18, v19, v22], h)))
def o10_s5 (cl : Handler) (N : Nat) (r : Nat) (c0 : Rec) (v1 v2 v3 v5 v6 v7 v11 v14 v15 v16 v17 v18 v19 v22 v25 v164 : AV) (h : AH) : Ans :=
  fdp h (kLd1 h v164) (rdK (rdv v164)) fun v165 c1 h =>
  fdp h (kFldA h 8 v15) .pure fun v166 c2 h =>
  fdp h (kLd1 h v166) (rdK (rdv v166)) fun v167 c3 h =>
  fdp h (kMov h v25) .pure fun v168 c4 h =>
  fdp h (kIdxA h 1 v167 v168) .pure fun v169 c5 h =>
  fdp h (kLd1 h v169) (rdK (rdv v169)) fun v170 c6 h =>
  fda (r + 7) h (alBuildSl 1 1 [.int .i64 0] [(0, 1, v170)]) fun v171 c7 h =>
  fde h (kApp h 1 8 v165 v171) fun v172 c8 h =>
  fdp h (kFldA h 21 v22) .pure fun v173 c9 h =>
  fde h (kSt h 1 v173 v172) fun _ c10 h =>
  cond (fchk [c0, c1, c2, c3, c4, c5, c6, c7, c8, c9, c10] [(1, 7)]) (some (.nrm, [], [v1, v2, v3, v5, v6, v7, v11, v14, v15, v16, v17, v18, v19, v22, v25], h)) none
def o10_a3 (cl : Handler) (N : Nat) (v1 v2 v3 v5 v6 v7 v11 v14 v15 v16 v17 v18 v19 v22 v25 : AV) (h : AH) : Ans :=
  fdr h 9 fun r h =>
  fdp h (kLdn h 9 v15) (rdK (rdv v15)) fun v155 c0 h =>
  fdp h (kFldA h 8 v15) .pure fun v156 c1 h =>
  fdp h (kLd1 h v156) (rdK (rdv v156)) fun v157 c2 h =>
  fdp h (kMov h v25) .pure fun v158 c3 h =>
  fdp h (kIdxA h 1 v157 v158) .pure fun v159 c4 h =>
  fdp h (kLd1 h v159) (rdK (rdv v159)) fun v160 c5 h =>
  fde h (cl 17 [v155, v160] h) fun v161 c6 h =>
  fdp h (kMov h v19) .pure fun v162 c7 h =>
  fdp h (kArith h .eql v161 v162) .pure fun v163 c8 h =>
  cond (fchk [c0, c1, c2, c3, c4, c5, c6, c7, c8] []) (fif v163 (
  fdr h 11 fun r h =>
  fdp h (kFldA h 21 v22) .pure fun v164 c0 h =>
  o10_s5 cl N r c0 v1 v2 v3 v5 v6 v7 v11 v14 v15 v16 v17 v18 v19 v22 v25 v164 h) (
  some (.nrm, [], [v1, v2, v3, v5, v6, v7, v11, v14, v15, v16, v17, v18, v19, v22, v25], h))) none
def o10_j4 (cl : Handler) (N : Nat) (v1 v2 v3 v5 v6 v7 v11 v14 v15 v16 v17 v18 v19 v22 v25 : AV) (h : AH) : Ans :=
  fst (kArith h .add v25 (.int .i64 1)) fun v154 h =>
  some (.nrm, [v1, v2, v3, v5, v6, v7, v11, v14, v15, v16, v17, v18, v19, v22, v154], [v1, v2, v3, v5, v6, v7, v11, v14, v15, v16, v17, v18, v22], h)
def o10_l5 (cl : Handler) (N : Nat) (v1 v2 v3 v5 v6 v7 v11 v14 v15 v16 v17 v18 v19 v22 v25 : AV) (h : AH) : Ans :=
  fst (kFldA h 8 v15) fun v149 h =>
  fst (kLd1 h v149) fun v150 h =>
  fst (kLen h v150) fun v151 h =>
  fst (kArith h .lss v25 v151) fun v152 h =>
  fif v152 (
  fjn (o10_a3 cl N v1 v2 v3 v5 v6 v7 v11 v14 v15 v16 v17 v18 v19 v22 v25 h) fun _ vs h => o10_j4 cl N (nthD vs 0) (nthD vs 1) (nthD vs 2) (nthD vs 3) (nthD vs 4) (nthD vs 5) (nthD vs 6) (nthD vs 7) (nthD vs 8) (nthD vs 9) (nthD vs 10) (nthD vs 11) (nthD vs 12) (nthD vs 13) (nthD vs 14) h) (
  some ((.exit 3), [v1, v2, v3, v5, v6, v7, v11, v14, v15, v16, v17, v18, v19, v22, v25], [v1, v2, v3, v5, v6, v7, v11, v14, v15, v16, v17, v18, v22], h))
def o10_c6 (cl : Handler) (N : Nat) (v1 v2 v3 v5 v6 v7 v11 v14 v15 v16 v17 v18 v22 : AV) (h : AH) : Ans :=
  fst (kFldA h 0 v17) fun v174 h =>
  fst (kLd1 h v174) fun v175 h =>
  fst (kLdn h 22 v22) fun v176 h =>
  fst (kBuildSl h 22 1 S10.z2 [(0, 22, v176)]) fun v177 h =>
  fst (kApp h 22 232 v175 v177) fun v178 h =>
  fst (kFldA h 0 v17) fun v179 h =>
  fst (kSt h 1 v179 v178) fun _ h =>
  fst (kArith h .add v18 (.int .i64 1)) fun v38 h =>
  some (.nrm, [v1, v2, v3, v5, v6, v7, v11, v14, v15, v16, v17, v38], [v6, v14, v15, v17], h)
def o10_j7 (cl : Handler) (N : Nat) (x : AX) (v1 v2 v3 v5 v6 v7 v11 v14 v15 v16 v17 v18 v22 : AV) (h : AH) : Ans :=
  fxs x (o10_c6 cl N v1 v2 v3 v5 v6 v7 v11 v14 v15 v16 v17 v18 v22 h) (fun j => cond (Nat.beq j 3) (o10_c6 cl N v1 v2 v3 v5 v6 v7 v11 v14 v15 v16 v17 v18 v22 h) (cond (Nat.beq j 1) (fst (kArith h .add v18 (.int .i64 1)) fun v38 h =>
  some (.nrm, [v1, v2, v3, v5, v6, v7, v11, v14, v15, v16, v17, v38], [v6, v14, v15, v17], h)) (some ((.exit j), [v1, v2, v3, v5, v6, v7, v11, v14, v15, v16, v17, v18], [v6, v14, v15, v17], h)))) (some (.ret, [v1, v2, v3, v5, v6, v7, v11, v14, v15, v16, v17, v18], [v6, v14, v15, v17], h))
def o10_j8 (cl : Handler) (N : Nat) (v1 v2 v3 v5 v6 v7 v11 v14 v15 v16 v17 v18 v19 v22 : AV) (h : AH) : Ans :=
  fjn (fiter (fun vs h => o10_l5 cl N (nthD vs 0) (nthD vs 1) (nthD vs 2) (nthD vs 3) (nthD vs 4) (nthD vs 5) (nthD vs 6) (nthD vs 7) (nthD vs 8) (nthD vs 9) (nthD vs 10) (nthD vs 11) (nthD vs 12) (nthD vs 13) (nthD vs 14) h) N [v1, v2, v3, v5, v6, v7, v11, v14, v15, v16, v17, v18, v19, v22, (.int .i64 0)] h) fun x vs h => o10_j7 cl N x (nthD vs 0) (nthD vs 1) (nthD vs 2) (nthD vs 3) (nthD vs 4) (nthD vs 5) (nthD vs 6) (nthD vs 7) (nthD vs 8) (nthD vs 9) (nthD vs 10) (nthD vs 11) (nthD vs 12) h
def o10_j9 (cl : Handler) (N : Nat) (v1 v2 v3 v5 v6 v7 v11 v14 v15 v16 v17 v18 v19 v20 v22 : AV) (h : AH) : Ans :=
  fst (kFldA h 2 v20) fun v107 h =>
  fst (kLd1 h v107) fun v108 h =>
  fjn (o10_a2 cl N v1 v2 v3 v5 v6 v7 v11 v14 v15 v16 v17 v18 v19 v20 v22 v108 h) fun _ vs h => o10_j8 cl N (nthD vs 0) (nthD vs 1) (nthD vs 2) (nthD vs 3) (nthD vs 4) (nthD vs 5) (nthD vs 6) (nthD vs 7) (nthD vs 8) (nthD vs 9) (nthD vs 10) (nthD vs 11) (nthD vs 12) (nthD vs 13) h
def o10_s6 (cl : Handler) (N : Nat) (v1 v2 v3 v5 v6 v7 v11 v14 v15 v16 v17 v18 v19 v20 v22 v98 : AV) (h : AH) : Ans :=
  fst (kLd1 h v98) fun v99 h =>
  fst (kArith h .eql v99 (.int .i64 10)) fun v100 h =>
  fjn (o10_a1 cl N v1 v2 v3 v5 v6 v7 v11 v14 v15 v16 v17 v18 v19 v20 v22 v100 h) fun _ vs h => o10_j9 cl N (nthD vs 0) (nthD vs 1) (nthD vs 2) (nthD vs 3) (nthD vs 4) (nthD vs 5) (nthD vs 6) (nthD vs 7) (nthD vs 8) (nthD vs 9) (nthD vs 10) (nthD vs 11) (nthD vs 12) (nthD vs 13) (nthD vs 14) h
def o10_s7 (cl : Handler) (N : Nat) (c0 c1 c2 c3 c4 c5 c6 c7 c8 c9 : Rec) (v1 v2 v3 v5 v6 v7 v11 v14 v15 v16 v17 v18 v19 v20 v22 v85 v91 : AV) (h : AH) : Ans :=
  fdp h (kLdn h 9 v15) (rdK (rdv v15)) fun v92 c10 h =>
  fdp h (kMov h v19) .pure fun v93 c11 h =>
  fde h (cl 25 [v92, v93] h) fun v94 c12 h =>
  fdp h (kFldA h 12 v22) .pure fun v95 c13 h =>
  fde h (kSt h 1 v95 v85) fun _ c14 h =>
  fdp h (kFldA h 13 v22) .pure fun v96 c15 h =>
  fde h (kSt h 4 v96 v91) fun _ c16 h =>
  fdp h (kFldA h 20 v22) .pure fun v97 c17 h =>
  fde h (kSt h 1 v97 v94) fun _ c18 h =>
  cond (fchk [c0, c1, c2, c3, c4, c5, c6, c7, c8, c9, c10, c11, c12, c13, c14, c15, c16, c17, c18] [(3, 4), (3, 10), (9, 10)]) (fst (kFldA h 2 v22) fun v98 h =>
  o10_s6 cl N v1 v2 v3 v5 v6 v7 v11 v14 v15 v16 v17 v18 v19 v20 v22 v98 h) none
def o10_s8 (cl : Handler) (N : Nat) (v1 v2 v3 v5 v6 v7 v11 v14 v15 v16 v17 v18 v19 v20 v22 : AV) (h : AH) : Ans :=
  fdp h (kLdn h 7 v20) (rdK (rdv v20)) fun v82 c0 h =>
  fdp h (kFldA h 2 v22) .pure fun v83 c1 h =>
  fdp h (kLd1 h v83) (rdK (rdv v83)) fun v84 c2 h =>
  fde h (cl 23 [v82, v84] h) fun v85 c3 h =>
  fdp h (kLdn h 3 v7) (rdK (rdv v7)) fun v86 c4 h =>
  fdp h (kMov h v1) .pure fun v87 c5 h =>
  fdp h (kMov h v2) .pure fun v88 c6 h =>
  fdp h (kMov h v3) .pure fun v89 c7 h =>
  fdp h (kMov h v19) .pure fun v90 c8 h =>
  fde h (cl 24 [v86, v87, v88, v89, v90] h) fun v91 c9 h =>
  o10_s7 cl N c0 c1 c2 c3 c4 c5 c6 c7 c8 c9 v1 v2 v3 v5 v6 v7 v11 v14 v15 v16 v17 v18 v19 v20 v22 v85 v91 h
def o10_s9 (cl : Handler) (N : Nat) (r : Nat) (c0 c1 c2 c3 c4 c5 : Rec) (v1 v2 v3 v5 v6 v7 v11 v14 v15 v16 v17 v18 v19 v20 v22 v68 v69 v70 v71 v72 v73 : AV) (h : AH) : Ans :=
  fde h (cl 21 [v68, v69, v70, v71, v72, v73] h) fun v74 c6 h =>
  fdp h (kLdn h 9 v15) (rdK (rdv v15)) fun v75 c7 h =>
  fdp h (kMov h v2) .pure fun v76 c8 h =>
  fdp h (kMov h v3) .pure fun v77 c9 h =>
  fdp h (kMov h v19) .pure fun v78 c10 h =>
  fde h (cl 22 [v75, v76, v77, v78] h) fun v79 c11 h =>
  fdp h (kFldA h 6 v22) .pure fun v80 c12 h =>
  fde h (kSt h 1 v80 v74) fun _ c13 h =>
  fdp h (kFldA h 7 v22) .pure fun v81 c14 h =>
  fde h (kSt h 1 v81 v79) fun _ c15 h =>
  cond (fchk [c0, c1, c2, c3, c4, c5, c6, c7, c8, c9, c10, c11, c12, c13, c14, c15] [(6, 7)]) (fdr h 19 fun r h =>
  o10_s8 cl N v1 v2 v3 v5 v6 v7 v11 v14 v15 v16 v17 v18 v19 v20 v22 h) none
def o10_s10 (cl : Handler) (N : Nat) (r : Nat) (c0 c1 c2 c3 c4 c5 c6 c7 c8 c9 c10 c11 c12 c13 c14 c15 : Rec) (v1 v2 v3 v5 v6 v7 v11 v14 v15 v16 v17 v18 v19 v20 v50 v53 v56 v61 v63 v64 v65 : AV) (h : AH) : Ans :=
  fde h (cl 20 [v63, v64, v65] h) fun v66 c16 h =>
  fdp h (kBuild h S10.z2 [(0, 1, v50), (1, 1, v53), (2, 1, v56), (3, 1, v61), (4, 1, v66)]) .pure fun v67 c17 h =>
  fda (r + 18) h (alNew S10.z2) fun v22 c18 h =>
  fde h (kSt h 22 v22 v67) fun _ c19 h =>
  cond (fchk [c0, c1, c2, c3, c4, c5, c6, c7, c8, c9, c10, c11, c12, c13, c14, c15, c16, c17, c18, c19] [(3, 4), (3, 8), (6, 8), (3, 13), (6, 13), (11, 13), (1, 18), (4, 18), (8, 18), (13, 18)]) (fdr h 16 fun r h =>
  fdp h (kLdn h 9 v15) (rdK (rdv v15)) fun v68 c0 h =>
  fdp h (kMov h v2) .pure fun v69 c1 h =>
  fdp h (kMov h v3) .pure fun v70 c2 h =>
  fdp h (kLdn h 2 v11) (rdK (rdv v11)) fun v71 c3 h =>
  fdp h (kMov h v6) .pure fun v72 c4 h =>
  fdp h (kMov h v19) .pure fun v73 c5 h =>
  o10_s9 cl N r c0 c1 c2 c3 c4 c5 v1 v2 v3 v5 v6 v7 v11 v14 v15 v16 v17 v18 v19 v20 v22 v68 v69 v70 v71 v72 v73 h) none
def o10_s11 (cl : Handler) (N : Nat) (r : Nat) (c0 c1 c2 c3 c4 c5 : Rec) (v1 v2 v3 v5 v6 v7 v11 v14 v15 v16 v17 v18 v19 v20 v50 v53 v54 v55 : AV) (h : AH) : Ans :=
  fde h (cl 18 [v54, v55] h) fun v56 c6 h =>
  fdp h (kFldA h 0 v15) .pure fun v57 c7 h =>
  fdp h (kLdn h 6 v57) (rdK (rdv v57)) fun v58 c8 h =>
  fdp h (kMov h v16) .pure fun v59 c9 h =>
  fdp h (kMov h v19) .pure fun v60 c10 h =>
  fde h (cl 19 [v58, v59, v60] h) fun v61 c11 h =>
  fdp h (kFldA h 0 v15) .pure fun v62 c12 h =>
  fdp h (kLdn h 6 v62) (rdK (rdv v62)) fun v63 c13 h =>
  fdp h (kMov h v16) .pure fun v64 c14 h =>
  fdp h (kMov h v19) .pure fun v65 c15 h =>
  o10_s10 cl N r c0 c1 c2 c3 c4 c5 c6 c7 c8 c9 c10 c11 c12 c13 c14 c15 v1 v2 v3 v5 v6 v7 v11 v14 v15 v16 v17 v18 v19 v20 v50 v53 v56 v61 v63 v64 v65 h
def o10_s12 (cl : Handler) (N : Nat) (v1 v2 v3 v5 v6 v7 v11 v14 v15 v16 v17 v18 v19 v47 : AV) (h : AH) : Ans :=
  fst (kExt h v47 0) fun v48 h =>
  fst (kExt h v47 1) fun v49 h =>
  fst (kNew h S10.z1) fun v20 h =>
  fst (kSt h 7 v20 v48) fun _ h =>
  fdr h 20 fun r h =>
  fdp h (kMov h v19) .pure fun v50 c0 h =>
  fdp h (kLdn h 9 v15) (rdK (rdv v15)) fun v51 c1 h =>
  fdp h (kMov h v19) .pure fun v52 c2 h =>
  fde h (cl 17 [v51, v52] h) fun v53 c3 h =>
  fdp h (kLdn h 3 v7) (rdK (rdv v7)) fun v54 c4 h =>
  fdp h (kMov h v19) .pure fun v55 c5 h =>
  o10_s11 cl N r c0 c1 c2 c3 c4 c5 v1 v2 v3 v5 v6 v7 v11 v14 v15 v16 v17 v18 v19 v20 v50 v53 v54 v55 h
def o10_l10 (cl : Handler) (N : Nat) (v1 v2 v3 v5 v6 v7 v11 v14 v15 v16 v17 v18 : AV) (h : AH) : Ans :=
  fst (kFldA h 8 v15) fun v33 h =>
  fst (kLd1 h v33) fun v34 h =>
  fst (kLen h v34) fun v35 h =>
  fst (kArith h .lss v18 v35) fun v36 h =>
  fif v36 (
  fst (kFldA h 8 v15) fun v39 h =>
  fst (kLd1 h v39) fun v40 h =>
  fst (kIdxA h 1 v40 v18) fun v42 h =>
  fst (kLd1 h v42) fun v43 h =>
  fst (kLdn h 3 v7) fun v45 h =>
  fst (cl 16 [v45, v43] h) fun v47 h =>
  o10_s12 cl N v1 v2 v3 v5 v6 v7 v11 v14 v15 v16 v17 v18 v43 v47 h) (
  some ((.exit 0), [v1, v2, v3, v5, v6, v7, v11, v14, v15, v16, v17, v18], [v6, v14, v15, v17], h))
def o10_a11 (cl : Handler) (N : Nat) (v6 v14 v15 v17 v183 : AV) (h : AH) : Ans :=
  fif v183 (
  fst (kFldA h 1 v17) fun v185 h =>
  fst (kSt h 1 v185 v6) fun _ h =>
  some (.nrm, [], [v14, v17], h)) (
  fst (kArith h .neq v6 (.int .i64 0)) fun v187 h =>
  fif v187 (
  fst (kLdn h 9 v15) fun v188 h =>
  fst (cl 17 [v188, v6] h) fun v190 h =>
  fst (kFldA h 1 v17) fun v191 h =>
  fst (kSt h 1 v191 v190) fun _ h =>
  some (.nrm, [], [v14, v17], h)) (
  some (.nrm, [], [v14, v17], h)))
def o10_j12 (cl : Handler) (N : Nat) (v14 v17 : AV) (h : AH) : Ans :=
  fst (kLdn h 2 v17) fun v192 h =>
  fst (kSt h 2 v14 v192) fun _ h =>
  fres (aresV h [.cell (v14) (some 2)]) h
def o10_c13 (cl : Handler) (N : Nat) (v6 v14 v15 v17 : AV) (h : AH) : Ans :=
  fst (kFldA h 8 v15) fun v180 h =>
  fst (kLd1 h v180) fun v181 h =>
  fst (cl 30 [v181, v6] h) fun v183 h =>
  fjn (o10_a11 cl N v6 v14 v15 v17 v183 h) fun _ vs h => o10_j12 cl N (nthD vs 0) (nthD vs 1) h
def o10_j14 (cl : Handler) (N : Nat) (x : AX) (v6 v14 v15 v17 : AV) (h : AH) : Ans :=
  fxs x (o10_c13 cl N v6 v14 v15 v17 h) (fun j => cond (Nat.beq j 0) (o10_c13 cl N v6 v14 v15 v17 h) (none)) (fres (aresV h [.cell (v14) (some 2)]) h)
def o10_s13 (cl : Handler) (N : Nat) (v1 v2 v3 v5 v6 v7 v11 v14 v15 v16 v17 : AV) (h : AH) : Ans :=
  fjn (fiter (fun vs h => o10_l10 cl N (nthD vs 0) (nthD vs 1) (nthD vs 2) (nthD vs 3) (nthD vs 4) (nthD vs 5) (nthD vs 6) (nthD vs 7) (nthD vs 8) (nthD vs 9) (nthD vs 10) (nthD vs 11) h) N [v1, v2, v3, v5, v6, v7, v11, v14, v15, v16, v17, (.int .i64 0)] h) fun x vs h => o10_j14 cl N x (nthD vs 0) (nthD vs 1) (nthD vs 2) (nthD vs 3) h
def o10 (cl : Handler) (N : Nat) (v0 v1 v2 v3 v4 v5 v6 : AV) (h : AH) : Ans :=
  fst (kBox h v0) fun v7 h =>
  fst (kBox h v4) fun v11 h =>
  fst (kNew h [.nilsl, .int .i64 0]) fun v14 h =>
  fst (kLdn h 3 v7) fun v26 h =>
  fst (cl 14 [v26, v1] h) fun v28 h =>
  fst (kNew h S10.z0) fun v15 h =>
  fst (kSt h 9 v15 v28) fun _ h =>
  fst (kLdn h 3 v7) fun v29 h =>
  fst (cl 15 [v29, v1] h) fun v31 h =>
  fst (kNew h [.nilsl, .int .i64 0]) fun v17 h =>
  o10_s13 cl N v1 v2 v3 v5 v6 v7 v11 v14 v15 v31 v17 h
theorem o10_eq (cl : Handler) (N : Nat) (v0 v1 v2 v3 v4 v5 v6 : AV) (h : AH) : frun cl N S10 [v0, v1, v2, v3, v4, v5, v6] h = fans (o10 cl N v0 v1 v2 v3 v4 v5 v6 h) := by kernel_rfl
def w10 (N : Nat) : OF := fun cl args h => match args with
  | [v0, v1, v2, v3, v4, v5, v6] => fans (o10 cl N v0 v1 v2 v3 v4 v5 v6 h)
  | _ => none
theorem w10_ok (N : Nat) : OkF Tryz.prog 10 (w10 N) := .of (N := N) (S10_ok) fun cl args h r hr => by
  unfold w10 at hr
  split at hr
  · exact (o10_eq cl N _ _ _ _ _ _ _ _).trans hr
  · cases hr

def S11.z0 : List AV := [.int .i64 0, .int .i64 0, .int .i64 0, .int .i64 0, .int .i64 0, .int .i64 0, .int .i64 0, .int .i64 0]
def S11.z1 : List AV := [.int .i64 0, .int .i64 0, .int .i64 0, .str [], .str [], .str [], .int .i64 0, .int .i64 0, .int .i64 0, .int .i64 0, .int .i64 0, .int .i64 0, .int .i64 0, .int .i64 0, .int .i64 0, .int .i64 0, .int .i64 0, .int .i64 0, .int .i64 0, .bool false, .nilsl, .nilsl]
/- widgetry/audit.Names -/
def S11.r0 : List AOpr := [
  q 1 (.box (x 0)),
  q 2 (.mov (.const (.nilsl)))]
def S11.r1 : List AOpr := [
  q 7 (.buildSl 1 8 S11.z0 [(0, 1, .const (.int .i64 4)), (1, 1, .const (.int .i64 5)), (2, 1, .const (.int .i64 6)), (3, 1, .const (.int .i64 7)), (4, 1, .const (.int .i64 8)), (5, 1, .const (.int .i64 10)), (6, 1, .const (.int .i64 13)), (7, 1, .const (.int .i64 14))]),
  q 3 (.mov (x 7))]
def S11.r2 : List AOpr := [
  q 4 (.mov (.const (.nilsl)))]
def S11.r3 : List AOpr := [
  q 8 (.fldA 9 (x 1)),
  q 9 (.fldA 0 (x 8)),
  q 10 (.ld1 (x 9)),
  q 11 (.len (x 10)),
  q 12 (.mov (.const (.int .i64 0)))]
def S11.r4 : List AOpr := [
  q 13 (.arith .lss (x 12) (x 11))]
def S11.r5 : List AOpr := [
  q 14 (.idxA 22 (x 10) (x 12)),
  q 15 (.ldn 22 (x 14)),
  q 6 (.new S11.z1),
  ⟨none, .st 22 (x 6) (x 15), none⟩]
def S11.r6 : List AOpr := [
  q 16 (.fldA 3 (x 6)),
  q 17 (.ld1 (x 16)),
  q 18 (.arith .eql (x 17) (.const (.str []))),
  q 19 (.mov (x 18)),
  ⟨some 20, .mov (x 3), some (19, true)⟩,
  ⟨some 21, .fldA 2 (x 6), some (19, true)⟩,
  ⟨some 22, .ld1 (x 21), some (19, true)⟩,
  ⟨some 23, .call (.const (.func (.func 31) [] [])) [.tmp 20, .tmp 22], some (19, true)⟩,
  q 24 (.pick (x 19) (x 23) (.const (.bool false)))]
def S11.r7 : List AOpr := [
  q 25 (.mov (x 4)),
  q 26 (.fldA 0 (x 6)),
  q 27 (.ld1 (x 26)),
  q 28 (.build [.int .i64 0, .int .i64 0, .int .i64 0] [(0, 1, .const (.int .i64 1)), (1, 1, .tmp 27)]),
  q 29 (.buildSl 3 1 [.int .i64 0, .int .i64 0, .int .i64 0] [(0, 3, .tmp 28)]),
  q 30 (.app 3 24 (x 25) (x 29)),
  q 4 (.mov (x 30))]
def S11.r8 : List AOpr := [
  q 31 (.arith .add (x 12) (.const (.int .i64 1))),
  q 12 (.mov (x 31))]
def S11.r9 : List AOpr := [
  q 32 (.mov (x 4)),
  q 2 (.mov (x 32))]
def S11 : SFn := ⟨33, [.tmp 2], .seq (.reg S11.r0) (.seq (.reg S11.r1) (.seq (.reg S11.r2) (.seq (.seq (.reg S11.r3) (.block 0 (.loop [3, 4, 10, 11, 12] [4] (.seq (.reg S11.r4) (.seq (.cond (x 13) (.skip) (.exit 0)) (.seq (.joinN [3, 4, 10, 11, 12] (.block 1 (.seq (.reg S11.r5) (.seq (.joinN [3, 4, 6, 10, 11, 12, 24] (.reg S11.r6)) (.cond (x 24) (.reg S11.r7) (.skip)))))) (.reg S11.r8))))))) (.seq (.reg S11.r9) (.ret)))))⟩
theorem S11_ok : EOk Tryz.prog 11 S11 := ⟨Tryz.f11, by kernel_rfl, by kernel_rfl, by decide, by kernel_rfl, its_nil (by kernel_rfl)⟩
def o11_a1 (cl : Handler) (N : Nat) (v3 v4 v6 v10 v11 v12 : AV) (h : AH) : Ans :=
  fst (kFldA h 3 v6) fun v16 h =>
  fst (kLd1 h v16) fun v17 h =>
  fst (kArith h .eql v17 (.str [])) fun v18 h =>
  fgd (gdv true v18) (kMov h v3) h fun v20 h =>
  fgd (gdv true v18) (kFldA h 2 v6) h fun v21 h =>
  fgd (gdv true v18) (kLd1 h v21) h fun v22 h =>
  fgd (gdv true v18) (cl 31 [v20, v22] h) h fun v23 h =>
  fst (kPick h v18 v23 (.bool false)) fun v24 h =>
  some (.nrm, [], [v3, v4, v6, v10, v11, v12, v24], h)
def o11_j2 (cl : Handler) (N : Nat) (v3 v4 v6 v10 v11 v12 v24 : AV) (h : AH) : Ans :=
  fif v24 (
  fst (kFldA h 0 v6) fun v26 h =>
  fst (kLd1 h v26) fun v27 h =>
  fst (kBuild h [.int .i64 0, .int .i64 0, .int .i64 0] [(0, 1, (.int .i64 1)), (1, 1, v27)]) fun v28 h =>
  fst (kBuildSl h 3 1 [.int .i64 0, .int .i64 0, .int .i64 0] [(0, 3, v28)]) fun v29 h =>
  fst (kApp h 3 24 v4 v29) fun v30 h =>
  some (.nrm, [], [v3, v30, v10, v11, v12], h)) (
  some (.nrm, [], [v3, v4, v10, v11, v12], h))
def o11_a3 (cl : Handler) (N : Nat) (v3 v4 v10 v11 v12 : AV) (h : AH) : Ans :=
  fst (kIdxA h 22 v10 v12) fun v14 h =>
  fst (kLdn h 22 v14) fun v15 h =>
  fst (kNew h S11.z1) fun v6 h =>
  fst (kSt h 22 v6 v15) fun _ h =>
  fjn (o11_a1 cl N v3 v4 v6 v10 v11 v12 h) fun _ vs h => o11_j2 cl N (nthD vs 0) (nthD vs 1) (nthD vs 2) (nthD vs 3) (nthD vs 4) (nthD vs 5) (nthD vs 6) h
def o11_j4 (cl : Handler) (N : Nat) (v3 v4 v10 v11 v12 : AV) (h : AH) : Ans :=
  fst (kArith h .add v12 (.int .i64 1)) fun v31 h =>
  some (.nrm, [v3, v4, v10, v11, v31], [v4], h)
def o11_l5 (cl : Handler) (N : Nat) (v3 v4 v10 v11 v12 : AV) (h : AH) : Ans :=
  fst (kArith h .lss v12 v11) fun v13 h =>
  fif v13 (
  fjn (o11_a3 cl N v3 v4 v10 v11 v12 h) fun _ vs h => o11_j4 cl N (nthD vs 0) (nthD vs 1) (nthD vs 2) (nthD vs 3) (nthD vs 4) h) (
  some ((.exit 0), [v3, v4, v10, v11, v12], [v4], h))
def o11_c6 (cl : Handler) (N : Nat) (v4 : AV) (h : AH) : Ans :=
  some (.nrm, [], [v4], h)
def o11_j7 (cl : Handler) (N : Nat) (x : AX) (v4 : AV) (h : AH) : Ans :=
  fxs x (o11_c6 cl N v4 h) (fun j => cond (Nat.beq j 0) (o11_c6 cl N v4 h) (none)) (some (.nrm, [], [.undef], h))
def o11 (cl : Handler) (N : Nat) (v0 : AV) (h : AH) : Ans :=
  fst (kBox h v0) fun v1 h =>
  fst (kBuildSl h 1 8 S11.z0 [(0, 1, (.int .i64 4)), (1, 1, (.int .i64 5)), (2, 1, (.int .i64 6)), (3, 1, (.int .i64 7)), (4, 1, (.int .i64 8)), (5, 1, (.int .i64 10)), (6, 1, (.int .i64 13)), (7, 1, (.int .i64 14))]) fun v7 h =>
  fst (kFldA h 9 v1) fun v8 h =>
  fst (kFldA h 0 v8) fun v9 h =>
  fst (kLd1 h v9) fun v10 h =>
  fst (kLen h v10) fun v11 h =>
  fjn (fiter (fun vs h => o11_l5 cl N (nthD vs 0) (nthD vs 1) (nthD vs 2) (nthD vs 3) (nthD vs 4) h) N [v7, (.nilsl), v10, v11, (.int .i64 0)] h) fun x vs h => o11_j7 cl N x (nthD vs 0) h
theorem o11_eq (cl : Handler) (N : Nat) (v0 : AV) (h : AH) : frun cl N S11 [v0] h = fans (o11 cl N v0 h) := by kernel_rfl
def w11 (N : Nat) : OF := fun cl args h => match args with
  | [v0] => fans (o11 cl N v0 h)
  | _ => none
theorem w11_ok (N : Nat) : OkF Tryz.prog 11 (w11 N) := .of (N := N) (S11_ok) fun cl args h r hr => by
  unfold w11 at hr
  split at hr
  · exact (o11_eq cl N _ _).trans hr
  · cases hr

/- widgetry/widgetryref14.Validate -/
def S12.r0 : List AOpr := [
  q 1 (.box (x 0)),
  q 2 (.mov (.const (.int .i64 0)))]
def S12.r1 : List AOpr := [
  q 6 (.ldn 5 (x 1)),
  q 7 (.call (.const (.func (.func 32) [] [])) [.tmp 6, .const (.int .i64 1), .const (.int .i64 0)]),
  q 5 (.mov (x 7)),
  q 8 (.ext (x 5) 0),
  q 9 (.ext (x 5) 1),
  q 3 (.mov (x 8)),
  q 4 (.mov (x 9))]
def S12.r2 : List AOpr := [
  q 10 (.mov (x 4)),
  q 2 (.mov (x 10))]
def S12 : SFn := ⟨11, [.tmp 2], .seq (.reg S12.r0) (.seq (.reg S12.r1) (.seq (.reg S12.r2) (.ret)))⟩
theorem S12_ok : EOk Tryz.prog 12 S12 := ⟨Tryz.f12, by kernel_rfl, by kernel_rfl, by decide, by kernel_rfl, its_nil (by kernel_rfl)⟩
def o12 (cl : Handler) (N : Nat) (v0 : AV) (h : AH) : Ans :=
  fst (kBox h v0) fun v1 h =>
  fst (kLdn h 5 v1) fun v6 h =>
  fst (cl 32 [v6, (.int .i64 1), (.int .i64 0)] h) fun v7 h =>
  fst (kExt h v7 0) fun v8 h =>
  fst (kExt h v7 1) fun v9 h =>
  some (.nrm, [], [v9], h)
theorem o12_eq (cl : Handler) (N : Nat) (v0 : AV) (h : AH) : frun cl N S12 [v0] h = fans (o12 cl N v0 h) := by kernel_rfl
def w12 (N : Nat) : OF := fun cl args h => match args with
  | [v0] => fans (o12 cl N v0 h)
  | _ => none
theorem w12_ok (N : Nat) : OkF Tryz.prog 12 (w12 N) := .of (N := N) (S12_ok) fun cl args h r hr => by
  unfold w12 at hr
  split at hr
  · exact (o12_eq cl N _ _).trans hr
  · cases hr

def S13.z0 : List AV := [.int .i64 0, .int .i64 0, .int .i64 0, .str [], .nilsl, .nilsl, .nilsl]
/- widgetry/widgetryref14.build -/
def S13.r0 : List AOpr := [
  q 3 (.box (x 0)),
  q 5 (.box (x 2)),
  q 6 (.new [.int .i64 0, .int .i64 0, .nilsl])]
def S13.r1 : List AOpr := [
  q 11 (.fldA 1 (x 5)),
  q 12 (.ld1 (x 11)),
  q 7 (.mov (x 12))]
def S13.r2 : List AOpr := [
  q 13 (.fldA 2 (x 5)),
  q 14 (.ld1 (x 13)),
  q 15 (.len (x 14)),
  q 8 (.mov (x 15))]
def S13.r3 : List AOpr := [
  q 16 (.fldA 2 (x 5)),
  q 17 (.ld1 (x 16)),
  q 18 (.mov (x 7)),
  q 19 (.mov (x 1)),
  q 20 (.fldA 0 (x 3)),
  q 21 (.ld1 (x 20)),
  q 22 (.fldA 1 (x 3)),
  q 23 (.ld1 (x 22)),
  q 24 (.fldA 2 (x 3)),
  q 25 (.ld1 (x 24)),
  q 26 (.fldA 3 (x 3)),
  q 27 (.ld1 (x 26)),
  q 28 (.build S13.z0 [(0, 1, .tmp 18), (1, 1, .tmp 19), (2, 1, .tmp 21), (3, 1, .tmp 23), (4, 1, .tmp 25), (5, 1, .tmp 27)]),
  q 29 (.buildSl 7 1 S13.z0 [(0, 7, .tmp 28)]),
  q 30 (.app 7 112 (x 17) (x 29)),
  q 31 (.fldA 2 (x 5)),
  ⟨none, .st 1 (x 31) (x 30), none⟩]
def S13.r4 : List AOpr := [
  q 32 (.fldA 1 (x 5)),
  q 33 (.ld1 (x 32)),
  q 34 (.arith .add (x 33) (.const (.int .i64 1))),
  q 35 (.fldA 1 (x 5)),
  ⟨none, .st 1 (x 35) (x 34), none⟩]
def S13.r5 : List AOpr := [
  q 9 (.mov (.const (.nilsl)))]
def S13.r6 : List AOpr := [
  q 10 (.mov (.const (.int .i64 0)))]
def S13.r7 : List AOpr := [
  q 36 (.mov (x 10)),
  q 37 (.fldA 4 (x 3)),
  q 38 (.ld1 (x 37)),
  q 39 (.len (x 38)),
  q 40 (.arith .lss (x 36) (x 39))]
def S13.r8 : List AOpr := [
  q 43 (.mov (x 9)),
  q 44 (.fldA 1 (x 5)),
  q 45 (.ld1 (x 44)),
  q 46 (.buildSl 1 1 [.int .i64 0] [(0, 1, .tmp 45)]),
  q 47 (.app 1 8 (x 43) (x 46)),
  q 9 (.mov (x 47))]
def S13.r9 : List (AOpr × Nat) := [
  (q 48 (.fldA 4 (x 3)), 0),
  (q 49 (.ld1 (x 48)), 1),
  (q 50 (.mov (x 10)), 0),
  (q 51 (.idxA 5 (x 49) (x 50)), 7),
  (q 52 (.ldn 5 (x 51)), 15),
  (q 53 (.mov (x 7)), 0),
  (q 54 (.ldn 3 (x 5)), 0),
  (q 55 (.call (.const (.func (.func 13) [] [])) [.tmp 52, .tmp 53, .tmp 54]), 127),
  (⟨none, .st 3 (x 5) (x 55), none⟩, 255)]
def S13.r10 : List AOpr := [
  q 41 (.mov (x 10)),
  q 42 (.arith .add (x 41) (.const (.int .i64 1))),
  q 10 (.mov (x 42))]
def S13.r11 : List AOpr := [
  q 56 (.fldA 2 (x 5)),
  q 57 (.ld1 (x 56)),
  q 58 (.mov (x 8)),
  q 59 (.mov (x 9)),
  q 60 (.idxA 7 (x 57) (x 58)),
  q 61 (.fldA 6 (x 60)),
  ⟨none, .st 1 (x 61) (x 59), none⟩]
def S13.r12 : List AOpr := [
  q 62 (.ldn 3 (x 5)),
  ⟨none, .st 3 (x 6) (x 62), none⟩]
def S13 : SFn := ⟨63, [.cell 6 (some 3)], .seq (.reg S13.r0) (.seq (.reg S13.r1) (.seq (.reg S13.r2) (.seq (.reg S13.r3) (.seq (.reg S13.r4) (.seq (.reg S13.r5) (.seq (.seq (.reg S13.r6) (.block 0 (.loop [3, 5, 6, 7, 8, 9, 10] [5, 6, 8, 9] (.seq (.seq (.reg S13.r7) (.cond (x 40) (.skip) (.exit 0))) (.seq (.block 1 (.seq (.reg S13.r8) (.draw S13.r9))) (.reg S13.r10)))))) (.seq (.reg S13.r11) (.seq (.reg S13.r12) (.ret)))))))))⟩
theorem S13_ok : EOk Tryz.prog 13 S13 := ⟨Tryz.f13, by kernel_rfl, by kernel_rfl, by decide, by kernel_rfl, its_nil (by kernel_rfl)⟩
def o13_s1 (cl : Handler) (N : Nat) (c0 c1 : Rec) (v3 v5 v6 v7 v8 v9 v10 v49 : AV) (h : AH) : Ans :=
  fdp h (kMov h v10) .pure fun v50 c2 h =>
  fdp h (kIdxA h 5 v49 v50) .pure fun v51 c3 h =>
  fdp h (kLdn h 5 v51) (rdK (rdv v51)) fun v52 c4 h =>
  fdp h (kMov h v7) .pure fun v53 c5 h =>
  fdp h (kLdn h 3 v5) (rdK (rdv v5)) fun v54 c6 h =>
  fde h (cl 13 [v52, v53, v54] h) fun v55 c7 h =>
  fde h (kSt h 3 v5 v55) fun _ c8 h =>
  cond (fchk [c0, c1, c2, c3, c4, c5, c6, c7, c8] []) (fst (kArith h .add v10 (.int .i64 1)) fun v42 h =>
  some (.nrm, [v3, v5, v6, v7, v8, v9, v42], [v5, v6, v8, v9], h)) none
def o13_l1 (cl : Handler) (N : Nat) (v3 v5 v6 v7 v8 v9 v10 : AV) (h : AH) : Ans :=
  fst (kFldA h 4 v3) fun v37 h =>
  fst (kLd1 h v37) fun v38 h =>
  fst (kLen h v38) fun v39 h =>
  fst (kArith h .lss v10 v39) fun v40 h =>
  fif v40 (
  fst (kFldA h 1 v5) fun v44 h =>
  fst (kLd1 h v44) fun v45 h =>
  fst (kBuildSl h 1 1 [.int .i64 0] [(0, 1, v45)]) fun v46 h =>
  fst (kApp h 1 8 v9 v46) fun v47 h =>
  fdr h 9 fun r h =>
  fdp h (kFldA h 4 v3) .pure fun v48 c0 h =>
  fdp h (kLd1 h v48) (rdK (rdv v48)) fun v49 c1 h =>
  o13_s1 cl N c0 c1 v3 v5 v6 v7 v8 v47 v10 v49 h) (
  some ((.exit 0), [v3, v5, v6, v7, v8, v9, v10], [v5, v6, v8, v9], h))
def o13_c2 (cl : Handler) (N : Nat) (v5 v6 v8 v9 : AV) (h : AH) : Ans :=
  fst (kFldA h 2 v5) fun v56 h =>
  fst (kLd1 h v56) fun v57 h =>
  fst (kIdxA h 7 v57 v8) fun v60 h =>
  fst (kFldA h 6 v60) fun v61 h =>
  fst (kSt h 1 v61 v9) fun _ h =>
  fst (kLdn h 3 v5) fun v62 h =>
  fst (kSt h 3 v6 v62) fun _ h =>
  fres (aresV h [.cell (v6) (some 3)]) h
def o13_j3 (cl : Handler) (N : Nat) (x : AX) (v5 v6 v8 v9 : AV) (h : AH) : Ans :=
  fxs x (o13_c2 cl N v5 v6 v8 v9 h) (fun j => cond (Nat.beq j 0) (o13_c2 cl N v5 v6 v8 v9 h) (none)) (fres (aresV h [.cell (v6) (some 3)]) h)
def o13_s2 (cl : Handler) (N : Nat) (v3 v5 v6 v7 v8 v17 v29 : AV) (h : AH) : Ans :=
  fst (kApp h 7 112 v17 v29) fun v30 h =>
  fst (kFldA h 2 v5) fun v31 h =>
  fst (kSt h 1 v31 v30) fun _ h =>
  fst (kFldA h 1 v5) fun v32 h =>
  fst (kLd1 h v32) fun v33 h =>
  fst (kArith h .add v33 (.int .i64 1)) fun v34 h =>
  fst (kFldA h 1 v5) fun v35 h =>
  fst (kSt h 1 v35 v34) fun _ h =>
  fjn (fiter (fun vs h => o13_l1 cl N (nthD vs 0) (nthD vs 1) (nthD vs 2) (nthD vs 3) (nthD vs 4) (nthD vs 5) (nthD vs 6) h) N [v3, v5, v6, v7, v8, (.nilsl), (.int .i64 0)] h) fun x vs h => o13_j3 cl N x (nthD vs 0) (nthD vs 1) (nthD vs 2) (nthD vs 3) h
def o13_s3 (cl : Handler) (N : Nat) (v1 v3 v5 v6 v7 v8 v17 : AV) (h : AH) : Ans :=
  fst (kFldA h 0 v3) fun v20 h =>
  fst (kLd1 h v20) fun v21 h =>
  fst (kFldA h 1 v3) fun v22 h =>
  fst (kLd1 h v22) fun v23 h =>
  fst (kFldA h 2 v3) fun v24 h =>
  fst (kLd1 h v24) fun v25 h =>
  fst (kFldA h 3 v3) fun v26 h =>
  fst (kLd1 h v26) fun v27 h =>
  fst (kBuild h S13.z0 [(0, 1, v7), (1, 1, v1), (2, 1, v21), (3, 1, v23), (4, 1, v25), (5, 1, v27)]) fun v28 h =>
  fst (kBuildSl h 7 1 S13.z0 [(0, 7, v28)]) fun v29 h =>
  o13_s2 cl N v3 v5 v6 v7 v8 v17 v29 h
def o13 (cl : Handler) (N : Nat) (v0 v1 v2 : AV) (h : AH) : Ans :=
  fst (kBox h v0) fun v3 h =>
  fst (kBox h v2) fun v5 h =>
  fst (kNew h [.int .i64 0, .int .i64 0, .nilsl]) fun v6 h =>
  fst (kFldA h 1 v5) fun v11 h =>
  fst (kLd1 h v11) fun v12 h =>
  fst (kFldA h 2 v5) fun v13 h =>
  fst (kLd1 h v13) fun v14 h =>
  fst (kLen h v14) fun v15 h =>
  fst (kFldA h 2 v5) fun v16 h =>
  fst (kLd1 h v16) fun v17 h =>
  o13_s3 cl N v1 v3 v5 v6 v12 v15 v17 h
theorem o13_eq (cl : Handler) (N : Nat) (v0 v1 v2 : AV) (h : AH) : frun cl N S13 [v0, v1, v2] h = fans (o13 cl N v0 v1 v2 h) := by kernel_rfl
def w13 (N : Nat) : OF := fun cl args h => match args with
  | [v0, v1, v2] => fans (o13 cl N v0 v1 v2 h)
  | _ => none
theorem w13_ok (N : Nat) : OkF Tryz.prog 13 (w13 N) := .of (N := N) (S13_ok) fun cl args h r hr => by
  unfold w13 at hr
  split at hr
  · exact (o13_eq cl N _ _ _ _).trans hr
  · cases hr

def S14.z0 : List AV := [.int .i64 0, .int .i64 0, .nilsl, .nilsl, .nilsl, .nilsl, .nilsl, .int .i64 0, .nilsl]
/- widgetry/widgetryref37.Look -/
def S14.r0 : List AOpr := [
  q 2 (.box (x 0)),
  q 4 (.new S14.z0)]
def S14.r1 : List AOpr := [
  q 7 (.ldn 3 (x 2)),
  q 8 (.mov (x 1)),
  q 9 (.call (.const (.func (.func 33) [] [])) [.tmp 7, .tmp 8]),
  q 10 (.build S14.z0 [(0, 6, .tmp 9)]),
  q 5 (.new S14.z0),
  ⟨none, .st 9 (x 5) (x 10), none⟩]
def S14.r2 : List (AOpr × Nat) := [
  (q 11 (.fldA 0 (x 5)), 0),
  (q 12 (.ldn 6 (x 11)), 1),
  (q 13 (.call (.const (.func (.func 34) [] [])) [.tmp 12]), 3),
  (q 14 (.fldA 0 (x 5)), 0),
  (q 15 (.ldn 6 (x 14)), 8),
  (q 16 (.call (.const (.func (.func 35) [] [])) [.tmp 15]), 31),
  (q 17 (.fldA 6 (x 5)), 31),
  (⟨none, .st 1 (x 17) (x 13), none⟩, 127),
  (q 18 (.fldA 7 (x 5)), 255),
  (⟨none, .st 1 (x 18) (x 16), none⟩, 511)]
def S14.r3 : List AOpr := [
  q 6 (.mov (.const (.int .i64 0)))]
def S14.r4 : List AOpr := [
  q 19 (.mov (x 6)),
  q 20 (.fldA 0 (x 5)),
  q 21 (.fldA 4 (x 20)),
  q 22 (.ld1 (x 21)),
  q 23 (.len (x 22)),
  q 24 (.arith .lss (x 19) (x 23))]
def S14.r5 : List (AOpr × Nat) := [
  (q 27 (.ldn 9 (x 5)), 0),
  (q 28 (.fldA 0 (x 5)), 0),
  (q 29 (.fldA 4 (x 28)), 2),
  (q 30 (.ld1 (x 29)), 6),
  (q 31 (.mov (x 6)), 0),
  (q 32 (.idxA 1 (x 30) (x 31)), 30),
  (q 33 (.ld1 (x 32)), 62),
  (q 34 (.call (.const (.func (.func 36) [] [])) [.tmp 27, .tmp 33]), 127)]
def S14.r6 : List (AOpr × Nat) := [
  (q 35 (.fldA 8 (x 5)), 0),
  (q 36 (.ld1 (x 35)), 1),
  (q 37 (.fldA 0 (x 5)), 0),
  (q 38 (.fldA 4 (x 37)), 4),
  (q 39 (.ld1 (x 38)), 12),
  (q 40 (.mov (x 6)), 0),
  (q 41 (.idxA 1 (x 39) (x 40)), 60),
  (q 42 (.ld1 (x 41)), 124),
  (q 43 (.buildSl 1 1 [.int .i64 0] [(0, 1, .tmp 42)]), 252),
  (q 44 (.app 1 8 (x 36) (x 43)), 511),
  (q 45 (.fldA 8 (x 5)), 1023),
  (⟨none, .st 1 (x 45) (x 44), none⟩, 2047)]
def S14.r7 : List AOpr := [
  q 25 (.mov (x 6)),
  q 26 (.arith .add (x 25) (.const (.int .i64 1))),
  q 6 (.mov (x 26))]
def S14.r8 : List AOpr := [
  q 46 (.ldn 9 (x 5)),
  ⟨none, .st 9 (x 4) (x 46), none⟩]
def S14 : SFn := ⟨47, [.cell 4 (some 9)], .seq (.reg S14.r0) (.seq (.reg S14.r1) (.seq (.draw S14.r2) (.seq (.seq (.reg S14.r3) (.block 0 (.loop [4, 5, 6] [4, 5] (.seq (.seq (.reg S14.r4) (.cond (x 24) (.skip) (.exit 0))) (.seq (.joinN [4, 5, 6] (.block 1 (.seq (.draw S14.r5) (.cond (x 34) (.draw S14.r6) (.skip))))) (.reg S14.r7)))))) (.seq (.reg S14.r8) (.ret)))))⟩
theorem S14_ok : EOk Tryz.prog 14 S14 := ⟨Tryz.f14, by kernel_rfl, by kernel_rfl, by decide, by kernel_rfl, its_nil (by kernel_rfl)⟩
def o14_s1 (cl : Handler) (N : Nat) (r : Nat) (c0 c1 : Rec) (v4 v5 v6 v36 : AV) (h : AH) : Ans :=
  fdp h (kFldA h 0 v5) .pure fun v37 c2 h =>
  fdp h (kFldA h 4 v37) .pure fun v38 c3 h =>
  fdp h (kLd1 h v38) (rdK (rdv v38)) fun v39 c4 h =>
  fdp h (kMov h v6) .pure fun v40 c5 h =>
  fdp h (kIdxA h 1 v39 v40) .pure fun v41 c6 h =>
  fdp h (kLd1 h v41) (rdK (rdv v41)) fun v42 c7 h =>
  fda (r + 8) h (alBuildSl 1 1 [.int .i64 0] [(0, 1, v42)]) fun v43 c8 h =>
  fde h (kApp h 1 8 v36 v43) fun v44 c9 h =>
  fdp h (kFldA h 8 v5) .pure fun v45 c10 h =>
  fde h (kSt h 1 v45 v44) fun _ c11 h =>
  cond (fchk [c0, c1, c2, c3, c4, c5, c6, c7, c8, c9, c10, c11] [(1, 8)]) (some (.nrm, [], [v4, v5, v6], h)) none
def o14_a1 (cl : Handler) (N : Nat) (v4 v5 v6 : AV) (h : AH) : Ans :=
  fdr h 8 fun r h =>
  fdp h (kLdn h 9 v5) (rdK (rdv v5)) fun v27 c0 h =>
  fdp h (kFldA h 0 v5) .pure fun v28 c1 h =>
  fdp h (kFldA h 4 v28) .pure fun v29 c2 h =>
  fdp h (kLd1 h v29) (rdK (rdv v29)) fun v30 c3 h =>
  fdp h (kMov h v6) .pure fun v31 c4 h =>
  fdp h (kIdxA h 1 v30 v31) .pure fun v32 c5 h =>
  fdp h (kLd1 h v32) (rdK (rdv v32)) fun v33 c6 h =>
  fde h (cl 36 [v27, v33] h) fun v34 c7 h =>
  cond (fchk [c0, c1, c2, c3, c4, c5, c6, c7] []) (fif v34 (
  fdr h 12 fun r h =>
  fdp h (kFldA h 8 v5) .pure fun v35 c0 h =>
  fdp h (kLd1 h v35) (rdK (rdv v35)) fun v36 c1 h =>
  o14_s1 cl N r c0 c1 v4 v5 v6 v36 h) (
  some (.nrm, [], [v4, v5, v6], h))) none
def o14_j2 (cl : Handler) (N : Nat) (v4 v5 v6 : AV) (h : AH) : Ans :=
  fst (kArith h .add v6 (.int .i64 1)) fun v26 h =>
  some (.nrm, [v4, v5, v26], [v4, v5], h)
def o14_l3 (cl : Handler) (N : Nat) (v4 v5 v6 : AV) (h : AH) : Ans :=
  fst (kFldA h 0 v5) fun v20 h =>
  fst (kFldA h 4 v20) fun v21 h =>
  fst (kLd1 h v21) fun v22 h =>
  fst (kLen h v22) fun v23 h =>
  fst (kArith h .lss v6 v23) fun v24 h =>
  fif v24 (
  fjn (o14_a1 cl N v4 v5 v6 h) fun _ vs h => o14_j2 cl N (nthD vs 0) (nthD vs 1) (nthD vs 2) h) (
  some ((.exit 0), [v4, v5, v6], [v4, v5], h))
def o14_c4 (cl : Handler) (N : Nat) (v4 v5 : AV) (h : AH) : Ans :=
  fst (kLdn h 9 v5) fun v46 h =>
  fst (kSt h 9 v4 v46) fun _ h =>
  fres (aresV h [.cell (v4) (some 9)]) h
def o14_j5 (cl : Handler) (N : Nat) (x : AX) (v4 v5 : AV) (h : AH) : Ans :=
  fxs x (o14_c4 cl N v4 v5 h) (fun j => cond (Nat.beq j 0) (o14_c4 cl N v4 v5 h) (none)) (fres (aresV h [.cell (v4) (some 9)]) h)
def o14_s2 (cl : Handler) (N : Nat) (c0 c1 c2 : Rec) (v4 v5 v13 : AV) (h : AH) : Ans :=
  fdp h (kFldA h 0 v5) .pure fun v14 c3 h =>
  fdp h (kLdn h 6 v14) (rdK (rdv v14)) fun v15 c4 h =>
  fde h (cl 35 [v15] h) fun v16 c5 h =>
  fdp h (kFldA h 6 v5) .pure fun v17 c6 h =>
  fde h (kSt h 1 v17 v13) fun _ c7 h =>
  fdp h (kFldA h 7 v5) .pure fun v18 c8 h =>
  fde h (kSt h 1 v18 v16) fun _ c9 h =>
  cond (fchk [c0, c1, c2, c3, c4, c5, c6, c7, c8, c9] [(2, 4)]) (fjn (fiter (fun vs h => o14_l3 cl N (nthD vs 0) (nthD vs 1) (nthD vs 2) h) N [v4, v5, (.int .i64 0)] h) fun x vs h => o14_j5 cl N x (nthD vs 0) (nthD vs 1) h) none
def o14 (cl : Handler) (N : Nat) (v0 v1 : AV) (h : AH) : Ans :=
  fst (kBox h v0) fun v2 h =>
  fst (kNew h S14.z0) fun v4 h =>
  fst (kLdn h 3 v2) fun v7 h =>
  fst (cl 33 [v7, v1] h) fun v9 h =>
  fst (kBuild h S14.z0 [(0, 6, v9)]) fun v10 h =>
  fst (kNew h S14.z0) fun v5 h =>
  fst (kSt h 9 v5 v10) fun _ h =>
  fdr h 10 fun r h =>
  fdp h (kFldA h 0 v5) .pure fun v11 c0 h =>
  fdp h (kLdn h 6 v11) (rdK (rdv v11)) fun v12 c1 h =>
  fde h (cl 34 [v12] h) fun v13 c2 h =>
  o14_s2 cl N c0 c1 c2 v4 v5 v13 h
theorem o14_eq (cl : Handler) (N : Nat) (v0 v1 : AV) (h : AH) : frun cl N S14 [v0, v1] h = fans (o14 cl N v0 v1 h) := by kernel_rfl
def w14 (N : Nat) : OF := fun cl args h => match args with
  | [v0, v1] => fans (o14 cl N v0 v1 h)
  | _ => none
theorem w14_ok (N : Nat) : OkF Tryz.prog 14 (w14 N) := .of (N := N) (S14_ok) fun cl args h r hr => by
  unfold w14 at hr
  split at hr
  · exact (o14_eq cl N _ _ _).trans hr
  · cases hr

/- widgetry/widgetryref21.Shown -/
def S15.r0 : List AOpr := [
  q 2 (.box (x 0)),
  q 4 (.mov (.const (.nilsl)))]
def S15.r1 : List AOpr := [
  q 5 (.ldn 3 (x 2)),
  q 6 (.call (.const (.func (.func 37) [] [])) [.tmp 5]),
  q 7 (.arith .neq (x 6) (.const (.int .i64 0))),
  q 8 (.mov (x 7)),
  ⟨some 9, .ldn 3 (x 2), some (8, false)⟩,
  ⟨some 10, .mov (x 1), some (8, false)⟩,
  ⟨some 11, .call (.const (.func (.func 38) [] [])) [.tmp 9, .tmp 10], some (8, false)⟩,
  ⟨some 12, .arith .neq (x 11) (.const (.int .i64 0)), some (8, false)⟩,
  q 13 (.pick (x 8) (.const (.bool true)) (x 12))]
def S15.r2 : List AOpr := [
  q 4 (.mov (.const (.nilsl)))]
def S15.r3 : List AOpr := [
  q 14 (.ldn 3 (x 2)),
  q 15 (.mov (x 1)),
  q 16 (.fldA 0 (x 2)),
  q 17 (.ld1 (x 16)),
  q 18 (.call (.const (.func (.func 39) [] [])) [.tmp 14, .tmp 15, .tmp 17, .const (.nilsl)]),
  q 4 (.mov (x 18))]
def S15 : SFn := ⟨19, [.tmp 4], .seq (.reg S15.r0) (.seq (.seq (.joinN [1, 2, 13] (.reg S15.r1)) (.cond (x 13) (.seq (.reg S15.r2) (.ret)) (.skip))) (.seq (.reg S15.r3) (.ret)))⟩
theorem S15_ok : EOk Tryz.prog 15 S15 := ⟨Tryz.f15, by kernel_rfl, by kernel_rfl, by decide, by kernel_rfl, its_nil (by kernel_rfl)⟩
def o15_a1 (cl : Handler) (N : Nat) (v1 v2 : AV) (h : AH) : Ans :=
  fst (kLdn h 3 v2) fun v5 h =>
  fst (cl 37 [v5] h) fun v6 h =>
  fst (kArith h .neq v6 (.int .i64 0)) fun v7 h =>
  fgd (gdv false v7) (kLdn h 3 v2) h fun v9 h =>
  fgd (gdv false v7) (kMov h v1) h fun v10 h =>
  fgd (gdv false v7) (cl 38 [v9, v10] h) h fun v11 h =>
  fgd (gdv false v7) (kArith h .neq v11 (.int .i64 0)) h fun v12 h =>
  fst (kPick h v7 (.bool true) v12) fun v13 h =>
  some (.nrm, [], [v1, v2, v13], h)
def o15_j2 (cl : Handler) (N : Nat) (v1 v2 v13 : AV) (h : AH) : Ans :=
  fif v13 (
  some (.nrm, [], [(.nilsl)], h)) (
  fst (kLdn h 3 v2) fun v14 h =>
  fst (kFldA h 0 v2) fun v16 h =>
  fst (kLd1 h v16) fun v17 h =>
  fst (cl 39 [v14, v1, v17, (.nilsl)] h) fun v18 h =>
  some (.nrm, [], [v18], h))
def o15 (cl : Handler) (N : Nat) (v0 v1 : AV) (h : AH) : Ans :=
  fst (kBox h v0) fun v2 h =>
  fjn (o15_a1 cl N v1 v2 h) fun _ vs h => o15_j2 cl N (nthD vs 0) (nthD vs 1) (nthD vs 2) h
theorem o15_eq (cl : Handler) (N : Nat) (v0 v1 : AV) (h : AH) : frun cl N S15 [v0, v1] h = fans (o15 cl N v0 v1 h) := by kernel_rfl
def w15 (N : Nat) : OF := fun cl args h => match args with
  | [v0, v1] => fans (o15 cl N v0 v1 h)
  | _ => none
theorem w15_ok (N : Nat) : OkF Tryz.prog 15 (w15 N) := .of (N := N) (S15_ok) fun cl args h r hr => by
  unfold w15 at hr
  split at hr
  · exact (o15_eq cl N _ _ _).trans hr
  · cases hr

def S16.z0 : List AV := [.int .i64 0, .int .i64 0, .int .i64 0, .str [], .nilsl, .nilsl, .nilsl]
/- widgetry/widgetryref29.Find -/
def S16.r0 : List AOpr := [
  q 2 (.box (x 0)),
  q 4 (.new S16.z0),
  q 5 (.mov (.const (.bool false)))]
def S16.r1 : List AOpr := [
  q 6 (.ldn 3 (x 2)),
  q 7 (.mov (x 1)),
  q 8 (.call (.const (.func (.func 40) [] [])) [.tmp 6, .tmp 7]),
  q 9 (.arith .lss (x 8) (.const (.int .i64 0)))]
def S16.r2 : List AOpr := [
  q 10 (.build S16.z0 []),
  ⟨none, .st 7 (x 4) (x 10), none⟩,
  q 5 (.mov (.const (.bool false)))]
def S16.r3 : List AOpr := [
  q 11 (.ldn 3 (x 2)),
  q 12 (.mov (x 1)),
  q 13 (.call (.const (.func (.func 41) [] [])) [.tmp 11, .tmp 12]),
  ⟨none, .st 7 (x 4) (x 13), none⟩,
  q 5 (.mov (.const (.bool true)))]
def S16 : SFn := ⟨14, [.cell 4 (some 7), .tmp 5], .seq (.reg S16.r0) (.seq (.seq (.reg S16.r1) (.cond (x 9) (.seq (.reg S16.r2) (.ret)) (.skip))) (.seq (.reg S16.r3) (.ret)))⟩
theorem S16_ok : EOk Tryz.prog 16 S16 := ⟨Tryz.f16, by kernel_rfl, by kernel_rfl, by decide, by kernel_rfl, its_nil (by kernel_rfl)⟩
def o16 (cl : Handler) (N : Nat) (v0 v1 : AV) (h : AH) : Ans :=
  fst (kBox h v0) fun v2 h =>
  fst (kNew h S16.z0) fun v4 h =>
  fst (kLdn h 3 v2) fun v6 h =>
  fst (cl 40 [v6, v1] h) fun v8 h =>
  fst (kArith h .lss v8 (.int .i64 0)) fun v9 h =>
  fif v9 (
  fst (kBuild h S16.z0 []) fun v10 h =>
  fst (kSt h 7 v4 v10) fun _ h =>
  fres (aresV h [.cell (v4) (some 7), .val ((.bool false))]) h) (
  fst (kLdn h 3 v2) fun v11 h =>
  fst (cl 41 [v11, v1] h) fun v13 h =>
  fst (kSt h 7 v4 v13) fun _ h =>
  fres (aresV h [.cell (v4) (some 7), .val ((.bool true))]) h)
theorem o16_eq (cl : Handler) (N : Nat) (v0 v1 : AV) (h : AH) : frun cl N S16 [v0, v1] h = fans (o16 cl N v0 v1 h) := by kernel_rfl
def w16 (N : Nat) : OF := fun cl args h => match args with
  | [v0, v1] => fans (o16 cl N v0 v1 h)
  | _ => none
theorem w16_ok (N : Nat) : OkF Tryz.prog 16 (w16 N) := .of (N := N) (S16_ok) fun cl args h r hr => by
  unfold w16 at hr
  split at hr
  · exact (o16_eq cl N _ _ _).trans hr
  · cases hr

/- (widgetry/widgetryref37.Facts).Parent -/
def S17.r0 : List AOpr := [
  q 2 (.box (x 0)),
  q 4 (.mov (.const (.int .i64 0)))]
def S17.r1 : List AOpr := [
  q 8 (.fldA 0 (x 2)),
  q 9 (.ldn 6 (x 8)),
  q 10 (.mov (x 1)),
  q 11 (.call (.const (.func (.func 42) [] [])) [.tmp 9, .tmp 10]),
  q 5 (.mov (x 11))]
def S17.r2 : List AOpr := [
  q 6 (.mov (.const (.int .i64 0)))]
def S17.r3 : List AOpr := [
  q 7 (.mov (.const (.int .i64 0)))]
def S17.r4 : List AOpr := [
  q 12 (.mov (x 7)),
  q 13 (.arith .add (x 12) (.const (.int .i64 1))),
  q 14 (.mov (x 5)),
  q 15 (.len (x 14)),
  q 16 (.arith .lss (x 13) (x 15))]
def S17.r5 : List (AOpr × Nat) := [
  (q 19 (.fldA 8 (x 2)), 0),
  (q 20 (.ld1 (x 19)), 1),
  (q 21 (.mov (x 5)), 0),
  (q 22 (.mov (x 7)), 0),
  (q 23 (.idxA 1 (x 21) (x 22)), 12),
  (q 24 (.ld1 (x 23)), 28),
  (q 25 (.call (.const (.func (.func 30) [] [])) [.tmp 20, .tmp 24]), 63)]
def S17.r6 : List AOpr := [
  q 26 (.mov (x 5)),
  q 27 (.mov (x 7)),
  q 28 (.idxA 1 (x 26) (x 27)),
  q 29 (.ld1 (x 28)),
  q 6 (.mov (x 29))]
def S17.r7 : List AOpr := [
  q 17 (.mov (x 7)),
  q 18 (.arith .add (x 17) (.const (.int .i64 1))),
  q 7 (.mov (x 18))]
def S17.r8 : List AOpr := [
  q 30 (.mov (x 6)),
  q 4 (.mov (x 30))]
def S17 : SFn := ⟨31, [.tmp 4], .seq (.reg S17.r0) (.seq (.reg S17.r1) (.seq (.reg S17.r2) (.seq (.seq (.reg S17.r3) (.block 0 (.loop [2, 5, 6, 7] [6] (.seq (.seq (.reg S17.r4) (.cond (x 16) (.skip) (.exit 0))) (.seq (.joinN [2, 5, 6, 7] (.block 1 (.seq (.draw S17.r5) (.cond (x 25) (.reg S17.r6) (.skip))))) (.reg S17.r7)))))) (.seq (.reg S17.r8) (.ret)))))⟩
theorem S17_ok : EOk Tryz.prog 17 S17 := ⟨Tryz.f17, by kernel_rfl, by kernel_rfl, by decide, by kernel_rfl, its_nil (by kernel_rfl)⟩
def o17_a1 (cl : Handler) (N : Nat) (v2 v5 v6 v7 : AV) (h : AH) : Ans :=
  fdr h 7 fun r h =>
  fdp h (kFldA h 8 v2) .pure fun v19 c0 h =>
  fdp h (kLd1 h v19) (rdK (rdv v19)) fun v20 c1 h =>
  fdp h (kMov h v5) .pure fun v21 c2 h =>
  fdp h (kMov h v7) .pure fun v22 c3 h =>
  fdp h (kIdxA h 1 v21 v22) .pure fun v23 c4 h =>
  fdp h (kLd1 h v23) (rdK (rdv v23)) fun v24 c5 h =>
  fde h (cl 30 [v20, v24] h) fun v25 c6 h =>
  cond (fchk [c0, c1, c2, c3, c4, c5, c6] []) (fif v25 (
  fst (kIdxA h 1 v5 v7) fun v28 h =>
  fst (kLd1 h v28) fun v29 h =>
  some (.nrm, [], [v2, v5, v29, v7], h)) (
  some (.nrm, [], [v2, v5, v6, v7], h))) none
def o17_j2 (cl : Handler) (N : Nat) (v2 v5 v6 v7 : AV) (h : AH) : Ans :=
  fst (kArith h .add v7 (.int .i64 1)) fun v18 h =>
  some (.nrm, [v2, v5, v6, v18], [v6], h)
def o17_l3 (cl : Handler) (N : Nat) (v2 v5 v6 v7 : AV) (h : AH) : Ans :=
  fst (kArith h .add v7 (.int .i64 1)) fun v13 h =>
  fst (kLen h v5) fun v15 h =>
  fst (kArith h .lss v13 v15) fun v16 h =>
  fif v16 (
  fjn (o17_a1 cl N v2 v5 v6 v7 h) fun _ vs h => o17_j2 cl N (nthD vs 0) (nthD vs 1) (nthD vs 2) (nthD vs 3) h) (
  some ((.exit 0), [v2, v5, v6, v7], [v6], h))
def o17_c4 (cl : Handler) (N : Nat) (v6 : AV) (h : AH) : Ans :=
  some (.nrm, [], [v6], h)
def o17_j5 (cl : Handler) (N : Nat) (x : AX) (v6 : AV) (h : AH) : Ans :=
  fxs x (o17_c4 cl N v6 h) (fun j => cond (Nat.beq j 0) (o17_c4 cl N v6 h) (none)) (some (.nrm, [], [.undef], h))
def o17 (cl : Handler) (N : Nat) (v0 v1 : AV) (h : AH) : Ans :=
  fst (kBox h v0) fun v2 h =>
  fst (kFldA h 0 v2) fun v8 h =>
  fst (kLdn h 6 v8) fun v9 h =>
  fst (cl 42 [v9, v1] h) fun v11 h =>
  fjn (fiter (fun vs h => o17_l3 cl N (nthD vs 0) (nthD vs 1) (nthD vs 2) (nthD vs 3) h) N [v2, v11, (.int .i64 0), (.int .i64 0)] h) fun x vs h => o17_j5 cl N x (nthD vs 0) h
theorem o17_eq (cl : Handler) (N : Nat) (v0 v1 : AV) (h : AH) : frun cl N S17 [v0, v1] h = fans (o17 cl N v0 v1 h) := by kernel_rfl
def w17 (N : Nat) : OF := fun cl args h => match args with
  | [v0, v1] => fans (o17 cl N v0 v1 h)
  | _ => none
theorem w17_ok (N : Nat) : OkF Tryz.prog 17 (w17 N) := .of (N := N) (S17_ok) fun cl args h r hr => by
  unfold w17 at hr
  split at hr
  · exact (o17_eq cl N _ _ _).trans hr
  · cases hr

def S18.z0 : List AV := [.int .i64 0, .int .i64 0, .int .i64 0, .str [], .nilsl, .nilsl, .nilsl]
/- widgetry/widgetryref37.Role -/
def S18.r0 : List AOpr := [
  q 2 (.box (x 0)),
  q 4 (.mov (.const (.int .i64 0)))]
def S18.r1 : List AOpr := [
  q 9 (.ldn 3 (x 2)),
  q 10 (.mov (x 1)),
  q 11 (.call (.const (.func (.func 16) [] [])) [.tmp 9, .tmp 10]),
  q 8 (.mov (x 11)),
  q 12 (.ext (x 8) 0),
  q 13 (.ext (x 8) 1),
  q 5 (.new S18.z0),
  ⟨none, .st 7 (x 5) (x 12), none⟩,
  q 6 (.mov (x 13))]
def S18.r2 : List AOpr := [
  q 14 (.mov (x 6)),
  q 15 (.un .not (x 14))]
def S18.r3 : List AOpr := [
  q 4 (.mov (.const (.int .i64 0)))]
def S18.r4 : List AOpr := [
  q 16 (.ldn 3 (x 2)),
  q 17 (.ldn 7 (x 5)),
  q 18 (.call (.const (.func (.func 43) [] [])) [.tmp 16, .tmp 17]),
  q 7 (.mov (x 18))]
def S18.r5 : List AOpr := [
  q 19 (.mov (x 7)),
  q 20 (.arith .neq (x 19) (.const (.int .i64 0)))]
def S18.r6 : List AOpr := [
  q 21 (.mov (x 7)),
  q 4 (.mov (x 21))]
def S18.r7 : List AOpr := [
  q 22 (.mov (x 1)),
  q 23 (.fldA 0 (x 2)),
  q 24 (.ld1 (x 23)),
  q 25 (.arith .eql (x 22) (x 24))]
def S18.r8 : List AOpr := [
  q 4 (.mov (.const (.int .i64 1)))]
def S18.r9 : List AOpr := [
  q 26 (.ldn 3 (x 2)),
  q 27 (.mov (x 1)),
  q 28 (.call (.const (.func (.func 44) [] [])) [.tmp 26, .tmp 27]),
  q 29 (.mov (x 28)),
  ⟨some 30, .fldA 2 (x 5), some (29, false)⟩,
  ⟨some 31, .ld1 (x 30), some (29, false)⟩,
  ⟨some 32, .arith .eql (x 31) (.const (.int .i64 4)), some (29, false)⟩,
  q 33 (.pick (x 29) (.const (.bool true)) (x 32)),
  q 34 (.mov (x 33)),
  ⟨some 35, .fldA 2 (x 5), some (34, false)⟩,
  ⟨some 36, .ld1 (x 35), some (34, false)⟩,
  ⟨some 37, .arith .eql (x 36) (.const (.int .i64 13)), some (34, false)⟩,
  q 38 (.pick (x 34) (.const (.bool true)) (x 37)),
  q 39 (.mov (x 38)),
  ⟨some 40, .fldA 4 (x 5), some (39, false)⟩,
  ⟨some 41, .ld1 (x 40), some (39, false)⟩,
  ⟨some 42, .call (.const (.func (.func 45) [] [])) [.tmp 41, .const (.str [102, 111, 99, 117, 115, 97, 98, 108, 101])], some (39, false)⟩,
  q 43 (.pick (x 39) (.const (.bool true)) (x 42))]
def S18.r10 : List AOpr := [
  q 4 (.mov (.const (.int .i64 2)))]
def S18.r11 : List AOpr := [
  q 4 (.mov (.const (.int .i64 0)))]
def S18 : SFn := ⟨44, [.tmp 4], .seq (.reg S18.r0) (.seq (.reg S18.r1) (.seq (.seq (.reg S18.r2) (.cond (x 15) (.seq (.reg S18.r3) (.ret)) (.skip))) (.seq (.reg S18.r4) (.seq (.seq (.reg S18.r5) (.cond (x 20) (.seq (.reg S18.r6) (.ret)) (.skip))) (.seq (.seq (.reg S18.r7) (.cond (x 25) (.seq (.reg S18.r8) (.ret)) (.skip))) (.seq (.seq (.joinN [43] (.reg S18.r9)) (.cond (x 43) (.seq (.reg S18.r10) (.ret)) (.skip))) (.seq (.reg S18.r11) (.ret))))))))⟩
theorem S18_ok : EOk Tryz.prog 18 S18 := ⟨Tryz.f18, by kernel_rfl, by kernel_rfl, by decide, by kernel_rfl, its_nil (by kernel_rfl)⟩
def o18_s1 (cl : Handler) (N : Nat) (v5 v38 : AV) (h : AH) : Ans :=
  fgd (gdv false v38) (kFldA h 4 v5) h fun v40 h =>
  fgd (gdv false v38) (kLd1 h v40) h fun v41 h =>
  fgd (gdv false v38) (cl 45 [v41, (.str [102, 111, 99, 117, 115, 97, 98, 108, 101])] h) h fun v42 h =>
  fst (kPick h v38 (.bool true) v42) fun v43 h =>
  some (.nrm, [], [v43], h)
def o18_a1 (cl : Handler) (N : Nat) (v1 v2 v5 : AV) (h : AH) : Ans :=
  fst (kLdn h 3 v2) fun v26 h =>
  fst (cl 44 [v26, v1] h) fun v28 h =>
  fgd (gdv false v28) (kFldA h 2 v5) h fun v30 h =>
  fgd (gdv false v28) (kLd1 h v30) h fun v31 h =>
  fgd (gdv false v28) (kArith h .eql v31 (.int .i64 4)) h fun v32 h =>
  fst (kPick h v28 (.bool true) v32) fun v33 h =>
  fgd (gdv false v33) (kFldA h 2 v5) h fun v35 h =>
  fgd (gdv false v33) (kLd1 h v35) h fun v36 h =>
  fgd (gdv false v33) (kArith h .eql v36 (.int .i64 13)) h fun v37 h =>
  fst (kPick h v33 (.bool true) v37) fun v38 h =>
  o18_s1 cl N v5 v38 h
def o18_j2 (cl : Handler) (N : Nat) (v43 : AV) (h : AH) : Ans :=
  fif v43 (
  some (.nrm, [], [(.int .i64 2)], h)) (
  some (.nrm, [], [(.int .i64 0)], h))
def o18_s2 (cl : Handler) (N : Nat) (v1 v2 v5 v16 v17 : AV) (h : AH) : Ans :=
  fst (cl 43 [v16, v17] h) fun v18 h =>
  fst (kArith h .neq v18 (.int .i64 0)) fun v20 h =>
  fif v20 (
  some (.nrm, [], [v18], h)) (
  fst (kFldA h 0 v2) fun v23 h =>
  fst (kLd1 h v23) fun v24 h =>
  fst (kArith h .eql v1 v24) fun v25 h =>
  fif v25 (
  some (.nrm, [], [(.int .i64 1)], h)) (
  fjn (o18_a1 cl N v1 v2 v5 h) fun _ vs h => o18_j2 cl N (nthD vs 0) h))
def o18 (cl : Handler) (N : Nat) (v0 v1 : AV) (h : AH) : Ans :=
  fst (kBox h v0) fun v2 h =>
  fst (kLdn h 3 v2) fun v9 h =>
  fst (cl 16 [v9, v1] h) fun v11 h =>
  fst (kExt h v11 0) fun v12 h =>
  fst (kExt h v11 1) fun v13 h =>
  fst (kNew h S18.z0) fun v5 h =>
  fst (kSt h 7 v5 v12) fun _ h =>
  fst (kUn h .not v13) fun v15 h =>
  fif v15 (
  some (.nrm, [], [(.int .i64 0)], h)) (
  fst (kLdn h 3 v2) fun v16 h =>
  fst (kLdn h 7 v5) fun v17 h =>
  o18_s2 cl N v1 v2 v5 v16 v17 h)
theorem o18_eq (cl : Handler) (N : Nat) (v0 v1 : AV) (h : AH) : frun cl N S18 [v0, v1] h = fans (o18 cl N v0 v1 h) := by kernel_rfl
def w18 (N : Nat) : OF := fun cl args h => match args with
  | [v0, v1] => fans (o18 cl N v0 v1 h)
  | _ => none
theorem w18_ok (N : Nat) : OkF Tryz.prog 18 (w18 N) := .of (N := N) (S18_ok) fun cl args h r hr => by
  unfold w18 at hr
  split at hr
  · exact (o18_eq cl N _ _ _).trans hr
  · cases hr

def S19.z0 : List AV := [.int .i64 0, .int .i64 0, .int .i64 0, .str [], .nilsl, .nilsl, .nilsl]
/- widgetry/widgetryref38.Named -/
def S19.r0 : List AOpr := [
  q 3 (.box (x 0)),
  q 6 (.mov (.const (.str [])))]
def S19.r1 : List AOpr := [
  q 13 (.fldA 0 (x 3)),
  q 14 (.ldn 3 (x 13)),
  q 15 (.mov (x 2)),
  q 16 (.call (.const (.func (.func 16) [] [])) [.tmp 14, .tmp 15]),
  q 12 (.mov (x 16)),
  q 17 (.ext (x 12) 0),
  q 18 (.ext (x 12) 1),
  q 7 (.new S19.z0),
  ⟨none, .st 7 (x 7) (x 17), none⟩,
  q 8 (.mov (x 18))]
def S19.r2 : List AOpr := [
  q 19 (.mov (x 8)),
  q 20 (.un .not (x 19))]
def S19.r3 : List AOpr := [
  q 6 (.mov (.const (.str [])))]
def S19.r4 : List AOpr := [
  q 21 (.ldn 6 (x 3)),
  q 22 (.mov (x 1)),
  q 23 (.ldn 7 (x 7)),
  q 24 (.call (.const (.func (.func 46) [] [])) [.tmp 21, .tmp 22, .tmp 23, .const (.str [108, 97, 98, 101, 108, 108, 101, 100, 98, 121])]),
  q 9 (.mov (x 24))]
def S19.r5 : List AOpr := [
  q 25 (.mov (x 9)),
  q 26 (.arith .neq (x 25) (.const (.str [])))]
def S19.r6 : List AOpr := [
  q 27 (.mov (x 9)),
  q 6 (.mov (x 27))]
def S19.r7 : List AOpr := [
  q 28 (.fldA 4 (x 7)),
  q 29 (.ld1 (x 28)),
  q 30 (.call (.const (.func (.func 28) [] [])) [.tmp 29, .const (.str [108, 97, 98, 101, 108])]),
  q 31 (.call (.const (.func (.func 47) [] [])) [.tmp 30]),
  q 10 (.mov (x 31))]
def S19.r8 : List AOpr := [
  q 32 (.mov (x 10)),
  q 33 (.arith .neq (x 32) (.const (.str [])))]
def S19.r9 : List AOpr := [
  q 34 (.mov (x 10)),
  q 6 (.mov (x 34))]
def S19.r10 : List AOpr := [
  q 11 (.mov (.const (.str [])))]
def S19.r11 : List AOpr := [
  q 35 (.fldA 2 (x 7)),
  q 36 (.ld1 (x 35))]
def S19.r12 : List AOpr := [
  q 38 (.arith .eql (x 36) (.const (.int .i64 2))),
  q 37 (.mov (x 38))]
def S19.r13 : List AOpr := [
  q 39 (.arith .eql (x 36) (.const (.int .i64 7))),
  q 37 (.mov (x 39))]
def S19.r14 : List AOpr := [
  q 40 (.arith .eql (x 36) (.const (.int .i64 9))),
  q 37 (.mov (x 40))]
def S19.r15 : List AOpr := [
  q 41 (.fldA 4 (x 7)),
  q 42 (.ld1 (x 41)),
  q 43 (.call (.const (.func (.func 28) [] [])) [.tmp 42, .const (.str [116, 101, 120, 116])]),
  q 44 (.call (.const (.func (.func 47) [] [])) [.tmp 43]),
  q 11 (.mov (x 44))]
def S19.r16 : List AOpr := [
  q 46 (.arith .eql (x 36) (.const (.int .i64 4))),
  q 45 (.mov (x 46))]
def S19.r17 : List AOpr := [
  q 47 (.fldA 4 (x 7)),
  q 48 (.ld1 (x 47)),
  q 49 (.call (.const (.func (.func 28) [] [])) [.tmp 48, .const (.str [112, 108, 97, 99, 101, 104, 111, 108, 100, 101, 114])]),
  q 50 (.call (.const (.func (.func 47) [] [])) [.tmp 49]),
  q 11 (.mov (x 50))]
def S19.r18 : List AOpr := [
  q 51 (.mov (x 11)),
  q 52 (.arith .neq (x 51) (.const (.str [])))]
def S19.r19 : List AOpr := [
  q 53 (.mov (x 11)),
  q 6 (.mov (x 53))]
def S19.r20 : List AOpr := [
  q 54 (.fldA 0 (x 3)),
  q 55 (.ldn 3 (x 54)),
  q 56 (.mov (x 2)),
  q 57 (.call (.const (.func (.func 18) [] [])) [.tmp 55, .tmp 56])]
def S19.r21 : List AOpr := [
  q 59 (.arith .eql (x 57) (.const (.int .i64 4))),
  q 58 (.mov (x 59))]
def S19.r22 : List AOpr := [
  q 60 (.arith .eql (x 57) (.const (.int .i64 7))),
  q 58 (.mov (x 60))]
def S19.r23 : List AOpr := [
  q 61 (.arith .eql (x 57) (.const (.int .i64 8))),
  q 58 (.mov (x 61))]
def S19.r24 : List AOpr := [
  q 62 (.arith .eql (x 57) (.const (.int .i64 10))),
  q 58 (.mov (x 62))]
def S19.r25 : List AOpr := [
  q 63 (.arith .eql (x 57) (.const (.int .i64 12))),
  q 58 (.mov (x 63))]
def S19.r26 : List AOpr := [
  q 64 (.arith .eql (x 57) (.const (.int .i64 3))),
  q 58 (.mov (x 64))]
def S19.r27 : List AOpr := [
  q 65 (.fldA 2 (x 7)),
  q 66 (.ld1 (x 65)),
  q 67 (.arith .neq (x 66) (.const (.int .i64 4))),
  q 68 (.mov (x 67)),
  ⟨some 69, .fldA 2 (x 7), some (68, true)⟩,
  ⟨some 70, .ld1 (x 69), some (68, true)⟩,
  ⟨some 71, .arith .neq (x 70) (.const (.int .i64 13)), some (68, true)⟩,
  q 72 (.pick (x 68) (x 71) (.const (.bool false)))]
def S19.r28 : List AOpr := [
  q 73 (.ldn 6 (x 3)),
  q 74 (.mov (x 1)),
  q 75 (.ldn 7 (x 7)),
  q 76 (.call (.const (.func (.func 48) [] [])) [.tmp 73, .tmp 74, .tmp 75]),
  q 77 (.call (.const (.func (.func 47) [] [])) [.tmp 76]),
  q 11 (.mov (x 77))]
def S19.r29 : List AOpr := [
  q 78 (.mov (x 11)),
  q 79 (.arith .neq (x 78) (.const (.str [])))]
def S19.r30 : List AOpr := [
  q 80 (.mov (x 11)),
  q 6 (.mov (x 80))]
def S19.r31 : List AOpr := [
  q 81 (.fldA 4 (x 7)),
  q 82 (.ld1 (x 81)),
  q 83 (.call (.const (.func (.func 28) [] [])) [.tmp 82, .const (.str [116, 105, 116, 108, 101])]),
  q 84 (.call (.const (.func (.func 47) [] [])) [.tmp 83]),
  q 6 (.mov (x 84))]
def S19 : SFn := ⟨85, [.tmp 6], .seq (.reg S19.r0) (.seq (.reg S19.r1) (.seq (.seq (.reg S19.r2) (.cond (x 20) (.seq (.reg S19.r3) (.ret)) (.skip))) (.seq (.seq (.reg S19.r4) (.seq (.reg S19.r5) (.cond (x 26) (.seq (.reg S19.r6) (.ret)) (.skip)))) (.seq (.seq (.reg S19.r7) (.seq (.reg S19.r8) (.cond (x 33) (.seq (.reg S19.r9) (.ret)) (.skip)))) (.seq (.reg S19.r10) (.seq (.seq (.reg S19.r11) (.joinN [1, 2, 3, 7, 11] (.block 0 (.seq (.seq (.reg S19.r12) (.joinN [1, 2, 3, 7, 11, 36, 37] (.cond (x 37) (.skip) (.seq (.reg S19.r13) (.cond (x 37) (.skip) (.reg S19.r14)))))) (.cond (x 37) (.reg S19.r15) (.seq (.reg S19.r16) (.cond (x 45) (.reg S19.r17) (.skip)))))))) (.seq (.seq (.reg S19.r18) (.cond (x 52) (.seq (.reg S19.r19) (.ret)) (.skip))) (.seq (.seq (.reg S19.r20) (.joinN [7, 11] (.block 1 (.seq (.seq (.reg S19.r21) (.joinN [1, 3, 7, 11, 58] (.cond (x 58) (.skip) (.seq (.reg S19.r22) (.cond (x 58) (.skip) (.seq (.reg S19.r23) (.cond (x 58) (.skip) (.seq (.reg S19.r24) (.cond (x 58) (.skip) (.seq (.reg S19.r25) (.cond (x 58) (.skip) (.reg S19.r26)))))))))))) (.cond (x 58) (.seq (.joinN [1, 3, 7, 11, 72] (.reg S19.r27)) (.cond (x 72) (.reg S19.r28) (.skip))) (.skip)))))) (.seq (.seq (.reg S19.r29) (.cond (x 79) (.seq (.reg S19.r30) (.ret)) (.skip))) (.seq (.reg S19.r31) (.ret)))))))))))⟩
theorem S19_ok : EOk Tryz.prog 19 S19 := ⟨Tryz.f19, by kernel_rfl, by kernel_rfl, by decide, by kernel_rfl, its_nil (by kernel_rfl)⟩
def o19_a1 (cl : Handler) (N : Nat) (v1 v2 v3 v7 v11 v36 v37 : AV) (h : AH) : Ans :=
  fif v37 (
  some (.nrm, [], [v1, v2, v3, v7, v11, v36, v37], h)) (
  fst (kArith h .eql v36 (.int .i64 7)) fun v39 h =>
  fif v39 (
  some (.nrm, [], [v1, v2, v3, v7, v11, v36, v39], h)) (
  fst (kArith h .eql v36 (.int .i64 9)) fun v40 h =>
  some (.nrm, [], [v1, v2, v3, v7, v11, v36, v40], h)))
def o19_j2 (cl : Handler) (N : Nat) (v1 v2 v3 v7 v11 v36 v37 : AV) (h : AH) : Ans :=
  fif v37 (
  fst (kFldA h 4 v7) fun v41 h =>
  fst (kLd1 h v41) fun v42 h =>
  fst (cl 28 [v42, (.str [116, 101, 120, 116])] h) fun v43 h =>
  fst (cl 47 [v43] h) fun v44 h =>
  some (.nrm, [], [v1, v2, v3, v7, v44], h)) (
  fst (kArith h .eql v36 (.int .i64 4)) fun v46 h =>
  fif v46 (
  fst (kFldA h 4 v7) fun v47 h =>
  fst (kLd1 h v47) fun v48 h =>
  fst (cl 28 [v48, (.str [112, 108, 97, 99, 101, 104, 111, 108, 100, 101, 114])] h) fun v49 h =>
  fst (cl 47 [v49] h) fun v50 h =>
  some (.nrm, [], [v1, v2, v3, v7, v50], h)) (
  some (.nrm, [], [v1, v2, v3, v7, v11], h)))
def o19_a3 (cl : Handler) (N : Nat) (v1 v2 v3 v7 v11 v36 : AV) (h : AH) : Ans :=
  fst (kArith h .eql v36 (.int .i64 2)) fun v38 h =>
  fjn (o19_a1 cl N v1 v2 v3 v7 v11 v36 v38 h) fun _ vs h => o19_j2 cl N (nthD vs 0) (nthD vs 1) (nthD vs 2) (nthD vs 3) (nthD vs 4) (nthD vs 5) (nthD vs 6) h
def o19_a4 (cl : Handler) (N : Nat) (v1 v3 v7 v11 v57 v58 : AV) (h : AH) : Ans :=
  fif v58 (
  some (.nrm, [], [v1, v3, v7, v11, v58], h)) (
  fst (kArith h .eql v57 (.int .i64 7)) fun v60 h =>
  fif v60 (
  some (.nrm, [], [v1, v3, v7, v11, v60], h)) (
  fst (kArith h .eql v57 (.int .i64 8)) fun v61 h =>
  fif v61 (
  some (.nrm, [], [v1, v3, v7, v11, v61], h)) (
  fst (kArith h .eql v57 (.int .i64 10)) fun v62 h =>
  fif v62 (
  some (.nrm, [], [v1, v3, v7, v11, v62], h)) (
  fst (kArith h .eql v57 (.int .i64 12)) fun v63 h =>
  fif v63 (
  some (.nrm, [], [v1, v3, v7, v11, v63], h)) (
  fst (kArith h .eql v57 (.int .i64 3)) fun v64 h =>
  some (.nrm, [], [v1, v3, v7, v11, v64], h))))))
def o19_a5 (cl : Handler) (N : Nat) (v1 v3 v7 v11 : AV) (h : AH) : Ans :=
  fst (kFldA h 2 v7) fun v65 h =>
  fst (kLd1 h v65) fun v66 h =>
  fst (kArith h .neq v66 (.int .i64 4)) fun v67 h =>
  fgd (gdv true v67) (kFldA h 2 v7) h fun v69 h =>
  fgd (gdv true v67) (kLd1 h v69) h fun v70 h =>
  fgd (gdv true v67) (kArith h .neq v70 (.int .i64 13)) h fun v71 h =>
  fst (kPick h v67 v71 (.bool false)) fun v72 h =>
  some (.nrm, [], [v1, v3, v7, v11, v72], h)
def o19_j6 (cl : Handler) (N : Nat) (v1 v3 v7 v11 v72 : AV) (h : AH) : Ans :=
  fif v72 (
  fst (kLdn h 6 v3) fun v73 h =>
  fst (kLdn h 7 v7) fun v75 h =>
  fst (cl 48 [v73, v1, v75] h) fun v76 h =>
  fst (cl 47 [v76] h) fun v77 h =>
  some (.nrm, [], [v7, v77], h)) (
  some (.nrm, [], [v7, v11], h))
def o19_j7 (cl : Handler) (N : Nat) (v1 v3 v7 v11 v58 : AV) (h : AH) : Ans :=
  fif v58 (
  fjn (o19_a5 cl N v1 v3 v7 v11 h) fun _ vs h => o19_j6 cl N (nthD vs 0) (nthD vs 1) (nthD vs 2) (nthD vs 3) (nthD vs 4) h) (
  some (.nrm, [], [v7, v11], h))
def o19_a8 (cl : Handler) (N : Nat) (v1 v3 v7 v11 v57 : AV) (h : AH) : Ans :=
  fst (kArith h .eql v57 (.int .i64 4)) fun v59 h =>
  fjn (o19_a4 cl N v1 v3 v7 v11 v57 v59 h) fun _ vs h => o19_j7 cl N (nthD vs 0) (nthD vs 1) (nthD vs 2) (nthD vs 3) (nthD vs 4) h
def o19_j9 (cl : Handler) (N : Nat) (v7 v11 : AV) (h : AH) : Ans :=
  fst (kArith h .neq v11 (.str [])) fun v79 h =>
  fif v79 (
  some (.nrm, [], [v11], h)) (
  fst (kFldA h 4 v7) fun v81 h =>
  fst (kLd1 h v81) fun v82 h =>
  fst (cl 28 [v82, (.str [116, 105, 116, 108, 101])] h) fun v83 h =>
  fst (cl 47 [v83] h) fun v84 h =>
  some (.nrm, [], [v84], h))
def o19_j10 (cl : Handler) (N : Nat) (v1 v2 v3 v7 v11 : AV) (h : AH) : Ans :=
  fst (kArith h .neq v11 (.str [])) fun v52 h =>
  fif v52 (
  some (.nrm, [], [v11], h)) (
  fst (kFldA h 0 v3) fun v54 h =>
  fst (kLdn h 3 v54) fun v55 h =>
  fst (cl 18 [v55, v2] h) fun v57 h =>
  fjn (o19_a8 cl N v1 v3 v7 v11 v57 h) fun _ vs h => o19_j9 cl N (nthD vs 0) (nthD vs 1) h)
def o19_s1 (cl : Handler) (N : Nat) (v1 v2 v3 v7 v21 : AV) (h : AH) : Ans :=
  fst (kLdn h 7 v7) fun v23 h =>
  fst (cl 46 [v21, v1, v23, (.str [108, 97, 98, 101, 108, 108, 101, 100, 98, 121])] h) fun v24 h =>
  fst (kArith h .neq v24 (.str [])) fun v26 h =>
  fif v26 (
  some (.nrm, [], [v24], h)) (
  fst (kFldA h 4 v7) fun v28 h =>
  fst (kLd1 h v28) fun v29 h =>
  fst (cl 28 [v29, (.str [108, 97, 98, 101, 108])] h) fun v30 h =>
  fst (cl 47 [v30] h) fun v31 h =>
  fst (kArith h .neq v31 (.str [])) fun v33 h =>
  fif v33 (
  some (.nrm, [], [v31], h)) (
  fst (kFldA h 2 v7) fun v35 h =>
  fst (kLd1 h v35) fun v36 h =>
  fjn (o19_a3 cl N v1 v2 v3 v7 (.str []) v36 h) fun _ vs h => o19_j10 cl N (nthD vs 0) (nthD vs 1) (nthD vs 2) (nthD vs 3) (nthD vs 4) h))
def o19 (cl : Handler) (N : Nat) (v0 v1 v2 : AV) (h : AH) : Ans :=
  fst (kBox h v0) fun v3 h =>
  fst (kFldA h 0 v3) fun v13 h =>
  fst (kLdn h 3 v13) fun v14 h =>
  fst (cl 16 [v14, v2] h) fun v16 h =>
  fst (kExt h v16 0) fun v17 h =>
  fst (kExt h v16 1) fun v18 h =>
  fst (kNew h S19.z0) fun v7 h =>
  fst (kSt h 7 v7 v17) fun _ h =>
  fst (kUn h .not v18) fun v20 h =>
  fif v20 (
  some (.nrm, [], [(.str [])], h)) (
  fst (kLdn h 6 v3) fun v21 h =>
  o19_s1 cl N v1 v2 v3 v7 v21 h)
theorem o19_eq (cl : Handler) (N : Nat) (v0 v1 v2 : AV) (h : AH) : frun cl N S19 [v0, v1, v2] h = fans (o19 cl N v0 v1 v2 h) := by kernel_rfl
def w19 (N : Nat) : OF := fun cl args h => match args with
  | [v0, v1, v2] => fans (o19 cl N v0 v1 v2 h)
  | _ => none
theorem w19_ok (N : Nat) : OkF Tryz.prog 19 (w19 N) := .of (N := N) (S19_ok) fun cl args h r hr => by
  unfold w19 at hr
  split at hr
  · exact (o19_eq cl N _ _ _ _).trans hr
  · cases hr

def S20.z0 : List AV := [.int .i64 0, .int .i64 0, .int .i64 0, .str [], .nilsl, .nilsl, .nilsl]
/- widgetry/widgetryref38.described -/
def S20.r0 : List AOpr := [
  q 3 (.box (x 0)),
  q 6 (.mov (.const (.str [])))]
def S20.r1 : List AOpr := [
  q 13 (.fldA 0 (x 3)),
  q 14 (.ldn 3 (x 13)),
  q 15 (.mov (x 2)),
  q 16 (.call (.const (.func (.func 16) [] [])) [.tmp 14, .tmp 15]),
  q 12 (.mov (x 16)),
  q 17 (.ext (x 12) 0),
  q 18 (.ext (x 12) 1),
  q 7 (.new S20.z0),
  ⟨none, .st 7 (x 7) (x 17), none⟩,
  q 8 (.mov (x 18))]
def S20.r2 : List AOpr := [
  q 19 (.mov (x 8)),
  q 20 (.un .not (x 19))]
def S20.r3 : List AOpr := [
  q 6 (.mov (.const (.str [])))]
def S20.r4 : List AOpr := [
  q 21 (.ldn 6 (x 3)),
  q 22 (.mov (x 1)),
  q 23 (.ldn 7 (x 7)),
  q 24 (.call (.const (.func (.func 46) [] [])) [.tmp 21, .tmp 22, .tmp 23, .const (.str [100, 101, 115, 99, 114, 105, 98, 101, 100, 98, 121])]),
  q 9 (.mov (x 24))]
def S20.r5 : List AOpr := [
  q 25 (.mov (x 9)),
  q 26 (.arith .neq (x 25) (.const (.str [])))]
def S20.r6 : List AOpr := [
  q 27 (.mov (x 9)),
  q 6 (.mov (x 27))]
def S20.r7 : List AOpr := [
  q 28 (.fldA 4 (x 7)),
  q 29 (.ld1 (x 28)),
  q 30 (.call (.const (.func (.func 28) [] [])) [.tmp 29, .const (.str [100, 101, 115, 99, 114, 105, 112, 116, 105, 111, 110])]),
  q 31 (.call (.const (.func (.func 47) [] [])) [.tmp 30]),
  q 10 (.mov (x 31))]
def S20.r8 : List AOpr := [
  q 32 (.mov (x 10)),
  q 33 (.arith .neq (x 32) (.const (.str [])))]
def S20.r9 : List AOpr := [
  q 34 (.mov (x 10)),
  q 6 (.mov (x 34))]
def S20.r10 : List AOpr := [
  q 35 (.fldA 4 (x 7)),
  q 36 (.ld1 (x 35)),
  q 37 (.call (.const (.func (.func 28) [] [])) [.tmp 36, .const (.str [116, 105, 116, 108, 101])]),
  q 38 (.call (.const (.func (.func 47) [] [])) [.tmp 37]),
  q 11 (.mov (x 38))]
def S20.r11 : List AOpr := [
  q 39 (.mov (x 11)),
  q 40 (.ldn 6 (x 3)),
  q 41 (.mov (x 1)),
  q 42 (.mov (x 2)),
  q 43 (.call (.const (.func (.func 19) [] [])) [.tmp 40, .tmp 41, .tmp 42]),
  q 44 (.arith .eql (x 39) (x 43))]
def S20.r12 : List AOpr := [
  q 6 (.mov (.const (.str [])))]
def S20.r13 : List AOpr := [
  q 45 (.mov (x 11)),
  q 6 (.mov (x 45))]
def S20 : SFn := ⟨46, [.tmp 6], .seq (.reg S20.r0) (.seq (.reg S20.r1) (.seq (.seq (.reg S20.r2) (.cond (x 20) (.seq (.reg S20.r3) (.ret)) (.skip))) (.seq (.seq (.reg S20.r4) (.seq (.reg S20.r5) (.cond (x 26) (.seq (.reg S20.r6) (.ret)) (.skip)))) (.seq (.seq (.reg S20.r7) (.seq (.reg S20.r8) (.cond (x 33) (.seq (.reg S20.r9) (.ret)) (.skip)))) (.seq (.reg S20.r10) (.seq (.seq (.reg S20.r11) (.cond (x 44) (.seq (.reg S20.r12) (.ret)) (.skip))) (.seq (.reg S20.r13) (.ret))))))))⟩
theorem S20_ok : EOk Tryz.prog 20 S20 := ⟨Tryz.f20, by kernel_rfl, by kernel_rfl, by decide, by kernel_rfl, its_nil (by kernel_rfl)⟩
def o20_s1 (cl : Handler) (N : Nat) (v1 v2 v3 v36 : AV) (h : AH) : Ans :=
  fst (cl 28 [v36, (.str [116, 105, 116, 108, 101])] h) fun v37 h =>
  fst (cl 47 [v37] h) fun v38 h =>
  fst (kLdn h 6 v3) fun v40 h =>
  fst (cl 19 [v40, v1, v2] h) fun v43 h =>
  fst (kArith h .eql v38 v43) fun v44 h =>
  fif v44 (
  some (.nrm, [], [(.str [])], h)) (
  some (.nrm, [], [v38], h))
def o20_s2 (cl : Handler) (N : Nat) (v1 v2 v3 v7 v21 : AV) (h : AH) : Ans :=
  fst (kLdn h 7 v7) fun v23 h =>
  fst (cl 46 [v21, v1, v23, (.str [100, 101, 115, 99, 114, 105, 98, 101, 100, 98, 121])] h) fun v24 h =>
  fst (kArith h .neq v24 (.str [])) fun v26 h =>
  fif v26 (
  some (.nrm, [], [v24], h)) (
  fst (kFldA h 4 v7) fun v28 h =>
  fst (kLd1 h v28) fun v29 h =>
  fst (cl 28 [v29, (.str [100, 101, 115, 99, 114, 105, 112, 116, 105, 111, 110])] h) fun v30 h =>
  fst (cl 47 [v30] h) fun v31 h =>
  fst (kArith h .neq v31 (.str [])) fun v33 h =>
  fif v33 (
  some (.nrm, [], [v31], h)) (
  fst (kFldA h 4 v7) fun v35 h =>
  fst (kLd1 h v35) fun v36 h =>
  o20_s1 cl N v1 v2 v3 v36 h))
def o20 (cl : Handler) (N : Nat) (v0 v1 v2 : AV) (h : AH) : Ans :=
  fst (kBox h v0) fun v3 h =>
  fst (kFldA h 0 v3) fun v13 h =>
  fst (kLdn h 3 v13) fun v14 h =>
  fst (cl 16 [v14, v2] h) fun v16 h =>
  fst (kExt h v16 0) fun v17 h =>
  fst (kExt h v16 1) fun v18 h =>
  fst (kNew h S20.z0) fun v7 h =>
  fst (kSt h 7 v7 v17) fun _ h =>
  fst (kUn h .not v18) fun v20 h =>
  fif v20 (
  some (.nrm, [], [(.str [])], h)) (
  fst (kLdn h 6 v3) fun v21 h =>
  o20_s2 cl N v1 v2 v3 v7 v21 h)
theorem o20_eq (cl : Handler) (N : Nat) (v0 v1 v2 : AV) (h : AH) : frun cl N S20 [v0, v1, v2] h = fans (o20 cl N v0 v1 v2 h) := by kernel_rfl
def w20 (N : Nat) : OF := fun cl args h => match args with
  | [v0, v1, v2] => fans (o20 cl N v0 v1 v2 h)
  | _ => none
theorem w20_ok (N : Nat) : OkF Tryz.prog 20 (w20 N) := .of (N := N) (S20_ok) fun cl args h r hr => by
  unfold w20 at hr
  split at hr
  · exact (o20_eq cl N _ _ _ _).trans hr
  · cases hr

def S21.z0 : List AV := [.int .i64 0, .int .i64 0, .int .i64 0, .str [], .nilsl, .nilsl, .nilsl]
def S21.z1 : List AV := [.int .i64 0, .int .i64 0, .int .i64 0, .int .i64 0]
/- (widgetry/widgetryref37.Facts).Flags -/
def S21.r0 : List AOpr := [
  q 6 (.box (x 0)),
  q 9 (.box (x 3)),
  q 12 (.mov (.const (.int .i64 0)))]
def S21.r1 : List AOpr := [
  q 17 (.fldA 0 (x 6)),
  q 18 (.fldA 0 (x 17)),
  q 19 (.ldn 3 (x 18)),
  q 13 (.new [.int .i64 0, .int .i64 0, .nilsl]),
  ⟨none, .st 3 (x 13) (x 19), none⟩]
def S21.r2 : List AOpr := [
  q 21 (.ldn 3 (x 13)),
  q 22 (.mov (x 5)),
  q 23 (.call (.const (.func (.func 16) [] [])) [.tmp 21, .tmp 22]),
  q 20 (.mov (x 23)),
  q 24 (.ext (x 20) 0),
  q 25 (.ext (x 20) 1),
  q 14 (.new S21.z0),
  ⟨none, .st 7 (x 14) (x 24), none⟩,
  q 15 (.mov (x 25))]
def S21.r3 : List AOpr := [
  q 26 (.mov (x 15)),
  q 27 (.un .not (x 26)),
  q 28 (.mov (x 27)),
  ⟨some 29, .fldA 0 (x 6), some (28, false)⟩,
  ⟨some 30, .fldA 4 (x 29), some (28, false)⟩,
  ⟨some 31, .ld1 (x 30), some (28, false)⟩,
  ⟨some 32, .len (x 31), some (28, false)⟩,
  ⟨some 33, .arith .eql (x 32) (.const (.int .i64 0)), some (28, false)⟩,
  q 34 (.pick (x 28) (.const (.bool true)) (x 33))]
def S21.r4 : List AOpr := [
  q 12 (.mov (.const (.int .i64 0)))]
def S21.r5 : List AOpr := [
  q 16 (.mov (.const (.int .i64 0)))]
def S21.r6 : List AOpr := [
  q 35 (.fldA 6 (x 6)),
  q 36 (.ld1 (x 35)),
  q 37 (.mov (x 5)),
  q 38 (.call (.const (.func (.func 30) [] [])) [.tmp 36, .tmp 37])]
def S21.r7 : List AOpr := [
  q 39 (.mov (x 16)),
  q 40 (.arith .or (x 39) (.const (.int .i64 1))),
  q 16 (.mov (x 40))]
def S21.r8 : List AOpr := [
  q 41 (.mov (x 4)),
  q 42 (.mov (x 5)),
  q 43 (.arith .eql (x 41) (x 42))]
def S21.r9 : List AOpr := [
  q 44 (.mov (x 16)),
  q 45 (.arith .or (x 44) (.const (.int .i64 2))),
  q 16 (.mov (x 45))]
def S21.r10 : List AOpr := [
  q 46 (.fldA 0 (x 6)),
  q 47 (.ldn 6 (x 46)),
  q 48 (.mov (x 5)),
  q 49 (.call (.const (.func (.func 49) [] [])) [.tmp 47, .tmp 48])]
def S21.r11 : List AOpr := [
  q 50 (.mov (x 16)),
  q 51 (.arith .or (x 50) (.const (.int .i64 4))),
  q 16 (.mov (x 51))]
def S21.r12 : List AOpr := [
  q 52 (.fldA 4 (x 14)),
  q 53 (.ld1 (x 52)),
  q 54 (.call (.const (.func (.func 45) [] [])) [.tmp 53, .const (.str [99, 104, 101, 99, 107, 101, 100])])]
def S21.r13 : List AOpr := [
  q 55 (.mov (x 16)),
  q 56 (.arith .or (x 55) (.const (.int .i64 8))),
  q 16 (.mov (x 56))]
def S21.r14 : List AOpr := [
  q 57 (.fldA 4 (x 14)),
  q 58 (.ld1 (x 57)),
  q 59 (.call (.const (.func (.func 45) [] [])) [.tmp 58, .const (.str [114, 101, 97, 100, 111, 110, 108, 121])])]
def S21.r15 : List AOpr := [
  q 60 (.mov (x 16)),
  q 61 (.arith .or (x 60) (.const (.int .i64 16))),
  q 16 (.mov (x 61))]
def S21.r16 : List AOpr := [
  q 62 (.fldA 4 (x 14)),
  q 63 (.ld1 (x 62)),
  q 64 (.call (.const (.func (.func 45) [] [])) [.tmp 63, .const (.str [114, 101, 113, 117, 105, 114, 101, 100])])]
def S21.r17 : List AOpr := [
  q 65 (.mov (x 16)),
  q 66 (.arith .or (x 65) (.const (.int .i64 32))),
  q 16 (.mov (x 66))]
def S21.r18 : List (AOpr × Nat) := [
  (q 67 (.ldn 3 (x 13)), 0),
  (q 68 (.fldA 0 (x 6)), 0),
  (q 69 (.fldA 3 (x 68)), 2),
  (q 70 (.ld1 (x 69)), 6),
  (q 71 (.mov (x 1)), 0),
  (q 72 (.mov (x 2)), 0),
  (q 73 (.mov (x 5)), 0),
  (q 74 (.call (.const (.func (.func 52) [] [])) [.tmp 67, .tmp 70, .tmp 71, .tmp 72, .tmp 73]), 127),
  (q 75 (.fldA 0 (x 9)), 0),
  (q 76 (.ld1 (x 75)), 256),
  (q 77 (.fldA 1 (x 9)), 0),
  (q 78 (.ld1 (x 77)), 1024),
  (q 79 (.build S21.z1 [(2, 1, .tmp 76), (3, 1, .tmp 78)]), 3840),
  (q 80 (.call (.const (.func (.func 51) [] [])) [.tmp 74, .tmp 79]), 8191),
  (q 81 (.call (.const (.func (.func 50) [] [])) [.tmp 80]), 16383)]
def S21.r19 : List AOpr := [
  q 82 (.mov (x 16)),
  q 83 (.arith .or (x 82) (.const (.int .i64 64))),
  q 16 (.mov (x 83))]
def S21.r20 : List AOpr := [
  q 84 (.fldA 2 (x 14)),
  q 85 (.ld1 (x 84)),
  q 86 (.arith .eql (x 85) (.const (.int .i64 12))),
  q 87 (.mov (x 86)),
  ⟨some 88, .fldA 7 (x 6), some (87, true)⟩,
  ⟨some 89, .ld1 (x 88), some (87, true)⟩,
  ⟨some 90, .mov (x 5), some (87, true)⟩,
  ⟨some 91, .arith .eql (x 89) (x 90), some (87, true)⟩,
  q 92 (.pick (x 87) (x 91) (.const (.bool false)))]
def S21.r21 : List AOpr := [
  q 93 (.mov (x 16)),
  q 94 (.arith .or (x 93) (.const (.int .i64 128))),
  q 16 (.mov (x 94))]
def S21.r22 : List AOpr := [
  q 95 (.mov (x 16)),
  q 12 (.mov (x 95))]
def S21 : SFn := ⟨96, [.tmp 12], .seq (.reg S21.r0) (.seq (.reg S21.r1) (.seq (.reg S21.r2) (.seq (.seq (.joinN [1, 2, 4, 5, 6, 9, 13, 14, 34] (.reg S21.r3)) (.cond (x 34) (.seq (.reg S21.r4) (.ret)) (.skip))) (.seq (.reg S21.r5) (.seq (.seq (.reg S21.r6) (.joinN [1, 2, 4, 5, 6, 9, 13, 14, 16] (.cond (x 38) (.reg S21.r7) (.skip)))) (.seq (.seq (.reg S21.r8) (.joinN [1, 2, 5, 6, 9, 13, 14, 16] (.cond (x 43) (.reg S21.r9) (.skip)))) (.seq (.seq (.reg S21.r10) (.joinN [1, 2, 5, 6, 9, 13, 14, 16] (.cond (x 49) (.reg S21.r11) (.skip)))) (.seq (.seq (.reg S21.r12) (.joinN [1, 2, 5, 6, 9, 13, 14, 16] (.cond (x 54) (.reg S21.r13) (.skip)))) (.seq (.seq (.reg S21.r14) (.joinN [1, 2, 5, 6, 9, 13, 14, 16] (.cond (x 59) (.reg S21.r15) (.skip)))) (.seq (.seq (.reg S21.r16) (.joinN [1, 2, 5, 6, 9, 13, 14, 16] (.cond (x 64) (.reg S21.r17) (.skip)))) (.seq (.seq (.draw S21.r18) (.joinN [5, 6, 14, 16] (.cond (x 81) (.reg S21.r19) (.skip)))) (.seq (.seq (.joinN [16, 92] (.reg S21.r20)) (.joinN [16] (.cond (x 92) (.reg S21.r21) (.skip)))) (.seq (.reg S21.r22) (.ret))))))))))))))⟩
theorem S21_ok : EOk Tryz.prog 21 S21 := ⟨Tryz.f21, by kernel_rfl, by kernel_rfl, by decide, by kernel_rfl, its_nil (by kernel_rfl)⟩
def o21_a1 (cl : Handler) (N : Nat) (v1 v2 v4 v5 v6 v9 v13 v14 v15 : AV) (h : AH) : Ans :=
  fst (kUn h .not v15) fun v27 h =>
  fgd (gdv false v27) (kFldA h 0 v6) h fun v29 h =>
  fgd (gdv false v27) (kFldA h 4 v29) h fun v30 h =>
  fgd (gdv false v27) (kLd1 h v30) h fun v31 h =>
  fgd (gdv false v27) (kLen h v31) h fun v32 h =>
  fgd (gdv false v27) (kArith h .eql v32 (.int .i64 0)) h fun v33 h =>
  fst (kPick h v27 (.bool true) v33) fun v34 h =>
  some (.nrm, [], [v1, v2, v4, v5, v6, v9, v13, v14, v34], h)
def o21_a2 (cl : Handler) (N : Nat) (v1 v2 v4 v5 v6 v9 v13 v14 v16 v38 : AV) (h : AH) : Ans :=
  fif v38 (
  fst (kArith h .or v16 (.int .i64 1)) fun v40 h =>
  some (.nrm, [], [v1, v2, v4, v5, v6, v9, v13, v14, v40], h)) (
  some (.nrm, [], [v1, v2, v4, v5, v6, v9, v13, v14, v16], h))
def o21_a3 (cl : Handler) (N : Nat) (v1 v2 v5 v6 v9 v13 v14 v16 v43 : AV) (h : AH) : Ans :=
  fif v43 (
  fst (kArith h .or v16 (.int .i64 2)) fun v45 h =>
  some (.nrm, [], [v1, v2, v5, v6, v9, v13, v14, v45], h)) (
  some (.nrm, [], [v1, v2, v5, v6, v9, v13, v14, v16], h))
def o21_a4 (cl : Handler) (N : Nat) (v1 v2 v5 v6 v9 v13 v14 v16 v49 : AV) (h : AH) : Ans :=
  fif v49 (
  fst (kArith h .or v16 (.int .i64 4)) fun v51 h =>
  some (.nrm, [], [v1, v2, v5, v6, v9, v13, v14, v51], h)) (
  some (.nrm, [], [v1, v2, v5, v6, v9, v13, v14, v16], h))
def o21_a5 (cl : Handler) (N : Nat) (v1 v2 v5 v6 v9 v13 v14 v16 v54 : AV) (h : AH) : Ans :=
  fif v54 (
  fst (kArith h .or v16 (.int .i64 8)) fun v56 h =>
  some (.nrm, [], [v1, v2, v5, v6, v9, v13, v14, v56], h)) (
  some (.nrm, [], [v1, v2, v5, v6, v9, v13, v14, v16], h))
def o21_a6 (cl : Handler) (N : Nat) (v1 v2 v5 v6 v9 v13 v14 v16 v59 : AV) (h : AH) : Ans :=
  fif v59 (
  fst (kArith h .or v16 (.int .i64 16)) fun v61 h =>
  some (.nrm, [], [v1, v2, v5, v6, v9, v13, v14, v61], h)) (
  some (.nrm, [], [v1, v2, v5, v6, v9, v13, v14, v16], h))
def o21_a7 (cl : Handler) (N : Nat) (v1 v2 v5 v6 v9 v13 v14 v16 v64 : AV) (h : AH) : Ans :=
  fif v64 (
  fst (kArith h .or v16 (.int .i64 32)) fun v66 h =>
  some (.nrm, [], [v1, v2, v5, v6, v9, v13, v14, v66], h)) (
  some (.nrm, [], [v1, v2, v5, v6, v9, v13, v14, v16], h))
def o21_a8 (cl : Handler) (N : Nat) (v5 v6 v14 v16 v81 : AV) (h : AH) : Ans :=
  fif v81 (
  fst (kArith h .or v16 (.int .i64 64)) fun v83 h =>
  some (.nrm, [], [v5, v6, v14, v83], h)) (
  some (.nrm, [], [v5, v6, v14, v16], h))
def o21_a9 (cl : Handler) (N : Nat) (v5 v6 v14 v16 : AV) (h : AH) : Ans :=
  fst (kFldA h 2 v14) fun v84 h =>
  fst (kLd1 h v84) fun v85 h =>
  fst (kArith h .eql v85 (.int .i64 12)) fun v86 h =>
  fgd (gdv true v86) (kFldA h 7 v6) h fun v88 h =>
  fgd (gdv true v86) (kLd1 h v88) h fun v89 h =>
  fgd (gdv true v86) (kMov h v5) h fun v90 h =>
  fgd (gdv true v86) (kArith h .eql v89 v90) h fun v91 h =>
  fst (kPick h v86 v91 (.bool false)) fun v92 h =>
  some (.nrm, [], [v16, v92], h)
def o21_a10 (cl : Handler) (N : Nat) (v16 v92 : AV) (h : AH) : Ans :=
  fif v92 (
  fst (kArith h .or v16 (.int .i64 128)) fun v94 h =>
  some (.nrm, [], [v94], h)) (
  some (.nrm, [], [v16], h))
def o21_j11 (cl : Handler) (N : Nat) (v16 : AV) (h : AH) : Ans :=
  some (.nrm, [], [v16], h)
def o21_j12 (cl : Handler) (N : Nat) (v16 v92 : AV) (h : AH) : Ans :=
  fjn (o21_a10 cl N v16 v92 h) fun _ vs h => o21_j11 cl N (nthD vs 0) h
def o21_j13 (cl : Handler) (N : Nat) (v5 v6 v14 v16 : AV) (h : AH) : Ans :=
  fjn (o21_a9 cl N v5 v6 v14 v16 h) fun _ vs h => o21_j12 cl N (nthD vs 0) (nthD vs 1) h
def o21_s1 (cl : Handler) (N : Nat) (c0 c1 c2 c3 c4 c5 c6 c7 c8 c9 : Rec) (v5 v6 v9 v14 v16 v74 v76 : AV) (h : AH) : Ans :=
  fdp h (kFldA h 1 v9) .pure fun v77 c10 h =>
  fdp h (kLd1 h v77) (rdK (rdv v77)) fun v78 c11 h =>
  fdp h (kBuild h S21.z1 [(2, 1, v76), (3, 1, v78)]) .pure fun v79 c12 h =>
  fde h (cl 51 [v74, v79] h) fun v80 c13 h =>
  fde h (cl 50 [v80] h) fun v81 c14 h =>
  cond (fchk [c0, c1, c2, c3, c4, c5, c6, c7, c8, c9, c10, c11, c12, c13, c14] [(7, 9), (7, 11)]) (fjn (o21_a8 cl N v5 v6 v14 v16 v81 h) fun _ vs h => o21_j13 cl N (nthD vs 0) (nthD vs 1) (nthD vs 2) (nthD vs 3) h) none
def o21_j14 (cl : Handler) (N : Nat) (v1 v2 v5 v6 v9 v13 v14 v16 : AV) (h : AH) : Ans :=
  fdr h 15 fun r h =>
  fdp h (kLdn h 3 v13) (rdK (rdv v13)) fun v67 c0 h =>
  fdp h (kFldA h 0 v6) .pure fun v68 c1 h =>
  fdp h (kFldA h 3 v68) .pure fun v69 c2 h =>
  fdp h (kLd1 h v69) (rdK (rdv v69)) fun v70 c3 h =>
  fdp h (kMov h v1) .pure fun v71 c4 h =>
  fdp h (kMov h v2) .pure fun v72 c5 h =>
  fdp h (kMov h v5) .pure fun v73 c6 h =>
  fde h (cl 52 [v67, v70, v71, v72, v73] h) fun v74 c7 h =>
  fdp h (kFldA h 0 v9) .pure fun v75 c8 h =>
  fdp h (kLd1 h v75) (rdK (rdv v75)) fun v76 c9 h =>
  o21_s1 cl N c0 c1 c2 c3 c4 c5 c6 c7 c8 c9 v5 v6 v9 v14 v16 v74 v76 h
def o21_j15 (cl : Handler) (N : Nat) (v1 v2 v5 v6 v9 v13 v14 v16 : AV) (h : AH) : Ans :=
  fst (kFldA h 4 v14) fun v62 h =>
  fst (kLd1 h v62) fun v63 h =>
  fst (cl 45 [v63, (.str [114, 101, 113, 117, 105, 114, 101, 100])] h) fun v64 h =>
  fjn (o21_a7 cl N v1 v2 v5 v6 v9 v13 v14 v16 v64 h) fun _ vs h => o21_j14 cl N (nthD vs 0) (nthD vs 1) (nthD vs 2) (nthD vs 3) (nthD vs 4) (nthD vs 5) (nthD vs 6) (nthD vs 7) h
def o21_j16 (cl : Handler) (N : Nat) (v1 v2 v5 v6 v9 v13 v14 v16 : AV) (h : AH) : Ans :=
  fst (kFldA h 4 v14) fun v57 h =>
  fst (kLd1 h v57) fun v58 h =>
  fst (cl 45 [v58, (.str [114, 101, 97, 100, 111, 110, 108, 121])] h) fun v59 h =>
  fjn (o21_a6 cl N v1 v2 v5 v6 v9 v13 v14 v16 v59 h) fun _ vs h => o21_j15 cl N (nthD vs 0) (nthD vs 1) (nthD vs 2) (nthD vs 3) (nthD vs 4) (nthD vs 5) (nthD vs 6) (nthD vs 7) h
def o21_j17 (cl : Handler) (N : Nat) (v1 v2 v5 v6 v9 v13 v14 v16 : AV) (h : AH) : Ans :=
  fst (kFldA h 4 v14) fun v52 h =>
  fst (kLd1 h v52) fun v53 h =>
  fst (cl 45 [v53, (.str [99, 104, 101, 99, 107, 101, 100])] h) fun v54 h =>
  fjn (o21_a5 cl N v1 v2 v5 v6 v9 v13 v14 v16 v54 h) fun _ vs h => o21_j16 cl N (nthD vs 0) (nthD vs 1) (nthD vs 2) (nthD vs 3) (nthD vs 4) (nthD vs 5) (nthD vs 6) (nthD vs 7) h
def o21_j18 (cl : Handler) (N : Nat) (v1 v2 v5 v6 v9 v13 v14 v16 : AV) (h : AH) : Ans :=
  fst (kFldA h 0 v6) fun v46 h =>
  fst (kLdn h 6 v46) fun v47 h =>
  fst (cl 49 [v47, v5] h) fun v49 h =>
  fjn (o21_a4 cl N v1 v2 v5 v6 v9 v13 v14 v16 v49 h) fun _ vs h => o21_j17 cl N (nthD vs 0) (nthD vs 1) (nthD vs 2) (nthD vs 3) (nthD vs 4) (nthD vs 5) (nthD vs 6) (nthD vs 7) h
def o21_j19 (cl : Handler) (N : Nat) (v1 v2 v4 v5 v6 v9 v13 v14 v16 : AV) (h : AH) : Ans :=
  fst (kArith h .eql v4 v5) fun v43 h =>
  fjn (o21_a3 cl N v1 v2 v5 v6 v9 v13 v14 v16 v43 h) fun _ vs h => o21_j18 cl N (nthD vs 0) (nthD vs 1) (nthD vs 2) (nthD vs 3) (nthD vs 4) (nthD vs 5) (nthD vs 6) (nthD vs 7) h
def o21_j20 (cl : Handler) (N : Nat) (v1 v2 v4 v5 v6 v9 v13 v14 v34 : AV) (h : AH) : Ans :=
  fif v34 (
  some (.nrm, [], [(.int .i64 0)], h)) (
  fst (kFldA h 6 v6) fun v35 h =>
  fst (kLd1 h v35) fun v36 h =>
  fst (cl 30 [v36, v5] h) fun v38 h =>
  fjn (o21_a2 cl N v1 v2 v4 v5 v6 v9 v13 v14 (.int .i64 0) v38 h) fun _ vs h => o21_j19 cl N (nthD vs 0) (nthD vs 1) (nthD vs 2) (nthD vs 3) (nthD vs 4) (nthD vs 5) (nthD vs 6) (nthD vs 7) (nthD vs 8) h)
def o21_s2 (cl : Handler) (N : Nat) (v1 v2 v4 v5 v6 v9 v13 v20 v24 : AV) (h : AH) : Ans :=
  fst (kExt h v20 1) fun v25 h =>
  fst (kNew h S21.z0) fun v14 h =>
  fst (kSt h 7 v14 v24) fun _ h =>
  fjn (o21_a1 cl N v1 v2 v4 v5 v6 v9 v13 v14 v25 h) fun _ vs h => o21_j20 cl N (nthD vs 0) (nthD vs 1) (nthD vs 2) (nthD vs 3) (nthD vs 4) (nthD vs 5) (nthD vs 6) (nthD vs 7) (nthD vs 8) h
def o21 (cl : Handler) (N : Nat) (v0 v1 v2 v3 v4 v5 : AV) (h : AH) : Ans :=
  fst (kBox h v0) fun v6 h =>
  fst (kBox h v3) fun v9 h =>
  fst (kFldA h 0 v6) fun v17 h =>
  fst (kFldA h 0 v17) fun v18 h =>
  fst (kLdn h 3 v18) fun v19 h =>
  fst (kNew h [.int .i64 0, .int .i64 0, .nilsl]) fun v13 h =>
  fst (kSt h 3 v13 v19) fun _ h =>
  fst (kLdn h 3 v13) fun v21 h =>
  fst (cl 16 [v21, v5] h) fun v23 h =>
  fst (kExt h v23 0) fun v24 h =>
  o21_s2 cl N v1 v2 v4 v5 v6 v9 v13 v23 v24 h
theorem o21_eq (cl : Handler) (N : Nat) (v0 v1 v2 v3 v4 v5 : AV) (h : AH) : frun cl N S21 [v0, v1, v2, v3, v4, v5] h = fans (o21 cl N v0 v1 v2 v3 v4 v5 h) := by kernel_rfl
def w21 (N : Nat) : OF := fun cl args h => match args with
  | [v0, v1, v2, v3, v4, v5] => fans (o21 cl N v0 v1 v2 v3 v4 v5 h)
  | _ => none
theorem w21_ok (N : Nat) : OkF Tryz.prog 21 (w21 N) := .of (N := N) (S21_ok) fun cl args h r hr => by
  unfold w21 at hr
  split at hr
  · exact (o21_eq cl N _ _ _ _ _ _ _).trans hr
  · cases hr

def S22.z0 : List AV := [.int .i64 0, .int .i64 0, .int .i64 0, .str [], .nilsl, .nilsl, .nilsl]
def S22.z1 : List AV := [.int .i64 0, .int .i64 0, .int .i64 0, .int .i64 0, .int .i64 0, .int .i64 0, .nilsl]
/- (widgetry/widgetryref37.Facts).Actions -/
def S22.r0 : List AOpr := [
  q 4 (.box (x 0)),
  q 8 (.mov (.const (.int .i64 0)))]
def S22.r1 : List AOpr := [
  q 17 (.fldA 0 (x 4)),
  q 18 (.fldA 0 (x 17)),
  q 19 (.ldn 3 (x 18)),
  q 9 (.new [.int .i64 0, .int .i64 0, .nilsl]),
  ⟨none, .st 3 (x 9) (x 19), none⟩]
def S22.r2 : List AOpr := [
  q 21 (.ldn 3 (x 9)),
  q 22 (.mov (x 3)),
  q 23 (.call (.const (.func (.func 16) [] [])) [.tmp 21, .tmp 22]),
  q 20 (.mov (x 23)),
  q 24 (.ext (x 20) 0),
  q 25 (.ext (x 20) 1),
  q 10 (.new S22.z0),
  ⟨none, .st 7 (x 10) (x 24), none⟩,
  q 11 (.mov (x 25))]
def S22.r3 : List (AOpr × Nat) := [
  (q 26 (.mov (x 11)), 0),
  (q 27 (.un .not (x 26)), 1),
  (q 28 (.mov (x 27)), 3),
  (⟨some 29, .fldA 0 (x 4), some (28, false)⟩, 7),
  (⟨some 30, .ldn 6 (x 29), some (28, false)⟩, 15),
  (⟨some 31, .mov (x 3), some (28, false)⟩, 7),
  (⟨some 32, .call (.const (.func (.func 49) [] [])) [.tmp 30, .tmp 31], some (28, false)⟩, 63),
  (q 33 (.pick (x 28) (.const (.bool true)) (x 32)), 127),
  (q 34 (.mov (x 33)), 255),
  (⟨some 35, .fldA 0 (x 4), some (34, false)⟩, 511),
  (⟨some 36, .fldA 5 (x 35), some (34, false)⟩, 1023),
  (⟨some 37, .ld1 (x 36), some (34, false)⟩, 2047),
  (⟨some 38, .mov (x 3), some (34, false)⟩, 511),
  (⟨some 39, .call (.const (.func (.func 30) [] [])) [.tmp 37, .tmp 38], some (34, false)⟩, 8191),
  (⟨some 40, .un .not (x 39), some (34, false)⟩, 16383),
  (q 41 (.pick (x 34) (.const (.bool true)) (x 40)), 32767),
  (q 42 (.mov (x 41)), 65535),
  (⟨some 43, .fldA 0 (x 4), some (42, false)⟩, 131071),
  (⟨some 44, .ldn 6 (x 43), some (42, false)⟩, 262143),
  (⟨some 45, .mov (x 3), some (42, false)⟩, 131071),
  (⟨some 46, .call (.const (.func (.func 42) [] [])) [.tmp 44, .tmp 45], some (42, false)⟩, 1048575),
  (⟨some 47, .fldA 7 (x 4), some (42, false)⟩, 131071),
  (⟨some 48, .ld1 (x 47), some (42, false)⟩, 2228223),
  (⟨some 49, .call (.const (.func (.func 30) [] [])) [.tmp 46, .tmp 48], some (42, false)⟩, 8388607),
  (⟨some 50, .un .not (x 49), some (42, false)⟩, 16777215),
  (q 51 (.pick (x 42) (.const (.bool true)) (x 50)), 33554431)]
def S22.r4 : List AOpr := [
  q 8 (.mov (.const (.int .i64 0)))]
def S22.r5 : List AOpr := [
  q 12 (.mov (.const (.int .i64 0)))]
def S22.r6 : List AOpr := [
  q 52 (.ldn 3 (x 9)),
  q 53 (.mov (x 3)),
  q 54 (.call (.const (.func (.func 44) [] [])) [.tmp 52, .tmp 53])]
def S22.r7 : List AOpr := [
  q 55 (.mov (x 12)),
  q 56 (.arith .or (x 55) (.const (.int .i64 1))),
  q 12 (.mov (x 56))]
def S22.r8 : List AOpr := [
  q 57 (.fldA 6 (x 4)),
  q 58 (.ld1 (x 57)),
  q 59 (.mov (x 3)),
  q 60 (.call (.const (.func (.func 30) [] [])) [.tmp 58, .tmp 59])]
def S22.r9 : List AOpr := [
  q 61 (.mov (x 12)),
  q 62 (.arith .or (x 61) (.const (.int .i64 2))),
  q 12 (.mov (x 62))]
def S22.r10 : List AOpr := [
  q 63 (.fldA 2 (x 10)),
  q 64 (.ld1 (x 63))]
def S22.r11 : List AOpr := [
  q 66 (.arith .eql (x 64) (.const (.int .i64 13))),
  q 65 (.mov (x 66))]
def S22.r12 : List AOpr := [
  q 67 (.fldA 4 (x 10)),
  q 68 (.ld1 (x 67)),
  q 69 (.call (.const (.func (.func 26) [] [])) [.tmp 68, .const (.str [118, 97, 108, 117, 101]), .const (.int .i64 0)]),
  q 13 (.mov (x 69))]
def S22.r13 : List AOpr := [
  q 70 (.mov (x 13)),
  q 71 (.fldA 4 (x 10)),
  q 72 (.ld1 (x 71)),
  q 73 (.call (.const (.func (.func 26) [] [])) [.tmp 72, .const (.str [109, 111, 115, 116]), .const (.int .i64 100)]),
  q 74 (.arith .lss (x 70) (x 73))]
def S22.r14 : List AOpr := [
  q 75 (.mov (x 12)),
  q 76 (.arith .or (x 75) (.const (.int .i64 4))),
  q 12 (.mov (x 76))]
def S22.r15 : List AOpr := [
  q 77 (.mov (x 13)),
  q 78 (.fldA 4 (x 10)),
  q 79 (.ld1 (x 78)),
  q 80 (.call (.const (.func (.func 26) [] [])) [.tmp 79, .const (.str [108, 101, 97, 115, 116]), .const (.int .i64 0)]),
  q 81 (.arith .gtr (x 77) (x 80))]
def S22.r16 : List AOpr := [
  q 82 (.mov (x 12)),
  q 83 (.arith .or (x 82) (.const (.int .i64 8))),
  q 12 (.mov (x 83))]
def S22.r17 : List AOpr := [
  q 85 (.arith .eql (x 64) (.const (.int .i64 4))),
  q 84 (.mov (x 85))]
def S22.r18 : List AOpr := [
  q 86 (.mov (x 12)),
  q 87 (.arith .or (x 86) (.const (.int .i64 32))),
  q 12 (.mov (x 87))]
def S22.r19 : List AOpr := [
  q 88 (.fldA 4 (x 10)),
  q 89 (.ld1 (x 88)),
  q 90 (.call (.const (.func (.func 45) [] [])) [.tmp 89, .const (.str [114, 101, 97, 100, 111, 110, 108, 121])]),
  q 91 (.un .not (x 90))]
def S22.r20 : List AOpr := [
  q 92 (.mov (x 12)),
  q 93 (.arith .or (x 92) (.const (.int .i64 16))),
  q 12 (.mov (x 93))]
def S22.r21 : List AOpr := [
  q 95 (.arith .eql (x 64) (.const (.int .i64 8))),
  q 94 (.mov (x 95))]
def S22.r22 : List AOpr := [
  q 97 (.mov (x 1)),
  q 98 (.mov (x 3)),
  q 99 (.call (.const (.func (.func 53) [] [])) [.tmp 97, .tmp 98]),
  q 96 (.mov (x 99)),
  q 100 (.ext (x 96) 0),
  q 101 (.ext (x 96) 1),
  q 14 (.new S22.z1),
  ⟨none, .st 7 (x 14) (x 100), none⟩,
  q 15 (.mov (x 101))]
def S22.r23 : List AOpr := [
  q 102 (.mov (x 2)),
  q 103 (.mov (x 3)),
  q 104 (.call (.const (.func (.func 54) [] [])) [.tmp 102, .tmp 103]),
  q 16 (.mov (x 104))]
def S22.r24 : List AOpr := [
  q 105 (.mov (x 15)),
  q 106 (.mov (x 105)),
  ⟨some 107, .mov (x 16), some (106, true)⟩,
  ⟨some 108, .arith .gtr (x 107) (.const (.int .i64 0)), some (106, true)⟩,
  q 109 (.pick (x 106) (x 108) (.const (.bool false)))]
def S22.r25 : List AOpr := [
  q 110 (.mov (x 12)),
  q 111 (.arith .or (x 110) (.const (.int .i64 64))),
  q 12 (.mov (x 111))]
def S22.r26 : List (AOpr × Nat) := [
  (q 112 (.mov (x 15)), 0),
  (q 113 (.mov (x 112)), 1),
  (⟨some 114, .mov (x 16), some (113, true)⟩, 3),
  (⟨some 115, .ldn 3 (x 9), some (113, true)⟩, 3),
  (⟨some 116, .mov (x 1), some (113, true)⟩, 3),
  (⟨some 117, .mov (x 3), some (113, true)⟩, 3),
  (⟨some 118, .call (.const (.func (.func 55) [] [])) [.tmp 115, .tmp 116, .tmp 117], some (113, true)⟩, 59),
  (⟨some 119, .fldA 1 (x 14), some (113, true)⟩, 3),
  (⟨some 120, .fldA 3 (x 119), some (113, true)⟩, 131),
  (⟨some 121, .ld1 (x 120), some (113, true)⟩, 387),
  (⟨some 122, .arith .sub (x 118) (x 121), some (113, true)⟩, 1019),
  (⟨some 123, .arith .lss (x 114) (x 122), some (113, true)⟩, 2047),
  (q 124 (.pick (x 113) (x 123) (.const (.bool false))), 4095)]
def S22.r27 : List AOpr := [
  q 125 (.mov (x 12)),
  q 126 (.arith .or (x 125) (.const (.int .i64 128))),
  q 12 (.mov (x 126))]
def S22.r28 : List AOpr := [
  q 128 (.arith .eql (x 64) (.const (.int .i64 12))),
  q 127 (.mov (x 128))]
def S22.r29 : List AOpr := [
  q 129 (.ldn 7 (x 10)),
  q 130 (.call (.const (.func (.func 56) [] [])) [.tmp 129, .const (.str [100, 105, 115, 109, 105, 115, 115])])]
def S22.r30 : List AOpr := [
  q 131 (.mov (x 12)),
  q 132 (.arith .or (x 131) (.const (.int .i64 256))),
  q 12 (.mov (x 132))]
def S22.r31 : List AOpr := [
  q 133 (.mov (x 12)),
  q 8 (.mov (x 133))]
def S22 : SFn := ⟨134, [.tmp 8], .seq (.reg S22.r0) (.seq (.reg S22.r1) (.seq (.reg S22.r2) (.seq (.seq (.joinN [1, 2, 3, 4, 9, 10, 51] (.draw S22.r3)) (.cond (x 51) (.seq (.reg S22.r4) (.ret)) (.skip))) (.seq (.reg S22.r5) (.seq (.seq (.reg S22.r6) (.joinN [1, 2, 3, 4, 9, 10, 12] (.cond (x 54) (.reg S22.r7) (.skip)))) (.seq (.seq (.reg S22.r8) (.joinN [1, 2, 3, 9, 10, 12] (.cond (x 60) (.reg S22.r9) (.skip)))) (.seq (.seq (.reg S22.r10) (.joinN [12] (.block 0 (.seq (.reg S22.r11) (.cond (x 65) (.seq (.reg S22.r12) (.seq (.seq (.reg S22.r13) (.joinN [10, 12, 13] (.cond (x 74) (.reg S22.r14) (.skip)))) (.seq (.reg S22.r15) (.cond (x 81) (.reg S22.r16) (.skip))))) (.seq (.reg S22.r17) (.cond (x 84) (.seq (.reg S22.r18) (.seq (.reg S22.r19) (.cond (x 91) (.reg S22.r20) (.skip)))) (.seq (.reg S22.r21) (.cond (x 94) (.seq (.reg S22.r22) (.seq (.reg S22.r23) (.seq (.seq (.joinN [1, 3, 9, 12, 14, 15, 16, 109] (.reg S22.r24)) (.joinN [1, 3, 9, 12, 14, 15, 16] (.cond (x 109) (.reg S22.r25) (.skip)))) (.seq (.joinN [12, 124] (.draw S22.r26)) (.cond (x 124) (.reg S22.r27) (.skip)))))) (.seq (.reg S22.r28) (.cond (x 127) (.seq (.reg S22.r29) (.cond (x 130) (.reg S22.r30) (.skip))) (.skip)))))))))))) (.seq (.reg S22.r31) (.ret)))))))))⟩
theorem S22_ok : EOk Tryz.prog 22 S22 := ⟨Tryz.f22, by kernel_rfl, by kernel_rfl, by decide, by kernel_rfl, its_nil (by kernel_rfl)⟩
def o22_s1 (cl : Handler) (N : Nat) (c0 c1 c2 c3 c4 c5 c6 c7 c8 c9 c10 c11 c12 c13 c14 c15 c16 c17 c18 c19 : Rec) (v1 v2 v3 v4 v9 v10 v42 v44 v45 : AV) (h : AH) : Ans :=
  fgq (gdv false v42) (fun k => fde h (cl 42 [v44, v45] h) k) h fun v46 c20 h =>
  fgq (gdv false v42) (fun k => fdp h (kFldA h 7 v4) .pure k) h fun v47 c21 h =>
  fgq (gdv false v42) (fun k => fdp h (kLd1 h v47) (rdK (rdv v47)) k) h fun v48 c22 h =>
  fgq (gdv false v42) (fun k => fde h (cl 30 [v46, v48] h) k) h fun v49 c23 h =>
  fgq (gdv false v42) (fun k => fdp h (kUn h .not v49) .pure k) h fun v50 c24 h =>
  fdp h (kPick h v42 (.bool true) v50) .pure fun v51 c25 h =>
  cond (fchk [c0, c1, c2, c3, c4, c5, c6, c7, c8, c9, c10, c11, c12, c13, c14, c15, c16, c17, c18, c19, c20, c21, c22, c23, c24, c25] [(20, 22)]) (some (.nrm, [], [v1, v2, v3, v4, v9, v10, v51], h)) none
def o22_s2 (cl : Handler) (N : Nat) (c0 c1 c2 c3 c4 c5 c6 c7 c8 c9 : Rec) (v1 v2 v3 v4 v9 v10 v34 v35 : AV) (h : AH) : Ans :=
  fgq (gdv false v34) (fun k => fdp h (kFldA h 5 v35) .pure k) h fun v36 c10 h =>
  fgq (gdv false v34) (fun k => fdp h (kLd1 h v36) (rdK (rdv v36)) k) h fun v37 c11 h =>
  fgq (gdv false v34) (fun k => fdp h (kMov h v3) .pure k) h fun v38 c12 h =>
  fgq (gdv false v34) (fun k => fde h (cl 30 [v37, v38] h) k) h fun v39 c13 h =>
  fgq (gdv false v34) (fun k => fdp h (kUn h .not v39) .pure k) h fun v40 c14 h =>
  fdp h (kPick h v34 (.bool true) v40) .pure fun v41 c15 h =>
  fdp h (kMov h v41) .pure fun v42 c16 h =>
  fgq (gdv false v42) (fun k => fdp h (kFldA h 0 v4) .pure k) h fun v43 c17 h =>
  fgq (gdv false v42) (fun k => fdp h (kLdn h 6 v43) (rdK (rdv v43)) k) h fun v44 c18 h =>
  fgq (gdv false v42) (fun k => fdp h (kMov h v3) .pure k) h fun v45 c19 h =>
  o22_s1 cl N c0 c1 c2 c3 c4 c5 c6 c7 c8 c9 c10 c11 c12 c13 c14 c15 c16 c17 c18 c19 v1 v2 v3 v4 v9 v10 v42 v44 v45 h
def o22_a1 (cl : Handler) (N : Nat) (v1 v2 v3 v4 v9 v10 v11 : AV) (h : AH) : Ans :=
  fdr h 26 fun r h =>
  fdp h (kMov h v11) .pure fun v26 c0 h =>
  fdp h (kUn h .not v26) .pure fun v27 c1 h =>
  fdp h (kMov h v27) .pure fun v28 c2 h =>
  fgq (gdv false v28) (fun k => fdp h (kFldA h 0 v4) .pure k) h fun v29 c3 h =>
  fgq (gdv false v28) (fun k => fdp h (kLdn h 6 v29) (rdK (rdv v29)) k) h fun v30 c4 h =>
  fgq (gdv false v28) (fun k => fdp h (kMov h v3) .pure k) h fun v31 c5 h =>
  fgq (gdv false v28) (fun k => fde h (cl 49 [v30, v31] h) k) h fun v32 c6 h =>
  fdp h (kPick h v28 (.bool true) v32) .pure fun v33 c7 h =>
  fdp h (kMov h v33) .pure fun v34 c8 h =>
  fgq (gdv false v34) (fun k => fdp h (kFldA h 0 v4) .pure k) h fun v35 c9 h =>
  o22_s2 cl N c0 c1 c2 c3 c4 c5 c6 c7 c8 c9 v1 v2 v3 v4 v9 v10 v34 v35 h
def o22_a2 (cl : Handler) (N : Nat) (v1 v2 v3 v4 v9 v10 v12 v54 : AV) (h : AH) : Ans :=
  fif v54 (
  fst (kArith h .or v12 (.int .i64 1)) fun v56 h =>
  some (.nrm, [], [v1, v2, v3, v4, v9, v10, v56], h)) (
  some (.nrm, [], [v1, v2, v3, v4, v9, v10, v12], h))
def o22_a3 (cl : Handler) (N : Nat) (v1 v2 v3 v9 v10 v12 v60 : AV) (h : AH) : Ans :=
  fif v60 (
  fst (kArith h .or v12 (.int .i64 2)) fun v62 h =>
  some (.nrm, [], [v1, v2, v3, v9, v10, v62], h)) (
  some (.nrm, [], [v1, v2, v3, v9, v10, v12], h))
def o22_a4 (cl : Handler) (N : Nat) (v10 v12 v13 v74 : AV) (h : AH) : Ans :=
  fif v74 (
  fst (kArith h .or v12 (.int .i64 4)) fun v76 h =>
  some (.nrm, [], [v10, v76, v13], h)) (
  some (.nrm, [], [v10, v12, v13], h))
def o22_j5 (cl : Handler) (N : Nat) (v10 v12 v13 : AV) (h : AH) : Ans :=
  fst (kFldA h 4 v10) fun v78 h =>
  fst (kLd1 h v78) fun v79 h =>
  fst (cl 26 [v79, (.str [108, 101, 97, 115, 116]), (.int .i64 0)] h) fun v80 h =>
  fst (kArith h .gtr v13 v80) fun v81 h =>
  fif v81 (
  fst (kArith h .or v12 (.int .i64 8)) fun v83 h =>
  some (.nrm, [], [v83], h)) (
  some (.nrm, [], [v12], h))
def o22_a6 (cl : Handler) (N : Nat) (v1 v3 v9 v12 v14 v15 v16 : AV) (h : AH) : Ans :=
  fgd (gdv true v15) (kMov h v16) h fun v107 h =>
  fgd (gdv true v15) (kArith h .gtr v107 (.int .i64 0)) h fun v108 h =>
  fst (kPick h v15 v108 (.bool false)) fun v109 h =>
  some (.nrm, [], [v1, v3, v9, v12, v14, v15, v16, v109], h)
def o22_a7 (cl : Handler) (N : Nat) (v1 v3 v9 v12 v14 v15 v16 v109 : AV) (h : AH) : Ans :=
  fif v109 (
  fst (kArith h .or v12 (.int .i64 64)) fun v111 h =>
  some (.nrm, [], [v1, v3, v9, v111, v14, v15, v16], h)) (
  some (.nrm, [], [v1, v3, v9, v12, v14, v15, v16], h))
def o22_s3 (cl : Handler) (N : Nat) (c0 c1 c2 c3 c4 c5 c6 c7 c8 c9 : Rec) (v12 v113 v114 v118 v121 : AV) (h : AH) : Ans :=
  fgq (gdv true v113) (fun k => fdp h (kArith h .sub v118 v121) .pure k) h fun v122 c10 h =>
  fgq (gdv true v113) (fun k => fdp h (kArith h .lss v114 v122) .pure k) h fun v123 c11 h =>
  fdp h (kPick h v113 v123 (.bool false)) .pure fun v124 c12 h =>
  cond (fchk [c0, c1, c2, c3, c4, c5, c6, c7, c8, c9, c10, c11, c12] [(6, 9)]) (some (.nrm, [], [v12, v124], h)) none
def o22_a8 (cl : Handler) (N : Nat) (v1 v3 v9 v12 v14 v15 v16 : AV) (h : AH) : Ans :=
  fdr h 13 fun r h =>
  fdp h (kMov h v15) .pure fun v112 c0 h =>
  fdp h (kMov h v112) .pure fun v113 c1 h =>
  fgq (gdv true v113) (fun k => fdp h (kMov h v16) .pure k) h fun v114 c2 h =>
  fgq (gdv true v113) (fun k => fdp h (kLdn h 3 v9) (rdK (rdv v9)) k) h fun v115 c3 h =>
  fgq (gdv true v113) (fun k => fdp h (kMov h v1) .pure k) h fun v116 c4 h =>
  fgq (gdv true v113) (fun k => fdp h (kMov h v3) .pure k) h fun v117 c5 h =>
  fgq (gdv true v113) (fun k => fde h (cl 55 [v115, v116, v117] h) k) h fun v118 c6 h =>
  fgq (gdv true v113) (fun k => fdp h (kFldA h 1 v14) .pure k) h fun v119 c7 h =>
  fgq (gdv true v113) (fun k => fdp h (kFldA h 3 v119) .pure k) h fun v120 c8 h =>
  fgq (gdv true v113) (fun k => fdp h (kLd1 h v120) (rdK (rdv v120)) k) h fun v121 c9 h =>
  o22_s3 cl N c0 c1 c2 c3 c4 c5 c6 c7 c8 c9 v12 v113 v114 v118 v121 h
def o22_j9 (cl : Handler) (N : Nat) (v12 v124 : AV) (h : AH) : Ans :=
  fif v124 (
  fst (kArith h .or v12 (.int .i64 128)) fun v126 h =>
  some (.nrm, [], [v126], h)) (
  some (.nrm, [], [v12], h))
def o22_j10 (cl : Handler) (N : Nat) (v1 v3 v9 v12 v14 v15 v16 : AV) (h : AH) : Ans :=
  fjn (o22_a8 cl N v1 v3 v9 v12 v14 v15 v16 h) fun _ vs h => o22_j9 cl N (nthD vs 0) (nthD vs 1) h
def o22_j11 (cl : Handler) (N : Nat) (v1 v3 v9 v12 v14 v15 v16 v109 : AV) (h : AH) : Ans :=
  fjn (o22_a7 cl N v1 v3 v9 v12 v14 v15 v16 v109 h) fun _ vs h => o22_j10 cl N (nthD vs 0) (nthD vs 1) (nthD vs 2) (nthD vs 3) (nthD vs 4) (nthD vs 5) (nthD vs 6) h
def o22_a12 (cl : Handler) (N : Nat) (v1 v2 v3 v9 v10 v12 v64 : AV) (h : AH) : Ans :=
  fst (kArith h .eql v64 (.int .i64 13)) fun v66 h =>
  fif v66 (
  fst (kFldA h 4 v10) fun v67 h =>
  fst (kLd1 h v67) fun v68 h =>
  fst (cl 26 [v68, (.str [118, 97, 108, 117, 101]), (.int .i64 0)] h) fun v69 h =>
  fst (kFldA h 4 v10) fun v71 h =>
  fst (kLd1 h v71) fun v72 h =>
  fst (cl 26 [v72, (.str [109, 111, 115, 116]), (.int .i64 100)] h) fun v73 h =>
  fst (kArith h .lss v69 v73) fun v74 h =>
  fjn (o22_a4 cl N v10 v12 v69 v74 h) fun _ vs h => o22_j5 cl N (nthD vs 0) (nthD vs 1) (nthD vs 2) h) (
  fst (kArith h .eql v64 (.int .i64 4)) fun v85 h =>
  fif v85 (
  fst (kArith h .or v12 (.int .i64 32)) fun v87 h =>
  fst (kFldA h 4 v10) fun v88 h =>
  fst (kLd1 h v88) fun v89 h =>
  fst (cl 45 [v89, (.str [114, 101, 97, 100, 111, 110, 108, 121])] h) fun v90 h =>
  fst (kUn h .not v90) fun v91 h =>
  fif v91 (
  fst (kArith h .or v87 (.int .i64 16)) fun v93 h =>
  some (.nrm, [], [v93], h)) (
  some (.nrm, [], [v87], h))) (
  fst (kArith h .eql v64 (.int .i64 8)) fun v95 h =>
  fif v95 (
  fst (cl 53 [v1, v3] h) fun v99 h =>
  fst (kExt h v99 0) fun v100 h =>
  fst (kExt h v99 1) fun v101 h =>
  fst (kNew h S22.z1) fun v14 h =>
  fst (kSt h 7 v14 v100) fun _ h =>
  fst (cl 54 [v2, v3] h) fun v104 h =>
  fjn (o22_a6 cl N v1 v3 v9 v12 v14 v101 v104 h) fun _ vs h => o22_j11 cl N (nthD vs 0) (nthD vs 1) (nthD vs 2) (nthD vs 3) (nthD vs 4) (nthD vs 5) (nthD vs 6) (nthD vs 7) h) (
  fst (kArith h .eql v64 (.int .i64 12)) fun v128 h =>
  fif v128 (
  fst (kLdn h 7 v10) fun v129 h =>
  fst (cl 56 [v129, (.str [100, 105, 115, 109, 105, 115, 115])] h) fun v130 h =>
  fif v130 (
  fst (kArith h .or v12 (.int .i64 256)) fun v132 h =>
  some (.nrm, [], [v132], h)) (
  some (.nrm, [], [v12], h))) (
  some (.nrm, [], [v12], h)))))
def o22_j13 (cl : Handler) (N : Nat) (v12 : AV) (h : AH) : Ans :=
  some (.nrm, [], [v12], h)
def o22_j14 (cl : Handler) (N : Nat) (v1 v2 v3 v9 v10 v12 : AV) (h : AH) : Ans :=
  fst (kFldA h 2 v10) fun v63 h =>
  fst (kLd1 h v63) fun v64 h =>
  fjn (o22_a12 cl N v1 v2 v3 v9 v10 v12 v64 h) fun _ vs h => o22_j13 cl N (nthD vs 0) h
def o22_j15 (cl : Handler) (N : Nat) (v1 v2 v3 v4 v9 v10 v12 : AV) (h : AH) : Ans :=
  fst (kFldA h 6 v4) fun v57 h =>
  fst (kLd1 h v57) fun v58 h =>
  fst (cl 30 [v58, v3] h) fun v60 h =>
  fjn (o22_a3 cl N v1 v2 v3 v9 v10 v12 v60 h) fun _ vs h => o22_j14 cl N (nthD vs 0) (nthD vs 1) (nthD vs 2) (nthD vs 3) (nthD vs 4) (nthD vs 5) h
def o22_j16 (cl : Handler) (N : Nat) (v1 v2 v3 v4 v9 v10 v51 : AV) (h : AH) : Ans :=
  fif v51 (
  some (.nrm, [], [(.int .i64 0)], h)) (
  fst (kLdn h 3 v9) fun v52 h =>
  fst (cl 44 [v52, v3] h) fun v54 h =>
  fjn (o22_a2 cl N v1 v2 v3 v4 v9 v10 (.int .i64 0) v54 h) fun _ vs h => o22_j15 cl N (nthD vs 0) (nthD vs 1) (nthD vs 2) (nthD vs 3) (nthD vs 4) (nthD vs 5) (nthD vs 6) h)
def o22_s4 (cl : Handler) (N : Nat) (v1 v2 v3 v4 v9 v24 v25 : AV) (h : AH) : Ans :=
  fst (kNew h S22.z0) fun v10 h =>
  fst (kSt h 7 v10 v24) fun _ h =>
  fjn (o22_a1 cl N v1 v2 v3 v4 v9 v10 v25 h) fun _ vs h => o22_j16 cl N (nthD vs 0) (nthD vs 1) (nthD vs 2) (nthD vs 3) (nthD vs 4) (nthD vs 5) (nthD vs 6) h
def o22 (cl : Handler) (N : Nat) (v0 v1 v2 v3 : AV) (h : AH) : Ans :=
  fst (kBox h v0) fun v4 h =>
  fst (kFldA h 0 v4) fun v17 h =>
  fst (kFldA h 0 v17) fun v18 h =>
  fst (kLdn h 3 v18) fun v19 h =>
  fst (kNew h [.int .i64 0, .int .i64 0, .nilsl]) fun v9 h =>
  fst (kSt h 3 v9 v19) fun _ h =>
  fst (kLdn h 3 v9) fun v21 h =>
  fst (cl 16 [v21, v3] h) fun v23 h =>
  fst (kExt h v23 0) fun v24 h =>
  fst (kExt h v23 1) fun v25 h =>
  o22_s4 cl N v1 v2 v3 v4 v9 v24 v25 h
theorem o22_eq (cl : Handler) (N : Nat) (v0 v1 v2 v3 : AV) (h : AH) : frun cl N S22 [v0, v1, v2, v3] h = fans (o22 cl N v0 v1 v2 v3 h) := by kernel_rfl
def w22 (N : Nat) : OF := fun cl args h => match args with
  | [v0, v1, v2, v3] => fans (o22 cl N v0 v1 v2 v3 h)
  | _ => none
theorem w22_ok (N : Nat) : OkF Tryz.prog 22 (w22 N) := .of (N := N) (S22_ok) fun cl args h r hr => by
  unfold w22 at hr
  split at hr
  · exact (o22_eq cl N _ _ _ _ _).trans hr
  · cases hr

/- widgetry/widgetryref38.live -/
def S23.r0 : List AOpr := [
  q 2 (.box (x 0)),
  q 4 (.mov (.const (.int .i64 0)))]
def S23.r1 : List AOpr := [
  q 5 (.fldA 4 (x 2)),
  q 6 (.ld1 (x 5)),
  q 7 (.call (.const (.func (.func 28) [] [])) [.tmp 6, .const (.str [108, 105, 118, 101])])]
def S23.r2 : List AOpr := [
  q 9 (.arith .eql (x 7) (.const (.str [112, 111, 108, 105, 116, 101]))),
  q 8 (.mov (x 9))]
def S23.r3 : List AOpr := [
  q 4 (.mov (.const (.int .i64 1)))]
def S23.r4 : List AOpr := [
  q 11 (.arith .eql (x 7) (.const (.str [97, 115, 115, 101, 114, 116, 105, 118, 101]))),
  q 10 (.mov (x 11))]
def S23.r5 : List AOpr := [
  q 4 (.mov (.const (.int .i64 2)))]
def S23.r6 : List AOpr := [
  q 12 (.mov (x 1)),
  q 13 (.arith .eql (x 12) (.const (.int .i64 15)))]
def S23.r7 : List AOpr := [
  q 4 (.mov (.const (.int .i64 1)))]
def S23.r8 : List AOpr := [
  q 4 (.mov (.const (.int .i64 0)))]
def S23 : SFn := ⟨14, [.tmp 4], .seq (.reg S23.r0) (.seq (.seq (.reg S23.r1) (.block 0 (.seq (.reg S23.r2) (.cond (x 8) (.seq (.reg S23.r3) (.ret)) (.seq (.reg S23.r4) (.cond (x 10) (.seq (.reg S23.r5) (.ret)) (.skip))))))) (.seq (.seq (.reg S23.r6) (.cond (x 13) (.seq (.reg S23.r7) (.ret)) (.skip))) (.seq (.reg S23.r8) (.ret))))⟩
theorem S23_ok : EOk Tryz.prog 23 S23 := ⟨Tryz.f23, by kernel_rfl, by kernel_rfl, by decide, by kernel_rfl, its_nil (by kernel_rfl)⟩
def o23 (cl : Handler) (N : Nat) (v0 v1 : AV) (h : AH) : Ans :=
  fst (kBox h v0) fun v2 h =>
  fst (kFldA h 4 v2) fun v5 h =>
  fst (kLd1 h v5) fun v6 h =>
  fst (cl 28 [v6, (.str [108, 105, 118, 101])] h) fun v7 h =>
  fst (kArith h .eql v7 (.str [112, 111, 108, 105, 116, 101])) fun v9 h =>
  fif v9 (
  some (.nrm, [], [(.int .i64 1)], h)) (
  fst (kArith h .eql v7 (.str [97, 115, 115, 101, 114, 116, 105, 118, 101])) fun v11 h =>
  fif v11 (
  some (.nrm, [], [(.int .i64 2)], h)) (
  fst (kArith h .eql v1 (.int .i64 15)) fun v13 h =>
  fif v13 (
  some (.nrm, [], [(.int .i64 1)], h)) (
  some (.nrm, [], [(.int .i64 0)], h))))
theorem o23_eq (cl : Handler) (N : Nat) (v0 v1 : AV) (h : AH) : frun cl N S23 [v0, v1] h = fans (o23 cl N v0 v1 h) := by kernel_rfl
def w23 (N : Nat) : OF := fun cl args h => match args with
  | [v0, v1] => fans (o23 cl N v0 v1 h)
  | _ => none
theorem w23_ok (N : Nat) : OkF Tryz.prog 23 (w23 N) := .of (N := N) (S23_ok) fun cl args h r hr => by
  unfold w23 at hr
  split at hr
  · exact (o23_eq cl N _ _ _).trans hr
  · cases hr

def S24.z0 : List AV := [.int .i64 0, .int .i64 0, .int .i64 0, .int .i64 0]
def S24.z1 : List AV := [.int .i64 0, .int .i64 0, .int .i64 0, .int .i64 0, .int .i64 0, .int .i64 0, .nilsl]
/- widgetry/widgetryref29.Whole -/
def S24.r0 : List AOpr := [
  q 5 (.box (x 0)),
  q 10 (.new S24.z0)]
def S24.r1 : List AOpr := [
  q 14 (.mov (x 2)),
  q 15 (.mov (x 4)),
  q 16 (.call (.const (.func (.func 53) [] [])) [.tmp 14, .tmp 15]),
  q 13 (.mov (x 16)),
  q 17 (.ext (x 13) 0),
  q 18 (.ext (x 13) 1),
  q 11 (.new S24.z1),
  ⟨none, .st 7 (x 11) (x 17), none⟩,
  q 12 (.mov (x 18))]
def S24.r2 : List AOpr := [
  q 19 (.ldn 3 (x 5)),
  q 20 (.mov (x 1)),
  q 21 (.mov (x 2)),
  q 22 (.mov (x 3)),
  q 23 (.mov (x 4)),
  q 24 (.fldA 1 (x 11)),
  q 25 (.fldA 2 (x 24)),
  q 26 (.ld1 (x 25)),
  q 27 (.fldA 1 (x 11)),
  q 28 (.fldA 3 (x 27)),
  q 29 (.ld1 (x 28)),
  q 30 (.build S24.z0 [(2, 1, .tmp 26), (3, 1, .tmp 29)]),
  q 31 (.call (.const (.func (.func 57) [] [])) [.tmp 19, .tmp 20, .tmp 21, .tmp 22, .tmp 23, .tmp 30]),
  ⟨none, .st 4 (x 10) (x 31), none⟩]
def S24 : SFn := ⟨32, [.cell 10 (some 4)], .seq (.reg S24.r0) (.seq (.reg S24.r1) (.seq (.reg S24.r2) (.ret)))⟩
theorem S24_ok : EOk Tryz.prog 24 S24 := ⟨Tryz.f24, by kernel_rfl, by kernel_rfl, by decide, by kernel_rfl, its_nil (by kernel_rfl)⟩
def o24_s1 (cl : Handler) (N : Nat) (v10 v11 v19 v20 v21 v22 v23 v25 : AV) (h : AH) : Ans :=
  fst (kLd1 h v25) fun v26 h =>
  fst (kFldA h 1 v11) fun v27 h =>
  fst (kFldA h 3 v27) fun v28 h =>
  fst (kLd1 h v28) fun v29 h =>
  fst (kBuild h S24.z0 [(2, 1, v26), (3, 1, v29)]) fun v30 h =>
  fst (cl 57 [v19, v20, v21, v22, v23, v30] h) fun v31 h =>
  fst (kSt h 4 v10 v31) fun _ h =>
  fres (aresV h [.cell (v10) (some 4)]) h
def o24 (cl : Handler) (N : Nat) (v0 v1 v2 v3 v4 : AV) (h : AH) : Ans :=
  fst (kBox h v0) fun v5 h =>
  fst (kNew h S24.z0) fun v10 h =>
  fst (cl 53 [v2, v4] h) fun v16 h =>
  fst (kExt h v16 0) fun v17 h =>
  fst (kExt h v16 1) fun v18 h =>
  fst (kNew h S24.z1) fun v11 h =>
  fst (kSt h 7 v11 v17) fun _ h =>
  fst (kLdn h 3 v5) fun v19 h =>
  fst (kFldA h 1 v11) fun v24 h =>
  fst (kFldA h 2 v24) fun v25 h =>
  o24_s1 cl N v10 v11 v19 v1 v2 v3 v4 v25 h
theorem o24_eq (cl : Handler) (N : Nat) (v0 v1 v2 v3 v4 : AV) (h : AH) : frun cl N S24 [v0, v1, v2, v3, v4] h = fans (o24 cl N v0 v1 v2 v3 v4 h) := by kernel_rfl
def w24 (N : Nat) : OF := fun cl args h => match args with
  | [v0, v1, v2, v3, v4] => fans (o24 cl N v0 v1 v2 v3 v4 h)
  | _ => none
theorem w24_ok (N : Nat) : OkF Tryz.prog 24 (w24 N) := .of (N := N) (S24_ok) fun cl args h r hr => by
  unfold w24 at hr
  split at hr
  · exact (o24_eq cl N _ _ _ _ _ _).trans hr
  · cases hr

def S25.z0 : List AV := [.int .i64 0, .int .i64 0, .int .i64 0, .str [], .nilsl, .nilsl, .nilsl]
def S25.z1 : List AV := [.str [], .str [], .str [], .str []]
def S25.z2 : List AV := [.int .i64 0, .int .i64 0, .int .i64 0, .int .i64 0]
/- (widgetry/widgetryref37.Facts).Relations -/
def S25.r0 : List AOpr := [
  q 2 (.box (x 0)),
  q 4 (.mov (.const (.nilsl)))]
def S25.r1 : List AOpr := [
  q 16 (.fldA 0 (x 2)),
  q 17 (.fldA 0 (x 16)),
  q 18 (.ldn 3 (x 17)),
  q 19 (.mov (x 1)),
  q 20 (.call (.const (.func (.func 16) [] [])) [.tmp 18, .tmp 19]),
  q 15 (.mov (x 20)),
  q 21 (.ext (x 15) 0),
  q 22 (.ext (x 15) 1),
  q 5 (.new S25.z0),
  ⟨none, .st 7 (x 5) (x 21), none⟩,
  q 6 (.mov (x 22))]
def S25.r2 : List AOpr := [
  q 23 (.mov (x 6)),
  q 24 (.un .not (x 23))]
def S25.r3 : List AOpr := [
  q 4 (.mov (.const (.nilsl)))]
def S25.r4 : List AOpr := [
  q 25 (.buildSl 1 4 S25.z1 [(0, 1, .const (.str [108, 97, 98, 101, 108, 108, 101, 100, 98, 121])), (1, 1, .const (.str [100, 101, 115, 99, 114, 105, 98, 101, 100, 98, 121])), (2, 1, .const (.str [99, 111, 110, 116, 114, 111, 108, 115])), (3, 1, .const (.str [102, 108, 111, 119, 115, 116, 111]))]),
  q 7 (.mov (x 25))]
def S25.r5 : List AOpr := [
  q 26 (.buildSl 1 4 S25.z2 [(0, 1, .const (.int .i64 1)), (1, 1, .const (.int .i64 2)), (2, 1, .const (.int .i64 3)), (3, 1, .const (.int .i64 4))]),
  q 8 (.mov (x 26))]
def S25.r6 : List AOpr := [
  q 9 (.mov (.const (.nilsl)))]
def S25.r7 : List AOpr := [
  q 10 (.mov (.const (.int .i64 0)))]
def S25.r8 : List AOpr := [
  q 27 (.mov (x 10)),
  q 28 (.mov (x 7)),
  q 29 (.len (x 28)),
  q 30 (.arith .lss (x 27) (x 29))]
def S25.r9 : List (AOpr × Nat) := [
  (q 33 (.ldn 7 (x 5)), 0),
  (q 34 (.mov (x 7)), 0),
  (q 35 (.mov (x 10)), 0),
  (q 36 (.idxA 1 (x 34) (x 35)), 6),
  (q 37 (.ld1 (x 36)), 14),
  (q 38 (.call (.const (.func (.func 58) [] [])) [.tmp 33, .tmp 37]), 31),
  (q 11 (.mov (x 38)), 63)]
def S25.r10 : List AOpr := [
  q 12 (.mov (.const (.nilsl)))]
def S25.r11 : List AOpr := [
  q 13 (.mov (.const (.int .i64 0)))]
def S25.r12 : List AOpr := [
  q 39 (.mov (x 13)),
  q 40 (.mov (x 11)),
  q 41 (.len (x 40)),
  q 42 (.arith .lss (x 39) (x 41))]
def S25.r13 : List (AOpr × Nat) := [
  (q 45 (.fldA 0 (x 2)), 0),
  (q 46 (.fldA 0 (x 45)), 1),
  (q 47 (.ldn 3 (x 46)), 3),
  (q 48 (.mov (x 11)), 0),
  (q 49 (.mov (x 13)), 0),
  (q 50 (.idxA 1 (x 48) (x 49)), 24),
  (q 51 (.ld1 (x 50)), 56),
  (q 52 (.call (.const (.func (.func 59) [] [])) [.tmp 47, .tmp 51]), 127),
  (q 14 (.mov (x 52)), 255)]
def S25.r14 : List AOpr := [
  q 53 (.mov (x 14)),
  q 54 (.arith .neq (x 53) (.const (.int .i64 0))),
  q 55 (.mov (x 54)),
  ⟨some 56, .fldA 8 (x 2), some (55, true)⟩,
  ⟨some 57, .ld1 (x 56), some (55, true)⟩,
  ⟨some 58, .mov (x 14), some (55, true)⟩,
  ⟨some 59, .call (.const (.func (.func 30) [] [])) [.tmp 57, .tmp 58], some (55, true)⟩,
  q 60 (.pick (x 55) (x 59) (.const (.bool false))),
  q 61 (.mov (x 60)),
  ⟨some 62, .mov (x 12), some (61, true)⟩,
  ⟨some 63, .mov (x 14), some (61, true)⟩,
  ⟨some 64, .call (.const (.func (.func 30) [] [])) [.tmp 62, .tmp 63], some (61, true)⟩,
  ⟨some 65, .un .not (x 64), some (61, true)⟩,
  q 66 (.pick (x 61) (x 65) (.const (.bool false)))]
def S25.r15 : List AOpr := [
  q 67 (.mov (x 12)),
  q 68 (.mov (x 14)),
  q 69 (.buildSl 1 1 [.int .i64 0] [(0, 1, .tmp 68)]),
  q 70 (.app 1 8 (x 67) (x 69)),
  q 12 (.mov (x 70))]
def S25.r16 : List AOpr := [
  q 71 (.mov (x 9)),
  q 72 (.mov (x 8)),
  q 73 (.mov (x 10)),
  q 74 (.idxA 1 (x 72) (x 73)),
  q 75 (.ld1 (x 74)),
  q 76 (.mov (x 14)),
  q 77 (.build [.int .i64 0, .int .i64 0] [(0, 1, .tmp 75), (1, 1, .tmp 76)]),
  q 78 (.buildSl 2 1 [.int .i64 0, .int .i64 0] [(0, 2, .tmp 77)]),
  q 79 (.app 2 16 (x 71) (x 78)),
  q 9 (.mov (x 79))]
def S25.r17 : List AOpr := [
  q 43 (.mov (x 13)),
  q 44 (.arith .add (x 43) (.const (.int .i64 1))),
  q 13 (.mov (x 44))]
def S25.r18 : List AOpr := [
  q 31 (.mov (x 10)),
  q 32 (.arith .add (x 31) (.const (.int .i64 1))),
  q 10 (.mov (x 32))]
def S25.r19 : List AOpr := [
  q 80 (.mov (x 9)),
  q 4 (.mov (x 80))]
def S25 : SFn := ⟨81, [.tmp 4], .seq (.reg S25.r0) (.seq (.reg S25.r1) (.seq (.seq (.reg S25.r2) (.cond (x 24) (.seq (.reg S25.r3) (.ret)) (.skip))) (.seq (.reg S25.r4) (.seq (.reg S25.r5) (.seq (.reg S25.r6) (.seq (.seq (.reg S25.r7) (.block 0 (.loop [2, 5, 7, 8, 9, 10] [9] (.seq (.seq (.reg S25.r8) (.cond (x 30) (.skip) (.exit 0))) (.seq (.block 1 (.seq (.draw S25.r9) (.seq (.reg S25.r10) (.seq (.reg S25.r11) (.block 2 (.loop [2, 5, 7, 8, 9, 10, 11, 12, 13] [2, 5, 7, 8, 9, 10] (.seq (.seq (.reg S25.r12) (.cond (x 42) (.skip) (.exit 2))) (.seq (.joinN [2, 5, 7, 8, 9, 10, 11, 12, 13] (.block 3 (.seq (.draw S25.r13) (.seq (.joinN [2, 5, 7, 8, 9, 10, 11, 12, 13, 14, 66] (.reg S25.r14)) (.cond (x 66) (.seq (.reg S25.r15) (.reg S25.r16)) (.skip)))))) (.reg S25.r17))))))))) (.reg S25.r18)))))) (.seq (.reg S25.r19) (.ret))))))))⟩
theorem S25_ok : EOk Tryz.prog 25 S25 := ⟨Tryz.f25, by kernel_rfl, by kernel_rfl, by decide, by kernel_rfl, its_nil (by kernel_rfl)⟩
def o25_s1 (cl : Handler) (N : Nat) (h : AH) : Ans :=
  some (.nrm, [], [(.nilsl)], h)
def o25_s2 (cl : Handler) (N : Nat) (v2 v5 v7 v8 v9 v10 v11 v12 v13 v14 v61 v65 : AV) (h : AH) : Ans :=
  fst (kPick h v61 v65 (.bool false)) fun v66 h =>
  some (.nrm, [], [v2, v5, v7, v8, v9, v10, v11, v12, v13, v14, v66], h)
def o25_a1 (cl : Handler) (N : Nat) (v2 v5 v7 v8 v9 v10 v11 v12 v13 v14 : AV) (h : AH) : Ans :=
  fst (kArith h .neq v14 (.int .i64 0)) fun v54 h =>
  fgd (gdv true v54) (kFldA h 8 v2) h fun v56 h =>
  fgd (gdv true v54) (kLd1 h v56) h fun v57 h =>
  fgd (gdv true v54) (kMov h v14) h fun v58 h =>
  fgd (gdv true v54) (cl 30 [v57, v58] h) h fun v59 h =>
  fst (kPick h v54 v59 (.bool false)) fun v60 h =>
  fgd (gdv true v60) (kMov h v12) h fun v62 h =>
  fgd (gdv true v60) (kMov h v14) h fun v63 h =>
  fgd (gdv true v60) (cl 30 [v62, v63] h) h fun v64 h =>
  fgd (gdv true v60) (kUn h .not v64) h fun v65 h =>
  o25_s2 cl N v2 v5 v7 v8 v9 v10 v11 v12 v13 v14 v60 v65 h
def o25_j2 (cl : Handler) (N : Nat) (v2 v5 v7 v8 v9 v10 v11 v12 v13 v14 v66 : AV) (h : AH) : Ans :=
  fif v66 (
  fst (kBuildSl h 1 1 [.int .i64 0] [(0, 1, v14)]) fun v69 h =>
  fst (kApp h 1 8 v12 v69) fun v70 h =>
  fst (kIdxA h 1 v8 v10) fun v74 h =>
  fst (kLd1 h v74) fun v75 h =>
  fst (kBuild h [.int .i64 0, .int .i64 0] [(0, 1, v75), (1, 1, v14)]) fun v77 h =>
  fst (kBuildSl h 2 1 [.int .i64 0, .int .i64 0] [(0, 2, v77)]) fun v78 h =>
  fst (kApp h 2 16 v9 v78) fun v79 h =>
  some (.nrm, [], [v2, v5, v7, v8, v79, v10, v11, v70, v13], h)) (
  some (.nrm, [], [v2, v5, v7, v8, v9, v10, v11, v12, v13], h))
def o25_a3 (cl : Handler) (N : Nat) (v2 v5 v7 v8 v9 v10 v11 v12 v13 : AV) (h : AH) : Ans :=
  fdr h 9 fun r h =>
  fdp h (kFldA h 0 v2) .pure fun v45 c0 h =>
  fdp h (kFldA h 0 v45) .pure fun v46 c1 h =>
  fdp h (kLdn h 3 v46) (rdK (rdv v46)) fun v47 c2 h =>
  fdp h (kMov h v11) .pure fun v48 c3 h =>
  fdp h (kMov h v13) .pure fun v49 c4 h =>
  fdp h (kIdxA h 1 v48 v49) .pure fun v50 c5 h =>
  fdp h (kLd1 h v50) (rdK (rdv v50)) fun v51 c6 h =>
  fde h (cl 59 [v47, v51] h) fun v52 c7 h =>
  fdp h (kMov h v52) .pure fun v14 c8 h =>
  cond (fchk [c0, c1, c2, c3, c4, c5, c6, c7, c8] []) (fjn (o25_a1 cl N v2 v5 v7 v8 v9 v10 v11 v12 v13 v14 h) fun _ vs h => o25_j2 cl N (nthD vs 0) (nthD vs 1) (nthD vs 2) (nthD vs 3) (nthD vs 4) (nthD vs 5) (nthD vs 6) (nthD vs 7) (nthD vs 8) (nthD vs 9) (nthD vs 10) h) none
def o25_j4 (cl : Handler) (N : Nat) (v2 v5 v7 v8 v9 v10 v11 v12 v13 : AV) (h : AH) : Ans :=
  fst (kArith h .add v13 (.int .i64 1)) fun v44 h =>
  some (.nrm, [v2, v5, v7, v8, v9, v10, v11, v12, v44], [v2, v5, v7, v8, v9, v10], h)
def o25_l5 (cl : Handler) (N : Nat) (v2 v5 v7 v8 v9 v10 v11 v12 v13 : AV) (h : AH) : Ans :=
  fst (kLen h v11) fun v41 h =>
  fst (kArith h .lss v13 v41) fun v42 h =>
  fif v42 (
  fjn (o25_a3 cl N v2 v5 v7 v8 v9 v10 v11 v12 v13 h) fun _ vs h => o25_j4 cl N (nthD vs 0) (nthD vs 1) (nthD vs 2) (nthD vs 3) (nthD vs 4) (nthD vs 5) (nthD vs 6) (nthD vs 7) (nthD vs 8) h) (
  some ((.exit 2), [v2, v5, v7, v8, v9, v10, v11, v12, v13], [v2, v5, v7, v8, v9, v10], h))
def o25_c6 (cl : Handler) (N : Nat) (v2 v5 v7 v8 v9 v10 : AV) (h : AH) : Ans :=
  fst (kArith h .add v10 (.int .i64 1)) fun v32 h =>
  some (.nrm, [v2, v5, v7, v8, v9, v32], [v9], h)
def o25_j7 (cl : Handler) (N : Nat) (x : AX) (v2 v5 v7 v8 v9 v10 : AV) (h : AH) : Ans :=
  fxs x (o25_c6 cl N v2 v5 v7 v8 v9 v10 h) (fun j => cond (Nat.beq j 2) (o25_c6 cl N v2 v5 v7 v8 v9 v10 h) (cond (Nat.beq j 1) (fst (kArith h .add v10 (.int .i64 1)) fun v32 h =>
  some (.nrm, [v2, v5, v7, v8, v9, v32], [v9], h)) (some ((.exit j), [v2, v5, v7, v8, v9, v10], [v9], h)))) (some (.ret, [v2, v5, v7, v8, v9, v10], [v9], h))
def o25_l8 (cl : Handler) (N : Nat) (v2 v5 v7 v8 v9 v10 : AV) (h : AH) : Ans :=
  fst (kLen h v7) fun v29 h =>
  fst (kArith h .lss v10 v29) fun v30 h =>
  fif v30 (
  fdr h 7 fun r h =>
  fdp h (kLdn h 7 v5) (rdK (rdv v5)) fun v33 c0 h =>
  fdp h (kMov h v7) .pure fun v34 c1 h =>
  fdp h (kMov h v10) .pure fun v35 c2 h =>
  fdp h (kIdxA h 1 v34 v35) .pure fun v36 c3 h =>
  fdp h (kLd1 h v36) (rdK (rdv v36)) fun v37 c4 h =>
  fde h (cl 58 [v33, v37] h) fun v38 c5 h =>
  fdp h (kMov h v38) .pure fun v11 c6 h =>
  cond (fchk [c0, c1, c2, c3, c4, c5, c6] []) (fjn (fiter (fun vs h => o25_l5 cl N (nthD vs 0) (nthD vs 1) (nthD vs 2) (nthD vs 3) (nthD vs 4) (nthD vs 5) (nthD vs 6) (nthD vs 7) (nthD vs 8) h) N [v2, v5, v7, v8, v9, v10, v11, (.nilsl), (.int .i64 0)] h) fun x vs h => o25_j7 cl N x (nthD vs 0) (nthD vs 1) (nthD vs 2) (nthD vs 3) (nthD vs 4) (nthD vs 5) h) none) (
  some ((.exit 0), [v2, v5, v7, v8, v9, v10], [v9], h))
def o25_c9 (cl : Handler) (N : Nat) (v9 : AV) (h : AH) : Ans :=
  some (.nrm, [], [v9], h)
def o25_j10 (cl : Handler) (N : Nat) (x : AX) (v9 : AV) (h : AH) : Ans :=
  fxs x (o25_c9 cl N v9 h) (fun j => cond (Nat.beq j 0) (o25_c9 cl N v9 h) (none)) (some (.nrm, [], [.undef], h))
def o25_s3 (cl : Handler) (N : Nat) (v2 v5 : AV) (h : AH) : Ans :=
  fst (kBuildSl h 1 4 S25.z1 [(0, 1, (.str [108, 97, 98, 101, 108, 108, 101, 100, 98, 121])), (1, 1, (.str [100, 101, 115, 99, 114, 105, 98, 101, 100, 98, 121])), (2, 1, (.str [99, 111, 110, 116, 114, 111, 108, 115])), (3, 1, (.str [102, 108, 111, 119, 115, 116, 111]))]) fun v25 h =>
  fst (kBuildSl h 1 4 S25.z2 [(0, 1, (.int .i64 1)), (1, 1, (.int .i64 2)), (2, 1, (.int .i64 3)), (3, 1, (.int .i64 4))]) fun v26 h =>
  fjn (fiter (fun vs h => o25_l8 cl N (nthD vs 0) (nthD vs 1) (nthD vs 2) (nthD vs 3) (nthD vs 4) (nthD vs 5) h) N [v2, v5, v25, v26, (.nilsl), (.int .i64 0)] h) fun x vs h => o25_j10 cl N x (nthD vs 0) h
def o25 (cl : Handler) (N : Nat) (v0 v1 : AV) (h : AH) : Ans :=
  fst (kBox h v0) fun v2 h =>
  fst (kFldA h 0 v2) fun v16 h =>
  fst (kFldA h 0 v16) fun v17 h =>
  fst (kLdn h 3 v17) fun v18 h =>
  fst (cl 16 [v18, v1] h) fun v20 h =>
  fst (kExt h v20 0) fun v21 h =>
  fst (kExt h v20 1) fun v22 h =>
  fst (kNew h S25.z0) fun v5 h =>
  fst (kSt h 7 v5 v21) fun _ h =>
  fst (kUn h .not v22) fun v24 h =>
  fif v24 (
  o25_s1 cl N h) (
  o25_s3 cl N v2 v5 h)
theorem o25_eq (cl : Handler) (N : Nat) (v0 v1 : AV) (h : AH) : frun cl N S25 [v0, v1] h = fans (o25 cl N v0 v1 h) := by kernel_rfl
def w25 (N : Nat) : OF := fun cl args h => match args with
  | [v0, v1] => fans (o25 cl N v0 v1 h)
  | _ => none
theorem w25_ok (N : Nat) : OkF Tryz.prog 25 (w25 N) := .of (N := N) (S25_ok) fun cl args h r hr => by
  unfold w25 at hr
  split at hr
  · exact (o25_eq cl N _ _ _).trans hr
  · cases hr

def otr0 (N : Nat) : OT := .node 16 (.node 11 (.node 8 (.node 7 (.one 6 (w6 N)) (.one 7 (w7 N))) (.node 9 (.one 8 (w8 N)) (.node 10 (.one 9 (w9 N)) (.one 10 (w10 N))))) (.node 13 (.node 12 (.one 11 (w11 N)) (.one 12 (w12 N))) (.node 14 (.one 13 (w13 N)) (.node 15 (.one 14 (w14 N)) (.one 15 (w15 N)))))) (.node 21 (.node 18 (.node 17 (.one 16 (w16 N)) (.one 17 (w17 N))) (.node 19 (.one 18 (w18 N)) (.node 20 (.one 19 (w19 N)) (.one 20 (w20 N))))) (.node 23 (.node 22 (.one 21 (w21 N)) (.one 22 (w22 N))) (.node 24 (.one 23 (w23 N)) (.node 25 (.one 24 (w24 N)) (.one 25 (w25 N))))))
theorem otr0_ok (N : Nat) : (otr0 N).Ok Tryz.prog := ⟨⟨⟨⟨w6_ok N, w7_ok N⟩, ⟨w8_ok N, ⟨w9_ok N, w10_ok N⟩⟩⟩, ⟨⟨w11_ok N, w12_ok N⟩, ⟨w13_ok N, ⟨w14_ok N, w15_ok N⟩⟩⟩⟩, ⟨⟨⟨w16_ok N, w17_ok N⟩, ⟨w18_ok N, ⟨w19_ok N, w20_ok N⟩⟩⟩, ⟨⟨w21_ok N, w22_ok N⟩, ⟨w23_ok N, ⟨w24_ok N, w25_ok N⟩⟩⟩⟩⟩

end Go.Proofs.YtoibclpbkjbnbaaGreat
end
