/- The functions that building and exporting a view of headings run through, fourth part; written by a program. -/
import Derived.Test.YtoibclpbkjbnbaaGreatEngOX
import Derived.Test.YtoibclpbkjbnbaaGreatProg
import Derived.KernelRfl
set_option linter.unusedSimpArgs false
set_option linter.unusedVariables false
set_option linter.unnecessarySimpa false
noncomputable section
namespace Go.Proofs.YtoibclpbkjbnbaaGreat
open Go.Eng
set_option maxRecDepth 100000
def S72.z0 : List AV := [.int .i64 0, .str [], .nilsl, .nilsl, .nilsl]
def S72.z1 : List AV := [.int .i64 0, .int .i64 0, .int .i64 0, .str [], .nilsl, .nilsl, .nilsl]
/- widgetry/widgetryref14.describe -/
def S72.r0 : List AOpr := [
  q 2 (.box (x 0)),
  q 4 (.new S72.z0)]
def S72.r1 : List AOpr := [
  q 8 (.ldn 3 (x 2)),
  q 9 (.mov (x 1)),
  q 10 (.call (.const (.func (.func 41) [] [])) [.tmp 8, .tmp 9]),
  q 5 (.new S72.z1),
  ⟨none, .st 7 (x 5) (x 10), none⟩]
def S72.r2 : List AOpr := [
  q 11 (.fldA 2 (x 5)),
  q 12 (.ld1 (x 11)),
  q 13 (.fldA 3 (x 5)),
  q 14 (.ld1 (x 13)),
  q 15 (.fldA 4 (x 5)),
  q 16 (.ld1 (x 15)),
  q 17 (.fldA 5 (x 5)),
  q 18 (.ld1 (x 17)),
  q 19 (.build S72.z0 [(0, 1, .tmp 12), (1, 1, .tmp 14), (2, 1, .tmp 16), (3, 1, .tmp 18)]),
  q 6 (.new S72.z0),
  ⟨none, .st 5 (x 6) (x 19), none⟩]
def S72.r3 : List AOpr := [
  q 7 (.mov (.const (.int .i64 0)))]
def S72.r4 : List AOpr := [
  q 20 (.mov (x 7)),
  q 21 (.fldA 6 (x 5)),
  q 22 (.ld1 (x 21)),
  q 23 (.len (x 22)),
  q 24 (.arith .lss (x 20) (x 23))]
def S72.r5 : List (AOpr × Nat) := [
  (q 27 (.fldA 4 (x 6)), 0),
  (q 28 (.ld1 (x 27)), 1),
  (q 29 (.ldn 3 (x 2)), 0),
  (q 30 (.fldA 6 (x 5)), 0),
  (q 31 (.ld1 (x 30)), 8),
  (q 32 (.mov (x 7)), 0),
  (q 33 (.idxA 1 (x 31) (x 32)), 56),
  (q 34 (.ld1 (x 33)), 120),
  (q 35 (.call (.const (.func (.func 72) [] [])) [.tmp 29, .tmp 34]), 252),
  (q 36 (.buildSl 5 1 S72.z0 [(0, 5, .tmp 35)]), 508),
  (q 37 (.app 5 96 (x 28) (x 36)), 1023),
  (q 38 (.fldA 4 (x 6)), 2047),
  (⟨none, .st 1 (x 38) (x 37), none⟩, 4095)]
def S72.r6 : List AOpr := [
  q 25 (.mov (x 7)),
  q 26 (.arith .add (x 25) (.const (.int .i64 1))),
  q 7 (.mov (x 26))]
def S72.r7 : List AOpr := [
  q 39 (.ldn 5 (x 6)),
  ⟨none, .st 5 (x 4) (x 39), none⟩]
def S72 : SFn := ⟨40, [.cell 4 (some 5)], .seq (.reg S72.r0) (.seq (.reg S72.r1) (.seq (.reg S72.r2) (.seq (.seq (.reg S72.r3) (.block 0 (.loop [2, 4, 5, 6, 7] [4, 6] (.seq (.seq (.reg S72.r4) (.cond (x 24) (.skip) (.exit 0))) (.seq (.block 1 (.draw S72.r5)) (.reg S72.r6)))))) (.seq (.reg S72.r7) (.ret)))))⟩
theorem S72_ok : EOk Tryz.prog 72 S72 := ⟨Tryz.f72, by kernel_rfl, by kernel_rfl, by decide, by kernel_rfl, its_nil (by kernel_rfl)⟩
def o72_s1 (cl : Handler) (N : Nat) (r : Nat) (c0 c1 c2 c3 c4 c5 : Rec) (v2 v4 v5 v6 v7 v28 v29 v31 v32 : AV) (h : AH) : Ans :=
  fdp h (kIdxA h 1 v31 v32) .pure fun v33 c6 h =>
  fdp h (kLd1 h v33) (rdK (rdv v33)) fun v34 c7 h =>
  fde h (cl 72 [v29, v34] h) fun v35 c8 h =>
  fda (r + 9) h (alBuildSl 5 1 S72.z0 [(0, 5, v35)]) fun v36 c9 h =>
  fde h (kApp h 5 96 v28 v36) fun v37 c10 h =>
  fdp h (kFldA h 4 v6) .pure fun v38 c11 h =>
  fde h (kSt h 1 v38 v37) fun _ c12 h =>
  cond (fchk [c0, c1, c2, c3, c4, c5, c6, c7, c8, c9, c10, c11, c12] [(1, 8), (1, 9)]) (fst (kArith h .add v7 (.int .i64 1)) fun v26 h =>
  some (.nrm, [v2, v4, v5, v6, v26], [v4, v6], h)) none
def o72_l1 (cl : Handler) (N : Nat) (v2 v4 v5 v6 v7 : AV) (h : AH) : Ans :=
  fst (kFldA h 6 v5) fun v21 h =>
  fst (kLd1 h v21) fun v22 h =>
  fst (kLen h v22) fun v23 h =>
  fst (kArith h .lss v7 v23) fun v24 h =>
  fif v24 (
  fdr h 13 fun r h =>
  fdp h (kFldA h 4 v6) .pure fun v27 c0 h =>
  fdp h (kLd1 h v27) (rdK (rdv v27)) fun v28 c1 h =>
  fdp h (kLdn h 3 v2) (rdK (rdv v2)) fun v29 c2 h =>
  fdp h (kFldA h 6 v5) .pure fun v30 c3 h =>
  fdp h (kLd1 h v30) (rdK (rdv v30)) fun v31 c4 h =>
  fdp h (kMov h v7) .pure fun v32 c5 h =>
  o72_s1 cl N r c0 c1 c2 c3 c4 c5 v2 v4 v5 v6 v7 v28 v29 v31 v32 h) (
  some ((.exit 0), [v2, v4, v5, v6, v7], [v4, v6], h))
def o72_c2 (cl : Handler) (N : Nat) (v4 v6 : AV) (h : AH) : Ans :=
  fst (kLdn h 5 v6) fun v39 h =>
  fst (kSt h 5 v4 v39) fun _ h =>
  fres (aresV h [.cell (v4) (some 5)]) h
def o72_j3 (cl : Handler) (N : Nat) (x : AX) (v4 v6 : AV) (h : AH) : Ans :=
  fxs x (o72_c2 cl N v4 v6 h) (fun j => cond (Nat.beq j 0) (o72_c2 cl N v4 v6 h) (none)) (fres (aresV h [.cell (v4) (some 5)]) h)
def o72_s2 (cl : Handler) (N : Nat) (v2 v4 v5 v12 v14 : AV) (h : AH) : Ans :=
  fst (kFldA h 4 v5) fun v15 h =>
  fst (kLd1 h v15) fun v16 h =>
  fst (kFldA h 5 v5) fun v17 h =>
  fst (kLd1 h v17) fun v18 h =>
  fst (kBuild h S72.z0 [(0, 1, v12), (1, 1, v14), (2, 1, v16), (3, 1, v18)]) fun v19 h =>
  fst (kNew h S72.z0) fun v6 h =>
  fst (kSt h 5 v6 v19) fun _ h =>
  fjn (fiter (fun vs h => o72_l1 cl N (nthD vs 0) (nthD vs 1) (nthD vs 2) (nthD vs 3) (nthD vs 4) h) N [v2, v4, v5, v6, (.int .i64 0)] h) fun x vs h => o72_j3 cl N x (nthD vs 0) (nthD vs 1) h
def o72 (cl : Handler) (N : Nat) (v0 v1 : AV) (h : AH) : Ans :=
  fst (kBox h v0) fun v2 h =>
  fst (kNew h S72.z0) fun v4 h =>
  fst (kLdn h 3 v2) fun v8 h =>
  fst (cl 41 [v8, v1] h) fun v10 h =>
  fst (kNew h S72.z1) fun v5 h =>
  fst (kSt h 7 v5 v10) fun _ h =>
  fst (kFldA h 2 v5) fun v11 h =>
  fst (kLd1 h v11) fun v12 h =>
  fst (kFldA h 3 v5) fun v13 h =>
  fst (kLd1 h v13) fun v14 h =>
  o72_s2 cl N v2 v4 v5 v12 v14 h
theorem o72_eq (cl : Handler) (N : Nat) (v0 v1 : AV) (h : AH) : frun cl N S72 [v0, v1] h = fans (o72 cl N v0 v1 h) := by kernel_rfl
def w72 (N : Nat) : OF := fun cl args h => match args with
  | [v0, v1] => fans (o72 cl N v0 v1 h)
  | _ => none
theorem w72_ok (N : Nat) : OkF Tryz.prog 72 (w72 N) := .of (N := N) (S72_ok) fun cl args h r hr => by
  unfold w72 at hr
  split at hr
  · exact (o72_eq cl N _ _ _).trans hr
  · cases hr

/- widgetry/widgetryref17.Complete -/
def S73.r0 : List AOpr := [
  q 2 (.box (x 0)),
  q 4 (.mov (.const (.bool false)))]
def S73.r1 : List AOpr := [
  q 6 (.mov (x 1)),
  q 7 (.len (x 6)),
  q 8 (.fldA 2 (x 2)),
  q 9 (.ld1 (x 8)),
  q 10 (.len (x 9)),
  q 11 (.arith .neq (x 7) (x 10))]
def S73.r2 : List AOpr := [
  q 4 (.mov (.const (.bool false)))]
def S73.r3 : List AOpr := [
  q 5 (.mov (.const (.int .i64 0)))]
def S73.r4 : List AOpr := [
  q 12 (.mov (x 5)),
  q 13 (.mov (x 1)),
  q 14 (.len (x 13)),
  q 15 (.arith .lss (x 12) (x 14))]
def S73.r5 : List (AOpr × Nat) := [
  (q 18 (.mov (x 1)), 0),
  (q 19 (.mov (x 5)), 0),
  (q 20 (.idxA 23 (x 18) (x 19)), 3),
  (q 21 (.fldA 0 (x 20)), 7),
  (q 22 (.ld1 (x 21)), 15),
  (q 23 (.fldA 2 (x 2)), 0),
  (q 24 (.ld1 (x 23)), 32),
  (q 25 (.mov (x 5)), 0),
  (q 26 (.idxA 7 (x 24) (x 25)), 224),
  (q 27 (.fldA 0 (x 26)), 480),
  (q 28 (.ld1 (x 27)), 992),
  (q 29 (.arith .neq (x 22) (x 28)), 2047)]
def S73.r6 : List AOpr := [
  q 4 (.mov (.const (.bool false)))]
def S73.r7 : List AOpr := [
  q 16 (.mov (x 5)),
  q 17 (.arith .add (x 16) (.const (.int .i64 1))),
  q 5 (.mov (x 17))]
def S73.r8 : List AOpr := [
  q 4 (.mov (.const (.bool true)))]
def S73 : SFn := ⟨30, [.tmp 4], .seq (.reg S73.r0) (.seq (.seq (.reg S73.r1) (.cond (x 11) (.seq (.reg S73.r2) (.ret)) (.skip))) (.seq (.seq (.reg S73.r3) (.block 0 (.loop [1, 2, 5] [4] (.seq (.seq (.reg S73.r4) (.cond (x 15) (.skip) (.exit 0))) (.seq (.block 1 (.seq (.draw S73.r5) (.cond (x 29) (.seq (.reg S73.r6) (.ret)) (.skip)))) (.reg S73.r7)))))) (.seq (.reg S73.r8) (.ret))))⟩
theorem S73_ok : EOk Tryz.prog 73 S73 := ⟨Tryz.f73, by kernel_rfl, by kernel_rfl, by decide, by kernel_rfl, its_nil (by kernel_rfl)⟩
def o73_s1 (cl : Handler) (N : Nat) (c0 c1 c2 c3 c4 c5 c6 c7 : Rec) (v1 v2 v5 v22 v24 v25 : AV) (h : AH) : Ans :=
  fdp h (kIdxA h 7 v24 v25) .pure fun v26 c8 h =>
  fdp h (kFldA h 0 v26) .pure fun v27 c9 h =>
  fdp h (kLd1 h v27) (rdK (rdv v27)) fun v28 c10 h =>
  fdp h (kArith h .neq v22 v28) .pure fun v29 c11 h =>
  cond (fchk [c0, c1, c2, c3, c4, c5, c6, c7, c8, c9, c10, c11] []) (fif v29 (
  some (.ret, [v1, v2, v5], [(.bool false)], h)) (
  fst (kArith h .add v5 (.int .i64 1)) fun v17 h =>
  some (.nrm, [v1, v2, v17], [.undef], h))) none
def o73_l1 (cl : Handler) (N : Nat) (v1 v2 v5 : AV) (h : AH) : Ans :=
  fst (kLen h v1) fun v14 h =>
  fst (kArith h .lss v5 v14) fun v15 h =>
  fif v15 (
  fdr h 12 fun r h =>
  fdp h (kMov h v1) .pure fun v18 c0 h =>
  fdp h (kMov h v5) .pure fun v19 c1 h =>
  fdp h (kIdxA h 23 v18 v19) .pure fun v20 c2 h =>
  fdp h (kFldA h 0 v20) .pure fun v21 c3 h =>
  fdp h (kLd1 h v21) (rdK (rdv v21)) fun v22 c4 h =>
  fdp h (kFldA h 2 v2) .pure fun v23 c5 h =>
  fdp h (kLd1 h v23) (rdK (rdv v23)) fun v24 c6 h =>
  fdp h (kMov h v5) .pure fun v25 c7 h =>
  o73_s1 cl N c0 c1 c2 c3 c4 c5 c6 c7 v1 v2 v5 v22 v24 v25 h) (
  some ((.exit 0), [v1, v2, v5], [.undef], h))
def o73_c2 (cl : Handler) (N : Nat) (h : AH) : Ans :=
  some (.nrm, [], [(.bool true)], h)
def o73_j3 (cl : Handler) (N : Nat) (x : AX) (v4 : AV) (h : AH) : Ans :=
  fxs x (o73_c2 cl N h) (fun j => cond (Nat.beq j 0) (o73_c2 cl N h) (none)) (some (.nrm, [], [v4], h))
def o73 (cl : Handler) (N : Nat) (v0 v1 : AV) (h : AH) : Ans :=
  fst (kBox h v0) fun v2 h =>
  fst (kLen h v1) fun v7 h =>
  fst (kFldA h 2 v2) fun v8 h =>
  fst (kLd1 h v8) fun v9 h =>
  fst (kLen h v9) fun v10 h =>
  fst (kArith h .neq v7 v10) fun v11 h =>
  fif v11 (
  some (.nrm, [], [(.bool false)], h)) (
  fjn (fiter (fun vs h => o73_l1 cl N (nthD vs 0) (nthD vs 1) (nthD vs 2) h) N [v1, v2, (.int .i64 0)] h) fun x vs h => o73_j3 cl N x (nthD vs 0) h)
theorem o73_eq (cl : Handler) (N : Nat) (v0 v1 : AV) (h : AH) : frun cl N S73 [v0, v1] h = fans (o73 cl N v0 v1 h) := by kernel_rfl
def w73 (N : Nat) : OF := fun cl args h => match args with
  | [v0, v1] => fans (o73 cl N v0 v1 h)
  | _ => none
theorem w73_ok (N : Nat) : OkF Tryz.prog 73 (w73 N) := .of (N := N) (S73_ok) fun cl args h r hr => by
  unfold w73 at hr
  split at hr
  · exact (o73_eq cl N _ _ _).trans hr
  · cases hr

/- widgetry/widgetryref17.InRange -/
def S74.r0 : List AOpr := [
  q 4 (.mov (.const (.bool false)))]
def S74.r1 : List AOpr := [
  q 5 (.mov (.const (.int .i64 0))),
  q 6 (.mov (.const (.int .i64 1048576)))]
def S74.r2 : List AOpr := [
  q 7 (.mov (x 0))]
def S74.r3 : List AOpr := [
  q 9 (.arith .eql (x 7) (.const (.int .i64 0))),
  q 8 (.mov (x 9))]
def S74.r4 : List AOpr := [
  q 6 (.mov (.const (.int .i64 16777215)))]
def S74.r5 : List AOpr := [
  q 11 (.arith .eql (x 7) (.const (.int .i64 1))),
  q 10 (.mov (x 11))]
def S74.r6 : List AOpr := [
  q 5 (.mov (.const (.int .i64 (-1)))),
  q 6 (.mov (.const (.int .i64 16777215)))]
def S74.r7 : List AOpr := [
  q 13 (.arith .eql (x 7) (.const (.int .i64 2))),
  q 12 (.mov (x 13))]
def S74.r8 : List AOpr := [
  q 5 (.mov (.const (.int .i64 1))),
  q 6 (.mov (.const (.int .i64 1000)))]
def S74.r9 : List AOpr := [
  q 15 (.arith .eql (x 7) (.const (.int .i64 3))),
  q 14 (.mov (x 15))]
def S74.r10 : List AOpr := [
  q 6 (.mov (.const (.int .i64 7)))]
def S74.r11 : List AOpr := [
  q 17 (.arith .eql (x 7) (.const (.int .i64 4))),
  q 16 (.mov (x 17))]
def S74.r12 : List AOpr := [
  q 18 (.arith .eql (x 7) (.const (.int .i64 21))),
  q 16 (.mov (x 18))]
def S74.r13 : List AOpr := [
  q 6 (.mov (.const (.int .i64 1)))]
def S74.r14 : List AOpr := [
  q 20 (.arith .eql (x 7) (.const (.int .i64 5))),
  q 19 (.mov (x 20))]
def S74.r15 : List AOpr := [
  q 21 (.arith .eql (x 7) (.const (.int .i64 6))),
  q 19 (.mov (x 21))]
def S74.r16 : List AOpr := [
  q 6 (.mov (.const (.int .i64 4)))]
def S74.r17 : List AOpr := [
  q 23 (.arith .eql (x 7) (.const (.int .i64 7))),
  q 22 (.mov (x 23))]
def S74.r18 : List AOpr := [
  q 6 (.mov (.const (.int .i64 3)))]
def S74.r19 : List AOpr := [
  q 25 (.arith .eql (x 7) (.const (.int .i64 8))),
  q 24 (.mov (x 25))]
def S74.r20 : List AOpr := [
  q 6 (.mov (.const (.int .i64 2)))]
def S74.r21 : List AOpr := [
  q 27 (.arith .eql (x 7) (.const (.int .i64 10))),
  q 26 (.mov (x 27))]
def S74.r22 : List AOpr := [
  q 28 (.arith .eql (x 7) (.const (.int .i64 11))),
  q 26 (.mov (x 28))]
def S74.r23 : List AOpr := [
  q 6 (.mov (.const (.int .i64 1000)))]
def S74.r24 : List AOpr := [
  q 30 (.arith .eql (x 7) (.const (.int .i64 12))),
  q 29 (.mov (x 30))]
def S74.r25 : List AOpr := [
  q 5 (.mov (.const (.int .i64 (-1))))]
def S74.r26 : List AOpr := [
  q 31 (.mov (x 0)),
  q 32 (.arith .geq (x 31) (.const (.int .i64 0))),
  q 33 (.mov (x 32)),
  ⟨some 34, .mov (x 0), some (33, true)⟩,
  ⟨some 35, .arith .lss (x 34) (.const (.int .i64 22)), some (33, true)⟩,
  q 36 (.pick (x 33) (x 35) (.const (.bool false))),
  q 37 (.mov (x 36)),
  ⟨some 38, .mov (x 1), some (37, true)⟩,
  ⟨some 39, .mov (x 5), some (37, true)⟩,
  ⟨some 40, .arith .geq (x 38) (x 39), some (37, true)⟩,
  q 41 (.pick (x 37) (x 40) (.const (.bool false))),
  q 42 (.mov (x 41)),
  ⟨some 43, .mov (x 1), some (42, true)⟩,
  ⟨some 44, .mov (x 6), some (42, true)⟩,
  ⟨some 45, .arith .leq (x 43) (x 44), some (42, true)⟩,
  q 46 (.pick (x 42) (x 45) (.const (.bool false))),
  q 4 (.mov (x 46))]
def S74 : SFn := ⟨47, [.tmp 4], .seq (.reg S74.r0) (.seq (.reg S74.r1) (.seq (.seq (.reg S74.r2) (.joinN [0, 1, 5, 6] (.block 0 (.seq (.reg S74.r3) (.cond (x 8) (.reg S74.r4) (.seq (.reg S74.r5) (.cond (x 10) (.reg S74.r6) (.seq (.reg S74.r7) (.cond (x 12) (.reg S74.r8) (.seq (.reg S74.r9) (.cond (x 14) (.reg S74.r10) (.seq (.seq (.reg S74.r11) (.joinN [0, 1, 5, 6, 7, 16] (.cond (x 16) (.skip) (.reg S74.r12)))) (.cond (x 16) (.reg S74.r13) (.seq (.seq (.reg S74.r14) (.joinN [0, 1, 5, 6, 7, 19] (.cond (x 19) (.skip) (.reg S74.r15)))) (.cond (x 19) (.reg S74.r16) (.seq (.reg S74.r17) (.cond (x 22) (.reg S74.r18) (.seq (.reg S74.r19) (.cond (x 24) (.reg S74.r20) (.seq (.seq (.reg S74.r21) (.joinN [0, 1, 5, 6, 7, 26] (.cond (x 26) (.skip) (.reg S74.r22)))) (.cond (x 26) (.reg S74.r23) (.seq (.reg S74.r24) (.cond (x 29) (.reg S74.r25) (.skip)))))))))))))))))))))))) (.seq (.reg S74.r26) (.ret))))⟩
theorem S74_ok : EOk Tryz.prog 74 S74 := ⟨Tryz.f74, by kernel_rfl, by kernel_rfl, by decide, by kernel_rfl, its_nil (by kernel_rfl)⟩
def o74_a1 (cl : Handler) (N : Nat) (v0 v1 v5 v6 v7 v16 : AV) (h : AH) : Ans :=
  fif v16 (
  some (.nrm, [], [v0, v1, v5, v6, v7, v16], h)) (
  fst (kArith h .eql v7 (.int .i64 21)) fun v18 h =>
  some (.nrm, [], [v0, v1, v5, v6, v7, v18], h))
def o74_a2 (cl : Handler) (N : Nat) (v0 v1 v5 v6 v7 v19 : AV) (h : AH) : Ans :=
  fif v19 (
  some (.nrm, [], [v0, v1, v5, v6, v7, v19], h)) (
  fst (kArith h .eql v7 (.int .i64 6)) fun v21 h =>
  some (.nrm, [], [v0, v1, v5, v6, v7, v21], h))
def o74_a3 (cl : Handler) (N : Nat) (v0 v1 v5 v6 v7 v26 : AV) (h : AH) : Ans :=
  fif v26 (
  some (.nrm, [], [v0, v1, v5, v6, v7, v26], h)) (
  fst (kArith h .eql v7 (.int .i64 11)) fun v28 h =>
  some (.nrm, [], [v0, v1, v5, v6, v7, v28], h))
def o74_j4 (cl : Handler) (N : Nat) (v0 v1 v5 v6 v7 v26 : AV) (h : AH) : Ans :=
  fif v26 (
  some (.nrm, [], [v0, v1, v5, (.int .i64 1000)], h)) (
  fst (kArith h .eql v7 (.int .i64 12)) fun v30 h =>
  fif v30 (
  some (.nrm, [], [v0, v1, (.int .i64 (-1)), v6], h)) (
  some (.nrm, [], [v0, v1, v5, v6], h)))
def o74_j5 (cl : Handler) (N : Nat) (v0 v1 v5 v6 v7 v19 : AV) (h : AH) : Ans :=
  fif v19 (
  some (.nrm, [], [v0, v1, v5, (.int .i64 4)], h)) (
  fst (kArith h .eql v7 (.int .i64 7)) fun v23 h =>
  fif v23 (
  some (.nrm, [], [v0, v1, v5, (.int .i64 3)], h)) (
  fst (kArith h .eql v7 (.int .i64 8)) fun v25 h =>
  fif v25 (
  some (.nrm, [], [v0, v1, v5, (.int .i64 2)], h)) (
  fst (kArith h .eql v7 (.int .i64 10)) fun v27 h =>
  fjn (o74_a3 cl N v0 v1 v5 v6 v7 v27 h) fun _ vs h => o74_j4 cl N (nthD vs 0) (nthD vs 1) (nthD vs 2) (nthD vs 3) (nthD vs 4) (nthD vs 5) h)))
def o74_j6 (cl : Handler) (N : Nat) (v0 v1 v5 v6 v7 v16 : AV) (h : AH) : Ans :=
  fif v16 (
  some (.nrm, [], [v0, v1, v5, (.int .i64 1)], h)) (
  fst (kArith h .eql v7 (.int .i64 5)) fun v20 h =>
  fjn (o74_a2 cl N v0 v1 v5 v6 v7 v20 h) fun _ vs h => o74_j5 cl N (nthD vs 0) (nthD vs 1) (nthD vs 2) (nthD vs 3) (nthD vs 4) (nthD vs 5) h)
def o74_a7 (cl : Handler) (N : Nat) (v0 v1 v5 v6 v7 : AV) (h : AH) : Ans :=
  fst (kArith h .eql v7 (.int .i64 0)) fun v9 h =>
  fif v9 (
  some (.nrm, [], [v0, v1, v5, (.int .i64 16777215)], h)) (
  fst (kArith h .eql v7 (.int .i64 1)) fun v11 h =>
  fif v11 (
  some (.nrm, [], [v0, v1, (.int .i64 (-1)), (.int .i64 16777215)], h)) (
  fst (kArith h .eql v7 (.int .i64 2)) fun v13 h =>
  fif v13 (
  some (.nrm, [], [v0, v1, (.int .i64 1), (.int .i64 1000)], h)) (
  fst (kArith h .eql v7 (.int .i64 3)) fun v15 h =>
  fif v15 (
  some (.nrm, [], [v0, v1, v5, (.int .i64 7)], h)) (
  fst (kArith h .eql v7 (.int .i64 4)) fun v17 h =>
  fjn (o74_a1 cl N v0 v1 v5 v6 v7 v17 h) fun _ vs h => o74_j6 cl N (nthD vs 0) (nthD vs 1) (nthD vs 2) (nthD vs 3) (nthD vs 4) (nthD vs 5) h))))
def o74_s1 (cl : Handler) (N : Nat) (v42 v43 v44 : AV) (h : AH) : Ans :=
  fgd (gdv true v42) (kArith h .leq v43 v44) h fun v45 h =>
  fst (kPick h v42 v45 (.bool false)) fun v46 h =>
  some (.nrm, [], [v46], h)
def o74_j8 (cl : Handler) (N : Nat) (v0 v1 v5 v6 : AV) (h : AH) : Ans :=
  fst (kArith h .geq v0 (.int .i64 0)) fun v32 h =>
  fgd (gdv true v32) (kMov h v0) h fun v34 h =>
  fgd (gdv true v32) (kArith h .lss v34 (.int .i64 22)) h fun v35 h =>
  fst (kPick h v32 v35 (.bool false)) fun v36 h =>
  fgd (gdv true v36) (kMov h v1) h fun v38 h =>
  fgd (gdv true v36) (kMov h v5) h fun v39 h =>
  fgd (gdv true v36) (kArith h .geq v38 v39) h fun v40 h =>
  fst (kPick h v36 v40 (.bool false)) fun v41 h =>
  fgd (gdv true v41) (kMov h v1) h fun v43 h =>
  fgd (gdv true v41) (kMov h v6) h fun v44 h =>
  o74_s1 cl N v41 v43 v44 h
def o74 (cl : Handler) (N : Nat) (v0 v1 : AV) (h : AH) : Ans :=
  fjn (o74_a7 cl N v0 v1 (.int .i64 0) (.int .i64 1048576) v0 h) fun _ vs h => o74_j8 cl N (nthD vs 0) (nthD vs 1) (nthD vs 2) (nthD vs 3) h
theorem o74_eq (cl : Handler) (N : Nat) (v0 v1 : AV) (h : AH) : frun cl N S74 [v0, v1] h = fans (o74 cl N v0 v1 h) := by kernel_rfl
def w74 (N : Nat) : OF := fun cl args h => match args with
  | [v0, v1] => fans (o74 cl N v0 v1 h)
  | _ => none
theorem w74_ok (N : Nat) : OkF Tryz.prog 74 (w74 N) := .of (N := N) (S74_ok) fun cl args h r hr => by
  unfold w74 at hr
  split at hr
  · exact (o74_eq cl N _ _ _).trans hr
  · cases hr

/- widgetry/widgetryref21.Textual -/
def S75.r0 : List AOpr := [
  q 2 (.mov (.const (.bool false)))]
def S75.r1 : List AOpr := [
  q 3 (.mov (x 0)),
  q 4 (.arith .eql (x 3) (.const (.int .i64 2))),
  q 5 (.mov (x 4)),
  ⟨some 6, .mov (x 0), some (5, false)⟩,
  ⟨some 7, .arith .eql (x 6) (.const (.int .i64 4)), some (5, false)⟩,
  q 8 (.pick (x 5) (.const (.bool true)) (x 7)),
  q 9 (.mov (x 8)),
  ⟨some 10, .mov (x 0), some (9, false)⟩,
  ⟨some 11, .arith .eql (x 10) (.const (.int .i64 7)), some (9, false)⟩,
  q 12 (.pick (x 9) (.const (.bool true)) (x 11)),
  q 13 (.mov (x 12)),
  ⟨some 14, .mov (x 0), some (13, false)⟩,
  ⟨some 15, .arith .eql (x 14) (.const (.int .i64 9)), some (13, false)⟩,
  q 16 (.pick (x 13) (.const (.bool true)) (x 15)),
  q 2 (.mov (x 16))]
def S75 : SFn := ⟨17, [.tmp 2], .seq (.reg S75.r0) (.seq (.reg S75.r1) (.ret))⟩
theorem S75_ok : EOk Tryz.prog 75 S75 := ⟨Tryz.f75, by kernel_rfl, by kernel_rfl, by decide, by kernel_rfl, its_nil (by kernel_rfl)⟩
def o75_s1 (cl : Handler) (N : Nat) (v16 : AV) (h : AH) : Ans :=
  some (.nrm, [], [v16], h)
def o75 (cl : Handler) (N : Nat) (v0 : AV) (h : AH) : Ans :=
  fst (kArith h .eql v0 (.int .i64 2)) fun v4 h =>
  fgd (gdv false v4) (kMov h v0) h fun v6 h =>
  fgd (gdv false v4) (kArith h .eql v6 (.int .i64 4)) h fun v7 h =>
  fst (kPick h v4 (.bool true) v7) fun v8 h =>
  fgd (gdv false v8) (kMov h v0) h fun v10 h =>
  fgd (gdv false v8) (kArith h .eql v10 (.int .i64 7)) h fun v11 h =>
  fst (kPick h v8 (.bool true) v11) fun v12 h =>
  fgd (gdv false v12) (kMov h v0) h fun v14 h =>
  fgd (gdv false v12) (kArith h .eql v14 (.int .i64 9)) h fun v15 h =>
  fst (kPick h v12 (.bool true) v15) fun v16 h =>
  o75_s1 cl N v16 h
theorem o75_eq (cl : Handler) (N : Nat) (v0 : AV) (h : AH) : frun cl N S75 [v0] h = fans (o75 cl N v0 h) := by kernel_rfl
def w75 (N : Nat) : OF := fun cl args h => match args with
  | [v0] => fans (o75 cl N v0 h)
  | _ => none
theorem w75_ok (N : Nat) : OkF Tryz.prog 75 (w75 N) := .of (N := N) (S75_ok) fun cl args h r hr => by
  unfold w75 at hr
  split at hr
  · exact (o75_eq cl N _ _).trans hr
  · cases hr

/- widgetry/widgetryref21.Figure -/
def S76.r0 : List AOpr := [
  q 2 (.mov (.const (.bool false)))]
def S76.r1 : List AOpr := [
  q 3 (.mov (x 0)),
  q 4 (.arith .eql (x 3) (.const (.int .i64 5))),
  q 5 (.mov (x 4)),
  ⟨some 6, .mov (x 0), some (5, false)⟩,
  ⟨some 7, .arith .eql (x 6) (.const (.int .i64 13)), some (5, false)⟩,
  q 8 (.pick (x 5) (.const (.bool true)) (x 7)),
  q 2 (.mov (x 8))]
def S76 : SFn := ⟨9, [.tmp 2], .seq (.reg S76.r0) (.seq (.reg S76.r1) (.ret))⟩
theorem S76_ok : EOk Tryz.prog 76 S76 := ⟨Tryz.f76, by kernel_rfl, by kernel_rfl, by decide, by kernel_rfl, its_nil (by kernel_rfl)⟩
def o76 (cl : Handler) (N : Nat) (v0 : AV) (h : AH) : Ans :=
  fst (kArith h .eql v0 (.int .i64 5)) fun v4 h =>
  fgd (gdv false v4) (kMov h v0) h fun v6 h =>
  fgd (gdv false v4) (kArith h .eql v6 (.int .i64 13)) h fun v7 h =>
  fst (kPick h v4 (.bool true) v7) fun v8 h =>
  some (.nrm, [], [v8], h)
theorem o76_eq (cl : Handler) (N : Nat) (v0 : AV) (h : AH) : frun cl N S76 [v0] h = fans (o76 cl N v0 h) := by kernel_rfl
def w76 (N : Nat) : OF := fun cl args h => match args with
  | [v0] => fans (o76 cl N v0 h)
  | _ => none
theorem w76_ok (N : Nat) : OkF Tryz.prog 76 (w76 N) := .of (N := N) (S76_ok) fun cl args h r hr => by
  unfold w76 at hr
  split at hr
  · exact (o76_eq cl N _ _).trans hr
  · cases hr

def S77.z0 : List AV := [.str [], .str [], .str [], .str [], .str [], .str [], .str [], .str [], .str [], .str [], .str [], .str [], .str [], .str [], .str [], .str []]
/- widgetry/widgetryref37.roles -/
def S77.r0 : List AOpr := [
  q 0 (.mov (.const (.nilsl)))]
def S77.r1 : List AOpr := [
  q 1 (.buildSl 1 16 S77.z0 [(0, 1, .const (.str [110, 111, 110, 101])), (1, 1, .const (.str [119, 105, 110, 100, 111, 119])), (2, 1, .const (.str [103, 114, 111, 117, 112])), (3, 1, .const (.str [116, 101, 120, 116])), (4, 1, .const (.str [98, 117, 116, 116, 111, 110])), (5, 1, .const (.str [116, 101, 120, 116, 98, 111, 120])), (6, 1, .const (.str [105, 109, 97, 103, 101])), (7, 1, .const (.str [99, 104, 101, 99, 107, 98, 111, 120])), (8, 1, .const (.str [108, 105, 110, 107])), (9, 1, .const (.str [115, 99, 114, 111, 108, 108])), (10, 1, .const (.str [104, 101, 97, 100, 105, 110, 103])), (11, 1, .const (.str [108, 105, 115, 116])), (12, 1, .const (.str [105, 116, 101, 109])), (13, 1, .const (.str [100, 105, 97, 108, 111, 103])), (14, 1, .const (.str [115, 108, 105, 100, 101, 114])), (15, 1, .const (.str [115, 116, 97, 116, 117, 115]))]),
  q 0 (.mov (x 1))]
def S77 : SFn := ⟨2, [.tmp 0], .seq (.reg S77.r0) (.seq (.reg S77.r1) (.ret))⟩
theorem S77_ok : EOk Tryz.prog 77 S77 := ⟨Tryz.f77, by kernel_rfl, by kernel_rfl, by decide, by kernel_rfl, its_nil (by kernel_rfl)⟩
def o77 (cl : Handler) (N : Nat) (h : AH) : Ans :=
  fst (kBuildSl h 1 16 S77.z0 [(0, 1, (.str [110, 111, 110, 101])), (1, 1, (.str [119, 105, 110, 100, 111, 119])), (2, 1, (.str [103, 114, 111, 117, 112])), (3, 1, (.str [116, 101, 120, 116])), (4, 1, (.str [98, 117, 116, 116, 111, 110])), (5, 1, (.str [116, 101, 120, 116, 98, 111, 120])), (6, 1, (.str [105, 109, 97, 103, 101])), (7, 1, (.str [99, 104, 101, 99, 107, 98, 111, 120])), (8, 1, (.str [108, 105, 110, 107])), (9, 1, (.str [115, 99, 114, 111, 108, 108])), (10, 1, (.str [104, 101, 97, 100, 105, 110, 103])), (11, 1, (.str [108, 105, 115, 116])), (12, 1, (.str [105, 116, 101, 109])), (13, 1, (.str [100, 105, 97, 108, 111, 103])), (14, 1, (.str [115, 108, 105, 100, 101, 114])), (15, 1, (.str [115, 116, 97, 116, 117, 115]))]) fun v1 h =>
  some (.nrm, [], [v1], h)
theorem o77_eq (cl : Handler) (N : Nat) (h : AH) : frun cl N S77 [] h = fans (o77 cl N  h) := by kernel_rfl
def w77 (N : Nat) : OF := fun cl args h => match args with
  | [] => fans (o77 cl N  h)
  | _ => none
theorem w77_ok (N : Nat) : OkF Tryz.prog 77 (w77 N) := .of (N := N) (S77_ok) fun cl args h r hr => by
  unfold w77 at hr
  split at hr
  · exact (o77_eq cl N _).trans hr
  · cases hr

/- widgetry/widgetryref37.loud -/
def S78.r0 : List AOpr := [
  q 1 (.box (x 0)),
  q 2 (.mov (.const (.bool false)))]
def S78.r1 : List AOpr := [
  q 4 (.fldA 4 (x 1)),
  q 5 (.ld1 (x 4)),
  q 6 (.call (.const (.func (.func 28) [] [])) [.tmp 5, .const (.str [108, 105, 118, 101])]),
  q 3 (.mov (x 6))]
def S78.r2 : List AOpr := [
  q 7 (.mov (x 3)),
  q 8 (.arith .eql (x 7) (.const (.str [112, 111, 108, 105, 116, 101]))),
  q 9 (.mov (x 8)),
  ⟨some 10, .mov (x 3), some (9, false)⟩,
  ⟨some 11, .arith .eql (x 10) (.const (.str [97, 115, 115, 101, 114, 116, 105, 118, 101])), some (9, false)⟩,
  q 12 (.pick (x 9) (.const (.bool true)) (x 11)),
  q 2 (.mov (x 12))]
def S78 : SFn := ⟨13, [.tmp 2], .seq (.reg S78.r0) (.seq (.reg S78.r1) (.seq (.reg S78.r2) (.ret)))⟩
theorem S78_ok : EOk Tryz.prog 78 S78 := ⟨Tryz.f78, by kernel_rfl, by kernel_rfl, by decide, by kernel_rfl, its_nil (by kernel_rfl)⟩
def o78 (cl : Handler) (N : Nat) (v0 : AV) (h : AH) : Ans :=
  fst (kBox h v0) fun v1 h =>
  fst (kFldA h 4 v1) fun v4 h =>
  fst (kLd1 h v4) fun v5 h =>
  fst (cl 28 [v5, (.str [108, 105, 118, 101])] h) fun v6 h =>
  fst (kArith h .eql v6 (.str [112, 111, 108, 105, 116, 101])) fun v8 h =>
  fgd (gdv false v8) (kMov h v6) h fun v10 h =>
  fgd (gdv false v8) (kArith h .eql v10 (.str [97, 115, 115, 101, 114, 116, 105, 118, 101])) h fun v11 h =>
  fst (kPick h v8 (.bool true) v11) fun v12 h =>
  some (.nrm, [], [v12], h)
theorem o78_eq (cl : Handler) (N : Nat) (v0 : AV) (h : AH) : frun cl N S78 [v0] h = fans (o78 cl N v0 h) := by kernel_rfl
def w78 (N : Nat) : OF := fun cl args h => match args with
  | [v0] => fans (o78 cl N v0 h)
  | _ => none
theorem w78_ok (N : Nat) : OkF Tryz.prog 78 (w78 N) := .of (N := N) (S78_ok) fun cl args h r hr => by
  unfold w78 at hr
  split at hr
  · exact (o78_eq cl N _ _).trans hr
  · cases hr

/- widgetry/widgetryref02.ValidRect -/
def S82.r0 : List AOpr := [
  q 1 (.box (x 0)),
  q 2 (.mov (.const (.bool false)))]
def S82.r1 : List AOpr := [
  q 3 (.fldA 0 (x 1)),
  q 4 (.ld1 (x 3)),
  q 5 (.call (.const (.func (.func 93) [] [])) [.tmp 4, .const (.int .i64 1048576)]),
  q 6 (.mov (x 5)),
  ⟨some 7, .fldA 1 (x 1), some (6, true)⟩,
  ⟨some 8, .ld1 (x 7), some (6, true)⟩,
  ⟨some 9, .call (.const (.func (.func 93) [] [])) [.tmp 8, .const (.int .i64 1048576)], some (6, true)⟩,
  q 10 (.pick (x 6) (x 9) (.const (.bool false))),
  q 11 (.mov (x 10)),
  ⟨some 12, .fldA 2 (x 1), some (11, true)⟩,
  ⟨some 13, .ld1 (x 12), some (11, true)⟩,
  ⟨some 14, .arith .geq (x 13) (.const (.int .i64 0)), some (11, true)⟩,
  q 15 (.pick (x 11) (x 14) (.const (.bool false))),
  q 16 (.mov (x 15)),
  ⟨some 17, .fldA 2 (x 1), some (16, true)⟩,
  ⟨some 18, .ld1 (x 17), some (16, true)⟩,
  ⟨some 19, .arith .leq (x 18) (.const (.int .i64 1048576)), some (16, true)⟩,
  q 20 (.pick (x 16) (x 19) (.const (.bool false))),
  q 21 (.mov (x 20)),
  ⟨some 22, .fldA 3 (x 1), some (21, true)⟩,
  ⟨some 23, .ld1 (x 22), some (21, true)⟩,
  ⟨some 24, .arith .geq (x 23) (.const (.int .i64 0)), some (21, true)⟩,
  q 25 (.pick (x 21) (x 24) (.const (.bool false))),
  q 26 (.mov (x 25)),
  ⟨some 27, .fldA 3 (x 1), some (26, true)⟩,
  ⟨some 28, .ld1 (x 27), some (26, true)⟩,
  ⟨some 29, .arith .leq (x 28) (.const (.int .i64 1048576)), some (26, true)⟩,
  q 30 (.pick (x 26) (x 29) (.const (.bool false))),
  q 2 (.mov (x 30))]
def S82 : SFn := ⟨31, [.tmp 2], .seq (.reg S82.r0) (.seq (.reg S82.r1) (.ret))⟩
theorem S82_ok : EOk Tryz.prog 82 S82 := ⟨Tryz.f82, by kernel_rfl, by kernel_rfl, by decide, by kernel_rfl, its_nil (by kernel_rfl)⟩
def o82_s1 (cl : Handler) (N : Nat) (v1 v25 : AV) (h : AH) : Ans :=
  fgd (gdv true v25) (kFldA h 3 v1) h fun v27 h =>
  fgd (gdv true v25) (kLd1 h v27) h fun v28 h =>
  fgd (gdv true v25) (kArith h .leq v28 (.int .i64 1048576)) h fun v29 h =>
  fst (kPick h v25 v29 (.bool false)) fun v30 h =>
  some (.nrm, [], [v30], h)
def o82_s2 (cl : Handler) (N : Nat) (v1 v11 v13 : AV) (h : AH) : Ans :=
  fgd (gdv true v11) (kArith h .geq v13 (.int .i64 0)) h fun v14 h =>
  fst (kPick h v11 v14 (.bool false)) fun v15 h =>
  fgd (gdv true v15) (kFldA h 2 v1) h fun v17 h =>
  fgd (gdv true v15) (kLd1 h v17) h fun v18 h =>
  fgd (gdv true v15) (kArith h .leq v18 (.int .i64 1048576)) h fun v19 h =>
  fst (kPick h v15 v19 (.bool false)) fun v20 h =>
  fgd (gdv true v20) (kFldA h 3 v1) h fun v22 h =>
  fgd (gdv true v20) (kLd1 h v22) h fun v23 h =>
  fgd (gdv true v20) (kArith h .geq v23 (.int .i64 0)) h fun v24 h =>
  fst (kPick h v20 v24 (.bool false)) fun v25 h =>
  o82_s1 cl N v1 v25 h
def o82 (cl : Handler) (N : Nat) (v0 : AV) (h : AH) : Ans :=
  fst (kBox h v0) fun v1 h =>
  fst (kFldA h 0 v1) fun v3 h =>
  fst (kLd1 h v3) fun v4 h =>
  fst (cl 93 [v4, (.int .i64 1048576)] h) fun v5 h =>
  fgd (gdv true v5) (kFldA h 1 v1) h fun v7 h =>
  fgd (gdv true v5) (kLd1 h v7) h fun v8 h =>
  fgd (gdv true v5) (cl 93 [v8, (.int .i64 1048576)] h) h fun v9 h =>
  fst (kPick h v5 v9 (.bool false)) fun v10 h =>
  fgd (gdv true v10) (kFldA h 2 v1) h fun v12 h =>
  fgd (gdv true v10) (kLd1 h v12) h fun v13 h =>
  o82_s2 cl N v1 v10 v13 h
theorem o82_eq (cl : Handler) (N : Nat) (v0 : AV) (h : AH) : frun cl N S82 [v0] h = fans (o82 cl N v0 h) := by kernel_rfl
def w82 (N : Nat) : OF := fun cl args h => match args with
  | [v0] => fans (o82 cl N v0 h)
  | _ => none
theorem w82_ok (N : Nat) : OkF Tryz.prog 82 (w82 N) := .of (N := N) (S82_ok) fun cl args h r hr => by
  unfold w82 at hr
  split at hr
  · exact (o82_eq cl N _ _).trans hr
  · cases hr

def S83.z0 : List AV := [.int .i64 0, .int .i64 0, .int .i64 0, .int .i64 0]
/- widgetry/widgetryref02.valid -/
def S83.r0 : List AOpr := [
  q 1 (.box (x 0)),
  q 2 (.new S83.z0)]
def S83.r1 : List AOpr := [
  q 3 (.ldn 4 (x 1)),
  q 4 (.call (.const (.func (.func 82) [] [])) [.tmp 3]),
  q 5 (.un .not (x 4))]
def S83.r2 : List AOpr := [
  q 6 (.build S83.z0 []),
  ⟨none, .st 4 (x 2) (x 6), none⟩]
def S83.r3 : List AOpr := [
  q 7 (.ldn 4 (x 1)),
  ⟨none, .st 4 (x 2) (x 7), none⟩]
def S83 : SFn := ⟨8, [.cell 2 (some 4)], .seq (.reg S83.r0) (.seq (.seq (.reg S83.r1) (.cond (x 5) (.seq (.reg S83.r2) (.ret)) (.skip))) (.seq (.reg S83.r3) (.ret)))⟩
theorem S83_ok : EOk Tryz.prog 83 S83 := ⟨Tryz.f83, by kernel_rfl, by kernel_rfl, by decide, by kernel_rfl, its_nil (by kernel_rfl)⟩
def o83 (cl : Handler) (N : Nat) (v0 : AV) (h : AH) : Ans :=
  fst (kBox h v0) fun v1 h =>
  fst (kNew h S83.z0) fun v2 h =>
  fst (kLdn h 4 v1) fun v3 h =>
  fst (cl 82 [v3] h) fun v4 h =>
  fst (kUn h .not v4) fun v5 h =>
  fif v5 (
  fst (kBuild h S83.z0 []) fun v6 h =>
  fst (kSt h 4 v2 v6) fun _ h =>
  fres (aresV h [.cell (v2) (some 4)]) h) (
  fst (kLdn h 4 v1) fun v7 h =>
  fst (kSt h 4 v2 v7) fun _ h =>
  fres (aresV h [.cell (v2) (some 4)]) h)
theorem o83_eq (cl : Handler) (N : Nat) (v0 : AV) (h : AH) : frun cl N S83 [v0] h = fans (o83 cl N v0 h) := by kernel_rfl
def w83 (N : Nat) : OF := fun cl args h => match args with
  | [v0] => fans (o83 cl N v0 h)
  | _ => none
theorem w83_ok (N : Nat) : OkF Tryz.prog 83 (w83 N) := .of (N := N) (S83_ok) fun cl args h r hr => by
  unfold w83 at hr
  split at hr
  · exact (o83_eq cl N _ _).trans hr
  · cases hr

/- widgetry/widgetryref14.Path -/
def S84.r0 : List AOpr := [
  q 2 (.box (x 0)),
  q 4 (.mov (.const (.nilsl)))]
def S84.r1 : List AOpr := [
  q 5 (.ldn 3 (x 2)),
  q 6 (.call (.const (.func (.func 37) [] [])) [.tmp 5]),
  q 7 (.arith .neq (x 6) (.const (.int .i64 0))),
  q 8 (.mov (x 7)),
  ⟨some 9, .ldn 3 (x 2), some (8, false)⟩,
  ⟨some 10, .mov (x 1), some (8, false)⟩,
  ⟨some 11, .call (.const (.func (.func 40) [] [])) [.tmp 9, .tmp 10], some (8, false)⟩,
  ⟨some 12, .arith .lss (x 11) (.const (.int .i64 0)), some (8, false)⟩,
  q 13 (.pick (x 8) (.const (.bool true)) (x 12))]
def S84.r2 : List AOpr := [
  q 4 (.mov (.const (.nilsl)))]
def S84.r3 : List AOpr := [
  q 14 (.ldn 3 (x 2)),
  q 15 (.mov (x 1)),
  q 16 (.call (.const (.func (.func 94) [] [])) [.tmp 14, .tmp 15]),
  q 4 (.mov (x 16))]
def S84 : SFn := ⟨17, [.tmp 4], .seq (.reg S84.r0) (.seq (.seq (.joinN [1, 2, 13] (.reg S84.r1)) (.cond (x 13) (.seq (.reg S84.r2) (.ret)) (.skip))) (.seq (.reg S84.r3) (.ret)))⟩
theorem S84_ok : EOk Tryz.prog 84 S84 := ⟨Tryz.f84, by kernel_rfl, by kernel_rfl, by decide, by kernel_rfl, its_nil (by kernel_rfl)⟩
def o84_a1 (cl : Handler) (N : Nat) (v1 v2 : AV) (h : AH) : Ans :=
  fst (kLdn h 3 v2) fun v5 h =>
  fst (cl 37 [v5] h) fun v6 h =>
  fst (kArith h .neq v6 (.int .i64 0)) fun v7 h =>
  fgd (gdv false v7) (kLdn h 3 v2) h fun v9 h =>
  fgd (gdv false v7) (kMov h v1) h fun v10 h =>
  fgd (gdv false v7) (cl 40 [v9, v10] h) h fun v11 h =>
  fgd (gdv false v7) (kArith h .lss v11 (.int .i64 0)) h fun v12 h =>
  fst (kPick h v7 (.bool true) v12) fun v13 h =>
  some (.nrm, [], [v1, v2, v13], h)
def o84_j2 (cl : Handler) (N : Nat) (v1 v2 v13 : AV) (h : AH) : Ans :=
  fif v13 (
  some (.nrm, [], [(.nilsl)], h)) (
  fst (kLdn h 3 v2) fun v14 h =>
  fst (cl 94 [v14, v1] h) fun v16 h =>
  some (.nrm, [], [v16], h))
def o84 (cl : Handler) (N : Nat) (v0 v1 : AV) (h : AH) : Ans :=
  fst (kBox h v0) fun v2 h =>
  fjn (o84_a1 cl N v1 v2 h) fun _ vs h => o84_j2 cl N (nthD vs 0) (nthD vs 1) (nthD vs 2) h
theorem o84_eq (cl : Handler) (N : Nat) (v0 v1 : AV) (h : AH) : frun cl N S84 [v0, v1] h = fans (o84 cl N v0 v1 h) := by kernel_rfl
def w84 (N : Nat) : OF := fun cl args h => match args with
  | [v0, v1] => fans (o84 cl N v0 v1 h)
  | _ => none
theorem w84_ok (N : Nat) : OkF Tryz.prog 84 (w84 N) := .of (N := N) (S84_ok) fun cl args h r hr => by
  unfold w84 at hr
  split at hr
  · exact (o84_eq cl N _ _ _).trans hr
  · cases hr

def S85.z0 : List AV := [.str [], .str [], .str [], .nilsl]
/- widgetry/widgetryref30.action -/
def S85.r0 : List AOpr := [
  q 2 (.box (x 0)),
  q 4 (.new S85.z0),
  q 5 (.mov (.const (.bool false)))]
def S85.r1 : List AOpr := [
  q 6 (.mov (.const (.int .i64 0)))]
def S85.r2 : List AOpr := [
  q 7 (.mov (x 6)),
  q 8 (.fldA 5 (x 2)),
  q 9 (.ld1 (x 8)),
  q 10 (.len (x 9)),
  q 11 (.arith .lss (x 7) (x 10))]
def S85.r3 : List AOpr := [
  q 14 (.fldA 5 (x 2)),
  q 15 (.ld1 (x 14)),
  q 16 (.mov (x 6)),
  q 17 (.idxA 4 (x 15) (x 16)),
  q 18 (.fldA 0 (x 17)),
  q 19 (.ld1 (x 18)),
  q 20 (.mov (x 1)),
  q 21 (.arith .eql (x 19) (x 20))]
def S85.r4 : List AOpr := [
  q 22 (.fldA 5 (x 2)),
  q 23 (.ld1 (x 22)),
  q 24 (.mov (x 6)),
  q 25 (.idxA 4 (x 23) (x 24)),
  q 26 (.ldn 4 (x 25)),
  ⟨none, .st 4 (x 4) (x 26), none⟩,
  q 5 (.mov (.const (.bool true)))]
def S85.r5 : List AOpr := [
  q 12 (.mov (x 6)),
  q 13 (.arith .add (x 12) (.const (.int .i64 1))),
  q 6 (.mov (x 13))]
def S85.r6 : List AOpr := [
  q 27 (.build S85.z0 []),
  ⟨none, .st 4 (x 4) (x 27), none⟩,
  q 5 (.mov (.const (.bool false)))]
def S85 : SFn := ⟨28, [.cell 4 (some 4), .tmp 5], .seq (.reg S85.r0) (.seq (.seq (.reg S85.r1) (.block 0 (.loop [1, 2, 4, 6] [4, 5] (.seq (.seq (.reg S85.r2) (.cond (x 11) (.skip) (.exit 0))) (.seq (.block 1 (.seq (.reg S85.r3) (.cond (x 21) (.seq (.reg S85.r4) (.ret)) (.skip)))) (.reg S85.r5)))))) (.seq (.reg S85.r6) (.ret)))⟩
theorem S85_ok : EOk Tryz.prog 85 S85 := ⟨Tryz.f85, by kernel_rfl, by kernel_rfl, by decide, by kernel_rfl, its_nil (by kernel_rfl)⟩
def o85_s1 (cl : Handler) (N : Nat) (v1 v2 v4 v6 : AV) (h : AH) : Ans :=
  fst (kFldA h 5 v2) fun v22 h =>
  fst (kLd1 h v22) fun v23 h =>
  fst (kIdxA h 4 v23 v6) fun v25 h =>
  fst (kLdn h 4 v25) fun v26 h =>
  fst (kSt h 4 v4 v26) fun _ h =>
  some (.ret, [v1, v2, v4, v6], [v4, (.bool true)], h)
def o85_s2 (cl : Handler) (N : Nat) (v1 v2 v4 v6 : AV) (h : AH) : Ans :=
  fst (kArith h .add v6 (.int .i64 1)) fun v13 h =>
  some (.nrm, [v1, v2, v4, v13], [v4, .undef], h)
def o85_l1 (cl : Handler) (N : Nat) (v1 v2 v4 v6 : AV) (h : AH) : Ans :=
  fst (kFldA h 5 v2) fun v8 h =>
  fst (kLd1 h v8) fun v9 h =>
  fst (kLen h v9) fun v10 h =>
  fst (kArith h .lss v6 v10) fun v11 h =>
  fif v11 (
  fst (kFldA h 5 v2) fun v14 h =>
  fst (kLd1 h v14) fun v15 h =>
  fst (kIdxA h 4 v15 v6) fun v17 h =>
  fst (kFldA h 0 v17) fun v18 h =>
  fst (kLd1 h v18) fun v19 h =>
  fst (kArith h .eql v19 v1) fun v21 h =>
  fif v21 (
  o85_s1 cl N v1 v2 v4 v6 h) (
  o85_s2 cl N v1 v2 v4 v6 h)) (
  some ((.exit 0), [v1, v2, v4, v6], [v4, .undef], h))
def o85_c2 (cl : Handler) (N : Nat) (v4 : AV) (h : AH) : Ans :=
  fst (kBuild h S85.z0 []) fun v27 h =>
  fst (kSt h 4 v4 v27) fun _ h =>
  fres (aresV h [.cell (v4) (some 4), .val ((.bool false))]) h
def o85_j3 (cl : Handler) (N : Nat) (x : AX) (v4 v5 : AV) (h : AH) : Ans :=
  fxs x (o85_c2 cl N v4 h) (fun j => cond (Nat.beq j 0) (o85_c2 cl N v4 h) (none)) (fres (aresV h [.cell (v4) (some 4), .val (v5)]) h)
def o85 (cl : Handler) (N : Nat) (v0 v1 : AV) (h : AH) : Ans :=
  fst (kBox h v0) fun v2 h =>
  fst (kNew h S85.z0) fun v4 h =>
  fjn (fiter (fun vs h => o85_l1 cl N (nthD vs 0) (nthD vs 1) (nthD vs 2) (nthD vs 3) h) N [v1, v2, v4, (.int .i64 0)] h) fun x vs h => o85_j3 cl N x (nthD vs 0) (nthD vs 1) h
theorem o85_eq (cl : Handler) (N : Nat) (v0 v1 : AV) (h : AH) : frun cl N S85 [v0, v1] h = fans (o85 cl N v0 v1 h) := by kernel_rfl
def w85 (N : Nat) : OF := fun cl args h => match args with
  | [v0, v1] => fans (o85 cl N v0 v1 h)
  | _ => none
theorem w85_ok (N : Nat) : OkF Tryz.prog 85 (w85 N) := .of (N := N) (S85_ok) fun cl args h r hr => by
  unfold w85 at hr
  split at hr
  · exact (o85_eq cl N _ _ _).trans hr
  · cases hr

def S86.z0 : List AV := [.int .i64 0, .int .i64 0, .int .i64 0, .int .i64 0, .int .i64 0, .int .i64 0, .nilsl]
def S86.z1 : List AV := [.int .i64 0, .int .i64 0, .int .i64 0, .str [], .nilsl, .nilsl, .nilsl]
def S86.z2 : List AV := [.int .i64 0, .bool false, .int .i64 0, .int .i64 0, .int .i64 0]
/- widgetry/widgetryref29.way -/
def S86.r0 : List AOpr := [
  q 5 (.box (x 0)),
  q 10 (.new [.nilsl, .int .i64 0, .int .i64 0]),
  q 11 (.mov (.const (.bool false)))]
def S86.r1 : List AOpr := [
  q 25 (.mov (x 2)),
  q 26 (.fldA 0 (x 5)),
  q 27 (.ld1 (x 26)),
  q 28 (.call (.const (.func (.func 53) [] [])) [.tmp 25, .tmp 27]),
  q 24 (.mov (x 28)),
  q 29 (.ext (x 24) 0),
  q 30 (.ext (x 24) 1),
  q 12 (.new S86.z0),
  ⟨none, .st 7 (x 12) (x 29), none⟩,
  q 13 (.mov (x 30))]
def S86.r2 : List AOpr := [
  q 31 (.ldn 3 (x 5)),
  q 32 (.mov (x 1)),
  q 33 (.mov (x 2)),
  q 34 (.mov (x 3)),
  q 35 (.call (.const (.func (.func 95) [] [])) [.tmp 31, .tmp 32, .tmp 33, .tmp 34]),
  q 36 (.un .not (x 35)),
  q 37 (.mov (x 36)),
  ⟨some 38, .mov (x 13), some (37, false)⟩,
  ⟨some 39, .un .not (x 38), some (37, false)⟩,
  q 40 (.pick (x 37) (.const (.bool true)) (x 39))]
def S86.r3 : List AOpr := [
  q 41 (.build [.nilsl, .int .i64 0, .int .i64 0] []),
  ⟨none, .st 3 (x 10) (x 41), none⟩,
  q 11 (.mov (.const (.bool false)))]
def S86.r4 : List AOpr := [
  q 42 (.ldn 3 (x 5)),
  q 43 (.mov (x 4)),
  q 44 (.call (.const (.func (.func 84) [] [])) [.tmp 42, .tmp 43]),
  q 14 (.mov (x 44))]
def S86.r5 : List AOpr := [
  q 45 (.mov (x 14)),
  q 46 (.len (x 45)),
  q 47 (.arith .eql (x 46) (.const (.int .i64 0)))]
def S86.r6 : List AOpr := [
  q 48 (.build [.nilsl, .int .i64 0, .int .i64 0] []),
  ⟨none, .st 3 (x 10) (x 48), none⟩,
  q 11 (.mov (.const (.bool false)))]
def S86.r7 : List AOpr := [
  q 49 (.fldA 1 (x 12)),
  q 50 (.fldA 0 (x 49)),
  q 51 (.ld1 (x 50)),
  q 52 (.fldA 1 (x 12)),
  q 53 (.fldA 1 (x 52)),
  q 54 (.ld1 (x 53)),
  q 55 (.build [.nilsl, .int .i64 0, .int .i64 0] [(1, 1, .tmp 51), (2, 1, .tmp 54)]),
  q 15 (.new [.nilsl, .int .i64 0, .int .i64 0]),
  ⟨none, .st 3 (x 15) (x 55), none⟩]
def S86.r8 : List AOpr := [
  q 16 (.mov (.const (.int .i64 0)))]
def S86.r9 : List AOpr := [
  q 56 (.mov (x 16)),
  q 57 (.mov (x 14)),
  q 58 (.len (x 57)),
  q 59 (.arith .lss (x 56) (x 58))]
def S86.r10 : List (AOpr × Nat) := [
  (q 63 (.ldn 3 (x 5)), 0),
  (q 64 (.mov (x 14)), 0),
  (q 65 (.mov (x 16)), 0),
  (q 66 (.idxA 1 (x 64) (x 65)), 6),
  (q 67 (.ld1 (x 66)), 14),
  (q 68 (.call (.const (.func (.func 16) [] [])) [.tmp 63, .tmp 67]), 31),
  (q 62 (.mov (x 68)), 63),
  (q 69 (.ext (x 62) 0), 127),
  (q 70 (.ext (x 62) 1), 127),
  (q 17 (.new S86.z1), 0),
  (⟨none, .st 7 (x 17) (x 69), none⟩, 767),
  (q 18 (.mov (x 70)), 2047)]
def S86.r11 : List AOpr := [
  q 72 (.ldn 7 (x 17)),
  q 73 (.fldA 1 (x 15)),
  q 74 (.ld1 (x 73)),
  q 75 (.fldA 2 (x 15)),
  q 76 (.ld1 (x 75)),
  q 77 (.call (.const (.func (.func 96) [] [])) [.tmp 72, .tmp 74, .tmp 76]),
  q 71 (.mov (x 77)),
  q 78 (.ext (x 71) 0),
  q 79 (.ext (x 71) 1),
  q 19 (.new S86.z2),
  ⟨none, .st 5 (x 19) (x 78), none⟩,
  q 20 (.mov (x 79))]
def S86.r12 : List AOpr := [
  q 80 (.mov (x 20))]
def S86.r13 : List AOpr := [
  q 81 (.fldA 0 (x 15)),
  q 82 (.ld1 (x 81)),
  q 83 (.ldn 5 (x 19)),
  q 84 (.buildSl 5 1 S86.z2 [(0, 5, .tmp 83)]),
  q 85 (.app 5 40 (x 82) (x 84)),
  q 86 (.fldA 0 (x 15)),
  ⟨none, .st 1 (x 86) (x 85), none⟩]
def S86.r14 : List AOpr := [
  q 87 (.fldA 1 (x 15)),
  ⟨none, .st 1 (x 87) (.const (.int .i64 0)), none⟩,
  q 88 (.fldA 2 (x 15)),
  ⟨none, .st 1 (x 88) (.const (.int .i64 0)), none⟩]
def S86.r15 : List AOpr := [
  q 89 (.mov (x 16)),
  q 90 (.arith .add (x 89) (.const (.int .i64 1))),
  q 91 (.mov (x 14)),
  q 92 (.len (x 91)),
  q 93 (.arith .eql (x 90) (x 92))]
def S86.r16 : List AOpr := [
  q 21 (.mov (.const (.bool false)))]
def S86.r17 : List AOpr := [
  q 94 (.ldn 3 (x 5)),
  q 95 (.mov (x 2)),
  q 96 (.mov (x 3)),
  q 97 (.ldn 7 (x 17)),
  q 98 (.call (.const (.func (.func 97) [] [])) [.tmp 94, .tmp 95, .tmp 96, .tmp 97]),
  q 22 (.mov (x 98))]
def S86.r18 : List AOpr := [
  q 23 (.mov (.const (.int .i64 0)))]
def S86.r19 : List AOpr := [
  q 99 (.mov (x 23)),
  q 100 (.mov (x 22)),
  q 101 (.len (x 100)),
  q 102 (.arith .lss (x 99) (x 101))]
def S86.r20 : List (AOpr × Nat) := [
  (q 105 (.mov (x 22)), 0),
  (q 106 (.mov (x 23)), 0),
  (q 107 (.idxA 3 (x 105) (x 106)), 3),
  (q 108 (.fldA 0 (x 107)), 7),
  (q 109 (.ld1 (x 108)), 15),
  (q 110 (.mov (x 14)), 0),
  (q 111 (.mov (x 16)), 0),
  (q 112 (.arith .add (x 111) (.const (.int .i64 1))), 64),
  (q 113 (.idxA 1 (x 110) (x 112)), 224),
  (q 114 (.ld1 (x 113)), 480),
  (q 115 (.arith .eql (x 109) (x 114)), 1023)]
def S86.r21 : List (AOpr × Nat) := [
  (q 116 (.fldA 1 (x 15)), 0),
  (q 117 (.ld1 (x 116)), 1),
  (q 118 (.mov (x 22)), 0),
  (q 119 (.mov (x 23)), 0),
  (q 120 (.idxA 3 (x 118) (x 119)), 12),
  (q 121 (.fldA 1 (x 120)), 28),
  (q 122 (.ld1 (x 121)), 60),
  (q 123 (.arith .add (x 117) (x 122)), 127),
  (q 124 (.fldA 2 (x 15)), 0),
  (q 125 (.ld1 (x 124)), 256),
  (q 126 (.mov (x 22)), 0),
  (q 127 (.mov (x 23)), 0),
  (q 128 (.idxA 3 (x 126) (x 127)), 3072),
  (q 129 (.fldA 2 (x 128)), 7168),
  (q 130 (.ld1 (x 129)), 15360),
  (q 131 (.arith .add (x 125) (x 130)), 32512),
  (q 132 (.fldA 1 (x 15)), 1023),
  (⟨none, .st 1 (x 132) (x 123), none⟩, 66559),
  (q 133 (.fldA 2 (x 15)), 262143),
  (⟨none, .st 1 (x 133) (x 131), none⟩, 524287),
  (q 21 (.mov (.const (.bool true))), 1048575)]
def S86.r22 : List AOpr := [
  q 103 (.mov (x 23)),
  q 104 (.arith .add (x 103) (.const (.int .i64 1))),
  q 23 (.mov (x 104))]
def S86.r23 : List AOpr := [
  q 134 (.mov (x 21)),
  q 135 (.un .not (x 134))]
def S86.r24 : List AOpr := [
  q 136 (.build [.nilsl, .int .i64 0, .int .i64 0] []),
  ⟨none, .st 3 (x 10) (x 136), none⟩,
  q 11 (.mov (.const (.bool false)))]
def S86.r25 : List AOpr := [
  q 60 (.mov (x 16)),
  q 61 (.arith .add (x 60) (.const (.int .i64 1))),
  q 16 (.mov (x 61))]
def S86.r26 : List AOpr := [
  q 137 (.ldn 3 (x 15)),
  ⟨none, .st 3 (x 10) (x 137), none⟩,
  q 11 (.mov (.const (.bool true)))]
def S86 : SFn := ⟨138, [.cell 10 (some 3), .tmp 11], .seq (.reg S86.r0) (.seq (.reg S86.r1) (.seq (.seq (.joinN [2, 3, 4, 5, 10, 12, 40] (.reg S86.r2)) (.cond (x 40) (.seq (.reg S86.r3) (.ret)) (.skip))) (.seq (.reg S86.r4) (.seq (.seq (.reg S86.r5) (.cond (x 47) (.seq (.reg S86.r6) (.ret)) (.skip))) (.seq (.reg S86.r7) (.seq (.seq (.reg S86.r8) (.block 0 (.loop [2, 3, 5, 10, 14, 15, 16] [10, 11, 15] (.seq (.seq (.reg S86.r9) (.cond (x 59) (.skip) (.exit 0))) (.seq (.block 1 (.seq (.draw S86.r10) (.seq (.seq (.reg S86.r11) (.seq (.reg S86.r12) (.joinN [2, 3, 5, 10, 14, 15, 16, 17] (.cond (x 80) (.seq (.reg S86.r13) (.reg S86.r14)) (.skip))))) (.seq (.seq (.reg S86.r15) (.cond (x 93) (.exit 0) (.skip))) (.seq (.reg S86.r16) (.seq (.reg S86.r17) (.seq (.seq (.reg S86.r18) (.block 2 (.loop [2, 3, 5, 10, 14, 15, 16, 21, 22, 23] [2, 3, 5, 10, 14, 15, 16, 21] (.seq (.seq (.reg S86.r19) (.cond (x 102) (.skip) (.exit 2))) (.seq (.joinN [2, 3, 5, 10, 14, 15, 16, 21, 22, 23] (.block 3 (.seq (.draw S86.r20) (.cond (x 115) (.draw S86.r21) (.skip))))) (.reg S86.r22)))))) (.seq (.reg S86.r23) (.cond (x 135) (.seq (.reg S86.r24) (.ret)) (.skip)))))))))) (.reg S86.r25)))))) (.seq (.reg S86.r26) (.ret))))))))⟩
theorem S86_ok : EOk Tryz.prog 86 S86 := ⟨Tryz.f86, by kernel_rfl, by kernel_rfl, by decide, by kernel_rfl, its_nil (by kernel_rfl)⟩
def o86_a1 (cl : Handler) (N : Nat) (v1 v2 v3 v4 v5 v10 v12 v13 : AV) (h : AH) : Ans :=
  fst (kLdn h 3 v5) fun v31 h =>
  fst (cl 95 [v31, v1, v2, v3] h) fun v35 h =>
  fst (kUn h .not v35) fun v36 h =>
  fgd (gdv false v36) (kMov h v13) h fun v38 h =>
  fgd (gdv false v36) (kUn h .not v38) h fun v39 h =>
  fst (kPick h v36 (.bool true) v39) fun v40 h =>
  some (.nrm, [], [v2, v3, v4, v5, v10, v12, v40], h)
def o86_s1 (cl : Handler) (N : Nat) (v2 v3 v5 v10 v14 v15 v16 v17 v88 : AV) (h : AH) : Ans :=
  fst (kSt h 1 v88 (.int .i64 0)) fun _ h =>
  some (.nrm, [], [v2, v3, v5, v10, v14, v15, v16, v17], h)
def o86_a2 (cl : Handler) (N : Nat) (v2 v3 v5 v10 v14 v15 v16 v17 v19 v80 : AV) (h : AH) : Ans :=
  fif v80 (
  fst (kFldA h 0 v15) fun v81 h =>
  fst (kLd1 h v81) fun v82 h =>
  fst (kLdn h 5 v19) fun v83 h =>
  fst (kBuildSl h 5 1 S86.z2 [(0, 5, v83)]) fun v84 h =>
  fst (kApp h 5 40 v82 v84) fun v85 h =>
  fst (kFldA h 0 v15) fun v86 h =>
  fst (kSt h 1 v86 v85) fun _ h =>
  fst (kFldA h 1 v15) fun v87 h =>
  fst (kSt h 1 v87 (.int .i64 0)) fun _ h =>
  fst (kFldA h 2 v15) fun v88 h =>
  o86_s1 cl N v2 v3 v5 v10 v14 v15 v16 v17 v88 h) (
  some (.nrm, [], [v2, v3, v5, v10, v14, v15, v16, v17], h))
def o86_s2 (cl : Handler) (N : Nat) (c0 c1 c2 c3 c4 c5 c6 c7 c8 c9 c10 c11 c12 c13 c14 c15 c16 c17 c18 : Rec) (v2 v3 v5 v10 v14 v15 v16 v21 v22 v23 v131 v133 : AV) (h : AH) : Ans :=
  fde h (kSt h 1 v133 v131) fun _ c19 h =>
  fdp h (kMov h (.bool true)) .pure fun v21 c20 h =>
  cond (fchk [c0, c1, c2, c3, c4, c5, c6, c7, c8, c9, c10, c11, c12, c13, c14, c15, c16, c17, c18, c19, c20] [(14, 17)]) (some (.nrm, [], [v2, v3, v5, v10, v14, v15, v16, v21, v22, v23], h)) none
def o86_s3 (cl : Handler) (N : Nat) (c0 c1 c2 c3 c4 c5 c6 c7 c8 : Rec) (v2 v3 v5 v10 v14 v15 v16 v21 v22 v23 v123 v124 : AV) (h : AH) : Ans :=
  fdp h (kLd1 h v124) (rdK (rdv v124)) fun v125 c9 h =>
  fdp h (kMov h v22) .pure fun v126 c10 h =>
  fdp h (kMov h v23) .pure fun v127 c11 h =>
  fdp h (kIdxA h 3 v126 v127) .pure fun v128 c12 h =>
  fdp h (kFldA h 2 v128) .pure fun v129 c13 h =>
  fdp h (kLd1 h v129) (rdK (rdv v129)) fun v130 c14 h =>
  fdp h (kArith h .add v125 v130) .pure fun v131 c15 h =>
  fdp h (kFldA h 1 v15) .pure fun v132 c16 h =>
  fde h (kSt h 1 v132 v123) fun _ c17 h =>
  fdp h (kFldA h 2 v15) .pure fun v133 c18 h =>
  o86_s2 cl N c0 c1 c2 c3 c4 c5 c6 c7 c8 c9 c10 c11 c12 c13 c14 c15 c16 c17 c18 v2 v3 v5 v10 v14 v15 v16 v21 v22 v23 v131 v133 h
def o86_s4 (cl : Handler) (N : Nat) (r : Nat) (c0 c1 c2 c3 c4 c5 c6 c7 c8 c9 : Rec) (v2 v3 v5 v10 v14 v15 v16 v21 v22 v23 v109 v114 : AV) (h : AH) : Ans :=
  fdp h (kArith h .eql v109 v114) .pure fun v115 c10 h =>
  cond (fchk [c0, c1, c2, c3, c4, c5, c6, c7, c8, c9, c10] []) (fif v115 (
  fdr h 21 fun r h =>
  fdp h (kFldA h 1 v15) .pure fun v116 c0 h =>
  fdp h (kLd1 h v116) (rdK (rdv v116)) fun v117 c1 h =>
  fdp h (kMov h v22) .pure fun v118 c2 h =>
  fdp h (kMov h v23) .pure fun v119 c3 h =>
  fdp h (kIdxA h 3 v118 v119) .pure fun v120 c4 h =>
  fdp h (kFldA h 1 v120) .pure fun v121 c5 h =>
  fdp h (kLd1 h v121) (rdK (rdv v121)) fun v122 c6 h =>
  fdp h (kArith h .add v117 v122) .pure fun v123 c7 h =>
  fdp h (kFldA h 2 v15) .pure fun v124 c8 h =>
  o86_s3 cl N c0 c1 c2 c3 c4 c5 c6 c7 c8 v2 v3 v5 v10 v14 v15 v16 v21 v22 v23 v123 v124 h) (
  some (.nrm, [], [v2, v3, v5, v10, v14, v15, v16, v21, v22, v23], h))) none
def o86_a3 (cl : Handler) (N : Nat) (v2 v3 v5 v10 v14 v15 v16 v21 v22 v23 : AV) (h : AH) : Ans :=
  fdr h 11 fun r h =>
  fdp h (kMov h v22) .pure fun v105 c0 h =>
  fdp h (kMov h v23) .pure fun v106 c1 h =>
  fdp h (kIdxA h 3 v105 v106) .pure fun v107 c2 h =>
  fdp h (kFldA h 0 v107) .pure fun v108 c3 h =>
  fdp h (kLd1 h v108) (rdK (rdv v108)) fun v109 c4 h =>
  fdp h (kMov h v14) .pure fun v110 c5 h =>
  fdp h (kMov h v16) .pure fun v111 c6 h =>
  fdp h (kArith h .add v111 (.int .i64 1)) .pure fun v112 c7 h =>
  fdp h (kIdxA h 1 v110 v112) .pure fun v113 c8 h =>
  fdp h (kLd1 h v113) (rdK (rdv v113)) fun v114 c9 h =>
  o86_s4 cl N r c0 c1 c2 c3 c4 c5 c6 c7 c8 c9 v2 v3 v5 v10 v14 v15 v16 v21 v22 v23 v109 v114 h
def o86_j4 (cl : Handler) (N : Nat) (v2 v3 v5 v10 v14 v15 v16 v21 v22 v23 : AV) (h : AH) : Ans :=
  fst (kArith h .add v23 (.int .i64 1)) fun v104 h =>
  some (.nrm, [v2, v3, v5, v10, v14, v15, v16, v21, v22, v104], [v2, v3, v5, v10, v14, v15, v16, v21], h)
def o86_l5 (cl : Handler) (N : Nat) (v2 v3 v5 v10 v14 v15 v16 v21 v22 v23 : AV) (h : AH) : Ans :=
  fst (kLen h v22) fun v101 h =>
  fst (kArith h .lss v23 v101) fun v102 h =>
  fif v102 (
  fjn (o86_a3 cl N v2 v3 v5 v10 v14 v15 v16 v21 v22 v23 h) fun _ vs h => o86_j4 cl N (nthD vs 0) (nthD vs 1) (nthD vs 2) (nthD vs 3) (nthD vs 4) (nthD vs 5) (nthD vs 6) (nthD vs 7) (nthD vs 8) (nthD vs 9) h) (
  some ((.exit 2), [v2, v3, v5, v10, v14, v15, v16, v21, v22, v23], [v2, v3, v5, v10, v14, v15, v16, v21], h))
def o86_c6 (cl : Handler) (N : Nat) (v2 v3 v5 v10 v14 v15 v16 v21 : AV) (h : AH) : Ans :=
  fst (kUn h .not v21) fun v135 h =>
  fif v135 (
  fst (kBuild h [.nilsl, .int .i64 0, .int .i64 0] []) fun v136 h =>
  fst (kSt h 3 v10 v136) fun _ h =>
  some (.ret, [v2, v3, v5, v10, v14, v15, v16], [v10, (.bool false), v15], h)) (
  fst (kArith h .add v16 (.int .i64 1)) fun v61 h =>
  some (.nrm, [v2, v3, v5, v10, v14, v15, v61], [v10, .undef, v15], h))
def o86_j7 (cl : Handler) (N : Nat) (x : AX) (v2 v3 v5 v10 v14 v15 v16 v21 : AV) (h : AH) : Ans :=
  fxs x (o86_c6 cl N v2 v3 v5 v10 v14 v15 v16 v21 h) (fun j => cond (Nat.beq j 2) (o86_c6 cl N v2 v3 v5 v10 v14 v15 v16 v21 h) (cond (Nat.beq j 1) (fst (kArith h .add v16 (.int .i64 1)) fun v61 h =>
  some (.nrm, [v2, v3, v5, v10, v14, v15, v61], [v10, .undef, v15], h)) (some ((.exit j), [v2, v3, v5, v10, v14, v15, v16], [v10, .undef, v15], h)))) (some (.ret, [v2, v3, v5, v10, v14, v15, v16], [v10, .undef, v15], h))
def o86_j8 (cl : Handler) (N : Nat) (v2 v3 v5 v10 v14 v15 v16 v17 : AV) (h : AH) : Ans :=
  fst (kArith h .add v16 (.int .i64 1)) fun v90 h =>
  fst (kLen h v14) fun v92 h =>
  fst (kArith h .eql v90 v92) fun v93 h =>
  fif v93 (
  some ((.exit 0), [v2, v3, v5, v10, v14, v15, v16], [v10, .undef, v15], h)) (
  fst (kLdn h 3 v5) fun v94 h =>
  fst (kLdn h 7 v17) fun v97 h =>
  fst (cl 97 [v94, v2, v3, v97] h) fun v98 h =>
  fjn (fiter (fun vs h => o86_l5 cl N (nthD vs 0) (nthD vs 1) (nthD vs 2) (nthD vs 3) (nthD vs 4) (nthD vs 5) (nthD vs 6) (nthD vs 7) (nthD vs 8) (nthD vs 9) h) N [v2, v3, v5, v10, v14, v15, v16, (.bool false), v98, (.int .i64 0)] h) fun x vs h => o86_j7 cl N x (nthD vs 0) (nthD vs 1) (nthD vs 2) (nthD vs 3) (nthD vs 4) (nthD vs 5) (nthD vs 6) (nthD vs 7) h)
def o86_s5 (cl : Handler) (N : Nat) (v2 v3 v5 v10 v14 v15 v16 v17 v77 : AV) (h : AH) : Ans :=
  fst (kExt h v77 0) fun v78 h =>
  fst (kExt h v77 1) fun v79 h =>
  fst (kNew h S86.z2) fun v19 h =>
  fst (kSt h 5 v19 v78) fun _ h =>
  fjn (o86_a2 cl N v2 v3 v5 v10 v14 v15 v16 v17 v19 v79 h) fun _ vs h => o86_j8 cl N (nthD vs 0) (nthD vs 1) (nthD vs 2) (nthD vs 3) (nthD vs 4) (nthD vs 5) (nthD vs 6) (nthD vs 7) h
def o86_s6 (cl : Handler) (N : Nat) (r : Nat) (c0 c1 c2 c3 c4 c5 c6 c7 : Rec) (v2 v3 v5 v10 v14 v15 v16 v62 v69 : AV) (h : AH) : Ans :=
  fdp h (kExt h v62 1) .pure fun v70 c8 h =>
  fda (r + 9) h (alNew S86.z1) fun v17 c9 h =>
  fde h (kSt h 7 v17 v69) fun _ c10 h =>
  fdp h (kMov h v70) .pure fun v18 c11 h =>
  cond (fchk [c0, c1, c2, c3, c4, c5, c6, c7, c8, c9, c10, c11] [(0, 9), (4, 9)]) (fst (kLdn h 7 v17) fun v72 h =>
  fst (kFldA h 1 v15) fun v73 h =>
  fst (kLd1 h v73) fun v74 h =>
  fst (kFldA h 2 v15) fun v75 h =>
  fst (kLd1 h v75) fun v76 h =>
  fst (cl 96 [v72, v74, v76] h) fun v77 h =>
  o86_s5 cl N v2 v3 v5 v10 v14 v15 v16 v17 v77 h) none
def o86_l9 (cl : Handler) (N : Nat) (v2 v3 v5 v10 v14 v15 v16 : AV) (h : AH) : Ans :=
  fst (kLen h v14) fun v58 h =>
  fst (kArith h .lss v16 v58) fun v59 h =>
  fif v59 (
  fdr h 12 fun r h =>
  fdp h (kLdn h 3 v5) (rdK (rdv v5)) fun v63 c0 h =>
  fdp h (kMov h v14) .pure fun v64 c1 h =>
  fdp h (kMov h v16) .pure fun v65 c2 h =>
  fdp h (kIdxA h 1 v64 v65) .pure fun v66 c3 h =>
  fdp h (kLd1 h v66) (rdK (rdv v66)) fun v67 c4 h =>
  fde h (cl 16 [v63, v67] h) fun v68 c5 h =>
  fdp h (kMov h v68) .pure fun v62 c6 h =>
  fdp h (kExt h v62 0) .pure fun v69 c7 h =>
  o86_s6 cl N r c0 c1 c2 c3 c4 c5 c6 c7 v2 v3 v5 v10 v14 v15 v16 v62 v69 h) (
  some ((.exit 0), [v2, v3, v5, v10, v14, v15, v16], [v10, .undef, v15], h))
def o86_c10 (cl : Handler) (N : Nat) (v10 v15 : AV) (h : AH) : Ans :=
  fst (kLdn h 3 v15) fun v137 h =>
  fst (kSt h 3 v10 v137) fun _ h =>
  fres (aresV h [.cell (v10) (some 3), .val ((.bool true))]) h
def o86_j11 (cl : Handler) (N : Nat) (x : AX) (v10 v11 v15 : AV) (h : AH) : Ans :=
  fxs x (o86_c10 cl N v10 v15 h) (fun j => cond (Nat.beq j 0) (o86_c10 cl N v10 v15 h) (none)) (fres (aresV h [.cell (v10) (some 3), .val (v11)]) h)
def o86_s7 (cl : Handler) (N : Nat) (v2 v3 v5 v10 v14 v51 v54 : AV) (h : AH) : Ans :=
  fst (kBuild h [.nilsl, .int .i64 0, .int .i64 0] [(1, 1, v51), (2, 1, v54)]) fun v55 h =>
  fst (kNew h [.nilsl, .int .i64 0, .int .i64 0]) fun v15 h =>
  fst (kSt h 3 v15 v55) fun _ h =>
  fjn (fiter (fun vs h => o86_l9 cl N (nthD vs 0) (nthD vs 1) (nthD vs 2) (nthD vs 3) (nthD vs 4) (nthD vs 5) (nthD vs 6) h) N [v2, v3, v5, v10, v14, v15, (.int .i64 0)] h) fun x vs h => o86_j11 cl N x (nthD vs 0) (nthD vs 1) (nthD vs 2) h
def o86_j12 (cl : Handler) (N : Nat) (v2 v3 v4 v5 v10 v12 v40 : AV) (h : AH) : Ans :=
  fif v40 (
  fst (kBuild h [.nilsl, .int .i64 0, .int .i64 0] []) fun v41 h =>
  fst (kSt h 3 v10 v41) fun _ h =>
  fres (aresV h [.cell (v10) (some 3), .val ((.bool false))]) h) (
  fst (kLdn h 3 v5) fun v42 h =>
  fst (cl 84 [v42, v4] h) fun v44 h =>
  fst (kLen h v44) fun v46 h =>
  fst (kArith h .eql v46 (.int .i64 0)) fun v47 h =>
  fif v47 (
  fst (kBuild h [.nilsl, .int .i64 0, .int .i64 0] []) fun v48 h =>
  fst (kSt h 3 v10 v48) fun _ h =>
  fres (aresV h [.cell (v10) (some 3), .val ((.bool false))]) h) (
  fst (kFldA h 1 v12) fun v49 h =>
  fst (kFldA h 0 v49) fun v50 h =>
  fst (kLd1 h v50) fun v51 h =>
  fst (kFldA h 1 v12) fun v52 h =>
  fst (kFldA h 1 v52) fun v53 h =>
  fst (kLd1 h v53) fun v54 h =>
  o86_s7 cl N v2 v3 v5 v10 v44 v51 v54 h))
def o86 (cl : Handler) (N : Nat) (v0 v1 v2 v3 v4 : AV) (h : AH) : Ans :=
  fst (kBox h v0) fun v5 h =>
  fst (kNew h [.nilsl, .int .i64 0, .int .i64 0]) fun v10 h =>
  fst (kFldA h 0 v5) fun v26 h =>
  fst (kLd1 h v26) fun v27 h =>
  fst (cl 53 [v2, v27] h) fun v28 h =>
  fst (kExt h v28 0) fun v29 h =>
  fst (kExt h v28 1) fun v30 h =>
  fst (kNew h S86.z0) fun v12 h =>
  fst (kSt h 7 v12 v29) fun _ h =>
  fjn (o86_a1 cl N v1 v2 v3 v4 v5 v10 v12 v30 h) fun _ vs h => o86_j12 cl N (nthD vs 0) (nthD vs 1) (nthD vs 2) (nthD vs 3) (nthD vs 4) (nthD vs 5) (nthD vs 6) h
theorem o86_eq (cl : Handler) (N : Nat) (v0 v1 v2 v3 v4 : AV) (h : AH) : frun cl N S86 [v0, v1, v2, v3, v4] h = fans (o86 cl N v0 v1 v2 v3 v4 h) := by kernel_rfl
def w86 (N : Nat) : OF := fun cl args h => match args with
  | [v0, v1, v2, v3, v4] => fans (o86 cl N v0 v1 v2 v3 v4 h)
  | _ => none
theorem w86_ok (N : Nat) : OkF Tryz.prog 86 (w86 N) := .of (N := N) (S86_ok) fun cl args h r hr => by
  unfold w86 at hr
  split at hr
  · exact (o86_eq cl N _ _ _ _ _ _).trans hr
  · cases hr

/- widgetry/widgetryref13.Key -/
def S89.r0 : List AOpr := [
  q 2 (.mov (.const (.bool false)))]
def S89.r1 : List AOpr := [
  q 3 (.mov (.const (.int .i64 0)))]
def S89.r2 : List AOpr := [
  q 5 (.mov (x 3)),
  q 6 (.mov (x 0)),
  q 7 (.lenS (x 6)),
  q 8 (.arith .lss (x 5) (x 7))]
def S89.r3 : List AOpr := [
  q 11 (.mov (x 0)),
  q 12 (.mov (x 3)),
  q 13 (.idxS (x 11) (x 12)),
  q 4 (.mov (x 13))]
def S89.r4 : List AOpr := [
  q 14 (.mov (x 4)),
  q 15 (.arith .lss (x 14) (.const (.int .u8 97))),
  q 16 (.mov (x 15)),
  ⟨some 17, .mov (x 4), some (16, false)⟩,
  ⟨some 18, .arith .gtr (x 17) (.const (.int .u8 122)), some (16, false)⟩,
  q 19 (.pick (x 16) (.const (.bool true)) (x 18)),
  q 20 (.mov (x 19)),
  ⟨some 21, .mov (x 4), some (20, true)⟩,
  ⟨some 22, .arith .lss (x 21) (.const (.int .u8 65)), some (20, true)⟩,
  ⟨some 23, .mov (x 22), some (20, true)⟩,
  ⟨some 24, .mov (x 4), some (23, false)⟩,
  ⟨some 25, .arith .gtr (x 24) (.const (.int .u8 90)), some (23, false)⟩,
  ⟨some 26, .pick (x 23) (.const (.bool true)) (x 25), some (20, true)⟩,
  q 27 (.pick (x 20) (x 26) (.const (.bool false))),
  q 28 (.mov (x 27)),
  ⟨some 29, .mov (x 4), some (28, true)⟩,
  ⟨some 30, .arith .lss (x 29) (.const (.int .u8 48)), some (28, true)⟩,
  ⟨some 31, .mov (x 30), some (28, true)⟩,
  ⟨some 32, .mov (x 4), some (31, false)⟩,
  ⟨some 33, .arith .gtr (x 32) (.const (.int .u8 57)), some (31, false)⟩,
  ⟨some 34, .pick (x 31) (.const (.bool true)) (x 33), some (28, true)⟩,
  q 35 (.pick (x 28) (x 34) (.const (.bool false))),
  q 36 (.mov (x 35)),
  ⟨some 37, .mov (x 4), some (36, true)⟩,
  ⟨some 38, .arith .neq (x 37) (.const (.int .u8 45)), some (36, true)⟩,
  q 39 (.pick (x 36) (x 38) (.const (.bool false))),
  q 40 (.mov (x 39)),
  ⟨some 41, .mov (x 4), some (40, true)⟩,
  ⟨some 42, .arith .neq (x 41) (.const (.int .u8 95)), some (40, true)⟩,
  q 43 (.pick (x 40) (x 42) (.const (.bool false)))]
def S89.r5 : List AOpr := [
  q 2 (.mov (.const (.bool false)))]
def S89.r6 : List AOpr := [
  q 9 (.mov (x 3)),
  q 10 (.arith .add (x 9) (.const (.int .i64 1))),
  q 3 (.mov (x 10))]
def S89.r7 : List AOpr := [
  q 44 (.mov (x 0)),
  q 45 (.lenS (x 44)),
  q 46 (.arith .leq (x 45) (.const (.int .i64 24))),
  q 2 (.mov (x 46))]
def S89 : SFn := ⟨47, [.tmp 2], .seq (.reg S89.r0) (.seq (.seq (.reg S89.r1) (.block 0 (.loop [0, 3] [0, 2] (.seq (.seq (.reg S89.r2) (.cond (x 8) (.skip) (.exit 0))) (.seq (.block 1 (.seq (.reg S89.r3) (.seq (.joinN [0, 3, 43] (.reg S89.r4)) (.cond (x 43) (.seq (.reg S89.r5) (.ret)) (.skip))))) (.reg S89.r6)))))) (.seq (.reg S89.r7) (.ret)))⟩
theorem S89_ok : EOk Tryz.prog 89 S89 := ⟨Tryz.f89, by kernel_rfl, by kernel_rfl, by decide, by kernel_rfl, its_nil (by kernel_rfl)⟩
def o89_s1 (cl : Handler) (N : Nat) (v0 v3 v4 v36 v38 : AV) (h : AH) : Ans :=
  fst (kPick h v36 v38 (.bool false)) fun v39 h =>
  fgd (gdv true v39) (kMov h v4) h fun v41 h =>
  fgd (gdv true v39) (kArith h .neq v41 (.int .u8 95)) h fun v42 h =>
  fst (kPick h v39 v42 (.bool false)) fun v43 h =>
  some (.nrm, [], [v0, v3, v43], h)
def o89_s2 (cl : Handler) (N : Nat) (v0 v3 v4 v20 v26 : AV) (h : AH) : Ans :=
  fst (kPick h v20 v26 (.bool false)) fun v27 h =>
  fgd (gdv true v27) (kMov h v4) h fun v29 h =>
  fgd (gdv true v27) (kArith h .lss v29 (.int .u8 48)) h fun v30 h =>
  fgd (gdv true v27) (kMov h v30) h fun v31 h =>
  fgd (gdv false v31) (kMov h v4) h fun v32 h =>
  fgd (gdv false v31) (kArith h .gtr v32 (.int .u8 57)) h fun v33 h =>
  fgd (gdv true v27) (kPick h v31 (.bool true) v33) h fun v34 h =>
  fst (kPick h v27 v34 (.bool false)) fun v35 h =>
  fgd (gdv true v35) (kMov h v4) h fun v37 h =>
  fgd (gdv true v35) (kArith h .neq v37 (.int .u8 45)) h fun v38 h =>
  o89_s1 cl N v0 v3 v4 v35 v38 h
def o89_a1 (cl : Handler) (N : Nat) (v0 v3 v4 : AV) (h : AH) : Ans :=
  fst (kArith h .lss v4 (.int .u8 97)) fun v15 h =>
  fgd (gdv false v15) (kMov h v4) h fun v17 h =>
  fgd (gdv false v15) (kArith h .gtr v17 (.int .u8 122)) h fun v18 h =>
  fst (kPick h v15 (.bool true) v18) fun v19 h =>
  fgd (gdv true v19) (kMov h v4) h fun v21 h =>
  fgd (gdv true v19) (kArith h .lss v21 (.int .u8 65)) h fun v22 h =>
  fgd (gdv true v19) (kMov h v22) h fun v23 h =>
  fgd (gdv false v23) (kMov h v4) h fun v24 h =>
  fgd (gdv false v23) (kArith h .gtr v24 (.int .u8 90)) h fun v25 h =>
  fgd (gdv true v19) (kPick h v23 (.bool true) v25) h fun v26 h =>
  o89_s2 cl N v0 v3 v4 v19 v26 h
def o89_j2 (cl : Handler) (N : Nat) (v0 v3 v43 : AV) (h : AH) : Ans :=
  fif v43 (
  some (.ret, [v0, v3], [v0, (.bool false)], h)) (
  fst (kArith h .add v3 (.int .i64 1)) fun v10 h =>
  some (.nrm, [v0, v10], [v0, .undef], h))
def o89_l3 (cl : Handler) (N : Nat) (v0 v3 : AV) (h : AH) : Ans :=
  fst (kLenS h v0) fun v7 h =>
  fst (kArith h .lss v3 v7) fun v8 h =>
  fif v8 (
  fst (kIdxS h v0 v3) fun v13 h =>
  fjn (o89_a1 cl N v0 v3 v13 h) fun _ vs h => o89_j2 cl N (nthD vs 0) (nthD vs 1) (nthD vs 2) h) (
  some ((.exit 0), [v0, v3], [v0, .undef], h))
def o89_c4 (cl : Handler) (N : Nat) (v0 : AV) (h : AH) : Ans :=
  fst (kLenS h v0) fun v45 h =>
  fst (kArith h .leq v45 (.int .i64 24)) fun v46 h =>
  some (.nrm, [], [v46], h)
def o89_j5 (cl : Handler) (N : Nat) (x : AX) (v0 v2 : AV) (h : AH) : Ans :=
  fxs x (o89_c4 cl N v0 h) (fun j => cond (Nat.beq j 0) (o89_c4 cl N v0 h) (none)) (some (.nrm, [], [v2], h))
def o89 (cl : Handler) (N : Nat) (v0 : AV) (h : AH) : Ans :=
  fjn (fiter (fun vs h => o89_l3 cl N (nthD vs 0) (nthD vs 1) h) N [v0, (.int .i64 0)] h) fun x vs h => o89_j5 cl N x (nthD vs 0) (nthD vs 1) h
theorem o89_eq (cl : Handler) (N : Nat) (v0 : AV) (h : AH) : frun cl N S89 [v0] h = fans (o89 cl N v0 h) := by kernel_rfl
def w89 (N : Nat) : OF := fun cl args h => match args with
  | [v0] => fans (o89 cl N v0 h)
  | _ => none
theorem w89_ok (N : Nat) : OkF Tryz.prog 89 (w89 N) := .of (N := N) (S89_ok) fun cl args h r hr => by
  unfold w89 at hr
  split at hr
  · exact (o89_eq cl N _ _).trans hr
  · cases hr

/- widgetry/widgetryref11.letter -/
def S90.r0 : List AOpr := [
  q 2 (.mov (.const (.bool false)))]
def S90.r1 : List AOpr := [
  q 3 (.mov (x 0)),
  q 4 (.arith .geq (x 3) (.const (.int .u8 97))),
  q 5 (.mov (x 4)),
  ⟨some 6, .mov (x 0), some (5, true)⟩,
  ⟨some 7, .arith .leq (x 6) (.const (.int .u8 122)), some (5, true)⟩,
  q 8 (.pick (x 5) (x 7) (.const (.bool false))),
  q 9 (.mov (x 8)),
  ⟨some 10, .mov (x 0), some (9, false)⟩,
  ⟨some 11, .arith .geq (x 10) (.const (.int .u8 65)), some (9, false)⟩,
  ⟨some 12, .mov (x 11), some (9, false)⟩,
  ⟨some 13, .mov (x 0), some (12, true)⟩,
  ⟨some 14, .arith .leq (x 13) (.const (.int .u8 90)), some (12, true)⟩,
  ⟨some 15, .pick (x 12) (x 14) (.const (.bool false)), some (9, false)⟩,
  q 16 (.pick (x 9) (.const (.bool true)) (x 15)),
  q 2 (.mov (x 16))]
def S90 : SFn := ⟨17, [.tmp 2], .seq (.reg S90.r0) (.seq (.reg S90.r1) (.ret))⟩
theorem S90_ok : EOk Tryz.prog 90 S90 := ⟨Tryz.f90, by kernel_rfl, by kernel_rfl, by decide, by kernel_rfl, its_nil (by kernel_rfl)⟩
def o90_s1 (cl : Handler) (N : Nat) (v9 v15 : AV) (h : AH) : Ans :=
  fst (kPick h v9 (.bool true) v15) fun v16 h =>
  some (.nrm, [], [v16], h)
def o90 (cl : Handler) (N : Nat) (v0 : AV) (h : AH) : Ans :=
  fst (kArith h .geq v0 (.int .u8 97)) fun v4 h =>
  fgd (gdv true v4) (kMov h v0) h fun v6 h =>
  fgd (gdv true v4) (kArith h .leq v6 (.int .u8 122)) h fun v7 h =>
  fst (kPick h v4 v7 (.bool false)) fun v8 h =>
  fgd (gdv false v8) (kMov h v0) h fun v10 h =>
  fgd (gdv false v8) (kArith h .geq v10 (.int .u8 65)) h fun v11 h =>
  fgd (gdv false v8) (kMov h v11) h fun v12 h =>
  fgd (gdv true v12) (kMov h v0) h fun v13 h =>
  fgd (gdv true v12) (kArith h .leq v13 (.int .u8 90)) h fun v14 h =>
  fgd (gdv false v8) (kPick h v12 v14 (.bool false)) h fun v15 h =>
  o90_s1 cl N v8 v15 h
theorem o90_eq (cl : Handler) (N : Nat) (v0 : AV) (h : AH) : frun cl N S90 [v0] h = fans (o90 cl N v0 h) := by kernel_rfl
def w90 (N : Nat) : OF := fun cl args h => match args with
  | [v0] => fans (o90 cl N v0 h)
  | _ => none
theorem w90_ok (N : Nat) : OkF Tryz.prog 90 (w90 N) := .of (N := N) (S90_ok) fun cl args h r hr => by
  unfold w90 at hr
  split at hr
  · exact (o90_eq cl N _ _).trans hr
  · cases hr

/- widgetry/widgetryref11.TypeOf -/
def S91.r0 : List AOpr := [
  q 1 (.box (x 0)),
  q 2 (.new [.int .i64 0, .nilsl]),
  q 3 (.mov (.const (.int .i64 0)))]
def S91.r1 : List AOpr := [
  q 8 (.ldn 4 (x 1)),
  q 9 (.call (.const (.func (.func 99) [] [])) [.tmp 8, .const (.int .i64 1), .const (.int .i64 0)]),
  q 7 (.mov (x 9)),
  q 10 (.ext (x 7) 0),
  q 11 (.ext (x 7) 1),
  q 12 (.ext (x 7) 2),
  q 4 (.new [.int .i64 0, .nilsl]),
  ⟨none, .st 2 (x 4) (x 10), none⟩,
  q 5 (.mov (x 11)),
  q 6 (.mov (x 12))]
def S91.r2 : List AOpr := [
  q 13 (.ldn 2 (x 4)),
  q 14 (.mov (x 6)),
  ⟨none, .st 2 (x 2) (x 13), none⟩,
  q 3 (.mov (x 14))]
def S91 : SFn := ⟨15, [.cell 2 (some 2), .tmp 3], .seq (.reg S91.r0) (.seq (.reg S91.r1) (.seq (.reg S91.r2) (.ret)))⟩
theorem S91_ok : EOk Tryz.prog 91 S91 := ⟨Tryz.f91, by kernel_rfl, by kernel_rfl, by decide, by kernel_rfl, its_nil (by kernel_rfl)⟩
def o91_s1 (cl : Handler) (N : Nat) (v2 v6 v13 : AV) (h : AH) : Ans :=
  fst (kSt h 2 v2 v13) fun _ h =>
  fres (aresV h [.cell (v2) (some 2), .val (v6)]) h
def o91 (cl : Handler) (N : Nat) (v0 : AV) (h : AH) : Ans :=
  fst (kBox h v0) fun v1 h =>
  fst (kNew h [.int .i64 0, .nilsl]) fun v2 h =>
  fst (kLdn h 4 v1) fun v8 h =>
  fst (cl 99 [v8, (.int .i64 1), (.int .i64 0)] h) fun v9 h =>
  fst (kExt h v9 0) fun v10 h =>
  fst (kExt h v9 1) fun v11 h =>
  fst (kExt h v9 2) fun v12 h =>
  fst (kNew h [.int .i64 0, .nilsl]) fun v4 h =>
  fst (kSt h 2 v4 v10) fun _ h =>
  fst (kLdn h 2 v4) fun v13 h =>
  o91_s1 cl N v2 v12 v13 h
theorem o91_eq (cl : Handler) (N : Nat) (v0 : AV) (h : AH) : frun cl N S91 [v0] h = fans (o91 cl N v0 h) := by kernel_rfl
def w91 (N : Nat) : OF := fun cl args h => match args with
  | [v0] => fans (o91 cl N v0 h)
  | _ => none
theorem w91_ok (N : Nat) : OkF Tryz.prog 91 (w91 N) := .of (N := N) (S91_ok) fun cl args h r hr => by
  unfold w91 at hr
  split at hr
  · exact (o91_eq cl N _ _).trans hr
  · cases hr

def S92.z0 : List AV := [.int .i64 0, .int .i64 0, .int .i64 0, .str [], .nilsl, .nilsl, .nilsl]
/- widgetry/widgetryref14.order -/
def S92.r0 : List AOpr := [
  q 3 (.box (x 0)),
  q 6 (.mov (.const (.nilsl)))]
def S92.r1 : List AOpr := [
  q 9 (.mov (x 2)),
  q 10 (.mov (x 1)),
  q 11 (.buildSl 1 1 [.int .i64 0] [(0, 1, .tmp 10)]),
  q 12 (.app 1 8 (x 9) (x 11)),
  q 2 (.mov (x 12))]
def S92.r2 : List AOpr := [
  q 13 (.ldn 3 (x 3)),
  q 14 (.mov (x 1)),
  q 15 (.call (.const (.func (.func 41) [] [])) [.tmp 13, .tmp 14]),
  q 7 (.new S92.z0),
  ⟨none, .st 7 (x 7) (x 15), none⟩]
def S92.r3 : List AOpr := [
  q 8 (.mov (.const (.int .i64 0)))]
def S92.r4 : List AOpr := [
  q 16 (.mov (x 8)),
  q 17 (.fldA 6 (x 7)),
  q 18 (.ld1 (x 17)),
  q 19 (.len (x 18)),
  q 20 (.arith .lss (x 16) (x 19))]
def S92.r5 : List (AOpr × Nat) := [
  (q 23 (.ldn 3 (x 3)), 0),
  (q 24 (.fldA 6 (x 7)), 0),
  (q 25 (.ld1 (x 24)), 2),
  (q 26 (.mov (x 8)), 0),
  (q 27 (.idxA 1 (x 25) (x 26)), 14),
  (q 28 (.ld1 (x 27)), 30),
  (q 29 (.mov (x 2)), 0),
  (q 30 (.call (.const (.func (.func 92) [] [])) [.tmp 23, .tmp 28, .tmp 29]), 127),
  (q 2 (.mov (x 30)), 255)]
def S92.r6 : List AOpr := [
  q 21 (.mov (x 8)),
  q 22 (.arith .add (x 21) (.const (.int .i64 1))),
  q 8 (.mov (x 22))]
def S92.r7 : List AOpr := [
  q 31 (.mov (x 2)),
  q 6 (.mov (x 31))]
def S92 : SFn := ⟨32, [.tmp 6], .seq (.reg S92.r0) (.seq (.reg S92.r1) (.seq (.reg S92.r2) (.seq (.seq (.reg S92.r3) (.block 0 (.loop [2, 3, 7, 8] [2] (.seq (.seq (.reg S92.r4) (.cond (x 20) (.skip) (.exit 0))) (.seq (.block 1 (.draw S92.r5)) (.reg S92.r6)))))) (.seq (.reg S92.r7) (.ret)))))⟩
theorem S92_ok : EOk Tryz.prog 92 S92 := ⟨Tryz.f92, by kernel_rfl, by kernel_rfl, by decide, by kernel_rfl, its_nil (by kernel_rfl)⟩
def o92_s1 (cl : Handler) (N : Nat) (c0 c1 c2 c3 c4 c5 : Rec) (v2 v3 v7 v8 v23 v28 : AV) (h : AH) : Ans :=
  fdp h (kMov h v2) .pure fun v29 c6 h =>
  fde h (cl 92 [v23, v28, v29] h) fun v30 c7 h =>
  fdp h (kMov h v30) .pure fun v2 c8 h =>
  cond (fchk [c0, c1, c2, c3, c4, c5, c6, c7, c8] []) (fst (kArith h .add v8 (.int .i64 1)) fun v22 h =>
  some (.nrm, [v2, v3, v7, v22], [v2], h)) none
def o92_l1 (cl : Handler) (N : Nat) (v2 v3 v7 v8 : AV) (h : AH) : Ans :=
  fst (kFldA h 6 v7) fun v17 h =>
  fst (kLd1 h v17) fun v18 h =>
  fst (kLen h v18) fun v19 h =>
  fst (kArith h .lss v8 v19) fun v20 h =>
  fif v20 (
  fdr h 9 fun r h =>
  fdp h (kLdn h 3 v3) (rdK (rdv v3)) fun v23 c0 h =>
  fdp h (kFldA h 6 v7) .pure fun v24 c1 h =>
  fdp h (kLd1 h v24) (rdK (rdv v24)) fun v25 c2 h =>
  fdp h (kMov h v8) .pure fun v26 c3 h =>
  fdp h (kIdxA h 1 v25 v26) .pure fun v27 c4 h =>
  fdp h (kLd1 h v27) (rdK (rdv v27)) fun v28 c5 h =>
  o92_s1 cl N c0 c1 c2 c3 c4 c5 v2 v3 v7 v8 v23 v28 h) (
  some ((.exit 0), [v2, v3, v7, v8], [v2], h))
def o92_c2 (cl : Handler) (N : Nat) (v2 : AV) (h : AH) : Ans :=
  some (.nrm, [], [v2], h)
def o92_j3 (cl : Handler) (N : Nat) (x : AX) (v2 : AV) (h : AH) : Ans :=
  fxs x (o92_c2 cl N v2 h) (fun j => cond (Nat.beq j 0) (o92_c2 cl N v2 h) (none)) (some (.nrm, [], [.undef], h))
def o92 (cl : Handler) (N : Nat) (v0 v1 v2 : AV) (h : AH) : Ans :=
  fst (kBox h v0) fun v3 h =>
  fst (kBuildSl h 1 1 [.int .i64 0] [(0, 1, v1)]) fun v11 h =>
  fst (kApp h 1 8 v2 v11) fun v12 h =>
  fst (kLdn h 3 v3) fun v13 h =>
  fst (cl 41 [v13, v1] h) fun v15 h =>
  fst (kNew h S92.z0) fun v7 h =>
  fst (kSt h 7 v7 v15) fun _ h =>
  fjn (fiter (fun vs h => o92_l1 cl N (nthD vs 0) (nthD vs 1) (nthD vs 2) (nthD vs 3) h) N [v12, v3, v7, (.int .i64 0)] h) fun x vs h => o92_j3 cl N x (nthD vs 0) h
theorem o92_eq (cl : Handler) (N : Nat) (v0 v1 v2 : AV) (h : AH) : frun cl N S92 [v0, v1, v2] h = fans (o92 cl N v0 v1 v2 h) := by kernel_rfl
def w92 (N : Nat) : OF := fun cl args h => match args with
  | [v0, v1, v2] => fans (o92 cl N v0 v1 v2 h)
  | _ => none
theorem w92_ok (N : Nat) : OkF Tryz.prog 92 (w92 N) := .of (N := N) (S92_ok) fun cl args h r hr => by
  unfold w92 at hr
  split at hr
  · exact (o92_eq cl N _ _ _ _).trans hr
  · cases hr

/- widgetry/widgetryref02.within -/
def S93.r0 : List AOpr := [
  q 4 (.mov (.const (.bool false)))]
def S93.r1 : List AOpr := [
  q 5 (.mov (x 0)),
  q 6 (.mov (x 1)),
  q 7 (.un .neg (x 6)),
  q 8 (.arith .geq (x 5) (x 7)),
  q 9 (.mov (x 8)),
  ⟨some 10, .mov (x 0), some (9, true)⟩,
  ⟨some 11, .mov (x 1), some (9, true)⟩,
  ⟨some 12, .arith .leq (x 10) (x 11), some (9, true)⟩,
  q 13 (.pick (x 9) (x 12) (.const (.bool false))),
  q 4 (.mov (x 13))]
def S93 : SFn := ⟨14, [.tmp 4], .seq (.reg S93.r0) (.seq (.reg S93.r1) (.ret))⟩
theorem S93_ok : EOk Tryz.prog 93 S93 := ⟨Tryz.f93, by kernel_rfl, by kernel_rfl, by decide, by kernel_rfl, its_nil (by kernel_rfl)⟩
def o93 (cl : Handler) (N : Nat) (v0 v1 : AV) (h : AH) : Ans :=
  fst (kUn h .neg v1) fun v7 h =>
  fst (kArith h .geq v0 v7) fun v8 h =>
  fgd (gdv true v8) (kMov h v0) h fun v10 h =>
  fgd (gdv true v8) (kMov h v1) h fun v11 h =>
  fgd (gdv true v8) (kArith h .leq v10 v11) h fun v12 h =>
  fst (kPick h v8 v12 (.bool false)) fun v13 h =>
  some (.nrm, [], [v13], h)
theorem o93_eq (cl : Handler) (N : Nat) (v0 v1 : AV) (h : AH) : frun cl N S93 [v0, v1] h = fans (o93 cl N v0 v1 h) := by kernel_rfl
def w93 (N : Nat) : OF := fun cl args h => match args with
  | [v0, v1] => fans (o93 cl N v0 v1 h)
  | _ => none
theorem w93_ok (N : Nat) : OkF Tryz.prog 93 (w93 N) := .of (N := N) (S93_ok) fun cl args h r hr => by
  unfold w93 at hr
  split at hr
  · exact (o93_eq cl N _ _ _).trans hr
  · cases hr

def S94.z0 : List AV := [.int .i64 0, .int .i64 0, .int .i64 0, .str [], .nilsl, .nilsl, .nilsl]
/- widgetry/widgetryref14.path -/
def S94.r0 : List AOpr := [
  q 2 (.box (x 0)),
  q 4 (.mov (.const (.nilsl)))]
def S94.r1 : List AOpr := [
  q 6 (.ldn 3 (x 2)),
  q 7 (.mov (x 1)),
  q 8 (.call (.const (.func (.func 41) [] [])) [.tmp 6, .tmp 7]),
  q 5 (.new S94.z0),
  ⟨none, .st 7 (x 5) (x 8), none⟩]
def S94.r2 : List AOpr := [
  q 9 (.fldA 1 (x 5)),
  q 10 (.ld1 (x 9)),
  q 11 (.arith .eql (x 10) (.const (.int .i64 0)))]
def S94.r3 : List AOpr := [
  q 12 (.mov (x 1)),
  q 13 (.buildSl 1 1 [.int .i64 0] [(0, 1, .tmp 12)]),
  q 4 (.mov (x 13))]
def S94.r4 : List AOpr := [
  q 14 (.ldn 3 (x 2)),
  q 15 (.fldA 1 (x 5)),
  q 16 (.ld1 (x 15)),
  q 17 (.call (.const (.func (.func 94) [] [])) [.tmp 14, .tmp 16]),
  q 18 (.mov (x 1)),
  q 19 (.buildSl 1 1 [.int .i64 0] [(0, 1, .tmp 18)]),
  q 20 (.app 1 8 (x 17) (x 19)),
  q 4 (.mov (x 20))]
def S94 : SFn := ⟨21, [.tmp 4], .seq (.reg S94.r0) (.seq (.reg S94.r1) (.seq (.seq (.reg S94.r2) (.cond (x 11) (.seq (.reg S94.r3) (.ret)) (.skip))) (.seq (.reg S94.r4) (.ret))))⟩
theorem S94_ok : EOk Tryz.prog 94 S94 := ⟨Tryz.f94, by kernel_rfl, by kernel_rfl, by decide, by kernel_rfl, its_nil (by kernel_rfl)⟩
def o94_s1 (cl : Handler) (N : Nat) (v1 v14 v15 : AV) (h : AH) : Ans :=
  fst (kLd1 h v15) fun v16 h =>
  fst (cl 94 [v14, v16] h) fun v17 h =>
  fst (kBuildSl h 1 1 [.int .i64 0] [(0, 1, v1)]) fun v19 h =>
  fst (kApp h 1 8 v17 v19) fun v20 h =>
  some (.nrm, [], [v20], h)
def o94 (cl : Handler) (N : Nat) (v0 v1 : AV) (h : AH) : Ans :=
  fst (kBox h v0) fun v2 h =>
  fst (kLdn h 3 v2) fun v6 h =>
  fst (cl 41 [v6, v1] h) fun v8 h =>
  fst (kNew h S94.z0) fun v5 h =>
  fst (kSt h 7 v5 v8) fun _ h =>
  fst (kFldA h 1 v5) fun v9 h =>
  fst (kLd1 h v9) fun v10 h =>
  fst (kArith h .eql v10 (.int .i64 0)) fun v11 h =>
  fif v11 (
  fst (kBuildSl h 1 1 [.int .i64 0] [(0, 1, v1)]) fun v13 h =>
  some (.nrm, [], [v13], h)) (
  fst (kLdn h 3 v2) fun v14 h =>
  fst (kFldA h 1 v5) fun v15 h =>
  o94_s1 cl N v1 v14 v15 h)
theorem o94_eq (cl : Handler) (N : Nat) (v0 v1 : AV) (h : AH) : frun cl N S94 [v0, v1] h = fans (o94 cl N v0 v1 h) := by kernel_rfl
def w94 (N : Nat) : OF := fun cl args h => match args with
  | [v0, v1] => fans (o94 cl N v0 v1 h)
  | _ => none
theorem w94_ok (N : Nat) : OkF Tryz.prog 94 (w94 N) := .of (N := N) (S94_ok) fun cl args h r hr => by
  unfold w94 at hr
  split at hr
  · exact (o94_eq cl N _ _ _).trans hr
  · cases hr

def S95.z0 : List AV := [.int .i64 0, .int .i64 0, .int .i64 0, .str [], .nilsl, .nilsl, .nilsl]
def S95.z1 : List AV := [.int .i64 0, .int .i64 0, .int .i64 0, .int .i64 0, .int .i64 0, .int .i64 0, .nilsl]
/- widgetry/widgetryref29.Valid -/
def S95.r0 : List AOpr := [
  q 4 (.box (x 0)),
  q 8 (.mov (.const (.bool false)))]
def S95.r1 : List AOpr := [
  q 15 (.ldn 3 (x 4)),
  q 16 (.call (.const (.func (.func 37) [] [])) [.tmp 15]),
  q 17 (.arith .neq (x 16) (.const (.int .i64 0))),
  q 18 (.mov (x 17)),
  ⟨some 19, .ldn 3 (x 4), some (18, false)⟩,
  ⟨some 20, .mov (x 1), some (18, false)⟩,
  ⟨some 21, .call (.const (.func (.func 38) [] [])) [.tmp 19, .tmp 20], some (18, false)⟩,
  ⟨some 22, .arith .neq (x 21) (.const (.int .i64 0)), some (18, false)⟩,
  q 23 (.pick (x 18) (.const (.bool true)) (x 22))]
def S95.r2 : List AOpr := [
  q 8 (.mov (.const (.bool false)))]
def S95.r3 : List AOpr := [
  q 9 (.mov (.const (.int .i64 0)))]
def S95.r4 : List AOpr := [
  q 24 (.mov (x 9)),
  q 25 (.mov (x 3)),
  q 26 (.len (x 25)),
  q 27 (.arith .lss (x 24) (x 26))]
def S95.r5 : List AOpr := [
  q 30 (.mov (x 3)),
  q 31 (.mov (x 9)),
  q 32 (.idxA 2 (x 30) (x 31)),
  q 33 (.fldA 1 (x 32)),
  q 34 (.ld1 (x 33)),
  q 35 (.call (.const (.func (.func 100) [] [])) [.tmp 34])]
def S95.r6 : List AOpr := [
  q 8 (.mov (.const (.bool false)))]
def S95.r7 : List AOpr := [
  q 28 (.mov (x 9)),
  q 29 (.arith .add (x 28) (.const (.int .i64 1))),
  q 9 (.mov (x 29))]
def S95.r8 : List AOpr := [
  q 10 (.mov (.const (.int .i64 0)))]
def S95.r9 : List AOpr := [
  q 36 (.mov (x 10)),
  q 37 (.mov (x 2)),
  q 38 (.len (x 37)),
  q 39 (.arith .lss (x 36) (x 38))]
def S95.r10 : List (AOpr × Nat) := [
  (q 43 (.ldn 3 (x 4)), 0),
  (q 44 (.mov (x 2)), 0),
  (q 45 (.mov (x 10)), 0),
  (q 46 (.idxA 7 (x 44) (x 45)), 6),
  (q 47 (.fldA 0 (x 46)), 14),
  (q 48 (.ld1 (x 47)), 30),
  (q 49 (.call (.const (.func (.func 16) [] [])) [.tmp 43, .tmp 48]), 63),
  (q 42 (.mov (x 49)), 127),
  (q 50 (.ext (x 42) 0), 255),
  (q 51 (.ext (x 42) 1), 255),
  (q 11 (.new S95.z0), 0),
  (⟨none, .st 7 (x 11) (x 50), none⟩, 1535),
  (q 12 (.mov (x 51)), 4095)]
def S95.r11 : List (AOpr × Nat) := [
  (q 52 (.mov (x 12)), 0),
  (q 53 (.un .not (x 52)), 1),
  (q 54 (.mov (x 53)), 3),
  (⟨some 55, .mov (x 10), some (54, false)⟩, 7),
  (⟨some 56, .arith .gtr (x 55) (.const (.int .i64 0)), some (54, false)⟩, 15),
  (⟨some 57, .mov (x 56), some (54, false)⟩, 31),
  (⟨some 58, .mov (x 2), some (57, true)⟩, 63),
  (⟨some 59, .mov (x 10), some (57, true)⟩, 63),
  (⟨some 60, .arith .sub (x 59) (.const (.int .i64 1)), some (57, true)⟩, 191),
  (⟨some 61, .idxA 7 (x 58) (x 60), some (57, true)⟩, 511),
  (⟨some 62, .fldA 0 (x 61), some (57, true)⟩, 1023),
  (⟨some 63, .ld1 (x 62), some (57, true)⟩, 2047),
  (⟨some 64, .mov (x 2), some (57, true)⟩, 63),
  (⟨some 65, .mov (x 10), some (57, true)⟩, 63),
  (⟨some 66, .idxA 7 (x 64) (x 65), some (57, true)⟩, 12351),
  (⟨some 67, .fldA 0 (x 66), some (57, true)⟩, 28735),
  (⟨some 68, .ld1 (x 67), some (57, true)⟩, 61503),
  (⟨some 69, .arith .geq (x 63) (x 68), some (57, true)⟩, 131071),
  (⟨some 70, .pick (x 57) (x 69) (.const (.bool false)), some (54, false)⟩, 262143),
  (q 71 (.pick (x 54) (.const (.bool true)) (x 70)), 524287),
  (q 72 (.mov (x 71)), 1048575),
  (⟨some 73, .mov (x 2), some (72, false)⟩, 2097151),
  (⟨some 74, .mov (x 10), some (72, false)⟩, 2097151),
  (⟨some 75, .idxA 7 (x 73) (x 74), some (72, false)⟩, 8388607),
  (⟨some 76, .fldA 1 (x 75), some (72, false)⟩, 16777215),
  (⟨some 77, .ldn 4 (x 76), some (72, false)⟩, 33554431),
  (⟨some 78, .call (.const (.func (.func 82) [] [])) [.tmp 77], some (72, false)⟩, 67108863),
  (⟨some 79, .un .not (x 78), some (72, false)⟩, 134217727),
  (q 80 (.pick (x 72) (.const (.bool true)) (x 79)), 268435455)]
def S95.r12 : List AOpr := [
  q 8 (.mov (.const (.bool false)))]
def S95.r13 : List AOpr := [
  q 82 (.mov (x 2)),
  q 83 (.fldA 1 (x 11)),
  q 84 (.ld1 (x 83)),
  q 85 (.call (.const (.func (.func 53) [] [])) [.tmp 82, .tmp 84]),
  q 81 (.mov (x 85)),
  q 86 (.ext (x 81) 0),
  q 87 (.ext (x 81) 1),
  q 13 (.new S95.z1),
  ⟨none, .st 7 (x 13) (x 86), none⟩,
  q 14 (.mov (x 87))]
def S95.r14 : List AOpr := [
  q 88 (.mov (x 14)),
  q 89 (.un .not (x 88)),
  q 90 (.mov (x 89)),
  ⟨some 91, .fldA 1 (x 11), some (90, true)⟩,
  ⟨some 92, .ld1 (x 91), some (90, true)⟩,
  ⟨some 93, .arith .neq (x 92) (.const (.int .i64 0)), some (90, true)⟩,
  q 94 (.pick (x 90) (x 93) (.const (.bool false)))]
def S95.r15 : List AOpr := [
  q 8 (.mov (.const (.bool false)))]
def S95.r16 : List AOpr := [
  q 40 (.mov (x 10)),
  q 41 (.arith .add (x 40) (.const (.int .i64 1))),
  q 10 (.mov (x 41))]
def S95.r17 : List AOpr := [
  q 8 (.mov (.const (.bool true)))]
def S95 : SFn := ⟨95, [.tmp 8], .seq (.reg S95.r0) (.seq (.seq (.joinN [2, 3, 4, 23] (.reg S95.r1)) (.cond (x 23) (.seq (.reg S95.r2) (.ret)) (.skip))) (.seq (.seq (.reg S95.r3) (.block 0 (.loop [2, 3, 4, 9] [2, 4, 8] (.seq (.seq (.reg S95.r4) (.cond (x 27) (.skip) (.exit 0))) (.seq (.block 1 (.seq (.reg S95.r5) (.cond (x 35) (.seq (.reg S95.r6) (.ret)) (.skip)))) (.reg S95.r7)))))) (.seq (.seq (.reg S95.r8) (.block 2 (.loop [2, 4, 10] [8] (.seq (.seq (.reg S95.r9) (.cond (x 39) (.skip) (.exit 2))) (.seq (.block 3 (.seq (.draw S95.r10) (.seq (.seq (.joinN [2, 4, 10, 11, 80] (.draw S95.r11)) (.cond (x 80) (.seq (.reg S95.r12) (.ret)) (.skip))) (.seq (.reg S95.r13) (.seq (.joinN [2, 4, 10, 94] (.reg S95.r14)) (.cond (x 94) (.seq (.reg S95.r15) (.ret)) (.skip))))))) (.reg S95.r16)))))) (.seq (.reg S95.r17) (.ret)))))⟩
theorem S95_ok : EOk Tryz.prog 95 S95 := ⟨Tryz.f95, by kernel_rfl, by kernel_rfl, by decide, by kernel_rfl, its_nil (by kernel_rfl)⟩
def o95_a1 (cl : Handler) (N : Nat) (v1 v2 v3 v4 : AV) (h : AH) : Ans :=
  fst (kLdn h 3 v4) fun v15 h =>
  fst (cl 37 [v15] h) fun v16 h =>
  fst (kArith h .neq v16 (.int .i64 0)) fun v17 h =>
  fgd (gdv false v17) (kLdn h 3 v4) h fun v19 h =>
  fgd (gdv false v17) (kMov h v1) h fun v20 h =>
  fgd (gdv false v17) (cl 38 [v19, v20] h) h fun v21 h =>
  fgd (gdv false v17) (kArith h .neq v21 (.int .i64 0)) h fun v22 h =>
  fst (kPick h v17 (.bool true) v22) fun v23 h =>
  some (.nrm, [], [v2, v3, v4, v23], h)
def o95_l2 (cl : Handler) (N : Nat) (v2 v3 v4 v9 : AV) (h : AH) : Ans :=
  fst (kLen h v3) fun v26 h =>
  fst (kArith h .lss v9 v26) fun v27 h =>
  fif v27 (
  fst (kIdxA h 2 v3 v9) fun v32 h =>
  fst (kFldA h 1 v32) fun v33 h =>
  fst (kLd1 h v33) fun v34 h =>
  fst (cl 100 [v34] h) fun v35 h =>
  fif v35 (
  some (.ret, [v2, v3, v4, v9], [v2, v4, (.bool false)], h)) (
  fst (kArith h .add v9 (.int .i64 1)) fun v29 h =>
  some (.nrm, [v2, v3, v4, v29], [v2, v4, .undef], h))) (
  some ((.exit 0), [v2, v3, v4, v9], [v2, v4, .undef], h))
def o95_s1 (cl : Handler) (N : Nat) (c0 c1 c2 c3 c4 c5 c6 c7 c8 c9 c10 c11 c12 c13 c14 c15 c16 c17 c18 c19 : Rec) (v2 v4 v10 v11 v71 : AV) (h : AH) : Ans :=
  fdp h (kMov h v71) .pure fun v72 c20 h =>
  fgq (gdv false v72) (fun k => fdp h (kMov h v2) .pure k) h fun v73 c21 h =>
  fgq (gdv false v72) (fun k => fdp h (kMov h v10) .pure k) h fun v74 c22 h =>
  fgq (gdv false v72) (fun k => fdp h (kIdxA h 7 v73 v74) .pure k) h fun v75 c23 h =>
  fgq (gdv false v72) (fun k => fdp h (kFldA h 1 v75) .pure k) h fun v76 c24 h =>
  fgq (gdv false v72) (fun k => fdp h (kLdn h 4 v76) (rdK (rdv v76)) k) h fun v77 c25 h =>
  fgq (gdv false v72) (fun k => fde h (cl 82 [v77] h) k) h fun v78 c26 h =>
  fgq (gdv false v72) (fun k => fdp h (kUn h .not v78) .pure k) h fun v79 c27 h =>
  fdp h (kPick h v72 (.bool true) v79) .pure fun v80 c28 h =>
  cond (fchk [c0, c1, c2, c3, c4, c5, c6, c7, c8, c9, c10, c11, c12, c13, c14, c15, c16, c17, c18, c19, c20, c21, c22, c23, c24, c25, c26, c27, c28] []) (some (.nrm, [], [v2, v4, v10, v11, v80], h)) none
def o95_s2 (cl : Handler) (N : Nat) (c0 c1 c2 c3 c4 c5 c6 c7 c8 c9 : Rec) (v2 v4 v10 v11 v54 v57 v61 : AV) (h : AH) : Ans :=
  fgq (gdv true v57) (fun k => fdp h (kFldA h 0 v61) .pure k) h fun v62 c10 h =>
  fgq (gdv true v57) (fun k => fdp h (kLd1 h v62) (rdK (rdv v62)) k) h fun v63 c11 h =>
  fgq (gdv true v57) (fun k => fdp h (kMov h v2) .pure k) h fun v64 c12 h =>
  fgq (gdv true v57) (fun k => fdp h (kMov h v10) .pure k) h fun v65 c13 h =>
  fgq (gdv true v57) (fun k => fdp h (kIdxA h 7 v64 v65) .pure k) h fun v66 c14 h =>
  fgq (gdv true v57) (fun k => fdp h (kFldA h 0 v66) .pure k) h fun v67 c15 h =>
  fgq (gdv true v57) (fun k => fdp h (kLd1 h v67) (rdK (rdv v67)) k) h fun v68 c16 h =>
  fgq (gdv true v57) (fun k => fdp h (kArith h .geq v63 v68) .pure k) h fun v69 c17 h =>
  fgq (gdv false v54) (fun k => fdp h (kPick h v57 v69 (.bool false)) .pure k) h fun v70 c18 h =>
  fdp h (kPick h v54 (.bool true) v70) .pure fun v71 c19 h =>
  o95_s1 cl N c0 c1 c2 c3 c4 c5 c6 c7 c8 c9 c10 c11 c12 c13 c14 c15 c16 c17 c18 c19 v2 v4 v10 v11 v71 h
def o95_a3 (cl : Handler) (N : Nat) (v2 v4 v10 v11 v12 : AV) (h : AH) : Ans :=
  fdr h 29 fun r h =>
  fdp h (kMov h v12) .pure fun v52 c0 h =>
  fdp h (kUn h .not v52) .pure fun v53 c1 h =>
  fdp h (kMov h v53) .pure fun v54 c2 h =>
  fgq (gdv false v54) (fun k => fdp h (kMov h v10) .pure k) h fun v55 c3 h =>
  fgq (gdv false v54) (fun k => fdp h (kArith h .gtr v55 (.int .i64 0)) .pure k) h fun v56 c4 h =>
  fgq (gdv false v54) (fun k => fdp h (kMov h v56) .pure k) h fun v57 c5 h =>
  fgq (gdv true v57) (fun k => fdp h (kMov h v2) .pure k) h fun v58 c6 h =>
  fgq (gdv true v57) (fun k => fdp h (kMov h v10) .pure k) h fun v59 c7 h =>
  fgq (gdv true v57) (fun k => fdp h (kArith h .sub v59 (.int .i64 1)) .pure k) h fun v60 c8 h =>
  fgq (gdv true v57) (fun k => fdp h (kIdxA h 7 v58 v60) .pure k) h fun v61 c9 h =>
  o95_s2 cl N c0 c1 c2 c3 c4 c5 c6 c7 c8 c9 v2 v4 v10 v11 v54 v57 v61 h
def o95_a4 (cl : Handler) (N : Nat) (v2 v4 v10 v11 v14 : AV) (h : AH) : Ans :=
  fst (kUn h .not v14) fun v89 h =>
  fgd (gdv true v89) (kFldA h 1 v11) h fun v91 h =>
  fgd (gdv true v89) (kLd1 h v91) h fun v92 h =>
  fgd (gdv true v89) (kArith h .neq v92 (.int .i64 0)) h fun v93 h =>
  fst (kPick h v89 v93 (.bool false)) fun v94 h =>
  some (.nrm, [], [v2, v4, v10, v94], h)
def o95_j5 (cl : Handler) (N : Nat) (v2 v4 v10 v94 : AV) (h : AH) : Ans :=
  fif v94 (
  some (.ret, [v2, v4, v10], [(.bool false)], h)) (
  fst (kArith h .add v10 (.int .i64 1)) fun v41 h =>
  some (.nrm, [v2, v4, v41], [.undef], h))
def o95_j6 (cl : Handler) (N : Nat) (v2 v4 v10 v11 v80 : AV) (h : AH) : Ans :=
  fif v80 (
  some (.ret, [v2, v4, v10], [(.bool false)], h)) (
  fst (kFldA h 1 v11) fun v83 h =>
  fst (kLd1 h v83) fun v84 h =>
  fst (cl 53 [v2, v84] h) fun v85 h =>
  fst (kExt h v85 0) fun v86 h =>
  fst (kExt h v85 1) fun v87 h =>
  fst (kNew h S95.z1) fun v13 h =>
  fst (kSt h 7 v13 v86) fun _ h =>
  fjn (o95_a4 cl N v2 v4 v10 v11 v87 h) fun _ vs h => o95_j5 cl N (nthD vs 0) (nthD vs 1) (nthD vs 2) (nthD vs 3) h)
def o95_s3 (cl : Handler) (N : Nat) (r : Nat) (c0 c1 c2 c3 c4 c5 c6 c7 : Rec) (v2 v4 v10 v42 : AV) (h : AH) : Ans :=
  fdp h (kExt h v42 0) .pure fun v50 c8 h =>
  fdp h (kExt h v42 1) .pure fun v51 c9 h =>
  fda (r + 10) h (alNew S95.z0) fun v11 c10 h =>
  fde h (kSt h 7 v11 v50) fun _ c11 h =>
  fdp h (kMov h v51) .pure fun v12 c12 h =>
  cond (fchk [c0, c1, c2, c3, c4, c5, c6, c7, c8, c9, c10, c11, c12] [(0, 10), (5, 10)]) (fjn (o95_a3 cl N v2 v4 v10 v11 v12 h) fun _ vs h => o95_j6 cl N (nthD vs 0) (nthD vs 1) (nthD vs 2) (nthD vs 3) (nthD vs 4) h) none
def o95_l7 (cl : Handler) (N : Nat) (v2 v4 v10 : AV) (h : AH) : Ans :=
  fst (kLen h v2) fun v38 h =>
  fst (kArith h .lss v10 v38) fun v39 h =>
  fif v39 (
  fdr h 13 fun r h =>
  fdp h (kLdn h 3 v4) (rdK (rdv v4)) fun v43 c0 h =>
  fdp h (kMov h v2) .pure fun v44 c1 h =>
  fdp h (kMov h v10) .pure fun v45 c2 h =>
  fdp h (kIdxA h 7 v44 v45) .pure fun v46 c3 h =>
  fdp h (kFldA h 0 v46) .pure fun v47 c4 h =>
  fdp h (kLd1 h v47) (rdK (rdv v47)) fun v48 c5 h =>
  fde h (cl 16 [v43, v48] h) fun v49 c6 h =>
  fdp h (kMov h v49) .pure fun v42 c7 h =>
  o95_s3 cl N r c0 c1 c2 c3 c4 c5 c6 c7 v2 v4 v10 v42 h) (
  some ((.exit 2), [v2, v4, v10], [.undef], h))
def o95_c8 (cl : Handler) (N : Nat) (h : AH) : Ans :=
  some (.nrm, [], [(.bool true)], h)
def o95_j9 (cl : Handler) (N : Nat) (x : AX) (v8 : AV) (h : AH) : Ans :=
  fxs x (o95_c8 cl N h) (fun j => cond (Nat.beq j 2) (o95_c8 cl N h) (none)) (some (.nrm, [], [v8], h))
def o95_c10 (cl : Handler) (N : Nat) (v2 v4 : AV) (h : AH) : Ans :=
  fjn (fiter (fun vs h => o95_l7 cl N (nthD vs 0) (nthD vs 1) (nthD vs 2) h) N [v2, v4, (.int .i64 0)] h) fun x vs h => o95_j9 cl N x (nthD vs 0) h
def o95_j11 (cl : Handler) (N : Nat) (x : AX) (v2 v4 v8 : AV) (h : AH) : Ans :=
  fxs x (o95_c10 cl N v2 v4 h) (fun j => cond (Nat.beq j 0) (o95_c10 cl N v2 v4 h) (none)) (some (.nrm, [], [v8], h))
def o95_j12 (cl : Handler) (N : Nat) (v2 v3 v4 v23 : AV) (h : AH) : Ans :=
  fif v23 (
  some (.nrm, [], [(.bool false)], h)) (
  fjn (fiter (fun vs h => o95_l2 cl N (nthD vs 0) (nthD vs 1) (nthD vs 2) (nthD vs 3) h) N [v2, v3, v4, (.int .i64 0)] h) fun x vs h => o95_j11 cl N x (nthD vs 0) (nthD vs 1) (nthD vs 2) h)
def o95 (cl : Handler) (N : Nat) (v0 v1 v2 v3 : AV) (h : AH) : Ans :=
  fst (kBox h v0) fun v4 h =>
  fjn (o95_a1 cl N v1 v2 v3 v4 h) fun _ vs h => o95_j12 cl N (nthD vs 0) (nthD vs 1) (nthD vs 2) (nthD vs 3) h
theorem o95_eq (cl : Handler) (N : Nat) (v0 v1 v2 v3 : AV) (h : AH) : frun cl N S95 [v0, v1, v2, v3] h = fans (o95 cl N v0 v1 v2 v3 h) := by kernel_rfl
def w95 (N : Nat) : OF := fun cl args h => match args with
  | [v0, v1, v2, v3] => fans (o95 cl N v0 v1 v2 v3 h)
  | _ => none
theorem w95_ok (N : Nat) : OkF Tryz.prog 95 (w95 N) := .of (N := N) (S95_ok) fun cl args h r hr => by
  unfold w95 at hr
  split at hr
  · exact (o95_eq cl N _ _ _ _ _).trans hr
  · cases hr

/- widgetry/widgetryref11.check -/
def S99.r0 : List AOpr := [
  q 3 (.box (x 0)),
  q 6 (.new [.int .i64 0, .nilsl]),
  q 7 (.mov (.const (.int .i64 0))),
  q 8 (.mov (.const (.int .i64 0)))]
def S99.r1 : List AOpr := [
  q 18 (.mov (x 2)),
  q 19 (.arith .add (x 18) (.const (.int .i64 1))),
  q 2 (.mov (x 19))]
def S99.r2 : List AOpr := [
  q 20 (.fldA 0 (x 3)),
  q 21 (.ld1 (x 20)),
  q 22 (.arith .eql (x 21) (.const (.int .i64 4))),
  q 9 (.mov (x 22))]
def S99.r3 : List AOpr := [
  q 23 (.mov (x 9)),
  q 24 (.mov (x 23)),
  ⟨some 25, .mov (x 1), some (24, true)⟩,
  ⟨some 26, .arith .gtr (x 25) (.const (.int .i64 16)), some (24, true)⟩,
  q 27 (.pick (x 24) (x 26) (.const (.bool false)))]
def S99.r4 : List AOpr := [
  q 28 (.build [.int .i64 0, .nilsl] []),
  q 29 (.mov (x 2)),
  ⟨none, .st 2 (x 6) (x 28), none⟩,
  q 7 (.mov (x 29)),
  q 8 (.mov (.const (.int .i64 8)))]
def S99.r5 : List AOpr := [
  q 30 (.fldA 0 (x 3)),
  q 31 (.ld1 (x 30)),
  q 32 (.arith .lss (x 31) (.const (.int .i64 1))),
  q 33 (.mov (x 32)),
  ⟨some 34, .fldA 0 (x 3), some (33, false)⟩,
  ⟨some 35, .ld1 (x 34), some (33, false)⟩,
  ⟨some 36, .arith .gtr (x 35) (.const (.int .i64 4)), some (33, false)⟩,
  q 37 (.pick (x 33) (.const (.bool true)) (x 36)),
  q 38 (.mov (x 37)),
  ⟨some 39, .fldA 1 (x 3), some (38, false)⟩,
  ⟨some 40, .ld1 (x 39), some (38, false)⟩,
  ⟨some 41, .arith .neq (x 40) (.const (.int .i64 0)), some (38, false)⟩,
  ⟨some 42, .mov (x 41), some (38, false)⟩,
  ⟨some 43, .fldA 0 (x 3), some (42, true)⟩,
  ⟨some 44, .ld1 (x 43), some (42, true)⟩,
  ⟨some 45, .arith .neq (x 44) (.const (.int .i64 1)), some (42, true)⟩,
  ⟨some 46, .pick (x 42) (x 45) (.const (.bool false)), some (38, false)⟩,
  ⟨some 47, .mov (x 46), some (38, false)⟩,
  ⟨some 48, .fldA 0 (x 3), some (47, true)⟩,
  ⟨some 49, .ld1 (x 48), some (47, true)⟩,
  ⟨some 50, .arith .neq (x 49) (.const (.int .i64 2)), some (47, true)⟩,
  ⟨some 51, .pick (x 47) (x 50) (.const (.bool false)), some (38, false)⟩,
  q 52 (.pick (x 38) (.const (.bool true)) (x 51)),
  q 53 (.mov (x 52)),
  ⟨some 54, .fldA 2 (x 3), some (53, false)⟩,
  ⟨some 55, .ld1 (x 54), some (53, false)⟩,
  ⟨some 56, .arith .neq (x 55) (.const (.str [])), some (53, false)⟩,
  ⟨some 57, .mov (x 56), some (53, false)⟩,
  ⟨some 58, .fldA 0 (x 3), some (57, true)⟩,
  ⟨some 59, .ld1 (x 58), some (57, true)⟩,
  ⟨some 60, .arith .neq (x 59) (.const (.int .i64 3)), some (57, true)⟩,
  ⟨some 61, .pick (x 57) (x 60) (.const (.bool false)), some (53, false)⟩,
  q 62 (.pick (x 53) (.const (.bool true)) (x 61)),
  q 63 (.mov (x 62)),
  ⟨some 64, .fldA 3 (x 3), some (63, false)⟩,
  ⟨some 65, .ld1 (x 64), some (63, false)⟩,
  ⟨some 66, .len (x 65), some (63, false)⟩,
  ⟨some 67, .arith .gtr (x 66) (.const (.int .i64 0)), some (63, false)⟩,
  ⟨some 68, .mov (x 67), some (63, false)⟩,
  ⟨some 69, .mov (x 9), some (68, true)⟩,
  ⟨some 70, .un .not (x 69), some (68, true)⟩,
  ⟨some 71, .pick (x 68) (x 70) (.const (.bool false)), some (63, false)⟩,
  q 72 (.pick (x 63) (.const (.bool true)) (x 71))]
def S99.r6 : List AOpr := [
  q 73 (.build [.int .i64 0, .nilsl] []),
  q 74 (.mov (x 2)),
  ⟨none, .st 2 (x 6) (x 73), none⟩,
  q 7 (.mov (x 74)),
  q 8 (.mov (.const (.int .i64 9)))]
def S99.r7 : List AOpr := [
  q 75 (.fldA 0 (x 3)),
  q 76 (.ld1 (x 75)),
  q 77 (.arith .eql (x 76) (.const (.int .i64 1))),
  q 78 (.mov (x 77)),
  ⟨some 79, .fldA 1 (x 3), some (78, true)⟩,
  ⟨some 80, .ld1 (x 79), some (78, true)⟩,
  ⟨some 81, .arith .lss (x 80) (.const (.int .i64 (-1099511627776))), some (78, true)⟩,
  ⟨some 82, .mov (x 81), some (78, true)⟩,
  ⟨some 83, .fldA 1 (x 3), some (82, false)⟩,
  ⟨some 84, .ld1 (x 83), some (82, false)⟩,
  ⟨some 85, .arith .gtr (x 84) (.const (.int .i64 1099511627776)), some (82, false)⟩,
  ⟨some 86, .pick (x 82) (.const (.bool true)) (x 85), some (78, true)⟩,
  q 87 (.pick (x 78) (x 86) (.const (.bool false))),
  q 88 (.mov (x 87)),
  ⟨some 89, .fldA 0 (x 3), some (88, false)⟩,
  ⟨some 90, .ld1 (x 89), some (88, false)⟩,
  ⟨some 91, .arith .eql (x 90) (.const (.int .i64 2)), some (88, false)⟩,
  ⟨some 92, .mov (x 91), some (88, false)⟩,
  ⟨some 93, .fldA 1 (x 3), some (92, true)⟩,
  ⟨some 94, .ld1 (x 93), some (92, true)⟩,
  ⟨some 95, .arith .neq (x 94) (.const (.int .i64 0)), some (92, true)⟩,
  ⟨some 96, .pick (x 92) (x 95) (.const (.bool false)), some (88, false)⟩,
  ⟨some 97, .mov (x 96), some (88, false)⟩,
  ⟨some 98, .fldA 1 (x 3), some (97, true)⟩,
  ⟨some 99, .ld1 (x 98), some (97, true)⟩,
  ⟨some 100, .arith .neq (x 99) (.const (.int .i64 1)), some (97, true)⟩,
  ⟨some 101, .pick (x 97) (x 100) (.const (.bool false)), some (88, false)⟩,
  q 102 (.pick (x 88) (.const (.bool true)) (x 101))]
def S99.r8 : List AOpr := [
  q 103 (.build [.int .i64 0, .nilsl] []),
  q 104 (.mov (x 2)),
  ⟨none, .st 2 (x 6) (x 103), none⟩,
  q 7 (.mov (x 104)),
  q 8 (.mov (.const (.int .i64 1)))]
def S99.r9 : List AOpr := [
  q 105 (.fldA 2 (x 3)),
  q 106 (.ld1 (x 105)),
  q 107 (.lenS (x 106)),
  q 108 (.arith .gtr (x 107) (.const (.int .i64 2000))),
  q 109 (.mov (x 108)),
  ⟨some 110, .fldA 3 (x 3), some (109, false)⟩,
  ⟨some 111, .ld1 (x 110), some (109, false)⟩,
  ⟨some 112, .len (x 111), some (109, false)⟩,
  ⟨some 113, .arith .gtr (x 112) (.const (.int .i64 100)), some (109, false)⟩,
  q 114 (.pick (x 109) (.const (.bool true)) (x 113)),
  q 115 (.mov (x 114)),
  ⟨some 116, .mov (x 2), some (115, false)⟩,
  ⟨some 117, .arith .gtr (x 116) (.const (.int .i64 1000)), some (115, false)⟩,
  q 118 (.pick (x 115) (.const (.bool true)) (x 117))]
def S99.r10 : List AOpr := [
  q 119 (.build [.int .i64 0, .nilsl] []),
  q 120 (.mov (x 2)),
  ⟨none, .st 2 (x 6) (x 119), none⟩,
  q 7 (.mov (x 120)),
  q 8 (.mov (.const (.int .i64 2)))]
def S99.r11 : List AOpr := [
  q 121 (.fldA 2 (x 3)),
  q 122 (.ld1 (x 121)),
  q 123 (.call (.const (.func (.func 103) [] [])) [.tmp 122]),
  q 124 (.un .not (x 123))]
def S99.r12 : List AOpr := [
  q 125 (.build [.int .i64 0, .nilsl] []),
  q 126 (.mov (x 2)),
  ⟨none, .st 2 (x 6) (x 125), none⟩,
  q 7 (.mov (x 126)),
  q 8 (.mov (.const (.int .i64 3)))]
def S99.r13 : List AOpr := [
  q 127 (.fldA 0 (x 3)),
  q 128 (.ld1 (x 127)),
  q 129 (.build [.int .i64 0, .nilsl] [(0, 1, .tmp 128)]),
  q 10 (.new [.int .i64 0, .nilsl]),
  ⟨none, .st 2 (x 10) (x 129), none⟩]
def S99.r14 : List AOpr := [
  q 11 (.mov (.const (.bool true)))]
def S99.r15 : List AOpr := [
  q 12 (.mov (.const (.int .i64 0)))]
def S99.r16 : List AOpr := [
  q 130 (.mov (x 12)),
  q 131 (.fldA 3 (x 3)),
  q 132 (.ld1 (x 131)),
  q 133 (.len (x 132)),
  q 134 (.arith .lss (x 130) (x 133))]
def S99.r17 : List AOpr := [
  q 138 (.fldA 3 (x 3)),
  q 139 (.ld1 (x 138)),
  q 140 (.mov (x 12)),
  q 141 (.idxA 4 (x 139) (x 140)),
  q 142 (.ldn 4 (x 141)),
  q 143 (.mov (x 1)),
  q 144 (.arith .add (x 143) (.const (.int .i64 1))),
  q 145 (.mov (x 2)),
  q 146 (.call (.const (.func (.func 99) [] [])) [.tmp 142, .tmp 144, .tmp 145]),
  q 137 (.mov (x 146)),
  q 147 (.ext (x 137) 0),
  q 148 (.ext (x 137) 1),
  q 149 (.ext (x 137) 2),
  q 13 (.new [.int .i64 0, .nilsl]),
  ⟨none, .st 2 (x 13) (x 147), none⟩,
  q 14 (.mov (x 148)),
  q 15 (.mov (x 149))]
def S99.r18 : List AOpr := [
  q 150 (.mov (x 14)),
  q 2 (.mov (x 150))]
def S99.r19 : List AOpr := [
  q 151 (.mov (x 15)),
  q 152 (.arith .neq (x 151) (.const (.int .i64 0)))]
def S99.r20 : List AOpr := [
  q 153 (.build [.int .i64 0, .nilsl] []),
  q 154 (.mov (x 2)),
  q 155 (.mov (x 15)),
  ⟨none, .st 2 (x 6) (x 153), none⟩,
  q 7 (.mov (x 154)),
  q 8 (.mov (x 155))]
def S99.r21 : List AOpr := [
  q 156 (.mov (x 11)),
  q 157 (.un .not (x 156))]
def S99.r22 : List AOpr := [
  q 158 (.fldA 1 (x 10)),
  q 159 (.ld1 (x 158)),
  q 160 (.len (x 159)),
  q 161 (.arith .eql (x 160) (.const (.int .i64 0)))]
def S99.r23 : List AOpr := [
  q 162 (.ldn 2 (x 13)),
  q 163 (.buildSl 2 1 [.int .i64 0, .nilsl] [(0, 2, .tmp 162)]),
  q 164 (.fldA 1 (x 10)),
  ⟨none, .st 1 (x 164) (x 163), none⟩]
def S99.r24 : List (AOpr × Nat) := [
  (q 166 (.fldA 1 (x 10)), 0),
  (q 167 (.ld1 (x 166)), 1),
  (q 168 (.idxA 2 (x 167) (.const (.int .i64 0))), 3),
  (q 169 (.ldn 2 (x 168)), 7),
  (q 170 (.ldn 2 (x 13)), 0),
  (q 171 (.call (.const (.func (.func 104) [] [])) [.tmp 169, .tmp 170]), 31),
  (q 165 (.mov (x 171)), 63),
  (q 172 (.ext (x 165) 0), 127),
  (q 173 (.ext (x 165) 1), 127),
  (q 16 (.new [.int .i64 0, .nilsl]), 0),
  (⟨none, .st 2 (x 16) (x 172), none⟩, 767),
  (q 17 (.mov (x 173)), 2047)]
def S99.r25 : List AOpr := [
  q 174 (.mov (x 17)),
  q 11 (.mov (x 174))]
def S99.r26 : List AOpr := [
  q 175 (.ldn 2 (x 16)),
  q 176 (.buildSl 2 1 [.int .i64 0, .nilsl] [(0, 2, .tmp 175)]),
  q 177 (.fldA 1 (x 10)),
  ⟨none, .st 1 (x 177) (x 176), none⟩]
def S99.r27 : List AOpr := [
  q 135 (.mov (x 12)),
  q 136 (.arith .add (x 135) (.const (.int .i64 1))),
  q 12 (.mov (x 136))]
def S99.r28 : List AOpr := [
  q 178 (.mov (x 11)),
  q 179 (.un .not (x 178))]
def S99.r29 : List AOpr := [
  q 180 (.build [.int .i64 0, .nilsl] []),
  q 181 (.mov (x 2)),
  ⟨none, .st 2 (x 6) (x 180), none⟩,
  q 7 (.mov (x 181)),
  q 8 (.mov (.const (.int .i64 5)))]
def S99.r30 : List AOpr := [
  q 182 (.ldn 2 (x 10)),
  q 183 (.mov (x 2)),
  ⟨none, .st 2 (x 6) (x 182), none⟩,
  q 7 (.mov (x 183)),
  q 8 (.mov (.const (.int .i64 0)))]
def S99 : SFn := ⟨184, [.cell 6 (some 2), .tmp 7, .tmp 8], .seq (.reg S99.r0) (.seq (.reg S99.r1) (.seq (.reg S99.r2) (.seq (.seq (.joinN [1, 2, 3, 6, 9, 27] (.reg S99.r3)) (.cond (x 27) (.seq (.reg S99.r4) (.ret)) (.skip))) (.seq (.seq (.joinN [1, 2, 3, 6, 72] (.reg S99.r5)) (.cond (x 72) (.seq (.reg S99.r6) (.ret)) (.skip))) (.seq (.seq (.joinN [1, 2, 3, 6, 102] (.reg S99.r7)) (.cond (x 102) (.seq (.reg S99.r8) (.ret)) (.skip))) (.seq (.seq (.joinN [1, 2, 3, 6, 118] (.reg S99.r9)) (.cond (x 118) (.seq (.reg S99.r10) (.ret)) (.skip))) (.seq (.seq (.reg S99.r11) (.cond (x 124) (.seq (.reg S99.r12) (.ret)) (.skip))) (.seq (.reg S99.r13) (.seq (.reg S99.r14) (.seq (.seq (.reg S99.r15) (.block 0 (.loop [1, 2, 3, 6, 10, 11, 12] [2, 6, 7, 8, 10, 11] (.seq (.seq (.reg S99.r16) (.cond (x 134) (.skip) (.exit 0))) (.seq (.join [1, 2, 3, 6, 7, 8, 10, 11, 12] (.block 1 (.seq (.reg S99.r17) (.seq (.reg S99.r18) (.seq (.seq (.reg S99.r19) (.cond (x 152) (.seq (.reg S99.r20) (.ret)) (.skip))) (.seq (.seq (.reg S99.r21) (.cond (x 157) (.exit 1) (.skip))) (.seq (.seq (.reg S99.r22) (.cond (x 161) (.seq (.reg S99.r23) (.exit 1)) (.skip))) (.seq (.draw S99.r24) (.seq (.reg S99.r25) (.reg S99.r26)))))))))) (.reg S99.r27)))))) (.seq (.seq (.reg S99.r28) (.cond (x 179) (.seq (.reg S99.r29) (.ret)) (.skip))) (.seq (.reg S99.r30) (.ret)))))))))))))⟩
theorem S99_ok : EOk Tryz.prog 99 S99 := ⟨Tryz.f99, by kernel_rfl, by kernel_rfl, by decide, by kernel_rfl, its_nil (by kernel_rfl)⟩
def o99_a1 (cl : Handler) (N : Nat) (v1 v2 v3 v6 v9 : AV) (h : AH) : Ans :=
  fgd (gdv true v9) (kMov h v1) h fun v25 h =>
  fgd (gdv true v9) (kArith h .gtr v25 (.int .i64 16)) h fun v26 h =>
  fst (kPick h v9 v26 (.bool false)) fun v27 h =>
  some (.nrm, [], [v1, v2, v3, v6, v9, v27], h)
def o99_s1 (cl : Handler) (N : Nat) (v1 v2 v3 v6 v9 v62 : AV) (h : AH) : Ans :=
  fgd (gdv false v62) (kFldA h 3 v3) h fun v64 h =>
  fgd (gdv false v62) (kLd1 h v64) h fun v65 h =>
  fgd (gdv false v62) (kLen h v65) h fun v66 h =>
  fgd (gdv false v62) (kArith h .gtr v66 (.int .i64 0)) h fun v67 h =>
  fgd (gdv false v62) (kMov h v67) h fun v68 h =>
  fgd (gdv true v68) (kMov h v9) h fun v69 h =>
  fgd (gdv true v68) (kUn h .not v69) h fun v70 h =>
  fgd (gdv false v62) (kPick h v68 v70 (.bool false)) h fun v71 h =>
  fst (kPick h v62 (.bool true) v71) fun v72 h =>
  some (.nrm, [], [v1, v2, v3, v6, v72], h)
def o99_s2 (cl : Handler) (N : Nat) (v1 v2 v3 v6 v9 v38 v51 : AV) (h : AH) : Ans :=
  fst (kPick h v38 (.bool true) v51) fun v52 h =>
  fgd (gdv false v52) (kFldA h 2 v3) h fun v54 h =>
  fgd (gdv false v52) (kLd1 h v54) h fun v55 h =>
  fgd (gdv false v52) (kArith h .neq v55 (.str [])) h fun v56 h =>
  fgd (gdv false v52) (kMov h v56) h fun v57 h =>
  fgd (gdv true v57) (kFldA h 0 v3) h fun v58 h =>
  fgd (gdv true v57) (kLd1 h v58) h fun v59 h =>
  fgd (gdv true v57) (kArith h .neq v59 (.int .i64 3)) h fun v60 h =>
  fgd (gdv false v52) (kPick h v57 v60 (.bool false)) h fun v61 h =>
  fst (kPick h v52 (.bool true) v61) fun v62 h =>
  o99_s1 cl N v1 v2 v3 v6 v9 v62 h
def o99_s3 (cl : Handler) (N : Nat) (v1 v2 v3 v6 v9 v38 v41 : AV) (h : AH) : Ans :=
  fgd (gdv false v38) (kMov h v41) h fun v42 h =>
  fgd (gdv true v42) (kFldA h 0 v3) h fun v43 h =>
  fgd (gdv true v42) (kLd1 h v43) h fun v44 h =>
  fgd (gdv true v42) (kArith h .neq v44 (.int .i64 1)) h fun v45 h =>
  fgd (gdv false v38) (kPick h v42 v45 (.bool false)) h fun v46 h =>
  fgd (gdv false v38) (kMov h v46) h fun v47 h =>
  fgd (gdv true v47) (kFldA h 0 v3) h fun v48 h =>
  fgd (gdv true v47) (kLd1 h v48) h fun v49 h =>
  fgd (gdv true v47) (kArith h .neq v49 (.int .i64 2)) h fun v50 h =>
  fgd (gdv false v38) (kPick h v47 v50 (.bool false)) h fun v51 h =>
  o99_s2 cl N v1 v2 v3 v6 v9 v38 v51 h
def o99_a2 (cl : Handler) (N : Nat) (v1 v2 v3 v6 v9 : AV) (h : AH) : Ans :=
  fst (kFldA h 0 v3) fun v30 h =>
  fst (kLd1 h v30) fun v31 h =>
  fst (kArith h .lss v31 (.int .i64 1)) fun v32 h =>
  fgd (gdv false v32) (kFldA h 0 v3) h fun v34 h =>
  fgd (gdv false v32) (kLd1 h v34) h fun v35 h =>
  fgd (gdv false v32) (kArith h .gtr v35 (.int .i64 4)) h fun v36 h =>
  fst (kPick h v32 (.bool true) v36) fun v37 h =>
  fgd (gdv false v37) (kFldA h 1 v3) h fun v39 h =>
  fgd (gdv false v37) (kLd1 h v39) h fun v40 h =>
  fgd (gdv false v37) (kArith h .neq v40 (.int .i64 0)) h fun v41 h =>
  o99_s3 cl N v1 v2 v3 v6 v9 v37 v41 h
def o99_s4 (cl : Handler) (N : Nat) (v1 v2 v3 v6 v88 v96 : AV) (h : AH) : Ans :=
  fgd (gdv false v88) (kMov h v96) h fun v97 h =>
  fgd (gdv true v97) (kFldA h 1 v3) h fun v98 h =>
  fgd (gdv true v97) (kLd1 h v98) h fun v99 h =>
  fgd (gdv true v97) (kArith h .neq v99 (.int .i64 1)) h fun v100 h =>
  fgd (gdv false v88) (kPick h v97 v100 (.bool false)) h fun v101 h =>
  fst (kPick h v88 (.bool true) v101) fun v102 h =>
  some (.nrm, [], [v1, v2, v3, v6, v102], h)
def o99_s5 (cl : Handler) (N : Nat) (v1 v2 v3 v6 v78 v82 v85 : AV) (h : AH) : Ans :=
  fgd (gdv true v78) (kPick h v82 (.bool true) v85) h fun v86 h =>
  fst (kPick h v78 v86 (.bool false)) fun v87 h =>
  fgd (gdv false v87) (kFldA h 0 v3) h fun v89 h =>
  fgd (gdv false v87) (kLd1 h v89) h fun v90 h =>
  fgd (gdv false v87) (kArith h .eql v90 (.int .i64 2)) h fun v91 h =>
  fgd (gdv false v87) (kMov h v91) h fun v92 h =>
  fgd (gdv true v92) (kFldA h 1 v3) h fun v93 h =>
  fgd (gdv true v92) (kLd1 h v93) h fun v94 h =>
  fgd (gdv true v92) (kArith h .neq v94 (.int .i64 0)) h fun v95 h =>
  fgd (gdv false v87) (kPick h v92 v95 (.bool false)) h fun v96 h =>
  o99_s4 cl N v1 v2 v3 v6 v87 v96 h
def o99_a3 (cl : Handler) (N : Nat) (v1 v2 v3 v6 : AV) (h : AH) : Ans :=
  fst (kFldA h 0 v3) fun v75 h =>
  fst (kLd1 h v75) fun v76 h =>
  fst (kArith h .eql v76 (.int .i64 1)) fun v77 h =>
  fgd (gdv true v77) (kFldA h 1 v3) h fun v79 h =>
  fgd (gdv true v77) (kLd1 h v79) h fun v80 h =>
  fgd (gdv true v77) (kArith h .lss v80 (.int .i64 (-1099511627776))) h fun v81 h =>
  fgd (gdv true v77) (kMov h v81) h fun v82 h =>
  fgd (gdv false v82) (kFldA h 1 v3) h fun v83 h =>
  fgd (gdv false v82) (kLd1 h v83) h fun v84 h =>
  fgd (gdv false v82) (kArith h .gtr v84 (.int .i64 1099511627776)) h fun v85 h =>
  o99_s5 cl N v1 v2 v3 v6 v77 v82 v85 h
def o99_s6 (cl : Handler) (N : Nat) (v1 v2 v3 v6 v115 v116 : AV) (h : AH) : Ans :=
  fgd (gdv false v115) (kArith h .gtr v116 (.int .i64 1000)) h fun v117 h =>
  fst (kPick h v115 (.bool true) v117) fun v118 h =>
  some (.nrm, [], [v1, v2, v3, v6, v118], h)
def o99_a4 (cl : Handler) (N : Nat) (v1 v2 v3 v6 : AV) (h : AH) : Ans :=
  fst (kFldA h 2 v3) fun v105 h =>
  fst (kLd1 h v105) fun v106 h =>
  fst (kLenS h v106) fun v107 h =>
  fst (kArith h .gtr v107 (.int .i64 2000)) fun v108 h =>
  fgd (gdv false v108) (kFldA h 3 v3) h fun v110 h =>
  fgd (gdv false v108) (kLd1 h v110) h fun v111 h =>
  fgd (gdv false v108) (kLen h v111) h fun v112 h =>
  fgd (gdv false v108) (kArith h .gtr v112 (.int .i64 100)) h fun v113 h =>
  fst (kPick h v108 (.bool true) v113) fun v114 h =>
  fgd (gdv false v114) (kMov h v2) h fun v116 h =>
  o99_s6 cl N v1 v2 v3 v6 v114 v116 h
def o99_s7 (cl : Handler) (N : Nat) (v1 v2 v3 v6 v10 v11 v12 v163 v164 : AV) (h : AH) : Ans :=
  fst (kSt h 1 v164 v163) fun _ h =>
  some (.nrm, [], [v1, v2, v3, v6, .undef, .undef, v10, v11, v12], h)
def o99_s8 (cl : Handler) (N : Nat) (v1 v2 v3 v6 v10 v11 v12 v175 : AV) (h : AH) : Ans :=
  fst (kBuildSl h 2 1 [.int .i64 0, .nilsl] [(0, 2, v175)]) fun v176 h =>
  fst (kFldA h 1 v10) fun v177 h =>
  fst (kSt h 1 v177 v176) fun _ h =>
  some (.nrm, [], [v1, v2, v3, v6, .undef, .undef, v10, v11, v12], h)
def o99_s9 (cl : Handler) (N : Nat) (r : Nat) (c0 c1 c2 : Rec) (v1 v2 v3 v6 v10 v12 v13 v168 : AV) (h : AH) : Ans :=
  fdp h (kLdn h 2 v168) (rdK (rdv v168)) fun v169 c3 h =>
  fdp h (kLdn h 2 v13) (rdK (rdv v13)) fun v170 c4 h =>
  fde h (cl 104 [v169, v170] h) fun v171 c5 h =>
  fdp h (kMov h v171) .pure fun v165 c6 h =>
  fdp h (kExt h v165 0) .pure fun v172 c7 h =>
  fdp h (kExt h v165 1) .pure fun v173 c8 h =>
  fda (r + 9) h (alNew [.int .i64 0, .nilsl]) fun v16 c9 h =>
  fde h (kSt h 2 v16 v172) fun _ c10 h =>
  fdp h (kMov h v173) .pure fun v17 c11 h =>
  cond (fchk [c0, c1, c2, c3, c4, c5, c6, c7, c8, c9, c10, c11] [(1, 9), (3, 9), (4, 9)]) (fst (kLdn h 2 v16) fun v175 h =>
  o99_s8 cl N v1 v2 v3 v6 v10 v17 v12 v175 h) none
def o99_s10 (cl : Handler) (N : Nat) (v1 v3 v6 v10 v11 v12 v13 v147 v148 v149 : AV) (h : AH) : Ans :=
  fst (kSt h 2 v13 v147) fun _ h =>
  fst (kArith h .neq v149 (.int .i64 0)) fun v152 h =>
  fif v152 (
  fst (kBuild h [.int .i64 0, .nilsl] []) fun v153 h =>
  fst (kSt h 2 v6 v153) fun _ h =>
  some (.ret, [], [v1, v148, v3, v6, v148, v149, v10, v11, v12], h)) (
  fst (kUn h .not v11) fun v157 h =>
  fif v157 (
  some (.nrm, [], [v1, v148, v3, v6, .undef, .undef, v10, v11, v12], h)) (
  fst (kFldA h 1 v10) fun v158 h =>
  fst (kLd1 h v158) fun v159 h =>
  fst (kLen h v159) fun v160 h =>
  fst (kArith h .eql v160 (.int .i64 0)) fun v161 h =>
  fif v161 (
  fst (kLdn h 2 v13) fun v162 h =>
  fst (kBuildSl h 2 1 [.int .i64 0, .nilsl] [(0, 2, v162)]) fun v163 h =>
  fst (kFldA h 1 v10) fun v164 h =>
  o99_s7 cl N v1 v148 v3 v6 v10 v11 v12 v163 v164 h) (
  fdr h 12 fun r h =>
  fdp h (kFldA h 1 v10) .pure fun v166 c0 h =>
  fdp h (kLd1 h v166) (rdK (rdv v166)) fun v167 c1 h =>
  fdp h (kIdxA h 2 v167 (.int .i64 0)) .pure fun v168 c2 h =>
  o99_s9 cl N r c0 c1 c2 v1 v148 v3 v6 v10 v12 v13 v168 h)))
def o99_a5 (cl : Handler) (N : Nat) (v1 v2 v3 v6 v10 v11 v12 : AV) (h : AH) : Ans :=
  fst (kFldA h 3 v3) fun v138 h =>
  fst (kLd1 h v138) fun v139 h =>
  fst (kIdxA h 4 v139 v12) fun v141 h =>
  fst (kLdn h 4 v141) fun v142 h =>
  fst (kArith h .add v1 (.int .i64 1)) fun v144 h =>
  fst (cl 99 [v142, v144, v2] h) fun v146 h =>
  fst (kExt h v146 0) fun v147 h =>
  fst (kExt h v146 1) fun v148 h =>
  fst (kExt h v146 2) fun v149 h =>
  fst (kNew h [.int .i64 0, .nilsl]) fun v13 h =>
  o99_s10 cl N v1 v3 v6 v10 v11 v12 v13 v147 v148 v149 h
def o99_j6 (cl : Handler) (N : Nat) (x : AX) (v1 v2 v3 v6 v7 v8 v10 v11 v12 : AV) (h : AH) : Ans :=
  fxs x (fst (kArith h .add v12 (.int .i64 1)) fun v136 h =>
  some (.nrm, [v1, v2, v3, v6, v10, v11, v136], [v2, v6, v7, v8, v10, v11], h)) (fun j => some ((.exit j), [v1, v2, v3, v6, v10, v11, v12], [v2, v6, v7, v8, v10, v11], h)) (some (.ret, [v1, v2, v3, v6, v10, v11, v12], [v2, v6, v7, v8, v10, v11], h))
def o99_l7 (cl : Handler) (N : Nat) (v1 v2 v3 v6 v10 v11 v12 : AV) (h : AH) : Ans :=
  fst (kFldA h 3 v3) fun v131 h =>
  fst (kLd1 h v131) fun v132 h =>
  fst (kLen h v132) fun v133 h =>
  fst (kArith h .lss v12 v133) fun v134 h =>
  fif v134 (
  fjn (o99_a5 cl N v1 v2 v3 v6 v10 v11 v12 h) fun x vs h => o99_j6 cl N x (nthD vs 0) (nthD vs 1) (nthD vs 2) (nthD vs 3) (nthD vs 4) (nthD vs 5) (nthD vs 6) (nthD vs 7) (nthD vs 8) h) (
  some ((.exit 0), [v1, v2, v3, v6, v10, v11, v12], [v2, v6, .undef, .undef, v10, v11], h))
def o99_c8 (cl : Handler) (N : Nat) (v2 v6 v10 v11 : AV) (h : AH) : Ans :=
  fst (kUn h .not v11) fun v179 h =>
  fif v179 (
  fst (kBuild h [.int .i64 0, .nilsl] []) fun v180 h =>
  fst (kSt h 2 v6 v180) fun _ h =>
  fres (aresV h [.cell (v6) (some 2), .val (v2), .val ((.int .i64 5))]) h) (
  fst (kLdn h 2 v10) fun v182 h =>
  fst (kSt h 2 v6 v182) fun _ h =>
  fres (aresV h [.cell (v6) (some 2), .val (v2), .val ((.int .i64 0))]) h)
def o99_j9 (cl : Handler) (N : Nat) (x : AX) (v2 v6 v7 v8 v10 v11 : AV) (h : AH) : Ans :=
  fxs x (o99_c8 cl N v2 v6 v10 v11 h) (fun j => cond (Nat.beq j 0) (o99_c8 cl N v2 v6 v10 v11 h) (none)) (fres (aresV h [.cell (v6) (some 2), .val (v7), .val (v8)]) h)
def o99_j10 (cl : Handler) (N : Nat) (v1 v2 v3 v6 v118 : AV) (h : AH) : Ans :=
  fif v118 (
  fst (kBuild h [.int .i64 0, .nilsl] []) fun v119 h =>
  fst (kSt h 2 v6 v119) fun _ h =>
  fres (aresV h [.cell (v6) (some 2), .val (v2), .val ((.int .i64 2))]) h) (
  fst (kFldA h 2 v3) fun v121 h =>
  fst (kLd1 h v121) fun v122 h =>
  fst (cl 103 [v122] h) fun v123 h =>
  fst (kUn h .not v123) fun v124 h =>
  fif v124 (
  fst (kBuild h [.int .i64 0, .nilsl] []) fun v125 h =>
  fst (kSt h 2 v6 v125) fun _ h =>
  fres (aresV h [.cell (v6) (some 2), .val (v2), .val ((.int .i64 3))]) h) (
  fst (kFldA h 0 v3) fun v127 h =>
  fst (kLd1 h v127) fun v128 h =>
  fst (kBuild h [.int .i64 0, .nilsl] [(0, 1, v128)]) fun v129 h =>
  fst (kNew h [.int .i64 0, .nilsl]) fun v10 h =>
  fst (kSt h 2 v10 v129) fun _ h =>
  fjn (fiter (fun vs h => o99_l7 cl N (nthD vs 0) (nthD vs 1) (nthD vs 2) (nthD vs 3) (nthD vs 4) (nthD vs 5) (nthD vs 6) h) N [v1, v2, v3, v6, v10, (.bool true), (.int .i64 0)] h) fun x vs h => o99_j9 cl N x (nthD vs 0) (nthD vs 1) (nthD vs 2) (nthD vs 3) (nthD vs 4) (nthD vs 5) h))
def o99_j11 (cl : Handler) (N : Nat) (v1 v2 v3 v6 v102 : AV) (h : AH) : Ans :=
  fif v102 (
  fst (kBuild h [.int .i64 0, .nilsl] []) fun v103 h =>
  fst (kSt h 2 v6 v103) fun _ h =>
  fres (aresV h [.cell (v6) (some 2), .val (v2), .val ((.int .i64 1))]) h) (
  fjn (o99_a4 cl N v1 v2 v3 v6 h) fun _ vs h => o99_j10 cl N (nthD vs 0) (nthD vs 1) (nthD vs 2) (nthD vs 3) (nthD vs 4) h)
def o99_j12 (cl : Handler) (N : Nat) (v1 v2 v3 v6 v72 : AV) (h : AH) : Ans :=
  fif v72 (
  fst (kBuild h [.int .i64 0, .nilsl] []) fun v73 h =>
  fst (kSt h 2 v6 v73) fun _ h =>
  fres (aresV h [.cell (v6) (some 2), .val (v2), .val ((.int .i64 9))]) h) (
  fjn (o99_a3 cl N v1 v2 v3 v6 h) fun _ vs h => o99_j11 cl N (nthD vs 0) (nthD vs 1) (nthD vs 2) (nthD vs 3) (nthD vs 4) h)
def o99_j13 (cl : Handler) (N : Nat) (v1 v2 v3 v6 v9 v27 : AV) (h : AH) : Ans :=
  fif v27 (
  fst (kBuild h [.int .i64 0, .nilsl] []) fun v28 h =>
  fst (kSt h 2 v6 v28) fun _ h =>
  fres (aresV h [.cell (v6) (some 2), .val (v2), .val ((.int .i64 8))]) h) (
  fjn (o99_a2 cl N v1 v2 v3 v6 v9 h) fun _ vs h => o99_j12 cl N (nthD vs 0) (nthD vs 1) (nthD vs 2) (nthD vs 3) (nthD vs 4) h)
def o99 (cl : Handler) (N : Nat) (v0 v1 v2 : AV) (h : AH) : Ans :=
  fst (kBox h v0) fun v3 h =>
  fst (kNew h [.int .i64 0, .nilsl]) fun v6 h =>
  fst (kArith h .add v2 (.int .i64 1)) fun v19 h =>
  fst (kFldA h 0 v3) fun v20 h =>
  fst (kLd1 h v20) fun v21 h =>
  fst (kArith h .eql v21 (.int .i64 4)) fun v22 h =>
  fjn (o99_a1 cl N v1 v19 v3 v6 v22 h) fun _ vs h => o99_j13 cl N (nthD vs 0) (nthD vs 1) (nthD vs 2) (nthD vs 3) (nthD vs 4) (nthD vs 5) h
theorem o99_eq (cl : Handler) (N : Nat) (v0 v1 v2 : AV) (h : AH) : frun cl N S99 [v0, v1, v2] h = fans (o99 cl N v0 v1 v2 h) := by kernel_rfl
def w99 (N : Nat) : OF := fun cl args h => match args with
  | [v0, v1, v2] => fans (o99 cl N v0 v1 v2 h)
  | _ => none
theorem w99_ok (N : Nat) : OkF Tryz.prog 99 (w99 N) := .of (N := N) (S99_ok) fun cl args h r hr => by
  unfold w99 at hr
  split at hr
  · exact (o99_eq cl N _ _ _ _).trans hr
  · cases hr

/- widgetry/widgetryref11.UTF8 -/
def S103.r0 : List AOpr := [
  q 2 (.mov (.const (.bool false)))]
def S103.r1 : List AOpr := [
  q 3 (.mov (x 0)),
  q 4 (.xo .s2r [.tmp 3]),
  q 5 (.xo .r2s [.tmp 4]),
  q 6 (.mov (x 0)),
  q 7 (.arith .eql (x 5) (x 6)),
  q 2 (.mov (x 7))]
def S103 : SFn := ⟨8, [.tmp 2], .seq (.reg S103.r0) (.seq (.reg S103.r1) (.ret))⟩
theorem S103_ok : EOk Tryz.prog 103 S103 := ⟨Tryz.f103, by kernel_rfl, by kernel_rfl, by decide, by kernel_rfl, its_nil (by kernel_rfl)⟩
def o103 (cl : Handler) (N : Nat) (v0 : AV) (h : AH) : Ans :=
  fst (kX h .s2r [v0]) fun v4 h =>
  fst (kX h .r2s [v4]) fun v5 h =>
  fst (kArith h .eql v5 v0) fun v7 h =>
  some (.nrm, [], [v7], h)
theorem o103_eq (cl : Handler) (N : Nat) (v0 : AV) (h : AH) : frun cl N S103 [v0] h = fans (o103 cl N v0 h) := by kernel_rfl
def w103 (N : Nat) : OF := fun cl args h => match args with
  | [v0] => fans (o103 cl N v0 h)
  | _ => none
theorem w103_ok (N : Nat) : OkF Tryz.prog 103 (w103 N) := .of (N := N) (S103_ok) fun cl args h r hr => by
  unfold w103 at hr
  split at hr
  · exact (o103_eq cl N _ _).trans hr
  · cases hr

def otr3 (N : Nat) : OT := .node 85 (.node 77 (.node 74 (.node 73 (.one 72 (w72 N)) (.one 73 (w73 N))) (.node 75 (.one 74 (w74 N)) (.node 76 (.one 75 (w75 N)) (.one 76 (w76 N))))) (.node 82 (.node 78 (.one 77 (w77 N)) (.one 78 (w78 N))) (.node 83 (.one 82 (w82 N)) (.node 84 (.one 83 (w83 N)) (.one 84 (w84 N)))))) (.node 92 (.node 89 (.node 86 (.one 85 (w85 N)) (.one 86 (w86 N))) (.node 90 (.one 89 (w89 N)) (.node 91 (.one 90 (w90 N)) (.one 91 (w91 N))))) (.node 95 (.node 93 (.one 92 (w92 N)) (.node 94 (.one 93 (w93 N)) (.one 94 (w94 N)))) (.node 99 (.one 95 (w95 N)) (.node 103 (.one 99 (w99 N)) (.one 103 (w103 N))))))
theorem otr3_ok (N : Nat) : (otr3 N).Ok Tryz.prog := ⟨⟨⟨⟨w72_ok N, w73_ok N⟩, ⟨w74_ok N, ⟨w75_ok N, w76_ok N⟩⟩⟩, ⟨⟨w77_ok N, w78_ok N⟩, ⟨w82_ok N, ⟨w83_ok N, w84_ok N⟩⟩⟩⟩, ⟨⟨⟨w85_ok N, w86_ok N⟩, ⟨w89_ok N, ⟨w90_ok N, w91_ok N⟩⟩⟩, ⟨⟨w92_ok N, ⟨w93_ok N, w94_ok N⟩⟩, ⟨w95_ok N, ⟨w99_ok N, w103_ok N⟩⟩⟩⟩⟩

end Go.Proofs.YtoibclpbkjbnbaaGreat
end
