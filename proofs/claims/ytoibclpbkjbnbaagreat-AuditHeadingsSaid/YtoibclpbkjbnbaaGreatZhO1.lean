/- The functions that building and exporting a view of headings run through, second part; written by a program. -/
import Derived.Test.YtoibclpbkjbnbaaGreatEngOX
import Derived.Test.YtoibclpbkjbnbaaGreatProg
import Derived.KernelRfl
set_option linter.unusedSimpArgs false
set_option linter.unusedVariables false
set_option linter.unnecessarySimpa false
noncomputable section
namespace Go.Proofs.YtoibclpbkjbnbaaGreat
open Go.Eng
set_option maxRecDepth 100000
def S26.z0 : List AV := [.int .i64 0, .int .i64 0, .str [], .nilsl]
/- widgetry/widgetryref14.Number -/
def S26.r0 : List AOpr := [
  q 6 (.mov (.const (.int .i64 0)))]
def S26.r1 : List AOpr := [
  q 10 (.mov (x 0)),
  q 11 (.mov (x 1)),
  q 12 (.call (.const (.func (.func 60) [] [])) [.tmp 10, .tmp 11]),
  q 9 (.mov (x 12)),
  q 13 (.ext (x 9) 0),
  q 14 (.ext (x 9) 1),
  q 7 (.new S26.z0),
  ⟨none, .st 4 (x 7) (x 13), none⟩,
  q 8 (.mov (x 14))]
def S26.r2 : List AOpr := [
  q 15 (.fldA 0 (x 7)),
  q 16 (.ld1 (x 15)),
  q 17 (.arith .neq (x 16) (.const (.int .i64 1)))]
def S26.r3 : List AOpr := [
  q 18 (.mov (x 2)),
  q 6 (.mov (x 18))]
def S26.r4 : List AOpr := [
  q 19 (.fldA 1 (x 7)),
  q 20 (.ld1 (x 19)),
  q 6 (.mov (x 20))]
def S26 : SFn := ⟨21, [.tmp 6], .seq (.reg S26.r0) (.seq (.reg S26.r1) (.seq (.seq (.reg S26.r2) (.cond (x 17) (.seq (.reg S26.r3) (.ret)) (.skip))) (.seq (.reg S26.r4) (.ret))))⟩
theorem S26_ok : EOk Tryz.prog 26 S26 := ⟨Tryz.f26, by kernel_rfl, by kernel_rfl, by decide, by kernel_rfl, its_nil (by kernel_rfl)⟩
def o26_s1 (cl : Handler) (N : Nat) (v20 : AV) (h : AH) : Ans :=
  some (.nrm, [], [v20], h)
def o26 (cl : Handler) (N : Nat) (v0 v1 v2 : AV) (h : AH) : Ans :=
  fst (cl 60 [v0, v1] h) fun v12 h =>
  fst (kExt h v12 0) fun v13 h =>
  fst (kExt h v12 1) fun v14 h =>
  fst (kNew h S26.z0) fun v7 h =>
  fst (kSt h 4 v7 v13) fun _ h =>
  fst (kFldA h 0 v7) fun v15 h =>
  fst (kLd1 h v15) fun v16 h =>
  fst (kArith h .neq v16 (.int .i64 1)) fun v17 h =>
  fif v17 (
  some (.nrm, [], [v2], h)) (
  fst (kFldA h 1 v7) fun v19 h =>
  fst (kLd1 h v19) fun v20 h =>
  o26_s1 cl N v20 h)
theorem o26_eq (cl : Handler) (N : Nat) (v0 v1 v2 : AV) (h : AH) : frun cl N S26 [v0, v1, v2] h = fans (o26 cl N v0 v1 v2 h) := by kernel_rfl
def w26 (N : Nat) : OF := fun cl args h => match args with
  | [v0, v1, v2] => fans (o26 cl N v0 v1 v2 h)
  | _ => none
theorem w26_ok (N : Nat) : OkF Tryz.prog 26 (w26 N) := .of (N := N) (S26_ok) fun cl args h r hr => by
  unfold w26 at hr
  split at hr
  · exact (o26_eq cl N _ _ _ _).trans hr
  · cases hr

def S28.z0 : List AV := [.int .i64 0, .int .i64 0, .str [], .nilsl]
/- widgetry/widgetryref14.Text -/
def S28.r0 : List AOpr := [
  q 4 (.mov (.const (.str [])))]
def S28.r1 : List AOpr := [
  q 8 (.mov (x 0)),
  q 9 (.mov (x 1)),
  q 10 (.call (.const (.func (.func 60) [] [])) [.tmp 8, .tmp 9]),
  q 7 (.mov (x 10)),
  q 11 (.ext (x 7) 0),
  q 12 (.ext (x 7) 1),
  q 5 (.new S28.z0),
  ⟨none, .st 4 (x 5) (x 11), none⟩,
  q 6 (.mov (x 12))]
def S28.r2 : List AOpr := [
  q 13 (.fldA 0 (x 5)),
  q 14 (.ld1 (x 13)),
  q 15 (.arith .neq (x 14) (.const (.int .i64 3)))]
def S28.r3 : List AOpr := [
  q 4 (.mov (.const (.str [])))]
def S28.r4 : List AOpr := [
  q 16 (.fldA 2 (x 5)),
  q 17 (.ld1 (x 16)),
  q 4 (.mov (x 17))]
def S28 : SFn := ⟨18, [.tmp 4], .seq (.reg S28.r0) (.seq (.reg S28.r1) (.seq (.seq (.reg S28.r2) (.cond (x 15) (.seq (.reg S28.r3) (.ret)) (.skip))) (.seq (.reg S28.r4) (.ret))))⟩
theorem S28_ok : EOk Tryz.prog 28 S28 := ⟨Tryz.f28, by kernel_rfl, by kernel_rfl, by decide, by kernel_rfl, its_nil (by kernel_rfl)⟩
def o28_s1 (cl : Handler) (N : Nat) (v17 : AV) (h : AH) : Ans :=
  some (.nrm, [], [v17], h)
def o28 (cl : Handler) (N : Nat) (v0 v1 : AV) (h : AH) : Ans :=
  fst (cl 60 [v0, v1] h) fun v10 h =>
  fst (kExt h v10 0) fun v11 h =>
  fst (kExt h v10 1) fun v12 h =>
  fst (kNew h S28.z0) fun v5 h =>
  fst (kSt h 4 v5 v11) fun _ h =>
  fst (kFldA h 0 v5) fun v13 h =>
  fst (kLd1 h v13) fun v14 h =>
  fst (kArith h .neq v14 (.int .i64 3)) fun v15 h =>
  fif v15 (
  some (.nrm, [], [(.str [])], h)) (
  fst (kFldA h 2 v5) fun v16 h =>
  fst (kLd1 h v16) fun v17 h =>
  o28_s1 cl N v17 h)
theorem o28_eq (cl : Handler) (N : Nat) (v0 v1 : AV) (h : AH) : frun cl N S28 [v0, v1] h = fans (o28 cl N v0 v1 h) := by kernel_rfl
def w28 (N : Nat) : OF := fun cl args h => match args with
  | [v0, v1] => fans (o28 cl N v0 v1 h)
  | _ => none
theorem w28_ok (N : Nat) : OkF Tryz.prog 28 (w28 N) := .of (N := N) (S28_ok) fun cl args h r hr => by
  unfold w28 at hr
  split at hr
  · exact (o28_eq cl N _ _ _).trans hr
  · cases hr

/- widgetry/widgetryref29.In -/
def S30.r0 : List AOpr := [
  q 4 (.mov (.const (.bool false)))]
def S30.r1 : List AOpr := [
  q 5 (.mov (.const (.int .i64 0)))]
def S30.r2 : List AOpr := [
  q 6 (.mov (x 5)),
  q 7 (.mov (x 0)),
  q 8 (.len (x 7)),
  q 9 (.arith .lss (x 6) (x 8))]
def S30.r3 : List AOpr := [
  q 12 (.mov (x 0)),
  q 13 (.mov (x 5)),
  q 14 (.idxA 1 (x 12) (x 13)),
  q 15 (.ld1 (x 14)),
  q 16 (.mov (x 1)),
  q 17 (.arith .eql (x 15) (x 16))]
def S30.r4 : List AOpr := [
  q 4 (.mov (.const (.bool true)))]
def S30.r5 : List AOpr := [
  q 10 (.mov (x 5)),
  q 11 (.arith .add (x 10) (.const (.int .i64 1))),
  q 5 (.mov (x 11))]
def S30.r6 : List AOpr := [
  q 4 (.mov (.const (.bool false)))]
def S30 : SFn := ⟨18, [.tmp 4], .seq (.reg S30.r0) (.seq (.seq (.reg S30.r1) (.block 0 (.loop [0, 1, 5] [4] (.seq (.seq (.reg S30.r2) (.cond (x 9) (.skip) (.exit 0))) (.seq (.block 1 (.seq (.reg S30.r3) (.cond (x 17) (.seq (.reg S30.r4) (.ret)) (.skip)))) (.reg S30.r5)))))) (.seq (.reg S30.r6) (.ret)))⟩
theorem S30_ok : EOk Tryz.prog 30 S30 := ⟨Tryz.f30, by kernel_rfl, by kernel_rfl, by decide, by kernel_rfl, its_nil (by kernel_rfl)⟩
def o30_l1 (cl : Handler) (N : Nat) (v0 v1 v5 : AV) (h : AH) : Ans :=
  fst (kLen h v0) fun v8 h =>
  fst (kArith h .lss v5 v8) fun v9 h =>
  fif v9 (
  fst (kIdxA h 1 v0 v5) fun v14 h =>
  fst (kLd1 h v14) fun v15 h =>
  fst (kArith h .eql v15 v1) fun v17 h =>
  fif v17 (
  some (.ret, [v0, v1, v5], [(.bool true)], h)) (
  fst (kArith h .add v5 (.int .i64 1)) fun v11 h =>
  some (.nrm, [v0, v1, v11], [.undef], h))) (
  some ((.exit 0), [v0, v1, v5], [.undef], h))
def o30_c2 (cl : Handler) (N : Nat) (h : AH) : Ans :=
  some (.nrm, [], [(.bool false)], h)
def o30_j3 (cl : Handler) (N : Nat) (x : AX) (v4 : AV) (h : AH) : Ans :=
  fxs x (o30_c2 cl N h) (fun j => cond (Nat.beq j 0) (o30_c2 cl N h) (none)) (some (.nrm, [], [v4], h))
def o30 (cl : Handler) (N : Nat) (v0 v1 : AV) (h : AH) : Ans :=
  fjn (fiter (fun vs h => o30_l1 cl N (nthD vs 0) (nthD vs 1) (nthD vs 2) h) N [v0, v1, (.int .i64 0)] h) fun x vs h => o30_j3 cl N x (nthD vs 0) h
theorem o30_eq (cl : Handler) (N : Nat) (v0 v1 : AV) (h : AH) : frun cl N S30 [v0, v1] h = fans (o30 cl N v0 v1 h) := by kernel_rfl
def w30 (N : Nat) : OF := fun cl args h => match args with
  | [v0, v1] => fans (o30 cl N v0 v1 h)
  | _ => none
theorem w30_ok (N : Nat) : OkF Tryz.prog 30 (w30 N) := .of (N := N) (S30_ok) fun cl args h r hr => by
  unfold w30 at hr
  split at hr
  · exact (o30_eq cl N _ _ _).trans hr
  · cases hr

/- slices.Contains[[]int,int] -/
def S31.r0 : List AOpr := [
  q 4 (.mov (.const (.bool false)))]
def S31.r1 : List AOpr := [
  q 5 (.mov (x 0)),
  q 6 (.mov (x 1)),
  q 7 (.call (.const (.func (.func 61) [] [])) [.tmp 5, .tmp 6]),
  q 8 (.arith .geq (x 7) (.const (.int .i64 0))),
  q 4 (.mov (x 8))]
def S31 : SFn := ⟨9, [.tmp 4], .seq (.reg S31.r0) (.seq (.reg S31.r1) (.ret))⟩
theorem S31_ok : EOk Tryz.prog 31 S31 := ⟨Tryz.f31, by kernel_rfl, by kernel_rfl, by decide, by kernel_rfl, its_nil (by kernel_rfl)⟩
def o31 (cl : Handler) (N : Nat) (v0 v1 : AV) (h : AH) : Ans :=
  fst (cl 61 [v0, v1] h) fun v7 h =>
  fst (kArith h .geq v7 (.int .i64 0)) fun v8 h =>
  some (.nrm, [], [v8], h)
theorem o31_eq (cl : Handler) (N : Nat) (v0 v1 : AV) (h : AH) : frun cl N S31 [v0, v1] h = fans (o31 cl N v0 v1 h) := by kernel_rfl
def w31 (N : Nat) : OF := fun cl args h => match args with
  | [v0, v1] => fans (o31 cl N v0 v1 h)
  | _ => none
theorem w31_ok (N : Nat) : OkF Tryz.prog 31 (w31 N) := .of (N := N) (S31_ok) fun cl args h r hr => by
  unfold w31 at hr
  split at hr
  · exact (o31_eq cl N _ _ _).trans hr
  · cases hr

def S32.z0 : List AV := [.str [], .str [], .str [], .nilsl]
/- widgetry/widgetryref14.validate -/
def S32.r0 : List AOpr := [
  q 3 (.box (x 0)),
  q 6 (.mov (.const (.int .i64 0))),
  q 7 (.mov (.const (.int .i64 0)))]
def S32.r1 : List AOpr := [
  q 19 (.mov (x 2)),
  q 20 (.arith .add (x 19) (.const (.int .i64 1))),
  q 2 (.mov (x 20))]
def S32.r2 : List AOpr := [
  q 21 (.mov (x 1)),
  q 22 (.arith .gtr (x 21) (.const (.int .i64 16)))]
def S32.r3 : List AOpr := [
  q 23 (.mov (x 2)),
  q 6 (.mov (x 23)),
  q 7 (.mov (.const (.int .i64 8)))]
def S32.r4 : List AOpr := [
  q 24 (.mov (x 2)),
  q 25 (.arith .gtr (x 24) (.const (.int .i64 400)))]
def S32.r5 : List AOpr := [
  q 26 (.mov (x 2)),
  q 6 (.mov (x 26)),
  q 7 (.mov (.const (.int .i64 2)))]
def S32.r6 : List AOpr := [
  q 27 (.fldA 0 (x 3)),
  q 28 (.ld1 (x 27)),
  q 29 (.arith .lss (x 28) (.const (.int .i64 1))),
  q 30 (.mov (x 29)),
  ⟨some 31, .fldA 0 (x 3), some (30, false)⟩,
  ⟨some 32, .ld1 (x 31), some (30, false)⟩,
  ⟨some 33, .arith .gtr (x 32) (.const (.int .i64 13)), some (30, false)⟩,
  q 34 (.pick (x 30) (.const (.bool true)) (x 33))]
def S32.r7 : List AOpr := [
  q 35 (.mov (x 2)),
  q 6 (.mov (x 35)),
  q 7 (.mov (.const (.int .i64 9)))]
def S32.r8 : List AOpr := [
  q 36 (.fldA 1 (x 3)),
  q 37 (.ld1 (x 36)),
  q 38 (.call (.const (.func (.func 62) [] [])) [.tmp 37]),
  q 39 (.un .not (x 38))]
def S32.r9 : List AOpr := [
  q 40 (.mov (x 2)),
  q 6 (.mov (x 40)),
  q 7 (.mov (.const (.int .i64 4)))]
def S32.r10 : List AOpr := [
  q 41 (.fldA 2 (x 3)),
  q 42 (.ld1 (x 41)),
  q 43 (.len (x 42)),
  q 44 (.arith .gtr (x 43) (.const (.int .i64 24))),
  q 45 (.mov (x 44)),
  ⟨some 46, .fldA 3 (x 3), some (45, false)⟩,
  ⟨some 47, .ld1 (x 46), some (45, false)⟩,
  ⟨some 48, .len (x 47), some (45, false)⟩,
  ⟨some 49, .arith .gtr (x 48) (.const (.int .i64 24)), some (45, false)⟩,
  q 50 (.pick (x 45) (.const (.bool true)) (x 49)),
  q 51 (.mov (x 50)),
  ⟨some 52, .fldA 4 (x 3), some (51, false)⟩,
  ⟨some 53, .ld1 (x 52), some (51, false)⟩,
  ⟨some 54, .len (x 53), some (51, false)⟩,
  ⟨some 55, .arith .gtr (x 54) (.const (.int .i64 100)), some (51, false)⟩,
  q 56 (.pick (x 51) (.const (.bool true)) (x 55))]
def S32.r11 : List AOpr := [
  q 57 (.mov (x 2)),
  q 6 (.mov (x 57)),
  q 7 (.mov (.const (.int .i64 2)))]
def S32.r12 : List AOpr := [
  q 8 (.mov (.const (.int .i64 0)))]
def S32.r13 : List AOpr := [
  q 58 (.mov (x 8)),
  q 59 (.fldA 2 (x 3)),
  q 60 (.ld1 (x 59)),
  q 61 (.len (x 60)),
  q 62 (.arith .lss (x 58) (x 61))]
def S32.r14 : List AOpr := [
  q 65 (.fldA 2 (x 3)),
  q 66 (.ld1 (x 65)),
  q 67 (.mov (x 8)),
  q 68 (.idxA 5 (x 66) (x 67)),
  q 69 (.fldA 0 (x 68)),
  q 70 (.ld1 (x 69)),
  q 71 (.call (.const (.func (.func 63) [] [])) [.tmp 70]),
  q 72 (.un .not (x 71))]
def S32.r15 : List AOpr := [
  q 73 (.mov (x 2)),
  q 6 (.mov (x 73)),
  q 7 (.mov (.const (.int .i64 4)))]
def S32.r16 : List (AOpr × Nat) := [
  (q 74 (.mov (x 8)), 0),
  (q 75 (.arith .gtr (x 74) (.const (.int .i64 0))), 1),
  (q 76 (.mov (x 75)), 3),
  (⟨some 77, .fldA 2 (x 3), some (76, true)⟩, 7),
  (⟨some 78, .ld1 (x 77), some (76, true)⟩, 15),
  (⟨some 79, .mov (x 8), some (76, true)⟩, 7),
  (⟨some 80, .idxA 5 (x 78) (x 79), some (76, true)⟩, 63),
  (⟨some 81, .fldA 0 (x 80), some (76, true)⟩, 127),
  (⟨some 82, .ld1 (x 81), some (76, true)⟩, 255),
  (⟨some 83, .fldA 2 (x 3), some (76, true)⟩, 7),
  (⟨some 84, .ld1 (x 83), some (76, true)⟩, 519),
  (⟨some 85, .mov (x 8), some (76, true)⟩, 7),
  (⟨some 86, .arith .sub (x 85) (.const (.int .i64 1)), some (76, true)⟩, 2055),
  (⟨some 87, .idxA 5 (x 84) (x 86), some (76, true)⟩, 7687),
  (⟨some 88, .fldA 0 (x 87), some (76, true)⟩, 15879),
  (⟨some 89, .ld1 (x 88), some (76, true)⟩, 32263),
  (⟨some 90, .arith .leq (x 82) (x 89), some (76, true)⟩, 65535),
  (q 91 (.pick (x 76) (x 90) (.const (.bool false))), 131071)]
def S32.r17 : List AOpr := [
  q 92 (.mov (x 2)),
  q 6 (.mov (x 92)),
  q 7 (.mov (.const (.int .i64 10)))]
def S32.r18 : List AOpr := [
  q 93 (.fldA 2 (x 3)),
  q 94 (.ld1 (x 93)),
  q 95 (.mov (x 8)),
  q 96 (.idxA 5 (x 94) (x 95)),
  q 97 (.fldA 1 (x 96)),
  q 98 (.ldn 4 (x 97)),
  q 99 (.call (.const (.func (.func 64) [] [])) [.tmp 98]),
  q 9 (.mov (x 99))]
def S32.r19 : List AOpr := [
  q 100 (.mov (x 9)),
  q 101 (.arith .neq (x 100) (.const (.int .i64 0)))]
def S32.r20 : List AOpr := [
  q 102 (.mov (x 2)),
  q 103 (.mov (x 9)),
  q 6 (.mov (x 102)),
  q 7 (.mov (x 103))]
def S32.r21 : List AOpr := [
  q 63 (.mov (x 8)),
  q 64 (.arith .add (x 63) (.const (.int .i64 1))),
  q 8 (.mov (x 64))]
def S32.r22 : List AOpr := [
  q 10 (.mov (.const (.int .i64 0)))]
def S32.r23 : List AOpr := [
  q 104 (.mov (x 10)),
  q 105 (.fldA 3 (x 3)),
  q 106 (.ld1 (x 105)),
  q 107 (.len (x 106)),
  q 108 (.arith .lss (x 104) (x 107))]
def S32.r24 : List AOpr := [
  q 111 (.fldA 3 (x 3)),
  q 112 (.ld1 (x 111)),
  q 113 (.mov (x 10)),
  q 114 (.idxA 4 (x 112) (x 113)),
  q 115 (.ldn 4 (x 114)),
  q 11 (.new S32.z0),
  ⟨none, .st 4 (x 11) (x 115), none⟩]
def S32.r25 : List AOpr := [
  q 116 (.fldA 0 (x 11)),
  q 117 (.ld1 (x 116)),
  q 118 (.call (.const (.func (.func 63) [] [])) [.tmp 117]),
  q 119 (.un .not (x 118)),
  q 120 (.mov (x 119)),
  ⟨some 121, .fldA 2 (x 11), some (120, false)⟩,
  ⟨some 122, .ld1 (x 121), some (120, false)⟩,
  ⟨some 123, .call (.const (.func (.func 63) [] [])) [.tmp 122], some (120, false)⟩,
  ⟨some 124, .un .not (x 123), some (120, false)⟩,
  q 125 (.pick (x 120) (.const (.bool true)) (x 124))]
def S32.r26 : List AOpr := [
  q 126 (.mov (x 2)),
  q 6 (.mov (x 126)),
  q 7 (.mov (.const (.int .i64 4)))]
def S32.r27 : List (AOpr × Nat) := [
  (q 127 (.mov (x 10)), 0),
  (q 128 (.arith .gtr (x 127) (.const (.int .i64 0))), 1),
  (q 129 (.mov (x 128)), 3),
  (⟨some 130, .fldA 0 (x 11), some (129, true)⟩, 7),
  (⟨some 131, .ld1 (x 130), some (129, true)⟩, 15),
  (⟨some 132, .fldA 3 (x 3), some (129, true)⟩, 7),
  (⟨some 133, .ld1 (x 132), some (129, true)⟩, 39),
  (⟨some 134, .mov (x 10), some (129, true)⟩, 7),
  (⟨some 135, .arith .sub (x 134) (.const (.int .i64 1)), some (129, true)⟩, 135),
  (⟨some 136, .idxA 4 (x 133) (x 135), some (129, true)⟩, 487),
  (⟨some 137, .fldA 0 (x 136), some (129, true)⟩, 999),
  (⟨some 138, .ld1 (x 137), some (129, true)⟩, 2023),
  (⟨some 139, .arith .leq (x 131) (x 138), some (129, true)⟩, 4095),
  (q 140 (.pick (x 129) (x 139) (.const (.bool false))), 8191)]
def S32.r28 : List AOpr := [
  q 141 (.mov (x 2)),
  q 6 (.mov (x 141)),
  q 7 (.mov (.const (.int .i64 10)))]
def S32.r29 : List AOpr := [
  q 142 (.fldA 1 (x 11)),
  q 143 (.ld1 (x 142)),
  q 144 (.lenS (x 143)),
  q 145 (.arith .gtr (x 144) (.const (.int .i64 400))),
  q 146 (.mov (x 145)),
  ⟨some 147, .fldA 3 (x 11), some (146, false)⟩,
  ⟨some 148, .ld1 (x 147), some (146, false)⟩,
  ⟨some 149, .len (x 148), some (146, false)⟩,
  ⟨some 150, .arith .gtr (x 149) (.const (.int .i64 100)), some (146, false)⟩,
  q 151 (.pick (x 146) (.const (.bool true)) (x 150))]
def S32.r30 : List AOpr := [
  q 152 (.mov (x 2)),
  q 6 (.mov (x 152)),
  q 7 (.mov (.const (.int .i64 2)))]
def S32.r31 : List AOpr := [
  q 12 (.mov (.const (.int .i64 0)))]
def S32.r32 : List AOpr := [
  q 153 (.mov (x 12)),
  q 154 (.fldA 3 (x 11)),
  q 155 (.ld1 (x 154)),
  q 156 (.len (x 155)),
  q 157 (.arith .lss (x 153) (x 156))]
def S32.r33 : List AOpr := [
  q 160 (.fldA 3 (x 11)),
  q 161 (.ld1 (x 160)),
  q 162 (.mov (x 12)),
  q 163 (.idxA 4 (x 161) (x 162)),
  q 164 (.ldn 4 (x 163)),
  q 165 (.call (.const (.func (.func 64) [] [])) [.tmp 164]),
  q 13 (.mov (x 165))]
def S32.r34 : List AOpr := [
  q 166 (.mov (x 13)),
  q 167 (.arith .neq (x 166) (.const (.int .i64 0)))]
def S32.r35 : List AOpr := [
  q 168 (.mov (x 2)),
  q 169 (.mov (x 13)),
  q 6 (.mov (x 168)),
  q 7 (.mov (x 169))]
def S32.r36 : List AOpr := [
  q 158 (.mov (x 12)),
  q 159 (.arith .add (x 158) (.const (.int .i64 1))),
  q 12 (.mov (x 159))]
def S32.r37 : List AOpr := [
  q 109 (.mov (x 10)),
  q 110 (.arith .add (x 109) (.const (.int .i64 1))),
  q 10 (.mov (x 110))]
def S32.r38 : List AOpr := [
  q 14 (.mov (.const (.int .i64 0)))]
def S32.r39 : List AOpr := [
  q 170 (.mov (x 14)),
  q 171 (.fldA 4 (x 3)),
  q 172 (.ld1 (x 171)),
  q 173 (.len (x 172)),
  q 174 (.arith .lss (x 170) (x 173))]
def S32.r40 : List AOpr := [
  q 15 (.mov (.const (.int .i64 0)))]
def S32.r41 : List AOpr := [
  q 177 (.mov (x 15)),
  q 178 (.mov (x 14)),
  q 179 (.arith .lss (x 177) (x 178))]
def S32.r42 : List (AOpr × Nat) := [
  (q 182 (.fldA 4 (x 3)), 0),
  (q 183 (.ld1 (x 182)), 1),
  (q 184 (.mov (x 14)), 0),
  (q 185 (.idxA 5 (x 183) (x 184)), 7),
  (q 186 (.fldA 1 (x 185)), 15),
  (q 187 (.ld1 (x 186)), 31),
  (q 188 (.arith .neq (x 187) (.const (.str []))), 63),
  (q 189 (.mov (x 188)), 127),
  (⟨some 190, .fldA 4 (x 3), some (189, true)⟩, 255),
  (⟨some 191, .ld1 (x 190), some (189, true)⟩, 511),
  (⟨some 192, .mov (x 14), some (189, true)⟩, 255),
  (⟨some 193, .idxA 5 (x 191) (x 192), some (189, true)⟩, 2047),
  (⟨some 194, .fldA 1 (x 193), some (189, true)⟩, 4095),
  (⟨some 195, .ld1 (x 194), some (189, true)⟩, 8191),
  (⟨some 196, .fldA 4 (x 3), some (189, true)⟩, 255),
  (⟨some 197, .ld1 (x 196), some (189, true)⟩, 16639),
  (⟨some 198, .mov (x 15), some (189, true)⟩, 255),
  (⟨some 199, .idxA 5 (x 197) (x 198), some (189, true)⟩, 114943),
  (⟨some 200, .fldA 1 (x 199), some (189, true)⟩, 246015),
  (⟨some 201, .ld1 (x 200), some (189, true)⟩, 508159),
  (⟨some 202, .arith .eql (x 195) (x 201), some (189, true)⟩, 1048575),
  (q 203 (.pick (x 189) (x 202) (.const (.bool false))), 2097151)]
def S32.r43 : List AOpr := [
  q 204 (.mov (x 2)),
  q 6 (.mov (x 204)),
  q 7 (.mov (.const (.int .i64 6)))]
def S32.r44 : List AOpr := [
  q 180 (.mov (x 15)),
  q 181 (.arith .add (x 180) (.const (.int .i64 1))),
  q 15 (.mov (x 181))]
def S32.r45 : List AOpr := [
  q 175 (.mov (x 14)),
  q 176 (.arith .add (x 175) (.const (.int .i64 1))),
  q 14 (.mov (x 176))]
def S32.r46 : List AOpr := [
  q 16 (.mov (.const (.int .i64 0)))]
def S32.r47 : List AOpr := [
  q 205 (.mov (x 16)),
  q 206 (.fldA 4 (x 3)),
  q 207 (.ld1 (x 206)),
  q 208 (.len (x 207)),
  q 209 (.arith .lss (x 205) (x 208))]
def S32.r48 : List AOpr := [
  q 213 (.fldA 4 (x 3)),
  q 214 (.ld1 (x 213)),
  q 215 (.mov (x 16)),
  q 216 (.idxA 5 (x 214) (x 215)),
  q 217 (.ldn 5 (x 216)),
  q 218 (.mov (x 1)),
  q 219 (.arith .add (x 218) (.const (.int .i64 1))),
  q 220 (.mov (x 2)),
  q 221 (.call (.const (.func (.func 32) [] [])) [.tmp 217, .tmp 219, .tmp 220]),
  q 212 (.mov (x 221)),
  q 222 (.ext (x 212) 0),
  q 223 (.ext (x 212) 1),
  q 17 (.mov (x 222)),
  q 18 (.mov (x 223))]
def S32.r49 : List AOpr := [
  q 224 (.mov (x 17)),
  q 2 (.mov (x 224))]
def S32.r50 : List AOpr := [
  q 225 (.mov (x 18)),
  q 226 (.arith .neq (x 225) (.const (.int .i64 0)))]
def S32.r51 : List AOpr := [
  q 227 (.mov (x 2)),
  q 228 (.mov (x 18)),
  q 6 (.mov (x 227)),
  q 7 (.mov (x 228))]
def S32.r52 : List AOpr := [
  q 210 (.mov (x 16)),
  q 211 (.arith .add (x 210) (.const (.int .i64 1))),
  q 16 (.mov (x 211))]
def S32.r53 : List AOpr := [
  q 229 (.mov (x 2)),
  q 6 (.mov (x 229)),
  q 7 (.mov (.const (.int .i64 0)))]
def S32 : SFn := ⟨230, [.tmp 6, .tmp 7], .seq (.reg S32.r0) (.seq (.reg S32.r1) (.seq (.seq (.reg S32.r2) (.cond (x 22) (.seq (.reg S32.r3) (.ret)) (.skip))) (.seq (.seq (.reg S32.r4) (.cond (x 25) (.seq (.reg S32.r5) (.ret)) (.skip))) (.seq (.seq (.joinN [1, 2, 3, 34] (.reg S32.r6)) (.cond (x 34) (.seq (.reg S32.r7) (.ret)) (.skip))) (.seq (.seq (.reg S32.r8) (.cond (x 39) (.seq (.reg S32.r9) (.ret)) (.skip))) (.seq (.seq (.joinN [1, 2, 3, 56] (.reg S32.r10)) (.cond (x 56) (.seq (.reg S32.r11) (.ret)) (.skip))) (.seq (.seq (.reg S32.r12) (.block 0 (.loop [1, 2, 3, 8] [1, 2, 3, 6, 7] (.seq (.seq (.reg S32.r13) (.cond (x 62) (.skip) (.exit 0))) (.seq (.block 1 (.seq (.seq (.reg S32.r14) (.cond (x 72) (.seq (.reg S32.r15) (.ret)) (.skip))) (.seq (.seq (.joinN [1, 2, 3, 8, 91] (.draw S32.r16)) (.cond (x 91) (.seq (.reg S32.r17) (.ret)) (.skip))) (.seq (.reg S32.r18) (.seq (.reg S32.r19) (.cond (x 101) (.seq (.reg S32.r20) (.ret)) (.skip))))))) (.reg S32.r21)))))) (.seq (.seq (.reg S32.r22) (.block 2 (.loop [1, 2, 3, 10] [1, 2, 3, 6, 7] (.seq (.seq (.reg S32.r23) (.cond (x 108) (.skip) (.exit 2))) (.seq (.block 3 (.seq (.reg S32.r24) (.seq (.seq (.joinN [1, 2, 3, 10, 11, 125] (.reg S32.r25)) (.cond (x 125) (.seq (.reg S32.r26) (.ret)) (.skip))) (.seq (.seq (.joinN [1, 2, 3, 10, 11, 140] (.draw S32.r27)) (.cond (x 140) (.seq (.reg S32.r28) (.ret)) (.skip))) (.seq (.seq (.joinN [1, 2, 3, 10, 11, 151] (.reg S32.r29)) (.cond (x 151) (.seq (.reg S32.r30) (.ret)) (.skip))) (.seq (.reg S32.r31) (.block 4 (.loop [1, 2, 3, 10, 11, 12] [1, 2, 3, 6, 7, 10] (.seq (.seq (.reg S32.r32) (.cond (x 157) (.skip) (.exit 4))) (.seq (.block 5 (.seq (.reg S32.r33) (.seq (.reg S32.r34) (.cond (x 167) (.seq (.reg S32.r35) (.ret)) (.skip))))) (.reg S32.r36))))))))))) (.reg S32.r37)))))) (.seq (.seq (.reg S32.r38) (.block 6 (.loop [1, 2, 3, 14] [1, 2, 3, 6, 7] (.seq (.seq (.reg S32.r39) (.cond (x 174) (.skip) (.exit 6))) (.seq (.block 7 (.seq (.reg S32.r40) (.block 8 (.loop [1, 2, 3, 14, 15] [1, 2, 3, 6, 7, 14] (.seq (.seq (.reg S32.r41) (.cond (x 179) (.skip) (.exit 8))) (.seq (.block 9 (.seq (.joinN [1, 2, 3, 14, 15, 203] (.draw S32.r42)) (.cond (x 203) (.seq (.reg S32.r43) (.ret)) (.skip)))) (.reg S32.r44))))))) (.reg S32.r45)))))) (.seq (.seq (.reg S32.r46) (.block 10 (.loop [1, 2, 3, 16] [2, 6, 7] (.seq (.seq (.reg S32.r47) (.cond (x 209) (.skip) (.exit 10))) (.seq (.block 11 (.seq (.reg S32.r48) (.seq (.reg S32.r49) (.seq (.reg S32.r50) (.cond (x 226) (.seq (.reg S32.r51) (.ret)) (.skip)))))) (.reg S32.r52)))))) (.seq (.reg S32.r53) (.ret))))))))))))⟩
theorem S32_ok : EOk Tryz.prog 32 S32 := ⟨Tryz.f32, by kernel_rfl, by kernel_rfl, by decide, by kernel_rfl, its_nil (by kernel_rfl)⟩
def o32_a1 (cl : Handler) (N : Nat) (v1 v2 v3 : AV) (h : AH) : Ans :=
  fst (kFldA h 0 v3) fun v27 h =>
  fst (kLd1 h v27) fun v28 h =>
  fst (kArith h .lss v28 (.int .i64 1)) fun v29 h =>
  fgd (gdv false v29) (kFldA h 0 v3) h fun v31 h =>
  fgd (gdv false v29) (kLd1 h v31) h fun v32 h =>
  fgd (gdv false v29) (kArith h .gtr v32 (.int .i64 13)) h fun v33 h =>
  fst (kPick h v29 (.bool true) v33) fun v34 h =>
  some (.nrm, [], [v1, v2, v3, v34], h)
def o32_s1 (cl : Handler) (N : Nat) (v1 v2 v3 v51 v52 : AV) (h : AH) : Ans :=
  fgd (gdv false v51) (kLd1 h v52) h fun v53 h =>
  fgd (gdv false v51) (kLen h v53) h fun v54 h =>
  fgd (gdv false v51) (kArith h .gtr v54 (.int .i64 100)) h fun v55 h =>
  fst (kPick h v51 (.bool true) v55) fun v56 h =>
  some (.nrm, [], [v1, v2, v3, v56], h)
def o32_a2 (cl : Handler) (N : Nat) (v1 v2 v3 : AV) (h : AH) : Ans :=
  fst (kFldA h 2 v3) fun v41 h =>
  fst (kLd1 h v41) fun v42 h =>
  fst (kLen h v42) fun v43 h =>
  fst (kArith h .gtr v43 (.int .i64 24)) fun v44 h =>
  fgd (gdv false v44) (kFldA h 3 v3) h fun v46 h =>
  fgd (gdv false v44) (kLd1 h v46) h fun v47 h =>
  fgd (gdv false v44) (kLen h v47) h fun v48 h =>
  fgd (gdv false v44) (kArith h .gtr v48 (.int .i64 24)) h fun v49 h =>
  fst (kPick h v44 (.bool true) v49) fun v50 h =>
  fgd (gdv false v50) (kFldA h 4 v3) h fun v52 h =>
  o32_s1 cl N v1 v2 v3 v50 v52 h
def o32_s2 (cl : Handler) (N : Nat) (c0 c1 c2 c3 c4 c5 c6 c7 c8 c9 : Rec) (v1 v2 v3 v8 v76 v82 v83 : AV) (h : AH) : Ans :=
  fgq (gdv true v76) (fun k => fdp h (kLd1 h v83) (rdK (rdv v83)) k) h fun v84 c10 h =>
  fgq (gdv true v76) (fun k => fdp h (kMov h v8) .pure k) h fun v85 c11 h =>
  fgq (gdv true v76) (fun k => fdp h (kArith h .sub v85 (.int .i64 1)) .pure k) h fun v86 c12 h =>
  fgq (gdv true v76) (fun k => fdp h (kIdxA h 5 v84 v86) .pure k) h fun v87 c13 h =>
  fgq (gdv true v76) (fun k => fdp h (kFldA h 0 v87) .pure k) h fun v88 c14 h =>
  fgq (gdv true v76) (fun k => fdp h (kLd1 h v88) (rdK (rdv v88)) k) h fun v89 c15 h =>
  fgq (gdv true v76) (fun k => fdp h (kArith h .leq v82 v89) .pure k) h fun v90 c16 h =>
  fdp h (kPick h v76 v90 (.bool false)) .pure fun v91 c17 h =>
  cond (fchk [c0, c1, c2, c3, c4, c5, c6, c7, c8, c9, c10, c11, c12, c13, c14, c15, c16, c17] []) (some (.nrm, [], [v1, v2, v3, v8, v91], h)) none
def o32_a3 (cl : Handler) (N : Nat) (v1 v2 v3 v8 : AV) (h : AH) : Ans :=
  fdr h 18 fun r h =>
  fdp h (kMov h v8) .pure fun v74 c0 h =>
  fdp h (kArith h .gtr v74 (.int .i64 0)) .pure fun v75 c1 h =>
  fdp h (kMov h v75) .pure fun v76 c2 h =>
  fgq (gdv true v76) (fun k => fdp h (kFldA h 2 v3) .pure k) h fun v77 c3 h =>
  fgq (gdv true v76) (fun k => fdp h (kLd1 h v77) (rdK (rdv v77)) k) h fun v78 c4 h =>
  fgq (gdv true v76) (fun k => fdp h (kMov h v8) .pure k) h fun v79 c5 h =>
  fgq (gdv true v76) (fun k => fdp h (kIdxA h 5 v78 v79) .pure k) h fun v80 c6 h =>
  fgq (gdv true v76) (fun k => fdp h (kFldA h 0 v80) .pure k) h fun v81 c7 h =>
  fgq (gdv true v76) (fun k => fdp h (kLd1 h v81) (rdK (rdv v81)) k) h fun v82 c8 h =>
  fgq (gdv true v76) (fun k => fdp h (kFldA h 2 v3) .pure k) h fun v83 c9 h =>
  o32_s2 cl N c0 c1 c2 c3 c4 c5 c6 c7 c8 c9 v1 v2 v3 v8 v76 v82 v83 h
def o32_j4 (cl : Handler) (N : Nat) (v1 v2 v3 v8 v91 : AV) (h : AH) : Ans :=
  fif v91 (
  some (.ret, [v1, v2, v3, v8], [v1, v2, v3, v2, (.int .i64 10)], h)) (
  fst (kFldA h 2 v3) fun v93 h =>
  fst (kLd1 h v93) fun v94 h =>
  fst (kIdxA h 5 v94 v8) fun v96 h =>
  fst (kFldA h 1 v96) fun v97 h =>
  fst (kLdn h 4 v97) fun v98 h =>
  fst (cl 64 [v98] h) fun v99 h =>
  fst (kArith h .neq v99 (.int .i64 0)) fun v101 h =>
  fif v101 (
  some (.ret, [v1, v2, v3, v8], [v1, v2, v3, v2, v99], h)) (
  fst (kArith h .add v8 (.int .i64 1)) fun v64 h =>
  some (.nrm, [v1, v2, v3, v64], [v1, v2, v3, .undef, .undef], h)))
def o32_s3 (cl : Handler) (N : Nat) (v1 v2 v3 v8 v71 : AV) (h : AH) : Ans :=
  fst (kUn h .not v71) fun v72 h =>
  fif v72 (
  some (.ret, [v1, v2, v3, v8], [v1, v2, v3, v2, (.int .i64 4)], h)) (
  fjn (o32_a3 cl N v1 v2 v3 v8 h) fun _ vs h => o32_j4 cl N (nthD vs 0) (nthD vs 1) (nthD vs 2) (nthD vs 3) (nthD vs 4) h)
def o32_l5 (cl : Handler) (N : Nat) (v1 v2 v3 v8 : AV) (h : AH) : Ans :=
  fst (kFldA h 2 v3) fun v59 h =>
  fst (kLd1 h v59) fun v60 h =>
  fst (kLen h v60) fun v61 h =>
  fst (kArith h .lss v8 v61) fun v62 h =>
  fif v62 (
  fst (kFldA h 2 v3) fun v65 h =>
  fst (kLd1 h v65) fun v66 h =>
  fst (kIdxA h 5 v66 v8) fun v68 h =>
  fst (kFldA h 0 v68) fun v69 h =>
  fst (kLd1 h v69) fun v70 h =>
  fst (cl 63 [v70] h) fun v71 h =>
  o32_s3 cl N v1 v2 v3 v8 v71 h) (
  some ((.exit 0), [v1, v2, v3, v8], [v1, v2, v3, .undef, .undef], h))
def o32_a6 (cl : Handler) (N : Nat) (v1 v2 v3 v10 v11 : AV) (h : AH) : Ans :=
  fst (kFldA h 0 v11) fun v116 h =>
  fst (kLd1 h v116) fun v117 h =>
  fst (cl 63 [v117] h) fun v118 h =>
  fst (kUn h .not v118) fun v119 h =>
  fgd (gdv false v119) (kFldA h 2 v11) h fun v121 h =>
  fgd (gdv false v119) (kLd1 h v121) h fun v122 h =>
  fgd (gdv false v119) (cl 63 [v122] h) h fun v123 h =>
  fgd (gdv false v119) (kUn h .not v123) h fun v124 h =>
  fst (kPick h v119 (.bool true) v124) fun v125 h =>
  some (.nrm, [], [v1, v2, v3, v10, v11, v125], h)
def o32_s4 (cl : Handler) (N : Nat) (c0 c1 c2 c3 c4 c5 c6 c7 c8 c9 : Rec) (v1 v2 v3 v10 v11 v129 v131 v136 : AV) (h : AH) : Ans :=
  fgq (gdv true v129) (fun k => fdp h (kFldA h 0 v136) .pure k) h fun v137 c10 h =>
  fgq (gdv true v129) (fun k => fdp h (kLd1 h v137) (rdK (rdv v137)) k) h fun v138 c11 h =>
  fgq (gdv true v129) (fun k => fdp h (kArith h .leq v131 v138) .pure k) h fun v139 c12 h =>
  fdp h (kPick h v129 v139 (.bool false)) .pure fun v140 c13 h =>
  cond (fchk [c0, c1, c2, c3, c4, c5, c6, c7, c8, c9, c10, c11, c12, c13] []) (some (.nrm, [], [v1, v2, v3, v10, v11, v140], h)) none
def o32_a7 (cl : Handler) (N : Nat) (v1 v2 v3 v10 v11 : AV) (h : AH) : Ans :=
  fdr h 14 fun r h =>
  fdp h (kMov h v10) .pure fun v127 c0 h =>
  fdp h (kArith h .gtr v127 (.int .i64 0)) .pure fun v128 c1 h =>
  fdp h (kMov h v128) .pure fun v129 c2 h =>
  fgq (gdv true v129) (fun k => fdp h (kFldA h 0 v11) .pure k) h fun v130 c3 h =>
  fgq (gdv true v129) (fun k => fdp h (kLd1 h v130) (rdK (rdv v130)) k) h fun v131 c4 h =>
  fgq (gdv true v129) (fun k => fdp h (kFldA h 3 v3) .pure k) h fun v132 c5 h =>
  fgq (gdv true v129) (fun k => fdp h (kLd1 h v132) (rdK (rdv v132)) k) h fun v133 c6 h =>
  fgq (gdv true v129) (fun k => fdp h (kMov h v10) .pure k) h fun v134 c7 h =>
  fgq (gdv true v129) (fun k => fdp h (kArith h .sub v134 (.int .i64 1)) .pure k) h fun v135 c8 h =>
  fgq (gdv true v129) (fun k => fdp h (kIdxA h 4 v133 v135) .pure k) h fun v136 c9 h =>
  o32_s4 cl N c0 c1 c2 c3 c4 c5 c6 c7 c8 c9 v1 v2 v3 v10 v11 v129 v131 v136 h
def o32_a8 (cl : Handler) (N : Nat) (v1 v2 v3 v10 v11 : AV) (h : AH) : Ans :=
  fst (kFldA h 1 v11) fun v142 h =>
  fst (kLd1 h v142) fun v143 h =>
  fst (kLenS h v143) fun v144 h =>
  fst (kArith h .gtr v144 (.int .i64 400)) fun v145 h =>
  fgd (gdv false v145) (kFldA h 3 v11) h fun v147 h =>
  fgd (gdv false v145) (kLd1 h v147) h fun v148 h =>
  fgd (gdv false v145) (kLen h v148) h fun v149 h =>
  fgd (gdv false v145) (kArith h .gtr v149 (.int .i64 100)) h fun v150 h =>
  fst (kPick h v145 (.bool true) v150) fun v151 h =>
  some (.nrm, [], [v1, v2, v3, v10, v11, v151], h)
def o32_s5 (cl : Handler) (N : Nat) (v1 v2 v3 v10 v11 v12 v13 : AV) (h : AH) : Ans :=
  some (.ret, [v1, v2, v3, v10, v11, v12], [v1, v2, v3, v2, v13, v10], h)
def o32_s6 (cl : Handler) (N : Nat) (v1 v2 v3 v10 v11 v12 : AV) (h : AH) : Ans :=
  fst (kArith h .add v12 (.int .i64 1)) fun v159 h =>
  some (.nrm, [v1, v2, v3, v10, v11, v159], [v1, v2, v3, .undef, .undef, v10], h)
def o32_l9 (cl : Handler) (N : Nat) (v1 v2 v3 v10 v11 v12 : AV) (h : AH) : Ans :=
  fst (kFldA h 3 v11) fun v154 h =>
  fst (kLd1 h v154) fun v155 h =>
  fst (kLen h v155) fun v156 h =>
  fst (kArith h .lss v12 v156) fun v157 h =>
  fif v157 (
  fst (kFldA h 3 v11) fun v160 h =>
  fst (kLd1 h v160) fun v161 h =>
  fst (kIdxA h 4 v161 v12) fun v163 h =>
  fst (kLdn h 4 v163) fun v164 h =>
  fst (cl 64 [v164] h) fun v165 h =>
  fst (kArith h .neq v165 (.int .i64 0)) fun v167 h =>
  fif v167 (
  o32_s5 cl N v1 v2 v3 v10 v11 v12 v165 h) (
  o32_s6 cl N v1 v2 v3 v10 v11 v12 h)) (
  some ((.exit 4), [v1, v2, v3, v10, v11, v12], [v1, v2, v3, .undef, .undef, v10], h))
def o32_c10 (cl : Handler) (N : Nat) (v1 v2 v3 v6 v7 v10 : AV) (h : AH) : Ans :=
  fst (kArith h .add v10 (.int .i64 1)) fun v110 h =>
  some (.nrm, [v1, v2, v3, v110], [v1, v2, v3, v6, v7], h)
def o32_j11 (cl : Handler) (N : Nat) (x : AX) (v1 v2 v3 v6 v7 v10 : AV) (h : AH) : Ans :=
  fxs x (o32_c10 cl N v1 v2 v3 v6 v7 v10 h) (fun j => cond (Nat.beq j 4) (o32_c10 cl N v1 v2 v3 v6 v7 v10 h) (cond (Nat.beq j 3) (fst (kArith h .add v10 (.int .i64 1)) fun v110 h =>
  some (.nrm, [v1, v2, v3, v110], [v1, v2, v3, v6, v7], h)) (some ((.exit j), [v1, v2, v3, v10], [v1, v2, v3, v6, v7], h)))) (some (.ret, [v1, v2, v3, v10], [v1, v2, v3, v6, v7], h))
def o32_j12 (cl : Handler) (N : Nat) (v1 v2 v3 v10 v11 v151 : AV) (h : AH) : Ans :=
  fif v151 (
  some (.ret, [v1, v2, v3, v10], [v1, v2, v3, v2, (.int .i64 2)], h)) (
  fjn (fiter (fun vs h => o32_l9 cl N (nthD vs 0) (nthD vs 1) (nthD vs 2) (nthD vs 3) (nthD vs 4) (nthD vs 5) h) N [v1, v2, v3, v10, v11, (.int .i64 0)] h) fun x vs h => o32_j11 cl N x (nthD vs 0) (nthD vs 1) (nthD vs 2) (nthD vs 3) (nthD vs 4) (nthD vs 5) h)
def o32_j13 (cl : Handler) (N : Nat) (v1 v2 v3 v10 v11 v140 : AV) (h : AH) : Ans :=
  fif v140 (
  some (.ret, [v1, v2, v3, v10], [v1, v2, v3, v2, (.int .i64 10)], h)) (
  fjn (o32_a8 cl N v1 v2 v3 v10 v11 h) fun _ vs h => o32_j12 cl N (nthD vs 0) (nthD vs 1) (nthD vs 2) (nthD vs 3) (nthD vs 4) (nthD vs 5) h)
def o32_j14 (cl : Handler) (N : Nat) (v1 v2 v3 v10 v11 v125 : AV) (h : AH) : Ans :=
  fif v125 (
  some (.ret, [v1, v2, v3, v10], [v1, v2, v3, v2, (.int .i64 4)], h)) (
  fjn (o32_a7 cl N v1 v2 v3 v10 v11 h) fun _ vs h => o32_j13 cl N (nthD vs 0) (nthD vs 1) (nthD vs 2) (nthD vs 3) (nthD vs 4) (nthD vs 5) h)
def o32_l15 (cl : Handler) (N : Nat) (v1 v2 v3 v10 : AV) (h : AH) : Ans :=
  fst (kFldA h 3 v3) fun v105 h =>
  fst (kLd1 h v105) fun v106 h =>
  fst (kLen h v106) fun v107 h =>
  fst (kArith h .lss v10 v107) fun v108 h =>
  fif v108 (
  fst (kFldA h 3 v3) fun v111 h =>
  fst (kLd1 h v111) fun v112 h =>
  fst (kIdxA h 4 v112 v10) fun v114 h =>
  fst (kLdn h 4 v114) fun v115 h =>
  fst (kNew h S32.z0) fun v11 h =>
  fst (kSt h 4 v11 v115) fun _ h =>
  fjn (o32_a6 cl N v1 v2 v3 v10 v11 h) fun _ vs h => o32_j14 cl N (nthD vs 0) (nthD vs 1) (nthD vs 2) (nthD vs 3) (nthD vs 4) (nthD vs 5) h) (
  some ((.exit 2), [v1, v2, v3, v10], [v1, v2, v3, .undef, .undef], h))
def o32_s7 (cl : Handler) (N : Nat) (c0 c1 c2 c3 c4 c5 c6 c7 c8 c9 c10 c11 c12 c13 c14 c15 c16 c17 c18 c19 : Rec) (v1 v2 v3 v14 v15 v189 v195 v201 : AV) (h : AH) : Ans :=
  fgq (gdv true v189) (fun k => fdp h (kArith h .eql v195 v201) .pure k) h fun v202 c20 h =>
  fdp h (kPick h v189 v202 (.bool false)) .pure fun v203 c21 h =>
  cond (fchk [c0, c1, c2, c3, c4, c5, c6, c7, c8, c9, c10, c11, c12, c13, c14, c15, c16, c17, c18, c19, c20, c21] []) (some (.nrm, [], [v1, v2, v3, v14, v15, v203], h)) none
def o32_s8 (cl : Handler) (N : Nat) (c0 c1 c2 c3 c4 c5 c6 c7 c8 c9 : Rec) (v1 v2 v3 v14 v15 v189 v191 : AV) (h : AH) : Ans :=
  fgq (gdv true v189) (fun k => fdp h (kMov h v14) .pure k) h fun v192 c10 h =>
  fgq (gdv true v189) (fun k => fdp h (kIdxA h 5 v191 v192) .pure k) h fun v193 c11 h =>
  fgq (gdv true v189) (fun k => fdp h (kFldA h 1 v193) .pure k) h fun v194 c12 h =>
  fgq (gdv true v189) (fun k => fdp h (kLd1 h v194) (rdK (rdv v194)) k) h fun v195 c13 h =>
  fgq (gdv true v189) (fun k => fdp h (kFldA h 4 v3) .pure k) h fun v196 c14 h =>
  fgq (gdv true v189) (fun k => fdp h (kLd1 h v196) (rdK (rdv v196)) k) h fun v197 c15 h =>
  fgq (gdv true v189) (fun k => fdp h (kMov h v15) .pure k) h fun v198 c16 h =>
  fgq (gdv true v189) (fun k => fdp h (kIdxA h 5 v197 v198) .pure k) h fun v199 c17 h =>
  fgq (gdv true v189) (fun k => fdp h (kFldA h 1 v199) .pure k) h fun v200 c18 h =>
  fgq (gdv true v189) (fun k => fdp h (kLd1 h v200) (rdK (rdv v200)) k) h fun v201 c19 h =>
  o32_s7 cl N c0 c1 c2 c3 c4 c5 c6 c7 c8 c9 c10 c11 c12 c13 c14 c15 c16 c17 c18 c19 v1 v2 v3 v14 v15 v189 v195 v201 h
def o32_a16 (cl : Handler) (N : Nat) (v1 v2 v3 v14 v15 : AV) (h : AH) : Ans :=
  fdr h 22 fun r h =>
  fdp h (kFldA h 4 v3) .pure fun v182 c0 h =>
  fdp h (kLd1 h v182) (rdK (rdv v182)) fun v183 c1 h =>
  fdp h (kMov h v14) .pure fun v184 c2 h =>
  fdp h (kIdxA h 5 v183 v184) .pure fun v185 c3 h =>
  fdp h (kFldA h 1 v185) .pure fun v186 c4 h =>
  fdp h (kLd1 h v186) (rdK (rdv v186)) fun v187 c5 h =>
  fdp h (kArith h .neq v187 (.str [])) .pure fun v188 c6 h =>
  fdp h (kMov h v188) .pure fun v189 c7 h =>
  fgq (gdv true v189) (fun k => fdp h (kFldA h 4 v3) .pure k) h fun v190 c8 h =>
  fgq (gdv true v189) (fun k => fdp h (kLd1 h v190) (rdK (rdv v190)) k) h fun v191 c9 h =>
  o32_s8 cl N c0 c1 c2 c3 c4 c5 c6 c7 c8 c9 v1 v2 v3 v14 v15 v189 v191 h
def o32_j17 (cl : Handler) (N : Nat) (v1 v2 v3 v14 v15 v203 : AV) (h : AH) : Ans :=
  fif v203 (
  some (.ret, [v1, v2, v3, v14, v15], [v1, v2, v3, v2, (.int .i64 6), v14], h)) (
  fst (kArith h .add v15 (.int .i64 1)) fun v181 h =>
  some (.nrm, [v1, v2, v3, v14, v181], [v1, v2, v3, .undef, .undef, v14], h))
def o32_l18 (cl : Handler) (N : Nat) (v1 v2 v3 v14 v15 : AV) (h : AH) : Ans :=
  fst (kArith h .lss v15 v14) fun v179 h =>
  fif v179 (
  fjn (o32_a16 cl N v1 v2 v3 v14 v15 h) fun _ vs h => o32_j17 cl N (nthD vs 0) (nthD vs 1) (nthD vs 2) (nthD vs 3) (nthD vs 4) (nthD vs 5) h) (
  some ((.exit 8), [v1, v2, v3, v14, v15], [v1, v2, v3, .undef, .undef, v14], h))
def o32_c19 (cl : Handler) (N : Nat) (v1 v2 v3 v6 v7 v14 : AV) (h : AH) : Ans :=
  fst (kArith h .add v14 (.int .i64 1)) fun v176 h =>
  some (.nrm, [v1, v2, v3, v176], [v1, v2, v3, v6, v7], h)
def o32_j20 (cl : Handler) (N : Nat) (x : AX) (v1 v2 v3 v6 v7 v14 : AV) (h : AH) : Ans :=
  fxs x (o32_c19 cl N v1 v2 v3 v6 v7 v14 h) (fun j => cond (Nat.beq j 8) (o32_c19 cl N v1 v2 v3 v6 v7 v14 h) (cond (Nat.beq j 7) (fst (kArith h .add v14 (.int .i64 1)) fun v176 h =>
  some (.nrm, [v1, v2, v3, v176], [v1, v2, v3, v6, v7], h)) (some ((.exit j), [v1, v2, v3, v14], [v1, v2, v3, v6, v7], h)))) (some (.ret, [v1, v2, v3, v14], [v1, v2, v3, v6, v7], h))
def o32_l21 (cl : Handler) (N : Nat) (v1 v2 v3 v14 : AV) (h : AH) : Ans :=
  fst (kFldA h 4 v3) fun v171 h =>
  fst (kLd1 h v171) fun v172 h =>
  fst (kLen h v172) fun v173 h =>
  fst (kArith h .lss v14 v173) fun v174 h =>
  fif v174 (
  fjn (fiter (fun vs h => o32_l18 cl N (nthD vs 0) (nthD vs 1) (nthD vs 2) (nthD vs 3) (nthD vs 4) h) N [v1, v2, v3, v14, (.int .i64 0)] h) fun x vs h => o32_j20 cl N x (nthD vs 0) (nthD vs 1) (nthD vs 2) (nthD vs 3) (nthD vs 4) (nthD vs 5) h) (
  some ((.exit 6), [v1, v2, v3, v14], [v1, v2, v3, .undef, .undef], h))
def o32_s9 (cl : Handler) (N : Nat) (v1 v3 v16 v221 : AV) (h : AH) : Ans :=
  fst (kExt h v221 0) fun v222 h =>
  fst (kExt h v221 1) fun v223 h =>
  fst (kArith h .neq v223 (.int .i64 0)) fun v226 h =>
  fif v226 (
  some (.ret, [v1, v222, v3, v16], [v222, v222, v223], h)) (
  fst (kArith h .add v16 (.int .i64 1)) fun v211 h =>
  some (.nrm, [v1, v222, v3, v211], [v222, .undef, .undef], h))
def o32_l22 (cl : Handler) (N : Nat) (v1 v2 v3 v16 : AV) (h : AH) : Ans :=
  fst (kFldA h 4 v3) fun v206 h =>
  fst (kLd1 h v206) fun v207 h =>
  fst (kLen h v207) fun v208 h =>
  fst (kArith h .lss v16 v208) fun v209 h =>
  fif v209 (
  fst (kFldA h 4 v3) fun v213 h =>
  fst (kLd1 h v213) fun v214 h =>
  fst (kIdxA h 5 v214 v16) fun v216 h =>
  fst (kLdn h 5 v216) fun v217 h =>
  fst (kArith h .add v1 (.int .i64 1)) fun v219 h =>
  fst (cl 32 [v217, v219, v2] h) fun v221 h =>
  o32_s9 cl N v1 v3 v16 v221 h) (
  some ((.exit 10), [v1, v2, v3, v16], [v2, .undef, .undef], h))
def o32_c23 (cl : Handler) (N : Nat) (v2 : AV) (h : AH) : Ans :=
  some (.nrm, [], [.tup [v2, (.int .i64 0)]], h)
def o32_j24 (cl : Handler) (N : Nat) (x : AX) (v2 v6 v7 : AV) (h : AH) : Ans :=
  fxs x (o32_c23 cl N v2 h) (fun j => cond (Nat.beq j 10) (o32_c23 cl N v2 h) (none)) (some (.nrm, [], [.tup [v6, v7]], h))
def o32_c25 (cl : Handler) (N : Nat) (v1 v2 v3 : AV) (h : AH) : Ans :=
  fjn (fiter (fun vs h => o32_l22 cl N (nthD vs 0) (nthD vs 1) (nthD vs 2) (nthD vs 3) h) N [v1, v2, v3, (.int .i64 0)] h) fun x vs h => o32_j24 cl N x (nthD vs 0) (nthD vs 1) (nthD vs 2) h
def o32_j26 (cl : Handler) (N : Nat) (x : AX) (v1 v2 v3 v6 v7 : AV) (h : AH) : Ans :=
  fxs x (o32_c25 cl N v1 v2 v3 h) (fun j => cond (Nat.beq j 6) (o32_c25 cl N v1 v2 v3 h) (none)) (some (.nrm, [], [.tup [v6, v7]], h))
def o32_c27 (cl : Handler) (N : Nat) (v1 v2 v3 : AV) (h : AH) : Ans :=
  fjn (fiter (fun vs h => o32_l21 cl N (nthD vs 0) (nthD vs 1) (nthD vs 2) (nthD vs 3) h) N [v1, v2, v3, (.int .i64 0)] h) fun x vs h => o32_j26 cl N x (nthD vs 0) (nthD vs 1) (nthD vs 2) (nthD vs 3) (nthD vs 4) h
def o32_j28 (cl : Handler) (N : Nat) (x : AX) (v1 v2 v3 v6 v7 : AV) (h : AH) : Ans :=
  fxs x (o32_c27 cl N v1 v2 v3 h) (fun j => cond (Nat.beq j 2) (o32_c27 cl N v1 v2 v3 h) (none)) (some (.nrm, [], [.tup [v6, v7]], h))
def o32_c29 (cl : Handler) (N : Nat) (v1 v2 v3 : AV) (h : AH) : Ans :=
  fjn (fiter (fun vs h => o32_l15 cl N (nthD vs 0) (nthD vs 1) (nthD vs 2) (nthD vs 3) h) N [v1, v2, v3, (.int .i64 0)] h) fun x vs h => o32_j28 cl N x (nthD vs 0) (nthD vs 1) (nthD vs 2) (nthD vs 3) (nthD vs 4) h
def o32_j30 (cl : Handler) (N : Nat) (x : AX) (v1 v2 v3 v6 v7 : AV) (h : AH) : Ans :=
  fxs x (o32_c29 cl N v1 v2 v3 h) (fun j => cond (Nat.beq j 0) (o32_c29 cl N v1 v2 v3 h) (none)) (some (.nrm, [], [.tup [v6, v7]], h))
def o32_j31 (cl : Handler) (N : Nat) (v1 v2 v3 v56 : AV) (h : AH) : Ans :=
  fif v56 (
  some (.nrm, [], [.tup [v2, (.int .i64 2)]], h)) (
  fjn (fiter (fun vs h => o32_l5 cl N (nthD vs 0) (nthD vs 1) (nthD vs 2) (nthD vs 3) h) N [v1, v2, v3, (.int .i64 0)] h) fun x vs h => o32_j30 cl N x (nthD vs 0) (nthD vs 1) (nthD vs 2) (nthD vs 3) (nthD vs 4) h)
def o32_j32 (cl : Handler) (N : Nat) (v1 v2 v3 v34 : AV) (h : AH) : Ans :=
  fif v34 (
  some (.nrm, [], [.tup [v2, (.int .i64 9)]], h)) (
  fst (kFldA h 1 v3) fun v36 h =>
  fst (kLd1 h v36) fun v37 h =>
  fst (cl 62 [v37] h) fun v38 h =>
  fst (kUn h .not v38) fun v39 h =>
  fif v39 (
  some (.nrm, [], [.tup [v2, (.int .i64 4)]], h)) (
  fjn (o32_a2 cl N v1 v2 v3 h) fun _ vs h => o32_j31 cl N (nthD vs 0) (nthD vs 1) (nthD vs 2) (nthD vs 3) h))
def o32 (cl : Handler) (N : Nat) (v0 v1 v2 : AV) (h : AH) : Ans :=
  fst (kBox h v0) fun v3 h =>
  fst (kArith h .add v2 (.int .i64 1)) fun v20 h =>
  fst (kArith h .gtr v1 (.int .i64 16)) fun v22 h =>
  fif v22 (
  some (.nrm, [], [.tup [v20, (.int .i64 8)]], h)) (
  fst (kArith h .gtr v20 (.int .i64 400)) fun v25 h =>
  fif v25 (
  some (.nrm, [], [.tup [v20, (.int .i64 2)]], h)) (
  fjn (o32_a1 cl N v1 v20 v3 h) fun _ vs h => o32_j32 cl N (nthD vs 0) (nthD vs 1) (nthD vs 2) (nthD vs 3) h))
theorem o32_eq (cl : Handler) (N : Nat) (v0 v1 v2 : AV) (h : AH) : frun cl N S32 [v0, v1, v2] h = fans (o32 cl N v0 v1 v2 h) := by kernel_rfl
def w32 (N : Nat) : OF := fun cl args h => match args with
  | [v0, v1, v2] => fans (o32 cl N v0 v1 v2 h)
  | _ => none
theorem w32_ok (N : Nat) : OkF Tryz.prog 32 (w32 N) := .of (N := N) (S32_ok) fun cl args h r hr => by
  unfold w32 at hr
  split at hr
  · exact (o32_eq cl N _ _ _ _).trans hr
  · cases hr

def S33.z0 : List AV := [.int .i64 0, .int .i64 0, .nilsl, .nilsl, .nilsl, .nilsl]
/- widgetry/widgetryref29.Look -/
def S33.r0 : List AOpr := [
  q 2 (.box (x 0)),
  q 4 (.new S33.z0)]
def S33.r1 : List (AOpr × Nat) := [
  (q 8 (.ldn 3 (x 2)), 0),
  (q 9 (.mov (x 1)), 0),
  (q 10 (.ldn 3 (x 2)), 0),
  (q 11 (.call (.const (.func (.func 65) [] [])) [.tmp 10]), 4),
  (q 12 (.build S33.z0 [(0, 3, .tmp 8), (3, 1, .tmp 9), (4, 1, .tmp 11)]), 15),
  (q 5 (.new S33.z0), 0),
  (⟨none, .st 6 (x 5) (x 12), none⟩, 63)]
def S33.r2 : List AOpr := [
  q 13 (.ldn 3 (x 2)),
  q 14 (.mov (x 1)),
  q 15 (.call (.const (.func (.func 15) [] [])) [.tmp 13, .tmp 14]),
  q 6 (.mov (x 15))]
def S33.r3 : List AOpr := [
  q 7 (.mov (.const (.int .i64 0)))]
def S33.r4 : List AOpr := [
  q 16 (.mov (x 7)),
  q 17 (.mov (x 6)),
  q 18 (.len (x 17)),
  q 19 (.arith .lss (x 16) (x 18))]
def S33.r5 : List AOpr := [
  q 22 (.mov (x 1)),
  q 23 (.mov (x 6)),
  q 24 (.mov (x 7)),
  q 25 (.idxA 1 (x 23) (x 24)),
  q 26 (.ld1 (x 25)),
  q 27 (.call (.const (.func (.func 66) [] [])) [.tmp 22, .tmp 26]),
  q 28 (.idx 22 1 none (x 27) (.const (.int .i64 21))),
  q 29 (.arith .eql (x 28) (.const (.int .i64 0)))]
def S33.r6 : List (AOpr × Nat) := [
  (q 30 (.fldA 5 (x 5)), 0),
  (q 31 (.ld1 (x 30)), 1),
  (q 32 (.mov (x 6)), 0),
  (q 33 (.mov (x 7)), 0),
  (q 34 (.idxA 1 (x 32) (x 33)), 12),
  (q 35 (.ld1 (x 34)), 28),
  (q 36 (.buildSl 1 1 [.int .i64 0] [(0, 1, .tmp 35)]), 60),
  (q 37 (.app 1 8 (x 31) (x 36)), 127),
  (q 38 (.fldA 5 (x 5)), 255),
  (⟨none, .st 1 (x 38) (x 37), none⟩, 511)]
def S33.r7 : List AOpr := [
  q 20 (.mov (x 7)),
  q 21 (.arith .add (x 20) (.const (.int .i64 1))),
  q 7 (.mov (x 21))]
def S33.r8 : List AOpr := [
  q 39 (.ldn 6 (x 5)),
  ⟨none, .st 6 (x 4) (x 39), none⟩]
def S33 : SFn := ⟨40, [.cell 4 (some 6)], .seq (.reg S33.r0) (.seq (.draw S33.r1) (.seq (.reg S33.r2) (.seq (.seq (.reg S33.r3) (.block 0 (.loop [1, 4, 5, 6, 7] [4, 5] (.seq (.seq (.reg S33.r4) (.cond (x 19) (.skip) (.exit 0))) (.seq (.joinN [1, 4, 5, 6, 7] (.block 1 (.seq (.reg S33.r5) (.cond (x 29) (.draw S33.r6) (.skip))))) (.reg S33.r7)))))) (.seq (.reg S33.r8) (.ret)))))⟩
theorem S33_ok : EOk Tryz.prog 33 S33 := ⟨Tryz.f33, by kernel_rfl, by kernel_rfl, by decide, by kernel_rfl, its_nil (by kernel_rfl)⟩
def o33_s1 (cl : Handler) (N : Nat) (r : Nat) (c0 c1 c2 c3 c4 : Rec) (v1 v4 v5 v6 v7 v31 v34 : AV) (h : AH) : Ans :=
  fdp h (kLd1 h v34) (rdK (rdv v34)) fun v35 c5 h =>
  fda (r + 6) h (alBuildSl 1 1 [.int .i64 0] [(0, 1, v35)]) fun v36 c6 h =>
  fde h (kApp h 1 8 v31 v36) fun v37 c7 h =>
  fdp h (kFldA h 5 v5) .pure fun v38 c8 h =>
  fde h (kSt h 1 v38 v37) fun _ c9 h =>
  cond (fchk [c0, c1, c2, c3, c4, c5, c6, c7, c8, c9] [(1, 6)]) (some (.nrm, [], [v1, v4, v5, v6, v7], h)) none
def o33_a1 (cl : Handler) (N : Nat) (v1 v4 v5 v6 v7 : AV) (h : AH) : Ans :=
  fst (kIdxA h 1 v6 v7) fun v25 h =>
  fst (kLd1 h v25) fun v26 h =>
  fst (cl 66 [v1, v26] h) fun v27 h =>
  fst (kIdx h 22 1 none v27 (.int .i64 21)) fun v28 h =>
  fst (kArith h .eql v28 (.int .i64 0)) fun v29 h =>
  fif v29 (
  fdr h 10 fun r h =>
  fdp h (kFldA h 5 v5) .pure fun v30 c0 h =>
  fdp h (kLd1 h v30) (rdK (rdv v30)) fun v31 c1 h =>
  fdp h (kMov h v6) .pure fun v32 c2 h =>
  fdp h (kMov h v7) .pure fun v33 c3 h =>
  fdp h (kIdxA h 1 v32 v33) .pure fun v34 c4 h =>
  o33_s1 cl N r c0 c1 c2 c3 c4 v1 v4 v5 v6 v7 v31 v34 h) (
  some (.nrm, [], [v1, v4, v5, v6, v7], h))
def o33_j2 (cl : Handler) (N : Nat) (v1 v4 v5 v6 v7 : AV) (h : AH) : Ans :=
  fst (kArith h .add v7 (.int .i64 1)) fun v21 h =>
  some (.nrm, [v1, v4, v5, v6, v21], [v4, v5], h)
def o33_l3 (cl : Handler) (N : Nat) (v1 v4 v5 v6 v7 : AV) (h : AH) : Ans :=
  fst (kLen h v6) fun v18 h =>
  fst (kArith h .lss v7 v18) fun v19 h =>
  fif v19 (
  fjn (o33_a1 cl N v1 v4 v5 v6 v7 h) fun _ vs h => o33_j2 cl N (nthD vs 0) (nthD vs 1) (nthD vs 2) (nthD vs 3) (nthD vs 4) h) (
  some ((.exit 0), [v1, v4, v5, v6, v7], [v4, v5], h))
def o33_c4 (cl : Handler) (N : Nat) (v4 v5 : AV) (h : AH) : Ans :=
  fst (kLdn h 6 v5) fun v39 h =>
  fst (kSt h 6 v4 v39) fun _ h =>
  fres (aresV h [.cell (v4) (some 6)]) h
def o33_j5 (cl : Handler) (N : Nat) (x : AX) (v4 v5 : AV) (h : AH) : Ans :=
  fxs x (o33_c4 cl N v4 v5 h) (fun j => cond (Nat.beq j 0) (o33_c4 cl N v4 v5 h) (none)) (fres (aresV h [.cell (v4) (some 6)]) h)
def o33_s2 (cl : Handler) (N : Nat) (v1 v4 v5 v13 : AV) (h : AH) : Ans :=
  fst (cl 15 [v13, v1] h) fun v15 h =>
  fjn (fiter (fun vs h => o33_l3 cl N (nthD vs 0) (nthD vs 1) (nthD vs 2) (nthD vs 3) (nthD vs 4) h) N [v1, v4, v5, v15, (.int .i64 0)] h) fun x vs h => o33_j5 cl N x (nthD vs 0) (nthD vs 1) h
def o33 (cl : Handler) (N : Nat) (v0 v1 : AV) (h : AH) : Ans :=
  fst (kBox h v0) fun v2 h =>
  fst (kNew h S33.z0) fun v4 h =>
  fdr h 7 fun r h =>
  fdp h (kLdn h 3 v2) (rdK (rdv v2)) fun v8 c0 h =>
  fdp h (kMov h v1) .pure fun v9 c1 h =>
  fdp h (kLdn h 3 v2) (rdK (rdv v2)) fun v10 c2 h =>
  fde h (cl 65 [v10] h) fun v11 c3 h =>
  fdp h (kBuild h S33.z0 [(0, 3, v8), (3, 1, v9), (4, 1, v11)]) .pure fun v12 c4 h =>
  fda (r + 5) h (alNew S33.z0) fun v5 c5 h =>
  fde h (kSt h 6 v5 v12) fun _ c6 h =>
  cond (fchk [c0, c1, c2, c3, c4, c5, c6] [(0, 3), (0, 5), (2, 5)]) (fst (kLdn h 3 v2) fun v13 h =>
  o33_s2 cl N v1 v4 v5 v13 h) none
theorem o33_eq (cl : Handler) (N : Nat) (v0 v1 : AV) (h : AH) : frun cl N S33 [v0, v1] h = fans (o33 cl N v0 v1 h) := by kernel_rfl
def w33 (N : Nat) : OF := fun cl args h => match args with
  | [v0, v1] => fans (o33 cl N v0 v1 h)
  | _ => none
theorem w33_ok (N : Nat) : OkF Tryz.prog 33 (w33 N) := .of (N := N) (S33_ok) fun cl args h r hr => by
  unfold w33 at hr
  split at hr
  · exact (o33_eq cl N _ _ _).trans hr
  · cases hr

def S34.z0 : List AV := [.int .i64 0, .int .i64 0, .int .i64 0, .str [], .nilsl, .nilsl, .nilsl]
/- widgetry/widgetryref31.Listed -/
def S34.r0 : List AOpr := [
  q 1 (.box (x 0)),
  q 2 (.mov (.const (.nilsl)))]
def S34.r1 : List AOpr := [
  q 3 (.mov (.const (.nilsl)))]
def S34.r2 : List AOpr := [
  q 4 (.mov (.const (.int .i64 0)))]
def S34.r3 : List AOpr := [
  q 8 (.mov (x 4)),
  q 9 (.fldA 4 (x 1)),
  q 10 (.ld1 (x 9)),
  q 11 (.len (x 10)),
  q 12 (.arith .lss (x 8) (x 11))]
def S34.r4 : List (AOpr × Nat) := [
  (q 16 (.fldA 0 (x 1)), 0),
  (q 17 (.ldn 3 (x 16)), 1),
  (q 18 (.fldA 4 (x 1)), 0),
  (q 19 (.ld1 (x 18)), 4),
  (q 20 (.mov (x 4)), 0),
  (q 21 (.idxA 1 (x 19) (x 20)), 28),
  (q 22 (.ld1 (x 21)), 60),
  (q 23 (.call (.const (.func (.func 16) [] [])) [.tmp 17, .tmp 22]), 127),
  (q 15 (.mov (x 23)), 255),
  (q 24 (.ext (x 15) 0), 511),
  (q 25 (.ext (x 15) 1), 511),
  (q 5 (.new S34.z0), 0),
  (⟨none, .st 7 (x 5) (x 24), none⟩, 3071),
  (q 6 (.mov (x 25)), 8191)]
def S34.r5 : List AOpr := [
  q 26 (.ldn 7 (x 5)),
  q 27 (.call (.const (.func (.func 67) [] [])) [.tmp 26]),
  q 28 (.mov (x 27)),
  ⟨some 29, .fldA 2 (x 5), some (28, false)⟩,
  ⟨some 30, .ld1 (x 29), some (28, false)⟩,
  ⟨some 31, .arith .eql (x 30) (.const (.int .i64 4)), some (28, false)⟩,
  q 32 (.pick (x 28) (.const (.bool true)) (x 31)),
  q 33 (.mov (x 32)),
  ⟨some 34, .fldA 2 (x 5), some (33, false)⟩,
  ⟨some 35, .ld1 (x 34), some (33, false)⟩,
  ⟨some 36, .arith .eql (x 35) (.const (.int .i64 13)), some (33, false)⟩,
  q 37 (.pick (x 33) (.const (.bool true)) (x 36)),
  q 38 (.mov (x 37)),
  ⟨some 39, .fldA 4 (x 5), some (38, false)⟩,
  ⟨some 40, .ld1 (x 39), some (38, false)⟩,
  ⟨some 41, .call (.const (.func (.func 45) [] [])) [.tmp 40, .const (.str [102, 111, 99, 117, 115, 97, 98, 108, 101])], some (38, false)⟩,
  q 42 (.pick (x 38) (.const (.bool true)) (x 41)),
  q 7 (.mov (x 42))]
def S34.r6 : List AOpr := [
  q 43 (.mov (x 7)),
  q 44 (.mov (x 43)),
  ⟨some 45, .fldA 5 (x 1), some (44, true)⟩,
  ⟨some 46, .ld1 (x 45), some (44, true)⟩,
  ⟨some 47, .fldA 0 (x 5), some (44, true)⟩,
  ⟨some 48, .ld1 (x 47), some (44, true)⟩,
  ⟨some 49, .call (.const (.func (.func 68) [] [])) [.tmp 46, .tmp 48], some (44, true)⟩,
  q 50 (.pick (x 44) (x 49) (.const (.bool false))),
  q 51 (.mov (x 50)),
  ⟨some 52, .ldn 6 (x 1), some (51, true)⟩,
  ⟨some 53, .fldA 0 (x 5), some (51, true)⟩,
  ⟨some 54, .ld1 (x 53), some (51, true)⟩,
  ⟨some 55, .call (.const (.func (.func 49) [] [])) [.tmp 52, .tmp 54], some (51, true)⟩,
  ⟨some 56, .un .not (x 55), some (51, true)⟩,
  q 57 (.pick (x 51) (x 56) (.const (.bool false))),
  q 58 (.mov (x 57)),
  ⟨some 59, .ldn 6 (x 1), some (58, true)⟩,
  ⟨some 60, .fldA 0 (x 5), some (58, true)⟩,
  ⟨some 61, .ld1 (x 60), some (58, true)⟩,
  ⟨some 62, .call (.const (.func (.func 69) [] [])) [.tmp 59, .tmp 61], some (58, true)⟩,
  q 63 (.pick (x 58) (x 62) (.const (.bool false)))]
def S34.r7 : List AOpr := [
  q 64 (.mov (x 3)),
  q 65 (.fldA 0 (x 5)),
  q 66 (.ld1 (x 65)),
  q 67 (.buildSl 1 1 [.int .i64 0] [(0, 1, .tmp 66)]),
  q 68 (.app 1 8 (x 64) (x 67)),
  q 3 (.mov (x 68))]
def S34.r8 : List AOpr := [
  q 13 (.mov (x 4)),
  q 14 (.arith .add (x 13) (.const (.int .i64 1))),
  q 4 (.mov (x 14))]
def S34.r9 : List AOpr := [
  q 69 (.mov (x 3)),
  q 2 (.mov (x 69))]
def S34 : SFn := ⟨70, [.tmp 2], .seq (.reg S34.r0) (.seq (.reg S34.r1) (.seq (.seq (.reg S34.r2) (.block 0 (.loop [1, 3, 4] [3] (.seq (.seq (.reg S34.r3) (.cond (x 12) (.skip) (.exit 0))) (.seq (.joinN [1, 3, 4] (.block 1 (.seq (.draw S34.r4) (.seq (.joinN [1, 3, 4, 5, 7] (.reg S34.r5)) (.seq (.joinN [1, 3, 4, 5, 63] (.reg S34.r6)) (.cond (x 63) (.reg S34.r7) (.skip))))))) (.reg S34.r8)))))) (.seq (.reg S34.r9) (.ret))))⟩
theorem S34_ok : EOk Tryz.prog 34 S34 := ⟨Tryz.f34, by kernel_rfl, by kernel_rfl, by decide, by kernel_rfl, its_nil (by kernel_rfl)⟩
def o34_s1 (cl : Handler) (N : Nat) (v1 v3 v4 v5 v37 : AV) (h : AH) : Ans :=
  fgd (gdv false v37) (kFldA h 4 v5) h fun v39 h =>
  fgd (gdv false v37) (kLd1 h v39) h fun v40 h =>
  fgd (gdv false v37) (cl 45 [v40, (.str [102, 111, 99, 117, 115, 97, 98, 108, 101])] h) h fun v41 h =>
  fst (kPick h v37 (.bool true) v41) fun v42 h =>
  some (.nrm, [], [v1, v3, v4, v5, v42], h)
def o34_a1 (cl : Handler) (N : Nat) (v1 v3 v4 v5 : AV) (h : AH) : Ans :=
  fst (kLdn h 7 v5) fun v26 h =>
  fst (cl 67 [v26] h) fun v27 h =>
  fgd (gdv false v27) (kFldA h 2 v5) h fun v29 h =>
  fgd (gdv false v27) (kLd1 h v29) h fun v30 h =>
  fgd (gdv false v27) (kArith h .eql v30 (.int .i64 4)) h fun v31 h =>
  fst (kPick h v27 (.bool true) v31) fun v32 h =>
  fgd (gdv false v32) (kFldA h 2 v5) h fun v34 h =>
  fgd (gdv false v32) (kLd1 h v34) h fun v35 h =>
  fgd (gdv false v32) (kArith h .eql v35 (.int .i64 13)) h fun v36 h =>
  fst (kPick h v32 (.bool true) v36) fun v37 h =>
  o34_s1 cl N v1 v3 v4 v5 v37 h
def o34_s2 (cl : Handler) (N : Nat) (v1 v3 v4 v5 v51 v55 : AV) (h : AH) : Ans :=
  fgd (gdv true v51) (kUn h .not v55) h fun v56 h =>
  fst (kPick h v51 v56 (.bool false)) fun v57 h =>
  fgd (gdv true v57) (kLdn h 6 v1) h fun v59 h =>
  fgd (gdv true v57) (kFldA h 0 v5) h fun v60 h =>
  fgd (gdv true v57) (kLd1 h v60) h fun v61 h =>
  fgd (gdv true v57) (cl 69 [v59, v61] h) h fun v62 h =>
  fst (kPick h v57 v62 (.bool false)) fun v63 h =>
  some (.nrm, [], [v1, v3, v4, v5, v63], h)
def o34_a2 (cl : Handler) (N : Nat) (v1 v3 v4 v5 v7 : AV) (h : AH) : Ans :=
  fgd (gdv true v7) (kFldA h 5 v1) h fun v45 h =>
  fgd (gdv true v7) (kLd1 h v45) h fun v46 h =>
  fgd (gdv true v7) (kFldA h 0 v5) h fun v47 h =>
  fgd (gdv true v7) (kLd1 h v47) h fun v48 h =>
  fgd (gdv true v7) (cl 68 [v46, v48] h) h fun v49 h =>
  fst (kPick h v7 v49 (.bool false)) fun v50 h =>
  fgd (gdv true v50) (kLdn h 6 v1) h fun v52 h =>
  fgd (gdv true v50) (kFldA h 0 v5) h fun v53 h =>
  fgd (gdv true v50) (kLd1 h v53) h fun v54 h =>
  fgd (gdv true v50) (cl 49 [v52, v54] h) h fun v55 h =>
  o34_s2 cl N v1 v3 v4 v5 v50 v55 h
def o34_j3 (cl : Handler) (N : Nat) (v1 v3 v4 v5 v63 : AV) (h : AH) : Ans :=
  fif v63 (
  fst (kFldA h 0 v5) fun v65 h =>
  fst (kLd1 h v65) fun v66 h =>
  fst (kBuildSl h 1 1 [.int .i64 0] [(0, 1, v66)]) fun v67 h =>
  fst (kApp h 1 8 v3 v67) fun v68 h =>
  some (.nrm, [], [v1, v68, v4], h)) (
  some (.nrm, [], [v1, v3, v4], h))
def o34_j4 (cl : Handler) (N : Nat) (v1 v3 v4 v5 v7 : AV) (h : AH) : Ans :=
  fjn (o34_a2 cl N v1 v3 v4 v5 v7 h) fun _ vs h => o34_j3 cl N (nthD vs 0) (nthD vs 1) (nthD vs 2) (nthD vs 3) (nthD vs 4) h
def o34_s3 (cl : Handler) (N : Nat) (r : Nat) (c0 c1 c2 c3 c4 c5 c6 c7 c8 c9 : Rec) (v1 v3 v4 v15 v24 : AV) (h : AH) : Ans :=
  fdp h (kExt h v15 1) .pure fun v25 c10 h =>
  fda (r + 11) h (alNew S34.z0) fun v5 c11 h =>
  fde h (kSt h 7 v5 v24) fun _ c12 h =>
  fdp h (kMov h v25) .pure fun v6 c13 h =>
  cond (fchk [c0, c1, c2, c3, c4, c5, c6, c7, c8, c9, c10, c11, c12, c13] [(1, 11), (3, 11), (6, 11)]) (fjn (o34_a1 cl N v1 v3 v4 v5 h) fun _ vs h => o34_j4 cl N (nthD vs 0) (nthD vs 1) (nthD vs 2) (nthD vs 3) (nthD vs 4) h) none
def o34_a5 (cl : Handler) (N : Nat) (v1 v3 v4 : AV) (h : AH) : Ans :=
  fdr h 14 fun r h =>
  fdp h (kFldA h 0 v1) .pure fun v16 c0 h =>
  fdp h (kLdn h 3 v16) (rdK (rdv v16)) fun v17 c1 h =>
  fdp h (kFldA h 4 v1) .pure fun v18 c2 h =>
  fdp h (kLd1 h v18) (rdK (rdv v18)) fun v19 c3 h =>
  fdp h (kMov h v4) .pure fun v20 c4 h =>
  fdp h (kIdxA h 1 v19 v20) .pure fun v21 c5 h =>
  fdp h (kLd1 h v21) (rdK (rdv v21)) fun v22 c6 h =>
  fde h (cl 16 [v17, v22] h) fun v23 c7 h =>
  fdp h (kMov h v23) .pure fun v15 c8 h =>
  fdp h (kExt h v15 0) .pure fun v24 c9 h =>
  o34_s3 cl N r c0 c1 c2 c3 c4 c5 c6 c7 c8 c9 v1 v3 v4 v15 v24 h
def o34_j6 (cl : Handler) (N : Nat) (v1 v3 v4 : AV) (h : AH) : Ans :=
  fst (kArith h .add v4 (.int .i64 1)) fun v14 h =>
  some (.nrm, [v1, v3, v14], [v3], h)
def o34_l7 (cl : Handler) (N : Nat) (v1 v3 v4 : AV) (h : AH) : Ans :=
  fst (kFldA h 4 v1) fun v9 h =>
  fst (kLd1 h v9) fun v10 h =>
  fst (kLen h v10) fun v11 h =>
  fst (kArith h .lss v4 v11) fun v12 h =>
  fif v12 (
  fjn (o34_a5 cl N v1 v3 v4 h) fun _ vs h => o34_j6 cl N (nthD vs 0) (nthD vs 1) (nthD vs 2) h) (
  some ((.exit 0), [v1, v3, v4], [v3], h))
def o34_c8 (cl : Handler) (N : Nat) (v3 : AV) (h : AH) : Ans :=
  some (.nrm, [], [v3], h)
def o34_j9 (cl : Handler) (N : Nat) (x : AX) (v3 : AV) (h : AH) : Ans :=
  fxs x (o34_c8 cl N v3 h) (fun j => cond (Nat.beq j 0) (o34_c8 cl N v3 h) (none)) (some (.nrm, [], [.undef], h))
def o34 (cl : Handler) (N : Nat) (v0 : AV) (h : AH) : Ans :=
  fst (kBox h v0) fun v1 h =>
  fjn (fiter (fun vs h => o34_l7 cl N (nthD vs 0) (nthD vs 1) (nthD vs 2) h) N [v1, (.nilsl), (.int .i64 0)] h) fun x vs h => o34_j9 cl N x (nthD vs 0) h
theorem o34_eq (cl : Handler) (N : Nat) (v0 : AV) (h : AH) : frun cl N S34 [v0] h = fans (o34 cl N v0 h) := by kernel_rfl
def w34 (N : Nat) : OF := fun cl args h => match args with
  | [v0] => fans (o34 cl N v0 h)
  | _ => none
theorem w34_ok (N : Nat) : OkF Tryz.prog 34 (w34 N) := .of (N := N) (S34_ok) fun cl args h r hr => by
  unfold w34 at hr
  split at hr
  · exact (o34_eq cl N _ _).trans hr
  · cases hr

def S35.z0 : List AV := [.int .i64 0, .int .i64 0, .int .i64 0, .str [], .nilsl, .nilsl, .nilsl]
/- widgetry/widgetryref31.Scoped -/
def S35.r0 : List AOpr := [
  q 1 (.box (x 0)),
  q 2 (.mov (.const (.int .i64 0)))]
def S35.r1 : List AOpr := [
  q 7 (.fldA 4 (x 1)),
  q 8 (.ld1 (x 7)),
  q 9 (.len (x 8)),
  q 10 (.arith .eql (x 9) (.const (.int .i64 0)))]
def S35.r2 : List AOpr := [
  q 2 (.mov (.const (.int .i64 0)))]
def S35.r3 : List AOpr := [
  q 11 (.fldA 4 (x 1)),
  q 12 (.ld1 (x 11)),
  q 13 (.idxA 1 (x 12) (.const (.int .i64 0))),
  q 14 (.ld1 (x 13)),
  q 3 (.mov (x 14))]
def S35.r4 : List AOpr := [
  q 4 (.mov (.const (.int .i64 0)))]
def S35.r5 : List AOpr := [
  q 15 (.mov (x 4)),
  q 16 (.fldA 4 (x 1)),
  q 17 (.ld1 (x 16)),
  q 18 (.len (x 17)),
  q 19 (.arith .lss (x 15) (x 18))]
def S35.r6 : List (AOpr × Nat) := [
  (q 23 (.fldA 0 (x 1)), 0),
  (q 24 (.ldn 3 (x 23)), 1),
  (q 25 (.fldA 4 (x 1)), 0),
  (q 26 (.ld1 (x 25)), 4),
  (q 27 (.mov (x 4)), 0),
  (q 28 (.idxA 1 (x 26) (x 27)), 28),
  (q 29 (.ld1 (x 28)), 60),
  (q 30 (.call (.const (.func (.func 16) [] [])) [.tmp 24, .tmp 29]), 127),
  (q 22 (.mov (x 30)), 255),
  (q 31 (.ext (x 22) 0), 511),
  (q 32 (.ext (x 22) 1), 511),
  (q 5 (.new S35.z0), 0),
  (⟨none, .st 7 (x 5) (x 31), none⟩, 3071),
  (q 6 (.mov (x 32)), 8191)]
def S35.r7 : List AOpr := [
  q 33 (.fldA 2 (x 5)),
  q 34 (.ld1 (x 33)),
  q 35 (.arith .eql (x 34) (.const (.int .i64 12))),
  q 36 (.mov (x 35)),
  ⟨some 37, .fldA 5 (x 1), some (36, true)⟩,
  ⟨some 38, .ld1 (x 37), some (36, true)⟩,
  ⟨some 39, .fldA 0 (x 5), some (36, true)⟩,
  ⟨some 40, .ld1 (x 39), some (36, true)⟩,
  ⟨some 41, .call (.const (.func (.func 68) [] [])) [.tmp 38, .tmp 40], some (36, true)⟩,
  q 42 (.pick (x 36) (x 41) (.const (.bool false)))]
def S35.r8 : List AOpr := [
  q 43 (.fldA 0 (x 5)),
  q 44 (.ld1 (x 43)),
  q 3 (.mov (x 44))]
def S35.r9 : List AOpr := [
  q 20 (.mov (x 4)),
  q 21 (.arith .add (x 20) (.const (.int .i64 1))),
  q 4 (.mov (x 21))]
def S35.r10 : List AOpr := [
  q 45 (.mov (x 3)),
  q 2 (.mov (x 45))]
def S35 : SFn := ⟨46, [.tmp 2], .seq (.reg S35.r0) (.seq (.seq (.reg S35.r1) (.cond (x 10) (.seq (.reg S35.r2) (.ret)) (.skip))) (.seq (.reg S35.r3) (.seq (.seq (.reg S35.r4) (.block 0 (.loop [1, 3, 4] [3] (.seq (.seq (.reg S35.r5) (.cond (x 19) (.skip) (.exit 0))) (.seq (.joinN [1, 3, 4] (.block 1 (.seq (.draw S35.r6) (.seq (.joinN [1, 3, 4, 5, 42] (.reg S35.r7)) (.cond (x 42) (.reg S35.r8) (.skip)))))) (.reg S35.r9)))))) (.seq (.reg S35.r10) (.ret)))))⟩
theorem S35_ok : EOk Tryz.prog 35 S35 := ⟨Tryz.f35, by kernel_rfl, by kernel_rfl, by decide, by kernel_rfl, its_nil (by kernel_rfl)⟩
def o35_a1 (cl : Handler) (N : Nat) (v1 v3 v4 v5 : AV) (h : AH) : Ans :=
  fst (kFldA h 2 v5) fun v33 h =>
  fst (kLd1 h v33) fun v34 h =>
  fst (kArith h .eql v34 (.int .i64 12)) fun v35 h =>
  fgd (gdv true v35) (kFldA h 5 v1) h fun v37 h =>
  fgd (gdv true v35) (kLd1 h v37) h fun v38 h =>
  fgd (gdv true v35) (kFldA h 0 v5) h fun v39 h =>
  fgd (gdv true v35) (kLd1 h v39) h fun v40 h =>
  fgd (gdv true v35) (cl 68 [v38, v40] h) h fun v41 h =>
  fst (kPick h v35 v41 (.bool false)) fun v42 h =>
  some (.nrm, [], [v1, v3, v4, v5, v42], h)
def o35_j2 (cl : Handler) (N : Nat) (v1 v3 v4 v5 v42 : AV) (h : AH) : Ans :=
  fif v42 (
  fst (kFldA h 0 v5) fun v43 h =>
  fst (kLd1 h v43) fun v44 h =>
  some (.nrm, [], [v1, v44, v4], h)) (
  some (.nrm, [], [v1, v3, v4], h))
def o35_s1 (cl : Handler) (N : Nat) (r : Nat) (c0 c1 c2 c3 c4 c5 c6 c7 c8 c9 : Rec) (v1 v3 v4 v22 v31 : AV) (h : AH) : Ans :=
  fdp h (kExt h v22 1) .pure fun v32 c10 h =>
  fda (r + 11) h (alNew S35.z0) fun v5 c11 h =>
  fde h (kSt h 7 v5 v31) fun _ c12 h =>
  fdp h (kMov h v32) .pure fun v6 c13 h =>
  cond (fchk [c0, c1, c2, c3, c4, c5, c6, c7, c8, c9, c10, c11, c12, c13] [(1, 11), (3, 11), (6, 11)]) (fjn (o35_a1 cl N v1 v3 v4 v5 h) fun _ vs h => o35_j2 cl N (nthD vs 0) (nthD vs 1) (nthD vs 2) (nthD vs 3) (nthD vs 4) h) none
def o35_a3 (cl : Handler) (N : Nat) (v1 v3 v4 : AV) (h : AH) : Ans :=
  fdr h 14 fun r h =>
  fdp h (kFldA h 0 v1) .pure fun v23 c0 h =>
  fdp h (kLdn h 3 v23) (rdK (rdv v23)) fun v24 c1 h =>
  fdp h (kFldA h 4 v1) .pure fun v25 c2 h =>
  fdp h (kLd1 h v25) (rdK (rdv v25)) fun v26 c3 h =>
  fdp h (kMov h v4) .pure fun v27 c4 h =>
  fdp h (kIdxA h 1 v26 v27) .pure fun v28 c5 h =>
  fdp h (kLd1 h v28) (rdK (rdv v28)) fun v29 c6 h =>
  fde h (cl 16 [v24, v29] h) fun v30 c7 h =>
  fdp h (kMov h v30) .pure fun v22 c8 h =>
  fdp h (kExt h v22 0) .pure fun v31 c9 h =>
  o35_s1 cl N r c0 c1 c2 c3 c4 c5 c6 c7 c8 c9 v1 v3 v4 v22 v31 h
def o35_j4 (cl : Handler) (N : Nat) (v1 v3 v4 : AV) (h : AH) : Ans :=
  fst (kArith h .add v4 (.int .i64 1)) fun v21 h =>
  some (.nrm, [v1, v3, v21], [v3], h)
def o35_l5 (cl : Handler) (N : Nat) (v1 v3 v4 : AV) (h : AH) : Ans :=
  fst (kFldA h 4 v1) fun v16 h =>
  fst (kLd1 h v16) fun v17 h =>
  fst (kLen h v17) fun v18 h =>
  fst (kArith h .lss v4 v18) fun v19 h =>
  fif v19 (
  fjn (o35_a3 cl N v1 v3 v4 h) fun _ vs h => o35_j4 cl N (nthD vs 0) (nthD vs 1) (nthD vs 2) h) (
  some ((.exit 0), [v1, v3, v4], [v3], h))
def o35_c6 (cl : Handler) (N : Nat) (v3 : AV) (h : AH) : Ans :=
  some (.nrm, [], [v3], h)
def o35_j7 (cl : Handler) (N : Nat) (x : AX) (v3 : AV) (h : AH) : Ans :=
  fxs x (o35_c6 cl N v3 h) (fun j => cond (Nat.beq j 0) (o35_c6 cl N v3 h) (none)) (some (.nrm, [], [.undef], h))
def o35 (cl : Handler) (N : Nat) (v0 : AV) (h : AH) : Ans :=
  fst (kBox h v0) fun v1 h =>
  fst (kFldA h 4 v1) fun v7 h =>
  fst (kLd1 h v7) fun v8 h =>
  fst (kLen h v8) fun v9 h =>
  fst (kArith h .eql v9 (.int .i64 0)) fun v10 h =>
  fif v10 (
  some (.nrm, [], [(.int .i64 0)], h)) (
  fst (kFldA h 4 v1) fun v11 h =>
  fst (kLd1 h v11) fun v12 h =>
  fst (kIdxA h 1 v12 (.int .i64 0)) fun v13 h =>
  fst (kLd1 h v13) fun v14 h =>
  fjn (fiter (fun vs h => o35_l5 cl N (nthD vs 0) (nthD vs 1) (nthD vs 2) h) N [v1, v14, (.int .i64 0)] h) fun x vs h => o35_j7 cl N x (nthD vs 0) h)
theorem o35_eq (cl : Handler) (N : Nat) (v0 : AV) (h : AH) : frun cl N S35 [v0] h = fans (o35 cl N v0 h) := by kernel_rfl
def w35 (N : Nat) : OF := fun cl args h => match args with
  | [v0] => fans (o35 cl N v0 h)
  | _ => none
theorem w35_ok (N : Nat) : OkF Tryz.prog 35 (w35 N) := .of (N := N) (S35_ok) fun cl args h r hr => by
  unfold w35 at hr
  split at hr
  · exact (o35_eq cl N _ _).trans hr
  · cases hr

def S36.z0 : List AV := [.int .i64 0, .int .i64 0, .int .i64 0, .str [], .nilsl, .nilsl, .nilsl]
/- (widgetry/widgetryref37.Facts).exports -/
def S36.r0 : List AOpr := [
  q 2 (.box (x 0)),
  q 4 (.mov (.const (.bool false)))]
def S36.r1 : List AOpr := [
  q 11 (.fldA 0 (x 2)),
  q 12 (.fldA 0 (x 11)),
  q 13 (.ldn 3 (x 12)),
  q 5 (.new [.int .i64 0, .int .i64 0, .nilsl]),
  ⟨none, .st 3 (x 5) (x 13), none⟩]
def S36.r2 : List AOpr := [
  q 14 (.mov (x 1)),
  q 15 (.fldA 0 (x 5)),
  q 16 (.ld1 (x 15)),
  q 17 (.arith .eql (x 14) (x 16))]
def S36.r3 : List AOpr := [
  q 4 (.mov (.const (.bool true)))]
def S36.r4 : List AOpr := [
  q 18 (.fldA 0 (x 2)),
  q 19 (.fldA 5 (x 18)),
  q 20 (.ld1 (x 19)),
  q 21 (.mov (x 1)),
  q 22 (.call (.const (.func (.func 30) [] [])) [.tmp 20, .tmp 21]),
  q 23 (.un .not (x 22)),
  q 24 (.mov (x 23)),
  ⟨some 25, .ldn 3 (x 5), some (24, false)⟩,
  ⟨some 26, .mov (x 1), some (24, false)⟩,
  ⟨some 27, .call (.const (.func (.func 18) [] [])) [.tmp 25, .tmp 26], some (24, false)⟩,
  ⟨some 28, .arith .eql (x 27) (.const (.int .i64 0)), some (24, false)⟩,
  q 29 (.pick (x 24) (.const (.bool true)) (x 28))]
def S36.r5 : List AOpr := [
  q 4 (.mov (.const (.bool false)))]
def S36.r6 : List AOpr := [
  q 30 (.fldA 0 (x 2)),
  q 31 (.ldn 6 (x 30)),
  q 32 (.mov (x 1)),
  q 33 (.call (.const (.func (.func 42) [] [])) [.tmp 31, .tmp 32]),
  q 6 (.mov (x 33))]
def S36.r7 : List AOpr := [
  q 7 (.mov (.const (.int .i64 0)))]
def S36.r8 : List AOpr := [
  q 34 (.mov (x 7)),
  q 35 (.mov (x 6)),
  q 36 (.len (x 35)),
  q 37 (.arith .lss (x 34) (x 36))]
def S36.r9 : List (AOpr × Nat) := [
  (q 41 (.ldn 3 (x 5)), 0),
  (q 42 (.mov (x 6)), 0),
  (q 43 (.mov (x 7)), 0),
  (q 44 (.idxA 1 (x 42) (x 43)), 6),
  (q 45 (.ld1 (x 44)), 14),
  (q 46 (.call (.const (.func (.func 16) [] [])) [.tmp 41, .tmp 45]), 31),
  (q 40 (.mov (x 46)), 63),
  (q 47 (.ext (x 40) 0), 127),
  (q 48 (.ext (x 40) 1), 127),
  (q 8 (.new S36.z0), 0),
  (⟨none, .st 7 (x 8) (x 47), none⟩, 767),
  (q 9 (.mov (x 48)), 2047)]
def S36.r10 : List AOpr := [
  q 49 (.fldA 4 (x 8)),
  q 50 (.ld1 (x 49)),
  q 51 (.call (.const (.func (.func 45) [] [])) [.tmp 50, .const (.str [101, 120, 99, 108, 117, 100, 101])])]
def S36.r11 : List AOpr := [
  q 4 (.mov (.const (.bool false)))]
def S36.r12 : List (AOpr × Nat) := [
  (q 52 (.mov (x 6)), 0),
  (q 53 (.mov (x 7)), 0),
  (q 54 (.idxA 1 (x 52) (x 53)), 3),
  (q 55 (.ld1 (x 54)), 7),
  (q 56 (.mov (x 1)), 0),
  (q 57 (.arith .neq (x 55) (x 56)), 31),
  (q 58 (.mov (x 57)), 63),
  (⟨some 59, .mov (x 6), some (58, true)⟩, 127),
  (⟨some 60, .mov (x 7), some (58, true)⟩, 127),
  (⟨some 61, .idxA 1 (x 59) (x 60), some (58, true)⟩, 511),
  (⟨some 62, .ld1 (x 61), some (58, true)⟩, 1023),
  (⟨some 63, .fldA 0 (x 5), some (58, true)⟩, 127),
  (⟨some 64, .ld1 (x 63), some (58, true)⟩, 2175),
  (⟨some 65, .arith .neq (x 62) (x 64), some (58, true)⟩, 8191),
  (q 66 (.pick (x 58) (x 65) (.const (.bool false))), 16383),
  (q 67 (.mov (x 66)), 32767),
  (⟨some 68, .fldA 8 (x 2), some (67, true)⟩, 65535),
  (⟨some 69, .ld1 (x 68), some (67, true)⟩, 131071),
  (⟨some 70, .mov (x 6), some (67, true)⟩, 65535),
  (⟨some 71, .mov (x 7), some (67, true)⟩, 65535),
  (⟨some 72, .idxA 1 (x 70) (x 71), some (67, true)⟩, 851967),
  (⟨some 73, .ld1 (x 72), some (67, true)⟩, 1900543),
  (⟨some 74, .call (.const (.func (.func 30) [] [])) [.tmp 69, .tmp 73], some (67, true)⟩, 4194303),
  (q 75 (.pick (x 67) (x 74) (.const (.bool false))), 8388607),
  (q 10 (.mov (x 75)), 16777215)]
def S36.r13 : List (AOpr × Nat) := [
  (q 76 (.mov (x 10)), 0),
  (q 77 (.mov (x 76)), 1),
  (⟨some 78, .ldn 3 (x 5), some (77, true)⟩, 3),
  (⟨some 79, .mov (x 6), some (77, true)⟩, 3),
  (⟨some 80, .mov (x 7), some (77, true)⟩, 3),
  (⟨some 81, .idxA 1 (x 79) (x 80), some (77, true)⟩, 27),
  (⟨some 82, .ld1 (x 81), some (77, true)⟩, 59),
  (⟨some 83, .call (.const (.func (.func 18) [] [])) [.tmp 78, .tmp 82], some (77, true)⟩, 127),
  (⟨some 84, .call (.const (.func (.func 70) [] [])) [.tmp 83], some (77, true)⟩, 255),
  (q 85 (.pick (x 77) (x 84) (.const (.bool false))), 511),
  (q 86 (.mov (x 85)), 1023),
  (⟨some 87, .fldA 6 (x 2), some (86, true)⟩, 2047),
  (⟨some 88, .ld1 (x 87), some (86, true)⟩, 4095),
  (⟨some 89, .mov (x 1), some (86, true)⟩, 2047),
  (⟨some 90, .call (.const (.func (.func 30) [] [])) [.tmp 88, .tmp 89], some (86, true)⟩, 16383),
  (⟨some 91, .un .not (x 90), some (86, true)⟩, 32767),
  (q 92 (.pick (x 86) (x 91) (.const (.bool false))), 65535)]
def S36.r14 : List AOpr := [
  q 4 (.mov (.const (.bool false)))]
def S36.r15 : List AOpr := [
  q 38 (.mov (x 7)),
  q 39 (.arith .add (x 38) (.const (.int .i64 1))),
  q 7 (.mov (x 39))]
def S36.r16 : List AOpr := [
  q 4 (.mov (.const (.bool true)))]
def S36 : SFn := ⟨93, [.tmp 4], .seq (.reg S36.r0) (.seq (.reg S36.r1) (.seq (.seq (.reg S36.r2) (.cond (x 17) (.seq (.reg S36.r3) (.ret)) (.skip))) (.seq (.seq (.joinN [1, 2, 5, 29] (.reg S36.r4)) (.cond (x 29) (.seq (.reg S36.r5) (.ret)) (.skip))) (.seq (.reg S36.r6) (.seq (.seq (.reg S36.r7) (.block 0 (.loop [1, 2, 5, 6, 7] [4] (.seq (.seq (.reg S36.r8) (.cond (x 37) (.skip) (.exit 0))) (.seq (.block 1 (.seq (.draw S36.r9) (.seq (.seq (.reg S36.r10) (.cond (x 51) (.seq (.reg S36.r11) (.ret)) (.skip))) (.seq (.joinN [1, 2, 5, 6, 7, 10] (.draw S36.r12)) (.seq (.joinN [1, 2, 5, 6, 7, 92] (.draw S36.r13)) (.cond (x 92) (.seq (.reg S36.r14) (.ret)) (.skip))))))) (.reg S36.r15)))))) (.seq (.reg S36.r16) (.ret)))))))⟩
theorem S36_ok : EOk Tryz.prog 36 S36 := ⟨Tryz.f36, by kernel_rfl, by kernel_rfl, by decide, by kernel_rfl, its_nil (by kernel_rfl)⟩
def o36_a1 (cl : Handler) (N : Nat) (v1 v2 v5 : AV) (h : AH) : Ans :=
  fst (kFldA h 0 v2) fun v18 h =>
  fst (kFldA h 5 v18) fun v19 h =>
  fst (kLd1 h v19) fun v20 h =>
  fst (cl 30 [v20, v1] h) fun v22 h =>
  fst (kUn h .not v22) fun v23 h =>
  fgd (gdv false v23) (kLdn h 3 v5) h fun v25 h =>
  fgd (gdv false v23) (kMov h v1) h fun v26 h =>
  fgd (gdv false v23) (cl 18 [v25, v26] h) h fun v27 h =>
  fgd (gdv false v23) (kArith h .eql v27 (.int .i64 0)) h fun v28 h =>
  fst (kPick h v23 (.bool true) v28) fun v29 h =>
  some (.nrm, [], [v1, v2, v5, v29], h)
def o36_s1 (cl : Handler) (N : Nat) (c0 c1 c2 c3 c4 c5 c6 c7 c8 c9 c10 c11 c12 c13 c14 c15 c16 c17 c18 c19 : Rec) (v1 v2 v5 v6 v7 v67 v69 v70 v71 : AV) (h : AH) : Ans :=
  fgq (gdv true v67) (fun k => fdp h (kIdxA h 1 v70 v71) .pure k) h fun v72 c20 h =>
  fgq (gdv true v67) (fun k => fdp h (kLd1 h v72) (rdK (rdv v72)) k) h fun v73 c21 h =>
  fgq (gdv true v67) (fun k => fde h (cl 30 [v69, v73] h) k) h fun v74 c22 h =>
  fdp h (kPick h v67 v74 (.bool false)) .pure fun v75 c23 h =>
  fdp h (kMov h v75) .pure fun v10 c24 h =>
  cond (fchk [c0, c1, c2, c3, c4, c5, c6, c7, c8, c9, c10, c11, c12, c13, c14, c15, c16, c17, c18, c19, c20, c21, c22, c23, c24] []) (some (.nrm, [], [v1, v2, v5, v6, v7, v10], h)) none
def o36_s2 (cl : Handler) (N : Nat) (c0 c1 c2 c3 c4 c5 c6 c7 c8 c9 : Rec) (v1 v2 v5 v6 v7 v58 v61 : AV) (h : AH) : Ans :=
  fgq (gdv true v58) (fun k => fdp h (kLd1 h v61) (rdK (rdv v61)) k) h fun v62 c10 h =>
  fgq (gdv true v58) (fun k => fdp h (kFldA h 0 v5) .pure k) h fun v63 c11 h =>
  fgq (gdv true v58) (fun k => fdp h (kLd1 h v63) (rdK (rdv v63)) k) h fun v64 c12 h =>
  fgq (gdv true v58) (fun k => fdp h (kArith h .neq v62 v64) .pure k) h fun v65 c13 h =>
  fdp h (kPick h v58 v65 (.bool false)) .pure fun v66 c14 h =>
  fdp h (kMov h v66) .pure fun v67 c15 h =>
  fgq (gdv true v67) (fun k => fdp h (kFldA h 8 v2) .pure k) h fun v68 c16 h =>
  fgq (gdv true v67) (fun k => fdp h (kLd1 h v68) (rdK (rdv v68)) k) h fun v69 c17 h =>
  fgq (gdv true v67) (fun k => fdp h (kMov h v6) .pure k) h fun v70 c18 h =>
  fgq (gdv true v67) (fun k => fdp h (kMov h v7) .pure k) h fun v71 c19 h =>
  o36_s1 cl N c0 c1 c2 c3 c4 c5 c6 c7 c8 c9 c10 c11 c12 c13 c14 c15 c16 c17 c18 c19 v1 v2 v5 v6 v7 v67 v69 v70 v71 h
def o36_a2 (cl : Handler) (N : Nat) (v1 v2 v5 v6 v7 : AV) (h : AH) : Ans :=
  fdr h 25 fun r h =>
  fdp h (kMov h v6) .pure fun v52 c0 h =>
  fdp h (kMov h v7) .pure fun v53 c1 h =>
  fdp h (kIdxA h 1 v52 v53) .pure fun v54 c2 h =>
  fdp h (kLd1 h v54) (rdK (rdv v54)) fun v55 c3 h =>
  fdp h (kMov h v1) .pure fun v56 c4 h =>
  fdp h (kArith h .neq v55 v56) .pure fun v57 c5 h =>
  fdp h (kMov h v57) .pure fun v58 c6 h =>
  fgq (gdv true v58) (fun k => fdp h (kMov h v6) .pure k) h fun v59 c7 h =>
  fgq (gdv true v58) (fun k => fdp h (kMov h v7) .pure k) h fun v60 c8 h =>
  fgq (gdv true v58) (fun k => fdp h (kIdxA h 1 v59 v60) .pure k) h fun v61 c9 h =>
  o36_s2 cl N c0 c1 c2 c3 c4 c5 c6 c7 c8 c9 v1 v2 v5 v6 v7 v58 v61 h
def o36_s3 (cl : Handler) (N : Nat) (c0 c1 c2 c3 c4 c5 c6 c7 c8 c9 : Rec) (v1 v2 v5 v6 v7 v85 : AV) (h : AH) : Ans :=
  fdp h (kMov h v85) .pure fun v86 c10 h =>
  fgq (gdv true v86) (fun k => fdp h (kFldA h 6 v2) .pure k) h fun v87 c11 h =>
  fgq (gdv true v86) (fun k => fdp h (kLd1 h v87) (rdK (rdv v87)) k) h fun v88 c12 h =>
  fgq (gdv true v86) (fun k => fdp h (kMov h v1) .pure k) h fun v89 c13 h =>
  fgq (gdv true v86) (fun k => fde h (cl 30 [v88, v89] h) k) h fun v90 c14 h =>
  fgq (gdv true v86) (fun k => fdp h (kUn h .not v90) .pure k) h fun v91 c15 h =>
  fdp h (kPick h v86 v91 (.bool false)) .pure fun v92 c16 h =>
  cond (fchk [c0, c1, c2, c3, c4, c5, c6, c7, c8, c9, c10, c11, c12, c13, c14, c15, c16] []) (some (.nrm, [], [v1, v2, v5, v6, v7, v92], h)) none
def o36_a3 (cl : Handler) (N : Nat) (v1 v2 v5 v6 v7 v10 : AV) (h : AH) : Ans :=
  fdr h 17 fun r h =>
  fdp h (kMov h v10) .pure fun v76 c0 h =>
  fdp h (kMov h v76) .pure fun v77 c1 h =>
  fgq (gdv true v77) (fun k => fdp h (kLdn h 3 v5) (rdK (rdv v5)) k) h fun v78 c2 h =>
  fgq (gdv true v77) (fun k => fdp h (kMov h v6) .pure k) h fun v79 c3 h =>
  fgq (gdv true v77) (fun k => fdp h (kMov h v7) .pure k) h fun v80 c4 h =>
  fgq (gdv true v77) (fun k => fdp h (kIdxA h 1 v79 v80) .pure k) h fun v81 c5 h =>
  fgq (gdv true v77) (fun k => fdp h (kLd1 h v81) (rdK (rdv v81)) k) h fun v82 c6 h =>
  fgq (gdv true v77) (fun k => fde h (cl 18 [v78, v82] h) k) h fun v83 c7 h =>
  fgq (gdv true v77) (fun k => fde h (cl 70 [v83] h) k) h fun v84 c8 h =>
  fdp h (kPick h v77 v84 (.bool false)) .pure fun v85 c9 h =>
  o36_s3 cl N c0 c1 c2 c3 c4 c5 c6 c7 c8 c9 v1 v2 v5 v6 v7 v85 h
def o36_j4 (cl : Handler) (N : Nat) (v1 v2 v5 v6 v7 v92 : AV) (h : AH) : Ans :=
  fif v92 (
  some (.ret, [v1, v2, v5, v6, v7], [(.bool false)], h)) (
  fst (kArith h .add v7 (.int .i64 1)) fun v39 h =>
  some (.nrm, [v1, v2, v5, v6, v39], [.undef], h))
def o36_j5 (cl : Handler) (N : Nat) (v1 v2 v5 v6 v7 v10 : AV) (h : AH) : Ans :=
  fjn (o36_a3 cl N v1 v2 v5 v6 v7 v10 h) fun _ vs h => o36_j4 cl N (nthD vs 0) (nthD vs 1) (nthD vs 2) (nthD vs 3) (nthD vs 4) (nthD vs 5) h
def o36_s4 (cl : Handler) (N : Nat) (r : Nat) (c0 c1 c2 c3 c4 c5 c6 c7 : Rec) (v1 v2 v5 v6 v7 v40 v47 : AV) (h : AH) : Ans :=
  fdp h (kExt h v40 1) .pure fun v48 c8 h =>
  fda (r + 9) h (alNew S36.z0) fun v8 c9 h =>
  fde h (kSt h 7 v8 v47) fun _ c10 h =>
  fdp h (kMov h v48) .pure fun v9 c11 h =>
  cond (fchk [c0, c1, c2, c3, c4, c5, c6, c7, c8, c9, c10, c11] [(0, 9), (4, 9)]) (fst (kFldA h 4 v8) fun v49 h =>
  fst (kLd1 h v49) fun v50 h =>
  fst (cl 45 [v50, (.str [101, 120, 99, 108, 117, 100, 101])] h) fun v51 h =>
  fif v51 (
  some (.ret, [v1, v2, v5, v6, v7], [(.bool false)], h)) (
  fjn (o36_a2 cl N v1 v2 v5 v6 v7 h) fun _ vs h => o36_j5 cl N (nthD vs 0) (nthD vs 1) (nthD vs 2) (nthD vs 3) (nthD vs 4) (nthD vs 5) h)) none
def o36_l6 (cl : Handler) (N : Nat) (v1 v2 v5 v6 v7 : AV) (h : AH) : Ans :=
  fst (kLen h v6) fun v36 h =>
  fst (kArith h .lss v7 v36) fun v37 h =>
  fif v37 (
  fdr h 12 fun r h =>
  fdp h (kLdn h 3 v5) (rdK (rdv v5)) fun v41 c0 h =>
  fdp h (kMov h v6) .pure fun v42 c1 h =>
  fdp h (kMov h v7) .pure fun v43 c2 h =>
  fdp h (kIdxA h 1 v42 v43) .pure fun v44 c3 h =>
  fdp h (kLd1 h v44) (rdK (rdv v44)) fun v45 c4 h =>
  fde h (cl 16 [v41, v45] h) fun v46 c5 h =>
  fdp h (kMov h v46) .pure fun v40 c6 h =>
  fdp h (kExt h v40 0) .pure fun v47 c7 h =>
  o36_s4 cl N r c0 c1 c2 c3 c4 c5 c6 c7 v1 v2 v5 v6 v7 v40 v47 h) (
  some ((.exit 0), [v1, v2, v5, v6, v7], [.undef], h))
def o36_c7 (cl : Handler) (N : Nat) (h : AH) : Ans :=
  some (.nrm, [], [(.bool true)], h)
def o36_j8 (cl : Handler) (N : Nat) (x : AX) (v4 : AV) (h : AH) : Ans :=
  fxs x (o36_c7 cl N h) (fun j => cond (Nat.beq j 0) (o36_c7 cl N h) (none)) (some (.nrm, [], [v4], h))
def o36_j9 (cl : Handler) (N : Nat) (v1 v2 v5 v29 : AV) (h : AH) : Ans :=
  fif v29 (
  some (.nrm, [], [(.bool false)], h)) (
  fst (kFldA h 0 v2) fun v30 h =>
  fst (kLdn h 6 v30) fun v31 h =>
  fst (cl 42 [v31, v1] h) fun v33 h =>
  fjn (fiter (fun vs h => o36_l6 cl N (nthD vs 0) (nthD vs 1) (nthD vs 2) (nthD vs 3) (nthD vs 4) h) N [v1, v2, v5, v33, (.int .i64 0)] h) fun x vs h => o36_j8 cl N x (nthD vs 0) h)
def o36 (cl : Handler) (N : Nat) (v0 v1 : AV) (h : AH) : Ans :=
  fst (kBox h v0) fun v2 h =>
  fst (kFldA h 0 v2) fun v11 h =>
  fst (kFldA h 0 v11) fun v12 h =>
  fst (kLdn h 3 v12) fun v13 h =>
  fst (kNew h [.int .i64 0, .int .i64 0, .nilsl]) fun v5 h =>
  fst (kSt h 3 v5 v13) fun _ h =>
  fst (kFldA h 0 v5) fun v15 h =>
  fst (kLd1 h v15) fun v16 h =>
  fst (kArith h .eql v1 v16) fun v17 h =>
  fif v17 (
  some (.nrm, [], [(.bool true)], h)) (
  fjn (o36_a1 cl N v1 v2 v5 h) fun _ vs h => o36_j9 cl N (nthD vs 0) (nthD vs 1) (nthD vs 2) (nthD vs 3) h)
theorem o36_eq (cl : Handler) (N : Nat) (v0 v1 : AV) (h : AH) : frun cl N S36 [v0, v1] h = fans (o36 cl N v0 v1 h) := by kernel_rfl
def w36 (N : Nat) : OF := fun cl args h => match args with
  | [v0, v1] => fans (o36 cl N v0 v1 h)
  | _ => none
theorem w36_ok (N : Nat) : OkF Tryz.prog 36 (w36 N) := .of (N := N) (S36_ok) fun cl args h r hr => by
  unfold w36 at hr
  split at hr
  · exact (o36_eq cl N _ _ _).trans hr
  · cases hr

/- widgetry/widgetryref14.Check -/
def S37.r0 : List AOpr := [
  q 1 (.box (x 0)),
  q 2 (.mov (.const (.int .i64 0)))]
def S37.r1 : List AOpr := [
  q 3 (.ldn 3 (x 1)),
  q 4 (.call (.const (.func (.func 71) [] [])) [.tmp 3]),
  q 5 (.un .not (x 4))]
def S37.r2 : List AOpr := [
  q 2 (.mov (.const (.int .i64 12)))]
def S37.r3 : List AOpr := [
  q 6 (.ldn 3 (x 1)),
  q 7 (.fldA 0 (x 1)),
  q 8 (.ld1 (x 7)),
  q 9 (.call (.const (.func (.func 72) [] [])) [.tmp 6, .tmp 8]),
  q 10 (.call (.const (.func (.func 12) [] [])) [.tmp 9]),
  q 2 (.mov (x 10))]
def S37 : SFn := ⟨11, [.tmp 2], .seq (.reg S37.r0) (.seq (.seq (.reg S37.r1) (.cond (x 5) (.seq (.reg S37.r2) (.ret)) (.skip))) (.seq (.reg S37.r3) (.ret)))⟩
theorem S37_ok : EOk Tryz.prog 37 S37 := ⟨Tryz.f37, by kernel_rfl, by kernel_rfl, by decide, by kernel_rfl, its_nil (by kernel_rfl)⟩
def o37 (cl : Handler) (N : Nat) (v0 : AV) (h : AH) : Ans :=
  fst (kBox h v0) fun v1 h =>
  fst (kLdn h 3 v1) fun v3 h =>
  fst (cl 71 [v3] h) fun v4 h =>
  fst (kUn h .not v4) fun v5 h =>
  fif v5 (
  some (.nrm, [], [(.int .i64 12)], h)) (
  fst (kLdn h 3 v1) fun v6 h =>
  fst (kFldA h 0 v1) fun v7 h =>
  fst (kLd1 h v7) fun v8 h =>
  fst (cl 72 [v6, v8] h) fun v9 h =>
  fst (cl 12 [v9] h) fun v10 h =>
  some (.nrm, [], [v10], h))
theorem o37_eq (cl : Handler) (N : Nat) (v0 : AV) (h : AH) : frun cl N S37 [v0] h = fans (o37 cl N v0 h) := by kernel_rfl
def w37 (N : Nat) : OF := fun cl args h => match args with
  | [v0] => fans (o37 cl N v0 h)
  | _ => none
theorem w37_ok (N : Nat) : OkF Tryz.prog 37 (w37 N) := .of (N := N) (S37_ok) fun cl args h r hr => by
  unfold w37 at hr
  split at hr
  · exact (o37_eq cl N _ _).trans hr
  · cases hr

/- widgetry/widgetryref21.Styles -/
def S38.r0 : List AOpr := [
  q 2 (.box (x 0)),
  q 4 (.mov (.const (.int .i64 0)))]
def S38.r1 : List AOpr := [
  q 7 (.ldn 3 (x 2)),
  q 8 (.mov (x 1)),
  q 9 (.call (.const (.func (.func 73) [] [])) [.tmp 7, .tmp 8]),
  q 10 (.un .not (x 9))]
def S38.r2 : List AOpr := [
  q 4 (.mov (.const (.int .i64 7)))]
def S38.r3 : List AOpr := [
  q 5 (.mov (.const (.int .i64 0)))]
def S38.r4 : List AOpr := [
  q 11 (.mov (x 5)),
  q 12 (.mov (x 1)),
  q 13 (.len (x 12)),
  q 14 (.arith .lss (x 11) (x 13))]
def S38.r5 : List AOpr := [
  q 6 (.mov (.const (.int .i64 0)))]
def S38.r6 : List AOpr := [
  q 17 (.mov (x 6)),
  q 18 (.arith .lss (x 17) (.const (.int .i64 22)))]
def S38.r7 : List AOpr := [
  q 21 (.mov (x 6)),
  q 22 (.mov (x 1)),
  q 23 (.mov (x 5)),
  q 24 (.mov (x 6)),
  q 25 (.idxA 23 (x 22) (x 23)),
  q 26 (.fldA 1 (x 25)),
  q 27 (.idxArrA 22 1 (x 26) (x 24)),
  q 28 (.ld1 (x 27)),
  q 29 (.call (.const (.func (.func 74) [] [])) [.tmp 21, .tmp 28]),
  q 30 (.un .not (x 29))]
def S38.r8 : List AOpr := [
  q 4 (.mov (.const (.int .i64 1)))]
def S38.r9 : List AOpr := [
  q 19 (.mov (x 6)),
  q 20 (.arith .add (x 19) (.const (.int .i64 1))),
  q 6 (.mov (x 20))]
def S38.r10 : List AOpr := [
  q 15 (.mov (x 5)),
  q 16 (.arith .add (x 15) (.const (.int .i64 1))),
  q 5 (.mov (x 16))]
def S38.r11 : List AOpr := [
  q 4 (.mov (.const (.int .i64 0)))]
def S38 : SFn := ⟨31, [.tmp 4], .seq (.reg S38.r0) (.seq (.seq (.reg S38.r1) (.cond (x 10) (.seq (.reg S38.r2) (.ret)) (.skip))) (.seq (.seq (.reg S38.r3) (.block 0 (.loop [1, 5] [4] (.seq (.seq (.reg S38.r4) (.cond (x 14) (.skip) (.exit 0))) (.seq (.block 1 (.seq (.reg S38.r5) (.block 2 (.loop [1, 5, 6] [1, 4, 5] (.seq (.seq (.reg S38.r6) (.cond (x 18) (.skip) (.exit 2))) (.seq (.block 3 (.seq (.reg S38.r7) (.cond (x 30) (.seq (.reg S38.r8) (.ret)) (.skip)))) (.reg S38.r9))))))) (.reg S38.r10)))))) (.seq (.reg S38.r11) (.ret))))⟩
theorem S38_ok : EOk Tryz.prog 38 S38 := ⟨Tryz.f38, by kernel_rfl, by kernel_rfl, by decide, by kernel_rfl, its_nil (by kernel_rfl)⟩
def o38_l1 (cl : Handler) (N : Nat) (v1 v5 v6 : AV) (h : AH) : Ans :=
  fst (kArith h .lss v6 (.int .i64 22)) fun v18 h =>
  fif v18 (
  fst (kIdxA h 23 v1 v5) fun v25 h =>
  fst (kFldA h 1 v25) fun v26 h =>
  fst (kIdxArrA h 22 1 v26 v6) fun v27 h =>
  fst (kLd1 h v27) fun v28 h =>
  fst (cl 74 [v6, v28] h) fun v29 h =>
  fst (kUn h .not v29) fun v30 h =>
  fif v30 (
  some (.ret, [v1, v5, v6], [v1, (.int .i64 1), v5], h)) (
  fst (kArith h .add v6 (.int .i64 1)) fun v20 h =>
  some (.nrm, [v1, v5, v20], [v1, .undef, v5], h))) (
  some ((.exit 2), [v1, v5, v6], [v1, .undef, v5], h))
def o38_c2 (cl : Handler) (N : Nat) (v1 v4 v5 : AV) (h : AH) : Ans :=
  fst (kArith h .add v5 (.int .i64 1)) fun v16 h =>
  some (.nrm, [v1, v16], [v4], h)
def o38_j3 (cl : Handler) (N : Nat) (x : AX) (v1 v4 v5 : AV) (h : AH) : Ans :=
  fxs x (o38_c2 cl N v1 v4 v5 h) (fun j => cond (Nat.beq j 2) (o38_c2 cl N v1 v4 v5 h) (cond (Nat.beq j 1) (fst (kArith h .add v5 (.int .i64 1)) fun v16 h =>
  some (.nrm, [v1, v16], [v4], h)) (some ((.exit j), [v1, v5], [v4], h)))) (some (.ret, [v1, v5], [v4], h))
def o38_l4 (cl : Handler) (N : Nat) (v1 v5 : AV) (h : AH) : Ans :=
  fst (kLen h v1) fun v13 h =>
  fst (kArith h .lss v5 v13) fun v14 h =>
  fif v14 (
  fjn (fiter (fun vs h => o38_l1 cl N (nthD vs 0) (nthD vs 1) (nthD vs 2) h) N [v1, v5, (.int .i64 0)] h) fun x vs h => o38_j3 cl N x (nthD vs 0) (nthD vs 1) (nthD vs 2) h) (
  some ((.exit 0), [v1, v5], [.undef], h))
def o38_c5 (cl : Handler) (N : Nat) (h : AH) : Ans :=
  some (.nrm, [], [(.int .i64 0)], h)
def o38_j6 (cl : Handler) (N : Nat) (x : AX) (v4 : AV) (h : AH) : Ans :=
  fxs x (o38_c5 cl N h) (fun j => cond (Nat.beq j 0) (o38_c5 cl N h) (none)) (some (.nrm, [], [v4], h))
def o38 (cl : Handler) (N : Nat) (v0 v1 : AV) (h : AH) : Ans :=
  fst (kBox h v0) fun v2 h =>
  fst (kLdn h 3 v2) fun v7 h =>
  fst (cl 73 [v7, v1] h) fun v9 h =>
  fst (kUn h .not v9) fun v10 h =>
  fif v10 (
  some (.nrm, [], [(.int .i64 7)], h)) (
  fjn (fiter (fun vs h => o38_l4 cl N (nthD vs 0) (nthD vs 1) h) N [v1, (.int .i64 0)] h) fun x vs h => o38_j6 cl N x (nthD vs 0) h)
theorem o38_eq (cl : Handler) (N : Nat) (v0 v1 : AV) (h : AH) : frun cl N S38 [v0, v1] h = fans (o38 cl N v0 v1 h) := by kernel_rfl
def w38 (N : Nat) : OF := fun cl args h => match args with
  | [v0, v1] => fans (o38 cl N v0 v1 h)
  | _ => none
theorem w38_ok (N : Nat) : OkF Tryz.prog 38 (w38 N) := .of (N := N) (S38_ok) fun cl args h r hr => by
  unfold w38 at hr
  split at hr
  · exact (o38_eq cl N _ _ _).trans hr
  · cases hr

def S39.z0 : List AV := [.int .i64 0, .int .i64 0, .int .i64 0, .str [], .nilsl, .nilsl, .nilsl]
/- widgetry/widgetryref21.shown -/
def S39.r0 : List AOpr := [
  q 4 (.box (x 0)),
  q 8 (.mov (.const (.nilsl)))]
def S39.r1 : List AOpr := [
  q 11 (.ldn 3 (x 4)),
  q 12 (.mov (x 2)),
  q 13 (.call (.const (.func (.func 41) [] [])) [.tmp 11, .tmp 12]),
  q 9 (.new S39.z0),
  ⟨none, .st 7 (x 9) (x 13), none⟩]
def S39.r2 : List AOpr := [
  q 14 (.mov (x 1)),
  q 15 (.mov (x 2)),
  q 16 (.call (.const (.func (.func 66) [] [])) [.tmp 14, .tmp 15]),
  q 17 (.idx 22 1 none (x 16) (.const (.int .i64 5))),
  q 18 (.arith .eql (x 17) (.const (.int .i64 0))),
  q 19 (.mov (x 18)),
  ⟨some 20, .fldA 4 (x 9), some (19, false)⟩,
  ⟨some 21, .ld1 (x 20), some (19, false)⟩,
  ⟨some 22, .call (.const (.func (.func 45) [] [])) [.tmp 21, .const (.str [104, 105, 100, 100, 101, 110])], some (19, false)⟩,
  q 23 (.pick (x 19) (.const (.bool true)) (x 22))]
def S39.r3 : List AOpr := [
  q 24 (.mov (x 3)),
  q 8 (.mov (x 24))]
def S39.r4 : List AOpr := [
  q 25 (.mov (x 3)),
  q 26 (.mov (x 2)),
  q 27 (.buildSl 1 1 [.int .i64 0] [(0, 1, .tmp 26)]),
  q 28 (.app 1 8 (x 25) (x 27)),
  q 3 (.mov (x 28))]
def S39.r5 : List AOpr := [
  q 29 (.fldA 2 (x 9)),
  q 30 (.ld1 (x 29)),
  q 31 (.call (.const (.func (.func 75) [] [])) [.tmp 30]),
  q 32 (.mov (x 31)),
  ⟨some 33, .fldA 2 (x 9), some (32, false)⟩,
  ⟨some 34, .ld1 (x 33), some (32, false)⟩,
  ⟨some 35, .call (.const (.func (.func 76) [] [])) [.tmp 34], some (32, false)⟩,
  q 36 (.pick (x 32) (.const (.bool true)) (x 35))]
def S39.r6 : List AOpr := [
  q 37 (.mov (x 3)),
  q 8 (.mov (x 37))]
def S39.r7 : List AOpr := [
  q 10 (.mov (.const (.int .i64 0)))]
def S39.r8 : List AOpr := [
  q 38 (.mov (x 10)),
  q 39 (.fldA 6 (x 9)),
  q 40 (.ld1 (x 39)),
  q 41 (.len (x 40)),
  q 42 (.arith .lss (x 38) (x 41))]
def S39.r9 : List (AOpr × Nat) := [
  (q 45 (.ldn 3 (x 4)), 0),
  (q 46 (.mov (x 1)), 0),
  (q 47 (.fldA 6 (x 9)), 0),
  (q 48 (.ld1 (x 47)), 4),
  (q 49 (.mov (x 10)), 0),
  (q 50 (.idxA 1 (x 48) (x 49)), 28),
  (q 51 (.ld1 (x 50)), 60),
  (q 52 (.mov (x 3)), 0),
  (q 53 (.call (.const (.func (.func 39) [] [])) [.tmp 45, .tmp 46, .tmp 51, .tmp 52]), 255),
  (q 3 (.mov (x 53)), 511)]
def S39.r10 : List AOpr := [
  q 43 (.mov (x 10)),
  q 44 (.arith .add (x 43) (.const (.int .i64 1))),
  q 10 (.mov (x 44))]
def S39.r11 : List AOpr := [
  q 54 (.mov (x 3)),
  q 8 (.mov (x 54))]
def S39 : SFn := ⟨55, [.tmp 8], .seq (.reg S39.r0) (.seq (.reg S39.r1) (.seq (.seq (.joinN [1, 2, 3, 4, 9, 23] (.reg S39.r2)) (.cond (x 23) (.seq (.reg S39.r3) (.ret)) (.skip))) (.seq (.reg S39.r4) (.seq (.seq (.joinN [1, 3, 4, 9, 36] (.reg S39.r5)) (.cond (x 36) (.seq (.reg S39.r6) (.ret)) (.skip))) (.seq (.seq (.reg S39.r7) (.block 0 (.loop [1, 3, 4, 9, 10] [3] (.seq (.seq (.reg S39.r8) (.cond (x 42) (.skip) (.exit 0))) (.seq (.block 1 (.draw S39.r9)) (.reg S39.r10)))))) (.seq (.reg S39.r11) (.ret)))))))⟩
theorem S39_ok : EOk Tryz.prog 39 S39 := ⟨Tryz.f39, by kernel_rfl, by kernel_rfl, by decide, by kernel_rfl, its_nil (by kernel_rfl)⟩
def o39_a1 (cl : Handler) (N : Nat) (v1 v2 v3 v4 v9 : AV) (h : AH) : Ans :=
  fst (cl 66 [v1, v2] h) fun v16 h =>
  fst (kIdx h 22 1 none v16 (.int .i64 5)) fun v17 h =>
  fst (kArith h .eql v17 (.int .i64 0)) fun v18 h =>
  fgd (gdv false v18) (kFldA h 4 v9) h fun v20 h =>
  fgd (gdv false v18) (kLd1 h v20) h fun v21 h =>
  fgd (gdv false v18) (cl 45 [v21, (.str [104, 105, 100, 100, 101, 110])] h) h fun v22 h =>
  fst (kPick h v18 (.bool true) v22) fun v23 h =>
  some (.nrm, [], [v1, v2, v3, v4, v9, v23], h)
def o39_a2 (cl : Handler) (N : Nat) (v1 v3 v4 v9 : AV) (h : AH) : Ans :=
  fst (kFldA h 2 v9) fun v29 h =>
  fst (kLd1 h v29) fun v30 h =>
  fst (cl 75 [v30] h) fun v31 h =>
  fgd (gdv false v31) (kFldA h 2 v9) h fun v33 h =>
  fgd (gdv false v31) (kLd1 h v33) h fun v34 h =>
  fgd (gdv false v31) (cl 76 [v34] h) h fun v35 h =>
  fst (kPick h v31 (.bool true) v35) fun v36 h =>
  some (.nrm, [], [v1, v3, v4, v9, v36], h)
def o39_s1 (cl : Handler) (N : Nat) (c0 c1 c2 c3 c4 c5 : Rec) (v1 v3 v4 v9 v10 v45 v46 v50 : AV) (h : AH) : Ans :=
  fdp h (kLd1 h v50) (rdK (rdv v50)) fun v51 c6 h =>
  fdp h (kMov h v3) .pure fun v52 c7 h =>
  fde h (cl 39 [v45, v46, v51, v52] h) fun v53 c8 h =>
  fdp h (kMov h v53) .pure fun v3 c9 h =>
  cond (fchk [c0, c1, c2, c3, c4, c5, c6, c7, c8, c9] []) (fst (kArith h .add v10 (.int .i64 1)) fun v44 h =>
  some (.nrm, [v1, v3, v4, v9, v44], [v3], h)) none
def o39_l3 (cl : Handler) (N : Nat) (v1 v3 v4 v9 v10 : AV) (h : AH) : Ans :=
  fst (kFldA h 6 v9) fun v39 h =>
  fst (kLd1 h v39) fun v40 h =>
  fst (kLen h v40) fun v41 h =>
  fst (kArith h .lss v10 v41) fun v42 h =>
  fif v42 (
  fdr h 10 fun r h =>
  fdp h (kLdn h 3 v4) (rdK (rdv v4)) fun v45 c0 h =>
  fdp h (kMov h v1) .pure fun v46 c1 h =>
  fdp h (kFldA h 6 v9) .pure fun v47 c2 h =>
  fdp h (kLd1 h v47) (rdK (rdv v47)) fun v48 c3 h =>
  fdp h (kMov h v10) .pure fun v49 c4 h =>
  fdp h (kIdxA h 1 v48 v49) .pure fun v50 c5 h =>
  o39_s1 cl N c0 c1 c2 c3 c4 c5 v1 v3 v4 v9 v10 v45 v46 v50 h) (
  some ((.exit 0), [v1, v3, v4, v9, v10], [v3], h))
def o39_c4 (cl : Handler) (N : Nat) (v3 : AV) (h : AH) : Ans :=
  some (.nrm, [], [v3], h)
def o39_j5 (cl : Handler) (N : Nat) (x : AX) (v3 : AV) (h : AH) : Ans :=
  fxs x (o39_c4 cl N v3 h) (fun j => cond (Nat.beq j 0) (o39_c4 cl N v3 h) (none)) (some (.nrm, [], [.undef], h))
def o39_j6 (cl : Handler) (N : Nat) (v1 v3 v4 v9 v36 : AV) (h : AH) : Ans :=
  fif v36 (
  some (.nrm, [], [v3], h)) (
  fjn (fiter (fun vs h => o39_l3 cl N (nthD vs 0) (nthD vs 1) (nthD vs 2) (nthD vs 3) (nthD vs 4) h) N [v1, v3, v4, v9, (.int .i64 0)] h) fun x vs h => o39_j5 cl N x (nthD vs 0) h)
def o39_j7 (cl : Handler) (N : Nat) (v1 v2 v3 v4 v9 v23 : AV) (h : AH) : Ans :=
  fif v23 (
  some (.nrm, [], [v3], h)) (
  fst (kBuildSl h 1 1 [.int .i64 0] [(0, 1, v2)]) fun v27 h =>
  fst (kApp h 1 8 v3 v27) fun v28 h =>
  fjn (o39_a2 cl N v1 v28 v4 v9 h) fun _ vs h => o39_j6 cl N (nthD vs 0) (nthD vs 1) (nthD vs 2) (nthD vs 3) (nthD vs 4) h)
def o39 (cl : Handler) (N : Nat) (v0 v1 v2 v3 : AV) (h : AH) : Ans :=
  fst (kBox h v0) fun v4 h =>
  fst (kLdn h 3 v4) fun v11 h =>
  fst (cl 41 [v11, v2] h) fun v13 h =>
  fst (kNew h S39.z0) fun v9 h =>
  fst (kSt h 7 v9 v13) fun _ h =>
  fjn (o39_a1 cl N v1 v2 v3 v4 v9 h) fun _ vs h => o39_j7 cl N (nthD vs 0) (nthD vs 1) (nthD vs 2) (nthD vs 3) (nthD vs 4) (nthD vs 5) h
theorem o39_eq (cl : Handler) (N : Nat) (v0 v1 v2 v3 : AV) (h : AH) : frun cl N S39 [v0, v1, v2, v3] h = fans (o39 cl N v0 v1 v2 v3 h) := by kernel_rfl
def w39 (N : Nat) : OF := fun cl args h => match args with
  | [v0, v1, v2, v3] => fans (o39 cl N v0 v1 v2 v3 h)
  | _ => none
theorem w39_ok (N : Nat) : OkF Tryz.prog 39 (w39 N) := .of (N := N) (S39_ok) fun cl args h r hr => by
  unfold w39 at hr
  split at hr
  · exact (o39_eq cl N _ _ _ _ _).trans hr
  · cases hr

/- widgetry/widgetryref14.Index -/
def S40.r0 : List AOpr := [
  q 2 (.box (x 0)),
  q 4 (.mov (.const (.int .i64 0)))]
def S40.r1 : List AOpr := [
  q 5 (.mov (.const (.int .i64 0)))]
def S40.r2 : List AOpr := [
  q 6 (.mov (x 5)),
  q 7 (.fldA 2 (x 2)),
  q 8 (.ld1 (x 7)),
  q 9 (.len (x 8)),
  q 10 (.arith .lss (x 6) (x 9))]
def S40.r3 : List AOpr := [
  q 13 (.fldA 2 (x 2)),
  q 14 (.ld1 (x 13)),
  q 15 (.mov (x 5)),
  q 16 (.idxA 7 (x 14) (x 15)),
  q 17 (.fldA 0 (x 16)),
  q 18 (.ld1 (x 17)),
  q 19 (.mov (x 1)),
  q 20 (.arith .eql (x 18) (x 19))]
def S40.r4 : List AOpr := [
  q 21 (.mov (x 5)),
  q 4 (.mov (x 21))]
def S40.r5 : List AOpr := [
  q 11 (.mov (x 5)),
  q 12 (.arith .add (x 11) (.const (.int .i64 1))),
  q 5 (.mov (x 12))]
def S40.r6 : List AOpr := [
  q 4 (.mov (.const (.int .i64 (-1))))]
def S40 : SFn := ⟨22, [.tmp 4], .seq (.reg S40.r0) (.seq (.seq (.reg S40.r1) (.block 0 (.loop [1, 2, 5] [4] (.seq (.seq (.reg S40.r2) (.cond (x 10) (.skip) (.exit 0))) (.seq (.block 1 (.seq (.reg S40.r3) (.cond (x 20) (.seq (.reg S40.r4) (.ret)) (.skip)))) (.reg S40.r5)))))) (.seq (.reg S40.r6) (.ret)))⟩
theorem S40_ok : EOk Tryz.prog 40 S40 := ⟨Tryz.f40, by kernel_rfl, by kernel_rfl, by decide, by kernel_rfl, its_nil (by kernel_rfl)⟩
def o40_s1 (cl : Handler) (N : Nat) (v1 v2 v5 : AV) (h : AH) : Ans :=
  some (.ret, [v1, v2, v5], [v5], h)
def o40_s2 (cl : Handler) (N : Nat) (v1 v2 v5 : AV) (h : AH) : Ans :=
  fst (kArith h .add v5 (.int .i64 1)) fun v12 h =>
  some (.nrm, [v1, v2, v12], [.undef], h)
def o40_l1 (cl : Handler) (N : Nat) (v1 v2 v5 : AV) (h : AH) : Ans :=
  fst (kFldA h 2 v2) fun v7 h =>
  fst (kLd1 h v7) fun v8 h =>
  fst (kLen h v8) fun v9 h =>
  fst (kArith h .lss v5 v9) fun v10 h =>
  fif v10 (
  fst (kFldA h 2 v2) fun v13 h =>
  fst (kLd1 h v13) fun v14 h =>
  fst (kIdxA h 7 v14 v5) fun v16 h =>
  fst (kFldA h 0 v16) fun v17 h =>
  fst (kLd1 h v17) fun v18 h =>
  fst (kArith h .eql v18 v1) fun v20 h =>
  fif v20 (
  o40_s1 cl N v1 v2 v5 h) (
  o40_s2 cl N v1 v2 v5 h)) (
  some ((.exit 0), [v1, v2, v5], [.undef], h))
def o40_c2 (cl : Handler) (N : Nat) (h : AH) : Ans :=
  some (.nrm, [], [(.int .i64 (-1))], h)
def o40_j3 (cl : Handler) (N : Nat) (x : AX) (v4 : AV) (h : AH) : Ans :=
  fxs x (o40_c2 cl N h) (fun j => cond (Nat.beq j 0) (o40_c2 cl N h) (none)) (some (.nrm, [], [v4], h))
def o40 (cl : Handler) (N : Nat) (v0 v1 : AV) (h : AH) : Ans :=
  fst (kBox h v0) fun v2 h =>
  fjn (fiter (fun vs h => o40_l1 cl N (nthD vs 0) (nthD vs 1) (nthD vs 2) h) N [v1, v2, (.int .i64 0)] h) fun x vs h => o40_j3 cl N x (nthD vs 0) h
theorem o40_eq (cl : Handler) (N : Nat) (v0 v1 : AV) (h : AH) : frun cl N S40 [v0, v1] h = fans (o40 cl N v0 v1 h) := by kernel_rfl
def w40 (N : Nat) : OF := fun cl args h => match args with
  | [v0, v1] => fans (o40 cl N v0 v1 h)
  | _ => none
theorem w40_ok (N : Nat) : OkF Tryz.prog 40 (w40 N) := .of (N := N) (S40_ok) fun cl args h r hr => by
  unfold w40 at hr
  split at hr
  · exact (o40_eq cl N _ _ _).trans hr
  · cases hr

def S41.z0 : List AV := [.int .i64 0, .int .i64 0, .int .i64 0, .str [], .nilsl, .nilsl, .nilsl]
/- widgetry/widgetryref14.Node -/
def S41.r0 : List AOpr := [
  q 2 (.box (x 0)),
  q 4 (.new S41.z0)]
def S41.r1 : List AOpr := [
  q 6 (.ldn 3 (x 2)),
  q 7 (.mov (x 1)),
  q 8 (.call (.const (.func (.func 40) [] [])) [.tmp 6, .tmp 7]),
  q 5 (.mov (x 8))]
def S41.r2 : List AOpr := [
  q 9 (.mov (x 5)),
  q 10 (.arith .lss (x 9) (.const (.int .i64 0)))]
def S41.r3 : List AOpr := [
  q 11 (.build S41.z0 []),
  ⟨none, .st 7 (x 4) (x 11), none⟩]
def S41.r4 : List AOpr := [
  q 12 (.fldA 2 (x 2)),
  q 13 (.ld1 (x 12)),
  q 14 (.mov (x 5)),
  q 15 (.idxA 7 (x 13) (x 14)),
  q 16 (.ldn 7 (x 15)),
  ⟨none, .st 7 (x 4) (x 16), none⟩]
def S41 : SFn := ⟨17, [.cell 4 (some 7)], .seq (.reg S41.r0) (.seq (.reg S41.r1) (.seq (.seq (.reg S41.r2) (.cond (x 10) (.seq (.reg S41.r3) (.ret)) (.skip))) (.seq (.reg S41.r4) (.ret))))⟩
theorem S41_ok : EOk Tryz.prog 41 S41 := ⟨Tryz.f41, by kernel_rfl, by kernel_rfl, by decide, by kernel_rfl, its_nil (by kernel_rfl)⟩
def o41 (cl : Handler) (N : Nat) (v0 v1 : AV) (h : AH) : Ans :=
  fst (kBox h v0) fun v2 h =>
  fst (kNew h S41.z0) fun v4 h =>
  fst (kLdn h 3 v2) fun v6 h =>
  fst (cl 40 [v6, v1] h) fun v8 h =>
  fst (kArith h .lss v8 (.int .i64 0)) fun v10 h =>
  fif v10 (
  fst (kBuild h S41.z0 []) fun v11 h =>
  fst (kSt h 7 v4 v11) fun _ h =>
  fres (aresV h [.cell (v4) (some 7)]) h) (
  fst (kFldA h 2 v2) fun v12 h =>
  fst (kLd1 h v12) fun v13 h =>
  fst (kIdxA h 7 v13 v8) fun v15 h =>
  fst (kLdn h 7 v15) fun v16 h =>
  fst (kSt h 7 v4 v16) fun _ h =>
  fres (aresV h [.cell (v4) (some 7)]) h)
theorem o41_eq (cl : Handler) (N : Nat) (v0 v1 : AV) (h : AH) : frun cl N S41 [v0, v1] h = fans (o41 cl N v0 v1 h) := by kernel_rfl
def w41 (N : Nat) : OF := fun cl args h => match args with
  | [v0, v1] => fans (o41 cl N v0 v1 h)
  | _ => none
theorem w41_ok (N : Nat) : OkF Tryz.prog 41 (w41 N) := .of (N := N) (S41_ok) fun cl args h r hr => by
  unfold w41 at hr
  split at hr
  · exact (o41_eq cl N _ _ _).trans hr
  · cases hr

def S42.z0 : List AV := [.int .i64 0, .int .i64 0, .int .i64 0, .str [], .nilsl, .nilsl, .nilsl]
/- (widgetry/widgetryref29.Facts).Path -/
def S42.r0 : List AOpr := [
  q 2 (.box (x 0)),
  q 4 (.mov (.const (.nilsl)))]
def S42.r1 : List AOpr := [
  q 8 (.fldA 4 (x 2)),
  q 9 (.ld1 (x 8)),
  q 10 (.len (x 9)),
  q 11 (.arith .eql (x 10) (.const (.int .i64 0)))]
def S42.r2 : List AOpr := [
  q 4 (.mov (.const (.nilsl)))]
def S42.r3 : List AOpr := [
  q 5 (.mov (.const (.nilsl)))]
def S42.r4 : List AOpr := [
  q 13 (.fldA 0 (x 2)),
  q 14 (.ldn 3 (x 13)),
  q 15 (.mov (x 1)),
  q 16 (.call (.const (.func (.func 16) [] [])) [.tmp 14, .tmp 15]),
  q 12 (.mov (x 16)),
  q 17 (.ext (x 12) 0),
  q 18 (.ext (x 12) 1),
  q 6 (.new S42.z0),
  ⟨none, .st 7 (x 6) (x 17), none⟩,
  q 7 (.mov (x 18))]
def S42.r5 : List AOpr := [
  q 19 (.mov (x 7))]
def S42.r6 : List AOpr := [
  q 28 (.fldA 0 (x 6)),
  q 29 (.ld1 (x 28)),
  q 30 (.buildSl 1 1 [.int .i64 0] [(0, 1, .tmp 29)]),
  q 31 (.mov (x 5)),
  q 32 (.app 1 8 (x 30) (x 31)),
  q 5 (.mov (x 32))]
def S42.r7 : List AOpr := [
  q 33 (.ldn 7 (x 6))]
def S42.r8 : List AOpr := [
  q 6 (.new S42.z0),
  ⟨none, .st 7 (x 6) (x 33), none⟩]
def S42.r9 : List AOpr := [
  q 21 (.fldA 0 (x 2)),
  q 22 (.ldn 3 (x 21)),
  q 23 (.fldA 1 (x 6)),
  q 24 (.ld1 (x 23)),
  q 25 (.call (.const (.func (.func 16) [] [])) [.tmp 22, .tmp 24]),
  q 20 (.mov (x 25)),
  q 26 (.ext (x 20) 0),
  q 27 (.ext (x 20) 1),
  ⟨none, .st 7 (x 6) (x 26), none⟩,
  q 7 (.mov (x 27))]
def S42.r10 : List AOpr := [
  q 34 (.mov (x 5)),
  q 4 (.mov (x 34))]
def S42 : SFn := ⟨35, [.tmp 4], .seq (.reg S42.r0) (.seq (.seq (.reg S42.r1) (.cond (x 11) (.seq (.reg S42.r2) (.ret)) (.skip))) (.seq (.reg S42.r3) (.seq (.seq (.reg S42.r4) (.block 0 (.loop [2, 5, 6, 7] [5] (.seq (.seq (.reg S42.r5) (.cond (x 19) (.skip) (.exit 0))) (.seq (.block 1 (.reg S42.r6)) (.seq (.seq (.reg S42.r7) (.reg S42.r8)) (.reg S42.r9))))))) (.seq (.reg S42.r10) (.ret)))))⟩
theorem S42_ok : EOk Tryz.prog 42 S42 := ⟨Tryz.f42, by kernel_rfl, by kernel_rfl, by decide, by kernel_rfl, its_nil (by kernel_rfl)⟩
def o42_s1 (cl : Handler) (N : Nat) (v2 v5 v6 v22 v23 : AV) (h : AH) : Ans :=
  fst (kLd1 h v23) fun v24 h =>
  fst (cl 16 [v22, v24] h) fun v25 h =>
  fst (kExt h v25 0) fun v26 h =>
  fst (kExt h v25 1) fun v27 h =>
  fst (kSt h 7 v6 v26) fun _ h =>
  some (.nrm, [v2, v5, v6, v27], [v5], h)
def o42_l1 (cl : Handler) (N : Nat) (v2 v5 v6 v7 : AV) (h : AH) : Ans :=
  fif v7 (
  fst (kFldA h 0 v6) fun v28 h =>
  fst (kLd1 h v28) fun v29 h =>
  fst (kBuildSl h 1 1 [.int .i64 0] [(0, 1, v29)]) fun v30 h =>
  fst (kApp h 1 8 v30 v5) fun v32 h =>
  fst (kLdn h 7 v6) fun v33 h =>
  fst (kNew h S42.z0) fun v6 h =>
  fst (kSt h 7 v6 v33) fun _ h =>
  fst (kFldA h 0 v2) fun v21 h =>
  fst (kLdn h 3 v21) fun v22 h =>
  fst (kFldA h 1 v6) fun v23 h =>
  o42_s1 cl N v2 v32 v6 v22 v23 h) (
  some ((.exit 0), [v2, v5, v6, v7], [v5], h))
def o42_c2 (cl : Handler) (N : Nat) (v5 : AV) (h : AH) : Ans :=
  some (.nrm, [], [v5], h)
def o42_j3 (cl : Handler) (N : Nat) (x : AX) (v5 : AV) (h : AH) : Ans :=
  fxs x (o42_c2 cl N v5 h) (fun j => cond (Nat.beq j 0) (o42_c2 cl N v5 h) (none)) (some (.nrm, [], [.undef], h))
def o42_s2 (cl : Handler) (N : Nat) (v2 v5 v17 v18 : AV) (h : AH) : Ans :=
  fst (kNew h S42.z0) fun v6 h =>
  fst (kSt h 7 v6 v17) fun _ h =>
  fjn (fiter (fun vs h => o42_l1 cl N (nthD vs 0) (nthD vs 1) (nthD vs 2) (nthD vs 3) h) N [v2, v5, v6, v18] h) fun x vs h => o42_j3 cl N x (nthD vs 0) h
def o42 (cl : Handler) (N : Nat) (v0 v1 : AV) (h : AH) : Ans :=
  fst (kBox h v0) fun v2 h =>
  fst (kFldA h 4 v2) fun v8 h =>
  fst (kLd1 h v8) fun v9 h =>
  fst (kLen h v9) fun v10 h =>
  fst (kArith h .eql v10 (.int .i64 0)) fun v11 h =>
  fif v11 (
  some (.nrm, [], [(.nilsl)], h)) (
  fst (kFldA h 0 v2) fun v13 h =>
  fst (kLdn h 3 v13) fun v14 h =>
  fst (cl 16 [v14, v1] h) fun v16 h =>
  fst (kExt h v16 0) fun v17 h =>
  fst (kExt h v16 1) fun v18 h =>
  o42_s2 cl N v2 (.nilsl) v17 v18 h)
theorem o42_eq (cl : Handler) (N : Nat) (v0 v1 : AV) (h : AH) : frun cl N S42 [v0, v1] h = fans (o42 cl N v0 v1 h) := by kernel_rfl
def w42 (N : Nat) : OF := fun cl args h => match args with
  | [v0, v1] => fans (o42 cl N v0 v1 h)
  | _ => none
theorem w42_ok (N : Nat) : OkF Tryz.prog 42 (w42 N) := .of (N := N) (S42_ok) fun cl args h r hr => by
  unfold w42 at hr
  split at hr
  · exact (o42_eq cl N _ _ _).trans hr
  · cases hr

/- widgetry/widgetryref37.natural -/
def S43.r0 : List AOpr := [
  q 2 (.box (x 0)),
  q 3 (.box (x 1)),
  q 4 (.mov (.const (.int .i64 0)))]
def S43.r1 : List AOpr := [
  q 8 (.fldA 4 (x 3)),
  q 9 (.ld1 (x 8)),
  q 10 (.call (.const (.func (.func 28) [] [])) [.tmp 9, .const (.str [114, 111, 108, 101])]),
  q 5 (.mov (x 10))]
def S43.r2 : List AOpr := [
  q 6 (.mov (.const (.int .i64 0)))]
def S43.r3 : List AOpr := [
  q 11 (.mov (x 6)),
  q 12 (.call (.const (.func (.func 77) [] [])) []),
  q 13 (.len (x 12)),
  q 14 (.arith .lss (x 11) (x 13))]
def S43.r4 : List AOpr := [
  q 17 (.mov (x 5)),
  q 18 (.call (.const (.func (.func 77) [] [])) []),
  q 19 (.mov (x 6)),
  q 20 (.idxA 1 (x 18) (x 19)),
  q 21 (.ld1 (x 20)),
  q 22 (.arith .eql (x 17) (x 21))]
def S43.r5 : List AOpr := [
  q 23 (.mov (x 6)),
  q 4 (.mov (x 23))]
def S43.r6 : List AOpr := [
  q 15 (.mov (x 6)),
  q 16 (.arith .add (x 15) (.const (.int .i64 1))),
  q 6 (.mov (x 16))]
def S43.r7 : List AOpr := [
  q 24 (.fldA 4 (x 3)),
  q 25 (.ld1 (x 24)),
  q 26 (.call (.const (.func (.func 28) [] [])) [.tmp 25, .const (.str [108, 97, 98, 101, 108])]),
  q 27 (.arith .neq (x 26) (.const (.str []))),
  q 7 (.mov (x 27))]
def S43.r8 : List AOpr := [
  q 28 (.fldA 2 (x 3)),
  q 29 (.ld1 (x 28))]
def S43.r9 : List AOpr := [
  q 31 (.arith .eql (x 29) (.const (.int .i64 2))),
  q 30 (.mov (x 31))]
def S43.r10 : List AOpr := [
  q 4 (.mov (.const (.int .i64 3)))]
def S43.r11 : List AOpr := [
  q 33 (.arith .eql (x 29) (.const (.int .i64 3))),
  q 32 (.mov (x 33))]
def S43.r12 : List AOpr := [
  q 4 (.mov (.const (.int .i64 4)))]
def S43.r13 : List AOpr := [
  q 35 (.arith .eql (x 29) (.const (.int .i64 4))),
  q 34 (.mov (x 35))]
def S43.r14 : List AOpr := [
  q 4 (.mov (.const (.int .i64 5)))]
def S43.r15 : List AOpr := [
  q 37 (.arith .eql (x 29) (.const (.int .i64 6))),
  q 36 (.mov (x 37))]
def S43.r16 : List AOpr := [
  q 4 (.mov (.const (.int .i64 7)))]
def S43.r17 : List AOpr := [
  q 39 (.arith .eql (x 29) (.const (.int .i64 7))),
  q 38 (.mov (x 39))]
def S43.r18 : List AOpr := [
  q 4 (.mov (.const (.int .i64 8)))]
def S43.r19 : List AOpr := [
  q 41 (.arith .eql (x 29) (.const (.int .i64 8))),
  q 40 (.mov (x 41))]
def S43.r20 : List AOpr := [
  q 4 (.mov (.const (.int .i64 9)))]
def S43.r21 : List AOpr := [
  q 43 (.arith .eql (x 29) (.const (.int .i64 9))),
  q 42 (.mov (x 43))]
def S43.r22 : List AOpr := [
  q 4 (.mov (.const (.int .i64 10)))]
def S43.r23 : List AOpr := [
  q 45 (.arith .eql (x 29) (.const (.int .i64 10))),
  q 44 (.mov (x 45))]
def S43.r24 : List AOpr := [
  q 4 (.mov (.const (.int .i64 11)))]
def S43.r25 : List AOpr := [
  q 47 (.arith .eql (x 29) (.const (.int .i64 11))),
  q 46 (.mov (x 47))]
def S43.r26 : List AOpr := [
  q 4 (.mov (.const (.int .i64 12)))]
def S43.r27 : List AOpr := [
  q 49 (.arith .eql (x 29) (.const (.int .i64 12))),
  q 48 (.mov (x 49))]
def S43.r28 : List AOpr := [
  q 4 (.mov (.const (.int .i64 13)))]
def S43.r29 : List AOpr := [
  q 51 (.arith .eql (x 29) (.const (.int .i64 13))),
  q 50 (.mov (x 51))]
def S43.r30 : List AOpr := [
  q 4 (.mov (.const (.int .i64 14)))]
def S43.r31 : List AOpr := [
  q 53 (.arith .eql (x 29) (.const (.int .i64 5))),
  q 52 (.mov (x 53))]
def S43.r32 : List AOpr := [
  q 54 (.mov (x 7))]
def S43.r33 : List AOpr := [
  q 4 (.mov (.const (.int .i64 6)))]
def S43.r34 : List AOpr := [
  q 4 (.mov (.const (.int .i64 0)))]
def S43.r35 : List AOpr := [
  q 56 (.ldn 3 (x 2)),
  q 57 (.fldA 0 (x 3)),
  q 58 (.ld1 (x 57)),
  q 59 (.call (.const (.func (.func 44) [] [])) [.tmp 56, .tmp 58]),
  q 55 (.mov (x 59))]
def S43.r36 : List AOpr := [
  q 4 (.mov (.const (.int .i64 4)))]
def S43.r37 : List AOpr := [
  q 61 (.ldn 7 (x 3)),
  q 62 (.call (.const (.func (.func 78) [] [])) [.tmp 61]),
  q 60 (.mov (x 62))]
def S43.r38 : List AOpr := [
  q 4 (.mov (.const (.int .i64 15)))]
def S43.r39 : List AOpr := [
  q 64 (.mov (x 7)),
  q 63 (.mov (x 64))]
def S43.r40 : List AOpr := [
  q 4 (.mov (.const (.int .i64 2)))]
def S43.r41 : List AOpr := [
  q 4 (.mov (.const (.int .i64 0)))]
def S43 : SFn := ⟨65, [.tmp 4], .seq (.reg S43.r0) (.seq (.reg S43.r1) (.seq (.seq (.reg S43.r2) (.block 0 (.loop [2, 3, 5, 6] [2, 3, 4] (.seq (.seq (.reg S43.r3) (.cond (x 14) (.skip) (.exit 0))) (.seq (.block 1 (.seq (.reg S43.r4) (.cond (x 22) (.seq (.reg S43.r5) (.ret)) (.skip)))) (.reg S43.r6)))))) (.seq (.reg S43.r7) (.seq (.seq (.reg S43.r8) (.block 2 (.seq (.reg S43.r9) (.cond (x 30) (.seq (.reg S43.r10) (.ret)) (.seq (.reg S43.r11) (.cond (x 32) (.seq (.reg S43.r12) (.ret)) (.seq (.reg S43.r13) (.cond (x 34) (.seq (.reg S43.r14) (.ret)) (.seq (.reg S43.r15) (.cond (x 36) (.seq (.reg S43.r16) (.ret)) (.seq (.reg S43.r17) (.cond (x 38) (.seq (.reg S43.r18) (.ret)) (.seq (.reg S43.r19) (.cond (x 40) (.seq (.reg S43.r20) (.ret)) (.seq (.reg S43.r21) (.cond (x 42) (.seq (.reg S43.r22) (.ret)) (.seq (.reg S43.r23) (.cond (x 44) (.seq (.reg S43.r24) (.ret)) (.seq (.reg S43.r25) (.cond (x 46) (.seq (.reg S43.r26) (.ret)) (.seq (.reg S43.r27) (.cond (x 48) (.seq (.reg S43.r28) (.ret)) (.seq (.reg S43.r29) (.cond (x 50) (.seq (.reg S43.r30) (.ret)) (.seq (.reg S43.r31) (.cond (x 52) (.seq (.seq (.reg S43.r32) (.cond (x 54) (.seq (.reg S43.r33) (.ret)) (.skip))) (.seq (.reg S43.r34) (.ret))) (.skip))))))))))))))))))))))))))) (.seq (.block 3 (.seq (.reg S43.r35) (.cond (x 55) (.seq (.reg S43.r36) (.ret)) (.seq (.reg S43.r37) (.cond (x 60) (.seq (.reg S43.r38) (.ret)) (.seq (.reg S43.r39) (.cond (x 63) (.seq (.reg S43.r40) (.ret)) (.skip)))))))) (.seq (.reg S43.r41) (.ret)))))))⟩
theorem S43_ok : EOk Tryz.prog 43 S43 := ⟨Tryz.f43, by kernel_rfl, by kernel_rfl, by decide, by kernel_rfl, its_nil (by kernel_rfl)⟩
def o43_l1 (cl : Handler) (N : Nat) (v2 v3 v5 v6 : AV) (h : AH) : Ans :=
  fst (cl 77 [] h) fun v12 h =>
  fst (kLen h v12) fun v13 h =>
  fst (kArith h .lss v6 v13) fun v14 h =>
  fif v14 (
  fst (cl 77 [] h) fun v18 h =>
  fst (kIdxA h 1 v18 v6) fun v20 h =>
  fst (kLd1 h v20) fun v21 h =>
  fst (kArith h .eql v5 v21) fun v22 h =>
  fif v22 (
  some (.ret, [v2, v3, v5, v6], [v2, v3, v6], h)) (
  fst (kArith h .add v6 (.int .i64 1)) fun v16 h =>
  some (.nrm, [v2, v3, v5, v16], [v2, v3, .undef], h))) (
  some ((.exit 0), [v2, v3, v5, v6], [v2, v3, .undef], h))
def o43_s1 (cl : Handler) (N : Nat) (v3 v7 v56 v57 : AV) (h : AH) : Ans :=
  fst (kLd1 h v57) fun v58 h =>
  fst (cl 44 [v56, v58] h) fun v59 h =>
  fif v59 (
  some (.nrm, [], [(.int .i64 4)], h)) (
  fst (kLdn h 7 v3) fun v61 h =>
  fst (cl 78 [v61] h) fun v62 h =>
  fif v62 (
  some (.nrm, [], [(.int .i64 15)], h)) (
  fif v7 (
  some (.nrm, [], [(.int .i64 2)], h)) (
  some (.nrm, [], [(.int .i64 0)], h))))
def o43_s2 (cl : Handler) (N : Nat) (v2 v3 v7 v29 v37 : AV) (h : AH) : Ans :=
  fif v37 (
  some (.nrm, [], [(.int .i64 7)], h)) (
  fst (kArith h .eql v29 (.int .i64 7)) fun v39 h =>
  fif v39 (
  some (.nrm, [], [(.int .i64 8)], h)) (
  fst (kArith h .eql v29 (.int .i64 8)) fun v41 h =>
  fif v41 (
  some (.nrm, [], [(.int .i64 9)], h)) (
  fst (kArith h .eql v29 (.int .i64 9)) fun v43 h =>
  fif v43 (
  some (.nrm, [], [(.int .i64 10)], h)) (
  fst (kArith h .eql v29 (.int .i64 10)) fun v45 h =>
  fif v45 (
  some (.nrm, [], [(.int .i64 11)], h)) (
  fst (kArith h .eql v29 (.int .i64 11)) fun v47 h =>
  fif v47 (
  some (.nrm, [], [(.int .i64 12)], h)) (
  fst (kArith h .eql v29 (.int .i64 12)) fun v49 h =>
  fif v49 (
  some (.nrm, [], [(.int .i64 13)], h)) (
  fst (kArith h .eql v29 (.int .i64 13)) fun v51 h =>
  fif v51 (
  some (.nrm, [], [(.int .i64 14)], h)) (
  fst (kArith h .eql v29 (.int .i64 5)) fun v53 h =>
  fif v53 (
  fif v7 (
  some (.nrm, [], [(.int .i64 6)], h)) (
  some (.nrm, [], [(.int .i64 0)], h))) (
  fst (kLdn h 3 v2) fun v56 h =>
  fst (kFldA h 0 v3) fun v57 h =>
  o43_s1 cl N v3 v7 v56 v57 h)))))))))
def o43_c2 (cl : Handler) (N : Nat) (v2 v3 : AV) (h : AH) : Ans :=
  fst (kFldA h 4 v3) fun v24 h =>
  fst (kLd1 h v24) fun v25 h =>
  fst (cl 28 [v25, (.str [108, 97, 98, 101, 108])] h) fun v26 h =>
  fst (kArith h .neq v26 (.str [])) fun v27 h =>
  fst (kFldA h 2 v3) fun v28 h =>
  fst (kLd1 h v28) fun v29 h =>
  fst (kArith h .eql v29 (.int .i64 2)) fun v31 h =>
  fif v31 (
  some (.nrm, [], [(.int .i64 3)], h)) (
  fst (kArith h .eql v29 (.int .i64 3)) fun v33 h =>
  fif v33 (
  some (.nrm, [], [(.int .i64 4)], h)) (
  fst (kArith h .eql v29 (.int .i64 4)) fun v35 h =>
  fif v35 (
  some (.nrm, [], [(.int .i64 5)], h)) (
  fst (kArith h .eql v29 (.int .i64 6)) fun v37 h =>
  o43_s2 cl N v2 v3 v27 v29 v37 h)))
def o43_j3 (cl : Handler) (N : Nat) (x : AX) (v2 v3 v4 : AV) (h : AH) : Ans :=
  fxs x (o43_c2 cl N v2 v3 h) (fun j => cond (Nat.beq j 0) (o43_c2 cl N v2 v3 h) (none)) (some (.nrm, [], [v4], h))
def o43 (cl : Handler) (N : Nat) (v0 v1 : AV) (h : AH) : Ans :=
  fst (kBox h v0) fun v2 h =>
  fst (kBox h v1) fun v3 h =>
  fst (kFldA h 4 v3) fun v8 h =>
  fst (kLd1 h v8) fun v9 h =>
  fst (cl 28 [v9, (.str [114, 111, 108, 101])] h) fun v10 h =>
  fjn (fiter (fun vs h => o43_l1 cl N (nthD vs 0) (nthD vs 1) (nthD vs 2) (nthD vs 3) h) N [v2, v3, v10, (.int .i64 0)] h) fun x vs h => o43_j3 cl N x (nthD vs 0) (nthD vs 1) (nthD vs 2) h
theorem o43_eq (cl : Handler) (N : Nat) (v0 v1 : AV) (h : AH) : frun cl N S43 [v0, v1] h = fans (o43 cl N v0 v1 h) := by kernel_rfl
def w43 (N : Nat) : OF := fun cl args h => match args with
  | [v0, v1] => fans (o43 cl N v0 v1 h)
  | _ => none
theorem w43_ok (N : Nat) : OkF Tryz.prog 43 (w43 N) := .of (N := N) (S43_ok) fun cl args h r hr => by
  unfold w43 at hr
  split at hr
  · exact (o43_eq cl N _ _ _).trans hr
  · cases hr

def S44.z0 : List AV := [.int .i64 0, .int .i64 0, .int .i64 0, .str [], .nilsl, .nilsl, .nilsl]
/- widgetry/widgetryref31.Pressable -/
def S44.r0 : List AOpr := [
  q 2 (.box (x 0)),
  q 4 (.mov (.const (.bool false)))]
def S44.r1 : List AOpr := [
  q 8 (.ldn 3 (x 2)),
  q 9 (.mov (x 1)),
  q 10 (.call (.const (.func (.func 16) [] [])) [.tmp 8, .tmp 9]),
  q 7 (.mov (x 10)),
  q 11 (.ext (x 7) 0),
  q 12 (.ext (x 7) 1),
  q 5 (.new S44.z0),
  ⟨none, .st 7 (x 5) (x 11), none⟩,
  q 6 (.mov (x 12))]
def S44.r2 : List AOpr := [
  q 13 (.mov (x 6)),
  q 14 (.mov (x 13)),
  ⟨some 15, .ldn 7 (x 5), some (14, true)⟩,
  ⟨some 16, .call (.const (.func (.func 67) [] [])) [.tmp 15], some (14, true)⟩,
  q 17 (.pick (x 14) (x 16) (.const (.bool false))),
  q 4 (.mov (x 17))]
def S44 : SFn := ⟨18, [.tmp 4], .seq (.reg S44.r0) (.seq (.reg S44.r1) (.seq (.reg S44.r2) (.ret)))⟩
theorem S44_ok : EOk Tryz.prog 44 S44 := ⟨Tryz.f44, by kernel_rfl, by kernel_rfl, by decide, by kernel_rfl, its_nil (by kernel_rfl)⟩
def o44_s1 (cl : Handler) (N : Nat) (v17 : AV) (h : AH) : Ans :=
  some (.nrm, [], [v17], h)
def o44 (cl : Handler) (N : Nat) (v0 v1 : AV) (h : AH) : Ans :=
  fst (kBox h v0) fun v2 h =>
  fst (kLdn h 3 v2) fun v8 h =>
  fst (cl 16 [v8, v1] h) fun v10 h =>
  fst (kExt h v10 0) fun v11 h =>
  fst (kExt h v10 1) fun v12 h =>
  fst (kNew h S44.z0) fun v5 h =>
  fst (kSt h 7 v5 v11) fun _ h =>
  fgd (gdv true v12) (kLdn h 7 v5) h fun v15 h =>
  fgd (gdv true v12) (cl 67 [v15] h) h fun v16 h =>
  fst (kPick h v12 v16 (.bool false)) fun v17 h =>
  o44_s1 cl N v17 h
theorem o44_eq (cl : Handler) (N : Nat) (v0 v1 : AV) (h : AH) : frun cl N S44 [v0, v1] h = fans (o44 cl N v0 v1 h) := by kernel_rfl
def w44 (N : Nat) : OF := fun cl args h => match args with
  | [v0, v1] => fans (o44 cl N v0 v1 h)
  | _ => none
theorem w44_ok (N : Nat) : OkF Tryz.prog 44 (w44 N) := .of (N := N) (S44_ok) fun cl args h r hr => by
  unfold w44 at hr
  split at hr
  · exact (o44_eq cl N _ _ _).trans hr
  · cases hr

def S45.z0 : List AV := [.int .i64 0, .int .i64 0, .str [], .nilsl]
/- widgetry/widgetryref14.Flag -/
def S45.r0 : List AOpr := [
  q 4 (.mov (.const (.bool false)))]
def S45.r1 : List AOpr := [
  q 8 (.mov (x 0)),
  q 9 (.mov (x 1)),
  q 10 (.call (.const (.func (.func 60) [] [])) [.tmp 8, .tmp 9]),
  q 7 (.mov (x 10)),
  q 11 (.ext (x 7) 0),
  q 12 (.ext (x 7) 1),
  q 5 (.new S45.z0),
  ⟨none, .st 4 (x 5) (x 11), none⟩,
  q 6 (.mov (x 12))]
def S45.r2 : List AOpr := [
  q 13 (.fldA 0 (x 5)),
  q 14 (.ld1 (x 13)),
  q 15 (.arith .eql (x 14) (.const (.int .i64 2))),
  q 16 (.mov (x 15)),
  ⟨some 17, .fldA 1 (x 5), some (16, true)⟩,
  ⟨some 18, .ld1 (x 17), some (16, true)⟩,
  ⟨some 19, .arith .eql (x 18) (.const (.int .i64 1)), some (16, true)⟩,
  q 20 (.pick (x 16) (x 19) (.const (.bool false))),
  q 4 (.mov (x 20))]
def S45 : SFn := ⟨21, [.tmp 4], .seq (.reg S45.r0) (.seq (.reg S45.r1) (.seq (.reg S45.r2) (.ret)))⟩
theorem S45_ok : EOk Tryz.prog 45 S45 := ⟨Tryz.f45, by kernel_rfl, by kernel_rfl, by decide, by kernel_rfl, its_nil (by kernel_rfl)⟩
def o45_s1 (cl : Handler) (N : Nat) (v16 v18 : AV) (h : AH) : Ans :=
  fgd (gdv true v16) (kArith h .eql v18 (.int .i64 1)) h fun v19 h =>
  fst (kPick h v16 v19 (.bool false)) fun v20 h =>
  some (.nrm, [], [v20], h)
def o45 (cl : Handler) (N : Nat) (v0 v1 : AV) (h : AH) : Ans :=
  fst (cl 60 [v0, v1] h) fun v10 h =>
  fst (kExt h v10 0) fun v11 h =>
  fst (kExt h v10 1) fun v12 h =>
  fst (kNew h S45.z0) fun v5 h =>
  fst (kSt h 4 v5 v11) fun _ h =>
  fst (kFldA h 0 v5) fun v13 h =>
  fst (kLd1 h v13) fun v14 h =>
  fst (kArith h .eql v14 (.int .i64 2)) fun v15 h =>
  fgd (gdv true v15) (kFldA h 1 v5) h fun v17 h =>
  fgd (gdv true v15) (kLd1 h v17) h fun v18 h =>
  o45_s1 cl N v15 v18 h
theorem o45_eq (cl : Handler) (N : Nat) (v0 v1 : AV) (h : AH) : frun cl N S45 [v0, v1] h = fans (o45 cl N v0 v1 h) := by kernel_rfl
def w45 (N : Nat) : OF := fun cl args h => match args with
  | [v0, v1] => fans (o45 cl N v0 v1 h)
  | _ => none
theorem w45_ok (N : Nat) : OkF Tryz.prog 45 (w45 N) := .of (N := N) (S45_ok) fun cl args h r hr => by
  unfold w45 at hr
  split at hr
  · exact (o45_eq cl N _ _ _).trans hr
  · cases hr

/- widgetry/widgetryref38.referred -/
def S46.r0 : List AOpr := [
  q 4 (.box (x 0)),
  q 6 (.box (x 2)),
  q 8 (.mov (.const (.str [])))]
def S46.r1 : List AOpr := [
  q 12 (.ldn 7 (x 6)),
  q 13 (.mov (x 3)),
  q 14 (.call (.const (.func (.func 58) [] [])) [.tmp 12, .tmp 13]),
  q 9 (.mov (x 14))]
def S46.r2 : List AOpr := [
  q 10 (.mov (.const (.str [])))]
def S46.r3 : List AOpr := [
  q 11 (.mov (.const (.int .i64 0)))]
def S46.r4 : List AOpr := [
  q 15 (.mov (x 11)),
  q 16 (.mov (x 9)),
  q 17 (.len (x 16)),
  q 18 (.arith .lss (x 15) (x 17))]
def S46.r5 : List (AOpr × Nat) := [
  (q 21 (.mov (x 10)), 0),
  (q 22 (.ldn 6 (x 4)), 0),
  (q 23 (.mov (x 1)), 0),
  (q 24 (.fldA 0 (x 4)), 0),
  (q 25 (.ldn 3 (x 24)), 8),
  (q 26 (.mov (x 9)), 0),
  (q 27 (.mov (x 11)), 0),
  (q 28 (.idxA 1 (x 26) (x 27)), 96),
  (q 29 (.ld1 (x 28)), 224),
  (q 30 (.call (.const (.func (.func 59) [] [])) [.tmp 25, .tmp 29]), 504),
  (q 31 (.call (.const (.func (.func 80) [] [])) [.tmp 22, .tmp 23, .tmp 30]), 1022),
  (q 32 (.call (.const (.func (.func 79) [] [])) [.tmp 21, .tmp 31]), 2047),
  (q 10 (.mov (x 32)), 4095)]
def S46.r6 : List AOpr := [
  q 19 (.mov (x 11)),
  q 20 (.arith .add (x 19) (.const (.int .i64 1))),
  q 11 (.mov (x 20))]
def S46.r7 : List AOpr := [
  q 33 (.mov (x 10)),
  q 34 (.call (.const (.func (.func 47) [] [])) [.tmp 33]),
  q 8 (.mov (x 34))]
def S46 : SFn := ⟨35, [.tmp 8], .seq (.reg S46.r0) (.seq (.reg S46.r1) (.seq (.reg S46.r2) (.seq (.seq (.reg S46.r3) (.block 0 (.loop [1, 4, 9, 10, 11] [10] (.seq (.seq (.reg S46.r4) (.cond (x 18) (.skip) (.exit 0))) (.seq (.block 1 (.draw S46.r5)) (.reg S46.r6)))))) (.seq (.reg S46.r7) (.ret)))))⟩
theorem S46_ok : EOk Tryz.prog 46 S46 := ⟨Tryz.f46, by kernel_rfl, by kernel_rfl, by decide, by kernel_rfl, its_nil (by kernel_rfl)⟩
def o46_s1 (cl : Handler) (N : Nat) (c0 c1 c2 c3 c4 c5 c6 c7 : Rec) (v1 v4 v9 v10 v11 v21 v22 v23 v25 v28 : AV) (h : AH) : Ans :=
  fdp h (kLd1 h v28) (rdK (rdv v28)) fun v29 c8 h =>
  fde h (cl 59 [v25, v29] h) fun v30 c9 h =>
  fde h (cl 80 [v22, v23, v30] h) fun v31 c10 h =>
  fde h (cl 79 [v21, v31] h) fun v32 c11 h =>
  fdp h (kMov h v32) .pure fun v10 c12 h =>
  cond (fchk [c0, c1, c2, c3, c4, c5, c6, c7, c8, c9, c10, c11, c12] [(1, 9)]) (fst (kArith h .add v11 (.int .i64 1)) fun v20 h =>
  some (.nrm, [v1, v4, v9, v10, v20], [v10], h)) none
def o46_l1 (cl : Handler) (N : Nat) (v1 v4 v9 v10 v11 : AV) (h : AH) : Ans :=
  fst (kLen h v9) fun v17 h =>
  fst (kArith h .lss v11 v17) fun v18 h =>
  fif v18 (
  fdr h 13 fun r h =>
  fdp h (kMov h v10) .pure fun v21 c0 h =>
  fdp h (kLdn h 6 v4) (rdK (rdv v4)) fun v22 c1 h =>
  fdp h (kMov h v1) .pure fun v23 c2 h =>
  fdp h (kFldA h 0 v4) .pure fun v24 c3 h =>
  fdp h (kLdn h 3 v24) (rdK (rdv v24)) fun v25 c4 h =>
  fdp h (kMov h v9) .pure fun v26 c5 h =>
  fdp h (kMov h v11) .pure fun v27 c6 h =>
  fdp h (kIdxA h 1 v26 v27) .pure fun v28 c7 h =>
  o46_s1 cl N c0 c1 c2 c3 c4 c5 c6 c7 v1 v4 v9 v10 v11 v21 v22 v23 v25 v28 h) (
  some ((.exit 0), [v1, v4, v9, v10, v11], [v10], h))
def o46_c2 (cl : Handler) (N : Nat) (v10 : AV) (h : AH) : Ans :=
  fst (cl 47 [v10] h) fun v34 h =>
  some (.nrm, [], [v34], h)
def o46_j3 (cl : Handler) (N : Nat) (x : AX) (v10 : AV) (h : AH) : Ans :=
  fxs x (o46_c2 cl N v10 h) (fun j => cond (Nat.beq j 0) (o46_c2 cl N v10 h) (none)) (some (.nrm, [], [.undef], h))
def o46 (cl : Handler) (N : Nat) (v0 v1 v2 v3 : AV) (h : AH) : Ans :=
  fst (kBox h v0) fun v4 h =>
  fst (kBox h v2) fun v6 h =>
  fst (kLdn h 7 v6) fun v12 h =>
  fst (cl 58 [v12, v3] h) fun v14 h =>
  fjn (fiter (fun vs h => o46_l1 cl N (nthD vs 0) (nthD vs 1) (nthD vs 2) (nthD vs 3) (nthD vs 4) h) N [v1, v4, v14, (.str []), (.int .i64 0)] h) fun x vs h => o46_j3 cl N x (nthD vs 0) h
theorem o46_eq (cl : Handler) (N : Nat) (v0 v1 v2 v3 : AV) (h : AH) : frun cl N S46 [v0, v1, v2, v3] h = fans (o46 cl N v0 v1 v2 v3 h) := by kernel_rfl
def w46 (N : Nat) : OF := fun cl args h => match args with
  | [v0, v1, v2, v3] => fans (o46 cl N v0 v1 v2 v3 h)
  | _ => none
theorem w46_ok (N : Nat) : OkF Tryz.prog 46 (w46 N) := .of (N := N) (S46_ok) fun cl args h r hr => by
  unfold w46 at hr
  split at hr
  · exact (o46_eq cl N _ _ _ _ _).trans hr
  · cases hr

/- widgetry/widgetryref38.Clean -/
def S47.r0 : List AOpr := [
  q 2 (.mov (.const (.str [])))]
def S47.r1 : List AOpr := [
  q 3 (.mov (.const (.nilsl)))]
def S47.r2 : List AOpr := [
  q 4 (.mov (.const (.bool false)))]
def S47.r3 : List AOpr := [
  q 7 (.mov (x 0)),
  q 8 (.xo .s2r [.tmp 7]),
  q 5 (.mov (x 8))]
def S47.r4 : List AOpr := [
  q 6 (.mov (.const (.int .i64 0)))]
def S47.r5 : List AOpr := [
  q 9 (.mov (x 6)),
  q 10 (.mov (x 5)),
  q 11 (.len (x 10)),
  q 12 (.arith .lss (x 9) (x 11))]
def S47.r6 : List AOpr := [
  q 15 (.mov (x 5)),
  q 16 (.mov (x 6)),
  q 17 (.idxA 1 (x 15) (x 16)),
  q 18 (.ld1 (x 17)),
  q 19 (.call (.const (.func (.func 81) [] [])) [.tmp 18])]
def S47.r7 : List AOpr := [
  q 20 (.mov (x 3)),
  q 21 (.len (x 20)),
  q 22 (.arith .gtr (x 21) (.const (.int .i64 0))),
  q 4 (.mov (x 22))]
def S47.r8 : List AOpr := [
  q 23 (.mov (x 4))]
def S47.r9 : List AOpr := [
  q 24 (.mov (x 3)),
  q 25 (.buildSl 1 1 [.int .i32 0] [(0, 1, .const (.int .i32 32))]),
  q 26 (.app 1 4 (x 24) (x 25)),
  q 3 (.mov (x 26))]
def S47.r10 : List AOpr := [
  q 4 (.mov (.const (.bool false)))]
def S47.r11 : List AOpr := [
  q 27 (.mov (x 3)),
  q 28 (.mov (x 5)),
  q 29 (.mov (x 6)),
  q 30 (.idxA 1 (x 28) (x 29)),
  q 31 (.ld1 (x 30)),
  q 32 (.buildSl 1 1 [.int .i32 0] [(0, 1, .tmp 31)]),
  q 33 (.app 1 4 (x 27) (x 32)),
  q 3 (.mov (x 33))]
def S47.r12 : List AOpr := [
  q 13 (.mov (x 6)),
  q 14 (.arith .add (x 13) (.const (.int .i64 1))),
  q 6 (.mov (x 14))]
def S47.r13 : List AOpr := [
  q 34 (.mov (x 3)),
  q 35 (.mov (x 3)),
  q 36 (.len (x 35)),
  q 37 (.mnmx false (x 36) (.const (.int .i64 200))),
  q 38 (.sl 1 (x 34) none (some (x 37)) none),
  q 39 (.xo .r2s [.tmp 38]),
  q 2 (.mov (x 39))]
def S47 : SFn := ⟨40, [.tmp 2], .seq (.reg S47.r0) (.seq (.reg S47.r1) (.seq (.reg S47.r2) (.seq (.reg S47.r3) (.seq (.seq (.reg S47.r4) (.block 0 (.loop [3, 4, 5, 6] [3] (.seq (.seq (.reg S47.r5) (.cond (x 12) (.skip) (.exit 0))) (.seq (.joinN [3, 4, 5, 6] (.block 1 (.seq (.seq (.reg S47.r6) (.cond (x 19) (.seq (.reg S47.r7) (.exit 1)) (.skip))) (.seq (.seq (.reg S47.r8) (.joinN [3, 4, 5, 6] (.cond (x 23) (.seq (.reg S47.r9) (.reg S47.r10)) (.skip)))) (.reg S47.r11))))) (.reg S47.r12)))))) (.seq (.reg S47.r13) (.ret))))))⟩
theorem S47_ok : EOk Tryz.prog 47 S47 := ⟨Tryz.f47, by kernel_rfl, by kernel_rfl, by decide, by kernel_rfl, its_nil (by kernel_rfl)⟩
def o47_a1 (cl : Handler) (N : Nat) (v3 v4 v5 v6 v23 : AV) (h : AH) : Ans :=
  fif v23 (
  fst (kBuildSl h 1 1 [.int .i32 0] [(0, 1, (.int .i32 32))]) fun v25 h =>
  fst (kApp h 1 4 v3 v25) fun v26 h =>
  some (.nrm, [], [v26, (.bool false), v5, v6], h)) (
  some (.nrm, [], [v3, v4, v5, v6], h))
def o47_j2 (cl : Handler) (N : Nat) (v3 v4 v5 v6 : AV) (h : AH) : Ans :=
  fst (kIdxA h 1 v5 v6) fun v30 h =>
  fst (kLd1 h v30) fun v31 h =>
  fst (kBuildSl h 1 1 [.int .i32 0] [(0, 1, v31)]) fun v32 h =>
  fst (kApp h 1 4 v3 v32) fun v33 h =>
  some (.nrm, [], [v33, v4, v5, v6], h)
def o47_a3 (cl : Handler) (N : Nat) (v3 v4 v5 v6 : AV) (h : AH) : Ans :=
  fst (kIdxA h 1 v5 v6) fun v17 h =>
  fst (kLd1 h v17) fun v18 h =>
  fst (cl 81 [v18] h) fun v19 h =>
  fif v19 (
  fst (kLen h v3) fun v21 h =>
  fst (kArith h .gtr v21 (.int .i64 0)) fun v22 h =>
  some (.nrm, [], [v3, v22, v5, v6], h)) (
  fjn (o47_a1 cl N v3 v4 v5 v6 v4 h) fun _ vs h => o47_j2 cl N (nthD vs 0) (nthD vs 1) (nthD vs 2) (nthD vs 3) h)
def o47_j4 (cl : Handler) (N : Nat) (v3 v4 v5 v6 : AV) (h : AH) : Ans :=
  fst (kArith h .add v6 (.int .i64 1)) fun v14 h =>
  some (.nrm, [v3, v4, v5, v14], [v3], h)
def o47_l5 (cl : Handler) (N : Nat) (v3 v4 v5 v6 : AV) (h : AH) : Ans :=
  fst (kLen h v5) fun v11 h =>
  fst (kArith h .lss v6 v11) fun v12 h =>
  fif v12 (
  fjn (o47_a3 cl N v3 v4 v5 v6 h) fun _ vs h => o47_j4 cl N (nthD vs 0) (nthD vs 1) (nthD vs 2) (nthD vs 3) h) (
  some ((.exit 0), [v3, v4, v5, v6], [v3], h))
def o47_c6 (cl : Handler) (N : Nat) (v3 : AV) (h : AH) : Ans :=
  fst (kLen h v3) fun v36 h =>
  fst (kMnmx h false v36 (.int .i64 200)) fun v37 h =>
  fst (kSl h 1 v3 none (some v37) none) fun v38 h =>
  fst (kX h .r2s [v38]) fun v39 h =>
  some (.nrm, [], [v39], h)
def o47_j7 (cl : Handler) (N : Nat) (x : AX) (v3 : AV) (h : AH) : Ans :=
  fxs x (o47_c6 cl N v3 h) (fun j => cond (Nat.beq j 0) (o47_c6 cl N v3 h) (none)) (some (.nrm, [], [.undef], h))
def o47 (cl : Handler) (N : Nat) (v0 : AV) (h : AH) : Ans :=
  fst (kX h .s2r [v0]) fun v8 h =>
  fjn (fiter (fun vs h => o47_l5 cl N (nthD vs 0) (nthD vs 1) (nthD vs 2) (nthD vs 3) h) N [(.nilsl), (.bool false), v8, (.int .i64 0)] h) fun x vs h => o47_j7 cl N x (nthD vs 0) h
theorem o47_eq (cl : Handler) (N : Nat) (v0 : AV) (h : AH) : frun cl N S47 [v0] h = fans (o47 cl N v0 h) := by kernel_rfl
def w47 (N : Nat) : OF := fun cl args h => match args with
  | [v0] => fans (o47 cl N v0 h)
  | _ => none
theorem w47_ok (N : Nat) : OkF Tryz.prog 47 (w47 N) := .of (N := N) (S47_ok) fun cl args h r hr => by
  unfold w47 at hr
  split at hr
  · exact (o47_eq cl N _ _).trans hr
  · cases hr

def otr1 (N : Nat) : OT := .node 38 (.node 33 (.node 30 (.node 28 (.one 26 (w26 N)) (.one 28 (w28 N))) (.node 31 (.one 30 (w30 N)) (.node 32 (.one 31 (w31 N)) (.one 32 (w32 N))))) (.node 35 (.node 34 (.one 33 (w33 N)) (.one 34 (w34 N))) (.node 36 (.one 35 (w35 N)) (.node 37 (.one 36 (w36 N)) (.one 37 (w37 N)))))) (.node 43 (.node 40 (.node 39 (.one 38 (w38 N)) (.one 39 (w39 N))) (.node 41 (.one 40 (w40 N)) (.node 42 (.one 41 (w41 N)) (.one 42 (w42 N))))) (.node 45 (.node 44 (.one 43 (w43 N)) (.one 44 (w44 N))) (.node 46 (.one 45 (w45 N)) (.node 47 (.one 46 (w46 N)) (.one 47 (w47 N))))))
theorem otr1_ok (N : Nat) : (otr1 N).Ok Tryz.prog := ⟨⟨⟨⟨w26_ok N, w28_ok N⟩, ⟨w30_ok N, ⟨w31_ok N, w32_ok N⟩⟩⟩, ⟨⟨w33_ok N, w34_ok N⟩, ⟨w35_ok N, ⟨w36_ok N, w37_ok N⟩⟩⟩⟩, ⟨⟨⟨w38_ok N, w39_ok N⟩, ⟨w40_ok N, ⟨w41_ok N, w42_ok N⟩⟩⟩, ⟨⟨w43_ok N, w44_ok N⟩, ⟨w45_ok N, ⟨w46_ok N, w47_ok N⟩⟩⟩⟩⟩

end Go.Proofs.YtoibclpbkjbnbaaGreat
end
