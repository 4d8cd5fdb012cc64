/- The functions that the law of AuditContrast runs through, second part: their code and what they are as plain definitions; written by a program. -/
import Derived.Test.YtoibclpbkjbnbaaGreatDoorEngOX
import Derived.Test.YtoibclpbkjbnbaaGreatDoorProg
import Derived.KernelRfl
set_option linter.unusedSimpArgs false
set_option linter.unusedVariables false
set_option linter.unnecessarySimpa false
noncomputable section
namespace Go.Proofs.YtoibclpbkjbnbaaGreatDoor
open Go.Eng
set_option maxRecDepth 100000
def S52.z0 : List AV := [.int .i64 0, .int .i64 0, .str [], .nilsl]
/- widgetry/widgetryref14.Number -/
def S52.r0 : List AOpr := [
  q 6 (.mov (.const (.int .i64 0)))]
def S52.r1 : List AOpr := [
  q 10 (.mov (x 0)),
  q 11 (.mov (x 1)),
  q 12 (.call (.const (.func (.func 114) [] [])) [.tmp 10, .tmp 11]),
  q 9 (.mov (x 12)),
  q 13 (.ext (x 9) 0),
  q 14 (.ext (x 9) 1),
  q 7 (.new S52.z0),
  ⟨none, .st 4 (x 7) (x 13), none⟩,
  q 8 (.mov (x 14))]
def S52.r2 : List AOpr := [
  q 15 (.fldA 0 (x 7)),
  q 16 (.ld1 (x 15)),
  q 17 (.arith .neq (x 16) (.const (.int .i64 1)))]
def S52.r3 : List AOpr := [
  q 18 (.mov (x 2)),
  q 6 (.mov (x 18))]
def S52.r4 : List AOpr := [
  q 19 (.fldA 1 (x 7)),
  q 20 (.ld1 (x 19)),
  q 6 (.mov (x 20))]
def S52 : SFn := ⟨21, [.tmp 6], .seq (.reg S52.r0) (.seq (.reg S52.r1) (.seq (.seq (.reg S52.r2) (.cond (x 17) (.seq (.reg S52.r3) (.ret)) (.skip))) (.seq (.reg S52.r4) (.ret))))⟩
theorem S52_ok : EOk Tryz.prog 52 S52 := ⟨Tryz.f52, by kernel_rfl, by kernel_rfl, by decide, by kernel_rfl, its_nil (by kernel_rfl)⟩
def o52_s1 (cl : Handler) (N : Nat) (v20 : AV) (h : AH) : Ans :=
  some (.nrm, [], [v20], h)
def o52 (cl : Handler) (N : Nat) (v0 v1 v2 : AV) (h : AH) : Ans :=
  fst (cl 114 [v0, v1] h) fun v12 h =>
  fst (kExt h v12 0) fun v13 h =>
  fst (kExt h v12 1) fun v14 h =>
  fst (kNew h S52.z0) fun v7 h =>
  fst (kSt h 4 v7 v13) fun _ h =>
  fst (kFldA h 0 v7) fun v15 h =>
  fst (kLd1 h v15) fun v16 h =>
  fst (kArith h .neq v16 (.int .i64 1)) fun v17 h =>
  fif v17 (
  some (.nrm, [], [v2], h)) (
  fst (kFldA h 1 v7) fun v19 h =>
  fst (kLd1 h v19) fun v20 h =>
  o52_s1 cl N v20 h)
theorem o52_eq (cl : Handler) (N : Nat) (v0 v1 v2 : AV) (h : AH) : frun cl N S52 [v0, v1, v2] h = fans (o52 cl N v0 v1 v2 h) := by kernel_rfl
def w52 (N : Nat) : OF := fun cl args h => match args with
  | [v0, v1, v2] => fans (o52 cl N v0 v1 v2 h)
  | _ => none
theorem w52_ok (N : Nat) : OkF Tryz.prog 52 (w52 N) := .of (N := N) (S52_ok) fun cl args h r hr => by
  unfold w52 at hr
  split at hr
  · exact (o52_eq cl N _ _ _ _).trans hr
  · cases hr

def S54.z0 : List AV := [.int .i64 0, .int .i64 0, .str [], .nilsl]
/- widgetry/widgetryref14.Text -/
def S54.r0 : List AOpr := [
  q 4 (.mov (.const (.str [])))]
def S54.r1 : List AOpr := [
  q 8 (.mov (x 0)),
  q 9 (.mov (x 1)),
  q 10 (.call (.const (.func (.func 114) [] [])) [.tmp 8, .tmp 9]),
  q 7 (.mov (x 10)),
  q 11 (.ext (x 7) 0),
  q 12 (.ext (x 7) 1),
  q 5 (.new S54.z0),
  ⟨none, .st 4 (x 5) (x 11), none⟩,
  q 6 (.mov (x 12))]
def S54.r2 : List AOpr := [
  q 13 (.fldA 0 (x 5)),
  q 14 (.ld1 (x 13)),
  q 15 (.arith .neq (x 14) (.const (.int .i64 3)))]
def S54.r3 : List AOpr := [
  q 4 (.mov (.const (.str [])))]
def S54.r4 : List AOpr := [
  q 16 (.fldA 2 (x 5)),
  q 17 (.ld1 (x 16)),
  q 4 (.mov (x 17))]
def S54 : SFn := ⟨18, [.tmp 4], .seq (.reg S54.r0) (.seq (.reg S54.r1) (.seq (.seq (.reg S54.r2) (.cond (x 15) (.seq (.reg S54.r3) (.ret)) (.skip))) (.seq (.reg S54.r4) (.ret))))⟩
theorem S54_ok : EOk Tryz.prog 54 S54 := ⟨Tryz.f54, by kernel_rfl, by kernel_rfl, by decide, by kernel_rfl, its_nil (by kernel_rfl)⟩
def o54_s1 (cl : Handler) (N : Nat) (v17 : AV) (h : AH) : Ans :=
  some (.nrm, [], [v17], h)
def o54 (cl : Handler) (N : Nat) (v0 v1 : AV) (h : AH) : Ans :=
  fst (cl 114 [v0, v1] h) fun v10 h =>
  fst (kExt h v10 0) fun v11 h =>
  fst (kExt h v10 1) fun v12 h =>
  fst (kNew h S54.z0) fun v5 h =>
  fst (kSt h 4 v5 v11) fun _ h =>
  fst (kFldA h 0 v5) fun v13 h =>
  fst (kLd1 h v13) fun v14 h =>
  fst (kArith h .neq v14 (.int .i64 3)) fun v15 h =>
  fif v15 (
  some (.nrm, [], [(.str [])], h)) (
  fst (kFldA h 2 v5) fun v16 h =>
  fst (kLd1 h v16) fun v17 h =>
  o54_s1 cl N v17 h)
theorem o54_eq (cl : Handler) (N : Nat) (v0 v1 : AV) (h : AH) : frun cl N S54 [v0, v1] h = fans (o54 cl N v0 v1 h) := by kernel_rfl
def w54 (N : Nat) : OF := fun cl args h => match args with
  | [v0, v1] => fans (o54 cl N v0 v1 h)
  | _ => none
theorem w54_ok (N : Nat) : OkF Tryz.prog 54 (w54 N) := .of (N := N) (S54_ok) fun cl args h r hr => by
  unfold w54 at hr
  split at hr
  · exact (o54_eq cl N _ _ _).trans hr
  · cases hr

/- widgetry/widgetryref29.In -/
def S56.r0 : List AOpr := [
  q 4 (.mov (.const (.bool false)))]
def S56.r1 : List AOpr := [
  q 5 (.mov (.const (.int .i64 0)))]
def S56.r2 : List AOpr := [
  q 6 (.mov (x 5)),
  q 7 (.mov (x 0)),
  q 8 (.len (x 7)),
  q 9 (.arith .lss (x 6) (x 8))]
def S56.r3 : List AOpr := [
  q 12 (.mov (x 0)),
  q 13 (.mov (x 5)),
  q 14 (.idxA 1 (x 12) (x 13)),
  q 15 (.ld1 (x 14)),
  q 16 (.mov (x 1)),
  q 17 (.arith .eql (x 15) (x 16))]
def S56.r4 : List AOpr := [
  q 4 (.mov (.const (.bool true)))]
def S56.r5 : List AOpr := [
  q 10 (.mov (x 5)),
  q 11 (.arith .add (x 10) (.const (.int .i64 1))),
  q 5 (.mov (x 11))]
def S56.r6 : List AOpr := [
  q 4 (.mov (.const (.bool false)))]
def S56 : SFn := ⟨18, [.tmp 4], .seq (.reg S56.r0) (.seq (.seq (.reg S56.r1) (.block 0 (.loop [0, 1, 5] [4] (.seq (.seq (.reg S56.r2) (.cond (x 9) (.skip) (.exit 0))) (.seq (.block 1 (.seq (.reg S56.r3) (.cond (x 17) (.seq (.reg S56.r4) (.ret)) (.skip)))) (.reg S56.r5)))))) (.seq (.reg S56.r6) (.ret)))⟩
theorem S56_ok : EOk Tryz.prog 56 S56 := ⟨Tryz.f56, by kernel_rfl, by kernel_rfl, by decide, by kernel_rfl, its_nil (by kernel_rfl)⟩
def o56_l1 (cl : Handler) (N : Nat) (v0 v1 v5 : AV) (h : AH) : Ans :=
  fst (kLen h v0) fun v8 h =>
  fst (kArith h .lss v5 v8) fun v9 h =>
  fif v9 (
  fst (kIdxA h 1 v0 v5) fun v14 h =>
  fst (kLd1 h v14) fun v15 h =>
  fst (kArith h .eql v15 v1) fun v17 h =>
  fif v17 (
  some (.ret, [v0, v1, v5], [(.bool true)], h)) (
  fst (kArith h .add v5 (.int .i64 1)) fun v11 h =>
  some (.nrm, [v0, v1, v11], [.undef], h))) (
  some ((.exit 0), [v0, v1, v5], [.undef], h))
def o56_c2 (cl : Handler) (N : Nat) (h : AH) : Ans :=
  some (.nrm, [], [(.bool false)], h)
def o56_j3 (cl : Handler) (N : Nat) (x : AX) (v4 : AV) (h : AH) : Ans :=
  fxs x (o56_c2 cl N h) (fun j => cond (Nat.beq j 0) (o56_c2 cl N h) (none)) (some (.nrm, [], [v4], h))
def o56 (cl : Handler) (N : Nat) (v0 v1 : AV) (h : AH) : Ans :=
  fjn (fiter (fun vs h => o56_l1 cl N (nthD vs 0) (nthD vs 1) (nthD vs 2) h) N [v0, v1, (.int .i64 0)] h) fun x vs h => o56_j3 cl N x (nthD vs 0) h
theorem o56_eq (cl : Handler) (N : Nat) (v0 v1 : AV) (h : AH) : frun cl N S56 [v0, v1] h = fans (o56 cl N v0 v1 h) := by kernel_rfl
def w56 (N : Nat) : OF := fun cl args h => match args with
  | [v0, v1] => fans (o56 cl N v0 v1 h)
  | _ => none
theorem w56_ok (N : Nat) : OkF Tryz.prog 56 (w56 N) := .of (N := N) (S56_ok) fun cl args h r hr => by
  unfold w56 at hr
  split at hr
  · exact (o56_eq cl N _ _ _).trans hr
  · cases hr

/- widgetry/widgetryref31.pressable -/
def S61.r0 : List AOpr := [
  q 1 (.box (x 0)),
  q 2 (.mov (.const (.bool false)))]
def S61.r1 : List AOpr := [
  q 3 (.fldA 2 (x 1)),
  q 4 (.ld1 (x 3)),
  q 5 (.arith .eql (x 4) (.const (.int .i64 3))),
  q 6 (.mov (x 5)),
  ⟨some 7, .fldA 2 (x 1), some (6, false)⟩,
  ⟨some 8, .ld1 (x 7), some (6, false)⟩,
  ⟨some 9, .arith .eql (x 8) (.const (.int .i64 6)), some (6, false)⟩,
  q 10 (.pick (x 6) (.const (.bool true)) (x 9)),
  q 11 (.mov (x 10)),
  ⟨some 12, .fldA 2 (x 1), some (11, false)⟩,
  ⟨some 13, .ld1 (x 12), some (11, false)⟩,
  ⟨some 14, .arith .eql (x 13) (.const (.int .i64 7)), some (11, false)⟩,
  q 15 (.pick (x 11) (.const (.bool true)) (x 14))]
def S61.r2 : List AOpr := [
  q 2 (.mov (.const (.bool true)))]
def S61.r3 : List AOpr := [
  q 16 (.fldA 2 (x 1)),
  q 17 (.ld1 (x 16)),
  q 18 (.arith .neq (x 17) (.const (.int .i64 4))),
  q 19 (.mov (x 18)),
  ⟨some 20, .fldA 2 (x 1), some (19, true)⟩,
  ⟨some 21, .ld1 (x 20), some (19, true)⟩,
  ⟨some 22, .arith .neq (x 21) (.const (.int .i64 13)), some (19, true)⟩,
  q 23 (.pick (x 19) (x 22) (.const (.bool false))),
  q 24 (.mov (x 23)),
  ⟨some 25, .ldn 7 (x 1), some (24, true)⟩,
  ⟨some 26, .call (.const (.func (.func 110) [] [])) [.tmp 25, .const (.str [112, 114, 101, 115, 115])], some (24, true)⟩,
  q 27 (.pick (x 24) (x 26) (.const (.bool false))),
  q 2 (.mov (x 27))]
def S61 : SFn := ⟨28, [.tmp 2], .seq (.reg S61.r0) (.seq (.seq (.joinN [1, 15] (.reg S61.r1)) (.cond (x 15) (.seq (.reg S61.r2) (.ret)) (.skip))) (.seq (.reg S61.r3) (.ret)))⟩
theorem S61_ok : EOk Tryz.prog 61 S61 := ⟨Tryz.f61, by kernel_rfl, by kernel_rfl, by decide, by kernel_rfl, its_nil (by kernel_rfl)⟩
def o61_s1 (cl : Handler) (N : Nat) (v1 v11 v14 : AV) (h : AH) : Ans :=
  fst (kPick h v11 (.bool true) v14) fun v15 h =>
  some (.nrm, [], [v1, v15], h)
def o61_a1 (cl : Handler) (N : Nat) (v1 : AV) (h : AH) : Ans :=
  fst (kFldA h 2 v1) fun v3 h =>
  fst (kLd1 h v3) fun v4 h =>
  fst (kArith h .eql v4 (.int .i64 3)) fun v5 h =>
  fgd (gdv false v5) (kFldA h 2 v1) h fun v7 h =>
  fgd (gdv false v5) (kLd1 h v7) h fun v8 h =>
  fgd (gdv false v5) (kArith h .eql v8 (.int .i64 6)) h fun v9 h =>
  fst (kPick h v5 (.bool true) v9) fun v10 h =>
  fgd (gdv false v10) (kFldA h 2 v1) h fun v12 h =>
  fgd (gdv false v10) (kLd1 h v12) h fun v13 h =>
  fgd (gdv false v10) (kArith h .eql v13 (.int .i64 7)) h fun v14 h =>
  o61_s1 cl N v1 v10 v14 h
def o61_s2 (cl : Handler) (N : Nat) (v27 : AV) (h : AH) : Ans :=
  some (.nrm, [], [v27], h)
def o61_j2 (cl : Handler) (N : Nat) (v1 v15 : AV) (h : AH) : Ans :=
  fif v15 (
  some (.nrm, [], [(.bool true)], h)) (
  fst (kFldA h 2 v1) fun v16 h =>
  fst (kLd1 h v16) fun v17 h =>
  fst (kArith h .neq v17 (.int .i64 4)) fun v18 h =>
  fgd (gdv true v18) (kFldA h 2 v1) h fun v20 h =>
  fgd (gdv true v18) (kLd1 h v20) h fun v21 h =>
  fgd (gdv true v18) (kArith h .neq v21 (.int .i64 13)) h fun v22 h =>
  fst (kPick h v18 v22 (.bool false)) fun v23 h =>
  fgd (gdv true v23) (kLdn h 7 v1) h fun v25 h =>
  fgd (gdv true v23) (cl 110 [v25, (.str [112, 114, 101, 115, 115])] h) h fun v26 h =>
  fst (kPick h v23 v26 (.bool false)) fun v27 h =>
  o61_s2 cl N v27 h)
def o61 (cl : Handler) (N : Nat) (v0 : AV) (h : AH) : Ans :=
  fst (kBox h v0) fun v1 h =>
  fjn (o61_a1 cl N v1 h) fun _ vs h => o61_j2 cl N (nthD vs 0) (nthD vs 1) h
theorem o61_eq (cl : Handler) (N : Nat) (v0 : AV) (h : AH) : frun cl N S61 [v0] h = fans (o61 cl N v0 h) := by kernel_rfl
def w61 (N : Nat) : OF := fun cl args h => match args with
  | [v0] => fans (o61 cl N v0 h)
  | _ => none
theorem w61_ok (N : Nat) : OkF Tryz.prog 61 (w61 N) := .of (N := N) (S61_ok) fun cl args h r hr => by
  unfold w61 at hr
  split at hr
  · exact (o61_eq cl N _ _).trans hr
  · cases hr

def S62.z0 : List AV := [.int .i64 0, .int .i64 0, .str [], .nilsl]
/- widgetry/widgetryref14.Flag -/
def S62.r0 : List AOpr := [
  q 4 (.mov (.const (.bool false)))]
def S62.r1 : List AOpr := [
  q 8 (.mov (x 0)),
  q 9 (.mov (x 1)),
  q 10 (.call (.const (.func (.func 114) [] [])) [.tmp 8, .tmp 9]),
  q 7 (.mov (x 10)),
  q 11 (.ext (x 7) 0),
  q 12 (.ext (x 7) 1),
  q 5 (.new S62.z0),
  ⟨none, .st 4 (x 5) (x 11), none⟩,
  q 6 (.mov (x 12))]
def S62.r2 : List AOpr := [
  q 13 (.fldA 0 (x 5)),
  q 14 (.ld1 (x 13)),
  q 15 (.arith .eql (x 14) (.const (.int .i64 2))),
  q 16 (.mov (x 15)),
  ⟨some 17, .fldA 1 (x 5), some (16, true)⟩,
  ⟨some 18, .ld1 (x 17), some (16, true)⟩,
  ⟨some 19, .arith .eql (x 18) (.const (.int .i64 1)), some (16, true)⟩,
  q 20 (.pick (x 16) (x 19) (.const (.bool false))),
  q 4 (.mov (x 20))]
def S62 : SFn := ⟨21, [.tmp 4], .seq (.reg S62.r0) (.seq (.reg S62.r1) (.seq (.reg S62.r2) (.ret)))⟩
theorem S62_ok : EOk Tryz.prog 62 S62 := ⟨Tryz.f62, by kernel_rfl, by kernel_rfl, by decide, by kernel_rfl, its_nil (by kernel_rfl)⟩
def o62_s1 (cl : Handler) (N : Nat) (v16 v18 : AV) (h : AH) : Ans :=
  fgd (gdv true v16) (kArith h .eql v18 (.int .i64 1)) h fun v19 h =>
  fst (kPick h v16 v19 (.bool false)) fun v20 h =>
  some (.nrm, [], [v20], h)
def o62 (cl : Handler) (N : Nat) (v0 v1 : AV) (h : AH) : Ans :=
  fst (cl 114 [v0, v1] h) fun v10 h =>
  fst (kExt h v10 0) fun v11 h =>
  fst (kExt h v10 1) fun v12 h =>
  fst (kNew h S62.z0) fun v5 h =>
  fst (kSt h 4 v5 v11) fun _ h =>
  fst (kFldA h 0 v5) fun v13 h =>
  fst (kLd1 h v13) fun v14 h =>
  fst (kArith h .eql v14 (.int .i64 2)) fun v15 h =>
  fgd (gdv true v15) (kFldA h 1 v5) h fun v17 h =>
  fgd (gdv true v15) (kLd1 h v17) h fun v18 h =>
  o62_s1 cl N v15 v18 h
theorem o62_eq (cl : Handler) (N : Nat) (v0 v1 : AV) (h : AH) : frun cl N S62 [v0, v1] h = fans (o62 cl N v0 v1 h) := by kernel_rfl
def w62 (N : Nat) : OF := fun cl args h => match args with
  | [v0, v1] => fans (o62 cl N v0 v1 h)
  | _ => none
theorem w62_ok (N : Nat) : OkF Tryz.prog 62 (w62 N) := .of (N := N) (S62_ok) fun cl args h r hr => by
  unfold w62 at hr
  split at hr
  · exact (o62_eq cl N _ _ _).trans hr
  · cases hr

/- widgetry/widgetryref31.In -/
def S63.r0 : List AOpr := [
  q 4 (.mov (.const (.bool false)))]
def S63.r1 : List AOpr := [
  q 5 (.mov (x 0)),
  q 6 (.mov (x 1)),
  q 7 (.call (.const (.func (.func 56) [] [])) [.tmp 5, .tmp 6]),
  q 4 (.mov (x 7))]
def S63 : SFn := ⟨8, [.tmp 4], .seq (.reg S63.r0) (.seq (.reg S63.r1) (.ret))⟩
theorem S63_ok : EOk Tryz.prog 63 S63 := ⟨Tryz.f63, by kernel_rfl, by kernel_rfl, by decide, by kernel_rfl, its_nil (by kernel_rfl)⟩
def o63 (cl : Handler) (N : Nat) (v0 v1 : AV) (h : AH) : Ans :=
  fst (cl 56 [v0, v1] h) fun v7 h =>
  some (.nrm, [], [v7], h)
theorem o63_eq (cl : Handler) (N : Nat) (v0 v1 : AV) (h : AH) : frun cl N S63 [v0, v1] h = fans (o63 cl N v0 v1 h) := by kernel_rfl
def w63 (N : Nat) : OF := fun cl args h => match args with
  | [v0, v1] => fans (o63 cl N v0 v1 h)
  | _ => none
theorem w63_ok (N : Nat) : OkF Tryz.prog 63 (w63 N) := .of (N := N) (S63_ok) fun cl args h r hr => by
  unfold w63 at hr
  split at hr
  · exact (o63_eq cl N _ _ _).trans hr
  · cases hr

def S64.z0 : List AV := [.int .i64 0, .int .i64 0, .int .i64 0, .str [], .nilsl, .nilsl, .nilsl]
/- (widgetry/widgetryref29.Facts).Disabled -/
def S64.r0 : List AOpr := [
  q 2 (.box (x 0)),
  q 4 (.mov (.const (.bool false)))]
def S64.r1 : List AOpr := [
  q 9 (.ldn 6 (x 2)),
  q 10 (.mov (x 1)),
  q 11 (.call (.const (.func (.func 98) [] [])) [.tmp 9, .tmp 10]),
  q 5 (.mov (x 11))]
def S64.r2 : List AOpr := [
  q 6 (.mov (.const (.int .i64 0)))]
def S64.r3 : List AOpr := [
  q 12 (.mov (x 6)),
  q 13 (.mov (x 5)),
  q 14 (.len (x 13)),
  q 15 (.arith .lss (x 12) (x 14))]
def S64.r4 : List (AOpr × Nat) := [
  (q 19 (.fldA 0 (x 2)), 0),
  (q 20 (.ldn 3 (x 19)), 1),
  (q 21 (.mov (x 5)), 0),
  (q 22 (.mov (x 6)), 0),
  (q 23 (.idxA 1 (x 21) (x 22)), 12),
  (q 24 (.ld1 (x 23)), 28),
  (q 25 (.call (.const (.func (.func 42) [] [])) [.tmp 20, .tmp 24]), 63),
  (q 18 (.mov (x 25)), 127),
  (q 26 (.ext (x 18) 0), 255),
  (q 27 (.ext (x 18) 1), 255),
  (q 7 (.new S64.z0), 0),
  (⟨none, .st 7 (x 7) (x 26), none⟩, 1535),
  (q 8 (.mov (x 27)), 4095)]
def S64.r5 : List AOpr := [
  q 28 (.fldA 4 (x 7)),
  q 29 (.ld1 (x 28)),
  q 30 (.call (.const (.func (.func 62) [] [])) [.tmp 29, .const (.str [100, 105, 115, 97, 98, 108, 101, 100])])]
def S64.r6 : List AOpr := [
  q 4 (.mov (.const (.bool true)))]
def S64.r7 : List AOpr := [
  q 16 (.mov (x 6)),
  q 17 (.arith .add (x 16) (.const (.int .i64 1))),
  q 6 (.mov (x 17))]
def S64.r8 : List AOpr := [
  q 4 (.mov (.const (.bool false)))]
def S64 : SFn := ⟨31, [.tmp 4], .seq (.reg S64.r0) (.seq (.reg S64.r1) (.seq (.seq (.reg S64.r2) (.block 0 (.loop [2, 5, 6] [4] (.seq (.seq (.reg S64.r3) (.cond (x 15) (.skip) (.exit 0))) (.seq (.block 1 (.seq (.draw S64.r4) (.seq (.reg S64.r5) (.cond (x 30) (.seq (.reg S64.r6) (.ret)) (.skip))))) (.reg S64.r7)))))) (.seq (.reg S64.r8) (.ret))))⟩
theorem S64_ok : EOk Tryz.prog 64 S64 := ⟨Tryz.f64, by kernel_rfl, by kernel_rfl, by decide, by kernel_rfl, its_nil (by kernel_rfl)⟩
def o64_s1 (cl : Handler) (N : Nat) (r : Nat) (c0 c1 c2 c3 c4 c5 c6 c7 : Rec) (v2 v5 v6 v18 : AV) (h : AH) : Ans :=
  fdp h (kExt h v18 0) .pure fun v26 c8 h =>
  fdp h (kExt h v18 1) .pure fun v27 c9 h =>
  fda (r + 10) h (alNew S64.z0) fun v7 c10 h =>
  fde h (kSt h 7 v7 v26) fun _ c11 h =>
  fdp h (kMov h v27) .pure fun v8 c12 h =>
  cond (fchk [c0, c1, c2, c3, c4, c5, c6, c7, c8, c9, c10, c11, c12] [(1, 10), (5, 10)]) (fst (kFldA h 4 v7) fun v28 h =>
  fst (kLd1 h v28) fun v29 h =>
  fst (cl 62 [v29, (.str [100, 105, 115, 97, 98, 108, 101, 100])] h) fun v30 h =>
  fif v30 (
  some (.ret, [v2, v5, v6], [(.bool true)], h)) (
  fst (kArith h .add v6 (.int .i64 1)) fun v17 h =>
  some (.nrm, [v2, v5, v17], [.undef], h))) none
def o64_l1 (cl : Handler) (N : Nat) (v2 v5 v6 : AV) (h : AH) : Ans :=
  fst (kLen h v5) fun v14 h =>
  fst (kArith h .lss v6 v14) fun v15 h =>
  fif v15 (
  fdr h 13 fun r h =>
  fdp h (kFldA h 0 v2) .pure fun v19 c0 h =>
  fdp h (kLdn h 3 v19) (rdK (rdv v19)) fun v20 c1 h =>
  fdp h (kMov h v5) .pure fun v21 c2 h =>
  fdp h (kMov h v6) .pure fun v22 c3 h =>
  fdp h (kIdxA h 1 v21 v22) .pure fun v23 c4 h =>
  fdp h (kLd1 h v23) (rdK (rdv v23)) fun v24 c5 h =>
  fde h (cl 42 [v20, v24] h) fun v25 c6 h =>
  fdp h (kMov h v25) .pure fun v18 c7 h =>
  o64_s1 cl N r c0 c1 c2 c3 c4 c5 c6 c7 v2 v5 v6 v18 h) (
  some ((.exit 0), [v2, v5, v6], [.undef], h))
def o64_c2 (cl : Handler) (N : Nat) (h : AH) : Ans :=
  some (.nrm, [], [(.bool false)], h)
def o64_j3 (cl : Handler) (N : Nat) (x : AX) (v4 : AV) (h : AH) : Ans :=
  fxs x (o64_c2 cl N h) (fun j => cond (Nat.beq j 0) (o64_c2 cl N h) (none)) (some (.nrm, [], [v4], h))
def o64 (cl : Handler) (N : Nat) (v0 v1 : AV) (h : AH) : Ans :=
  fst (kBox h v0) fun v2 h =>
  fst (kLdn h 6 v2) fun v9 h =>
  fst (cl 98 [v9, v1] h) fun v11 h =>
  fjn (fiter (fun vs h => o64_l1 cl N (nthD vs 0) (nthD vs 1) (nthD vs 2) h) N [v2, v11, (.int .i64 0)] h) fun x vs h => o64_j3 cl N x (nthD vs 0) h
theorem o64_eq (cl : Handler) (N : Nat) (v0 v1 : AV) (h : AH) : frun cl N S64 [v0, v1] h = fans (o64 cl N v0 v1 h) := by kernel_rfl
def w64 (N : Nat) : OF := fun cl args h => match args with
  | [v0, v1] => fans (o64 cl N v0 v1 h)
  | _ => none
theorem w64_ok (N : Nat) : OkF Tryz.prog 64 (w64 N) := .of (N := N) (S64_ok) fun cl args h r hr => by
  unfold w64 at hr
  split at hr
  · exact (o64_eq cl N _ _ _).trans hr
  · cases hr

/- widgetry/widgetryref31.Within -/
def S65.r0 : List AOpr := [
  q 2 (.box (x 0)),
  q 4 (.mov (.const (.bool false)))]
def S65.r1 : List AOpr := [
  q 6 (.ldn 6 (x 2)),
  q 7 (.call (.const (.func (.func 91) [] [])) [.tmp 6]),
  q 5 (.mov (x 7))]
def S65.r2 : List AOpr := [
  q 8 (.mov (x 5)),
  q 9 (.arith .neq (x 8) (.const (.int .i64 0))),
  q 10 (.mov (x 9)),
  ⟨some 11, .ldn 6 (x 2), some (10, true)⟩,
  ⟨some 12, .mov (x 1), some (10, true)⟩,
  ⟨some 13, .call (.const (.func (.func 98) [] [])) [.tmp 11, .tmp 12], some (10, true)⟩,
  ⟨some 14, .mov (x 5), some (10, true)⟩,
  ⟨some 15, .call (.const (.func (.func 63) [] [])) [.tmp 13, .tmp 14], some (10, true)⟩,
  q 16 (.pick (x 10) (x 15) (.const (.bool false))),
  q 4 (.mov (x 16))]
def S65 : SFn := ⟨17, [.tmp 4], .seq (.reg S65.r0) (.seq (.reg S65.r1) (.seq (.reg S65.r2) (.ret)))⟩
theorem S65_ok : EOk Tryz.prog 65 S65 := ⟨Tryz.f65, by kernel_rfl, by kernel_rfl, by decide, by kernel_rfl, its_nil (by kernel_rfl)⟩
def o65_s1 (cl : Handler) (N : Nat) (v16 : AV) (h : AH) : Ans :=
  some (.nrm, [], [v16], h)
def o65 (cl : Handler) (N : Nat) (v0 v1 : AV) (h : AH) : Ans :=
  fst (kBox h v0) fun v2 h =>
  fst (kLdn h 6 v2) fun v6 h =>
  fst (cl 91 [v6] h) fun v7 h =>
  fst (kArith h .neq v7 (.int .i64 0)) fun v9 h =>
  fgd (gdv true v9) (kLdn h 6 v2) h fun v11 h =>
  fgd (gdv true v9) (kMov h v1) h fun v12 h =>
  fgd (gdv true v9) (cl 98 [v11, v12] h) h fun v13 h =>
  fgd (gdv true v9) (kMov h v7) h fun v14 h =>
  fgd (gdv true v9) (cl 63 [v13, v14] h) h fun v15 h =>
  fst (kPick h v9 v15 (.bool false)) fun v16 h =>
  o65_s1 cl N v16 h
theorem o65_eq (cl : Handler) (N : Nat) (v0 v1 : AV) (h : AH) : frun cl N S65 [v0, v1] h = fans (o65 cl N v0 v1 h) := by kernel_rfl
def w65 (N : Nat) : OF := fun cl args h => match args with
  | [v0, v1] => fans (o65 cl N v0 v1 h)
  | _ => none
theorem w65_ok (N : Nat) : OkF Tryz.prog 65 (w65 N) := .of (N := N) (S65_ok) fun cl args h r hr => by
  unfold w65 at hr
  split at hr
  · exact (o65_eq cl N _ _ _).trans hr
  · cases hr

/- widgetry/widgetryref14.Order -/
def S66.r0 : List AOpr := [
  q 1 (.box (x 0)),
  q 2 (.mov (.const (.nilsl)))]
def S66.r1 : List AOpr := [
  q 3 (.ldn 3 (x 1)),
  q 4 (.call (.const (.func (.func 93) [] [])) [.tmp 3]),
  q 5 (.arith .neq (x 4) (.const (.int .i64 0)))]
def S66.r2 : List AOpr := [
  q 2 (.mov (.const (.nilsl)))]
def S66.r3 : List AOpr := [
  q 6 (.ldn 3 (x 1)),
  q 7 (.fldA 0 (x 1)),
  q 8 (.ld1 (x 7)),
  q 9 (.call (.const (.func (.func 116) [] [])) [.tmp 6, .tmp 8, .const (.nilsl)]),
  q 2 (.mov (x 9))]
def S66 : SFn := ⟨10, [.tmp 2], .seq (.reg S66.r0) (.seq (.seq (.reg S66.r1) (.cond (x 5) (.seq (.reg S66.r2) (.ret)) (.skip))) (.seq (.reg S66.r3) (.ret)))⟩
theorem S66_ok : EOk Tryz.prog 66 S66 := ⟨Tryz.f66, by kernel_rfl, by kernel_rfl, by decide, by kernel_rfl, its_nil (by kernel_rfl)⟩
def o66 (cl : Handler) (N : Nat) (v0 : AV) (h : AH) : Ans :=
  fst (kBox h v0) fun v1 h =>
  fst (kLdn h 3 v1) fun v3 h =>
  fst (cl 93 [v3] h) fun v4 h =>
  fst (kArith h .neq v4 (.int .i64 0)) fun v5 h =>
  fif v5 (
  some (.nrm, [], [(.nilsl)], h)) (
  fst (kLdn h 3 v1) fun v6 h =>
  fst (kFldA h 0 v1) fun v7 h =>
  fst (kLd1 h v7) fun v8 h =>
  fst (cl 116 [v6, v8, (.nilsl)] h) fun v9 h =>
  some (.nrm, [], [v9], h))
theorem o66_eq (cl : Handler) (N : Nat) (v0 : AV) (h : AH) : frun cl N S66 [v0] h = fans (o66 cl N v0 h) := by kernel_rfl
def w66 (N : Nat) : OF := fun cl args h => match args with
  | [v0] => fans (o66 cl N v0 h)
  | _ => none
theorem w66_ok (N : Nat) : OkF Tryz.prog 66 (w66 N) := .of (N := N) (S66_ok) fun cl args h r hr => by
  unfold w66 at hr
  split at hr
  · exact (o66_eq cl N _ _).trans hr
  · cases hr

def S67.z0 : List AV := [.int .i64 0, .int .i64 0, .int .i64 0, .int .i64 0, .int .i64 0, .int .i64 0, .int .i64 0, .int .i64 0, .int .i64 0, .int .i64 0, .int .i64 0, .int .i64 0, .int .i64 0, .int .i64 0, .int .i64 0, .int .i64 0, .int .i64 0, .int .i64 0, .int .i64 0, .int .i64 0, .int .i64 0, .int .i64 0]
/- widgetry/widgetryref17.Find -/
def S67.r0 : List AOpr := [
  q 4 (.new S67.z0)]
def S67.r1 : List AOpr := [
  q 5 (.mov (.const (.int .i64 0)))]
def S67.r2 : List AOpr := [
  q 6 (.mov (x 5)),
  q 7 (.mov (x 0)),
  q 8 (.len (x 7)),
  q 9 (.arith .lss (x 6) (x 8))]
def S67.r3 : List AOpr := [
  q 12 (.mov (x 0)),
  q 13 (.mov (x 5)),
  q 14 (.idxA 23 (x 12) (x 13)),
  q 15 (.fldA 0 (x 14)),
  q 16 (.ld1 (x 15)),
  q 17 (.mov (x 1)),
  q 18 (.arith .eql (x 16) (x 17))]
def S67.r4 : List AOpr := [
  q 19 (.mov (x 0)),
  q 20 (.mov (x 5)),
  q 21 (.idxA 23 (x 19) (x 20)),
  q 22 (.fldA 1 (x 21)),
  q 23 (.ldn 22 (x 22)),
  ⟨none, .st 22 (x 4) (x 23), none⟩]
def S67.r5 : List AOpr := [
  q 10 (.mov (x 5)),
  q 11 (.arith .add (x 10) (.const (.int .i64 1))),
  q 5 (.mov (x 11))]
def S67.r6 : List AOpr := [
  q 24 (.build S67.z0 []),
  ⟨none, .st 22 (x 4) (x 24), none⟩]
def S67 : SFn := ⟨25, [.cell 4 (some 22)], .seq (.reg S67.r0) (.seq (.seq (.reg S67.r1) (.block 0 (.loop [0, 1, 4, 5] [4] (.seq (.seq (.reg S67.r2) (.cond (x 9) (.skip) (.exit 0))) (.seq (.block 1 (.seq (.reg S67.r3) (.cond (x 18) (.seq (.reg S67.r4) (.ret)) (.skip)))) (.reg S67.r5)))))) (.seq (.reg S67.r6) (.ret)))⟩
theorem S67_ok : EOk Tryz.prog 67 S67 := ⟨Tryz.f67, by kernel_rfl, by kernel_rfl, by decide, by kernel_rfl, its_nil (by kernel_rfl)⟩
def o67_l1 (cl : Handler) (N : Nat) (v0 v1 v4 v5 : AV) (h : AH) : Ans :=
  fst (kLen h v0) fun v8 h =>
  fst (kArith h .lss v5 v8) fun v9 h =>
  fif v9 (
  fst (kIdxA h 23 v0 v5) fun v14 h =>
  fst (kFldA h 0 v14) fun v15 h =>
  fst (kLd1 h v15) fun v16 h =>
  fst (kArith h .eql v16 v1) fun v18 h =>
  fif v18 (
  fst (kIdxA h 23 v0 v5) fun v21 h =>
  fst (kFldA h 1 v21) fun v22 h =>
  fst (kLdn h 22 v22) fun v23 h =>
  fst (kSt h 22 v4 v23) fun _ h =>
  some (.ret, [v0, v1, v4, v5], [v4], h)) (
  fst (kArith h .add v5 (.int .i64 1)) fun v11 h =>
  some (.nrm, [v0, v1, v4, v11], [v4], h))) (
  some ((.exit 0), [v0, v1, v4, v5], [v4], h))
def o67_c2 (cl : Handler) (N : Nat) (v4 : AV) (h : AH) : Ans :=
  fst (kBuild h S67.z0 []) fun v24 h =>
  fst (kSt h 22 v4 v24) fun _ h =>
  fres (aresV h [.cell (v4) (some 22)]) h
def o67_j3 (cl : Handler) (N : Nat) (x : AX) (v4 : AV) (h : AH) : Ans :=
  fxs x (o67_c2 cl N v4 h) (fun j => cond (Nat.beq j 0) (o67_c2 cl N v4 h) (none)) (fres (aresV h [.cell (v4) (some 22)]) h)
def o67 (cl : Handler) (N : Nat) (v0 v1 : AV) (h : AH) : Ans :=
  fst (kNew h S67.z0) fun v4 h =>
  fjn (fiter (fun vs h => o67_l1 cl N (nthD vs 0) (nthD vs 1) (nthD vs 2) (nthD vs 3) h) N [v0, v1, v4, (.int .i64 0)] h) fun x vs h => o67_j3 cl N x (nthD vs 0) h
theorem o67_eq (cl : Handler) (N : Nat) (v0 v1 : AV) (h : AH) : frun cl N S67 [v0, v1] h = fans (o67 cl N v0 v1 h) := by kernel_rfl
def w67 (N : Nat) : OF := fun cl args h => match args with
  | [v0, v1] => fans (o67 cl N v0 v1 h)
  | _ => none
theorem w67_ok (N : Nat) : OkF Tryz.prog 67 (w67 N) := .of (N := N) (S67_ok) fun cl args h r hr => by
  unfold w67 at hr
  split at hr
  · exact (o67_eq cl N _ _ _).trans hr
  · cases hr

def S68.z0 : List AV := [.int .i64 0, .str [], .nilsl, .nilsl, .nilsl]
/- widgetry/view.valid -/
def S68.r0 : List AOpr := [
  q 1 (.box (x 0)),
  q 2 (.mov (.const (.nilmap))),
  q 3 (.mov (.const (.bool false)))]
def S68.r1 : List AOpr := [
  q 8 (.ldn 3 (x 1)),
  q 9 (.call (.const (.func (.func 117) [] [])) [.tmp 8]),
  q 7 (.mov (x 9)),
  q 10 (.ext (x 7) 0),
  q 11 (.ext (x 7) 1),
  q 12 (.ext (x 7) 2),
  q 5 (.new S68.z0),
  q 4 (.mov (x 10)),
  ⟨none, .st 5 (x 5) (x 11), none⟩,
  q 6 (.mov (x 12))]
def S68.r2 : List AOpr := [
  q 13 (.mov (x 4)),
  q 14 (.mov (x 6)),
  q 15 (.arith .eql (x 14) (.const (.int .i64 0))),
  q 2 (.mov (x 13)),
  q 3 (.mov (x 15))]
def S68 : SFn := ⟨16, [.tmp 2, .tmp 3], .seq (.reg S68.r0) (.seq (.reg S68.r1) (.seq (.reg S68.r2) (.ret)))⟩
theorem S68_ok : EOk Tryz.prog 68 S68 := ⟨Tryz.f68, by kernel_rfl, by kernel_rfl, by decide, by kernel_rfl, its_nil (by kernel_rfl)⟩
def o68 (cl : Handler) (N : Nat) (v0 : AV) (h : AH) : Ans :=
  fst (kBox h v0) fun v1 h =>
  fst (kLdn h 3 v1) fun v8 h =>
  fst (cl 117 [v8] h) fun v9 h =>
  fst (kExt h v9 0) fun v10 h =>
  fst (kExt h v9 1) fun v11 h =>
  fst (kExt h v9 2) fun v12 h =>
  fst (kNew h S68.z0) fun v5 h =>
  fst (kSt h 5 v5 v11) fun _ h =>
  fst (kArith h .eql v12 (.int .i64 0)) fun v15 h =>
  some (.nrm, [], [.tup [v10, v15]], h)
theorem o68_eq (cl : Handler) (N : Nat) (v0 : AV) (h : AH) : frun cl N S68 [v0] h = fans (o68 cl N v0 h) := by kernel_rfl
def w68 (N : Nat) : OF := fun cl args h => match args with
  | [v0] => fans (o68 cl N v0 h)
  | _ => none
theorem w68_ok (N : Nat) : OkF Tryz.prog 68 (w68 N) := .of (N := N) (S68_ok) fun cl args h r hr => by
  unfold w68 at hr
  split at hr
  · exact (o68_eq cl N _ _).trans hr
  · cases hr

def S69.z0 : List AV := [.int .i64 0, .int .i64 0, .int .i64 0, .str [], .nilsl, .nilsl, .nilsl]
/- widgetry/view.preorder -/
def S69.r0 : List AOpr := [
  q 4 (.mov (.const (.nilsl)))]
def S69.r1 : List AOpr := [
  q 8 (.mov (x 1)),
  q 9 (.buildSl 1 1 [.int .i64 0] [(0, 1, .tmp 8)]),
  q 5 (.mov (x 9))]
def S69.r2 : List AOpr := [
  q 10 (.mov (x 0)),
  q 11 (.mov (x 1)),
  q 12 (.xo (.mapget (.int .i64) false (.agg S69.z0)) [.tmp 10, .tmp 11]),
  q 13 (.fld 6 none (x 12)),
  q 14 (.len (x 13)),
  q 15 (.mov (.const (.int .i64 0)))]
def S69.r3 : List AOpr := [
  q 16 (.arith .lss (x 15) (x 14))]
def S69.r4 : List AOpr := [
  q 17 (.idxA 1 (x 13) (x 15)),
  q 18 (.ld1 (x 17)),
  q 7 (.mov (x 18))]
def S69.r5 : List AOpr := [
  q 19 (.mov (x 5)),
  q 20 (.mov (x 0)),
  q 21 (.mov (x 7)),
  q 22 (.call (.const (.func (.func 69) [] [])) [.tmp 20, .tmp 21]),
  q 23 (.app 1 8 (x 19) (x 22)),
  q 5 (.mov (x 23))]
def S69.r6 : List AOpr := [
  q 24 (.arith .add (x 15) (.const (.int .i64 1))),
  q 15 (.mov (x 24))]
def S69.r7 : List AOpr := [
  q 25 (.mov (x 5)),
  q 4 (.mov (x 25))]
def S69 : SFn := ⟨26, [.tmp 4], .seq (.reg S69.r0) (.seq (.reg S69.r1) (.seq (.seq (.reg S69.r2) (.block 0 (.loop [0, 5, 13, 14, 15] [5] (.seq (.reg S69.r3) (.seq (.cond (x 16) (.skip) (.exit 0)) (.seq (.block 1 (.seq (.reg S69.r4) (.reg S69.r5))) (.reg S69.r6))))))) (.seq (.reg S69.r7) (.ret))))⟩
theorem S69_ok : EOk Tryz.prog 69 S69 := ⟨Tryz.f69, by kernel_rfl, by kernel_rfl, by decide, by kernel_rfl, its_nil (by kernel_rfl)⟩
def o69_l1 (cl : Handler) (N : Nat) (v0 v5 v13 v14 v15 : AV) (h : AH) : Ans :=
  fst (kArith h .lss v15 v14) fun v16 h =>
  fif v16 (
  fst (kIdxA h 1 v13 v15) fun v17 h =>
  fst (kLd1 h v17) fun v18 h =>
  fst (cl 69 [v0, v18] h) fun v22 h =>
  fst (kApp h 1 8 v5 v22) fun v23 h =>
  fst (kArith h .add v15 (.int .i64 1)) fun v24 h =>
  some (.nrm, [v0, v23, v13, v14, v24], [v23], h)) (
  some ((.exit 0), [v0, v5, v13, v14, v15], [v5], h))
def o69_c2 (cl : Handler) (N : Nat) (v5 : AV) (h : AH) : Ans :=
  some (.nrm, [], [v5], h)
def o69_j3 (cl : Handler) (N : Nat) (x : AX) (v5 : AV) (h : AH) : Ans :=
  fxs x (o69_c2 cl N v5 h) (fun j => cond (Nat.beq j 0) (o69_c2 cl N v5 h) (none)) (some (.nrm, [], [.undef], h))
def o69 (cl : Handler) (N : Nat) (v0 v1 : AV) (h : AH) : Ans :=
  fst (kBuildSl h 1 1 [.int .i64 0] [(0, 1, v1)]) fun v9 h =>
  fst (kX h (.mapget (.int .i64) false (.agg S69.z0)) [v0, v1]) fun v12 h =>
  fst (kFld h 6 none v12) fun v13 h =>
  fst (kLen h v13) fun v14 h =>
  fjn (fiter (fun vs h => o69_l1 cl N (nthD vs 0) (nthD vs 1) (nthD vs 2) (nthD vs 3) (nthD vs 4) h) N [v0, v9, v13, v14, (.int .i64 0)] h) fun x vs h => o69_j3 cl N x (nthD vs 0) h
theorem o69_eq (cl : Handler) (N : Nat) (v0 v1 : AV) (h : AH) : frun cl N S69 [v0, v1] h = fans (o69 cl N v0 v1 h) := by kernel_rfl
def w69 (N : Nat) : OF := fun cl args h => match args with
  | [v0, v1] => fans (o69 cl N v0 v1 h)
  | _ => none
theorem w69_ok (N : Nat) : OkF Tryz.prog 69 (w69 N) := .of (N := N) (S69_ok) fun cl args h r hr => by
  unfold w69 at hr
  split at hr
  · exact (o69_eq cl N _ _ _).trans hr
  · cases hr

def S70.z0 : List AV := [.str [], .int .i64 0, .int .i64 0, .str [], .nilsl]
def S70.z1 : List AV := [.str [], .str [], .str [], .nilsl]
/- widgetry/view.copied -/
def S70.r0 : List AOpr := [
  q 4 (.mov (.const (.nilsl))),
  q 5 (.mov (.const (.nilsl)))]
def S70.r1 : List AOpr := [
  q 6 (.mov (.const (.nilsl)))]
def S70.r2 : List AOpr := [
  q 12 (.mov (x 0)),
  q 13 (.len (x 12)),
  q 14 (.mov (.const (.int .i64 0)))]
def S70.r3 : List AOpr := [
  q 15 (.arith .lss (x 14) (x 13))]
def S70.r4 : List AOpr := [
  q 16 (.idxA 5 (x 12) (x 14)),
  q 17 (.ldn 5 (x 16)),
  q 8 (.new S70.z0),
  ⟨none, .st 5 (x 8) (x 17), none⟩]
def S70.r5 : List (AOpr × Nat) := [
  (q 18 (.mov (x 6)), 0),
  (q 19 (.fldA 0 (x 8)), 0),
  (q 20 (.ld1 (x 19)), 2),
  (q 21 (.fldA 1 (x 8)), 0),
  (q 22 (.ldn 4 (x 21)), 8),
  (q 23 (.call (.const (.func (.func 118) [] [])) [.tmp 22]), 24),
  (q 24 (.build S70.z0 [(0, 1, .tmp 20), (1, 4, .tmp 23)]), 62),
  (q 25 (.buildSl 5 1 S70.z0 [(0, 5, .tmp 24)]), 126),
  (q 26 (.app 5 72 (x 18) (x 25)), 255),
  (q 6 (.mov (x 26)), 511)]
def S70.r6 : List AOpr := [
  q 27 (.arith .add (x 14) (.const (.int .i64 1))),
  q 14 (.mov (x 27))]
def S70.r7 : List AOpr := [
  q 9 (.mov (.const (.nilsl)))]
def S70.r8 : List AOpr := [
  q 28 (.mov (x 1)),
  q 29 (.len (x 28)),
  q 30 (.mov (.const (.int .i64 0)))]
def S70.r9 : List AOpr := [
  q 31 (.arith .lss (x 30) (x 29))]
def S70.r10 : List AOpr := [
  q 32 (.idxA 4 (x 28) (x 30)),
  q 33 (.ldn 4 (x 32)),
  q 11 (.new S70.z1),
  ⟨none, .st 4 (x 11) (x 33), none⟩]
def S70.r11 : List AOpr := [
  q 34 (.fldA 3 (x 11)),
  q 35 (.ld1 (x 34)),
  q 36 (.call (.const (.func (.func 119) [] [])) [.tmp 35]),
  q 37 (.fldA 3 (x 11)),
  ⟨none, .st 1 (x 37) (x 36), none⟩]
def S70.r12 : List AOpr := [
  q 38 (.mov (x 9)),
  q 39 (.ldn 4 (x 11)),
  q 40 (.buildSl 4 1 S70.z1 [(0, 4, .tmp 39)]),
  q 41 (.app 4 72 (x 38) (x 40)),
  q 9 (.mov (x 41))]
def S70.r13 : List AOpr := [
  q 42 (.arith .add (x 30) (.const (.int .i64 1))),
  q 30 (.mov (x 42))]
def S70.r14 : List AOpr := [
  q 43 (.mov (x 6)),
  q 44 (.mov (x 9)),
  q 4 (.mov (x 43)),
  q 5 (.mov (x 44))]
def S70 : SFn := ⟨45, [.tmp 4, .tmp 5], .seq (.reg S70.r0) (.seq (.reg S70.r1) (.seq (.seq (.reg S70.r2) (.block 0 (.loop [1, 6, 12, 13, 14] [1, 6] (.seq (.reg S70.r3) (.seq (.cond (x 15) (.skip) (.exit 0)) (.seq (.block 1 (.seq (.reg S70.r4) (.draw S70.r5))) (.reg S70.r6))))))) (.seq (.reg S70.r7) (.seq (.seq (.reg S70.r8) (.block 2 (.loop [6, 9, 28, 29, 30] [6, 9] (.seq (.reg S70.r9) (.seq (.cond (x 31) (.skip) (.exit 2)) (.seq (.block 3 (.seq (.reg S70.r10) (.seq (.reg S70.r11) (.reg S70.r12)))) (.reg S70.r13))))))) (.seq (.reg S70.r14) (.ret))))))⟩
theorem S70_ok : EOk Tryz.prog 70 S70 := ⟨Tryz.f70, by kernel_rfl, by kernel_rfl, by decide, by kernel_rfl, its_nil (by kernel_rfl)⟩
def o70_s1 (cl : Handler) (N : Nat) (r : Nat) (c0 c1 c2 c3 c4 : Rec) (v1 v6 v12 v13 v14 v18 v20 v22 : AV) (h : AH) : Ans :=
  fde h (cl 118 [v22] h) fun v23 c5 h =>
  fdp h (kBuild h S70.z0 [(0, 1, v20), (1, 4, v23)]) .pure fun v24 c6 h =>
  fda (r + 7) h (alBuildSl 5 1 S70.z0 [(0, 5, v24)]) fun v25 c7 h =>
  fde h (kApp h 5 72 v18 v25) fun v26 c8 h =>
  fdp h (kMov h v26) .pure fun v6 c9 h =>
  cond (fchk [c0, c1, c2, c3, c4, c5, c6, c7, c8, c9] [(2, 5)]) (fst (kArith h .add v14 (.int .i64 1)) fun v27 h =>
  some (.nrm, [v1, v6, v12, v13, v27], [v1, v6], h)) none
def o70_l1 (cl : Handler) (N : Nat) (v1 v6 v12 v13 v14 : AV) (h : AH) : Ans :=
  fst (kArith h .lss v14 v13) fun v15 h =>
  fif v15 (
  fst (kIdxA h 5 v12 v14) fun v16 h =>
  fst (kLdn h 5 v16) fun v17 h =>
  fst (kNew h S70.z0) fun v8 h =>
  fst (kSt h 5 v8 v17) fun _ h =>
  fdr h 10 fun r h =>
  fdp h (kMov h v6) .pure fun v18 c0 h =>
  fdp h (kFldA h 0 v8) .pure fun v19 c1 h =>
  fdp h (kLd1 h v19) (rdK (rdv v19)) fun v20 c2 h =>
  fdp h (kFldA h 1 v8) .pure fun v21 c3 h =>
  fdp h (kLdn h 4 v21) (rdK (rdv v21)) fun v22 c4 h =>
  o70_s1 cl N r c0 c1 c2 c3 c4 v1 v6 v12 v13 v14 v18 v20 v22 h) (
  some ((.exit 0), [v1, v6, v12, v13, v14], [v1, v6], h))
def o70_s2 (cl : Handler) (N : Nat) (v6 v9 v11 v28 v29 v30 : AV) (h : AH) : Ans :=
  fst (kLdn h 4 v11) fun v39 h =>
  fst (kBuildSl h 4 1 S70.z1 [(0, 4, v39)]) fun v40 h =>
  fst (kApp h 4 72 v9 v40) fun v41 h =>
  fst (kArith h .add v30 (.int .i64 1)) fun v42 h =>
  some (.nrm, [v6, v41, v28, v29, v42], [v6, v41], h)
def o70_l2 (cl : Handler) (N : Nat) (v6 v9 v28 v29 v30 : AV) (h : AH) : Ans :=
  fst (kArith h .lss v30 v29) fun v31 h =>
  fif v31 (
  fst (kIdxA h 4 v28 v30) fun v32 h =>
  fst (kLdn h 4 v32) fun v33 h =>
  fst (kNew h S70.z1) fun v11 h =>
  fst (kSt h 4 v11 v33) fun _ h =>
  fst (kFldA h 3 v11) fun v34 h =>
  fst (kLd1 h v34) fun v35 h =>
  fst (cl 119 [v35] h) fun v36 h =>
  fst (kFldA h 3 v11) fun v37 h =>
  fst (kSt h 1 v37 v36) fun _ h =>
  o70_s2 cl N v6 v9 v11 v28 v29 v30 h) (
  some ((.exit 2), [v6, v9, v28, v29, v30], [v6, v9], h))
def o70_c3 (cl : Handler) (N : Nat) (v6 v9 : AV) (h : AH) : Ans :=
  some (.nrm, [], [.tup [v6, v9]], h)
def o70_j4 (cl : Handler) (N : Nat) (x : AX) (v6 v9 : AV) (h : AH) : Ans :=
  fxs x (o70_c3 cl N v6 v9 h) (fun j => cond (Nat.beq j 2) (o70_c3 cl N v6 v9 h) (none)) (some (.nrm, [], [.tup [.undef, .undef]], h))
def o70_c5 (cl : Handler) (N : Nat) (v1 v6 : AV) (h : AH) : Ans :=
  fst (kLen h v1) fun v29 h =>
  fjn (fiter (fun vs h => o70_l2 cl N (nthD vs 0) (nthD vs 1) (nthD vs 2) (nthD vs 3) (nthD vs 4) h) N [v6, (.nilsl), v1, v29, (.int .i64 0)] h) fun x vs h => o70_j4 cl N x (nthD vs 0) (nthD vs 1) h
def o70_j6 (cl : Handler) (N : Nat) (x : AX) (v1 v6 : AV) (h : AH) : Ans :=
  fxs x (o70_c5 cl N v1 v6 h) (fun j => cond (Nat.beq j 0) (o70_c5 cl N v1 v6 h) (none)) (some (.nrm, [], [.tup [.undef, .undef]], h))
def o70 (cl : Handler) (N : Nat) (v0 v1 : AV) (h : AH) : Ans :=
  fst (kLen h v0) fun v13 h =>
  fjn (fiter (fun vs h => o70_l1 cl N (nthD vs 0) (nthD vs 1) (nthD vs 2) (nthD vs 3) (nthD vs 4) h) N [v1, (.nilsl), v0, v13, (.int .i64 0)] h) fun x vs h => o70_j6 cl N x (nthD vs 0) (nthD vs 1) h
theorem o70_eq (cl : Handler) (N : Nat) (v0 v1 : AV) (h : AH) : frun cl N S70 [v0, v1] h = fans (o70 cl N v0 v1 h) := by kernel_rfl
def w70 (N : Nat) : OF := fun cl args h => match args with
  | [v0, v1] => fans (o70 cl N v0 v1 h)
  | _ => none
theorem w70_ok (N : Nat) : OkF Tryz.prog 70 (w70 N) := .of (N := N) (S70_ok) fun cl args h r hr => by
  unfold w70 at hr
  split at hr
  · exact (o70_eq cl N _ _ _).trans hr
  · cases hr

/- slices.Clone[[]int,int] -/
def S71.r0 : List AOpr := [
  q 2 (.mov (.const (.nilsl)))]
def S71.r1 : List AOpr := [
  q 3 (.mov (x 0)),
  q 4 (.eqn .sl false (x 3) (.const (.nilsl)))]
def S71.r2 : List AOpr := [
  q 2 (.mov (.const (.nilsl)))]
def S71.r3 : List AOpr := [
  q 5 (.buildSl 1 0 [] []),
  q 6 (.mov (x 0)),
  q 7 (.app 1 8 (x 5) (x 6)),
  q 2 (.mov (x 7))]
def S71 : SFn := ⟨8, [.tmp 2], .seq (.reg S71.r0) (.seq (.seq (.reg S71.r1) (.cond (x 4) (.seq (.reg S71.r2) (.ret)) (.skip))) (.seq (.reg S71.r3) (.ret)))⟩
theorem S71_ok : EOk Tryz.prog 71 S71 := ⟨Tryz.f71, by kernel_rfl, by kernel_rfl, by decide, by kernel_rfl, its_nil (by kernel_rfl)⟩
def o71 (cl : Handler) (N : Nat) (v0 : AV) (h : AH) : Ans :=
  fst (kEqn h .sl false v0 (.nilsl)) fun v4 h =>
  fif v4 (
  some (.nrm, [], [(.nilsl)], h)) (
  fst (kBuildSl h 1 0 [] []) fun v5 h =>
  fst (kApp h 1 8 v5 v0) fun v7 h =>
  some (.nrm, [], [v7], h))
theorem o71_eq (cl : Handler) (N : Nat) (v0 : AV) (h : AH) : frun cl N S71 [v0] h = fans (o71 cl N v0 h) := by kernel_rfl
def w71 (N : Nat) : OF := fun cl args h => match args with
  | [v0] => fans (o71 cl N v0 h)
  | _ => none
theorem w71_ok (N : Nat) : OkF Tryz.prog 71 (w71 N) := .of (N := N) (S71_ok) fun cl args h r hr => by
  unfold w71 at hr
  split at hr
  · exact (o71_eq cl N _ _).trans hr
  · cases hr

/- slices.IndexFunc[[]widgetry/api.Line,widgetry/api.Line] -/
def S72.r0 : List AOpr := [
  q 4 (.mov (.const (.int .i64 0)))]
def S72.r1 : List AOpr := [
  q 6 (.mov (x 0)),
  q 7 (.len (x 6)),
  q 8 (.mov (.const (.int .i64 0)))]
def S72.r2 : List AOpr := [
  q 9 (.arith .lss (x 8) (x 7))]
def S72.r3 : List AOpr := [
  q 10 (.mov (x 8)),
  q 5 (.mov (x 10))]
def S72.r4 : List AOpr := [
  q 11 (.mov (x 1)),
  q 12 (.mov (x 0)),
  q 13 (.mov (x 5)),
  q 14 (.idxA 10 (x 12) (x 13)),
  q 15 (.ldn 10 (x 14)),
  q 16 (.call (x 11) [.tmp 15])]
def S72.r5 : List AOpr := [
  q 17 (.mov (x 5)),
  q 4 (.mov (x 17))]
def S72.r6 : List AOpr := [
  q 18 (.arith .add (x 8) (.const (.int .i64 1))),
  q 8 (.mov (x 18))]
def S72.r7 : List AOpr := [
  q 4 (.mov (.const (.int .i64 (-1))))]
def S72 : SFn := ⟨19, [.tmp 4], .seq (.reg S72.r0) (.seq (.seq (.reg S72.r1) (.block 0 (.loop [0, 1, 7, 8] [4] (.seq (.reg S72.r2) (.seq (.cond (x 9) (.skip) (.exit 0)) (.seq (.block 1 (.seq (.reg S72.r3) (.seq (.reg S72.r4) (.cond (x 16) (.seq (.reg S72.r5) (.ret)) (.skip))))) (.reg S72.r6))))))) (.seq (.reg S72.r7) (.ret)))⟩
theorem S72_ok : EOk Tryz.prog 72 S72 := ⟨Tryz.f72, by kernel_rfl, by kernel_rfl, by decide, by kernel_rfl, its_nil (by kernel_rfl)⟩
def o72_l1 (cl : Handler) (N : Nat) (v0 v1 v7 v8 : AV) (h : AH) : Ans :=
  fst (kArith h .lss v8 v7) fun v9 h =>
  fif v9 (
  fst (kIdxA h 10 v0 v8) fun v14 h =>
  fst (kLdn h 10 v14) fun v15 h =>
  fst (kCall cl h v1 [v15]) fun v16 h =>
  fif v16 (
  some (.ret, [v0, v1, v7, v8], [v8], h)) (
  fst (kArith h .add v8 (.int .i64 1)) fun v18 h =>
  some (.nrm, [v0, v1, v7, v18], [.undef], h))) (
  some ((.exit 0), [v0, v1, v7, v8], [.undef], h))
def o72_c2 (cl : Handler) (N : Nat) (h : AH) : Ans :=
  some (.nrm, [], [(.int .i64 (-1))], h)
def o72_j3 (cl : Handler) (N : Nat) (x : AX) (v4 : AV) (h : AH) : Ans :=
  fxs x (o72_c2 cl N h) (fun j => cond (Nat.beq j 0) (o72_c2 cl N h) (none)) (some (.nrm, [], [v4], h))
def o72 (cl : Handler) (N : Nat) (v0 v1 : AV) (h : AH) : Ans :=
  fst (kLen h v0) fun v7 h =>
  fjn (fiter (fun vs h => o72_l1 cl N (nthD vs 0) (nthD vs 1) (nthD vs 2) (nthD vs 3) h) N [v0, v1, v7, (.int .i64 0)] h) fun x vs h => o72_j3 cl N x (nthD vs 0) h
theorem o72_eq (cl : Handler) (N : Nat) (v0 v1 : AV) (h : AH) : frun cl N S72 [v0, v1] h = fans (o72 cl N v0 v1 h) := by kernel_rfl
def w72 (N : Nat) : OF := fun cl args h => match args with
  | [v0, v1] => fans (o72 cl N v0 v1 h)
  | _ => none
theorem w72_ok (N : Nat) : OkF Tryz.prog 72 (w72 N) := .of (N := N) (S72_ok) fun cl args h r hr => by
  unfold w72 at hr
  split at hr
  · exact (o72_eq cl N _ _ _).trans hr
  · cases hr

/- widgetry/layout.Shown -/
def S73.r0 : List AOpr := [
  q 2 (.box (x 0)),
  q 4 (.mov (.const (.nilsl)))]
def S73.r1 : List AOpr := [
  q 5 (.ldn 3 (x 2)),
  q 6 (.call (.const (.func (.func 120) [] [])) [.tmp 5]),
  q 7 (.arith .neq (x 6) (.const (.int .i64 0))),
  q 8 (.mov (x 7)),
  ⟨some 9, .ldn 3 (x 2), some (8, false)⟩,
  ⟨some 10, .mov (x 1), some (8, false)⟩,
  ⟨some 11, .call (.const (.func (.func 121) [] [])) [.tmp 9, .tmp 10], some (8, false)⟩,
  ⟨some 12, .un .not (x 11), some (8, false)⟩,
  q 13 (.pick (x 8) (.const (.bool true)) (x 12)),
  q 14 (.mov (x 13)),
  ⟨some 15, .mov (x 1), some (14, false)⟩,
  ⟨some 16, .call (.const (.func (.func 122) [] [])) [.tmp 15], some (14, false)⟩,
  ⟨some 17, .un .not (x 16), some (14, false)⟩,
  q 18 (.pick (x 14) (.const (.bool true)) (x 17))]
def S73.r2 : List AOpr := [
  q 4 (.mov (.const (.nilsl)))]
def S73.r3 : List AOpr := [
  q 19 (.ldn 3 (x 2)),
  q 20 (.mov (x 1)),
  q 21 (.call (.const (.func (.func 123) [] [])) [.tmp 19, .tmp 20, .const (.nilsl)]),
  q 22 (.nilchk (x 21)),
  q 23 (.fldA 7 (x 22)),
  q 24 (.ld1 (x 23)),
  q 4 (.mov (x 24))]
def S73 : SFn := ⟨25, [.tmp 4], .seq (.reg S73.r0) (.seq (.seq (.joinN [1, 2, 18] (.reg S73.r1)) (.cond (x 18) (.seq (.reg S73.r2) (.ret)) (.skip))) (.seq (.reg S73.r3) (.ret)))⟩
theorem S73_ok : EOk Tryz.prog 73 S73 := ⟨Tryz.f73, by kernel_rfl, by kernel_rfl, by decide, by kernel_rfl, its_nil (by kernel_rfl)⟩
def o73_s1 (cl : Handler) (N : Nat) (v1 v2 v14 v16 : AV) (h : AH) : Ans :=
  fgd (gdv false v14) (kUn h .not v16) h fun v17 h =>
  fst (kPick h v14 (.bool true) v17) fun v18 h =>
  some (.nrm, [], [v1, v2, v18], h)
def o73_a1 (cl : Handler) (N : Nat) (v1 v2 : AV) (h : AH) : Ans :=
  fst (kLdn h 3 v2) fun v5 h =>
  fst (cl 120 [v5] h) fun v6 h =>
  fst (kArith h .neq v6 (.int .i64 0)) fun v7 h =>
  fgd (gdv false v7) (kLdn h 3 v2) h fun v9 h =>
  fgd (gdv false v7) (kMov h v1) h fun v10 h =>
  fgd (gdv false v7) (cl 121 [v9, v10] h) h fun v11 h =>
  fgd (gdv false v7) (kUn h .not v11) h fun v12 h =>
  fst (kPick h v7 (.bool true) v12) fun v13 h =>
  fgd (gdv false v13) (kMov h v1) h fun v15 h =>
  fgd (gdv false v13) (cl 122 [v15] h) h fun v16 h =>
  o73_s1 cl N v1 v2 v13 v16 h
def o73_j2 (cl : Handler) (N : Nat) (v1 v2 v18 : AV) (h : AH) : Ans :=
  fif v18 (
  some (.nrm, [], [(.nilsl)], h)) (
  fst (kLdn h 3 v2) fun v19 h =>
  fst (cl 123 [v19, v1, (.nilsl)] h) fun v21 h =>
  fst (kNilchk h v21) fun v22 h =>
  fst (kFldA h 7 v22) fun v23 h =>
  fst (kLd1 h v23) fun v24 h =>
  some (.nrm, [], [v24], h))
def o73 (cl : Handler) (N : Nat) (v0 v1 : AV) (h : AH) : Ans :=
  fst (kBox h v0) fun v2 h =>
  fjn (o73_a1 cl N v1 v2 h) fun _ vs h => o73_j2 cl N (nthD vs 0) (nthD vs 1) (nthD vs 2) h
theorem o73_eq (cl : Handler) (N : Nat) (v0 v1 : AV) (h : AH) : frun cl N S73 [v0, v1] h = fans (o73 cl N v0 v1 h) := by kernel_rfl
def w73 (N : Nat) : OF := fun cl args h => match args with
  | [v0, v1] => fans (o73 cl N v0 v1 h)
  | _ => none
theorem w73_ok (N : Nat) : OkF Tryz.prog 73 (w73 N) := .of (N := N) (S73_ok) fun cl args h r hr => by
  unfold w73 at hr
  split at hr
  · exact (o73_eq cl N _ _ _).trans hr
  · cases hr

/- slices.Backward[[]int,int] -/
def S77.r0 : List AOpr := [
  q 1 (.box (x 0)),
  q 2 (.mov (.const (.nilfunc)))]
def S77.r1 : List AOpr := [
  q 3 (.mkf (.func 126) [] [.tmp 1]),
  q 2 (.mov (x 3))]
def S77 : SFn := ⟨4, [.tmp 2], .seq (.reg S77.r0) (.seq (.reg S77.r1) (.ret))⟩
theorem S77_ok : EOk Tryz.prog 77 S77 := ⟨Tryz.f77, by kernel_rfl, by kernel_rfl, by decide, by kernel_rfl, its_nil (by kernel_rfl)⟩
def o77 (cl : Handler) (N : Nat) (v0 : AV) (h : AH) : Ans :=
  fst (kBox h v0) fun v1 h =>
  fst (kMkf h (.func 126) [] [v1]) fun v3 h =>
  some (.nrm, [], [v3], h)
theorem o77_eq (cl : Handler) (N : Nat) (v0 : AV) (h : AH) : frun cl N S77 [v0] h = fans (o77 cl N v0 h) := by kernel_rfl
def w77 (N : Nat) : OF := fun cl args h => match args with
  | [v0] => fans (o77 cl N v0 h)
  | _ => none
theorem w77_ok (N : Nat) : OkF Tryz.prog 77 (w77 N) := .of (N := N) (S77_ok) fun cl args h r hr => by
  unfold w77 at hr
  split at hr
  · exact (o77_eq cl N _ _).trans hr
  · cases hr

/- widgetry/view.Path -/
def S78.r0 : List AOpr := [
  q 2 (.box (x 0)),
  q 4 (.mov (.const (.nilsl)))]
def S78.r1 : List AOpr := [
  q 8 (.ldn 3 (x 2)),
  q 9 (.call (.const (.func (.func 68) [] [])) [.tmp 8]),
  q 7 (.mov (x 9)),
  q 10 (.ext (x 7) 0),
  q 11 (.ext (x 7) 1),
  q 5 (.mov (x 10)),
  q 6 (.mov (x 11))]
def S78.r2 : List AOpr := [
  q 12 (.mov (x 6)),
  q 13 (.un .not (x 12))]
def S78.r3 : List AOpr := [
  q 4 (.mov (.const (.nilsl)))]
def S78.r4 : List AOpr := [
  q 14 (.mov (x 5)),
  q 15 (.mov (x 1)),
  q 16 (.call (.const (.func (.func 127) [] [])) [.tmp 14, .tmp 15]),
  q 4 (.mov (x 16))]
def S78 : SFn := ⟨17, [.tmp 4], .seq (.reg S78.r0) (.seq (.reg S78.r1) (.seq (.seq (.reg S78.r2) (.cond (x 13) (.seq (.reg S78.r3) (.ret)) (.skip))) (.seq (.reg S78.r4) (.ret))))⟩
theorem S78_ok : EOk Tryz.prog 78 S78 := ⟨Tryz.f78, by kernel_rfl, by kernel_rfl, by decide, by kernel_rfl, its_nil (by kernel_rfl)⟩
def o78 (cl : Handler) (N : Nat) (v0 v1 : AV) (h : AH) : Ans :=
  fst (kBox h v0) fun v2 h =>
  fst (kLdn h 3 v2) fun v8 h =>
  fst (cl 68 [v8] h) fun v9 h =>
  fst (kExt h v9 0) fun v10 h =>
  fst (kExt h v9 1) fun v11 h =>
  fst (kUn h .not v11) fun v13 h =>
  fif v13 (
  some (.nrm, [], [(.nilsl)], h)) (
  fst (cl 127 [v10, v1] h) fun v16 h =>
  some (.nrm, [], [v16], h))
theorem o78_eq (cl : Handler) (N : Nat) (v0 v1 : AV) (h : AH) : frun cl N S78 [v0, v1] h = fans (o78 cl N v0 v1 h) := by kernel_rfl
def w78 (N : Nat) : OF := fun cl args h => match args with
  | [v0, v1] => fans (o78 cl N v0 v1 h)
  | _ => none
theorem w78_ok (N : Nat) : OkF Tryz.prog 78 (w78 N) := .of (N := N) (S78_ok) fun cl args h r hr => by
  unfold w78 at hr
  split at hr
  · exact (o78_eq cl N _ _ _).trans hr
  · cases hr

/- slices.Index[[]int,int] -/
def S84.r0 : List AOpr := [
  q 4 (.mov (.const (.int .i64 0)))]
def S84.r1 : List AOpr := [
  q 6 (.mov (x 0)),
  q 7 (.len (x 6)),
  q 8 (.mov (.const (.int .i64 0)))]
def S84.r2 : List AOpr := [
  q 9 (.arith .lss (x 8) (x 7))]
def S84.r3 : List AOpr := [
  q 10 (.mov (x 8)),
  q 5 (.mov (x 10))]
def S84.r4 : List AOpr := [
  q 11 (.mov (x 1)),
  q 12 (.mov (x 0)),
  q 13 (.mov (x 5)),
  q 14 (.idxA 1 (x 12) (x 13)),
  q 15 (.ld1 (x 14)),
  q 16 (.arith .eql (x 11) (x 15))]
def S84.r5 : List AOpr := [
  q 17 (.mov (x 5)),
  q 4 (.mov (x 17))]
def S84.r6 : List AOpr := [
  q 18 (.arith .add (x 8) (.const (.int .i64 1))),
  q 8 (.mov (x 18))]
def S84.r7 : List AOpr := [
  q 4 (.mov (.const (.int .i64 (-1))))]
def S84 : SFn := ⟨19, [.tmp 4], .seq (.reg S84.r0) (.seq (.seq (.reg S84.r1) (.block 0 (.loop [0, 1, 7, 8] [4] (.seq (.reg S84.r2) (.seq (.cond (x 9) (.skip) (.exit 0)) (.seq (.block 1 (.seq (.reg S84.r3) (.seq (.reg S84.r4) (.cond (x 16) (.seq (.reg S84.r5) (.ret)) (.skip))))) (.reg S84.r6))))))) (.seq (.reg S84.r7) (.ret)))⟩
theorem S84_ok : EOk Tryz.prog 84 S84 := ⟨Tryz.f84, by kernel_rfl, by kernel_rfl, by decide, by kernel_rfl, its_nil (by kernel_rfl)⟩
def o84_l1 (cl : Handler) (N : Nat) (v0 v1 v7 v8 : AV) (h : AH) : Ans :=
  fst (kArith h .lss v8 v7) fun v9 h =>
  fif v9 (
  fst (kIdxA h 1 v0 v8) fun v14 h =>
  fst (kLd1 h v14) fun v15 h =>
  fst (kArith h .eql v1 v15) fun v16 h =>
  fif v16 (
  some (.ret, [v0, v1, v7, v8], [v8], h)) (
  fst (kArith h .add v8 (.int .i64 1)) fun v18 h =>
  some (.nrm, [v0, v1, v7, v18], [.undef], h))) (
  some ((.exit 0), [v0, v1, v7, v8], [.undef], h))
def o84_c2 (cl : Handler) (N : Nat) (h : AH) : Ans :=
  some (.nrm, [], [(.int .i64 (-1))], h)
def o84_j3 (cl : Handler) (N : Nat) (x : AX) (v4 : AV) (h : AH) : Ans :=
  fxs x (o84_c2 cl N h) (fun j => cond (Nat.beq j 0) (o84_c2 cl N h) (none)) (some (.nrm, [], [v4], h))
def o84 (cl : Handler) (N : Nat) (v0 v1 : AV) (h : AH) : Ans :=
  fst (kLen h v0) fun v7 h =>
  fjn (fiter (fun vs h => o84_l1 cl N (nthD vs 0) (nthD vs 1) (nthD vs 2) (nthD vs 3) h) N [v0, v1, v7, (.int .i64 0)] h) fun x vs h => o84_j3 cl N x (nthD vs 0) h
theorem o84_eq (cl : Handler) (N : Nat) (v0 v1 : AV) (h : AH) : frun cl N S84 [v0, v1] h = fans (o84 cl N v0 v1 h) := by kernel_rfl
def w84 (N : Nat) : OF := fun cl args h => match args with
  | [v0, v1] => fans (o84 cl N v0 v1 h)
  | _ => none
theorem w84_ok (N : Nat) : OkF Tryz.prog 84 (w84 N) := .of (N := N) (S84_ok) fun cl args h r hr => by
  unfold w84 at hr
  split at hr
  · exact (o84_eq cl N _ _ _).trans hr
  · cases hr

def S87.z0 : List AV := [.int .i64 0, .int .i64 0, .str [], .nilsl]
/- widgetry/view.Flag -/
def S87.r0 : List AOpr := [
  q 4 (.mov (.const (.bool false)))]
def S87.r1 : List AOpr := [
  q 8 (.mov (x 0)),
  q 9 (.mov (x 1)),
  q 10 (.call (.const (.func (.func 128) [] [])) [.tmp 8, .tmp 9]),
  q 7 (.mov (x 10)),
  q 11 (.ext (x 7) 0),
  q 12 (.ext (x 7) 1),
  q 5 (.new S87.z0),
  ⟨none, .st 4 (x 5) (x 11), none⟩,
  q 6 (.mov (x 12))]
def S87.r2 : List AOpr := [
  q 13 (.fldA 0 (x 5)),
  q 14 (.ld1 (x 13)),
  q 15 (.arith .eql (x 14) (.const (.int .i64 2))),
  q 16 (.mov (x 15)),
  ⟨some 17, .fldA 1 (x 5), some (16, true)⟩,
  ⟨some 18, .ld1 (x 17), some (16, true)⟩,
  ⟨some 19, .arith .eql (x 18) (.const (.int .i64 1)), some (16, true)⟩,
  q 20 (.pick (x 16) (x 19) (.const (.bool false))),
  q 4 (.mov (x 20))]
def S87 : SFn := ⟨21, [.tmp 4], .seq (.reg S87.r0) (.seq (.reg S87.r1) (.seq (.reg S87.r2) (.ret)))⟩
theorem S87_ok : EOk Tryz.prog 87 S87 := ⟨Tryz.f87, by kernel_rfl, by kernel_rfl, by decide, by kernel_rfl, its_nil (by kernel_rfl)⟩
def o87_s1 (cl : Handler) (N : Nat) (v16 v18 : AV) (h : AH) : Ans :=
  fgd (gdv true v16) (kArith h .eql v18 (.int .i64 1)) h fun v19 h =>
  fst (kPick h v16 v19 (.bool false)) fun v20 h =>
  some (.nrm, [], [v20], h)
def o87 (cl : Handler) (N : Nat) (v0 v1 : AV) (h : AH) : Ans :=
  fst (cl 128 [v0, v1] h) fun v10 h =>
  fst (kExt h v10 0) fun v11 h =>
  fst (kExt h v10 1) fun v12 h =>
  fst (kNew h S87.z0) fun v5 h =>
  fst (kSt h 4 v5 v11) fun _ h =>
  fst (kFldA h 0 v5) fun v13 h =>
  fst (kLd1 h v13) fun v14 h =>
  fst (kArith h .eql v14 (.int .i64 2)) fun v15 h =>
  fgd (gdv true v15) (kFldA h 1 v5) h fun v17 h =>
  fgd (gdv true v15) (kLd1 h v17) h fun v18 h =>
  o87_s1 cl N v15 v18 h
theorem o87_eq (cl : Handler) (N : Nat) (v0 v1 : AV) (h : AH) : frun cl N S87 [v0, v1] h = fans (o87 cl N v0 v1 h) := by kernel_rfl
def w87 (N : Nat) : OF := fun cl args h => match args with
  | [v0, v1] => fans (o87 cl N v0 v1 h)
  | _ => none
theorem w87_ok (N : Nat) : OkF Tryz.prog 87 (w87 N) := .of (N := N) (S87_ok) fun cl args h r hr => by
  unfold w87 at hr
  split at hr
  · exact (o87_eq cl N _ _ _).trans hr
  · cases hr

def S90.z0 : List AV := [.str [], .str [], .str [], .nilsl]
/- widgetry/widgetryref14.validate -/
def S90.r0 : List AOpr := [
  q 3 (.box (x 0)),
  q 6 (.mov (.const (.int .i64 0))),
  q 7 (.mov (.const (.int .i64 0)))]
def S90.r1 : List AOpr := [
  q 19 (.mov (x 2)),
  q 20 (.arith .add (x 19) (.const (.int .i64 1))),
  q 2 (.mov (x 20))]
def S90.r2 : List AOpr := [
  q 21 (.mov (x 1)),
  q 22 (.arith .gtr (x 21) (.const (.int .i64 16)))]
def S90.r3 : List AOpr := [
  q 23 (.mov (x 2)),
  q 6 (.mov (x 23)),
  q 7 (.mov (.const (.int .i64 8)))]
def S90.r4 : List AOpr := [
  q 24 (.mov (x 2)),
  q 25 (.arith .gtr (x 24) (.const (.int .i64 400)))]
def S90.r5 : List AOpr := [
  q 26 (.mov (x 2)),
  q 6 (.mov (x 26)),
  q 7 (.mov (.const (.int .i64 2)))]
def S90.r6 : List AOpr := [
  q 27 (.fldA 0 (x 3)),
  q 28 (.ld1 (x 27)),
  q 29 (.arith .lss (x 28) (.const (.int .i64 1))),
  q 30 (.mov (x 29)),
  ⟨some 31, .fldA 0 (x 3), some (30, false)⟩,
  ⟨some 32, .ld1 (x 31), some (30, false)⟩,
  ⟨some 33, .arith .gtr (x 32) (.const (.int .i64 13)), some (30, false)⟩,
  q 34 (.pick (x 30) (.const (.bool true)) (x 33))]
def S90.r7 : List AOpr := [
  q 35 (.mov (x 2)),
  q 6 (.mov (x 35)),
  q 7 (.mov (.const (.int .i64 9)))]
def S90.r8 : List AOpr := [
  q 36 (.fldA 1 (x 3)),
  q 37 (.ld1 (x 36)),
  q 38 (.call (.const (.func (.func 134) [] [])) [.tmp 37]),
  q 39 (.un .not (x 38))]
def S90.r9 : List AOpr := [
  q 40 (.mov (x 2)),
  q 6 (.mov (x 40)),
  q 7 (.mov (.const (.int .i64 4)))]
def S90.r10 : List AOpr := [
  q 41 (.fldA 2 (x 3)),
  q 42 (.ld1 (x 41)),
  q 43 (.len (x 42)),
  q 44 (.arith .gtr (x 43) (.const (.int .i64 24))),
  q 45 (.mov (x 44)),
  ⟨some 46, .fldA 3 (x 3), some (45, false)⟩,
  ⟨some 47, .ld1 (x 46), some (45, false)⟩,
  ⟨some 48, .len (x 47), some (45, false)⟩,
  ⟨some 49, .arith .gtr (x 48) (.const (.int .i64 24)), some (45, false)⟩,
  q 50 (.pick (x 45) (.const (.bool true)) (x 49)),
  q 51 (.mov (x 50)),
  ⟨some 52, .fldA 4 (x 3), some (51, false)⟩,
  ⟨some 53, .ld1 (x 52), some (51, false)⟩,
  ⟨some 54, .len (x 53), some (51, false)⟩,
  ⟨some 55, .arith .gtr (x 54) (.const (.int .i64 100)), some (51, false)⟩,
  q 56 (.pick (x 51) (.const (.bool true)) (x 55))]
def S90.r11 : List AOpr := [
  q 57 (.mov (x 2)),
  q 6 (.mov (x 57)),
  q 7 (.mov (.const (.int .i64 2)))]
def S90.r12 : List AOpr := [
  q 8 (.mov (.const (.int .i64 0)))]
def S90.r13 : List AOpr := [
  q 58 (.mov (x 8)),
  q 59 (.fldA 2 (x 3)),
  q 60 (.ld1 (x 59)),
  q 61 (.len (x 60)),
  q 62 (.arith .lss (x 58) (x 61))]
def S90.r14 : List AOpr := [
  q 65 (.fldA 2 (x 3)),
  q 66 (.ld1 (x 65)),
  q 67 (.mov (x 8)),
  q 68 (.idxA 5 (x 66) (x 67)),
  q 69 (.fldA 0 (x 68)),
  q 70 (.ld1 (x 69)),
  q 71 (.call (.const (.func (.func 135) [] [])) [.tmp 70]),
  q 72 (.un .not (x 71))]
def S90.r15 : List AOpr := [
  q 73 (.mov (x 2)),
  q 6 (.mov (x 73)),
  q 7 (.mov (.const (.int .i64 4)))]
def S90.r16 : List (AOpr × Nat) := [
  (q 74 (.mov (x 8)), 0),
  (q 75 (.arith .gtr (x 74) (.const (.int .i64 0))), 1),
  (q 76 (.mov (x 75)), 3),
  (⟨some 77, .fldA 2 (x 3), some (76, true)⟩, 7),
  (⟨some 78, .ld1 (x 77), some (76, true)⟩, 15),
  (⟨some 79, .mov (x 8), some (76, true)⟩, 7),
  (⟨some 80, .idxA 5 (x 78) (x 79), some (76, true)⟩, 63),
  (⟨some 81, .fldA 0 (x 80), some (76, true)⟩, 127),
  (⟨some 82, .ld1 (x 81), some (76, true)⟩, 255),
  (⟨some 83, .fldA 2 (x 3), some (76, true)⟩, 7),
  (⟨some 84, .ld1 (x 83), some (76, true)⟩, 519),
  (⟨some 85, .mov (x 8), some (76, true)⟩, 7),
  (⟨some 86, .arith .sub (x 85) (.const (.int .i64 1)), some (76, true)⟩, 2055),
  (⟨some 87, .idxA 5 (x 84) (x 86), some (76, true)⟩, 7687),
  (⟨some 88, .fldA 0 (x 87), some (76, true)⟩, 15879),
  (⟨some 89, .ld1 (x 88), some (76, true)⟩, 32263),
  (⟨some 90, .arith .leq (x 82) (x 89), some (76, true)⟩, 65535),
  (q 91 (.pick (x 76) (x 90) (.const (.bool false))), 131071)]
def S90.r17 : List AOpr := [
  q 92 (.mov (x 2)),
  q 6 (.mov (x 92)),
  q 7 (.mov (.const (.int .i64 10)))]
def S90.r18 : List AOpr := [
  q 93 (.fldA 2 (x 3)),
  q 94 (.ld1 (x 93)),
  q 95 (.mov (x 8)),
  q 96 (.idxA 5 (x 94) (x 95)),
  q 97 (.fldA 1 (x 96)),
  q 98 (.ldn 4 (x 97)),
  q 99 (.call (.const (.func (.func 136) [] [])) [.tmp 98]),
  q 9 (.mov (x 99))]
def S90.r19 : List AOpr := [
  q 100 (.mov (x 9)),
  q 101 (.arith .neq (x 100) (.const (.int .i64 0)))]
def S90.r20 : List AOpr := [
  q 102 (.mov (x 2)),
  q 103 (.mov (x 9)),
  q 6 (.mov (x 102)),
  q 7 (.mov (x 103))]
def S90.r21 : List AOpr := [
  q 63 (.mov (x 8)),
  q 64 (.arith .add (x 63) (.const (.int .i64 1))),
  q 8 (.mov (x 64))]
def S90.r22 : List AOpr := [
  q 10 (.mov (.const (.int .i64 0)))]
def S90.r23 : List AOpr := [
  q 104 (.mov (x 10)),
  q 105 (.fldA 3 (x 3)),
  q 106 (.ld1 (x 105)),
  q 107 (.len (x 106)),
  q 108 (.arith .lss (x 104) (x 107))]
def S90.r24 : List AOpr := [
  q 111 (.fldA 3 (x 3)),
  q 112 (.ld1 (x 111)),
  q 113 (.mov (x 10)),
  q 114 (.idxA 4 (x 112) (x 113)),
  q 115 (.ldn 4 (x 114)),
  q 11 (.new S90.z0),
  ⟨none, .st 4 (x 11) (x 115), none⟩]
def S90.r25 : List AOpr := [
  q 116 (.fldA 0 (x 11)),
  q 117 (.ld1 (x 116)),
  q 118 (.call (.const (.func (.func 135) [] [])) [.tmp 117]),
  q 119 (.un .not (x 118)),
  q 120 (.mov (x 119)),
  ⟨some 121, .fldA 2 (x 11), some (120, false)⟩,
  ⟨some 122, .ld1 (x 121), some (120, false)⟩,
  ⟨some 123, .call (.const (.func (.func 135) [] [])) [.tmp 122], some (120, false)⟩,
  ⟨some 124, .un .not (x 123), some (120, false)⟩,
  q 125 (.pick (x 120) (.const (.bool true)) (x 124))]
def S90.r26 : List AOpr := [
  q 126 (.mov (x 2)),
  q 6 (.mov (x 126)),
  q 7 (.mov (.const (.int .i64 4)))]
def S90.r27 : List (AOpr × Nat) := [
  (q 127 (.mov (x 10)), 0),
  (q 128 (.arith .gtr (x 127) (.const (.int .i64 0))), 1),
  (q 129 (.mov (x 128)), 3),
  (⟨some 130, .fldA 0 (x 11), some (129, true)⟩, 7),
  (⟨some 131, .ld1 (x 130), some (129, true)⟩, 15),
  (⟨some 132, .fldA 3 (x 3), some (129, true)⟩, 7),
  (⟨some 133, .ld1 (x 132), some (129, true)⟩, 39),
  (⟨some 134, .mov (x 10), some (129, true)⟩, 7),
  (⟨some 135, .arith .sub (x 134) (.const (.int .i64 1)), some (129, true)⟩, 135),
  (⟨some 136, .idxA 4 (x 133) (x 135), some (129, true)⟩, 487),
  (⟨some 137, .fldA 0 (x 136), some (129, true)⟩, 999),
  (⟨some 138, .ld1 (x 137), some (129, true)⟩, 2023),
  (⟨some 139, .arith .leq (x 131) (x 138), some (129, true)⟩, 4095),
  (q 140 (.pick (x 129) (x 139) (.const (.bool false))), 8191)]
def S90.r28 : List AOpr := [
  q 141 (.mov (x 2)),
  q 6 (.mov (x 141)),
  q 7 (.mov (.const (.int .i64 10)))]
def S90.r29 : List AOpr := [
  q 142 (.fldA 1 (x 11)),
  q 143 (.ld1 (x 142)),
  q 144 (.lenS (x 143)),
  q 145 (.arith .gtr (x 144) (.const (.int .i64 400))),
  q 146 (.mov (x 145)),
  ⟨some 147, .fldA 3 (x 11), some (146, false)⟩,
  ⟨some 148, .ld1 (x 147), some (146, false)⟩,
  ⟨some 149, .len (x 148), some (146, false)⟩,
  ⟨some 150, .arith .gtr (x 149) (.const (.int .i64 100)), some (146, false)⟩,
  q 151 (.pick (x 146) (.const (.bool true)) (x 150))]
def S90.r30 : List AOpr := [
  q 152 (.mov (x 2)),
  q 6 (.mov (x 152)),
  q 7 (.mov (.const (.int .i64 2)))]
def S90.r31 : List AOpr := [
  q 12 (.mov (.const (.int .i64 0)))]
def S90.r32 : List AOpr := [
  q 153 (.mov (x 12)),
  q 154 (.fldA 3 (x 11)),
  q 155 (.ld1 (x 154)),
  q 156 (.len (x 155)),
  q 157 (.arith .lss (x 153) (x 156))]
def S90.r33 : List AOpr := [
  q 160 (.fldA 3 (x 11)),
  q 161 (.ld1 (x 160)),
  q 162 (.mov (x 12)),
  q 163 (.idxA 4 (x 161) (x 162)),
  q 164 (.ldn 4 (x 163)),
  q 165 (.call (.const (.func (.func 136) [] [])) [.tmp 164]),
  q 13 (.mov (x 165))]
def S90.r34 : List AOpr := [
  q 166 (.mov (x 13)),
  q 167 (.arith .neq (x 166) (.const (.int .i64 0)))]
def S90.r35 : List AOpr := [
  q 168 (.mov (x 2)),
  q 169 (.mov (x 13)),
  q 6 (.mov (x 168)),
  q 7 (.mov (x 169))]
def S90.r36 : List AOpr := [
  q 158 (.mov (x 12)),
  q 159 (.arith .add (x 158) (.const (.int .i64 1))),
  q 12 (.mov (x 159))]
def S90.r37 : List AOpr := [
  q 109 (.mov (x 10)),
  q 110 (.arith .add (x 109) (.const (.int .i64 1))),
  q 10 (.mov (x 110))]
def S90.r38 : List AOpr := [
  q 14 (.mov (.const (.int .i64 0)))]
def S90.r39 : List AOpr := [
  q 170 (.mov (x 14)),
  q 171 (.fldA 4 (x 3)),
  q 172 (.ld1 (x 171)),
  q 173 (.len (x 172)),
  q 174 (.arith .lss (x 170) (x 173))]
def S90.r40 : List AOpr := [
  q 15 (.mov (.const (.int .i64 0)))]
def S90.r41 : List AOpr := [
  q 177 (.mov (x 15)),
  q 178 (.mov (x 14)),
  q 179 (.arith .lss (x 177) (x 178))]
def S90.r42 : List (AOpr × Nat) := [
  (q 182 (.fldA 4 (x 3)), 0),
  (q 183 (.ld1 (x 182)), 1),
  (q 184 (.mov (x 14)), 0),
  (q 185 (.idxA 5 (x 183) (x 184)), 7),
  (q 186 (.fldA 1 (x 185)), 15),
  (q 187 (.ld1 (x 186)), 31),
  (q 188 (.arith .neq (x 187) (.const (.str []))), 63),
  (q 189 (.mov (x 188)), 127),
  (⟨some 190, .fldA 4 (x 3), some (189, true)⟩, 255),
  (⟨some 191, .ld1 (x 190), some (189, true)⟩, 511),
  (⟨some 192, .mov (x 14), some (189, true)⟩, 255),
  (⟨some 193, .idxA 5 (x 191) (x 192), some (189, true)⟩, 2047),
  (⟨some 194, .fldA 1 (x 193), some (189, true)⟩, 4095),
  (⟨some 195, .ld1 (x 194), some (189, true)⟩, 8191),
  (⟨some 196, .fldA 4 (x 3), some (189, true)⟩, 255),
  (⟨some 197, .ld1 (x 196), some (189, true)⟩, 16639),
  (⟨some 198, .mov (x 15), some (189, true)⟩, 255),
  (⟨some 199, .idxA 5 (x 197) (x 198), some (189, true)⟩, 114943),
  (⟨some 200, .fldA 1 (x 199), some (189, true)⟩, 246015),
  (⟨some 201, .ld1 (x 200), some (189, true)⟩, 508159),
  (⟨some 202, .arith .eql (x 195) (x 201), some (189, true)⟩, 1048575),
  (q 203 (.pick (x 189) (x 202) (.const (.bool false))), 2097151)]
def S90.r43 : List AOpr := [
  q 204 (.mov (x 2)),
  q 6 (.mov (x 204)),
  q 7 (.mov (.const (.int .i64 6)))]
def S90.r44 : List AOpr := [
  q 180 (.mov (x 15)),
  q 181 (.arith .add (x 180) (.const (.int .i64 1))),
  q 15 (.mov (x 181))]
def S90.r45 : List AOpr := [
  q 175 (.mov (x 14)),
  q 176 (.arith .add (x 175) (.const (.int .i64 1))),
  q 14 (.mov (x 176))]
def S90.r46 : List AOpr := [
  q 16 (.mov (.const (.int .i64 0)))]
def S90.r47 : List AOpr := [
  q 205 (.mov (x 16)),
  q 206 (.fldA 4 (x 3)),
  q 207 (.ld1 (x 206)),
  q 208 (.len (x 207)),
  q 209 (.arith .lss (x 205) (x 208))]
def S90.r48 : List AOpr := [
  q 213 (.fldA 4 (x 3)),
  q 214 (.ld1 (x 213)),
  q 215 (.mov (x 16)),
  q 216 (.idxA 5 (x 214) (x 215)),
  q 217 (.ldn 5 (x 216)),
  q 218 (.mov (x 1)),
  q 219 (.arith .add (x 218) (.const (.int .i64 1))),
  q 220 (.mov (x 2)),
  q 221 (.call (.const (.func (.func 90) [] [])) [.tmp 217, .tmp 219, .tmp 220]),
  q 212 (.mov (x 221)),
  q 222 (.ext (x 212) 0),
  q 223 (.ext (x 212) 1),
  q 17 (.mov (x 222)),
  q 18 (.mov (x 223))]
def S90.r49 : List AOpr := [
  q 224 (.mov (x 17)),
  q 2 (.mov (x 224))]
def S90.r50 : List AOpr := [
  q 225 (.mov (x 18)),
  q 226 (.arith .neq (x 225) (.const (.int .i64 0)))]
def S90.r51 : List AOpr := [
  q 227 (.mov (x 2)),
  q 228 (.mov (x 18)),
  q 6 (.mov (x 227)),
  q 7 (.mov (x 228))]
def S90.r52 : List AOpr := [
  q 210 (.mov (x 16)),
  q 211 (.arith .add (x 210) (.const (.int .i64 1))),
  q 16 (.mov (x 211))]
def S90.r53 : List AOpr := [
  q 229 (.mov (x 2)),
  q 6 (.mov (x 229)),
  q 7 (.mov (.const (.int .i64 0)))]
def S90 : SFn := ⟨230, [.tmp 6, .tmp 7], .seq (.reg S90.r0) (.seq (.reg S90.r1) (.seq (.seq (.reg S90.r2) (.cond (x 22) (.seq (.reg S90.r3) (.ret)) (.skip))) (.seq (.seq (.reg S90.r4) (.cond (x 25) (.seq (.reg S90.r5) (.ret)) (.skip))) (.seq (.seq (.joinN [1, 2, 3, 34] (.reg S90.r6)) (.cond (x 34) (.seq (.reg S90.r7) (.ret)) (.skip))) (.seq (.seq (.reg S90.r8) (.cond (x 39) (.seq (.reg S90.r9) (.ret)) (.skip))) (.seq (.seq (.joinN [1, 2, 3, 56] (.reg S90.r10)) (.cond (x 56) (.seq (.reg S90.r11) (.ret)) (.skip))) (.seq (.seq (.reg S90.r12) (.block 0 (.loop [1, 2, 3, 8] [1, 2, 3, 6, 7] (.seq (.seq (.reg S90.r13) (.cond (x 62) (.skip) (.exit 0))) (.seq (.block 1 (.seq (.seq (.reg S90.r14) (.cond (x 72) (.seq (.reg S90.r15) (.ret)) (.skip))) (.seq (.seq (.joinN [1, 2, 3, 8, 91] (.draw S90.r16)) (.cond (x 91) (.seq (.reg S90.r17) (.ret)) (.skip))) (.seq (.reg S90.r18) (.seq (.reg S90.r19) (.cond (x 101) (.seq (.reg S90.r20) (.ret)) (.skip))))))) (.reg S90.r21)))))) (.seq (.seq (.reg S90.r22) (.block 2 (.loop [1, 2, 3, 10] [1, 2, 3, 6, 7] (.seq (.seq (.reg S90.r23) (.cond (x 108) (.skip) (.exit 2))) (.seq (.block 3 (.seq (.reg S90.r24) (.seq (.seq (.joinN [1, 2, 3, 10, 11, 125] (.reg S90.r25)) (.cond (x 125) (.seq (.reg S90.r26) (.ret)) (.skip))) (.seq (.seq (.joinN [1, 2, 3, 10, 11, 140] (.draw S90.r27)) (.cond (x 140) (.seq (.reg S90.r28) (.ret)) (.skip))) (.seq (.seq (.joinN [1, 2, 3, 10, 11, 151] (.reg S90.r29)) (.cond (x 151) (.seq (.reg S90.r30) (.ret)) (.skip))) (.seq (.reg S90.r31) (.block 4 (.loop [1, 2, 3, 10, 11, 12] [1, 2, 3, 6, 7, 10] (.seq (.seq (.reg S90.r32) (.cond (x 157) (.skip) (.exit 4))) (.seq (.block 5 (.seq (.reg S90.r33) (.seq (.reg S90.r34) (.cond (x 167) (.seq (.reg S90.r35) (.ret)) (.skip))))) (.reg S90.r36))))))))))) (.reg S90.r37)))))) (.seq (.seq (.reg S90.r38) (.block 6 (.loop [1, 2, 3, 14] [1, 2, 3, 6, 7] (.seq (.seq (.reg S90.r39) (.cond (x 174) (.skip) (.exit 6))) (.seq (.block 7 (.seq (.reg S90.r40) (.block 8 (.loop [1, 2, 3, 14, 15] [1, 2, 3, 6, 7, 14] (.seq (.seq (.reg S90.r41) (.cond (x 179) (.skip) (.exit 8))) (.seq (.block 9 (.seq (.joinN [1, 2, 3, 14, 15, 203] (.draw S90.r42)) (.cond (x 203) (.seq (.reg S90.r43) (.ret)) (.skip)))) (.reg S90.r44))))))) (.reg S90.r45)))))) (.seq (.seq (.reg S90.r46) (.block 10 (.loop [1, 2, 3, 16] [2, 6, 7] (.seq (.seq (.reg S90.r47) (.cond (x 209) (.skip) (.exit 10))) (.seq (.block 11 (.seq (.reg S90.r48) (.seq (.reg S90.r49) (.seq (.reg S90.r50) (.cond (x 226) (.seq (.reg S90.r51) (.ret)) (.skip)))))) (.reg S90.r52)))))) (.seq (.reg S90.r53) (.ret))))))))))))⟩
theorem S90_ok : EOk Tryz.prog 90 S90 := ⟨Tryz.f90, by kernel_rfl, by kernel_rfl, by decide, by kernel_rfl, its_nil (by kernel_rfl)⟩
def o90_a1 (cl : Handler) (N : Nat) (v1 v2 v3 : AV) (h : AH) : Ans :=
  fst (kFldA h 0 v3) fun v27 h =>
  fst (kLd1 h v27) fun v28 h =>
  fst (kArith h .lss v28 (.int .i64 1)) fun v29 h =>
  fgd (gdv false v29) (kFldA h 0 v3) h fun v31 h =>
  fgd (gdv false v29) (kLd1 h v31) h fun v32 h =>
  fgd (gdv false v29) (kArith h .gtr v32 (.int .i64 13)) h fun v33 h =>
  fst (kPick h v29 (.bool true) v33) fun v34 h =>
  some (.nrm, [], [v1, v2, v3, v34], h)
def o90_s1 (cl : Handler) (N : Nat) (v1 v2 v3 v51 v52 : AV) (h : AH) : Ans :=
  fgd (gdv false v51) (kLd1 h v52) h fun v53 h =>
  fgd (gdv false v51) (kLen h v53) h fun v54 h =>
  fgd (gdv false v51) (kArith h .gtr v54 (.int .i64 100)) h fun v55 h =>
  fst (kPick h v51 (.bool true) v55) fun v56 h =>
  some (.nrm, [], [v1, v2, v3, v56], h)
def o90_a2 (cl : Handler) (N : Nat) (v1 v2 v3 : AV) (h : AH) : Ans :=
  fst (kFldA h 2 v3) fun v41 h =>
  fst (kLd1 h v41) fun v42 h =>
  fst (kLen h v42) fun v43 h =>
  fst (kArith h .gtr v43 (.int .i64 24)) fun v44 h =>
  fgd (gdv false v44) (kFldA h 3 v3) h fun v46 h =>
  fgd (gdv false v44) (kLd1 h v46) h fun v47 h =>
  fgd (gdv false v44) (kLen h v47) h fun v48 h =>
  fgd (gdv false v44) (kArith h .gtr v48 (.int .i64 24)) h fun v49 h =>
  fst (kPick h v44 (.bool true) v49) fun v50 h =>
  fgd (gdv false v50) (kFldA h 4 v3) h fun v52 h =>
  o90_s1 cl N v1 v2 v3 v50 v52 h
def o90_s2 (cl : Handler) (N : Nat) (c0 c1 c2 c3 c4 c5 c6 c7 c8 c9 : Rec) (v1 v2 v3 v8 v76 v82 v83 : AV) (h : AH) : Ans :=
  fgq (gdv true v76) (fun k => fdp h (kLd1 h v83) (rdK (rdv v83)) k) h fun v84 c10 h =>
  fgq (gdv true v76) (fun k => fdp h (kMov h v8) .pure k) h fun v85 c11 h =>
  fgq (gdv true v76) (fun k => fdp h (kArith h .sub v85 (.int .i64 1)) .pure k) h fun v86 c12 h =>
  fgq (gdv true v76) (fun k => fdp h (kIdxA h 5 v84 v86) .pure k) h fun v87 c13 h =>
  fgq (gdv true v76) (fun k => fdp h (kFldA h 0 v87) .pure k) h fun v88 c14 h =>
  fgq (gdv true v76) (fun k => fdp h (kLd1 h v88) (rdK (rdv v88)) k) h fun v89 c15 h =>
  fgq (gdv true v76) (fun k => fdp h (kArith h .leq v82 v89) .pure k) h fun v90 c16 h =>
  fdp h (kPick h v76 v90 (.bool false)) .pure fun v91 c17 h =>
  cond (fchk [c0, c1, c2, c3, c4, c5, c6, c7, c8, c9, c10, c11, c12, c13, c14, c15, c16, c17] []) (some (.nrm, [], [v1, v2, v3, v8, v91], h)) none
def o90_a3 (cl : Handler) (N : Nat) (v1 v2 v3 v8 : AV) (h : AH) : Ans :=
  fdr h 18 fun r h =>
  fdp h (kMov h v8) .pure fun v74 c0 h =>
  fdp h (kArith h .gtr v74 (.int .i64 0)) .pure fun v75 c1 h =>
  fdp h (kMov h v75) .pure fun v76 c2 h =>
  fgq (gdv true v76) (fun k => fdp h (kFldA h 2 v3) .pure k) h fun v77 c3 h =>
  fgq (gdv true v76) (fun k => fdp h (kLd1 h v77) (rdK (rdv v77)) k) h fun v78 c4 h =>
  fgq (gdv true v76) (fun k => fdp h (kMov h v8) .pure k) h fun v79 c5 h =>
  fgq (gdv true v76) (fun k => fdp h (kIdxA h 5 v78 v79) .pure k) h fun v80 c6 h =>
  fgq (gdv true v76) (fun k => fdp h (kFldA h 0 v80) .pure k) h fun v81 c7 h =>
  fgq (gdv true v76) (fun k => fdp h (kLd1 h v81) (rdK (rdv v81)) k) h fun v82 c8 h =>
  fgq (gdv true v76) (fun k => fdp h (kFldA h 2 v3) .pure k) h fun v83 c9 h =>
  o90_s2 cl N c0 c1 c2 c3 c4 c5 c6 c7 c8 c9 v1 v2 v3 v8 v76 v82 v83 h
def o90_j4 (cl : Handler) (N : Nat) (v1 v2 v3 v8 v91 : AV) (h : AH) : Ans :=
  fif v91 (
  some (.ret, [v1, v2, v3, v8], [v1, v2, v3, v2, (.int .i64 10)], h)) (
  fst (kFldA h 2 v3) fun v93 h =>
  fst (kLd1 h v93) fun v94 h =>
  fst (kIdxA h 5 v94 v8) fun v96 h =>
  fst (kFldA h 1 v96) fun v97 h =>
  fst (kLdn h 4 v97) fun v98 h =>
  fst (cl 136 [v98] h) fun v99 h =>
  fst (kArith h .neq v99 (.int .i64 0)) fun v101 h =>
  fif v101 (
  some (.ret, [v1, v2, v3, v8], [v1, v2, v3, v2, v99], h)) (
  fst (kArith h .add v8 (.int .i64 1)) fun v64 h =>
  some (.nrm, [v1, v2, v3, v64], [v1, v2, v3, .undef, .undef], h)))
def o90_s3 (cl : Handler) (N : Nat) (v1 v2 v3 v8 v71 : AV) (h : AH) : Ans :=
  fst (kUn h .not v71) fun v72 h =>
  fif v72 (
  some (.ret, [v1, v2, v3, v8], [v1, v2, v3, v2, (.int .i64 4)], h)) (
  fjn (o90_a3 cl N v1 v2 v3 v8 h) fun _ vs h => o90_j4 cl N (nthD vs 0) (nthD vs 1) (nthD vs 2) (nthD vs 3) (nthD vs 4) h)
def o90_l5 (cl : Handler) (N : Nat) (v1 v2 v3 v8 : AV) (h : AH) : Ans :=
  fst (kFldA h 2 v3) fun v59 h =>
  fst (kLd1 h v59) fun v60 h =>
  fst (kLen h v60) fun v61 h =>
  fst (kArith h .lss v8 v61) fun v62 h =>
  fif v62 (
  fst (kFldA h 2 v3) fun v65 h =>
  fst (kLd1 h v65) fun v66 h =>
  fst (kIdxA h 5 v66 v8) fun v68 h =>
  fst (kFldA h 0 v68) fun v69 h =>
  fst (kLd1 h v69) fun v70 h =>
  fst (cl 135 [v70] h) fun v71 h =>
  o90_s3 cl N v1 v2 v3 v8 v71 h) (
  some ((.exit 0), [v1, v2, v3, v8], [v1, v2, v3, .undef, .undef], h))
def o90_a6 (cl : Handler) (N : Nat) (v1 v2 v3 v10 v11 : AV) (h : AH) : Ans :=
  fst (kFldA h 0 v11) fun v116 h =>
  fst (kLd1 h v116) fun v117 h =>
  fst (cl 135 [v117] h) fun v118 h =>
  fst (kUn h .not v118) fun v119 h =>
  fgd (gdv false v119) (kFldA h 2 v11) h fun v121 h =>
  fgd (gdv false v119) (kLd1 h v121) h fun v122 h =>
  fgd (gdv false v119) (cl 135 [v122] h) h fun v123 h =>
  fgd (gdv false v119) (kUn h .not v123) h fun v124 h =>
  fst (kPick h v119 (.bool true) v124) fun v125 h =>
  some (.nrm, [], [v1, v2, v3, v10, v11, v125], h)
def o90_s4 (cl : Handler) (N : Nat) (c0 c1 c2 c3 c4 c5 c6 c7 c8 c9 : Rec) (v1 v2 v3 v10 v11 v129 v131 v136 : AV) (h : AH) : Ans :=
  fgq (gdv true v129) (fun k => fdp h (kFldA h 0 v136) .pure k) h fun v137 c10 h =>
  fgq (gdv true v129) (fun k => fdp h (kLd1 h v137) (rdK (rdv v137)) k) h fun v138 c11 h =>
  fgq (gdv true v129) (fun k => fdp h (kArith h .leq v131 v138) .pure k) h fun v139 c12 h =>
  fdp h (kPick h v129 v139 (.bool false)) .pure fun v140 c13 h =>
  cond (fchk [c0, c1, c2, c3, c4, c5, c6, c7, c8, c9, c10, c11, c12, c13] []) (some (.nrm, [], [v1, v2, v3, v10, v11, v140], h)) none
def o90_a7 (cl : Handler) (N : Nat) (v1 v2 v3 v10 v11 : AV) (h : AH) : Ans :=
  fdr h 14 fun r h =>
  fdp h (kMov h v10) .pure fun v127 c0 h =>
  fdp h (kArith h .gtr v127 (.int .i64 0)) .pure fun v128 c1 h =>
  fdp h (kMov h v128) .pure fun v129 c2 h =>
  fgq (gdv true v129) (fun k => fdp h (kFldA h 0 v11) .pure k) h fun v130 c3 h =>
  fgq (gdv true v129) (fun k => fdp h (kLd1 h v130) (rdK (rdv v130)) k) h fun v131 c4 h =>
  fgq (gdv true v129) (fun k => fdp h (kFldA h 3 v3) .pure k) h fun v132 c5 h =>
  fgq (gdv true v129) (fun k => fdp h (kLd1 h v132) (rdK (rdv v132)) k) h fun v133 c6 h =>
  fgq (gdv true v129) (fun k => fdp h (kMov h v10) .pure k) h fun v134 c7 h =>
  fgq (gdv true v129) (fun k => fdp h (kArith h .sub v134 (.int .i64 1)) .pure k) h fun v135 c8 h =>
  fgq (gdv true v129) (fun k => fdp h (kIdxA h 4 v133 v135) .pure k) h fun v136 c9 h =>
  o90_s4 cl N c0 c1 c2 c3 c4 c5 c6 c7 c8 c9 v1 v2 v3 v10 v11 v129 v131 v136 h
def o90_a8 (cl : Handler) (N : Nat) (v1 v2 v3 v10 v11 : AV) (h : AH) : Ans :=
  fst (kFldA h 1 v11) fun v142 h =>
  fst (kLd1 h v142) fun v143 h =>
  fst (kLenS h v143) fun v144 h =>
  fst (kArith h .gtr v144 (.int .i64 400)) fun v145 h =>
  fgd (gdv false v145) (kFldA h 3 v11) h fun v147 h =>
  fgd (gdv false v145) (kLd1 h v147) h fun v148 h =>
  fgd (gdv false v145) (kLen h v148) h fun v149 h =>
  fgd (gdv false v145) (kArith h .gtr v149 (.int .i64 100)) h fun v150 h =>
  fst (kPick h v145 (.bool true) v150) fun v151 h =>
  some (.nrm, [], [v1, v2, v3, v10, v11, v151], h)
def o90_s5 (cl : Handler) (N : Nat) (v1 v2 v3 v10 v11 v12 v13 : AV) (h : AH) : Ans :=
  some (.ret, [v1, v2, v3, v10, v11, v12], [v1, v2, v3, v2, v13, v10], h)
def o90_s6 (cl : Handler) (N : Nat) (v1 v2 v3 v10 v11 v12 : AV) (h : AH) : Ans :=
  fst (kArith h .add v12 (.int .i64 1)) fun v159 h =>
  some (.nrm, [v1, v2, v3, v10, v11, v159], [v1, v2, v3, .undef, .undef, v10], h)
def o90_l9 (cl : Handler) (N : Nat) (v1 v2 v3 v10 v11 v12 : AV) (h : AH) : Ans :=
  fst (kFldA h 3 v11) fun v154 h =>
  fst (kLd1 h v154) fun v155 h =>
  fst (kLen h v155) fun v156 h =>
  fst (kArith h .lss v12 v156) fun v157 h =>
  fif v157 (
  fst (kFldA h 3 v11) fun v160 h =>
  fst (kLd1 h v160) fun v161 h =>
  fst (kIdxA h 4 v161 v12) fun v163 h =>
  fst (kLdn h 4 v163) fun v164 h =>
  fst (cl 136 [v164] h) fun v165 h =>
  fst (kArith h .neq v165 (.int .i64 0)) fun v167 h =>
  fif v167 (
  o90_s5 cl N v1 v2 v3 v10 v11 v12 v165 h) (
  o90_s6 cl N v1 v2 v3 v10 v11 v12 h)) (
  some ((.exit 4), [v1, v2, v3, v10, v11, v12], [v1, v2, v3, .undef, .undef, v10], h))
def o90_c10 (cl : Handler) (N : Nat) (v1 v2 v3 v6 v7 v10 : AV) (h : AH) : Ans :=
  fst (kArith h .add v10 (.int .i64 1)) fun v110 h =>
  some (.nrm, [v1, v2, v3, v110], [v1, v2, v3, v6, v7], h)
def o90_j11 (cl : Handler) (N : Nat) (x : AX) (v1 v2 v3 v6 v7 v10 : AV) (h : AH) : Ans :=
  fxs x (o90_c10 cl N v1 v2 v3 v6 v7 v10 h) (fun j => cond (Nat.beq j 4) (o90_c10 cl N v1 v2 v3 v6 v7 v10 h) (cond (Nat.beq j 3) (fst (kArith h .add v10 (.int .i64 1)) fun v110 h =>
  some (.nrm, [v1, v2, v3, v110], [v1, v2, v3, v6, v7], h)) (some ((.exit j), [v1, v2, v3, v10], [v1, v2, v3, v6, v7], h)))) (some (.ret, [v1, v2, v3, v10], [v1, v2, v3, v6, v7], h))
def o90_j12 (cl : Handler) (N : Nat) (v1 v2 v3 v10 v11 v151 : AV) (h : AH) : Ans :=
  fif v151 (
  some (.ret, [v1, v2, v3, v10], [v1, v2, v3, v2, (.int .i64 2)], h)) (
  fjn (fiter (fun vs h => o90_l9 cl N (nthD vs 0) (nthD vs 1) (nthD vs 2) (nthD vs 3) (nthD vs 4) (nthD vs 5) h) N [v1, v2, v3, v10, v11, (.int .i64 0)] h) fun x vs h => o90_j11 cl N x (nthD vs 0) (nthD vs 1) (nthD vs 2) (nthD vs 3) (nthD vs 4) (nthD vs 5) h)
def o90_j13 (cl : Handler) (N : Nat) (v1 v2 v3 v10 v11 v140 : AV) (h : AH) : Ans :=
  fif v140 (
  some (.ret, [v1, v2, v3, v10], [v1, v2, v3, v2, (.int .i64 10)], h)) (
  fjn (o90_a8 cl N v1 v2 v3 v10 v11 h) fun _ vs h => o90_j12 cl N (nthD vs 0) (nthD vs 1) (nthD vs 2) (nthD vs 3) (nthD vs 4) (nthD vs 5) h)
def o90_j14 (cl : Handler) (N : Nat) (v1 v2 v3 v10 v11 v125 : AV) (h : AH) : Ans :=
  fif v125 (
  some (.ret, [v1, v2, v3, v10], [v1, v2, v3, v2, (.int .i64 4)], h)) (
  fjn (o90_a7 cl N v1 v2 v3 v10 v11 h) fun _ vs h => o90_j13 cl N (nthD vs 0) (nthD vs 1) (nthD vs 2) (nthD vs 3) (nthD vs 4) (nthD vs 5) h)
def o90_l15 (cl : Handler) (N : Nat) (v1 v2 v3 v10 : AV) (h : AH) : Ans :=
  fst (kFldA h 3 v3) fun v105 h =>
  fst (kLd1 h v105) fun v106 h =>
  fst (kLen h v106) fun v107 h =>
  fst (kArith h .lss v10 v107) fun v108 h =>
  fif v108 (
  fst (kFldA h 3 v3) fun v111 h =>
  fst (kLd1 h v111) fun v112 h =>
  fst (kIdxA h 4 v112 v10) fun v114 h =>
  fst (kLdn h 4 v114) fun v115 h =>
  fst (kNew h S90.z0) fun v11 h =>
  fst (kSt h 4 v11 v115) fun _ h =>
  fjn (o90_a6 cl N v1 v2 v3 v10 v11 h) fun _ vs h => o90_j14 cl N (nthD vs 0) (nthD vs 1) (nthD vs 2) (nthD vs 3) (nthD vs 4) (nthD vs 5) h) (
  some ((.exit 2), [v1, v2, v3, v10], [v1, v2, v3, .undef, .undef], h))
def o90_s7 (cl : Handler) (N : Nat) (c0 c1 c2 c3 c4 c5 c6 c7 c8 c9 c10 c11 c12 c13 c14 c15 c16 c17 c18 c19 : Rec) (v1 v2 v3 v14 v15 v189 v195 v201 : AV) (h : AH) : Ans :=
  fgq (gdv true v189) (fun k => fdp h (kArith h .eql v195 v201) .pure k) h fun v202 c20 h =>
  fdp h (kPick h v189 v202 (.bool false)) .pure fun v203 c21 h =>
  cond (fchk [c0, c1, c2, c3, c4, c5, c6, c7, c8, c9, c10, c11, c12, c13, c14, c15, c16, c17, c18, c19, c20, c21] []) (some (.nrm, [], [v1, v2, v3, v14, v15, v203], h)) none
def o90_s8 (cl : Handler) (N : Nat) (c0 c1 c2 c3 c4 c5 c6 c7 c8 c9 : Rec) (v1 v2 v3 v14 v15 v189 v191 : AV) (h : AH) : Ans :=
  fgq (gdv true v189) (fun k => fdp h (kMov h v14) .pure k) h fun v192 c10 h =>
  fgq (gdv true v189) (fun k => fdp h (kIdxA h 5 v191 v192) .pure k) h fun v193 c11 h =>
  fgq (gdv true v189) (fun k => fdp h (kFldA h 1 v193) .pure k) h fun v194 c12 h =>
  fgq (gdv true v189) (fun k => fdp h (kLd1 h v194) (rdK (rdv v194)) k) h fun v195 c13 h =>
  fgq (gdv true v189) (fun k => fdp h (kFldA h 4 v3) .pure k) h fun v196 c14 h =>
  fgq (gdv true v189) (fun k => fdp h (kLd1 h v196) (rdK (rdv v196)) k) h fun v197 c15 h =>
  fgq (gdv true v189) (fun k => fdp h (kMov h v15) .pure k) h fun v198 c16 h =>
  fgq (gdv true v189) (fun k => fdp h (kIdxA h 5 v197 v198) .pure k) h fun v199 c17 h =>
  fgq (gdv true v189) (fun k => fdp h (kFldA h 1 v199) .pure k) h fun v200 c18 h =>
  fgq (gdv true v189) (fun k => fdp h (kLd1 h v200) (rdK (rdv v200)) k) h fun v201 c19 h =>
  o90_s7 cl N c0 c1 c2 c3 c4 c5 c6 c7 c8 c9 c10 c11 c12 c13 c14 c15 c16 c17 c18 c19 v1 v2 v3 v14 v15 v189 v195 v201 h
def o90_a16 (cl : Handler) (N : Nat) (v1 v2 v3 v14 v15 : AV) (h : AH) : Ans :=
  fdr h 22 fun r h =>
  fdp h (kFldA h 4 v3) .pure fun v182 c0 h =>
  fdp h (kLd1 h v182) (rdK (rdv v182)) fun v183 c1 h =>
  fdp h (kMov h v14) .pure fun v184 c2 h =>
  fdp h (kIdxA h 5 v183 v184) .pure fun v185 c3 h =>
  fdp h (kFldA h 1 v185) .pure fun v186 c4 h =>
  fdp h (kLd1 h v186) (rdK (rdv v186)) fun v187 c5 h =>
  fdp h (kArith h .neq v187 (.str [])) .pure fun v188 c6 h =>
  fdp h (kMov h v188) .pure fun v189 c7 h =>
  fgq (gdv true v189) (fun k => fdp h (kFldA h 4 v3) .pure k) h fun v190 c8 h =>
  fgq (gdv true v189) (fun k => fdp h (kLd1 h v190) (rdK (rdv v190)) k) h fun v191 c9 h =>
  o90_s8 cl N c0 c1 c2 c3 c4 c5 c6 c7 c8 c9 v1 v2 v3 v14 v15 v189 v191 h
def o90_j17 (cl : Handler) (N : Nat) (v1 v2 v3 v14 v15 v203 : AV) (h : AH) : Ans :=
  fif v203 (
  some (.ret, [v1, v2, v3, v14, v15], [v1, v2, v3, v2, (.int .i64 6), v14], h)) (
  fst (kArith h .add v15 (.int .i64 1)) fun v181 h =>
  some (.nrm, [v1, v2, v3, v14, v181], [v1, v2, v3, .undef, .undef, v14], h))
def o90_l18 (cl : Handler) (N : Nat) (v1 v2 v3 v14 v15 : AV) (h : AH) : Ans :=
  fst (kArith h .lss v15 v14) fun v179 h =>
  fif v179 (
  fjn (o90_a16 cl N v1 v2 v3 v14 v15 h) fun _ vs h => o90_j17 cl N (nthD vs 0) (nthD vs 1) (nthD vs 2) (nthD vs 3) (nthD vs 4) (nthD vs 5) h) (
  some ((.exit 8), [v1, v2, v3, v14, v15], [v1, v2, v3, .undef, .undef, v14], h))
def o90_c19 (cl : Handler) (N : Nat) (v1 v2 v3 v6 v7 v14 : AV) (h : AH) : Ans :=
  fst (kArith h .add v14 (.int .i64 1)) fun v176 h =>
  some (.nrm, [v1, v2, v3, v176], [v1, v2, v3, v6, v7], h)
def o90_j20 (cl : Handler) (N : Nat) (x : AX) (v1 v2 v3 v6 v7 v14 : AV) (h : AH) : Ans :=
  fxs x (o90_c19 cl N v1 v2 v3 v6 v7 v14 h) (fun j => cond (Nat.beq j 8) (o90_c19 cl N v1 v2 v3 v6 v7 v14 h) (cond (Nat.beq j 7) (fst (kArith h .add v14 (.int .i64 1)) fun v176 h =>
  some (.nrm, [v1, v2, v3, v176], [v1, v2, v3, v6, v7], h)) (some ((.exit j), [v1, v2, v3, v14], [v1, v2, v3, v6, v7], h)))) (some (.ret, [v1, v2, v3, v14], [v1, v2, v3, v6, v7], h))
def o90_l21 (cl : Handler) (N : Nat) (v1 v2 v3 v14 : AV) (h : AH) : Ans :=
  fst (kFldA h 4 v3) fun v171 h =>
  fst (kLd1 h v171) fun v172 h =>
  fst (kLen h v172) fun v173 h =>
  fst (kArith h .lss v14 v173) fun v174 h =>
  fif v174 (
  fjn (fiter (fun vs h => o90_l18 cl N (nthD vs 0) (nthD vs 1) (nthD vs 2) (nthD vs 3) (nthD vs 4) h) N [v1, v2, v3, v14, (.int .i64 0)] h) fun x vs h => o90_j20 cl N x (nthD vs 0) (nthD vs 1) (nthD vs 2) (nthD vs 3) (nthD vs 4) (nthD vs 5) h) (
  some ((.exit 6), [v1, v2, v3, v14], [v1, v2, v3, .undef, .undef], h))
def o90_s9 (cl : Handler) (N : Nat) (v1 v3 v16 v221 : AV) (h : AH) : Ans :=
  fst (kExt h v221 0) fun v222 h =>
  fst (kExt h v221 1) fun v223 h =>
  fst (kArith h .neq v223 (.int .i64 0)) fun v226 h =>
  fif v226 (
  some (.ret, [v1, v222, v3, v16], [v222, v222, v223], h)) (
  fst (kArith h .add v16 (.int .i64 1)) fun v211 h =>
  some (.nrm, [v1, v222, v3, v211], [v222, .undef, .undef], h))
def o90_l22 (cl : Handler) (N : Nat) (v1 v2 v3 v16 : AV) (h : AH) : Ans :=
  fst (kFldA h 4 v3) fun v206 h =>
  fst (kLd1 h v206) fun v207 h =>
  fst (kLen h v207) fun v208 h =>
  fst (kArith h .lss v16 v208) fun v209 h =>
  fif v209 (
  fst (kFldA h 4 v3) fun v213 h =>
  fst (kLd1 h v213) fun v214 h =>
  fst (kIdxA h 5 v214 v16) fun v216 h =>
  fst (kLdn h 5 v216) fun v217 h =>
  fst (kArith h .add v1 (.int .i64 1)) fun v219 h =>
  fst (cl 90 [v217, v219, v2] h) fun v221 h =>
  o90_s9 cl N v1 v3 v16 v221 h) (
  some ((.exit 10), [v1, v2, v3, v16], [v2, .undef, .undef], h))
def o90_c23 (cl : Handler) (N : Nat) (v2 : AV) (h : AH) : Ans :=
  some (.nrm, [], [.tup [v2, (.int .i64 0)]], h)
def o90_j24 (cl : Handler) (N : Nat) (x : AX) (v2 v6 v7 : AV) (h : AH) : Ans :=
  fxs x (o90_c23 cl N v2 h) (fun j => cond (Nat.beq j 10) (o90_c23 cl N v2 h) (none)) (some (.nrm, [], [.tup [v6, v7]], h))
def o90_c25 (cl : Handler) (N : Nat) (v1 v2 v3 : AV) (h : AH) : Ans :=
  fjn (fiter (fun vs h => o90_l22 cl N (nthD vs 0) (nthD vs 1) (nthD vs 2) (nthD vs 3) h) N [v1, v2, v3, (.int .i64 0)] h) fun x vs h => o90_j24 cl N x (nthD vs 0) (nthD vs 1) (nthD vs 2) h
def o90_j26 (cl : Handler) (N : Nat) (x : AX) (v1 v2 v3 v6 v7 : AV) (h : AH) : Ans :=
  fxs x (o90_c25 cl N v1 v2 v3 h) (fun j => cond (Nat.beq j 6) (o90_c25 cl N v1 v2 v3 h) (none)) (some (.nrm, [], [.tup [v6, v7]], h))
def o90_c27 (cl : Handler) (N : Nat) (v1 v2 v3 : AV) (h : AH) : Ans :=
  fjn (fiter (fun vs h => o90_l21 cl N (nthD vs 0) (nthD vs 1) (nthD vs 2) (nthD vs 3) h) N [v1, v2, v3, (.int .i64 0)] h) fun x vs h => o90_j26 cl N x (nthD vs 0) (nthD vs 1) (nthD vs 2) (nthD vs 3) (nthD vs 4) h
def o90_j28 (cl : Handler) (N : Nat) (x : AX) (v1 v2 v3 v6 v7 : AV) (h : AH) : Ans :=
  fxs x (o90_c27 cl N v1 v2 v3 h) (fun j => cond (Nat.beq j 2) (o90_c27 cl N v1 v2 v3 h) (none)) (some (.nrm, [], [.tup [v6, v7]], h))
def o90_c29 (cl : Handler) (N : Nat) (v1 v2 v3 : AV) (h : AH) : Ans :=
  fjn (fiter (fun vs h => o90_l15 cl N (nthD vs 0) (nthD vs 1) (nthD vs 2) (nthD vs 3) h) N [v1, v2, v3, (.int .i64 0)] h) fun x vs h => o90_j28 cl N x (nthD vs 0) (nthD vs 1) (nthD vs 2) (nthD vs 3) (nthD vs 4) h
def o90_j30 (cl : Handler) (N : Nat) (x : AX) (v1 v2 v3 v6 v7 : AV) (h : AH) : Ans :=
  fxs x (o90_c29 cl N v1 v2 v3 h) (fun j => cond (Nat.beq j 0) (o90_c29 cl N v1 v2 v3 h) (none)) (some (.nrm, [], [.tup [v6, v7]], h))
def o90_j31 (cl : Handler) (N : Nat) (v1 v2 v3 v56 : AV) (h : AH) : Ans :=
  fif v56 (
  some (.nrm, [], [.tup [v2, (.int .i64 2)]], h)) (
  fjn (fiter (fun vs h => o90_l5 cl N (nthD vs 0) (nthD vs 1) (nthD vs 2) (nthD vs 3) h) N [v1, v2, v3, (.int .i64 0)] h) fun x vs h => o90_j30 cl N x (nthD vs 0) (nthD vs 1) (nthD vs 2) (nthD vs 3) (nthD vs 4) h)
def o90_j32 (cl : Handler) (N : Nat) (v1 v2 v3 v34 : AV) (h : AH) : Ans :=
  fif v34 (
  some (.nrm, [], [.tup [v2, (.int .i64 9)]], h)) (
  fst (kFldA h 1 v3) fun v36 h =>
  fst (kLd1 h v36) fun v37 h =>
  fst (cl 134 [v37] h) fun v38 h =>
  fst (kUn h .not v38) fun v39 h =>
  fif v39 (
  some (.nrm, [], [.tup [v2, (.int .i64 4)]], h)) (
  fjn (o90_a2 cl N v1 v2 v3 h) fun _ vs h => o90_j31 cl N (nthD vs 0) (nthD vs 1) (nthD vs 2) (nthD vs 3) h))
def o90 (cl : Handler) (N : Nat) (v0 v1 v2 : AV) (h : AH) : Ans :=
  fst (kBox h v0) fun v3 h =>
  fst (kArith h .add v2 (.int .i64 1)) fun v20 h =>
  fst (kArith h .gtr v1 (.int .i64 16)) fun v22 h =>
  fif v22 (
  some (.nrm, [], [.tup [v20, (.int .i64 8)]], h)) (
  fst (kArith h .gtr v20 (.int .i64 400)) fun v25 h =>
  fif v25 (
  some (.nrm, [], [.tup [v20, (.int .i64 2)]], h)) (
  fjn (o90_a1 cl N v1 v20 v3 h) fun _ vs h => o90_j32 cl N (nthD vs 0) (nthD vs 1) (nthD vs 2) (nthD vs 3) h))
theorem o90_eq (cl : Handler) (N : Nat) (v0 v1 v2 : AV) (h : AH) : frun cl N S90 [v0, v1, v2] h = fans (o90 cl N v0 v1 v2 h) := by kernel_rfl
def w90 (N : Nat) : OF := fun cl args h => match args with
  | [v0, v1, v2] => fans (o90 cl N v0 v1 v2 h)
  | _ => none
theorem w90_ok (N : Nat) : OkF Tryz.prog 90 (w90 N) := .of (N := N) (S90_ok) fun cl args h r hr => by
  unfold w90 at hr
  split at hr
  · exact (o90_eq cl N _ _ _ _).trans hr
  · cases hr

def S91.z0 : List AV := [.int .i64 0, .int .i64 0, .int .i64 0, .str [], .nilsl, .nilsl, .nilsl]
/- widgetry/widgetryref31.Scoped -/
def S91.r0 : List AOpr := [
  q 1 (.box (x 0)),
  q 2 (.mov (.const (.int .i64 0)))]
def S91.r1 : List AOpr := [
  q 7 (.fldA 4 (x 1)),
  q 8 (.ld1 (x 7)),
  q 9 (.len (x 8)),
  q 10 (.arith .eql (x 9) (.const (.int .i64 0)))]
def S91.r2 : List AOpr := [
  q 2 (.mov (.const (.int .i64 0)))]
def S91.r3 : List AOpr := [
  q 11 (.fldA 4 (x 1)),
  q 12 (.ld1 (x 11)),
  q 13 (.idxA 1 (x 12) (.const (.int .i64 0))),
  q 14 (.ld1 (x 13)),
  q 3 (.mov (x 14))]
def S91.r4 : List AOpr := [
  q 4 (.mov (.const (.int .i64 0)))]
def S91.r5 : List AOpr := [
  q 15 (.mov (x 4)),
  q 16 (.fldA 4 (x 1)),
  q 17 (.ld1 (x 16)),
  q 18 (.len (x 17)),
  q 19 (.arith .lss (x 15) (x 18))]
def S91.r6 : List (AOpr × Nat) := [
  (q 23 (.fldA 0 (x 1)), 0),
  (q 24 (.ldn 3 (x 23)), 1),
  (q 25 (.fldA 4 (x 1)), 0),
  (q 26 (.ld1 (x 25)), 4),
  (q 27 (.mov (x 4)), 0),
  (q 28 (.idxA 1 (x 26) (x 27)), 28),
  (q 29 (.ld1 (x 28)), 60),
  (q 30 (.call (.const (.func (.func 42) [] [])) [.tmp 24, .tmp 29]), 127),
  (q 22 (.mov (x 30)), 255),
  (q 31 (.ext (x 22) 0), 511),
  (q 32 (.ext (x 22) 1), 511),
  (q 5 (.new S91.z0), 0),
  (⟨none, .st 7 (x 5) (x 31), none⟩, 3071),
  (q 6 (.mov (x 32)), 8191)]
def S91.r7 : List AOpr := [
  q 33 (.fldA 2 (x 5)),
  q 34 (.ld1 (x 33)),
  q 35 (.arith .eql (x 34) (.const (.int .i64 12))),
  q 36 (.mov (x 35)),
  ⟨some 37, .fldA 5 (x 1), some (36, true)⟩,
  ⟨some 38, .ld1 (x 37), some (36, true)⟩,
  ⟨some 39, .fldA 0 (x 5), some (36, true)⟩,
  ⟨some 40, .ld1 (x 39), some (36, true)⟩,
  ⟨some 41, .call (.const (.func (.func 63) [] [])) [.tmp 38, .tmp 40], some (36, true)⟩,
  q 42 (.pick (x 36) (x 41) (.const (.bool false)))]
def S91.r8 : List AOpr := [
  q 43 (.fldA 0 (x 5)),
  q 44 (.ld1 (x 43)),
  q 3 (.mov (x 44))]
def S91.r9 : List AOpr := [
  q 20 (.mov (x 4)),
  q 21 (.arith .add (x 20) (.const (.int .i64 1))),
  q 4 (.mov (x 21))]
def S91.r10 : List AOpr := [
  q 45 (.mov (x 3)),
  q 2 (.mov (x 45))]
def S91 : SFn := ⟨46, [.tmp 2], .seq (.reg S91.r0) (.seq (.seq (.reg S91.r1) (.cond (x 10) (.seq (.reg S91.r2) (.ret)) (.skip))) (.seq (.reg S91.r3) (.seq (.seq (.reg S91.r4) (.block 0 (.loop [1, 3, 4] [3] (.seq (.seq (.reg S91.r5) (.cond (x 19) (.skip) (.exit 0))) (.seq (.joinN [1, 3, 4] (.block 1 (.seq (.draw S91.r6) (.seq (.joinN [1, 3, 4, 5, 42] (.reg S91.r7)) (.cond (x 42) (.reg S91.r8) (.skip)))))) (.reg S91.r9)))))) (.seq (.reg S91.r10) (.ret)))))⟩
theorem S91_ok : EOk Tryz.prog 91 S91 := ⟨Tryz.f91, by kernel_rfl, by kernel_rfl, by decide, by kernel_rfl, its_nil (by kernel_rfl)⟩
def o91_a1 (cl : Handler) (N : Nat) (v1 v3 v4 v5 : AV) (h : AH) : Ans :=
  fst (kFldA h 2 v5) fun v33 h =>
  fst (kLd1 h v33) fun v34 h =>
  fst (kArith h .eql v34 (.int .i64 12)) fun v35 h =>
  fgd (gdv true v35) (kFldA h 5 v1) h fun v37 h =>
  fgd (gdv true v35) (kLd1 h v37) h fun v38 h =>
  fgd (gdv true v35) (kFldA h 0 v5) h fun v39 h =>
  fgd (gdv true v35) (kLd1 h v39) h fun v40 h =>
  fgd (gdv true v35) (cl 63 [v38, v40] h) h fun v41 h =>
  fst (kPick h v35 v41 (.bool false)) fun v42 h =>
  some (.nrm, [], [v1, v3, v4, v5, v42], h)
def o91_j2 (cl : Handler) (N : Nat) (v1 v3 v4 v5 v42 : AV) (h : AH) : Ans :=
  fif v42 (
  fst (kFldA h 0 v5) fun v43 h =>
  fst (kLd1 h v43) fun v44 h =>
  some (.nrm, [], [v1, v44, v4], h)) (
  some (.nrm, [], [v1, v3, v4], h))
def o91_s1 (cl : Handler) (N : Nat) (r : Nat) (c0 c1 c2 c3 c4 c5 c6 c7 c8 c9 : Rec) (v1 v3 v4 v22 v31 : AV) (h : AH) : Ans :=
  fdp h (kExt h v22 1) .pure fun v32 c10 h =>
  fda (r + 11) h (alNew S91.z0) fun v5 c11 h =>
  fde h (kSt h 7 v5 v31) fun _ c12 h =>
  fdp h (kMov h v32) .pure fun v6 c13 h =>
  cond (fchk [c0, c1, c2, c3, c4, c5, c6, c7, c8, c9, c10, c11, c12, c13] [(1, 11), (3, 11), (6, 11)]) (fjn (o91_a1 cl N v1 v3 v4 v5 h) fun _ vs h => o91_j2 cl N (nthD vs 0) (nthD vs 1) (nthD vs 2) (nthD vs 3) (nthD vs 4) h) none
def o91_a3 (cl : Handler) (N : Nat) (v1 v3 v4 : AV) (h : AH) : Ans :=
  fdr h 14 fun r h =>
  fdp h (kFldA h 0 v1) .pure fun v23 c0 h =>
  fdp h (kLdn h 3 v23) (rdK (rdv v23)) fun v24 c1 h =>
  fdp h (kFldA h 4 v1) .pure fun v25 c2 h =>
  fdp h (kLd1 h v25) (rdK (rdv v25)) fun v26 c3 h =>
  fdp h (kMov h v4) .pure fun v27 c4 h =>
  fdp h (kIdxA h 1 v26 v27) .pure fun v28 c5 h =>
  fdp h (kLd1 h v28) (rdK (rdv v28)) fun v29 c6 h =>
  fde h (cl 42 [v24, v29] h) fun v30 c7 h =>
  fdp h (kMov h v30) .pure fun v22 c8 h =>
  fdp h (kExt h v22 0) .pure fun v31 c9 h =>
  o91_s1 cl N r c0 c1 c2 c3 c4 c5 c6 c7 c8 c9 v1 v3 v4 v22 v31 h
def o91_j4 (cl : Handler) (N : Nat) (v1 v3 v4 : AV) (h : AH) : Ans :=
  fst (kArith h .add v4 (.int .i64 1)) fun v21 h =>
  some (.nrm, [v1, v3, v21], [v3], h)
def o91_l5 (cl : Handler) (N : Nat) (v1 v3 v4 : AV) (h : AH) : Ans :=
  fst (kFldA h 4 v1) fun v16 h =>
  fst (kLd1 h v16) fun v17 h =>
  fst (kLen h v17) fun v18 h =>
  fst (kArith h .lss v4 v18) fun v19 h =>
  fif v19 (
  fjn (o91_a3 cl N v1 v3 v4 h) fun _ vs h => o91_j4 cl N (nthD vs 0) (nthD vs 1) (nthD vs 2) h) (
  some ((.exit 0), [v1, v3, v4], [v3], h))
def o91_c6 (cl : Handler) (N : Nat) (v3 : AV) (h : AH) : Ans :=
  some (.nrm, [], [v3], h)
def o91_j7 (cl : Handler) (N : Nat) (x : AX) (v3 : AV) (h : AH) : Ans :=
  fxs x (o91_c6 cl N v3 h) (fun j => cond (Nat.beq j 0) (o91_c6 cl N v3 h) (none)) (some (.nrm, [], [.undef], h))
def o91 (cl : Handler) (N : Nat) (v0 : AV) (h : AH) : Ans :=
  fst (kBox h v0) fun v1 h =>
  fst (kFldA h 4 v1) fun v7 h =>
  fst (kLd1 h v7) fun v8 h =>
  fst (kLen h v8) fun v9 h =>
  fst (kArith h .eql v9 (.int .i64 0)) fun v10 h =>
  fif v10 (
  some (.nrm, [], [(.int .i64 0)], h)) (
  fst (kFldA h 4 v1) fun v11 h =>
  fst (kLd1 h v11) fun v12 h =>
  fst (kIdxA h 1 v12 (.int .i64 0)) fun v13 h =>
  fst (kLd1 h v13) fun v14 h =>
  fjn (fiter (fun vs h => o91_l5 cl N (nthD vs 0) (nthD vs 1) (nthD vs 2) h) N [v1, v14, (.int .i64 0)] h) fun x vs h => o91_j7 cl N x (nthD vs 0) h)
theorem o91_eq (cl : Handler) (N : Nat) (v0 : AV) (h : AH) : frun cl N S91 [v0] h = fans (o91 cl N v0 h) := by kernel_rfl
def w91 (N : Nat) : OF := fun cl args h => match args with
  | [v0] => fans (o91 cl N v0 h)
  | _ => none
theorem w91_ok (N : Nat) : OkF Tryz.prog 91 (w91 N) := .of (N := N) (S91_ok) fun cl args h r hr => by
  unfold w91 at hr
  split at hr
  · exact (o91_eq cl N _ _).trans hr
  · cases hr

def S92.z0 : List AV := [.int .i64 0, .int .i64 0, .int .i64 0, .str [], .nilsl, .nilsl, .nilsl]
/- (widgetry/widgetryref37.Facts).exports -/
def S92.r0 : List AOpr := [
  q 2 (.box (x 0)),
  q 4 (.mov (.const (.bool false)))]
def S92.r1 : List AOpr := [
  q 11 (.fldA 0 (x 2)),
  q 12 (.fldA 0 (x 11)),
  q 13 (.ldn 3 (x 12)),
  q 5 (.new [.int .i64 0, .int .i64 0, .nilsl]),
  ⟨none, .st 3 (x 5) (x 13), none⟩]
def S92.r2 : List AOpr := [
  q 14 (.mov (x 1)),
  q 15 (.fldA 0 (x 5)),
  q 16 (.ld1 (x 15)),
  q 17 (.arith .eql (x 14) (x 16))]
def S92.r3 : List AOpr := [
  q 4 (.mov (.const (.bool true)))]
def S92.r4 : List AOpr := [
  q 18 (.fldA 0 (x 2)),
  q 19 (.fldA 5 (x 18)),
  q 20 (.ld1 (x 19)),
  q 21 (.mov (x 1)),
  q 22 (.call (.const (.func (.func 56) [] [])) [.tmp 20, .tmp 21]),
  q 23 (.un .not (x 22)),
  q 24 (.mov (x 23)),
  ⟨some 25, .ldn 3 (x 5), some (24, false)⟩,
  ⟨some 26, .mov (x 1), some (24, false)⟩,
  ⟨some 27, .call (.const (.func (.func 44) [] [])) [.tmp 25, .tmp 26], some (24, false)⟩,
  ⟨some 28, .arith .eql (x 27) (.const (.int .i64 0)), some (24, false)⟩,
  q 29 (.pick (x 24) (.const (.bool true)) (x 28))]
def S92.r5 : List AOpr := [
  q 4 (.mov (.const (.bool false)))]
def S92.r6 : List AOpr := [
  q 30 (.fldA 0 (x 2)),
  q 31 (.ldn 6 (x 30)),
  q 32 (.mov (x 1)),
  q 33 (.call (.const (.func (.func 98) [] [])) [.tmp 31, .tmp 32]),
  q 6 (.mov (x 33))]
def S92.r7 : List AOpr := [
  q 7 (.mov (.const (.int .i64 0)))]
def S92.r8 : List AOpr := [
  q 34 (.mov (x 7)),
  q 35 (.mov (x 6)),
  q 36 (.len (x 35)),
  q 37 (.arith .lss (x 34) (x 36))]
def S92.r9 : List (AOpr × Nat) := [
  (q 41 (.ldn 3 (x 5)), 0),
  (q 42 (.mov (x 6)), 0),
  (q 43 (.mov (x 7)), 0),
  (q 44 (.idxA 1 (x 42) (x 43)), 6),
  (q 45 (.ld1 (x 44)), 14),
  (q 46 (.call (.const (.func (.func 42) [] [])) [.tmp 41, .tmp 45]), 31),
  (q 40 (.mov (x 46)), 63),
  (q 47 (.ext (x 40) 0), 127),
  (q 48 (.ext (x 40) 1), 127),
  (q 8 (.new S92.z0), 0),
  (⟨none, .st 7 (x 8) (x 47), none⟩, 767),
  (q 9 (.mov (x 48)), 2047)]
def S92.r10 : List AOpr := [
  q 49 (.fldA 4 (x 8)),
  q 50 (.ld1 (x 49)),
  q 51 (.call (.const (.func (.func 62) [] [])) [.tmp 50, .const (.str [101, 120, 99, 108, 117, 100, 101])])]
def S92.r11 : List AOpr := [
  q 4 (.mov (.const (.bool false)))]
def S92.r12 : List (AOpr × Nat) := [
  (q 52 (.mov (x 6)), 0),
  (q 53 (.mov (x 7)), 0),
  (q 54 (.idxA 1 (x 52) (x 53)), 3),
  (q 55 (.ld1 (x 54)), 7),
  (q 56 (.mov (x 1)), 0),
  (q 57 (.arith .neq (x 55) (x 56)), 31),
  (q 58 (.mov (x 57)), 63),
  (⟨some 59, .mov (x 6), some (58, true)⟩, 127),
  (⟨some 60, .mov (x 7), some (58, true)⟩, 127),
  (⟨some 61, .idxA 1 (x 59) (x 60), some (58, true)⟩, 511),
  (⟨some 62, .ld1 (x 61), some (58, true)⟩, 1023),
  (⟨some 63, .fldA 0 (x 5), some (58, true)⟩, 127),
  (⟨some 64, .ld1 (x 63), some (58, true)⟩, 2175),
  (⟨some 65, .arith .neq (x 62) (x 64), some (58, true)⟩, 8191),
  (q 66 (.pick (x 58) (x 65) (.const (.bool false))), 16383),
  (q 67 (.mov (x 66)), 32767),
  (⟨some 68, .fldA 8 (x 2), some (67, true)⟩, 65535),
  (⟨some 69, .ld1 (x 68), some (67, true)⟩, 131071),
  (⟨some 70, .mov (x 6), some (67, true)⟩, 65535),
  (⟨some 71, .mov (x 7), some (67, true)⟩, 65535),
  (⟨some 72, .idxA 1 (x 70) (x 71), some (67, true)⟩, 851967),
  (⟨some 73, .ld1 (x 72), some (67, true)⟩, 1900543),
  (⟨some 74, .call (.const (.func (.func 56) [] [])) [.tmp 69, .tmp 73], some (67, true)⟩, 4194303),
  (q 75 (.pick (x 67) (x 74) (.const (.bool false))), 8388607),
  (q 10 (.mov (x 75)), 16777215)]
def S92.r13 : List (AOpr × Nat) := [
  (q 76 (.mov (x 10)), 0),
  (q 77 (.mov (x 76)), 1),
  (⟨some 78, .ldn 3 (x 5), some (77, true)⟩, 3),
  (⟨some 79, .mov (x 6), some (77, true)⟩, 3),
  (⟨some 80, .mov (x 7), some (77, true)⟩, 3),
  (⟨some 81, .idxA 1 (x 79) (x 80), some (77, true)⟩, 27),
  (⟨some 82, .ld1 (x 81), some (77, true)⟩, 59),
  (⟨some 83, .call (.const (.func (.func 44) [] [])) [.tmp 78, .tmp 82], some (77, true)⟩, 127),
  (⟨some 84, .call (.const (.func (.func 137) [] [])) [.tmp 83], some (77, true)⟩, 255),
  (q 85 (.pick (x 77) (x 84) (.const (.bool false))), 511),
  (q 86 (.mov (x 85)), 1023),
  (⟨some 87, .fldA 6 (x 2), some (86, true)⟩, 2047),
  (⟨some 88, .ld1 (x 87), some (86, true)⟩, 4095),
  (⟨some 89, .mov (x 1), some (86, true)⟩, 2047),
  (⟨some 90, .call (.const (.func (.func 56) [] [])) [.tmp 88, .tmp 89], some (86, true)⟩, 16383),
  (⟨some 91, .un .not (x 90), some (86, true)⟩, 32767),
  (q 92 (.pick (x 86) (x 91) (.const (.bool false))), 65535)]
def S92.r14 : List AOpr := [
  q 4 (.mov (.const (.bool false)))]
def S92.r15 : List AOpr := [
  q 38 (.mov (x 7)),
  q 39 (.arith .add (x 38) (.const (.int .i64 1))),
  q 7 (.mov (x 39))]
def S92.r16 : List AOpr := [
  q 4 (.mov (.const (.bool true)))]
def S92 : SFn := ⟨93, [.tmp 4], .seq (.reg S92.r0) (.seq (.reg S92.r1) (.seq (.seq (.reg S92.r2) (.cond (x 17) (.seq (.reg S92.r3) (.ret)) (.skip))) (.seq (.seq (.joinN [1, 2, 5, 29] (.reg S92.r4)) (.cond (x 29) (.seq (.reg S92.r5) (.ret)) (.skip))) (.seq (.reg S92.r6) (.seq (.seq (.reg S92.r7) (.block 0 (.loop [1, 2, 5, 6, 7] [4] (.seq (.seq (.reg S92.r8) (.cond (x 37) (.skip) (.exit 0))) (.seq (.block 1 (.seq (.draw S92.r9) (.seq (.seq (.reg S92.r10) (.cond (x 51) (.seq (.reg S92.r11) (.ret)) (.skip))) (.seq (.joinN [1, 2, 5, 6, 7, 10] (.draw S92.r12)) (.seq (.joinN [1, 2, 5, 6, 7, 92] (.draw S92.r13)) (.cond (x 92) (.seq (.reg S92.r14) (.ret)) (.skip))))))) (.reg S92.r15)))))) (.seq (.reg S92.r16) (.ret)))))))⟩
theorem S92_ok : EOk Tryz.prog 92 S92 := ⟨Tryz.f92, by kernel_rfl, by kernel_rfl, by decide, by kernel_rfl, its_nil (by kernel_rfl)⟩
def o92_a1 (cl : Handler) (N : Nat) (v1 v2 v5 : AV) (h : AH) : Ans :=
  fst (kFldA h 0 v2) fun v18 h =>
  fst (kFldA h 5 v18) fun v19 h =>
  fst (kLd1 h v19) fun v20 h =>
  fst (cl 56 [v20, v1] h) fun v22 h =>
  fst (kUn h .not v22) fun v23 h =>
  fgd (gdv false v23) (kLdn h 3 v5) h fun v25 h =>
  fgd (gdv false v23) (kMov h v1) h fun v26 h =>
  fgd (gdv false v23) (cl 44 [v25, v26] h) h fun v27 h =>
  fgd (gdv false v23) (kArith h .eql v27 (.int .i64 0)) h fun v28 h =>
  fst (kPick h v23 (.bool true) v28) fun v29 h =>
  some (.nrm, [], [v1, v2, v5, v29], h)
def o92_s1 (cl : Handler) (N : Nat) (c0 c1 c2 c3 c4 c5 c6 c7 c8 c9 c10 c11 c12 c13 c14 c15 c16 c17 c18 c19 : Rec) (v1 v2 v5 v6 v7 v67 v69 v70 v71 : AV) (h : AH) : Ans :=
  fgq (gdv true v67) (fun k => fdp h (kIdxA h 1 v70 v71) .pure k) h fun v72 c20 h =>
  fgq (gdv true v67) (fun k => fdp h (kLd1 h v72) (rdK (rdv v72)) k) h fun v73 c21 h =>
  fgq (gdv true v67) (fun k => fde h (cl 56 [v69, v73] h) k) h fun v74 c22 h =>
  fdp h (kPick h v67 v74 (.bool false)) .pure fun v75 c23 h =>
  fdp h (kMov h v75) .pure fun v10 c24 h =>
  cond (fchk [c0, c1, c2, c3, c4, c5, c6, c7, c8, c9, c10, c11, c12, c13, c14, c15, c16, c17, c18, c19, c20, c21, c22, c23, c24] []) (some (.nrm, [], [v1, v2, v5, v6, v7, v10], h)) none
def o92_s2 (cl : Handler) (N : Nat) (c0 c1 c2 c3 c4 c5 c6 c7 c8 c9 : Rec) (v1 v2 v5 v6 v7 v58 v61 : AV) (h : AH) : Ans :=
  fgq (gdv true v58) (fun k => fdp h (kLd1 h v61) (rdK (rdv v61)) k) h fun v62 c10 h =>
  fgq (gdv true v58) (fun k => fdp h (kFldA h 0 v5) .pure k) h fun v63 c11 h =>
  fgq (gdv true v58) (fun k => fdp h (kLd1 h v63) (rdK (rdv v63)) k) h fun v64 c12 h =>
  fgq (gdv true v58) (fun k => fdp h (kArith h .neq v62 v64) .pure k) h fun v65 c13 h =>
  fdp h (kPick h v58 v65 (.bool false)) .pure fun v66 c14 h =>
  fdp h (kMov h v66) .pure fun v67 c15 h =>
  fgq (gdv true v67) (fun k => fdp h (kFldA h 8 v2) .pure k) h fun v68 c16 h =>
  fgq (gdv true v67) (fun k => fdp h (kLd1 h v68) (rdK (rdv v68)) k) h fun v69 c17 h =>
  fgq (gdv true v67) (fun k => fdp h (kMov h v6) .pure k) h fun v70 c18 h =>
  fgq (gdv true v67) (fun k => fdp h (kMov h v7) .pure k) h fun v71 c19 h =>
  o92_s1 cl N c0 c1 c2 c3 c4 c5 c6 c7 c8 c9 c10 c11 c12 c13 c14 c15 c16 c17 c18 c19 v1 v2 v5 v6 v7 v67 v69 v70 v71 h
def o92_a2 (cl : Handler) (N : Nat) (v1 v2 v5 v6 v7 : AV) (h : AH) : Ans :=
  fdr h 25 fun r h =>
  fdp h (kMov h v6) .pure fun v52 c0 h =>
  fdp h (kMov h v7) .pure fun v53 c1 h =>
  fdp h (kIdxA h 1 v52 v53) .pure fun v54 c2 h =>
  fdp h (kLd1 h v54) (rdK (rdv v54)) fun v55 c3 h =>
  fdp h (kMov h v1) .pure fun v56 c4 h =>
  fdp h (kArith h .neq v55 v56) .pure fun v57 c5 h =>
  fdp h (kMov h v57) .pure fun v58 c6 h =>
  fgq (gdv true v58) (fun k => fdp h (kMov h v6) .pure k) h fun v59 c7 h =>
  fgq (gdv true v58) (fun k => fdp h (kMov h v7) .pure k) h fun v60 c8 h =>
  fgq (gdv true v58) (fun k => fdp h (kIdxA h 1 v59 v60) .pure k) h fun v61 c9 h =>
  o92_s2 cl N c0 c1 c2 c3 c4 c5 c6 c7 c8 c9 v1 v2 v5 v6 v7 v58 v61 h
def o92_s3 (cl : Handler) (N : Nat) (c0 c1 c2 c3 c4 c5 c6 c7 c8 c9 : Rec) (v1 v2 v5 v6 v7 v85 : AV) (h : AH) : Ans :=
  fdp h (kMov h v85) .pure fun v86 c10 h =>
  fgq (gdv true v86) (fun k => fdp h (kFldA h 6 v2) .pure k) h fun v87 c11 h =>
  fgq (gdv true v86) (fun k => fdp h (kLd1 h v87) (rdK (rdv v87)) k) h fun v88 c12 h =>
  fgq (gdv true v86) (fun k => fdp h (kMov h v1) .pure k) h fun v89 c13 h =>
  fgq (gdv true v86) (fun k => fde h (cl 56 [v88, v89] h) k) h fun v90 c14 h =>
  fgq (gdv true v86) (fun k => fdp h (kUn h .not v90) .pure k) h fun v91 c15 h =>
  fdp h (kPick h v86 v91 (.bool false)) .pure fun v92 c16 h =>
  cond (fchk [c0, c1, c2, c3, c4, c5, c6, c7, c8, c9, c10, c11, c12, c13, c14, c15, c16] []) (some (.nrm, [], [v1, v2, v5, v6, v7, v92], h)) none
def o92_a3 (cl : Handler) (N : Nat) (v1 v2 v5 v6 v7 v10 : AV) (h : AH) : Ans :=
  fdr h 17 fun r h =>
  fdp h (kMov h v10) .pure fun v76 c0 h =>
  fdp h (kMov h v76) .pure fun v77 c1 h =>
  fgq (gdv true v77) (fun k => fdp h (kLdn h 3 v5) (rdK (rdv v5)) k) h fun v78 c2 h =>
  fgq (gdv true v77) (fun k => fdp h (kMov h v6) .pure k) h fun v79 c3 h =>
  fgq (gdv true v77) (fun k => fdp h (kMov h v7) .pure k) h fun v80 c4 h =>
  fgq (gdv true v77) (fun k => fdp h (kIdxA h 1 v79 v80) .pure k) h fun v81 c5 h =>
  fgq (gdv true v77) (fun k => fdp h (kLd1 h v81) (rdK (rdv v81)) k) h fun v82 c6 h =>
  fgq (gdv true v77) (fun k => fde h (cl 44 [v78, v82] h) k) h fun v83 c7 h =>
  fgq (gdv true v77) (fun k => fde h (cl 137 [v83] h) k) h fun v84 c8 h =>
  fdp h (kPick h v77 v84 (.bool false)) .pure fun v85 c9 h =>
  o92_s3 cl N c0 c1 c2 c3 c4 c5 c6 c7 c8 c9 v1 v2 v5 v6 v7 v85 h
def o92_j4 (cl : Handler) (N : Nat) (v1 v2 v5 v6 v7 v92 : AV) (h : AH) : Ans :=
  fif v92 (
  some (.ret, [v1, v2, v5, v6, v7], [(.bool false)], h)) (
  fst (kArith h .add v7 (.int .i64 1)) fun v39 h =>
  some (.nrm, [v1, v2, v5, v6, v39], [.undef], h))
def o92_j5 (cl : Handler) (N : Nat) (v1 v2 v5 v6 v7 v10 : AV) (h : AH) : Ans :=
  fjn (o92_a3 cl N v1 v2 v5 v6 v7 v10 h) fun _ vs h => o92_j4 cl N (nthD vs 0) (nthD vs 1) (nthD vs 2) (nthD vs 3) (nthD vs 4) (nthD vs 5) h
def o92_s4 (cl : Handler) (N : Nat) (r : Nat) (c0 c1 c2 c3 c4 c5 c6 c7 : Rec) (v1 v2 v5 v6 v7 v40 v47 : AV) (h : AH) : Ans :=
  fdp h (kExt h v40 1) .pure fun v48 c8 h =>
  fda (r + 9) h (alNew S92.z0) fun v8 c9 h =>
  fde h (kSt h 7 v8 v47) fun _ c10 h =>
  fdp h (kMov h v48) .pure fun v9 c11 h =>
  cond (fchk [c0, c1, c2, c3, c4, c5, c6, c7, c8, c9, c10, c11] [(0, 9), (4, 9)]) (fst (kFldA h 4 v8) fun v49 h =>
  fst (kLd1 h v49) fun v50 h =>
  fst (cl 62 [v50, (.str [101, 120, 99, 108, 117, 100, 101])] h) fun v51 h =>
  fif v51 (
  some (.ret, [v1, v2, v5, v6, v7], [(.bool false)], h)) (
  fjn (o92_a2 cl N v1 v2 v5 v6 v7 h) fun _ vs h => o92_j5 cl N (nthD vs 0) (nthD vs 1) (nthD vs 2) (nthD vs 3) (nthD vs 4) (nthD vs 5) h)) none
def o92_l6 (cl : Handler) (N : Nat) (v1 v2 v5 v6 v7 : AV) (h : AH) : Ans :=
  fst (kLen h v6) fun v36 h =>
  fst (kArith h .lss v7 v36) fun v37 h =>
  fif v37 (
  fdr h 12 fun r h =>
  fdp h (kLdn h 3 v5) (rdK (rdv v5)) fun v41 c0 h =>
  fdp h (kMov h v6) .pure fun v42 c1 h =>
  fdp h (kMov h v7) .pure fun v43 c2 h =>
  fdp h (kIdxA h 1 v42 v43) .pure fun v44 c3 h =>
  fdp h (kLd1 h v44) (rdK (rdv v44)) fun v45 c4 h =>
  fde h (cl 42 [v41, v45] h) fun v46 c5 h =>
  fdp h (kMov h v46) .pure fun v40 c6 h =>
  fdp h (kExt h v40 0) .pure fun v47 c7 h =>
  o92_s4 cl N r c0 c1 c2 c3 c4 c5 c6 c7 v1 v2 v5 v6 v7 v40 v47 h) (
  some ((.exit 0), [v1, v2, v5, v6, v7], [.undef], h))
def o92_c7 (cl : Handler) (N : Nat) (h : AH) : Ans :=
  some (.nrm, [], [(.bool true)], h)
def o92_j8 (cl : Handler) (N : Nat) (x : AX) (v4 : AV) (h : AH) : Ans :=
  fxs x (o92_c7 cl N h) (fun j => cond (Nat.beq j 0) (o92_c7 cl N h) (none)) (some (.nrm, [], [v4], h))
def o92_j9 (cl : Handler) (N : Nat) (v1 v2 v5 v29 : AV) (h : AH) : Ans :=
  fif v29 (
  some (.nrm, [], [(.bool false)], h)) (
  fst (kFldA h 0 v2) fun v30 h =>
  fst (kLdn h 6 v30) fun v31 h =>
  fst (cl 98 [v31, v1] h) fun v33 h =>
  fjn (fiter (fun vs h => o92_l6 cl N (nthD vs 0) (nthD vs 1) (nthD vs 2) (nthD vs 3) (nthD vs 4) h) N [v1, v2, v5, v33, (.int .i64 0)] h) fun x vs h => o92_j8 cl N x (nthD vs 0) h)
def o92 (cl : Handler) (N : Nat) (v0 v1 : AV) (h : AH) : Ans :=
  fst (kBox h v0) fun v2 h =>
  fst (kFldA h 0 v2) fun v11 h =>
  fst (kFldA h 0 v11) fun v12 h =>
  fst (kLdn h 3 v12) fun v13 h =>
  fst (kNew h [.int .i64 0, .int .i64 0, .nilsl]) fun v5 h =>
  fst (kSt h 3 v5 v13) fun _ h =>
  fst (kFldA h 0 v5) fun v15 h =>
  fst (kLd1 h v15) fun v16 h =>
  fst (kArith h .eql v1 v16) fun v17 h =>
  fif v17 (
  some (.nrm, [], [(.bool true)], h)) (
  fjn (o92_a1 cl N v1 v2 v5 h) fun _ vs h => o92_j9 cl N (nthD vs 0) (nthD vs 1) (nthD vs 2) (nthD vs 3) h)
theorem o92_eq (cl : Handler) (N : Nat) (v0 v1 : AV) (h : AH) : frun cl N S92 [v0, v1] h = fans (o92 cl N v0 v1 h) := by kernel_rfl
def w92 (N : Nat) : OF := fun cl args h => match args with
  | [v0, v1] => fans (o92 cl N v0 v1 h)
  | _ => none
theorem w92_ok (N : Nat) : OkF Tryz.prog 92 (w92 N) := .of (N := N) (S92_ok) fun cl args h r hr => by
  unfold w92 at hr
  split at hr
  · exact (o92_eq cl N _ _ _).trans hr
  · cases hr

/- widgetry/widgetryref14.Check -/
def S93.r0 : List AOpr := [
  q 1 (.box (x 0)),
  q 2 (.mov (.const (.int .i64 0)))]
def S93.r1 : List AOpr := [
  q 3 (.ldn 3 (x 1)),
  q 4 (.call (.const (.func (.func 138) [] [])) [.tmp 3]),
  q 5 (.un .not (x 4))]
def S93.r2 : List AOpr := [
  q 2 (.mov (.const (.int .i64 12)))]
def S93.r3 : List AOpr := [
  q 6 (.ldn 3 (x 1)),
  q 7 (.fldA 0 (x 1)),
  q 8 (.ld1 (x 7)),
  q 9 (.call (.const (.func (.func 139) [] [])) [.tmp 6, .tmp 8]),
  q 10 (.call (.const (.func (.func 38) [] [])) [.tmp 9]),
  q 2 (.mov (x 10))]
def S93 : SFn := ⟨11, [.tmp 2], .seq (.reg S93.r0) (.seq (.seq (.reg S93.r1) (.cond (x 5) (.seq (.reg S93.r2) (.ret)) (.skip))) (.seq (.reg S93.r3) (.ret)))⟩
theorem S93_ok : EOk Tryz.prog 93 S93 := ⟨Tryz.f93, by kernel_rfl, by kernel_rfl, by decide, by kernel_rfl, its_nil (by kernel_rfl)⟩
def o93 (cl : Handler) (N : Nat) (v0 : AV) (h : AH) : Ans :=
  fst (kBox h v0) fun v1 h =>
  fst (kLdn h 3 v1) fun v3 h =>
  fst (cl 138 [v3] h) fun v4 h =>
  fst (kUn h .not v4) fun v5 h =>
  fif v5 (
  some (.nrm, [], [(.int .i64 12)], h)) (
  fst (kLdn h 3 v1) fun v6 h =>
  fst (kFldA h 0 v1) fun v7 h =>
  fst (kLd1 h v7) fun v8 h =>
  fst (cl 139 [v6, v8] h) fun v9 h =>
  fst (cl 38 [v9] h) fun v10 h =>
  some (.nrm, [], [v10], h))
theorem o93_eq (cl : Handler) (N : Nat) (v0 : AV) (h : AH) : frun cl N S93 [v0] h = fans (o93 cl N v0 h) := by kernel_rfl
def w93 (N : Nat) : OF := fun cl args h => match args with
  | [v0] => fans (o93 cl N v0 h)
  | _ => none
theorem w93_ok (N : Nat) : OkF Tryz.prog 93 (w93 N) := .of (N := N) (S93_ok) fun cl args h r hr => by
  unfold w93 at hr
  split at hr
  · exact (o93_eq cl N _ _).trans hr
  · cases hr

/- widgetry/widgetryref21.Styles -/
def S94.r0 : List AOpr := [
  q 2 (.box (x 0)),
  q 4 (.mov (.const (.int .i64 0)))]
def S94.r1 : List AOpr := [
  q 7 (.ldn 3 (x 2)),
  q 8 (.mov (x 1)),
  q 9 (.call (.const (.func (.func 140) [] [])) [.tmp 7, .tmp 8]),
  q 10 (.un .not (x 9))]
def S94.r2 : List AOpr := [
  q 4 (.mov (.const (.int .i64 7)))]
def S94.r3 : List AOpr := [
  q 5 (.mov (.const (.int .i64 0)))]
def S94.r4 : List AOpr := [
  q 11 (.mov (x 5)),
  q 12 (.mov (x 1)),
  q 13 (.len (x 12)),
  q 14 (.arith .lss (x 11) (x 13))]
def S94.r5 : List AOpr := [
  q 6 (.mov (.const (.int .i64 0)))]
def S94.r6 : List AOpr := [
  q 17 (.mov (x 6)),
  q 18 (.arith .lss (x 17) (.const (.int .i64 22)))]
def S94.r7 : List AOpr := [
  q 21 (.mov (x 6)),
  q 22 (.mov (x 1)),
  q 23 (.mov (x 5)),
  q 24 (.mov (x 6)),
  q 25 (.idxA 23 (x 22) (x 23)),
  q 26 (.fldA 1 (x 25)),
  q 27 (.idxArrA 22 1 (x 26) (x 24)),
  q 28 (.ld1 (x 27)),
  q 29 (.call (.const (.func (.func 141) [] [])) [.tmp 21, .tmp 28]),
  q 30 (.un .not (x 29))]
def S94.r8 : List AOpr := [
  q 4 (.mov (.const (.int .i64 1)))]
def S94.r9 : List AOpr := [
  q 19 (.mov (x 6)),
  q 20 (.arith .add (x 19) (.const (.int .i64 1))),
  q 6 (.mov (x 20))]
def S94.r10 : List AOpr := [
  q 15 (.mov (x 5)),
  q 16 (.arith .add (x 15) (.const (.int .i64 1))),
  q 5 (.mov (x 16))]
def S94.r11 : List AOpr := [
  q 4 (.mov (.const (.int .i64 0)))]
def S94 : SFn := ⟨31, [.tmp 4], .seq (.reg S94.r0) (.seq (.seq (.reg S94.r1) (.cond (x 10) (.seq (.reg S94.r2) (.ret)) (.skip))) (.seq (.seq (.reg S94.r3) (.block 0 (.loop [1, 5] [4] (.seq (.seq (.reg S94.r4) (.cond (x 14) (.skip) (.exit 0))) (.seq (.block 1 (.seq (.reg S94.r5) (.block 2 (.loop [1, 5, 6] [1, 4, 5] (.seq (.seq (.reg S94.r6) (.cond (x 18) (.skip) (.exit 2))) (.seq (.block 3 (.seq (.reg S94.r7) (.cond (x 30) (.seq (.reg S94.r8) (.ret)) (.skip)))) (.reg S94.r9))))))) (.reg S94.r10)))))) (.seq (.reg S94.r11) (.ret))))⟩
theorem S94_ok : EOk Tryz.prog 94 S94 := ⟨Tryz.f94, by kernel_rfl, by kernel_rfl, by decide, by kernel_rfl, its_nil (by kernel_rfl)⟩
def o94_l1 (cl : Handler) (N : Nat) (v1 v5 v6 : AV) (h : AH) : Ans :=
  fst (kArith h .lss v6 (.int .i64 22)) fun v18 h =>
  fif v18 (
  fst (kIdxA h 23 v1 v5) fun v25 h =>
  fst (kFldA h 1 v25) fun v26 h =>
  fst (kIdxArrA h 22 1 v26 v6) fun v27 h =>
  fst (kLd1 h v27) fun v28 h =>
  fst (cl 141 [v6, v28] h) fun v29 h =>
  fst (kUn h .not v29) fun v30 h =>
  fif v30 (
  some (.ret, [v1, v5, v6], [v1, (.int .i64 1), v5], h)) (
  fst (kArith h .add v6 (.int .i64 1)) fun v20 h =>
  some (.nrm, [v1, v5, v20], [v1, .undef, v5], h))) (
  some ((.exit 2), [v1, v5, v6], [v1, .undef, v5], h))
def o94_c2 (cl : Handler) (N : Nat) (v1 v4 v5 : AV) (h : AH) : Ans :=
  fst (kArith h .add v5 (.int .i64 1)) fun v16 h =>
  some (.nrm, [v1, v16], [v4], h)
def o94_j3 (cl : Handler) (N : Nat) (x : AX) (v1 v4 v5 : AV) (h : AH) : Ans :=
  fxs x (o94_c2 cl N v1 v4 v5 h) (fun j => cond (Nat.beq j 2) (o94_c2 cl N v1 v4 v5 h) (cond (Nat.beq j 1) (fst (kArith h .add v5 (.int .i64 1)) fun v16 h =>
  some (.nrm, [v1, v16], [v4], h)) (some ((.exit j), [v1, v5], [v4], h)))) (some (.ret, [v1, v5], [v4], h))
def o94_l4 (cl : Handler) (N : Nat) (v1 v5 : AV) (h : AH) : Ans :=
  fst (kLen h v1) fun v13 h =>
  fst (kArith h .lss v5 v13) fun v14 h =>
  fif v14 (
  fjn (fiter (fun vs h => o94_l1 cl N (nthD vs 0) (nthD vs 1) (nthD vs 2) h) N [v1, v5, (.int .i64 0)] h) fun x vs h => o94_j3 cl N x (nthD vs 0) (nthD vs 1) (nthD vs 2) h) (
  some ((.exit 0), [v1, v5], [.undef], h))
def o94_c5 (cl : Handler) (N : Nat) (h : AH) : Ans :=
  some (.nrm, [], [(.int .i64 0)], h)
def o94_j6 (cl : Handler) (N : Nat) (x : AX) (v4 : AV) (h : AH) : Ans :=
  fxs x (o94_c5 cl N h) (fun j => cond (Nat.beq j 0) (o94_c5 cl N h) (none)) (some (.nrm, [], [v4], h))
def o94 (cl : Handler) (N : Nat) (v0 v1 : AV) (h : AH) : Ans :=
  fst (kBox h v0) fun v2 h =>
  fst (kLdn h 3 v2) fun v7 h =>
  fst (cl 140 [v7, v1] h) fun v9 h =>
  fst (kUn h .not v9) fun v10 h =>
  fif v10 (
  some (.nrm, [], [(.int .i64 7)], h)) (
  fjn (fiter (fun vs h => o94_l4 cl N (nthD vs 0) (nthD vs 1) h) N [v1, (.int .i64 0)] h) fun x vs h => o94_j6 cl N x (nthD vs 0) h)
theorem o94_eq (cl : Handler) (N : Nat) (v0 v1 : AV) (h : AH) : frun cl N S94 [v0, v1] h = fans (o94 cl N v0 v1 h) := by kernel_rfl
def w94 (N : Nat) : OF := fun cl args h => match args with
  | [v0, v1] => fans (o94 cl N v0 v1 h)
  | _ => none
theorem w94_ok (N : Nat) : OkF Tryz.prog 94 (w94 N) := .of (N := N) (S94_ok) fun cl args h r hr => by
  unfold w94 at hr
  split at hr
  · exact (o94_eq cl N _ _ _).trans hr
  · cases hr

def S95.z0 : List AV := [.int .i64 0, .int .i64 0, .int .i64 0, .str [], .nilsl, .nilsl, .nilsl]
/- widgetry/widgetryref21.shown -/
def S95.r0 : List AOpr := [
  q 4 (.box (x 0)),
  q 8 (.mov (.const (.nilsl)))]
def S95.r1 : List AOpr := [
  q 11 (.ldn 3 (x 4)),
  q 12 (.mov (x 2)),
  q 13 (.call (.const (.func (.func 97) [] [])) [.tmp 11, .tmp 12]),
  q 9 (.new S95.z0),
  ⟨none, .st 7 (x 9) (x 13), none⟩]
def S95.r2 : List AOpr := [
  q 14 (.mov (x 1)),
  q 15 (.mov (x 2)),
  q 16 (.call (.const (.func (.func 67) [] [])) [.tmp 14, .tmp 15]),
  q 17 (.idx 22 1 none (x 16) (.const (.int .i64 5))),
  q 18 (.arith .eql (x 17) (.const (.int .i64 0))),
  q 19 (.mov (x 18)),
  ⟨some 20, .fldA 4 (x 9), some (19, false)⟩,
  ⟨some 21, .ld1 (x 20), some (19, false)⟩,
  ⟨some 22, .call (.const (.func (.func 62) [] [])) [.tmp 21, .const (.str [104, 105, 100, 100, 101, 110])], some (19, false)⟩,
  q 23 (.pick (x 19) (.const (.bool true)) (x 22))]
def S95.r3 : List AOpr := [
  q 24 (.mov (x 3)),
  q 8 (.mov (x 24))]
def S95.r4 : List AOpr := [
  q 25 (.mov (x 3)),
  q 26 (.mov (x 2)),
  q 27 (.buildSl 1 1 [.int .i64 0] [(0, 1, .tmp 26)]),
  q 28 (.app 1 8 (x 25) (x 27)),
  q 3 (.mov (x 28))]
def S95.r5 : List AOpr := [
  q 29 (.fldA 2 (x 9)),
  q 30 (.ld1 (x 29)),
  q 31 (.call (.const (.func (.func 142) [] [])) [.tmp 30]),
  q 32 (.mov (x 31)),
  ⟨some 33, .fldA 2 (x 9), some (32, false)⟩,
  ⟨some 34, .ld1 (x 33), some (32, false)⟩,
  ⟨some 35, .call (.const (.func (.func 143) [] [])) [.tmp 34], some (32, false)⟩,
  q 36 (.pick (x 32) (.const (.bool true)) (x 35))]
def S95.r6 : List AOpr := [
  q 37 (.mov (x 3)),
  q 8 (.mov (x 37))]
def S95.r7 : List AOpr := [
  q 10 (.mov (.const (.int .i64 0)))]
def S95.r8 : List AOpr := [
  q 38 (.mov (x 10)),
  q 39 (.fldA 6 (x 9)),
  q 40 (.ld1 (x 39)),
  q 41 (.len (x 40)),
  q 42 (.arith .lss (x 38) (x 41))]
def S95.r9 : List (AOpr × Nat) := [
  (q 45 (.ldn 3 (x 4)), 0),
  (q 46 (.mov (x 1)), 0),
  (q 47 (.fldA 6 (x 9)), 0),
  (q 48 (.ld1 (x 47)), 4),
  (q 49 (.mov (x 10)), 0),
  (q 50 (.idxA 1 (x 48) (x 49)), 28),
  (q 51 (.ld1 (x 50)), 60),
  (q 52 (.mov (x 3)), 0),
  (q 53 (.call (.const (.func (.func 95) [] [])) [.tmp 45, .tmp 46, .tmp 51, .tmp 52]), 255),
  (q 3 (.mov (x 53)), 511)]
def S95.r10 : List AOpr := [
  q 43 (.mov (x 10)),
  q 44 (.arith .add (x 43) (.const (.int .i64 1))),
  q 10 (.mov (x 44))]
def S95.r11 : List AOpr := [
  q 54 (.mov (x 3)),
  q 8 (.mov (x 54))]
def S95 : SFn := ⟨55, [.tmp 8], .seq (.reg S95.r0) (.seq (.reg S95.r1) (.seq (.seq (.joinN [1, 2, 3, 4, 9, 23] (.reg S95.r2)) (.cond (x 23) (.seq (.reg S95.r3) (.ret)) (.skip))) (.seq (.reg S95.r4) (.seq (.seq (.joinN [1, 3, 4, 9, 36] (.reg S95.r5)) (.cond (x 36) (.seq (.reg S95.r6) (.ret)) (.skip))) (.seq (.seq (.reg S95.r7) (.block 0 (.loop [1, 3, 4, 9, 10] [3] (.seq (.seq (.reg S95.r8) (.cond (x 42) (.skip) (.exit 0))) (.seq (.block 1 (.draw S95.r9)) (.reg S95.r10)))))) (.seq (.reg S95.r11) (.ret)))))))⟩
theorem S95_ok : EOk Tryz.prog 95 S95 := ⟨Tryz.f95, by kernel_rfl, by kernel_rfl, by decide, by kernel_rfl, its_nil (by kernel_rfl)⟩
def o95_a1 (cl : Handler) (N : Nat) (v1 v2 v3 v4 v9 : AV) (h : AH) : Ans :=
  fst (cl 67 [v1, v2] h) fun v16 h =>
  fst (kIdx h 22 1 none v16 (.int .i64 5)) fun v17 h =>
  fst (kArith h .eql v17 (.int .i64 0)) fun v18 h =>
  fgd (gdv false v18) (kFldA h 4 v9) h fun v20 h =>
  fgd (gdv false v18) (kLd1 h v20) h fun v21 h =>
  fgd (gdv false v18) (cl 62 [v21, (.str [104, 105, 100, 100, 101, 110])] h) h fun v22 h =>
  fst (kPick h v18 (.bool true) v22) fun v23 h =>
  some (.nrm, [], [v1, v2, v3, v4, v9, v23], h)
def o95_a2 (cl : Handler) (N : Nat) (v1 v3 v4 v9 : AV) (h : AH) : Ans :=
  fst (kFldA h 2 v9) fun v29 h =>
  fst (kLd1 h v29) fun v30 h =>
  fst (cl 142 [v30] h) fun v31 h =>
  fgd (gdv false v31) (kFldA h 2 v9) h fun v33 h =>
  fgd (gdv false v31) (kLd1 h v33) h fun v34 h =>
  fgd (gdv false v31) (cl 143 [v34] h) h fun v35 h =>
  fst (kPick h v31 (.bool true) v35) fun v36 h =>
  some (.nrm, [], [v1, v3, v4, v9, v36], h)
def o95_s1 (cl : Handler) (N : Nat) (c0 c1 c2 c3 c4 c5 : Rec) (v1 v3 v4 v9 v10 v45 v46 v50 : AV) (h : AH) : Ans :=
  fdp h (kLd1 h v50) (rdK (rdv v50)) fun v51 c6 h =>
  fdp h (kMov h v3) .pure fun v52 c7 h =>
  fde h (cl 95 [v45, v46, v51, v52] h) fun v53 c8 h =>
  fdp h (kMov h v53) .pure fun v3 c9 h =>
  cond (fchk [c0, c1, c2, c3, c4, c5, c6, c7, c8, c9] []) (fst (kArith h .add v10 (.int .i64 1)) fun v44 h =>
  some (.nrm, [v1, v3, v4, v9, v44], [v3], h)) none
def o95_l3 (cl : Handler) (N : Nat) (v1 v3 v4 v9 v10 : AV) (h : AH) : Ans :=
  fst (kFldA h 6 v9) fun v39 h =>
  fst (kLd1 h v39) fun v40 h =>
  fst (kLen h v40) fun v41 h =>
  fst (kArith h .lss v10 v41) fun v42 h =>
  fif v42 (
  fdr h 10 fun r h =>
  fdp h (kLdn h 3 v4) (rdK (rdv v4)) fun v45 c0 h =>
  fdp h (kMov h v1) .pure fun v46 c1 h =>
  fdp h (kFldA h 6 v9) .pure fun v47 c2 h =>
  fdp h (kLd1 h v47) (rdK (rdv v47)) fun v48 c3 h =>
  fdp h (kMov h v10) .pure fun v49 c4 h =>
  fdp h (kIdxA h 1 v48 v49) .pure fun v50 c5 h =>
  o95_s1 cl N c0 c1 c2 c3 c4 c5 v1 v3 v4 v9 v10 v45 v46 v50 h) (
  some ((.exit 0), [v1, v3, v4, v9, v10], [v3], h))
def o95_c4 (cl : Handler) (N : Nat) (v3 : AV) (h : AH) : Ans :=
  some (.nrm, [], [v3], h)
def o95_j5 (cl : Handler) (N : Nat) (x : AX) (v3 : AV) (h : AH) : Ans :=
  fxs x (o95_c4 cl N v3 h) (fun j => cond (Nat.beq j 0) (o95_c4 cl N v3 h) (none)) (some (.nrm, [], [.undef], h))
def o95_j6 (cl : Handler) (N : Nat) (v1 v3 v4 v9 v36 : AV) (h : AH) : Ans :=
  fif v36 (
  some (.nrm, [], [v3], h)) (
  fjn (fiter (fun vs h => o95_l3 cl N (nthD vs 0) (nthD vs 1) (nthD vs 2) (nthD vs 3) (nthD vs 4) h) N [v1, v3, v4, v9, (.int .i64 0)] h) fun x vs h => o95_j5 cl N x (nthD vs 0) h)
def o95_j7 (cl : Handler) (N : Nat) (v1 v2 v3 v4 v9 v23 : AV) (h : AH) : Ans :=
  fif v23 (
  some (.nrm, [], [v3], h)) (
  fst (kBuildSl h 1 1 [.int .i64 0] [(0, 1, v2)]) fun v27 h =>
  fst (kApp h 1 8 v3 v27) fun v28 h =>
  fjn (o95_a2 cl N v1 v28 v4 v9 h) fun _ vs h => o95_j6 cl N (nthD vs 0) (nthD vs 1) (nthD vs 2) (nthD vs 3) (nthD vs 4) h)
def o95 (cl : Handler) (N : Nat) (v0 v1 v2 v3 : AV) (h : AH) : Ans :=
  fst (kBox h v0) fun v4 h =>
  fst (kLdn h 3 v4) fun v11 h =>
  fst (cl 97 [v11, v2] h) fun v13 h =>
  fst (kNew h S95.z0) fun v9 h =>
  fst (kSt h 7 v9 v13) fun _ h =>
  fjn (o95_a1 cl N v1 v2 v3 v4 v9 h) fun _ vs h => o95_j7 cl N (nthD vs 0) (nthD vs 1) (nthD vs 2) (nthD vs 3) (nthD vs 4) (nthD vs 5) h
theorem o95_eq (cl : Handler) (N : Nat) (v0 v1 v2 v3 : AV) (h : AH) : frun cl N S95 [v0, v1, v2, v3] h = fans (o95 cl N v0 v1 v2 v3 h) := by kernel_rfl
def w95 (N : Nat) : OF := fun cl args h => match args with
  | [v0, v1, v2, v3] => fans (o95 cl N v0 v1 v2 v3 h)
  | _ => none
theorem w95_ok (N : Nat) : OkF Tryz.prog 95 (w95 N) := .of (N := N) (S95_ok) fun cl args h r hr => by
  unfold w95 at hr
  split at hr
  · exact (o95_eq cl N _ _ _ _ _).trans hr
  · cases hr

/- widgetry/widgetryref14.Index -/
def S96.r0 : List AOpr := [
  q 2 (.box (x 0)),
  q 4 (.mov (.const (.int .i64 0)))]
def S96.r1 : List AOpr := [
  q 5 (.mov (.const (.int .i64 0)))]
def S96.r2 : List AOpr := [
  q 6 (.mov (x 5)),
  q 7 (.fldA 2 (x 2)),
  q 8 (.ld1 (x 7)),
  q 9 (.len (x 8)),
  q 10 (.arith .lss (x 6) (x 9))]
def S96.r3 : List AOpr := [
  q 13 (.fldA 2 (x 2)),
  q 14 (.ld1 (x 13)),
  q 15 (.mov (x 5)),
  q 16 (.idxA 7 (x 14) (x 15)),
  q 17 (.fldA 0 (x 16)),
  q 18 (.ld1 (x 17)),
  q 19 (.mov (x 1)),
  q 20 (.arith .eql (x 18) (x 19))]
def S96.r4 : List AOpr := [
  q 21 (.mov (x 5)),
  q 4 (.mov (x 21))]
def S96.r5 : List AOpr := [
  q 11 (.mov (x 5)),
  q 12 (.arith .add (x 11) (.const (.int .i64 1))),
  q 5 (.mov (x 12))]
def S96.r6 : List AOpr := [
  q 4 (.mov (.const (.int .i64 (-1))))]
def S96 : SFn := ⟨22, [.tmp 4], .seq (.reg S96.r0) (.seq (.seq (.reg S96.r1) (.block 0 (.loop [1, 2, 5] [4] (.seq (.seq (.reg S96.r2) (.cond (x 10) (.skip) (.exit 0))) (.seq (.block 1 (.seq (.reg S96.r3) (.cond (x 20) (.seq (.reg S96.r4) (.ret)) (.skip)))) (.reg S96.r5)))))) (.seq (.reg S96.r6) (.ret)))⟩
theorem S96_ok : EOk Tryz.prog 96 S96 := ⟨Tryz.f96, by kernel_rfl, by kernel_rfl, by decide, by kernel_rfl, its_nil (by kernel_rfl)⟩
def o96_s1 (cl : Handler) (N : Nat) (v1 v2 v5 : AV) (h : AH) : Ans :=
  some (.ret, [v1, v2, v5], [v5], h)
def o96_s2 (cl : Handler) (N : Nat) (v1 v2 v5 : AV) (h : AH) : Ans :=
  fst (kArith h .add v5 (.int .i64 1)) fun v12 h =>
  some (.nrm, [v1, v2, v12], [.undef], h)
def o96_l1 (cl : Handler) (N : Nat) (v1 v2 v5 : AV) (h : AH) : Ans :=
  fst (kFldA h 2 v2) fun v7 h =>
  fst (kLd1 h v7) fun v8 h =>
  fst (kLen h v8) fun v9 h =>
  fst (kArith h .lss v5 v9) fun v10 h =>
  fif v10 (
  fst (kFldA h 2 v2) fun v13 h =>
  fst (kLd1 h v13) fun v14 h =>
  fst (kIdxA h 7 v14 v5) fun v16 h =>
  fst (kFldA h 0 v16) fun v17 h =>
  fst (kLd1 h v17) fun v18 h =>
  fst (kArith h .eql v18 v1) fun v20 h =>
  fif v20 (
  o96_s1 cl N v1 v2 v5 h) (
  o96_s2 cl N v1 v2 v5 h)) (
  some ((.exit 0), [v1, v2, v5], [.undef], h))
def o96_c2 (cl : Handler) (N : Nat) (h : AH) : Ans :=
  some (.nrm, [], [(.int .i64 (-1))], h)
def o96_j3 (cl : Handler) (N : Nat) (x : AX) (v4 : AV) (h : AH) : Ans :=
  fxs x (o96_c2 cl N h) (fun j => cond (Nat.beq j 0) (o96_c2 cl N h) (none)) (some (.nrm, [], [v4], h))
def o96 (cl : Handler) (N : Nat) (v0 v1 : AV) (h : AH) : Ans :=
  fst (kBox h v0) fun v2 h =>
  fjn (fiter (fun vs h => o96_l1 cl N (nthD vs 0) (nthD vs 1) (nthD vs 2) h) N [v1, v2, (.int .i64 0)] h) fun x vs h => o96_j3 cl N x (nthD vs 0) h
theorem o96_eq (cl : Handler) (N : Nat) (v0 v1 : AV) (h : AH) : frun cl N S96 [v0, v1] h = fans (o96 cl N v0 v1 h) := by kernel_rfl
def w96 (N : Nat) : OF := fun cl args h => match args with
  | [v0, v1] => fans (o96 cl N v0 v1 h)
  | _ => none
theorem w96_ok (N : Nat) : OkF Tryz.prog 96 (w96 N) := .of (N := N) (S96_ok) fun cl args h r hr => by
  unfold w96 at hr
  split at hr
  · exact (o96_eq cl N _ _ _).trans hr
  · cases hr

def S97.z0 : List AV := [.int .i64 0, .int .i64 0, .int .i64 0, .str [], .nilsl, .nilsl, .nilsl]
/- widgetry/widgetryref14.Node -/
def S97.r0 : List AOpr := [
  q 2 (.box (x 0)),
  q 4 (.new S97.z0)]
def S97.r1 : List AOpr := [
  q 6 (.ldn 3 (x 2)),
  q 7 (.mov (x 1)),
  q 8 (.call (.const (.func (.func 96) [] [])) [.tmp 6, .tmp 7]),
  q 5 (.mov (x 8))]
def S97.r2 : List AOpr := [
  q 9 (.mov (x 5)),
  q 10 (.arith .lss (x 9) (.const (.int .i64 0)))]
def S97.r3 : List AOpr := [
  q 11 (.build S97.z0 []),
  ⟨none, .st 7 (x 4) (x 11), none⟩]
def S97.r4 : List AOpr := [
  q 12 (.fldA 2 (x 2)),
  q 13 (.ld1 (x 12)),
  q 14 (.mov (x 5)),
  q 15 (.idxA 7 (x 13) (x 14)),
  q 16 (.ldn 7 (x 15)),
  ⟨none, .st 7 (x 4) (x 16), none⟩]
def S97 : SFn := ⟨17, [.cell 4 (some 7)], .seq (.reg S97.r0) (.seq (.reg S97.r1) (.seq (.seq (.reg S97.r2) (.cond (x 10) (.seq (.reg S97.r3) (.ret)) (.skip))) (.seq (.reg S97.r4) (.ret))))⟩
theorem S97_ok : EOk Tryz.prog 97 S97 := ⟨Tryz.f97, by kernel_rfl, by kernel_rfl, by decide, by kernel_rfl, its_nil (by kernel_rfl)⟩
def o97 (cl : Handler) (N : Nat) (v0 v1 : AV) (h : AH) : Ans :=
  fst (kBox h v0) fun v2 h =>
  fst (kNew h S97.z0) fun v4 h =>
  fst (kLdn h 3 v2) fun v6 h =>
  fst (cl 96 [v6, v1] h) fun v8 h =>
  fst (kArith h .lss v8 (.int .i64 0)) fun v10 h =>
  fif v10 (
  fst (kBuild h S97.z0 []) fun v11 h =>
  fst (kSt h 7 v4 v11) fun _ h =>
  fres (aresV h [.cell (v4) (some 7)]) h) (
  fst (kFldA h 2 v2) fun v12 h =>
  fst (kLd1 h v12) fun v13 h =>
  fst (kIdxA h 7 v13 v8) fun v15 h =>
  fst (kLdn h 7 v15) fun v16 h =>
  fst (kSt h 7 v4 v16) fun _ h =>
  fres (aresV h [.cell (v4) (some 7)]) h)
theorem o97_eq (cl : Handler) (N : Nat) (v0 v1 : AV) (h : AH) : frun cl N S97 [v0, v1] h = fans (o97 cl N v0 v1 h) := by kernel_rfl
def w97 (N : Nat) : OF := fun cl args h => match args with
  | [v0, v1] => fans (o97 cl N v0 v1 h)
  | _ => none
theorem w97_ok (N : Nat) : OkF Tryz.prog 97 (w97 N) := .of (N := N) (S97_ok) fun cl args h r hr => by
  unfold w97 at hr
  split at hr
  · exact (o97_eq cl N _ _ _).trans hr
  · cases hr

def S98.z0 : List AV := [.int .i64 0, .int .i64 0, .int .i64 0, .str [], .nilsl, .nilsl, .nilsl]
/- (widgetry/widgetryref29.Facts).Path -/
def S98.r0 : List AOpr := [
  q 2 (.box (x 0)),
  q 4 (.mov (.const (.nilsl)))]
def S98.r1 : List AOpr := [
  q 8 (.fldA 4 (x 2)),
  q 9 (.ld1 (x 8)),
  q 10 (.len (x 9)),
  q 11 (.arith .eql (x 10) (.const (.int .i64 0)))]
def S98.r2 : List AOpr := [
  q 4 (.mov (.const (.nilsl)))]
def S98.r3 : List AOpr := [
  q 5 (.mov (.const (.nilsl)))]
def S98.r4 : List AOpr := [
  q 13 (.fldA 0 (x 2)),
  q 14 (.ldn 3 (x 13)),
  q 15 (.mov (x 1)),
  q 16 (.call (.const (.func (.func 42) [] [])) [.tmp 14, .tmp 15]),
  q 12 (.mov (x 16)),
  q 17 (.ext (x 12) 0),
  q 18 (.ext (x 12) 1),
  q 6 (.new S98.z0),
  ⟨none, .st 7 (x 6) (x 17), none⟩,
  q 7 (.mov (x 18))]
def S98.r5 : List AOpr := [
  q 19 (.mov (x 7))]
def S98.r6 : List AOpr := [
  q 28 (.fldA 0 (x 6)),
  q 29 (.ld1 (x 28)),
  q 30 (.buildSl 1 1 [.int .i64 0] [(0, 1, .tmp 29)]),
  q 31 (.mov (x 5)),
  q 32 (.app 1 8 (x 30) (x 31)),
  q 5 (.mov (x 32))]
def S98.r7 : List AOpr := [
  q 33 (.ldn 7 (x 6))]
def S98.r8 : List AOpr := [
  q 6 (.new S98.z0),
  ⟨none, .st 7 (x 6) (x 33), none⟩]
def S98.r9 : List AOpr := [
  q 21 (.fldA 0 (x 2)),
  q 22 (.ldn 3 (x 21)),
  q 23 (.fldA 1 (x 6)),
  q 24 (.ld1 (x 23)),
  q 25 (.call (.const (.func (.func 42) [] [])) [.tmp 22, .tmp 24]),
  q 20 (.mov (x 25)),
  q 26 (.ext (x 20) 0),
  q 27 (.ext (x 20) 1),
  ⟨none, .st 7 (x 6) (x 26), none⟩,
  q 7 (.mov (x 27))]
def S98.r10 : List AOpr := [
  q 34 (.mov (x 5)),
  q 4 (.mov (x 34))]
def S98 : SFn := ⟨35, [.tmp 4], .seq (.reg S98.r0) (.seq (.seq (.reg S98.r1) (.cond (x 11) (.seq (.reg S98.r2) (.ret)) (.skip))) (.seq (.reg S98.r3) (.seq (.seq (.reg S98.r4) (.block 0 (.loop [2, 5, 6, 7] [5] (.seq (.seq (.reg S98.r5) (.cond (x 19) (.skip) (.exit 0))) (.seq (.block 1 (.reg S98.r6)) (.seq (.seq (.reg S98.r7) (.reg S98.r8)) (.reg S98.r9))))))) (.seq (.reg S98.r10) (.ret)))))⟩
theorem S98_ok : EOk Tryz.prog 98 S98 := ⟨Tryz.f98, by kernel_rfl, by kernel_rfl, by decide, by kernel_rfl, its_nil (by kernel_rfl)⟩
def o98_s1 (cl : Handler) (N : Nat) (v2 v5 v6 v22 v23 : AV) (h : AH) : Ans :=
  fst (kLd1 h v23) fun v24 h =>
  fst (cl 42 [v22, v24] h) fun v25 h =>
  fst (kExt h v25 0) fun v26 h =>
  fst (kExt h v25 1) fun v27 h =>
  fst (kSt h 7 v6 v26) fun _ h =>
  some (.nrm, [v2, v5, v6, v27], [v5], h)
def o98_l1 (cl : Handler) (N : Nat) (v2 v5 v6 v7 : AV) (h : AH) : Ans :=
  fif v7 (
  fst (kFldA h 0 v6) fun v28 h =>
  fst (kLd1 h v28) fun v29 h =>
  fst (kBuildSl h 1 1 [.int .i64 0] [(0, 1, v29)]) fun v30 h =>
  fst (kApp h 1 8 v30 v5) fun v32 h =>
  fst (kLdn h 7 v6) fun v33 h =>
  fst (kNew h S98.z0) fun v6 h =>
  fst (kSt h 7 v6 v33) fun _ h =>
  fst (kFldA h 0 v2) fun v21 h =>
  fst (kLdn h 3 v21) fun v22 h =>
  fst (kFldA h 1 v6) fun v23 h =>
  o98_s1 cl N v2 v32 v6 v22 v23 h) (
  some ((.exit 0), [v2, v5, v6, v7], [v5], h))
def o98_c2 (cl : Handler) (N : Nat) (v5 : AV) (h : AH) : Ans :=
  some (.nrm, [], [v5], h)
def o98_j3 (cl : Handler) (N : Nat) (x : AX) (v5 : AV) (h : AH) : Ans :=
  fxs x (o98_c2 cl N v5 h) (fun j => cond (Nat.beq j 0) (o98_c2 cl N v5 h) (none)) (some (.nrm, [], [.undef], h))
def o98_s2 (cl : Handler) (N : Nat) (v2 v5 v17 v18 : AV) (h : AH) : Ans :=
  fst (kNew h S98.z0) fun v6 h =>
  fst (kSt h 7 v6 v17) fun _ h =>
  fjn (fiter (fun vs h => o98_l1 cl N (nthD vs 0) (nthD vs 1) (nthD vs 2) (nthD vs 3) h) N [v2, v5, v6, v18] h) fun x vs h => o98_j3 cl N x (nthD vs 0) h
def o98 (cl : Handler) (N : Nat) (v0 v1 : AV) (h : AH) : Ans :=
  fst (kBox h v0) fun v2 h =>
  fst (kFldA h 4 v2) fun v8 h =>
  fst (kLd1 h v8) fun v9 h =>
  fst (kLen h v9) fun v10 h =>
  fst (kArith h .eql v10 (.int .i64 0)) fun v11 h =>
  fif v11 (
  some (.nrm, [], [(.nilsl)], h)) (
  fst (kFldA h 0 v2) fun v13 h =>
  fst (kLdn h 3 v13) fun v14 h =>
  fst (cl 42 [v14, v1] h) fun v16 h =>
  fst (kExt h v16 0) fun v17 h =>
  fst (kExt h v16 1) fun v18 h =>
  o98_s2 cl N v2 (.nilsl) v17 v18 h)
theorem o98_eq (cl : Handler) (N : Nat) (v0 v1 : AV) (h : AH) : frun cl N S98 [v0, v1] h = fans (o98 cl N v0 v1 h) := by kernel_rfl
def w98 (N : Nat) : OF := fun cl args h => match args with
  | [v0, v1] => fans (o98 cl N v0 v1 h)
  | _ => none
theorem w98_ok (N : Nat) : OkF Tryz.prog 98 (w98 N) := .of (N := N) (S98_ok) fun cl args h r hr => by
  unfold w98 at hr
  split at hr
  · exact (o98_eq cl N _ _ _).trans hr
  · cases hr

/- widgetry/widgetryref37.natural -/
def S99.r0 : List AOpr := [
  q 2 (.box (x 0)),
  q 3 (.box (x 1)),
  q 4 (.mov (.const (.int .i64 0)))]
def S99.r1 : List AOpr := [
  q 8 (.fldA 4 (x 3)),
  q 9 (.ld1 (x 8)),
  q 10 (.call (.const (.func (.func 54) [] [])) [.tmp 9, .const (.str [114, 111, 108, 101])]),
  q 5 (.mov (x 10))]
def S99.r2 : List AOpr := [
  q 6 (.mov (.const (.int .i64 0)))]
def S99.r3 : List AOpr := [
  q 11 (.mov (x 6)),
  q 12 (.call (.const (.func (.func 144) [] [])) []),
  q 13 (.len (x 12)),
  q 14 (.arith .lss (x 11) (x 13))]
def S99.r4 : List AOpr := [
  q 17 (.mov (x 5)),
  q 18 (.call (.const (.func (.func 144) [] [])) []),
  q 19 (.mov (x 6)),
  q 20 (.idxA 1 (x 18) (x 19)),
  q 21 (.ld1 (x 20)),
  q 22 (.arith .eql (x 17) (x 21))]
def S99.r5 : List AOpr := [
  q 23 (.mov (x 6)),
  q 4 (.mov (x 23))]
def S99.r6 : List AOpr := [
  q 15 (.mov (x 6)),
  q 16 (.arith .add (x 15) (.const (.int .i64 1))),
  q 6 (.mov (x 16))]
def S99.r7 : List AOpr := [
  q 24 (.fldA 4 (x 3)),
  q 25 (.ld1 (x 24)),
  q 26 (.call (.const (.func (.func 54) [] [])) [.tmp 25, .const (.str [108, 97, 98, 101, 108])]),
  q 27 (.arith .neq (x 26) (.const (.str []))),
  q 7 (.mov (x 27))]
def S99.r8 : List AOpr := [
  q 28 (.fldA 2 (x 3)),
  q 29 (.ld1 (x 28))]
def S99.r9 : List AOpr := [
  q 31 (.arith .eql (x 29) (.const (.int .i64 2))),
  q 30 (.mov (x 31))]
def S99.r10 : List AOpr := [
  q 4 (.mov (.const (.int .i64 3)))]
def S99.r11 : List AOpr := [
  q 33 (.arith .eql (x 29) (.const (.int .i64 3))),
  q 32 (.mov (x 33))]
def S99.r12 : List AOpr := [
  q 4 (.mov (.const (.int .i64 4)))]
def S99.r13 : List AOpr := [
  q 35 (.arith .eql (x 29) (.const (.int .i64 4))),
  q 34 (.mov (x 35))]
def S99.r14 : List AOpr := [
  q 4 (.mov (.const (.int .i64 5)))]
def S99.r15 : List AOpr := [
  q 37 (.arith .eql (x 29) (.const (.int .i64 6))),
  q 36 (.mov (x 37))]
def S99.r16 : List AOpr := [
  q 4 (.mov (.const (.int .i64 7)))]
def S99.r17 : List AOpr := [
  q 39 (.arith .eql (x 29) (.const (.int .i64 7))),
  q 38 (.mov (x 39))]
def S99.r18 : List AOpr := [
  q 4 (.mov (.const (.int .i64 8)))]
def S99.r19 : List AOpr := [
  q 41 (.arith .eql (x 29) (.const (.int .i64 8))),
  q 40 (.mov (x 41))]
def S99.r20 : List AOpr := [
  q 4 (.mov (.const (.int .i64 9)))]
def S99.r21 : List AOpr := [
  q 43 (.arith .eql (x 29) (.const (.int .i64 9))),
  q 42 (.mov (x 43))]
def S99.r22 : List AOpr := [
  q 4 (.mov (.const (.int .i64 10)))]
def S99.r23 : List AOpr := [
  q 45 (.arith .eql (x 29) (.const (.int .i64 10))),
  q 44 (.mov (x 45))]
def S99.r24 : List AOpr := [
  q 4 (.mov (.const (.int .i64 11)))]
def S99.r25 : List AOpr := [
  q 47 (.arith .eql (x 29) (.const (.int .i64 11))),
  q 46 (.mov (x 47))]
def S99.r26 : List AOpr := [
  q 4 (.mov (.const (.int .i64 12)))]
def S99.r27 : List AOpr := [
  q 49 (.arith .eql (x 29) (.const (.int .i64 12))),
  q 48 (.mov (x 49))]
def S99.r28 : List AOpr := [
  q 4 (.mov (.const (.int .i64 13)))]
def S99.r29 : List AOpr := [
  q 51 (.arith .eql (x 29) (.const (.int .i64 13))),
  q 50 (.mov (x 51))]
def S99.r30 : List AOpr := [
  q 4 (.mov (.const (.int .i64 14)))]
def S99.r31 : List AOpr := [
  q 53 (.arith .eql (x 29) (.const (.int .i64 5))),
  q 52 (.mov (x 53))]
def S99.r32 : List AOpr := [
  q 54 (.mov (x 7))]
def S99.r33 : List AOpr := [
  q 4 (.mov (.const (.int .i64 6)))]
def S99.r34 : List AOpr := [
  q 4 (.mov (.const (.int .i64 0)))]
def S99.r35 : List AOpr := [
  q 56 (.ldn 3 (x 2)),
  q 57 (.fldA 0 (x 3)),
  q 58 (.ld1 (x 57)),
  q 59 (.call (.const (.func (.func 100) [] [])) [.tmp 56, .tmp 58]),
  q 55 (.mov (x 59))]
def S99.r36 : List AOpr := [
  q 4 (.mov (.const (.int .i64 4)))]
def S99.r37 : List AOpr := [
  q 61 (.ldn 7 (x 3)),
  q 62 (.call (.const (.func (.func 145) [] [])) [.tmp 61]),
  q 60 (.mov (x 62))]
def S99.r38 : List AOpr := [
  q 4 (.mov (.const (.int .i64 15)))]
def S99.r39 : List AOpr := [
  q 64 (.mov (x 7)),
  q 63 (.mov (x 64))]
def S99.r40 : List AOpr := [
  q 4 (.mov (.const (.int .i64 2)))]
def S99.r41 : List AOpr := [
  q 4 (.mov (.const (.int .i64 0)))]
def S99 : SFn := ⟨65, [.tmp 4], .seq (.reg S99.r0) (.seq (.reg S99.r1) (.seq (.seq (.reg S99.r2) (.block 0 (.loop [2, 3, 5, 6] [2, 3, 4] (.seq (.seq (.reg S99.r3) (.cond (x 14) (.skip) (.exit 0))) (.seq (.block 1 (.seq (.reg S99.r4) (.cond (x 22) (.seq (.reg S99.r5) (.ret)) (.skip)))) (.reg S99.r6)))))) (.seq (.reg S99.r7) (.seq (.seq (.reg S99.r8) (.block 2 (.seq (.reg S99.r9) (.cond (x 30) (.seq (.reg S99.r10) (.ret)) (.seq (.reg S99.r11) (.cond (x 32) (.seq (.reg S99.r12) (.ret)) (.seq (.reg S99.r13) (.cond (x 34) (.seq (.reg S99.r14) (.ret)) (.seq (.reg S99.r15) (.cond (x 36) (.seq (.reg S99.r16) (.ret)) (.seq (.reg S99.r17) (.cond (x 38) (.seq (.reg S99.r18) (.ret)) (.seq (.reg S99.r19) (.cond (x 40) (.seq (.reg S99.r20) (.ret)) (.seq (.reg S99.r21) (.cond (x 42) (.seq (.reg S99.r22) (.ret)) (.seq (.reg S99.r23) (.cond (x 44) (.seq (.reg S99.r24) (.ret)) (.seq (.reg S99.r25) (.cond (x 46) (.seq (.reg S99.r26) (.ret)) (.seq (.reg S99.r27) (.cond (x 48) (.seq (.reg S99.r28) (.ret)) (.seq (.reg S99.r29) (.cond (x 50) (.seq (.reg S99.r30) (.ret)) (.seq (.reg S99.r31) (.cond (x 52) (.seq (.seq (.reg S99.r32) (.cond (x 54) (.seq (.reg S99.r33) (.ret)) (.skip))) (.seq (.reg S99.r34) (.ret))) (.skip))))))))))))))))))))))))))) (.seq (.block 3 (.seq (.reg S99.r35) (.cond (x 55) (.seq (.reg S99.r36) (.ret)) (.seq (.reg S99.r37) (.cond (x 60) (.seq (.reg S99.r38) (.ret)) (.seq (.reg S99.r39) (.cond (x 63) (.seq (.reg S99.r40) (.ret)) (.skip)))))))) (.seq (.reg S99.r41) (.ret)))))))⟩
theorem S99_ok : EOk Tryz.prog 99 S99 := ⟨Tryz.f99, by kernel_rfl, by kernel_rfl, by decide, by kernel_rfl, its_nil (by kernel_rfl)⟩
def o99_l1 (cl : Handler) (N : Nat) (v2 v3 v5 v6 : AV) (h : AH) : Ans :=
  fst (cl 144 [] h) fun v12 h =>
  fst (kLen h v12) fun v13 h =>
  fst (kArith h .lss v6 v13) fun v14 h =>
  fif v14 (
  fst (cl 144 [] h) fun v18 h =>
  fst (kIdxA h 1 v18 v6) fun v20 h =>
  fst (kLd1 h v20) fun v21 h =>
  fst (kArith h .eql v5 v21) fun v22 h =>
  fif v22 (
  some (.ret, [v2, v3, v5, v6], [v2, v3, v6], h)) (
  fst (kArith h .add v6 (.int .i64 1)) fun v16 h =>
  some (.nrm, [v2, v3, v5, v16], [v2, v3, .undef], h))) (
  some ((.exit 0), [v2, v3, v5, v6], [v2, v3, .undef], h))
def o99_s1 (cl : Handler) (N : Nat) (v3 v7 v56 v57 : AV) (h : AH) : Ans :=
  fst (kLd1 h v57) fun v58 h =>
  fst (cl 100 [v56, v58] h) fun v59 h =>
  fif v59 (
  some (.nrm, [], [(.int .i64 4)], h)) (
  fst (kLdn h 7 v3) fun v61 h =>
  fst (cl 145 [v61] h) fun v62 h =>
  fif v62 (
  some (.nrm, [], [(.int .i64 15)], h)) (
  fif v7 (
  some (.nrm, [], [(.int .i64 2)], h)) (
  some (.nrm, [], [(.int .i64 0)], h))))
def o99_s2 (cl : Handler) (N : Nat) (v2 v3 v7 v29 v37 : AV) (h : AH) : Ans :=
  fif v37 (
  some (.nrm, [], [(.int .i64 7)], h)) (
  fst (kArith h .eql v29 (.int .i64 7)) fun v39 h =>
  fif v39 (
  some (.nrm, [], [(.int .i64 8)], h)) (
  fst (kArith h .eql v29 (.int .i64 8)) fun v41 h =>
  fif v41 (
  some (.nrm, [], [(.int .i64 9)], h)) (
  fst (kArith h .eql v29 (.int .i64 9)) fun v43 h =>
  fif v43 (
  some (.nrm, [], [(.int .i64 10)], h)) (
  fst (kArith h .eql v29 (.int .i64 10)) fun v45 h =>
  fif v45 (
  some (.nrm, [], [(.int .i64 11)], h)) (
  fst (kArith h .eql v29 (.int .i64 11)) fun v47 h =>
  fif v47 (
  some (.nrm, [], [(.int .i64 12)], h)) (
  fst (kArith h .eql v29 (.int .i64 12)) fun v49 h =>
  fif v49 (
  some (.nrm, [], [(.int .i64 13)], h)) (
  fst (kArith h .eql v29 (.int .i64 13)) fun v51 h =>
  fif v51 (
  some (.nrm, [], [(.int .i64 14)], h)) (
  fst (kArith h .eql v29 (.int .i64 5)) fun v53 h =>
  fif v53 (
  fif v7 (
  some (.nrm, [], [(.int .i64 6)], h)) (
  some (.nrm, [], [(.int .i64 0)], h))) (
  fst (kLdn h 3 v2) fun v56 h =>
  fst (kFldA h 0 v3) fun v57 h =>
  o99_s1 cl N v3 v7 v56 v57 h)))))))))
def o99_c2 (cl : Handler) (N : Nat) (v2 v3 : AV) (h : AH) : Ans :=
  fst (kFldA h 4 v3) fun v24 h =>
  fst (kLd1 h v24) fun v25 h =>
  fst (cl 54 [v25, (.str [108, 97, 98, 101, 108])] h) fun v26 h =>
  fst (kArith h .neq v26 (.str [])) fun v27 h =>
  fst (kFldA h 2 v3) fun v28 h =>
  fst (kLd1 h v28) fun v29 h =>
  fst (kArith h .eql v29 (.int .i64 2)) fun v31 h =>
  fif v31 (
  some (.nrm, [], [(.int .i64 3)], h)) (
  fst (kArith h .eql v29 (.int .i64 3)) fun v33 h =>
  fif v33 (
  some (.nrm, [], [(.int .i64 4)], h)) (
  fst (kArith h .eql v29 (.int .i64 4)) fun v35 h =>
  fif v35 (
  some (.nrm, [], [(.int .i64 5)], h)) (
  fst (kArith h .eql v29 (.int .i64 6)) fun v37 h =>
  o99_s2 cl N v2 v3 v27 v29 v37 h)))
def o99_j3 (cl : Handler) (N : Nat) (x : AX) (v2 v3 v4 : AV) (h : AH) : Ans :=
  fxs x (o99_c2 cl N v2 v3 h) (fun j => cond (Nat.beq j 0) (o99_c2 cl N v2 v3 h) (none)) (some (.nrm, [], [v4], h))
def o99 (cl : Handler) (N : Nat) (v0 v1 : AV) (h : AH) : Ans :=
  fst (kBox h v0) fun v2 h =>
  fst (kBox h v1) fun v3 h =>
  fst (kFldA h 4 v3) fun v8 h =>
  fst (kLd1 h v8) fun v9 h =>
  fst (cl 54 [v9, (.str [114, 111, 108, 101])] h) fun v10 h =>
  fjn (fiter (fun vs h => o99_l1 cl N (nthD vs 0) (nthD vs 1) (nthD vs 2) (nthD vs 3) h) N [v2, v3, v10, (.int .i64 0)] h) fun x vs h => o99_j3 cl N x (nthD vs 0) (nthD vs 1) (nthD vs 2) h
theorem o99_eq (cl : Handler) (N : Nat) (v0 v1 : AV) (h : AH) : frun cl N S99 [v0, v1] h = fans (o99 cl N v0 v1 h) := by kernel_rfl
def w99 (N : Nat) : OF := fun cl args h => match args with
  | [v0, v1] => fans (o99 cl N v0 v1 h)
  | _ => none
theorem w99_ok (N : Nat) : OkF Tryz.prog 99 (w99 N) := .of (N := N) (S99_ok) fun cl args h r hr => by
  unfold w99 at hr
  split at hr
  · exact (o99_eq cl N _ _ _).trans hr
  · cases hr

def S100.z0 : List AV := [.int .i64 0, .int .i64 0, .int .i64 0, .str [], .nilsl, .nilsl, .nilsl]
/- widgetry/widgetryref31.Pressable -/
def S100.r0 : List AOpr := [
  q 2 (.box (x 0)),
  q 4 (.mov (.const (.bool false)))]
def S100.r1 : List AOpr := [
  q 8 (.ldn 3 (x 2)),
  q 9 (.mov (x 1)),
  q 10 (.call (.const (.func (.func 42) [] [])) [.tmp 8, .tmp 9]),
  q 7 (.mov (x 10)),
  q 11 (.ext (x 7) 0),
  q 12 (.ext (x 7) 1),
  q 5 (.new S100.z0),
  ⟨none, .st 7 (x 5) (x 11), none⟩,
  q 6 (.mov (x 12))]
def S100.r2 : List AOpr := [
  q 13 (.mov (x 6)),
  q 14 (.mov (x 13)),
  ⟨some 15, .ldn 7 (x 5), some (14, true)⟩,
  ⟨some 16, .call (.const (.func (.func 61) [] [])) [.tmp 15], some (14, true)⟩,
  q 17 (.pick (x 14) (x 16) (.const (.bool false))),
  q 4 (.mov (x 17))]
def S100 : SFn := ⟨18, [.tmp 4], .seq (.reg S100.r0) (.seq (.reg S100.r1) (.seq (.reg S100.r2) (.ret)))⟩
theorem S100_ok : EOk Tryz.prog 100 S100 := ⟨Tryz.f100, by kernel_rfl, by kernel_rfl, by decide, by kernel_rfl, its_nil (by kernel_rfl)⟩
def o100_s1 (cl : Handler) (N : Nat) (v17 : AV) (h : AH) : Ans :=
  some (.nrm, [], [v17], h)
def o100 (cl : Handler) (N : Nat) (v0 v1 : AV) (h : AH) : Ans :=
  fst (kBox h v0) fun v2 h =>
  fst (kLdn h 3 v2) fun v8 h =>
  fst (cl 42 [v8, v1] h) fun v10 h =>
  fst (kExt h v10 0) fun v11 h =>
  fst (kExt h v10 1) fun v12 h =>
  fst (kNew h S100.z0) fun v5 h =>
  fst (kSt h 7 v5 v11) fun _ h =>
  fgd (gdv true v12) (kLdn h 7 v5) h fun v15 h =>
  fgd (gdv true v12) (cl 61 [v15] h) h fun v16 h =>
  fst (kPick h v12 v16 (.bool false)) fun v17 h =>
  o100_s1 cl N v17 h
theorem o100_eq (cl : Handler) (N : Nat) (v0 v1 : AV) (h : AH) : frun cl N S100 [v0, v1] h = fans (o100 cl N v0 v1 h) := by kernel_rfl
def w100 (N : Nat) : OF := fun cl args h => match args with
  | [v0, v1] => fans (o100 cl N v0 v1 h)
  | _ => none
theorem w100_ok (N : Nat) : OkF Tryz.prog 100 (w100 N) := .of (N := N) (S100_ok) fun cl args h r hr => by
  unfold w100 at hr
  split at hr
  · exact (o100_eq cl N _ _ _).trans hr
  · cases hr

/- widgetry/widgetryref38.referred -/
def S101.r0 : List AOpr := [
  q 4 (.box (x 0)),
  q 6 (.box (x 2)),
  q 8 (.mov (.const (.str [])))]
def S101.r1 : List AOpr := [
  q 12 (.ldn 7 (x 6)),
  q 13 (.mov (x 3)),
  q 14 (.call (.const (.func (.func 112) [] [])) [.tmp 12, .tmp 13]),
  q 9 (.mov (x 14))]
def S101.r2 : List AOpr := [
  q 10 (.mov (.const (.str [])))]
def S101.r3 : List AOpr := [
  q 11 (.mov (.const (.int .i64 0)))]
def S101.r4 : List AOpr := [
  q 15 (.mov (x 11)),
  q 16 (.mov (x 9)),
  q 17 (.len (x 16)),
  q 18 (.arith .lss (x 15) (x 17))]
def S101.r5 : List (AOpr × Nat) := [
  (q 21 (.mov (x 10)), 0),
  (q 22 (.ldn 6 (x 4)), 0),
  (q 23 (.mov (x 1)), 0),
  (q 24 (.fldA 0 (x 4)), 0),
  (q 25 (.ldn 3 (x 24)), 8),
  (q 26 (.mov (x 9)), 0),
  (q 27 (.mov (x 11)), 0),
  (q 28 (.idxA 1 (x 26) (x 27)), 96),
  (q 29 (.ld1 (x 28)), 224),
  (q 30 (.call (.const (.func (.func 113) [] [])) [.tmp 25, .tmp 29]), 504),
  (q 31 (.call (.const (.func (.func 147) [] [])) [.tmp 22, .tmp 23, .tmp 30]), 1022),
  (q 32 (.call (.const (.func (.func 146) [] [])) [.tmp 21, .tmp 31]), 2047),
  (q 10 (.mov (x 32)), 4095)]
def S101.r6 : List AOpr := [
  q 19 (.mov (x 11)),
  q 20 (.arith .add (x 19) (.const (.int .i64 1))),
  q 11 (.mov (x 20))]
def S101.r7 : List AOpr := [
  q 33 (.mov (x 10)),
  q 34 (.call (.const (.func (.func 102) [] [])) [.tmp 33]),
  q 8 (.mov (x 34))]
def S101 : SFn := ⟨35, [.tmp 8], .seq (.reg S101.r0) (.seq (.reg S101.r1) (.seq (.reg S101.r2) (.seq (.seq (.reg S101.r3) (.block 0 (.loop [1, 4, 9, 10, 11] [10] (.seq (.seq (.reg S101.r4) (.cond (x 18) (.skip) (.exit 0))) (.seq (.block 1 (.draw S101.r5)) (.reg S101.r6)))))) (.seq (.reg S101.r7) (.ret)))))⟩
theorem S101_ok : EOk Tryz.prog 101 S101 := ⟨Tryz.f101, by kernel_rfl, by kernel_rfl, by decide, by kernel_rfl, its_nil (by kernel_rfl)⟩
def o101_s1 (cl : Handler) (N : Nat) (c0 c1 c2 c3 c4 c5 c6 c7 : Rec) (v1 v4 v9 v10 v11 v21 v22 v23 v25 v28 : AV) (h : AH) : Ans :=
  fdp h (kLd1 h v28) (rdK (rdv v28)) fun v29 c8 h =>
  fde h (cl 113 [v25, v29] h) fun v30 c9 h =>
  fde h (cl 147 [v22, v23, v30] h) fun v31 c10 h =>
  fde h (cl 146 [v21, v31] h) fun v32 c11 h =>
  fdp h (kMov h v32) .pure fun v10 c12 h =>
  cond (fchk [c0, c1, c2, c3, c4, c5, c6, c7, c8, c9, c10, c11, c12] [(1, 9)]) (fst (kArith h .add v11 (.int .i64 1)) fun v20 h =>
  some (.nrm, [v1, v4, v9, v10, v20], [v10], h)) none
def o101_l1 (cl : Handler) (N : Nat) (v1 v4 v9 v10 v11 : AV) (h : AH) : Ans :=
  fst (kLen h v9) fun v17 h =>
  fst (kArith h .lss v11 v17) fun v18 h =>
  fif v18 (
  fdr h 13 fun r h =>
  fdp h (kMov h v10) .pure fun v21 c0 h =>
  fdp h (kLdn h 6 v4) (rdK (rdv v4)) fun v22 c1 h =>
  fdp h (kMov h v1) .pure fun v23 c2 h =>
  fdp h (kFldA h 0 v4) .pure fun v24 c3 h =>
  fdp h (kLdn h 3 v24) (rdK (rdv v24)) fun v25 c4 h =>
  fdp h (kMov h v9) .pure fun v26 c5 h =>
  fdp h (kMov h v11) .pure fun v27 c6 h =>
  fdp h (kIdxA h 1 v26 v27) .pure fun v28 c7 h =>
  o101_s1 cl N c0 c1 c2 c3 c4 c5 c6 c7 v1 v4 v9 v10 v11 v21 v22 v23 v25 v28 h) (
  some ((.exit 0), [v1, v4, v9, v10, v11], [v10], h))
def o101_c2 (cl : Handler) (N : Nat) (v10 : AV) (h : AH) : Ans :=
  fst (cl 102 [v10] h) fun v34 h =>
  some (.nrm, [], [v34], h)
def o101_j3 (cl : Handler) (N : Nat) (x : AX) (v10 : AV) (h : AH) : Ans :=
  fxs x (o101_c2 cl N v10 h) (fun j => cond (Nat.beq j 0) (o101_c2 cl N v10 h) (none)) (some (.nrm, [], [.undef], h))
def o101 (cl : Handler) (N : Nat) (v0 v1 v2 v3 : AV) (h : AH) : Ans :=
  fst (kBox h v0) fun v4 h =>
  fst (kBox h v2) fun v6 h =>
  fst (kLdn h 7 v6) fun v12 h =>
  fst (cl 112 [v12, v3] h) fun v14 h =>
  fjn (fiter (fun vs h => o101_l1 cl N (nthD vs 0) (nthD vs 1) (nthD vs 2) (nthD vs 3) (nthD vs 4) h) N [v1, v4, v14, (.str []), (.int .i64 0)] h) fun x vs h => o101_j3 cl N x (nthD vs 0) h
theorem o101_eq (cl : Handler) (N : Nat) (v0 v1 v2 v3 : AV) (h : AH) : frun cl N S101 [v0, v1, v2, v3] h = fans (o101 cl N v0 v1 v2 v3 h) := by kernel_rfl
def w101 (N : Nat) : OF := fun cl args h => match args with
  | [v0, v1, v2, v3] => fans (o101 cl N v0 v1 v2 v3 h)
  | _ => none
theorem w101_ok (N : Nat) : OkF Tryz.prog 101 (w101 N) := .of (N := N) (S101_ok) fun cl args h r hr => by
  unfold w101 at hr
  split at hr
  · exact (o101_eq cl N _ _ _ _ _).trans hr
  · cases hr

/- widgetry/widgetryref38.Clean -/
def S102.r0 : List AOpr := [
  q 2 (.mov (.const (.str [])))]
def S102.r1 : List AOpr := [
  q 3 (.mov (.const (.nilsl)))]
def S102.r2 : List AOpr := [
  q 4 (.mov (.const (.bool false)))]
def S102.r3 : List AOpr := [
  q 7 (.mov (x 0)),
  q 8 (.xo .s2r [.tmp 7]),
  q 5 (.mov (x 8))]
def S102.r4 : List AOpr := [
  q 6 (.mov (.const (.int .i64 0)))]
def S102.r5 : List AOpr := [
  q 9 (.mov (x 6)),
  q 10 (.mov (x 5)),
  q 11 (.len (x 10)),
  q 12 (.arith .lss (x 9) (x 11))]
def S102.r6 : List AOpr := [
  q 15 (.mov (x 5)),
  q 16 (.mov (x 6)),
  q 17 (.idxA 1 (x 15) (x 16)),
  q 18 (.ld1 (x 17)),
  q 19 (.call (.const (.func (.func 148) [] [])) [.tmp 18])]
def S102.r7 : List AOpr := [
  q 20 (.mov (x 3)),
  q 21 (.len (x 20)),
  q 22 (.arith .gtr (x 21) (.const (.int .i64 0))),
  q 4 (.mov (x 22))]
def S102.r8 : List AOpr := [
  q 23 (.mov (x 4))]
def S102.r9 : List AOpr := [
  q 24 (.mov (x 3)),
  q 25 (.buildSl 1 1 [.int .i32 0] [(0, 1, .const (.int .i32 32))]),
  q 26 (.app 1 4 (x 24) (x 25)),
  q 3 (.mov (x 26))]
def S102.r10 : List AOpr := [
  q 4 (.mov (.const (.bool false)))]
def S102.r11 : List AOpr := [
  q 27 (.mov (x 3)),
  q 28 (.mov (x 5)),
  q 29 (.mov (x 6)),
  q 30 (.idxA 1 (x 28) (x 29)),
  q 31 (.ld1 (x 30)),
  q 32 (.buildSl 1 1 [.int .i32 0] [(0, 1, .tmp 31)]),
  q 33 (.app 1 4 (x 27) (x 32)),
  q 3 (.mov (x 33))]
def S102.r12 : List AOpr := [
  q 13 (.mov (x 6)),
  q 14 (.arith .add (x 13) (.const (.int .i64 1))),
  q 6 (.mov (x 14))]
def S102.r13 : List AOpr := [
  q 34 (.mov (x 3)),
  q 35 (.mov (x 3)),
  q 36 (.len (x 35)),
  q 37 (.mnmx false (x 36) (.const (.int .i64 200))),
  q 38 (.sl 1 (x 34) none (some (x 37)) none),
  q 39 (.xo .r2s [.tmp 38]),
  q 2 (.mov (x 39))]
def S102 : SFn := ⟨40, [.tmp 2], .seq (.reg S102.r0) (.seq (.reg S102.r1) (.seq (.reg S102.r2) (.seq (.reg S102.r3) (.seq (.seq (.reg S102.r4) (.block 0 (.loop [3, 4, 5, 6] [3] (.seq (.seq (.reg S102.r5) (.cond (x 12) (.skip) (.exit 0))) (.seq (.joinN [3, 4, 5, 6] (.block 1 (.seq (.seq (.reg S102.r6) (.cond (x 19) (.seq (.reg S102.r7) (.exit 1)) (.skip))) (.seq (.seq (.reg S102.r8) (.joinN [3, 4, 5, 6] (.cond (x 23) (.seq (.reg S102.r9) (.reg S102.r10)) (.skip)))) (.reg S102.r11))))) (.reg S102.r12)))))) (.seq (.reg S102.r13) (.ret))))))⟩
theorem S102_ok : EOk Tryz.prog 102 S102 := ⟨Tryz.f102, by kernel_rfl, by kernel_rfl, by decide, by kernel_rfl, its_nil (by kernel_rfl)⟩
def o102_a1 (cl : Handler) (N : Nat) (v3 v4 v5 v6 v23 : AV) (h : AH) : Ans :=
  fif v23 (
  fst (kBuildSl h 1 1 [.int .i32 0] [(0, 1, (.int .i32 32))]) fun v25 h =>
  fst (kApp h 1 4 v3 v25) fun v26 h =>
  some (.nrm, [], [v26, (.bool false), v5, v6], h)) (
  some (.nrm, [], [v3, v4, v5, v6], h))
def o102_j2 (cl : Handler) (N : Nat) (v3 v4 v5 v6 : AV) (h : AH) : Ans :=
  fst (kIdxA h 1 v5 v6) fun v30 h =>
  fst (kLd1 h v30) fun v31 h =>
  fst (kBuildSl h 1 1 [.int .i32 0] [(0, 1, v31)]) fun v32 h =>
  fst (kApp h 1 4 v3 v32) fun v33 h =>
  some (.nrm, [], [v33, v4, v5, v6], h)
def o102_a3 (cl : Handler) (N : Nat) (v3 v4 v5 v6 : AV) (h : AH) : Ans :=
  fst (kIdxA h 1 v5 v6) fun v17 h =>
  fst (kLd1 h v17) fun v18 h =>
  fst (cl 148 [v18] h) fun v19 h =>
  fif v19 (
  fst (kLen h v3) fun v21 h =>
  fst (kArith h .gtr v21 (.int .i64 0)) fun v22 h =>
  some (.nrm, [], [v3, v22, v5, v6], h)) (
  fjn (o102_a1 cl N v3 v4 v5 v6 v4 h) fun _ vs h => o102_j2 cl N (nthD vs 0) (nthD vs 1) (nthD vs 2) (nthD vs 3) h)
def o102_j4 (cl : Handler) (N : Nat) (v3 v4 v5 v6 : AV) (h : AH) : Ans :=
  fst (kArith h .add v6 (.int .i64 1)) fun v14 h =>
  some (.nrm, [v3, v4, v5, v14], [v3], h)
def o102_l5 (cl : Handler) (N : Nat) (v3 v4 v5 v6 : AV) (h : AH) : Ans :=
  fst (kLen h v5) fun v11 h =>
  fst (kArith h .lss v6 v11) fun v12 h =>
  fif v12 (
  fjn (o102_a3 cl N v3 v4 v5 v6 h) fun _ vs h => o102_j4 cl N (nthD vs 0) (nthD vs 1) (nthD vs 2) (nthD vs 3) h) (
  some ((.exit 0), [v3, v4, v5, v6], [v3], h))
def o102_c6 (cl : Handler) (N : Nat) (v3 : AV) (h : AH) : Ans :=
  fst (kLen h v3) fun v36 h =>
  fst (kMnmx h false v36 (.int .i64 200)) fun v37 h =>
  fst (kSl h 1 v3 none (some v37) none) fun v38 h =>
  fst (kX h .r2s [v38]) fun v39 h =>
  some (.nrm, [], [v39], h)
def o102_j7 (cl : Handler) (N : Nat) (x : AX) (v3 : AV) (h : AH) : Ans :=
  fxs x (o102_c6 cl N v3 h) (fun j => cond (Nat.beq j 0) (o102_c6 cl N v3 h) (none)) (some (.nrm, [], [.undef], h))
def o102 (cl : Handler) (N : Nat) (v0 : AV) (h : AH) : Ans :=
  fst (kX h .s2r [v0]) fun v8 h =>
  fjn (fiter (fun vs h => o102_l5 cl N (nthD vs 0) (nthD vs 1) (nthD vs 2) (nthD vs 3) h) N [(.nilsl), (.bool false), v8, (.int .i64 0)] h) fun x vs h => o102_j7 cl N x (nthD vs 0) h
theorem o102_eq (cl : Handler) (N : Nat) (v0 : AV) (h : AH) : frun cl N S102 [v0] h = fans (o102 cl N v0 h) := by kernel_rfl
def w102 (N : Nat) : OF := fun cl args h => match args with
  | [v0] => fans (o102 cl N v0 h)
  | _ => none
theorem w102_ok (N : Nat) : OkF Tryz.prog 102 (w102 N) := .of (N := N) (S102_ok) fun cl args h r hr => by
  unfold w102 at hr
  split at hr
  · exact (o102_eq cl N _ _).trans hr
  · cases hr

/- widgetry/widgetryref38.inner -/
def S103.r0 : List AOpr := [
  q 3 (.box (x 0)),
  q 5 (.box (x 2)),
  q 6 (.mov (.const (.str [])))]
def S103.r1 : List AOpr := [
  q 7 (.mov (.const (.str [])))]
def S103.r2 : List AOpr := [
  q 8 (.mov (.const (.int .i64 0)))]
def S103.r3 : List AOpr := [
  q 9 (.mov (x 8)),
  q 10 (.fldA 6 (x 5)),
  q 11 (.ld1 (x 10)),
  q 12 (.len (x 11)),
  q 13 (.arith .lss (x 9) (x 12))]
def S103.r4 : List (AOpr × Nat) := [
  (q 16 (.mov (x 7)), 0),
  (q 17 (.ldn 6 (x 3)), 0),
  (q 18 (.mov (x 1)), 0),
  (q 19 (.fldA 6 (x 5)), 0),
  (q 20 (.ld1 (x 19)), 8),
  (q 21 (.mov (x 8)), 0),
  (q 22 (.idxA 1 (x 20) (x 21)), 56),
  (q 23 (.ld1 (x 22)), 120),
  (q 24 (.call (.const (.func (.func 147) [] [])) [.tmp 17, .tmp 18, .tmp 23]), 254),
  (q 25 (.call (.const (.func (.func 146) [] [])) [.tmp 16, .tmp 24]), 511),
  (q 7 (.mov (x 25)), 1023)]
def S103.r5 : List AOpr := [
  q 14 (.mov (x 8)),
  q 15 (.arith .add (x 14) (.const (.int .i64 1))),
  q 8 (.mov (x 15))]
def S103.r6 : List AOpr := [
  q 26 (.mov (x 7)),
  q 6 (.mov (x 26))]
def S103 : SFn := ⟨27, [.tmp 6], .seq (.reg S103.r0) (.seq (.reg S103.r1) (.seq (.seq (.reg S103.r2) (.block 0 (.loop [1, 3, 5, 7, 8] [7] (.seq (.seq (.reg S103.r3) (.cond (x 13) (.skip) (.exit 0))) (.seq (.block 1 (.draw S103.r4)) (.reg S103.r5)))))) (.seq (.reg S103.r6) (.ret))))⟩
theorem S103_ok : EOk Tryz.prog 103 S103 := ⟨Tryz.f103, by kernel_rfl, by kernel_rfl, by decide, by kernel_rfl, its_nil (by kernel_rfl)⟩
def o103_s1 (cl : Handler) (N : Nat) (c0 c1 c2 c3 c4 c5 : Rec) (v1 v3 v5 v7 v8 v16 v17 v18 v20 v21 : AV) (h : AH) : Ans :=
  fdp h (kIdxA h 1 v20 v21) .pure fun v22 c6 h =>
  fdp h (kLd1 h v22) (rdK (rdv v22)) fun v23 c7 h =>
  fde h (cl 147 [v17, v18, v23] h) fun v24 c8 h =>
  fde h (cl 146 [v16, v24] h) fun v25 c9 h =>
  fdp h (kMov h v25) .pure fun v7 c10 h =>
  cond (fchk [c0, c1, c2, c3, c4, c5, c6, c7, c8, c9, c10] []) (fst (kArith h .add v8 (.int .i64 1)) fun v15 h =>
  some (.nrm, [v1, v3, v5, v7, v15], [v7], h)) none
def o103_l1 (cl : Handler) (N : Nat) (v1 v3 v5 v7 v8 : AV) (h : AH) : Ans :=
  fst (kFldA h 6 v5) fun v10 h =>
  fst (kLd1 h v10) fun v11 h =>
  fst (kLen h v11) fun v12 h =>
  fst (kArith h .lss v8 v12) fun v13 h =>
  fif v13 (
  fdr h 11 fun r h =>
  fdp h (kMov h v7) .pure fun v16 c0 h =>
  fdp h (kLdn h 6 v3) (rdK (rdv v3)) fun v17 c1 h =>
  fdp h (kMov h v1) .pure fun v18 c2 h =>
  fdp h (kFldA h 6 v5) .pure fun v19 c3 h =>
  fdp h (kLd1 h v19) (rdK (rdv v19)) fun v20 c4 h =>
  fdp h (kMov h v8) .pure fun v21 c5 h =>
  o103_s1 cl N c0 c1 c2 c3 c4 c5 v1 v3 v5 v7 v8 v16 v17 v18 v20 v21 h) (
  some ((.exit 0), [v1, v3, v5, v7, v8], [v7], h))
def o103_c2 (cl : Handler) (N : Nat) (v7 : AV) (h : AH) : Ans :=
  some (.nrm, [], [v7], h)
def o103_j3 (cl : Handler) (N : Nat) (x : AX) (v7 : AV) (h : AH) : Ans :=
  fxs x (o103_c2 cl N v7 h) (fun j => cond (Nat.beq j 0) (o103_c2 cl N v7 h) (none)) (some (.nrm, [], [.undef], h))
def o103 (cl : Handler) (N : Nat) (v0 v1 v2 : AV) (h : AH) : Ans :=
  fst (kBox h v0) fun v3 h =>
  fst (kBox h v2) fun v5 h =>
  fjn (fiter (fun vs h => o103_l1 cl N (nthD vs 0) (nthD vs 1) (nthD vs 2) (nthD vs 3) (nthD vs 4) h) N [v1, v3, v5, (.str []), (.int .i64 0)] h) fun x vs h => o103_j3 cl N x (nthD vs 0) h
theorem o103_eq (cl : Handler) (N : Nat) (v0 v1 v2 : AV) (h : AH) : frun cl N S103 [v0, v1, v2] h = fans (o103 cl N v0 v1 v2 h) := by kernel_rfl
def w103 (N : Nat) : OF := fun cl args h => match args with
  | [v0, v1, v2] => fans (o103 cl N v0 v1 v2 h)
  | _ => none
theorem w103_ok (N : Nat) : OkF Tryz.prog 103 (w103 N) := .of (N := N) (S103_ok) fun cl args h r hr => by
  unfold w103 at hr
  split at hr
  · exact (o103_eq cl N _ _ _ _).trans hr
  · cases hr

/- widgetry/widgetryref02.Empty -/
def S104.r0 : List AOpr := [
  q 1 (.box (x 0)),
  q 2 (.mov (.const (.bool false)))]
def S104.r1 : List AOpr := [
  q 3 (.ldn 4 (x 1)),
  q 4 (.call (.const (.func (.func 149) [] [])) [.tmp 3]),
  q 5 (.un .not (x 4)),
  q 6 (.mov (x 5)),
  ⟨some 7, .fldA 2 (x 1), some (6, false)⟩,
  ⟨some 8, .ld1 (x 7), some (6, false)⟩,
  ⟨some 9, .arith .eql (x 8) (.const (.int .i64 0)), some (6, false)⟩,
  q 10 (.pick (x 6) (.const (.bool true)) (x 9)),
  q 11 (.mov (x 10)),
  ⟨some 12, .fldA 3 (x 1), some (11, false)⟩,
  ⟨some 13, .ld1 (x 12), some (11, false)⟩,
  ⟨some 14, .arith .eql (x 13) (.const (.int .i64 0)), some (11, false)⟩,
  q 15 (.pick (x 11) (.const (.bool true)) (x 14)),
  q 2 (.mov (x 15))]
def S104 : SFn := ⟨16, [.tmp 2], .seq (.reg S104.r0) (.seq (.reg S104.r1) (.ret))⟩
theorem S104_ok : EOk Tryz.prog 104 S104 := ⟨Tryz.f104, by kernel_rfl, by kernel_rfl, by decide, by kernel_rfl, its_nil (by kernel_rfl)⟩
def o104_s1 (cl : Handler) (N : Nat) (v11 v13 : AV) (h : AH) : Ans :=
  fgd (gdv false v11) (kArith h .eql v13 (.int .i64 0)) h fun v14 h =>
  fst (kPick h v11 (.bool true) v14) fun v15 h =>
  some (.nrm, [], [v15], h)
def o104 (cl : Handler) (N : Nat) (v0 : AV) (h : AH) : Ans :=
  fst (kBox h v0) fun v1 h =>
  fst (kLdn h 4 v1) fun v3 h =>
  fst (cl 149 [v3] h) fun v4 h =>
  fst (kUn h .not v4) fun v5 h =>
  fgd (gdv false v5) (kFldA h 2 v1) h fun v7 h =>
  fgd (gdv false v5) (kLd1 h v7) h fun v8 h =>
  fgd (gdv false v5) (kArith h .eql v8 (.int .i64 0)) h fun v9 h =>
  fst (kPick h v5 (.bool true) v9) fun v10 h =>
  fgd (gdv false v10) (kFldA h 3 v1) h fun v12 h =>
  fgd (gdv false v10) (kLd1 h v12) h fun v13 h =>
  o104_s1 cl N v10 v13 h
theorem o104_eq (cl : Handler) (N : Nat) (v0 : AV) (h : AH) : frun cl N S104 [v0] h = fans (o104 cl N v0 h) := by kernel_rfl
def w104 (N : Nat) : OF := fun cl args h => match args with
  | [v0] => fans (o104 cl N v0 h)
  | _ => none
theorem w104_ok (N : Nat) : OkF Tryz.prog 104 (w104 N) := .of (N := N) (S104_ok) fun cl args h r hr => by
  unfold w104 at hr
  split at hr
  · exact (o104_eq cl N _ _).trans hr
  · cases hr

def otr1 (N : Nat) : OT := .node 78 (.node 66 (.node 62 (.node 56 (.node 54 (.one 52 (w52 N)) (.one 54 (w54 N))) (.node 61 (.one 56 (w56 N)) (.one 61 (w61 N)))) (.node 64 (.node 63 (.one 62 (w62 N)) (.one 63 (w63 N))) (.node 65 (.one 64 (w64 N)) (.one 65 (w65 N))))) (.node 70 (.node 68 (.node 67 (.one 66 (w66 N)) (.one 67 (w67 N))) (.node 69 (.one 68 (w68 N)) (.one 69 (w69 N)))) (.node 72 (.node 71 (.one 70 (w70 N)) (.one 71 (w71 N))) (.node 73 (.one 72 (w72 N)) (.node 77 (.one 73 (w73 N)) (.one 77 (w77 N))))))) (.node 96 (.node 91 (.node 87 (.node 84 (.one 78 (w78 N)) (.one 84 (w84 N))) (.node 90 (.one 87 (w87 N)) (.one 90 (w90 N)))) (.node 93 (.node 92 (.one 91 (w91 N)) (.one 92 (w92 N))) (.node 94 (.one 93 (w93 N)) (.node 95 (.one 94 (w94 N)) (.one 95 (w95 N)))))) (.node 100 (.node 98 (.node 97 (.one 96 (w96 N)) (.one 97 (w97 N))) (.node 99 (.one 98 (w98 N)) (.one 99 (w99 N)))) (.node 102 (.node 101 (.one 100 (w100 N)) (.one 101 (w101 N))) (.node 103 (.one 102 (w102 N)) (.node 104 (.one 103 (w103 N)) (.one 104 (w104 N)))))))
theorem otr1_ok (N : Nat) : (otr1 N).Ok Tryz.prog := ⟨⟨⟨⟨⟨w52_ok N, w54_ok N⟩, ⟨w56_ok N, w61_ok N⟩⟩, ⟨⟨w62_ok N, w63_ok N⟩, ⟨w64_ok N, w65_ok N⟩⟩⟩, ⟨⟨⟨w66_ok N, w67_ok N⟩, ⟨w68_ok N, w69_ok N⟩⟩, ⟨⟨w70_ok N, w71_ok N⟩, ⟨w72_ok N, ⟨w73_ok N, w77_ok N⟩⟩⟩⟩⟩, ⟨⟨⟨⟨w78_ok N, w84_ok N⟩, ⟨w87_ok N, w90_ok N⟩⟩, ⟨⟨w91_ok N, w92_ok N⟩, ⟨w93_ok N, ⟨w94_ok N, w95_ok N⟩⟩⟩⟩, ⟨⟨⟨w96_ok N, w97_ok N⟩, ⟨w98_ok N, w99_ok N⟩⟩, ⟨⟨w100_ok N, w101_ok N⟩, ⟨w102_ok N, ⟨w103_ok N, w104_ok N⟩⟩⟩⟩⟩⟩

end Go.Proofs.YtoibclpbkjbnbaaGreatDoor
end
