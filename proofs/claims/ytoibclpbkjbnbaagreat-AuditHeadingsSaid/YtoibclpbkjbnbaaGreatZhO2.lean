/- The functions that building and exporting a view of headings run through, third part; written by a program. -/
import Derived.Test.YtoibclpbkjbnbaaGreatEngOX
import Derived.Test.YtoibclpbkjbnbaaGreatProg
import Derived.KernelRfl
set_option linter.unusedSimpArgs false
set_option linter.unusedVariables false
set_option linter.unnecessarySimpa false
noncomputable section
namespace Go.Proofs.YtoibclpbkjbnbaaGreat
open Go.Eng
set_option maxRecDepth 100000
/- widgetry/widgetryref38.inner -/
def S48.r0 : List AOpr := [
  q 3 (.box (x 0)),
  q 5 (.box (x 2)),
  q 6 (.mov (.const (.str [])))]
def S48.r1 : List AOpr := [
  q 7 (.mov (.const (.str [])))]
def S48.r2 : List AOpr := [
  q 8 (.mov (.const (.int .i64 0)))]
def S48.r3 : List AOpr := [
  q 9 (.mov (x 8)),
  q 10 (.fldA 6 (x 5)),
  q 11 (.ld1 (x 10)),
  q 12 (.len (x 11)),
  q 13 (.arith .lss (x 9) (x 12))]
def S48.r4 : List (AOpr × Nat) := [
  (q 16 (.mov (x 7)), 0),
  (q 17 (.ldn 6 (x 3)), 0),
  (q 18 (.mov (x 1)), 0),
  (q 19 (.fldA 6 (x 5)), 0),
  (q 20 (.ld1 (x 19)), 8),
  (q 21 (.mov (x 8)), 0),
  (q 22 (.idxA 1 (x 20) (x 21)), 56),
  (q 23 (.ld1 (x 22)), 120),
  (q 24 (.call (.const (.func (.func 80) [] [])) [.tmp 17, .tmp 18, .tmp 23]), 254),
  (q 25 (.call (.const (.func (.func 79) [] [])) [.tmp 16, .tmp 24]), 511),
  (q 7 (.mov (x 25)), 1023)]
def S48.r5 : List AOpr := [
  q 14 (.mov (x 8)),
  q 15 (.arith .add (x 14) (.const (.int .i64 1))),
  q 8 (.mov (x 15))]
def S48.r6 : List AOpr := [
  q 26 (.mov (x 7)),
  q 6 (.mov (x 26))]
def S48 : SFn := ⟨27, [.tmp 6], .seq (.reg S48.r0) (.seq (.reg S48.r1) (.seq (.seq (.reg S48.r2) (.block 0 (.loop [1, 3, 5, 7, 8] [7] (.seq (.seq (.reg S48.r3) (.cond (x 13) (.skip) (.exit 0))) (.seq (.block 1 (.draw S48.r4)) (.reg S48.r5)))))) (.seq (.reg S48.r6) (.ret))))⟩
theorem S48_ok : EOk Tryz.prog 48 S48 := ⟨Tryz.f48, by kernel_rfl, by kernel_rfl, by decide, by kernel_rfl, its_nil (by kernel_rfl)⟩
def o48_s1 (cl : Handler) (N : Nat) (c0 c1 c2 c3 c4 c5 : Rec) (v1 v3 v5 v7 v8 v16 v17 v18 v20 v21 : AV) (h : AH) : Ans :=
  fdp h (kIdxA h 1 v20 v21) .pure fun v22 c6 h =>
  fdp h (kLd1 h v22) (rdK (rdv v22)) fun v23 c7 h =>
  fde h (cl 80 [v17, v18, v23] h) fun v24 c8 h =>
  fde h (cl 79 [v16, v24] h) fun v25 c9 h =>
  fdp h (kMov h v25) .pure fun v7 c10 h =>
  cond (fchk [c0, c1, c2, c3, c4, c5, c6, c7, c8, c9, c10] []) (fst (kArith h .add v8 (.int .i64 1)) fun v15 h =>
  some (.nrm, [v1, v3, v5, v7, v15], [v7], h)) none
def o48_l1 (cl : Handler) (N : Nat) (v1 v3 v5 v7 v8 : AV) (h : AH) : Ans :=
  fst (kFldA h 6 v5) fun v10 h =>
  fst (kLd1 h v10) fun v11 h =>
  fst (kLen h v11) fun v12 h =>
  fst (kArith h .lss v8 v12) fun v13 h =>
  fif v13 (
  fdr h 11 fun r h =>
  fdp h (kMov h v7) .pure fun v16 c0 h =>
  fdp h (kLdn h 6 v3) (rdK (rdv v3)) fun v17 c1 h =>
  fdp h (kMov h v1) .pure fun v18 c2 h =>
  fdp h (kFldA h 6 v5) .pure fun v19 c3 h =>
  fdp h (kLd1 h v19) (rdK (rdv v19)) fun v20 c4 h =>
  fdp h (kMov h v8) .pure fun v21 c5 h =>
  o48_s1 cl N c0 c1 c2 c3 c4 c5 v1 v3 v5 v7 v8 v16 v17 v18 v20 v21 h) (
  some ((.exit 0), [v1, v3, v5, v7, v8], [v7], h))
def o48_c2 (cl : Handler) (N : Nat) (v7 : AV) (h : AH) : Ans :=
  some (.nrm, [], [v7], h)
def o48_j3 (cl : Handler) (N : Nat) (x : AX) (v7 : AV) (h : AH) : Ans :=
  fxs x (o48_c2 cl N v7 h) (fun j => cond (Nat.beq j 0) (o48_c2 cl N v7 h) (none)) (some (.nrm, [], [.undef], h))
def o48 (cl : Handler) (N : Nat) (v0 v1 v2 : AV) (h : AH) : Ans :=
  fst (kBox h v0) fun v3 h =>
  fst (kBox h v2) fun v5 h =>
  fjn (fiter (fun vs h => o48_l1 cl N (nthD vs 0) (nthD vs 1) (nthD vs 2) (nthD vs 3) (nthD vs 4) h) N [v1, v3, v5, (.str []), (.int .i64 0)] h) fun x vs h => o48_j3 cl N x (nthD vs 0) h
theorem o48_eq (cl : Handler) (N : Nat) (v0 v1 v2 : AV) (h : AH) : frun cl N S48 [v0, v1, v2] h = fans (o48 cl N v0 v1 v2 h) := by kernel_rfl
def w48 (N : Nat) : OF := fun cl args h => match args with
  | [v0, v1, v2] => fans (o48 cl N v0 v1 v2 h)
  | _ => none
theorem w48_ok (N : Nat) : OkF Tryz.prog 48 (w48 N) := .of (N := N) (S48_ok) fun cl args h r hr => by
  unfold w48 at hr
  split at hr
  · exact (o48_eq cl N _ _ _ _).trans hr
  · cases hr

def S49.z0 : List AV := [.int .i64 0, .int .i64 0, .int .i64 0, .str [], .nilsl, .nilsl, .nilsl]
/- (widgetry/widgetryref29.Facts).Disabled -/
def S49.r0 : List AOpr := [
  q 2 (.box (x 0)),
  q 4 (.mov (.const (.bool false)))]
def S49.r1 : List AOpr := [
  q 9 (.ldn 6 (x 2)),
  q 10 (.mov (x 1)),
  q 11 (.call (.const (.func (.func 42) [] [])) [.tmp 9, .tmp 10]),
  q 5 (.mov (x 11))]
def S49.r2 : List AOpr := [
  q 6 (.mov (.const (.int .i64 0)))]
def S49.r3 : List AOpr := [
  q 12 (.mov (x 6)),
  q 13 (.mov (x 5)),
  q 14 (.len (x 13)),
  q 15 (.arith .lss (x 12) (x 14))]
def S49.r4 : List (AOpr × Nat) := [
  (q 19 (.fldA 0 (x 2)), 0),
  (q 20 (.ldn 3 (x 19)), 1),
  (q 21 (.mov (x 5)), 0),
  (q 22 (.mov (x 6)), 0),
  (q 23 (.idxA 1 (x 21) (x 22)), 12),
  (q 24 (.ld1 (x 23)), 28),
  (q 25 (.call (.const (.func (.func 16) [] [])) [.tmp 20, .tmp 24]), 63),
  (q 18 (.mov (x 25)), 127),
  (q 26 (.ext (x 18) 0), 255),
  (q 27 (.ext (x 18) 1), 255),
  (q 7 (.new S49.z0), 0),
  (⟨none, .st 7 (x 7) (x 26), none⟩, 1535),
  (q 8 (.mov (x 27)), 4095)]
def S49.r5 : List AOpr := [
  q 28 (.fldA 4 (x 7)),
  q 29 (.ld1 (x 28)),
  q 30 (.call (.const (.func (.func 45) [] [])) [.tmp 29, .const (.str [100, 105, 115, 97, 98, 108, 101, 100])])]
def S49.r6 : List AOpr := [
  q 4 (.mov (.const (.bool true)))]
def S49.r7 : List AOpr := [
  q 16 (.mov (x 6)),
  q 17 (.arith .add (x 16) (.const (.int .i64 1))),
  q 6 (.mov (x 17))]
def S49.r8 : List AOpr := [
  q 4 (.mov (.const (.bool false)))]
def S49 : SFn := ⟨31, [.tmp 4], .seq (.reg S49.r0) (.seq (.reg S49.r1) (.seq (.seq (.reg S49.r2) (.block 0 (.loop [2, 5, 6] [4] (.seq (.seq (.reg S49.r3) (.cond (x 15) (.skip) (.exit 0))) (.seq (.block 1 (.seq (.draw S49.r4) (.seq (.reg S49.r5) (.cond (x 30) (.seq (.reg S49.r6) (.ret)) (.skip))))) (.reg S49.r7)))))) (.seq (.reg S49.r8) (.ret))))⟩
theorem S49_ok : EOk Tryz.prog 49 S49 := ⟨Tryz.f49, by kernel_rfl, by kernel_rfl, by decide, by kernel_rfl, its_nil (by kernel_rfl)⟩
def o49_s1 (cl : Handler) (N : Nat) (r : Nat) (c0 c1 c2 c3 c4 c5 c6 c7 : Rec) (v2 v5 v6 v18 : AV) (h : AH) : Ans :=
  fdp h (kExt h v18 0) .pure fun v26 c8 h =>
  fdp h (kExt h v18 1) .pure fun v27 c9 h =>
  fda (r + 10) h (alNew S49.z0) fun v7 c10 h =>
  fde h (kSt h 7 v7 v26) fun _ c11 h =>
  fdp h (kMov h v27) .pure fun v8 c12 h =>
  cond (fchk [c0, c1, c2, c3, c4, c5, c6, c7, c8, c9, c10, c11, c12] [(1, 10), (5, 10)]) (fst (kFldA h 4 v7) fun v28 h =>
  fst (kLd1 h v28) fun v29 h =>
  fst (cl 45 [v29, (.str [100, 105, 115, 97, 98, 108, 101, 100])] h) fun v30 h =>
  fif v30 (
  some (.ret, [v2, v5, v6], [(.bool true)], h)) (
  fst (kArith h .add v6 (.int .i64 1)) fun v17 h =>
  some (.nrm, [v2, v5, v17], [.undef], h))) none
def o49_l1 (cl : Handler) (N : Nat) (v2 v5 v6 : AV) (h : AH) : Ans :=
  fst (kLen h v5) fun v14 h =>
  fst (kArith h .lss v6 v14) fun v15 h =>
  fif v15 (
  fdr h 13 fun r h =>
  fdp h (kFldA h 0 v2) .pure fun v19 c0 h =>
  fdp h (kLdn h 3 v19) (rdK (rdv v19)) fun v20 c1 h =>
  fdp h (kMov h v5) .pure fun v21 c2 h =>
  fdp h (kMov h v6) .pure fun v22 c3 h =>
  fdp h (kIdxA h 1 v21 v22) .pure fun v23 c4 h =>
  fdp h (kLd1 h v23) (rdK (rdv v23)) fun v24 c5 h =>
  fde h (cl 16 [v20, v24] h) fun v25 c6 h =>
  fdp h (kMov h v25) .pure fun v18 c7 h =>
  o49_s1 cl N r c0 c1 c2 c3 c4 c5 c6 c7 v2 v5 v6 v18 h) (
  some ((.exit 0), [v2, v5, v6], [.undef], h))
def o49_c2 (cl : Handler) (N : Nat) (h : AH) : Ans :=
  some (.nrm, [], [(.bool false)], h)
def o49_j3 (cl : Handler) (N : Nat) (x : AX) (v4 : AV) (h : AH) : Ans :=
  fxs x (o49_c2 cl N h) (fun j => cond (Nat.beq j 0) (o49_c2 cl N h) (none)) (some (.nrm, [], [v4], h))
def o49 (cl : Handler) (N : Nat) (v0 v1 : AV) (h : AH) : Ans :=
  fst (kBox h v0) fun v2 h =>
  fst (kLdn h 6 v2) fun v9 h =>
  fst (cl 42 [v9, v1] h) fun v11 h =>
  fjn (fiter (fun vs h => o49_l1 cl N (nthD vs 0) (nthD vs 1) (nthD vs 2) h) N [v2, v11, (.int .i64 0)] h) fun x vs h => o49_j3 cl N x (nthD vs 0) h
theorem o49_eq (cl : Handler) (N : Nat) (v0 v1 : AV) (h : AH) : frun cl N S49 [v0, v1] h = fans (o49 cl N v0 v1 h) := by kernel_rfl
def w49 (N : Nat) : OF := fun cl args h => match args with
  | [v0, v1] => fans (o49 cl N v0 v1 h)
  | _ => none
theorem w49_ok (N : Nat) : OkF Tryz.prog 49 (w49 N) := .of (N := N) (S49_ok) fun cl args h r hr => by
  unfold w49 at hr
  split at hr
  · exact (o49_eq cl N _ _ _).trans hr
  · cases hr

/- widgetry/widgetryref02.Empty -/
def S50.r0 : List AOpr := [
  q 1 (.box (x 0)),
  q 2 (.mov (.const (.bool false)))]
def S50.r1 : List AOpr := [
  q 3 (.ldn 4 (x 1)),
  q 4 (.call (.const (.func (.func 82) [] [])) [.tmp 3]),
  q 5 (.un .not (x 4)),
  q 6 (.mov (x 5)),
  ⟨some 7, .fldA 2 (x 1), some (6, false)⟩,
  ⟨some 8, .ld1 (x 7), some (6, false)⟩,
  ⟨some 9, .arith .eql (x 8) (.const (.int .i64 0)), some (6, false)⟩,
  q 10 (.pick (x 6) (.const (.bool true)) (x 9)),
  q 11 (.mov (x 10)),
  ⟨some 12, .fldA 3 (x 1), some (11, false)⟩,
  ⟨some 13, .ld1 (x 12), some (11, false)⟩,
  ⟨some 14, .arith .eql (x 13) (.const (.int .i64 0)), some (11, false)⟩,
  q 15 (.pick (x 11) (.const (.bool true)) (x 14)),
  q 2 (.mov (x 15))]
def S50 : SFn := ⟨16, [.tmp 2], .seq (.reg S50.r0) (.seq (.reg S50.r1) (.ret))⟩
theorem S50_ok : EOk Tryz.prog 50 S50 := ⟨Tryz.f50, by kernel_rfl, by kernel_rfl, by decide, by kernel_rfl, its_nil (by kernel_rfl)⟩
def o50_s1 (cl : Handler) (N : Nat) (v11 v13 : AV) (h : AH) : Ans :=
  fgd (gdv false v11) (kArith h .eql v13 (.int .i64 0)) h fun v14 h =>
  fst (kPick h v11 (.bool true) v14) fun v15 h =>
  some (.nrm, [], [v15], h)
def o50 (cl : Handler) (N : Nat) (v0 : AV) (h : AH) : Ans :=
  fst (kBox h v0) fun v1 h =>
  fst (kLdn h 4 v1) fun v3 h =>
  fst (cl 82 [v3] h) fun v4 h =>
  fst (kUn h .not v4) fun v5 h =>
  fgd (gdv false v5) (kFldA h 2 v1) h fun v7 h =>
  fgd (gdv false v5) (kLd1 h v7) h fun v8 h =>
  fgd (gdv false v5) (kArith h .eql v8 (.int .i64 0)) h fun v9 h =>
  fst (kPick h v5 (.bool true) v9) fun v10 h =>
  fgd (gdv false v10) (kFldA h 3 v1) h fun v12 h =>
  fgd (gdv false v10) (kLd1 h v12) h fun v13 h =>
  o50_s1 cl N v10 v13 h
theorem o50_eq (cl : Handler) (N : Nat) (v0 : AV) (h : AH) : frun cl N S50 [v0] h = fans (o50 cl N v0 h) := by kernel_rfl
def w50 (N : Nat) : OF := fun cl args h => match args with
  | [v0] => fans (o50 cl N v0 h)
  | _ => none
theorem w50_ok (N : Nat) : OkF Tryz.prog 50 (w50 N) := .of (N := N) (S50_ok) fun cl args h r hr => by
  unfold w50 at hr
  split at hr
  · exact (o50_eq cl N _ _).trans hr
  · cases hr

def S51.z0 : List AV := [.int .i64 0, .int .i64 0, .int .i64 0, .int .i64 0]
/- widgetry/widgetryref02.Intersect -/
def S51.r0 : List AOpr := [
  q 2 (.box (x 0)),
  q 3 (.box (x 1)),
  q 4 (.new S51.z0)]
def S51.r1 : List (AOpr × Nat) := [
  (q 9 (.ldn 4 (x 2)), 0),
  (q 10 (.call (.const (.func (.func 83) [] [])) [.tmp 9]), 1),
  (q 11 (.ldn 4 (x 3)), 0),
  (q 12 (.call (.const (.func (.func 83) [] [])) [.tmp 11]), 7),
  (⟨none, .st 4 (x 2) (x 10), none⟩, 15),
  (⟨none, .st 4 (x 3) (x 12), none⟩, 31)]
def S51.r2 : List (AOpr × Nat) := [
  (q 13 (.fldA 0 (x 2)), 0),
  (q 14 (.ld1 (x 13)), 1),
  (q 15 (.fldA 0 (x 3)), 0),
  (q 16 (.ld1 (x 15)), 4),
  (q 17 (.mnmx true (x 14) (x 16)), 15),
  (q 18 (.fldA 1 (x 2)), 0),
  (q 19 (.ld1 (x 18)), 32),
  (q 20 (.fldA 1 (x 3)), 0),
  (q 21 (.ld1 (x 20)), 128),
  (q 22 (.mnmx true (x 19) (x 21)), 480),
  (q 5 (.mov (x 17)), 31),
  (q 6 (.mov (x 22)), 2047)]
def S51.r3 : List (AOpr × Nat) := [
  (q 23 (.fldA 0 (x 2)), 0),
  (q 24 (.ld1 (x 23)), 1),
  (q 25 (.fldA 2 (x 2)), 0),
  (q 26 (.ld1 (x 25)), 4),
  (q 27 (.arith .add (x 24) (x 26)), 15),
  (q 28 (.fldA 0 (x 3)), 0),
  (q 29 (.ld1 (x 28)), 32),
  (q 30 (.fldA 2 (x 3)), 0),
  (q 31 (.ld1 (x 30)), 128),
  (q 32 (.arith .add (x 29) (x 31)), 480),
  (q 33 (.mnmx false (x 27) (x 32)), 1023),
  (q 34 (.mov (x 5)), 0),
  (q 35 (.arith .sub (x 33) (x 34)), 4095),
  (q 36 (.fldA 1 (x 2)), 0),
  (q 37 (.ld1 (x 36)), 8192),
  (q 38 (.fldA 3 (x 2)), 0),
  (q 39 (.ld1 (x 38)), 32768),
  (q 40 (.arith .add (x 37) (x 39)), 122880),
  (q 41 (.fldA 1 (x 3)), 0),
  (q 42 (.ld1 (x 41)), 262144),
  (q 43 (.fldA 3 (x 3)), 0),
  (q 44 (.ld1 (x 43)), 1048576),
  (q 45 (.arith .add (x 42) (x 44)), 3932160),
  (q 46 (.mnmx false (x 40) (x 45)), 8380416),
  (q 47 (.mov (x 6)), 0),
  (q 48 (.arith .sub (x 46) (x 47)), 33546240),
  (q 7 (.mov (x 35)), 8191),
  (q 8 (.mov (x 48)), 134217727)]
def S51.r4 : List AOpr := [
  q 49 (.mov (x 7)),
  q 50 (.arith .leq (x 49) (.const (.int .i64 0))),
  q 51 (.mov (x 50)),
  ⟨some 52, .mov (x 8), some (51, false)⟩,
  ⟨some 53, .arith .leq (x 52) (.const (.int .i64 0)), some (51, false)⟩,
  q 54 (.pick (x 51) (.const (.bool true)) (x 53))]
def S51.r5 : List AOpr := [
  q 55 (.build S51.z0 []),
  ⟨none, .st 4 (x 4) (x 55), none⟩]
def S51.r6 : List AOpr := [
  q 56 (.mov (x 5)),
  q 57 (.mov (x 6)),
  q 58 (.mov (x 7)),
  q 59 (.mov (x 8)),
  q 60 (.build S51.z0 [(0, 1, .tmp 56), (1, 1, .tmp 57), (2, 1, .tmp 58), (3, 1, .tmp 59)]),
  ⟨none, .st 4 (x 4) (x 60), none⟩]
def S51 : SFn := ⟨61, [.cell 4 (some 4)], .seq (.reg S51.r0) (.seq (.draw S51.r1) (.seq (.draw S51.r2) (.seq (.draw S51.r3) (.seq (.seq (.joinN [4, 5, 6, 7, 8, 54] (.reg S51.r4)) (.cond (x 54) (.seq (.reg S51.r5) (.ret)) (.skip))) (.seq (.reg S51.r6) (.ret))))))⟩
theorem S51_ok : EOk Tryz.prog 51 S51 := ⟨Tryz.f51, by kernel_rfl, by kernel_rfl, by decide, by kernel_rfl, its_nil (by kernel_rfl)⟩
def o51_a1 (cl : Handler) (N : Nat) (v4 v5 v6 v7 v8 : AV) (h : AH) : Ans :=
  fst (kArith h .leq v7 (.int .i64 0)) fun v50 h =>
  fgd (gdv false v50) (kMov h v8) h fun v52 h =>
  fgd (gdv false v50) (kArith h .leq v52 (.int .i64 0)) h fun v53 h =>
  fst (kPick h v50 (.bool true) v53) fun v54 h =>
  some (.nrm, [], [v4, v5, v6, v7, v8, v54], h)
def o51_j2 (cl : Handler) (N : Nat) (v4 v5 v6 v7 v8 v54 : AV) (h : AH) : Ans :=
  fif v54 (
  fst (kBuild h S51.z0 []) fun v55 h =>
  fst (kSt h 4 v4 v55) fun _ h =>
  fres (aresV h [.cell (v4) (some 4)]) h) (
  fst (kBuild h S51.z0 [(0, 1, v5), (1, 1, v6), (2, 1, v7), (3, 1, v8)]) fun v60 h =>
  fst (kSt h 4 v4 v60) fun _ h =>
  fres (aresV h [.cell (v4) (some 4)]) h)
def o51_s1 (cl : Handler) (N : Nat) (c0 c1 c2 c3 c4 c5 c6 c7 c8 c9 c10 c11 c12 c13 c14 c15 c16 c17 c18 : Rec) (v3 v4 v5 v6 v35 v40 v41 : AV) (h : AH) : Ans :=
  fdp h (kLd1 h v41) (rdK (rdv v41)) fun v42 c19 h =>
  fdp h (kFldA h 3 v3) .pure fun v43 c20 h =>
  fdp h (kLd1 h v43) (rdK (rdv v43)) fun v44 c21 h =>
  fdp h (kArith h .add v42 v44) .pure fun v45 c22 h =>
  fdp h (kMnmx h false v40 v45) .pure fun v46 c23 h =>
  fdp h (kMov h v6) .pure fun v47 c24 h =>
  fdp h (kArith h .sub v46 v47) .pure fun v48 c25 h =>
  fdp h (kMov h v35) .pure fun v7 c26 h =>
  fdp h (kMov h v48) .pure fun v8 c27 h =>
  cond (fchk [c0, c1, c2, c3, c4, c5, c6, c7, c8, c9, c10, c11, c12, c13, c14, c15, c16, c17, c18, c19, c20, c21, c22, c23, c24, c25, c26, c27] []) (fjn (o51_a1 cl N v4 v5 v6 v7 v8 h) fun _ vs h => o51_j2 cl N (nthD vs 0) (nthD vs 1) (nthD vs 2) (nthD vs 3) (nthD vs 4) (nthD vs 5) h) none
def o51_s2 (cl : Handler) (N : Nat) (c0 c1 c2 c3 c4 c5 c6 c7 c8 : Rec) (v2 v3 v4 v5 v6 v27 v29 v31 : AV) (h : AH) : Ans :=
  fdp h (kArith h .add v29 v31) .pure fun v32 c9 h =>
  fdp h (kMnmx h false v27 v32) .pure fun v33 c10 h =>
  fdp h (kMov h v5) .pure fun v34 c11 h =>
  fdp h (kArith h .sub v33 v34) .pure fun v35 c12 h =>
  fdp h (kFldA h 1 v2) .pure fun v36 c13 h =>
  fdp h (kLd1 h v36) (rdK (rdv v36)) fun v37 c14 h =>
  fdp h (kFldA h 3 v2) .pure fun v38 c15 h =>
  fdp h (kLd1 h v38) (rdK (rdv v38)) fun v39 c16 h =>
  fdp h (kArith h .add v37 v39) .pure fun v40 c17 h =>
  fdp h (kFldA h 1 v3) .pure fun v41 c18 h =>
  o51_s1 cl N c0 c1 c2 c3 c4 c5 c6 c7 c8 c9 c10 c11 c12 c13 c14 c15 c16 c17 c18 v3 v4 v5 v6 v35 v40 v41 h
def o51_s3 (cl : Handler) (N : Nat) (r : Nat) (c0 c1 c2 c3 c4 c5 c6 c7 c8 c9 c10 : Rec) (v2 v3 v4 v5 v22 : AV) (h : AH) : Ans :=
  fdp h (kMov h v22) .pure fun v6 c11 h =>
  cond (fchk [c0, c1, c2, c3, c4, c5, c6, c7, c8, c9, c10, c11] []) (fdr h 28 fun r h =>
  fdp h (kFldA h 0 v2) .pure fun v23 c0 h =>
  fdp h (kLd1 h v23) (rdK (rdv v23)) fun v24 c1 h =>
  fdp h (kFldA h 2 v2) .pure fun v25 c2 h =>
  fdp h (kLd1 h v25) (rdK (rdv v25)) fun v26 c3 h =>
  fdp h (kArith h .add v24 v26) .pure fun v27 c4 h =>
  fdp h (kFldA h 0 v3) .pure fun v28 c5 h =>
  fdp h (kLd1 h v28) (rdK (rdv v28)) fun v29 c6 h =>
  fdp h (kFldA h 2 v3) .pure fun v30 c7 h =>
  fdp h (kLd1 h v30) (rdK (rdv v30)) fun v31 c8 h =>
  o51_s2 cl N c0 c1 c2 c3 c4 c5 c6 c7 c8 v2 v3 v4 v5 v6 v27 v29 v31 h) none
def o51_s4 (cl : Handler) (N : Nat) (r : Nat) (c0 : Rec) (v2 v3 v4 v13 : AV) (h : AH) : Ans :=
  fdp h (kLd1 h v13) (rdK (rdv v13)) fun v14 c1 h =>
  fdp h (kFldA h 0 v3) .pure fun v15 c2 h =>
  fdp h (kLd1 h v15) (rdK (rdv v15)) fun v16 c3 h =>
  fdp h (kMnmx h true v14 v16) .pure fun v17 c4 h =>
  fdp h (kFldA h 1 v2) .pure fun v18 c5 h =>
  fdp h (kLd1 h v18) (rdK (rdv v18)) fun v19 c6 h =>
  fdp h (kFldA h 1 v3) .pure fun v20 c7 h =>
  fdp h (kLd1 h v20) (rdK (rdv v20)) fun v21 c8 h =>
  fdp h (kMnmx h true v19 v21) .pure fun v22 c9 h =>
  fdp h (kMov h v17) .pure fun v5 c10 h =>
  o51_s3 cl N r c0 c1 c2 c3 c4 c5 c6 c7 c8 c9 c10 v2 v3 v4 v5 v22 h
def o51 (cl : Handler) (N : Nat) (v0 v1 : AV) (h : AH) : Ans :=
  fst (kBox h v0) fun v2 h =>
  fst (kBox h v1) fun v3 h =>
  fst (kNew h S51.z0) fun v4 h =>
  fdr h 6 fun r h =>
  fdp h (kLdn h 4 v2) (rdK (rdv v2)) fun v9 c0 h =>
  fde h (cl 83 [v9] h) fun v10 c1 h =>
  fdp h (kLdn h 4 v3) (rdK (rdv v3)) fun v11 c2 h =>
  fde h (cl 83 [v11] h) fun v12 c3 h =>
  fde h (kSt h 4 v2 v10) fun _ c4 h =>
  fde h (kSt h 4 v3 v12) fun _ c5 h =>
  cond (fchk [c0, c1, c2, c3, c4, c5] [(1, 2)]) (fdr h 12 fun r h =>
  fdp h (kFldA h 0 v2) .pure fun v13 c0 h =>
  o51_s4 cl N r c0 v2 v3 v4 v13 h) none
theorem o51_eq (cl : Handler) (N : Nat) (v0 v1 : AV) (h : AH) : frun cl N S51 [v0, v1] h = fans (o51 cl N v0 v1 h) := by kernel_rfl
def w51 (N : Nat) : OF := fun cl args h => match args with
  | [v0, v1] => fans (o51 cl N v0 v1 h)
  | _ => none
theorem w51_ok (N : Nat) : OkF Tryz.prog 51 (w51 N) := .of (N := N) (S51_ok) fun cl args h r hr => by
  unfold w51 at hr
  split at hr
  · exact (o51_eq cl N _ _ _).trans hr
  · cases hr

def S52.z0 : List AV := [.int .i64 0, .int .i64 0, .int .i64 0, .int .i64 0]
def S52.z1 : List AV := [.int .i64 0, .int .i64 0, .int .i64 0, .str [], .nilsl, .nilsl, .nilsl]
/- widgetry/widgetryref29.Visible -/
def S52.r0 : List AOpr := [
  q 5 (.box (x 0)),
  q 10 (.new S52.z0)]
def S52.r1 : List AOpr := [
  q 16 (.ldn 3 (x 5)),
  q 17 (.mov (x 1)),
  q 18 (.mov (x 2)),
  q 19 (.mov (x 3)),
  q 20 (.mov (x 4)),
  q 21 (.call (.const (.func (.func 24) [] [])) [.tmp 16, .tmp 17, .tmp 18, .tmp 19, .tmp 20]),
  q 11 (.new S52.z0),
  ⟨none, .st 4 (x 11) (x 21), none⟩]
def S52.r2 : List AOpr := [
  q 22 (.ldn 3 (x 5)),
  q 23 (.mov (x 4)),
  q 24 (.call (.const (.func (.func 84) [] [])) [.tmp 22, .tmp 23]),
  q 12 (.mov (x 24))]
def S52.r3 : List AOpr := [
  q 13 (.mov (.const (.int .i64 0)))]
def S52.r4 : List AOpr := [
  q 25 (.mov (x 13)),
  q 26 (.arith .add (x 25) (.const (.int .i64 1))),
  q 27 (.mov (x 12)),
  q 28 (.len (x 27)),
  q 29 (.arith .lss (x 26) (x 28))]
def S52.r5 : List (AOpr × Nat) := [
  (q 33 (.ldn 3 (x 5)), 0),
  (q 34 (.mov (x 12)), 0),
  (q 35 (.mov (x 13)), 0),
  (q 36 (.idxA 1 (x 34) (x 35)), 6),
  (q 37 (.ld1 (x 36)), 14),
  (q 38 (.call (.const (.func (.func 16) [] [])) [.tmp 33, .tmp 37]), 31),
  (q 32 (.mov (x 38)), 63),
  (q 39 (.ext (x 32) 0), 127),
  (q 40 (.ext (x 32) 1), 127),
  (q 14 (.new S52.z1), 0),
  (⟨none, .st 7 (x 14) (x 39), none⟩, 767),
  (q 15 (.mov (x 40)), 2047)]
def S52.r6 : List AOpr := [
  q 41 (.fldA 2 (x 14)),
  q 42 (.ld1 (x 41)),
  q 43 (.arith .eql (x 42) (.const (.int .i64 8)))]
def S52.r7 : List (AOpr × Nat) := [
  (q 44 (.ldn 4 (x 11)), 0),
  (q 45 (.ldn 3 (x 5)), 0),
  (q 46 (.mov (x 1)), 0),
  (q 47 (.mov (x 2)), 0),
  (q 48 (.mov (x 3)), 0),
  (q 49 (.mov (x 12)), 0),
  (q 50 (.mov (x 13)), 0),
  (q 51 (.idxA 1 (x 49) (x 50)), 96),
  (q 52 (.ld1 (x 51)), 224),
  (q 53 (.call (.const (.func (.func 24) [] [])) [.tmp 45, .tmp 46, .tmp 47, .tmp 48, .tmp 52]), 510),
  (q 54 (.call (.const (.func (.func 51) [] [])) [.tmp 44, .tmp 53]), 1023),
  (⟨none, .st 4 (x 11) (x 54), none⟩, 2047)]
def S52.r8 : List AOpr := [
  q 30 (.mov (x 13)),
  q 31 (.arith .add (x 30) (.const (.int .i64 1))),
  q 13 (.mov (x 31))]
def S52.r9 : List AOpr := [
  q 55 (.ldn 4 (x 11)),
  ⟨none, .st 4 (x 10) (x 55), none⟩]
def S52 : SFn := ⟨56, [.cell 10 (some 4)], .seq (.reg S52.r0) (.seq (.reg S52.r1) (.seq (.reg S52.r2) (.seq (.seq (.reg S52.r3) (.block 0 (.loop [1, 2, 3, 5, 10, 11, 12, 13] [10, 11] (.seq (.seq (.reg S52.r4) (.cond (x 29) (.skip) (.exit 0))) (.seq (.joinN [1, 2, 3, 5, 10, 11, 12, 13] (.block 1 (.seq (.draw S52.r5) (.seq (.reg S52.r6) (.cond (x 43) (.draw S52.r7) (.skip)))))) (.reg S52.r8)))))) (.seq (.reg S52.r9) (.ret)))))⟩
theorem S52_ok : EOk Tryz.prog 52 S52 := ⟨Tryz.f52, by kernel_rfl, by kernel_rfl, by decide, by kernel_rfl, its_nil (by kernel_rfl)⟩
def o52_s1 (cl : Handler) (N : Nat) (c0 c1 c2 c3 c4 : Rec) (v1 v2 v3 v5 v10 v11 v12 v13 v44 v45 v46 v47 v48 : AV) (h : AH) : Ans :=
  fdp h (kMov h v12) .pure fun v49 c5 h =>
  fdp h (kMov h v13) .pure fun v50 c6 h =>
  fdp h (kIdxA h 1 v49 v50) .pure fun v51 c7 h =>
  fdp h (kLd1 h v51) (rdK (rdv v51)) fun v52 c8 h =>
  fde h (cl 24 [v45, v46, v47, v48, v52] h) fun v53 c9 h =>
  fde h (cl 51 [v44, v53] h) fun v54 c10 h =>
  fde h (kSt h 4 v11 v54) fun _ c11 h =>
  cond (fchk [c0, c1, c2, c3, c4, c5, c6, c7, c8, c9, c10, c11] [(0, 9)]) (some (.nrm, [], [v1, v2, v3, v5, v10, v11, v12, v13], h)) none
def o52_s2 (cl : Handler) (N : Nat) (r : Nat) (c0 c1 c2 c3 c4 c5 c6 c7 c8 c9 : Rec) (v1 v2 v3 v5 v10 v11 v12 v13 v14 v39 v40 : AV) (h : AH) : Ans :=
  fde h (kSt h 7 v14 v39) fun _ c10 h =>
  fdp h (kMov h v40) .pure fun v15 c11 h =>
  cond (fchk [c0, c1, c2, c3, c4, c5, c6, c7, c8, c9, c10, c11] [(0, 9), (4, 9)]) (fst (kFldA h 2 v14) fun v41 h =>
  fst (kLd1 h v41) fun v42 h =>
  fst (kArith h .eql v42 (.int .i64 8)) fun v43 h =>
  fif v43 (
  fdr h 12 fun r h =>
  fdp h (kLdn h 4 v11) (rdK (rdv v11)) fun v44 c0 h =>
  fdp h (kLdn h 3 v5) (rdK (rdv v5)) fun v45 c1 h =>
  fdp h (kMov h v1) .pure fun v46 c2 h =>
  fdp h (kMov h v2) .pure fun v47 c3 h =>
  fdp h (kMov h v3) .pure fun v48 c4 h =>
  o52_s1 cl N c0 c1 c2 c3 c4 v1 v2 v3 v5 v10 v11 v12 v13 v44 v45 v46 v47 v48 h) (
  some (.nrm, [], [v1, v2, v3, v5, v10, v11, v12, v13], h))) none
def o52_a1 (cl : Handler) (N : Nat) (v1 v2 v3 v5 v10 v11 v12 v13 : AV) (h : AH) : Ans :=
  fdr h 12 fun r h =>
  fdp h (kLdn h 3 v5) (rdK (rdv v5)) fun v33 c0 h =>
  fdp h (kMov h v12) .pure fun v34 c1 h =>
  fdp h (kMov h v13) .pure fun v35 c2 h =>
  fdp h (kIdxA h 1 v34 v35) .pure fun v36 c3 h =>
  fdp h (kLd1 h v36) (rdK (rdv v36)) fun v37 c4 h =>
  fde h (cl 16 [v33, v37] h) fun v38 c5 h =>
  fdp h (kMov h v38) .pure fun v32 c6 h =>
  fdp h (kExt h v32 0) .pure fun v39 c7 h =>
  fdp h (kExt h v32 1) .pure fun v40 c8 h =>
  fda (r + 9) h (alNew S52.z1) fun v14 c9 h =>
  o52_s2 cl N r c0 c1 c2 c3 c4 c5 c6 c7 c8 c9 v1 v2 v3 v5 v10 v11 v12 v13 v14 v39 v40 h
def o52_j2 (cl : Handler) (N : Nat) (v1 v2 v3 v5 v10 v11 v12 v13 : AV) (h : AH) : Ans :=
  fst (kArith h .add v13 (.int .i64 1)) fun v31 h =>
  some (.nrm, [v1, v2, v3, v5, v10, v11, v12, v31], [v10, v11], h)
def o52_l3 (cl : Handler) (N : Nat) (v1 v2 v3 v5 v10 v11 v12 v13 : AV) (h : AH) : Ans :=
  fst (kArith h .add v13 (.int .i64 1)) fun v26 h =>
  fst (kLen h v12) fun v28 h =>
  fst (kArith h .lss v26 v28) fun v29 h =>
  fif v29 (
  fjn (o52_a1 cl N v1 v2 v3 v5 v10 v11 v12 v13 h) fun _ vs h => o52_j2 cl N (nthD vs 0) (nthD vs 1) (nthD vs 2) (nthD vs 3) (nthD vs 4) (nthD vs 5) (nthD vs 6) (nthD vs 7) h) (
  some ((.exit 0), [v1, v2, v3, v5, v10, v11, v12, v13], [v10, v11], h))
def o52_c4 (cl : Handler) (N : Nat) (v10 v11 : AV) (h : AH) : Ans :=
  fst (kLdn h 4 v11) fun v55 h =>
  fst (kSt h 4 v10 v55) fun _ h =>
  fres (aresV h [.cell (v10) (some 4)]) h
def o52_j5 (cl : Handler) (N : Nat) (x : AX) (v10 v11 : AV) (h : AH) : Ans :=
  fxs x (o52_c4 cl N v10 v11 h) (fun j => cond (Nat.beq j 0) (o52_c4 cl N v10 v11 h) (none)) (fres (aresV h [.cell (v10) (some 4)]) h)
def o52 (cl : Handler) (N : Nat) (v0 v1 v2 v3 v4 : AV) (h : AH) : Ans :=
  fst (kBox h v0) fun v5 h =>
  fst (kNew h S52.z0) fun v10 h =>
  fst (kLdn h 3 v5) fun v16 h =>
  fst (cl 24 [v16, v1, v2, v3, v4] h) fun v21 h =>
  fst (kNew h S52.z0) fun v11 h =>
  fst (kSt h 4 v11 v21) fun _ h =>
  fst (kLdn h 3 v5) fun v22 h =>
  fst (cl 84 [v22, v4] h) fun v24 h =>
  fjn (fiter (fun vs h => o52_l3 cl N (nthD vs 0) (nthD vs 1) (nthD vs 2) (nthD vs 3) (nthD vs 4) (nthD vs 5) (nthD vs 6) (nthD vs 7) h) N [v1, v2, v3, v5, v10, v11, v24, (.int .i64 0)] h) fun x vs h => o52_j5 cl N x (nthD vs 0) (nthD vs 1) h
theorem o52_eq (cl : Handler) (N : Nat) (v0 v1 v2 v3 v4 : AV) (h : AH) : frun cl N S52 [v0, v1, v2, v3, v4] h = fans (o52 cl N v0 v1 v2 v3 v4 h) := by kernel_rfl
def w52 (N : Nat) : OF := fun cl args h => match args with
  | [v0, v1, v2, v3, v4] => fans (o52 cl N v0 v1 v2 v3 v4 h)
  | _ => none
theorem w52_ok (N : Nat) : OkF Tryz.prog 52 (w52 N) := .of (N := N) (S52_ok) fun cl args h r hr => by
  unfold w52 at hr
  split at hr
  · exact (o52_eq cl N _ _ _ _ _ _).trans hr
  · cases hr

def S53.z0 : List AV := [.int .i64 0, .int .i64 0, .int .i64 0, .int .i64 0, .int .i64 0, .int .i64 0, .nilsl]
/- widgetry/widgetryref21.Find -/
def S53.r0 : List AOpr := [
  q 4 (.new S53.z0),
  q 5 (.mov (.const (.bool false)))]
def S53.r1 : List AOpr := [
  q 6 (.mov (.const (.int .i64 0)))]
def S53.r2 : List AOpr := [
  q 7 (.mov (x 6)),
  q 8 (.mov (x 0)),
  q 9 (.len (x 8)),
  q 10 (.arith .lss (x 7) (x 9))]
def S53.r3 : List AOpr := [
  q 13 (.mov (x 0)),
  q 14 (.mov (x 6)),
  q 15 (.idxA 7 (x 13) (x 14)),
  q 16 (.fldA 0 (x 15)),
  q 17 (.ld1 (x 16)),
  q 18 (.mov (x 1)),
  q 19 (.arith .eql (x 17) (x 18))]
def S53.r4 : List AOpr := [
  q 20 (.mov (x 0)),
  q 21 (.mov (x 6)),
  q 22 (.idxA 7 (x 20) (x 21)),
  q 23 (.ldn 7 (x 22)),
  ⟨none, .st 7 (x 4) (x 23), none⟩,
  q 5 (.mov (.const (.bool true)))]
def S53.r5 : List AOpr := [
  q 11 (.mov (x 6)),
  q 12 (.arith .add (x 11) (.const (.int .i64 1))),
  q 6 (.mov (x 12))]
def S53.r6 : List AOpr := [
  q 24 (.build S53.z0 []),
  ⟨none, .st 7 (x 4) (x 24), none⟩,
  q 5 (.mov (.const (.bool false)))]
def S53 : SFn := ⟨25, [.cell 4 (some 7), .tmp 5], .seq (.reg S53.r0) (.seq (.seq (.reg S53.r1) (.block 0 (.loop [0, 1, 4, 6] [4, 5] (.seq (.seq (.reg S53.r2) (.cond (x 10) (.skip) (.exit 0))) (.seq (.block 1 (.seq (.reg S53.r3) (.cond (x 19) (.seq (.reg S53.r4) (.ret)) (.skip)))) (.reg S53.r5)))))) (.seq (.reg S53.r6) (.ret)))⟩
theorem S53_ok : EOk Tryz.prog 53 S53 := ⟨Tryz.f53, by kernel_rfl, by kernel_rfl, by decide, by kernel_rfl, its_nil (by kernel_rfl)⟩
def o53_l1 (cl : Handler) (N : Nat) (v0 v1 v4 v6 : AV) (h : AH) : Ans :=
  fst (kLen h v0) fun v9 h =>
  fst (kArith h .lss v6 v9) fun v10 h =>
  fif v10 (
  fst (kIdxA h 7 v0 v6) fun v15 h =>
  fst (kFldA h 0 v15) fun v16 h =>
  fst (kLd1 h v16) fun v17 h =>
  fst (kArith h .eql v17 v1) fun v19 h =>
  fif v19 (
  fst (kIdxA h 7 v0 v6) fun v22 h =>
  fst (kLdn h 7 v22) fun v23 h =>
  fst (kSt h 7 v4 v23) fun _ h =>
  some (.ret, [v0, v1, v4, v6], [v4, (.bool true)], h)) (
  fst (kArith h .add v6 (.int .i64 1)) fun v12 h =>
  some (.nrm, [v0, v1, v4, v12], [v4, .undef], h))) (
  some ((.exit 0), [v0, v1, v4, v6], [v4, .undef], h))
def o53_c2 (cl : Handler) (N : Nat) (v4 : AV) (h : AH) : Ans :=
  fst (kBuild h S53.z0 []) fun v24 h =>
  fst (kSt h 7 v4 v24) fun _ h =>
  fres (aresV h [.cell (v4) (some 7), .val ((.bool false))]) h
def o53_j3 (cl : Handler) (N : Nat) (x : AX) (v4 v5 : AV) (h : AH) : Ans :=
  fxs x (o53_c2 cl N v4 h) (fun j => cond (Nat.beq j 0) (o53_c2 cl N v4 h) (none)) (fres (aresV h [.cell (v4) (some 7), .val (v5)]) h)
def o53 (cl : Handler) (N : Nat) (v0 v1 : AV) (h : AH) : Ans :=
  fst (kNew h S53.z0) fun v4 h =>
  fjn (fiter (fun vs h => o53_l1 cl N (nthD vs 0) (nthD vs 1) (nthD vs 2) (nthD vs 3) h) N [v0, v1, v4, (.int .i64 0)] h) fun x vs h => o53_j3 cl N x (nthD vs 0) (nthD vs 1) h
theorem o53_eq (cl : Handler) (N : Nat) (v0 v1 : AV) (h : AH) : frun cl N S53 [v0, v1] h = fans (o53 cl N v0 v1 h) := by kernel_rfl
def w53 (N : Nat) : OF := fun cl args h => match args with
  | [v0, v1] => fans (o53 cl N v0 v1 h)
  | _ => none
theorem w53_ok (N : Nat) : OkF Tryz.prog 53 (w53 N) := .of (N := N) (S53_ok) fun cl args h r hr => by
  unfold w53 at hr
  split at hr
  · exact (o53_eq cl N _ _ _).trans hr
  · cases hr

def S56.z0 : List AV := [.str [], .str [], .str [], .nilsl]
/- widgetry/widgetryref30.Acts -/
def S56.r0 : List AOpr := [
  q 2 (.box (x 0)),
  q 4 (.mov (.const (.bool false)))]
def S56.r1 : List AOpr := [
  q 8 (.ldn 7 (x 2)),
  q 9 (.mov (x 1)),
  q 10 (.call (.const (.func (.func 85) [] [])) [.tmp 8, .tmp 9]),
  q 7 (.mov (x 10)),
  q 11 (.ext (x 7) 0),
  q 12 (.ext (x 7) 1),
  q 5 (.new S56.z0),
  ⟨none, .st 4 (x 5) (x 11), none⟩,
  q 6 (.mov (x 12))]
def S56.r2 : List AOpr := [
  q 13 (.mov (x 6)),
  q 4 (.mov (x 13))]
def S56 : SFn := ⟨14, [.tmp 4], .seq (.reg S56.r0) (.seq (.reg S56.r1) (.seq (.reg S56.r2) (.ret)))⟩
theorem S56_ok : EOk Tryz.prog 56 S56 := ⟨Tryz.f56, by kernel_rfl, by kernel_rfl, by decide, by kernel_rfl, its_nil (by kernel_rfl)⟩
def o56 (cl : Handler) (N : Nat) (v0 v1 : AV) (h : AH) : Ans :=
  fst (kBox h v0) fun v2 h =>
  fst (kLdn h 7 v2) fun v8 h =>
  fst (cl 85 [v8, v1] h) fun v10 h =>
  fst (kExt h v10 0) fun v11 h =>
  fst (kExt h v10 1) fun v12 h =>
  fst (kNew h S56.z0) fun v5 h =>
  fst (kSt h 4 v5 v11) fun _ h =>
  some (.nrm, [], [v12], h)
theorem o56_eq (cl : Handler) (N : Nat) (v0 v1 : AV) (h : AH) : frun cl N S56 [v0, v1] h = fans (o56 cl N v0 v1 h) := by kernel_rfl
def w56 (N : Nat) : OF := fun cl args h => match args with
  | [v0, v1] => fans (o56 cl N v0 v1 h)
  | _ => none
theorem w56_ok (N : Nat) : OkF Tryz.prog 56 (w56 N) := .of (N := N) (S56_ok) fun cl args h r hr => by
  unfold w56 at hr
  split at hr
  · exact (o56_eq cl N _ _ _).trans hr
  · cases hr

def S57.z0 : List AV := [.int .i64 0, .int .i64 0, .int .i64 0, .int .i64 0]
/- widgetry/widgetryref29.Bounds -/
def S57.r0 : List AOpr := [
  q 6 (.box (x 0)),
  q 11 (.box (x 5)),
  q 12 (.new S57.z0)]
def S57.r1 : List AOpr := [
  q 17 (.ldn 3 (x 6)),
  q 18 (.mov (x 1)),
  q 19 (.mov (x 2)),
  q 20 (.mov (x 3)),
  q 21 (.mov (x 4)),
  q 22 (.call (.const (.func (.func 86) [] [])) [.tmp 17, .tmp 18, .tmp 19, .tmp 20, .tmp 21]),
  q 16 (.mov (x 22)),
  q 23 (.ext (x 16) 0),
  q 24 (.ext (x 16) 1),
  q 13 (.new [.nilsl, .int .i64 0, .int .i64 0]),
  ⟨none, .st 3 (x 13) (x 23), none⟩,
  q 14 (.mov (x 24))]
def S57.r2 : List AOpr := [
  q 25 (.mov (x 14)),
  q 26 (.un .not (x 25)),
  q 27 (.mov (x 26)),
  ⟨some 28, .ldn 4 (x 11), some (27, false)⟩,
  ⟨some 29, .call (.const (.func (.func 82) [] [])) [.tmp 28], some (27, false)⟩,
  ⟨some 30, .un .not (x 29), some (27, false)⟩,
  q 31 (.pick (x 27) (.const (.bool true)) (x 30))]
def S57.r3 : List AOpr := [
  q 32 (.build S57.z0 []),
  ⟨none, .st 4 (x 12) (x 32), none⟩]
def S57.r4 : List AOpr := [
  q 33 (.fldA 0 (x 11)),
  q 34 (.ld1 (x 33)),
  q 35 (.fldA 1 (x 13)),
  q 36 (.ld1 (x 35)),
  q 37 (.arith .add (x 34) (x 36)),
  q 38 (.fldA 1 (x 11)),
  q 39 (.ld1 (x 38)),
  q 40 (.fldA 2 (x 13)),
  q 41 (.ld1 (x 40)),
  q 42 (.arith .add (x 39) (x 41)),
  q 43 (.fldA 2 (x 11)),
  q 44 (.ld1 (x 43)),
  q 45 (.fldA 3 (x 11)),
  q 46 (.ld1 (x 45)),
  q 47 (.build S57.z0 [(0, 1, .tmp 37), (1, 1, .tmp 42), (2, 1, .tmp 44), (3, 1, .tmp 46)]),
  ⟨none, .st 4 (x 11) (x 47), none⟩]
def S57.r5 : List AOpr := [
  q 48 (.fldA 0 (x 13)),
  q 49 (.ld1 (x 48)),
  q 50 (.len (x 49)),
  q 51 (.arith .sub (x 50) (.const (.int .i64 1))),
  q 15 (.mov (x 51))]
def S57.r6 : List AOpr := [
  q 52 (.mov (x 15)),
  q 53 (.arith .geq (x 52) (.const (.int .i64 0)))]
def S57.r7 : List AOpr := [
  q 56 (.ldn 4 (x 11)),
  q 57 (.call (.const (.func (.func 82) [] [])) [.tmp 56]),
  q 58 (.un .not (x 57)),
  q 59 (.mov (x 58)),
  ⟨some 60, .fldA 0 (x 13), some (59, false)⟩,
  ⟨some 61, .ld1 (x 60), some (59, false)⟩,
  ⟨some 62, .mov (x 15), some (59, false)⟩,
  ⟨some 63, .idxA 5 (x 61) (x 62), some (59, false)⟩,
  ⟨some 64, .ldn 5 (x 63), some (59, false)⟩,
  ⟨some 65, .call (.const (.func (.func 87) [] [])) [.tmp 64], some (59, false)⟩,
  ⟨some 66, .un .not (x 65), some (59, false)⟩,
  q 67 (.pick (x 59) (.const (.bool true)) (x 66))]
def S57.r8 : List AOpr := [
  q 68 (.build S57.z0 []),
  ⟨none, .st 4 (x 12) (x 68), none⟩]
def S57.r9 : List (AOpr × Nat) := [
  (q 69 (.fldA 0 (x 13)), 0),
  (q 70 (.ld1 (x 69)), 1),
  (q 71 (.mov (x 15)), 0),
  (q 72 (.idxA 5 (x 70) (x 71)), 7),
  (q 73 (.ldn 5 (x 72)), 15),
  (q 74 (.ldn 4 (x 11)), 0),
  (q 75 (.call (.const (.func (.func 88) [] [])) [.tmp 73, .tmp 74]), 63),
  (⟨none, .st 4 (x 11) (x 75), none⟩, 127)]
def S57.r10 : List AOpr := [
  q 54 (.mov (x 15)),
  q 55 (.arith .sub (x 54) (.const (.int .i64 1))),
  q 15 (.mov (x 55))]
def S57.r11 : List AOpr := [
  q 76 (.ldn 4 (x 11)),
  q 77 (.call (.const (.func (.func 82) [] [])) [.tmp 76]),
  q 78 (.un .not (x 77))]
def S57.r12 : List AOpr := [
  q 79 (.build S57.z0 []),
  ⟨none, .st 4 (x 12) (x 79), none⟩]
def S57.r13 : List AOpr := [
  q 80 (.ldn 4 (x 11)),
  ⟨none, .st 4 (x 12) (x 80), none⟩]
def S57 : SFn := ⟨81, [.cell 12 (some 4)], .seq (.reg S57.r0) (.seq (.reg S57.r1) (.seq (.seq (.joinN [11, 12, 13, 31] (.reg S57.r2)) (.cond (x 31) (.seq (.reg S57.r3) (.ret)) (.skip))) (.seq (.reg S57.r4) (.seq (.seq (.reg S57.r5) (.block 0 (.loop [11, 12, 13, 15] [11, 12] (.seq (.seq (.reg S57.r6) (.cond (x 53) (.skip) (.exit 0))) (.seq (.block 1 (.seq (.seq (.joinN [11, 12, 13, 15, 67] (.reg S57.r7)) (.cond (x 67) (.seq (.reg S57.r8) (.ret)) (.skip))) (.draw S57.r9))) (.reg S57.r10)))))) (.seq (.seq (.reg S57.r11) (.cond (x 78) (.seq (.reg S57.r12) (.ret)) (.skip))) (.seq (.reg S57.r13) (.ret)))))))⟩
theorem S57_ok : EOk Tryz.prog 57 S57 := ⟨Tryz.f57, by kernel_rfl, by kernel_rfl, by decide, by kernel_rfl, its_nil (by kernel_rfl)⟩
def o57_a1 (cl : Handler) (N : Nat) (v11 v12 v13 v14 : AV) (h : AH) : Ans :=
  fst (kUn h .not v14) fun v26 h =>
  fgd (gdv false v26) (kLdn h 4 v11) h fun v28 h =>
  fgd (gdv false v26) (cl 82 [v28] h) h fun v29 h =>
  fgd (gdv false v26) (kUn h .not v29) h fun v30 h =>
  fst (kPick h v26 (.bool true) v30) fun v31 h =>
  some (.nrm, [], [v11, v12, v13, v31], h)
def o57_s1 (cl : Handler) (N : Nat) (v11 v12 v13 v15 v59 v66 : AV) (h : AH) : Ans :=
  fst (kPick h v59 (.bool true) v66) fun v67 h =>
  some (.nrm, [], [v11, v12, v13, v15, v67], h)
def o57_a2 (cl : Handler) (N : Nat) (v11 v12 v13 v15 : AV) (h : AH) : Ans :=
  fst (kLdn h 4 v11) fun v56 h =>
  fst (cl 82 [v56] h) fun v57 h =>
  fst (kUn h .not v57) fun v58 h =>
  fgd (gdv false v58) (kFldA h 0 v13) h fun v60 h =>
  fgd (gdv false v58) (kLd1 h v60) h fun v61 h =>
  fgd (gdv false v58) (kMov h v15) h fun v62 h =>
  fgd (gdv false v58) (kIdxA h 5 v61 v62) h fun v63 h =>
  fgd (gdv false v58) (kLdn h 5 v63) h fun v64 h =>
  fgd (gdv false v58) (cl 87 [v64] h) h fun v65 h =>
  fgd (gdv false v58) (kUn h .not v65) h fun v66 h =>
  o57_s1 cl N v11 v12 v13 v15 v58 v66 h
def o57_j3 (cl : Handler) (N : Nat) (v11 v12 v13 v15 v67 : AV) (h : AH) : Ans :=
  fif v67 (
  fst (kBuild h S57.z0 []) fun v68 h =>
  fst (kSt h 4 v12 v68) fun _ h =>
  some (.ret, [v11, v12, v13, v15], [v11, v12], h)) (
  fdr h 8 fun r h =>
  fdp h (kFldA h 0 v13) .pure fun v69 c0 h =>
  fdp h (kLd1 h v69) (rdK (rdv v69)) fun v70 c1 h =>
  fdp h (kMov h v15) .pure fun v71 c2 h =>
  fdp h (kIdxA h 5 v70 v71) .pure fun v72 c3 h =>
  fdp h (kLdn h 5 v72) (rdK (rdv v72)) fun v73 c4 h =>
  fdp h (kLdn h 4 v11) (rdK (rdv v11)) fun v74 c5 h =>
  fde h (cl 88 [v73, v74] h) fun v75 c6 h =>
  fde h (kSt h 4 v11 v75) fun _ c7 h =>
  cond (fchk [c0, c1, c2, c3, c4, c5, c6, c7] []) (fst (kArith h .sub v15 (.int .i64 1)) fun v55 h =>
  some (.nrm, [v11, v12, v13, v55], [v11, v12], h)) none)
def o57_l4 (cl : Handler) (N : Nat) (v11 v12 v13 v15 : AV) (h : AH) : Ans :=
  fst (kArith h .geq v15 (.int .i64 0)) fun v53 h =>
  fif v53 (
  fjn (o57_a2 cl N v11 v12 v13 v15 h) fun _ vs h => o57_j3 cl N (nthD vs 0) (nthD vs 1) (nthD vs 2) (nthD vs 3) (nthD vs 4) h) (
  some ((.exit 0), [v11, v12, v13, v15], [v11, v12], h))
def o57_c5 (cl : Handler) (N : Nat) (v11 v12 : AV) (h : AH) : Ans :=
  fst (kLdn h 4 v11) fun v76 h =>
  fst (cl 82 [v76] h) fun v77 h =>
  fst (kUn h .not v77) fun v78 h =>
  fif v78 (
  fst (kBuild h S57.z0 []) fun v79 h =>
  fst (kSt h 4 v12 v79) fun _ h =>
  fres (aresV h [.cell (v12) (some 4)]) h) (
  fst (kLdn h 4 v11) fun v80 h =>
  fst (kSt h 4 v12 v80) fun _ h =>
  fres (aresV h [.cell (v12) (some 4)]) h)
def o57_j6 (cl : Handler) (N : Nat) (x : AX) (v11 v12 : AV) (h : AH) : Ans :=
  fxs x (o57_c5 cl N v11 v12 h) (fun j => cond (Nat.beq j 0) (o57_c5 cl N v11 v12 h) (none)) (fres (aresV h [.cell (v12) (some 4)]) h)
def o57_s2 (cl : Handler) (N : Nat) (v11 v12 v13 v51 : AV) (h : AH) : Ans :=
  fjn (fiter (fun vs h => o57_l4 cl N (nthD vs 0) (nthD vs 1) (nthD vs 2) (nthD vs 3) h) N [v11, v12, v13, v51] h) fun x vs h => o57_j6 cl N x (nthD vs 0) (nthD vs 1) h
def o57_s3 (cl : Handler) (N : Nat) (v11 v12 v13 v37 v42 : AV) (h : AH) : Ans :=
  fst (kFldA h 2 v11) fun v43 h =>
  fst (kLd1 h v43) fun v44 h =>
  fst (kFldA h 3 v11) fun v45 h =>
  fst (kLd1 h v45) fun v46 h =>
  fst (kBuild h S57.z0 [(0, 1, v37), (1, 1, v42), (2, 1, v44), (3, 1, v46)]) fun v47 h =>
  fst (kSt h 4 v11 v47) fun _ h =>
  fst (kFldA h 0 v13) fun v48 h =>
  fst (kLd1 h v48) fun v49 h =>
  fst (kLen h v49) fun v50 h =>
  fst (kArith h .sub v50 (.int .i64 1)) fun v51 h =>
  o57_s2 cl N v11 v12 v13 v51 h
def o57_j7 (cl : Handler) (N : Nat) (v11 v12 v13 v31 : AV) (h : AH) : Ans :=
  fif v31 (
  fst (kBuild h S57.z0 []) fun v32 h =>
  fst (kSt h 4 v12 v32) fun _ h =>
  fres (aresV h [.cell (v12) (some 4)]) h) (
  fst (kFldA h 0 v11) fun v33 h =>
  fst (kLd1 h v33) fun v34 h =>
  fst (kFldA h 1 v13) fun v35 h =>
  fst (kLd1 h v35) fun v36 h =>
  fst (kArith h .add v34 v36) fun v37 h =>
  fst (kFldA h 1 v11) fun v38 h =>
  fst (kLd1 h v38) fun v39 h =>
  fst (kFldA h 2 v13) fun v40 h =>
  fst (kLd1 h v40) fun v41 h =>
  fst (kArith h .add v39 v41) fun v42 h =>
  o57_s3 cl N v11 v12 v13 v37 v42 h)
def o57 (cl : Handler) (N : Nat) (v0 v1 v2 v3 v4 v5 : AV) (h : AH) : Ans :=
  fst (kBox h v0) fun v6 h =>
  fst (kBox h v5) fun v11 h =>
  fst (kNew h S57.z0) fun v12 h =>
  fst (kLdn h 3 v6) fun v17 h =>
  fst (cl 86 [v17, v1, v2, v3, v4] h) fun v22 h =>
  fst (kExt h v22 0) fun v23 h =>
  fst (kExt h v22 1) fun v24 h =>
  fst (kNew h [.nilsl, .int .i64 0, .int .i64 0]) fun v13 h =>
  fst (kSt h 3 v13 v23) fun _ h =>
  fjn (o57_a1 cl N v11 v12 v13 v24 h) fun _ vs h => o57_j7 cl N (nthD vs 0) (nthD vs 1) (nthD vs 2) (nthD vs 3) h
theorem o57_eq (cl : Handler) (N : Nat) (v0 v1 v2 v3 v4 v5 : AV) (h : AH) : frun cl N S57 [v0, v1, v2, v3, v4, v5] h = fans (o57 cl N v0 v1 v2 v3 v4 v5 h) := by kernel_rfl
def w57 (N : Nat) : OF := fun cl args h => match args with
  | [v0, v1, v2, v3, v4, v5] => fans (o57 cl N v0 v1 v2 v3 v4 v5 h)
  | _ => none
theorem w57_ok (N : Nat) : OkF Tryz.prog 57 (w57 N) := .of (N := N) (S57_ok) fun cl args h r hr => by
  unfold w57 at hr
  split at hr
  · exact (o57_eq cl N _ _ _ _ _ _ _).trans hr
  · cases hr

def S58.z0 : List AV := [.int .i64 0, .int .i64 0, .str [], .nilsl]
/- widgetry/widgetryref37.Texts -/
def S58.r0 : List AOpr := [
  q 2 (.box (x 0)),
  q 4 (.mov (.const (.nilsl)))]
def S58.r1 : List AOpr := [
  q 10 (.fldA 4 (x 2)),
  q 11 (.ld1 (x 10)),
  q 12 (.mov (x 1)),
  q 13 (.call (.const (.func (.func 60) [] [])) [.tmp 11, .tmp 12]),
  q 9 (.mov (x 13)),
  q 14 (.ext (x 9) 0),
  q 15 (.ext (x 9) 1),
  q 5 (.new S58.z0),
  ⟨none, .st 4 (x 5) (x 14), none⟩,
  q 6 (.mov (x 15))]
def S58.r2 : List AOpr := [
  q 7 (.mov (.const (.nilsl)))]
def S58.r3 : List AOpr := [
  q 17 (.mov (x 6)),
  q 18 (.un .not (x 17)),
  q 16 (.mov (x 18))]
def S58.r4 : List AOpr := [
  q 20 (.fldA 0 (x 5)),
  q 21 (.ld1 (x 20)),
  q 22 (.arith .eql (x 21) (.const (.int .i64 3))),
  q 19 (.mov (x 22))]
def S58.r5 : List AOpr := [
  q 23 (.mov (x 7)),
  q 24 (.fldA 2 (x 5)),
  q 25 (.ld1 (x 24)),
  q 26 (.buildSl 1 1 [.str []] [(0, 1, .tmp 25)]),
  q 27 (.app 1 16 (x 23) (x 26)),
  q 7 (.mov (x 27))]
def S58.r6 : List AOpr := [
  q 29 (.fldA 0 (x 5)),
  q 30 (.ld1 (x 29)),
  q 31 (.arith .eql (x 30) (.const (.int .i64 4))),
  q 28 (.mov (x 31))]
def S58.r7 : List AOpr := [
  q 8 (.mov (.const (.int .i64 0)))]
def S58.r8 : List AOpr := [
  q 32 (.mov (x 8)),
  q 33 (.fldA 3 (x 5)),
  q 34 (.ld1 (x 33)),
  q 35 (.len (x 34)),
  q 36 (.arith .lss (x 32) (x 35))]
def S58.r9 : List AOpr := [
  q 39 (.fldA 3 (x 5)),
  q 40 (.ld1 (x 39)),
  q 41 (.mov (x 8)),
  q 42 (.idxA 4 (x 40) (x 41)),
  q 43 (.fldA 0 (x 42)),
  q 44 (.ld1 (x 43)),
  q 45 (.arith .eql (x 44) (.const (.int .i64 3)))]
def S58.r10 : List AOpr := [
  q 46 (.mov (x 7)),
  q 47 (.fldA 3 (x 5)),
  q 48 (.ld1 (x 47)),
  q 49 (.mov (x 8)),
  q 50 (.idxA 4 (x 48) (x 49)),
  q 51 (.fldA 2 (x 50)),
  q 52 (.ld1 (x 51)),
  q 53 (.buildSl 1 1 [.str []] [(0, 1, .tmp 52)]),
  q 54 (.app 1 16 (x 46) (x 53)),
  q 7 (.mov (x 54))]
def S58.r11 : List AOpr := [
  q 37 (.mov (x 8)),
  q 38 (.arith .add (x 37) (.const (.int .i64 1))),
  q 8 (.mov (x 38))]
def S58.r12 : List AOpr := [
  q 55 (.mov (x 7)),
  q 4 (.mov (x 55))]
def S58 : SFn := ⟨56, [.tmp 4], .seq (.reg S58.r0) (.seq (.reg S58.r1) (.seq (.reg S58.r2) (.seq (.joinN [7] (.block 0 (.seq (.reg S58.r3) (.cond (x 16) (.skip) (.seq (.reg S58.r4) (.cond (x 19) (.reg S58.r5) (.seq (.reg S58.r6) (.cond (x 28) (.seq (.reg S58.r7) (.block 1 (.loop [5, 7, 8] [7] (.seq (.seq (.reg S58.r8) (.cond (x 36) (.skip) (.exit 1))) (.seq (.joinN [5, 7, 8] (.block 2 (.seq (.reg S58.r9) (.cond (x 45) (.reg S58.r10) (.skip))))) (.reg S58.r11)))))) (.skip))))))))) (.seq (.reg S58.r12) (.ret)))))⟩
theorem S58_ok : EOk Tryz.prog 58 S58 := ⟨Tryz.f58, by kernel_rfl, by kernel_rfl, by decide, by kernel_rfl, its_nil (by kernel_rfl)⟩
def o58_s1 (cl : Handler) (N : Nat) (v5 v8 v46 v51 : AV) (h : AH) : Ans :=
  fst (kLd1 h v51) fun v52 h =>
  fst (kBuildSl h 1 1 [.str []] [(0, 1, v52)]) fun v53 h =>
  fst (kApp h 1 16 v46 v53) fun v54 h =>
  some (.nrm, [], [v5, v54, v8], h)
def o58_a1 (cl : Handler) (N : Nat) (v5 v7 v8 : AV) (h : AH) : Ans :=
  fst (kFldA h 3 v5) fun v39 h =>
  fst (kLd1 h v39) fun v40 h =>
  fst (kIdxA h 4 v40 v8) fun v42 h =>
  fst (kFldA h 0 v42) fun v43 h =>
  fst (kLd1 h v43) fun v44 h =>
  fst (kArith h .eql v44 (.int .i64 3)) fun v45 h =>
  fif v45 (
  fst (kFldA h 3 v5) fun v47 h =>
  fst (kLd1 h v47) fun v48 h =>
  fst (kIdxA h 4 v48 v8) fun v50 h =>
  fst (kFldA h 2 v50) fun v51 h =>
  o58_s1 cl N v5 v8 v7 v51 h) (
  some (.nrm, [], [v5, v7, v8], h))
def o58_j2 (cl : Handler) (N : Nat) (v5 v7 v8 : AV) (h : AH) : Ans :=
  fst (kArith h .add v8 (.int .i64 1)) fun v38 h =>
  some (.nrm, [v5, v7, v38], [v7], h)
def o58_l3 (cl : Handler) (N : Nat) (v5 v7 v8 : AV) (h : AH) : Ans :=
  fst (kFldA h 3 v5) fun v33 h =>
  fst (kLd1 h v33) fun v34 h =>
  fst (kLen h v34) fun v35 h =>
  fst (kArith h .lss v8 v35) fun v36 h =>
  fif v36 (
  fjn (o58_a1 cl N v5 v7 v8 h) fun _ vs h => o58_j2 cl N (nthD vs 0) (nthD vs 1) (nthD vs 2) h) (
  some ((.exit 1), [v5, v7, v8], [v7], h))
def o58_c4 (cl : Handler) (N : Nat) (v7 : AV) (h : AH) : Ans :=
  some (.nrm, [], [v7], h)
def o58_j5 (cl : Handler) (N : Nat) (x : AX) (v7 : AV) (h : AH) : Ans :=
  fxs x (o58_c4 cl N v7 h) (fun j => cond (Nat.beq j 1) (o58_c4 cl N v7 h) (cond (Nat.beq j 0) (some (.nrm, [], [v7], h)) (none))) (none)
def o58_a6 (cl : Handler) (N : Nat) (v5 v6 v7 : AV) (h : AH) : Ans :=
  fst (kUn h .not v6) fun v18 h =>
  fif v18 (
  some (.nrm, [], [v7], h)) (
  fst (kFldA h 0 v5) fun v20 h =>
  fst (kLd1 h v20) fun v21 h =>
  fst (kArith h .eql v21 (.int .i64 3)) fun v22 h =>
  fif v22 (
  fst (kFldA h 2 v5) fun v24 h =>
  fst (kLd1 h v24) fun v25 h =>
  fst (kBuildSl h 1 1 [.str []] [(0, 1, v25)]) fun v26 h =>
  fst (kApp h 1 16 v7 v26) fun v27 h =>
  some (.nrm, [], [v27], h)) (
  fst (kFldA h 0 v5) fun v29 h =>
  fst (kLd1 h v29) fun v30 h =>
  fst (kArith h .eql v30 (.int .i64 4)) fun v31 h =>
  fif v31 (
  fjn (fiter (fun vs h => o58_l3 cl N (nthD vs 0) (nthD vs 1) (nthD vs 2) h) N [v5, v7, (.int .i64 0)] h) fun x vs h => o58_j5 cl N x (nthD vs 0) h) (
  some (.nrm, [], [v7], h))))
def o58_j7 (cl : Handler) (N : Nat) (v7 : AV) (h : AH) : Ans :=
  some (.nrm, [], [v7], h)
def o58 (cl : Handler) (N : Nat) (v0 v1 : AV) (h : AH) : Ans :=
  fst (kBox h v0) fun v2 h =>
  fst (kFldA h 4 v2) fun v10 h =>
  fst (kLd1 h v10) fun v11 h =>
  fst (cl 60 [v11, v1] h) fun v13 h =>
  fst (kExt h v13 0) fun v14 h =>
  fst (kExt h v13 1) fun v15 h =>
  fst (kNew h S58.z0) fun v5 h =>
  fst (kSt h 4 v5 v14) fun _ h =>
  fjn (o58_a6 cl N v5 v15 (.nilsl) h) fun _ vs h => o58_j7 cl N (nthD vs 0) h
theorem o58_eq (cl : Handler) (N : Nat) (v0 v1 : AV) (h : AH) : frun cl N S58 [v0, v1] h = fans (o58 cl N v0 v1 h) := by kernel_rfl
def w58 (N : Nat) : OF := fun cl args h => match args with
  | [v0, v1] => fans (o58 cl N v0 v1 h)
  | _ => none
theorem w58_ok (N : Nat) : OkF Tryz.prog 58 (w58 N) := .of (N := N) (S58_ok) fun cl args h r hr => by
  unfold w58 at hr
  split at hr
  · exact (o58_eq cl N _ _ _).trans hr
  · cases hr

def S60.z0 : List AV := [.int .i64 0, .int .i64 0, .str [], .nilsl]
/- widgetry/widgetryref14.Attr -/
def S60.r0 : List AOpr := [
  q 4 (.new S60.z0),
  q 5 (.mov (.const (.bool false)))]
def S60.r1 : List AOpr := [
  q 6 (.mov (.const (.int .i64 0)))]
def S60.r2 : List AOpr := [
  q 7 (.mov (x 6)),
  q 8 (.mov (x 0)),
  q 9 (.len (x 8)),
  q 10 (.arith .lss (x 7) (x 9))]
def S60.r3 : List AOpr := [
  q 13 (.mov (x 0)),
  q 14 (.mov (x 6)),
  q 15 (.idxA 5 (x 13) (x 14)),
  q 16 (.fldA 0 (x 15)),
  q 17 (.ld1 (x 16)),
  q 18 (.mov (x 1)),
  q 19 (.arith .eql (x 17) (x 18))]
def S60.r4 : List AOpr := [
  q 20 (.mov (x 0)),
  q 21 (.mov (x 6)),
  q 22 (.idxA 5 (x 20) (x 21)),
  q 23 (.fldA 1 (x 22)),
  q 24 (.ldn 4 (x 23)),
  ⟨none, .st 4 (x 4) (x 24), none⟩,
  q 5 (.mov (.const (.bool true)))]
def S60.r5 : List AOpr := [
  q 11 (.mov (x 6)),
  q 12 (.arith .add (x 11) (.const (.int .i64 1))),
  q 6 (.mov (x 12))]
def S60.r6 : List AOpr := [
  q 25 (.build S60.z0 []),
  ⟨none, .st 4 (x 4) (x 25), none⟩,
  q 5 (.mov (.const (.bool false)))]
def S60 : SFn := ⟨26, [.cell 4 (some 4), .tmp 5], .seq (.reg S60.r0) (.seq (.seq (.reg S60.r1) (.block 0 (.loop [0, 1, 4, 6] [4, 5] (.seq (.seq (.reg S60.r2) (.cond (x 10) (.skip) (.exit 0))) (.seq (.block 1 (.seq (.reg S60.r3) (.cond (x 19) (.seq (.reg S60.r4) (.ret)) (.skip)))) (.reg S60.r5)))))) (.seq (.reg S60.r6) (.ret)))⟩
theorem S60_ok : EOk Tryz.prog 60 S60 := ⟨Tryz.f60, by kernel_rfl, by kernel_rfl, by decide, by kernel_rfl, its_nil (by kernel_rfl)⟩
def o60_s1 (cl : Handler) (N : Nat) (v0 v1 v4 v6 : AV) (h : AH) : Ans :=
  some (.ret, [v0, v1, v4, v6], [v4, (.bool true)], h)
def o60_l1 (cl : Handler) (N : Nat) (v0 v1 v4 v6 : AV) (h : AH) : Ans :=
  fst (kLen h v0) fun v9 h =>
  fst (kArith h .lss v6 v9) fun v10 h =>
  fif v10 (
  fst (kIdxA h 5 v0 v6) fun v15 h =>
  fst (kFldA h 0 v15) fun v16 h =>
  fst (kLd1 h v16) fun v17 h =>
  fst (kArith h .eql v17 v1) fun v19 h =>
  fif v19 (
  fst (kIdxA h 5 v0 v6) fun v22 h =>
  fst (kFldA h 1 v22) fun v23 h =>
  fst (kLdn h 4 v23) fun v24 h =>
  fst (kSt h 4 v4 v24) fun _ h =>
  o60_s1 cl N v0 v1 v4 v6 h) (
  fst (kArith h .add v6 (.int .i64 1)) fun v12 h =>
  some (.nrm, [v0, v1, v4, v12], [v4, .undef], h))) (
  some ((.exit 0), [v0, v1, v4, v6], [v4, .undef], h))
def o60_c2 (cl : Handler) (N : Nat) (v4 : AV) (h : AH) : Ans :=
  fst (kBuild h S60.z0 []) fun v25 h =>
  fst (kSt h 4 v4 v25) fun _ h =>
  fres (aresV h [.cell (v4) (some 4), .val ((.bool false))]) h
def o60_j3 (cl : Handler) (N : Nat) (x : AX) (v4 v5 : AV) (h : AH) : Ans :=
  fxs x (o60_c2 cl N v4 h) (fun j => cond (Nat.beq j 0) (o60_c2 cl N v4 h) (none)) (fres (aresV h [.cell (v4) (some 4), .val (v5)]) h)
def o60 (cl : Handler) (N : Nat) (v0 v1 : AV) (h : AH) : Ans :=
  fst (kNew h S60.z0) fun v4 h =>
  fjn (fiter (fun vs h => o60_l1 cl N (nthD vs 0) (nthD vs 1) (nthD vs 2) (nthD vs 3) h) N [v0, v1, v4, (.int .i64 0)] h) fun x vs h => o60_j3 cl N x (nthD vs 0) (nthD vs 1) h
theorem o60_eq (cl : Handler) (N : Nat) (v0 v1 : AV) (h : AH) : frun cl N S60 [v0, v1] h = fans (o60 cl N v0 v1 h) := by kernel_rfl
def w60 (N : Nat) : OF := fun cl args h => match args with
  | [v0, v1] => fans (o60 cl N v0 v1 h)
  | _ => none
theorem w60_ok (N : Nat) : OkF Tryz.prog 60 (w60 N) := .of (N := N) (S60_ok) fun cl args h r hr => by
  unfold w60 at hr
  split at hr
  · exact (o60_eq cl N _ _ _).trans hr
  · cases hr

/- slices.Index[[]int,int] -/
def S61.r0 : List AOpr := [
  q 4 (.mov (.const (.int .i64 0)))]
def S61.r1 : List AOpr := [
  q 6 (.mov (x 0)),
  q 7 (.len (x 6)),
  q 8 (.mov (.const (.int .i64 0)))]
def S61.r2 : List AOpr := [
  q 9 (.arith .lss (x 8) (x 7))]
def S61.r3 : List AOpr := [
  q 10 (.mov (x 8)),
  q 5 (.mov (x 10))]
def S61.r4 : List AOpr := [
  q 11 (.mov (x 1)),
  q 12 (.mov (x 0)),
  q 13 (.mov (x 5)),
  q 14 (.idxA 1 (x 12) (x 13)),
  q 15 (.ld1 (x 14)),
  q 16 (.arith .eql (x 11) (x 15))]
def S61.r5 : List AOpr := [
  q 17 (.mov (x 5)),
  q 4 (.mov (x 17))]
def S61.r6 : List AOpr := [
  q 18 (.arith .add (x 8) (.const (.int .i64 1))),
  q 8 (.mov (x 18))]
def S61.r7 : List AOpr := [
  q 4 (.mov (.const (.int .i64 (-1))))]
def S61 : SFn := ⟨19, [.tmp 4], .seq (.reg S61.r0) (.seq (.seq (.reg S61.r1) (.block 0 (.loop [0, 1, 7, 8] [4] (.seq (.reg S61.r2) (.seq (.cond (x 9) (.skip) (.exit 0)) (.seq (.block 1 (.seq (.reg S61.r3) (.seq (.reg S61.r4) (.cond (x 16) (.seq (.reg S61.r5) (.ret)) (.skip))))) (.reg S61.r6))))))) (.seq (.reg S61.r7) (.ret)))⟩
theorem S61_ok : EOk Tryz.prog 61 S61 := ⟨Tryz.f61, by kernel_rfl, by kernel_rfl, by decide, by kernel_rfl, its_nil (by kernel_rfl)⟩
def o61_l1 (cl : Handler) (N : Nat) (v0 v1 v7 v8 : AV) (h : AH) : Ans :=
  fst (kArith h .lss v8 v7) fun v9 h =>
  fif v9 (
  fst (kIdxA h 1 v0 v8) fun v14 h =>
  fst (kLd1 h v14) fun v15 h =>
  fst (kArith h .eql v1 v15) fun v16 h =>
  fif v16 (
  some (.ret, [v0, v1, v7, v8], [v8], h)) (
  fst (kArith h .add v8 (.int .i64 1)) fun v18 h =>
  some (.nrm, [v0, v1, v7, v18], [.undef], h))) (
  some ((.exit 0), [v0, v1, v7, v8], [.undef], h))
def o61_c2 (cl : Handler) (N : Nat) (h : AH) : Ans :=
  some (.nrm, [], [(.int .i64 (-1))], h)
def o61_j3 (cl : Handler) (N : Nat) (x : AX) (v4 : AV) (h : AH) : Ans :=
  fxs x (o61_c2 cl N h) (fun j => cond (Nat.beq j 0) (o61_c2 cl N h) (none)) (some (.nrm, [], [v4], h))
def o61 (cl : Handler) (N : Nat) (v0 v1 : AV) (h : AH) : Ans :=
  fst (kLen h v0) fun v7 h =>
  fjn (fiter (fun vs h => o61_l1 cl N (nthD vs 0) (nthD vs 1) (nthD vs 2) (nthD vs 3) h) N [v0, v1, v7, (.int .i64 0)] h) fun x vs h => o61_j3 cl N x (nthD vs 0) h
theorem o61_eq (cl : Handler) (N : Nat) (v0 v1 : AV) (h : AH) : frun cl N S61 [v0, v1] h = fans (o61 cl N v0 v1 h) := by kernel_rfl
def w61 (N : Nat) : OF := fun cl args h => match args with
  | [v0, v1] => fans (o61 cl N v0 v1 h)
  | _ => none
theorem w61_ok (N : Nat) : OkF Tryz.prog 61 (w61 N) := .of (N := N) (S61_ok) fun cl args h r hr => by
  unfold w61 at hr
  split at hr
  · exact (o61_eq cl N _ _ _).trans hr
  · cases hr

/- widgetry/widgetryref14.Key -/
def S62.r0 : List AOpr := [
  q 2 (.mov (.const (.bool false)))]
def S62.r1 : List AOpr := [
  q 3 (.mov (x 0)),
  q 4 (.call (.const (.func (.func 89) [] [])) [.tmp 3]),
  q 2 (.mov (x 4))]
def S62 : SFn := ⟨5, [.tmp 2], .seq (.reg S62.r0) (.seq (.reg S62.r1) (.ret))⟩
theorem S62_ok : EOk Tryz.prog 62 S62 := ⟨Tryz.f62, by kernel_rfl, by kernel_rfl, by decide, by kernel_rfl, its_nil (by kernel_rfl)⟩
def o62 (cl : Handler) (N : Nat) (v0 : AV) (h : AH) : Ans :=
  fst (cl 89 [v0] h) fun v4 h =>
  some (.nrm, [], [v4], h)
theorem o62_eq (cl : Handler) (N : Nat) (v0 : AV) (h : AH) : frun cl N S62 [v0] h = fans (o62 cl N v0 h) := by kernel_rfl
def w62 (N : Nat) : OF := fun cl args h => match args with
  | [v0] => fans (o62 cl N v0 h)
  | _ => none
theorem w62_ok (N : Nat) : OkF Tryz.prog 62 (w62 N) := .of (N := N) (S62_ok) fun cl args h r hr => by
  unfold w62 at hr
  split at hr
  · exact (o62_eq cl N _ _).trans hr
  · cases hr

/- widgetry/widgetryref11.Name -/
def S63.r0 : List AOpr := [
  q 2 (.mov (.const (.bool false)))]
def S63.r1 : List AOpr := [
  q 4 (.mov (x 0)),
  q 5 (.lenS (x 4)),
  q 6 (.arith .lss (x 5) (.const (.int .i64 1))),
  q 7 (.mov (x 6)),
  ⟨some 8, .mov (x 0), some (7, false)⟩,
  ⟨some 9, .lenS (x 8), some (7, false)⟩,
  ⟨some 10, .arith .gtr (x 9) (.const (.int .i64 24)), some (7, false)⟩,
  q 11 (.pick (x 7) (.const (.bool true)) (x 10)),
  q 12 (.mov (x 11)),
  ⟨some 13, .mov (x 0), some (12, false)⟩,
  ⟨some 14, .idxS (x 13) (.const (.int .i64 0)), some (12, false)⟩,
  ⟨some 15, .call (.const (.func (.func 90) [] [])) [.tmp 14], some (12, false)⟩,
  ⟨some 16, .un .not (x 15), some (12, false)⟩,
  q 17 (.pick (x 12) (.const (.bool true)) (x 16))]
def S63.r2 : List AOpr := [
  q 2 (.mov (.const (.bool false)))]
def S63.r3 : List AOpr := [
  q 3 (.mov (.const (.int .i64 1)))]
def S63.r4 : List AOpr := [
  q 18 (.mov (x 3)),
  q 19 (.mov (x 0)),
  q 20 (.lenS (x 19)),
  q 21 (.arith .lss (x 18) (x 20))]
def S63.r5 : List AOpr := [
  q 24 (.mov (x 0)),
  q 25 (.mov (x 3)),
  q 26 (.idxS (x 24) (x 25)),
  q 27 (.call (.const (.func (.func 90) [] [])) [.tmp 26]),
  q 28 (.un .not (x 27)),
  q 29 (.mov (x 28)),
  ⟨some 30, .mov (x 0), some (29, true)⟩,
  ⟨some 31, .mov (x 3), some (29, true)⟩,
  ⟨some 32, .idxS (x 30) (x 31), some (29, true)⟩,
  ⟨some 33, .arith .lss (x 32) (.const (.int .u8 48)), some (29, true)⟩,
  ⟨some 34, .mov (x 33), some (29, true)⟩,
  ⟨some 35, .mov (x 0), some (34, false)⟩,
  ⟨some 36, .mov (x 3), some (34, false)⟩,
  ⟨some 37, .idxS (x 35) (x 36), some (34, false)⟩,
  ⟨some 38, .arith .gtr (x 37) (.const (.int .u8 57)), some (34, false)⟩,
  ⟨some 39, .pick (x 34) (.const (.bool true)) (x 38), some (29, true)⟩,
  q 40 (.pick (x 29) (x 39) (.const (.bool false))),
  q 41 (.mov (x 40)),
  ⟨some 42, .mov (x 0), some (41, true)⟩,
  ⟨some 43, .mov (x 3), some (41, true)⟩,
  ⟨some 44, .idxS (x 42) (x 43), some (41, true)⟩,
  ⟨some 45, .arith .neq (x 44) (.const (.int .u8 45)), some (41, true)⟩,
  q 46 (.pick (x 41) (x 45) (.const (.bool false))),
  q 47 (.mov (x 46)),
  ⟨some 48, .mov (x 0), some (47, true)⟩,
  ⟨some 49, .mov (x 3), some (47, true)⟩,
  ⟨some 50, .idxS (x 48) (x 49), some (47, true)⟩,
  ⟨some 51, .arith .neq (x 50) (.const (.int .u8 95)), some (47, true)⟩,
  q 52 (.pick (x 47) (x 51) (.const (.bool false)))]
def S63.r6 : List AOpr := [
  q 2 (.mov (.const (.bool false)))]
def S63.r7 : List AOpr := [
  q 22 (.mov (x 3)),
  q 23 (.arith .add (x 22) (.const (.int .i64 1))),
  q 3 (.mov (x 23))]
def S63.r8 : List AOpr := [
  q 2 (.mov (.const (.bool true)))]
def S63 : SFn := ⟨53, [.tmp 2], .seq (.reg S63.r0) (.seq (.seq (.joinN [0, 17] (.reg S63.r1)) (.cond (x 17) (.seq (.reg S63.r2) (.ret)) (.skip))) (.seq (.seq (.reg S63.r3) (.block 0 (.loop [0, 3] [2] (.seq (.seq (.reg S63.r4) (.cond (x 21) (.skip) (.exit 0))) (.seq (.block 1 (.seq (.joinN [0, 3, 52] (.reg S63.r5)) (.cond (x 52) (.seq (.reg S63.r6) (.ret)) (.skip)))) (.reg S63.r7)))))) (.seq (.reg S63.r8) (.ret))))⟩
theorem S63_ok : EOk Tryz.prog 63 S63 := ⟨Tryz.f63, by kernel_rfl, by kernel_rfl, by decide, by kernel_rfl, its_nil (by kernel_rfl)⟩
def o63_s1 (cl : Handler) (N : Nat) (v0 v12 v16 : AV) (h : AH) : Ans :=
  fst (kPick h v12 (.bool true) v16) fun v17 h =>
  some (.nrm, [], [v0, v17], h)
def o63_a1 (cl : Handler) (N : Nat) (v0 : AV) (h : AH) : Ans :=
  fst (kLenS h v0) fun v5 h =>
  fst (kArith h .lss v5 (.int .i64 1)) fun v6 h =>
  fgd (gdv false v6) (kMov h v0) h fun v8 h =>
  fgd (gdv false v6) (kLenS h v8) h fun v9 h =>
  fgd (gdv false v6) (kArith h .gtr v9 (.int .i64 24)) h fun v10 h =>
  fst (kPick h v6 (.bool true) v10) fun v11 h =>
  fgd (gdv false v11) (kMov h v0) h fun v13 h =>
  fgd (gdv false v11) (kIdxS h v13 (.int .i64 0)) h fun v14 h =>
  fgd (gdv false v11) (cl 90 [v14] h) h fun v15 h =>
  fgd (gdv false v11) (kUn h .not v15) h fun v16 h =>
  o63_s1 cl N v0 v11 v16 h
def o63_s2 (cl : Handler) (N : Nat) (v0 v3 v47 v48 : AV) (h : AH) : Ans :=
  fgd (gdv true v47) (kMov h v3) h fun v49 h =>
  fgd (gdv true v47) (kIdxS h v48 v49) h fun v50 h =>
  fgd (gdv true v47) (kArith h .neq v50 (.int .u8 95)) h fun v51 h =>
  fst (kPick h v47 v51 (.bool false)) fun v52 h =>
  some (.nrm, [], [v0, v3, v52], h)
def o63_s3 (cl : Handler) (N : Nat) (v0 v3 v29 v34 v35 v36 : AV) (h : AH) : Ans :=
  fgd (gdv false v34) (kIdxS h v35 v36) h fun v37 h =>
  fgd (gdv false v34) (kArith h .gtr v37 (.int .u8 57)) h fun v38 h =>
  fgd (gdv true v29) (kPick h v34 (.bool true) v38) h fun v39 h =>
  fst (kPick h v29 v39 (.bool false)) fun v40 h =>
  fgd (gdv true v40) (kMov h v0) h fun v42 h =>
  fgd (gdv true v40) (kMov h v3) h fun v43 h =>
  fgd (gdv true v40) (kIdxS h v42 v43) h fun v44 h =>
  fgd (gdv true v40) (kArith h .neq v44 (.int .u8 45)) h fun v45 h =>
  fst (kPick h v40 v45 (.bool false)) fun v46 h =>
  fgd (gdv true v46) (kMov h v0) h fun v48 h =>
  o63_s2 cl N v0 v3 v46 v48 h
def o63_a2 (cl : Handler) (N : Nat) (v0 v3 : AV) (h : AH) : Ans :=
  fst (kIdxS h v0 v3) fun v26 h =>
  fst (cl 90 [v26] h) fun v27 h =>
  fst (kUn h .not v27) fun v28 h =>
  fgd (gdv true v28) (kMov h v0) h fun v30 h =>
  fgd (gdv true v28) (kMov h v3) h fun v31 h =>
  fgd (gdv true v28) (kIdxS h v30 v31) h fun v32 h =>
  fgd (gdv true v28) (kArith h .lss v32 (.int .u8 48)) h fun v33 h =>
  fgd (gdv true v28) (kMov h v33) h fun v34 h =>
  fgd (gdv false v34) (kMov h v0) h fun v35 h =>
  fgd (gdv false v34) (kMov h v3) h fun v36 h =>
  o63_s3 cl N v0 v3 v28 v34 v35 v36 h
def o63_j3 (cl : Handler) (N : Nat) (v0 v3 v52 : AV) (h : AH) : Ans :=
  fif v52 (
  some (.ret, [v0, v3], [(.bool false)], h)) (
  fst (kArith h .add v3 (.int .i64 1)) fun v23 h =>
  some (.nrm, [v0, v23], [.undef], h))
def o63_l4 (cl : Handler) (N : Nat) (v0 v3 : AV) (h : AH) : Ans :=
  fst (kLenS h v0) fun v20 h =>
  fst (kArith h .lss v3 v20) fun v21 h =>
  fif v21 (
  fjn (o63_a2 cl N v0 v3 h) fun _ vs h => o63_j3 cl N (nthD vs 0) (nthD vs 1) (nthD vs 2) h) (
  some ((.exit 0), [v0, v3], [.undef], h))
def o63_c5 (cl : Handler) (N : Nat) (h : AH) : Ans :=
  some (.nrm, [], [(.bool true)], h)
def o63_j6 (cl : Handler) (N : Nat) (x : AX) (v2 : AV) (h : AH) : Ans :=
  fxs x (o63_c5 cl N h) (fun j => cond (Nat.beq j 0) (o63_c5 cl N h) (none)) (some (.nrm, [], [v2], h))
def o63_j7 (cl : Handler) (N : Nat) (v0 v17 : AV) (h : AH) : Ans :=
  fif v17 (
  some (.nrm, [], [(.bool false)], h)) (
  fjn (fiter (fun vs h => o63_l4 cl N (nthD vs 0) (nthD vs 1) h) N [v0, (.int .i64 1)] h) fun x vs h => o63_j6 cl N x (nthD vs 0) h)
def o63 (cl : Handler) (N : Nat) (v0 : AV) (h : AH) : Ans :=
  fjn (o63_a1 cl N v0 h) fun _ vs h => o63_j7 cl N (nthD vs 0) (nthD vs 1) h
theorem o63_eq (cl : Handler) (N : Nat) (v0 : AV) (h : AH) : frun cl N S63 [v0] h = fans (o63 cl N v0 h) := by kernel_rfl
def w63 (N : Nat) : OF := fun cl args h => match args with
  | [v0] => fans (o63 cl N v0 h)
  | _ => none
theorem w63_ok (N : Nat) : OkF Tryz.prog 63 (w63 N) := .of (N := N) (S63_ok) fun cl args h r hr => by
  unfold w63 at hr
  split at hr
  · exact (o63_eq cl N _ _).trans hr
  · cases hr

/- widgetry/widgetryref11.Check -/
def S64.r0 : List AOpr := [
  q 1 (.box (x 0)),
  q 2 (.mov (.const (.int .i64 0)))]
def S64.r1 : List AOpr := [
  q 6 (.ldn 4 (x 1)),
  q 7 (.call (.const (.func (.func 91) [] [])) [.tmp 6]),
  q 5 (.mov (x 7)),
  q 8 (.ext (x 5) 0),
  q 9 (.ext (x 5) 1),
  q 3 (.new [.int .i64 0, .nilsl]),
  ⟨none, .st 2 (x 3) (x 8), none⟩,
  q 4 (.mov (x 9))]
def S64.r2 : List AOpr := [
  q 10 (.mov (x 4)),
  q 2 (.mov (x 10))]
def S64 : SFn := ⟨11, [.tmp 2], .seq (.reg S64.r0) (.seq (.reg S64.r1) (.seq (.reg S64.r2) (.ret)))⟩
theorem S64_ok : EOk Tryz.prog 64 S64 := ⟨Tryz.f64, by kernel_rfl, by kernel_rfl, by decide, by kernel_rfl, its_nil (by kernel_rfl)⟩
def o64 (cl : Handler) (N : Nat) (v0 : AV) (h : AH) : Ans :=
  fst (kBox h v0) fun v1 h =>
  fst (kLdn h 4 v1) fun v6 h =>
  fst (cl 91 [v6] h) fun v7 h =>
  fst (kExt h v7 0) fun v8 h =>
  fst (kExt h v7 1) fun v9 h =>
  fst (kNew h [.int .i64 0, .nilsl]) fun v3 h =>
  fst (kSt h 2 v3 v8) fun _ h =>
  some (.nrm, [], [v9], h)
theorem o64_eq (cl : Handler) (N : Nat) (v0 : AV) (h : AH) : frun cl N S64 [v0] h = fans (o64 cl N v0 h) := by kernel_rfl
def w64 (N : Nat) : OF := fun cl args h => match args with
  | [v0] => fans (o64 cl N v0 h)
  | _ => none
theorem w64_ok (N : Nat) : OkF Tryz.prog 64 (w64 N) := .of (N := N) (S64_ok) fun cl args h r hr => by
  unfold w64 at hr
  split at hr
  · exact (o64_eq cl N _ _).trans hr
  · cases hr

/- widgetry/widgetryref14.Order -/
def S65.r0 : List AOpr := [
  q 1 (.box (x 0)),
  q 2 (.mov (.const (.nilsl)))]
def S65.r1 : List AOpr := [
  q 3 (.ldn 3 (x 1)),
  q 4 (.call (.const (.func (.func 37) [] [])) [.tmp 3]),
  q 5 (.arith .neq (x 4) (.const (.int .i64 0)))]
def S65.r2 : List AOpr := [
  q 2 (.mov (.const (.nilsl)))]
def S65.r3 : List AOpr := [
  q 6 (.ldn 3 (x 1)),
  q 7 (.fldA 0 (x 1)),
  q 8 (.ld1 (x 7)),
  q 9 (.call (.const (.func (.func 92) [] [])) [.tmp 6, .tmp 8, .const (.nilsl)]),
  q 2 (.mov (x 9))]
def S65 : SFn := ⟨10, [.tmp 2], .seq (.reg S65.r0) (.seq (.seq (.reg S65.r1) (.cond (x 5) (.seq (.reg S65.r2) (.ret)) (.skip))) (.seq (.reg S65.r3) (.ret)))⟩
theorem S65_ok : EOk Tryz.prog 65 S65 := ⟨Tryz.f65, by kernel_rfl, by kernel_rfl, by decide, by kernel_rfl, its_nil (by kernel_rfl)⟩
def o65 (cl : Handler) (N : Nat) (v0 : AV) (h : AH) : Ans :=
  fst (kBox h v0) fun v1 h =>
  fst (kLdn h 3 v1) fun v3 h =>
  fst (cl 37 [v3] h) fun v4 h =>
  fst (kArith h .neq v4 (.int .i64 0)) fun v5 h =>
  fif v5 (
  some (.nrm, [], [(.nilsl)], h)) (
  fst (kLdn h 3 v1) fun v6 h =>
  fst (kFldA h 0 v1) fun v7 h =>
  fst (kLd1 h v7) fun v8 h =>
  fst (cl 92 [v6, v8, (.nilsl)] h) fun v9 h =>
  some (.nrm, [], [v9], h))
theorem o65_eq (cl : Handler) (N : Nat) (v0 : AV) (h : AH) : frun cl N S65 [v0] h = fans (o65 cl N v0 h) := by kernel_rfl
def w65 (N : Nat) : OF := fun cl args h => match args with
  | [v0] => fans (o65 cl N v0 h)
  | _ => none
theorem w65_ok (N : Nat) : OkF Tryz.prog 65 (w65 N) := .of (N := N) (S65_ok) fun cl args h r hr => by
  unfold w65 at hr
  split at hr
  · exact (o65_eq cl N _ _).trans hr
  · cases hr

def S66.z0 : List AV := [.int .i64 0, .int .i64 0, .int .i64 0, .int .i64 0, .int .i64 0, .int .i64 0, .int .i64 0, .int .i64 0, .int .i64 0, .int .i64 0, .int .i64 0, .int .i64 0, .int .i64 0, .int .i64 0, .int .i64 0, .int .i64 0, .int .i64 0, .int .i64 0, .int .i64 0, .int .i64 0, .int .i64 0, .int .i64 0]
/- widgetry/widgetryref17.Find -/
def S66.r0 : List AOpr := [
  q 4 (.new S66.z0)]
def S66.r1 : List AOpr := [
  q 5 (.mov (.const (.int .i64 0)))]
def S66.r2 : List AOpr := [
  q 6 (.mov (x 5)),
  q 7 (.mov (x 0)),
  q 8 (.len (x 7)),
  q 9 (.arith .lss (x 6) (x 8))]
def S66.r3 : List AOpr := [
  q 12 (.mov (x 0)),
  q 13 (.mov (x 5)),
  q 14 (.idxA 23 (x 12) (x 13)),
  q 15 (.fldA 0 (x 14)),
  q 16 (.ld1 (x 15)),
  q 17 (.mov (x 1)),
  q 18 (.arith .eql (x 16) (x 17))]
def S66.r4 : List AOpr := [
  q 19 (.mov (x 0)),
  q 20 (.mov (x 5)),
  q 21 (.idxA 23 (x 19) (x 20)),
  q 22 (.fldA 1 (x 21)),
  q 23 (.ldn 22 (x 22)),
  ⟨none, .st 22 (x 4) (x 23), none⟩]
def S66.r5 : List AOpr := [
  q 10 (.mov (x 5)),
  q 11 (.arith .add (x 10) (.const (.int .i64 1))),
  q 5 (.mov (x 11))]
def S66.r6 : List AOpr := [
  q 24 (.build S66.z0 []),
  ⟨none, .st 22 (x 4) (x 24), none⟩]
def S66 : SFn := ⟨25, [.cell 4 (some 22)], .seq (.reg S66.r0) (.seq (.seq (.reg S66.r1) (.block 0 (.loop [0, 1, 4, 5] [4] (.seq (.seq (.reg S66.r2) (.cond (x 9) (.skip) (.exit 0))) (.seq (.block 1 (.seq (.reg S66.r3) (.cond (x 18) (.seq (.reg S66.r4) (.ret)) (.skip)))) (.reg S66.r5)))))) (.seq (.reg S66.r6) (.ret)))⟩
theorem S66_ok : EOk Tryz.prog 66 S66 := ⟨Tryz.f66, by kernel_rfl, by kernel_rfl, by decide, by kernel_rfl, its_nil (by kernel_rfl)⟩
def o66_l1 (cl : Handler) (N : Nat) (v0 v1 v4 v5 : AV) (h : AH) : Ans :=
  fst (kLen h v0) fun v8 h =>
  fst (kArith h .lss v5 v8) fun v9 h =>
  fif v9 (
  fst (kIdxA h 23 v0 v5) fun v14 h =>
  fst (kFldA h 0 v14) fun v15 h =>
  fst (kLd1 h v15) fun v16 h =>
  fst (kArith h .eql v16 v1) fun v18 h =>
  fif v18 (
  fst (kIdxA h 23 v0 v5) fun v21 h =>
  fst (kFldA h 1 v21) fun v22 h =>
  fst (kLdn h 22 v22) fun v23 h =>
  fst (kSt h 22 v4 v23) fun _ h =>
  some (.ret, [v0, v1, v4, v5], [v4], h)) (
  fst (kArith h .add v5 (.int .i64 1)) fun v11 h =>
  some (.nrm, [v0, v1, v4, v11], [v4], h))) (
  some ((.exit 0), [v0, v1, v4, v5], [v4], h))
def o66_c2 (cl : Handler) (N : Nat) (v4 : AV) (h : AH) : Ans :=
  fst (kBuild h S66.z0 []) fun v24 h =>
  fst (kSt h 22 v4 v24) fun _ h =>
  fres (aresV h [.cell (v4) (some 22)]) h
def o66_j3 (cl : Handler) (N : Nat) (x : AX) (v4 : AV) (h : AH) : Ans :=
  fxs x (o66_c2 cl N v4 h) (fun j => cond (Nat.beq j 0) (o66_c2 cl N v4 h) (none)) (fres (aresV h [.cell (v4) (some 22)]) h)
def o66 (cl : Handler) (N : Nat) (v0 v1 : AV) (h : AH) : Ans :=
  fst (kNew h S66.z0) fun v4 h =>
  fjn (fiter (fun vs h => o66_l1 cl N (nthD vs 0) (nthD vs 1) (nthD vs 2) (nthD vs 3) h) N [v0, v1, v4, (.int .i64 0)] h) fun x vs h => o66_j3 cl N x (nthD vs 0) h
theorem o66_eq (cl : Handler) (N : Nat) (v0 v1 : AV) (h : AH) : frun cl N S66 [v0, v1] h = fans (o66 cl N v0 v1 h) := by kernel_rfl
def w66 (N : Nat) : OF := fun cl args h => match args with
  | [v0, v1] => fans (o66 cl N v0 v1 h)
  | _ => none
theorem w66_ok (N : Nat) : OkF Tryz.prog 66 (w66 N) := .of (N := N) (S66_ok) fun cl args h r hr => by
  unfold w66 at hr
  split at hr
  · exact (o66_eq cl N _ _ _).trans hr
  · cases hr

/- widgetry/widgetryref31.pressable -/
def S67.r0 : List AOpr := [
  q 1 (.box (x 0)),
  q 2 (.mov (.const (.bool false)))]
def S67.r1 : List AOpr := [
  q 3 (.fldA 2 (x 1)),
  q 4 (.ld1 (x 3)),
  q 5 (.arith .eql (x 4) (.const (.int .i64 3))),
  q 6 (.mov (x 5)),
  ⟨some 7, .fldA 2 (x 1), some (6, false)⟩,
  ⟨some 8, .ld1 (x 7), some (6, false)⟩,
  ⟨some 9, .arith .eql (x 8) (.const (.int .i64 6)), some (6, false)⟩,
  q 10 (.pick (x 6) (.const (.bool true)) (x 9)),
  q 11 (.mov (x 10)),
  ⟨some 12, .fldA 2 (x 1), some (11, false)⟩,
  ⟨some 13, .ld1 (x 12), some (11, false)⟩,
  ⟨some 14, .arith .eql (x 13) (.const (.int .i64 7)), some (11, false)⟩,
  q 15 (.pick (x 11) (.const (.bool true)) (x 14))]
def S67.r2 : List AOpr := [
  q 2 (.mov (.const (.bool true)))]
def S67.r3 : List AOpr := [
  q 16 (.fldA 2 (x 1)),
  q 17 (.ld1 (x 16)),
  q 18 (.arith .neq (x 17) (.const (.int .i64 4))),
  q 19 (.mov (x 18)),
  ⟨some 20, .fldA 2 (x 1), some (19, true)⟩,
  ⟨some 21, .ld1 (x 20), some (19, true)⟩,
  ⟨some 22, .arith .neq (x 21) (.const (.int .i64 13)), some (19, true)⟩,
  q 23 (.pick (x 19) (x 22) (.const (.bool false))),
  q 24 (.mov (x 23)),
  ⟨some 25, .ldn 7 (x 1), some (24, true)⟩,
  ⟨some 26, .call (.const (.func (.func 56) [] [])) [.tmp 25, .const (.str [112, 114, 101, 115, 115])], some (24, true)⟩,
  q 27 (.pick (x 24) (x 26) (.const (.bool false))),
  q 2 (.mov (x 27))]
def S67 : SFn := ⟨28, [.tmp 2], .seq (.reg S67.r0) (.seq (.seq (.joinN [1, 15] (.reg S67.r1)) (.cond (x 15) (.seq (.reg S67.r2) (.ret)) (.skip))) (.seq (.reg S67.r3) (.ret)))⟩
theorem S67_ok : EOk Tryz.prog 67 S67 := ⟨Tryz.f67, by kernel_rfl, by kernel_rfl, by decide, by kernel_rfl, its_nil (by kernel_rfl)⟩
def o67_s1 (cl : Handler) (N : Nat) (v1 v11 v14 : AV) (h : AH) : Ans :=
  fst (kPick h v11 (.bool true) v14) fun v15 h =>
  some (.nrm, [], [v1, v15], h)
def o67_a1 (cl : Handler) (N : Nat) (v1 : AV) (h : AH) : Ans :=
  fst (kFldA h 2 v1) fun v3 h =>
  fst (kLd1 h v3) fun v4 h =>
  fst (kArith h .eql v4 (.int .i64 3)) fun v5 h =>
  fgd (gdv false v5) (kFldA h 2 v1) h fun v7 h =>
  fgd (gdv false v5) (kLd1 h v7) h fun v8 h =>
  fgd (gdv false v5) (kArith h .eql v8 (.int .i64 6)) h fun v9 h =>
  fst (kPick h v5 (.bool true) v9) fun v10 h =>
  fgd (gdv false v10) (kFldA h 2 v1) h fun v12 h =>
  fgd (gdv false v10) (kLd1 h v12) h fun v13 h =>
  fgd (gdv false v10) (kArith h .eql v13 (.int .i64 7)) h fun v14 h =>
  o67_s1 cl N v1 v10 v14 h
def o67_s2 (cl : Handler) (N : Nat) (v27 : AV) (h : AH) : Ans :=
  some (.nrm, [], [v27], h)
def o67_j2 (cl : Handler) (N : Nat) (v1 v15 : AV) (h : AH) : Ans :=
  fif v15 (
  some (.nrm, [], [(.bool true)], h)) (
  fst (kFldA h 2 v1) fun v16 h =>
  fst (kLd1 h v16) fun v17 h =>
  fst (kArith h .neq v17 (.int .i64 4)) fun v18 h =>
  fgd (gdv true v18) (kFldA h 2 v1) h fun v20 h =>
  fgd (gdv true v18) (kLd1 h v20) h fun v21 h =>
  fgd (gdv true v18) (kArith h .neq v21 (.int .i64 13)) h fun v22 h =>
  fst (kPick h v18 v22 (.bool false)) fun v23 h =>
  fgd (gdv true v23) (kLdn h 7 v1) h fun v25 h =>
  fgd (gdv true v23) (cl 56 [v25, (.str [112, 114, 101, 115, 115])] h) h fun v26 h =>
  fst (kPick h v23 v26 (.bool false)) fun v27 h =>
  o67_s2 cl N v27 h)
def o67 (cl : Handler) (N : Nat) (v0 : AV) (h : AH) : Ans :=
  fst (kBox h v0) fun v1 h =>
  fjn (o67_a1 cl N v1 h) fun _ vs h => o67_j2 cl N (nthD vs 0) (nthD vs 1) h
theorem o67_eq (cl : Handler) (N : Nat) (v0 : AV) (h : AH) : frun cl N S67 [v0] h = fans (o67 cl N v0 h) := by kernel_rfl
def w67 (N : Nat) : OF := fun cl args h => match args with
  | [v0] => fans (o67 cl N v0 h)
  | _ => none
theorem w67_ok (N : Nat) : OkF Tryz.prog 67 (w67 N) := .of (N := N) (S67_ok) fun cl args h r hr => by
  unfold w67 at hr
  split at hr
  · exact (o67_eq cl N _ _).trans hr
  · cases hr

/- widgetry/widgetryref31.In -/
def S68.r0 : List AOpr := [
  q 4 (.mov (.const (.bool false)))]
def S68.r1 : List AOpr := [
  q 5 (.mov (x 0)),
  q 6 (.mov (x 1)),
  q 7 (.call (.const (.func (.func 30) [] [])) [.tmp 5, .tmp 6]),
  q 4 (.mov (x 7))]
def S68 : SFn := ⟨8, [.tmp 4], .seq (.reg S68.r0) (.seq (.reg S68.r1) (.ret))⟩
theorem S68_ok : EOk Tryz.prog 68 S68 := ⟨Tryz.f68, by kernel_rfl, by kernel_rfl, by decide, by kernel_rfl, its_nil (by kernel_rfl)⟩
def o68 (cl : Handler) (N : Nat) (v0 v1 : AV) (h : AH) : Ans :=
  fst (cl 30 [v0, v1] h) fun v7 h =>
  some (.nrm, [], [v7], h)
theorem o68_eq (cl : Handler) (N : Nat) (v0 v1 : AV) (h : AH) : frun cl N S68 [v0, v1] h = fans (o68 cl N v0 v1 h) := by kernel_rfl
def w68 (N : Nat) : OF := fun cl args h => match args with
  | [v0, v1] => fans (o68 cl N v0 v1 h)
  | _ => none
theorem w68_ok (N : Nat) : OkF Tryz.prog 68 (w68 N) := .of (N := N) (S68_ok) fun cl args h r hr => by
  unfold w68 at hr
  split at hr
  · exact (o68_eq cl N _ _ _).trans hr
  · cases hr

/- widgetry/widgetryref31.Within -/
def S69.r0 : List AOpr := [
  q 2 (.box (x 0)),
  q 4 (.mov (.const (.bool false)))]
def S69.r1 : List AOpr := [
  q 6 (.ldn 6 (x 2)),
  q 7 (.call (.const (.func (.func 35) [] [])) [.tmp 6]),
  q 5 (.mov (x 7))]
def S69.r2 : List AOpr := [
  q 8 (.mov (x 5)),
  q 9 (.arith .neq (x 8) (.const (.int .i64 0))),
  q 10 (.mov (x 9)),
  ⟨some 11, .ldn 6 (x 2), some (10, true)⟩,
  ⟨some 12, .mov (x 1), some (10, true)⟩,
  ⟨some 13, .call (.const (.func (.func 42) [] [])) [.tmp 11, .tmp 12], some (10, true)⟩,
  ⟨some 14, .mov (x 5), some (10, true)⟩,
  ⟨some 15, .call (.const (.func (.func 68) [] [])) [.tmp 13, .tmp 14], some (10, true)⟩,
  q 16 (.pick (x 10) (x 15) (.const (.bool false))),
  q 4 (.mov (x 16))]
def S69 : SFn := ⟨17, [.tmp 4], .seq (.reg S69.r0) (.seq (.reg S69.r1) (.seq (.reg S69.r2) (.ret)))⟩
theorem S69_ok : EOk Tryz.prog 69 S69 := ⟨Tryz.f69, by kernel_rfl, by kernel_rfl, by decide, by kernel_rfl, its_nil (by kernel_rfl)⟩
def o69_s1 (cl : Handler) (N : Nat) (v16 : AV) (h : AH) : Ans :=
  some (.nrm, [], [v16], h)
def o69 (cl : Handler) (N : Nat) (v0 v1 : AV) (h : AH) : Ans :=
  fst (kBox h v0) fun v2 h =>
  fst (kLdn h 6 v2) fun v6 h =>
  fst (cl 35 [v6] h) fun v7 h =>
  fst (kArith h .neq v7 (.int .i64 0)) fun v9 h =>
  fgd (gdv true v9) (kLdn h 6 v2) h fun v11 h =>
  fgd (gdv true v9) (kMov h v1) h fun v12 h =>
  fgd (gdv true v9) (cl 42 [v11, v12] h) h fun v13 h =>
  fgd (gdv true v9) (kMov h v7) h fun v14 h =>
  fgd (gdv true v9) (cl 68 [v13, v14] h) h fun v15 h =>
  fst (kPick h v9 v15 (.bool false)) fun v16 h =>
  o69_s1 cl N v16 h
theorem o69_eq (cl : Handler) (N : Nat) (v0 v1 : AV) (h : AH) : frun cl N S69 [v0, v1] h = fans (o69 cl N v0 v1 h) := by kernel_rfl
def w69 (N : Nat) : OF := fun cl args h => match args with
  | [v0, v1] => fans (o69 cl N v0 v1 h)
  | _ => none
theorem w69_ok (N : Nat) : OkF Tryz.prog 69 (w69 N) := .of (N := N) (S69_ok) fun cl args h r hr => by
  unfold w69 at hr
  split at hr
  · exact (o69_eq cl N _ _ _).trans hr
  · cases hr

def S71.z0 : List AV := [.int .i64 0, .int .i64 0, .int .i64 0, .str [], .nilsl, .nilsl, .nilsl]
/- widgetry/widgetryref14.shaped -/
def S71.r0 : List AOpr := [
  q 1 (.box (x 0)),
  q 2 (.mov (.const (.bool false)))]
def S71.r1 : List AOpr := [
  q 12 (.fldA 1 (x 1)),
  q 13 (.ld1 (x 12)),
  q 14 (.arith .lss (x 13) (.const (.int .i64 2))),
  q 15 (.mov (x 14)),
  ⟨some 16, .fldA 1 (x 1), some (15, false)⟩,
  ⟨some 17, .ld1 (x 16), some (15, false)⟩,
  ⟨some 18, .arith .gtr (x 17) (.const (.int .i64 1099511627776)), some (15, false)⟩,
  q 19 (.pick (x 15) (.const (.bool true)) (x 18)),
  q 20 (.mov (x 19)),
  ⟨some 21, .fldA 2 (x 1), some (20, false)⟩,
  ⟨some 22, .ld1 (x 21), some (20, false)⟩,
  ⟨some 23, .len (x 22), some (20, false)⟩,
  ⟨some 24, .arith .lss (x 23) (.const (.int .i64 1)), some (20, false)⟩,
  q 25 (.pick (x 20) (.const (.bool true)) (x 24)),
  q 26 (.mov (x 25)),
  ⟨some 27, .fldA 2 (x 1), some (26, false)⟩,
  ⟨some 28, .ld1 (x 27), some (26, false)⟩,
  ⟨some 29, .len (x 28), some (26, false)⟩,
  ⟨some 30, .arith .gtr (x 29) (.const (.int .i64 400)), some (26, false)⟩,
  q 31 (.pick (x 26) (.const (.bool true)) (x 30))]
def S71.r2 : List AOpr := [
  q 2 (.mov (.const (.bool false)))]
def S71.r3 : List AOpr := [
  q 3 (.mov (.const (.int .i64 0)))]
def S71.r4 : List AOpr := [
  q 4 (.mov (.const (.int .i64 0)))]
def S71.r5 : List AOpr := [
  q 32 (.mov (x 4)),
  q 33 (.fldA 2 (x 1)),
  q 34 (.ld1 (x 33)),
  q 35 (.len (x 34)),
  q 36 (.arith .lss (x 32) (x 35))]
def S71.r6 : List (AOpr × Nat) := [
  (q 39 (.fldA 2 (x 1)), 0),
  (q 40 (.ld1 (x 39)), 1),
  (q 41 (.mov (x 4)), 0),
  (q 42 (.idxA 7 (x 40) (x 41)), 7),
  (q 43 (.fldA 0 (x 42)), 15),
  (q 44 (.ld1 (x 43)), 31),
  (q 45 (.mov (x 3)), 0),
  (q 46 (.arith .leq (x 44) (x 45)), 127),
  (q 47 (.mov (x 46)), 255),
  (⟨some 48, .fldA 2 (x 1), some (47, false)⟩, 511),
  (⟨some 49, .ld1 (x 48), some (47, false)⟩, 1023),
  (⟨some 50, .mov (x 4), some (47, false)⟩, 511),
  (⟨some 51, .idxA 7 (x 49) (x 50), some (47, false)⟩, 4095),
  (⟨some 52, .fldA 0 (x 51), some (47, false)⟩, 8191),
  (⟨some 53, .ld1 (x 52), some (47, false)⟩, 16383),
  (⟨some 54, .fldA 1 (x 1), some (47, false)⟩, 511),
  (⟨some 55, .ld1 (x 54), some (47, false)⟩, 33279),
  (⟨some 56, .arith .geq (x 53) (x 55), some (47, false)⟩, 131071),
  (q 57 (.pick (x 47) (.const (.bool true)) (x 56)), 262143)]
def S71.r7 : List AOpr := [
  q 2 (.mov (.const (.bool false)))]
def S71.r8 : List AOpr := [
  q 58 (.fldA 2 (x 1)),
  q 59 (.ld1 (x 58)),
  q 60 (.mov (x 4)),
  q 61 (.idxA 7 (x 59) (x 60)),
  q 62 (.fldA 0 (x 61)),
  q 63 (.ld1 (x 62)),
  q 3 (.mov (x 63))]
def S71.r9 : List AOpr := [
  q 37 (.mov (x 4)),
  q 38 (.arith .add (x 37) (.const (.int .i64 1))),
  q 4 (.mov (x 38))]
def S71.r10 : List AOpr := [
  q 64 (.ldn 3 (x 1)),
  q 65 (.fldA 0 (x 1)),
  q 66 (.ld1 (x 65)),
  q 67 (.call (.const (.func (.func 40) [] [])) [.tmp 64, .tmp 66]),
  q 5 (.mov (x 67))]
def S71.r11 : List AOpr := [
  q 68 (.mov (x 5)),
  q 69 (.arith .lss (x 68) (.const (.int .i64 0)))]
def S71.r12 : List AOpr := [
  q 2 (.mov (.const (.bool false)))]
def S71.r13 : List AOpr := [
  q 6 (.mov (.const (.int .i64 0)))]
def S71.r14 : List AOpr := [
  q 7 (.mov (.const (.int .i64 0)))]
def S71.r15 : List AOpr := [
  q 70 (.mov (x 7)),
  q 71 (.fldA 2 (x 1)),
  q 72 (.ld1 (x 71)),
  q 73 (.len (x 72)),
  q 74 (.arith .lss (x 70) (x 73))]
def S71.r16 : List AOpr := [
  q 77 (.fldA 2 (x 1)),
  q 78 (.ld1 (x 77)),
  q 79 (.mov (x 7)),
  q 80 (.idxA 7 (x 78) (x 79)),
  q 81 (.ldn 7 (x 80)),
  q 8 (.new S71.z0),
  ⟨none, .st 7 (x 8) (x 81), none⟩]
def S71.r17 : List AOpr := [
  q 82 (.fldA 1 (x 8)),
  q 83 (.ld1 (x 82)),
  q 84 (.arith .eql (x 83) (.const (.int .i64 0))),
  q 85 (.mov (x 7)),
  q 86 (.mov (x 5)),
  q 87 (.arith .eql (x 85) (x 86)),
  q 88 (.eqs true (x 84) (x 87))]
def S71.r18 : List AOpr := [
  q 2 (.mov (.const (.bool false)))]
def S71.r19 : List AOpr := [
  q 89 (.fldA 6 (x 8)),
  q 90 (.ld1 (x 89)),
  q 91 (.len (x 90)),
  q 92 (.fldA 2 (x 1)),
  q 93 (.ld1 (x 92)),
  q 94 (.len (x 93)),
  q 95 (.arith .gtr (x 91) (x 94))]
def S71.r20 : List AOpr := [
  q 2 (.mov (.const (.bool false)))]
def S71.r21 : List AOpr := [
  q 9 (.mov (.const (.int .i64 0)))]
def S71.r22 : List AOpr := [
  q 96 (.mov (x 9)),
  q 97 (.fldA 6 (x 8)),
  q 98 (.ld1 (x 97)),
  q 99 (.len (x 98)),
  q 100 (.arith .lss (x 96) (x 99))]
def S71.r23 : List (AOpr × Nat) := [
  (q 103 (.ldn 3 (x 1)), 0),
  (q 104 (.fldA 6 (x 8)), 0),
  (q 105 (.ld1 (x 104)), 2),
  (q 106 (.mov (x 9)), 0),
  (q 107 (.idxA 1 (x 105) (x 106)), 14),
  (q 108 (.ld1 (x 107)), 30),
  (q 109 (.call (.const (.func (.func 40) [] [])) [.tmp 103, .tmp 108]), 63),
  (q 10 (.mov (x 109)), 127)]
def S71.r24 : List (AOpr × Nat) := [
  (q 110 (.mov (x 10)), 0),
  (q 111 (.arith .lss (x 110) (.const (.int .i64 0))), 1),
  (q 112 (.mov (x 111)), 3),
  (⟨some 113, .fldA 2 (x 1), some (112, false)⟩, 7),
  (⟨some 114, .ld1 (x 113), some (112, false)⟩, 15),
  (⟨some 115, .mov (x 10), some (112, false)⟩, 7),
  (⟨some 116, .idxA 7 (x 114) (x 115), some (112, false)⟩, 63),
  (⟨some 117, .fldA 1 (x 116), some (112, false)⟩, 127),
  (⟨some 118, .ld1 (x 117), some (112, false)⟩, 255),
  (⟨some 119, .fldA 0 (x 8), some (112, false)⟩, 7),
  (⟨some 120, .ld1 (x 119), some (112, false)⟩, 519),
  (⟨some 121, .arith .neq (x 118) (x 120), some (112, false)⟩, 2047),
  (q 122 (.pick (x 112) (.const (.bool true)) (x 121)), 4095)]
def S71.r25 : List AOpr := [
  q 2 (.mov (.const (.bool false)))]
def S71.r26 : List AOpr := [
  q 11 (.mov (.const (.int .i64 0)))]
def S71.r27 : List AOpr := [
  q 123 (.mov (x 11)),
  q 124 (.mov (x 9)),
  q 125 (.arith .lss (x 123) (x 124))]
def S71.r28 : List (AOpr × Nat) := [
  (q 128 (.fldA 6 (x 8)), 0),
  (q 129 (.ld1 (x 128)), 1),
  (q 130 (.mov (x 11)), 0),
  (q 131 (.idxA 1 (x 129) (x 130)), 7),
  (q 132 (.ld1 (x 131)), 15),
  (q 133 (.fldA 6 (x 8)), 0),
  (q 134 (.ld1 (x 133)), 32),
  (q 135 (.mov (x 9)), 0),
  (q 136 (.idxA 1 (x 134) (x 135)), 224),
  (q 137 (.ld1 (x 136)), 480),
  (q 138 (.arith .eql (x 132) (x 137)), 1023)]
def S71.r29 : List AOpr := [
  q 2 (.mov (.const (.bool false)))]
def S71.r30 : List AOpr := [
  q 126 (.mov (x 11)),
  q 127 (.arith .add (x 126) (.const (.int .i64 1))),
  q 11 (.mov (x 127))]
def S71.r31 : List AOpr := [
  q 139 (.mov (x 6)),
  q 140 (.arith .add (x 139) (.const (.int .i64 1))),
  q 6 (.mov (x 140))]
def S71.r32 : List AOpr := [
  q 101 (.mov (x 9)),
  q 102 (.arith .add (x 101) (.const (.int .i64 1))),
  q 9 (.mov (x 102))]
def S71.r33 : List AOpr := [
  q 75 (.mov (x 7)),
  q 76 (.arith .add (x 75) (.const (.int .i64 1))),
  q 7 (.mov (x 76))]
def S71.r34 : List AOpr := [
  q 141 (.mov (x 6)),
  q 142 (.fldA 2 (x 1)),
  q 143 (.ld1 (x 142)),
  q 144 (.len (x 143)),
  q 145 (.arith .sub (x 144) (.const (.int .i64 1))),
  q 146 (.arith .neq (x 141) (x 145))]
def S71.r35 : List AOpr := [
  q 2 (.mov (.const (.bool false)))]
def S71.r36 : List (AOpr × Nat) := [
  (q 147 (.ldn 3 (x 1)), 0),
  (q 148 (.fldA 0 (x 1)), 0),
  (q 149 (.ld1 (x 148)), 2),
  (q 150 (.call (.const (.func (.func 92) [] [])) [.tmp 147, .tmp 149, .const (.nilsl)]), 7),
  (q 151 (.len (x 150)), 15),
  (q 152 (.fldA 2 (x 1)), 0),
  (q 153 (.ld1 (x 152)), 32),
  (q 154 (.len (x 153)), 96),
  (q 155 (.arith .eql (x 151) (x 154)), 255),
  (q 2 (.mov (x 155)), 511)]
def S71 : SFn := ⟨156, [.tmp 2], .seq (.reg S71.r0) (.seq (.seq (.joinN [1, 31] (.reg S71.r1)) (.cond (x 31) (.seq (.reg S71.r2) (.ret)) (.skip))) (.seq (.reg S71.r3) (.seq (.seq (.reg S71.r4) (.block 0 (.loop [1, 3, 4] [1, 2] (.seq (.seq (.reg S71.r5) (.cond (x 36) (.skip) (.exit 0))) (.seq (.block 1 (.seq (.seq (.joinN [1, 4, 57] (.draw S71.r6)) (.cond (x 57) (.seq (.reg S71.r7) (.ret)) (.skip))) (.reg S71.r8))) (.reg S71.r9)))))) (.seq (.reg S71.r10) (.seq (.seq (.reg S71.r11) (.cond (x 69) (.seq (.reg S71.r12) (.ret)) (.skip))) (.seq (.reg S71.r13) (.seq (.seq (.reg S71.r14) (.block 2 (.loop [1, 5, 6, 7] [1, 2, 6] (.seq (.seq (.reg S71.r15) (.cond (x 74) (.skip) (.exit 2))) (.seq (.block 3 (.seq (.reg S71.r16) (.seq (.seq (.reg S71.r17) (.cond (x 88) (.seq (.reg S71.r18) (.ret)) (.skip))) (.seq (.seq (.reg S71.r19) (.cond (x 95) (.seq (.reg S71.r20) (.ret)) (.skip))) (.seq (.reg S71.r21) (.block 4 (.loop [1, 5, 6, 7, 8, 9] [1, 2, 5, 6, 7] (.seq (.seq (.reg S71.r22) (.cond (x 100) (.skip) (.exit 4))) (.seq (.block 5 (.seq (.draw S71.r23) (.seq (.seq (.joinN [1, 5, 6, 7, 8, 9, 122] (.draw S71.r24)) (.cond (x 122) (.seq (.reg S71.r25) (.ret)) (.skip))) (.seq (.seq (.reg S71.r26) (.block 6 (.loop [1, 5, 6, 7, 8, 9, 11] [1, 2, 5, 6, 7, 8, 9] (.seq (.seq (.reg S71.r27) (.cond (x 125) (.skip) (.exit 6))) (.seq (.block 7 (.seq (.draw S71.r28) (.cond (x 138) (.seq (.reg S71.r29) (.ret)) (.skip)))) (.reg S71.r30)))))) (.reg S71.r31))))) (.reg S71.r32)))))))))) (.reg S71.r33)))))) (.seq (.seq (.reg S71.r34) (.cond (x 146) (.seq (.reg S71.r35) (.ret)) (.skip))) (.seq (.draw S71.r36) (.ret))))))))))⟩
theorem S71_ok : EOk Tryz.prog 71 S71 := ⟨Tryz.f71, by kernel_rfl, by kernel_rfl, by decide, by kernel_rfl, its_nil (by kernel_rfl)⟩
def o71_s1 (cl : Handler) (N : Nat) (v1 v20 v23 : AV) (h : AH) : Ans :=
  fgd (gdv false v20) (kArith h .lss v23 (.int .i64 1)) h fun v24 h =>
  fst (kPick h v20 (.bool true) v24) fun v25 h =>
  fgd (gdv false v25) (kFldA h 2 v1) h fun v27 h =>
  fgd (gdv false v25) (kLd1 h v27) h fun v28 h =>
  fgd (gdv false v25) (kLen h v28) h fun v29 h =>
  fgd (gdv false v25) (kArith h .gtr v29 (.int .i64 400)) h fun v30 h =>
  fst (kPick h v25 (.bool true) v30) fun v31 h =>
  some (.nrm, [], [v1, v31], h)
def o71_a1 (cl : Handler) (N : Nat) (v1 : AV) (h : AH) : Ans :=
  fst (kFldA h 1 v1) fun v12 h =>
  fst (kLd1 h v12) fun v13 h =>
  fst (kArith h .lss v13 (.int .i64 2)) fun v14 h =>
  fgd (gdv false v14) (kFldA h 1 v1) h fun v16 h =>
  fgd (gdv false v14) (kLd1 h v16) h fun v17 h =>
  fgd (gdv false v14) (kArith h .gtr v17 (.int .i64 1099511627776)) h fun v18 h =>
  fst (kPick h v14 (.bool true) v18) fun v19 h =>
  fgd (gdv false v19) (kFldA h 2 v1) h fun v21 h =>
  fgd (gdv false v19) (kLd1 h v21) h fun v22 h =>
  fgd (gdv false v19) (kLen h v22) h fun v23 h =>
  o71_s1 cl N v1 v19 v23 h
def o71_s2 (cl : Handler) (N : Nat) (c0 c1 c2 c3 c4 c5 c6 c7 c8 c9 : Rec) (v1 v4 v47 v48 : AV) (h : AH) : Ans :=
  fgq (gdv false v47) (fun k => fdp h (kLd1 h v48) (rdK (rdv v48)) k) h fun v49 c10 h =>
  fgq (gdv false v47) (fun k => fdp h (kMov h v4) .pure k) h fun v50 c11 h =>
  fgq (gdv false v47) (fun k => fdp h (kIdxA h 7 v49 v50) .pure k) h fun v51 c12 h =>
  fgq (gdv false v47) (fun k => fdp h (kFldA h 0 v51) .pure k) h fun v52 c13 h =>
  fgq (gdv false v47) (fun k => fdp h (kLd1 h v52) (rdK (rdv v52)) k) h fun v53 c14 h =>
  fgq (gdv false v47) (fun k => fdp h (kFldA h 1 v1) .pure k) h fun v54 c15 h =>
  fgq (gdv false v47) (fun k => fdp h (kLd1 h v54) (rdK (rdv v54)) k) h fun v55 c16 h =>
  fgq (gdv false v47) (fun k => fdp h (kArith h .geq v53 v55) .pure k) h fun v56 c17 h =>
  fdp h (kPick h v47 (.bool true) v56) .pure fun v57 c18 h =>
  cond (fchk [c0, c1, c2, c3, c4, c5, c6, c7, c8, c9, c10, c11, c12, c13, c14, c15, c16, c17, c18] []) (some (.nrm, [], [v1, v4, v57], h)) none
def o71_a2 (cl : Handler) (N : Nat) (v1 v3 v4 : AV) (h : AH) : Ans :=
  fdr h 19 fun r h =>
  fdp h (kFldA h 2 v1) .pure fun v39 c0 h =>
  fdp h (kLd1 h v39) (rdK (rdv v39)) fun v40 c1 h =>
  fdp h (kMov h v4) .pure fun v41 c2 h =>
  fdp h (kIdxA h 7 v40 v41) .pure fun v42 c3 h =>
  fdp h (kFldA h 0 v42) .pure fun v43 c4 h =>
  fdp h (kLd1 h v43) (rdK (rdv v43)) fun v44 c5 h =>
  fdp h (kMov h v3) .pure fun v45 c6 h =>
  fdp h (kArith h .leq v44 v45) .pure fun v46 c7 h =>
  fdp h (kMov h v46) .pure fun v47 c8 h =>
  fgq (gdv false v47) (fun k => fdp h (kFldA h 2 v1) .pure k) h fun v48 c9 h =>
  o71_s2 cl N c0 c1 c2 c3 c4 c5 c6 c7 c8 c9 v1 v4 v47 v48 h
def o71_j3 (cl : Handler) (N : Nat) (v1 v4 v57 : AV) (h : AH) : Ans :=
  fif v57 (
  some (.ret, [v1, .undef, v4], [v1, (.bool false)], h)) (
  fst (kFldA h 2 v1) fun v58 h =>
  fst (kLd1 h v58) fun v59 h =>
  fst (kIdxA h 7 v59 v4) fun v61 h =>
  fst (kFldA h 0 v61) fun v62 h =>
  fst (kLd1 h v62) fun v63 h =>
  fst (kArith h .add v4 (.int .i64 1)) fun v38 h =>
  some (.nrm, [v1, v63, v38], [v1, .undef], h))
def o71_l4 (cl : Handler) (N : Nat) (v1 v3 v4 : AV) (h : AH) : Ans :=
  fst (kFldA h 2 v1) fun v33 h =>
  fst (kLd1 h v33) fun v34 h =>
  fst (kLen h v34) fun v35 h =>
  fst (kArith h .lss v4 v35) fun v36 h =>
  fif v36 (
  fjn (o71_a2 cl N v1 v3 v4 h) fun _ vs h => o71_j3 cl N (nthD vs 0) (nthD vs 1) (nthD vs 2) h) (
  some ((.exit 0), [v1, v3, v4], [v1, .undef], h))
def o71_s3 (cl : Handler) (N : Nat) (c0 c1 c2 c3 c4 c5 c6 c7 c8 c9 : Rec) (v1 v5 v6 v7 v8 v9 v112 v118 v119 : AV) (h : AH) : Ans :=
  fgq (gdv false v112) (fun k => fdp h (kLd1 h v119) (rdK (rdv v119)) k) h fun v120 c10 h =>
  fgq (gdv false v112) (fun k => fdp h (kArith h .neq v118 v120) .pure k) h fun v121 c11 h =>
  fdp h (kPick h v112 (.bool true) v121) .pure fun v122 c12 h =>
  cond (fchk [c0, c1, c2, c3, c4, c5, c6, c7, c8, c9, c10, c11, c12] []) (some (.nrm, [], [v1, v5, v6, v7, v8, v9, v122], h)) none
def o71_a5 (cl : Handler) (N : Nat) (v1 v5 v6 v7 v8 v9 v10 : AV) (h : AH) : Ans :=
  fdr h 13 fun r h =>
  fdp h (kMov h v10) .pure fun v110 c0 h =>
  fdp h (kArith h .lss v110 (.int .i64 0)) .pure fun v111 c1 h =>
  fdp h (kMov h v111) .pure fun v112 c2 h =>
  fgq (gdv false v112) (fun k => fdp h (kFldA h 2 v1) .pure k) h fun v113 c3 h =>
  fgq (gdv false v112) (fun k => fdp h (kLd1 h v113) (rdK (rdv v113)) k) h fun v114 c4 h =>
  fgq (gdv false v112) (fun k => fdp h (kMov h v10) .pure k) h fun v115 c5 h =>
  fgq (gdv false v112) (fun k => fdp h (kIdxA h 7 v114 v115) .pure k) h fun v116 c6 h =>
  fgq (gdv false v112) (fun k => fdp h (kFldA h 1 v116) .pure k) h fun v117 c7 h =>
  fgq (gdv false v112) (fun k => fdp h (kLd1 h v117) (rdK (rdv v117)) k) h fun v118 c8 h =>
  fgq (gdv false v112) (fun k => fdp h (kFldA h 0 v8) .pure k) h fun v119 c9 h =>
  o71_s3 cl N c0 c1 c2 c3 c4 c5 c6 c7 c8 c9 v1 v5 v6 v7 v8 v9 v112 v118 v119 h
def o71_s4 (cl : Handler) (N : Nat) (c0 c1 c2 c3 c4 c5 c6 c7 c8 : Rec) (v1 v5 v6 v7 v8 v9 v11 v132 v136 : AV) (h : AH) : Ans :=
  fdp h (kLd1 h v136) (rdK (rdv v136)) fun v137 c9 h =>
  fdp h (kArith h .eql v132 v137) .pure fun v138 c10 h =>
  cond (fchk [c0, c1, c2, c3, c4, c5, c6, c7, c8, c9, c10] []) (fif v138 (
  some (.ret, [v1, v5, v6, v7, v8, v9, v11], [v1, (.bool false), v5, v6, v7, v8, v9], h)) (
  fst (kArith h .add v11 (.int .i64 1)) fun v127 h =>
  some (.nrm, [v1, v5, v6, v7, v8, v9, v127], [v1, .undef, v5, v6, v7, v8, v9], h))) none
def o71_l6 (cl : Handler) (N : Nat) (v1 v5 v6 v7 v8 v9 v11 : AV) (h : AH) : Ans :=
  fst (kArith h .lss v11 v9) fun v125 h =>
  fif v125 (
  fdr h 11 fun r h =>
  fdp h (kFldA h 6 v8) .pure fun v128 c0 h =>
  fdp h (kLd1 h v128) (rdK (rdv v128)) fun v129 c1 h =>
  fdp h (kMov h v11) .pure fun v130 c2 h =>
  fdp h (kIdxA h 1 v129 v130) .pure fun v131 c3 h =>
  fdp h (kLd1 h v131) (rdK (rdv v131)) fun v132 c4 h =>
  fdp h (kFldA h 6 v8) .pure fun v133 c5 h =>
  fdp h (kLd1 h v133) (rdK (rdv v133)) fun v134 c6 h =>
  fdp h (kMov h v9) .pure fun v135 c7 h =>
  fdp h (kIdxA h 1 v134 v135) .pure fun v136 c8 h =>
  o71_s4 cl N c0 c1 c2 c3 c4 c5 c6 c7 c8 v1 v5 v6 v7 v8 v9 v11 v132 v136 h) (
  some ((.exit 6), [v1, v5, v6, v7, v8, v9, v11], [v1, .undef, v5, v6, v7, v8, v9], h))
def o71_c7 (cl : Handler) (N : Nat) (v1 v2 v5 v6 v7 v8 v9 : AV) (h : AH) : Ans :=
  fst (kArith h .add v6 (.int .i64 1)) fun v140 h =>
  fst (kArith h .add v9 (.int .i64 1)) fun v102 h =>
  some (.nrm, [v1, v5, v140, v7, v8, v102], [v1, v2, v5, v140, v7], h)
def o71_j8 (cl : Handler) (N : Nat) (x : AX) (v1 v2 v5 v6 v7 v8 v9 : AV) (h : AH) : Ans :=
  fxs x (o71_c7 cl N v1 v2 v5 v6 v7 v8 v9 h) (fun j => cond (Nat.beq j 6) (o71_c7 cl N v1 v2 v5 v6 v7 v8 v9 h) (cond (Nat.beq j 5) (fst (kArith h .add v9 (.int .i64 1)) fun v102 h =>
  some (.nrm, [v1, v5, v6, v7, v8, v102], [v1, v2, v5, v6, v7], h)) (some ((.exit j), [v1, v5, v6, v7, v8, v9], [v1, v2, v5, v6, v7], h)))) (some (.ret, [v1, v5, v6, v7, v8, v9], [v1, v2, v5, v6, v7], h))
def o71_j9 (cl : Handler) (N : Nat) (v1 v5 v6 v7 v8 v9 v122 : AV) (h : AH) : Ans :=
  fif v122 (
  some (.ret, [v1, v5, v6, v7, v8, v9], [v1, (.bool false), v5, v6, v7], h)) (
  fjn (fiter (fun vs h => o71_l6 cl N (nthD vs 0) (nthD vs 1) (nthD vs 2) (nthD vs 3) (nthD vs 4) (nthD vs 5) (nthD vs 6) h) N [v1, v5, v6, v7, v8, v9, (.int .i64 0)] h) fun x vs h => o71_j8 cl N x (nthD vs 0) (nthD vs 1) (nthD vs 2) (nthD vs 3) (nthD vs 4) (nthD vs 5) (nthD vs 6) h)
def o71_s5 (cl : Handler) (N : Nat) (c0 c1 c2 c3 c4 c5 : Rec) (v1 v5 v6 v7 v8 v9 v103 v108 : AV) (h : AH) : Ans :=
  fde h (cl 40 [v103, v108] h) fun v109 c6 h =>
  fdp h (kMov h v109) .pure fun v10 c7 h =>
  cond (fchk [c0, c1, c2, c3, c4, c5, c6, c7] []) (fjn (o71_a5 cl N v1 v5 v6 v7 v8 v9 v10 h) fun _ vs h => o71_j9 cl N (nthD vs 0) (nthD vs 1) (nthD vs 2) (nthD vs 3) (nthD vs 4) (nthD vs 5) (nthD vs 6) h) none
def o71_l10 (cl : Handler) (N : Nat) (v1 v5 v6 v7 v8 v9 : AV) (h : AH) : Ans :=
  fst (kFldA h 6 v8) fun v97 h =>
  fst (kLd1 h v97) fun v98 h =>
  fst (kLen h v98) fun v99 h =>
  fst (kArith h .lss v9 v99) fun v100 h =>
  fif v100 (
  fdr h 8 fun r h =>
  fdp h (kLdn h 3 v1) (rdK (rdv v1)) fun v103 c0 h =>
  fdp h (kFldA h 6 v8) .pure fun v104 c1 h =>
  fdp h (kLd1 h v104) (rdK (rdv v104)) fun v105 c2 h =>
  fdp h (kMov h v9) .pure fun v106 c3 h =>
  fdp h (kIdxA h 1 v105 v106) .pure fun v107 c4 h =>
  fdp h (kLd1 h v107) (rdK (rdv v107)) fun v108 c5 h =>
  o71_s5 cl N c0 c1 c2 c3 c4 c5 v1 v5 v6 v7 v8 v9 v103 v108 h) (
  some ((.exit 4), [v1, v5, v6, v7, v8, v9], [v1, .undef, v5, v6, v7], h))
def o71_c11 (cl : Handler) (N : Nat) (v1 v2 v5 v6 v7 : AV) (h : AH) : Ans :=
  fst (kArith h .add v7 (.int .i64 1)) fun v76 h =>
  some (.nrm, [v1, v5, v6, v76], [v1, v2, v6], h)
def o71_j12 (cl : Handler) (N : Nat) (x : AX) (v1 v2 v5 v6 v7 : AV) (h : AH) : Ans :=
  fxs x (o71_c11 cl N v1 v2 v5 v6 v7 h) (fun j => cond (Nat.beq j 4) (o71_c11 cl N v1 v2 v5 v6 v7 h) (cond (Nat.beq j 3) (fst (kArith h .add v7 (.int .i64 1)) fun v76 h =>
  some (.nrm, [v1, v5, v6, v76], [v1, v2, v6], h)) (some ((.exit j), [v1, v5, v6, v7], [v1, v2, v6], h)))) (some (.ret, [v1, v5, v6, v7], [v1, v2, v6], h))
def o71_s6 (cl : Handler) (N : Nat) (v1 v5 v6 v7 v8 v91 v93 : AV) (h : AH) : Ans :=
  fst (kLen h v93) fun v94 h =>
  fst (kArith h .gtr v91 v94) fun v95 h =>
  fif v95 (
  some (.ret, [v1, v5, v6, v7], [v1, (.bool false), v6], h)) (
  fjn (fiter (fun vs h => o71_l10 cl N (nthD vs 0) (nthD vs 1) (nthD vs 2) (nthD vs 3) (nthD vs 4) (nthD vs 5) h) N [v1, v5, v6, v7, v8, (.int .i64 0)] h) fun x vs h => o71_j12 cl N x (nthD vs 0) (nthD vs 1) (nthD vs 2) (nthD vs 3) (nthD vs 4) h)
def o71_s7 (cl : Handler) (N : Nat) (v1 v5 v6 v7 v8 : AV) (h : AH) : Ans :=
  fst (kFldA h 1 v8) fun v82 h =>
  fst (kLd1 h v82) fun v83 h =>
  fst (kArith h .eql v83 (.int .i64 0)) fun v84 h =>
  fst (kArith h .eql v7 v5) fun v87 h =>
  fst (kEqs h true v84 v87) fun v88 h =>
  fif v88 (
  some (.ret, [v1, v5, v6, v7], [v1, (.bool false), v6], h)) (
  fst (kFldA h 6 v8) fun v89 h =>
  fst (kLd1 h v89) fun v90 h =>
  fst (kLen h v90) fun v91 h =>
  fst (kFldA h 2 v1) fun v92 h =>
  fst (kLd1 h v92) fun v93 h =>
  o71_s6 cl N v1 v5 v6 v7 v8 v91 v93 h)
def o71_l13 (cl : Handler) (N : Nat) (v1 v5 v6 v7 : AV) (h : AH) : Ans :=
  fst (kFldA h 2 v1) fun v71 h =>
  fst (kLd1 h v71) fun v72 h =>
  fst (kLen h v72) fun v73 h =>
  fst (kArith h .lss v7 v73) fun v74 h =>
  fif v74 (
  fst (kFldA h 2 v1) fun v77 h =>
  fst (kLd1 h v77) fun v78 h =>
  fst (kIdxA h 7 v78 v7) fun v80 h =>
  fst (kLdn h 7 v80) fun v81 h =>
  fst (kNew h S71.z0) fun v8 h =>
  fst (kSt h 7 v8 v81) fun _ h =>
  o71_s7 cl N v1 v5 v6 v7 v8 h) (
  some ((.exit 2), [v1, v5, v6, v7], [v1, .undef, v6], h))
def o71_s8 (cl : Handler) (N : Nat) (c0 c1 c2 c3 c4 : Rec) (v1 v2 v151 : AV) (h : AH) : Ans :=
  fdp h (kFldA h 2 v1) .pure fun v152 c5 h =>
  fdp h (kLd1 h v152) (rdK (rdv v152)) fun v153 c6 h =>
  fdp h (kLen h v153) .pure fun v154 c7 h =>
  fdp h (kArith h .eql v151 v154) .pure fun v155 c8 h =>
  fdp h (kMov h v155) .pure fun v2 c9 h =>
  cond (fchk [c0, c1, c2, c3, c4, c5, c6, c7, c8, c9] [(3, 6)]) (some (.nrm, [], [v2], h)) none
def o71_c14 (cl : Handler) (N : Nat) (v1 v2 v6 : AV) (h : AH) : Ans :=
  fst (kFldA h 2 v1) fun v142 h =>
  fst (kLd1 h v142) fun v143 h =>
  fst (kLen h v143) fun v144 h =>
  fst (kArith h .sub v144 (.int .i64 1)) fun v145 h =>
  fst (kArith h .neq v6 v145) fun v146 h =>
  fif v146 (
  some (.nrm, [], [(.bool false)], h)) (
  fdr h 10 fun r h =>
  fdp h (kLdn h 3 v1) (rdK (rdv v1)) fun v147 c0 h =>
  fdp h (kFldA h 0 v1) .pure fun v148 c1 h =>
  fdp h (kLd1 h v148) (rdK (rdv v148)) fun v149 c2 h =>
  fde h (cl 92 [v147, v149, (.nilsl)] h) fun v150 c3 h =>
  fdp h (kLen h v150) .pure fun v151 c4 h =>
  o71_s8 cl N c0 c1 c2 c3 c4 v1 v2 v151 h)
def o71_j15 (cl : Handler) (N : Nat) (x : AX) (v1 v2 v6 : AV) (h : AH) : Ans :=
  fxs x (o71_c14 cl N v1 v2 v6 h) (fun j => cond (Nat.beq j 2) (o71_c14 cl N v1 v2 v6 h) (none)) (some (.nrm, [], [v2], h))
def o71_c16 (cl : Handler) (N : Nat) (v1 : AV) (h : AH) : Ans :=
  fst (kLdn h 3 v1) fun v64 h =>
  fst (kFldA h 0 v1) fun v65 h =>
  fst (kLd1 h v65) fun v66 h =>
  fst (cl 40 [v64, v66] h) fun v67 h =>
  fst (kArith h .lss v67 (.int .i64 0)) fun v69 h =>
  fif v69 (
  some (.nrm, [], [(.bool false)], h)) (
  fjn (fiter (fun vs h => o71_l13 cl N (nthD vs 0) (nthD vs 1) (nthD vs 2) (nthD vs 3) h) N [v1, v67, (.int .i64 0), (.int .i64 0)] h) fun x vs h => o71_j15 cl N x (nthD vs 0) (nthD vs 1) (nthD vs 2) h)
def o71_j17 (cl : Handler) (N : Nat) (x : AX) (v1 v2 : AV) (h : AH) : Ans :=
  fxs x (o71_c16 cl N v1 h) (fun j => cond (Nat.beq j 0) (o71_c16 cl N v1 h) (none)) (some (.nrm, [], [v2], h))
def o71_j18 (cl : Handler) (N : Nat) (v1 v31 : AV) (h : AH) : Ans :=
  fif v31 (
  some (.nrm, [], [(.bool false)], h)) (
  fjn (fiter (fun vs h => o71_l4 cl N (nthD vs 0) (nthD vs 1) (nthD vs 2) h) N [v1, (.int .i64 0), (.int .i64 0)] h) fun x vs h => o71_j17 cl N x (nthD vs 0) (nthD vs 1) h)
def o71 (cl : Handler) (N : Nat) (v0 : AV) (h : AH) : Ans :=
  fst (kBox h v0) fun v1 h =>
  fjn (o71_a1 cl N v1 h) fun _ vs h => o71_j18 cl N (nthD vs 0) (nthD vs 1) h
theorem o71_eq (cl : Handler) (N : Nat) (v0 : AV) (h : AH) : frun cl N S71 [v0] h = fans (o71 cl N v0 h) := by kernel_rfl
def w71 (N : Nat) : OF := fun cl args h => match args with
  | [v0] => fans (o71 cl N v0 h)
  | _ => none
theorem w71_ok (N : Nat) : OkF Tryz.prog 71 (w71 N) := .of (N := N) (S71_ok) fun cl args h r hr => by
  unfold w71 at hr
  split at hr
  · exact (o71_eq cl N _ _).trans hr
  · cases hr

def otr2 (N : Nat) : OT := .node 61 (.node 53 (.node 50 (.node 49 (.one 48 (w48 N)) (.one 49 (w49 N))) (.node 51 (.one 50 (w50 N)) (.node 52 (.one 51 (w51 N)) (.one 52 (w52 N))))) (.node 57 (.node 56 (.one 53 (w53 N)) (.one 56 (w56 N))) (.node 58 (.one 57 (w57 N)) (.node 60 (.one 58 (w58 N)) (.one 60 (w60 N)))))) (.node 66 (.node 63 (.node 62 (.one 61 (w61 N)) (.one 62 (w62 N))) (.node 64 (.one 63 (w63 N)) (.node 65 (.one 64 (w64 N)) (.one 65 (w65 N))))) (.node 68 (.node 67 (.one 66 (w66 N)) (.one 67 (w67 N))) (.node 69 (.one 68 (w68 N)) (.node 71 (.one 69 (w69 N)) (.one 71 (w71 N))))))
theorem otr2_ok (N : Nat) : (otr2 N).Ok Tryz.prog := ⟨⟨⟨⟨w48_ok N, w49_ok N⟩, ⟨w50_ok N, ⟨w51_ok N, w52_ok N⟩⟩⟩, ⟨⟨w53_ok N, w56_ok N⟩, ⟨w57_ok N, ⟨w58_ok N, w60_ok N⟩⟩⟩⟩, ⟨⟨⟨w61_ok N, w62_ok N⟩, ⟨w63_ok N, ⟨w64_ok N, w65_ok N⟩⟩⟩, ⟨⟨w66_ok N, w67_ok N⟩, ⟨w68_ok N, ⟨w69_ok N, w71_ok N⟩⟩⟩⟩⟩

end Go.Proofs.YtoibclpbkjbnbaaGreat
end
