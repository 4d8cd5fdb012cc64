/- The functions that measure the contrast of two colors, in the program and in the reference; written by a program. What these functions compute: the contrast of two colors. -/
import Derived.Test.YtoibclpbkjbnbaaGreatDoorEngP
import Derived.Test.YtoibclpbkjbnbaaGreatDoorProg
import Derived.KernelRfl
import Derived.Laws.BitsLemmas
set_option linter.unusedSimpArgs false
set_option linter.unusedVariables false
set_option linter.unnecessarySimpa false
noncomputable section
namespace Go.Proofs.YtoibclpbkjbnbaaGreatDoor
open Go.Eng
set_option maxRecDepth 100000
/- widgetry/theme.Contrast -/
def S29.r0 : List AOpr := [
  ⟨some 4, .mov (.const (.int .i64 0)), none⟩]
def S29.r1 : List (AOpr × Option Nat) := [
  (⟨some 7, .mov (.tmp 0), none⟩, none),
  (⟨some 8, .call (.const (.func (.func 74) [] [])) [.tmp 7], none⟩, none),
  (⟨some 9, .un .not (.tmp 8), none⟩, none),
  (⟨some 10, .mov (.tmp 9), none⟩, none),
  (⟨some 11, .mov (.tmp 1), some (10, false)⟩, some 10),
  (⟨some 12, .call (.const (.func (.func 74) [] [])) [.tmp 11], some (10, false)⟩, none),
  (⟨some 13, .un .not (.tmp 12), some (10, false)⟩, none),
  (⟨some 14, .pick (.tmp 10) (.const (.bool true)) (.tmp 13), none⟩, none)]
def S29.r2 : List AOpr := [
  ⟨some 4, .mov (.const (.int .i64 0)), none⟩]
def S29.r3 : List AOpr := [
  ⟨some 15, .mov (.tmp 0), none⟩,
  ⟨some 16, .call (.const (.func (.func 75) [] [])) [.tmp 15], none⟩,
  ⟨some 17, .mov (.tmp 1), none⟩,
  ⟨some 18, .call (.const (.func (.func 75) [] [])) [.tmp 17], none⟩,
  ⟨some 5, .mov (.tmp 16), none⟩,
  ⟨some 6, .mov (.tmp 18), none⟩]
def S29.r4 : List AOpr := [
  ⟨some 19, .mov (.tmp 5), none⟩,
  ⟨some 20, .mov (.tmp 6), none⟩,
  ⟨some 21, .mnmx true (.tmp 19) (.tmp 20), none⟩,
  ⟨some 22, .arith .add (.tmp 21) (.const (.int .i64 50)), none⟩,
  ⟨some 23, .arith .mul (.tmp 22) (.const (.int .i64 100)), none⟩,
  ⟨some 24, .mov (.tmp 5), none⟩,
  ⟨some 25, .mov (.tmp 6), none⟩,
  ⟨some 26, .mnmx false (.tmp 24) (.tmp 25), none⟩,
  ⟨some 27, .arith .add (.tmp 26) (.const (.int .i64 50)), none⟩,
  ⟨some 28, .call (.const (.func (.func 76) [] [])) [.tmp 23, .tmp 27], none⟩,
  ⟨some 4, .mov (.tmp 28), none⟩]
def S29 : SFn := ⟨29, [.tmp 4], .seq (.reg S29.r0) (.seq (.seq (.joinN [0, 1, 14] (.regS S29.r1)) (.cond (.tmp 14) (.seq (.reg S29.r2) (.ret)) (.skip))) (.seq (.reg S29.r3) (.seq (.reg S29.r4) (.ret))))⟩
theorem S29_ok : cFn Tryz.prog Tryz.f29 = some S29.erase := by kernel_rfl
def g29_s1 (cl : CL) (v0 v1 v8 : AV) (h : AH) (k : List AV → AH → Prop) : Prop :=
  wk (kUn h .not v8) fun v9 h =>
  wsp v9 fun v10 =>
  wg (gdv false v10) (fun k => k v1 h) h fun v11 h =>
  wg (gdv false v10) (fun k => wcall cl (.func (.func 74) [] []) [v11] h k) h fun v12 h =>
  wg (gdv false v10) (fun k => wk (kUn h .not v12) k) h fun v13 h =>
  wk (kPick h v10 (.bool true) v13) fun v14 h =>
  k [v0, v1, v14] h
def g29_a1 (cl : CL) (v0 v1 : AV) (h : AH) (k : List AV → AH → Prop) : Prop :=
  wcall cl (.func (.func 74) [] []) [v0] h fun v8 h =>
  g29_s1 cl (v0) (v1) (v8) h k
def g29_s2 (cl : CL) (v1 v16 : AV) (h : AH) (Q : AV → AH → Prop) : Prop :=
  wcall cl (.func (.func 75) [] []) [v1] h fun v18 h =>
  wk (kMnmx h true v16 v18) fun v21 h =>
  wk (kArith h .add v21 (.int .i64 50)) fun v22 h =>
  wk (kArith h .mul v22 (.int .i64 100)) fun v23 h =>
  wk (kMnmx h false v16 v18) fun v26 h =>
  wk (kArith h .add v26 (.int .i64 50)) fun v27 h =>
  wcall cl (.func (.func 76) [] []) [v23, v27] h fun v28 h =>
  Q (v28) h
def g29_j2 (cl : CL) (v0 v1 v14 : AV) (h : AH) (Q : AV → AH → Prop) : Prop :=
  wif v14 (
  Q ((.int .i64 0)) h) (
  wcall cl (.func (.func 75) [] []) [v0] h fun v16 h =>
  g29_s2 cl (v1) (v16) h Q)
def g29 (cl : CL) (v0 v1 : AV) (h : AH) (Q : AV → AH → Prop) : Prop :=
  wjoinN (g29_a1 cl (v0) (v1) h) fun vs h => g29_j2 cl (nthD vs 0) (nthD vs 1) (nthD vs 2) h Q
theorem g29_eq (cl : CL) (v0 v1 : AV) (h : AH) (Q : AV → AH → Prop) : wrun cl S29 [v0, v1] h Q = g29 cl v0 v1 h Q := by kernel_rfl
theorem C29 {cl : CL} (hcl : CLOk Tryz.prog cl) {v0 v1 : AV} {h : AH} {Q : AV → AH → Prop} (hg : g29 cl v0 v1 h Q) : CallsA Tryz.prog 29 [v0, v1] h Q := wfn_ok hcl (f := 29) (fn := Tryz.f29) (by kernel_rfl) S29_ok (by decide) (by kernel_rfl) (its_nil (by kernel_rfl)) (by rw [g29_eq]; exact hg)

/- widgetry/theme.color -/
def S74.r0 : List AOpr := [
  ⟨some 2, .mov (.const (.bool false)), none⟩]
def S74.r1 : List (AOpr × Option Nat) := [
  (⟨some 3, .mov (.tmp 0), none⟩, none),
  (⟨some 4, .arith .geq (.tmp 3) (.const (.int .i64 0)), none⟩, none),
  (⟨some 5, .mov (.tmp 4), none⟩, none),
  (⟨some 6, .mov (.tmp 0), some (5, true)⟩, some 5),
  (⟨some 7, .arith .leq (.tmp 6) (.const (.int .i64 16777215)), some (5, true)⟩, none),
  (⟨some 8, .pick (.tmp 5) (.tmp 7) (.const (.bool false)), none⟩, none),
  (⟨some 2, .mov (.tmp 8), none⟩, none)]
def S74 : SFn := ⟨9, [.tmp 2], .seq (.reg S74.r0) (.seq (.regS S74.r1) (.ret))⟩
theorem S74_ok : cFn Tryz.prog Tryz.f74 = some S74.erase := by kernel_rfl
def g74 (cl : CL) (v0 : AV) (h : AH) (Q : AV → AH → Prop) : Prop :=
  wk (kArith h .geq v0 (.int .i64 0)) fun v4 h =>
  wsp v4 fun v5 =>
  wg (gdv true v5) (fun k => k v0 h) h fun v6 h =>
  wg (gdv true v5) (fun k => wk (kArith h .leq v6 (.int .i64 16777215)) k) h fun v7 h =>
  wk (kPick h v5 v7 (.bool false)) fun v8 h =>
  Q (v8) h
theorem g74_eq (cl : CL) (v0 : AV) (h : AH) (Q : AV → AH → Prop) : wrun cl S74 [v0] h Q = g74 cl v0 h Q := by kernel_rfl
theorem C74 {cl : CL} (hcl : CLOk Tryz.prog cl) {v0 : AV} {h : AH} {Q : AV → AH → Prop} (hg : g74 cl v0 h Q) : CallsA Tryz.prog 74 [v0] h Q := wfn_ok hcl (f := 74) (fn := Tryz.f74) (by kernel_rfl) S74_ok (by decide) (by kernel_rfl) (its_nil (by kernel_rfl)) (by rw [g74_eq]; exact hg)

/- widgetry/theme.Luminance -/
def S75.r0 : List AOpr := [
  ⟨some 2, .mov (.const (.int .i64 0)), none⟩]
def S75.r1 : List AOpr := [
  ⟨some 6, .mov (.tmp 0), none⟩,
  ⟨some 7, .call (.const (.func (.func 74) [] [])) [.tmp 6], none⟩,
  ⟨some 8, .un .not (.tmp 7), none⟩]
def S75.r2 : List AOpr := [
  ⟨some 2, .mov (.const (.int .i64 0)), none⟩]
def S75.r3 : List AOpr := [
  ⟨some 9, .mov (.tmp 0), none⟩,
  ⟨some 10, .arith .shr (.tmp 9) (.const (.int .u64 16)), none⟩,
  ⟨some 11, .mov (.tmp 0), none⟩,
  ⟨some 12, .arith .shr (.tmp 11) (.const (.int .u64 8)), none⟩,
  ⟨some 13, .arith .and (.tmp 12) (.const (.int .i64 255)), none⟩,
  ⟨some 14, .mov (.tmp 0), none⟩,
  ⟨some 15, .arith .and (.tmp 14) (.const (.int .i64 255)), none⟩,
  ⟨some 3, .mov (.tmp 10), none⟩,
  ⟨some 4, .mov (.tmp 13), none⟩,
  ⟨some 5, .mov (.tmp 15), none⟩]
def S75.r4 : List AOpr := [
  ⟨some 16, .mov (.tmp 3), none⟩,
  ⟨some 17, .arith .mul (.const (.int .i64 2126)) (.tmp 16), none⟩,
  ⟨some 18, .mov (.tmp 3), none⟩,
  ⟨some 19, .arith .mul (.tmp 17) (.tmp 18), none⟩,
  ⟨some 20, .mov (.tmp 4), none⟩,
  ⟨some 21, .arith .mul (.const (.int .i64 7152)) (.tmp 20), none⟩,
  ⟨some 22, .mov (.tmp 4), none⟩,
  ⟨some 23, .arith .mul (.tmp 21) (.tmp 22), none⟩,
  ⟨some 24, .arith .add (.tmp 19) (.tmp 23), none⟩,
  ⟨some 25, .mov (.tmp 5), none⟩,
  ⟨some 26, .arith .mul (.const (.int .i64 722)) (.tmp 25), none⟩,
  ⟨some 27, .mov (.tmp 5), none⟩,
  ⟨some 28, .arith .mul (.tmp 26) (.tmp 27), none⟩,
  ⟨some 29, .arith .add (.tmp 24) (.tmp 28), none⟩,
  ⟨some 30, .call (.const (.func (.func 76) [] [])) [.tmp 29, .const (.int .i64 650250)], none⟩,
  ⟨some 2, .mov (.tmp 30), none⟩]
def S75 : SFn := ⟨31, [.tmp 2], .seq (.reg S75.r0) (.seq (.seq (.reg S75.r1) (.cond (.tmp 8) (.seq (.reg S75.r2) (.ret)) (.skip))) (.seq (.reg S75.r3) (.seq (.reg S75.r4) (.ret))))⟩
theorem S75_ok : cFn Tryz.prog Tryz.f75 = some S75.erase := by kernel_rfl
def g75_s1 (cl : CL) (v4 v5 v19 : AV) (h : AH) (Q : AV → AH → Prop) : Prop :=
  wk (kArith h .mul (.int .i64 7152) v4) fun v21 h =>
  wk (kArith h .mul v21 v4) fun v23 h =>
  wk (kArith h .add v19 v23) fun v24 h =>
  wk (kArith h .mul (.int .i64 722) v5) fun v26 h =>
  wk (kArith h .mul v26 v5) fun v28 h =>
  wk (kArith h .add v24 v28) fun v29 h =>
  wcall cl (.func (.func 76) [] []) [v29, (.int .i64 650250)] h fun v30 h =>
  Q (v30) h
def g75 (cl : CL) (v0 : AV) (h : AH) (Q : AV → AH → Prop) : Prop :=
  wcall cl (.func (.func 74) [] []) [v0] h fun v7 h =>
  wk (kUn h .not v7) fun v8 h =>
  wif v8 (
  Q ((.int .i64 0)) h) (
  wk (kArith h .shr v0 (.int .u64 16)) fun v10 h =>
  wk (kArith h .shr v0 (.int .u64 8)) fun v12 h =>
  wk (kArith h .and v12 (.int .i64 255)) fun v13 h =>
  wk (kArith h .and v0 (.int .i64 255)) fun v15 h =>
  wk (kArith h .mul (.int .i64 2126) v10) fun v17 h =>
  wk (kArith h .mul v17 v10) fun v19 h =>
  g75_s1 cl (v13) (v15) (v19) h Q)
theorem g75_eq (cl : CL) (v0 : AV) (h : AH) (Q : AV → AH → Prop) : wrun cl S75 [v0] h Q = g75 cl v0 h Q := by kernel_rfl
theorem C75 {cl : CL} (hcl : CLOk Tryz.prog cl) {v0 : AV} {h : AH} {Q : AV → AH → Prop} (hg : g75 cl v0 h Q) : CallsA Tryz.prog 75 [v0] h Q := wfn_ok hcl (f := 75) (fn := Tryz.f75) (by kernel_rfl) S75_ok (by decide) (by kernel_rfl) (its_nil (by kernel_rfl)) (by rw [g75_eq]; exact hg)

/- widgetry/fixed.Floor -/
def S76.r0 : List AOpr := [
  ⟨some 4, .mov (.const (.int .i64 0)), none⟩]
def S76.r1 : List AOpr := [
  ⟨some 6, .mov (.tmp 0), none⟩,
  ⟨some 7, .mov (.tmp 1), none⟩,
  ⟨some 8, .call (.const (.func (.func 124) [] [])) [.tmp 6, .tmp 7], none⟩,
  ⟨some 9, .un .not (.tmp 8), none⟩,
  ⟨some 5, .mov (.tmp 9), none⟩]
def S76.r2 : List AOpr := [
  ⟨some 4, .mov (.const (.int .i64 0)), none⟩]
def S76.r3 : List AOpr := [
  ⟨some 11, .mov (.tmp 1), none⟩,
  ⟨some 12, .arith .lss (.tmp 11) (.const (.int .i64 0)), none⟩,
  ⟨some 10, .mov (.tmp 12), none⟩]
def S76.r4 : List AOpr := [
  ⟨some 13, .mov (.tmp 0), none⟩,
  ⟨some 14, .un .neg (.tmp 13), none⟩,
  ⟨some 15, .mov (.tmp 1), none⟩,
  ⟨some 16, .un .neg (.tmp 15), none⟩,
  ⟨some 17, .call (.const (.func (.func 125) [] [])) [.tmp 14, .tmp 16], none⟩,
  ⟨some 4, .mov (.tmp 17), none⟩]
def S76.r5 : List AOpr := [
  ⟨some 18, .mov (.tmp 0), none⟩,
  ⟨some 19, .mov (.tmp 1), none⟩,
  ⟨some 20, .call (.const (.func (.func 125) [] [])) [.tmp 18, .tmp 19], none⟩,
  ⟨some 4, .mov (.tmp 20), none⟩]
def S76 : SFn := ⟨21, [.tmp 4], .seq (.reg S76.r0) (.seq (.block 0 (.seq (.reg S76.r1) (.cond (.tmp 5) (.seq (.reg S76.r2) (.ret)) (.seq (.reg S76.r3) (.cond (.tmp 10) (.seq (.reg S76.r4) (.ret)) (.skip)))))) (.seq (.reg S76.r5) (.ret)))⟩
theorem S76_ok : cFn Tryz.prog Tryz.f76 = some S76.erase := by kernel_rfl
def g76 (cl : CL) (v0 v1 : AV) (h : AH) (Q : AV → AH → Prop) : Prop :=
  wcall cl (.func (.func 124) [] []) [v0, v1] h fun v8 h =>
  wk (kUn h .not v8) fun v9 h =>
  wif v9 (
  Q ((.int .i64 0)) h) (
  wk (kArith h .lss v1 (.int .i64 0)) fun v12 h =>
  wif v12 (
  wk (kUn h .neg v0) fun v14 h =>
  wk (kUn h .neg v1) fun v16 h =>
  wcall cl (.func (.func 125) [] []) [v14, v16] h fun v17 h =>
  Q (v17) h) (
  wcall cl (.func (.func 125) [] []) [v0, v1] h fun v20 h =>
  Q (v20) h))
theorem g76_eq (cl : CL) (v0 v1 : AV) (h : AH) (Q : AV → AH → Prop) : wrun cl S76 [v0, v1] h Q = g76 cl v0 v1 h Q := by kernel_rfl
theorem C76 {cl : CL} (hcl : CLOk Tryz.prog cl) {v0 v1 : AV} {h : AH} {Q : AV → AH → Prop} (hg : g76 cl v0 v1 h Q) : CallsA Tryz.prog 76 [v0, v1] h Q := wfn_ok hcl (f := 76) (fn := Tryz.f76) (by kernel_rfl) S76_ok (by decide) (by kernel_rfl) (its_nil (by kernel_rfl)) (by rw [g76_eq]; exact hg)

/- widgetry/fixed.ok -/
def S124.r0 : List AOpr := [
  ⟨some 4, .mov (.const (.bool false)), none⟩]
def S124.r1 : List (AOpr × Option Nat) := [
  (⟨some 5, .mov (.tmp 1), none⟩, none),
  (⟨some 6, .arith .neq (.tmp 5) (.const (.int .i64 0)), none⟩, none),
  (⟨some 7, .mov (.tmp 6), none⟩, none),
  (⟨some 8, .mov (.tmp 0), some (7, true)⟩, some 7),
  (⟨some 9, .arith .geq (.tmp 8) (.const (.int .i64 (-1152921504606846976))), some (7, true)⟩, none),
  (⟨some 10, .pick (.tmp 7) (.tmp 9) (.const (.bool false)), none⟩, none),
  (⟨some 11, .mov (.tmp 10), none⟩, none),
  (⟨some 12, .mov (.tmp 0), some (11, true)⟩, some 11),
  (⟨some 13, .arith .leq (.tmp 12) (.const (.int .i64 1152921504606846976)), some (11, true)⟩, none),
  (⟨some 14, .pick (.tmp 11) (.tmp 13) (.const (.bool false)), none⟩, none),
  (⟨some 15, .mov (.tmp 14), none⟩, none),
  (⟨some 16, .mov (.tmp 1), some (15, true)⟩, some 15),
  (⟨some 17, .arith .geq (.tmp 16) (.const (.int .i64 (-1152921504606846976))), some (15, true)⟩, none),
  (⟨some 18, .pick (.tmp 15) (.tmp 17) (.const (.bool false)), none⟩, none),
  (⟨some 19, .mov (.tmp 18), none⟩, none),
  (⟨some 20, .mov (.tmp 1), some (19, true)⟩, some 19),
  (⟨some 21, .arith .leq (.tmp 20) (.const (.int .i64 1152921504606846976)), some (19, true)⟩, none),
  (⟨some 22, .pick (.tmp 19) (.tmp 21) (.const (.bool false)), none⟩, none),
  (⟨some 4, .mov (.tmp 22), none⟩, none)]
def S124 : SFn := ⟨23, [.tmp 4], .seq (.reg S124.r0) (.seq (.regS S124.r1) (.ret))⟩
theorem S124_ok : cFn Tryz.prog Tryz.f124 = some S124.erase := by kernel_rfl
def g124_s1 (cl : CL) (v1 v15 v16 : AV) (h : AH) (Q : AV → AH → Prop) : Prop :=
  wg (gdv true v15) (fun k => wk (kArith h .geq v16 (.int .i64 (-1152921504606846976))) k) h fun v17 h =>
  wk (kPick h v15 v17 (.bool false)) fun v18 h =>
  wsp v18 fun v19 =>
  wg (gdv true v19) (fun k => k v1 h) h fun v20 h =>
  wg (gdv true v19) (fun k => wk (kArith h .leq v20 (.int .i64 1152921504606846976)) k) h fun v21 h =>
  wk (kPick h v19 v21 (.bool false)) fun v22 h =>
  Q (v22) h
def g124 (cl : CL) (v0 v1 : AV) (h : AH) (Q : AV → AH → Prop) : Prop :=
  wk (kArith h .neq v1 (.int .i64 0)) fun v6 h =>
  wsp v6 fun v7 =>
  wg (gdv true v7) (fun k => k v0 h) h fun v8 h =>
  wg (gdv true v7) (fun k => wk (kArith h .geq v8 (.int .i64 (-1152921504606846976))) k) h fun v9 h =>
  wk (kPick h v7 v9 (.bool false)) fun v10 h =>
  wsp v10 fun v11 =>
  wg (gdv true v11) (fun k => k v0 h) h fun v12 h =>
  wg (gdv true v11) (fun k => wk (kArith h .leq v12 (.int .i64 1152921504606846976)) k) h fun v13 h =>
  wk (kPick h v11 v13 (.bool false)) fun v14 h =>
  wsp v14 fun v15 =>
  wg (gdv true v15) (fun k => k v1 h) h fun v16 h =>
  g124_s1 cl (v1) (v15) (v16) h Q
theorem g124_eq (cl : CL) (v0 v1 : AV) (h : AH) (Q : AV → AH → Prop) : wrun cl S124 [v0, v1] h Q = g124 cl v0 v1 h Q := by kernel_rfl
theorem C124 {cl : CL} (hcl : CLOk Tryz.prog cl) {v0 v1 : AV} {h : AH} {Q : AV → AH → Prop} (hg : g124 cl v0 v1 h Q) : CallsA Tryz.prog 124 [v0, v1] h Q := wfn_ok hcl (f := 124) (fn := Tryz.f124) (by kernel_rfl) S124_ok (by decide) (by kernel_rfl) (its_nil (by kernel_rfl)) (by rw [g124_eq]; exact hg)

/- widgetry/fixed.floor -/
def S125.r0 : List AOpr := [
  ⟨some 4, .mov (.const (.int .i64 0)), none⟩]
def S125.r1 : List AOpr := [
  ⟨some 6, .mov (.tmp 0), none⟩,
  ⟨some 7, .mov (.tmp 1), none⟩,
  ⟨some 8, .arith .quo (.tmp 6) (.tmp 7), none⟩,
  ⟨some 5, .mov (.tmp 8), none⟩]
def S125.r2 : List AOpr := [
  ⟨some 9, .mov (.tmp 0), none⟩,
  ⟨some 10, .mov (.tmp 1), none⟩,
  ⟨some 11, .arith .rem (.tmp 9) (.tmp 10), none⟩,
  ⟨some 12, .arith .lss (.tmp 11) (.const (.int .i64 0)), none⟩]
def S125.r3 : List AOpr := [
  ⟨some 13, .mov (.tmp 5), none⟩,
  ⟨some 14, .arith .sub (.tmp 13) (.const (.int .i64 1)), none⟩,
  ⟨some 5, .mov (.tmp 14), none⟩]
def S125.r4 : List AOpr := [
  ⟨some 15, .mov (.tmp 5), none⟩,
  ⟨some 4, .mov (.tmp 15), none⟩]
def S125 : SFn := ⟨16, [.tmp 4], .seq (.reg S125.r0) (.seq (.reg S125.r1) (.seq (.seq (.reg S125.r2) (.joinN [5] (.cond (.tmp 12) (.reg S125.r3) (.skip)))) (.seq (.reg S125.r4) (.ret))))⟩
theorem S125_ok : cFn Tryz.prog Tryz.f125 = some S125.erase := by kernel_rfl
def g125_a1 (cl : CL) (v5 v12 : AV) (h : AH) (k : List AV → AH → Prop) : Prop :=
  wif v12 (
  wk (kArith h .sub v5 (.int .i64 1)) fun v14 h =>
  k [v14] h) (
  k [v5] h)
def g125_j2 (cl : CL) (v5 : AV) (h : AH) (Q : AV → AH → Prop) : Prop :=
  Q (v5) h
def g125 (cl : CL) (v0 v1 : AV) (h : AH) (Q : AV → AH → Prop) : Prop :=
  wk (kArith h .quo v0 v1) fun v8 h =>
  wk (kArith h .rem v0 v1) fun v11 h =>
  wk (kArith h .lss v11 (.int .i64 0)) fun v12 h =>
  wjoinN (g125_a1 cl (v8) (v12) h) fun vs h => g125_j2 cl (nthD vs 0) h Q
theorem g125_eq (cl : CL) (v0 v1 : AV) (h : AH) (Q : AV → AH → Prop) : wrun cl S125 [v0, v1] h Q = g125 cl v0 v1 h Q := by kernel_rfl
theorem C125 {cl : CL} (hcl : CLOk Tryz.prog cl) {v0 v1 : AV} {h : AH} {Q : AV → AH → Prop} (hg : g125 cl v0 v1 h Q) : CallsA Tryz.prog 125 [v0, v1] h Q := wfn_ok hcl (f := 125) (fn := Tryz.f125) (by kernel_rfl) S125_ok (by decide) (by kernel_rfl) (its_nil (by kernel_rfl)) (by rw [g125_eq]; exact hg)

/- widgetry/widgetryref16.Contrast -/
def S11.r0 : List AOpr := [
  ⟨some 4, .mov (.const (.int .i64 0)), none⟩]
def S11.r1 : List (AOpr × Option Nat) := [
  (⟨some 7, .mov (.tmp 0), none⟩, none),
  (⟨some 8, .call (.const (.func (.func 31) [] [])) [.tmp 7], none⟩, none),
  (⟨some 9, .un .not (.tmp 8), none⟩, none),
  (⟨some 10, .mov (.tmp 9), none⟩, none),
  (⟨some 11, .mov (.tmp 1), some (10, false)⟩, some 10),
  (⟨some 12, .call (.const (.func (.func 31) [] [])) [.tmp 11], some (10, false)⟩, none),
  (⟨some 13, .un .not (.tmp 12), some (10, false)⟩, none),
  (⟨some 14, .pick (.tmp 10) (.const (.bool true)) (.tmp 13), none⟩, none)]
def S11.r2 : List AOpr := [
  ⟨some 4, .mov (.const (.int .i64 0)), none⟩]
def S11.r3 : List AOpr := [
  ⟨some 15, .mov (.tmp 0), none⟩,
  ⟨some 16, .call (.const (.func (.func 32) [] [])) [.tmp 15], none⟩,
  ⟨some 17, .mov (.tmp 1), none⟩,
  ⟨some 18, .call (.const (.func (.func 32) [] [])) [.tmp 17], none⟩,
  ⟨some 19, .mnmx true (.tmp 16) (.tmp 18), none⟩,
  ⟨some 20, .mov (.tmp 0), none⟩,
  ⟨some 21, .call (.const (.func (.func 32) [] [])) [.tmp 20], none⟩,
  ⟨some 22, .mov (.tmp 1), none⟩,
  ⟨some 23, .call (.const (.func (.func 32) [] [])) [.tmp 22], none⟩,
  ⟨some 24, .mnmx false (.tmp 21) (.tmp 23), none⟩,
  ⟨some 5, .mov (.tmp 19), none⟩,
  ⟨some 6, .mov (.tmp 24), none⟩]
def S11.r4 : List AOpr := [
  ⟨some 25, .mov (.tmp 5), none⟩,
  ⟨some 26, .arith .add (.tmp 25) (.const (.int .i64 50)), none⟩,
  ⟨some 27, .arith .mul (.tmp 26) (.const (.int .i64 100)), none⟩,
  ⟨some 28, .mov (.tmp 6), none⟩,
  ⟨some 29, .arith .add (.tmp 28) (.const (.int .i64 50)), none⟩,
  ⟨some 30, .call (.const (.func (.func 33) [] [])) [.tmp 27, .tmp 29], none⟩,
  ⟨some 4, .mov (.tmp 30), none⟩]
def S11 : SFn := ⟨31, [.tmp 4], .seq (.reg S11.r0) (.seq (.seq (.joinN [0, 1, 14] (.regS S11.r1)) (.cond (.tmp 14) (.seq (.reg S11.r2) (.ret)) (.skip))) (.seq (.reg S11.r3) (.seq (.reg S11.r4) (.ret))))⟩
theorem S11_ok : cFn Tryz.prog Tryz.f11 = some S11.erase := by kernel_rfl
def g11_s1 (cl : CL) (v0 v1 v8 : AV) (h : AH) (k : List AV → AH → Prop) : Prop :=
  wk (kUn h .not v8) fun v9 h =>
  wsp v9 fun v10 =>
  wg (gdv false v10) (fun k => k v1 h) h fun v11 h =>
  wg (gdv false v10) (fun k => wcall cl (.func (.func 31) [] []) [v11] h k) h fun v12 h =>
  wg (gdv false v10) (fun k => wk (kUn h .not v12) k) h fun v13 h =>
  wk (kPick h v10 (.bool true) v13) fun v14 h =>
  k [v0, v1, v14] h
def g11_a1 (cl : CL) (v0 v1 : AV) (h : AH) (k : List AV → AH → Prop) : Prop :=
  wcall cl (.func (.func 31) [] []) [v0] h fun v8 h =>
  g11_s1 cl (v0) (v1) (v8) h k
def g11_s2 (cl : CL) (v19 v21 v23 : AV) (h : AH) (Q : AV → AH → Prop) : Prop :=
  wk (kMnmx h false v21 v23) fun v24 h =>
  wk (kArith h .add v19 (.int .i64 50)) fun v26 h =>
  wk (kArith h .mul v26 (.int .i64 100)) fun v27 h =>
  wk (kArith h .add v24 (.int .i64 50)) fun v29 h =>
  wcall cl (.func (.func 33) [] []) [v27, v29] h fun v30 h =>
  Q (v30) h
def g11_s3 (cl : CL) (v1 v19 v21 : AV) (h : AH) (Q : AV → AH → Prop) : Prop :=
  wcall cl (.func (.func 32) [] []) [v1] h fun v23 h =>
  g11_s2 cl (v19) (v21) (v23) h Q
def g11_s4 (cl : CL) (v0 v1 v16 v18 : AV) (h : AH) (Q : AV → AH → Prop) : Prop :=
  wk (kMnmx h true v16 v18) fun v19 h =>
  wcall cl (.func (.func 32) [] []) [v0] h fun v21 h =>
  g11_s3 cl (v1) (v19) (v21) h Q
def g11_s5 (cl : CL) (v0 v1 v16 : AV) (h : AH) (Q : AV → AH → Prop) : Prop :=
  wcall cl (.func (.func 32) [] []) [v1] h fun v18 h =>
  g11_s4 cl (v0) (v1) (v16) (v18) h Q
def g11_j2 (cl : CL) (v0 v1 v14 : AV) (h : AH) (Q : AV → AH → Prop) : Prop :=
  wif v14 (
  Q ((.int .i64 0)) h) (
  wcall cl (.func (.func 32) [] []) [v0] h fun v16 h =>
  g11_s5 cl (v0) (v1) (v16) h Q)
def g11 (cl : CL) (v0 v1 : AV) (h : AH) (Q : AV → AH → Prop) : Prop :=
  wjoinN (g11_a1 cl (v0) (v1) h) fun vs h => g11_j2 cl (nthD vs 0) (nthD vs 1) (nthD vs 2) h Q
theorem g11_eq (cl : CL) (v0 v1 : AV) (h : AH) (Q : AV → AH → Prop) : wrun cl S11 [v0, v1] h Q = g11 cl v0 v1 h Q := by kernel_rfl
theorem C11 {cl : CL} (hcl : CLOk Tryz.prog cl) {v0 v1 : AV} {h : AH} {Q : AV → AH → Prop} (hg : g11 cl v0 v1 h Q) : CallsA Tryz.prog 11 [v0, v1] h Q := wfn_ok hcl (f := 11) (fn := Tryz.f11) (by kernel_rfl) S11_ok (by decide) (by kernel_rfl) (its_nil (by kernel_rfl)) (by rw [g11_eq]; exact hg)

/- widgetry/widgetryref16.valid -/
def S31.r0 : List AOpr := [
  ⟨some 2, .mov (.const (.bool false)), none⟩]
def S31.r1 : List (AOpr × Option Nat) := [
  (⟨some 3, .mov (.tmp 0), none⟩, none),
  (⟨some 4, .arith .geq (.tmp 3) (.const (.int .i64 0)), none⟩, none),
  (⟨some 5, .mov (.tmp 4), none⟩, none),
  (⟨some 6, .mov (.tmp 0), some (5, true)⟩, some 5),
  (⟨some 7, .arith .leq (.tmp 6) (.const (.int .i64 16777215)), some (5, true)⟩, none),
  (⟨some 8, .pick (.tmp 5) (.tmp 7) (.const (.bool false)), none⟩, none),
  (⟨some 2, .mov (.tmp 8), none⟩, none)]
def S31 : SFn := ⟨9, [.tmp 2], .seq (.reg S31.r0) (.seq (.regS S31.r1) (.ret))⟩
theorem S31_ok : cFn Tryz.prog Tryz.f31 = some S31.erase := by kernel_rfl
def g31 (cl : CL) (v0 : AV) (h : AH) (Q : AV → AH → Prop) : Prop :=
  wk (kArith h .geq v0 (.int .i64 0)) fun v4 h =>
  wsp v4 fun v5 =>
  wg (gdv true v5) (fun k => k v0 h) h fun v6 h =>
  wg (gdv true v5) (fun k => wk (kArith h .leq v6 (.int .i64 16777215)) k) h fun v7 h =>
  wk (kPick h v5 v7 (.bool false)) fun v8 h =>
  Q (v8) h
theorem g31_eq (cl : CL) (v0 : AV) (h : AH) (Q : AV → AH → Prop) : wrun cl S31 [v0] h Q = g31 cl v0 h Q := by kernel_rfl
theorem C31 {cl : CL} (hcl : CLOk Tryz.prog cl) {v0 : AV} {h : AH} {Q : AV → AH → Prop} (hg : g31 cl v0 h Q) : CallsA Tryz.prog 31 [v0] h Q := wfn_ok hcl (f := 31) (fn := Tryz.f31) (by kernel_rfl) S31_ok (by decide) (by kernel_rfl) (its_nil (by kernel_rfl)) (by rw [g31_eq]; exact hg)

/- widgetry/widgetryref16.Luminance -/
def S32.r0 : List AOpr := [
  ⟨some 2, .mov (.const (.int .i64 0)), none⟩]
def S32.r1 : List AOpr := [
  ⟨some 6, .mov (.tmp 0), none⟩,
  ⟨some 7, .call (.const (.func (.func 31) [] [])) [.tmp 6], none⟩,
  ⟨some 8, .un .not (.tmp 7), none⟩]
def S32.r2 : List AOpr := [
  ⟨some 2, .mov (.const (.int .i64 0)), none⟩]
def S32.r3 : List AOpr := [
  ⟨some 9, .mov (.tmp 0), none⟩,
  ⟨some 10, .arith .shr (.tmp 9) (.const (.int .u64 16)), none⟩,
  ⟨some 11, .mov (.tmp 0), none⟩,
  ⟨some 12, .arith .shr (.tmp 11) (.const (.int .u64 8)), none⟩,
  ⟨some 13, .arith .and (.tmp 12) (.const (.int .i64 255)), none⟩,
  ⟨some 14, .mov (.tmp 0), none⟩,
  ⟨some 15, .arith .and (.tmp 14) (.const (.int .i64 255)), none⟩,
  ⟨some 3, .mov (.tmp 10), none⟩,
  ⟨some 4, .mov (.tmp 13), none⟩,
  ⟨some 5, .mov (.tmp 15), none⟩]
def S32.r4 : List AOpr := [
  ⟨some 16, .mov (.tmp 3), none⟩,
  ⟨some 17, .arith .mul (.const (.int .i64 2126)) (.tmp 16), none⟩,
  ⟨some 18, .mov (.tmp 3), none⟩,
  ⟨some 19, .arith .mul (.tmp 17) (.tmp 18), none⟩,
  ⟨some 20, .mov (.tmp 4), none⟩,
  ⟨some 21, .arith .mul (.const (.int .i64 7152)) (.tmp 20), none⟩,
  ⟨some 22, .mov (.tmp 4), none⟩,
  ⟨some 23, .arith .mul (.tmp 21) (.tmp 22), none⟩,
  ⟨some 24, .arith .add (.tmp 19) (.tmp 23), none⟩,
  ⟨some 25, .mov (.tmp 5), none⟩,
  ⟨some 26, .arith .mul (.const (.int .i64 722)) (.tmp 25), none⟩,
  ⟨some 27, .mov (.tmp 5), none⟩,
  ⟨some 28, .arith .mul (.tmp 26) (.tmp 27), none⟩,
  ⟨some 29, .arith .add (.tmp 24) (.tmp 28), none⟩,
  ⟨some 30, .call (.const (.func (.func 33) [] [])) [.tmp 29, .const (.int .i64 650250)], none⟩,
  ⟨some 2, .mov (.tmp 30), none⟩]
def S32 : SFn := ⟨31, [.tmp 2], .seq (.reg S32.r0) (.seq (.seq (.reg S32.r1) (.cond (.tmp 8) (.seq (.reg S32.r2) (.ret)) (.skip))) (.seq (.reg S32.r3) (.seq (.reg S32.r4) (.ret))))⟩
theorem S32_ok : cFn Tryz.prog Tryz.f32 = some S32.erase := by kernel_rfl
def g32_s1 (cl : CL) (v4 v5 v19 : AV) (h : AH) (Q : AV → AH → Prop) : Prop :=
  wk (kArith h .mul (.int .i64 7152) v4) fun v21 h =>
  wk (kArith h .mul v21 v4) fun v23 h =>
  wk (kArith h .add v19 v23) fun v24 h =>
  wk (kArith h .mul (.int .i64 722) v5) fun v26 h =>
  wk (kArith h .mul v26 v5) fun v28 h =>
  wk (kArith h .add v24 v28) fun v29 h =>
  wcall cl (.func (.func 33) [] []) [v29, (.int .i64 650250)] h fun v30 h =>
  Q (v30) h
def g32 (cl : CL) (v0 : AV) (h : AH) (Q : AV → AH → Prop) : Prop :=
  wcall cl (.func (.func 31) [] []) [v0] h fun v7 h =>
  wk (kUn h .not v7) fun v8 h =>
  wif v8 (
  Q ((.int .i64 0)) h) (
  wk (kArith h .shr v0 (.int .u64 16)) fun v10 h =>
  wk (kArith h .shr v0 (.int .u64 8)) fun v12 h =>
  wk (kArith h .and v12 (.int .i64 255)) fun v13 h =>
  wk (kArith h .and v0 (.int .i64 255)) fun v15 h =>
  wk (kArith h .mul (.int .i64 2126) v10) fun v17 h =>
  wk (kArith h .mul v17 v10) fun v19 h =>
  g32_s1 cl (v13) (v15) (v19) h Q)
theorem g32_eq (cl : CL) (v0 : AV) (h : AH) (Q : AV → AH → Prop) : wrun cl S32 [v0] h Q = g32 cl v0 h Q := by kernel_rfl
theorem C32 {cl : CL} (hcl : CLOk Tryz.prog cl) {v0 : AV} {h : AH} {Q : AV → AH → Prop} (hg : g32 cl v0 h Q) : CallsA Tryz.prog 32 [v0] h Q := wfn_ok hcl (f := 32) (fn := Tryz.f32) (by kernel_rfl) S32_ok (by decide) (by kernel_rfl) (its_nil (by kernel_rfl)) (by rw [g32_eq]; exact hg)

/- widgetry/widgetryref01.Floor -/
def S33.r0 : List AOpr := [
  ⟨some 4, .mov (.const (.int .i64 0)), none⟩]
def S33.r1 : List (AOpr × Option Nat) := [
  (⟨some 6, .mov (.tmp 1), none⟩, none),
  (⟨some 7, .arith .eql (.tmp 6) (.const (.int .i64 0)), none⟩, none),
  (⟨some 8, .mov (.tmp 7), none⟩, none),
  (⟨some 9, .mov (.tmp 0), some (8, false)⟩, some 8),
  (⟨some 10, .arith .lss (.tmp 9) (.const (.int .i64 (-1152921504606846976))), some (8, false)⟩, none),
  (⟨some 11, .pick (.tmp 8) (.const (.bool true)) (.tmp 10), none⟩, none),
  (⟨some 12, .mov (.tmp 11), none⟩, none),
  (⟨some 13, .mov (.tmp 0), some (12, false)⟩, some 12),
  (⟨some 14, .arith .gtr (.tmp 13) (.const (.int .i64 1152921504606846976)), some (12, false)⟩, none),
  (⟨some 15, .pick (.tmp 12) (.const (.bool true)) (.tmp 14), none⟩, none),
  (⟨some 16, .mov (.tmp 15), none⟩, none),
  (⟨some 17, .mov (.tmp 1), some (16, false)⟩, some 16),
  (⟨some 18, .arith .lss (.tmp 17) (.const (.int .i64 (-1152921504606846976))), some (16, false)⟩, none),
  (⟨some 19, .pick (.tmp 16) (.const (.bool true)) (.tmp 18), none⟩, none),
  (⟨some 20, .mov (.tmp 19), none⟩, none),
  (⟨some 21, .mov (.tmp 1), some (20, false)⟩, some 20),
  (⟨some 22, .arith .gtr (.tmp 21) (.const (.int .i64 1152921504606846976)), some (20, false)⟩, none),
  (⟨some 23, .pick (.tmp 20) (.const (.bool true)) (.tmp 22), none⟩, none)]
def S33.r2 : List AOpr := [
  ⟨some 4, .mov (.const (.int .i64 0)), none⟩]
def S33.r3 : List AOpr := [
  ⟨some 24, .mov (.tmp 0), none⟩,
  ⟨some 25, .mov (.tmp 1), none⟩,
  ⟨some 26, .arith .quo (.tmp 24) (.tmp 25), none⟩,
  ⟨some 5, .mov (.tmp 26), none⟩]
def S33.r4 : List (AOpr × Option Nat) := [
  (⟨some 27, .mov (.tmp 0), none⟩, none),
  (⟨some 28, .mov (.tmp 1), none⟩, none),
  (⟨some 29, .arith .rem (.tmp 27) (.tmp 28), none⟩, none),
  (⟨some 30, .arith .neq (.tmp 29) (.const (.int .i64 0)), none⟩, none),
  (⟨some 31, .mov (.tmp 30), none⟩, none),
  (⟨some 32, .mov (.tmp 0), some (31, true)⟩, some 31),
  (⟨some 33, .arith .lss (.tmp 32) (.const (.int .i64 0)), some (31, true)⟩, none),
  (⟨some 34, .mov (.tmp 1), some (31, true)⟩, none),
  (⟨some 35, .arith .lss (.tmp 34) (.const (.int .i64 0)), some (31, true)⟩, none),
  (⟨some 36, .eqs true (.tmp 33) (.tmp 35), some (31, true)⟩, none),
  (⟨some 37, .pick (.tmp 31) (.tmp 36) (.const (.bool false)), none⟩, none)]
def S33.r5 : List AOpr := [
  ⟨some 38, .mov (.tmp 5), none⟩,
  ⟨some 39, .arith .sub (.tmp 38) (.const (.int .i64 1)), none⟩,
  ⟨some 5, .mov (.tmp 39), none⟩]
def S33.r6 : List AOpr := [
  ⟨some 40, .mov (.tmp 5), none⟩,
  ⟨some 4, .mov (.tmp 40), none⟩]
def S33 : SFn := ⟨41, [.tmp 4], .seq (.reg S33.r0) (.seq (.seq (.joinN [0, 1, 23] (.regS S33.r1)) (.cond (.tmp 23) (.seq (.reg S33.r2) (.ret)) (.skip))) (.seq (.reg S33.r3) (.seq (.seq (.joinN [5, 37] (.regS S33.r4)) (.joinN [5] (.cond (.tmp 37) (.reg S33.r5) (.skip)))) (.seq (.reg S33.r6) (.ret)))))⟩
theorem S33_ok : cFn Tryz.prog Tryz.f33 = some S33.erase := by kernel_rfl
def g33_s1 (cl : CL) (v0 v1 v16 v17 : AV) (h : AH) (k : List AV → AH → Prop) : Prop :=
  wg (gdv false v16) (fun k => wk (kArith h .lss v17 (.int .i64 (-1152921504606846976))) k) h fun v18 h =>
  wk (kPick h v16 (.bool true) v18) fun v19 h =>
  wsp v19 fun v20 =>
  wg (gdv false v20) (fun k => k v1 h) h fun v21 h =>
  wg (gdv false v20) (fun k => wk (kArith h .gtr v21 (.int .i64 1152921504606846976)) k) h fun v22 h =>
  wk (kPick h v20 (.bool true) v22) fun v23 h =>
  k [v0, v1, v23] h
def g33_a1 (cl : CL) (v0 v1 : AV) (h : AH) (k : List AV → AH → Prop) : Prop :=
  wk (kArith h .eql v1 (.int .i64 0)) fun v7 h =>
  wsp v7 fun v8 =>
  wg (gdv false v8) (fun k => k v0 h) h fun v9 h =>
  wg (gdv false v8) (fun k => wk (kArith h .lss v9 (.int .i64 (-1152921504606846976))) k) h fun v10 h =>
  wk (kPick h v8 (.bool true) v10) fun v11 h =>
  wsp v11 fun v12 =>
  wg (gdv false v12) (fun k => k v0 h) h fun v13 h =>
  wg (gdv false v12) (fun k => wk (kArith h .gtr v13 (.int .i64 1152921504606846976)) k) h fun v14 h =>
  wk (kPick h v12 (.bool true) v14) fun v15 h =>
  wsp v15 fun v16 =>
  wg (gdv false v16) (fun k => k v1 h) h fun v17 h =>
  g33_s1 cl (v0) (v1) (v16) (v17) h k
def g33_a2 (cl : CL) (v0 v1 v5 : AV) (h : AH) (k : List AV → AH → Prop) : Prop :=
  wk (kArith h .rem v0 v1) fun v29 h =>
  wk (kArith h .neq v29 (.int .i64 0)) fun v30 h =>
  wsp v30 fun v31 =>
  wg (gdv true v31) (fun k => k v0 h) h fun v32 h =>
  wg (gdv true v31) (fun k => wk (kArith h .lss v32 (.int .i64 0)) k) h fun v33 h =>
  wg (gdv true v31) (fun k => k v1 h) h fun v34 h =>
  wg (gdv true v31) (fun k => wk (kArith h .lss v34 (.int .i64 0)) k) h fun v35 h =>
  wg (gdv true v31) (fun k => wk (kEqs h true v33 v35) k) h fun v36 h =>
  wk (kPick h v31 v36 (.bool false)) fun v37 h =>
  k [v5, v37] h
def g33_a3 (cl : CL) (v5 v37 : AV) (h : AH) (k : List AV → AH → Prop) : Prop :=
  wif v37 (
  wk (kArith h .sub v5 (.int .i64 1)) fun v39 h =>
  k [v39] h) (
  k [v5] h)
def g33_j4 (cl : CL) (v5 : AV) (h : AH) (Q : AV → AH → Prop) : Prop :=
  Q (v5) h
def g33_j5 (cl : CL) (v5 v37 : AV) (h : AH) (Q : AV → AH → Prop) : Prop :=
  wjoinN (g33_a3 cl (v5) (v37) h) fun vs h => g33_j4 cl (nthD vs 0) h Q
def g33_j6 (cl : CL) (v0 v1 v23 : AV) (h : AH) (Q : AV → AH → Prop) : Prop :=
  wif v23 (
  Q ((.int .i64 0)) h) (
  wk (kArith h .quo v0 v1) fun v26 h =>
  wjoinN (g33_a2 cl (v0) (v1) (v26) h) fun vs h => g33_j5 cl (nthD vs 0) (nthD vs 1) h Q)
def g33 (cl : CL) (v0 v1 : AV) (h : AH) (Q : AV → AH → Prop) : Prop :=
  wjoinN (g33_a1 cl (v0) (v1) h) fun vs h => g33_j6 cl (nthD vs 0) (nthD vs 1) (nthD vs 2) h Q
theorem g33_eq (cl : CL) (v0 v1 : AV) (h : AH) (Q : AV → AH → Prop) : wrun cl S33 [v0, v1] h Q = g33 cl v0 v1 h Q := by kernel_rfl
theorem C33 {cl : CL} (hcl : CLOk Tryz.prog cl) {v0 v1 : AV} {h : AH} {Q : AV → AH → Prop} (hg : g33 cl v0 v1 h Q) : CallsA Tryz.prog 33 [v0, v1] h Q := wfn_ok hcl (f := 33) (fn := Tryz.f33) (by kernel_rfl) S33_ok (by decide) (by kernel_rfl) (its_nil (by kernel_rfl)) (by rw [g33_eq]; exact hg)

end Go.Proofs.YtoibclpbkjbnbaaGreatDoor
end
noncomputable section
namespace Go.Proofs.YtoibclpbkjbnbaaGreatDoor
open Go.Eng
abbrev I (n : Int) : AV := .int .i64 n
theorem cI (n : Int) : Closed (I n) := .int _ _
theorem kshr16 (h : AH) (n : Int) : kArith h .shr (I n) (.int .u64 16) = some (I (n / 65536), h) := by
  simp [kArith, aarith, isShift, ishift, IntKind.bits, Int.fdiv_eq_ediv_of_nonneg]
theorem kshr8 (h : AH) (n : Int) : kArith h .shr (I n) (.int .u64 8) = some (I (n / 256), h) := by
  simp [kArith, aarith, isShift, ishift, IntKind.bits, Int.fdiv_eq_ediv_of_nonneg]
theorem kand (h : AH) (n : Int) (h0 : 0 ≤ n) (h1 : n ≤ 4294967295) : kArith h .and (I n) (I 255) = some (I (n % 256), h) := by
  obtain ⟨m, rfl⟩ : ∃ m : Nat, n = m := ⟨n.toNat, by omega⟩
  have := bits_mask .i64 63 (by decide) (fun n a b => by simp only [IntKind.wrap, IntKind.bits, IntKind.signed]; simp; omega) 8 (by decide) m (by omega) (by omega)
  exact Eq.trans (b := some (I (bits .and .i64 m (2 ^ 8 - 1)), h)) (by rfl) (congrArg (fun x => some (I x, h)) this)
theorem kmulS (h : AH) (a b : Int) (a0 : 0 ≤ a) (a1 : a ≤ 100000000) (b0 : 0 ≤ b) (b1 : b ≤ 1000000) : kArith h .mul (I a) (I b) = some (I (a * b), h) := by
  have h1 : a * b ≤ 100000000 * 1000000 := Int.mul_le_mul a1 b1 b0 (by omega)
  have h0 : 0 ≤ a * b := Int.mul_nonneg a0 b0
  exact kArith_mul h a b (by omega) (by omega)
theorem kmx (h : AH) (a b : Int) : kMnmx h true (I a) (I b) = some (I (if a < b then b else a), h) := by simp [kMnmx]
theorem kmn (h : AH) (a b : Int) : kMnmx h false (I a) (I b) = some (I (if b < a then b else a), h) := by simp [kMnmx]
def isCol (n : Int) : Bool := decide (0 ≤ n) && decide (n ≤ 16777215)
theorem color_c (n : Int) : Pure Tryz.prog 74 [I n] (.bool (isCol n)) := by
  refine .of (by simp [cI]) (C74 (tb_ok []) ?_)
  simp (disch := first | omega | (simp; done) | fail) [g74, -Int.not_le, -Int.not_lt]
  grind [isCol]
def e74 : QE Tryz.prog := .pure 74 (fun (n : Int) => [I n]) (fun (n : Int) => True) (fun (n : Int) => .bool (isCol n)) (fun n _ => color_c n)
@[simp ↓] theorem e74_h (l : List (QE Tryz.prog)) (args : List AV) (h : AH) (Q : AV → AH → Prop) : tb (e74 :: l) 74 args h Q = e74.q args h Q := tb_here e74 l 74 args h Q rfl
@[simp ↓] theorem e74_t (l : List (QE Tryz.prog)) (f : Nat) (args : List AV) (h : AH) (Q : AV → AH → Prop) (hf : 74 ≠ f) : tb (e74 :: l) f args h Q = tb l f args h Q := tb_there e74 l f args h Q hf
@[simp ↓] theorem e74_q (n : Int) (h : AH) (Q : AV → AH → Prop) : e74.q [I n] h Q = Q (.bool (isCol n)) h := (QE.pure_q (x := n) (by rintro _ h; simp at h; simp [h]) h Q).trans (by simp)
theorem valid_c (n : Int) : Pure Tryz.prog 31 [I n] (.bool (isCol n)) := by
  refine .of (by simp [cI]) (C31 (tb_ok []) ?_)
  simp (disch := first | omega | (simp; done) | fail) [g31, -Int.not_le, -Int.not_lt]
  grind [isCol]
def e31 : QE Tryz.prog := .pure 31 (fun (n : Int) => [I n]) (fun (n : Int) => True) (fun (n : Int) => .bool (isCol n)) (fun n _ => valid_c n)
@[simp ↓] theorem e31_h (l : List (QE Tryz.prog)) (args : List AV) (h : AH) (Q : AV → AH → Prop) : tb (e31 :: l) 31 args h Q = e31.q args h Q := tb_here e31 l 31 args h Q rfl
@[simp ↓] theorem e31_t (l : List (QE Tryz.prog)) (f : Nat) (args : List AV) (h : AH) (Q : AV → AH → Prop) (hf : 31 ≠ f) : tb (e31 :: l) f args h Q = tb l f args h Q := tb_there e31 l f args h Q hf
@[simp ↓] theorem e31_q (n : Int) (h : AH) (Q : AV → AH → Prop) : e31.q [I n] h Q = Q (.bool (isCol n)) h := (QE.pure_q (x := n) (by rintro _ h; simp at h; simp [h]) h Q).trans (by simp)
def Fl (a b : Int) : Prop := 0 ≤ a ∧ a ≤ 1000000000000 ∧ 1 ≤ b ∧ b ≤ 1000000000000
theorem ok_c (a b : Int) (hf : Fl a b) : Pure Tryz.prog 124 [I a, I b] (.bool true) := by
  unfold Fl at hf
  refine .of (by simp [cI]) (C124 (tb_ok []) ?_)
  simp (disch := first | omega | (simp; done) | fail) [g124, g124_s1, -Int.not_le, -Int.not_lt]
  grind
def e124 : QE Tryz.prog := .pure 124 (fun (((a, b)) : Int × Int) => [I a, I b]) (fun (((a, b)) : Int × Int) => Fl a b) (fun (((a, b)) : Int × Int) => .bool true) (fun ⟨a, b⟩ hx => ok_c a b hx)
@[simp ↓] theorem e124_h (l : List (QE Tryz.prog)) (args : List AV) (h : AH) (Q : AV → AH → Prop) : tb (e124 :: l) 124 args h Q = e124.q args h Q := tb_here e124 l 124 args h Q rfl
@[simp ↓] theorem e124_t (l : List (QE Tryz.prog)) (f : Nat) (args : List AV) (h : AH) (Q : AV → AH → Prop) (hf : 124 ≠ f) : tb (e124 :: l) f args h Q = tb l f args h Q := tb_there e124 l f args h Q hf
@[simp ↓] theorem e124_q (a : Int) (b : Int) (h : AH) (Q : AV → AH → Prop) : e124.q [I a, I b] h Q = ((Fl a b) ∧ Q (.bool true) h) := (QE.pure_q (x := (a, b)) (by rintro ⟨_, _⟩ h; simp at h; simp [h]) h Q)
theorem kquoN (h : AH) (a b : Int) (hf : Fl a b) : kArith h .quo (I a) (I b) = some (I (a / b), h) := by
  unfold Fl at hf
  have e1 : a.tdiv b = a / b := Int.tdiv_eq_ediv_of_nonneg hf.1
  have e4 : 0 ≤ a / b := Int.ediv_nonneg hf.1 (by omega)
  have e5 : a / b ≤ a := Int.ediv_le_self b hf.1
  rw [kArith_quo _ _ _ (by omega) (by rw [e1]; omega) (by rw [e1]; omega), e1]
theorem kremN (h : AH) (a b : Int) (hf : Fl a b) : kArith h .rem (I a) (I b) = some (I (a % b), h) := by
  unfold Fl at hf
  rw [kArith_rem _ _ _ _ (by omega), Int.tmod_eq_emod_of_nonneg hf.1]
theorem floor_c (a b : Int) (hf : Fl a b) : Pure Tryz.prog 125 [I a, I b] (I (a / b)) := by
  have e3 : 0 ≤ a % b := Int.emod_nonneg a (by unfold Fl at hf; omega)
  have e4 : 0 ≤ a / b := Int.ediv_nonneg hf.1 (by unfold Fl at hf; omega)
  refine .of (by simp [cI]) (C125 (tb_ok []) ?_)
  simp (disch := first | omega | (simp; done) | fail) [g125, fun h => kquoN h a b hf, fun h => kremN h a b hf, -Int.not_le, -Int.not_lt]
  refine ⟨fun vs h => vs = [I (a / b)] ∧ h = emp, ?_, ?_⟩
  · simp (disch := first | omega | (simp; done) | fail) [g125_a1, -Int.not_le, -Int.not_lt]
    omega
  · rintro vs h ⟨rfl, rfl⟩
    simp [g125_j2]
def e125 : QE Tryz.prog := .pure 125 (fun (((a, b)) : Int × Int) => [I a, I b]) (fun (((a, b)) : Int × Int) => Fl a b) (fun (((a, b)) : Int × Int) => I (a / b)) (fun ⟨a, b⟩ hx => floor_c a b hx)
@[simp ↓] theorem e125_h (l : List (QE Tryz.prog)) (args : List AV) (h : AH) (Q : AV → AH → Prop) : tb (e125 :: l) 125 args h Q = e125.q args h Q := tb_here e125 l 125 args h Q rfl
@[simp ↓] theorem e125_q (a : Int) (b : Int) (h : AH) (Q : AV → AH → Prop) : e125.q [I a, I b] h Q = ((Fl a b) ∧ Q (I (a / b)) h) := (QE.pure_q (x := (a, b)) (by rintro ⟨_, _⟩ h; simp at h; simp [h]) h Q)
theorem Floor_c (a b : Int) (hf : Fl a b) : Pure Tryz.prog 76 [I a, I b] (I (a / b)) := by
  have hb : ¬ b < 0 := by unfold Fl at hf; omega
  refine .of (by simp [cI]) (C76 (tb_ok [e124, e125]) ?_)
  simp (disch := first | omega | (simp; done) | fail) [g76, hf, hb, -Int.not_le, -Int.not_lt]
def e76 : QE Tryz.prog := .pure 76 (fun (((a, b)) : Int × Int) => [I a, I b]) (fun (((a, b)) : Int × Int) => Fl a b) (fun (((a, b)) : Int × Int) => I (a / b)) (fun ⟨a, b⟩ hx => Floor_c a b hx)
@[simp ↓] theorem e76_h (l : List (QE Tryz.prog)) (args : List AV) (h : AH) (Q : AV → AH → Prop) : tb (e76 :: l) 76 args h Q = e76.q args h Q := tb_here e76 l 76 args h Q rfl
@[simp ↓] theorem e76_q (a : Int) (b : Int) (h : AH) (Q : AV → AH → Prop) : e76.q [I a, I b] h Q = ((Fl a b) ∧ Q (I (a / b)) h) := (QE.pure_q (x := (a, b)) (by rintro ⟨_, _⟩ h; simp at h; simp [h]) h Q)
theorem rFloor_c (a b : Int) (hf : Fl a b) : Pure Tryz.prog 33 [I a, I b] (I (a / b)) := by
  have e3 : 0 ≤ a % b := Int.emod_nonneg a (by unfold Fl at hf; omega)
  have e4 : 0 ≤ a / b := Int.ediv_nonneg hf.1 (by unfold Fl at hf; omega)
  have hf' := hf
  unfold Fl at hf'
  refine .of (by simp [cI]) (C33 (tb_ok []) ?_)
  simp only [g33]
  refine ⟨fun vs h => vs = [I a, I b, .bool false] ∧ h = emp, ?_, ?_⟩
  · simp (disch := first | omega | (simp; done) | fail) [g33_a1, g33_s1, -Int.not_le, -Int.not_lt]
    grind
  · rintro vs h ⟨rfl, rfl⟩
    simp (disch := first | omega | (simp; done) | fail) [g33_j6, fun h => kquoN h a b hf, -Int.not_le, -Int.not_lt]
    refine ⟨fun vs h => vs = [I (a / b), .bool false] ∧ h = emp, ?_, ?_⟩
    · simp (disch := first | omega | (simp; done) | fail) [g33_a2, fun h => kremN h a b hf, -Int.not_le, -Int.not_lt]
      grind
    · rintro vs h ⟨rfl, rfl⟩
      simp [g33_j5]
      refine ⟨fun vs h => vs = [I (a / b)] ∧ h = emp, ?_, ?_⟩
      · simp [g33_a3]
      · rintro vs h ⟨rfl, rfl⟩
        simp [g33_j4]
def e33 : QE Tryz.prog := .pure 33 (fun (((a, b)) : Int × Int) => [I a, I b]) (fun (((a, b)) : Int × Int) => Fl a b) (fun (((a, b)) : Int × Int) => I (a / b)) (fun ⟨a, b⟩ hx => rFloor_c a b hx)
@[simp ↓] theorem e33_h (l : List (QE Tryz.prog)) (args : List AV) (h : AH) (Q : AV → AH → Prop) : tb (e33 :: l) 33 args h Q = e33.q args h Q := tb_here e33 l 33 args h Q rfl
@[simp ↓] theorem e33_q (a : Int) (b : Int) (h : AH) (Q : AV → AH → Prop) : e33.q [I a, I b] h Q = ((Fl a b) ∧ Q (I (a / b)) h) := (QE.pure_q (x := (a, b)) (by rintro ⟨_, _⟩ h; simp at h; simp [h]) h Q)
def lum (n : Int) : Int := (2126 * (n / 65536) * (n / 65536) + 7152 * (n / 256 % 256) * (n / 256 % 256) + 722 * (n % 256) * (n % 256)) / 650250
def Col (n : Int) : Prop := 0 ≤ n ∧ n ≤ 16777215
theorem sq_le (c r : Int) (hc : 0 ≤ c) (h0 : 0 ≤ r) (h1 : r ≤ 255) : 0 ≤ c * r * r ∧ c * r * r ≤ c * 65025 := by
  have h2 : r * r ≤ 255 * 255 := Int.mul_le_mul h1 h1 h0 (by omega)
  have h3 : 0 ≤ r * r := Int.mul_nonneg h0 h0
  rw [Int.mul_assoc]
  exact ⟨Int.mul_nonneg hc h3, Int.mul_le_mul_of_nonneg_left (by omega) hc⟩
theorem lum_bd (n : Int) (hn : Col n) : 0 ≤ lum n ∧ lum n ≤ 1000 := by
  unfold Col at hn
  have b1 := sq_le 2126 (n / 65536) (by omega) (by omega) (by omega)
  have b2 := sq_le 7152 (n / 256 % 256) (by omega) (by omega) (by omega)
  have b3 := sq_le 722 (n % 256) (by omega) (by omega) (by omega)
  unfold lum
  omega
theorem lum_c (n : Int) (hn : Col n) : Pure Tryz.prog 75 [I n] (I (lum n)) := by
  have hn' := hn
  unfold Col at hn'
  have b1 := sq_le 2126 (n / 65536) (by omega) (by omega) (by omega)
  have b2 := sq_le 7152 (n / 256 % 256) (by omega) (by omega) (by omega)
  have b3 := sq_le 722 (n % 256) (by omega) (by omega) (by omega)
  have hc : isCol n = true := by simp [isCol]; omega
  have hf : Fl (2126 * (n / 65536) * (n / 65536) + 7152 * (n / 256 % 256) * (n / 256 % 256) + 722 * (n % 256) * (n % 256)) 650250 := by unfold Fl; omega
  refine .of (by simp [cI]) (C75 (tb_ok [e74, e76]) ?_)
  simp (disch := first | omega | (simp; done) | fail) [g75, hc, kshr16, kshr8, kand, kmulS, -Int.not_le, -Int.not_lt]
  simp (disch := first | omega | (simp; done) | fail) [g75_s1, kmulS, hf, -Int.not_le, -Int.not_lt]
  simp [lum]
def e75 : QE Tryz.prog := .pure 75 (fun (n : Int) => [I n]) (fun (n : Int) => Col n) (fun (n : Int) => I (lum n)) (fun n hx => lum_c n hx)
@[simp ↓] theorem e75_h (l : List (QE Tryz.prog)) (args : List AV) (h : AH) (Q : AV → AH → Prop) : tb (e75 :: l) 75 args h Q = e75.q args h Q := tb_here e75 l 75 args h Q rfl
@[simp ↓] theorem e75_t (l : List (QE Tryz.prog)) (f : Nat) (args : List AV) (h : AH) (Q : AV → AH → Prop) (hf : 75 ≠ f) : tb (e75 :: l) f args h Q = tb l f args h Q := tb_there e75 l f args h Q hf
@[simp ↓] theorem e75_q (n : Int) (h : AH) (Q : AV → AH → Prop) : e75.q [I n] h Q = ((Col n) ∧ Q (I (lum n)) h) := (QE.pure_q (x := n) (by rintro _ h; simp at h; simp [h]) h Q)
theorem rlum_c (n : Int) (hn : Col n) : Pure Tryz.prog 32 [I n] (I (lum n)) := by
  have hn' := hn
  unfold Col at hn'
  have b1 := sq_le 2126 (n / 65536) (by omega) (by omega) (by omega)
  have b2 := sq_le 7152 (n / 256 % 256) (by omega) (by omega) (by omega)
  have b3 := sq_le 722 (n % 256) (by omega) (by omega) (by omega)
  have hc : isCol n = true := by simp [isCol]; omega
  have hf : Fl (2126 * (n / 65536) * (n / 65536) + 7152 * (n / 256 % 256) * (n / 256 % 256) + 722 * (n % 256) * (n % 256)) 650250 := by unfold Fl; omega
  refine .of (by simp [cI]) (C32 (tb_ok [e31, e33]) ?_)
  simp (disch := first | omega | (simp; done) | fail) [g32, hc, kshr16, kshr8, kand, kmulS, -Int.not_le, -Int.not_lt]
  simp (disch := first | omega | (simp; done) | fail) [g32_s1, kmulS, hf, -Int.not_le, -Int.not_lt]
  simp [lum]
def e32 : QE Tryz.prog := .pure 32 (fun (n : Int) => [I n]) (fun (n : Int) => Col n) (fun (n : Int) => I (lum n)) (fun n hx => rlum_c n hx)
@[simp ↓] theorem e32_h (l : List (QE Tryz.prog)) (args : List AV) (h : AH) (Q : AV → AH → Prop) : tb (e32 :: l) 32 args h Q = e32.q args h Q := tb_here e32 l 32 args h Q rfl
@[simp ↓] theorem e32_t (l : List (QE Tryz.prog)) (f : Nat) (args : List AV) (h : AH) (Q : AV → AH → Prop) (hf : 32 ≠ f) : tb (e32 :: l) f args h Q = tb l f args h Q := tb_there e32 l f args h Q hf
@[simp ↓] theorem e32_q (n : Int) (h : AH) (Q : AV → AH → Prop) : e32.q [I n] h Q = ((Col n) ∧ Q (I (lum n)) h) := (QE.pure_q (x := n) (by rintro _ h; simp at h; simp [h]) h Q)
def mxI (a b : Int) : Int := if a < b then b else a
def mnI (a b : Int) : Int := if b < a then b else a
def con (a b : Int) : Int := (mxI (lum a) (lum b) + 50) * 100 / (mnI (lum a) (lum b) + 50)
theorem con_fl (a b : Int) (ha : Col a) (hb : Col b) : Fl ((mxI (lum a) (lum b) + 50) * 100) (mnI (lum a) (lum b) + 50) := by
  have h1 := lum_bd a ha
  have h2 := lum_bd b hb
  unfold Fl mxI mnI
  split <;> split <;> omega
theorem kmxI (h : AH) (a b : Int) : kMnmx h true (I a) (I b) = some (I (mxI a b), h) := kmx h a b
theorem kmnI (h : AH) (a b : Int) : kMnmx h false (I a) (I b) = some (I (mnI a b), h) := kmn h a b
theorem con_c (a b : Int) (ha : Col a) (hb : Col b) : Pure Tryz.prog 29 [I a, I b] (I (con a b)) := by
  have hca : isCol a = true := by unfold Col at ha; simp [isCol]; omega
  have hcb : isCol b = true := by unfold Col at hb; simp [isCol]; omega
  have h1 := lum_bd a ha
  have h2 := lum_bd b hb
  have h3 : 0 ≤ mxI (lum a) (lum b) ∧ mxI (lum a) (lum b) ≤ 1000 := by unfold mxI; split <;> omega
  have h4 : 0 ≤ mnI (lum a) (lum b) ∧ mnI (lum a) (lum b) ≤ 1000 := by unfold mnI; split <;> omega
  have hf := con_fl a b ha hb
  refine .of (by simp [cI]) (C29 (tb_ok [e74, e75, e76]) ?_)
  simp only [g29]
  refine ⟨fun vs h => vs = [I a, I b, .bool false] ∧ h = emp, ?_, ?_⟩
  · simp (disch := first | omega | (simp; done) | fail) [g29_a1, hca, hcb, -Int.not_le, -Int.not_lt]
    simp (disch := first | omega | (simp; done) | fail) [g29_s1, hca, hcb, -Int.not_le, -Int.not_lt]
  · rintro vs h ⟨rfl, rfl⟩
    simp (disch := first | omega | (simp; done) | fail) [g29_j2, ha, hb, -Int.not_le, -Int.not_lt]
    simp (disch := first | omega | (simp; done) | fail) [g29_s2, ha, hb, kmxI, kmnI, hf, -Int.not_le, -Int.not_lt]
    simp [con]
theorem rcon_c (a b : Int) (ha : Col a) (hb : Col b) : Pure Tryz.prog 11 [I a, I b] (I (con a b)) := by
  have hca : isCol a = true := by unfold Col at ha; simp [isCol]; omega
  have hcb : isCol b = true := by unfold Col at hb; simp [isCol]; omega
  have h1 := lum_bd a ha
  have h2 := lum_bd b hb
  have h3 : 0 ≤ mxI (lum a) (lum b) ∧ mxI (lum a) (lum b) ≤ 1000 := by unfold mxI; split <;> omega
  have h4 : 0 ≤ mnI (lum a) (lum b) ∧ mnI (lum a) (lum b) ≤ 1000 := by unfold mnI; split <;> omega
  have hf := con_fl a b ha hb
  refine .of (by simp [cI]) (C11 (tb_ok [e31, e32, e33]) ?_)
  simp only [g11]
  refine ⟨fun vs h => vs = [I a, I b, .bool false] ∧ h = emp, ?_, ?_⟩
  · simp (disch := first | omega | (simp; done) | fail) [g11_a1, hca, hcb, -Int.not_le, -Int.not_lt]
    simp (disch := first | omega | (simp; done) | fail) [g11_s1, hca, hcb, -Int.not_le, -Int.not_lt]
  · rintro vs h ⟨rfl, rfl⟩
    simp (disch := first | omega | (simp; done) | fail) [g11_j2, ha, hb, -Int.not_le, -Int.not_lt]
    simp (disch := first | omega | (simp; done) | fail) [g11_s5, ha, hb, -Int.not_le, -Int.not_lt]
    simp (disch := first | omega | (simp; done) | fail) [g11_s4, ha, hb, kmxI, -Int.not_le, -Int.not_lt]
    simp (disch := first | omega | (simp; done) | fail) [g11_s3, ha, hb, -Int.not_le, -Int.not_lt]
    simp (disch := first | omega | (simp; done) | fail) [g11_s2, ha, hb, kmnI, hf, -Int.not_le, -Int.not_lt]
    simp [con]
theorem lum_nat (n : Nat) : lum (n : Int) = (lumN n : Int) := by
  simp [lum, lumN, Int.natCast_add, Int.natCast_mul, Int.natCast_ediv, Int.natCast_emod]
theorem con_nat (a b : Nat) : con (a : Int) (b : Int) = (conN a b : Int) := by
  unfold con conN mxI mnI
  rw [lum_nat, lum_nat]
  by_cases h : lumN a < lumN b
  · rw [if_pos (by omega), if_pos h, if_neg (by omega), if_neg (by omega)]; simp only [Int.natCast_ediv, Int.natCast_mul, Int.natCast_add]; rfl
  · rw [if_neg (by omega), if_neg h]
    by_cases h2 : lumN b < lumN a
    · rw [if_pos (by omega), if_pos h2]; simp only [Int.natCast_ediv, Int.natCast_mul, Int.natCast_add]; rfl
    · rw [if_neg (by omega), if_neg h2]; simp only [Int.natCast_ediv, Int.natCast_mul, Int.natCast_add]; rfl
end Go.Proofs.YtoibclpbkjbnbaaGreatDoor
end
