/- Functions that a run executes, as code for the kernel, fourth part; printed by a program of ours. An iterator of slices of small numbers: its contract. -/
import Derived.Test.YtfegfialedlfcaaGreatDoorDsIts
import Derived.Test.YtfegfialedlfcaaGreatDoorProg
import Derived.KernelRfl
import Derived.RangeFuncBox
import Derived.RangeFuncLeaves
import Derived.Shelf.Abstract
import Derived.WalkKit
import Derived.OwnWalkIn
import Derived.TacticsInMore
import Derived.LoopNIn
import Derived.LoopIn
import Derived.Test.YtfegfialedlfcaaGreatDoorEngW
set_option linter.unusedSimpArgs false
set_option linter.unusedVariables false
set_option linter.unnecessarySimpa false
noncomputable section
namespace Go.Proofs.YtfegfialedlfcaaGreatDoor
open Go.Eng Go.Eng.DZ
set_option maxRecDepth 100000
/- widgetry/font.ordered -/
def A142 : AFn := ⟨99, [.tmp 2], q [r [o 1 (.box (t 0)), mv 2 ff], r [mv 3 (.const (.int .i32 (-1)))], q [r [fa 8 5 1, l 9 8, le 10 9, mv 11 (n 0)]] (.block 0 (.loop (q [r [ar 12 .lss (t 11) (t 10)],
  .cond (t 12) (sk) (.exit 0), .block 1 (q [r [ia 13 3 9 (t 11), ln 14 3 13, o 5 (.new [.int .i32 0, .int .i32 0, .int .i64 0]), s 3 5 14], q [r [fa 15 0 5,
  l 16 15, m 17 3, ar 18 .leq (t 16) (t 17), m 19 18, og 20 (.fldA 0 (t 5)) 19 false, og 21 (.ld1 (t 20)) 19 false, og 22 (.fldA 1 (t 5)) 19 false, og 23 (.ld1 (t 22)) 19 false,
  og 24 (.arith .gtr (t 21) (t 23)) 19 false, o 25 (.pick (t 19) tt (t 24))]] (.cond (t 25) (q [r [mv 2 ff]] (.ret)) (sk))] (r [fa 26 1 5, l 27 26, m 3 27]))] (r [ar 28 .add (t 11) (n 1),
  m 11 28])))), q [r [mv 6 (n 1)]] (.block 2 (.loop (q [q [r [m 29 6, fa 30 6 1, l 31 30, le 32 31, ar 33 .lss (t 29) (t 32)]] (.cond (t 33) (sk) (.exit 2)),
  .block 3 (q [d [(fa 36 6 1, 0), (l 37 36, 1), (m 38 6, 0), (ar 39 .sub (t 38) (n 1), 4), (ia 40 3 37 (t 39), 15), (fa 41 0 40, 31), (l 42 41, 63), (fa 43 6 1,
  0), (l 44 43, 128), (m 45 6, 0), (ar 46 .sub (t 45) (n 1), 512), (ia 47 3 44 (t 46), 1920), (fa 48 1 47, 3968), (l 49 48, 8064), (fa 50 6 1, 0), (l 51 50,
  16384), (m 52 6, 0), (ia 53 3 51 (t 52), 114688), (fa 54 0 53, 245760), (l 55 54, 507904), (fa 56 6 1, 0), (l 57 56, 1048576), (m 58 6, 0), (ia 59 3 57 (t 58),
  7340032), (fa 60 1 59, 15728640), (l 61 60, 32505856), (c 62 186 [t 42, t 49, t 55, t 61], 67108863), (ar 63 .geq (t 62) (n 0), 134217727)]] (.cond (t 63) (q [r [mv 2 ff]] (.ret)) (sk)))] (r [m 34 6,
  ar 35 .add (t 34) (n 1), m 6 35])))), q [r [mv 7 (n 1)]] (.block 4 (.loop (q [q [r [m 64 7, fa 65 7 1, l 66 65, le 67 66, ar 68 .lss (t 64) (t 67)]] (.cond (t 68) (sk) (.exit 4)),
  .block 5 (q [d [(fa 71 7 1, 0), (l 72 71, 1), (m 73 7, 0), (ar 74 .sub (t 73) (n 1), 4), (ia 75 4 72 (t 74), 15), (fa 76 0 75, 31), (l 77 76, 63), (fa 78 7 1,
  0), (l 79 78, 128), (m 80 7, 0), (ar 81 .sub (t 80) (n 1), 512), (ia 82 4 79 (t 81), 1920), (fa 83 1 82, 3968), (l 84 83, 8064), (fa 85 7 1, 0), (l 86 85,
  16384), (m 87 7, 0), (ia 88 4 86 (t 87), 114688), (fa 89 0 88, 245760), (l 90 89, 507904), (fa 91 7 1, 0), (l 92 91, 1048576), (m 93 7, 0), (ia 94 4 92 (t 93),
  7340032), (fa 95 1 94, 15728640), (l 96 95, 32505856), (c 97 186 [t 77, t 84, t 90, t 96], 67108863), (ar 98 .geq (t 97) (n 0), 134217727)]] (.cond (t 98) (q [r [mv 2 ff]] (.ret)) (sk)))] (r [m 69 7,
  ar 70 .add (t 69) (n 1), m 7 70])))), r [mv 2 tt]] (.ret)⟩
theorem A142_ok : XOk Tryz.prog ITS 142 A142 := ⟨Tryz.f142, Tryz.func142, by kernel_rfl, by decide, by kernel_rfl, its_nil (by kernel_rfl)⟩

/- widgetry/layout.isFigure -/
def A143 : AFn := ⟨9, [.tmp 2], q [r [mv 2 ff], r [m 3 0, ar 4 .eql (t 3) (n 5), m 5 4, og 6 (.mov (t 0)) 5 false, og 7 (.arith .eql (t 6) (n 13)) 5 false, o 8 (.pick (t 5) tt (t 7)),
  m 2 8]] (.ret)⟩
theorem A143_ok : XOk Tryz.prog ITS 143 A143 := ⟨Tryz.f143, Tryz.func143, by kernel_rfl, by decide, by kernel_rfl, its_nil (by kernel_rfl)⟩

/- widgetry/fixed.Clamp -/
def A149 : AFn := ⟨23, [.tmp 6], q [r [mv 6 (n 0)], .block 0 (q [r [m 8 0, m 9 1, ar 10 .lss (t 8) (t 9), m 11 10, og 12 (.mov (t 2)) 11 false, og 13 (.mov (t 1)) 11 false, og 14 (.arith .lss (t 12) (t 13)) 11 false,
  o 15 (.pick (t 11) tt (t 14)), m 7 15]] (.cond (t 7) (q [r [m 16 1, m 6 16]] (.ret)) (q [r [m 18 0, m 19 2, ar 20 .gtr (t 18) (t 19), m 17 20]] (.cond (t 17) (q [r [m 21 2,
  m 6 21]] (.ret)) (sk))))), r [m 22 0, m 6 22]] (.ret)⟩
theorem A149_ok : XOk Tryz.prog ITS 149 A149 := ⟨Tryz.f149, Tryz.func149, by kernel_rfl, by decide, by kernel_rfl, its_nil (by kernel_rfl)⟩

/- (*widgetry/layout.scene).widths -/
def A150 : AFn := ⟨90, [.tmp 6], q [r [mv 6 (.const (.nilsl))], r [m 17 0, o 18 (.nilchk (t 17)), fa 19 5 18, l 20 19, m 21 1, o 22 (.xo (.mapget (.one (.int .i64)) false (.agg [.int .i64 0,
  .int .i64 0, .int .i64 0, .int .i64 0, .int .i64 0, .int .i64 0, .int .i64 0, .int .i64 0, .int .i64 0, .int .i64 0, .int .i64 0, .int .i64 0, .int .i64 0,
  .int .i64 0, .int .i64 0, .int .i64 0, .int .i64 0, .int .i64 0, .int .i64 0, .int .i64 0, .int .i64 0, .int .i64 0])) [t 20, t 21]), o 7 (.new [.int .i64 0,
  .int .i64 0, .int .i64 0, .int .i64 0, .int .i64 0, .int .i64 0, .int .i64 0, .int .i64 0, .int .i64 0, .int .i64 0, .int .i64 0, .int .i64 0, .int .i64 0,
  .int .i64 0, .int .i64 0, .int .i64 0, .int .i64 0, .int .i64 0, .int .i64 0, .int .i64 0, .int .i64 0, .int .i64 0]), s 22 7 22], q [r [m 23 0, m 24 1,
  c 25 47 [t 23, t 24], ar 26 .eql (t 25) (n 2)]] (.cond (t 26) (q [r [mv 8 (.const (.nilsl))], q [r [m 27 0, o 28 (.nilchk (t 27)), fa 29 6 28, l 30 29,
  m 31 1, o 32 (.xo (.mapget (.one (.int .i64)) false (.nilsl)) [t 30, t 31]), le 33 32, mv 34 (n 0)]] (.block 0 (.loop (q [r [ar 35 .lss (t 34) (t 33)],
  .cond (t 35) (sk) (.exit 0), .block 1 (q [r [ia 36 1 32 (t 34), l 37 36, m 10 37]] (r [m 38 8, m 39 0, m 40 10, m 41 0, m 42 10, c 43 204 [t 41, t 42,
  tt], m 44 0, m 45 10, c 46 204 [t 44, t 45, ff], c 47 165 [t 39, t 40, t 43, n 13, n 14, t 46], o 48 (.buildSl 5 1 [.int .i64 0, .int .i64 0, .int .i64 0,
  .int .i64 0, .int .i64 0] [(0, 5, .tmp 47)]), o 49 (.app 5 40 (t 38) (t 48)), m 8 49]))] (r [ar 50 .add (t 34) (n 1), m 34 50])))), r [m 52 2, o 53 (.idxArrA 22 1 (t 7) (n 9)),
  l 54 53, m 55 8, c 56 166 [t 52, t 54, t 55], m 51 56, ex 57 51 0, ex 58 51 1, m 11 57, m 12 58], r [m 59 11, m 6 59]] (.ret)) (sk)), r [m 60 0, m 61 1,
  c 62 47 [t 60, t 61], ar 63 .eql (t 62) (n 1), m 64 63, og 65 (.idxArrA 22 1 (t 7) (n 6)) 64 true, og 66 (.ld1 (t 65)) 64 true, og 67 (.arith .eql (t 66) (n 3)) 64 true,
  o 68 (.pick (t 64) (t 67) ff), m 13 68], r [mv 14 (.const (.nilsl))], q [r [m 69 0, o 70 (.nilchk (t 69)), fa 71 6 70, l 72 71, m 73 1, o 74 (.xo (.mapget (.one (.int .i64)) false (.nilsl)) [t 72,
  t 73]), le 75 74, mv 76 (n 0)]] (.block 2 (.loop (q [r [ar 77 .lss (t 76) (t 75)], .cond (t 77) (sk) (.exit 2), .block 3 (q [r [ia 78 1 74 (t 76), l 79 78,
  m 16 79]] (r [m 80 14, m 81 0, m 82 16, m 83 2, m 84 13, c 85 205 [t 81, t 82, t 83, t 84], o 86 (.buildSl 1 1 [.int .i64 0] [(0, 1, .tmp 85)]), o 87 (.app 1 8 (t 80) (t 86)),
  m 14 87]))] (r [ar 88 .add (t 76) (n 1), m 76 88])))), r [m 89 14, m 6 89]] (.ret)⟩
theorem A150_ok : XOk Tryz.prog ITS 150 A150 := ⟨Tryz.f150, Tryz.func150, by kernel_rfl, by decide, by kernel_rfl, its_nil (by kernel_rfl)⟩

/- (*widgetry/layout.scene).heights -/
def A151 : AFn := ⟨34, [.tmp 6], q [r [mv 6 (.const (.nilsl))], r [mv 7 (.const (.nilsl))], q [r [m 10 0, o 11 (.nilchk (t 10)), fa 12 6 11, l 13 12, m 14 1, o 15 (.xo (.mapget (.one (.int .i64)) false (.nilsl)) [t 13,
  t 14]), le 16 15, mv 17 (n 0)]] (.block 0 (.loop (q [r [ar 18 .lss (t 17) (t 16)], .cond (t 18) (sk) (.exit 0), .block 1 (q [r [m 19 17, ia 20 1 15 (t 17),
  l 21 20, m 8 19, m 9 21]] (r [m 22 7, m 23 0, m 24 9, m 25 2, m 26 8, ia 27 1 25 (t 26), l 28 27, c 29 159 [t 23, t 24, t 28], o 30 (.buildSl 1 1 [.int .i64 0] [(0,
  1, .tmp 29)]), o 31 (.app 1 8 (t 22) (t 30)), m 7 31]))] (r [ar 32 .add (t 17) (n 1), m 17 32])))), r [m 33 7, m 6 33]] (.ret)⟩
theorem A151_ok : XOk Tryz.prog ITS 151 A151 := ⟨Tryz.f151, Tryz.func151, by kernel_rfl, by decide, by kernel_rfl, its_nil (by kernel_rfl)⟩

/- widgetry/box.Offsets -/
def A152 : AFn := ⟨132, [.tmp 10], q [r [mv 10 (.const (.nilsl))], q [r [m 23 3, le 24 23, ar 25 .gtr (t 24) (n 100), m 26 25, og 27 (.mov (t 0)) 26 false, og 28 (.mov (t 1)) 26 false, og 29 (.buildSl 1 2 [.int .i64 0,
  .int .i64 0] [(0, 1, .tmp 27), (1, 1, .tmp 28)]) 26 false, og 30 (.call (fn 206) [t 29]) 26 false, og 31 (.un .not (t 30)) 26 false, o 32 (.pick (t 26) tt (t 31)),
  m 33 32, og 34 (.mov (t 3)) 33 false, og 35 (.call (fn 206) [t 34]) 33 false, og 36 (.un .not (t 35)) 33 false, o 37 (.pick (t 33) tt (t 36)), m 38 37,
  og 39 (.mov (t 2)) 38 false, og 40 (.arith .lss (t 39) (n 0)) 38 false, o 41 (.pick (t 38) tt (t 40)), m 42 41, og 43 (.mov (t 2)) 42 false, og 44 (.arith .gtr (t 43) (n 3)) 42 false,
  o 45 (.pick (t 42) tt (t 44))]] (.cond (t 45) (q [r [mv 10 (.const (.nilsl))]] (.ret)) (sk)), r [m 46 0, m 47 1, m 48 3, le 49 48, ar 50 .sub (t 49) (n 1),
  o 51 (.mnmx true (t 50) (n 0)), ar 52 .mul (t 47) (t 51), ar 53 .sub (t 46) (t 52), m 11 53], q [r [m 54 3, le 55 54, mv 56 (n 0)]] (.block 0 (.loop (q [r [ar 57 .lss (t 56) (t 55)],
  .cond (t 57) (sk) (.exit 0), .block 1 (q [r [ia 58 1 54 (t 56), l 59 58, m 13 59]] (r [m 60 11, m 61 13, ar 62 .sub (t 60) (t 61), m 11 62]))] (r [ar 63 .add (t 56) (n 1),
  m 56 63])))), r [mv 14 (n 0)], r [m 64 3, le 65 64, o 66 (.mksl 1 8 [.int .i64 0] (t 65) (t 65)), m 15 66], .block 2 (q [r [m 68 2, ar 69 .eql (t 68) (n 1),
  m 67 69]] (.cond (t 67) (r [m 70 11, m 14 70]) (q [r [m 72 2, ar 73 .eql (t 72) (n 2), m 71 73]] (.cond (t 71) (r [m 74 11, c 75 201 [t 74, n 2], m 14 75]) (q [r [m 77 2,
  ar 78 .eql (t 77) (n 3), m 79 78, og 80 (.mov (t 11)) 79 true, og 81 (.arith .gtr (t 80) (n 0)) 79 true, o 82 (.pick (t 79) (t 81) ff), m 83 82, og 84 (.mov (t 3)) 83 true,
  og 85 (.len (t 84)) 83 true, og 86 (.arith .gtr (t 85) (n 1)) 83 true, o 87 (.pick (t 83) (t 86) ff), m 76 87]] (.cond (t 76) (q [r [o 88 (.buildSl 1 1 [.int .i64 0] [(0,
  1, .const (.int .i64 1))]), m 89 3, le 90 89, ar 91 .sub (t 90) (n 1), c 92 207 [t 88, t 91], m 16 92], r [m 94 11, m 95 16, c 96 208 [t 94, t 95], m 93 96,
  ex 97 93 0, ex 98 93 1, m 17 97, m 18 98]] (r [m 99 15, m 100 17, o 101 (.copy 1 (t 99) (t 100))])) (sk))))))), r [mv 19 (.const (.nilsl))], q [r [m 102 3,
  le 103 102, mv 104 (n 0)]] (.block 3 (.loop (q [r [ar 105 .lss (t 104) (t 103)], .cond (t 105) (sk) (.exit 3), .block 4 (q [r [m 106 104, ia 107 1 102 (t 104),
  l 108 107, m 20 106, m 21 108], r [m 109 14, m 22 109], q [r [m 110 4]] (.cond (t 110) (r [m 111 0, m 112 21, ar 113 .sub (t 111) (t 112), m 114 14, ar 115 .sub (t 113) (t 114),
  m 22 115]) (sk)), r [m 116 19, m 117 22, o 118 (.buildSl 1 1 [.int .i64 0] [(0, 1, .tmp 117)]), o 119 (.app 1 8 (t 116) (t 118)), m 19 119]] (r [m 120 14,
  m 121 21, m 122 1, ar 123 .add (t 121) (t 122), m 124 15, m 125 20, ia 126 1 124 (t 125), l 127 126, ar 128 .add (t 123) (t 127), ar 129 .add (t 120) (t 128),
  m 14 129]))] (r [ar 130 .add (t 104) (n 1), m 104 130])))), r [m 131 19, m 10 131]] (.ret)⟩
theorem A152_ok : XOk Tryz.prog ITS 152 A152 := ⟨Tryz.f152, Tryz.func152, by kernel_rfl, by decide, by kernel_rfl, its_nil (by kernel_rfl)⟩

/- widgetry/box.Align -/
def A155 : AFn := ⟨42, [.tmp 8, .tmp 9], q [r [mv 8 (n 0), mv 9 (n 0)], q [r [m 10 1, m 11 2, o 12 (.buildSl 1 2 [.int .i64 0, .int .i64 0] [(0, 1, .tmp 10), (1, 1, .tmp 11)]), c 13 206 [t 12],
  o 14 (.un .not (t 13))]] (.cond (t 14) (q [r [mv 8 (n 0), mv 9 (n 0)]] (.ret)) (sk)), r [m 15 2, m 9 15], q [r [m 16 0]] (.block 0 (q [q [r [ar 18 .eql (t 16) (n 0),
  m 17 18]] (.cond (t 17) (sk) (r [ar 19 .eql (t 16) (n 4), m 17 19]))] (.cond (t 17) (sk) (q [r [ar 21 .eql (t 16) (n 1), m 20 21]] (.cond (t 20) (r [m 22 1,
  m 23 2, ar 24 .sub (t 22) (t 23), m 8 24]) (q [r [ar 26 .eql (t 16) (n 2), m 25 26]] (.cond (t 25) (r [m 27 1, m 28 2, ar 29 .sub (t 27) (t 28), c 30 201 [t 29,
  n 2], m 8 30]) (q [r [ar 32 .eql (t 16) (n 3), m 31 32]] (.cond (t 31) (r [m 33 1, m 9 33]) (q [r [mv 8 (n 0), mv 9 (n 0)]] (.ret))))))))))), q [r [m 34 3]] (.cond (t 34) (r [m 35 1,
  m 36 9, ar 37 .sub (t 35) (t 36), m 38 8, ar 39 .sub (t 37) (t 38), m 8 39]) (sk)), r [m 40 8, m 41 9, m 8 40, m 9 41]] (.ret)⟩
theorem A155_ok : XOk Tryz.prog ITS 155 A155 := ⟨Tryz.f155, Tryz.func155, by kernel_rfl, by decide, by kernel_rfl, its_nil (by kernel_rfl)⟩

/- (*widgetry/layout.scene).height -/
def A159 : AFn := ⟨61, [.tmp 6], q [r [mv 6 (n 0)], q [r [m 14 0, o 15 (.nilchk (t 14)), fa 16 10 15, l 17 16, m 18 1, m 19 2, o 20 (.build [.int .i64 0, .int .i64 0] [(0, 1, .tmp 18),
  (1, 1, .tmp 19)]), o 21 (.xo (.mapget (.st [.int .i64, .int .i64]) true (.int .i64 0)) [t 17, t 20]), m 13 21, ex 22 13 0, ex 23 13 1, m 7 22, m 8 23],
  r [m 24 8]] (.cond (t 24) (q [r [m 25 7, m 6 25]] (.ret)) (sk)), r [m 26 0, o 27 (.nilchk (t 26)), fa 28 5 27, l 29 28, m 30 1, o 31 (.xo (.mapget (.one (.int .i64)) false (.agg [.int .i64 0,
  .int .i64 0, .int .i64 0, .int .i64 0, .int .i64 0, .int .i64 0, .int .i64 0, .int .i64 0, .int .i64 0, .int .i64 0, .int .i64 0, .int .i64 0, .int .i64 0,
  .int .i64 0, .int .i64 0, .int .i64 0, .int .i64 0, .int .i64 0, .int .i64 0, .int .i64 0, .int .i64 0, .int .i64 0])) [t 29, t 30]), o 9 (.new [.int .i64 0,
  .int .i64 0, .int .i64 0, .int .i64 0, .int .i64 0, .int .i64 0, .int .i64 0, .int .i64 0, .int .i64 0, .int .i64 0, .int .i64 0, .int .i64 0, .int .i64 0,
  .int .i64 0, .int .i64 0, .int .i64 0, .int .i64 0, .int .i64 0, .int .i64 0, .int .i64 0, .int .i64 0, .int .i64 0]), s 22 9 31], r [ln 33 22 9, c 34 95 [t 33],
  m 32 34, ex 35 32 0, ex 36 32 1, m 10 35, m 11 36], d [(m 37 0, 0), (m 38 1, 0), (m 39 0, 0), (m 40 1, 0), (m 41 2, 0), (c 42 94 [t 39, t 40, t 41], 28),
  (c 43 215 [t 37, t 38, t 42], 63), (m 44 11, 0), (ar 45 .add (t 43) (t 44), 255), (o 46 (.mnmx false (t 45) (n 1048576)), 511), (o 47 (.idxArrA 22 1 (t 9) (n 15)),
  0), (l 48 47, 1024), (o 49 (.idxArrA 22 1 (t 9) (n 16)), 0), (l 50 49, 4096), (c 51 149 [t 46, t 48, t 50], 16383), (m 12 51, 32767)], r [m 52 0, o 53 (.nilchk (t 52)),
  fa 54 10 53, l 55 54, m 56 1, m 57 2, o 58 (.build [.int .i64 0, .int .i64 0] [(0, 1, .tmp 56), (1, 1, .tmp 57)]), m 59 12, on (.xo (.mapset (.st [.int .i64,
  .int .i64])) [t 55, t 58, t 59])], r [m 60 12, m 6 60]] (.ret)⟩
theorem A159_ok : XOk Tryz.prog ITS 159 A159 := ⟨Tryz.f159, Tryz.func159, by kernel_rfl, by decide, by kernel_rfl, its_nil (by kernel_rfl)⟩

/- slices.IndexFunc[[]int,int] -/
def A162 : AFn := ⟨19, [.tmp 4], q [r [mv 4 (n 0)], q [r [m 6 0, le 7 6, mv 8 (n 0)]] (.block 0 (.loop (q [r [ar 9 .lss (t 8) (t 7)], .cond (t 9) (sk) (.exit 0), .block 1 (q [r [m 10 8,
  m 5 10], r [m 11 1, m 12 0, m 13 5, ia 14 1 12 (t 13), l 15 14, o 16 (.call (t 11) [t 15])]] (.cond (t 16) (q [r [m 17 5, m 4 17]] (.ret)) (sk)))] (r [ar 18 .add (t 8) (n 1),
  m 8 18])))), r [mv 4 (n (-1))]] (.ret)⟩
theorem A162_ok : XOk Tryz.prog ITS 162 A162 := ⟨Tryz.f162, Tryz.func162, by kernel_rfl, by decide, by kernel_rfl, its_nil (by kernel_rfl)⟩

/- widgetry/box.Resolve -/
def A166 : AFn := ⟨149, [.tmp 6, .tmp 7], q [r [mv 6 (.const (.nilsl)), mv 7 (n 0)], q [r [m 17 0, m 18 1, m 19 2, c 20 221 [t 17, t 18, t 19], m 8 20], r [m 21 8, ar 22 .neq (t 21) (n 0)]] (.cond (t 22) (q [r [m 23 8,
  mv 6 (.const (.nilsl)), m 7 23]] (.ret)) (sk)), d [(m 24 2, 0), (m 25 0, 0), (m 26 1, 0), (m 27 2, 0), (le 28 27, 8), (ar 29 .sub (t 28) (n 1), 24), (o 30 (.mnmx true (t 29) (n 0)),
  56), (ar 31 .mul (t 26) (t 30), 124), (ar 32 .sub (t 25) (t 31), 254), (m 33 2, 0), (le 34 33, 512), (o 35 (.mksl 1 8 [.int .i64 0] (t 34) (t 34)), 1536),
  (m 36 2, 0), (le 37 36, 4096), (o 38 (.mksl 1 1 [.bool false] (t 37) (t 37)), 12288), (o 39 (.build [.nilsl, .int .i64 0, .bool false, .nilsl, .nilsl,
  .nilsl] [(0, 1, .tmp 24), (1, 1, .tmp 32), (4, 1, .tmp 35), (5, 1, .tmp 38)]), 32767), (o 40 (.box (t 39)), 65535), (m 9 40, 131071)], r [mv 10 (n 0)],
  q [r [m 41 2, le 42 41, mv 43 (n 0)]] (.block 0 (.loop (q [r [ar 44 .lss (t 43) (t 42)], .cond (t 44) (sk) (.exit 0), .block 1 (q [r [m 45 43, ia 46 5 41 (t 43),
  ln 47 5 46, o 12 (.new [.int .i64 0, .int .i64 0, .int .i64 0, .int .i64 0, .int .i64 0]), m 11 45, s 5 12 47], d [(m 48 9, 0), (o 49 (.nilchk (t 48)),
  1), (fa 50 4 49, 3), (l 51 50, 7), (m 52 11, 0), (m 53 9, 0), (m 54 11, 0), (fa 55 0 12, 0), (l 56 55, 128), (c 57 222 [t 53, t 54, t 56], 480), (ia 58 1 51 (t 52),
  1023), (s 1 58 57, 2047)]] (r [m 59 10, m 60 9, o 61 (.nilchk (t 60)), fa 62 4 61, l 63 62, m 64 11, ia 65 1 63 (t 64), l 66 65, ar 67 .add (t 59) (t 66),
  m 10 67]))] (r [ar 68 .add (t 43) (n 1), m 43 68])))), r [m 69 9, m 70 10, m 71 9, o 72 (.nilchk (t 71)), fa 73 1 72, l 74 73, ar 75 .leq (t 70) (t 74),
  o 76 (.nilchk (t 69)), fa 77 2 76, s 1 77 75], q [r [m 78 2, le 79 78, mv 80 (n 0)]] (.block 2 (.loop (q [r [ar 81 .lss (t 80) (t 79)], .cond (t 81) (sk) (.exit 2),
  .block 3 (q [r [m 82 80, ia 83 5 78 (t 80), ln 84 5 83, o 14 (.new [.int .i64 0, .int .i64 0, .int .i64 0, .int .i64 0, .int .i64 0]), m 13 82, s 5 14 84],
  d [(fa 85 4 14, 0), (l 86 85, 1), (fa 87 0 14, 0), (l 88 87, 4), (ar 89 .mul (t 86) (t 88), 15), (fa 90 0 14, 0), (l 91 90, 32), (m 92 9, 0), (o 93 (.nilchk (t 92)),
  128), (fa 94 4 93, 384), (l 95 94, 896), (m 96 13, 0), (ia 97 1 95 (t 96), 3968), (l 98 97, 8064), (ar 99 .lss (t 91) (t 98), 16352), (m 15 89, 31), (m 16 99,
  65535)], q [r [m 100 9, o 101 (.nilchk (t 100)), fa 102 2 101, l 103 102]] (.cond (t 103) (d [(fa 104 3 14, 0), (l 105 104, 1), (fa 106 0 14, 0), (l 107 106,
  4), (m 108 9, 0), (o 109 (.nilchk (t 108)), 16), (fa 110 4 109, 48), (l 111 110, 112), (m 112 13, 0), (ia 113 1 111 (t 112), 496), (l 114 113, 1008), (ar 115 .gtr (t 107) (t 114),
  2044), (m 15 105, 3), (m 16 115, 8191)]) (sk)), r [m 116 9, m 117 9, o 118 (.nilchk (t 117)), fa 119 3 118, l 120 119, m 121 15, o 122 (.buildSl 1 1 [.int .i64 0] [(0,
  1, .tmp 121)]), o 123 (.app 1 8 (t 120) (t 122)), o 124 (.nilchk (t 116)), fa 125 3 124, s 1 125 123]] (r [m 126 9, o 127 (.nilchk (t 126)), fa 128 5 127,
  l 129 128, m 130 13, m 131 15, ar 132 .eql (t 131) (n 0), m 133 132, og 134 (.mov (t 16)) 133 false, o 135 (.pick (t 133) tt (t 134)), ia 136 1 129 (t 130),
  s 1 136 135]))] (r [ar 137 .add (t 80) (n 1), m 80 137])))), .block 4 (.loop (q [q [r [m 138 9, o 139 (.nilchk (t 138)), fa 140 5 139, l 141 140, c 142 223 [t 141,
  ff]]] (.cond (t 142) (sk) (.exit 4))] (.block 5 (r [m 143 9, c 144 224 [t 143]])))), r [m 145 9, o 146 (.nilchk (t 145)), fa 147 4 146, l 148 147, m 6 148,
  mv 7 (n 0)]] (.ret)⟩
theorem A166_ok : XOk Tryz.prog ITS 166 A166 := ⟨Tryz.f166, Tryz.func166, by kernel_rfl, by decide, by kernel_rfl, its_nil (by kernel_rfl)⟩

/- slices.medianCmpFunc[widgetry/api.Box] -/
def A171 : AFn := ⟨41, [.tmp 12], q [r [mv 12 (n 0)], r [m 14 0, m 15 1, m 16 2, m 17 4, m 18 5, c 19 225 [t 14, t 15, t 16, t 17, t 18], m 13 19, ex 20 13 0, ex 21 13 1, m 1 20, m 2 21],
  r [m 23 0, m 24 2, m 25 3, m 26 4, m 27 5, c 28 225 [t 23, t 24, t 25, t 26, t 27], m 22 28, ex 29 22 0, ex 30 22 1, m 2 29, m 3 30], r [m 32 0, m 33 1,
  m 34 2, m 35 4, m 36 5, c 37 225 [t 32, t 33, t 34, t 35, t 36], m 31 37, ex 38 31 0, ex 39 31 1, m 1 38, m 2 39], r [m 40 2, m 12 40]] (.ret)⟩
theorem A171_ok : XOk Tryz.prog ITS 171 A171 := ⟨Tryz.f171, Tryz.func171, by kernel_rfl, by decide, by kernel_rfl, its_nil (by kernel_rfl)⟩

/- widgetry/view.graph -/
def A172 : AFn := ⟨139, [.tmp 2, .tmp 3], q [r [o 1 (.box (t 0)), mv 2 (.const (.nilmap)), mv 3 ff], q [r [fa 17 1 1, l 18 17, ar 19 .lss (t 18) (n 2), m 20 19, og 21 (.fldA 1 (t 1)) 20 false,
  og 22 (.ld1 (t 21)) 20 false, og 23 (.arith .gtr (t 22) (n 1099511627776)) 20 false, o 24 (.pick (t 20) tt (t 23)), m 25 24, og 26 (.fldA 2 (t 1)) 25 false,
  og 27 (.ld1 (t 26)) 25 false, og 28 (.len (t 27)) 25 false, og 29 (.arith .lss (t 28) (n 1)) 25 false, o 30 (.pick (t 25) tt (t 29)), m 31 30, og 32 (.fldA 2 (t 1)) 31 false,
  og 33 (.ld1 (t 32)) 31 false, og 34 (.len (t 33)) 31 false, og 35 (.arith .gtr (t 34) (n 400)) 31 false, o 36 (.pick (t 31) tt (t 35))]] (.cond (t 36) (q [r [mv 2 (.const (.nilmap)),
  mv 3 ff]] (.ret)) (sk)), r [o 37 (.xo .mkmap []), m 4 37], r [mv 5 (n 0)], q [r [fa 38 2 1, l 39 38, le 40 39, mv 41 (n 0)]] (.block 0 (.loop (q [r [ar 42 .lss (t 41) (t 40)],
  .cond (t 42) (sk) (.exit 0), .block 1 (q [r [ia 43 7 39 (t 41), ln 44 7 43, o 7 (.new [.int .i64 0, .int .i64 0, .int .i64 0, .str [], .nilsl, .nilsl,
  .nilsl]), s 7 7 44], q [r [fa 45 0 7, l 46 45, m 47 5, ar 48 .leq (t 46) (t 47), m 49 48, og 50 (.fldA 0 (t 7)) 49 false, og 51 (.ld1 (t 50)) 49 false,
  og 52 (.fldA 1 (t 1)) 49 false, og 53 (.ld1 (t 52)) 49 false, og 54 (.arith .geq (t 51) (t 53)) 49 false, o 55 (.pick (t 49) tt (t 54)), m 56 55, og 57 (.fldA 1 (t 7)) 56 false,
  og 58 (.ld1 (t 57)) 56 false, og 59 (.arith .eql (t 58) (n 0)) 56 false, og 60 (.fldA 0 (t 7)) 56 false, og 61 (.ld1 (t 60)) 56 false, og 62 (.fldA 0 (t 1)) 56 false,
  og 63 (.ld1 (t 62)) 56 false, og 64 (.arith .eql (t 61) (t 63)) 56 false, og 65 (.eqs true (t 59) (t 64)) 56 false, o 66 (.pick (t 56) tt (t 65))]] (.cond (t 66) (q [r [mv 2 (.const (.nilmap)),
  mv 3 ff]] (.ret)) (sk)), r [fa 67 0 7, l 68 67, m 5 68]] (r [m 69 4, fa 70 0 7, l 71 70, ln 72 7 7, on (.xo (.mapset (.one (.int .i64))) [t 69, t 71, t 72])]))] (r [ar 73 .add (t 41) (n 1),
  m 41 73])))), q [r [m 75 4, fa 76 0 1, l 77 76, o 78 (.xo (.mapget (.one (.int .i64)) true (.agg [.int .i64 0, .int .i64 0, .int .i64 0, .str [], .nilsl,
  .nilsl, .nilsl])) [t 75, t 77]), m 74 78, ex 79 74 0, ex 80 74 1, o 8 (.new [.int .i64 0, .int .i64 0, .int .i64 0, .str [], .nilsl, .nilsl, .nilsl]),
  s 7 8 79, m 9 80], r [m 81 9, o 82 (.un .not (t 81))]] (.cond (t 82) (q [r [mv 2 (.const (.nilmap)), mv 3 ff]] (.ret)) (sk)), r [o 83 (.xo .mkmap []),
  fa 84 0 1, l 85 84, on (.xo (.mapset (.one (.int .i64))) [t 83, t 85, tt]), m 86 83, m 10 86], q [r [fa 87 2 1, l 88 87, le 89 88, mv 90 (n 0)]] (.block 2 (.loop (q [r [ar 91 .lss (t 90) (t 89)],
  .cond (t 91) (sk) (.exit 2), .block 3 (q [r [ia 92 7 88 (t 90), ln 93 7 92, o 12 (.new [.int .i64 0, .int .i64 0, .int .i64 0, .str [], .nilsl, .nilsl,
  .nilsl]), s 7 12 93], r [fa 94 6 12, l 95 94, le 96 95, mv 97 (n 0)]] (.block 4 (.loop (q [r [ar 98 .lss (t 97) (t 96)], .cond (t 98) (sk) (.exit 4), .block 5 (q [r [ia 99 1 95 (t 97),
  l 100 99, m 14 100], q [r [m 102 4, m 103 14, o 104 (.xo (.mapget (.one (.int .i64)) true (.agg [.int .i64 0, .int .i64 0, .int .i64 0, .str [], .nilsl,
  .nilsl, .nilsl])) [t 102, t 103]), m 101 104, ex 105 101 0, ex 106 101 1, o 15 (.new [.int .i64 0, .int .i64 0, .int .i64 0, .str [], .nilsl, .nilsl, .nilsl]),
  s 7 15 105, m 16 106], r [m 107 16, o 108 (.un .not (t 107)), m 109 108, og 110 (.fldA 1 (t 15)) 109 false, og 111 (.ld1 (t 110)) 109 false, og 112 (.fldA 0 (t 12)) 109 false,
  og 113 (.ld1 (t 112)) 109 false, og 114 (.arith .neq (t 111) (t 113)) 109 false, o 115 (.pick (t 109) tt (t 114)), m 116 115, og 117 (.mov (t 10)) 116 false,
  og 118 (.mov (t 14)) 116 false, og 119 (.xo (.mapget (.one (.int .i64)) false (.bool false)) [t 117, t 118]) 116 false, o 120 (.pick (t 116) tt (t 119))]] (.cond (t 120) (q [r [mv 2 (.const (.nilmap)),
  mv 3 ff]] (.ret)) (sk))] (r [m 121 10, m 122 14, on (.xo (.mapset (.one (.int .i64))) [t 121, t 122, tt])]))] (r [ar 123 .add (t 97) (n 1), m 97 123])))))] (r [ar 124 .add (t 90) (n 1),
  m 90 124])))), q [r [m 125 10, o 126 (.xo .maplen [t 125]), m 127 4, o 128 (.xo .maplen [t 127]), ar 129 .neq (t 126) (t 128)]] (.cond (t 129) (q [r [mv 2 (.const (.nilmap)),
  mv 3 ff]] (.ret)) (sk)), r [m 130 4, m 131 4, fa 132 0 1, l 133 132, c 134 226 [t 131, t 133], le 135 134, m 136 4, o 137 (.xo .maplen [t 136]), ar 138 .eql (t 135) (t 137),
  m 2 130, m 3 138]] (.ret)⟩
theorem A172_ok : XOk Tryz.prog ITS 172 A172 := ⟨Tryz.f172, Tryz.func172, by kernel_rfl, by decide, by kernel_rfl, its_nil (by kernel_rfl)⟩

/- widgetry/view.described -/
def A173 : AFn := ⟨38, [.cell 4 (some 5)], q [r [o 4 (.new [.int .i64 0, .str [], .nilsl, .nilsl, .nilsl])], r [m 9 0, m 10 1, o 11 (.xo (.mapget (.one (.int .i64)) false (.agg [.int .i64 0, .int .i64 0,
  .int .i64 0, .str [], .nilsl, .nilsl, .nilsl])) [t 9, t 10]), o 5 (.new [.int .i64 0, .int .i64 0, .int .i64 0, .str [], .nilsl, .nilsl, .nilsl]), s 7 5 11],
  r [fa 12 2 5, l 13 12, fa 14 3 5, l 15 14, fa 16 4 5, l 17 16, fa 18 5 5, l 19 18, o 20 (.build [.int .i64 0, .str [], .nilsl, .nilsl, .nilsl] [(0, 1,
  .tmp 13), (1, 1, .tmp 15), (2, 1, .tmp 17), (3, 1, .tmp 19)]), o 6 (.new [.int .i64 0, .str [], .nilsl, .nilsl, .nilsl]), s 5 6 20], q [r [fa 21 6 5, l 22 21,
  le 23 22, mv 24 (n 0)]] (.block 0 (.loop (q [r [ar 25 .lss (t 24) (t 23)], .cond (t 25) (sk) (.exit 0), .block 1 (q [r [ia 26 1 22 (t 24), l 27 26, m 8 27]] (d [(fa 28 4 6,
  0), (l 29 28, 1), (m 30 0, 0), (m 31 8, 0), (c 32 173 [t 30, t 31], 12), (o 33 (.buildSl 5 1 [.int .i64 0, .str [], .nilsl, .nilsl, .nilsl] [(0, 5, .tmp 32)]),
  28), (o 34 (.app 5 96 (t 29) (t 33)), 63), (fa 35 4 6, 127), (s 1 35 34, 255)]))] (r [ar 36 .add (t 24) (n 1), m 24 36])))), r [ln 37 5 6, s 5 4 37]] (.ret)⟩
theorem A173_ok : XOk Tryz.prog ITS 173 A173 := ⟨Tryz.f173, Tryz.func173, by kernel_rfl, by decide, by kernel_rfl, its_nil (by kernel_rfl)⟩

/- widgetry/view.Validate -/
def A174 : AFn := ⟨6, [.tmp 2], q [r [o 1 (.box (t 0)), mv 2 (n 0)], r [o 3 (.new [.int .i64 0]), sv 1 3 (n 0)], r [ln 4 5 1, c 5 227 [t 4, n 1, t 3], m 2 5]] (.ret)⟩
theorem A174_ok : XOk Tryz.prog ITS 174 A174 := ⟨Tryz.f174, Tryz.func174, by kernel_rfl, by decide, by kernel_rfl, its_nil (by kernel_rfl)⟩

/- slices.Equal[[]widgetry/api.Glyph,widgetry/api.Glyph] -/
def A180 : AFn := ⟨26, [.tmp 4], q [r [mv 4 ff], q [r [m 6 0, le 7 6, m 8 1, le 9 8, ar 10 .neq (t 7) (t 9)]] (.cond (t 10) (q [r [mv 4 ff]] (.ret)) (sk)), q [r [m 11 0, le 12 11, mv 13 (n 0)]] (.block 0 (.loop (q [r [ar 14 .lss (t 13) (t 12)],
  .cond (t 14) (sk) (.exit 0), .block 1 (q [r [m 15 13, m 5 15], d [(m 16 0, 0), (m 17 5, 0), (ia 18 8 16 (t 17), 3), (ln 19 8 18, 7), (m 20 1, 0), (m 21 5,
  0), (ia 22 8 20 (t 21), 48), (ln 23 8 22, 112), (o 24 (.eqf true [.int .i64, .int .i64, .int .i64, .int .i64, .int .i64, .int .i64, .int .i64, .int .i64] (t 19) (t 23)),
  255)]] (.cond (t 24) (q [r [mv 4 ff]] (.ret)) (sk)))] (r [ar 25 .add (t 13) (n 1), m 13 25])))), r [mv 4 tt]] (.ret)⟩
theorem A180_ok : XOk Tryz.prog ITS 180 A180 := ⟨Tryz.f180, Tryz.func180, by kernel_rfl, by decide, by kernel_rfl, its_nil (by kernel_rfl)⟩

/- widgetry/font.within -/
def A184 : AFn := ⟨15, [.tmp 6], q [r [mv 6 ff], r [m 7 0, m 8 1, ar 9 .geq (t 7) (t 8), m 10 9, og 11 (.mov (t 0)) 10 true, og 12 (.mov (t 2)) 10 true, og 13 (.arith .leq (t 11) (t 12)) 10 true,
  o 14 (.pick (t 10) (t 13) ff), m 6 14]] (.ret)⟩
theorem A184_ok : XOk Tryz.prog ITS 184 A184 := ⟨Tryz.f184, Tryz.func184, by kernel_rfl, by decide, by kernel_rfl, its_nil (by kernel_rfl)⟩

/- (*widgetry/layout.scene).across -/
def A205 : AFn := ⟨29, [.tmp 8], q [r [mv 8 (n 0)], r [m 10 0, o 11 (.nilchk (t 10)), fa 12 5 11, l 13 12, m 14 1, o 15 (.xo (.mapget (.one (.int .i64)) false (.agg [.int .i64 0, .int .i64 0,
  .int .i64 0, .int .i64 0, .int .i64 0, .int .i64 0, .int .i64 0, .int .i64 0, .int .i64 0, .int .i64 0, .int .i64 0, .int .i64 0, .int .i64 0, .int .i64 0,
  .int .i64 0, .int .i64 0, .int .i64 0, .int .i64 0, .int .i64 0, .int .i64 0, .int .i64 0, .int .i64 0])) [t 13, t 14]), o 9 (.new [.int .i64 0, .int .i64 0,
  .int .i64 0, .int .i64 0, .int .i64 0, .int .i64 0, .int .i64 0, .int .i64 0, .int .i64 0, .int .i64 0, .int .i64 0, .int .i64 0, .int .i64 0, .int .i64 0,
  .int .i64 0, .int .i64 0, .int .i64 0, .int .i64 0, .int .i64 0, .int .i64 0, .int .i64 0, .int .i64 0]), s 22 9 15], q [r [m 16 3, o 17 (.un .not (t 16))]] (.cond (t 17) (r [m 18 2,
  m 19 0, m 20 1, c 21 204 [t 19, t 20, tt], o 22 (.mnmx false (t 18) (t 21)), m 2 22]) (sk)), r [m 23 2, o 24 (.idxArrA 22 1 (t 9) (n 13)), l 25 24, o 26 (.idxArrA 22 1 (t 9) (n 14)),
  l 27 26, c 28 149 [t 23, t 25, t 27], m 8 28]] (.ret)⟩
theorem A205_ok : XOk Tryz.prog ITS 205 A205 := ⟨Tryz.f205, Tryz.func205, by kernel_rfl, by decide, by kernel_rfl, its_nil (by kernel_rfl)⟩

/- widgetry/box.length -/
def A206 : AFn := ⟨6, [.tmp 2], q [r [mv 2 ff], r [m 3 0, c 4 228 [t 3, fn 252], o 5 (.un .not (t 4)), m 2 5]] (.ret)⟩
theorem A206_ok : XOk Tryz.prog ITS 206 A206 := ⟨Tryz.f206, Tryz.func206, by kernel_rfl, by decide, by kernel_rfl, its_nil (by kernel_rfl)⟩

/- (*widgetry/layout.scene).deep -/
def A215 : AFn := ⟨178, [.tmp 6], q [r [mv 6 (n 0)], d [(m 22 0, 0), (o 23 (.nilchk (t 22)), 1), (fa 24 4 23, 3), (l 25 24, 7), (m 26 1, 0), (o 27 (.xo (.mapget (.one (.int .i64)) false (.agg [.int .i64 0,
  .int .i64 0, .int .i64 0, .str [], .nilsl, .nilsl, .nilsl])) [t 25, t 26]), 31), (m 28 0, 0), (o 29 (.nilchk (t 28)), 64), (fa 30 5 29, 192), (l 31 30,
  448), (m 32 1, 0), (o 33 (.xo (.mapget (.one (.int .i64)) false (.agg [.int .i64 0, .int .i64 0, .int .i64 0, .int .i64 0, .int .i64 0, .int .i64 0, .int .i64 0,
  .int .i64 0, .int .i64 0, .int .i64 0, .int .i64 0, .int .i64 0, .int .i64 0, .int .i64 0, .int .i64 0, .int .i64 0, .int .i64 0, .int .i64 0, .int .i64 0,
  .int .i64 0, .int .i64 0, .int .i64 0])) [t 31, t 32]), 1984), (o 7 (.new [.int .i64 0, .int .i64 0, .int .i64 0, .str [], .nilsl, .nilsl, .nilsl]), 0),
  (o 8 (.new [.int .i64 0, .int .i64 0, .int .i64 0, .int .i64 0, .int .i64 0, .int .i64 0, .int .i64 0, .int .i64 0, .int .i64 0, .int .i64 0, .int .i64 0,
  .int .i64 0, .int .i64 0, .int .i64 0, .int .i64 0, .int .i64 0, .int .i64 0, .int .i64 0, .int .i64 0, .int .i64 0, .int .i64 0, .int .i64 0]), 0), (s 7 7 27,
  12351), (s 22 8 33, 32767)], .block 0 (q [r [fa 35 2 7, l 36 35, c 37 48 [t 36], m 34 37]] (.cond (t 34) (q [d [(ln 39 7 7, 0), (ln 40 22 8, 0), (m 41 0,
  0), (o 42 (.nilchk (t 41)), 4), (fa 43 3 42, 12), (l 44 43, 28), (le 45 44, 60), (m 46 2, 0), (c 47 93 [t 39, t 40, t 45, t 46], 255), (m 48 0, 0), (o 49 (.nilchk (t 48)),
  512), (fa 50 3 49, 1536), (l 51 50, 3584), (c 52 92 [t 47, t 51], 8191), (m 38 52, 16383), (ex 53 38 0, 32767), (ex 54 38 1, 32767), (m 9 53, 65535), (m 10 54,
  262143)], r [m 55 9, c 56 261 [t 55], m 6 56]] (.ret)) (q [r [fa 58 2 7, l 59 58, c 60 143 [t 59], m 57 60]] (.cond (t 57) (q [r [fa 61 4 7, l 62 61, c 63 59 [t 62,
  .const (.str [104, 101, 105, 103, 104, 116]), n 0], c 64 96 [t 63], m 6 64]] (.ret)) (q [r [fa 66 2 7, l 67 66, ar 68 .eql (t 67) (n 8), m 69 68, og 70 (.idxArrA 22 1 (t 8) (n 12)) 69 true,
  og 71 (.ld1 (t 70)) 69 true, og 72 (.arith .geq (t 71) (n 0)) 69 true, o 73 (.pick (t 69) (t 72) ff), m 65 73]] (.cond (t 65) (q [r [o 74 (.idxArrA 22 1 (t 8) (n 12)),
  l 75 74, m 6 75]] (.ret)) (sk))))))), r [mv 11 (n 0)], q [r [m 76 0, m 77 1, c 78 47 [t 76, t 77]]] (.block 1 (q [r [ar 108 .eql (t 78) (n 3), m 107 108]] (.cond (t 107) (q [r [m 109 0,
  m 110 1, m 111 2, c 112 98 [t 109, t 110, t 111], le 113 112, mv 114 (n 0)]] (.block 4 (.loop (q [r [ar 115 .lss (t 114) (t 113)], .cond (t 115) (sk) (.exit 4),
  .block 5 (q [r [ia 116 4 112 (t 114), ln 117 4 116, o 13 (.new [.int .i64 0, .int .i64 0, .int .i64 0, .int .i64 0]), s 4 13 117]] (r [m 118 11, fa 119 1 13,
  l 120 119, fa 121 3 13, l 122 121, ar 123 .add (t 120) (t 122), o 124 (.mnmx true (t 118) (t 123)), m 11 124]))] (r [ar 125 .add (t 114) (n 1), m 114 125]))))) (q [r [ar 127 .eql (t 78) (n 4),
  m 126 127]] (.cond (t 126) (q [r [m 128 0, m 129 1, m 130 2, c 131 99 [t 128, t 129, t 130], le 132 131, mv 133 (n 0)]] (.block 6 (.loop (q [r [ar 134 .lss (t 133) (t 132)],
  .cond (t 134) (sk) (.exit 6), .block 7 (q [r [ia 135 4 131 (t 133), ln 136 4 135, o 15 (.new [.int .i64 0, .int .i64 0, .int .i64 0, .int .i64 0]), s 4 15 136]] (r [m 137 11,
  fa 138 1 15, l 139 138, fa 140 3 15, l 141 140, ar 142 .add (t 139) (t 141), o 143 (.mnmx true (t 137) (t 142)), m 11 143]))] (r [ar 144 .add (t 133) (n 1),
  m 133 144]))))) (q [r [ar 146 .eql (t 78) (n 2), m 145 146]] (.cond (t 145) (q [r [m 147 0, m 148 1, m 149 2, c 150 150 [t 147, t 148, t 149], m 16 150],
  r [m 151 0, m 152 1, m 153 16, c 154 151 [t 151, t 152, t 153], m 17 154], q [r [o 155 (.idxArrA 22 1 (t 8) (n 6)), l 156 155, ar 157 .eql (t 156) (n 4)]] (.cond (t 157) (q [r [m 159 17,
  m 160 0, m 161 1, m 162 16, c 163 154 [t 160, t 161, t 162], c 164 153 [t 159, t 163], m 158 164, ex 165 158 0, ex 166 158 1, m 11 166]] (.exit 1)) (sk)),
  r [m 167 17, le 168 167, mv 169 (n 0)]] (.block 8 (.loop (q [r [ar 170 .lss (t 169) (t 168)], .cond (t 170) (sk) (.exit 8), .block 9 (q [r [ia 171 1 167 (t 169),
  l 172 171, m 19 172]] (r [m 173 11, m 174 19, o 175 (.mnmx true (t 173) (t 174)), m 11 175]))] (r [ar 176 .add (t 169) (n 1), m 169 176]))))) (q [d [(o 79 (.idxArrA 22 1 (t 8) (n 9)),
  0), (l 80 79, 1), (m 81 0, 0), (o 82 (.nilchk (t 81)), 4), (fa 83 6 82, 12), (l 84 83, 28), (m 85 1, 0), (o 86 (.xo (.mapget (.one (.int .i64)) false (.nilsl)) [t 84,
  t 85]), 124), (le 87 86, 252), (ar 88 .sub (t 87) (n 1), 508), (o 89 (.mnmx true (t 88) (n 0)), 1020), (ar 90 .mul (t 80) (t 89), 2047), (m 11 90, 4095)],
  r [m 91 0, m 92 1, m 93 0, m 94 1, m 95 2, c 96 150 [t 93, t 94, t 95], c 97 151 [t 91, t 92, t 96], le 98 97, mv 99 (n 0)]] (.block 2 (.loop (q [r [ar 100 .lss (t 99) (t 98)],
  .cond (t 100) (sk) (.exit 2), .block 3 (q [r [ia 101 1 97 (t 99), l 102 101, m 21 102]] (r [m 103 11, m 104 21, ar 105 .add (t 103) (t 104), m 11 105]))] (r [ar 106 .add (t 99) (n 1),
  m 99 106])))))))))))), r [m 177 11, m 6 177]] (.ret)⟩
theorem A215_ok : XOk Tryz.prog ITS 215 A215 := ⟨Tryz.f215, Tryz.func215, by kernel_rfl, by decide, by kernel_rfl, its_nil (by kernel_rfl)⟩

/- widgetry/box.valid -/
def A221 : AFn := ⟨53, [.tmp 6], q [r [mv 6 (n 0)], q [r [m 9 2, le 10 9, ar 11 .gtr (t 10) (n 100)]] (.cond (t 11) (q [r [mv 6 (n 2)]] (.ret)) (sk)), q [r [m 12 0, m 13 1, o 14 (.buildSl 1 2 [.int .i64 0,
  .int .i64 0] [(0, 1, .tmp 12), (1, 1, .tmp 13)]), c 15 206 [t 14], o 16 (.un .not (t 15))]] (.cond (t 16) (q [r [mv 6 (n 1)]] (.ret)) (sk)), q [r [m 17 2,
  le 18 17, mv 19 (n 0)]] (.block 0 (.loop (q [r [ar 20 .lss (t 19) (t 18)], .cond (t 20) (sk) (.exit 0), .block 1 (q [r [ia 21 5 17 (t 19), ln 22 5 21,
  o 8 (.new [.int .i64 0, .int .i64 0, .int .i64 0, .int .i64 0, .int .i64 0]), s 5 8 22], r [fa 23 0 8, l 24 23, fa 25 1 8, l 26 25, fa 27 2 8, l 28 27,
  o 29 (.buildSl 1 3 [.int .i64 0, .int .i64 0, .int .i64 0] [(0, 1, .tmp 24), (1, 1, .tmp 26), (2, 1, .tmp 28)]), c 30 206 [t 29], o 31 (.un .not (t 30)),
  m 32 31, og 33 (.fldA 3 (t 8)) 32 false, og 34 (.ld1 (t 33)) 32 false, og 35 (.arith .lss (t 34) (n 0)) 32 false, o 36 (.pick (t 32) tt (t 35)), m 37 36,
  og 38 (.fldA 3 (t 8)) 37 false, og 39 (.ld1 (t 38)) 37 false, og 40 (.arith .gtr (t 39) (n 1000)) 37 false, o 41 (.pick (t 37) tt (t 40)), m 42 41, og 43 (.fldA 4 (t 8)) 42 false,
  og 44 (.ld1 (t 43)) 42 false, og 45 (.arith .lss (t 44) (n 0)) 42 false, o 46 (.pick (t 42) tt (t 45)), m 47 46, og 48 (.fldA 4 (t 8)) 47 false, og 49 (.ld1 (t 48)) 47 false,
  og 50 (.arith .gtr (t 49) (n 1000)) 47 false, o 51 (.pick (t 47) tt (t 50))]] (.cond (t 51) (q [r [mv 6 (n 1)]] (.ret)) (sk)))] (r [ar 52 .add (t 19) (n 1),
  m 19 52])))), r [mv 6 (n 0)]] (.ret)⟩
theorem A221_ok : XOk Tryz.prog ITS 221 A221 := ⟨Tryz.f221, Tryz.func221, by kernel_rfl, by decide, by kernel_rfl, its_nil (by kernel_rfl)⟩

/- slices.Contains[[]bool,bool] -/
def A223 : AFn := ⟨9, [.tmp 4], q [r [mv 4 ff], r [m 5 0, m 6 1, c 7 264 [t 5, t 6], ar 8 .geq (t 7) (n 0), m 4 8]] (.ret)⟩
theorem A223_ok : XOk Tryz.prog ITS 223 A223 := ⟨Tryz.f223, Tryz.func223, by kernel_rfl, by decide, by kernel_rfl, its_nil (by kernel_rfl)⟩

/- slices.order2CmpFunc[widgetry/api.Box] -/
def A225 : AFn := ⟨32, [.tmp 10, .tmp 11], q [r [mv 10 (n 0), mv 11 (n 0)], q [d [(m 12 4, 0), (m 13 0, 0), (m 14 2, 0), (ia 15 7 13 (t 14), 6), (ln 16 7 15, 14), (m 17 0, 0), (m 18 1, 0), (ia 19 7 17 (t 18),
  96), (ln 20 7 19, 224), (o 21 (.call (t 12) [t 16, t 20]), 511), (ar 22 .lss (t 21) (n 0), 1023)]] (.cond (t 22) (q [r [m 23 3, o 24 (.nilchk (t 23)),
  l 25 24, ar 26 .add (t 25) (n 1), o 27 (.nilchk (t 23)), s 1 27 26], r [m 28 2, m 29 1, m 10 28, m 11 29]] (.ret)) (sk)), r [m 30 1, m 31 2, m 10 30, m 11 31]] (.ret)⟩
theorem A225_ok : XOk Tryz.prog ITS 225 A225 := ⟨Tryz.f225, Tryz.func225, by kernel_rfl, by decide, by kernel_rfl, its_nil (by kernel_rfl)⟩

/- widgetry/view.preorder -/
def A226 : AFn := ⟨26, [.tmp 4], q [r [mv 4 (.const (.nilsl))], r [m 8 1, o 9 (.buildSl 1 1 [.int .i64 0] [(0, 1, .tmp 8)]), m 5 9], q [r [m 10 0, m 11 1, o 12 (.xo (.mapget (.one (.int .i64)) false (.agg [.int .i64 0,
  .int .i64 0, .int .i64 0, .str [], .nilsl, .nilsl, .nilsl])) [t 10, t 11]), o 13 (.fld 6 none (t 12)), le 14 13, mv 15 (n 0)]] (.block 0 (.loop (q [r [ar 16 .lss (t 15) (t 14)],
  .cond (t 16) (sk) (.exit 0), .block 1 (q [r [ia 17 1 13 (t 15), l 18 17, m 7 18]] (r [m 19 5, m 20 0, m 21 7, c 22 226 [t 20, t 21], o 23 (.app 1 8 (t 19) (t 22)),
  m 5 23]))] (r [ar 24 .add (t 15) (n 1), m 15 24])))), r [m 25 5, m 4 25]] (.ret)⟩
theorem A226_ok : XOk Tryz.prog ITS 226 A226 := ⟨Tryz.f226, Tryz.func226, by kernel_rfl, by decide, by kernel_rfl, its_nil (by kernel_rfl)⟩

/- widgetry/view.validate -/
def A227 : AFn := ⟨108, [.tmp 6], q [r [o 3 (.box (t 0)), mv 6 (n 0)], r [m 15 2, o 16 (.nilchk (t 15)), l 17 16, ar 18 .add (t 17) (n 1), o 19 (.nilchk (t 15)), s 1 19 18], .block 0 (q [r [m 21 1,
  ar 22 .gtr (t 21) (n 16), m 20 22]] (.cond (t 20) (q [r [mv 6 (n 8)]] (.ret)) (q [r [m 24 2, o 25 (.nilchk (t 24)), l 26 25, ar 27 .gtr (t 26) (n 400),
  m 23 27]] (.cond (t 23) (q [r [mv 6 (n 2)]] (.ret)) (q [r [fa 29 0 3, l 30 29, ar 31 .lss (t 30) (n 1), m 32 31, og 33 (.fldA 0 (t 3)) 32 false, og 34 (.ld1 (t 33)) 32 false,
  og 35 (.arith .gtr (t 34) (n 13)) 32 false, o 36 (.pick (t 32) tt (t 35)), m 28 36]] (.cond (t 28) (q [r [mv 6 (n 9)]] (.ret)) (q [r [fa 38 1 3, l 39 38,
  c 40 265 [t 39], o 41 (.un .not (t 40)), m 37 41]] (.cond (t 37) (q [r [mv 6 (n 4)]] (.ret)) (q [r [fa 43 2 3, l 44 43, le 45 44, ar 46 .gtr (t 45) (n 24),
  m 47 46, og 48 (.fldA 3 (t 3)) 47 false, og 49 (.ld1 (t 48)) 47 false, og 50 (.len (t 49)) 47 false, og 51 (.arith .gtr (t 50) (n 24)) 47 false, o 52 (.pick (t 47) tt (t 51)),
  m 53 52, og 54 (.fldA 4 (t 3)) 53 false, og 55 (.ld1 (t 54)) 53 false, og 56 (.len (t 55)) 53 false, og 57 (.arith .gtr (t 56) (n 100)) 53 false, o 58 (.pick (t 53) tt (t 57)),
  m 42 58]] (.cond (t 42) (q [r [mv 6 (n 2)]] (.ret)) (sk))))))))))), q [r [fa 59 2 3, l 60 59, c 61 266 [t 60], m 7 61], r [m 62 7, ar 63 .neq (t 62) (n 0)]] (.cond (t 63) (q [r [m 64 7,
  m 6 64]] (.ret)) (sk)), q [r [fa 65 3 3, l 66 65, c 67 267 [t 66], m 8 67], r [m 68 8, ar 69 .neq (t 68) (n 0)]] (.cond (t 69) (q [r [m 70 8, m 6 70]] (.ret)) (sk)),
  r [o 71 (.xo .mkmap []), m 9 71], q [r [fa 72 4 3, l 73 72, le 74 73, mv 75 (n 0)]] (.block 1 (.loop (q [r [ar 76 .lss (t 75) (t 74)], .cond (t 76) (sk) (.exit 1),
  .block 2 (q [r [ia 77 5 73 (t 75), ln 78 5 77, o 11 (.new [.int .i64 0, .str [], .nilsl, .nilsl, .nilsl]), s 5 11 78], q [r [fa 79 1 11, l 80 79, ar 81 .neq (t 80) (.const (.str [])),
  m 82 81, og 83 (.mov (t 9)) 82 true, og 84 (.fldA 1 (t 11)) 82 true, og 85 (.ld1 (t 84)) 82 true, og 86 (.xo (.mapget (.one .str) false (.bool false)) [t 83,
  t 85]) 82 true, o 87 (.pick (t 82) (t 86) ff)]] (.cond (t 87) (q [r [mv 6 (n 6)]] (.ret)) (sk))] (r [m 88 9, fa 89 1 11, l 90 89, on (.xo (.mapset (.one .str)) [t 88,
  t 90, tt])]))] (r [ar 91 .add (t 75) (n 1), m 75 91])))), q [r [fa 92 4 3, l 93 92, le 94 93, mv 95 (n 0)]] (.block 3 (.loop (q [r [ar 96 .lss (t 95) (t 94)],
  .cond (t 96) (sk) (.exit 3), .block 4 (q [r [ia 97 5 93 (t 95), ln 98 5 97, o 13 (.new [.int .i64 0, .str [], .nilsl, .nilsl, .nilsl]), s 5 13 98], r [ln 99 5 13,
  m 100 1, ar 101 .add (t 100) (n 1), m 102 2, c 103 227 [t 99, t 101, t 102], m 14 103], r [m 104 14, ar 105 .neq (t 104) (n 0)]] (.cond (t 105) (q [r [m 106 14,
  m 6 106]] (.ret)) (sk)))] (r [ar 107 .add (t 95) (n 1), m 95 107])))), r [mv 6 (n 0)]] (.ret)⟩
theorem A227_ok : XOk Tryz.prog ITS 227 A227 := ⟨Tryz.f227, Tryz.func227, by kernel_rfl, by decide, by kernel_rfl, its_nil (by kernel_rfl)⟩

/- slices.ContainsFunc[[]int,int] -/
def A228 : AFn := ⟨9, [.tmp 4], q [r [mv 4 ff], r [m 5 0, m 6 1, c 7 162 [t 5, t 6], ar 8 .geq (t 7) (n 0), m 4 8]] (.ret)⟩
theorem A228_ok : XOk Tryz.prog ITS 228 A228 := ⟨Tryz.f228, Tryz.func228, by kernel_rfl, by decide, by kernel_rfl, its_nil (by kernel_rfl)⟩

/- widgetry/box.length$1 -/
def A252 : AFn := ⟨9, [.tmp 2], q [r [mv 2 ff], r [m 3 0, ar 4 .lss (t 3) (n 0), m 5 4, og 6 (.mov (t 0)) 5 false, og 7 (.arith .gtr (t 6) (n 1048576)) 5 false, o 8 (.pick (t 5) tt (t 7)),
  m 2 8]] (.ret)⟩
theorem A252_ok : XOk Tryz.prog ITS 252 A252 := ⟨Tryz.f252, Tryz.func252, by kernel_rfl, by decide, by kernel_rfl, its_nil (by kernel_rfl)⟩

/- slices.Index[[]bool,bool] -/
def A264 : AFn := ⟨19, [.tmp 4], q [r [mv 4 (n 0)], q [r [m 6 0, le 7 6, mv 8 (n 0)]] (.block 0 (.loop (q [r [ar 9 .lss (t 8) (t 7)], .cond (t 9) (sk) (.exit 0), .block 1 (q [r [m 10 8,
  m 5 10], r [m 11 1, m 12 0, m 13 5, ia 14 1 12 (t 13), l 15 14, o 16 (.eqs false (t 11) (t 15))]] (.cond (t 16) (q [r [m 17 5, m 4 17]] (.ret)) (sk)))] (r [ar 18 .add (t 8) (n 1),
  m 8 18])))), r [mv 4 (n (-1))]] (.ret)⟩
theorem A264_ok : XOk Tryz.prog ITS 264 A264 := ⟨Tryz.f264, Tryz.func264, by kernel_rfl, by decide, by kernel_rfl, its_nil (by kernel_rfl)⟩

/- widgetry/view.Key -/
def A265 : AFn := ⟨47, [.tmp 2], q [r [mv 2 ff], q [r [m 5 0, o 6 (.lenS (t 5)), mv 7 (n 0)]] (.block 0 (.loop (q [r [ar 8 .lss (t 7) (t 6)], .cond (t 8) (sk) (.exit 0), .block 1 (q [r [m 9 7,
  m 3 9], r [m 10 0, m 11 3, o 12 (.idxS (t 10) (t 11)), m 4 12], r [m 13 4, ar 14 .lss (t 13) (.const (.int .u8 97)), m 15 14, og 16 (.mov (t 4)) 15 false,
  og 17 (.arith .gtr (t 16) (.const (.int .u8 122))) 15 false, o 18 (.pick (t 15) tt (t 17)), m 19 18, og 20 (.mov (t 4)) 19 true, og 21 (.arith .lss (t 20) (.const (.int .u8 65))) 19 true,
  og 22 (.mov (t 21)) 19 true, og 23 (.mov (t 4)) 22 false, og 24 (.arith .gtr (t 23) (.const (.int .u8 90))) 22 false, og 25 (.pick (t 22) tt (t 24)) 19 true,
  o 26 (.pick (t 19) (t 25) ff), m 27 26, og 28 (.mov (t 4)) 27 true, og 29 (.arith .lss (t 28) (.const (.int .u8 48))) 27 true, og 30 (.mov (t 29)) 27 true,
  og 31 (.mov (t 4)) 30 false, og 32 (.arith .gtr (t 31) (.const (.int .u8 57))) 30 false, og 33 (.pick (t 30) tt (t 32)) 27 true, o 34 (.pick (t 27) (t 33) ff),
  m 35 34, og 36 (.mov (t 4)) 35 true, og 37 (.arith .neq (t 36) (.const (.int .u8 45))) 35 true, o 38 (.pick (t 35) (t 37) ff), m 39 38, og 40 (.mov (t 4)) 39 true,
  og 41 (.arith .neq (t 40) (.const (.int .u8 95))) 39 true, o 42 (.pick (t 39) (t 41) ff)]] (.cond (t 42) (q [r [mv 2 ff]] (.ret)) (sk)))] (r [ar 43 .add (t 7) (n 1),
  m 7 43])))), r [m 44 0, o 45 (.lenS (t 44)), ar 46 .leq (t 45) (n 24), m 2 46]] (.ret)⟩
theorem A265_ok : XOk Tryz.prog ITS 265 A265 := ⟨Tryz.f265, Tryz.func265, by kernel_rfl, by decide, by kernel_rfl, its_nil (by kernel_rfl)⟩

/- widgetry/view.attributes -/
def A266 : AFn := ⟨39, [.tmp 2], q [r [mv 2 (n 0)], q [r [m 6 0, le 7 6, mv 8 (n 0)]] (.block 0 (.loop (q [r [ar 9 .lss (t 8) (t 7)], .cond (t 9) (sk) (.exit 0), .block 1 (q [r [m 10 8,
  ia 11 5 6 (t 8), ln 12 5 11, o 4 (.new [.str [], .int .i64 0, .int .i64 0, .str [], .nilsl]), m 3 10, s 5 4 12], .block 2 (q [r [fa 14 0 4, l 15 14, c 16 308 [t 15],
  o 17 (.un .not (t 16)), m 13 17]] (.cond (t 13) (q [r [mv 2 (n 4)]] (.ret)) (q [d [(m 19 3, 0), (ar 20 .gtr (t 19) (n 0), 1), (m 21 20, 3), (og 22 (.mov (t 0)) 21 true,
  7), (og 23 (.mov (t 3)) 21 true, 7), (og 24 (.arith .sub (t 23) (n 1)) 21 true, 23), (og 25 (.idxA 5 (t 22) (t 24)) 21 true, 63), (og 26 (.fldA 0 (t 25)) 21 true,
  127), (og 27 (.ld1 (t 26)) 21 true, 255), (og 28 (.fldA 0 (t 4)) 21 true, 7), (og 29 (.ld1 (t 28)) 21 true, 519), (og 30 (.arith .geq (t 27) (t 29)) 21 true,
  2047), (o 31 (.pick (t 21) (t 30) ff), 4095), (m 18 31, 8191)]] (.cond (t 18) (q [r [mv 2 (n 10)]] (.ret)) (sk))))), r [fa 32 1 4, ln 33 4 32, c 34 309 [t 33],
  m 5 34], r [m 35 5, ar 36 .neq (t 35) (n 0)]] (.cond (t 36) (q [r [m 37 5, m 2 37]] (.ret)) (sk)))] (r [ar 38 .add (t 8) (n 1), m 8 38])))), r [mv 2 (n 0)]] (.ret)⟩
theorem A266_ok : XOk Tryz.prog ITS 266 A266 := ⟨Tryz.f266, Tryz.func266, by kernel_rfl, by decide, by kernel_rfl, its_nil (by kernel_rfl)⟩

/- widgetry/view.actions -/
def A267 : AFn := ⟨65, [.tmp 2], q [r [mv 2 (n 0)], q [r [m 8 0, le 9 8, mv 10 (n 0)]] (.block 0 (.loop (q [r [ar 11 .lss (t 10) (t 9)], .cond (t 11) (sk) (.exit 0), .block 1 (q [r [m 12 10,
  ia 13 4 8 (t 10), ln 14 4 13, o 4 (.new [.str [], .str [], .str [], .nilsl]), m 3 12, s 4 4 14], .block 2 (q [r [fa 16 0 4, l 17 16, c 18 308 [t 17], o 19 (.un .not (t 18)),
  m 20 19, og 21 (.fldA 2 (t 4)) 20 false, og 22 (.ld1 (t 21)) 20 false, og 23 (.call (fn 308) [t 22]) 20 false, og 24 (.un .not (t 23)) 20 false, o 25 (.pick (t 20) tt (t 24)),
  m 15 25]] (.cond (t 15) (q [r [mv 2 (n 4)]] (.ret)) (q [d [(m 27 3, 0), (ar 28 .gtr (t 27) (n 0), 1), (m 29 28, 3), (og 30 (.mov (t 0)) 29 true, 7), (og 31 (.mov (t 3)) 29 true,
  7), (og 32 (.arith .sub (t 31) (n 1)) 29 true, 23), (og 33 (.idxA 4 (t 30) (t 32)) 29 true, 63), (og 34 (.fldA 0 (t 33)) 29 true, 127), (og 35 (.ld1 (t 34)) 29 true,
  255), (og 36 (.fldA 0 (t 4)) 29 true, 7), (og 37 (.ld1 (t 36)) 29 true, 519), (og 38 (.arith .geq (t 35) (t 37)) 29 true, 2047), (o 39 (.pick (t 29) (t 38) ff),
  4095), (m 26 39, 8191)]] (.cond (t 26) (q [r [mv 2 (n 10)]] (.ret)) (q [r [fa 41 1 4, l 42 41, o 43 (.lenS (t 42)), ar 44 .gtr (t 43) (n 400), m 45 44,
  og 46 (.fldA 3 (t 4)) 45 false, og 47 (.ld1 (t 46)) 45 false, og 48 (.len (t 47)) 45 false, og 49 (.arith .gtr (t 48) (n 100)) 45 false, o 50 (.pick (t 45) tt (t 49)),
  m 40 50]] (.cond (t 40) (q [r [mv 2 (n 2)]] (.ret)) (sk))))))), r [fa 51 3 4, l 52 51, le 53 52, mv 54 (n 0)]] (.block 3 (.loop (q [r [ar 55 .lss (t 54) (t 53)],
  .cond (t 55) (sk) (.exit 3), .block 4 (q [r [ia 56 4 52 (t 54), ln 57 4 56, o 6 (.new [.int .i64 0, .int .i64 0, .str [], .nilsl]), s 4 6 57], r [ln 58 4 6,
  c 59 309 [t 58], m 7 59], r [m 60 7, ar 61 .neq (t 60) (n 0)]] (.cond (t 61) (q [r [m 62 7, m 2 62]] (.ret)) (sk)))] (r [ar 63 .add (t 54) (n 1), m 54 63])))))] (r [ar 64 .add (t 10) (n 1),
  m 10 64])))), r [mv 2 (n 0)]] (.ret)⟩
theorem A267_ok : XOk Tryz.prog ITS 267 A267 := ⟨Tryz.f267, Tryz.func267, by kernel_rfl, by decide, by kernel_rfl, its_nil (by kernel_rfl)⟩
def xtr3 : XT := .node 184 (.node 159 (.node 150 (.node 143 (.one 142 A142) (.node 149 (.one 143 A143) (.one 149 A149))) (.node 152 (.node 151 (.one 150 A150) (.one 151 A151)) (.node 155 (.one 152 A152) (.one 155 A155)))) (.node 172 (.node 166 (.node 162 (.one 159 A159) (.one 162 A162)) (.node 171 (.one 166 A166) (.one 171 A171))) (.node 174 (.node 173 (.one 172 A172) (.one 173 A173)) (.node 180 (.one 174 A174) (.one 180 A180))))) (.node 226 (.node 215 (.node 205 (.one 184 A184) (.node 206 (.one 205 A205) (.one 206 A206))) (.node 223 (.node 221 (.one 215 A215) (.one 221 A221)) (.node 225 (.one 223 A223) (.one 225 A225)))) (.node 264 (.node 228 (.node 227 (.one 226 A226) (.one 227 A227)) (.node 252 (.one 228 A228) (.one 252 A252))) (.node 266 (.node 265 (.one 264 A264) (.one 265 A265)) (.node 267 (.one 266 A266) (.one 267 A267)))))
theorem xtr3_ok : xtr3.Ok Tryz.prog ITS := ⟨⟨⟨⟨A142_ok, ⟨A143_ok, A149_ok⟩⟩, ⟨⟨A150_ok, A151_ok⟩, ⟨A152_ok, A155_ok⟩⟩⟩, ⟨⟨⟨A159_ok, A162_ok⟩, ⟨A166_ok, A171_ok⟩⟩, ⟨⟨A172_ok, A173_ok⟩, ⟨A174_ok, A180_ok⟩⟩⟩⟩, ⟨⟨⟨A184_ok, ⟨A205_ok, A206_ok⟩⟩, ⟨⟨A215_ok, A221_ok⟩, ⟨A223_ok, A225_ok⟩⟩⟩, ⟨⟨⟨A226_ok, A227_ok⟩, ⟨A228_ok, A252_ok⟩⟩, ⟨⟨A264_ok, A265_ok⟩, ⟨A266_ok, A267_ok⟩⟩⟩⟩⟩
end Go.Proofs.YtfegfialedlfcaaGreatDoor
end
noncomputable section
namespace Go.Proofs.YtfegfialedlfcaaGreatDoor
open Go.RowKit Go.Shelf Go.Eng
attribute [local go_sem] Oper.semAt_some
set_option maxRecDepth 100000 in
set_option maxHeartbeats 2000000 in
theorem it181 : IterOk Tryz.prog ⟨181, true, none⟩ := by
  refine ⟨⟨_, Tryz.func181, rfl, by decide⟩, ?_⟩
  intro l bx len J Jx W hlen hmem hfix hY hgrow h0
  refine callsIn_wide.1 (?_ : CallsIn Fence.wide 1 Tryz.prog 181 _ W _)
  refine callsIn_of_wp Tryz.func181 rfl trivial ?_ rfl
  simp only [Tryz.ntmps181, List.size_toArray, List.length_cons, List.length_nil, Nat.reduceAdd, Nat.reduceSub, Array.replicate_succ, Array.replicate_zero, List.push_toArray, List.append_toArray, List.nil_append, List.cons_append]
  have hlen' : len ≤ 9223372036854775807 := hlen
  have hel1 : ∀ (W : World) (b o k : Nat) (v : Value), ElemAt W b (o + k * It.z ⟨181, true, none⟩) none v → W.cell? ⟨b, o + k, none⟩ = some v := fun W b o k v h => by
    have h : W.cell? ⟨b, o + k * 1, none⟩ = some v := h
    rwa [Nat.mul_one] at h
  have hmem : ∀ i W, J i W → (len = 0 ∧ ∃ a cap, W.cell? bx = some (.slice a 0 cap)) ∨ ∃ b o cap, W.cell? bx = some (.slice (some ⟨b, o, none⟩) len cap) ∧ ∀ k, k < len → ∃ v, W.cell? ⟨b, o + k, none⟩ = some v := fun i W hJ => by
    rcases hmem i W hJ with h | ⟨b, o, cap, h1, h2⟩
    · exact .inl h
    · exact .inr ⟨b, o, cap, h1, fun k hk => let ⟨v, hv⟩ := h2 k hk; ⟨v, hel1 _ _ _ _ _ hv⟩⟩
  rcases hmem 0 W h0 with ⟨hz, a, cap, hc⟩ | ⟨b, o, cap, hc, hel⟩
  · subst hz
    gi_wp2
    gi_loopw [3] (fun i wr => i = .int .i64 (-1) ∧ J 0 wr) (fun _ _ => 0)
    case atStart => exact ⟨rfl, h0⟩
    case round =>
      obtain ⟨rfl, hJs⟩ := hrel
      gi_wp2
      go_end0
      exact ⟨⟨_, rfl⟩, .inl hJs⟩
  · gi_wp2
    gi_loopw [3] (fun i wr => ∃ k : Nat, k ≤ len ∧ i = .int .i64 ((len : Int) - 1 - k) ∧ J k wr) (fun i _ => ((intOf i) + 1).toNat)
    case atStart => exact ⟨0, Nat.zero_le _, by simp, h0⟩
    case round =>
      obtain ⟨k, hk, rfl, hJs⟩ := hrel
      by_cases hlt : k < len
      · rcases hmem k wr hJs with ⟨hz, _⟩ | ⟨b2, o2, cap2, hc2, hel2⟩
        · omega
        · obtain ⟨v, hv⟩ := hel2 (len - 1 - k) (by omega)
          have hv' : ElemAt wr b2 (o2 + It.pos ⟨181, true, none⟩ len k * It.z ⟨181, true, none⟩) none v := by
            show wr.cell? ⟨b2, o2 + (len - 1 - k) * 1, none⟩ = some v
            rw [Nat.mul_one]; exact hv
          obtain ⟨fn, tmps, assign, body, hy, hR⟩ := hY k wr b2 o2 cap2 v hlt hJs (.inl hc2) hv'
          have e1 : ((It.pos ⟨181, true, none⟩ len k : Nat) : Int) = (len : Int) - 1 - k := by
            show ((len - 1 - k : Nat) : Int) = _
            omega
          rw [e1] at hy
          gi_wp2
          refine hR.mono ?_
          rintro e W3 (⟨rfl, hJ3⟩ | ⟨rfl, hJx3⟩)
          · gi_wp2
            go_roundw
            case rel => exact ⟨k + 1, by omega, by simp; omega, hJ3⟩
            case measure => simp [intOf]; omega
          · gi_wp2
            refine bodyPost_ret (results_none rfl _ _ _) rfl ?_
            exact ⟨⟨_, rfl⟩, .inr hJx3⟩
      · obtain rfl : k = len := by omega
        gi_wp2
        go_end0
        exact ⟨⟨_, rfl⟩, .inl hJs⟩
end Go.Proofs.YtfegfialedlfcaaGreatDoor
end
