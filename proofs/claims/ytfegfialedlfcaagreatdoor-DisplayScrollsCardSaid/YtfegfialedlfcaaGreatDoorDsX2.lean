/- Functions that a run executes, as code for the kernel, third part; printed by a program of ours. -/
import Derived.Test.YtfegfialedlfcaaGreatDoorDsIts
import Derived.Test.YtfegfialedlfcaaGreatDoorProg
import Derived.KernelRfl
set_option linter.unusedSimpArgs false
set_option linter.unusedVariables false
set_option linter.unnecessarySimpa false
noncomputable section
namespace Go.Proofs.YtfegfialedlfcaaGreatDoor
open Go.Eng Go.Eng.DZ
set_option maxRecDepth 100000
/- widgetry/layout.complete -/
def A87 : AFn := ⟨9, [.tmp 4], q [r [o 2 (.box (t 0)), mv 4 ff], r [fa 5 2 2, l 6 5, m 7 1, c 8 55 [t 6, t 7, fn 140], m 4 8]] (.ret)⟩
theorem A87_ok : XOk Tryz.prog ITS 87 A87 := ⟨Tryz.f87, Tryz.func87, by kernel_rfl, by decide, by kernel_rfl, its_nil (by kernel_rfl)⟩

/- widgetry/layout.styled -/
def A88 : AFn := ⟨25, [.tmp 2], q [r [mv 2 ff], q [r [m 7 0, le 8 7, mv 9 (n 0)]] (.block 0 (.loop (q [r [ar 10 .lss (t 9) (t 8)], .cond (t 10) (sk) (.exit 0), .block 1 (q [r [ia 11 23 7 (t 9),
  ln 12 23 11, o 4 (.new [.int .i64 0, .int .i64 0, .int .i64 0, .int .i64 0, .int .i64 0, .int .i64 0, .int .i64 0, .int .i64 0, .int .i64 0, .int .i64 0,
  .int .i64 0, .int .i64 0, .int .i64 0, .int .i64 0, .int .i64 0, .int .i64 0, .int .i64 0, .int .i64 0, .int .i64 0, .int .i64 0, .int .i64 0, .int .i64 0,
  .int .i64 0]), s 23 4 12], r [fa 13 1 4, ln 14 22 13, mv 15 (n 0)]] (.block 2 (.loop (q [r [ar 16 .lss (t 15) (n 22)], .cond (t 16) (sk) (.exit 2), .block 3 (q [r [m 17 15,
  o 18 (.idx 22 1 none (t 14) (t 15)), m 5 17, m 6 18], r [m 19 5, m 20 6, c 21 57 [t 19, t 20], o 22 (.un .not (t 21))]] (.cond (t 22) (q [r [mv 2 ff]] (.ret)) (sk)))] (r [ar 23 .add (t 15) (n 1),
  m 15 23])))))] (r [ar 24 .add (t 9) (n 1), m 9 24])))), r [mv 2 tt]] (.ret)⟩
theorem A88_ok : XOk Tryz.prog ITS 88 A88 := ⟨Tryz.f88, Tryz.func88, by kernel_rfl, by decide, by kernel_rfl, its_nil (by kernel_rfl)⟩

/- widgetry/font.Validate -/
def A89 : AFn := ⟨28, [.tmp 2], q [r [o 1 (.box (t 0)), mv 2 (n 0)], .block 0 (q [r [fa 4 5 1, l 5 4, le 6 5, ar 7 .gtr (t 6) (n 100), m 8 7, og 9 (.fldA 6 (t 1)) 8 false, og 10 (.ld1 (t 9)) 8 false,
  og 11 (.len (t 10)) 8 false, og 12 (.arith .gtr (t 11) (n 100)) 8 false, o 13 (.pick (t 8) tt (t 12)), m 14 13, og 15 (.fldA 7 (t 1)) 14 false, og 16 (.ld1 (t 15)) 14 false,
  og 17 (.len (t 16)) 14 false, og 18 (.arith .gtr (t 17) (n 100)) 14 false, o 19 (.pick (t 14) tt (t 18)), m 3 19]] (.cond (t 3) (q [r [mv 2 (n 2)]] (.ret)) (q [r [ln 21 8 1,
  c 22 141 [t 21], o 23 (.un .not (t 22)), m 20 23]] (.cond (t 20) (q [r [mv 2 (n 1)]] (.ret)) (q [r [ln 25 8 1, c 26 142 [t 25], o 27 (.un .not (t 26)),
  m 24 27]] (.cond (t 24) (q [r [mv 2 (n 10)]] (.ret)) (sk))))))), r [mv 2 (n 0)]] (.ret)⟩
theorem A89_ok : XOk Tryz.prog ITS 89 A89 := ⟨Tryz.f89, Tryz.func89, by kernel_rfl, by decide, by kernel_rfl, its_nil (by kernel_rfl)⟩

/- (*widgetry/layout.scene).hidden -/
def A90 : AFn := ⟨23, [.tmp 4], q [r [mv 4 ff], r [m 5 0, o 6 (.nilchk (t 5)), fa 7 5 6, l 8 7, m 9 1, o 10 (.xo (.mapget (.one (.int .i64)) false (.agg [.int .i64 0, .int .i64 0, .int .i64 0,
  .int .i64 0, .int .i64 0, .int .i64 0, .int .i64 0, .int .i64 0, .int .i64 0, .int .i64 0, .int .i64 0, .int .i64 0, .int .i64 0, .int .i64 0, .int .i64 0,
  .int .i64 0, .int .i64 0, .int .i64 0, .int .i64 0, .int .i64 0, .int .i64 0, .int .i64 0])) [t 8, t 9]), o 11 (.idx 22 1 none (t 10) (n 5)), ar 12 .eql (t 11) (n 0),
  m 13 12, og 14 (.mov (t 0)) 13 false, og 15 (.nilchk (t 14)) 13 false, og 16 (.fldA 4 (t 15)) 13 false, og 17 (.ld1 (t 16)) 13 false, og 18 (.mov (t 1)) 13 false,
  og 19 (.xo (.mapget (.one (.int .i64)) false (.agg [.int .i64 0, .int .i64 0, .int .i64 0, .str [], .nilsl, .nilsl, .nilsl])) [t 17, t 18]) 13 false, og 20 (.fld 4 none (t 19)) 13 false,
  og 21 (.call (fn 122) [t 20, .const (.str [104, 105, 100, 100, 101, 110])]) 13 false, o 22 (.pick (t 13) tt (t 21)), m 4 22]] (.ret)⟩
theorem A90_ok : XOk Tryz.prog ITS 90 A90 := ⟨Tryz.f90, Tryz.func90, by kernel_rfl, by decide, by kernel_rfl, its_nil (by kernel_rfl)⟩

/- (*widgetry/layout.scene).show -/
def A91 : AFn := ⟨60, [], q [r [m 7 0, m 8 0, o 9 (.nilchk (t 8)), fa 10 7 9, l 11 10, m 12 1, o 13 (.buildSl 1 1 [.int .i64 0] [(0, 1, .tmp 12)]), o 14 (.app 1 8 (t 11) (t 13)),
  o 15 (.nilchk (t 7)), fa 16 7 15, s 1 16 14], r [m 17 0, o 18 (.nilchk (t 17)), fa 19 4 18, l 20 19, m 21 1, o 22 (.xo (.mapget (.one (.int .i64)) false (.agg [.int .i64 0,
  .int .i64 0, .int .i64 0, .str [], .nilsl, .nilsl, .nilsl])) [t 20, t 21]), o 4 (.new [.int .i64 0, .int .i64 0, .int .i64 0, .str [], .nilsl, .nilsl,
  .nilsl]), s 7 4 22], q [r [fa 23 2 4, l 24 23, c 25 48 [t 24], m 26 25, og 27 (.fldA 2 (t 4)) 26 false, og 28 (.ld1 (t 27)) 26 false, og 29 (.call (fn 143) [t 28]) 26 false,
  o 30 (.pick (t 26) tt (t 29))]] (.cond (t 30) (.ret) (sk)), r [fa 31 6 4, l 32 31, le 33 32, mv 34 (n 0)]] (.block 0 (.loop (q [r [ar 35 .lss (t 34) (t 33)],
  .cond (t 35) (sk) (.exit 0), .block 1 (q [r [ia 36 1 32 (t 34), l 37 36, m 6 37], r [m 38 0, m 39 6, c 40 90 [t 38, t 39], o 41 (.un .not (t 40))]] (.cond (t 41) (q [d [(m 42 0,
  0), (o 43 (.nilchk (t 42)), 1), (fa 44 6 43, 3), (l 45 44, 7), (m 46 1, 0), (m 47 0, 0), (o 48 (.nilchk (t 47)), 32), (fa 49 6 48, 96), (l 50 49, 224),
  (m 51 1, 0), (o 52 (.xo (.mapget (.one (.int .i64)) false (.nilsl)) [t 50, t 51]), 992), (m 53 6, 0), (o 54 (.buildSl 1 1 [.int .i64 0] [(0, 1, .tmp 53)]),
  2048), (o 55 (.app 1 8 (t 52) (t 54)), 8160), (on (.xo (.mapset (.one (.int .i64))) [t 45, t 46, t 55]), 16383)]] (r [m 56 0, m 57 6, c 58 91 [t 56, t 57]])) (sk)))] (r [ar 59 .add (t 34) (n 1),
  m 34 59]))))⟩
theorem A91_ok : XOk Tryz.prog ITS 91 A91 := ⟨Tryz.f91, Tryz.func91, by kernel_rfl, by decide, by kernel_rfl, its_nil (by kernel_rfl)⟩

/- (*widgetry/layout.scene).inside -/
def A94 : AFn := ⟨23, [.tmp 6], q [r [mv 6 (n 0)], r [m 10 0, o 11 (.nilchk (t 10)), fa 12 5 11, l 13 12, m 14 1, o 15 (.xo (.mapget (.one (.int .i64)) false (.agg [.int .i64 0, .int .i64 0,
  .int .i64 0, .int .i64 0, .int .i64 0, .int .i64 0, .int .i64 0, .int .i64 0, .int .i64 0, .int .i64 0, .int .i64 0, .int .i64 0, .int .i64 0, .int .i64 0,
  .int .i64 0, .int .i64 0, .int .i64 0, .int .i64 0, .int .i64 0, .int .i64 0, .int .i64 0, .int .i64 0])) [t 13, t 14]), c 16 95 [t 15], m 9 16, ex 17 9 0,
  ex 18 9 1, m 7 17, m 8 18], r [m 19 2, m 20 7, ar 21 .sub (t 19) (t 20), c 22 96 [t 21], m 6 22]] (.ret)⟩
theorem A94_ok : XOk Tryz.prog ITS 94 A94 := ⟨Tryz.f94, Tryz.func94, by kernel_rfl, by decide, by kernel_rfl, its_nil (by kernel_rfl)⟩

/- widgetry/layout.pad -/
def A95 : AFn := ⟨14, [.tmp 2, .tmp 3], q [r [o 1 (.box (t 0)), mv 2 (n 0), mv 3 (n 0)], d [(o 4 (.idxArrA 22 1 (t 1) (n 17)), 0), (l 5 4, 1), (o 6 (.idxArrA 22 1 (t 1) (n 19)), 0), (l 7 6, 4),
  (ar 8 .add (t 5) (t 7), 15), (o 9 (.idxArrA 22 1 (t 1) (n 18)), 0), (l 10 9, 32), (o 11 (.idxArrA 22 1 (t 1) (n 20)), 0), (l 12 11, 128), (ar 13 .add (t 10) (t 12),
  480), (m 2 8, 31), (m 3 13, 2047)]] (.ret)⟩
theorem A95_ok : XOk Tryz.prog ITS 95 A95 := ⟨Tryz.f95, Tryz.func95, by kernel_rfl, by decide, by kernel_rfl, its_nil (by kernel_rfl)⟩

/- widgetry/layout.length -/
def A96 : AFn := ⟨5, [.tmp 2], q [r [mv 2 (n 0)], r [m 3 0, c 4 149 [t 3, n 0, n 1048576], m 2 4]] (.ret)⟩
theorem A96_ok : XOk Tryz.prog ITS 96 A96 := ⟨Tryz.f96, Tryz.func96, by kernel_rfl, by decide, by kernel_rfl, its_nil (by kernel_rfl)⟩

/- (*widgetry/layout.scene).column -/
def A100 : AFn := ⟨143, [.tmp 8], q [r [mv 8 (.const (.nilsl))], r [m 23 0, o 24 (.nilchk (t 23)), fa 25 5 24, l 26 25, m 27 1, o 28 (.xo (.mapget (.one (.int .i64)) false (.agg [.int .i64 0,
  .int .i64 0, .int .i64 0, .int .i64 0, .int .i64 0, .int .i64 0, .int .i64 0, .int .i64 0, .int .i64 0, .int .i64 0, .int .i64 0, .int .i64 0, .int .i64 0,
  .int .i64 0, .int .i64 0, .int .i64 0, .int .i64 0, .int .i64 0, .int .i64 0, .int .i64 0, .int .i64 0, .int .i64 0])) [t 26, t 27]), o 9 (.new [.int .i64 0,
  .int .i64 0, .int .i64 0, .int .i64 0, .int .i64 0, .int .i64 0, .int .i64 0, .int .i64 0, .int .i64 0, .int .i64 0, .int .i64 0, .int .i64 0, .int .i64 0,
  .int .i64 0, .int .i64 0, .int .i64 0, .int .i64 0, .int .i64 0, .int .i64 0, .int .i64 0, .int .i64 0, .int .i64 0]), s 22 9 28], r [m 29 0, m 30 1, m 31 2,
  c 32 150 [t 29, t 30, t 31], m 10 32], r [m 33 0, m 34 1, m 35 10, c 36 151 [t 33, t 34, t 35], m 11 36], r [o 37 (.idxArrA 22 1 (t 9) (n 7)), l 38 37,
  m 12 38], q [r [m 39 0, o 40 (.nilchk (t 39)), fa 41 4 40, l 42 41, m 43 1, o 44 (.xo (.mapget (.one (.int .i64)) false (.agg [.int .i64 0, .int .i64 0,
  .int .i64 0, .str [], .nilsl, .nilsl, .nilsl])) [t 42, t 43]), o 45 (.fld 2 none (t 44)), ar 46 .eql (t 45) (n 8)]] (.cond (t 46) (r [mv 12 (n 0)]) (q [r [mv 13 (.const (.nilsl))],
  q [r [m 47 0, o 48 (.nilchk (t 47)), fa 49 6 48, l 50 49, m 51 1, o 52 (.xo (.mapget (.one (.int .i64)) false (.nilsl)) [t 50, t 51]), le 53 52, mv 54 (n 0)]] (.block 0 (.loop (q [r [ar 55 .lss (t 54) (t 53)],
  .cond (t 55) (sk) (.exit 0), .block 1 (q [r [m 56 54, ia 57 1 52 (t 54), l 58 57, m 14 56, m 15 58], r [mv 16 (n 0)], q [r [m 59 0, o 60 (.nilchk (t 59)),
  fa 61 5 60, l 62 61, m 63 15, o 64 (.xo (.mapget (.one (.int .i64)) false (.agg [.int .i64 0, .int .i64 0, .int .i64 0, .int .i64 0, .int .i64 0, .int .i64 0,
  .int .i64 0, .int .i64 0, .int .i64 0, .int .i64 0, .int .i64 0, .int .i64 0, .int .i64 0, .int .i64 0, .int .i64 0, .int .i64 0, .int .i64 0, .int .i64 0,
  .int .i64 0, .int .i64 0, .int .i64 0, .int .i64 0])) [t 62, t 63]), o 65 (.idx 22 1 none (t 64) (n 12)), ar 66 .lss (t 65) (n 0)]] (.cond (t 66) (r [m 67 11,
  m 68 14, ia 69 1 67 (t 68), l 70 69, m 16 70]) (sk))] (r [m 71 13, m 72 0, m 73 15, m 74 11, m 75 14, ia 76 1 74 (t 75), l 77 76, m 78 16, c 79 165 [t 72,
  t 73, t 77, n 15, n 16, t 78], o 80 (.buildSl 5 1 [.int .i64 0, .int .i64 0, .int .i64 0, .int .i64 0, .int .i64 0] [(0, 5, .tmp 79)]), o 81 (.app 5 40 (t 71) (t 80)),
  m 13 81]))] (r [ar 82 .add (t 54) (n 1), m 54 82]))))] (r [m 84 3, o 85 (.idxArrA 22 1 (t 9) (n 9)), l 86 85, m 87 13, c 88 166 [t 84, t 86, t 87], m 83 88,
  ex 89 83 0, ex 90 83 1, m 11 89]))), r [m 91 3, o 92 (.idxArrA 22 1 (t 9) (n 9)), l 93 92, m 94 12, m 95 11, c 96 152 [t 91, t 93, t 94, t 95, ff], m 17 96],
  r [o 97 (.idxArrA 22 1 (t 9) (n 6)), l 98 97, m 18 98], q [r [m 99 18, ar 100 .eql (t 99) (n 3)]] (.cond (t 100) (r [mv 18 (n 0)]) (sk)), r [mv 19 (.const (.nilsl))],
  q [r [m 101 0, o 102 (.nilchk (t 101)), fa 103 6 102, l 104 103, m 105 1, o 106 (.xo (.mapget (.one (.int .i64)) false (.nilsl)) [t 104, t 105]), le 107 106,
  mv 108 (n 0)]] (.block 2 (.loop (q [r [ar 109 .lss (t 108) (t 107)], .cond (t 109) (sk) (.exit 2), .block 3 (q [r [m 110 108, m 20 110], d [(m 112 18,
  0), (m 113 2, 0), (m 114 10, 0), (m 115 20, 0), (ia 116 1 114 (t 115), 12), (l 117 116, 28), (o 118 (.idxArrA 22 1 (t 9) (n 4)), 0), (l 119 118, 64), (ar 120 .eql (t 119) (n 1),
  192), (c 121 155 [t 112, t 113, t 117, t 120], 511), (m 111 121, 1023), (ex 122 111 0, 2047), (ex 123 111 1, 2047), (m 21 122, 4095), (m 22 123, 16383)]] (d [(m 124 19,
  0), (m 125 21, 0), (m 126 17, 0), (m 127 20, 0), (ia 128 1 126 (t 127), 12), (l 129 128, 28), (m 130 10, 0), (m 131 20, 0), (ia 132 1 130 (t 131), 192),
  (l 133 132, 448), (m 134 11, 0), (m 135 20, 0), (ia 136 1 134 (t 135), 3072), (l 137 136, 7168), (o 138 (.build [.int .i64 0, .int .i64 0, .int .i64 0,
  .int .i64 0] [(0, 1, .tmp 125), (1, 1, .tmp 129), (2, 1, .tmp 133), (3, 1, .tmp 137)]), 16382), (o 139 (.buildSl 4 1 [.int .i64 0, .int .i64 0, .int .i64 0,
  .int .i64 0] [(0, 4, .tmp 138)]), 32766), (o 140 (.app 4 32 (t 124) (t 139)), 65535), (m 19 140, 131071)]))] (r [ar 141 .add (t 108) (n 1), m 108 141])))),
  r [m 142 19, m 8 142]] (.ret)⟩
theorem A100_ok : XOk Tryz.prog ITS 100 A100 := ⟨Tryz.f100, Tryz.func100, by kernel_rfl, by decide, by kernel_rfl, its_nil (by kernel_rfl)⟩

/- slices.insertionSortCmpFunc[widgetry/api.Box] -/
def A101 : AFn := ⟨53, [], q [r [m 10 1, ar 11 .add (t 10) (n 1), m 8 11]] (.block 0 (.loop (q [q [r [m 12 8, m 13 2, ar 14 .lss (t 12) (t 13)]] (.cond (t 14) (sk) (.exit 0)), .block 1 (q [r [m 17 8,
  m 9 17]] (.block 2 (.loop (q [q [d [(m 18 9, 0), (m 19 1, 0), (ar 20 .gtr (t 18) (t 19), 3), (m 21 20, 7), (og 22 (.mov (t 3)) 21 true, 15), (og 23 (.mov (t 0)) 21 true,
  15), (og 24 (.mov (t 9)) 21 true, 15), (og 25 (.idxA 7 (t 23) (t 24)) 21 true, 111), (og 26 (.ldn 7 (t 25)) 21 true, 239), (og 27 (.mov (t 0)) 21 true,
  15), (og 28 (.mov (t 9)) 21 true, 15), (og 29 (.arith .sub (t 28) (n 1)) 21 true, 1039), (og 30 (.idxA 7 (t 27) (t 29)) 21 true, 3599), (og 31 (.ldn 7 (t 30)) 21 true,
  7695), (og 32 (.call (t 22) [t 26, t 31]) 21 true, 16383), (og 33 (.arith .lss (t 32) (n 0)) 21 true, 32767), (o 34 (.pick (t 21) (t 33) ff), 65535)]] (.cond (t 34) (sk) (.exit 2)),
  .block 3 (d [(m 37 0, 0), (m 38 9, 0), (m 39 0, 0), (m 40 9, 0), (ar 41 .sub (t 40) (n 1), 8), (m 42 0, 0), (m 43 9, 0), (ar 44 .sub (t 43) (n 1), 64),
  (ia 45 7 42 (t 44), 224), (ln 46 7 45, 480), (m 47 0, 0), (m 48 9, 0), (ia 49 7 47 (t 48), 3072), (ln 50 7 49, 7168), (ia 51 7 37 (t 38), 16355), (s 7 51 46,
  32739), (ia 52 7 39 (t 41), 65535), (s 7 52 50, 131071)])] (r [m 35 9, ar 36 .sub (t 35) (n 1), m 9 36])))))] (r [m 15 8, ar 16 .add (t 15) (n 1), m 8 16]))))⟩
theorem A101_ok : XOk Tryz.prog ITS 101 A101 := ⟨Tryz.f101, Tryz.func101, by kernel_rfl, by decide, by kernel_rfl, its_nil (by kernel_rfl)⟩

/- slices.choosePivotCmpFunc[widgetry/api.Box] -/
def A104 : AFn := ⟨63, [.tmp 8, .tmp 9], q [r [mv 8 (n 0), mv 9 (n 0)], r [m 15 2, m 16 1, ar 17 .sub (t 15) (t 16), m 10 17], r [o 11 (.new [.int .i64 0])], r [m 18 1, m 19 10, ar 20 .quo (t 19) (n 4),
  ar 21 .mul (t 20) (n 1), ar 22 .add (t 18) (t 21), m 12 22], r [m 23 1, m 24 10, ar 25 .quo (t 24) (n 4), ar 26 .mul (t 25) (n 2), ar 27 .add (t 23) (t 26),
  m 13 27], r [m 28 1, m 29 10, ar 30 .quo (t 29) (n 4), ar 31 .mul (t 30) (n 3), ar 32 .add (t 28) (t 31), m 14 32], q [r [m 33 10, ar 34 .geq (t 33) (n 8)]] (.cond (t 34) (q [q [r [m 35 10,
  ar 36 .geq (t 35) (n 50)]] (.cond (t 36) (q [r [m 37 0, m 38 12, m 39 3, c 40 170 [t 37, t 38, t 11, t 39], m 12 40], r [m 41 0, m 42 13, m 43 3, c 44 170 [t 41,
  t 42, t 11, t 43], m 13 44]] (r [m 45 0, m 46 14, m 47 3, c 48 170 [t 45, t 46, t 11, t 47], m 14 48])) (sk))] (r [m 49 0, m 50 12, m 51 13, m 52 14, m 53 3,
  c 54 171 [t 49, t 50, t 51, t 52, t 11, t 53], m 13 54])) (sk)), r [l 55 11]] (.block 0 (q [r [ar 58 .eql (t 55) (n 0), m 57 58]] (.cond (t 57) (q [r [m 59 13,
  m 8 59, mv 9 (n 1)]] (.ret)) (q [r [ar 61 .eql (t 55) (n 12), m 60 61]] (.cond (t 60) (q [r [m 62 13, m 8 62, mv 9 (n 2)]] (.ret)) (q [r [m 56 13, m 8 56,
  mv 9 (n 0)]] (.ret)))))))⟩
theorem A104_ok : XOk Tryz.prog ITS 104 A104 := ⟨Tryz.f104, Tryz.func104, by kernel_rfl, by decide, by kernel_rfl, its_nil (by kernel_rfl)⟩

/- slices.partialInsertionSortCmpFunc[widgetry/api.Box] -/
def A106 : AFn := ⟨141, [.tmp 8], q [r [mv 8 ff], r [m 13 1, ar 14 .add (t 13) (n 1), m 9 14], q [r [mv 10 (n 0)]] (.block 0 (.loop (q [q [r [m 15 10, ar 16 .lss (t 15) (n 5)]] (.cond (t 16) (sk) (.exit 0)),
  .block 1 (q [.block 2 (.loop (q [q [d [(m 19 9, 0), (m 20 2, 0), (ar 21 .lss (t 19) (t 20), 3), (m 22 21, 7), (og 23 (.mov (t 3)) 22 true, 15), (og 24 (.mov (t 0)) 22 true,
  15), (og 25 (.mov (t 9)) 22 true, 15), (og 26 (.idxA 7 (t 24) (t 25)) 22 true, 111), (og 27 (.ldn 7 (t 26)) 22 true, 239), (og 28 (.mov (t 0)) 22 true,
  15), (og 29 (.mov (t 9)) 22 true, 15), (og 30 (.arith .sub (t 29) (n 1)) 22 true, 1039), (og 31 (.idxA 7 (t 28) (t 30)) 22 true, 3599), (og 32 (.ldn 7 (t 31)) 22 true,
  7695), (og 33 (.call (t 23) [t 27, t 32]) 22 true, 16383), (og 34 (.arith .lss (t 33) (n 0)) 22 true, 32767), (og 35 (.un .not (t 34)) 22 true, 65535),
  (o 36 (.pick (t 22) (t 35) ff), 131071)]] (.cond (t 36) (sk) (.exit 2))] (.block 3 (r [m 37 9, ar 38 .add (t 37) (n 1), m 9 38])))), q [r [m 39 9, m 40 2,
  ar 41 .eql (t 39) (t 40)]] (.cond (t 41) (q [r [mv 8 tt]] (.ret)) (sk)), q [r [m 42 2, m 43 1, ar 44 .sub (t 42) (t 43), ar 45 .lss (t 44) (n 50)]] (.cond (t 45) (q [r [mv 8 ff]] (.ret)) (sk)),
  d [(m 46 0, 0), (m 47 9, 0), (m 48 0, 0), (m 49 9, 0), (ar 50 .sub (t 49) (n 1), 8), (m 51 0, 0), (m 52 9, 0), (ar 53 .sub (t 52) (n 1), 64), (ia 54 7 51 (t 53),
  224), (ln 55 7 54, 480), (m 56 0, 0), (m 57 9, 0), (ia 58 7 56 (t 57), 3072), (ln 59 7 58, 7168), (ia 60 7 46 (t 47), 16355), (s 7 60 55, 32739), (ia 61 7 48 (t 50),
  65535), (s 7 61 59, 131071)], q [r [m 62 9, m 63 1, ar 64 .sub (t 62) (t 63), ar 65 .geq (t 64) (n 2)]] (.cond (t 65) (q [r [m 66 9, ar 67 .sub (t 66) (n 1),
  m 11 67]] (.block 4 (.loop (q [q [r [m 68 11, ar 69 .geq (t 68) (n 1)]] (.cond (t 69) (sk) (.exit 4)), .block 5 (q [q [d [(m 72 3, 0), (m 73 0, 0), (m 74 11,
  0), (ia 75 7 73 (t 74), 6), (ln 76 7 75, 14), (m 77 0, 0), (m 78 11, 0), (ar 79 .sub (t 78) (n 1), 64), (ia 80 7 77 (t 79), 224), (ln 81 7 80, 480), (o 82 (.call (t 72) [t 76,
  t 81]), 1023), (ar 83 .lss (t 82) (n 0), 2047), (o 84 (.un .not (t 83)), 4095)]] (.cond (t 84) (.exit 4) (sk))] (d [(m 85 0, 0), (m 86 11, 0), (m 87 0,
  0), (m 88 11, 0), (ar 89 .sub (t 88) (n 1), 8), (m 90 0, 0), (m 91 11, 0), (ar 92 .sub (t 91) (n 1), 64), (ia 93 7 90 (t 92), 224), (ln 94 7 93, 480),
  (m 95 0, 0), (m 96 11, 0), (ia 97 7 95 (t 96), 3072), (ln 98 7 97, 7168), (ia 99 7 85 (t 86), 16355), (s 7 99 94, 32739), (ia 100 7 87 (t 89), 65535),
  (s 7 100 98, 131071)]))] (r [m 70 11, ar 71 .sub (t 70) (n 1), m 11 71]))))) (sk)), r [m 101 2, m 102 9, ar 103 .sub (t 101) (t 102), ar 104 .geq (t 103) (n 2)]] (.cond (t 104) (q [r [m 105 9,
  ar 106 .add (t 105) (n 1), m 12 106]] (.block 6 (.loop (q [q [r [m 107 12, m 108 2, ar 109 .lss (t 107) (t 108)]] (.cond (t 109) (sk) (.exit 6)), .block 7 (q [q [d [(m 112 3,
  0), (m 113 0, 0), (m 114 12, 0), (ia 115 7 113 (t 114), 6), (ln 116 7 115, 14), (m 117 0, 0), (m 118 12, 0), (ar 119 .sub (t 118) (n 1), 64), (ia 120 7 117 (t 119),
  224), (ln 121 7 120, 480), (o 122 (.call (t 112) [t 116, t 121]), 1023), (ar 123 .lss (t 122) (n 0), 2047), (o 124 (.un .not (t 123)), 4095)]] (.cond (t 124) (.exit 6) (sk))] (d [(m 125 0,
  0), (m 126 12, 0), (m 127 0, 0), (m 128 12, 0), (ar 129 .sub (t 128) (n 1), 8), (m 130 0, 0), (m 131 12, 0), (ar 132 .sub (t 131) (n 1), 64), (ia 133 7 130 (t 132),
  224), (ln 134 7 133, 480), (m 135 0, 0), (m 136 12, 0), (ia 137 7 135 (t 136), 3072), (ln 138 7 137, 7168), (ia 139 7 125 (t 126), 16355), (s 7 139 134,
  32739), (ia 140 7 127 (t 129), 65535), (s 7 140 138, 131071)]))] (r [m 110 12, ar 111 .add (t 110) (n 1), m 12 111]))))) (sk)))] (r [m 17 10, ar 18 .add (t 17) (n 1),
  m 10 18])))), r [mv 8 ff]] (.ret)⟩
theorem A106_ok : XOk Tryz.prog ITS 106 A106 := ⟨Tryz.f106, Tryz.func106, by kernel_rfl, by decide, by kernel_rfl, its_nil (by kernel_rfl)⟩

/- slices.partitionCmpFunc[widgetry/api.Box] -/
def A108 : AFn := ⟨178, [.tmp 10, .tmp 11], q [r [mv 10 (n 0), mv 11 ff], d [(m 14 0, 0), (m 15 1, 0), (m 16 0, 0), (m 17 3, 0), (m 18 0, 0), (m 19 3, 0), (ia 20 7 18 (t 19), 48), (ln 21 7 20, 112),
  (m 22 0, 0), (m 23 1, 0), (ia 24 7 22 (t 23), 768), (ln 25 7 24, 1792), (ia 26 7 14 (t 15), 4083), (s 7 26 21, 8179), (ia 27 7 16 (t 17), 16383), (s 7 27 25,
  32767)], r [m 28 1, ar 29 .add (t 28) (n 1), m 30 2, ar 31 .sub (t 30) (n 1), m 12 29, m 13 31], .block 0 (.loop (q [q [d [(m 32 12, 0), (m 33 13, 0),
  (ar 34 .leq (t 32) (t 33), 3), (m 35 34, 7), (og 36 (.mov (t 4)) 35 true, 15), (og 37 (.mov (t 0)) 35 true, 15), (og 38 (.mov (t 12)) 35 true, 15), (og 39 (.idxA 7 (t 37) (t 38)) 35 true,
  111), (og 40 (.ldn 7 (t 39)) 35 true, 239), (og 41 (.mov (t 0)) 35 true, 15), (og 42 (.mov (t 1)) 35 true, 15), (og 43 (.idxA 7 (t 41) (t 42)) 35 true,
  1551), (og 44 (.ldn 7 (t 43)) 35 true, 3599), (og 45 (.call (t 36) [t 40, t 44]) 35 true, 8191), (og 46 (.arith .lss (t 45) (n 0)) 35 true, 16383), (o 47 (.pick (t 35) (t 46) ff),
  32767)]] (.cond (t 47) (sk) (.exit 0))] (.block 1 (r [m 48 12, ar 49 .add (t 48) (n 1), m 12 49])))), .block 2 (.loop (q [q [d [(m 50 12, 0), (m 51 13,
  0), (ar 52 .leq (t 50) (t 51), 3), (m 53 52, 7), (og 54 (.mov (t 4)) 53 true, 15), (og 55 (.mov (t 0)) 53 true, 15), (og 56 (.mov (t 13)) 53 true, 15),
  (og 57 (.idxA 7 (t 55) (t 56)) 53 true, 111), (og 58 (.ldn 7 (t 57)) 53 true, 239), (og 59 (.mov (t 0)) 53 true, 15), (og 60 (.mov (t 1)) 53 true, 15),
  (og 61 (.idxA 7 (t 59) (t 60)) 53 true, 1551), (og 62 (.ldn 7 (t 61)) 53 true, 3599), (og 63 (.call (t 54) [t 58, t 62]) 53 true, 8191), (og 64 (.arith .lss (t 63) (n 0)) 53 true,
  16383), (og 65 (.un .not (t 64)) 53 true, 32767), (o 66 (.pick (t 53) (t 65) ff), 65535)]] (.cond (t 66) (sk) (.exit 2))] (.block 3 (r [m 67 13, ar 68 .sub (t 67) (n 1),
  m 13 68])))), q [r [m 69 12, m 70 13, ar 71 .gtr (t 69) (t 70)]] (.cond (t 71) (q [d [(m 72 0, 0), (m 73 13, 0), (m 74 0, 0), (m 75 1, 0), (m 76 0, 0),
  (m 77 1, 0), (ia 78 7 76 (t 77), 48), (ln 79 7 78, 112), (m 80 0, 0), (m 81 13, 0), (ia 82 7 80 (t 81), 768), (ln 83 7 82, 1792), (ia 84 7 72 (t 73), 4083),
  (s 7 84 79, 8179), (ia 85 7 74 (t 75), 16383), (s 7 85 83, 32767)], r [m 86 13, m 10 86, mv 11 tt]] (.ret)) (sk)), d [(m 87 0, 0), (m 88 12, 0), (m 89 0,
  0), (m 90 13, 0), (m 91 0, 0), (m 92 13, 0), (ia 93 7 91 (t 92), 48), (ln 94 7 93, 112), (m 95 0, 0), (m 96 12, 0), (ia 97 7 95 (t 96), 768), (ln 98 7 97,
  1792), (ia 99 7 87 (t 88), 4083), (s 7 99 94, 8179), (ia 100 7 89 (t 90), 16383), (s 7 100 98, 32767)], r [m 101 12, ar 102 .add (t 101) (n 1), m 12 102],
  r [m 103 13, ar 104 .sub (t 103) (n 1), m 13 104], .block 4 (.loop (.block 5 (q [.block 6 (.loop (q [q [d [(m 105 12, 0), (m 106 13, 0), (ar 107 .leq (t 105) (t 106),
  3), (m 108 107, 7), (og 109 (.mov (t 4)) 108 true, 15), (og 110 (.mov (t 0)) 108 true, 15), (og 111 (.mov (t 12)) 108 true, 15), (og 112 (.idxA 7 (t 110) (t 111)) 108 true,
  111), (og 113 (.ldn 7 (t 112)) 108 true, 239), (og 114 (.mov (t 0)) 108 true, 15), (og 115 (.mov (t 1)) 108 true, 15), (og 116 (.idxA 7 (t 114) (t 115)) 108 true,
  1551), (og 117 (.ldn 7 (t 116)) 108 true, 3599), (og 118 (.call (t 109) [t 113, t 117]) 108 true, 8191), (og 119 (.arith .lss (t 118) (n 0)) 108 true,
  16383), (o 120 (.pick (t 108) (t 119) ff), 32767)]] (.cond (t 120) (sk) (.exit 6))] (.block 7 (r [m 121 12, ar 122 .add (t 121) (n 1), m 12 122])))), .block 8 (.loop (q [q [d [(m 123 12,
  0), (m 124 13, 0), (ar 125 .leq (t 123) (t 124), 3), (m 126 125, 7), (og 127 (.mov (t 4)) 126 true, 15), (og 128 (.mov (t 0)) 126 true, 15), (og 129 (.mov (t 13)) 126 true,
  15), (og 130 (.idxA 7 (t 128) (t 129)) 126 true, 111), (og 131 (.ldn 7 (t 130)) 126 true, 239), (og 132 (.mov (t 0)) 126 true, 15), (og 133 (.mov (t 1)) 126 true,
  15), (og 134 (.idxA 7 (t 132) (t 133)) 126 true, 1551), (og 135 (.ldn 7 (t 134)) 126 true, 3599), (og 136 (.call (t 127) [t 131, t 135]) 126 true, 8191),
  (og 137 (.arith .lss (t 136) (n 0)) 126 true, 16383), (og 138 (.un .not (t 137)) 126 true, 32767), (o 139 (.pick (t 126) (t 138) ff), 65535)]] (.cond (t 139) (sk) (.exit 8))] (.block 9 (r [m 140 13,
  ar 141 .sub (t 140) (n 1), m 13 141])))), q [r [m 142 12, m 143 13, ar 144 .gtr (t 142) (t 143)]] (.cond (t 144) (.exit 4) (sk)), d [(m 145 0, 0), (m 146 12,
  0), (m 147 0, 0), (m 148 13, 0), (m 149 0, 0), (m 150 13, 0), (ia 151 7 149 (t 150), 48), (ln 152 7 151, 112), (m 153 0, 0), (m 154 12, 0), (ia 155 7 153 (t 154),
  768), (ln 156 7 155, 1792), (ia 157 7 145 (t 146), 4083), (s 7 157 152, 8179), (ia 158 7 147 (t 148), 16383), (s 7 158 156, 32767)], r [m 159 12, ar 160 .add (t 159) (n 1),
  m 12 160]] (r [m 161 13, ar 162 .sub (t 161) (n 1), m 13 162])))), d [(m 163 0, 0), (m 164 13, 0), (m 165 0, 0), (m 166 1, 0), (m 167 0, 0), (m 168 1,
  0), (ia 169 7 167 (t 168), 48), (ln 170 7 169, 112), (m 171 0, 0), (m 172 13, 0), (ia 173 7 171 (t 172), 768), (ln 174 7 173, 1792), (ia 175 7 163 (t 164),
  4083), (s 7 175 170, 8179), (ia 176 7 165 (t 166), 16383), (s 7 176 174, 32767)], r [m 177 13, m 10 177, mv 11 ff]] (.ret)⟩
theorem A108_ok : XOk Tryz.prog ITS 108 A108 := ⟨Tryz.f108, Tryz.func108, by kernel_rfl, by decide, by kernel_rfl, its_nil (by kernel_rfl)⟩

/- math/bits.Len64 -/
def A110 : AFn := ⟨25, [.tmp 2], q [r [mv 2 (n 0)], q [r [m 3 0, ar 4 .geq (t 3) (.const (.int .u64 4294967296))]] (.cond (t 4) (q [r [m 5 0, ar 6 .shr (t 5) (.const (.int .u64 32)), m 0 6]] (r [mv 2 (n 32)])) (sk)),
  q [r [m 7 0, ar 8 .geq (t 7) (.const (.int .u64 65536))]] (.cond (t 8) (q [r [m 9 0, ar 10 .shr (t 9) (.const (.int .u64 16)), m 0 10]] (r [m 11 2, ar 12 .add (t 11) (n 16),
  m 2 12])) (sk)), q [r [m 13 0, ar 14 .geq (t 13) (.const (.int .u64 256))]] (.cond (t 14) (q [r [m 15 0, ar 16 .shr (t 15) (.const (.int .u64 8)), m 0 16]] (r [m 17 2,
  ar 18 .add (t 17) (n 8), m 2 18])) (sk)), r [m 19 2, m 20 0, o 21 (.convI .u8 (t 20)), o 22 (.idxS (.const (.str [0, 1, 2, 2, 3, 3, 3, 3, 4, 4, 4, 4, 4,
  4, 4, 4, 5, 5, 5, 5, 5, 5, 5, 5, 5, 5, 5, 5, 5, 5, 5, 5, 6, 6, 6, 6, 6, 6, 6, 6, 6, 6, 6, 6, 6, 6, 6, 6, 6, 6, 6, 6, 6, 6, 6, 6, 6, 6, 6, 6, 6, 6, 6, 6,
  7, 7, 7, 7, 7, 7, 7, 7, 7, 7, 7, 7, 7, 7, 7, 7, 7, 7, 7, 7, 7, 7, 7, 7, 7, 7, 7, 7, 7, 7, 7, 7, 7, 7, 7, 7, 7, 7, 7, 7, 7, 7, 7, 7, 7, 7, 7, 7, 7, 7, 7,
  7, 7, 7, 7, 7, 7, 7, 7, 7, 7, 7, 7, 7, 8, 8, 8, 8, 8, 8, 8, 8, 8, 8, 8, 8, 8, 8, 8, 8, 8, 8, 8, 8, 8, 8, 8, 8, 8, 8, 8, 8, 8, 8, 8, 8, 8, 8, 8, 8, 8, 8,
  8, 8, 8, 8, 8, 8, 8, 8, 8, 8, 8, 8, 8, 8, 8, 8, 8, 8, 8, 8, 8, 8, 8, 8, 8, 8, 8, 8, 8, 8, 8, 8, 8, 8, 8, 8, 8, 8, 8, 8, 8, 8, 8, 8, 8, 8, 8, 8, 8, 8, 8,
  8, 8, 8, 8, 8, 8, 8, 8, 8, 8, 8, 8, 8, 8, 8, 8, 8, 8, 8, 8, 8, 8, 8, 8, 8, 8, 8, 8, 8, 8, 8, 8, 8, 8, 8, 8, 8, 8, 8])) (t 21)), o 23 (.convI .i64 (t 22)),
  ar 24 .add (t 19) (t 23), m 2 24]] (.ret)⟩
theorem A110_ok : XOk Tryz.prog ITS 110 A110 := ⟨Tryz.f110, Tryz.func110, by kernel_rfl, by decide, by kernel_rfl, its_nil (by kernel_rfl)⟩

/- widgetry/view.examine -/
def A111 : AFn := ⟨24, [.tmp 2, .cell 3 (some 5), .tmp 4], q [r [o 1 (.box (t 0)), mv 2 (.const (.nilmap)), o 3 (.new [.int .i64 0, .str [], .nilsl, .nilsl, .nilsl]), mv 4 (n 0)], r [ln 9 3 1, c 10 172 [t 9], m 8 10,
  ex 11 8 0, ex 12 8 1, m 5 11, m 6 12], q [r [m 13 6, o 14 (.un .not (t 13))]] (.cond (t 14) (q [r [o 15 (.build [.int .i64 0, .str [], .nilsl, .nilsl,
  .nilsl] []), mv 2 (.const (.nilmap)), s 5 3 15, mv 4 (n 12)]] (.ret)) (sk)), r [m 16 5, fa 17 0 1, l 18 17, c 19 173 [t 16, t 18], o 7 (.new [.int .i64 0,
  .str [], .nilsl, .nilsl, .nilsl]), s 5 7 19], d [(m 20 5, 0), (ln 21 5 7, 0), (ln 22 5 7, 0), (c 23 174 [t 22], 4), (m 2 20, 13), (s 5 3 21, 31), (m 4 23,
  63)]] (.ret)⟩
theorem A111_ok : XOk Tryz.prog ITS 111 A111 := ⟨Tryz.f111, Tryz.func111, by kernel_rfl, by decide, by kernel_rfl, its_nil (by kernel_rfl)⟩

/- widgetry/style.exists -/
def A112 : AFn := ⟨9, [.tmp 2], q [r [mv 2 ff], r [m 3 0, ar 4 .geq (t 3) (n 0), m 5 4, og 6 (.mov (t 0)) 5 true, og 7 (.arith .lss (t 6) (n 22)) 5 true, o 8 (.pick (t 5) (t 7) ff), m 2 8]] (.ret)⟩
theorem A112_ok : XOk Tryz.prog ITS 112 A112 := ⟨Tryz.f112, Tryz.func112, by kernel_rfl, by decide, by kernel_rfl, its_nil (by kernel_rfl)⟩

/- widgetry/view.copied -/
def A113 : AFn := ⟨45, [.tmp 4, .tmp 5], q [r [mv 4 (.const (.nilsl)), mv 5 (.const (.nilsl))], r [mv 6 (.const (.nilsl))], q [r [m 12 0, le 13 12, mv 14 (n 0)]] (.block 0 (.loop (q [r [ar 15 .lss (t 14) (t 13)],
  .cond (t 15) (sk) (.exit 0), .block 1 (q [r [ia 16 5 12 (t 14), ln 17 5 16, o 8 (.new [.str [], .int .i64 0, .int .i64 0, .str [], .nilsl]), s 5 8 17]] (d [(m 18 6,
  0), (fa 19 0 8, 0), (l 20 19, 2), (fa 21 1 8, 0), (ln 22 4 21, 8), (c 23 175 [t 22], 24), (o 24 (.build [.str [], .int .i64 0, .int .i64 0, .str [], .nilsl] [(0,
  1, .tmp 20), (1, 4, .tmp 23)]), 62), (o 25 (.buildSl 5 1 [.str [], .int .i64 0, .int .i64 0, .str [], .nilsl] [(0, 5, .tmp 24)]), 126), (o 26 (.app 5 72 (t 18) (t 25)),
  255), (m 6 26, 511)]))] (r [ar 27 .add (t 14) (n 1), m 14 27])))), r [mv 9 (.const (.nilsl))], q [r [m 28 1, le 29 28, mv 30 (n 0)]] (.block 2 (.loop (q [r [ar 31 .lss (t 30) (t 29)],
  .cond (t 31) (sk) (.exit 2), .block 3 (q [r [ia 32 4 28 (t 30), ln 33 4 32, o 11 (.new [.str [], .str [], .str [], .nilsl]), s 4 11 33], r [fa 34 3 11,
  l 35 34, c 36 176 [t 35], fa 37 3 11, s 1 37 36]] (r [m 38 9, ln 39 4 11, o 40 (.buildSl 4 1 [.str [], .str [], .str [], .nilsl] [(0, 4, .tmp 39)]), o 41 (.app 4 72 (t 38) (t 40)),
  m 9 41]))] (r [ar 42 .add (t 30) (n 1), m 30 42])))), r [m 43 6, m 44 9, m 4 43, m 5 44]] (.ret)⟩
theorem A113_ok : XOk Tryz.prog ITS 113 A113 := ⟨Tryz.f113, Tryz.func113, by kernel_rfl, by decide, by kernel_rfl, its_nil (by kernel_rfl)⟩

/- slices.Clone[[]int,int] -/
def A114 : AFn := ⟨8, [.tmp 2], q [r [mv 2 (.const (.nilsl))], q [r [m 3 0, o 4 (.eqn .sl false (t 3) (.const (.nilsl)))]] (.cond (t 4) (q [r [mv 2 (.const (.nilsl))]] (.ret)) (sk)),
  r [o 5 (.buildSl 1 0 [] []), m 6 0, o 7 (.app 1 8 (t 5) (t 6)), m 2 7]] (.ret)⟩
theorem A114_ok : XOk Tryz.prog ITS 114 A114 := ⟨Tryz.f114, Tryz.func114, by kernel_rfl, by decide, by kernel_rfl, its_nil (by kernel_rfl)⟩

/- widgetry/view.Attr -/
def A115 : AFn := ⟨23, [.cell 4 (some 4), .tmp 5], q [r [o 4 (.new [.int .i64 0, .int .i64 0, .str [], .nilsl]), mv 5 ff], q [r [m 8 0, le 9 8, mv 10 (n 0)]] (.block 0 (.loop (q [r [ar 11 .lss (t 10) (t 9)],
  .cond (t 11) (sk) (.exit 0), .block 1 (q [r [ia 12 5 8 (t 10), ln 13 5 12, o 7 (.new [.str [], .int .i64 0, .int .i64 0, .str [], .nilsl]), s 5 7 13],
  r [fa 14 0 7, l 15 14, m 16 1, ar 17 .eql (t 15) (t 16)]] (.cond (t 17) (q [r [fa 18 1 7, ln 19 4 18, c 20 175 [t 19], s 4 4 20, mv 5 tt]] (.ret)) (sk)))] (r [ar 21 .add (t 10) (n 1),
  m 10 21])))), r [o 22 (.build [.int .i64 0, .int .i64 0, .str [], .nilsl] []), s 4 4 22, mv 5 ff]] (.ret)⟩
theorem A115_ok : XOk Tryz.prog ITS 115 A115 := ⟨Tryz.f115, Tryz.func115, by kernel_rfl, by decide, by kernel_rfl, its_nil (by kernel_rfl)⟩

/- widgetry/view.Flag -/
def A122 : AFn := ⟨21, [.tmp 4], q [r [mv 4 ff], r [m 8 0, m 9 1, c 10 115 [t 8, t 9], m 7 10, ex 11 7 0, ex 12 7 1, o 5 (.new [.int .i64 0, .int .i64 0, .str [], .nilsl]), s 4 5 11, m 6 12],
  r [fa 13 0 5, l 14 13, ar 15 .eql (t 14) (n 2), m 16 15, og 17 (.fldA 1 (t 5)) 16 true, og 18 (.ld1 (t 17)) 16 true, og 19 (.arith .eql (t 18) (n 1)) 16 true,
  o 20 (.pick (t 16) (t 19) ff), m 4 20]] (.ret)⟩
theorem A122_ok : XOk Tryz.prog ITS 122 A122 := ⟨Tryz.f122, Tryz.func122, by kernel_rfl, by decide, by kernel_rfl, its_nil (by kernel_rfl)⟩

/- slices.EqualFunc[[]widgetry/api.Command,[]widgetry/api.Command,widgetry/api.Command,widgetry/api.Command] -/
def A128 : AFn := ⟨32, [.tmp 6], q [r [mv 6 ff], q [r [m 10 0, le 11 10, m 12 1, le 13 12, ar 14 .neq (t 11) (t 13)]] (.cond (t 14) (q [r [mv 6 ff]] (.ret)) (sk)), q [r [m 15 0, le 16 15,
  mv 17 (n 0)]] (.block 0 (.loop (q [r [ar 18 .lss (t 17) (t 16)], .cond (t 18) (sk) (.exit 0), .block 1 (q [r [m 19 17, ia 20 22 15 (t 17), ln 21 22 20,
  o 8 (.new [.int .i64 0, .int .i64 0, .int .i64 0, .int .i64 0, .int .i64 0, .int .i64 0, .bool false, .int .i64 0, .int .i64 0, .int .i64 0, .int .i64 0,
  .str [], .int .i64 0, .int .i64 0, .int .i64 0, .int .i64 0, .int .i64 0, .int .i64 0, .int .i64 0, .int .i64 0, .int .i64 0, .nilsl]), m 7 19, s 22 8 21],
  r [m 22 1, m 23 7, ia 24 22 22 (t 23), ln 25 22 24, o 9 (.new [.int .i64 0, .int .i64 0, .int .i64 0, .int .i64 0, .int .i64 0, .int .i64 0, .bool false,
  .int .i64 0, .int .i64 0, .int .i64 0, .int .i64 0, .str [], .int .i64 0, .int .i64 0, .int .i64 0, .int .i64 0, .int .i64 0, .int .i64 0, .int .i64 0,
  .int .i64 0, .int .i64 0, .nilsl]), s 22 9 25], r [m 26 2, ln 27 22 8, ln 28 22 9, o 29 (.call (t 26) [t 27, t 28]), o 30 (.un .not (t 29))]] (.cond (t 30) (q [r [mv 6 ff]] (.ret)) (sk)))] (r [ar 31 .add (t 17) (n 1),
  m 17 31])))), r [mv 6 tt]] (.ret)⟩
theorem A128_ok : XOk Tryz.prog ITS 128 A128 := ⟨Tryz.f128, Tryz.func128, by kernel_rfl, by decide, by kernel_rfl, its_nil (by kernel_rfl)⟩

/- widgetry/display.Equal -/
def A129 : AFn := ⟨114, [.tmp 4], q [r [o 2 (.box (t 0)), o 3 (.box (t 1)), mv 4 ff], d [(fa 7 12 2, 0), (ln 8 10 7, 1), (fa 9 12 3, 0), (ln 10 10 9, 4), (o 5 (.new [.int .i64 0, .int .i64 0,
  .int .i64 0, .int .i64 0, .int .i64 0, .int .i64 0, .int .i64 0, .int .i64 0, .int .i64 0, .nilsl]), 0), (o 6 (.new [.int .i64 0, .int .i64 0, .int .i64 0,
  .int .i64 0, .int .i64 0, .int .i64 0, .int .i64 0, .int .i64 0, .int .i64 0, .nilsl]), 0), (s 10 5 8, 51), (s 10 6 10, 127)], r [fa 11 0 2, l 12 11, fa 13 0 3,
  l 14 13, ar 15 .eql (t 12) (t 14), m 16 15, og 17 (.fldA 1 (t 2)) 16 true, og 18 (.ldn 4 (t 17)) 16 true, og 19 (.fldA 1 (t 3)) 16 true, og 20 (.ldn 4 (t 19)) 16 true,
  og 21 (.eqf false [.int .i64, .int .i64, .int .i64, .int .i64] (t 18) (t 20)) 16 true, o 22 (.pick (t 16) (t 21) ff), m 23 22, og 24 (.fldA 5 (t 2)) 23 true,
  og 25 (.ldn 5 (t 24)) 23 true, og 26 (.fldA 5 (t 3)) 23 true, og 27 (.ldn 5 (t 26)) 23 true, og 28 (.eqf false [.int .i64, .bool, .int .i64, .int .i64,
  .int .i64] (t 25) (t 27)) 23 true, o 29 (.pick (t 23) (t 28) ff), m 30 29, og 31 (.fldA 10 (t 2)) 30 true, og 32 (.ld1 (t 31)) 30 true, og 33 (.fldA 10 (t 3)) 30 true,
  og 34 (.ld1 (t 33)) 30 true, og 35 (.arith .eql (t 32) (t 34)) 30 true, o 36 (.pick (t 30) (t 35) ff), m 37 36, og 38 (.fldA 11 (t 2)) 37 true, og 39 (.ld1 (t 38)) 37 true,
  og 40 (.fldA 11 (t 3)) 37 true, og 41 (.ld1 (t 40)) 37 true, og 42 (.arith .eql (t 39) (t 41)) 37 true, o 43 (.pick (t 37) (t 42) ff), m 44 43, og 45 (.fldA 0 (t 5)) 44 true,
  og 46 (.ld1 (t 45)) 44 true, og 47 (.fldA 0 (t 6)) 44 true, og 48 (.ld1 (t 47)) 44 true, og 49 (.arith .eql (t 46) (t 48)) 44 true, o 50 (.pick (t 44) (t 49) ff),
  m 51 50, og 52 (.fldA 1 (t 5)) 51 true, og 53 (.ld1 (t 52)) 51 true, og 54 (.fldA 1 (t 6)) 51 true, og 55 (.ld1 (t 54)) 51 true, og 56 (.arith .eql (t 53) (t 55)) 51 true,
  o 57 (.pick (t 51) (t 56) ff), m 58 57, og 59 (.fldA 2 (t 5)) 58 true, og 60 (.ld1 (t 59)) 58 true, og 61 (.fldA 2 (t 6)) 58 true, og 62 (.ld1 (t 61)) 58 true,
  og 63 (.arith .eql (t 60) (t 62)) 58 true, o 64 (.pick (t 58) (t 63) ff), m 65 64, og 66 (.fldA 3 (t 5)) 65 true, og 67 (.ld1 (t 66)) 65 true, og 68 (.fldA 3 (t 6)) 65 true,
  og 69 (.ld1 (t 68)) 65 true, og 70 (.arith .eql (t 67) (t 69)) 65 true, o 71 (.pick (t 65) (t 70) ff), m 72 71, og 73 (.fldA 4 (t 5)) 72 true, og 74 (.ld1 (t 73)) 72 true,
  og 75 (.fldA 4 (t 6)) 72 true, og 76 (.ld1 (t 75)) 72 true, og 77 (.arith .eql (t 74) (t 76)) 72 true, o 78 (.pick (t 72) (t 77) ff), m 79 78, og 80 (.fldA 5 (t 5)) 79 true,
  og 81 (.ld1 (t 80)) 79 true, og 82 (.fldA 5 (t 6)) 79 true, og 83 (.ld1 (t 82)) 79 true, og 84 (.arith .eql (t 81) (t 83)) 79 true, o 85 (.pick (t 79) (t 84) ff),
  m 86 85, og 87 (.fldA 6 (t 5)) 86 true, og 88 (.ld1 (t 87)) 86 true, og 89 (.fldA 6 (t 6)) 86 true, og 90 (.ld1 (t 89)) 86 true, og 91 (.arith .eql (t 88) (t 90)) 86 true,
  o 92 (.pick (t 86) (t 91) ff), m 93 92, og 94 (.fldA 7 (t 5)) 93 true, og 95 (.ld1 (t 94)) 93 true, og 96 (.fldA 7 (t 6)) 93 true, og 97 (.ld1 (t 96)) 93 true,
  og 98 (.arith .eql (t 95) (t 97)) 93 true, o 99 (.pick (t 93) (t 98) ff), m 100 99, og 101 (.fldA 8 (t 5)) 100 true, og 102 (.ld1 (t 101)) 100 true, og 103 (.fldA 8 (t 6)) 100 true,
  og 104 (.ld1 (t 103)) 100 true, og 105 (.arith .eql (t 102) (t 104)) 100 true, o 106 (.pick (t 100) (t 105) ff), m 107 106, og 108 (.fldA 9 (t 5)) 107 true,
  og 109 (.ld1 (t 108)) 107 true, og 110 (.fldA 9 (t 6)) 107 true, og 111 (.ld1 (t 110)) 107 true, og 112 (.call (fn 180) [t 109, t 111]) 107 true, o 113 (.pick (t 107) (t 112) ff),
  m 4 113]] (.ret)⟩
theorem A129_ok : XOk Tryz.prog ITS 129 A129 := ⟨Tryz.f129, Tryz.func129, by kernel_rfl, by decide, by kernel_rfl, its_nil (by kernel_rfl)⟩

/- widgetry/display.cloned -/
def A130 : AFn := ⟨22, [.tmp 2], q [r [mv 2 (.const (.nilsl))], r [mv 3 (.const (.nilsl))], q [r [m 6 0, le 7 6, mv 8 (n 0)]] (.block 0 (.loop (q [r [ar 9 .lss (t 8) (t 7)], .cond (t 9) (sk) (.exit 0),
  .block 1 (q [r [ia 10 22 6 (t 8), ln 11 22 10, o 5 (.new [.int .i64 0, .int .i64 0, .int .i64 0, .int .i64 0, .int .i64 0, .int .i64 0, .bool false, .int .i64 0,
  .int .i64 0, .int .i64 0, .int .i64 0, .str [], .int .i64 0, .int .i64 0, .int .i64 0, .int .i64 0, .int .i64 0, .int .i64 0, .int .i64 0, .int .i64 0,
  .int .i64 0, .nilsl]), s 22 5 11], r [fa 12 12 5, ln 13 10 12, c 14 119 [t 13], fa 15 12 5, s 10 15 14]] (r [m 16 3, ln 17 22 5, o 18 (.buildSl 22 1 [.int .i64 0,
  .int .i64 0, .int .i64 0, .int .i64 0, .int .i64 0, .int .i64 0, .bool false, .int .i64 0, .int .i64 0, .int .i64 0, .int .i64 0, .str [], .int .i64 0,
  .int .i64 0, .int .i64 0, .int .i64 0, .int .i64 0, .int .i64 0, .int .i64 0, .int .i64 0, .int .i64 0, .nilsl] [(0, 22, .tmp 17)]), o 19 (.app 22 200 (t 16) (t 18)),
  m 3 19]))] (r [ar 20 .add (t 8) (n 1), m 8 20])))), r [m 21 3, m 2 21]] (.ret)⟩
theorem A130_ok : XOk Tryz.prog ITS 130 A130 := ⟨Tryz.f130, Tryz.func130, by kernel_rfl, by decide, by kernel_rfl, its_nil (by kernel_rfl)⟩

/- slices.IndexFunc[[]widgetry/api.Command,widgetry/api.Command] -/
def A131 : AFn := ⟨19, [.tmp 4], q [r [mv 4 (n 0)], q [r [m 6 0, le 7 6, mv 8 (n 0)]] (.block 0 (.loop (q [r [ar 9 .lss (t 8) (t 7)], .cond (t 9) (sk) (.exit 0), .block 1 (q [r [m 10 8,
  m 5 10], r [m 11 1, m 12 0, m 13 5, ia 14 22 12 (t 13), ln 15 22 14, o 16 (.call (t 11) [t 15])]] (.cond (t 16) (q [r [m 17 5, m 4 17]] (.ret)) (sk)))] (r [ar 18 .add (t 8) (n 1),
  m 8 18])))), r [mv 4 (n (-1))]] (.ret)⟩
theorem A131_ok : XOk Tryz.prog ITS 131 A131 := ⟨Tryz.f131, Tryz.func131, by kernel_rfl, by decide, by kernel_rfl, its_nil (by kernel_rfl)⟩

/- slices.Backward[[]*widgetry/api.Transform,*widgetry/api.Transform] -/
def A132 : AFn := ⟨4, [.tmp 2], q [r [o 1 (.box (t 0)), mv 2 (.const (.nilfunc))], r [o 3 (.mkf (.func 181) [] [t 1]), m 2 3]] (.ret)⟩
theorem A132_ok : XOk Tryz.prog ITS 132 A132 := ⟨Tryz.f132, Tryz.func132, by kernel_rfl, by decide, by kernel_rfl, its_nil (by kernel_rfl)⟩

/- widgetry/geometry.Empty -/
def A134 : AFn := ⟨13, [.tmp 2], q [r [o 1 (.box (t 0)), mv 2 ff], r [ln 3 4 1, c 4 66 [t 3], s 4 1 4], r [fa 5 2 1, l 6 5, ar 7 .eql (t 6) (n 0), m 8 7, og 9 (.fldA 3 (t 1)) 8 false,
  og 10 (.ld1 (t 9)) 8 false, og 11 (.arith .eql (t 10) (n 0)) 8 false, o 12 (.pick (t 8) tt (t 11)), m 2 12]] (.ret)⟩
theorem A134_ok : XOk Tryz.prog ITS 134 A134 := ⟨Tryz.f134, Tryz.func134, by kernel_rfl, by decide, by kernel_rfl, its_nil (by kernel_rfl)⟩

/- widgetry/widgetryref13.Key -/
def A135 : AFn := ⟨47, [.tmp 2], q [r [mv 2 ff], q [r [mv 3 (n 0)]] (.block 0 (.loop (q [q [r [m 5 3, m 6 0, o 7 (.lenS (t 6)), ar 8 .lss (t 5) (t 7)]] (.cond (t 8) (sk) (.exit 0)), .block 1 (q [r [m 11 0,
  m 12 3, o 13 (.idxS (t 11) (t 12)), m 4 13], r [m 14 4, ar 15 .lss (t 14) (.const (.int .u8 97)), m 16 15, og 17 (.mov (t 4)) 16 false, og 18 (.arith .gtr (t 17) (.const (.int .u8 122))) 16 false,
  o 19 (.pick (t 16) tt (t 18)), m 20 19, og 21 (.mov (t 4)) 20 true, og 22 (.arith .lss (t 21) (.const (.int .u8 65))) 20 true, og 23 (.mov (t 22)) 20 true,
  og 24 (.mov (t 4)) 23 false, og 25 (.arith .gtr (t 24) (.const (.int .u8 90))) 23 false, og 26 (.pick (t 23) tt (t 25)) 20 true, o 27 (.pick (t 20) (t 26) ff),
  m 28 27, og 29 (.mov (t 4)) 28 true, og 30 (.arith .lss (t 29) (.const (.int .u8 48))) 28 true, og 31 (.mov (t 30)) 28 true, og 32 (.mov (t 4)) 31 false,
  og 33 (.arith .gtr (t 32) (.const (.int .u8 57))) 31 false, og 34 (.pick (t 31) tt (t 33)) 28 true, o 35 (.pick (t 28) (t 34) ff), m 36 35, og 37 (.mov (t 4)) 36 true,
  og 38 (.arith .neq (t 37) (.const (.int .u8 45))) 36 true, o 39 (.pick (t 36) (t 38) ff), m 40 39, og 41 (.mov (t 4)) 40 true, og 42 (.arith .neq (t 41) (.const (.int .u8 95))) 40 true,
  o 43 (.pick (t 40) (t 42) ff)]] (.cond (t 43) (q [r [mv 2 ff]] (.ret)) (sk)))] (r [m 9 3, ar 10 .add (t 9) (n 1), m 3 10])))), r [m 44 0, o 45 (.lenS (t 44)),
  ar 46 .leq (t 45) (n 24), m 2 46]] (.ret)⟩
theorem A135_ok : XOk Tryz.prog ITS 135 A135 := ⟨Tryz.f135, Tryz.func135, by kernel_rfl, by decide, by kernel_rfl, its_nil (by kernel_rfl)⟩

/- widgetry/widgetryref01.Round -/
def A139 : AFn := ⟨52, [.tmp 4], q [r [mv 4 (n 0)], q [r [m 7 1, ar 8 .eql (t 7) (n 0), m 9 8, og 10 (.mov (t 0)) 9 false, og 11 (.arith .lss (t 10) (n (-1152921504606846976))) 9 false,
  o 12 (.pick (t 9) tt (t 11)), m 13 12, og 14 (.mov (t 0)) 13 false, og 15 (.arith .gtr (t 14) (n 1152921504606846976)) 13 false, o 16 (.pick (t 13) tt (t 15)),
  m 17 16, og 18 (.mov (t 1)) 17 false, og 19 (.arith .lss (t 18) (n (-1152921504606846976))) 17 false, o 20 (.pick (t 17) tt (t 19)), m 21 20, og 22 (.mov (t 1)) 21 false,
  og 23 (.arith .gtr (t 22) (n 1152921504606846976)) 21 false, o 24 (.pick (t 21) tt (t 23))]] (.cond (t 24) (q [r [mv 4 (n 0)]] (.ret)) (sk)), q [r [m 25 1,
  ar 26 .lss (t 25) (n 0)]] (.cond (t 26) (r [m 27 0, o 28 (.un .neg (t 27)), m 29 1, o 30 (.un .neg (t 29)), m 0 28, m 1 30]) (sk)), r [m 31 0, m 32 1,
  ar 33 .quo (t 31) (t 32), m 5 33], r [m 34 0, m 35 1, ar 36 .rem (t 34) (t 35), m 6 36], q [r [m 37 6, ar 38 .lss (t 37) (n 0)]] (.cond (t 38) (r [m 39 5,
  ar 40 .sub (t 39) (n 1), m 41 6, m 42 1, ar 43 .add (t 41) (t 42), m 5 40, m 6 43]) (sk)), q [r [m 44 6, m 45 1, m 46 6, ar 47 .sub (t 45) (t 46), ar 48 .geq (t 44) (t 47)]] (.cond (t 48) (r [m 49 5,
  ar 50 .add (t 49) (n 1), m 5 50]) (sk)), r [m 51 5, m 4 51]] (.ret)⟩
theorem A139_ok : XOk Tryz.prog ITS 139 A139 := ⟨Tryz.f139, Tryz.func139, by kernel_rfl, by decide, by kernel_rfl, its_nil (by kernel_rfl)⟩

/- widgetry/layout.complete$1 -/
def A140 : AFn := ⟨10, [.tmp 4], q [r [o 2 (.box (t 0)), o 3 (.box (t 1)), mv 4 ff], r [fa 5 0 2, l 6 5, fa 7 0 3, l 8 7, ar 9 .eql (t 6) (t 8), m 4 9]] (.ret)⟩
theorem A140_ok : XOk Tryz.prog ITS 140 A140 := ⟨Tryz.f140, Tryz.func140, by kernel_rfl, by decide, by kernel_rfl, its_nil (by kernel_rfl)⟩

/- widgetry/font.ranges -/
def A141 : AFn := ⟨123, [.tmp 2], q [r [o 1 (.box (t 0)), mv 2 ff], q [r [fa 9 0 1, l 10 9, c 11 184 [t 10, n 16, n 4096], o 12 (.un .not (t 11)), m 13 12, og 14 (.fldA 1 (t 1)) 13 false,
  og 15 (.ld1 (t 14)) 13 false, og 16 (.call (fn 184) [t 15, n 0, n 4096]) 13 false, og 17 (.un .not (t 16)) 13 false, o 18 (.pick (t 13) tt (t 17)), m 19 18,
  og 20 (.fldA 2 (t 1)) 19 false, og 21 (.ld1 (t 20)) 19 false, og 22 (.call (fn 184) [t 21, n 0, n 4096]) 19 false, og 23 (.un .not (t 22)) 19 false, o 24 (.pick (t 19) tt (t 23)),
  m 25 24, og 26 (.fldA 3 (t 1)) 25 false, og 27 (.ld1 (t 26)) 25 false, og 28 (.call (fn 184) [t 27, n 0, n 4096]) 25 false, og 29 (.un .not (t 28)) 25 false,
  o 30 (.pick (t 25) tt (t 29)), m 31 30, og 32 (.fldA 1 (t 1)) 31 false, og 33 (.ld1 (t 32)) 31 false, og 34 (.fldA 2 (t 1)) 31 false, og 35 (.ld1 (t 34)) 31 false,
  og 36 (.arith .add (t 33) (t 35)) 31 false, og 37 (.arith .lss (t 36) (n 1)) 31 false, o 38 (.pick (t 31) tt (t 37)), m 39 38, og 40 (.fldA 4 (t 1)) 39 false,
  og 41 (.ld1 (t 40)) 39 false, og 42 (.call (fn 184) [t 41, n 0, n 4096]) 39 false, og 43 (.un .not (t 42)) 39 false, o 44 (.pick (t 39) tt (t 43))]] (.cond (t 44) (q [r [mv 2 ff]] (.ret)) (sk)),
  q [r [fa 45 5 1, l 46 45, le 47 46, mv 48 (n 0)]] (.block 0 (.loop (q [r [ar 49 .lss (t 48) (t 47)], .cond (t 49) (sk) (.exit 0), .block 1 (q [r [ia 50 3 46 (t 48),
  ln 51 3 50, o 4 (.new [.int .i32 0, .int .i32 0, .int .i64 0]), s 3 4 51], r [fa 52 0 4, l 53 52, c 54 185 [t 53], o 55 (.un .not (t 54)), m 56 55, og 57 (.fldA 1 (t 4)) 56 false,
  og 58 (.ld1 (t 57)) 56 false, og 59 (.call (fn 185) [t 58]) 56 false, og 60 (.un .not (t 59)) 56 false, o 61 (.pick (t 56) tt (t 60)), m 62 61, og 63 (.fldA 2 (t 4)) 62 false,
  og 64 (.ld1 (t 63)) 62 false, og 65 (.call (fn 184) [t 64, n 0, n 4096]) 62 false, og 66 (.un .not (t 65)) 62 false, o 67 (.pick (t 62) tt (t 66))]] (.cond (t 67) (q [r [mv 2 ff]] (.ret)) (sk)))] (r [ar 68 .add (t 48) (n 1),
  m 48 68])))), q [r [fa 69 6 1, l 70 69, le 71 70, mv 72 (n 0)]] (.block 2 (.loop (q [r [ar 73 .lss (t 72) (t 71)], .cond (t 73) (sk) (.exit 2), .block 3 (q [r [ia 74 3 70 (t 72),
  ln 75 3 74, o 6 (.new [.int .i32 0, .int .i32 0, .int .i64 0]), s 3 6 75], r [fa 76 0 6, l 77 76, c 78 185 [t 77], o 79 (.un .not (t 78)), m 80 79, og 81 (.fldA 1 (t 6)) 80 false,
  og 82 (.ld1 (t 81)) 80 false, og 83 (.call (fn 185) [t 82]) 80 false, og 84 (.un .not (t 83)) 80 false, o 85 (.pick (t 80) tt (t 84)), m 86 85, og 87 (.fldA 2 (t 6)) 86 false,
  og 88 (.ld1 (t 87)) 86 false, og 89 (.call (fn 184) [t 88, n (-1000), n 1000]) 86 false, og 90 (.un .not (t 89)) 86 false, o 91 (.pick (t 86) tt (t 90))]] (.cond (t 91) (q [r [mv 2 ff]] (.ret)) (sk)))] (r [ar 92 .add (t 72) (n 1),
  m 72 92])))), q [r [fa 93 7 1, l 94 93, le 95 94, mv 96 (n 0)]] (.block 4 (.loop (q [r [ar 97 .lss (t 96) (t 95)], .cond (t 97) (sk) (.exit 4), .block 5 (q [r [ia 98 4 94 (t 96),
  ln 99 4 98, o 8 (.new [.int .i32 0, .int .i32 0, .int .i64 0, .int .i64 0]), s 4 8 99], r [fa 100 0 8, l 101 100, c 102 185 [t 101], o 103 (.un .not (t 102)),
  m 104 103, og 105 (.fldA 1 (t 8)) 104 false, og 106 (.ld1 (t 105)) 104 false, og 107 (.call (fn 185) [t 106]) 104 false, og 108 (.un .not (t 107)) 104 false,
  o 109 (.pick (t 104) tt (t 108)), m 110 109, og 111 (.fldA 2 (t 8)) 110 false, og 112 (.ld1 (t 111)) 110 false, og 113 (.call (fn 184) [t 112, n 1114112,
  n 2097151]) 110 false, og 114 (.un .not (t 113)) 110 false, o 115 (.pick (t 110) tt (t 114)), m 116 115, og 117 (.fldA 3 (t 8)) 116 false, og 118 (.ld1 (t 117)) 116 false,
  og 119 (.call (fn 184) [t 118, n 0, n 4096]) 116 false, og 120 (.un .not (t 119)) 116 false, o 121 (.pick (t 116) tt (t 120))]] (.cond (t 121) (q [r [mv 2 ff]] (.ret)) (sk)))] (r [ar 122 .add (t 96) (n 1),
  m 96 122])))), r [mv 2 tt]] (.ret)⟩
theorem A141_ok : XOk Tryz.prog ITS 141 A141 := ⟨Tryz.f141, Tryz.func141, by kernel_rfl, by decide, by kernel_rfl, its_nil (by kernel_rfl)⟩
def xtr2 : XT := .node 112 (.node 96 (.node 90 (.node 88 (.one 87 A87) (.node 89 (.one 88 A88) (.one 89 A89))) (.node 94 (.node 91 (.one 90 A90) (.one 91 A91)) (.node 95 (.one 94 A94) (.one 95 A95)))) (.node 106 (.node 101 (.node 100 (.one 96 A96) (.one 100 A100)) (.node 104 (.one 101 A101) (.one 104 A104))) (.node 110 (.node 108 (.one 106 A106) (.one 108 A108)) (.node 111 (.one 110 A110) (.one 111 A111))))) (.node 130 (.node 115 (.node 113 (.one 112 A112) (.node 114 (.one 113 A113) (.one 114 A114))) (.node 128 (.node 122 (.one 115 A115) (.one 122 A122)) (.node 129 (.one 128 A128) (.one 129 A129)))) (.node 135 (.node 132 (.node 131 (.one 130 A130) (.one 131 A131)) (.node 134 (.one 132 A132) (.one 134 A134))) (.node 140 (.node 139 (.one 135 A135) (.one 139 A139)) (.node 141 (.one 140 A140) (.one 141 A141)))))
theorem xtr2_ok : xtr2.Ok Tryz.prog ITS := ⟨⟨⟨⟨A87_ok, ⟨A88_ok, A89_ok⟩⟩, ⟨⟨A90_ok, A91_ok⟩, ⟨A94_ok, A95_ok⟩⟩⟩, ⟨⟨⟨A96_ok, A100_ok⟩, ⟨A101_ok, A104_ok⟩⟩, ⟨⟨A106_ok, A108_ok⟩, ⟨A110_ok, A111_ok⟩⟩⟩⟩, ⟨⟨⟨A112_ok, ⟨A113_ok, A114_ok⟩⟩, ⟨⟨A115_ok, A122_ok⟩, ⟨A128_ok, A129_ok⟩⟩⟩, ⟨⟨⟨A130_ok, A131_ok⟩, ⟨A132_ok, A134_ok⟩⟩, ⟨⟨A135_ok, A139_ok⟩, ⟨A140_ok, A141_ok⟩⟩⟩⟩⟩
end Go.Proofs.YtfegfialedlfcaaGreatDoor
end
