/- Functions that a run executes, as code for the kernel, second part; printed by a program of ours. -/
import Derived.Test.YtfegfialedlfcaaGreatDoorDsIts
import Derived.Test.YtfegfialedlfcaaGreatDoorProg
import Derived.KernelRfl
set_option linter.unusedSimpArgs false
set_option linter.unusedVariables false
set_option linter.unnecessarySimpa false
noncomputable section
namespace Go.Proofs.YtfegfialedlfcaaGreatDoor
open Go.Eng Go.Eng.DZ
set_option maxRecDepth 100000
/- widgetry/widgetryref14.order -/
def A36 : AFn := ⟨32, [.tmp 6], q [r [o 3 (.box (t 0)), mv 6 (.const (.nilsl))], r [m 9 2, m 10 1, o 11 (.buildSl 1 1 [.int .i64 0] [(0, 1, .tmp 10)]), o 12 (.app 1 8 (t 9) (t 11)), m 2 12],
  r [ln 13 3 3, m 14 1, c 15 14 [t 13, t 14], o 7 (.new [.int .i64 0, .int .i64 0, .int .i64 0, .str [], .nilsl, .nilsl, .nilsl]), s 7 7 15], q [r [mv 8 (n 0)]] (.block 0 (.loop (q [q [r [m 16 8,
  fa 17 6 7, l 18 17, le 19 18, ar 20 .lss (t 16) (t 19)]] (.cond (t 20) (sk) (.exit 0)), .block 1 (d [(ln 23 3 3, 0), (fa 24 6 7, 0), (l 25 24, 2), (m 26 8,
  0), (ia 27 1 25 (t 26), 14), (l 28 27, 30), (m 29 2, 0), (c 30 36 [t 23, t 28, t 29], 127), (m 2 30, 255)])] (r [m 21 8, ar 22 .add (t 21) (n 1), m 8 22])))),
  r [m 31 2, m 6 31]] (.ret)⟩
theorem A36_ok : XOk Tryz.prog ITS 36 A36 := ⟨Tryz.f36, Tryz.func36, by kernel_rfl, by decide, by kernel_rfl, its_nil (by kernel_rfl)⟩

/- widgetry/widgetryref14.Index -/
def A37 : AFn := ⟨22, [.tmp 4], q [r [o 2 (.box (t 0)), mv 4 (n 0)], q [r [mv 5 (n 0)]] (.block 0 (.loop (q [q [r [m 6 5, fa 7 2 2, l 8 7, le 9 8, ar 10 .lss (t 6) (t 9)]] (.cond (t 10) (sk) (.exit 0)),
  .block 1 (q [r [fa 13 2 2, l 14 13, m 15 5, ia 16 7 14 (t 15), fa 17 0 16, l 18 17, m 19 1, ar 20 .eql (t 18) (t 19)]] (.cond (t 20) (q [r [m 21 5, m 4 21]] (.ret)) (sk)))] (r [m 11 5,
  ar 12 .add (t 11) (n 1), m 5 12])))), r [mv 4 (n (-1))]] (.ret)⟩
theorem A37_ok : XOk Tryz.prog ITS 37 A37 := ⟨Tryz.f37, Tryz.func37, by kernel_rfl, by decide, by kernel_rfl, its_nil (by kernel_rfl)⟩

/- widgetry/widgetryref17.Initial -/
def A38 : AFn := ⟨11, [.cell 0 (some 22)], q [r [o 0 (.new [.int .i64 0, .int .i64 0, .int .i64 0, .int .i64 0, .int .i64 0, .int .i64 0, .int .i64 0, .int .i64 0, .int .i64 0, .int .i64 0, .int .i64 0,
  .int .i64 0, .int .i64 0, .int .i64 0, .int .i64 0, .int .i64 0, .int .i64 0, .int .i64 0, .int .i64 0, .int .i64 0, .int .i64 0, .int .i64 0])], r [o 1 (.new [.int .i64 0,
  .int .i64 0, .int .i64 0, .int .i64 0, .int .i64 0, .int .i64 0, .int .i64 0, .int .i64 0, .int .i64 0, .int .i64 0, .int .i64 0, .int .i64 0, .int .i64 0,
  .int .i64 0, .int .i64 0, .int .i64 0, .int .i64 0, .int .i64 0, .int .i64 0, .int .i64 0, .int .i64 0, .int .i64 0])], r [o 2 (.idxArrA 22 1 (t 1) (n 1)),
  sv 1 2 (n (-1))], r [o 3 (.idxArrA 22 1 (t 1) (n 2)), sv 1 3 (n 16)], r [o 4 (.idxArrA 22 1 (t 1) (n 5)), sv 1 4 (n 1)], r [o 5 (.idxArrA 22 1 (t 1) (n 6)),
  sv 1 5 (n 3)], r [o 6 (.idxArrA 22 1 (t 1) (n 11)), sv 1 6 (n 1)], r [o 7 (.idxArrA 22 1 (t 1) (n 12)), sv 1 7 (n (-1))], r [o 8 (.idxArrA 22 1 (t 1) (n 14)),
  sv 1 8 (n 1048576)], r [o 9 (.idxArrA 22 1 (t 1) (n 16)), sv 1 9 (n 1048576)], r [ln 10 22 1, s 22 0 10]] (.ret)⟩
theorem A38_ok : XOk Tryz.prog ITS 38 A38 := ⟨Tryz.f38, Tryz.func38, by kernel_rfl, by decide, by kernel_rfl, its_nil (by kernel_rfl)⟩

/- widgetry/widgetryref17.Inherited -/
def A39 : AFn := ⟨11, [.tmp 2], q [r [mv 2 ff], q [r [m 3 0]] (.block 0 (q [q [r [ar 5 .eql (t 3) (n 0), m 4 5]] (.cond (t 4) (sk) (q [r [ar 6 .eql (t 3) (n 2), m 4 6]] (.cond (t 4) (sk) (q [r [ar 7 .eql (t 3) (n 3),
  m 4 7]] (.cond (t 4) (sk) (q [r [ar 8 .eql (t 3) (n 4), m 4 8]] (.cond (t 4) (sk) (q [r [ar 9 .eql (t 3) (n 8), m 4 9]] (.cond (t 4) (sk) (r [ar 10 .eql (t 3) (n 21),
  m 4 10]))))))))))] (.cond (t 4) (q [r [mv 2 tt]] (.ret)) (sk)))), r [mv 2 ff]] (.ret)⟩
theorem A39_ok : XOk Tryz.prog ITS 39 A39 := ⟨Tryz.f39, Tryz.func39, by kernel_rfl, by decide, by kernel_rfl, its_nil (by kernel_rfl)⟩

/- widgetry/widgetryref16.Size -/
def A44 : AFn := ⟨34, [.tmp 4], q [r [o 2 (.box (t 0)), mv 4 (n 0)], q [r [fa 7 2 2, l 8 7, ar 9 .lss (t 8) (n 50), m 10 9, og 11 (.fldA 2 (t 2)) 10 false, og 12 (.ld1 (t 11)) 10 false,
  og 13 (.arith .gtr (t 12) (n 400)) 10 false, o 14 (.pick (t 10) tt (t 13)), m 15 14, og 16 (.mov (t 1)) 15 false, og 17 (.arith .lss (t 16) (n 1)) 15 false,
  o 18 (.pick (t 15) tt (t 17)), m 19 18, og 20 (.mov (t 1)) 19 false, og 21 (.arith .gtr (t 20) (n 1000)) 19 false, o 22 (.pick (t 19) tt (t 21))]] (.cond (t 22) (q [r [m 23 1,
  c 24 85 [t 23, n 1, n 1000], m 4 24]] (.ret)) (sk)), r [m 26 1, fa 27 2 2, l 28 27, c 29 86 [t 26, t 28, n 100], m 25 29, ex 30 25 0, ex 31 25 1, m 5 30,
  m 6 31], r [m 32 5, c 33 85 [t 32, n 1, n 1000], m 4 33]] (.ret)⟩
theorem A44_ok : XOk Tryz.prog ITS 44 A44 := ⟨Tryz.f44, Tryz.func44, by kernel_rfl, by decide, by kernel_rfl, its_nil (by kernel_rfl)⟩

/- widgetry/layout.valid -/
def A45 : AFn := ⟨65, [.tmp 8], q [r [o 4 (.box (t 0)), o 7 (.box (t 3)), mv 8 (n 0)], q [r [ln 13 3 4, c 14 54 [t 13], m 9 14], r [m 15 9, ar 16 .neq (t 15) (n 0)]] (.cond (t 16) (q [r [m 17 9,
  m 8 17]] (.ret)) (sk)), q [r [ln 18 3 4, m 19 1, c 20 87 [t 18, t 19], o 21 (.un .not (t 20))]] (.cond (t 21) (q [r [mv 8 (n 7)]] (.ret)) (sk)), q [r [m 22 1,
  c 23 88 [t 22], o 24 (.un .not (t 23)), m 25 24, og 26 (.fldA 0 (t 7)) 25 false, og 27 (.ld1 (t 26)) 25 false, og 28 (.arith .lss (t 27) (n 0)) 25 false,
  o 29 (.pick (t 25) tt (t 28)), m 30 29, og 31 (.fldA 0 (t 7)) 30 false, og 32 (.ld1 (t 31)) 30 false, og 33 (.arith .gtr (t 32) (n 1048576)) 30 false,
  o 34 (.pick (t 30) tt (t 33)), m 35 34, og 36 (.fldA 1 (t 7)) 35 false, og 37 (.ld1 (t 36)) 35 false, og 38 (.arith .lss (t 37) (n 0)) 35 false, o 39 (.pick (t 35) tt (t 38)),
  m 40 39, og 41 (.fldA 1 (t 7)) 40 false, og 42 (.ld1 (t 41)) 40 false, og 43 (.arith .gtr (t 42) (n 1048576)) 40 false, o 44 (.pick (t 40) tt (t 43))]] (.cond (t 44) (q [r [mv 8 (n 1)]] (.ret)) (sk)),
  q [r [m 45 2, le 46 45, ar 47 .lss (t 46) (n 1), m 48 47, og 49 (.mov (t 2)) 48 false, og 50 (.len (t 49)) 48 false, og 51 (.arith .gtr (t 50) (n 8)) 48 false,
  o 52 (.pick (t 48) tt (t 51))]] (.cond (t 52) (q [r [mv 8 (n 2)]] (.ret)) (sk)), q [r [m 53 2, le 54 53, mv 55 (n 0)]] (.block 0 (.loop (q [r [ar 56 .lss (t 55) (t 54)],
  .cond (t 56) (sk) (.exit 0), .block 1 (q [r [ia 57 8 53 (t 55), ln 58 8 57, o 11 (.new [.int .i64 0, .int .i64 0, .int .i64 0, .int .i64 0, .int .i64 0,
  .nilsl, .nilsl, .nilsl]), s 8 11 58], r [ln 59 8 11, c 60 89 [t 59], m 12 60], r [m 61 12, ar 62 .neq (t 61) (n 0)]] (.cond (t 62) (q [r [m 63 12, m 8 63]] (.ret)) (sk)))] (r [ar 64 .add (t 55) (n 1),
  m 55 64])))), r [mv 8 (n 0)]] (.ret)⟩
theorem A45_ok : XOk Tryz.prog ITS 45 A45 := ⟨Tryz.f45, Tryz.func45, by kernel_rfl, by decide, by kernel_rfl, its_nil (by kernel_rfl)⟩

/- widgetry/layout.open -/
def A46 : AFn := ⟨62, [.tmp 6], q [r [o 3 (.box (t 0)), mv 6 (.const (.nilptr))], r [ln 10 3 3, m 11 2, o 12 (.xo .mkmap []), o 13 (.xo .mkmap []), o 14 (.xo .mkmap []), o 15 (.xo .mkmap []),
  o 16 (.xo .mkmap []), o 17 (.xo .mkmap []), o 18 (.xo .mkmap []), o 19 (.build [.int .i64 0, .int .i64 0, .nilsl, .nilsl, .nilmap, .nilmap, .nilmap, .nilsl,
  .nilmap, .nilmap, .nilmap, .nilmap] [(0, 3, .tmp 10), (3, 1, .tmp 11), (4, 1, .tmp 12), (5, 1, .tmp 13), (6, 1, .tmp 14), (8, 1, .tmp 15), (9, 1, .tmp 16),
  (10, 1, .tmp 17), (11, 1, .tmp 18)]), o 20 (.box (t 19)), m 7 20], q [r [fa 21 2 3, l 22 21, le 23 22, mv 24 (n 0)]] (.block 0 (.loop (q [r [ar 25 .lss (t 24) (t 23)],
  .cond (t 25) (sk) (.exit 0), .block 1 (q [r [m 26 24, ia 27 7 22 (t 24), ln 28 7 27, o 9 (.new [.int .i64 0, .int .i64 0, .int .i64 0, .str [], .nilsl,
  .nilsl, .nilsl]), m 8 26, s 7 9 28]] (d [(m 29 7, 0), (o 30 (.nilchk (t 29)), 1), (fa 31 4 30, 3), (l 32 31, 7), (fa 33 0 9, 0), (l 34 33, 16), (m 35 7,
  0), (o 36 (.nilchk (t 35)), 64), (fa 37 5 36, 192), (l 38 37, 448), (fa 39 0 9, 0), (l 40 39, 1024), (ln 41 7 9, 0), (m 42 1, 0), (m 43 8, 0), (ia 44 23 42 (t 43),
  24576), (fa 45 1 44, 57344), (ln 46 22 45, 122880), (o 47 (.xo (.mapent (.one (.int .i64)) (.agg [.int .i64 0, .int .i64 0, .int .i64 0, .str [], .nilsl,
  .nilsl, .nilsl])) [t 32, t 34]), 254975), (ex 48 47 1, 517119), (on (.xo .entst [t 32, t 48, t 41]), 1045503), (o 49 (.xo (.mapent (.one (.int .i64)) (.agg [.int .i64 0,
  .int .i64 0, .int .i64 0, .int .i64 0, .int .i64 0, .int .i64 0, .int .i64 0, .int .i64 0, .int .i64 0, .int .i64 0, .int .i64 0, .int .i64 0, .int .i64 0,
  .int .i64 0, .int .i64 0, .int .i64 0, .int .i64 0, .int .i64 0, .int .i64 0, .int .i64 0, .int .i64 0, .int .i64 0])) [t 38, t 40]), 2097151), (ex 50 49 1,
  4194303), (on (.xo .entst [t 38, t 50, t 46]), 8388607)]))] (r [ar 51 .add (t 24) (n 1), m 24 51])))), q [r [m 52 7, fa 53 0 3, l 54 53, c 55 90 [t 52,
  t 54], o 56 (.un .not (t 55))]] (.cond (t 56) (r [m 57 7, fa 58 0 3, l 59 58, c 60 91 [t 57, t 59]]) (sk)), r [m 61 7, m 6 61]] (.ret)⟩
theorem A46_ok : XOk Tryz.prog ITS 46 A46 := ⟨Tryz.f46, Tryz.func46, by kernel_rfl, by decide, by kernel_rfl, its_nil (by kernel_rfl)⟩

/- (*widgetry/layout.scene).display -/
def A47 : AFn := ⟨20, [.tmp 4], q [r [mv 4 (n 0)], q [r [m 5 0, o 6 (.nilchk (t 5)), fa 7 4 6, l 8 7, m 9 1, o 10 (.xo (.mapget (.one (.int .i64)) false (.agg [.int .i64 0, .int .i64 0,
  .int .i64 0, .str [], .nilsl, .nilsl, .nilsl])) [t 8, t 9]), o 11 (.fld 2 none (t 10)), ar 12 .eql (t 11) (n 8)]] (.cond (t 12) (q [r [mv 4 (n 1)]] (.ret)) (sk)),
  r [m 13 0, o 14 (.nilchk (t 13)), fa 15 5 14, l 16 15, m 17 1, o 18 (.xo (.mapget (.one (.int .i64)) false (.agg [.int .i64 0, .int .i64 0, .int .i64 0,
  .int .i64 0, .int .i64 0, .int .i64 0, .int .i64 0, .int .i64 0, .int .i64 0, .int .i64 0, .int .i64 0, .int .i64 0, .int .i64 0, .int .i64 0, .int .i64 0,
  .int .i64 0, .int .i64 0, .int .i64 0, .int .i64 0, .int .i64 0, .int .i64 0, .int .i64 0])) [t 16, t 17]), o 19 (.idx 22 1 none (t 18) (n 5)), m 4 19]] (.ret)⟩
theorem A47_ok : XOk Tryz.prog ITS 47 A47 := ⟨Tryz.f47, Tryz.func47, by kernel_rfl, by decide, by kernel_rfl, its_nil (by kernel_rfl)⟩

/- widgetry/layout.isText -/
def A48 : AFn := ⟨17, [.tmp 2], q [r [mv 2 ff], r [m 3 0, ar 4 .eql (t 3) (n 2), m 5 4, og 6 (.mov (t 0)) 5 false, og 7 (.arith .eql (t 6) (n 4)) 5 false, o 8 (.pick (t 5) tt (t 7)),
  m 9 8, og 10 (.mov (t 0)) 9 false, og 11 (.arith .eql (t 10) (n 7)) 9 false, o 12 (.pick (t 9) tt (t 11)), m 13 12, og 14 (.mov (t 0)) 13 false, og 15 (.arith .eql (t 14) (n 9)) 13 false,
  o 16 (.pick (t 13) tt (t 15)), m 2 16]] (.ret)⟩
theorem A48_ok : XOk Tryz.prog ITS 48 A48 := ⟨Tryz.f48, Tryz.func48, by kernel_rfl, by decide, by kernel_rfl, its_nil (by kernel_rfl)⟩

/- (*widgetry/layout.scene).children -/
def A50 : AFn := ⟨96, [.tmp 8], q [r [mv 8 (.const (.nilsl))], r [m 17 0, o 18 (.nilchk (t 17)), fa 19 5 18, l 20 19, m 21 1, o 22 (.xo (.mapget (.one (.int .i64)) false (.agg [.int .i64 0,
  .int .i64 0, .int .i64 0, .int .i64 0, .int .i64 0, .int .i64 0, .int .i64 0, .int .i64 0, .int .i64 0, .int .i64 0, .int .i64 0, .int .i64 0, .int .i64 0,
  .int .i64 0, .int .i64 0, .int .i64 0, .int .i64 0, .int .i64 0, .int .i64 0, .int .i64 0, .int .i64 0, .int .i64 0])) [t 20, t 21]), o 9 (.new [.int .i64 0,
  .int .i64 0, .int .i64 0, .int .i64 0, .int .i64 0, .int .i64 0, .int .i64 0, .int .i64 0, .int .i64 0, .int .i64 0, .int .i64 0, .int .i64 0, .int .i64 0,
  .int .i64 0, .int .i64 0, .int .i64 0, .int .i64 0, .int .i64 0, .int .i64 0, .int .i64 0, .int .i64 0, .int .i64 0]), s 22 9 22], r [ln 24 22 9, c 25 95 [t 24],
  m 23 25, ex 26 23 0, ex 27 23 1, m 10 26, m 11 27], r [m 28 0, m 29 1, m 30 2, c 31 94 [t 28, t 29, t 30], m 32 3, m 33 11, ar 34 .sub (t 32) (t 33), c 35 96 [t 34],
  m 12 31, m 13 35], r [mv 14 (.const (.nilsl))], q [r [m 36 0, m 37 1, c 38 47 [t 36, t 37]]] (.block 0 (q [r [ar 45 .eql (t 38) (n 2), m 44 45]] (.cond (t 44) (r [m 46 0,
  m 47 1, m 48 12, m 49 13, c 50 97 [t 46, t 47, t 48, t 49], m 14 50]) (q [r [ar 52 .eql (t 38) (n 3), m 51 52]] (.cond (t 51) (r [m 53 0, m 54 1, m 55 12,
  c 56 98 [t 53, t 54, t 55], m 14 56]) (q [r [ar 58 .eql (t 38) (n 4), m 57 58]] (.cond (t 57) (r [m 59 0, m 60 1, m 61 12, c 62 99 [t 59, t 60, t 61],
  m 14 62]) (r [m 39 0, m 40 1, m 41 12, m 42 13, c 43 100 [t 39, t 40, t 41, t 42], m 14 43])))))))), r [o 63 (.idxArrA 22 1 (t 9) (n 17)), l 64 63, m 15 64],
  q [r [o 65 (.idxArrA 22 1 (t 9) (n 4)), l 66 65, ar 67 .eql (t 66) (n 1)]] (.cond (t 67) (r [o 68 (.idxArrA 22 1 (t 9) (n 19)), l 69 68, m 15 69]) (sk)),
  q [r [m 70 14, le 71 70, mv 72 (n 0)]] (.block 1 (.loop (q [r [ar 73 .lss (t 72) (t 71)], .cond (t 73) (sk) (.exit 1), .block 2 (q [r [m 74 72, m 16 74],
  r [m 75 14, m 76 16, ia 77 4 75 (t 76), fa 78 0 77, l 79 78, m 80 15, ar 81 .add (t 79) (t 80), ia 82 4 75 (t 76), fa 83 0 82, s 1 83 81]] (d [(m 84 14,
  0), (m 85 16, 0), (ia 86 4 84 (t 85), 3), (fa 87 1 86, 7), (l 88 87, 15), (o 89 (.idxArrA 22 1 (t 9) (n 18)), 0), (l 90 89, 32), (ar 91 .add (t 88) (t 90),
  127), (ia 92 4 84 (t 85), 255), (fa 93 1 92, 511), (s 1 93 91, 1023)]))] (r [ar 94 .add (t 72) (n 1), m 72 94])))), r [m 95 14, m 8 95]] (.ret)⟩
theorem A50_ok : XOk Tryz.prog ITS 50 A50 := ⟨Tryz.f50, Tryz.func50, by kernel_rfl, by decide, by kernel_rfl, its_nil (by kernel_rfl)⟩

/- slices.pdqsortCmpFunc[widgetry/api.Box] -/
def A51 : AFn := ⟨148, [], q [r [mv 10 tt], r [mv 11 tt]] (.block 0 (.loop (.block 1 (q [r [m 21 2, m 22 1, ar 23 .sub (t 21) (t 22), m 12 23], q [r [m 24 12, ar 25 .leq (t 24) (n 12)]] (.cond (t 25) (q [r [m 26 0,
  m 27 1, m 28 2, m 29 4, c 30 101 [t 26, t 27, t 28, t 29]]] (.ret)) (sk)), q [r [m 31 3, ar 32 .eql (t 31) (n 0)]] (.cond (t 32) (q [r [m 33 0, m 34 1,
  m 35 2, m 36 4, c 37 102 [t 33, t 34, t 35, t 36]]] (.ret)) (sk)), q [r [m 38 10, o 39 (.un .not (t 38))]] (.cond (t 39) (q [r [m 40 0, m 41 1, m 42 2,
  m 43 4, c 44 103 [t 40, t 41, t 42, t 43]]] (r [m 45 3, ar 46 .sub (t 45) (n 1), m 3 46])) (sk)), r [m 48 0, m 49 1, m 50 2, m 51 4, c 52 104 [t 48, t 49,
  t 50, t 51], m 47 52, ex 53 47 0, ex 54 47 1, m 13 53, m 14 54], q [r [m 55 14, ar 56 .eql (t 55) (n 2)]] (.cond (t 56) (q [r [m 57 0, m 58 1, m 59 2,
  m 60 4, c 61 105 [t 57, t 58, t 59, t 60]], r [m 62 2, ar 63 .sub (t 62) (n 1), m 64 13, m 65 1, ar 66 .sub (t 64) (t 65), ar 67 .sub (t 63) (t 66), m 13 67]] (r [mv 14 (n 1)])) (sk)),
  q [r [m 68 10, m 69 68, og 70 (.mov (t 11)) 69 true, o 71 (.pick (t 69) (t 70) ff), m 72 71, og 73 (.mov (t 14)) 72 true, og 74 (.arith .eql (t 73) (n 1)) 72 true,
  o 75 (.pick (t 72) (t 74) ff)]] (.cond (t 75) (q [r [m 76 0, m 77 1, m 78 2, m 79 4, c 80 106 [t 76, t 77, t 78, t 79]]] (.cond (t 80) (.ret) (sk))) (sk)),
  q [d [(m 81 1, 0), (ar 82 .gtr (t 81) (n 0), 1), (m 83 82, 3), (og 84 (.mov (t 4)) 83 true, 7), (og 85 (.mov (t 0)) 83 true, 7), (og 86 (.mov (t 1)) 83 true,
  7), (og 87 (.arith .sub (t 86) (n 1)) 83 true, 39), (og 88 (.idxA 7 (t 85) (t 87)) 83 true, 119), (og 89 (.ldn 7 (t 88)) 83 true, 247), (og 90 (.mov (t 0)) 83 true,
  7), (og 91 (.mov (t 13)) 83 true, 7), (og 92 (.idxA 7 (t 90) (t 91)) 83 true, 1543), (og 93 (.ldn 7 (t 92)) 83 true, 3591), (og 94 (.call (t 84) [t 89,
  t 93]) 83 true, 8191), (og 95 (.arith .lss (t 94) (n 0)) 83 true, 16383), (og 96 (.un .not (t 95)) 83 true, 32767), (o 97 (.pick (t 83) (t 96) ff), 65535)]] (.cond (t 97) (q [r [m 98 0,
  m 99 1, m 100 2, m 101 13, m 102 4, c 103 107 [t 98, t 99, t 100, t 101, t 102], m 15 103], r [m 104 15, m 1 104]] (.exit 1)) (sk)), r [m 106 0, m 107 1,
  m 108 2, m 109 13, m 110 4, c 111 108 [t 106, t 107, t 108, t 109, t 110], m 105 111, ex 112 105 0, ex 113 105 1, m 16 112, m 17 113], r [m 114 17, m 11 114],
  r [m 115 16, m 116 1, ar 117 .sub (t 115) (t 116), m 118 2, m 119 16, ar 120 .sub (t 118) (t 119), m 18 117, m 19 120], r [m 121 12, ar 122 .quo (t 121) (n 8),
  m 20 122], r [m 123 18, m 124 19, ar 125 .lss (t 123) (t 124)]] (.cond (t 125) (q [r [m 126 18, m 127 20, ar 128 .geq (t 126) (t 127), m 10 128], r [m 129 0,
  m 130 1, m 131 16, m 132 3, m 133 4, c 134 51 [t 129, t 130, t 131, t 132, t 133]]] (r [m 135 16, ar 136 .add (t 135) (n 1), m 1 136])) (q [r [m 137 19,
  m 138 20, ar 139 .geq (t 137) (t 138), m 10 139], r [m 140 0, m 141 16, ar 142 .add (t 141) (n 1), m 143 2, m 144 3, m 145 4, c 146 51 [t 140, t 142, t 143,
  t 144, t 145]]] (r [m 147 16, m 2 147])))))))⟩
theorem A51_ok : XOk Tryz.prog ITS 51 A51 := ⟨Tryz.f51, Tryz.func51, by kernel_rfl, by decide, by kernel_rfl, its_nil (by kernel_rfl)⟩

/- math/bits.Len -/
def A52 : AFn := ⟨8, [.tmp 2], q [r [mv 2 (n 0)], .cond ff (q [r [m 3 0, o 4 (.convI .u32 (t 3)), c 5 109 [t 4], m 2 5]] (.ret)) (sk), r [m 6 0, c 7 110 [t 6], m 2 7]] (.ret)⟩
theorem A52_ok : XOk Tryz.prog ITS 52 A52 := ⟨Tryz.f52, Tryz.func52, by kernel_rfl, by decide, by kernel_rfl, its_nil (by kernel_rfl)⟩

/- widgetry/geometry.within -/
def A53 : AFn := ⟨14, [.tmp 4], q [r [mv 4 ff], r [m 5 0, m 6 1, o 7 (.un .neg (t 6)), ar 8 .geq (t 5) (t 7), m 9 8, og 10 (.mov (t 0)) 9 true, og 11 (.mov (t 1)) 9 true, og 12 (.arith .leq (t 10) (t 11)) 9 true,
  o 13 (.pick (t 9) (t 12) ff), m 4 13]] (.ret)⟩
theorem A53_ok : XOk Tryz.prog ITS 53 A53 := ⟨Tryz.f53, Tryz.func53, by kernel_rfl, by decide, by kernel_rfl, its_nil (by kernel_rfl)⟩

/- widgetry/view.Check -/
def A54 : AFn := ⟨13, [.tmp 2], q [r [o 1 (.box (t 0)), mv 2 (n 0)], r [ln 7 3 1, c 8 111 [t 7], m 6 8, ex 9 6 0, ex 10 6 1, ex 11 6 2, o 4 (.new [.int .i64 0, .str [], .nilsl, .nilsl,
  .nilsl]), m 3 9, s 5 4 10, m 5 11], r [m 12 5, m 2 12]] (.ret)⟩
theorem A54_ok : XOk Tryz.prog ITS 54 A54 := ⟨Tryz.f54, Tryz.func54, by kernel_rfl, by decide, by kernel_rfl, its_nil (by kernel_rfl)⟩

/- slices.EqualFunc[[]widgetry/api.Node,[]widgetry/api.Styled,widgetry/api.Node,widgetry/api.Styled] -/
def A55 : AFn := ⟨32, [.tmp 6], q [r [mv 6 ff], q [r [m 10 0, le 11 10, m 12 1, le 13 12, ar 14 .neq (t 11) (t 13)]] (.cond (t 14) (q [r [mv 6 ff]] (.ret)) (sk)), q [r [m 15 0, le 16 15,
  mv 17 (n 0)]] (.block 0 (.loop (q [r [ar 18 .lss (t 17) (t 16)], .cond (t 18) (sk) (.exit 0), .block 1 (q [r [m 19 17, ia 20 7 15 (t 17), ln 21 7 20, o 8 (.new [.int .i64 0,
  .int .i64 0, .int .i64 0, .str [], .nilsl, .nilsl, .nilsl]), m 7 19, s 7 8 21], r [m 22 1, m 23 7, ia 24 23 22 (t 23), ln 25 23 24, o 9 (.new [.int .i64 0,
  .int .i64 0, .int .i64 0, .int .i64 0, .int .i64 0, .int .i64 0, .int .i64 0, .int .i64 0, .int .i64 0, .int .i64 0, .int .i64 0, .int .i64 0, .int .i64 0,
  .int .i64 0, .int .i64 0, .int .i64 0, .int .i64 0, .int .i64 0, .int .i64 0, .int .i64 0, .int .i64 0, .int .i64 0, .int .i64 0]), s 23 9 25], r [m 26 2,
  ln 27 7 8, ln 28 23 9, o 29 (.call (t 26) [t 27, t 28]), o 30 (.un .not (t 29))]] (.cond (t 30) (q [r [mv 6 ff]] (.ret)) (sk)))] (r [ar 31 .add (t 17) (n 1),
  m 17 31])))), r [mv 6 tt]] (.ret)⟩
theorem A55_ok : XOk Tryz.prog ITS 55 A55 := ⟨Tryz.f55, Tryz.func55, by kernel_rfl, by decide, by kernel_rfl, its_nil (by kernel_rfl)⟩

/- widgetry/display.valid$1 -/
def A56 : AFn := ⟨10, [.tmp 4], q [r [o 2 (.box (t 0)), o 3 (.box (t 1)), mv 4 ff], r [fa 5 0 2, l 6 5, fa 7 0 3, l 8 7, ar 9 .eql (t 6) (t 8), m 4 9]] (.ret)⟩
theorem A56_ok : XOk Tryz.prog ITS 56 A56 := ⟨Tryz.f56, Tryz.func56, by kernel_rfl, by decide, by kernel_rfl, its_nil (by kernel_rfl)⟩

/- widgetry/style.InRange -/
def A57 : AFn := ⟨23, [.tmp 4], q [r [mv 4 ff], r [m 5 0, c 6 112 [t 5], m 7 6, og 8 (.mov (t 1)) 7 true, og 9 (.mov (t 0)) 7 true, og 10 (.idxArrA 22 4 (.const (.gptr 0 0)) (t 9)) 7 true,
  og 11 (.fldA 1 (t 10)) 7 true, og 12 (.ld1 (t 11)) 7 true, og 13 (.arith .geq (t 8) (t 12)) 7 true, o 14 (.pick (t 7) (t 13) ff), m 15 14, og 16 (.mov (t 1)) 15 true,
  og 17 (.mov (t 0)) 15 true, og 18 (.idxArrA 22 4 (.const (.gptr 0 0)) (t 17)) 15 true, og 19 (.fldA 2 (t 18)) 15 true, og 20 (.ld1 (t 19)) 15 true, og 21 (.arith .leq (t 16) (t 20)) 15 true,
  o 22 (.pick (t 15) (t 21) ff), m 4 22]] (.ret)⟩
theorem A57_ok : XOk Tryz.prog ITS 57 A57 := ⟨Tryz.f57, Tryz.func57, by kernel_rfl, by decide, by kernel_rfl, its_nil (by kernel_rfl)⟩

/- widgetry/view.Find -/
def A58 : AFn := ⟨36, [.cell 4 (some 7), .tmp 5], q [r [o 2 (.box (t 0)), o 4 (.new [.int .i64 0, .int .i64 0, .int .i64 0, .str [], .nilsl, .nilsl, .nilsl]), mv 5 ff], q [r [fa 8 2 2, l 9 8, le 10 9,
  mv 11 (n 0)]] (.block 0 (.loop (q [r [ar 12 .lss (t 11) (t 10)], .cond (t 12) (sk) (.exit 0), .block 1 (q [r [ia 13 7 9 (t 11), ln 14 7 13, o 7 (.new [.int .i64 0,
  .int .i64 0, .int .i64 0, .str [], .nilsl, .nilsl, .nilsl]), s 7 7 14], q [r [fa 15 0 7, l 16 15, m 17 1, ar 18 .neq (t 16) (t 17)]] (.cond (t 18) (.exit 1) (sk)),
  r [fa 20 4 7, l 21 20, fa 22 5 7, l 23 22, c 24 113 [t 21, t 23], m 19 24, ex 25 19 0, ex 26 19 1, fa 27 4 7, s 1 27 25, fa 28 5 7, s 1 28 26], r [fa 29 6 7,
  l 30 29, c 31 114 [t 30], fa 32 6 7, s 1 32 31], r [ln 33 7 7, s 7 4 33, mv 5 tt]] (.ret))] (r [ar 34 .add (t 11) (n 1), m 11 34])))), r [o 35 (.build [.int .i64 0,
  .int .i64 0, .int .i64 0, .str [], .nilsl, .nilsl, .nilsl] []), s 7 4 35, mv 5 ff]] (.ret)⟩
theorem A58_ok : XOk Tryz.prog ITS 58 A58 := ⟨Tryz.f58, Tryz.func58, by kernel_rfl, by decide, by kernel_rfl, its_nil (by kernel_rfl)⟩

/- widgetry/display.rectangular -/
def A62 : AFn := ⟨17, [.tmp 2], q [r [mv 2 ff], r [m 3 0, ar 4 .eql (t 3) (n 1), m 5 4, og 6 (.mov (t 0)) 5 false, og 7 (.arith .eql (t 6) (n 4)) 5 false, o 8 (.pick (t 5) tt (t 7)),
  m 9 8, og 10 (.mov (t 0)) 9 false, og 11 (.arith .eql (t 10) (n 5)) 9 false, o 12 (.pick (t 9) tt (t 11)), m 13 12, og 14 (.mov (t 0)) 13 false, og 15 (.arith .eql (t 14) (n 6)) 13 false,
  o 16 (.pick (t 13) tt (t 15)), m 2 16]] (.ret)⟩
theorem A62_ok : XOk Tryz.prog ITS 62 A62 := ⟨Tryz.f62, Tryz.func62, by kernel_rfl, by decide, by kernel_rfl, its_nil (by kernel_rfl)⟩

/- widgetry/display.color -/
def A63 : AFn := ⟨9, [.tmp 2], q [r [mv 2 ff], r [m 3 0, ar 4 .geq (t 3) (n 0), m 5 4, og 6 (.mov (t 0)) 5 true, og 7 (.arith .leq (t 6) (n 16777215)) 5 true, o 8 (.pick (t 5) (t 7) ff),
  m 2 8]] (.ret)⟩
theorem A63_ok : XOk Tryz.prog ITS 63 A63 := ⟨Tryz.f63, Tryz.func63, by kernel_rfl, by decide, by kernel_rfl, its_nil (by kernel_rfl)⟩

/- widgetry/geometry.valid -/
def A66 : AFn := ⟨8, [.cell 2 (some 4)], q [r [o 1 (.box (t 0)), o 2 (.new [.int .i64 0, .int .i64 0, .int .i64 0, .int .i64 0])], q [r [ln 3 4 1, c 4 22 [t 3], ar 5 .neq (t 4) (n 0)]] (.cond (t 5) (q [r [o 6 (.build [.int .i64 0,
  .int .i64 0, .int .i64 0, .int .i64 0] []), s 4 2 6]] (.ret)) (sk)), r [ln 7 4 1, s 4 2 7]] (.ret)⟩
theorem A66_ok : XOk Tryz.prog ITS 66 A66 := ⟨Tryz.f66, Tryz.func66, by kernel_rfl, by decide, by kernel_rfl, its_nil (by kernel_rfl)⟩

/- widgetry/display.Diff -/
def A71 : AFn := ⟨77, [.tmp 4], q [r [mv 4 (.const (.nilsl))], q [r [m 7 0, m 8 1, c 9 128 [t 7, t 8, fn 129]]] (.cond (t 9) (q [r [mv 4 (.const (.nilsl))]] (.ret)) (sk)), r [mv 5 (n 0)],
  .block 0 (.loop (q [q [d [(m 10 5, 0), (m 11 0, 0), (le 12 11, 2), (m 13 1, 0), (le 14 13, 8), (o 15 (.mnmx false (t 12) (t 14)), 30), (ar 16 .lss (t 10) (t 15),
  63), (m 17 16, 127), (og 18 (.mov (t 0)) 17 true, 255), (og 19 (.mov (t 5)) 17 true, 255), (og 20 (.idxA 22 (t 18) (t 19)) 17 true, 1023), (og 21 (.ldn 22 (t 20)) 17 true,
  2047), (og 22 (.mov (t 1)) 17 true, 255), (og 23 (.mov (t 5)) 17 true, 255), (og 24 (.idxA 22 (t 22) (t 23)) 17 true, 12543), (og 25 (.ldn 22 (t 24)) 17 true,
  28927), (og 26 (.call (fn 129) [t 21, t 25]) 17 true, 65535), (o 27 (.pick (t 17) (t 26) ff), 131071)]] (.cond (t 27) (sk) (.exit 0))] (.block 1 (r [m 28 5,
  ar 29 .add (t 28) (n 1), m 5 29])))), r [mv 6 (n 0)], .block 2 (.loop (q [q [d [(m 30 6, 0), (m 31 0, 0), (le 32 31, 2), (m 33 1, 0), (le 34 33, 8), (o 35 (.mnmx false (t 32) (t 34)),
  30), (m 36 5, 0), (ar 37 .sub (t 35) (t 36), 126), (ar 38 .lss (t 30) (t 37), 255), (m 39 38, 511), (og 40 (.mov (t 0)) 39 true, 1023), (og 41 (.mov (t 0)) 39 true,
  1023), (og 42 (.len (t 41)) 39 true, 3071), (og 43 (.arith .sub (t 42) (n 1)) 39 true, 7167), (og 44 (.mov (t 6)) 39 true, 1023), (og 45 (.arith .sub (t 43) (t 44)) 39 true,
  31743), (og 46 (.idxA 22 (t 40) (t 45)) 39 true, 65535), (og 47 (.ldn 22 (t 46)) 39 true, 131071), (og 48 (.mov (t 1)) 39 true, 1023), (og 49 (.mov (t 1)) 39 true,
  1023), (og 50 (.len (t 49)) 39 true, 525311), (og 51 (.arith .sub (t 50) (n 1)) 39 true, 1573887), (og 52 (.mov (t 6)) 39 true, 1023), (og 53 (.arith .sub (t 51) (t 52)) 39 true,
  7865343), (og 54 (.idxA 22 (t 48) (t 53)) 39 true, 16516095), (og 55 (.ldn 22 (t 54)) 39 true, 33293311), (og 56 (.call (fn 129) [t 47, t 55]) 39 true,
  67108863), (o 57 (.pick (t 39) (t 56) ff), 134217727)]] (.cond (t 57) (sk) (.exit 2))] (.block 3 (r [m 58 6, ar 59 .add (t 58) (n 1), m 6 59])))), r [m 60 5,
  m 61 0, le 62 61, m 63 6, ar 64 .sub (t 62) (t 63), m 65 5, ar 66 .sub (t 64) (t 65), m 67 1, m 68 5, m 69 1, le 70 69, m 71 6, ar 72 .sub (t 70) (t 71),
  o 73 (.sl 22 (t 67) (some (.tmp 68)) (some (.tmp 72)) none), c 74 130 [t 73], o 75 (.build [.int .i64 0, .int .i64 0, .nilsl] [(0, 1, .tmp 60), (1, 1,
  .tmp 66), (2, 1, .tmp 74)]), o 76 (.buildSl 3 1 [.int .i64 0, .int .i64 0, .nilsl] [(0, 3, .tmp 75)]), m 4 76]] (.ret)⟩
theorem A71_ok : XOk Tryz.prog ITS 71 A71 := ⟨Tryz.f71, Tryz.func71, by kernel_rfl, by decide, by kernel_rfl, its_nil (by kernel_rfl)⟩

/- widgetry/display.Damage$1 -/
def A73 : AFn := ⟨16, [.tmp 2], q [r [o 1 (.box (t 0)), mv 2 ff], r [fa 3 0 1, l 4 3, ar 5 .eql (t 4) (n 1), m 6 5, og 7 (.fldA 0 (t 1)) 6 false, og 8 (.ld1 (t 7)) 6 false, og 9 (.arith .eql (t 8) (n 2)) 6 false,
  o 10 (.pick (t 6) tt (t 9)), m 11 10, og 12 (.fldA 0 (t 1)) 11 false, og 13 (.ld1 (t 12)) 11 false, og 14 (.arith .eql (t 13) (n 3)) 11 false, o 15 (.pick (t 11) tt (t 14)),
  m 2 15]] (.ret)⟩
theorem A73_ok : XOk Tryz.prog ITS 73 A73 := ⟨Tryz.f73, Tryz.func73, by kernel_rfl, by decide, by kernel_rfl, its_nil (by kernel_rfl)⟩

/- slices.ContainsFunc[[]widgetry/api.Command,widgetry/api.Command] -/
def A74 : AFn := ⟨9, [.tmp 4], q [r [mv 4 ff], r [m 5 0, m 6 1, c 7 131 [t 5, t 6], ar 8 .geq (t 7) (n 0), m 4 8]] (.ret)⟩
theorem A74_ok : XOk Tryz.prog ITS 74 A74 := ⟨Tryz.f74, Tryz.func74, by kernel_rfl, by decide, by kernel_rfl, its_nil (by kernel_rfl)⟩

/- widgetry/display.extents -/
def A75 : AFn := ⟨80, [.cell 6 none, .cell 7 none], q [r [o 6 (.new [.nilsl]), o 7 (.new [.bool false])], r [mv 8 (.const (.nilsl))], r [mv 9 (.const (.nilsl))], q [r [m 15 0, le 16 15, mv 17 (n 0)]] (.block 0 (.loop (q [r [ar 18 .lss (t 17) (t 16)],
  .cond (t 18) (sk) (.exit 0), .block 1 (q [r [m 19 17, ia 20 22 15 (t 17), ln 21 22 20, o 11 (.new [.int .i64 0, .int .i64 0, .int .i64 0, .int .i64 0,
  .int .i64 0, .int .i64 0, .bool false, .int .i64 0, .int .i64 0, .int .i64 0, .int .i64 0, .str [], .int .i64 0, .int .i64 0, .int .i64 0, .int .i64 0,
  .int .i64 0, .int .i64 0, .int .i64 0, .int .i64 0, .int .i64 0, .nilsl]), m 10 19, s 22 11 21]] (.block 2 (q [r [fa 23 0 11, l 24 23, ar 25 .eql (t 24) (n 1),
  m 22 25]] (.cond (t 22) (r [m 26 8, o 27 (.buildSl 1 1 [.nilptr] [(0, 1, .const (.nilptr))]), o 28 (.app 1 8 (t 26) (t 27)), m 8 28]) (q [r [fa 30 0 11,
  l 31 30, ar 32 .eql (t 31) (n 2), m 29 32]] (.cond (t 29) (r [m 33 8, fa 34 5 11, o 35 (.buildSl 1 1 [.nilptr] [(0, 1, .tmp 34)]), o 36 (.app 1 8 (t 33) (t 35)),
  m 8 36]) (q [r [fa 38 0 11, l 39 38, ar 40 .eql (t 39) (n 3), m 37 40]] (.cond (t 37) (r [m 41 8, m 42 8, le 43 42, ar 44 .sub (t 43) (n 1), o 45 (.sl 1 (t 41) none (some (.tmp 44)) none),
  m 8 45]) (q [r [m 47 10, m 48 1, ar 49 .geq (t 47) (t 48), m 50 49, og 51 (.mov (t 10)) 50 true, og 52 (.mov (t 2)) 50 true, og 53 (.arith .lss (t 51) (t 52)) 50 true,
  o 54 (.pick (t 50) (t 53) ff), m 46 54]] (.cond (t 46) (q [r [fa 55 1 11, ln 56 4 55, o 12 (.new [.int .i64 0, .int .i64 0, .int .i64 0, .int .i64 0]),
  s 4 12 56], q [r [m 57 8, c 58 132 [t 57]]] (.block 3 (.rng (t 58) [59, 60] (r [m 14 60]) (.block 4 (q [q [r [m 61 14, o 62 (.eqn .ptr true (t 61) (.const (.nilptr)))]] (.cond (t 62) (d [(m 63 14,
  0), (o 64 (.nilchk (t 63)), 1), (ln 65 5 64, 3), (ln 66 4 12, 0), (c 67 133 [t 65, t 66], 15), (s 4 12 67, 31)]) (sk)), r [ln 68 4 12, c 69 22 [t 68],
  ar 70 .neq (t 69) (n 0)]] (.cond (t 70) (q [r [sv 1 6 (.const (.nilsl)), sv 1 7 ff]] (.ret)) (sk)))))), r [ln 71 4 12, c 72 134 [t 71], o 73 (.un .not (t 72))]] (.cond (t 73) (r [m 74 9,
  ln 75 4 12, o 76 (.buildSl 4 1 [.int .i64 0, .int .i64 0, .int .i64 0, .int .i64 0] [(0, 4, .tmp 75)]), o 77 (.app 4 32 (t 74) (t 76)), m 9 77]) (sk))) (sk)))))))))))] (r [ar 78 .add (t 17) (n 1),
  m 17 78])))), r [m 79 9, s 1 6 79, sv 1 7 tt]] (.ret)⟩
theorem A75_ok (hit : ∀ it ∈ ITS, IterOk Tryz.prog it) : XOk Tryz.prog ITS 75 A75 := ⟨Tryz.f75, Tryz.func75, by kernel_rfl, by decide, by kernel_rfl, its_in (by kernel_rfl) hit⟩

/- widgetry/widgetryref14.Key -/
def A76 : AFn := ⟨5, [.tmp 2], q [r [mv 2 ff], r [m 3 0, c 4 135 [t 3], m 2 4]] (.ret)⟩
theorem A76_ok : XOk Tryz.prog ITS 76 A76 := ⟨Tryz.f76, Tryz.func76, by kernel_rfl, by decide, by kernel_rfl, its_nil (by kernel_rfl)⟩

/- widgetry/widgetryref14.shaped -/
def A81 : AFn := ⟨156, [.tmp 2], q [r [o 1 (.box (t 0)), mv 2 ff], q [r [fa 12 1 1, l 13 12, ar 14 .lss (t 13) (n 2), m 15 14, og 16 (.fldA 1 (t 1)) 15 false, og 17 (.ld1 (t 16)) 15 false,
  og 18 (.arith .gtr (t 17) (n 1099511627776)) 15 false, o 19 (.pick (t 15) tt (t 18)), m 20 19, og 21 (.fldA 2 (t 1)) 20 false, og 22 (.ld1 (t 21)) 20 false,
  og 23 (.len (t 22)) 20 false, og 24 (.arith .lss (t 23) (n 1)) 20 false, o 25 (.pick (t 20) tt (t 24)), m 26 25, og 27 (.fldA 2 (t 1)) 26 false, og 28 (.ld1 (t 27)) 26 false,
  og 29 (.len (t 28)) 26 false, og 30 (.arith .gtr (t 29) (n 400)) 26 false, o 31 (.pick (t 26) tt (t 30))]] (.cond (t 31) (q [r [mv 2 ff]] (.ret)) (sk)),
  r [mv 3 (n 0)], q [r [mv 4 (n 0)]] (.block 0 (.loop (q [q [r [m 32 4, fa 33 2 1, l 34 33, le 35 34, ar 36 .lss (t 32) (t 35)]] (.cond (t 36) (sk) (.exit 0)),
  .block 1 (q [q [d [(fa 39 2 1, 0), (l 40 39, 1), (m 41 4, 0), (ia 42 7 40 (t 41), 7), (fa 43 0 42, 15), (l 44 43, 31), (m 45 3, 0), (ar 46 .leq (t 44) (t 45),
  127), (m 47 46, 255), (og 48 (.fldA 2 (t 1)) 47 false, 511), (og 49 (.ld1 (t 48)) 47 false, 1023), (og 50 (.mov (t 4)) 47 false, 511), (og 51 (.idxA 7 (t 49) (t 50)) 47 false,
  4095), (og 52 (.fldA 0 (t 51)) 47 false, 8191), (og 53 (.ld1 (t 52)) 47 false, 16383), (og 54 (.fldA 1 (t 1)) 47 false, 511), (og 55 (.ld1 (t 54)) 47 false,
  33279), (og 56 (.arith .geq (t 53) (t 55)) 47 false, 131071), (o 57 (.pick (t 47) tt (t 56)), 262143)]] (.cond (t 57) (q [r [mv 2 ff]] (.ret)) (sk))] (r [fa 58 2 1,
  l 59 58, m 60 4, ia 61 7 59 (t 60), fa 62 0 61, l 63 62, m 3 63]))] (r [m 37 4, ar 38 .add (t 37) (n 1), m 4 38])))), r [ln 64 3 1, fa 65 0 1, l 66 65,
  c 67 37 [t 64, t 66], m 5 67], q [r [m 68 5, ar 69 .lss (t 68) (n 0)]] (.cond (t 69) (q [r [mv 2 ff]] (.ret)) (sk)), r [mv 6 (n 0)], q [r [mv 7 (n 0)]] (.block 2 (.loop (q [q [r [m 70 7,
  fa 71 2 1, l 72 71, le 73 72, ar 74 .lss (t 70) (t 73)]] (.cond (t 74) (sk) (.exit 2)), .block 3 (q [r [fa 77 2 1, l 78 77, m 79 7, ia 80 7 78 (t 79),
  ln 81 7 80, o 8 (.new [.int .i64 0, .int .i64 0, .int .i64 0, .str [], .nilsl, .nilsl, .nilsl]), s 7 8 81], q [r [fa 82 1 8, l 83 82, ar 84 .eql (t 83) (n 0),
  m 85 7, m 86 5, ar 87 .eql (t 85) (t 86), o 88 (.eqs true (t 84) (t 87))]] (.cond (t 88) (q [r [mv 2 ff]] (.ret)) (sk)), q [r [fa 89 6 8, l 90 89, le 91 90,
  fa 92 2 1, l 93 92, le 94 93, ar 95 .gtr (t 91) (t 94)]] (.cond (t 95) (q [r [mv 2 ff]] (.ret)) (sk)), r [mv 9 (n 0)]] (.block 4 (.loop (q [q [r [m 96 9,
  fa 97 6 8, l 98 97, le 99 98, ar 100 .lss (t 96) (t 99)]] (.cond (t 100) (sk) (.exit 4)), .block 5 (q [d [(ln 103 3 1, 0), (fa 104 6 8, 0), (l 105 104,
  2), (m 106 9, 0), (ia 107 1 105 (t 106), 14), (l 108 107, 30), (c 109 37 [t 103, t 108], 63), (m 10 109, 127)], q [d [(m 110 10, 0), (ar 111 .lss (t 110) (n 0),
  1), (m 112 111, 3), (og 113 (.fldA 2 (t 1)) 112 false, 7), (og 114 (.ld1 (t 113)) 112 false, 15), (og 115 (.mov (t 10)) 112 false, 7), (og 116 (.idxA 7 (t 114) (t 115)) 112 false,
  63), (og 117 (.fldA 1 (t 116)) 112 false, 127), (og 118 (.ld1 (t 117)) 112 false, 255), (og 119 (.fldA 0 (t 8)) 112 false, 7), (og 120 (.ld1 (t 119)) 112 false,
  519), (og 121 (.arith .neq (t 118) (t 120)) 112 false, 2047), (o 122 (.pick (t 112) tt (t 121)), 4095)]] (.cond (t 122) (q [r [mv 2 ff]] (.ret)) (sk)),
  q [r [mv 11 (n 0)]] (.block 6 (.loop (q [q [r [m 123 11, m 124 9, ar 125 .lss (t 123) (t 124)]] (.cond (t 125) (sk) (.exit 6)), .block 7 (q [d [(fa 128 6 8,
  0), (l 129 128, 1), (m 130 11, 0), (ia 131 1 129 (t 130), 7), (l 132 131, 15), (fa 133 6 8, 0), (l 134 133, 32), (m 135 9, 0), (ia 136 1 134 (t 135), 224),
  (l 137 136, 480), (ar 138 .eql (t 132) (t 137), 1023)]] (.cond (t 138) (q [r [mv 2 ff]] (.ret)) (sk)))] (r [m 126 11, ar 127 .add (t 126) (n 1), m 11 127]))))] (r [m 139 6,
  ar 140 .add (t 139) (n 1), m 6 140]))] (r [m 101 9, ar 102 .add (t 101) (n 1), m 9 102])))))] (r [m 75 7, ar 76 .add (t 75) (n 1), m 7 76])))), q [r [m 141 6,
  fa 142 2 1, l 143 142, le 144 143, ar 145 .sub (t 144) (n 1), ar 146 .neq (t 141) (t 145)]] (.cond (t 146) (q [r [mv 2 ff]] (.ret)) (sk)), d [(ln 147 3 1,
  0), (fa 148 0 1, 0), (l 149 148, 2), (c 150 36 [t 147, t 149, .const (.nilsl)], 7), (le 151 150, 15), (fa 152 2 1, 0), (l 153 152, 32), (le 154 153, 96),
  (ar 155 .eql (t 151) (t 154), 255), (m 2 155, 511)]] (.ret)⟩
theorem A81_ok : XOk Tryz.prog ITS 81 A81 := ⟨Tryz.f81, Tryz.func81, by kernel_rfl, by decide, by kernel_rfl, its_nil (by kernel_rfl)⟩

/- widgetry/widgetryref14.describe -/
def A82 : AFn := ⟨40, [.cell 4 (some 5)], q [r [o 2 (.box (t 0)), o 4 (.new [.int .i64 0, .str [], .nilsl, .nilsl, .nilsl])], r [ln 8 3 2, m 9 1, c 10 14 [t 8, t 9], o 5 (.new [.int .i64 0, .int .i64 0,
  .int .i64 0, .str [], .nilsl, .nilsl, .nilsl]), s 7 5 10], r [fa 11 2 5, l 12 11, fa 13 3 5, l 14 13, fa 15 4 5, l 16 15, fa 17 5 5, l 18 17, o 19 (.build [.int .i64 0,
  .str [], .nilsl, .nilsl, .nilsl] [(0, 1, .tmp 12), (1, 1, .tmp 14), (2, 1, .tmp 16), (3, 1, .tmp 18)]), o 6 (.new [.int .i64 0, .str [], .nilsl, .nilsl,
  .nilsl]), s 5 6 19], q [r [mv 7 (n 0)]] (.block 0 (.loop (q [q [r [m 20 7, fa 21 6 5, l 22 21, le 23 22, ar 24 .lss (t 20) (t 23)]] (.cond (t 24) (sk) (.exit 0)),
  .block 1 (d [(fa 27 4 6, 0), (l 28 27, 1), (ln 29 3 2, 0), (fa 30 6 5, 0), (l 31 30, 8), (m 32 7, 0), (ia 33 1 31 (t 32), 56), (l 34 33, 120), (c 35 82 [t 29,
  t 34], 252), (o 36 (.buildSl 5 1 [.int .i64 0, .str [], .nilsl, .nilsl, .nilsl] [(0, 5, .tmp 35)]), 508), (o 37 (.app 5 96 (t 28) (t 36)), 1023), (fa 38 4 6,
  2047), (s 1 38 37, 4095)])] (r [m 25 7, ar 26 .add (t 25) (n 1), m 7 26])))), r [ln 39 5 6, s 5 4 39]] (.ret)⟩
theorem A82_ok : XOk Tryz.prog ITS 82 A82 := ⟨Tryz.f82, Tryz.func82, by kernel_rfl, by decide, by kernel_rfl, its_nil (by kernel_rfl)⟩

/- widgetry/widgetryref01.Clamp -/
def A85 : AFn := ⟨21, [.tmp 6], q [r [mv 6 (n 0)], q [r [m 7 0, m 8 1, ar 9 .lss (t 7) (t 8), m 10 9, og 11 (.mov (t 2)) 10 false, og 12 (.mov (t 1)) 10 false, og 13 (.arith .lss (t 11) (t 12)) 10 false,
  o 14 (.pick (t 10) tt (t 13))]] (.cond (t 14) (q [r [m 15 1, m 6 15]] (.ret)) (sk)), q [r [m 16 0, m 17 2, ar 18 .gtr (t 16) (t 17)]] (.cond (t 18) (q [r [m 19 2,
  m 6 19]] (.ret)) (sk)), r [m 20 0, m 6 20]] (.ret)⟩
theorem A85_ok : XOk Tryz.prog ITS 85 A85 := ⟨Tryz.f85, Tryz.func85, by kernel_rfl, by decide, by kernel_rfl, its_nil (by kernel_rfl)⟩

/- widgetry/widgetryref01.Scale -/
def A86 : AFn := ⟨35, [.tmp 6, .tmp 7], q [r [mv 6 (n 0), mv 7 (n 0)], q [r [m 8 0, ar 9 .lss (t 8) (n (-1099511627776)), m 10 9, og 11 (.mov (t 0)) 10 false, og 12 (.arith .gtr (t 11) (n 1099511627776)) 10 false,
  o 13 (.pick (t 10) tt (t 12)), m 14 13, og 15 (.mov (t 1)) 14 false, og 16 (.arith .lss (t 15) (n 0)) 14 false, o 17 (.pick (t 14) tt (t 16)), m 18 17,
  og 19 (.mov (t 1)) 18 false, og 20 (.arith .gtr (t 19) (n 65536)) 18 false, o 21 (.pick (t 18) tt (t 20)), m 22 21, og 23 (.mov (t 2)) 22 false, og 24 (.arith .lss (t 23) (n 1)) 22 false,
  o 25 (.pick (t 22) tt (t 24)), m 26 25, og 27 (.mov (t 2)) 26 false, og 28 (.arith .gtr (t 27) (n 65536)) 26 false, o 29 (.pick (t 26) tt (t 28))]] (.cond (t 29) (q [r [mv 6 (n 0),
  mv 7 (n 1)]] (.ret)) (sk)), r [m 30 0, m 31 1, ar 32 .mul (t 30) (t 31), m 33 2, c 34 139 [t 32, t 33], m 6 34, mv 7 (n 0)]] (.ret)⟩
theorem A86_ok : XOk Tryz.prog ITS 86 A86 := ⟨Tryz.f86, Tryz.func86, by kernel_rfl, by decide, by kernel_rfl, its_nil (by kernel_rfl)⟩
def xtr1 : XT := .node 56 (.node 47 (.node 39 (.node 37 (.one 36 A36) (.node 38 (.one 37 A37) (.one 38 A38))) (.node 45 (.node 44 (.one 39 A39) (.one 44 A44)) (.node 46 (.one 45 A45) (.one 46 A46)))) (.node 52 (.node 50 (.node 48 (.one 47 A47) (.one 48 A48)) (.node 51 (.one 50 A50) (.one 51 A51))) (.node 54 (.node 53 (.one 52 A52) (.one 53 A53)) (.node 55 (.one 54 A54) (.one 55 A55))))) (.node 73 (.node 62 (.node 57 (.one 56 A56) (.node 58 (.one 57 A57) (.one 58 A58))) (.node 66 (.node 63 (.one 62 A62) (.one 63 A63)) (.node 71 (.one 66 A66) (.one 71 A71)))) (.node 81 (.node 75 (.node 74 (.one 73 A73) (.one 74 A74)) (.node 76 (.one 75 A75) (.one 76 A76))) (.node 85 (.node 82 (.one 81 A81) (.one 82 A82)) (.node 86 (.one 85 A85) (.one 86 A86)))))
theorem xtr1_ok (hit : ∀ it ∈ ITS, IterOk Tryz.prog it) : xtr1.Ok Tryz.prog ITS := ⟨⟨⟨⟨A36_ok, ⟨A37_ok, A38_ok⟩⟩, ⟨⟨A39_ok, A44_ok⟩, ⟨A45_ok, A46_ok⟩⟩⟩, ⟨⟨⟨A47_ok, A48_ok⟩, ⟨A50_ok, A51_ok⟩⟩, ⟨⟨A52_ok, A53_ok⟩, ⟨A54_ok, A55_ok⟩⟩⟩⟩, ⟨⟨⟨A56_ok, ⟨A57_ok, A58_ok⟩⟩, ⟨⟨A62_ok, A63_ok⟩, ⟨A66_ok, A71_ok⟩⟩⟩, ⟨⟨⟨A73_ok, A74_ok⟩, ⟨A75_ok hit, A76_ok⟩⟩, ⟨⟨A81_ok, A82_ok⟩, ⟨A85_ok, A86_ok⟩⟩⟩⟩⟩
end Go.Proofs.YtfegfialedlfcaaGreatDoor
end
