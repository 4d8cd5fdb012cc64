/- Functions of the program as data, first quarter. -/
import Derived.Test.YtfpcmkpfdjnhnaaGreatDoorZlIts
import Derived.Test.YtfpcmkpfdjnhnaaGreatDoorProg
import Derived.KernelRfl
set_option linter.unusedSimpArgs false
set_option linter.unusedVariables false
set_option linter.unnecessarySimpa false
noncomputable section
namespace Go.Proofs.YtfpcmkpfdjnhnaaGreatDoor
open Go.Eng Go.Eng.DZ
set_option maxRecDepth 100000
/- widgetry/widgetrylaw21.LayoutLimits -/
def A3 : AFn := ⟨63, [.tmp 2], q [r [mv 2 ff], r [o 9 (.build [.int .i64 0, .str [], .nilsl, .nilsl, .nilsl] [(0, 1, .const (.int .i64 1))]), o 3 (.new [.int .i64 0, .str [], .nilsl,
  .nilsl, .nilsl]), s 5 3 9], q [r [mv 4 (n 0)]] (.block 0 (.loop (q [q [r [m 10 4, m 11 0, ar 12 .and (t 11) (n 3), ar 13 .add (n 31) (t 12), ar 14 .lss (t 10) (t 13)]] (.cond (t 14) (sk) (.exit 0)),
  .block 1 (r [fa 17 4 3, l 18 17, o 19 (.build [.int .i64 0, .str [], .nilsl, .nilsl, .nilsl] [(0, 1, .const (.int .i64 5))]), o 20 (.buildSl 5 1 [.int .i64 0,
  .str [], .nilsl, .nilsl, .nilsl] [(0, 5, .tmp 19)]), o 21 (.app 5 96 (t 18) (t 20)), fa 22 4 3, s 1 22 21])] (r [m 15 4, ar 16 .add (t 15) (n 1), m 4 16])))),
  r [ln 24 5 3, c 25 4 [t 24, n 1], m 23 25, ex 26 23 0, ex 27 23 1, o 5 (.new [.int .i64 0, .int .i64 0, .nilsl]), s 3 5 26, m 6 27], d [(ln 29 3 5, 0),
  (ln 30 3 5, 0), (c 31 6 [t 30, n 5, n 4], 2), (c 32 7 [], 6), (o 33 (.build [.int .i64 0, .int .i64 0] [(0, 1, .const (.int .i64 50)), (1, 1, .const (.int .i64 50))]),
  0), (c 34 5 [t 29, t 31, t 32, t 33], 31), (m 28 34, 63), (ex 35 28 0, 127), (ex 36 28 1, 127), (m 7 35, 255), (m 8 36, 1023)], q [r [m 37 0, ar 38 .and (t 37) (n 3),
  ar 39 .lss (t 38) (n 2)]] (.cond (t 39) (q [r [m 40 8, ar 41 .eql (t 40) (n 0), m 42 41, og 43 (.mov (t 7)) 42 true, og 44 (.len (t 43)) 42 true, og 45 (.fldA 2 (t 5)) 42 true,
  og 46 (.ld1 (t 45)) 42 true, og 47 (.len (t 46)) 42 true, og 48 (.arith .eql (t 44) (t 47)) 42 true, o 49 (.pick (t 42) (t 48) ff), m 50 49, og 51 (.call (fn 8) []) 50 true,
  o 52 (.pick (t 50) (t 51) ff), m 2 52]] (.ret)) (sk)), r [m 53 8, ar 54 .eql (t 53) (n 2), m 55 54, og 56 (.mov (t 7)) 55 true, og 57 (.len (t 56)) 55 true,
  og 58 (.arith .eql (t 57) (n 0)) 55 true, o 59 (.pick (t 55) (t 58) ff), m 60 59, og 61 (.call (fn 8) []) 60 true, o 62 (.pick (t 60) (t 61) ff), m 2 62]] (.ret)⟩
theorem A3_ok : XOk Tryz.prog ITS 3 A3 := ⟨Tryz.f3, Tryz.func3, by kernel_rfl, by decide, by kernel_rfl, its_nil (by kernel_rfl)⟩

/- widgetry/widgetryref14.Build -/
def A4 : AFn := ⟨27, [.cell 4 (some 3), .tmp 5], q [r [o 2 (.box (t 0)), o 4 (.new [.int .i64 0, .int .i64 0, .nilsl]), mv 5 (n 0)], q [r [ln 8 5 2, c 9 9 [t 8], m 6 9], r [m 10 6, ar 11 .neq (t 10) (n 0)]] (.cond (t 11) (q [r [o 12 (.build [.int .i64 0,
  .int .i64 0, .nilsl] []), m 13 6, s 3 4 12, m 5 13]] (.ret)) (sk)), q [r [m 14 1, ar 15 .lss (t 14) (n 1), m 16 15, og 17 (.mov (t 1)) 16 false, og 18 (.arith .gtr (t 17) (n 1099511627376)) 16 false,
  o 19 (.pick (t 16) tt (t 18))]] (.cond (t 19) (q [r [o 20 (.build [.int .i64 0, .int .i64 0, .nilsl] []), s 3 4 20, mv 5 (n 1)]] (.ret)) (sk)), r [m 21 1,
  m 22 1, o 23 (.build [.int .i64 0, .int .i64 0, .nilsl] [(0, 1, .tmp 21), (1, 1, .tmp 22)]), o 7 (.new [.int .i64 0, .int .i64 0, .nilsl]), s 3 7 23],
  r [ln 24 5 2, ln 25 3 7, c 26 10 [t 24, n 0, t 25], s 3 4 26, mv 5 (n 0)]] (.ret)⟩
theorem A4_ok : XOk Tryz.prog ITS 4 A4 := ⟨Tryz.f4, Tryz.func4, by kernel_rfl, by decide, by kernel_rfl, its_nil (by kernel_rfl)⟩

/- widgetry/layout.Compute -/
def A5 : AFn := ⟨55, [.tmp 8, .tmp 9], q [r [o 4 (.box (t 0)), o 7 (.box (t 3)), mv 8 (.const (.nilsl)), mv 9 (n 0)], r [ln 16 3 4, m 17 1, m 18 2, ln 19 2 7, c 20 11 [t 16, t 17, t 18, t 19],
  m 15 20, ex 21 15 0, ex 22 15 1, m 10 21, m 11 22], q [r [m 23 11, ar 24 .neq (t 23) (n 0)]] (.cond (t 24) (q [r [m 25 11, mv 8 (.const (.nilsl)), m 9 25]] (.ret)) (sk)),
  r [o 12 (.new [.nilsl])], q [r [m 26 10, o 27 (.nilchk (t 26)), fa 28 7 27, l 29 28, le 30 29, ar 31 .gtr (t 30) (n 0)]] (.cond (t 31) (r [m 32 10, fa 33 0 4,
  l 34 33, fa 35 0 7, l 36 35, fa 37 1 7, l 38 37, o 39 (.build [.int .i64 0, .int .i64 0, .int .i64 0, .int .i64 0] [(2, 1, .tmp 36), (3, 1, .tmp 38)]),
  c 40 12 [t 32, t 34, t 39, t 12]]) (sk)), r [l 41 12, c 42 13 [t 41, fn 14]], q [r [l 43 12, le 44 43, mv 45 (n 0)]] (.block 0 (.loop (q [r [ar 46 .lss (t 45) (t 44)],
  .cond (t 46) (sk) (.exit 0), .block 1 (q [r [ia 47 7 43 (t 45), ln 48 7 47, o 14 (.new [.int .i64 0, .int .i64 0, .int .i64 0, .int .i64 0, .int .i64 0,
  .int .i64 0, .nilsl]), s 7 14 48], r [fa 49 1 14, ln 50 4 49, c 51 15 [t 50], ar 52 .neq (t 51) (n 0)]] (.cond (t 52) (q [r [mv 8 (.const (.nilsl)), mv 9 (n 1)]] (.ret)) (sk)))] (r [ar 53 .add (t 45) (n 1),
  m 45 53])))), r [l 54 12, m 8 54, mv 9 (n 0)]] (.ret)⟩
theorem A5_ok : XOk Tryz.prog ITS 5 A5 := ⟨Tryz.f5, Tryz.func5, by kernel_rfl, by decide, by kernel_rfl, its_nil (by kernel_rfl)⟩

/- widgetry/widgetrylaw21.styled -/
def A6 : AFn := ⟨26, [.tmp 6], q [r [o 3 (.box (t 0)), mv 6 (.const (.nilsl))], r [m 10 1, m 11 2, o 12 (.build [.int .i64 0, .int .i64 0, .int .i64 0, .str []] [(0, 1, .tmp 10), (2,
  1, .tmp 11)]), o 13 (.buildSl 4 1 [.int .i64 0, .int .i64 0, .int .i64 0, .str []] [(0, 4, .tmp 12)]), o 14 (.build [.int .i64 0, .str [], .int .i64 0,
  .int .i64 0, .str [], .nilsl] [(0, 1, .const (.int .i64 1)), (5, 1, .tmp 13)]), o 15 (.buildSl 6 1 [.int .i64 0, .str [], .int .i64 0, .int .i64 0, .str [],
  .nilsl] [(0, 6, .tmp 14)]), o 16 (.build [.nilsl] [(0, 1, .tmp 15)]), o 7 (.new [.nilsl]), s 1 7 16], r [ln 18 1 7, o 19 (.build [.nilsl] []), o 20 (.build [.bool false,
  .bool false, .int .i64 0] [(2, 1, .const (.int .i64 100))]), ln 21 3 3, c 22 16 [t 18, t 19, t 20, t 21, .const (.nilsl)], m 17 22, ex 23 17 0, ex 24 17 1,
  m 8 23, m 9 24], r [m 25 8, m 6 25]] (.ret)⟩
theorem A6_ok : XOk Tryz.prog ITS 6 A6 := ⟨Tryz.f6, Tryz.func6, by kernel_rfl, by decide, by kernel_rfl, its_nil (by kernel_rfl)⟩

/- widgetry/widgetrylaw21.plain -/
def A7 : AFn := ⟨3, [.tmp 0], q [r [mv 0 (.const (.nilsl))], r [o 1 (.build [.int .i64 0, .int .i64 0, .int .i64 0, .int .i64 0, .int .i64 0, .nilsl, .nilsl, .nilsl] [(0, 1, .const (.int .i64 16)),
  (1, 1, .const (.int .i64 12)), (2, 1, .const (.int .i64 4)), (4, 1, .const (.int .i64 8))]), o 2 (.buildSl 8 1 [.int .i64 0, .int .i64 0, .int .i64 0,
  .int .i64 0, .int .i64 0, .nilsl, .nilsl, .nilsl] [(0, 8, .tmp 1)]), m 0 2]] (.ret)⟩
theorem A7_ok : XOk Tryz.prog ITS 7 A7 := ⟨Tryz.f7, Tryz.func7, by kernel_rfl, by decide, by kernel_rfl, its_nil (by kernel_rfl)⟩

/- widgetry/widgetrylaw21.awake -/
def A8 : AFn := ⟨60, [.tmp 0], q [r [mv 0 ff], r [c 6 17 [.const (.str [97, 98])], c 7 17 [.const (.str [99])], o 8 (.buildSl 5 2 [.int .i64 0, .str [], .nilsl, .nilsl, .nilsl, .int .i64 0,
  .str [], .nilsl, .nilsl, .nilsl] [(0, 5, .tmp 6), (5, 5, .tmp 7)]), o 9 (.build [.int .i64 0, .str [], .nilsl, .nilsl, .nilsl] [(0, 1, .const (.int .i64 1)),
  (4, 1, .tmp 8)]), c 10 4 [t 9, n 1], m 5 10, ex 11 5 0, ex 12 5 1, o 1 (.new [.int .i64 0, .int .i64 0, .nilsl]), s 3 1 11, m 2 12], d [(ln 14 3 1, 0),
  (ln 15 3 1, 0), (c 16 6 [t 15, n 5, n 2], 2), (c 17 7 [], 6), (o 18 (.build [.int .i64 0, .int .i64 0] [(0, 1, .const (.int .i64 100)), (1, 1, .const (.int .i64 50))]),
  0), (c 19 5 [t 14, t 16, t 17, t 18], 31), (m 13 19, 63), (ex 20 13 0, 127), (ex 21 13 1, 127), (m 3 20, 255), (m 4 21, 1023)], r [m 22 4, ar 23 .eql (t 22) (n 0),
  m 24 23, og 25 (.mov (t 3)) 24 true, og 26 (.len (t 25)) 24 true, og 27 (.arith .eql (t 26) (n 3)) 24 true, o 28 (.pick (t 24) (t 27) ff), m 29 28, og 30 (.mov (t 3)) 29 true,
  og 31 (.idxA 7 (t 30) (n 1)) 29 true, og 32 (.fldA 1 (t 31)) 29 true, og 33 (.fldA 2 (t 32)) 29 true, og 34 (.ld1 (t 33)) 29 true, og 35 (.arith .eql (t 34) (n 16)) 29 true,
  o 36 (.pick (t 29) (t 35) ff), m 37 36, og 38 (.mov (t 3)) 37 true, og 39 (.idxA 7 (t 38) (n 2)) 37 true, og 40 (.fldA 1 (t 39)) 37 true, og 41 (.fldA 0 (t 40)) 37 true,
  og 42 (.ld1 (t 41)) 37 true, og 43 (.arith .eql (t 42) (n 16)) 37 true, o 44 (.pick (t 37) (t 43) ff), m 45 44, og 46 (.mov (t 3)) 45 true, og 47 (.idxA 7 (t 46) (n 2)) 45 true,
  og 48 (.fldA 1 (t 47)) 45 true, og 49 (.fldA 3 (t 48)) 45 true, og 50 (.ld1 (t 49)) 45 true, og 51 (.arith .eql (t 50) (n 50)) 45 true, o 52 (.pick (t 45) (t 51) ff),
  m 53 52, og 54 (.mov (t 3)) 53 true, og 55 (.idxA 7 (t 54) (n 1)) 53 true, og 56 (.fldA 5 (t 55)) 53 true, og 57 (.ld1 (t 56)) 53 true, og 58 (.arith .eql (t 57) (n 12)) 53 true,
  o 59 (.pick (t 53) (t 58) ff), m 0 59]] (.ret)⟩
theorem A8_ok : XOk Tryz.prog ITS 8 A8 := ⟨Tryz.f8, Tryz.func8, by kernel_rfl, by decide, by kernel_rfl, its_nil (by kernel_rfl)⟩

/- widgetry/widgetryref14.Validate -/
def A9 : AFn := ⟨11, [.tmp 2], q [r [o 1 (.box (t 0)), mv 2 (n 0)], r [ln 6 5 1, c 7 18 [t 6, n 1, n 0], m 5 7, ex 8 5 0, ex 9 5 1, m 3 8, m 4 9], r [m 10 4, m 2 10]] (.ret)⟩
theorem A9_ok : XOk Tryz.prog ITS 9 A9 := ⟨Tryz.f9, Tryz.func9, by kernel_rfl, by decide, by kernel_rfl, its_nil (by kernel_rfl)⟩

/- widgetry/widgetryref14.build -/
def A10 : AFn := ⟨63, [.cell 6 (some 3)], q [r [o 3 (.box (t 0)), o 5 (.box (t 2)), o 6 (.new [.int .i64 0, .int .i64 0, .nilsl])], r [fa 11 1 5, l 12 11, m 7 12], r [fa 13 2 5, l 14 13, le 15 14,
  m 8 15], r [fa 16 2 5, l 17 16, m 18 7, m 19 1, fa 20 0 3, l 21 20, fa 22 1 3, l 23 22, fa 24 2 3, l 25 24, fa 26 3 3, l 27 26, o 28 (.build [.int .i64 0,
  .int .i64 0, .int .i64 0, .str [], .nilsl, .nilsl, .nilsl] [(0, 1, .tmp 18), (1, 1, .tmp 19), (2, 1, .tmp 21), (3, 1, .tmp 23), (4, 1, .tmp 25), (5, 1,
  .tmp 27)]), o 29 (.buildSl 7 1 [.int .i64 0, .int .i64 0, .int .i64 0, .str [], .nilsl, .nilsl, .nilsl] [(0, 7, .tmp 28)]), o 30 (.app 7 112 (t 17) (t 29)),
  fa 31 2 5, s 1 31 30], r [fa 32 1 5, l 33 32, ar 34 .add (t 33) (n 1), fa 35 1 5, s 1 35 34], r [mv 9 (.const (.nilsl))], q [r [mv 10 (n 0)]] (.block 0 (.loop (q [q [r [m 36 10,
  fa 37 4 3, l 38 37, le 39 38, ar 40 .lss (t 36) (t 39)]] (.cond (t 40) (sk) (.exit 0)), .block 1 (q [r [m 43 9, fa 44 1 5, l 45 44, o 46 (.buildSl 1 1 [.int .i64 0] [(0,
  1, .tmp 45)]), o 47 (.app 1 8 (t 43) (t 46)), m 9 47]] (d [(fa 48 4 3, 0), (l 49 48, 1), (m 50 10, 0), (ia 51 5 49 (t 50), 7), (ln 52 5 51, 15), (m 53 7,
  0), (ln 54 3 5, 0), (c 55 10 [t 52, t 53, t 54], 127), (s 3 5 55, 255)]))] (r [m 41 10, ar 42 .add (t 41) (n 1), m 10 42])))), r [fa 56 2 5, l 57 56, m 58 8,
  m 59 9, ia 60 7 57 (t 58), fa 61 6 60, s 1 61 59], r [ln 62 3 5, s 3 6 62]] (.ret)⟩
theorem A10_ok : XOk Tryz.prog ITS 10 A10 := ⟨Tryz.f10, Tryz.func10, by kernel_rfl, by decide, by kernel_rfl, its_nil (by kernel_rfl)⟩

/- widgetry/layout.begin -/
def A11 : AFn := ⟨51, [.tmp 8, .tmp 9], q [r [o 4 (.box (t 0)), o 7 (.box (t 3)), mv 8 (.const (.nilptr)), mv 9 (n 0)], q [r [ln 14 3 4, m 15 1, m 16 2, ln 17 2 7, c 18 19 [t 14, t 15, t 16,
  t 17], m 10 18], r [m 19 10, ar 20 .neq (t 19) (n 0)]] (.cond (t 20) (q [r [m 21 10, mv 8 (.const (.nilptr)), m 9 21]] (.ret)) (sk)), r [ln 22 3 4, m 23 1,
  m 24 2, c 25 20 [t 22, t 23, t 24], m 11 25], q [r [m 26 11, o 27 (.nilchk (t 26)), fa 28 7 27, l 29 28, le 30 29, mv 31 (n 0)]] (.block 0 (.loop (q [r [ar 32 .lss (t 31) (t 30)],
  .cond (t 32) (sk) (.exit 0), .block 1 (q [r [ia 33 1 29 (t 31), l 34 33, m 13 34], r [m 35 11, m 36 13, c 37 21 [t 35, t 36], ar 38 .eql (t 37) (n 4),
  m 39 38, og 40 (.mov (t 11)) 39 true, og 41 (.nilchk (t 40)) 39 true, og 42 (.fldA 6 (t 41)) 39 true, og 43 (.ld1 (t 42)) 39 true, og 44 (.mov (t 13)) 39 true,
  og 45 (.xo (.mapget (.one (.int .i64)) false (.nilsl)) [t 43, t 44]) 39 true, og 46 (.len (t 45)) 39 true, og 47 (.arith .gtr (t 46) (n 32)) 39 true, o 48 (.pick (t 39) (t 47) ff)]] (.cond (t 48) (q [r [mv 8 (.const (.nilptr)),
  mv 9 (n 2)]] (.ret)) (sk)))] (r [ar 49 .add (t 31) (n 1), m 31 49])))), r [m 50 11, m 8 50, mv 9 (n 0)]] (.ret)⟩
theorem A11_ok : XOk Tryz.prog ITS 11 A11 := ⟨Tryz.f11, Tryz.func11, by kernel_rfl, by decide, by kernel_rfl, its_nil (by kernel_rfl)⟩

/- (*widgetry/layout.scene).lay -/
def A12 : AFn := ⟨93, [.cell 8 (some 7)], q [r [o 6 (.box (t 2)), o 8 (.new [.int .i64 0, .int .i64 0, .int .i64 0, .int .i64 0, .int .i64 0, .int .i64 0, .nilsl])], r [m 13 1, ln 14 4 6, fa 15 3 6,
  l 16 15, o 17 (.build [.int .i64 0, .int .i64 0, .int .i64 0, .int .i64 0, .int .i64 0, .int .i64 0, .nilsl] [(0, 1, .tmp 13), (1, 4, .tmp 14), (5, 1,
  .tmp 16)]), o 9 (.new [.int .i64 0, .int .i64 0, .int .i64 0, .int .i64 0, .int .i64 0, .int .i64 0, .nilsl]), s 7 9 17], q [r [m 18 0, o 19 (.nilchk (t 18)),
  fa 20 4 19, l 21 20, m 22 1, o 23 (.xo (.mapget (.one (.int .i64)) false (.agg [.int .i64 0, .int .i64 0, .int .i64 0, .str [], .nilsl, .nilsl, .nilsl])) [t 21,
  t 22]), o 24 (.fld 2 none (t 23)), c 25 22 [t 24]]] (.cond (t 25) (q [r [m 26 0, m 27 1, fa 28 2 6, l 29 28, c 30 23 [t 26, t 27, t 29], fa 31 6 9, s 1 31 30],
  r [fa 32 6 9, l 33 32, le 34 33, ar 35 .gtr (t 34) (n 0)]] (.cond (t 35) (d [(fa 36 6 9, 0), (l 37 36, 1), (ia 38 10 37 (n 0), 3), (fa 39 4 38, 7), (l 40 39,
  15), (fa 41 6 9, 0), (l 42 41, 32), (ia 43 10 42 (n 0), 96), (fa 44 6 43, 224), (l 45 44, 480), (ar 46 .add (t 40) (t 45), 1023), (fa 47 5 9, 2047), (s 1 47 46,
  4095)]) (sk))) (sk)), q [r [m 48 0, m 49 1, fa 50 2 6, l 51 50, fa 52 3 6, l 53 52, c 54 24 [t 48, t 49, t 51, t 53], le 55 54, mv 56 (n 0)]] (.block 0 (.loop (q [r [ar 57 .lss (t 56) (t 55)],
  .cond (t 57) (sk) (.exit 0), .block 1 (q [r [m 58 56, ia 59 4 54 (t 56), ln 60 4 59, o 11 (.new [.int .i64 0, .int .i64 0, .int .i64 0, .int .i64 0]),
  m 10 58, s 4 11 60], d [(m 61 0, 0), (m 62 0, 0), (o 63 (.nilchk (t 62)), 2), (fa 64 6 63, 6), (l 65 64, 14), (m 66 1, 0), (o 67 (.xo (.mapget (.one (.int .i64)) false (.nilsl)) [t 65,
  t 66]), 62), (m 68 10, 0), (ia 69 1 67 (t 68), 254), (l 70 69, 510), (ln 71 4 11, 0), (m 72 3, 0), (c 73 12 [t 61, t 70, t 71, t 72], 4095), (o 12 (.new [.int .i64 0,
  .int .i64 0, .int .i64 0, .int .i64 0, .int .i64 0, .int .i64 0, .nilsl]), 0), (s 7 12 73, 16383)], r [m 74 10, ar 75 .eql (t 74) (n 0)]] (.cond (t 75) (r [fa 76 1 12,
  fa 77 1 76, l 78 77, fa 79 5 12, l 80 79, ar 81 .add (t 78) (t 80), fa 82 5 9, s 1 82 81]) (sk)))] (r [ar 83 .add (t 56) (n 1), m 56 83])))), d [(m 84 3,
  0), (m 85 3, 0), (o 86 (.nilchk (t 85)), 2), (l 87 86, 6), (ln 88 7 9, 0), (o 89 (.buildSl 7 1 [.int .i64 0, .int .i64 0, .int .i64 0, .int .i64 0, .int .i64 0,
  .int .i64 0, .nilsl] [(0, 7, .tmp 88)]), 16), (o 90 (.app 7 72 (t 87) (t 89)), 62), (o 91 (.nilchk (t 84)), 127), (s 1 91 90, 255)], r [ln 92 7 9, s 7 8 92]] (.ret)⟩
theorem A12_ok : XOk Tryz.prog ITS 12 A12 := ⟨Tryz.f12, Tryz.func12, by kernel_rfl, by decide, by kernel_rfl, its_nil (by kernel_rfl)⟩

/- slices.SortFunc[[]widgetry/api.Box,widgetry/api.Box] -/
def A13 : AFn := ⟨14, [], q [r [m 5 0, le 6 5, m 4 6]] (r [m 7 0, m 8 4, m 9 4, o 10 (.convI .u64 (t 9)), c 11 26 [t 10], m 12 1, c 13 25 [t 7, n 0, t 8, t 11, t 12]])⟩
theorem A13_ok : XOk Tryz.prog ITS 13 A13 := ⟨Tryz.f13, Tryz.func13, by kernel_rfl, by decide, by kernel_rfl, its_nil (by kernel_rfl)⟩

/- widgetry/layout.Compute$1 -/
def A14 : AFn := ⟨10, [.tmp 4], q [r [o 2 (.box (t 0)), o 3 (.box (t 1)), mv 4 (n 0)], r [fa 5 0 2, l 6 5, fa 7 0 3, l 8 7, ar 9 .sub (t 6) (t 8), m 4 9]] (.ret)⟩
theorem A14_ok : XOk Tryz.prog ITS 14 A14 := ⟨Tryz.f14, Tryz.func14, by kernel_rfl, by decide, by kernel_rfl, its_nil (by kernel_rfl)⟩

/- widgetry/geometry.Validate -/
def A15 : AFn := ⟨33, [.tmp 2], q [r [o 1 (.box (t 0)), mv 2 (n 0)], q [r [fa 3 0 1, l 4 3, c 5 27 [t 4, n 1048576], o 6 (.un .not (t 5)), m 7 6, og 8 (.fldA 1 (t 1)) 7 false, og 9 (.ld1 (t 8)) 7 false,
  og 10 (.call (fn 27) [t 9, n 1048576]) 7 false, og 11 (.un .not (t 10)) 7 false, o 12 (.pick (t 7) tt (t 11)), m 13 12, og 14 (.fldA 2 (t 1)) 13 false,
  og 15 (.ld1 (t 14)) 13 false, og 16 (.arith .lss (t 15) (n 0)) 13 false, o 17 (.pick (t 13) tt (t 16)), m 18 17, og 19 (.fldA 2 (t 1)) 18 false, og 20 (.ld1 (t 19)) 18 false,
  og 21 (.arith .gtr (t 20) (n 1048576)) 18 false, o 22 (.pick (t 18) tt (t 21)), m 23 22, og 24 (.fldA 3 (t 1)) 23 false, og 25 (.ld1 (t 24)) 23 false,
  og 26 (.arith .lss (t 25) (n 0)) 23 false, o 27 (.pick (t 23) tt (t 26)), m 28 27, og 29 (.fldA 3 (t 1)) 28 false, og 30 (.ld1 (t 29)) 28 false, og 31 (.arith .gtr (t 30) (n 1048576)) 28 false,
  o 32 (.pick (t 28) tt (t 31))]] (.cond (t 32) (q [r [mv 2 (n 1)]] (.ret)) (sk)), r [mv 2 (n 0)]] (.ret)⟩
theorem A15_ok : XOk Tryz.prog ITS 15 A15 := ⟨Tryz.f15, Tryz.func15, by kernel_rfl, by decide, by kernel_rfl, its_nil (by kernel_rfl)⟩

/- widgetry/widgetryref17.Cascade -/
def A16 : AFn := ⟨62, [.tmp 10, .tmp 11], q [r [o 5 (.box (t 0)), o 6 (.box (t 1)), o 7 (.box (t 2)), o 8 (.box (t 3)), mv 10 (.const (.nilsl)), mv 11 (n 0)], q [r [ln 17 1 5, ln 18 1 6, ln 19 3 7,
  ln 20 3 8, c 21 28 [t 17, t 18, t 19, t 20], m 12 21], r [m 22 12, ar 23 .neq (t 22) (n 0)]] (.cond (t 23) (q [r [m 24 12, mv 10 (.const (.nilsl)), m 11 24]] (.ret)) (sk)),
  r [mv 13 (.const (.nilsl))], r [ln 25 3 8, c 26 29 [t 25], m 14 26], q [r [mv 15 (n 0)]] (.block 0 (.loop (q [q [r [m 27 15, m 28 14, le 29 28, ar 30 .lss (t 27) (t 29)]] (.cond (t 30) (sk) (.exit 0)),
  .block 1 (q [d [(ln 33 3 8, 0), (m 34 14, 0), (m 35 15, 0), (ia 36 1 34 (t 35), 6), (l 37 36, 14), (c 38 30 [t 33, t 37], 31), (o 16 (.new [.int .i64 0,
  .int .i64 0, .int .i64 0, .str [], .nilsl, .nilsl, .nilsl]), 0), (s 7 16 38, 127)]] (d [(m 39 13, 0), (fa 40 0 16, 0), (l 41 40, 2), (ln 42 1 5, 0), (ln 43 1 6,
  0), (ln 44 3 7, 0), (ln 45 3 8, 0), (m 46 4, 0), (fa 47 0 16, 0), (l 48 47, 256), (m 49 13, 0), (fa 50 1 16, 0), (l 51 50, 2048), (c 52 32 [t 49, t 51],
  7168), (fa 53 1 16, 0), (l 54 53, 16384), (ar 55 .eql (t 54) (n 0), 49152), (c 56 31 [t 42, t 43, t 44, t 45, t 46, t 48, t 52, t 55], 131064), (o 57 (.build [.int .i64 0,
  .int .i64 0, .int .i64 0, .int .i64 0, .int .i64 0, .int .i64 0, .int .i64 0, .int .i64 0, .int .i64 0, .int .i64 0, .int .i64 0, .int .i64 0, .int .i64 0,
  .int .i64 0, .int .i64 0, .int .i64 0, .int .i64 0, .int .i64 0, .int .i64 0, .int .i64 0, .int .i64 0, .int .i64 0, .int .i64 0] [(0, 1, .tmp 41), (1,
  22, .tmp 56)]), 262142), (o 58 (.buildSl 23 1 [.int .i64 0, .int .i64 0, .int .i64 0, .int .i64 0, .int .i64 0, .int .i64 0, .int .i64 0, .int .i64 0,
  .int .i64 0, .int .i64 0, .int .i64 0, .int .i64 0, .int .i64 0, .int .i64 0, .int .i64 0, .int .i64 0, .int .i64 0, .int .i64 0, .int .i64 0, .int .i64 0,
  .int .i64 0, .int .i64 0, .int .i64 0] [(0, 23, .tmp 57)]), 524286), (o 59 (.app 23 184 (t 39) (t 58)), 1048575), (m 13 59, 2097151)]))] (r [m 31 15, ar 32 .add (t 31) (n 1),
  m 15 32])))), r [m 60 13, c 61 33 [t 60], m 10 61, mv 11 (n 0)]] (.ret)⟩
theorem A16_ok : XOk Tryz.prog ITS 16 A16 := ⟨Tryz.f16, Tryz.func16, by kernel_rfl, by decide, by kernel_rfl, its_nil (by kernel_rfl)⟩

/- widgetry/widgetrylaw21.label -/
def A17 : AFn := ⟨8, [.cell 2 (some 5)], q [r [o 2 (.new [.int .i64 0, .str [], .nilsl, .nilsl, .nilsl])], r [m 3 0, o 4 (.build [.int .i64 0, .int .i64 0, .str [], .nilsl] [(0, 1, .const (.int .i64 3)),
  (2, 1, .tmp 3)]), o 5 (.build [.str [], .int .i64 0, .int .i64 0, .str [], .nilsl] [(0, 1, .const (.str [116, 101, 120, 116])), (1, 4, .tmp 4)]), o 6 (.buildSl 5 1 [.str [],
  .int .i64 0, .int .i64 0, .str [], .nilsl] [(0, 5, .tmp 5)]), o 7 (.build [.int .i64 0, .str [], .nilsl, .nilsl, .nilsl] [(0, 1, .const (.int .i64 2)),
  (2, 1, .tmp 6)]), s 5 2 7]] (.ret)⟩
theorem A17_ok : XOk Tryz.prog ITS 17 A17 := ⟨Tryz.f17, Tryz.func17, by kernel_rfl, by decide, by kernel_rfl, its_nil (by kernel_rfl)⟩

/- widgetry/widgetryref14.validate -/
def A18 : AFn := ⟨230, [.tmp 6, .tmp 7], q [r [o 3 (.box (t 0)), mv 6 (n 0), mv 7 (n 0)], r [m 19 2, ar 20 .add (t 19) (n 1), m 2 20], q [r [m 21 1, ar 22 .gtr (t 21) (n 16)]] (.cond (t 22) (q [r [m 23 2,
  m 6 23, mv 7 (n 8)]] (.ret)) (sk)), q [r [m 24 2, ar 25 .gtr (t 24) (n 400)]] (.cond (t 25) (q [r [m 26 2, m 6 26, mv 7 (n 2)]] (.ret)) (sk)), q [r [fa 27 0 3,
  l 28 27, ar 29 .lss (t 28) (n 1), m 30 29, og 31 (.fldA 0 (t 3)) 30 false, og 32 (.ld1 (t 31)) 30 false, og 33 (.arith .gtr (t 32) (n 13)) 30 false, o 34 (.pick (t 30) tt (t 33))]] (.cond (t 34) (q [r [m 35 2,
  m 6 35, mv 7 (n 9)]] (.ret)) (sk)), q [r [fa 36 1 3, l 37 36, c 38 34 [t 37], o 39 (.un .not (t 38))]] (.cond (t 39) (q [r [m 40 2, m 6 40, mv 7 (n 4)]] (.ret)) (sk)),
  q [r [fa 41 2 3, l 42 41, le 43 42, ar 44 .gtr (t 43) (n 24), m 45 44, og 46 (.fldA 3 (t 3)) 45 false, og 47 (.ld1 (t 46)) 45 false, og 48 (.len (t 47)) 45 false,
  og 49 (.arith .gtr (t 48) (n 24)) 45 false, o 50 (.pick (t 45) tt (t 49)), m 51 50, og 52 (.fldA 4 (t 3)) 51 false, og 53 (.ld1 (t 52)) 51 false, og 54 (.len (t 53)) 51 false,
  og 55 (.arith .gtr (t 54) (n 100)) 51 false, o 56 (.pick (t 51) tt (t 55))]] (.cond (t 56) (q [r [m 57 2, m 6 57, mv 7 (n 2)]] (.ret)) (sk)), q [r [mv 8 (n 0)]] (.block 0 (.loop (q [q [r [m 58 8,
  fa 59 2 3, l 60 59, le 61 60, ar 62 .lss (t 58) (t 61)]] (.cond (t 62) (sk) (.exit 0)), .block 1 (q [q [r [fa 65 2 3, l 66 65, m 67 8, ia 68 5 66 (t 67),
  fa 69 0 68, l 70 69, c 71 35 [t 70], o 72 (.un .not (t 71))]] (.cond (t 72) (q [r [m 73 2, m 6 73, mv 7 (n 4)]] (.ret)) (sk)), q [d [(m 74 8, 0), (ar 75 .gtr (t 74) (n 0),
  1), (m 76 75, 3), (og 77 (.fldA 2 (t 3)) 76 true, 7), (og 78 (.ld1 (t 77)) 76 true, 15), (og 79 (.mov (t 8)) 76 true, 7), (og 80 (.idxA 5 (t 78) (t 79)) 76 true,
  63), (og 81 (.fldA 0 (t 80)) 76 true, 127), (og 82 (.ld1 (t 81)) 76 true, 255), (og 83 (.fldA 2 (t 3)) 76 true, 7), (og 84 (.ld1 (t 83)) 76 true, 519),
  (og 85 (.mov (t 8)) 76 true, 7), (og 86 (.arith .sub (t 85) (n 1)) 76 true, 2055), (og 87 (.idxA 5 (t 84) (t 86)) 76 true, 7687), (og 88 (.fldA 0 (t 87)) 76 true,
  15879), (og 89 (.ld1 (t 88)) 76 true, 32263), (og 90 (.arith .leq (t 82) (t 89)) 76 true, 65535), (o 91 (.pick (t 76) (t 90) ff), 131071)]] (.cond (t 91) (q [r [m 92 2,
  m 6 92, mv 7 (n 10)]] (.ret)) (sk)), r [fa 93 2 3, l 94 93, m 95 8, ia 96 5 94 (t 95), fa 97 1 96, ln 98 4 97, c 99 36 [t 98], m 9 99], r [m 100 9, ar 101 .neq (t 100) (n 0)]] (.cond (t 101) (q [r [m 102 2,
  m 103 9, m 6 102, m 7 103]] (.ret)) (sk)))] (r [m 63 8, ar 64 .add (t 63) (n 1), m 8 64])))), q [r [mv 10 (n 0)]] (.block 2 (.loop (q [q [r [m 104 10,
  fa 105 3 3, l 106 105, le 107 106, ar 108 .lss (t 104) (t 107)]] (.cond (t 108) (sk) (.exit 2)), .block 3 (q [r [fa 111 3 3, l 112 111, m 113 10, ia 114 4 112 (t 113),
  ln 115 4 114, o 11 (.new [.str [], .str [], .str [], .nilsl]), s 4 11 115], q [r [fa 116 0 11, l 117 116, c 118 35 [t 117], o 119 (.un .not (t 118)), m 120 119,
  og 121 (.fldA 2 (t 11)) 120 false, og 122 (.ld1 (t 121)) 120 false, og 123 (.call (fn 35) [t 122]) 120 false, og 124 (.un .not (t 123)) 120 false, o 125 (.pick (t 120) tt (t 124))]] (.cond (t 125) (q [r [m 126 2,
  m 6 126, mv 7 (n 4)]] (.ret)) (sk)), q [d [(m 127 10, 0), (ar 128 .gtr (t 127) (n 0), 1), (m 129 128, 3), (og 130 (.fldA 0 (t 11)) 129 true, 7), (og 131 (.ld1 (t 130)) 129 true,
  15), (og 132 (.fldA 3 (t 3)) 129 true, 7), (og 133 (.ld1 (t 132)) 129 true, 39), (og 134 (.mov (t 10)) 129 true, 7), (og 135 (.arith .sub (t 134) (n 1)) 129 true,
  135), (og 136 (.idxA 4 (t 133) (t 135)) 129 true, 487), (og 137 (.fldA 0 (t 136)) 129 true, 999), (og 138 (.ld1 (t 137)) 129 true, 2023), (og 139 (.arith .leq (t 131) (t 138)) 129 true,
  4095), (o 140 (.pick (t 129) (t 139) ff), 8191)]] (.cond (t 140) (q [r [m 141 2, m 6 141, mv 7 (n 10)]] (.ret)) (sk)), q [r [fa 142 1 11, l 143 142, o 144 (.lenS (t 143)),
  ar 145 .gtr (t 144) (n 400), m 146 145, og 147 (.fldA 3 (t 11)) 146 false, og 148 (.ld1 (t 147)) 146 false, og 149 (.len (t 148)) 146 false, og 150 (.arith .gtr (t 149) (n 100)) 146 false,
  o 151 (.pick (t 146) tt (t 150))]] (.cond (t 151) (q [r [m 152 2, m 6 152, mv 7 (n 2)]] (.ret)) (sk)), r [mv 12 (n 0)]] (.block 4 (.loop (q [q [r [m 153 12,
  fa 154 3 11, l 155 154, le 156 155, ar 157 .lss (t 153) (t 156)]] (.cond (t 157) (sk) (.exit 4)), .block 5 (q [r [fa 160 3 11, l 161 160, m 162 12, ia 163 4 161 (t 162),
  ln 164 4 163, c 165 36 [t 164], m 13 165], r [m 166 13, ar 167 .neq (t 166) (n 0)]] (.cond (t 167) (q [r [m 168 2, m 169 13, m 6 168, m 7 169]] (.ret)) (sk)))] (r [m 158 12,
  ar 159 .add (t 158) (n 1), m 12 159])))))] (r [m 109 10, ar 110 .add (t 109) (n 1), m 10 110])))), q [r [mv 14 (n 0)]] (.block 6 (.loop (q [q [r [m 170 14,
  fa 171 4 3, l 172 171, le 173 172, ar 174 .lss (t 170) (t 173)]] (.cond (t 174) (sk) (.exit 6)), .block 7 (q [r [mv 15 (n 0)]] (.block 8 (.loop (q [q [r [m 177 15,
  m 178 14, ar 179 .lss (t 177) (t 178)]] (.cond (t 179) (sk) (.exit 8)), .block 9 (q [d [(fa 182 4 3, 0), (l 183 182, 1), (m 184 14, 0), (ia 185 5 183 (t 184),
  7), (fa 186 1 185, 15), (l 187 186, 31), (ar 188 .neq (t 187) (.const (.str [])), 63), (m 189 188, 127), (og 190 (.fldA 4 (t 3)) 189 true, 255), (og 191 (.ld1 (t 190)) 189 true,
  511), (og 192 (.mov (t 14)) 189 true, 255), (og 193 (.idxA 5 (t 191) (t 192)) 189 true, 2047), (og 194 (.fldA 1 (t 193)) 189 true, 4095), (og 195 (.ld1 (t 194)) 189 true,
  8191), (og 196 (.fldA 4 (t 3)) 189 true, 255), (og 197 (.ld1 (t 196)) 189 true, 16639), (og 198 (.mov (t 15)) 189 true, 255), (og 199 (.idxA 5 (t 197) (t 198)) 189 true,
  114943), (og 200 (.fldA 1 (t 199)) 189 true, 246015), (og 201 (.ld1 (t 200)) 189 true, 508159), (og 202 (.arith .eql (t 195) (t 201)) 189 true, 1048575),
  (o 203 (.pick (t 189) (t 202) ff), 2097151)]] (.cond (t 203) (q [r [m 204 2, m 6 204, mv 7 (n 6)]] (.ret)) (sk)))] (r [m 180 15, ar 181 .add (t 180) (n 1),
  m 15 181])))))] (r [m 175 14, ar 176 .add (t 175) (n 1), m 14 176])))), q [r [mv 16 (n 0)]] (.block 10 (.loop (q [q [r [m 205 16, fa 206 4 3, l 207 206,
  le 208 207, ar 209 .lss (t 205) (t 208)]] (.cond (t 209) (sk) (.exit 10)), .block 11 (q [r [fa 213 4 3, l 214 213, m 215 16, ia 216 5 214 (t 215), ln 217 5 216,
  m 218 1, ar 219 .add (t 218) (n 1), m 220 2, c 221 18 [t 217, t 219, t 220], m 212 221, ex 222 212 0, ex 223 212 1, m 17 222, m 18 223], r [m 224 17, m 2 224],
  r [m 225 18, ar 226 .neq (t 225) (n 0)]] (.cond (t 226) (q [r [m 227 2, m 228 18, m 6 227, m 7 228]] (.ret)) (sk)))] (r [m 210 16, ar 211 .add (t 210) (n 1),
  m 16 211])))), r [m 229 2, m 6 229, mv 7 (n 0)]] (.ret)⟩
theorem A18_ok : XOk Tryz.prog ITS 18 A18 := ⟨Tryz.f18, Tryz.func18, by kernel_rfl, by decide, by kernel_rfl, its_nil (by kernel_rfl)⟩

/- widgetry/layout.valid -/
def A19 : AFn := ⟨65, [.tmp 8], q [r [o 4 (.box (t 0)), o 7 (.box (t 3)), mv 8 (n 0)], q [r [ln 13 3 4, c 14 37 [t 13], m 9 14], r [m 15 9, ar 16 .neq (t 15) (n 0)]] (.cond (t 16) (q [r [m 17 9,
  m 8 17]] (.ret)) (sk)), q [r [ln 18 3 4, m 19 1, c 20 38 [t 18, t 19], o 21 (.un .not (t 20))]] (.cond (t 21) (q [r [mv 8 (n 7)]] (.ret)) (sk)), q [r [m 22 1,
  c 23 39 [t 22], o 24 (.un .not (t 23)), m 25 24, og 26 (.fldA 0 (t 7)) 25 false, og 27 (.ld1 (t 26)) 25 false, og 28 (.arith .lss (t 27) (n 0)) 25 false,
  o 29 (.pick (t 25) tt (t 28)), m 30 29, og 31 (.fldA 0 (t 7)) 30 false, og 32 (.ld1 (t 31)) 30 false, og 33 (.arith .gtr (t 32) (n 1048576)) 30 false,
  o 34 (.pick (t 30) tt (t 33)), m 35 34, og 36 (.fldA 1 (t 7)) 35 false, og 37 (.ld1 (t 36)) 35 false, og 38 (.arith .lss (t 37) (n 0)) 35 false, o 39 (.pick (t 35) tt (t 38)),
  m 40 39, og 41 (.fldA 1 (t 7)) 40 false, og 42 (.ld1 (t 41)) 40 false, og 43 (.arith .gtr (t 42) (n 1048576)) 40 false, o 44 (.pick (t 40) tt (t 43))]] (.cond (t 44) (q [r [mv 8 (n 1)]] (.ret)) (sk)),
  q [r [m 45 2, le 46 45, ar 47 .lss (t 46) (n 1), m 48 47, og 49 (.mov (t 2)) 48 false, og 50 (.len (t 49)) 48 false, og 51 (.arith .gtr (t 50) (n 8)) 48 false,
  o 52 (.pick (t 48) tt (t 51))]] (.cond (t 52) (q [r [mv 8 (n 2)]] (.ret)) (sk)), q [r [m 53 2, le 54 53, mv 55 (n 0)]] (.block 0 (.loop (q [r [ar 56 .lss (t 55) (t 54)],
  .cond (t 56) (sk) (.exit 0), .block 1 (q [r [ia 57 8 53 (t 55), ln 58 8 57, o 11 (.new [.int .i64 0, .int .i64 0, .int .i64 0, .int .i64 0, .int .i64 0,
  .nilsl, .nilsl, .nilsl]), s 8 11 58], r [ln 59 8 11, c 60 40 [t 59], m 12 60], r [m 61 12, ar 62 .neq (t 61) (n 0)]] (.cond (t 62) (q [r [m 63 12, m 8 63]] (.ret)) (sk)))] (r [ar 64 .add (t 55) (n 1),
  m 55 64])))), r [mv 8 (n 0)]] (.ret)⟩
theorem A19_ok : XOk Tryz.prog ITS 19 A19 := ⟨Tryz.f19, Tryz.func19, by kernel_rfl, by decide, by kernel_rfl, its_nil (by kernel_rfl)⟩

/- widgetry/layout.open -/
def A20 : AFn := ⟨62, [.tmp 6], q [r [o 3 (.box (t 0)), mv 6 (.const (.nilptr))], r [ln 10 3 3, m 11 2, o 12 (.xo .mkmap []), o 13 (.xo .mkmap []), o 14 (.xo .mkmap []), o 15 (.xo .mkmap []),
  o 16 (.xo .mkmap []), o 17 (.xo .mkmap []), o 18 (.xo .mkmap []), o 19 (.build [.int .i64 0, .int .i64 0, .nilsl, .nilsl, .nilmap, .nilmap, .nilmap, .nilsl,
  .nilmap, .nilmap, .nilmap, .nilmap] [(0, 3, .tmp 10), (3, 1, .tmp 11), (4, 1, .tmp 12), (5, 1, .tmp 13), (6, 1, .tmp 14), (8, 1, .tmp 15), (9, 1, .tmp 16),
  (10, 1, .tmp 17), (11, 1, .tmp 18)]), o 20 (.box (t 19)), m 7 20], q [r [fa 21 2 3, l 22 21, le 23 22, mv 24 (n 0)]] (.block 0 (.loop (q [r [ar 25 .lss (t 24) (t 23)],
  .cond (t 25) (sk) (.exit 0), .block 1 (q [r [m 26 24, ia 27 7 22 (t 24), ln 28 7 27, o 9 (.new [.int .i64 0, .int .i64 0, .int .i64 0, .str [], .nilsl,
  .nilsl, .nilsl]), m 8 26, s 7 9 28]] (d [(m 29 7, 0), (o 30 (.nilchk (t 29)), 1), (fa 31 4 30, 3), (l 32 31, 7), (fa 33 0 9, 0), (l 34 33, 16), (m 35 7,
  0), (o 36 (.nilchk (t 35)), 64), (fa 37 5 36, 192), (l 38 37, 448), (fa 39 0 9, 0), (l 40 39, 1024), (ln 41 7 9, 0), (m 42 1, 0), (m 43 8, 0), (ia 44 23 42 (t 43),
  24576), (fa 45 1 44, 57344), (ln 46 22 45, 122880), (o 47 (.xo (.mapent (.one (.int .i64)) (.agg [.int .i64 0, .int .i64 0, .int .i64 0, .str [], .nilsl,
  .nilsl, .nilsl])) [t 32, t 34]), 254975), (ex 48 47 1, 517119), (on (.xo .entst [t 32, t 48, t 41]), 1045503), (o 49 (.xo (.mapent (.one (.int .i64)) (.agg [.int .i64 0,
  .int .i64 0, .int .i64 0, .int .i64 0, .int .i64 0, .int .i64 0, .int .i64 0, .int .i64 0, .int .i64 0, .int .i64 0, .int .i64 0, .int .i64 0, .int .i64 0,
  .int .i64 0, .int .i64 0, .int .i64 0, .int .i64 0, .int .i64 0, .int .i64 0, .int .i64 0, .int .i64 0, .int .i64 0])) [t 38, t 40]), 2097151), (ex 50 49 1,
  4194303), (on (.xo .entst [t 38, t 50, t 46]), 8388607)]))] (r [ar 51 .add (t 24) (n 1), m 24 51])))), q [r [m 52 7, fa 53 0 3, l 54 53, c 55 41 [t 52,
  t 54], o 56 (.un .not (t 55))]] (.cond (t 56) (r [m 57 7, fa 58 0 3, l 59 58, c 60 42 [t 57, t 59]]) (sk)), r [m 61 7, m 6 61]] (.ret)⟩
theorem A20_ok : XOk Tryz.prog ITS 20 A20 := ⟨Tryz.f20, Tryz.func20, by kernel_rfl, by decide, by kernel_rfl, its_nil (by kernel_rfl)⟩

/- (*widgetry/layout.scene).display -/
def A21 : AFn := ⟨20, [.tmp 4], q [r [mv 4 (n 0)], q [r [m 5 0, o 6 (.nilchk (t 5)), fa 7 4 6, l 8 7, m 9 1, o 10 (.xo (.mapget (.one (.int .i64)) false (.agg [.int .i64 0, .int .i64 0,
  .int .i64 0, .str [], .nilsl, .nilsl, .nilsl])) [t 8, t 9]), o 11 (.fld 2 none (t 10)), ar 12 .eql (t 11) (n 8)]] (.cond (t 12) (q [r [mv 4 (n 1)]] (.ret)) (sk)),
  r [m 13 0, o 14 (.nilchk (t 13)), fa 15 5 14, l 16 15, m 17 1, o 18 (.xo (.mapget (.one (.int .i64)) false (.agg [.int .i64 0, .int .i64 0, .int .i64 0,
  .int .i64 0, .int .i64 0, .int .i64 0, .int .i64 0, .int .i64 0, .int .i64 0, .int .i64 0, .int .i64 0, .int .i64 0, .int .i64 0, .int .i64 0, .int .i64 0,
  .int .i64 0, .int .i64 0, .int .i64 0, .int .i64 0, .int .i64 0, .int .i64 0, .int .i64 0])) [t 16, t 17]), o 19 (.idx 22 1 none (t 18) (n 5)), m 4 19]] (.ret)⟩
theorem A21_ok : XOk Tryz.prog ITS 21 A21 := ⟨Tryz.f21, Tryz.func21, by kernel_rfl, by decide, by kernel_rfl, its_nil (by kernel_rfl)⟩

/- widgetry/layout.isText -/
def A22 : AFn := ⟨17, [.tmp 2], q [r [mv 2 ff], r [m 3 0, ar 4 .eql (t 3) (n 2), m 5 4, og 6 (.mov (t 0)) 5 false, og 7 (.arith .eql (t 6) (n 4)) 5 false, o 8 (.pick (t 5) tt (t 7)),
  m 9 8, og 10 (.mov (t 0)) 9 false, og 11 (.arith .eql (t 10) (n 7)) 9 false, o 12 (.pick (t 9) tt (t 11)), m 13 12, og 14 (.mov (t 0)) 13 false, og 15 (.arith .eql (t 14) (n 9)) 13 false,
  o 16 (.pick (t 13) tt (t 15)), m 2 16]] (.ret)⟩
theorem A22_ok : XOk Tryz.prog ITS 22 A22 := ⟨Tryz.f22, Tryz.func22, by kernel_rfl, by decide, by kernel_rfl, its_nil (by kernel_rfl)⟩

/- (*widgetry/layout.scene).lines -/
def A23 : AFn := ⟨100, [.tmp 6], q [r [mv 6 (.const (.nilsl))], r [m 13 0, o 14 (.nilchk (t 13)), fa 15 5 14, l 16 15, m 17 1, o 18 (.xo (.mapget (.one (.int .i64)) false (.agg [.int .i64 0,
  .int .i64 0, .int .i64 0, .int .i64 0, .int .i64 0, .int .i64 0, .int .i64 0, .int .i64 0, .int .i64 0, .int .i64 0, .int .i64 0, .int .i64 0, .int .i64 0,
  .int .i64 0, .int .i64 0, .int .i64 0, .int .i64 0, .int .i64 0, .int .i64 0, .int .i64 0, .int .i64 0, .int .i64 0])) [t 16, t 17]), o 7 (.new [.int .i64 0,
  .int .i64 0, .int .i64 0, .int .i64 0, .int .i64 0, .int .i64 0, .int .i64 0, .int .i64 0, .int .i64 0, .int .i64 0, .int .i64 0, .int .i64 0, .int .i64 0,
  .int .i64 0, .int .i64 0, .int .i64 0, .int .i64 0, .int .i64 0, .int .i64 0, .int .i64 0, .int .i64 0, .int .i64 0]), s 22 7 18], d [(m 20 0, 0), (o 21 (.nilchk (t 20)),
  1), (fa 22 4 21, 3), (l 23 22, 7), (m 24 1, 0), (o 25 (.xo (.mapget (.one (.int .i64)) false (.agg [.int .i64 0, .int .i64 0, .int .i64 0, .str [], .nilsl,
  .nilsl, .nilsl])) [t 23, t 24]), 31), (ln 26 22 7, 0), (m 27 0, 0), (o 28 (.nilchk (t 27)), 128), (fa 29 3 28, 384), (l 30 29, 896), (le 31 30, 1920),
  (m 32 0, 0), (m 33 1, 0), (m 34 2, 0), (c 35 45 [t 32, t 33, t 34], 28672), (c 36 44 [t 25, t 26, t 31, t 35], 65535), (m 37 0, 0), (o 38 (.nilchk (t 37)),
  131072), (fa 39 3 38, 393216), (l 40 39, 917504), (c 41 43 [t 36, t 40], 2097151), (m 19 41, 4194303), (ex 42 19 0, 8388607), (ex 43 19 1, 8388607), (m 8 42,
  16777215), (m 9 43, 67108863)], r [o 44 (.idxArrA 22 1 (t 7) (n 17)), l 45 44, m 10 45], q [r [o 46 (.idxArrA 22 1 (t 7) (n 4)), l 47 46, ar 48 .eql (t 47) (n 1)]] (.cond (t 48) (r [o 49 (.idxArrA 22 1 (t 7) (n 19)),
  l 50 49, m 10 50]) (sk)), q [r [m 51 8, le 52 51, mv 53 (n 0)]] (.block 0 (.loop (q [r [ar 54 .lss (t 53) (t 52)], .cond (t 54) (sk) (.exit 0), .block 1 (q [r [m 55 53,
  m 11 55], r [m 56 8, m 57 11, ia 58 10 56 (t 57), fa 59 3 58, l 60 59, m 61 10, ar 62 .add (t 60) (t 61), ia 63 10 56 (t 57), fa 64 3 63, s 1 64 62], d [(m 65 8,
  0), (m 66 11, 0), (ia 67 10 65 (t 66), 3), (fa 68 4 67, 7), (l 69 68, 15), (o 70 (.idxArrA 22 1 (t 7) (n 18)), 0), (l 71 70, 32), (ar 72 .add (t 69) (t 71),
  127), (ia 73 10 65 (t 66), 255), (fa 74 4 73, 511), (s 1 74 72, 1023)], r [m 75 8, m 76 11, ia 77 10 75 (t 76), fa 78 9 77, l 79 78, le 80 79, mv 81 (n 0)]] (.block 2 (.loop (q [r [ar 82 .lss (t 81) (t 80)],
  .cond (t 82) (sk) (.exit 2), .block 3 (q [r [m 83 81, m 12 83]] (r [m 84 8, m 85 11, ia 86 10 84 (t 85), fa 87 9 86, l 88 87, m 89 12, ia 90 8 88 (t 89),
  fa 91 4 90, l 92 91, m 93 10, ar 94 .add (t 92) (t 93), ia 95 8 88 (t 89), fa 96 4 95, s 1 96 94]))] (r [ar 97 .add (t 81) (n 1), m 81 97])))))] (r [ar 98 .add (t 53) (n 1),
  m 53 98])))), r [m 99 8, m 6 99]] (.ret)⟩
theorem A23_ok : XOk Tryz.prog ITS 23 A23 := ⟨Tryz.f23, Tryz.func23, by kernel_rfl, by decide, by kernel_rfl, its_nil (by kernel_rfl)⟩

/- (*widgetry/layout.scene).children -/
def A24 : AFn := ⟨96, [.tmp 8], q [r [mv 8 (.const (.nilsl))], r [m 17 0, o 18 (.nilchk (t 17)), fa 19 5 18, l 20 19, m 21 1, o 22 (.xo (.mapget (.one (.int .i64)) false (.agg [.int .i64 0,
  .int .i64 0, .int .i64 0, .int .i64 0, .int .i64 0, .int .i64 0, .int .i64 0, .int .i64 0, .int .i64 0, .int .i64 0, .int .i64 0, .int .i64 0, .int .i64 0,
  .int .i64 0, .int .i64 0, .int .i64 0, .int .i64 0, .int .i64 0, .int .i64 0, .int .i64 0, .int .i64 0, .int .i64 0])) [t 20, t 21]), o 9 (.new [.int .i64 0,
  .int .i64 0, .int .i64 0, .int .i64 0, .int .i64 0, .int .i64 0, .int .i64 0, .int .i64 0, .int .i64 0, .int .i64 0, .int .i64 0, .int .i64 0, .int .i64 0,
  .int .i64 0, .int .i64 0, .int .i64 0, .int .i64 0, .int .i64 0, .int .i64 0, .int .i64 0, .int .i64 0, .int .i64 0]), s 22 9 22], r [ln 24 22 9, c 25 46 [t 24],
  m 23 25, ex 26 23 0, ex 27 23 1, m 10 26, m 11 27], r [m 28 0, m 29 1, m 30 2, c 31 45 [t 28, t 29, t 30], m 32 3, m 33 11, ar 34 .sub (t 32) (t 33), c 35 47 [t 34],
  m 12 31, m 13 35], r [mv 14 (.const (.nilsl))], q [r [m 36 0, m 37 1, c 38 21 [t 36, t 37]]] (.block 0 (q [r [ar 45 .eql (t 38) (n 2), m 44 45]] (.cond (t 44) (r [m 46 0,
  m 47 1, m 48 12, m 49 13, c 50 48 [t 46, t 47, t 48, t 49], m 14 50]) (q [r [ar 52 .eql (t 38) (n 3), m 51 52]] (.cond (t 51) (r [m 53 0, m 54 1, m 55 12,
  c 56 49 [t 53, t 54, t 55], m 14 56]) (q [r [ar 58 .eql (t 38) (n 4), m 57 58]] (.cond (t 57) (r [m 59 0, m 60 1, m 61 12, c 62 50 [t 59, t 60, t 61],
  m 14 62]) (r [m 39 0, m 40 1, m 41 12, m 42 13, c 43 51 [t 39, t 40, t 41, t 42], m 14 43])))))))), r [o 63 (.idxArrA 22 1 (t 9) (n 17)), l 64 63, m 15 64],
  q [r [o 65 (.idxArrA 22 1 (t 9) (n 4)), l 66 65, ar 67 .eql (t 66) (n 1)]] (.cond (t 67) (r [o 68 (.idxArrA 22 1 (t 9) (n 19)), l 69 68, m 15 69]) (sk)),
  q [r [m 70 14, le 71 70, mv 72 (n 0)]] (.block 1 (.loop (q [r [ar 73 .lss (t 72) (t 71)], .cond (t 73) (sk) (.exit 1), .block 2 (q [r [m 74 72, m 16 74],
  r [m 75 14, m 76 16, ia 77 4 75 (t 76), fa 78 0 77, l 79 78, m 80 15, ar 81 .add (t 79) (t 80), ia 82 4 75 (t 76), fa 83 0 82, s 1 83 81]] (d [(m 84 14,
  0), (m 85 16, 0), (ia 86 4 84 (t 85), 3), (fa 87 1 86, 7), (l 88 87, 15), (o 89 (.idxArrA 22 1 (t 9) (n 18)), 0), (l 90 89, 32), (ar 91 .add (t 88) (t 90),
  127), (ia 92 4 84 (t 85), 255), (fa 93 1 92, 511), (s 1 93 91, 1023)]))] (r [ar 94 .add (t 72) (n 1), m 72 94])))), r [m 95 14, m 8 95]] (.ret)⟩
theorem A24_ok : XOk Tryz.prog ITS 24 A24 := ⟨Tryz.f24, Tryz.func24, by kernel_rfl, by decide, by kernel_rfl, its_nil (by kernel_rfl)⟩

/- slices.pdqsortCmpFunc[widgetry/api.Box] -/
def A25 : AFn := ⟨148, [], q [r [mv 10 tt], r [mv 11 tt]] (.block 0 (.loop (.block 1 (q [r [m 21 2, m 22 1, ar 23 .sub (t 21) (t 22), m 12 23], q [r [m 24 12, ar 25 .leq (t 24) (n 12)]] (.cond (t 25) (q [r [m 26 0,
  m 27 1, m 28 2, m 29 4, c 30 52 [t 26, t 27, t 28, t 29]]] (.ret)) (sk)), q [r [m 31 3, ar 32 .eql (t 31) (n 0)]] (.cond (t 32) (q [r [m 33 0, m 34 1,
  m 35 2, m 36 4, c 37 53 [t 33, t 34, t 35, t 36]]] (.ret)) (sk)), q [r [m 38 10, o 39 (.un .not (t 38))]] (.cond (t 39) (q [r [m 40 0, m 41 1, m 42 2,
  m 43 4, c 44 54 [t 40, t 41, t 42, t 43]]] (r [m 45 3, ar 46 .sub (t 45) (n 1), m 3 46])) (sk)), r [m 48 0, m 49 1, m 50 2, m 51 4, c 52 55 [t 48, t 49,
  t 50, t 51], m 47 52, ex 53 47 0, ex 54 47 1, m 13 53, m 14 54], q [r [m 55 14, ar 56 .eql (t 55) (n 2)]] (.cond (t 56) (q [r [m 57 0, m 58 1, m 59 2,
  m 60 4, c 61 56 [t 57, t 58, t 59, t 60]], r [m 62 2, ar 63 .sub (t 62) (n 1), m 64 13, m 65 1, ar 66 .sub (t 64) (t 65), ar 67 .sub (t 63) (t 66), m 13 67]] (r [mv 14 (n 1)])) (sk)),
  q [r [m 68 10, m 69 68, og 70 (.mov (t 11)) 69 true, o 71 (.pick (t 69) (t 70) ff), m 72 71, og 73 (.mov (t 14)) 72 true, og 74 (.arith .eql (t 73) (n 1)) 72 true,
  o 75 (.pick (t 72) (t 74) ff)]] (.cond (t 75) (q [r [m 76 0, m 77 1, m 78 2, m 79 4, c 80 57 [t 76, t 77, t 78, t 79]]] (.cond (t 80) (.ret) (sk))) (sk)),
  q [d [(m 81 1, 0), (ar 82 .gtr (t 81) (n 0), 1), (m 83 82, 3), (og 84 (.mov (t 4)) 83 true, 7), (og 85 (.mov (t 0)) 83 true, 7), (og 86 (.mov (t 1)) 83 true,
  7), (og 87 (.arith .sub (t 86) (n 1)) 83 true, 39), (og 88 (.idxA 7 (t 85) (t 87)) 83 true, 119), (og 89 (.ldn 7 (t 88)) 83 true, 247), (og 90 (.mov (t 0)) 83 true,
  7), (og 91 (.mov (t 13)) 83 true, 7), (og 92 (.idxA 7 (t 90) (t 91)) 83 true, 1543), (og 93 (.ldn 7 (t 92)) 83 true, 3591), (og 94 (.call (t 84) [t 89,
  t 93]) 83 true, 8191), (og 95 (.arith .lss (t 94) (n 0)) 83 true, 16383), (og 96 (.un .not (t 95)) 83 true, 32767), (o 97 (.pick (t 83) (t 96) ff), 65535)]] (.cond (t 97) (q [r [m 98 0,
  m 99 1, m 100 2, m 101 13, m 102 4, c 103 58 [t 98, t 99, t 100, t 101, t 102], m 15 103], r [m 104 15, m 1 104]] (.exit 1)) (sk)), r [m 106 0, m 107 1,
  m 108 2, m 109 13, m 110 4, c 111 59 [t 106, t 107, t 108, t 109, t 110], m 105 111, ex 112 105 0, ex 113 105 1, m 16 112, m 17 113], r [m 114 17, m 11 114],
  r [m 115 16, m 116 1, ar 117 .sub (t 115) (t 116), m 118 2, m 119 16, ar 120 .sub (t 118) (t 119), m 18 117, m 19 120], r [m 121 12, ar 122 .quo (t 121) (n 8),
  m 20 122], r [m 123 18, m 124 19, ar 125 .lss (t 123) (t 124)]] (.cond (t 125) (q [r [m 126 18, m 127 20, ar 128 .geq (t 126) (t 127), m 10 128], r [m 129 0,
  m 130 1, m 131 16, m 132 3, m 133 4, c 134 25 [t 129, t 130, t 131, t 132, t 133]]] (r [m 135 16, ar 136 .add (t 135) (n 1), m 1 136])) (q [r [m 137 19,
  m 138 20, ar 139 .geq (t 137) (t 138), m 10 139], r [m 140 0, m 141 16, ar 142 .add (t 141) (n 1), m 143 2, m 144 3, m 145 4, c 146 25 [t 140, t 142, t 143,
  t 144, t 145]]] (r [m 147 16, m 2 147])))))))⟩
theorem A25_ok : XOk Tryz.prog ITS 25 A25 := ⟨Tryz.f25, Tryz.func25, by kernel_rfl, by decide, by kernel_rfl, its_nil (by kernel_rfl)⟩

/- math/bits.Len -/
def A26 : AFn := ⟨8, [.tmp 2], q [r [mv 2 (n 0)], .cond ff (q [r [m 3 0, o 4 (.convI .u32 (t 3)), c 5 60 [t 4], m 2 5]] (.ret)) (sk), r [m 6 0, c 7 61 [t 6], m 2 7]] (.ret)⟩
theorem A26_ok : XOk Tryz.prog ITS 26 A26 := ⟨Tryz.f26, Tryz.func26, by kernel_rfl, by decide, by kernel_rfl, its_nil (by kernel_rfl)⟩

/- widgetry/geometry.within -/
def A27 : AFn := ⟨14, [.tmp 4], q [r [mv 4 ff], r [m 5 0, m 6 1, o 7 (.un .neg (t 6)), ar 8 .geq (t 5) (t 7), m 9 8, og 10 (.mov (t 0)) 9 true, og 11 (.mov (t 1)) 9 true, og 12 (.arith .leq (t 10) (t 11)) 9 true,
  o 13 (.pick (t 9) (t 12) ff), m 4 13]] (.ret)⟩
theorem A27_ok : XOk Tryz.prog ITS 27 A27 := ⟨Tryz.f27, Tryz.func27, by kernel_rfl, by decide, by kernel_rfl, its_nil (by kernel_rfl)⟩

/- widgetry/widgetryref17.failure -/
def A28 : AFn := ⟨31, [.tmp 8], q [r [o 4 (.box (t 0)), o 5 (.box (t 1)), o 6 (.box (t 2)), o 7 (.box (t 3)), mv 8 (n 0)], q [r [ln 11 1 4, c 12 62 [t 11], m 9 12], r [m 13 9, ar 14 .neq (t 13) (n 0)]] (.cond (t 14) (q [r [m 15 9,
  m 8 15]] (.ret)) (sk)), q [r [ln 16 1 5, c 17 63 [t 16], m 10 17], r [m 18 10, ar 19 .neq (t 18) (n 0)]] (.cond (t 19) (q [r [m 20 10, m 8 20]] (.ret)) (sk)),
  q [r [fa 21 2 6, l 22 21, ar 23 .lss (t 22) (n 50), m 24 23, og 25 (.fldA 2 (t 6)) 24 false, og 26 (.ld1 (t 25)) 24 false, og 27 (.arith .gtr (t 26) (n 400)) 24 false,
  o 28 (.pick (t 24) tt (t 27))]] (.cond (t 28) (q [r [mv 8 (n 1)]] (.ret)) (sk)), r [ln 29 3 7, c 30 64 [t 29], m 8 30]] (.ret)⟩
theorem A28_ok : XOk Tryz.prog ITS 28 A28 := ⟨Tryz.f28, Tryz.func28, by kernel_rfl, by decide, by kernel_rfl, its_nil (by kernel_rfl)⟩

/- widgetry/widgetryref14.Order -/
def A29 : AFn := ⟨10, [.tmp 2], q [r [o 1 (.box (t 0)), mv 2 (.const (.nilsl))], q [r [ln 3 3 1, c 4 64 [t 3], ar 5 .neq (t 4) (n 0)]] (.cond (t 5) (q [r [mv 2 (.const (.nilsl))]] (.ret)) (sk)),
  r [ln 6 3 1, fa 7 0 1, l 8 7, c 9 65 [t 6, t 8, .const (.nilsl)], m 2 9]] (.ret)⟩
theorem A29_ok : XOk Tryz.prog ITS 29 A29 := ⟨Tryz.f29, Tryz.func29, by kernel_rfl, by decide, by kernel_rfl, its_nil (by kernel_rfl)⟩

/- widgetry/widgetryref14.Node -/
def A30 : AFn := ⟨17, [.cell 4 (some 7)], q [r [o 2 (.box (t 0)), o 4 (.new [.int .i64 0, .int .i64 0, .int .i64 0, .str [], .nilsl, .nilsl, .nilsl])], r [ln 6 3 2, m 7 1, c 8 66 [t 6, t 7], m 5 8],
  q [r [m 9 5, ar 10 .lss (t 9) (n 0)]] (.cond (t 10) (q [r [o 11 (.build [.int .i64 0, .int .i64 0, .int .i64 0, .str [], .nilsl, .nilsl, .nilsl] []), s 7 4 11]] (.ret)) (sk)),
  r [fa 12 2 2, l 13 12, m 14 5, ia 15 7 13 (t 14), ln 16 7 15, s 7 4 16]] (.ret)⟩
theorem A30_ok : XOk Tryz.prog ITS 30 A30 := ⟨Tryz.f30, Tryz.func30, by kernel_rfl, by decide, by kernel_rfl, its_nil (by kernel_rfl)⟩

/- widgetry/widgetryref17.compute -/
def A31 : AFn := ⟨155, [.cell 16 (some 22)], q [r [o 8 (.box (t 0)), o 9 (.box (t 1)), o 10 (.box (t 2)), o 11 (.box (t 3)), o 14 (.box (t 6)), o 16 (.new [.int .i64 0, .int .i64 0, .int .i64 0, .int .i64 0,
  .int .i64 0, .int .i64 0, .int .i64 0, .int .i64 0, .int .i64 0, .int .i64 0, .int .i64 0, .int .i64 0, .int .i64 0, .int .i64 0, .int .i64 0, .int .i64 0,
  .int .i64 0, .int .i64 0, .int .i64 0, .int .i64 0, .int .i64 0, .int .i64 0])], r [o 17 (.new [.int .i64 0, .int .i64 0, .int .i64 0, .int .i64 0, .int .i64 0,
  .int .i64 0, .int .i64 0, .int .i64 0, .int .i64 0, .int .i64 0, .int .i64 0, .int .i64 0, .int .i64 0, .int .i64 0, .int .i64 0, .int .i64 0, .int .i64 0,
  .int .i64 0, .int .i64 0, .int .i64 0, .int .i64 0, .int .i64 0])], q [r [mv 18 (n 0)]] (.block 0 (.loop (q [q [r [m 33 18, ar 34 .lss (t 33) (n 22)]] (.cond (t 34) (sk) (.exit 0)),
  .block 1 (q [r [c 37 67 [], m 38 18, o 39 (.idx 22 1 none (t 37) (t 38)), m 19 39, mv 20 ff], q [r [m 40 18, c 41 68 [t 40], m 42 41, og 43 (.mov (t 7)) 42 true,
  og 44 (.un .not (t 43)) 42 true, o 45 (.pick (t 42) (t 44) ff)]] (.cond (t 45) (r [m 46 18, o 47 (.idxArrA 22 1 (t 14) (t 46)), l 48 47, m 19 48, mv 20 tt]) (sk)),
  r [mv 21 (n (-1)), mv 22 (n (-1))], q [r [mv 23 (n 0)]] (.block 2 (.loop (q [q [r [m 49 23, fa 50 0 8, l 51 50, le 52 51, ar 53 .lss (t 49) (t 52)]] (.cond (t 53) (sk) (.exit 2)),
  .block 3 (q [r [fa 56 0 8, l 57 56, m 58 23, ia 59 6 57 (t 58), ln 60 6 59, o 24 (.new [.int .i64 0, .str [], .int .i64 0, .int .i64 0, .str [], .nilsl]),
  s 6 24 60], r [ln 62 6 24, c 63 69 [t 62], m 61 63, ex 64 61 0, ex 65 61 1, m 25 64, m 26 65], q [r [m 66 25, m 67 21, ar 68 .lss (t 66) (t 67), m 69 68,
  og 70 (.mov (t 25)) 69 false, og 71 (.mov (t 21)) 69 false, og 72 (.arith .eql (t 70) (t 71)) 69 false, og 73 (.mov (t 72)) 69 false, og 74 (.mov (t 26)) 73 true,
  og 75 (.mov (t 22)) 73 true, og 76 (.arith .lss (t 74) (t 75)) 73 true, og 77 (.pick (t 73) (t 76) ff) 69 false, o 78 (.pick (t 69) tt (t 77)), m 79 78,
  og 80 (.ldn 6 (t 24)) 79 false, og 81 (.ldn 3 (t 11)) 79 false, og 82 (.mov (t 4)) 79 false, og 83 (.mov (t 5)) 79 false, og 84 (.call (fn 70) [t 80, t 81,
  t 82, t 83]) 79 false, og 85 (.un .not (t 84)) 79 false, o 86 (.pick (t 79) tt (t 85))]] (.cond (t 86) (.exit 3) (sk)), r [mv 27 (n 0)]] (.block 4 (.loop (q [q [r [m 87 27,
  fa 88 5 24, l 89 88, le 90 89, ar 91 .lss (t 87) (t 90)]] (.cond (t 91) (sk) (.exit 4)), .block 5 (q [r [fa 94 5 24, l 95 94, m 96 27, ia 97 4 95 (t 96),
  ln 98 4 97, o 28 (.new [.int .i64 0, .int .i64 0, .int .i64 0, .str []]), s 4 28 98], q [r [fa 99 0 28, l 100 99, m 101 18, ar 102 .neq (t 100) (t 101)]] (.cond (t 102) (.exit 5) (sk)),
  r [c 103 67 [], m 104 18, o 105 (.idx 22 1 none (t 103) (t 104)), m 29 105, mv 30 ff], q [r [fa 106 1 28, l 107 106]] (.block 6 (q [r [ar 109 .eql (t 107) (n 0),
  m 108 109]] (.cond (t 108) (r [fa 110 2 28, l 111 110, m 29 111]) (q [r [ar 113 .eql (t 107) (n 1), m 112 113]] (.cond (t 112) (q [r [ln 115 1 9, ln 116 3 10,
  fa 117 3 28, l 118 117, c 119 71 [t 115, t 116, t 118], m 114 119, ex 120 114 0, ex 121 114 1, m 31 120, m 32 121], q [r [m 122 32, o 123 (.un .not (t 122)),
  m 124 123, og 125 (.mov (t 18)) 124 false, og 126 (.mov (t 31)) 124 false, og 127 (.call (fn 72) [t 125, t 126]) 124 false, og 128 (.un .not (t 127)) 124 false,
  o 129 (.pick (t 124) tt (t 128))]] (.cond (t 129) (.exit 5) (sk))] (r [m 130 31, m 29 130])) (q [r [ar 132 .eql (t 107) (n 2), m 131 132]] (.cond (t 131) (q [r [m 133 7,
  o 134 (.un .not (t 133))]] (.cond (t 134) (r [m 135 18, o 136 (.idxArrA 22 1 (t 14) (t 135)), l 137 136, m 29 137, mv 30 tt]) (sk))) (sk))))))))] (r [m 138 29,
  m 139 30, m 140 25, m 141 26, m 19 138, m 20 139, m 21 140, m 22 141]))] (r [m 92 27, ar 93 .add (t 92) (n 1), m 27 93])))))] (r [m 54 23, ar 55 .add (t 54) (n 1),
  m 23 55])))), q [r [m 142 18, ar 143 .eql (t 142) (n 2), m 144 143, og 145 (.mov (t 20)) 144 true, og 146 (.un .not (t 145)) 144 true, o 147 (.pick (t 144) (t 146) ff)]] (.cond (t 147) (r [ln 148 3 10,
  m 149 19, c 150 73 [t 148, t 149], m 19 150]) (sk))] (r [m 151 18, m 152 19, o 153 (.idxArrA 22 1 (t 17) (t 151)), s 1 153 152]))] (r [m 35 18, ar 36 .add (t 35) (n 1),
  m 18 36])))), r [ln 154 22 17, s 22 16 154]] (.ret)⟩
theorem A31_ok : XOk Tryz.prog ITS 31 A31 := ⟨Tryz.f31, Tryz.func31, by kernel_rfl, by decide, by kernel_rfl, its_nil (by kernel_rfl)⟩

/- widgetry/widgetryref17.Find -/
def A32 : AFn := ⟨25, [.cell 4 (some 22)], q [r [o 4 (.new [.int .i64 0, .int .i64 0, .int .i64 0, .int .i64 0, .int .i64 0, .int .i64 0, .int .i64 0, .int .i64 0, .int .i64 0, .int .i64 0, .int .i64 0,
  .int .i64 0, .int .i64 0, .int .i64 0, .int .i64 0, .int .i64 0, .int .i64 0, .int .i64 0, .int .i64 0, .int .i64 0, .int .i64 0, .int .i64 0])], q [r [mv 5 (n 0)]] (.block 0 (.loop (q [q [r [m 6 5,
  m 7 0, le 8 7, ar 9 .lss (t 6) (t 8)]] (.cond (t 9) (sk) (.exit 0)), .block 1 (q [r [m 12 0, m 13 5, ia 14 23 12 (t 13), fa 15 0 14, l 16 15, m 17 1, ar 18 .eql (t 16) (t 17)]] (.cond (t 18) (q [r [m 19 0,
  m 20 5, ia 21 23 19 (t 20), fa 22 1 21, ln 23 22 22, s 22 4 23]] (.ret)) (sk)))] (r [m 10 5, ar 11 .add (t 10) (n 1), m 5 11])))), r [o 24 (.build [.int .i64 0,
  .int .i64 0, .int .i64 0, .int .i64 0, .int .i64 0, .int .i64 0, .int .i64 0, .int .i64 0, .int .i64 0, .int .i64 0, .int .i64 0, .int .i64 0, .int .i64 0,
  .int .i64 0, .int .i64 0, .int .i64 0, .int .i64 0, .int .i64 0, .int .i64 0, .int .i64 0, .int .i64 0, .int .i64 0] []), s 22 4 24]] (.ret)⟩
theorem A32_ok : XOk Tryz.prog ITS 32 A32 := ⟨Tryz.f32, Tryz.func32, by kernel_rfl, by decide, by kernel_rfl, its_nil (by kernel_rfl)⟩

/- widgetry/widgetryref17.ascending -/
def A33 : AFn := ⟨49, [.tmp 2], q [r [mv 2 (.const (.nilsl))], q [r [mv 3 (n 0)]] (.block 0 (.loop (q [q [r [m 6 3, m 7 0, le 8 7, ar 9 .lss (t 6) (t 8)]] (.cond (t 9) (sk) (.exit 0)),
  .block 1 (q [r [m 12 3, m 4 12]] (.block 2 (.loop (q [q [d [(m 13 4, 0), (ar 14 .gtr (t 13) (n 0), 1), (m 15 14, 3), (og 16 (.mov (t 0)) 15 true, 7), (og 17 (.mov (t 4)) 15 true,
  7), (og 18 (.arith .sub (t 17) (n 1)) 15 true, 23), (og 19 (.idxA 23 (t 16) (t 18)) 15 true, 63), (og 20 (.fldA 0 (t 19)) 15 true, 127), (og 21 (.ld1 (t 20)) 15 true,
  255), (og 22 (.mov (t 0)) 15 true, 7), (og 23 (.mov (t 4)) 15 true, 7), (og 24 (.idxA 23 (t 22) (t 23)) 15 true, 1543), (og 25 (.fldA 0 (t 24)) 15 true,
  3591), (og 26 (.ld1 (t 25)) 15 true, 7687), (og 27 (.arith .gtr (t 21) (t 26)) 15 true, 16383), (o 28 (.pick (t 15) (t 27) ff), 32767)]] (.cond (t 28) (sk) (.exit 2)),
  .block 3 (q [r [m 31 0, m 32 4, ia 33 23 31 (t 32), ln 34 23 33, o 5 (.new [.int .i64 0, .int .i64 0, .int .i64 0, .int .i64 0, .int .i64 0, .int .i64 0,
  .int .i64 0, .int .i64 0, .int .i64 0, .int .i64 0, .int .i64 0, .int .i64 0, .int .i64 0, .int .i64 0, .int .i64 0, .int .i64 0, .int .i64 0, .int .i64 0,
  .int .i64 0, .int .i64 0, .int .i64 0, .int .i64 0, .int .i64 0]), s 23 5 34], r [m 35 0, m 36 4, m 37 0, m 38 4, ar 39 .sub (t 38) (n 1), ia 40 23 37 (t 39),
  ln 41 23 40, ia 42 23 35 (t 36), s 23 42 41]] (r [m 43 0, m 44 4, ar 45 .sub (t 44) (n 1), ln 46 23 5, ia 47 23 43 (t 45), s 23 47 46]))] (r [m 29 4, ar 30 .sub (t 29) (n 1),
  m 4 30])))))] (r [m 10 3, ar 11 .add (t 10) (n 1), m 3 11])))), r [m 48 0, m 2 48]] (.ret)⟩
theorem A33_ok : XOk Tryz.prog ITS 33 A33 := ⟨Tryz.f33, Tryz.func33, by kernel_rfl, by decide, by kernel_rfl, its_nil (by kernel_rfl)⟩

/- widgetry/widgetryref14.Key -/
def A34 : AFn := ⟨5, [.tmp 2], q [r [mv 2 ff], r [m 3 0, c 4 74 [t 3], m 2 4]] (.ret)⟩
theorem A34_ok : XOk Tryz.prog ITS 34 A34 := ⟨Tryz.f34, Tryz.func34, by kernel_rfl, by decide, by kernel_rfl, its_nil (by kernel_rfl)⟩

/- widgetry/widgetryref11.Name -/
def A35 : AFn := ⟨53, [.tmp 2], q [r [mv 2 ff], q [r [m 4 0, o 5 (.lenS (t 4)), ar 6 .lss (t 5) (n 1), m 7 6, og 8 (.mov (t 0)) 7 false, og 9 (.lenS (t 8)) 7 false, og 10 (.arith .gtr (t 9) (n 24)) 7 false,
  o 11 (.pick (t 7) tt (t 10)), m 12 11, og 13 (.mov (t 0)) 12 false, og 14 (.idxS (t 13) (n 0)) 12 false, og 15 (.call (fn 75) [t 14]) 12 false, og 16 (.un .not (t 15)) 12 false,
  o 17 (.pick (t 12) tt (t 16))]] (.cond (t 17) (q [r [mv 2 ff]] (.ret)) (sk)), q [r [mv 3 (n 1)]] (.block 0 (.loop (q [q [r [m 18 3, m 19 0, o 20 (.lenS (t 19)),
  ar 21 .lss (t 18) (t 20)]] (.cond (t 21) (sk) (.exit 0)), .block 1 (q [r [m 24 0, m 25 3, o 26 (.idxS (t 24) (t 25)), c 27 75 [t 26], o 28 (.un .not (t 27)),
  m 29 28, og 30 (.mov (t 0)) 29 true, og 31 (.mov (t 3)) 29 true, og 32 (.idxS (t 30) (t 31)) 29 true, og 33 (.arith .lss (t 32) (.const (.int .u8 48))) 29 true,
  og 34 (.mov (t 33)) 29 true, og 35 (.mov (t 0)) 34 false, og 36 (.mov (t 3)) 34 false, og 37 (.idxS (t 35) (t 36)) 34 false, og 38 (.arith .gtr (t 37) (.const (.int .u8 57))) 34 false,
  og 39 (.pick (t 34) tt (t 38)) 29 true, o 40 (.pick (t 29) (t 39) ff), m 41 40, og 42 (.mov (t 0)) 41 true, og 43 (.mov (t 3)) 41 true, og 44 (.idxS (t 42) (t 43)) 41 true,
  og 45 (.arith .neq (t 44) (.const (.int .u8 45))) 41 true, o 46 (.pick (t 41) (t 45) ff), m 47 46, og 48 (.mov (t 0)) 47 true, og 49 (.mov (t 3)) 47 true,
  og 50 (.idxS (t 48) (t 49)) 47 true, og 51 (.arith .neq (t 50) (.const (.int .u8 95))) 47 true, o 52 (.pick (t 47) (t 51) ff)]] (.cond (t 52) (q [r [mv 2 ff]] (.ret)) (sk)))] (r [m 22 3,
  ar 23 .add (t 22) (n 1), m 3 23])))), r [mv 2 tt]] (.ret)⟩
theorem A35_ok : XOk Tryz.prog ITS 35 A35 := ⟨Tryz.f35, Tryz.func35, by kernel_rfl, by decide, by kernel_rfl, its_nil (by kernel_rfl)⟩

/- widgetry/widgetryref11.Check -/
def A36 : AFn := ⟨11, [.tmp 2], q [r [o 1 (.box (t 0)), mv 2 (n 0)], r [ln 6 4 1, c 7 76 [t 6], m 5 7, ex 8 5 0, ex 9 5 1, o 3 (.new [.int .i64 0, .nilsl]), s 2 3 8, m 4 9], r [m 10 4,
  m 2 10]] (.ret)⟩
theorem A36_ok : XOk Tryz.prog ITS 36 A36 := ⟨Tryz.f36, Tryz.func36, by kernel_rfl, by decide, by kernel_rfl, its_nil (by kernel_rfl)⟩

/- widgetry/view.Check -/
def A37 : AFn := ⟨13, [.tmp 2], q [r [o 1 (.box (t 0)), mv 2 (n 0)], r [ln 7 3 1, c 8 77 [t 7], m 6 8, ex 9 6 0, ex 10 6 1, ex 11 6 2, o 4 (.new [.int .i64 0, .str [], .nilsl, .nilsl,
  .nilsl]), m 3 9, s 5 4 10, m 5 11], r [m 12 5, m 2 12]] (.ret)⟩
theorem A37_ok : XOk Tryz.prog ITS 37 A37 := ⟨Tryz.f37, Tryz.func37, by kernel_rfl, by decide, by kernel_rfl, its_nil (by kernel_rfl)⟩

/- widgetry/layout.complete -/
def A38 : AFn := ⟨9, [.tmp 4], q [r [o 2 (.box (t 0)), mv 4 ff], r [fa 5 2 2, l 6 5, m 7 1, c 8 78 [t 6, t 7, fn 79], m 4 8]] (.ret)⟩
theorem A38_ok : XOk Tryz.prog ITS 38 A38 := ⟨Tryz.f38, Tryz.func38, by kernel_rfl, by decide, by kernel_rfl, its_nil (by kernel_rfl)⟩

/- widgetry/layout.styled -/
def A39 : AFn := ⟨25, [.tmp 2], q [r [mv 2 ff], q [r [m 7 0, le 8 7, mv 9 (n 0)]] (.block 0 (.loop (q [r [ar 10 .lss (t 9) (t 8)], .cond (t 10) (sk) (.exit 0), .block 1 (q [r [ia 11 23 7 (t 9),
  ln 12 23 11, o 4 (.new [.int .i64 0, .int .i64 0, .int .i64 0, .int .i64 0, .int .i64 0, .int .i64 0, .int .i64 0, .int .i64 0, .int .i64 0, .int .i64 0,
  .int .i64 0, .int .i64 0, .int .i64 0, .int .i64 0, .int .i64 0, .int .i64 0, .int .i64 0, .int .i64 0, .int .i64 0, .int .i64 0, .int .i64 0, .int .i64 0,
  .int .i64 0]), s 23 4 12], r [fa 13 1 4, ln 14 22 13, mv 15 (n 0)]] (.block 2 (.loop (q [r [ar 16 .lss (t 15) (n 22)], .cond (t 16) (sk) (.exit 2), .block 3 (q [r [m 17 15,
  o 18 (.idx 22 1 none (t 14) (t 15)), m 5 17, m 6 18], r [m 19 5, m 20 6, c 21 80 [t 19, t 20], o 22 (.un .not (t 21))]] (.cond (t 22) (q [r [mv 2 ff]] (.ret)) (sk)))] (r [ar 23 .add (t 15) (n 1),
  m 15 23])))))] (r [ar 24 .add (t 9) (n 1), m 9 24])))), r [mv 2 tt]] (.ret)⟩
theorem A39_ok : XOk Tryz.prog ITS 39 A39 := ⟨Tryz.f39, Tryz.func39, by kernel_rfl, by decide, by kernel_rfl, its_nil (by kernel_rfl)⟩

/- widgetry/font.Validate -/
def A40 : AFn := ⟨28, [.tmp 2], q [r [o 1 (.box (t 0)), mv 2 (n 0)], .block 0 (q [r [fa 4 5 1, l 5 4, le 6 5, ar 7 .gtr (t 6) (n 100), m 8 7, og 9 (.fldA 6 (t 1)) 8 false, og 10 (.ld1 (t 9)) 8 false,
  og 11 (.len (t 10)) 8 false, og 12 (.arith .gtr (t 11) (n 100)) 8 false, o 13 (.pick (t 8) tt (t 12)), m 14 13, og 15 (.fldA 7 (t 1)) 14 false, og 16 (.ld1 (t 15)) 14 false,
  og 17 (.len (t 16)) 14 false, og 18 (.arith .gtr (t 17) (n 100)) 14 false, o 19 (.pick (t 14) tt (t 18)), m 3 19]] (.cond (t 3) (q [r [mv 2 (n 2)]] (.ret)) (q [r [ln 21 8 1,
  c 22 81 [t 21], o 23 (.un .not (t 22)), m 20 23]] (.cond (t 20) (q [r [mv 2 (n 1)]] (.ret)) (q [r [ln 25 8 1, c 26 82 [t 25], o 27 (.un .not (t 26)), m 24 27]] (.cond (t 24) (q [r [mv 2 (n 10)]] (.ret)) (sk))))))),
  r [mv 2 (n 0)]] (.ret)⟩
theorem A40_ok : XOk Tryz.prog ITS 40 A40 := ⟨Tryz.f40, Tryz.func40, by kernel_rfl, by decide, by kernel_rfl, its_nil (by kernel_rfl)⟩

/- (*widgetry/layout.scene).hidden -/
def A41 : AFn := ⟨23, [.tmp 4], q [r [mv 4 ff], r [m 5 0, o 6 (.nilchk (t 5)), fa 7 5 6, l 8 7, m 9 1, o 10 (.xo (.mapget (.one (.int .i64)) false (.agg [.int .i64 0, .int .i64 0, .int .i64 0,
  .int .i64 0, .int .i64 0, .int .i64 0, .int .i64 0, .int .i64 0, .int .i64 0, .int .i64 0, .int .i64 0, .int .i64 0, .int .i64 0, .int .i64 0, .int .i64 0,
  .int .i64 0, .int .i64 0, .int .i64 0, .int .i64 0, .int .i64 0, .int .i64 0, .int .i64 0])) [t 8, t 9]), o 11 (.idx 22 1 none (t 10) (n 5)), ar 12 .eql (t 11) (n 0),
  m 13 12, og 14 (.mov (t 0)) 13 false, og 15 (.nilchk (t 14)) 13 false, og 16 (.fldA 4 (t 15)) 13 false, og 17 (.ld1 (t 16)) 13 false, og 18 (.mov (t 1)) 13 false,
  og 19 (.xo (.mapget (.one (.int .i64)) false (.agg [.int .i64 0, .int .i64 0, .int .i64 0, .str [], .nilsl, .nilsl, .nilsl])) [t 17, t 18]) 13 false, og 20 (.fld 4 none (t 19)) 13 false,
  og 21 (.call (fn 83) [t 20, .const (.str [104, 105, 100, 100, 101, 110])]) 13 false, o 22 (.pick (t 13) tt (t 21)), m 4 22]] (.ret)⟩
theorem A41_ok : XOk Tryz.prog ITS 41 A41 := ⟨Tryz.f41, Tryz.func41, by kernel_rfl, by decide, by kernel_rfl, its_nil (by kernel_rfl)⟩

/- (*widgetry/layout.scene).show -/
def A42 : AFn := ⟨60, [], q [r [m 7 0, m 8 0, o 9 (.nilchk (t 8)), fa 10 7 9, l 11 10, m 12 1, o 13 (.buildSl 1 1 [.int .i64 0] [(0, 1, .tmp 12)]), o 14 (.app 1 8 (t 11) (t 13)),
  o 15 (.nilchk (t 7)), fa 16 7 15, s 1 16 14], r [m 17 0, o 18 (.nilchk (t 17)), fa 19 4 18, l 20 19, m 21 1, o 22 (.xo (.mapget (.one (.int .i64)) false (.agg [.int .i64 0,
  .int .i64 0, .int .i64 0, .str [], .nilsl, .nilsl, .nilsl])) [t 20, t 21]), o 4 (.new [.int .i64 0, .int .i64 0, .int .i64 0, .str [], .nilsl, .nilsl,
  .nilsl]), s 7 4 22], q [r [fa 23 2 4, l 24 23, c 25 22 [t 24], m 26 25, og 27 (.fldA 2 (t 4)) 26 false, og 28 (.ld1 (t 27)) 26 false, og 29 (.call (fn 84) [t 28]) 26 false,
  o 30 (.pick (t 26) tt (t 29))]] (.cond (t 30) (.ret) (sk)), r [fa 31 6 4, l 32 31, le 33 32, mv 34 (n 0)]] (.block 0 (.loop (q [r [ar 35 .lss (t 34) (t 33)],
  .cond (t 35) (sk) (.exit 0), .block 1 (q [r [ia 36 1 32 (t 34), l 37 36, m 6 37], r [m 38 0, m 39 6, c 40 41 [t 38, t 39], o 41 (.un .not (t 40))]] (.cond (t 41) (q [d [(m 42 0,
  0), (o 43 (.nilchk (t 42)), 1), (fa 44 6 43, 3), (l 45 44, 7), (m 46 1, 0), (m 47 0, 0), (o 48 (.nilchk (t 47)), 32), (fa 49 6 48, 96), (l 50 49, 224),
  (m 51 1, 0), (o 52 (.xo (.mapget (.one (.int .i64)) false (.nilsl)) [t 50, t 51]), 992), (m 53 6, 0), (o 54 (.buildSl 1 1 [.int .i64 0] [(0, 1, .tmp 53)]),
  2048), (o 55 (.app 1 8 (t 52) (t 54)), 8160), (on (.xo (.mapset (.one (.int .i64))) [t 45, t 46, t 55]), 16383)]] (r [m 56 0, m 57 6, c 58 42 [t 56, t 57]])) (sk)))] (r [ar 59 .add (t 34) (n 1),
  m 34 59]))))⟩
theorem A42_ok : XOk Tryz.prog ITS 42 A42 := ⟨Tryz.f42, Tryz.func42, by kernel_rfl, by decide, by kernel_rfl, its_nil (by kernel_rfl)⟩

/- widgetry/paragraph.Lines -/
def A43 : AFn := ⟨64, [.tmp 4, .tmp 5], q [r [o 2 (.box (t 0)), mv 4 (.const (.nilsl)), mv 5 (n 0)], q [r [ln 16 5 2, m 17 1, c 18 85 [t 16, t 17], m 6 18], r [m 19 6, ar 20 .neq (t 19) (n 0)]] (.cond (t 20) (q [r [m 21 6,
  mv 4 (.const (.nilsl)), m 5 21]] (.ret)) (sk)), r [ln 22 5 2, m 23 1, c 24 86 [t 22, t 23], m 7 24], r [mv 8 (.const (.nilsl))], r [mv 9 (n 0)], q [r [m 25 7,
  o 26 (.nilchk (t 25)), fa 27 15 26, l 28 27, le 29 28, mv 30 (n 0)]] (.block 0 (.loop (q [r [ar 31 .lss (t 30) (t 29)], .cond (t 31) (sk) (.exit 0), .block 1 (q [r [ia 32 4 28 (t 30),
  ln 33 4 32, o 11 (.new [.int .i64 0, .int .i64 0, .int .i64 0, .nilsl]), s 4 11 33], r [fa 34 0 11, l 35 34, m 12 35], r [mv 13 tt]] (.block 2 (.loop (q [q [r [m 36 13,
  m 37 36, og 38 (.mov (t 12)) 37 false, og 39 (.fldA 1 (t 11)) 37 false, og 40 (.ld1 (t 39)) 37 false, og 41 (.arith .lss (t 38) (t 40)) 37 false, o 42 (.pick (t 37) tt (t 41))]] (.cond (t 42) (sk) (.exit 2)),
  .block 3 (q [r [m 43 7, ln 44 4 11, m 45 12, c 46 87 [t 43, t 44, t 45], m 14 46], r [m 47 7, ln 48 4 11, m 49 12, m 50 14, m 51 9, c 52 88 [t 47, t 48,
  t 49, t 50, t 51], o 15 (.new [.int .i64 0, .int .i64 0, .int .i64 0, .int .i64 0, .int .i64 0, .int .i64 0, .int .i64 0, .int .i64 0, .int .i64 0, .nilsl]),
  s 10 15 52], r [m 53 8, ln 54 10 15, o 55 (.buildSl 10 1 [.int .i64 0, .int .i64 0, .int .i64 0, .int .i64 0, .int .i64 0, .int .i64 0, .int .i64 0, .int .i64 0,
  .int .i64 0, .nilsl] [(0, 10, .tmp 54)]), o 56 (.app 10 96 (t 53) (t 55)), m 8 56], r [m 57 9, fa 58 8 15, l 59 58, ar 60 .add (t 57) (t 59), m 9 60]] (r [m 61 14,
  m 12 61]))] (r [mv 13 ff])))))] (r [ar 62 .add (t 30) (n 1), m 30 62])))), r [m 63 8, m 4 63, mv 5 (n 0)]] (.ret)⟩
theorem A43_ok : XOk Tryz.prog ITS 43 A43 := ⟨Tryz.f43, Tryz.func43, by kernel_rfl, by decide, by kernel_rfl, its_nil (by kernel_rfl)⟩

/- widgetry/layout.Paragraph -/
def A44 : AFn := ⟨57, [.cell 8 (some 5)], q [r [o 4 (.box (t 0)), o 5 (.box (t 1)), o 8 (.new [.nilsl, .nilsl, .int .i64 0, .int .i64 0, .int .i64 0])], r [fa 14 4 4, l 15 14, c 16 89 [t 15, .const (.str [116,
  101, 120, 116])], o 17 (.xo .s2r [t 16]), m 9 17], r [m 18 9, m 19 9, le 20 19, o 21 (.mnmx false (t 20) (n 2000)), o 22 (.sl 1 (t 18) none (some (.tmp 21)) none),
  m 9 22], d [(m 23 9, 0), (o 24 (.idxArrA 22 1 (t 5) (n 4)), 0), (l 25 24, 2), (o 26 (.idxArrA 22 1 (t 5) (n 8)), 0), (l 27 26, 8), (m 28 3, 0), (c 29 47 [t 28],
  32), (o 30 (.build [.nilsl, .nilsl, .int .i64 0, .int .i64 0, .int .i64 0] [(0, 1, .tmp 23), (2, 1, .tmp 25), (3, 1, .tmp 27), (4, 1, .tmp 29)]), 127),
  (o 10 (.new [.nilsl, .nilsl, .int .i64 0, .int .i64 0, .int .i64 0]), 0), (s 5 10 30, 511)], r [fa 32 4 4, l 33 32, m 34 9, le 35 34, m 36 2, c 37 90 [t 33,
  t 35, t 36], m 31 37, ex 38 31 0, ex 39 31 1, m 11 38, m 12 39], q [r [m 40 12, o 41 (.un .not (t 40))]] (.cond (t 41) (q [r [o 42 (.idxArrA 22 1 (t 5) (n 3)),
  l 43 42, m 13 43], q [r [m 44 13, m 45 2, ar 46 .geq (t 44) (t 45)]] (.cond (t 46) (r [mv 13 (n 0)]) (sk))] (r [m 47 9, le 48 47, m 49 13, o 50 (.idxArrA 22 1 (t 5) (n 2)),
  l 51 50, o 52 (.build [.int .i64 0, .int .i64 0, .int .i64 0, .int .i64 0] [(1, 1, .tmp 48), (2, 1, .tmp 49), (3, 1, .tmp 51)]), o 53 (.buildSl 4 1 [.int .i64 0,
  .int .i64 0, .int .i64 0, .int .i64 0] [(0, 4, .tmp 52)]), m 11 53])) (sk)), r [m 54 11, fa 55 1 10, s 1 55 54], r [ln 56 5 10, s 5 8 56]] (.ret)⟩
theorem A44_ok : XOk Tryz.prog ITS 44 A44 := ⟨Tryz.f44, Tryz.func44, by kernel_rfl, by decide, by kernel_rfl, its_nil (by kernel_rfl)⟩

/- (*widgetry/layout.scene).inside -/
def A45 : AFn := ⟨23, [.tmp 6], q [r [mv 6 (n 0)], r [m 10 0, o 11 (.nilchk (t 10)), fa 12 5 11, l 13 12, m 14 1, o 15 (.xo (.mapget (.one (.int .i64)) false (.agg [.int .i64 0, .int .i64 0,
  .int .i64 0, .int .i64 0, .int .i64 0, .int .i64 0, .int .i64 0, .int .i64 0, .int .i64 0, .int .i64 0, .int .i64 0, .int .i64 0, .int .i64 0, .int .i64 0,
  .int .i64 0, .int .i64 0, .int .i64 0, .int .i64 0, .int .i64 0, .int .i64 0, .int .i64 0, .int .i64 0])) [t 13, t 14]), c 16 46 [t 15], m 9 16, ex 17 9 0,
  ex 18 9 1, m 7 17, m 8 18], r [m 19 2, m 20 7, ar 21 .sub (t 19) (t 20), c 22 47 [t 21], m 6 22]] (.ret)⟩
theorem A45_ok : XOk Tryz.prog ITS 45 A45 := ⟨Tryz.f45, Tryz.func45, by kernel_rfl, by decide, by kernel_rfl, its_nil (by kernel_rfl)⟩

/- widgetry/layout.pad -/
def A46 : AFn := ⟨14, [.tmp 2, .tmp 3], q [r [o 1 (.box (t 0)), mv 2 (n 0), mv 3 (n 0)], d [(o 4 (.idxArrA 22 1 (t 1) (n 17)), 0), (l 5 4, 1), (o 6 (.idxArrA 22 1 (t 1) (n 19)), 0), (l 7 6, 4),
  (ar 8 .add (t 5) (t 7), 15), (o 9 (.idxArrA 22 1 (t 1) (n 18)), 0), (l 10 9, 32), (o 11 (.idxArrA 22 1 (t 1) (n 20)), 0), (l 12 11, 128), (ar 13 .add (t 10) (t 12),
  480), (m 2 8, 31), (m 3 13, 2047)]] (.ret)⟩
theorem A46_ok : XOk Tryz.prog ITS 46 A46 := ⟨Tryz.f46, Tryz.func46, by kernel_rfl, by decide, by kernel_rfl, its_nil (by kernel_rfl)⟩

/- widgetry/layout.length -/
def A47 : AFn := ⟨5, [.tmp 2], q [r [mv 2 (n 0)], r [m 3 0, c 4 91 [t 3, n 0, n 1048576], m 2 4]] (.ret)⟩
theorem A47_ok : XOk Tryz.prog ITS 47 A47 := ⟨Tryz.f47, Tryz.func47, by kernel_rfl, by decide, by kernel_rfl, its_nil (by kernel_rfl)⟩

/- (*widgetry/layout.scene).row -/
def A48 : AFn := ⟨127, [.tmp 8], q [r [mv 8 (.const (.nilsl))], r [m 18 0, o 19 (.nilchk (t 18)), fa 20 5 19, l 21 20, m 22 1, o 23 (.xo (.mapget (.one (.int .i64)) false (.agg [.int .i64 0,
  .int .i64 0, .int .i64 0, .int .i64 0, .int .i64 0, .int .i64 0, .int .i64 0, .int .i64 0, .int .i64 0, .int .i64 0, .int .i64 0, .int .i64 0, .int .i64 0,
  .int .i64 0, .int .i64 0, .int .i64 0, .int .i64 0, .int .i64 0, .int .i64 0, .int .i64 0, .int .i64 0, .int .i64 0])) [t 21, t 22]), o 9 (.new [.int .i64 0,
  .int .i64 0, .int .i64 0, .int .i64 0, .int .i64 0, .int .i64 0, .int .i64 0, .int .i64 0, .int .i64 0, .int .i64 0, .int .i64 0, .int .i64 0, .int .i64 0,
  .int .i64 0, .int .i64 0, .int .i64 0, .int .i64 0, .int .i64 0, .int .i64 0, .int .i64 0, .int .i64 0, .int .i64 0]), s 22 9 23], r [m 24 0, m 25 1, m 26 2,
  c 27 92 [t 24, t 25, t 26], m 10 27], r [m 28 0, m 29 1, m 30 10, c 31 93 [t 28, t 29, t 30], m 11 31], r [m 32 2, o 33 (.idxArrA 22 1 (t 9) (n 9)), l 34 33,
  o 35 (.idxArrA 22 1 (t 9) (n 7)), l 36 35, m 37 10, o 38 (.idxArrA 22 1 (t 9) (n 4)), l 39 38, ar 40 .eql (t 39) (n 1), c 41 94 [t 32, t 34, t 36, t 37,
  t 40], m 12 41], r [mv 13 (.const (.nilsl))], q [r [o 42 (.idxArrA 22 1 (t 9) (n 6)), l 43 42, ar 44 .eql (t 43) (n 4)]] (.cond (t 44) (r [m 46 11, m 47 0,
  m 48 1, m 49 10, c 50 96 [t 47, t 48, t 49], c 51 95 [t 46, t 50], m 45 51, ex 52 45 0, ex 53 45 1, m 13 52]) (sk)), r [mv 14 (.const (.nilsl))], q [r [m 54 0,
  o 55 (.nilchk (t 54)), fa 56 6 55, l 57 56, m 58 1, o 59 (.xo (.mapget (.one (.int .i64)) false (.nilsl)) [t 57, t 58]), le 60 59, mv 61 (n 0)]] (.block 0 (.loop (q [r [ar 62 .lss (t 61) (t 60)],
  .cond (t 62) (sk) (.exit 0), .block 1 (q [r [m 63 61, ia 64 1 59 (t 61), l 65 64, m 15 63, m 16 65], d [(m 66 12, 0), (m 67 15, 0), (ia 68 1 66 (t 67),
  3), (l 69 68, 7), (m 70 10, 0), (m 71 15, 0), (ia 72 1 70 (t 71), 48), (l 73 72, 112), (m 74 11, 0), (m 75 15, 0), (ia 76 1 74 (t 75), 768), (l 77 76,
  1792), (o 78 (.build [.int .i64 0, .int .i64 0, .int .i64 0, .int .i64 0] [(0, 1, .tmp 69), (2, 1, .tmp 73), (3, 1, .tmp 77)]), 4095), (o 17 (.new [.int .i64 0,
  .int .i64 0, .int .i64 0, .int .i64 0]), 0), (s 4 17 78, 16383)], q [r [o 79 (.idxArrA 22 1 (t 9) (n 6)), l 80 79, ar 81 .eql (t 80) (n 4)]] (.cond (t 81) (r [m 82 13,
  m 83 15, ia 84 1 82 (t 83), l 85 84, fa 86 1 17, s 1 86 85]) (d [(o 88 (.idxArrA 22 1 (t 9) (n 6)), 0), (l 89 88, 1), (m 90 3, 0), (m 91 11, 0), (m 92 15,
  0), (ia 93 1 91 (t 92), 24), (l 94 93, 56), (c 95 97 [t 89, t 90, t 94, ff], 127), (m 87 95, 255), (ex 96 87 0, 511), (ex 97 87 1, 511), (fa 98 1 17, 1023),
  (s 1 98 96, 3071), (fa 99 3 17, 8191), (s 1 99 97, 16383)])), q [r [o 100 (.idxArrA 22 1 (t 9) (n 6)), l 101 100, ar 102 .eql (t 101) (n 3)]] (.cond (t 102) (d [(fa 103 3 17,
  0), (l 104 103, 1), (m 105 0, 0), (o 106 (.nilchk (t 105)), 4), (fa 107 5 106, 12), (l 108 107, 28), (m 109 16, 0), (o 110 (.xo (.mapget (.one (.int .i64)) false (.agg [.int .i64 0,
  .int .i64 0, .int .i64 0, .int .i64 0, .int .i64 0, .int .i64 0, .int .i64 0, .int .i64 0, .int .i64 0, .int .i64 0, .int .i64 0, .int .i64 0, .int .i64 0,
  .int .i64 0, .int .i64 0, .int .i64 0, .int .i64 0, .int .i64 0, .int .i64 0, .int .i64 0, .int .i64 0, .int .i64 0])) [t 108, t 109]), 124), (o 111 (.idx 22 1 none (t 110) (n 15)),
  252), (m 112 0, 0), (o 113 (.nilchk (t 112)), 512), (fa 114 5 113, 1536), (l 115 114, 3584), (m 116 16, 0), (o 117 (.xo (.mapget (.one (.int .i64)) false (.agg [.int .i64 0,
  .int .i64 0, .int .i64 0, .int .i64 0, .int .i64 0, .int .i64 0, .int .i64 0, .int .i64 0, .int .i64 0, .int .i64 0, .int .i64 0, .int .i64 0, .int .i64 0,
  .int .i64 0, .int .i64 0, .int .i64 0, .int .i64 0, .int .i64 0, .int .i64 0, .int .i64 0, .int .i64 0, .int .i64 0])) [t 115, t 116]), 15872), (o 118 (.idx 22 1 none (t 117) (n 16)),
  32256), (c 119 91 [t 104, t 111, t 118], 65535), (fa 120 3 17, 131071), (s 1 120 119, 262143)]) (sk))] (r [m 121 14, ln 122 4 17, o 123 (.buildSl 4 1 [.int .i64 0,
  .int .i64 0, .int .i64 0, .int .i64 0] [(0, 4, .tmp 122)]), o 124 (.app 4 32 (t 121) (t 123)), m 14 124]))] (r [ar 125 .add (t 61) (n 1), m 61 125])))),
  r [m 126 14, m 8 126]] (.ret)⟩
theorem A48_ok : XOk Tryz.prog ITS 48 A48 := ⟨Tryz.f48, Tryz.func48, by kernel_rfl, by decide, by kernel_rfl, its_nil (by kernel_rfl)⟩

/- (*widgetry/layout.scene).place -/
def A50 : AFn := ⟨181, [.tmp 6], q [r [o 3 (.box (t 0)), mv 6 (.const (.nilsl))], r [l 25 3, o 26 (.nilchk (t 25)), fa 27 5 26, l 28 27, m 29 1, o 30 (.xo (.mapget (.one (.int .i64)) false (.agg [.int .i64 0,
  .int .i64 0, .int .i64 0, .int .i64 0, .int .i64 0, .int .i64 0, .int .i64 0, .int .i64 0, .int .i64 0, .int .i64 0, .int .i64 0, .int .i64 0, .int .i64 0,
  .int .i64 0, .int .i64 0, .int .i64 0, .int .i64 0, .int .i64 0, .int .i64 0, .int .i64 0, .int .i64 0, .int .i64 0])) [t 28, t 29]), o 7 (.new [.int .i64 0,
  .int .i64 0, .int .i64 0, .int .i64 0, .int .i64 0, .int .i64 0, .int .i64 0, .int .i64 0, .int .i64 0, .int .i64 0, .int .i64 0, .int .i64 0, .int .i64 0,
  .int .i64 0, .int .i64 0, .int .i64 0, .int .i64 0, .int .i64 0, .int .i64 0, .int .i64 0, .int .i64 0, .int .i64 0]), s 22 7 30], r [l 31 3, o 32 (.nilchk (t 31)),
  fa 33 6 32, l 34 33, m 35 1, o 36 (.xo (.mapget (.one (.int .i64)) false (.nilsl)) [t 34, t 35]), o 8 (.new [.nilsl]), s 1 8 36], q [r [l 37 8, le 38 37,
  ar 39 .gtr (t 38) (n 32)]] (.cond (t 39) (q [r [l 40 8, le 41 40, o 42 (.mksl 4 32 [.int .i64 0, .int .i64 0, .int .i64 0, .int .i64 0] (t 41) (t 41)),
  m 6 42]] (.ret)) (sk)), r [l 43 3, m 44 1, m 45 2, c 46 92 [t 43, t 44, t 45], m 9 46], r [l 47 3, m 48 1, m 49 9, c 50 93 [t 47, t 48, t 49], m 10 50],
  r [o 11 (.new [.nilsl])], r [o 51 (.mkf (.func 102) [] [t 11]), m 12 51], q [r [l 52 8, le 53 52, mv 54 (n 0)]] (.block 0 (.loop (q [r [ar 55 .lss (t 54) (t 53)],
  .cond (t 55) (sk) (.exit 0), .block 1 (q [r [m 56 54, ia 57 1 52 (t 54), l 58 57, o 13 (.new [.int .i64 0]), o 14 (.new [.int .i64 0]), s 1 13 56, s 1 14 58],
  r [o 59 (.mkf (.func 103) [] [t 3, t 14, t 8, t 13]), m 15 59], q [r [m 60 15, o 61 (.call (t 60) [.const (.str [108, 101, 102, 116])]), m 16 61], r [m 62 16,
  ar 63 .geq (t 62) (n 0)]] (.cond (t 63) (d [(m 64 12, 0), (l 65 13, 0), (ar 66 .mul (n 2) (t 65), 2), (m 67 16, 0), (ar 68 .mul (n 2) (t 67), 8), (m 69 9,
  0), (m 70 16, 0), (ia 71 1 69 (t 70), 96), (l 72 71, 224), (o 73 (.idxArrA 22 1 (t 7) (n 9)), 0), (l 74 73, 512), (ar 75 .add (t 72) (t 74), 2016), (o 76 (.call (t 64) [t 66,
  t 68, n 0, t 75, n 1]), 4095)]) (sk)), q [r [m 77 15, o 78 (.call (t 77) [.const (.str [97, 98, 111, 118, 101])]), m 17 78], r [m 79 17, ar 80 .geq (t 79) (n 0)]] (.cond (t 80) (d [(m 81 12,
  0), (l 82 13, 0), (ar 83 .mul (n 2) (t 82), 2), (ar 84 .add (t 83) (n 1), 6), (m 85 17, 0), (ar 86 .mul (n 2) (t 85), 16), (ar 87 .add (t 86) (n 1), 48),
  (m 88 10, 0), (m 89 17, 0), (ia 90 1 88 (t 89), 384), (l 91 90, 896), (o 92 (.idxArrA 22 1 (t 7) (n 9)), 0), (l 93 92, 2048), (ar 94 .add (t 91) (t 93),
  8064), (o 95 (.call (t 81) [t 84, t 87, n 0, t 94, n 1]), 16383)]) (sk)), q [r [m 96 15, o 97 (.call (t 96) [.const (.str [97, 108, 105, 103, 110, 108,
  101, 102, 116])]), m 18 97], r [m 98 18, ar 99 .geq (t 98) (n 0)]] (.cond (t 99) (r [m 100 12, l 101 13, ar 102 .mul (n 2) (t 101), m 103 18, ar 104 .mul (n 2) (t 103),
  o 105 (.call (t 100) [t 102, t 104, n 2, n 0, n 2])]) (sk)), q [r [m 106 15, o 107 (.call (t 106) [.const (.str [97, 108, 105, 103, 110, 116, 111, 112])]),
  m 19 107], r [m 108 19, ar 109 .geq (t 108) (n 0)]] (.cond (t 109) (r [m 110 12, l 111 13, ar 112 .mul (n 2) (t 111), ar 113 .add (t 112) (n 1), m 114 19,
  ar 115 .mul (n 2) (t 114), ar 116 .add (t 115) (n 1), o 117 (.call (t 110) [t 113, t 116, n 2, n 0, n 2])]) (sk))] (d [(m 118 12, 0), (l 119 13, 0), (ar 120 .mul (n 2) (t 119),
  2), (m 121 2, 0), (m 122 9, 0), (l 123 13, 0), (ia 124 1 122 (t 123), 48), (l 125 124, 112), (ar 126 .sub (t 121) (t 125), 248), (o 127 (.call (t 118) [t 120,
  n (-1), n 1, t 126, n 3]), 511)]))] (r [ar 128 .add (t 54) (n 1), m 54 128])))), r [l 130 8, le 131 130, ar 132 .mul (n 2) (t 131), l 133 11, c 134 106 [t 132,
  t 133], m 129 134, ex 135 129 0, ex 136 129 1, o 20 (.new [.int .i64 0, .nilsl, .nilsl, .nilsl]), s 4 20 135, m 21 136], r [mv 22 (.const (.nilsl))], q [r [l 137 8,
  le 138 137, mv 139 (n 0)]] (.block 2 (.loop (q [r [ar 140 .lss (t 139) (t 138)], .cond (t 140) (sk) (.exit 2), .block 3 (q [r [m 141 139, m 23 141], d [(fa 142 3 20,
  0), (l 143 142, 1), (m 144 23, 0), (ar 145 .mul (n 2) (t 144), 4), (ia 146 1 143 (t 145), 15), (l 147 146, 31), (fa 148 3 20, 0), (l 149 148, 64), (m 150 23,
  0), (ar 151 .mul (n 2) (t 150), 256), (ar 152 .add (t 151) (n 1), 768), (ia 153 1 149 (t 152), 1984), (l 154 153, 4032), (m 155 9, 0), (m 156 23, 0), (ia 157 1 155 (t 156),
  24576), (l 158 157, 57344), (m 159 10, 0), (m 160 23, 0), (ia 161 1 159 (t 160), 393216), (l 162 161, 917504), (o 163 (.build [.int .i64 0, .int .i64 0,
  .int .i64 0, .int .i64 0] [(0, 1, .tmp 147), (1, 1, .tmp 154), (2, 1, .tmp 158), (3, 1, .tmp 162)]), 2097151), (o 24 (.new [.int .i64 0, .int .i64 0, .int .i64 0,
  .int .i64 0]), 0), (s 4 24 163, 8388607)], q [r [o 164 (.idxArrA 22 1 (t 7) (n 4)), l 165 164, ar 166 .eql (t 165) (n 1)]] (.cond (t 166) (r [m 167 2,
  fa 168 0 24, l 169 168, ar 170 .sub (t 167) (t 169), fa 171 2 24, l 172 171, ar 173 .sub (t 170) (t 172), fa 174 0 24, s 1 174 173]) (sk))] (r [m 175 22,
  ln 176 4 24, o 177 (.buildSl 4 1 [.int .i64 0, .int .i64 0, .int .i64 0, .int .i64 0] [(0, 4, .tmp 176)]), o 178 (.app 4 32 (t 175) (t 177)), m 22 178]))] (r [ar 179 .add (t 139) (n 1),
  m 139 179])))), r [m 180 22, m 6 180]] (.ret)⟩
theorem A50_ok : XOk Tryz.prog ITS 50 A50 := ⟨Tryz.f50, Tryz.func50, by kernel_rfl, by decide, by kernel_rfl, its_nil (by kernel_rfl)⟩

/- (*widgetry/layout.scene).column -/
def A51 : AFn := ⟨143, [.tmp 8], q [r [mv 8 (.const (.nilsl))], r [m 23 0, o 24 (.nilchk (t 23)), fa 25 5 24, l 26 25, m 27 1, o 28 (.xo (.mapget (.one (.int .i64)) false (.agg [.int .i64 0,
  .int .i64 0, .int .i64 0, .int .i64 0, .int .i64 0, .int .i64 0, .int .i64 0, .int .i64 0, .int .i64 0, .int .i64 0, .int .i64 0, .int .i64 0, .int .i64 0,
  .int .i64 0, .int .i64 0, .int .i64 0, .int .i64 0, .int .i64 0, .int .i64 0, .int .i64 0, .int .i64 0, .int .i64 0])) [t 26, t 27]), o 9 (.new [.int .i64 0,
  .int .i64 0, .int .i64 0, .int .i64 0, .int .i64 0, .int .i64 0, .int .i64 0, .int .i64 0, .int .i64 0, .int .i64 0, .int .i64 0, .int .i64 0, .int .i64 0,
  .int .i64 0, .int .i64 0, .int .i64 0, .int .i64 0, .int .i64 0, .int .i64 0, .int .i64 0, .int .i64 0, .int .i64 0]), s 22 9 28], r [m 29 0, m 30 1, m 31 2,
  c 32 92 [t 29, t 30, t 31], m 10 32], r [m 33 0, m 34 1, m 35 10, c 36 93 [t 33, t 34, t 35], m 11 36], r [o 37 (.idxArrA 22 1 (t 9) (n 7)), l 38 37, m 12 38],
  q [r [m 39 0, o 40 (.nilchk (t 39)), fa 41 4 40, l 42 41, m 43 1, o 44 (.xo (.mapget (.one (.int .i64)) false (.agg [.int .i64 0, .int .i64 0, .int .i64 0,
  .str [], .nilsl, .nilsl, .nilsl])) [t 42, t 43]), o 45 (.fld 2 none (t 44)), ar 46 .eql (t 45) (n 8)]] (.cond (t 46) (r [mv 12 (n 0)]) (q [r [mv 13 (.const (.nilsl))],
  q [r [m 47 0, o 48 (.nilchk (t 47)), fa 49 6 48, l 50 49, m 51 1, o 52 (.xo (.mapget (.one (.int .i64)) false (.nilsl)) [t 50, t 51]), le 53 52, mv 54 (n 0)]] (.block 0 (.loop (q [r [ar 55 .lss (t 54) (t 53)],
  .cond (t 55) (sk) (.exit 0), .block 1 (q [r [m 56 54, ia 57 1 52 (t 54), l 58 57, m 14 56, m 15 58], r [mv 16 (n 0)], q [r [m 59 0, o 60 (.nilchk (t 59)),
  fa 61 5 60, l 62 61, m 63 15, o 64 (.xo (.mapget (.one (.int .i64)) false (.agg [.int .i64 0, .int .i64 0, .int .i64 0, .int .i64 0, .int .i64 0, .int .i64 0,
  .int .i64 0, .int .i64 0, .int .i64 0, .int .i64 0, .int .i64 0, .int .i64 0, .int .i64 0, .int .i64 0, .int .i64 0, .int .i64 0, .int .i64 0, .int .i64 0,
  .int .i64 0, .int .i64 0, .int .i64 0, .int .i64 0])) [t 62, t 63]), o 65 (.idx 22 1 none (t 64) (n 12)), ar 66 .lss (t 65) (n 0)]] (.cond (t 66) (r [m 67 11,
  m 68 14, ia 69 1 67 (t 68), l 70 69, m 16 70]) (sk))] (r [m 71 13, m 72 0, m 73 15, m 74 11, m 75 14, ia 76 1 74 (t 75), l 77 76, m 78 16, c 79 107 [t 72,
  t 73, t 77, n 15, n 16, t 78], o 80 (.buildSl 5 1 [.int .i64 0, .int .i64 0, .int .i64 0, .int .i64 0, .int .i64 0] [(0, 5, .tmp 79)]), o 81 (.app 5 40 (t 71) (t 80)),
  m 13 81]))] (r [ar 82 .add (t 54) (n 1), m 54 82]))))] (r [m 84 3, o 85 (.idxArrA 22 1 (t 9) (n 9)), l 86 85, m 87 13, c 88 108 [t 84, t 86, t 87], m 83 88,
  ex 89 83 0, ex 90 83 1, m 11 89]))), r [m 91 3, o 92 (.idxArrA 22 1 (t 9) (n 9)), l 93 92, m 94 12, m 95 11, c 96 94 [t 91, t 93, t 94, t 95, ff], m 17 96],
  r [o 97 (.idxArrA 22 1 (t 9) (n 6)), l 98 97, m 18 98], q [r [m 99 18, ar 100 .eql (t 99) (n 3)]] (.cond (t 100) (r [mv 18 (n 0)]) (sk)), r [mv 19 (.const (.nilsl))],
  q [r [m 101 0, o 102 (.nilchk (t 101)), fa 103 6 102, l 104 103, m 105 1, o 106 (.xo (.mapget (.one (.int .i64)) false (.nilsl)) [t 104, t 105]), le 107 106,
  mv 108 (n 0)]] (.block 2 (.loop (q [r [ar 109 .lss (t 108) (t 107)], .cond (t 109) (sk) (.exit 2), .block 3 (q [r [m 110 108, m 20 110], d [(m 112 18,
  0), (m 113 2, 0), (m 114 10, 0), (m 115 20, 0), (ia 116 1 114 (t 115), 12), (l 117 116, 28), (o 118 (.idxArrA 22 1 (t 9) (n 4)), 0), (l 119 118, 64), (ar 120 .eql (t 119) (n 1),
  192), (c 121 97 [t 112, t 113, t 117, t 120], 511), (m 111 121, 1023), (ex 122 111 0, 2047), (ex 123 111 1, 2047), (m 21 122, 4095), (m 22 123, 16383)]] (d [(m 124 19,
  0), (m 125 21, 0), (m 126 17, 0), (m 127 20, 0), (ia 128 1 126 (t 127), 12), (l 129 128, 28), (m 130 10, 0), (m 131 20, 0), (ia 132 1 130 (t 131), 192),
  (l 133 132, 448), (m 134 11, 0), (m 135 20, 0), (ia 136 1 134 (t 135), 3072), (l 137 136, 7168), (o 138 (.build [.int .i64 0, .int .i64 0, .int .i64 0,
  .int .i64 0] [(0, 1, .tmp 125), (1, 1, .tmp 129), (2, 1, .tmp 133), (3, 1, .tmp 137)]), 16382), (o 139 (.buildSl 4 1 [.int .i64 0, .int .i64 0, .int .i64 0,
  .int .i64 0] [(0, 4, .tmp 138)]), 32766), (o 140 (.app 4 32 (t 124) (t 139)), 65535), (m 19 140, 131071)]))] (r [ar 141 .add (t 108) (n 1), m 108 141])))),
  r [m 142 19, m 8 142]] (.ret)⟩
theorem A51_ok : XOk Tryz.prog ITS 51 A51 := ⟨Tryz.f51, Tryz.func51, by kernel_rfl, by decide, by kernel_rfl, its_nil (by kernel_rfl)⟩

/- slices.insertionSortCmpFunc[widgetry/api.Box] -/
def A52 : AFn := ⟨53, [], q [r [m 10 1, ar 11 .add (t 10) (n 1), m 8 11]] (.block 0 (.loop (q [q [r [m 12 8, m 13 2, ar 14 .lss (t 12) (t 13)]] (.cond (t 14) (sk) (.exit 0)), .block 1 (q [r [m 17 8,
  m 9 17]] (.block 2 (.loop (q [q [d [(m 18 9, 0), (m 19 1, 0), (ar 20 .gtr (t 18) (t 19), 3), (m 21 20, 7), (og 22 (.mov (t 3)) 21 true, 15), (og 23 (.mov (t 0)) 21 true,
  15), (og 24 (.mov (t 9)) 21 true, 15), (og 25 (.idxA 7 (t 23) (t 24)) 21 true, 111), (og 26 (.ldn 7 (t 25)) 21 true, 239), (og 27 (.mov (t 0)) 21 true,
  15), (og 28 (.mov (t 9)) 21 true, 15), (og 29 (.arith .sub (t 28) (n 1)) 21 true, 1039), (og 30 (.idxA 7 (t 27) (t 29)) 21 true, 3599), (og 31 (.ldn 7 (t 30)) 21 true,
  7695), (og 32 (.call (t 22) [t 26, t 31]) 21 true, 16383), (og 33 (.arith .lss (t 32) (n 0)) 21 true, 32767), (o 34 (.pick (t 21) (t 33) ff), 65535)]] (.cond (t 34) (sk) (.exit 2)),
  .block 3 (d [(m 37 0, 0), (m 38 9, 0), (m 39 0, 0), (m 40 9, 0), (ar 41 .sub (t 40) (n 1), 8), (m 42 0, 0), (m 43 9, 0), (ar 44 .sub (t 43) (n 1), 64),
  (ia 45 7 42 (t 44), 224), (ln 46 7 45, 480), (m 47 0, 0), (m 48 9, 0), (ia 49 7 47 (t 48), 3072), (ln 50 7 49, 7168), (ia 51 7 37 (t 38), 16355), (s 7 51 46,
  32739), (ia 52 7 39 (t 41), 65535), (s 7 52 50, 131071)])] (r [m 35 9, ar 36 .sub (t 35) (n 1), m 9 36])))))] (r [m 15 8, ar 16 .add (t 15) (n 1), m 8 16]))))⟩
theorem A52_ok : XOk Tryz.prog ITS 52 A52 := ⟨Tryz.f52, Tryz.func52, by kernel_rfl, by decide, by kernel_rfl, its_nil (by kernel_rfl)⟩

/- slices.choosePivotCmpFunc[widgetry/api.Box] -/
def A55 : AFn := ⟨63, [.tmp 8, .tmp 9], q [r [mv 8 (n 0), mv 9 (n 0)], r [m 15 2, m 16 1, ar 17 .sub (t 15) (t 16), m 10 17], r [o 11 (.new [.int .i64 0])], r [m 18 1, m 19 10, ar 20 .quo (t 19) (n 4),
  ar 21 .mul (t 20) (n 1), ar 22 .add (t 18) (t 21), m 12 22], r [m 23 1, m 24 10, ar 25 .quo (t 24) (n 4), ar 26 .mul (t 25) (n 2), ar 27 .add (t 23) (t 26),
  m 13 27], r [m 28 1, m 29 10, ar 30 .quo (t 29) (n 4), ar 31 .mul (t 30) (n 3), ar 32 .add (t 28) (t 31), m 14 32], q [r [m 33 10, ar 34 .geq (t 33) (n 8)]] (.cond (t 34) (q [q [r [m 35 10,
  ar 36 .geq (t 35) (n 50)]] (.cond (t 36) (q [r [m 37 0, m 38 12, m 39 3, c 40 112 [t 37, t 38, t 11, t 39], m 12 40], r [m 41 0, m 42 13, m 43 3, c 44 112 [t 41,
  t 42, t 11, t 43], m 13 44]] (r [m 45 0, m 46 14, m 47 3, c 48 112 [t 45, t 46, t 11, t 47], m 14 48])) (sk))] (r [m 49 0, m 50 12, m 51 13, m 52 14, m 53 3,
  c 54 113 [t 49, t 50, t 51, t 52, t 11, t 53], m 13 54])) (sk)), r [l 55 11]] (.block 0 (q [r [ar 58 .eql (t 55) (n 0), m 57 58]] (.cond (t 57) (q [r [m 59 13,
  m 8 59, mv 9 (n 1)]] (.ret)) (q [r [ar 61 .eql (t 55) (n 12), m 60 61]] (.cond (t 60) (q [r [m 62 13, m 8 62, mv 9 (n 2)]] (.ret)) (q [r [m 56 13, m 8 56,
  mv 9 (n 0)]] (.ret)))))))⟩
theorem A55_ok : XOk Tryz.prog ITS 55 A55 := ⟨Tryz.f55, Tryz.func55, by kernel_rfl, by decide, by kernel_rfl, its_nil (by kernel_rfl)⟩

/- slices.partialInsertionSortCmpFunc[widgetry/api.Box] -/
def A57 : AFn := ⟨141, [.tmp 8], q [r [mv 8 ff], r [m 13 1, ar 14 .add (t 13) (n 1), m 9 14], q [r [mv 10 (n 0)]] (.block 0 (.loop (q [q [r [m 15 10, ar 16 .lss (t 15) (n 5)]] (.cond (t 16) (sk) (.exit 0)),
  .block 1 (q [.block 2 (.loop (q [q [d [(m 19 9, 0), (m 20 2, 0), (ar 21 .lss (t 19) (t 20), 3), (m 22 21, 7), (og 23 (.mov (t 3)) 22 true, 15), (og 24 (.mov (t 0)) 22 true,
  15), (og 25 (.mov (t 9)) 22 true, 15), (og 26 (.idxA 7 (t 24) (t 25)) 22 true, 111), (og 27 (.ldn 7 (t 26)) 22 true, 239), (og 28 (.mov (t 0)) 22 true,
  15), (og 29 (.mov (t 9)) 22 true, 15), (og 30 (.arith .sub (t 29) (n 1)) 22 true, 1039), (og 31 (.idxA 7 (t 28) (t 30)) 22 true, 3599), (og 32 (.ldn 7 (t 31)) 22 true,
  7695), (og 33 (.call (t 23) [t 27, t 32]) 22 true, 16383), (og 34 (.arith .lss (t 33) (n 0)) 22 true, 32767), (og 35 (.un .not (t 34)) 22 true, 65535),
  (o 36 (.pick (t 22) (t 35) ff), 131071)]] (.cond (t 36) (sk) (.exit 2))] (.block 3 (r [m 37 9, ar 38 .add (t 37) (n 1), m 9 38])))), q [r [m 39 9, m 40 2,
  ar 41 .eql (t 39) (t 40)]] (.cond (t 41) (q [r [mv 8 tt]] (.ret)) (sk)), q [r [m 42 2, m 43 1, ar 44 .sub (t 42) (t 43), ar 45 .lss (t 44) (n 50)]] (.cond (t 45) (q [r [mv 8 ff]] (.ret)) (sk)),
  d [(m 46 0, 0), (m 47 9, 0), (m 48 0, 0), (m 49 9, 0), (ar 50 .sub (t 49) (n 1), 8), (m 51 0, 0), (m 52 9, 0), (ar 53 .sub (t 52) (n 1), 64), (ia 54 7 51 (t 53),
  224), (ln 55 7 54, 480), (m 56 0, 0), (m 57 9, 0), (ia 58 7 56 (t 57), 3072), (ln 59 7 58, 7168), (ia 60 7 46 (t 47), 16355), (s 7 60 55, 32739), (ia 61 7 48 (t 50),
  65535), (s 7 61 59, 131071)], q [r [m 62 9, m 63 1, ar 64 .sub (t 62) (t 63), ar 65 .geq (t 64) (n 2)]] (.cond (t 65) (q [r [m 66 9, ar 67 .sub (t 66) (n 1),
  m 11 67]] (.block 4 (.loop (q [q [r [m 68 11, ar 69 .geq (t 68) (n 1)]] (.cond (t 69) (sk) (.exit 4)), .block 5 (q [q [d [(m 72 3, 0), (m 73 0, 0), (m 74 11,
  0), (ia 75 7 73 (t 74), 6), (ln 76 7 75, 14), (m 77 0, 0), (m 78 11, 0), (ar 79 .sub (t 78) (n 1), 64), (ia 80 7 77 (t 79), 224), (ln 81 7 80, 480), (o 82 (.call (t 72) [t 76,
  t 81]), 1023), (ar 83 .lss (t 82) (n 0), 2047), (o 84 (.un .not (t 83)), 4095)]] (.cond (t 84) (.exit 4) (sk))] (d [(m 85 0, 0), (m 86 11, 0), (m 87 0,
  0), (m 88 11, 0), (ar 89 .sub (t 88) (n 1), 8), (m 90 0, 0), (m 91 11, 0), (ar 92 .sub (t 91) (n 1), 64), (ia 93 7 90 (t 92), 224), (ln 94 7 93, 480),
  (m 95 0, 0), (m 96 11, 0), (ia 97 7 95 (t 96), 3072), (ln 98 7 97, 7168), (ia 99 7 85 (t 86), 16355), (s 7 99 94, 32739), (ia 100 7 87 (t 89), 65535),
  (s 7 100 98, 131071)]))] (r [m 70 11, ar 71 .sub (t 70) (n 1), m 11 71]))))) (sk)), r [m 101 2, m 102 9, ar 103 .sub (t 101) (t 102), ar 104 .geq (t 103) (n 2)]] (.cond (t 104) (q [r [m 105 9,
  ar 106 .add (t 105) (n 1), m 12 106]] (.block 6 (.loop (q [q [r [m 107 12, m 108 2, ar 109 .lss (t 107) (t 108)]] (.cond (t 109) (sk) (.exit 6)), .block 7 (q [q [d [(m 112 3,
  0), (m 113 0, 0), (m 114 12, 0), (ia 115 7 113 (t 114), 6), (ln 116 7 115, 14), (m 117 0, 0), (m 118 12, 0), (ar 119 .sub (t 118) (n 1), 64), (ia 120 7 117 (t 119),
  224), (ln 121 7 120, 480), (o 122 (.call (t 112) [t 116, t 121]), 1023), (ar 123 .lss (t 122) (n 0), 2047), (o 124 (.un .not (t 123)), 4095)]] (.cond (t 124) (.exit 6) (sk))] (d [(m 125 0,
  0), (m 126 12, 0), (m 127 0, 0), (m 128 12, 0), (ar 129 .sub (t 128) (n 1), 8), (m 130 0, 0), (m 131 12, 0), (ar 132 .sub (t 131) (n 1), 64), (ia 133 7 130 (t 132),
  224), (ln 134 7 133, 480), (m 135 0, 0), (m 136 12, 0), (ia 137 7 135 (t 136), 3072), (ln 138 7 137, 7168), (ia 139 7 125 (t 126), 16355), (s 7 139 134,
  32739), (ia 140 7 127 (t 129), 65535), (s 7 140 138, 131071)]))] (r [m 110 12, ar 111 .add (t 110) (n 1), m 12 111]))))) (sk)))] (r [m 17 10, ar 18 .add (t 17) (n 1),
  m 10 18])))), r [mv 8 ff]] (.ret)⟩
theorem A57_ok : XOk Tryz.prog ITS 57 A57 := ⟨Tryz.f57, Tryz.func57, by kernel_rfl, by decide, by kernel_rfl, its_nil (by kernel_rfl)⟩

/- slices.partitionCmpFunc[widgetry/api.Box] -/
def A59 : AFn := ⟨178, [.tmp 10, .tmp 11], q [r [mv 10 (n 0), mv 11 ff], d [(m 14 0, 0), (m 15 1, 0), (m 16 0, 0), (m 17 3, 0), (m 18 0, 0), (m 19 3, 0), (ia 20 7 18 (t 19), 48), (ln 21 7 20, 112),
  (m 22 0, 0), (m 23 1, 0), (ia 24 7 22 (t 23), 768), (ln 25 7 24, 1792), (ia 26 7 14 (t 15), 4083), (s 7 26 21, 8179), (ia 27 7 16 (t 17), 16383), (s 7 27 25,
  32767)], r [m 28 1, ar 29 .add (t 28) (n 1), m 30 2, ar 31 .sub (t 30) (n 1), m 12 29, m 13 31], .block 0 (.loop (q [q [d [(m 32 12, 0), (m 33 13, 0),
  (ar 34 .leq (t 32) (t 33), 3), (m 35 34, 7), (og 36 (.mov (t 4)) 35 true, 15), (og 37 (.mov (t 0)) 35 true, 15), (og 38 (.mov (t 12)) 35 true, 15), (og 39 (.idxA 7 (t 37) (t 38)) 35 true,
  111), (og 40 (.ldn 7 (t 39)) 35 true, 239), (og 41 (.mov (t 0)) 35 true, 15), (og 42 (.mov (t 1)) 35 true, 15), (og 43 (.idxA 7 (t 41) (t 42)) 35 true,
  1551), (og 44 (.ldn 7 (t 43)) 35 true, 3599), (og 45 (.call (t 36) [t 40, t 44]) 35 true, 8191), (og 46 (.arith .lss (t 45) (n 0)) 35 true, 16383), (o 47 (.pick (t 35) (t 46) ff),
  32767)]] (.cond (t 47) (sk) (.exit 0))] (.block 1 (r [m 48 12, ar 49 .add (t 48) (n 1), m 12 49])))), .block 2 (.loop (q [q [d [(m 50 12, 0), (m 51 13,
  0), (ar 52 .leq (t 50) (t 51), 3), (m 53 52, 7), (og 54 (.mov (t 4)) 53 true, 15), (og 55 (.mov (t 0)) 53 true, 15), (og 56 (.mov (t 13)) 53 true, 15),
  (og 57 (.idxA 7 (t 55) (t 56)) 53 true, 111), (og 58 (.ldn 7 (t 57)) 53 true, 239), (og 59 (.mov (t 0)) 53 true, 15), (og 60 (.mov (t 1)) 53 true, 15),
  (og 61 (.idxA 7 (t 59) (t 60)) 53 true, 1551), (og 62 (.ldn 7 (t 61)) 53 true, 3599), (og 63 (.call (t 54) [t 58, t 62]) 53 true, 8191), (og 64 (.arith .lss (t 63) (n 0)) 53 true,
  16383), (og 65 (.un .not (t 64)) 53 true, 32767), (o 66 (.pick (t 53) (t 65) ff), 65535)]] (.cond (t 66) (sk) (.exit 2))] (.block 3 (r [m 67 13, ar 68 .sub (t 67) (n 1),
  m 13 68])))), q [r [m 69 12, m 70 13, ar 71 .gtr (t 69) (t 70)]] (.cond (t 71) (q [d [(m 72 0, 0), (m 73 13, 0), (m 74 0, 0), (m 75 1, 0), (m 76 0, 0),
  (m 77 1, 0), (ia 78 7 76 (t 77), 48), (ln 79 7 78, 112), (m 80 0, 0), (m 81 13, 0), (ia 82 7 80 (t 81), 768), (ln 83 7 82, 1792), (ia 84 7 72 (t 73), 4083),
  (s 7 84 79, 8179), (ia 85 7 74 (t 75), 16383), (s 7 85 83, 32767)], r [m 86 13, m 10 86, mv 11 tt]] (.ret)) (sk)), d [(m 87 0, 0), (m 88 12, 0), (m 89 0,
  0), (m 90 13, 0), (m 91 0, 0), (m 92 13, 0), (ia 93 7 91 (t 92), 48), (ln 94 7 93, 112), (m 95 0, 0), (m 96 12, 0), (ia 97 7 95 (t 96), 768), (ln 98 7 97,
  1792), (ia 99 7 87 (t 88), 4083), (s 7 99 94, 8179), (ia 100 7 89 (t 90), 16383), (s 7 100 98, 32767)], r [m 101 12, ar 102 .add (t 101) (n 1), m 12 102],
  r [m 103 13, ar 104 .sub (t 103) (n 1), m 13 104], .block 4 (.loop (.block 5 (q [.block 6 (.loop (q [q [d [(m 105 12, 0), (m 106 13, 0), (ar 107 .leq (t 105) (t 106),
  3), (m 108 107, 7), (og 109 (.mov (t 4)) 108 true, 15), (og 110 (.mov (t 0)) 108 true, 15), (og 111 (.mov (t 12)) 108 true, 15), (og 112 (.idxA 7 (t 110) (t 111)) 108 true,
  111), (og 113 (.ldn 7 (t 112)) 108 true, 239), (og 114 (.mov (t 0)) 108 true, 15), (og 115 (.mov (t 1)) 108 true, 15), (og 116 (.idxA 7 (t 114) (t 115)) 108 true,
  1551), (og 117 (.ldn 7 (t 116)) 108 true, 3599), (og 118 (.call (t 109) [t 113, t 117]) 108 true, 8191), (og 119 (.arith .lss (t 118) (n 0)) 108 true,
  16383), (o 120 (.pick (t 108) (t 119) ff), 32767)]] (.cond (t 120) (sk) (.exit 6))] (.block 7 (r [m 121 12, ar 122 .add (t 121) (n 1), m 12 122])))), .block 8 (.loop (q [q [d [(m 123 12,
  0), (m 124 13, 0), (ar 125 .leq (t 123) (t 124), 3), (m 126 125, 7), (og 127 (.mov (t 4)) 126 true, 15), (og 128 (.mov (t 0)) 126 true, 15), (og 129 (.mov (t 13)) 126 true,
  15), (og 130 (.idxA 7 (t 128) (t 129)) 126 true, 111), (og 131 (.ldn 7 (t 130)) 126 true, 239), (og 132 (.mov (t 0)) 126 true, 15), (og 133 (.mov (t 1)) 126 true,
  15), (og 134 (.idxA 7 (t 132) (t 133)) 126 true, 1551), (og 135 (.ldn 7 (t 134)) 126 true, 3599), (og 136 (.call (t 127) [t 131, t 135]) 126 true, 8191),
  (og 137 (.arith .lss (t 136) (n 0)) 126 true, 16383), (og 138 (.un .not (t 137)) 126 true, 32767), (o 139 (.pick (t 126) (t 138) ff), 65535)]] (.cond (t 139) (sk) (.exit 8))] (.block 9 (r [m 140 13,
  ar 141 .sub (t 140) (n 1), m 13 141])))), q [r [m 142 12, m 143 13, ar 144 .gtr (t 142) (t 143)]] (.cond (t 144) (.exit 4) (sk)), d [(m 145 0, 0), (m 146 12,
  0), (m 147 0, 0), (m 148 13, 0), (m 149 0, 0), (m 150 13, 0), (ia 151 7 149 (t 150), 48), (ln 152 7 151, 112), (m 153 0, 0), (m 154 12, 0), (ia 155 7 153 (t 154),
  768), (ln 156 7 155, 1792), (ia 157 7 145 (t 146), 4083), (s 7 157 152, 8179), (ia 158 7 147 (t 148), 16383), (s 7 158 156, 32767)], r [m 159 12, ar 160 .add (t 159) (n 1),
  m 12 160]] (r [m 161 13, ar 162 .sub (t 161) (n 1), m 13 162])))), d [(m 163 0, 0), (m 164 13, 0), (m 165 0, 0), (m 166 1, 0), (m 167 0, 0), (m 168 1,
  0), (ia 169 7 167 (t 168), 48), (ln 170 7 169, 112), (m 171 0, 0), (m 172 13, 0), (ia 173 7 171 (t 172), 768), (ln 174 7 173, 1792), (ia 175 7 163 (t 164),
  4083), (s 7 175 170, 8179), (ia 176 7 165 (t 166), 16383), (s 7 176 174, 32767)], r [m 177 13, m 10 177, mv 11 ff]] (.ret)⟩
theorem A59_ok : XOk Tryz.prog ITS 59 A59 := ⟨Tryz.f59, Tryz.func59, by kernel_rfl, by decide, by kernel_rfl, its_nil (by kernel_rfl)⟩

/- math/bits.Len64 -/
def A61 : AFn := ⟨25, [.tmp 2], q [r [mv 2 (n 0)], q [r [m 3 0, ar 4 .geq (t 3) (.const (.int .u64 4294967296))]] (.cond (t 4) (q [r [m 5 0, ar 6 .shr (t 5) (.const (.int .u64 32)), m 0 6]] (r [mv 2 (n 32)])) (sk)),
  q [r [m 7 0, ar 8 .geq (t 7) (.const (.int .u64 65536))]] (.cond (t 8) (q [r [m 9 0, ar 10 .shr (t 9) (.const (.int .u64 16)), m 0 10]] (r [m 11 2, ar 12 .add (t 11) (n 16),
  m 2 12])) (sk)), q [r [m 13 0, ar 14 .geq (t 13) (.const (.int .u64 256))]] (.cond (t 14) (q [r [m 15 0, ar 16 .shr (t 15) (.const (.int .u64 8)), m 0 16]] (r [m 17 2,
  ar 18 .add (t 17) (n 8), m 2 18])) (sk)), r [m 19 2, m 20 0, o 21 (.convI .u8 (t 20)), o 22 (.idxS (.const (.str [0, 1, 2, 2, 3, 3, 3, 3, 4, 4, 4, 4, 4,
  4, 4, 4, 5, 5, 5, 5, 5, 5, 5, 5, 5, 5, 5, 5, 5, 5, 5, 5, 6, 6, 6, 6, 6, 6, 6, 6, 6, 6, 6, 6, 6, 6, 6, 6, 6, 6, 6, 6, 6, 6, 6, 6, 6, 6, 6, 6, 6, 6, 6, 6,
  7, 7, 7, 7, 7, 7, 7, 7, 7, 7, 7, 7, 7, 7, 7, 7, 7, 7, 7, 7, 7, 7, 7, 7, 7, 7, 7, 7, 7, 7, 7, 7, 7, 7, 7, 7, 7, 7, 7, 7, 7, 7, 7, 7, 7, 7, 7, 7, 7, 7, 7,
  7, 7, 7, 7, 7, 7, 7, 7, 7, 7, 7, 7, 7, 8, 8, 8, 8, 8, 8, 8, 8, 8, 8, 8, 8, 8, 8, 8, 8, 8, 8, 8, 8, 8, 8, 8, 8, 8, 8, 8, 8, 8, 8, 8, 8, 8, 8, 8, 8, 8, 8,
  8, 8, 8, 8, 8, 8, 8, 8, 8, 8, 8, 8, 8, 8, 8, 8, 8, 8, 8, 8, 8, 8, 8, 8, 8, 8, 8, 8, 8, 8, 8, 8, 8, 8, 8, 8, 8, 8, 8, 8, 8, 8, 8, 8, 8, 8, 8, 8, 8, 8, 8,
  8, 8, 8, 8, 8, 8, 8, 8, 8, 8, 8, 8, 8, 8, 8, 8, 8, 8, 8, 8, 8, 8, 8, 8, 8, 8, 8, 8, 8, 8, 8, 8, 8, 8, 8, 8, 8, 8, 8])) (t 21)), o 23 (.convI .i64 (t 22)),
  ar 24 .add (t 19) (t 23), m 2 24]] (.ret)⟩
theorem A61_ok : XOk Tryz.prog ITS 61 A61 := ⟨Tryz.f61, Tryz.func61, by kernel_rfl, by decide, by kernel_rfl, its_nil (by kernel_rfl)⟩

/- widgetry/widgetryref17.Validate -/
def A62 : AFn := ⟨90, [.tmp 2], q [r [o 1 (.box (t 0)), mv 2 (n 0)], q [r [fa 7 0 1, l 8 7, le 9 8, ar 10 .gtr (t 9) (n 100)]] (.cond (t 10) (q [r [mv 2 (n 2)]] (.ret)) (sk)), q [r [mv 3 (n 0)]] (.block 0 (.loop (q [q [r [m 11 3,
  fa 12 0 1, l 13 12, le 14 13, ar 15 .lss (t 11) (t 14)]] (.cond (t 15) (sk) (.exit 0)), .block 1 (q [r [fa 18 0 1, l 19 18, m 20 3, ia 21 6 19 (t 20),
  ln 22 6 21, o 4 (.new [.int .i64 0, .str [], .int .i64 0, .int .i64 0, .str [], .nilsl]), s 6 4 22], q [r [fa 23 0 4, l 24 23, ar 25 .lss (t 24) (n 0),
  m 26 25, og 27 (.fldA 0 (t 4)) 26 false, og 28 (.ld1 (t 27)) 26 false, og 29 (.arith .gtr (t 28) (n 13)) 26 false, o 30 (.pick (t 26) tt (t 29)), m 31 30,
  og 32 (.fldA 3 (t 4)) 31 false, og 33 (.ld1 (t 32)) 31 false, og 34 (.arith .lss (t 33) (n 0)) 31 false, o 35 (.pick (t 31) tt (t 34)), m 36 35, og 37 (.fldA 3 (t 4)) 36 false,
  og 38 (.ld1 (t 37)) 36 false, og 39 (.arith .gtr (t 38) (n 13)) 36 false, o 40 (.pick (t 36) tt (t 39))]] (.cond (t 40) (q [r [mv 2 (n 9)]] (.ret)) (sk)),
  q [r [fa 41 1 4, l 42 41, ar 43 .neq (t 42) (.const (.str [])), m 44 43, og 45 (.fldA 1 (t 4)) 44 true, og 46 (.ld1 (t 45)) 44 true, og 47 (.call (fn 35) [t 46]) 44 true,
  og 48 (.un .not (t 47)) 44 true, o 49 (.pick (t 44) (t 48) ff), m 50 49, og 51 (.fldA 4 (t 4)) 50 false, og 52 (.ld1 (t 51)) 50 false, og 53 (.arith .neq (t 52) (.const (.str []))) 50 false,
  og 54 (.mov (t 53)) 50 false, og 55 (.fldA 4 (t 4)) 54 true, og 56 (.ld1 (t 55)) 54 true, og 57 (.call (fn 35) [t 56]) 54 true, og 58 (.un .not (t 57)) 54 true,
  og 59 (.pick (t 54) (t 58) ff) 50 false, o 60 (.pick (t 50) tt (t 59))]] (.cond (t 60) (q [r [mv 2 (n 4)]] (.ret)) (sk)), q [r [fa 61 2 4, l 62 61, ar 63 .lss (t 62) (n 0),
  m 64 63, og 65 (.fldA 2 (t 4)) 64 false, og 66 (.ld1 (t 65)) 64 false, og 67 (.arith .gtr (t 66) (n 31)) 64 false, o 68 (.pick (t 64) tt (t 67))]] (.cond (t 68) (q [r [mv 2 (n 1)]] (.ret)) (sk)),
  q [r [fa 69 5 4, l 70 69, le 71 70, ar 72 .gtr (t 71) (n 50)]] (.cond (t 72) (q [r [mv 2 (n 2)]] (.ret)) (sk)), r [mv 5 (n 0)]] (.block 2 (.loop (q [q [r [m 73 5,
  fa 74 5 4, l 75 74, le 76 75, ar 77 .lss (t 73) (t 76)]] (.cond (t 77) (sk) (.exit 2)), .block 3 (q [d [(ln 80 6 4, 0), (fa 81 5 4, 0), (l 82 81, 2), (m 83 5,
  0), (ia 84 4 82 (t 83), 14), (ln 85 4 84, 30), (c 86 114 [t 80, t 85], 63), (m 6 86, 127)], r [m 87 6, ar 88 .neq (t 87) (n 0)]] (.cond (t 88) (q [r [m 89 6,
  m 2 89]] (.ret)) (sk)))] (r [m 78 5, ar 79 .add (t 78) (n 1), m 5 79])))))] (r [m 16 3, ar 17 .add (t 16) (n 1), m 3 17])))), r [mv 2 (n 0)]] (.ret)⟩
theorem A62_ok : XOk Tryz.prog ITS 62 A62 := ⟨Tryz.f62, Tryz.func62, by kernel_rfl, by decide, by kernel_rfl, its_nil (by kernel_rfl)⟩

/- widgetry/widgetryref16.Validate -/
def A63 : AFn := ⟨62, [.tmp 2], q [r [o 1 (.box (t 0)), mv 2 (n 0)], q [r [fa 6 0 1, l 7 6, le 8 7, ar 9 .gtr (t 8) (n 100)]] (.cond (t 9) (q [r [mv 2 (n 2)]] (.ret)) (sk)), q [r [mv 3 (n 0)]] (.block 0 (.loop (q [q [r [m 10 3,
  fa 11 0 1, l 12 11, le 13 12, ar 14 .lss (t 10) (t 13)]] (.cond (t 14) (sk) (.exit 0)), .block 1 (q [r [fa 17 0 1, l 18 17, m 19 3, ia 20 5 18 (t 19),
  ln 21 5 20, o 4 (.new [.str [], .int .i64 0, .int .i64 0, .int .i64 0, .int .i64 0]), s 5 4 21], q [r [fa 22 0 4, l 23 22, c 24 35 [t 23], o 25 (.un .not (t 24))]] (.cond (t 25) (q [r [mv 2 (n 4)]] (.ret)) (sk)),
  q [r [mv 5 (n 0)]] (.block 2 (.loop (q [q [r [m 26 5, m 27 3, ar 28 .lss (t 26) (t 27)]] (.cond (t 28) (sk) (.exit 2)), .block 3 (q [d [(fa 31 0 1, 0),
  (l 32 31, 1), (m 33 5, 0), (ia 34 5 32 (t 33), 7), (fa 35 0 34, 15), (l 36 35, 31), (fa 37 0 4, 0), (l 38 37, 64), (ar 39 .eql (t 36) (t 38), 255)]] (.cond (t 39) (q [r [mv 2 (n 6)]] (.ret)) (sk)))] (r [m 29 5,
  ar 30 .add (t 29) (n 1), m 5 30])))), r [fa 40 1 4, l 41 40, c 42 115 [t 41], o 43 (.un .not (t 42)), m 44 43, og 45 (.fldA 2 (t 4)) 44 false, og 46 (.ld1 (t 45)) 44 false,
  og 47 (.call (fn 115) [t 46]) 44 false, og 48 (.un .not (t 47)) 44 false, o 49 (.pick (t 44) tt (t 48)), m 50 49, og 51 (.fldA 3 (t 4)) 50 false, og 52 (.ld1 (t 51)) 50 false,
  og 53 (.call (fn 115) [t 52]) 50 false, og 54 (.un .not (t 53)) 50 false, o 55 (.pick (t 50) tt (t 54)), m 56 55, og 57 (.fldA 4 (t 4)) 56 false, og 58 (.ld1 (t 57)) 56 false,
  og 59 (.call (fn 115) [t 58]) 56 false, og 60 (.un .not (t 59)) 56 false, o 61 (.pick (t 56) tt (t 60))]] (.cond (t 61) (q [r [mv 2 (n 1)]] (.ret)) (sk)))] (r [m 15 3,
  ar 16 .add (t 15) (n 1), m 3 16])))), r [mv 2 (n 0)]] (.ret)⟩
theorem A63_ok : XOk Tryz.prog ITS 63 A63 := ⟨Tryz.f63, Tryz.func63, by kernel_rfl, by decide, by kernel_rfl, its_nil (by kernel_rfl)⟩
def xtr0 : XT := .node 30 (.node 16 (.node 9 (.node 6 (.node 4 (.one 3 A3) (.node 5 (.one 4 A4) (.one 5 A5))) (.node 7 (.one 6 A6) (.node 8 (.one 7 A7) (.one 8 A8)))) (.node 12 (.node 10 (.one 9 A9) (.node 11 (.one 10 A10) (.one 11 A11))) (.node 14 (.node 13 (.one 12 A12) (.one 13 A13)) (.node 15 (.one 14 A14) (.one 15 A15))))) (.node 23 (.node 19 (.node 17 (.one 16 A16) (.node 18 (.one 17 A17) (.one 18 A18))) (.node 21 (.node 20 (.one 19 A19) (.one 20 A20)) (.node 22 (.one 21 A21) (.one 22 A22)))) (.node 26 (.node 24 (.one 23 A23) (.node 25 (.one 24 A24) (.one 25 A25))) (.node 28 (.node 27 (.one 26 A26) (.one 27 A27)) (.node 29 (.one 28 A28) (.one 29 A29)))))) (.node 44 (.node 37 (.node 33 (.node 31 (.one 30 A30) (.node 32 (.one 31 A31) (.one 32 A32))) (.node 35 (.node 34 (.one 33 A33) (.one 34 A34)) (.node 36 (.one 35 A35) (.one 36 A36)))) (.node 40 (.node 38 (.one 37 A37) (.node 39 (.one 38 A38) (.one 39 A39))) (.node 42 (.node 41 (.one 40 A40) (.one 41 A41)) (.node 43 (.one 42 A42) (.one 43 A43))))) (.node 52 (.node 47 (.node 45 (.one 44 A44) (.node 46 (.one 45 A45) (.one 46 A46))) (.node 50 (.node 48 (.one 47 A47) (.one 48 A48)) (.node 51 (.one 50 A50) (.one 51 A51)))) (.node 59 (.node 55 (.one 52 A52) (.node 57 (.one 55 A55) (.one 57 A57))) (.node 62 (.node 61 (.one 59 A59) (.one 61 A61)) (.node 63 (.one 62 A62) (.one 63 A63))))))
theorem xtr0_ok : xtr0.Ok Tryz.prog ITS := ⟨⟨⟨⟨⟨A3_ok, ⟨A4_ok, A5_ok⟩⟩, ⟨A6_ok, ⟨A7_ok, A8_ok⟩⟩⟩, ⟨⟨A9_ok, ⟨A10_ok, A11_ok⟩⟩, ⟨⟨A12_ok, A13_ok⟩, ⟨A14_ok, A15_ok⟩⟩⟩⟩, ⟨⟨⟨A16_ok, ⟨A17_ok, A18_ok⟩⟩, ⟨⟨A19_ok, A20_ok⟩, ⟨A21_ok, A22_ok⟩⟩⟩, ⟨⟨A23_ok, ⟨A24_ok, A25_ok⟩⟩, ⟨⟨A26_ok, A27_ok⟩, ⟨A28_ok, A29_ok⟩⟩⟩⟩⟩, ⟨⟨⟨⟨A30_ok, ⟨A31_ok, A32_ok⟩⟩, ⟨⟨A33_ok, A34_ok⟩, ⟨A35_ok, A36_ok⟩⟩⟩, ⟨⟨A37_ok, ⟨A38_ok, A39_ok⟩⟩, ⟨⟨A40_ok, A41_ok⟩, ⟨A42_ok, A43_ok⟩⟩⟩⟩, ⟨⟨⟨A44_ok, ⟨A45_ok, A46_ok⟩⟩, ⟨⟨A47_ok, A48_ok⟩, ⟨A50_ok, A51_ok⟩⟩⟩, ⟨⟨A52_ok, ⟨A55_ok, A57_ok⟩⟩, ⟨⟨A59_ok, A61_ok⟩, ⟨A62_ok, A63_ok⟩⟩⟩⟩⟩⟩
end Go.Proofs.YtfpcmkpfdjnhnaaGreatDoor
end
