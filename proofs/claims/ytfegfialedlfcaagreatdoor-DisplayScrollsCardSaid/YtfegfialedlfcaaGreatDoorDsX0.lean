/- Functions that a run executes, as code for the kernel, first part; printed by a program of ours. -/
import Derived.Test.YtfegfialedlfcaaGreatDoorDsIts
import Derived.Test.YtfegfialedlfcaaGreatDoorProg
import Derived.KernelRfl
set_option linter.unusedSimpArgs false
set_option linter.unusedVariables false
set_option linter.unnecessarySimpa false
noncomputable section
namespace Go.Proofs.YtfegfialedlfcaaGreatDoor
open Go.Eng Go.Eng.DZ
set_option maxRecDepth 100000
/- widgetry/widgetryref14.Build -/
def A4 : AFn := ⟨27, [.cell 4 (some 3), .tmp 5], q [r [o 2 (.box (t 0)), o 4 (.new [.int .i64 0, .int .i64 0, .nilsl]), mv 5 (n 0)], q [r [ln 8 5 2, c 9 10 [t 8], m 6 9], r [m 10 6, ar 11 .neq (t 10) (n 0)]] (.cond (t 11) (q [r [o 12 (.build [.int .i64 0,
  .int .i64 0, .nilsl] []), m 13 6, s 3 4 12, m 5 13]] (.ret)) (sk)), q [r [m 14 1, ar 15 .lss (t 14) (n 1), m 16 15, og 17 (.mov (t 1)) 16 false, og 18 (.arith .gtr (t 17) (n 1099511627376)) 16 false,
  o 19 (.pick (t 16) tt (t 18))]] (.cond (t 19) (q [r [o 20 (.build [.int .i64 0, .int .i64 0, .nilsl] []), s 3 4 20, mv 5 (n 1)]] (.ret)) (sk)), r [m 21 1,
  m 22 1, o 23 (.build [.int .i64 0, .int .i64 0, .nilsl] [(0, 1, .tmp 21), (1, 1, .tmp 22)]), o 7 (.new [.int .i64 0, .int .i64 0, .nilsl]), s 3 7 23],
  r [ln 24 5 2, ln 25 3 7, c 26 11 [t 24, n 0, t 25], s 3 4 26, mv 5 (n 0)]] (.ret)⟩
theorem A4_ok : XOk Tryz.prog ITS 4 A4 := ⟨Tryz.f4, Tryz.func4, by kernel_rfl, by decide, by kernel_rfl, its_nil (by kernel_rfl)⟩

/- widgetry/widgetryref17.Cascade -/
def A5 : AFn := ⟨62, [.tmp 10, .tmp 11], q [r [o 5 (.box (t 0)), o 6 (.box (t 1)), o 7 (.box (t 2)), o 8 (.box (t 3)), mv 10 (.const (.nilsl)), mv 11 (n 0)], q [r [ln 17 1 5, ln 18 1 6, ln 19 3 7,
  ln 20 3 8, c 21 12 [t 17, t 18, t 19, t 20], m 12 21], r [m 22 12, ar 23 .neq (t 22) (n 0)]] (.cond (t 23) (q [r [m 24 12, mv 10 (.const (.nilsl)), m 11 24]] (.ret)) (sk)),
  r [mv 13 (.const (.nilsl))], r [ln 25 3 8, c 26 13 [t 25], m 14 26], q [r [mv 15 (n 0)]] (.block 0 (.loop (q [q [r [m 27 15, m 28 14, le 29 28, ar 30 .lss (t 27) (t 29)]] (.cond (t 30) (sk) (.exit 0)),
  .block 1 (q [d [(ln 33 3 8, 0), (m 34 14, 0), (m 35 15, 0), (ia 36 1 34 (t 35), 6), (l 37 36, 14), (c 38 14 [t 33, t 37], 31), (o 16 (.new [.int .i64 0,
  .int .i64 0, .int .i64 0, .str [], .nilsl, .nilsl, .nilsl]), 0), (s 7 16 38, 127)]] (d [(m 39 13, 0), (fa 40 0 16, 0), (l 41 40, 2), (ln 42 1 5, 0), (ln 43 1 6,
  0), (ln 44 3 7, 0), (ln 45 3 8, 0), (m 46 4, 0), (fa 47 0 16, 0), (l 48 47, 256), (m 49 13, 0), (fa 50 1 16, 0), (l 51 50, 2048), (c 52 16 [t 49, t 51],
  7168), (fa 53 1 16, 0), (l 54 53, 16384), (ar 55 .eql (t 54) (n 0), 49152), (c 56 15 [t 42, t 43, t 44, t 45, t 46, t 48, t 52, t 55], 131064), (o 57 (.build [.int .i64 0,
  .int .i64 0, .int .i64 0, .int .i64 0, .int .i64 0, .int .i64 0, .int .i64 0, .int .i64 0, .int .i64 0, .int .i64 0, .int .i64 0, .int .i64 0, .int .i64 0,
  .int .i64 0, .int .i64 0, .int .i64 0, .int .i64 0, .int .i64 0, .int .i64 0, .int .i64 0, .int .i64 0, .int .i64 0, .int .i64 0] [(0, 1, .tmp 41), (1,
  22, .tmp 56)]), 262142), (o 58 (.buildSl 23 1 [.int .i64 0, .int .i64 0, .int .i64 0, .int .i64 0, .int .i64 0, .int .i64 0, .int .i64 0, .int .i64 0,
  .int .i64 0, .int .i64 0, .int .i64 0, .int .i64 0, .int .i64 0, .int .i64 0, .int .i64 0, .int .i64 0, .int .i64 0, .int .i64 0, .int .i64 0, .int .i64 0,
  .int .i64 0, .int .i64 0, .int .i64 0] [(0, 23, .tmp 57)]), 524286), (o 59 (.app 23 184 (t 39) (t 58)), 1048575), (m 13 59, 2097151)]))] (r [m 31 15, ar 32 .add (t 31) (n 1),
  m 15 32])))), r [m 60 13, c 61 17 [t 60], m 10 61, mv 11 (n 0)]] (.ret)⟩
theorem A5_ok : XOk Tryz.prog ITS 5 A5 := ⟨Tryz.f5, Tryz.func5, by kernel_rfl, by decide, by kernel_rfl, its_nil (by kernel_rfl)⟩

/- widgetry/layout.Compute -/
def A6 : AFn := ⟨55, [.tmp 8, .tmp 9], q [r [o 4 (.box (t 0)), o 7 (.box (t 3)), mv 8 (.const (.nilsl)), mv 9 (n 0)], r [ln 16 3 4, m 17 1, m 18 2, ln 19 2 7, c 20 18 [t 16, t 17, t 18, t 19],
  m 15 20, ex 21 15 0, ex 22 15 1, m 10 21, m 11 22], q [r [m 23 11, ar 24 .neq (t 23) (n 0)]] (.cond (t 24) (q [r [m 25 11, mv 8 (.const (.nilsl)), m 9 25]] (.ret)) (sk)),
  r [o 12 (.new [.nilsl])], q [r [m 26 10, o 27 (.nilchk (t 26)), fa 28 7 27, l 29 28, le 30 29, ar 31 .gtr (t 30) (n 0)]] (.cond (t 31) (r [m 32 10, fa 33 0 4,
  l 34 33, fa 35 0 7, l 36 35, fa 37 1 7, l 38 37, o 39 (.build [.int .i64 0, .int .i64 0, .int .i64 0, .int .i64 0] [(2, 1, .tmp 36), (3, 1, .tmp 38)]),
  c 40 19 [t 32, t 34, t 39, t 12]]) (sk)), r [l 41 12, c 42 20 [t 41, fn 21]], q [r [l 43 12, le 44 43, mv 45 (n 0)]] (.block 0 (.loop (q [r [ar 46 .lss (t 45) (t 44)],
  .cond (t 46) (sk) (.exit 0), .block 1 (q [r [ia 47 7 43 (t 45), ln 48 7 47, o 14 (.new [.int .i64 0, .int .i64 0, .int .i64 0, .int .i64 0, .int .i64 0,
  .int .i64 0, .nilsl]), s 7 14 48], r [fa 49 1 14, ln 50 4 49, c 51 22 [t 50], ar 52 .neq (t 51) (n 0)]] (.cond (t 52) (q [r [mv 8 (.const (.nilsl)), mv 9 (n 1)]] (.ret)) (sk)))] (r [ar 53 .add (t 45) (n 1),
  m 45 53])))), r [l 54 12, m 8 54, mv 9 (n 0)]] (.ret)⟩
theorem A6_ok : XOk Tryz.prog ITS 6 A6 := ⟨Tryz.f6, Tryz.func6, by kernel_rfl, by decide, by kernel_rfl, its_nil (by kernel_rfl)⟩

/- widgetry/display.Pixel -/
def A8 : AFn := ⟨98, [.tmp 4], q [r [o 3 (.box (t 1)), mv 4 (n 0)], q [r [m 11 0, c 12 25 [t 11], ar 13 .neq (t 12) (n 0), m 14 13, og 15 (.ldn 2 (t 3)) 14 false, og 16 (.call (fn 26) [t 15]) 14 false,
  og 17 (.un .not (t 16)) 14 false, o 18 (.pick (t 14) tt (t 17))]] (.cond (t 18) (q [r [mv 4 (n (-1))]] (.ret)) (sk)), r [ln 19 2 3, o 20 (.build [.int .i64 0,
  .int .i64 0, .bool false] [(0, 2, .tmp 19), (2, 1, .const (.bool true))]), o 21 (.buildSl 3 1 [.int .i64 0, .int .i64 0, .bool false] [(0, 3, .tmp 20)]),
  m 5 21], r [mv 6 (n (-1))], q [r [m 22 0, le 23 22, mv 24 (n 0)]] (.block 0 (.loop (q [r [ar 25 .lss (t 24) (t 23)], .cond (t 25) (sk) (.exit 0), .block 1 (q [r [ia 26 22 22 (t 24),
  ln 27 22 26, o 8 (.new [.int .i64 0, .int .i64 0, .int .i64 0, .int .i64 0, .int .i64 0, .int .i64 0, .bool false, .int .i64 0, .int .i64 0, .int .i64 0,
  .int .i64 0, .str [], .int .i64 0, .int .i64 0, .int .i64 0, .int .i64 0, .int .i64 0, .int .i64 0, .int .i64 0, .int .i64 0, .int .i64 0, .nilsl]), s 22 8 27],
  r [m 28 5, m 29 5, le 30 29, ar 31 .sub (t 30) (n 1), ia 32 3 28 (t 31), ln 33 3 32, o 9 (.new [.int .i64 0, .int .i64 0, .bool false]), s 3 9 33]] (.block 2 (q [r [fa 35 0 8,
  l 36 35, ar 37 .eql (t 36) (n 1), m 34 37]] (.cond (t 34) (d [(m 38 5, 0), (fa 39 0 9, 0), (ln 40 2 39, 2), (fa 41 2 9, 0), (l 42 41, 8), (m 43 42, 24),
  (og 44 (.fldA 1 (t 8)) 43 true, 56), (og 45 (.ldn 4 (t 44)) 43 true, 120), (og 46 (.fldA 0 (t 9)) 43 true, 56), (og 47 (.ldn 2 (t 46)) 43 true, 312), (og 48 (.call (fn 27) [t 45,
  t 47]) 43 true, 1016), (o 49 (.pick (t 43) (t 48) ff), 2040), (o 50 (.build [.int .i64 0, .int .i64 0, .bool false] [(0, 2, .tmp 40), (2, 1, .tmp 49)]),
  4094), (o 51 (.buildSl 3 1 [.int .i64 0, .int .i64 0, .bool false] [(0, 3, .tmp 50)]), 8190), (o 52 (.app 3 24 (t 38) (t 51)), 16383), (m 5 52, 32767)]) (q [r [fa 54 0 8,
  l 55 54, ar 56 .eql (t 55) (n 2), m 53 56]] (.cond (t 53) (q [r [fa 57 5 8, ln 58 5 57, fa 59 0 9, ln 60 2 59, c 61 28 [t 58, t 60], o 10 (.new [.int .i64 0,
  .int .i64 0]), s 2 10 61]] (d [(m 62 5, 0), (ln 63 2 10, 0), (fa 64 2 9, 0), (l 65 64, 4), (m 66 65, 12), (og 67 (.ldn 2 (t 10)) 66 true, 28), (og 68 (.call (fn 26) [t 67]) 66 true,
  60), (o 69 (.pick (t 66) (t 68) ff), 124), (o 70 (.build [.int .i64 0, .int .i64 0, .bool false] [(0, 2, .tmp 63), (2, 1, .tmp 69)]), 254), (o 71 (.buildSl 3 1 [.int .i64 0,
  .int .i64 0, .bool false] [(0, 3, .tmp 70)]), 510), (o 72 (.app 3 24 (t 62) (t 71)), 1023), (m 5 72, 2047)])) (q [r [fa 74 0 8, l 75 74, ar 76 .eql (t 75) (n 3),
  m 73 76]] (.cond (t 73) (r [m 77 5, m 78 5, le 79 78, ar 80 .sub (t 79) (n 1), o 81 (.sl 3 (t 77) none (some (.tmp 80)) none), m 5 81]) (q [r [fa 83 2 9,
  l 84 83, m 85 84, og 86 (.ldn 22 (t 8)) 85 true, og 87 (.fldA 0 (t 9)) 85 true, og 88 (.ldn 2 (t 87)) 85 true, og 89 (.call (fn 29) [t 86, t 88]) 85 true,
  o 90 (.pick (t 85) (t 89) ff), m 82 90]] (.cond (t 82) (q [r [fa 91 10 8, l 92 91, m 6 92], r [fa 93 0 8, l 94 93, ar 95 .eql (t 94) (n 6)]] (.cond (t 95) (r [mv 6 (n 8421504)]) (sk))) (sk)))))))))))] (r [ar 96 .add (t 24) (n 1),
  m 24 96])))), r [m 97 6, m 4 97]] (.ret)⟩
theorem A8_ok : XOk Tryz.prog ITS 8 A8 := ⟨Tryz.f8, Tryz.func8, by kernel_rfl, by decide, by kernel_rfl, its_nil (by kernel_rfl)⟩

/- widgetry/widgetrylaw24.awake -/
def A9 : AFn := ⟨29, [.tmp 0], q [r [mv 0 ff], r [c 2 30 [n 0, n 0, n 10, n 10, n 1], c 3 30 [n 5, n 5, n 10, n 10, n 2], o 4 (.buildSl 22 2 [.int .i64 0, .int .i64 0, .int .i64 0, .int .i64 0,
  .int .i64 0, .int .i64 0, .bool false, .int .i64 0, .int .i64 0, .int .i64 0, .int .i64 0, .str [], .int .i64 0, .int .i64 0, .int .i64 0, .int .i64 0,
  .int .i64 0, .int .i64 0, .int .i64 0, .int .i64 0, .int .i64 0, .nilsl, .int .i64 0, .int .i64 0, .int .i64 0, .int .i64 0, .int .i64 0, .int .i64 0,
  .bool false, .int .i64 0, .int .i64 0, .int .i64 0, .int .i64 0, .str [], .int .i64 0, .int .i64 0, .int .i64 0, .int .i64 0, .int .i64 0, .int .i64 0,
  .int .i64 0, .int .i64 0, .int .i64 0, .nilsl] [(0, 22, .tmp 2), (22, 22, .tmp 3)]), m 1 4], r [m 5 1, o 6 (.build [.int .i64 0, .int .i64 0] [(0, 1, .const (.int .i64 7)),
  (1, 1, .const (.int .i64 7))]), c 7 8 [t 5, t 6], ar 8 .eql (t 7) (n 2), m 9 8, og 10 (.mov (t 1)) 9 true, og 11 (.build [.int .i64 0, .int .i64 0] [(0,
  1, .const (.int .i64 1)), (1, 1, .const (.int .i64 7))]) 9 true, og 12 (.call (fn 8) [t 10, t 11]) 9 true, og 13 (.arith .eql (t 12) (n 1)) 9 true, o 14 (.pick (t 9) (t 13) ff),
  m 15 14, og 16 (.mov (t 1)) 15 true, og 17 (.build [.int .i64 0, .int .i64 0] [(0, 1, .const (.int .i64 1)), (1, 1, .const (.int .i64 17))]) 15 true, og 18 (.call (fn 8) [t 16,
  t 17]) 15 true, og 19 (.arith .eql (t 18) (n (-1))) 15 true, o 20 (.pick (t 15) (t 19) ff), m 21 20, og 22 (.mov (t 1)) 21 true, og 23 (.mov (t 1)) 21 true,
  og 24 (.sl 22 (t 23) none (some (.const (.int .i64 1))) none) 21 true, og 25 (.call (fn 31) [t 22, t 24]) 21 true, og 26 (.len (t 25)) 21 true, og 27 (.arith .eql (t 26) (n 1)) 21 true,
  o 28 (.pick (t 21) (t 27) ff), m 0 28]] (.ret)⟩
theorem A9_ok : XOk Tryz.prog ITS 9 A9 := ⟨Tryz.f9, Tryz.func9, by kernel_rfl, by decide, by kernel_rfl, its_nil (by kernel_rfl)⟩

/- widgetry/widgetryref14.Validate -/
def A10 : AFn := ⟨11, [.tmp 2], q [r [o 1 (.box (t 0)), mv 2 (n 0)], r [ln 6 5 1, c 7 32 [t 6, n 1, n 0], m 5 7, ex 8 5 0, ex 9 5 1, m 3 8, m 4 9], r [m 10 4, m 2 10]] (.ret)⟩
theorem A10_ok : XOk Tryz.prog ITS 10 A10 := ⟨Tryz.f10, Tryz.func10, by kernel_rfl, by decide, by kernel_rfl, its_nil (by kernel_rfl)⟩

/- widgetry/widgetryref14.build -/
def A11 : AFn := ⟨63, [.cell 6 (some 3)], q [r [o 3 (.box (t 0)), o 5 (.box (t 2)), o 6 (.new [.int .i64 0, .int .i64 0, .nilsl])], r [fa 11 1 5, l 12 11, m 7 12], r [fa 13 2 5, l 14 13, le 15 14,
  m 8 15], r [fa 16 2 5, l 17 16, m 18 7, m 19 1, fa 20 0 3, l 21 20, fa 22 1 3, l 23 22, fa 24 2 3, l 25 24, fa 26 3 3, l 27 26, o 28 (.build [.int .i64 0,
  .int .i64 0, .int .i64 0, .str [], .nilsl, .nilsl, .nilsl] [(0, 1, .tmp 18), (1, 1, .tmp 19), (2, 1, .tmp 21), (3, 1, .tmp 23), (4, 1, .tmp 25), (5, 1,
  .tmp 27)]), o 29 (.buildSl 7 1 [.int .i64 0, .int .i64 0, .int .i64 0, .str [], .nilsl, .nilsl, .nilsl] [(0, 7, .tmp 28)]), o 30 (.app 7 112 (t 17) (t 29)),
  fa 31 2 5, s 1 31 30], r [fa 32 1 5, l 33 32, ar 34 .add (t 33) (n 1), fa 35 1 5, s 1 35 34], r [mv 9 (.const (.nilsl))], q [r [mv 10 (n 0)]] (.block 0 (.loop (q [q [r [m 36 10,
  fa 37 4 3, l 38 37, le 39 38, ar 40 .lss (t 36) (t 39)]] (.cond (t 40) (sk) (.exit 0)), .block 1 (q [r [m 43 9, fa 44 1 5, l 45 44, o 46 (.buildSl 1 1 [.int .i64 0] [(0,
  1, .tmp 45)]), o 47 (.app 1 8 (t 43) (t 46)), m 9 47]] (d [(fa 48 4 3, 0), (l 49 48, 1), (m 50 10, 0), (ia 51 5 49 (t 50), 7), (ln 52 5 51, 15), (m 53 7,
  0), (ln 54 3 5, 0), (c 55 11 [t 52, t 53, t 54], 127), (s 3 5 55, 255)]))] (r [m 41 10, ar 42 .add (t 41) (n 1), m 10 42])))), r [fa 56 2 5, l 57 56, m 58 8,
  m 59 9, ia 60 7 57 (t 58), fa 61 6 60, s 1 61 59], r [ln 62 3 5, s 3 6 62]] (.ret)⟩
theorem A11_ok : XOk Tryz.prog ITS 11 A11 := ⟨Tryz.f11, Tryz.func11, by kernel_rfl, by decide, by kernel_rfl, its_nil (by kernel_rfl)⟩

/- widgetry/widgetryref17.failure -/
def A12 : AFn := ⟨31, [.tmp 8], q [r [o 4 (.box (t 0)), o 5 (.box (t 1)), o 6 (.box (t 2)), o 7 (.box (t 3)), mv 8 (n 0)], q [r [ln 11 1 4, c 12 33 [t 11], m 9 12], r [m 13 9, ar 14 .neq (t 13) (n 0)]] (.cond (t 14) (q [r [m 15 9,
  m 8 15]] (.ret)) (sk)), q [r [ln 16 1 5, c 17 34 [t 16], m 10 17], r [m 18 10, ar 19 .neq (t 18) (n 0)]] (.cond (t 19) (q [r [m 20 10, m 8 20]] (.ret)) (sk)),
  q [r [fa 21 2 6, l 22 21, ar 23 .lss (t 22) (n 50), m 24 23, og 25 (.fldA 2 (t 6)) 24 false, og 26 (.ld1 (t 25)) 24 false, og 27 (.arith .gtr (t 26) (n 400)) 24 false,
  o 28 (.pick (t 24) tt (t 27))]] (.cond (t 28) (q [r [mv 8 (n 1)]] (.ret)) (sk)), r [ln 29 3 7, c 30 35 [t 29], m 8 30]] (.ret)⟩
theorem A12_ok : XOk Tryz.prog ITS 12 A12 := ⟨Tryz.f12, Tryz.func12, by kernel_rfl, by decide, by kernel_rfl, its_nil (by kernel_rfl)⟩

/- widgetry/widgetryref14.Order -/
def A13 : AFn := ⟨10, [.tmp 2], q [r [o 1 (.box (t 0)), mv 2 (.const (.nilsl))], q [r [ln 3 3 1, c 4 35 [t 3], ar 5 .neq (t 4) (n 0)]] (.cond (t 5) (q [r [mv 2 (.const (.nilsl))]] (.ret)) (sk)),
  r [ln 6 3 1, fa 7 0 1, l 8 7, c 9 36 [t 6, t 8, .const (.nilsl)], m 2 9]] (.ret)⟩
theorem A13_ok : XOk Tryz.prog ITS 13 A13 := ⟨Tryz.f13, Tryz.func13, by kernel_rfl, by decide, by kernel_rfl, its_nil (by kernel_rfl)⟩

/- widgetry/widgetryref14.Node -/
def A14 : AFn := ⟨17, [.cell 4 (some 7)], q [r [o 2 (.box (t 0)), o 4 (.new [.int .i64 0, .int .i64 0, .int .i64 0, .str [], .nilsl, .nilsl, .nilsl])], r [ln 6 3 2, m 7 1, c 8 37 [t 6, t 7], m 5 8],
  q [r [m 9 5, ar 10 .lss (t 9) (n 0)]] (.cond (t 10) (q [r [o 11 (.build [.int .i64 0, .int .i64 0, .int .i64 0, .str [], .nilsl, .nilsl, .nilsl] []), s 7 4 11]] (.ret)) (sk)),
  r [fa 12 2 2, l 13 12, m 14 5, ia 15 7 13 (t 14), ln 16 7 15, s 7 4 16]] (.ret)⟩
theorem A14_ok : XOk Tryz.prog ITS 14 A14 := ⟨Tryz.f14, Tryz.func14, by kernel_rfl, by decide, by kernel_rfl, its_nil (by kernel_rfl)⟩

/- widgetry/widgetryref17.compute -/
def A15 : AFn := ⟨155, [.cell 16 (some 22)], q [r [o 8 (.box (t 0)), o 9 (.box (t 1)), o 10 (.box (t 2)), o 11 (.box (t 3)), o 14 (.box (t 6)), o 16 (.new [.int .i64 0, .int .i64 0, .int .i64 0, .int .i64 0,
  .int .i64 0, .int .i64 0, .int .i64 0, .int .i64 0, .int .i64 0, .int .i64 0, .int .i64 0, .int .i64 0, .int .i64 0, .int .i64 0, .int .i64 0, .int .i64 0,
  .int .i64 0, .int .i64 0, .int .i64 0, .int .i64 0, .int .i64 0, .int .i64 0])], r [o 17 (.new [.int .i64 0, .int .i64 0, .int .i64 0, .int .i64 0, .int .i64 0,
  .int .i64 0, .int .i64 0, .int .i64 0, .int .i64 0, .int .i64 0, .int .i64 0, .int .i64 0, .int .i64 0, .int .i64 0, .int .i64 0, .int .i64 0, .int .i64 0,
  .int .i64 0, .int .i64 0, .int .i64 0, .int .i64 0, .int .i64 0])], q [r [mv 18 (n 0)]] (.block 0 (.loop (q [q [r [m 33 18, ar 34 .lss (t 33) (n 22)]] (.cond (t 34) (sk) (.exit 0)),
  .block 1 (q [r [c 37 38 [], m 38 18, o 39 (.idx 22 1 none (t 37) (t 38)), m 19 39, mv 20 ff], q [r [m 40 18, c 41 39 [t 40], m 42 41, og 43 (.mov (t 7)) 42 true,
  og 44 (.un .not (t 43)) 42 true, o 45 (.pick (t 42) (t 44) ff)]] (.cond (t 45) (r [m 46 18, o 47 (.idxArrA 22 1 (t 14) (t 46)), l 48 47, m 19 48, mv 20 tt]) (sk)),
  r [mv 21 (n (-1)), mv 22 (n (-1))], q [r [mv 23 (n 0)]] (.block 2 (.loop (q [q [r [m 49 23, fa 50 0 8, l 51 50, le 52 51, ar 53 .lss (t 49) (t 52)]] (.cond (t 53) (sk) (.exit 2)),
  .block 3 (q [r [fa 56 0 8, l 57 56, m 58 23, ia 59 6 57 (t 58), ln 60 6 59, o 24 (.new [.int .i64 0, .str [], .int .i64 0, .int .i64 0, .str [], .nilsl]),
  s 6 24 60], r [ln 62 6 24, c 63 40 [t 62], m 61 63, ex 64 61 0, ex 65 61 1, m 25 64, m 26 65], q [r [m 66 25, m 67 21, ar 68 .lss (t 66) (t 67), m 69 68,
  og 70 (.mov (t 25)) 69 false, og 71 (.mov (t 21)) 69 false, og 72 (.arith .eql (t 70) (t 71)) 69 false, og 73 (.mov (t 72)) 69 false, og 74 (.mov (t 26)) 73 true,
  og 75 (.mov (t 22)) 73 true, og 76 (.arith .lss (t 74) (t 75)) 73 true, og 77 (.pick (t 73) (t 76) ff) 69 false, o 78 (.pick (t 69) tt (t 77)), m 79 78,
  og 80 (.ldn 6 (t 24)) 79 false, og 81 (.ldn 3 (t 11)) 79 false, og 82 (.mov (t 4)) 79 false, og 83 (.mov (t 5)) 79 false, og 84 (.call (fn 41) [t 80, t 81,
  t 82, t 83]) 79 false, og 85 (.un .not (t 84)) 79 false, o 86 (.pick (t 79) tt (t 85))]] (.cond (t 86) (.exit 3) (sk)), r [mv 27 (n 0)]] (.block 4 (.loop (q [q [r [m 87 27,
  fa 88 5 24, l 89 88, le 90 89, ar 91 .lss (t 87) (t 90)]] (.cond (t 91) (sk) (.exit 4)), .block 5 (q [r [fa 94 5 24, l 95 94, m 96 27, ia 97 4 95 (t 96),
  ln 98 4 97, o 28 (.new [.int .i64 0, .int .i64 0, .int .i64 0, .str []]), s 4 28 98], q [r [fa 99 0 28, l 100 99, m 101 18, ar 102 .neq (t 100) (t 101)]] (.cond (t 102) (.exit 5) (sk)),
  r [c 103 38 [], m 104 18, o 105 (.idx 22 1 none (t 103) (t 104)), m 29 105, mv 30 ff], q [r [fa 106 1 28, l 107 106]] (.block 6 (q [r [ar 109 .eql (t 107) (n 0),
  m 108 109]] (.cond (t 108) (r [fa 110 2 28, l 111 110, m 29 111]) (q [r [ar 113 .eql (t 107) (n 1), m 112 113]] (.cond (t 112) (q [r [ln 115 1 9, ln 116 3 10,
  fa 117 3 28, l 118 117, c 119 42 [t 115, t 116, t 118], m 114 119, ex 120 114 0, ex 121 114 1, m 31 120, m 32 121], q [r [m 122 32, o 123 (.un .not (t 122)),
  m 124 123, og 125 (.mov (t 18)) 124 false, og 126 (.mov (t 31)) 124 false, og 127 (.call (fn 43) [t 125, t 126]) 124 false, og 128 (.un .not (t 127)) 124 false,
  o 129 (.pick (t 124) tt (t 128))]] (.cond (t 129) (.exit 5) (sk))] (r [m 130 31, m 29 130])) (q [r [ar 132 .eql (t 107) (n 2), m 131 132]] (.cond (t 131) (q [r [m 133 7,
  o 134 (.un .not (t 133))]] (.cond (t 134) (r [m 135 18, o 136 (.idxArrA 22 1 (t 14) (t 135)), l 137 136, m 29 137, mv 30 tt]) (sk))) (sk))))))))] (r [m 138 29,
  m 139 30, m 140 25, m 141 26, m 19 138, m 20 139, m 21 140, m 22 141]))] (r [m 92 27, ar 93 .add (t 92) (n 1), m 27 93])))))] (r [m 54 23, ar 55 .add (t 54) (n 1),
  m 23 55])))), q [r [m 142 18, ar 143 .eql (t 142) (n 2), m 144 143, og 145 (.mov (t 20)) 144 true, og 146 (.un .not (t 145)) 144 true, o 147 (.pick (t 144) (t 146) ff)]] (.cond (t 147) (r [ln 148 3 10,
  m 149 19, c 150 44 [t 148, t 149], m 19 150]) (sk))] (r [m 151 18, m 152 19, o 153 (.idxArrA 22 1 (t 17) (t 151)), s 1 153 152]))] (r [m 35 18, ar 36 .add (t 35) (n 1),
  m 18 36])))), r [ln 154 22 17, s 22 16 154]] (.ret)⟩
theorem A15_ok : XOk Tryz.prog ITS 15 A15 := ⟨Tryz.f15, Tryz.func15, by kernel_rfl, by decide, by kernel_rfl, its_nil (by kernel_rfl)⟩

/- widgetry/widgetryref17.Find -/
def A16 : AFn := ⟨25, [.cell 4 (some 22)], q [r [o 4 (.new [.int .i64 0, .int .i64 0, .int .i64 0, .int .i64 0, .int .i64 0, .int .i64 0, .int .i64 0, .int .i64 0, .int .i64 0, .int .i64 0, .int .i64 0,
  .int .i64 0, .int .i64 0, .int .i64 0, .int .i64 0, .int .i64 0, .int .i64 0, .int .i64 0, .int .i64 0, .int .i64 0, .int .i64 0, .int .i64 0])], q [r [mv 5 (n 0)]] (.block 0 (.loop (q [q [r [m 6 5,
  m 7 0, le 8 7, ar 9 .lss (t 6) (t 8)]] (.cond (t 9) (sk) (.exit 0)), .block 1 (q [r [m 12 0, m 13 5, ia 14 23 12 (t 13), fa 15 0 14, l 16 15, m 17 1, ar 18 .eql (t 16) (t 17)]] (.cond (t 18) (q [r [m 19 0,
  m 20 5, ia 21 23 19 (t 20), fa 22 1 21, ln 23 22 22, s 22 4 23]] (.ret)) (sk)))] (r [m 10 5, ar 11 .add (t 10) (n 1), m 5 11])))), r [o 24 (.build [.int .i64 0,
  .int .i64 0, .int .i64 0, .int .i64 0, .int .i64 0, .int .i64 0, .int .i64 0, .int .i64 0, .int .i64 0, .int .i64 0, .int .i64 0, .int .i64 0, .int .i64 0,
  .int .i64 0, .int .i64 0, .int .i64 0, .int .i64 0, .int .i64 0, .int .i64 0, .int .i64 0, .int .i64 0, .int .i64 0] []), s 22 4 24]] (.ret)⟩
theorem A16_ok : XOk Tryz.prog ITS 16 A16 := ⟨Tryz.f16, Tryz.func16, by kernel_rfl, by decide, by kernel_rfl, its_nil (by kernel_rfl)⟩

/- widgetry/widgetryref17.ascending -/
def A17 : AFn := ⟨49, [.tmp 2], q [r [mv 2 (.const (.nilsl))], q [r [mv 3 (n 0)]] (.block 0 (.loop (q [q [r [m 6 3, m 7 0, le 8 7, ar 9 .lss (t 6) (t 8)]] (.cond (t 9) (sk) (.exit 0)),
  .block 1 (q [r [m 12 3, m 4 12]] (.block 2 (.loop (q [q [d [(m 13 4, 0), (ar 14 .gtr (t 13) (n 0), 1), (m 15 14, 3), (og 16 (.mov (t 0)) 15 true, 7), (og 17 (.mov (t 4)) 15 true,
  7), (og 18 (.arith .sub (t 17) (n 1)) 15 true, 23), (og 19 (.idxA 23 (t 16) (t 18)) 15 true, 63), (og 20 (.fldA 0 (t 19)) 15 true, 127), (og 21 (.ld1 (t 20)) 15 true,
  255), (og 22 (.mov (t 0)) 15 true, 7), (og 23 (.mov (t 4)) 15 true, 7), (og 24 (.idxA 23 (t 22) (t 23)) 15 true, 1543), (og 25 (.fldA 0 (t 24)) 15 true,
  3591), (og 26 (.ld1 (t 25)) 15 true, 7687), (og 27 (.arith .gtr (t 21) (t 26)) 15 true, 16383), (o 28 (.pick (t 15) (t 27) ff), 32767)]] (.cond (t 28) (sk) (.exit 2)),
  .block 3 (q [r [m 31 0, m 32 4, ia 33 23 31 (t 32), ln 34 23 33, o 5 (.new [.int .i64 0, .int .i64 0, .int .i64 0, .int .i64 0, .int .i64 0, .int .i64 0,
  .int .i64 0, .int .i64 0, .int .i64 0, .int .i64 0, .int .i64 0, .int .i64 0, .int .i64 0, .int .i64 0, .int .i64 0, .int .i64 0, .int .i64 0, .int .i64 0,
  .int .i64 0, .int .i64 0, .int .i64 0, .int .i64 0, .int .i64 0]), s 23 5 34], r [m 35 0, m 36 4, m 37 0, m 38 4, ar 39 .sub (t 38) (n 1), ia 40 23 37 (t 39),
  ln 41 23 40, ia 42 23 35 (t 36), s 23 42 41]] (r [m 43 0, m 44 4, ar 45 .sub (t 44) (n 1), ln 46 23 5, ia 47 23 43 (t 45), s 23 47 46]))] (r [m 29 4, ar 30 .sub (t 29) (n 1),
  m 4 30])))))] (r [m 10 3, ar 11 .add (t 10) (n 1), m 3 11])))), r [m 48 0, m 2 48]] (.ret)⟩
theorem A17_ok : XOk Tryz.prog ITS 17 A17 := ⟨Tryz.f17, Tryz.func17, by kernel_rfl, by decide, by kernel_rfl, its_nil (by kernel_rfl)⟩

/- widgetry/layout.begin -/
def A18 : AFn := ⟨51, [.tmp 8, .tmp 9], q [r [o 4 (.box (t 0)), o 7 (.box (t 3)), mv 8 (.const (.nilptr)), mv 9 (n 0)], q [r [ln 14 3 4, m 15 1, m 16 2, ln 17 2 7, c 18 45 [t 14, t 15, t 16,
  t 17], m 10 18], r [m 19 10, ar 20 .neq (t 19) (n 0)]] (.cond (t 20) (q [r [m 21 10, mv 8 (.const (.nilptr)), m 9 21]] (.ret)) (sk)), r [ln 22 3 4, m 23 1,
  m 24 2, c 25 46 [t 22, t 23, t 24], m 11 25], q [r [m 26 11, o 27 (.nilchk (t 26)), fa 28 7 27, l 29 28, le 30 29, mv 31 (n 0)]] (.block 0 (.loop (q [r [ar 32 .lss (t 31) (t 30)],
  .cond (t 32) (sk) (.exit 0), .block 1 (q [r [ia 33 1 29 (t 31), l 34 33, m 13 34], r [m 35 11, m 36 13, c 37 47 [t 35, t 36], ar 38 .eql (t 37) (n 4),
  m 39 38, og 40 (.mov (t 11)) 39 true, og 41 (.nilchk (t 40)) 39 true, og 42 (.fldA 6 (t 41)) 39 true, og 43 (.ld1 (t 42)) 39 true, og 44 (.mov (t 13)) 39 true,
  og 45 (.xo (.mapget (.one (.int .i64)) false (.nilsl)) [t 43, t 44]) 39 true, og 46 (.len (t 45)) 39 true, og 47 (.arith .gtr (t 46) (n 32)) 39 true, o 48 (.pick (t 39) (t 47) ff)]] (.cond (t 48) (q [r [mv 8 (.const (.nilptr)),
  mv 9 (n 2)]] (.ret)) (sk)))] (r [ar 49 .add (t 31) (n 1), m 31 49])))), r [m 50 11, m 8 50, mv 9 (n 0)]] (.ret)⟩
theorem A18_ok : XOk Tryz.prog ITS 18 A18 := ⟨Tryz.f18, Tryz.func18, by kernel_rfl, by decide, by kernel_rfl, its_nil (by kernel_rfl)⟩

/- (*widgetry/layout.scene).lay -/
def A19 : AFn := ⟨93, [.cell 8 (some 7)], q [r [o 6 (.box (t 2)), o 8 (.new [.int .i64 0, .int .i64 0, .int .i64 0, .int .i64 0, .int .i64 0, .int .i64 0, .nilsl])], r [m 13 1, ln 14 4 6, fa 15 3 6,
  l 16 15, o 17 (.build [.int .i64 0, .int .i64 0, .int .i64 0, .int .i64 0, .int .i64 0, .int .i64 0, .nilsl] [(0, 1, .tmp 13), (1, 4, .tmp 14), (5, 1,
  .tmp 16)]), o 9 (.new [.int .i64 0, .int .i64 0, .int .i64 0, .int .i64 0, .int .i64 0, .int .i64 0, .nilsl]), s 7 9 17], q [r [m 18 0, o 19 (.nilchk (t 18)),
  fa 20 4 19, l 21 20, m 22 1, o 23 (.xo (.mapget (.one (.int .i64)) false (.agg [.int .i64 0, .int .i64 0, .int .i64 0, .str [], .nilsl, .nilsl, .nilsl])) [t 21,
  t 22]), o 24 (.fld 2 none (t 23)), c 25 48 [t 24]]] (.cond (t 25) (q [r [m 26 0, m 27 1, fa 28 2 6, l 29 28, c 30 49 [t 26, t 27, t 29], fa 31 6 9, s 1 31 30],
  r [fa 32 6 9, l 33 32, le 34 33, ar 35 .gtr (t 34) (n 0)]] (.cond (t 35) (d [(fa 36 6 9, 0), (l 37 36, 1), (ia 38 10 37 (n 0), 3), (fa 39 4 38, 7), (l 40 39,
  15), (fa 41 6 9, 0), (l 42 41, 32), (ia 43 10 42 (n 0), 96), (fa 44 6 43, 224), (l 45 44, 480), (ar 46 .add (t 40) (t 45), 1023), (fa 47 5 9, 2047), (s 1 47 46,
  4095)]) (sk))) (sk)), q [r [m 48 0, m 49 1, fa 50 2 6, l 51 50, fa 52 3 6, l 53 52, c 54 50 [t 48, t 49, t 51, t 53], le 55 54, mv 56 (n 0)]] (.block 0 (.loop (q [r [ar 57 .lss (t 56) (t 55)],
  .cond (t 57) (sk) (.exit 0), .block 1 (q [r [m 58 56, ia 59 4 54 (t 56), ln 60 4 59, o 11 (.new [.int .i64 0, .int .i64 0, .int .i64 0, .int .i64 0]),
  m 10 58, s 4 11 60], d [(m 61 0, 0), (m 62 0, 0), (o 63 (.nilchk (t 62)), 2), (fa 64 6 63, 6), (l 65 64, 14), (m 66 1, 0), (o 67 (.xo (.mapget (.one (.int .i64)) false (.nilsl)) [t 65,
  t 66]), 62), (m 68 10, 0), (ia 69 1 67 (t 68), 254), (l 70 69, 510), (ln 71 4 11, 0), (m 72 3, 0), (c 73 19 [t 61, t 70, t 71, t 72], 4095), (o 12 (.new [.int .i64 0,
  .int .i64 0, .int .i64 0, .int .i64 0, .int .i64 0, .int .i64 0, .nilsl]), 0), (s 7 12 73, 16383)], r [m 74 10, ar 75 .eql (t 74) (n 0)]] (.cond (t 75) (r [fa 76 1 12,
  fa 77 1 76, l 78 77, fa 79 5 12, l 80 79, ar 81 .add (t 78) (t 80), fa 82 5 9, s 1 82 81]) (sk)))] (r [ar 83 .add (t 56) (n 1), m 56 83])))), d [(m 84 3,
  0), (m 85 3, 0), (o 86 (.nilchk (t 85)), 2), (l 87 86, 6), (ln 88 7 9, 0), (o 89 (.buildSl 7 1 [.int .i64 0, .int .i64 0, .int .i64 0, .int .i64 0, .int .i64 0,
  .int .i64 0, .nilsl] [(0, 7, .tmp 88)]), 16), (o 90 (.app 7 72 (t 87) (t 89)), 62), (o 91 (.nilchk (t 84)), 127), (s 1 91 90, 255)], r [ln 92 7 9, s 7 8 92]] (.ret)⟩
theorem A19_ok : XOk Tryz.prog ITS 19 A19 := ⟨Tryz.f19, Tryz.func19, by kernel_rfl, by decide, by kernel_rfl, its_nil (by kernel_rfl)⟩

/- slices.SortFunc[[]widgetry/api.Box,widgetry/api.Box] -/
def A20 : AFn := ⟨14, [], q [r [m 5 0, le 6 5, m 4 6]] (r [m 7 0, m 8 4, m 9 4, o 10 (.convI .u64 (t 9)), c 11 52 [t 10], m 12 1, c 13 51 [t 7, n 0, t 8, t 11, t 12]])⟩
theorem A20_ok : XOk Tryz.prog ITS 20 A20 := ⟨Tryz.f20, Tryz.func20, by kernel_rfl, by decide, by kernel_rfl, its_nil (by kernel_rfl)⟩

/- widgetry/layout.Compute$1 -/
def A21 : AFn := ⟨10, [.tmp 4], q [r [o 2 (.box (t 0)), o 3 (.box (t 1)), mv 4 (n 0)], r [fa 5 0 2, l 6 5, fa 7 0 3, l 8 7, ar 9 .sub (t 6) (t 8), m 4 9]] (.ret)⟩
theorem A21_ok : XOk Tryz.prog ITS 21 A21 := ⟨Tryz.f21, Tryz.func21, by kernel_rfl, by decide, by kernel_rfl, its_nil (by kernel_rfl)⟩

/- widgetry/geometry.Validate -/
def A22 : AFn := ⟨33, [.tmp 2], q [r [o 1 (.box (t 0)), mv 2 (n 0)], q [r [fa 3 0 1, l 4 3, c 5 53 [t 4, n 1048576], o 6 (.un .not (t 5)), m 7 6, og 8 (.fldA 1 (t 1)) 7 false, og 9 (.ld1 (t 8)) 7 false,
  og 10 (.call (fn 53) [t 9, n 1048576]) 7 false, og 11 (.un .not (t 10)) 7 false, o 12 (.pick (t 7) tt (t 11)), m 13 12, og 14 (.fldA 2 (t 1)) 13 false,
  og 15 (.ld1 (t 14)) 13 false, og 16 (.arith .lss (t 15) (n 0)) 13 false, o 17 (.pick (t 13) tt (t 16)), m 18 17, og 19 (.fldA 2 (t 1)) 18 false, og 20 (.ld1 (t 19)) 18 false,
  og 21 (.arith .gtr (t 20) (n 1048576)) 18 false, o 22 (.pick (t 18) tt (t 21)), m 23 22, og 24 (.fldA 3 (t 1)) 23 false, og 25 (.ld1 (t 24)) 23 false,
  og 26 (.arith .lss (t 25) (n 0)) 23 false, o 27 (.pick (t 23) tt (t 26)), m 28 27, og 29 (.fldA 3 (t 1)) 28 false, og 30 (.ld1 (t 29)) 28 false, og 31 (.arith .gtr (t 30) (n 1048576)) 28 false,
  o 32 (.pick (t 28) tt (t 31))]] (.cond (t 32) (q [r [mv 2 (n 1)]] (.ret)) (sk)), r [mv 2 (n 0)]] (.ret)⟩
theorem A22_ok : XOk Tryz.prog ITS 22 A22 := ⟨Tryz.f22, Tryz.func22, by kernel_rfl, by decide, by kernel_rfl, its_nil (by kernel_rfl)⟩

/- widgetry/display.valid -/
def A23 : AFn := ⟨134, [.tmp 8], q [r [o 4 (.box (t 0)), mv 8 (n 0)], q [r [ln 25 3 4, c 26 54 [t 25], m 9 26], r [m 27 9, ar 28 .neq (t 27) (n 0)]] (.cond (t 28) (q [r [m 29 9, m 8 29]] (.ret)) (sk)),
  q [r [fa 30 2 4, l 31 30, m 32 1, c 33 55 [t 31, t 32, fn 56], o 34 (.un .not (t 33))]] (.cond (t 34) (q [r [mv 8 (n 7)]] (.ret)) (sk)), q [r [m 35 1,
  le 36 35, mv 37 (n 0)]] (.block 0 (.loop (q [r [ar 38 .lss (t 37) (t 36)], .cond (t 38) (sk) (.exit 0), .block 1 (q [r [ia 39 23 35 (t 37), ln 40 23 39,
  o 11 (.new [.int .i64 0, .int .i64 0, .int .i64 0, .int .i64 0, .int .i64 0, .int .i64 0, .int .i64 0, .int .i64 0, .int .i64 0, .int .i64 0, .int .i64 0,
  .int .i64 0, .int .i64 0, .int .i64 0, .int .i64 0, .int .i64 0, .int .i64 0, .int .i64 0, .int .i64 0, .int .i64 0, .int .i64 0, .int .i64 0, .int .i64 0]),
  s 23 11 40], r [fa 41 1 11, ln 42 22 41, mv 43 (n 0)]] (.block 2 (.loop (q [r [ar 44 .lss (t 43) (n 22)], .cond (t 44) (sk) (.exit 2), .block 3 (q [r [m 45 43,
  o 46 (.idx 22 1 none (t 42) (t 43)), m 12 45, m 13 46], r [m 47 12, m 48 13, c 49 57 [t 47, t 48], o 50 (.un .not (t 49))]] (.cond (t 50) (q [r [mv 8 (n 1)]] (.ret)) (sk)))] (r [ar 51 .add (t 43) (n 1),
  m 43 51])))))] (r [ar 52 .add (t 37) (n 1), m 37 52])))), q [r [m 53 3, le 54 53, mv 55 (n 0)]] (.block 4 (.loop (q [r [ar 56 .lss (t 55) (t 54)], .cond (t 56) (sk) (.exit 4),
  .block 5 (q [r [ia 57 2 53 (t 55), ln 58 2 57, o 15 (.new [.int .i64 0, .int .i64 0]), s 2 15 58], r [fa 59 1 15, l 60 59, ar 61 .lss (t 60) (n (-1099511627776)),
  m 62 61, og 63 (.fldA 1 (t 15)) 62 false, og 64 (.ld1 (t 63)) 62 false, og 65 (.arith .gtr (t 64) (n 1099511627776)) 62 false, o 66 (.pick (t 62) tt (t 65))]] (.cond (t 66) (q [r [mv 8 (n 1)]] (.ret)) (sk)))] (r [ar 67 .add (t 55) (n 1),
  m 55 67])))), q [r [m 68 2, le 69 68, mv 70 (n 0)]] (.block 6 (.loop (q [r [ar 71 .lss (t 70) (t 69)], .cond (t 71) (sk) (.exit 6), .block 7 (q [r [ia 72 7 68 (t 70),
  ln 73 7 72, o 17 (.new [.int .i64 0, .int .i64 0, .int .i64 0, .int .i64 0, .int .i64 0, .int .i64 0, .nilsl]), s 7 17 73], r [fa 74 1 17, ln 75 4 74,
  c 76 22 [t 75], ar 77 .neq (t 76) (n 0)]] (.cond (t 77) (q [r [mv 8 (n 1)]] (.ret)) (sk)))] (r [ar 78 .add (t 70) (n 1), m 70 78])))), r [o 79 (.xo .mkmap []),
  m 18 79], q [r [m 80 2, le 81 80, mv 82 (n 0)]] (.block 8 (.loop (q [r [ar 83 .lss (t 82) (t 81)], .cond (t 83) (sk) (.exit 8), .block 9 (q [r [ia 84 7 80 (t 82),
  ln 85 7 84, o 20 (.new [.int .i64 0, .int .i64 0, .int .i64 0, .int .i64 0, .int .i64 0, .int .i64 0, .nilsl]), s 7 20 85]] (r [m 86 18, fa 87 0 20, l 88 87,
  on (.xo (.mapset (.one (.int .i64))) [t 86, t 88, tt])]))] (r [ar 89 .add (t 82) (n 1), m 82 89])))), q [r [m 90 2, le 91 90, mv 92 (n 0)]] (.block 10 (.loop (q [r [ar 93 .lss (t 92) (t 91)],
  .cond (t 93) (sk) (.exit 10), .block 11 (q [r [m 94 92, ia 95 7 90 (t 92), ln 96 7 95, o 22 (.new [.int .i64 0, .int .i64 0, .int .i64 0, .int .i64 0,
  .int .i64 0, .int .i64 0, .nilsl]), m 21 94, s 7 22 96], r [ln 98 3 4, fa 99 0 22, l 100 99, c 101 58 [t 98, t 100], m 97 101, ex 102 97 0, ex 103 97 1,
  o 23 (.new [.int .i64 0, .int .i64 0, .int .i64 0, .str [], .nilsl, .nilsl, .nilsl]), s 7 23 102, m 24 103], d [(m 104 24, 0), (o 105 (.un .not (t 104)),
  1), (m 106 105, 3), (og 107 (.mov (t 21)) 106 false, 7), (og 108 (.arith .gtr (t 107) (n 0)) 106 false, 15), (og 109 (.mov (t 108)) 106 false, 31), (og 110 (.mov (t 2)) 109 true,
  63), (og 111 (.mov (t 21)) 109 true, 63), (og 112 (.arith .sub (t 111) (n 1)) 109 true, 191), (og 113 (.idxA 7 (t 110) (t 112)) 109 true, 511), (og 114 (.fldA 0 (t 113)) 109 true,
  1023), (og 115 (.ld1 (t 114)) 109 true, 2047), (og 116 (.fldA 0 (t 22)) 109 true, 63), (og 117 (.ld1 (t 116)) 109 true, 4159), (og 118 (.arith .geq (t 115) (t 117)) 109 true,
  16383), (og 119 (.pick (t 109) (t 118) ff) 106 false, 32767), (o 120 (.pick (t 106) tt (t 119)), 65535), (m 121 120, 131071), (og 122 (.fldA 1 (t 23)) 121 false,
  262143), (og 123 (.ld1 (t 122)) 121 false, 524287), (og 124 (.arith .neq (t 123) (n 0)) 121 false, 1048575), (og 125 (.mov (t 124)) 121 false, 2097151),
  (og 126 (.mov (t 18)) 125 true, 4194303), (og 127 (.fldA 1 (t 23)) 125 true, 4194303), (og 128 (.ld1 (t 127)) 125 true, 12582911), (og 129 (.xo (.mapget (.one (.int .i64)) false (.bool false)) [t 126,
  t 128]) 125 true, 33554431), (og 130 (.un .not (t 129)) 125 true, 67108863), (og 131 (.pick (t 125) (t 130) ff) 121 false, 134217727), (o 132 (.pick (t 121) tt (t 131)),
  268435455)]] (.cond (t 132) (q [r [mv 8 (n 12)]] (.ret)) (sk)))] (r [ar 133 .add (t 92) (n 1), m 92 133])))), r [mv 8 (n 0)]] (.ret)⟩
theorem A23_ok : XOk Tryz.prog ITS 23 A23 := ⟨Tryz.f23, Tryz.func23, by kernel_rfl, by decide, by kernel_rfl, its_nil (by kernel_rfl)⟩

/- widgetry/display.Validate -/
def A25 : AFn := ⟨114, [.tmp 2], q [r [mv 2 (n 0)], q [r [m 9 0, le 10 9, ar 11 .gtr (t 10) (n 20000)]] (.cond (t 11) (q [r [mv 2 (n 2)]] (.ret)) (sk)), r [o 12 (.build [.int .i64 0, .bool false,
  .int .i64 0, .int .i64 0, .int .i64 0] [(2, 1, .const (.int .i64 1))]), o 13 (.build [.int .i64 0, .bool false, .int .i64 0, .int .i64 0, .int .i64 0] [(0,
  5, .tmp 12)]), o 14 (.buildSl 5 1 [.int .i64 0, .bool false, .int .i64 0, .int .i64 0, .int .i64 0] [(0, 5, .tmp 13)]), m 3 14], q [r [m 15 0, le 16 15,
  mv 17 (n 0)]] (.block 0 (.loop (q [r [ar 18 .lss (t 17) (t 16)], .cond (t 18) (sk) (.exit 0), .block 1 (q [r [ia 19 22 15 (t 17), ln 20 22 19, o 5 (.new [.int .i64 0,
  .int .i64 0, .int .i64 0, .int .i64 0, .int .i64 0, .int .i64 0, .bool false, .int .i64 0, .int .i64 0, .int .i64 0, .int .i64 0, .str [], .int .i64 0,
  .int .i64 0, .int .i64 0, .int .i64 0, .int .i64 0, .int .i64 0, .int .i64 0, .int .i64 0, .int .i64 0, .nilsl]), s 22 5 20], r [m 21 3, m 22 3, le 23 22,
  ar 24 .sub (t 23) (n 1), ia 25 5 21 (t 24), fa 26 0 25, ln 27 5 26, o 6 (.new [.int .i64 0, .bool false, .int .i64 0, .int .i64 0, .int .i64 0]), s 5 6 27]] (.block 2 (q [r [fa 29 0 5,
  l 30 29, ar 31 .lss (t 30) (n 1), m 32 31, og 33 (.fldA 0 (t 5)) 32 false, og 34 (.ld1 (t 33)) 32 false, og 35 (.arith .gtr (t 34) (n 6)) 32 false, o 36 (.pick (t 32) tt (t 35)),
  m 28 36]] (.cond (t 28) (q [r [mv 2 (n 9)]] (.ret)) (q [q [r [fa 38 0 5, l 39 38, c 40 62 [t 39], m 41 40, og 42 (.fldA 1 (t 5)) 41 true, og 43 (.ldn 4 (t 42)) 41 true,
  og 44 (.call (fn 22) [t 43]) 41 true, og 45 (.arith .neq (t 44) (n 0)) 41 true, o 46 (.pick (t 41) (t 45) ff), m 37 46]] (.cond (t 37) (sk) (r [fa 47 0 5,
  l 48 47, ar 49 .eql (t 48) (n 4), m 50 49, og 51 (.fldA 0 (t 5)) 50 false, og 52 (.ld1 (t 51)) 50 false, og 53 (.arith .eql (t 52) (n 5)) 50 false, o 54 (.pick (t 50) tt (t 53)),
  m 55 54, og 56 (.fldA 10 (t 5)) 55 true, og 57 (.ld1 (t 56)) 55 true, og 58 (.call (fn 63) [t 57]) 55 true, og 59 (.un .not (t 58)) 55 true, o 60 (.pick (t 55) (t 59) ff),
  m 37 60]))] (.cond (t 37) (q [r [mv 2 (n 1)]] (.ret)) (q [r [fa 62 0 5, l 63 62, ar 64 .eql (t 63) (n 5), m 65 64, og 66 (.fldA 12 (t 5)) 65 true, og 67 (.ldn 10 (t 66)) 65 true,
  og 68 (.call (fn 64) [t 67]) 65 true, og 69 (.un .not (t 68)) 65 true, o 70 (.pick (t 65) (t 69) ff), m 61 70]] (.cond (t 61) (q [r [mv 2 (n 1)]] (.ret)) (q [r [fa 72 0 5,
  l 73 72, ar 74 .eql (t 73) (n 1), m 71 74]] (.cond (t 71) (r [m 75 3, ln 76 5 6, o 77 (.build [.int .i64 0, .bool false, .int .i64 0, .int .i64 0, .int .i64 0] [(0,
  5, .tmp 76)]), o 78 (.buildSl 5 1 [.int .i64 0, .bool false, .int .i64 0, .int .i64 0, .int .i64 0] [(0, 5, .tmp 77)]), o 79 (.app 5 40 (t 75) (t 78)),
  m 3 79]) (q [r [fa 81 0 5, l 82 81, ar 83 .eql (t 82) (n 2), m 80 83]] (.cond (t 80) (q [r [ln 85 5 6, fa 86 5 5, ln 87 5 86, c 88 65 [t 85, t 87], m 84 88,
  ex 89 84 0, ex 90 84 1, o 7 (.new [.int .i64 0, .bool false, .int .i64 0, .int .i64 0, .int .i64 0]), s 5 7 89, m 8 90], q [r [m 91 8, ar 92 .neq (t 91) (n 0)]] (.cond (t 92) (q [r [mv 2 (n 1)]] (.ret)) (sk))] (r [m 93 3,
  ln 94 5 7, o 95 (.build [.int .i64 0, .bool false, .int .i64 0, .int .i64 0, .int .i64 0] [(0, 5, .tmp 94)]), o 96 (.buildSl 5 1 [.int .i64 0, .bool false,
  .int .i64 0, .int .i64 0, .int .i64 0] [(0, 5, .tmp 95)]), o 97 (.app 5 40 (t 93) (t 96)), m 3 97])) (q [r [fa 99 0 5, l 100 99, ar 101 .eql (t 100) (n 3),
  m 98 101]] (.cond (t 98) (q [q [r [m 102 3, le 103 102, ar 104 .eql (t 103) (n 1)]] (.cond (t 104) (q [r [mv 2 (n 12)]] (.ret)) (sk))] (r [m 105 3, m 106 3,
  le 107 106, ar 108 .sub (t 107) (n 1), o 109 (.sl 5 (t 105) none (some (.tmp 108)) none), m 3 109])) (sk)))))))))))))))] (r [ar 110 .add (t 17) (n 1),
  m 17 110])))), q [r [m 111 3, le 112 111, ar 113 .gtr (t 112) (n 1)]] (.cond (t 113) (q [r [mv 2 (n 12)]] (.ret)) (sk)), r [mv 2 (n 0)]] (.ret)⟩
theorem A25_ok : XOk Tryz.prog ITS 25 A25 := ⟨Tryz.f25, Tryz.func25, by kernel_rfl, by decide, by kernel_rfl, its_nil (by kernel_rfl)⟩

/- widgetry/display.point -/
def A26 : AFn := ⟨21, [.tmp 2], q [r [o 1 (.box (t 0)), mv 2 ff], r [fa 3 0 1, l 4 3, ar 5 .geq (t 4) (n (-2097152)), m 6 5, og 7 (.fldA 0 (t 1)) 6 true, og 8 (.ld1 (t 7)) 6 true, og 9 (.arith .leq (t 8) (n 2097152)) 6 true,
  o 10 (.pick (t 6) (t 9) ff), m 11 10, og 12 (.fldA 1 (t 1)) 11 true, og 13 (.ld1 (t 12)) 11 true, og 14 (.arith .geq (t 13) (n (-2097152))) 11 true, o 15 (.pick (t 11) (t 14) ff),
  m 16 15, og 17 (.fldA 1 (t 1)) 16 true, og 18 (.ld1 (t 17)) 16 true, og 19 (.arith .leq (t 18) (n 2097152)) 16 true, o 20 (.pick (t 16) (t 19) ff), m 2 20]] (.ret)⟩
theorem A26_ok : XOk Tryz.prog ITS 26 A26 := ⟨Tryz.f26, Tryz.func26, by kernel_rfl, by decide, by kernel_rfl, its_nil (by kernel_rfl)⟩

/- widgetry/geometry.Contains -/
def A27 : AFn := ⟨39, [.tmp 4], q [r [o 2 (.box (t 0)), o 3 (.box (t 1)), mv 4 ff], r [ln 5 4 2, c 6 66 [t 5], s 4 2 6], r [fa 7 0 2, l 8 7, fa 9 0 3, l 10 9, ar 11 .leq (t 8) (t 10),
  m 12 11, og 13 (.fldA 0 (t 3)) 12 true, og 14 (.ld1 (t 13)) 12 true, og 15 (.fldA 0 (t 2)) 12 true, og 16 (.ld1 (t 15)) 12 true, og 17 (.fldA 2 (t 2)) 12 true,
  og 18 (.ld1 (t 17)) 12 true, og 19 (.arith .add (t 16) (t 18)) 12 true, og 20 (.arith .lss (t 14) (t 19)) 12 true, o 21 (.pick (t 12) (t 20) ff), m 22 21,
  og 23 (.fldA 1 (t 2)) 22 true, og 24 (.ld1 (t 23)) 22 true, og 25 (.fldA 1 (t 3)) 22 true, og 26 (.ld1 (t 25)) 22 true, og 27 (.arith .leq (t 24) (t 26)) 22 true,
  o 28 (.pick (t 22) (t 27) ff), m 29 28, og 30 (.fldA 1 (t 3)) 29 true, og 31 (.ld1 (t 30)) 29 true, og 32 (.fldA 1 (t 2)) 29 true, og 33 (.ld1 (t 32)) 29 true,
  og 34 (.fldA 3 (t 2)) 29 true, og 35 (.ld1 (t 34)) 29 true, og 36 (.arith .add (t 33) (t 35)) 29 true, og 37 (.arith .lss (t 31) (t 36)) 29 true, o 38 (.pick (t 29) (t 37) ff),
  m 4 38]] (.ret)⟩
theorem A27_ok : XOk Tryz.prog ITS 27 A27 := ⟨Tryz.f27, Tryz.func27, by kernel_rfl, by decide, by kernel_rfl, its_nil (by kernel_rfl)⟩

/- widgetry/display.covers -/
def A29 : AFn := ⟨37, [.tmp 4], q [r [o 2 (.box (t 0)), o 3 (.box (t 1)), mv 4 ff], q [r [fa 6 1 2, ln 7 4 6, ln 8 2 3, c 9 27 [t 7, t 8], o 10 (.un .not (t 9))]] (.cond (t 10) (q [r [mv 4 ff]] (.ret)) (sk)),
  q [r [fa 11 0 2, l 12 11, ar 13 .neq (t 12) (n 5)]] (.cond (t 13) (q [r [fa 14 0 2, l 15 14, ar 16 .eql (t 15) (n 4), m 17 16, og 18 (.fldA 0 (t 2)) 17 false,
  og 19 (.ld1 (t 18)) 17 false, og 20 (.arith .eql (t 19) (n 6)) 17 false, o 21 (.pick (t 17) tt (t 20)), m 4 21]] (.ret)) (sk)), r [fa 22 0 3, l 23 22,
  fa 24 1 2, fa 25 0 24, l 26 25, ar 27 .sub (t 23) (t 26), fa 28 12 2, fa 29 3 28, l 30 29, ar 31 .add (t 27) (t 30), o 5 (.new [.int .i64 0]), s 1 5 31],
  r [fa 32 12 2, fa 33 9 32, l 34 33, o 35 (.mkf (.func 70) [] [t 5]), c 36 69 [t 34, t 35], m 4 36]] (.ret)⟩
theorem A29_ok : XOk Tryz.prog ITS 29 A29 := ⟨Tryz.f29, Tryz.func29, by kernel_rfl, by decide, by kernel_rfl, its_nil (by kernel_rfl)⟩

/- widgetry/widgetrylaw24.fill -/
def A30 : AFn := ⟨18, [.cell 10 (some 22)], q [r [o 10 (.new [.int .i64 0, .int .i64 0, .int .i64 0, .int .i64 0, .int .i64 0, .int .i64 0, .bool false, .int .i64 0, .int .i64 0, .int .i64 0, .int .i64 0,
  .str [], .int .i64 0, .int .i64 0, .int .i64 0, .int .i64 0, .int .i64 0, .int .i64 0, .int .i64 0, .int .i64 0, .int .i64 0, .nilsl])], r [m 11 0, m 12 1,
  m 13 2, m 14 3, o 15 (.build [.int .i64 0, .int .i64 0, .int .i64 0, .int .i64 0] [(0, 1, .tmp 11), (1, 1, .tmp 12), (2, 1, .tmp 13), (3, 1, .tmp 14)]),
  m 16 4, o 17 (.build [.int .i64 0, .int .i64 0, .int .i64 0, .int .i64 0, .int .i64 0, .int .i64 0, .bool false, .int .i64 0, .int .i64 0, .int .i64 0,
  .int .i64 0, .str [], .int .i64 0, .int .i64 0, .int .i64 0, .int .i64 0, .int .i64 0, .int .i64 0, .int .i64 0, .int .i64 0, .int .i64 0, .nilsl] [(0,
  1, .const (.int .i64 4)), (1, 4, .tmp 15), (10, 1, .tmp 16)]), s 22 10 17]] (.ret)⟩
theorem A30_ok : XOk Tryz.prog ITS 30 A30 := ⟨Tryz.f30, Tryz.func30, by kernel_rfl, by decide, by kernel_rfl, its_nil (by kernel_rfl)⟩

/- widgetry/display.Damage -/
def A31 : AFn := ⟨86, [.tmp 4], q [r [mv 4 (.const (.nilsl))], r [m 15 0, m 16 1, c 17 71 [t 15, t 16], m 5 17], q [r [m 18 5, le 19 18, ar 20 .eql (t 19) (n 0)]] (.cond (t 20) (q [r [mv 4 (.const (.nilsl))]] (.ret)) (sk)),
  q [r [m 21 0, c 22 25 [t 21], ar 23 .neq (t 22) (n 0), m 24 23, og 25 (.mov (t 1)) 24 false, og 26 (.call (fn 25) [t 25]) 24 false, og 27 (.arith .neq (t 26) (n 0)) 24 false,
  o 28 (.pick (t 24) tt (t 27))]] (.cond (t 28) (q [r [c 29 72 [], m 4 29]] (.ret)) (sk)), r [m 30 5, ia 31 3 30 (n 0), ln 32 3 31, o 6 (.new [.int .i64 0,
  .int .i64 0, .nilsl]), s 3 6 32], r [mv 7 (fn 73)], d [(fa 33 0 6, 0), (l 34 33, 1), (fa 35 0 6, 0), (l 36 35, 4), (fa 37 1 6, 0), (l 38 37, 16), (ar 39 .add (t 36) (t 38),
  60), (fa 40 0 6, 0), (l 41 40, 128), (fa 42 2 6, 0), (l 43 42, 512), (le 44 43, 1536), (ar 45 .add (t 41) (t 44), 3968), (m 8 34, 3), (m 9 39, 8319), (m 10 45,
  32767)], q [r [m 46 0, m 47 8, m 48 9, o 49 (.sl 22 (t 46) (some (.tmp 47)) (some (.tmp 48)) none), m 50 7, c 51 74 [t 49, t 50], m 52 51, og 53 (.fldA 2 (t 6)) 52 false,
  og 54 (.ld1 (t 53)) 52 false, og 55 (.mov (t 7)) 52 false, og 56 (.call (fn 74) [t 54, t 55]) 52 false, o 57 (.pick (t 52) tt (t 56))]] (.cond (t 57) (r [m 58 0,
  le 59 58, m 60 1, le 61 60, mv 8 (n 0), m 9 59, m 10 61]) (sk)), r [m 63 0, m 64 8, m 65 9, c 66 75 [t 63, t 64, t 65], m 62 66, ex 67 62 0, ex 68 62 1,
  m 11 67, m 12 68], r [m 70 1, m 71 8, m 72 10, c 73 75 [t 70, t 71, t 72], m 69 73, ex 74 69 0, ex 75 69 1, m 13 74, m 14 75], q [r [m 76 12, o 77 (.un .not (t 76)),
  m 78 77, og 79 (.mov (t 14)) 78 false, og 80 (.un .not (t 79)) 78 false, o 81 (.pick (t 78) tt (t 80))]] (.cond (t 81) (q [r [c 82 72 [], m 4 82]] (.ret)) (sk)),
  r [m 83 11, m 84 13, o 85 (.app 4 32 (t 83) (t 84)), m 4 85]] (.ret)⟩
theorem A31_ok : XOk Tryz.prog ITS 31 A31 := ⟨Tryz.f31, Tryz.func31, by kernel_rfl, by decide, by kernel_rfl, its_nil (by kernel_rfl)⟩

/- widgetry/widgetryref14.validate -/
def A32 : AFn := ⟨230, [.tmp 6, .tmp 7], q [r [o 3 (.box (t 0)), mv 6 (n 0), mv 7 (n 0)], r [m 19 2, ar 20 .add (t 19) (n 1), m 2 20], q [r [m 21 1, ar 22 .gtr (t 21) (n 16)]] (.cond (t 22) (q [r [m 23 2,
  m 6 23, mv 7 (n 8)]] (.ret)) (sk)), q [r [m 24 2, ar 25 .gtr (t 24) (n 400)]] (.cond (t 25) (q [r [m 26 2, m 6 26, mv 7 (n 2)]] (.ret)) (sk)), q [r [fa 27 0 3,
  l 28 27, ar 29 .lss (t 28) (n 1), m 30 29, og 31 (.fldA 0 (t 3)) 30 false, og 32 (.ld1 (t 31)) 30 false, og 33 (.arith .gtr (t 32) (n 13)) 30 false, o 34 (.pick (t 30) tt (t 33))]] (.cond (t 34) (q [r [m 35 2,
  m 6 35, mv 7 (n 9)]] (.ret)) (sk)), q [r [fa 36 1 3, l 37 36, c 38 76 [t 37], o 39 (.un .not (t 38))]] (.cond (t 39) (q [r [m 40 2, m 6 40, mv 7 (n 4)]] (.ret)) (sk)),
  q [r [fa 41 2 3, l 42 41, le 43 42, ar 44 .gtr (t 43) (n 24), m 45 44, og 46 (.fldA 3 (t 3)) 45 false, og 47 (.ld1 (t 46)) 45 false, og 48 (.len (t 47)) 45 false,
  og 49 (.arith .gtr (t 48) (n 24)) 45 false, o 50 (.pick (t 45) tt (t 49)), m 51 50, og 52 (.fldA 4 (t 3)) 51 false, og 53 (.ld1 (t 52)) 51 false, og 54 (.len (t 53)) 51 false,
  og 55 (.arith .gtr (t 54) (n 100)) 51 false, o 56 (.pick (t 51) tt (t 55))]] (.cond (t 56) (q [r [m 57 2, m 6 57, mv 7 (n 2)]] (.ret)) (sk)), q [r [mv 8 (n 0)]] (.block 0 (.loop (q [q [r [m 58 8,
  fa 59 2 3, l 60 59, le 61 60, ar 62 .lss (t 58) (t 61)]] (.cond (t 62) (sk) (.exit 0)), .block 1 (q [q [r [fa 65 2 3, l 66 65, m 67 8, ia 68 5 66 (t 67),
  fa 69 0 68, l 70 69, c 71 77 [t 70], o 72 (.un .not (t 71))]] (.cond (t 72) (q [r [m 73 2, m 6 73, mv 7 (n 4)]] (.ret)) (sk)), q [d [(m 74 8, 0), (ar 75 .gtr (t 74) (n 0),
  1), (m 76 75, 3), (og 77 (.fldA 2 (t 3)) 76 true, 7), (og 78 (.ld1 (t 77)) 76 true, 15), (og 79 (.mov (t 8)) 76 true, 7), (og 80 (.idxA 5 (t 78) (t 79)) 76 true,
  63), (og 81 (.fldA 0 (t 80)) 76 true, 127), (og 82 (.ld1 (t 81)) 76 true, 255), (og 83 (.fldA 2 (t 3)) 76 true, 7), (og 84 (.ld1 (t 83)) 76 true, 519),
  (og 85 (.mov (t 8)) 76 true, 7), (og 86 (.arith .sub (t 85) (n 1)) 76 true, 2055), (og 87 (.idxA 5 (t 84) (t 86)) 76 true, 7687), (og 88 (.fldA 0 (t 87)) 76 true,
  15879), (og 89 (.ld1 (t 88)) 76 true, 32263), (og 90 (.arith .leq (t 82) (t 89)) 76 true, 65535), (o 91 (.pick (t 76) (t 90) ff), 131071)]] (.cond (t 91) (q [r [m 92 2,
  m 6 92, mv 7 (n 10)]] (.ret)) (sk)), r [fa 93 2 3, l 94 93, m 95 8, ia 96 5 94 (t 95), fa 97 1 96, ln 98 4 97, c 99 78 [t 98], m 9 99], r [m 100 9, ar 101 .neq (t 100) (n 0)]] (.cond (t 101) (q [r [m 102 2,
  m 103 9, m 6 102, m 7 103]] (.ret)) (sk)))] (r [m 63 8, ar 64 .add (t 63) (n 1), m 8 64])))), q [r [mv 10 (n 0)]] (.block 2 (.loop (q [q [r [m 104 10,
  fa 105 3 3, l 106 105, le 107 106, ar 108 .lss (t 104) (t 107)]] (.cond (t 108) (sk) (.exit 2)), .block 3 (q [r [fa 111 3 3, l 112 111, m 113 10, ia 114 4 112 (t 113),
  ln 115 4 114, o 11 (.new [.str [], .str [], .str [], .nilsl]), s 4 11 115], q [r [fa 116 0 11, l 117 116, c 118 77 [t 117], o 119 (.un .not (t 118)), m 120 119,
  og 121 (.fldA 2 (t 11)) 120 false, og 122 (.ld1 (t 121)) 120 false, og 123 (.call (fn 77) [t 122]) 120 false, og 124 (.un .not (t 123)) 120 false, o 125 (.pick (t 120) tt (t 124))]] (.cond (t 125) (q [r [m 126 2,
  m 6 126, mv 7 (n 4)]] (.ret)) (sk)), q [d [(m 127 10, 0), (ar 128 .gtr (t 127) (n 0), 1), (m 129 128, 3), (og 130 (.fldA 0 (t 11)) 129 true, 7), (og 131 (.ld1 (t 130)) 129 true,
  15), (og 132 (.fldA 3 (t 3)) 129 true, 7), (og 133 (.ld1 (t 132)) 129 true, 39), (og 134 (.mov (t 10)) 129 true, 7), (og 135 (.arith .sub (t 134) (n 1)) 129 true,
  135), (og 136 (.idxA 4 (t 133) (t 135)) 129 true, 487), (og 137 (.fldA 0 (t 136)) 129 true, 999), (og 138 (.ld1 (t 137)) 129 true, 2023), (og 139 (.arith .leq (t 131) (t 138)) 129 true,
  4095), (o 140 (.pick (t 129) (t 139) ff), 8191)]] (.cond (t 140) (q [r [m 141 2, m 6 141, mv 7 (n 10)]] (.ret)) (sk)), q [r [fa 142 1 11, l 143 142, o 144 (.lenS (t 143)),
  ar 145 .gtr (t 144) (n 400), m 146 145, og 147 (.fldA 3 (t 11)) 146 false, og 148 (.ld1 (t 147)) 146 false, og 149 (.len (t 148)) 146 false, og 150 (.arith .gtr (t 149) (n 100)) 146 false,
  o 151 (.pick (t 146) tt (t 150))]] (.cond (t 151) (q [r [m 152 2, m 6 152, mv 7 (n 2)]] (.ret)) (sk)), r [mv 12 (n 0)]] (.block 4 (.loop (q [q [r [m 153 12,
  fa 154 3 11, l 155 154, le 156 155, ar 157 .lss (t 153) (t 156)]] (.cond (t 157) (sk) (.exit 4)), .block 5 (q [r [fa 160 3 11, l 161 160, m 162 12, ia 163 4 161 (t 162),
  ln 164 4 163, c 165 78 [t 164], m 13 165], r [m 166 13, ar 167 .neq (t 166) (n 0)]] (.cond (t 167) (q [r [m 168 2, m 169 13, m 6 168, m 7 169]] (.ret)) (sk)))] (r [m 158 12,
  ar 159 .add (t 158) (n 1), m 12 159])))))] (r [m 109 10, ar 110 .add (t 109) (n 1), m 10 110])))), q [r [mv 14 (n 0)]] (.block 6 (.loop (q [q [r [m 170 14,
  fa 171 4 3, l 172 171, le 173 172, ar 174 .lss (t 170) (t 173)]] (.cond (t 174) (sk) (.exit 6)), .block 7 (q [r [mv 15 (n 0)]] (.block 8 (.loop (q [q [r [m 177 15,
  m 178 14, ar 179 .lss (t 177) (t 178)]] (.cond (t 179) (sk) (.exit 8)), .block 9 (q [d [(fa 182 4 3, 0), (l 183 182, 1), (m 184 14, 0), (ia 185 5 183 (t 184),
  7), (fa 186 1 185, 15), (l 187 186, 31), (ar 188 .neq (t 187) (.const (.str [])), 63), (m 189 188, 127), (og 190 (.fldA 4 (t 3)) 189 true, 255), (og 191 (.ld1 (t 190)) 189 true,
  511), (og 192 (.mov (t 14)) 189 true, 255), (og 193 (.idxA 5 (t 191) (t 192)) 189 true, 2047), (og 194 (.fldA 1 (t 193)) 189 true, 4095), (og 195 (.ld1 (t 194)) 189 true,
  8191), (og 196 (.fldA 4 (t 3)) 189 true, 255), (og 197 (.ld1 (t 196)) 189 true, 16639), (og 198 (.mov (t 15)) 189 true, 255), (og 199 (.idxA 5 (t 197) (t 198)) 189 true,
  114943), (og 200 (.fldA 1 (t 199)) 189 true, 246015), (og 201 (.ld1 (t 200)) 189 true, 508159), (og 202 (.arith .eql (t 195) (t 201)) 189 true, 1048575),
  (o 203 (.pick (t 189) (t 202) ff), 2097151)]] (.cond (t 203) (q [r [m 204 2, m 6 204, mv 7 (n 6)]] (.ret)) (sk)))] (r [m 180 15, ar 181 .add (t 180) (n 1),
  m 15 181])))))] (r [m 175 14, ar 176 .add (t 175) (n 1), m 14 176])))), q [r [mv 16 (n 0)]] (.block 10 (.loop (q [q [r [m 205 16, fa 206 4 3, l 207 206,
  le 208 207, ar 209 .lss (t 205) (t 208)]] (.cond (t 209) (sk) (.exit 10)), .block 11 (q [r [fa 213 4 3, l 214 213, m 215 16, ia 216 5 214 (t 215), ln 217 5 216,
  m 218 1, ar 219 .add (t 218) (n 1), m 220 2, c 221 32 [t 217, t 219, t 220], m 212 221, ex 222 212 0, ex 223 212 1, m 17 222, m 18 223], r [m 224 17, m 2 224],
  r [m 225 18, ar 226 .neq (t 225) (n 0)]] (.cond (t 226) (q [r [m 227 2, m 228 18, m 6 227, m 7 228]] (.ret)) (sk)))] (r [m 210 16, ar 211 .add (t 210) (n 1),
  m 16 211])))), r [m 229 2, m 6 229, mv 7 (n 0)]] (.ret)⟩
theorem A32_ok : XOk Tryz.prog ITS 32 A32 := ⟨Tryz.f32, Tryz.func32, by kernel_rfl, by decide, by kernel_rfl, its_nil (by kernel_rfl)⟩

/- widgetry/widgetryref17.Validate -/
def A33 : AFn := ⟨90, [.tmp 2], q [r [o 1 (.box (t 0)), mv 2 (n 0)], q [r [fa 7 0 1, l 8 7, le 9 8, ar 10 .gtr (t 9) (n 100)]] (.cond (t 10) (q [r [mv 2 (n 2)]] (.ret)) (sk)), q [r [mv 3 (n 0)]] (.block 0 (.loop (q [q [r [m 11 3,
  fa 12 0 1, l 13 12, le 14 13, ar 15 .lss (t 11) (t 14)]] (.cond (t 15) (sk) (.exit 0)), .block 1 (q [r [fa 18 0 1, l 19 18, m 20 3, ia 21 6 19 (t 20),
  ln 22 6 21, o 4 (.new [.int .i64 0, .str [], .int .i64 0, .int .i64 0, .str [], .nilsl]), s 6 4 22], q [r [fa 23 0 4, l 24 23, ar 25 .lss (t 24) (n 0),
  m 26 25, og 27 (.fldA 0 (t 4)) 26 false, og 28 (.ld1 (t 27)) 26 false, og 29 (.arith .gtr (t 28) (n 13)) 26 false, o 30 (.pick (t 26) tt (t 29)), m 31 30,
  og 32 (.fldA 3 (t 4)) 31 false, og 33 (.ld1 (t 32)) 31 false, og 34 (.arith .lss (t 33) (n 0)) 31 false, o 35 (.pick (t 31) tt (t 34)), m 36 35, og 37 (.fldA 3 (t 4)) 36 false,
  og 38 (.ld1 (t 37)) 36 false, og 39 (.arith .gtr (t 38) (n 13)) 36 false, o 40 (.pick (t 36) tt (t 39))]] (.cond (t 40) (q [r [mv 2 (n 9)]] (.ret)) (sk)),
  q [r [fa 41 1 4, l 42 41, ar 43 .neq (t 42) (.const (.str [])), m 44 43, og 45 (.fldA 1 (t 4)) 44 true, og 46 (.ld1 (t 45)) 44 true, og 47 (.call (fn 77) [t 46]) 44 true,
  og 48 (.un .not (t 47)) 44 true, o 49 (.pick (t 44) (t 48) ff), m 50 49, og 51 (.fldA 4 (t 4)) 50 false, og 52 (.ld1 (t 51)) 50 false, og 53 (.arith .neq (t 52) (.const (.str []))) 50 false,
  og 54 (.mov (t 53)) 50 false, og 55 (.fldA 4 (t 4)) 54 true, og 56 (.ld1 (t 55)) 54 true, og 57 (.call (fn 77) [t 56]) 54 true, og 58 (.un .not (t 57)) 54 true,
  og 59 (.pick (t 54) (t 58) ff) 50 false, o 60 (.pick (t 50) tt (t 59))]] (.cond (t 60) (q [r [mv 2 (n 4)]] (.ret)) (sk)), q [r [fa 61 2 4, l 62 61, ar 63 .lss (t 62) (n 0),
  m 64 63, og 65 (.fldA 2 (t 4)) 64 false, og 66 (.ld1 (t 65)) 64 false, og 67 (.arith .gtr (t 66) (n 31)) 64 false, o 68 (.pick (t 64) tt (t 67))]] (.cond (t 68) (q [r [mv 2 (n 1)]] (.ret)) (sk)),
  q [r [fa 69 5 4, l 70 69, le 71 70, ar 72 .gtr (t 71) (n 50)]] (.cond (t 72) (q [r [mv 2 (n 2)]] (.ret)) (sk)), r [mv 5 (n 0)]] (.block 2 (.loop (q [q [r [m 73 5,
  fa 74 5 4, l 75 74, le 76 75, ar 77 .lss (t 73) (t 76)]] (.cond (t 77) (sk) (.exit 2)), .block 3 (q [d [(ln 80 6 4, 0), (fa 81 5 4, 0), (l 82 81, 2), (m 83 5,
  0), (ia 84 4 82 (t 83), 14), (ln 85 4 84, 30), (c 86 79 [t 80, t 85], 63), (m 6 86, 127)], r [m 87 6, ar 88 .neq (t 87) (n 0)]] (.cond (t 88) (q [r [m 89 6,
  m 2 89]] (.ret)) (sk)))] (r [m 78 5, ar 79 .add (t 78) (n 1), m 5 79])))))] (r [m 16 3, ar 17 .add (t 16) (n 1), m 3 17])))), r [mv 2 (n 0)]] (.ret)⟩
theorem A33_ok : XOk Tryz.prog ITS 33 A33 := ⟨Tryz.f33, Tryz.func33, by kernel_rfl, by decide, by kernel_rfl, its_nil (by kernel_rfl)⟩

/- widgetry/widgetryref16.Validate -/
def A34 : AFn := ⟨62, [.tmp 2], q [r [o 1 (.box (t 0)), mv 2 (n 0)], q [r [fa 6 0 1, l 7 6, le 8 7, ar 9 .gtr (t 8) (n 100)]] (.cond (t 9) (q [r [mv 2 (n 2)]] (.ret)) (sk)), q [r [mv 3 (n 0)]] (.block 0 (.loop (q [q [r [m 10 3,
  fa 11 0 1, l 12 11, le 13 12, ar 14 .lss (t 10) (t 13)]] (.cond (t 14) (sk) (.exit 0)), .block 1 (q [r [fa 17 0 1, l 18 17, m 19 3, ia 20 5 18 (t 19),
  ln 21 5 20, o 4 (.new [.str [], .int .i64 0, .int .i64 0, .int .i64 0, .int .i64 0]), s 5 4 21], q [r [fa 22 0 4, l 23 22, c 24 77 [t 23], o 25 (.un .not (t 24))]] (.cond (t 25) (q [r [mv 2 (n 4)]] (.ret)) (sk)),
  q [r [mv 5 (n 0)]] (.block 2 (.loop (q [q [r [m 26 5, m 27 3, ar 28 .lss (t 26) (t 27)]] (.cond (t 28) (sk) (.exit 2)), .block 3 (q [d [(fa 31 0 1, 0),
  (l 32 31, 1), (m 33 5, 0), (ia 34 5 32 (t 33), 7), (fa 35 0 34, 15), (l 36 35, 31), (fa 37 0 4, 0), (l 38 37, 64), (ar 39 .eql (t 36) (t 38), 255)]] (.cond (t 39) (q [r [mv 2 (n 6)]] (.ret)) (sk)))] (r [m 29 5,
  ar 30 .add (t 29) (n 1), m 5 30])))), r [fa 40 1 4, l 41 40, c 42 80 [t 41], o 43 (.un .not (t 42)), m 44 43, og 45 (.fldA 2 (t 4)) 44 false, og 46 (.ld1 (t 45)) 44 false,
  og 47 (.call (fn 80) [t 46]) 44 false, og 48 (.un .not (t 47)) 44 false, o 49 (.pick (t 44) tt (t 48)), m 50 49, og 51 (.fldA 3 (t 4)) 50 false, og 52 (.ld1 (t 51)) 50 false,
  og 53 (.call (fn 80) [t 52]) 50 false, og 54 (.un .not (t 53)) 50 false, o 55 (.pick (t 50) tt (t 54)), m 56 55, og 57 (.fldA 4 (t 4)) 56 false, og 58 (.ld1 (t 57)) 56 false,
  og 59 (.call (fn 80) [t 58]) 56 false, og 60 (.un .not (t 59)) 56 false, o 61 (.pick (t 56) tt (t 60))]] (.cond (t 61) (q [r [mv 2 (n 1)]] (.ret)) (sk)))] (r [m 15 3,
  ar 16 .add (t 15) (n 1), m 3 16])))), r [mv 2 (n 0)]] (.ret)⟩
theorem A34_ok : XOk Tryz.prog ITS 34 A34 := ⟨Tryz.f34, Tryz.func34, by kernel_rfl, by decide, by kernel_rfl, its_nil (by kernel_rfl)⟩

/- widgetry/widgetryref14.Check -/
def A35 : AFn := ⟨11, [.tmp 2], q [r [o 1 (.box (t 0)), mv 2 (n 0)], q [r [ln 3 3 1, c 4 81 [t 3], o 5 (.un .not (t 4))]] (.cond (t 5) (q [r [mv 2 (n 12)]] (.ret)) (sk)), r [ln 6 3 1,
  fa 7 0 1, l 8 7, c 9 82 [t 6, t 8], c 10 10 [t 9], m 2 10]] (.ret)⟩
theorem A35_ok : XOk Tryz.prog ITS 35 A35 := ⟨Tryz.f35, Tryz.func35, by kernel_rfl, by decide, by kernel_rfl, its_nil (by kernel_rfl)⟩
def xtr0 : XT := .node 19 (.node 12 (.node 8 (.node 5 (.one 4 A4) (.node 6 (.one 5 A5) (.one 6 A6))) (.node 10 (.node 9 (.one 8 A8) (.one 9 A9)) (.node 11 (.one 10 A10) (.one 11 A11)))) (.node 15 (.node 13 (.one 12 A12) (.node 14 (.one 13 A13) (.one 14 A14))) (.node 17 (.node 16 (.one 15 A15) (.one 16 A16)) (.node 18 (.one 17 A17) (.one 18 A18))))) (.node 27 (.node 22 (.node 20 (.one 19 A19) (.node 21 (.one 20 A20) (.one 21 A21))) (.node 25 (.node 23 (.one 22 A22) (.one 23 A23)) (.node 26 (.one 25 A25) (.one 26 A26)))) (.node 32 (.node 30 (.node 29 (.one 27 A27) (.one 29 A29)) (.node 31 (.one 30 A30) (.one 31 A31))) (.node 34 (.node 33 (.one 32 A32) (.one 33 A33)) (.node 35 (.one 34 A34) (.one 35 A35)))))
theorem xtr0_ok : xtr0.Ok Tryz.prog ITS := ⟨⟨⟨⟨A4_ok, ⟨A5_ok, A6_ok⟩⟩, ⟨⟨A8_ok, A9_ok⟩, ⟨A10_ok, A11_ok⟩⟩⟩, ⟨⟨A12_ok, ⟨A13_ok, A14_ok⟩⟩, ⟨⟨A15_ok, A16_ok⟩, ⟨A17_ok, A18_ok⟩⟩⟩⟩, ⟨⟨⟨A19_ok, ⟨A20_ok, A21_ok⟩⟩, ⟨⟨A22_ok, A23_ok⟩, ⟨A25_ok, A26_ok⟩⟩⟩, ⟨⟨⟨A27_ok, A29_ok⟩, ⟨A30_ok, A31_ok⟩⟩, ⟨⟨A32_ok, A33_ok⟩, ⟨A34_ok, A35_ok⟩⟩⟩⟩⟩
end Go.Proofs.YtfegfialedlfcaaGreatDoor
end
