/- Functions of the program as data, second quarter. -/
import Derived.Test.YtfpcmkpfdjnhnaaGreatDoorZlIts
import Derived.Test.YtfpcmkpfdjnhnaaGreatDoorProg
import Derived.KernelRfl
set_option linter.unusedSimpArgs false
set_option linter.unusedVariables false
set_option linter.unnecessarySimpa false
noncomputable section
namespace Go.Proofs.YtfpcmkpfdjnhnaaGreatDoor
open Go.Eng Go.Eng.DZ
set_option maxRecDepth 100000
/- widgetry/widgetryref14.Check -/
def A64 : AFn := ⟨11, [.tmp 2], q [r [o 1 (.box (t 0)), mv 2 (n 0)], q [r [ln 3 3 1, c 4 116 [t 3], o 5 (.un .not (t 4))]] (.cond (t 5) (q [r [mv 2 (n 12)]] (.ret)) (sk)), r [ln 6 3 1,
  fa 7 0 1, l 8 7, c 9 117 [t 6, t 8], c 10 9 [t 9], m 2 10]] (.ret)⟩
theorem A64_ok : XOk Tryz.prog ITS 64 A64 := ⟨Tryz.f64, Tryz.func64, by kernel_rfl, by decide, by kernel_rfl, its_nil (by kernel_rfl)⟩

/- widgetry/widgetryref14.order -/
def A65 : AFn := ⟨32, [.tmp 6], q [r [o 3 (.box (t 0)), mv 6 (.const (.nilsl))], r [m 9 2, m 10 1, o 11 (.buildSl 1 1 [.int .i64 0] [(0, 1, .tmp 10)]), o 12 (.app 1 8 (t 9) (t 11)), m 2 12],
  r [ln 13 3 3, m 14 1, c 15 30 [t 13, t 14], o 7 (.new [.int .i64 0, .int .i64 0, .int .i64 0, .str [], .nilsl, .nilsl, .nilsl]), s 7 7 15], q [r [mv 8 (n 0)]] (.block 0 (.loop (q [q [r [m 16 8,
  fa 17 6 7, l 18 17, le 19 18, ar 20 .lss (t 16) (t 19)]] (.cond (t 20) (sk) (.exit 0)), .block 1 (d [(ln 23 3 3, 0), (fa 24 6 7, 0), (l 25 24, 2), (m 26 8,
  0), (ia 27 1 25 (t 26), 14), (l 28 27, 30), (m 29 2, 0), (c 30 65 [t 23, t 28, t 29], 127), (m 2 30, 255)])] (r [m 21 8, ar 22 .add (t 21) (n 1), m 8 22])))),
  r [m 31 2, m 6 31]] (.ret)⟩
theorem A65_ok : XOk Tryz.prog ITS 65 A65 := ⟨Tryz.f65, Tryz.func65, by kernel_rfl, by decide, by kernel_rfl, its_nil (by kernel_rfl)⟩

/- widgetry/widgetryref14.Index -/
def A66 : AFn := ⟨22, [.tmp 4], q [r [o 2 (.box (t 0)), mv 4 (n 0)], q [r [mv 5 (n 0)]] (.block 0 (.loop (q [q [r [m 6 5, fa 7 2 2, l 8 7, le 9 8, ar 10 .lss (t 6) (t 9)]] (.cond (t 10) (sk) (.exit 0)),
  .block 1 (q [r [fa 13 2 2, l 14 13, m 15 5, ia 16 7 14 (t 15), fa 17 0 16, l 18 17, m 19 1, ar 20 .eql (t 18) (t 19)]] (.cond (t 20) (q [r [m 21 5, m 4 21]] (.ret)) (sk)))] (r [m 11 5,
  ar 12 .add (t 11) (n 1), m 5 12])))), r [mv 4 (n (-1))]] (.ret)⟩
theorem A66_ok : XOk Tryz.prog ITS 66 A66 := ⟨Tryz.f66, Tryz.func66, by kernel_rfl, by decide, by kernel_rfl, its_nil (by kernel_rfl)⟩

/- widgetry/widgetryref17.Initial -/
def A67 : AFn := ⟨11, [.cell 0 (some 22)], q [r [o 0 (.new [.int .i64 0, .int .i64 0, .int .i64 0, .int .i64 0, .int .i64 0, .int .i64 0, .int .i64 0, .int .i64 0, .int .i64 0, .int .i64 0, .int .i64 0,
  .int .i64 0, .int .i64 0, .int .i64 0, .int .i64 0, .int .i64 0, .int .i64 0, .int .i64 0, .int .i64 0, .int .i64 0, .int .i64 0, .int .i64 0])], r [o 1 (.new [.int .i64 0,
  .int .i64 0, .int .i64 0, .int .i64 0, .int .i64 0, .int .i64 0, .int .i64 0, .int .i64 0, .int .i64 0, .int .i64 0, .int .i64 0, .int .i64 0, .int .i64 0,
  .int .i64 0, .int .i64 0, .int .i64 0, .int .i64 0, .int .i64 0, .int .i64 0, .int .i64 0, .int .i64 0, .int .i64 0])], r [o 2 (.idxArrA 22 1 (t 1) (n 1)),
  sv 1 2 (n (-1))], r [o 3 (.idxArrA 22 1 (t 1) (n 2)), sv 1 3 (n 16)], r [o 4 (.idxArrA 22 1 (t 1) (n 5)), sv 1 4 (n 1)], r [o 5 (.idxArrA 22 1 (t 1) (n 6)),
  sv 1 5 (n 3)], r [o 6 (.idxArrA 22 1 (t 1) (n 11)), sv 1 6 (n 1)], r [o 7 (.idxArrA 22 1 (t 1) (n 12)), sv 1 7 (n (-1))], r [o 8 (.idxArrA 22 1 (t 1) (n 14)),
  sv 1 8 (n 1048576)], r [o 9 (.idxArrA 22 1 (t 1) (n 16)), sv 1 9 (n 1048576)], r [ln 10 22 1, s 22 0 10]] (.ret)⟩
theorem A67_ok : XOk Tryz.prog ITS 67 A67 := ⟨Tryz.f67, Tryz.func67, by kernel_rfl, by decide, by kernel_rfl, its_nil (by kernel_rfl)⟩

/- widgetry/widgetryref17.Inherited -/
def A68 : AFn := ⟨11, [.tmp 2], q [r [mv 2 ff], q [r [m 3 0]] (.block 0 (q [q [r [ar 5 .eql (t 3) (n 0), m 4 5]] (.cond (t 4) (sk) (q [r [ar 6 .eql (t 3) (n 2), m 4 6]] (.cond (t 4) (sk) (q [r [ar 7 .eql (t 3) (n 3),
  m 4 7]] (.cond (t 4) (sk) (q [r [ar 8 .eql (t 3) (n 4), m 4 8]] (.cond (t 4) (sk) (q [r [ar 9 .eql (t 3) (n 8), m 4 9]] (.cond (t 4) (sk) (r [ar 10 .eql (t 3) (n 21),
  m 4 10]))))))))))] (.cond (t 4) (q [r [mv 2 tt]] (.ret)) (sk)))), r [mv 2 ff]] (.ret)⟩
theorem A68_ok : XOk Tryz.prog ITS 68 A68 := ⟨Tryz.f68, Tryz.func68, by kernel_rfl, by decide, by kernel_rfl, its_nil (by kernel_rfl)⟩

/- widgetry/widgetryref17.weight -/
def A69 : AFn := ⟨40, [.tmp 2, .tmp 3], q [r [o 1 (.box (t 0)), mv 2 (n 0), mv 3 (n 0)], r [mv 4 (n 0), mv 5 (n 0)], q [r [fa 7 1 1, l 8 7, ar 9 .neq (t 8) (.const (.str []))]] (.cond (t 9) (r [m 10 4,
  ar 11 .add (t 10) (n 1), m 4 11]) (sk)), q [r [fa 12 4 1, l 13 12, ar 14 .neq (t 13) (.const (.str []))]] (.cond (t 14) (r [m 15 4, ar 16 .add (t 15) (n 1),
  m 4 16]) (sk)), q [r [mv 6 (n 1)]] (.block 0 (.loop (q [q [r [m 17 6, ar 18 .leq (t 17) (n 16)]] (.cond (t 18) (sk) (.exit 0)), .block 1 (q [r [fa 21 2 1,
  l 22 21, m 23 6, ar 24 .and (t 22) (t 23), ar 25 .neq (t 24) (n 0)]] (.cond (t 25) (r [m 26 4, ar 27 .add (t 26) (n 1), m 4 27]) (sk)))] (r [m 19 6, ar 20 .mul (t 19) (n 2),
  m 6 20])))), q [r [fa 28 0 1, l 29 28, ar 30 .neq (t 29) (n 0)]] (.cond (t 30) (r [m 31 5, ar 32 .add (t 31) (n 1), m 5 32]) (sk)), q [r [fa 33 3 1, l 34 33,
  ar 35 .neq (t 34) (n 0)]] (.cond (t 35) (r [m 36 5, ar 37 .add (t 36) (n 1), m 5 37]) (sk)), r [m 38 4, m 39 5, m 2 38, m 3 39]] (.ret)⟩
theorem A69_ok : XOk Tryz.prog ITS 69 A69 := ⟨Tryz.f69, Tryz.func69, by kernel_rfl, by decide, by kernel_rfl, its_nil (by kernel_rfl)⟩

/- widgetry/widgetryref17.matches -/
def A70 : AFn := ⟨83, [.tmp 8], q [r [o 4 (.box (t 0)), o 5 (.box (t 1)), mv 8 ff], r [ln 10 3 5, m 11 3, c 12 30 [t 10, t 11], o 9 (.new [.int .i64 0, .int .i64 0, .int .i64 0, .str [],
  .nilsl, .nilsl, .nilsl]), s 7 9 12], q [d [(fa 13 0 4, 0), (l 14 13, 1), (ar 15 .neq (t 14) (n 0), 3), (m 16 15, 7), (og 17 (.fldA 0 (t 4)) 16 true, 15),
  (og 18 (.ld1 (t 17)) 16 true, 31), (og 19 (.fldA 2 (t 9)) 16 true, 15), (og 20 (.ld1 (t 19)) 16 true, 79), (og 21 (.arith .neq (t 18) (t 20)) 16 true,
  255), (o 22 (.pick (t 16) (t 21) ff), 511), (m 23 22, 1023), (og 24 (.fldA 1 (t 4)) 23 false, 2047), (og 25 (.ld1 (t 24)) 23 false, 4095), (og 26 (.arith .neq (t 25) (.const (.str []))) 23 false,
  8191), (og 27 (.mov (t 26)) 23 false, 16383), (og 28 (.fldA 1 (t 4)) 27 true, 32767), (og 29 (.ld1 (t 28)) 27 true, 65535), (og 30 (.ldn 7 (t 9)) 27 true,
  32767), (og 31 (.call (fn 118) [t 30]) 27 true, 163839), (og 32 (.arith .neq (t 29) (t 31)) 27 true, 524287), (og 33 (.pick (t 27) (t 32) ff) 23 false,
  1048575), (o 34 (.pick (t 23) tt (t 33)), 2097151), (m 35 34, 4194303), (og 36 (.mov (t 2)) 35 false, 8388607), (og 37 (.mov (t 3)) 35 false, 8388607),
  (og 38 (.call (fn 119) [t 36, t 37]) 35 false, 33554431), (og 39 (.fldA 2 (t 4)) 35 false, 8388607), (og 40 (.ld1 (t 39)) 35 false, 75497471), (og 41 (.arith .and (t 38) (t 40)) 35 false,
  268435455), (og 42 (.fldA 2 (t 4)) 35 false, 8388607), (og 43 (.ld1 (t 42)) 35 false, 545259519), (og 44 (.arith .neq (t 41) (t 43)) 35 false, 2147483647),
  (o 45 (.pick (t 35) tt (t 44)), 4294967295)]] (.cond (t 45) (q [r [mv 8 ff]] (.ret)) (sk)), q [r [fa 46 3 4, l 47 46, ar 48 .eql (t 47) (n 0), m 49 48,
  og 50 (.fldA 4 (t 4)) 49 true, og 51 (.ld1 (t 50)) 49 true, og 52 (.arith .eql (t 51) (.const (.str []))) 49 true, o 53 (.pick (t 49) (t 52) ff)]] (.cond (t 53) (q [r [mv 8 tt]] (.ret)) (sk)),
  .block 0 (.loop (q [q [r [fa 54 1 9, l 55 54, ar 56 .neq (t 55) (n 0)]] (.cond (t 56) (sk) (.exit 0))] (.block 1 (q [r [ln 57 3 5, fa 58 1 9, l 59 58,
  c 60 30 [t 57, t 59], s 7 9 60], d [(fa 61 3 4, 0), (l 62 61, 1), (ar 63 .eql (t 62) (n 0), 3), (m 64 63, 7), (og 65 (.fldA 3 (t 4)) 64 false, 15), (og 66 (.ld1 (t 65)) 64 false,
  31), (og 67 (.fldA 2 (t 9)) 64 false, 15), (og 68 (.ld1 (t 67)) 64 false, 79), (og 69 (.arith .eql (t 66) (t 68)) 64 false, 255), (o 70 (.pick (t 64) tt (t 69)),
  511), (m 71 70, 1023), (og 72 (.fldA 4 (t 4)) 71 true, 2047), (og 73 (.ld1 (t 72)) 71 true, 4095), (og 74 (.arith .eql (t 73) (.const (.str []))) 71 true,
  8191), (og 75 (.mov (t 74)) 71 true, 16383), (og 76 (.fldA 4 (t 4)) 75 false, 32767), (og 77 (.ld1 (t 76)) 75 false, 65535), (og 78 (.ldn 7 (t 9)) 75 false,
  32767), (og 79 (.call (fn 118) [t 78]) 75 false, 163839), (og 80 (.arith .eql (t 77) (t 79)) 75 false, 524287), (og 81 (.pick (t 75) tt (t 80)) 71 true,
  1048575), (o 82 (.pick (t 71) (t 81) ff), 2097151)]] (.cond (t 82) (q [r [mv 8 tt]] (.ret)) (sk)))))), r [mv 8 ff]] (.ret)⟩
theorem A70_ok : XOk Tryz.prog ITS 70 A70 := ⟨Tryz.f70, Tryz.func70, by kernel_rfl, by decide, by kernel_rfl, its_nil (by kernel_rfl)⟩

/- widgetry/widgetryref17.InRange -/
def A72 : AFn := ⟨47, [.tmp 4], q [r [mv 4 ff], r [mv 5 (n 0), mv 6 (n 1048576)], q [r [m 7 0]] (.block 0 (q [r [ar 9 .eql (t 7) (n 0), m 8 9]] (.cond (t 8) (r [mv 6 (n 16777215)]) (q [r [ar 11 .eql (t 7) (n 1),
  m 10 11]] (.cond (t 10) (r [mv 5 (n (-1)), mv 6 (n 16777215)]) (q [r [ar 13 .eql (t 7) (n 2), m 12 13]] (.cond (t 12) (r [mv 5 (n 1), mv 6 (n 1000)]) (q [r [ar 15 .eql (t 7) (n 3),
  m 14 15]] (.cond (t 14) (r [mv 6 (n 7)]) (q [q [r [ar 17 .eql (t 7) (n 4), m 16 17]] (.cond (t 16) (sk) (r [ar 18 .eql (t 7) (n 21), m 16 18]))] (.cond (t 16) (r [mv 6 (n 1)]) (q [q [r [ar 20 .eql (t 7) (n 5),
  m 19 20]] (.cond (t 19) (sk) (r [ar 21 .eql (t 7) (n 6), m 19 21]))] (.cond (t 19) (r [mv 6 (n 4)]) (q [r [ar 23 .eql (t 7) (n 7), m 22 23]] (.cond (t 22) (r [mv 6 (n 3)]) (q [r [ar 25 .eql (t 7) (n 8),
  m 24 25]] (.cond (t 24) (r [mv 6 (n 2)]) (q [q [r [ar 27 .eql (t 7) (n 10), m 26 27]] (.cond (t 26) (sk) (r [ar 28 .eql (t 7) (n 11), m 26 28]))] (.cond (t 26) (r [mv 6 (n 1000)]) (q [r [ar 30 .eql (t 7) (n 12),
  m 29 30]] (.cond (t 29) (r [mv 5 (n (-1))]) (sk)))))))))))))))))))))), r [m 31 0, ar 32 .geq (t 31) (n 0), m 33 32, og 34 (.mov (t 0)) 33 true, og 35 (.arith .lss (t 34) (n 22)) 33 true,
  o 36 (.pick (t 33) (t 35) ff), m 37 36, og 38 (.mov (t 1)) 37 true, og 39 (.mov (t 5)) 37 true, og 40 (.arith .geq (t 38) (t 39)) 37 true, o 41 (.pick (t 37) (t 40) ff),
  m 42 41, og 43 (.mov (t 1)) 42 true, og 44 (.mov (t 6)) 42 true, og 45 (.arith .leq (t 43) (t 44)) 42 true, o 46 (.pick (t 42) (t 45) ff), m 4 46]] (.ret)⟩
theorem A72_ok : XOk Tryz.prog ITS 72 A72 := ⟨Tryz.f72, Tryz.func72, by kernel_rfl, by decide, by kernel_rfl, its_nil (by kernel_rfl)⟩

/- widgetry/widgetryref16.Size -/
def A73 : AFn := ⟨34, [.tmp 4], q [r [o 2 (.box (t 0)), mv 4 (n 0)], q [r [fa 7 2 2, l 8 7, ar 9 .lss (t 8) (n 50), m 10 9, og 11 (.fldA 2 (t 2)) 10 false, og 12 (.ld1 (t 11)) 10 false,
  og 13 (.arith .gtr (t 12) (n 400)) 10 false, o 14 (.pick (t 10) tt (t 13)), m 15 14, og 16 (.mov (t 1)) 15 false, og 17 (.arith .lss (t 16) (n 1)) 15 false,
  o 18 (.pick (t 15) tt (t 17)), m 19 18, og 20 (.mov (t 1)) 19 false, og 21 (.arith .gtr (t 20) (n 1000)) 19 false, o 22 (.pick (t 19) tt (t 21))]] (.cond (t 22) (q [r [m 23 1,
  c 24 120 [t 23, n 1, n 1000], m 4 24]] (.ret)) (sk)), r [m 26 1, fa 27 2 2, l 28 27, c 29 121 [t 26, t 28, n 100], m 25 29, ex 30 25 0, ex 31 25 1, m 5 30,
  m 6 31], r [m 32 5, c 33 120 [t 32, n 1, n 1000], m 4 33]] (.ret)⟩
theorem A73_ok : XOk Tryz.prog ITS 73 A73 := ⟨Tryz.f73, Tryz.func73, by kernel_rfl, by decide, by kernel_rfl, its_nil (by kernel_rfl)⟩

/- widgetry/widgetryref13.Key -/
def A74 : AFn := ⟨47, [.tmp 2], q [r [mv 2 ff], q [r [mv 3 (n 0)]] (.block 0 (.loop (q [q [r [m 5 3, m 6 0, o 7 (.lenS (t 6)), ar 8 .lss (t 5) (t 7)]] (.cond (t 8) (sk) (.exit 0)), .block 1 (q [r [m 11 0,
  m 12 3, o 13 (.idxS (t 11) (t 12)), m 4 13], r [m 14 4, ar 15 .lss (t 14) (.const (.int .u8 97)), m 16 15, og 17 (.mov (t 4)) 16 false, og 18 (.arith .gtr (t 17) (.const (.int .u8 122))) 16 false,
  o 19 (.pick (t 16) tt (t 18)), m 20 19, og 21 (.mov (t 4)) 20 true, og 22 (.arith .lss (t 21) (.const (.int .u8 65))) 20 true, og 23 (.mov (t 22)) 20 true,
  og 24 (.mov (t 4)) 23 false, og 25 (.arith .gtr (t 24) (.const (.int .u8 90))) 23 false, og 26 (.pick (t 23) tt (t 25)) 20 true, o 27 (.pick (t 20) (t 26) ff),
  m 28 27, og 29 (.mov (t 4)) 28 true, og 30 (.arith .lss (t 29) (.const (.int .u8 48))) 28 true, og 31 (.mov (t 30)) 28 true, og 32 (.mov (t 4)) 31 false,
  og 33 (.arith .gtr (t 32) (.const (.int .u8 57))) 31 false, og 34 (.pick (t 31) tt (t 33)) 28 true, o 35 (.pick (t 28) (t 34) ff), m 36 35, og 37 (.mov (t 4)) 36 true,
  og 38 (.arith .neq (t 37) (.const (.int .u8 45))) 36 true, o 39 (.pick (t 36) (t 38) ff), m 40 39, og 41 (.mov (t 4)) 40 true, og 42 (.arith .neq (t 41) (.const (.int .u8 95))) 40 true,
  o 43 (.pick (t 40) (t 42) ff)]] (.cond (t 43) (q [r [mv 2 ff]] (.ret)) (sk)))] (r [m 9 3, ar 10 .add (t 9) (n 1), m 3 10])))), r [m 44 0, o 45 (.lenS (t 44)),
  ar 46 .leq (t 45) (n 24), m 2 46]] (.ret)⟩
theorem A74_ok : XOk Tryz.prog ITS 74 A74 := ⟨Tryz.f74, Tryz.func74, by kernel_rfl, by decide, by kernel_rfl, its_nil (by kernel_rfl)⟩

/- widgetry/widgetryref11.letter -/
def A75 : AFn := ⟨17, [.tmp 2], q [r [mv 2 ff], r [m 3 0, ar 4 .geq (t 3) (.const (.int .u8 97)), m 5 4, og 6 (.mov (t 0)) 5 true, og 7 (.arith .leq (t 6) (.const (.int .u8 122))) 5 true,
  o 8 (.pick (t 5) (t 7) ff), m 9 8, og 10 (.mov (t 0)) 9 false, og 11 (.arith .geq (t 10) (.const (.int .u8 65))) 9 false, og 12 (.mov (t 11)) 9 false,
  og 13 (.mov (t 0)) 12 true, og 14 (.arith .leq (t 13) (.const (.int .u8 90))) 12 true, og 15 (.pick (t 12) (t 14) ff) 9 false, o 16 (.pick (t 9) tt (t 15)),
  m 2 16]] (.ret)⟩
theorem A75_ok : XOk Tryz.prog ITS 75 A75 := ⟨Tryz.f75, Tryz.func75, by kernel_rfl, by decide, by kernel_rfl, its_nil (by kernel_rfl)⟩

/- widgetry/widgetryref11.TypeOf -/
def A76 : AFn := ⟨15, [.cell 2 (some 2), .tmp 3], q [r [o 1 (.box (t 0)), o 2 (.new [.int .i64 0, .nilsl]), mv 3 (n 0)], r [ln 8 4 1, c 9 122 [t 8, n 1, n 0], m 7 9, ex 10 7 0, ex 11 7 1, ex 12 7 2, o 4 (.new [.int .i64 0,
  .nilsl]), s 2 4 10, m 5 11, m 6 12], r [ln 13 2 4, m 14 6, s 2 2 13, m 3 14]] (.ret)⟩
theorem A76_ok : XOk Tryz.prog ITS 76 A76 := ⟨Tryz.f76, Tryz.func76, by kernel_rfl, by decide, by kernel_rfl, its_nil (by kernel_rfl)⟩

/- widgetry/view.examine -/
def A77 : AFn := ⟨24, [.tmp 2, .cell 3 (some 5), .tmp 4], q [r [o 1 (.box (t 0)), mv 2 (.const (.nilmap)), o 3 (.new [.int .i64 0, .str [], .nilsl, .nilsl, .nilsl]), mv 4 (n 0)], r [ln 9 3 1, c 10 123 [t 9], m 8 10,
  ex 11 8 0, ex 12 8 1, m 5 11, m 6 12], q [r [m 13 6, o 14 (.un .not (t 13))]] (.cond (t 14) (q [r [o 15 (.build [.int .i64 0, .str [], .nilsl, .nilsl,
  .nilsl] []), mv 2 (.const (.nilmap)), s 5 3 15, mv 4 (n 12)]] (.ret)) (sk)), r [m 16 5, fa 17 0 1, l 18 17, c 19 124 [t 16, t 18], o 7 (.new [.int .i64 0,
  .str [], .nilsl, .nilsl, .nilsl]), s 5 7 19], d [(m 20 5, 0), (ln 21 5 7, 0), (ln 22 5 7, 0), (c 23 125 [t 22], 4), (m 2 20, 13), (s 5 3 21, 31), (m 4 23,
  63)]] (.ret)⟩
theorem A77_ok : XOk Tryz.prog ITS 77 A77 := ⟨Tryz.f77, Tryz.func77, by kernel_rfl, by decide, by kernel_rfl, its_nil (by kernel_rfl)⟩

/- slices.EqualFunc[[]widgetry/api.Node,[]widgetry/api.Styled,widgetry/api.Node,widgetry/api.Styled] -/
def A78 : AFn := ⟨32, [.tmp 6], q [r [mv 6 ff], q [r [m 10 0, le 11 10, m 12 1, le 13 12, ar 14 .neq (t 11) (t 13)]] (.cond (t 14) (q [r [mv 6 ff]] (.ret)) (sk)), q [r [m 15 0, le 16 15,
  mv 17 (n 0)]] (.block 0 (.loop (q [r [ar 18 .lss (t 17) (t 16)], .cond (t 18) (sk) (.exit 0), .block 1 (q [r [m 19 17, ia 20 7 15 (t 17), ln 21 7 20, o 8 (.new [.int .i64 0,
  .int .i64 0, .int .i64 0, .str [], .nilsl, .nilsl, .nilsl]), m 7 19, s 7 8 21], r [m 22 1, m 23 7, ia 24 23 22 (t 23), ln 25 23 24, o 9 (.new [.int .i64 0,
  .int .i64 0, .int .i64 0, .int .i64 0, .int .i64 0, .int .i64 0, .int .i64 0, .int .i64 0, .int .i64 0, .int .i64 0, .int .i64 0, .int .i64 0, .int .i64 0,
  .int .i64 0, .int .i64 0, .int .i64 0, .int .i64 0, .int .i64 0, .int .i64 0, .int .i64 0, .int .i64 0, .int .i64 0, .int .i64 0]), s 23 9 25], r [m 26 2,
  ln 27 7 8, ln 28 23 9, o 29 (.call (t 26) [t 27, t 28]), o 30 (.un .not (t 29))]] (.cond (t 30) (q [r [mv 6 ff]] (.ret)) (sk)))] (r [ar 31 .add (t 17) (n 1),
  m 17 31])))), r [mv 6 tt]] (.ret)⟩
theorem A78_ok : XOk Tryz.prog ITS 78 A78 := ⟨Tryz.f78, Tryz.func78, by kernel_rfl, by decide, by kernel_rfl, its_nil (by kernel_rfl)⟩

/- widgetry/layout.complete$1 -/
def A79 : AFn := ⟨10, [.tmp 4], q [r [o 2 (.box (t 0)), o 3 (.box (t 1)), mv 4 ff], r [fa 5 0 2, l 6 5, fa 7 0 3, l 8 7, ar 9 .eql (t 6) (t 8), m 4 9]] (.ret)⟩
theorem A79_ok : XOk Tryz.prog ITS 79 A79 := ⟨Tryz.f79, Tryz.func79, by kernel_rfl, by decide, by kernel_rfl, its_nil (by kernel_rfl)⟩

/- widgetry/style.InRange -/
def A80 : AFn := ⟨23, [.tmp 4], q [r [mv 4 ff], r [m 5 0, c 6 126 [t 5], m 7 6, og 8 (.mov (t 1)) 7 true, og 9 (.mov (t 0)) 7 true, og 10 (.idxArrA 22 4 (.const (.gptr 0 0)) (t 9)) 7 true,
  og 11 (.fldA 1 (t 10)) 7 true, og 12 (.ld1 (t 11)) 7 true, og 13 (.arith .geq (t 8) (t 12)) 7 true, o 14 (.pick (t 7) (t 13) ff), m 15 14, og 16 (.mov (t 1)) 15 true,
  og 17 (.mov (t 0)) 15 true, og 18 (.idxArrA 22 4 (.const (.gptr 0 0)) (t 17)) 15 true, og 19 (.fldA 2 (t 18)) 15 true, og 20 (.ld1 (t 19)) 15 true, og 21 (.arith .leq (t 16) (t 20)) 15 true,
  o 22 (.pick (t 15) (t 21) ff), m 4 22]] (.ret)⟩
theorem A80_ok : XOk Tryz.prog ITS 80 A80 := ⟨Tryz.f80, Tryz.func80, by kernel_rfl, by decide, by kernel_rfl, its_nil (by kernel_rfl)⟩

/- widgetry/font.ranges -/
def A81 : AFn := ⟨123, [.tmp 2], q [r [o 1 (.box (t 0)), mv 2 ff], q [r [fa 9 0 1, l 10 9, c 11 127 [t 10, n 16, n 4096], o 12 (.un .not (t 11)), m 13 12, og 14 (.fldA 1 (t 1)) 13 false,
  og 15 (.ld1 (t 14)) 13 false, og 16 (.call (fn 127) [t 15, n 0, n 4096]) 13 false, og 17 (.un .not (t 16)) 13 false, o 18 (.pick (t 13) tt (t 17)), m 19 18,
  og 20 (.fldA 2 (t 1)) 19 false, og 21 (.ld1 (t 20)) 19 false, og 22 (.call (fn 127) [t 21, n 0, n 4096]) 19 false, og 23 (.un .not (t 22)) 19 false, o 24 (.pick (t 19) tt (t 23)),
  m 25 24, og 26 (.fldA 3 (t 1)) 25 false, og 27 (.ld1 (t 26)) 25 false, og 28 (.call (fn 127) [t 27, n 0, n 4096]) 25 false, og 29 (.un .not (t 28)) 25 false,
  o 30 (.pick (t 25) tt (t 29)), m 31 30, og 32 (.fldA 1 (t 1)) 31 false, og 33 (.ld1 (t 32)) 31 false, og 34 (.fldA 2 (t 1)) 31 false, og 35 (.ld1 (t 34)) 31 false,
  og 36 (.arith .add (t 33) (t 35)) 31 false, og 37 (.arith .lss (t 36) (n 1)) 31 false, o 38 (.pick (t 31) tt (t 37)), m 39 38, og 40 (.fldA 4 (t 1)) 39 false,
  og 41 (.ld1 (t 40)) 39 false, og 42 (.call (fn 127) [t 41, n 0, n 4096]) 39 false, og 43 (.un .not (t 42)) 39 false, o 44 (.pick (t 39) tt (t 43))]] (.cond (t 44) (q [r [mv 2 ff]] (.ret)) (sk)),
  q [r [fa 45 5 1, l 46 45, le 47 46, mv 48 (n 0)]] (.block 0 (.loop (q [r [ar 49 .lss (t 48) (t 47)], .cond (t 49) (sk) (.exit 0), .block 1 (q [r [ia 50 3 46 (t 48),
  ln 51 3 50, o 4 (.new [.int .i32 0, .int .i32 0, .int .i64 0]), s 3 4 51], r [fa 52 0 4, l 53 52, c 54 128 [t 53], o 55 (.un .not (t 54)), m 56 55, og 57 (.fldA 1 (t 4)) 56 false,
  og 58 (.ld1 (t 57)) 56 false, og 59 (.call (fn 128) [t 58]) 56 false, og 60 (.un .not (t 59)) 56 false, o 61 (.pick (t 56) tt (t 60)), m 62 61, og 63 (.fldA 2 (t 4)) 62 false,
  og 64 (.ld1 (t 63)) 62 false, og 65 (.call (fn 127) [t 64, n 0, n 4096]) 62 false, og 66 (.un .not (t 65)) 62 false, o 67 (.pick (t 62) tt (t 66))]] (.cond (t 67) (q [r [mv 2 ff]] (.ret)) (sk)))] (r [ar 68 .add (t 48) (n 1),
  m 48 68])))), q [r [fa 69 6 1, l 70 69, le 71 70, mv 72 (n 0)]] (.block 2 (.loop (q [r [ar 73 .lss (t 72) (t 71)], .cond (t 73) (sk) (.exit 2), .block 3 (q [r [ia 74 3 70 (t 72),
  ln 75 3 74, o 6 (.new [.int .i32 0, .int .i32 0, .int .i64 0]), s 3 6 75], r [fa 76 0 6, l 77 76, c 78 128 [t 77], o 79 (.un .not (t 78)), m 80 79, og 81 (.fldA 1 (t 6)) 80 false,
  og 82 (.ld1 (t 81)) 80 false, og 83 (.call (fn 128) [t 82]) 80 false, og 84 (.un .not (t 83)) 80 false, o 85 (.pick (t 80) tt (t 84)), m 86 85, og 87 (.fldA 2 (t 6)) 86 false,
  og 88 (.ld1 (t 87)) 86 false, og 89 (.call (fn 127) [t 88, n (-1000), n 1000]) 86 false, og 90 (.un .not (t 89)) 86 false, o 91 (.pick (t 86) tt (t 90))]] (.cond (t 91) (q [r [mv 2 ff]] (.ret)) (sk)))] (r [ar 92 .add (t 72) (n 1),
  m 72 92])))), q [r [fa 93 7 1, l 94 93, le 95 94, mv 96 (n 0)]] (.block 4 (.loop (q [r [ar 97 .lss (t 96) (t 95)], .cond (t 97) (sk) (.exit 4), .block 5 (q [r [ia 98 4 94 (t 96),
  ln 99 4 98, o 8 (.new [.int .i32 0, .int .i32 0, .int .i64 0, .int .i64 0]), s 4 8 99], r [fa 100 0 8, l 101 100, c 102 128 [t 101], o 103 (.un .not (t 102)),
  m 104 103, og 105 (.fldA 1 (t 8)) 104 false, og 106 (.ld1 (t 105)) 104 false, og 107 (.call (fn 128) [t 106]) 104 false, og 108 (.un .not (t 107)) 104 false,
  o 109 (.pick (t 104) tt (t 108)), m 110 109, og 111 (.fldA 2 (t 8)) 110 false, og 112 (.ld1 (t 111)) 110 false, og 113 (.call (fn 127) [t 112, n 1114112,
  n 2097151]) 110 false, og 114 (.un .not (t 113)) 110 false, o 115 (.pick (t 110) tt (t 114)), m 116 115, og 117 (.fldA 3 (t 8)) 116 false, og 118 (.ld1 (t 117)) 116 false,
  og 119 (.call (fn 127) [t 118, n 0, n 4096]) 116 false, og 120 (.un .not (t 119)) 116 false, o 121 (.pick (t 116) tt (t 120))]] (.cond (t 121) (q [r [mv 2 ff]] (.ret)) (sk)))] (r [ar 122 .add (t 96) (n 1),
  m 96 122])))), r [mv 2 tt]] (.ret)⟩
theorem A81_ok : XOk Tryz.prog ITS 81 A81 := ⟨Tryz.f81, Tryz.func81, by kernel_rfl, by decide, by kernel_rfl, its_nil (by kernel_rfl)⟩

/- widgetry/font.ordered -/
def A82 : AFn := ⟨99, [.tmp 2], q [r [o 1 (.box (t 0)), mv 2 ff], r [mv 3 (.const (.int .i32 (-1)))], q [r [fa 8 5 1, l 9 8, le 10 9, mv 11 (n 0)]] (.block 0 (.loop (q [r [ar 12 .lss (t 11) (t 10)],
  .cond (t 12) (sk) (.exit 0), .block 1 (q [r [ia 13 3 9 (t 11), ln 14 3 13, o 5 (.new [.int .i32 0, .int .i32 0, .int .i64 0]), s 3 5 14], q [r [fa 15 0 5,
  l 16 15, m 17 3, ar 18 .leq (t 16) (t 17), m 19 18, og 20 (.fldA 0 (t 5)) 19 false, og 21 (.ld1 (t 20)) 19 false, og 22 (.fldA 1 (t 5)) 19 false, og 23 (.ld1 (t 22)) 19 false,
  og 24 (.arith .gtr (t 21) (t 23)) 19 false, o 25 (.pick (t 19) tt (t 24))]] (.cond (t 25) (q [r [mv 2 ff]] (.ret)) (sk))] (r [fa 26 1 5, l 27 26, m 3 27]))] (r [ar 28 .add (t 11) (n 1),
  m 11 28])))), q [r [mv 6 (n 1)]] (.block 2 (.loop (q [q [r [m 29 6, fa 30 6 1, l 31 30, le 32 31, ar 33 .lss (t 29) (t 32)]] (.cond (t 33) (sk) (.exit 2)),
  .block 3 (q [d [(fa 36 6 1, 0), (l 37 36, 1), (m 38 6, 0), (ar 39 .sub (t 38) (n 1), 4), (ia 40 3 37 (t 39), 15), (fa 41 0 40, 31), (l 42 41, 63), (fa 43 6 1,
  0), (l 44 43, 128), (m 45 6, 0), (ar 46 .sub (t 45) (n 1), 512), (ia 47 3 44 (t 46), 1920), (fa 48 1 47, 3968), (l 49 48, 8064), (fa 50 6 1, 0), (l 51 50,
  16384), (m 52 6, 0), (ia 53 3 51 (t 52), 114688), (fa 54 0 53, 245760), (l 55 54, 507904), (fa 56 6 1, 0), (l 57 56, 1048576), (m 58 6, 0), (ia 59 3 57 (t 58),
  7340032), (fa 60 1 59, 15728640), (l 61 60, 32505856), (c 62 129 [t 42, t 49, t 55, t 61], 67108863), (ar 63 .geq (t 62) (n 0), 134217727)]] (.cond (t 63) (q [r [mv 2 ff]] (.ret)) (sk)))] (r [m 34 6,
  ar 35 .add (t 34) (n 1), m 6 35])))), q [r [mv 7 (n 1)]] (.block 4 (.loop (q [q [r [m 64 7, fa 65 7 1, l 66 65, le 67 66, ar 68 .lss (t 64) (t 67)]] (.cond (t 68) (sk) (.exit 4)),
  .block 5 (q [d [(fa 71 7 1, 0), (l 72 71, 1), (m 73 7, 0), (ar 74 .sub (t 73) (n 1), 4), (ia 75 4 72 (t 74), 15), (fa 76 0 75, 31), (l 77 76, 63), (fa 78 7 1,
  0), (l 79 78, 128), (m 80 7, 0), (ar 81 .sub (t 80) (n 1), 512), (ia 82 4 79 (t 81), 1920), (fa 83 1 82, 3968), (l 84 83, 8064), (fa 85 7 1, 0), (l 86 85,
  16384), (m 87 7, 0), (ia 88 4 86 (t 87), 114688), (fa 89 0 88, 245760), (l 90 89, 507904), (fa 91 7 1, 0), (l 92 91, 1048576), (m 93 7, 0), (ia 94 4 92 (t 93),
  7340032), (fa 95 1 94, 15728640), (l 96 95, 32505856), (c 97 129 [t 77, t 84, t 90, t 96], 67108863), (ar 98 .geq (t 97) (n 0), 134217727)]] (.cond (t 98) (q [r [mv 2 ff]] (.ret)) (sk)))] (r [m 69 7,
  ar 70 .add (t 69) (n 1), m 7 70])))), r [mv 2 tt]] (.ret)⟩
theorem A82_ok : XOk Tryz.prog ITS 82 A82 := ⟨Tryz.f82, Tryz.func82, by kernel_rfl, by decide, by kernel_rfl, its_nil (by kernel_rfl)⟩

/- widgetry/view.Flag -/
def A83 : AFn := ⟨21, [.tmp 4], q [r [mv 4 ff], r [m 8 0, m 9 1, c 10 130 [t 8, t 9], m 7 10, ex 11 7 0, ex 12 7 1, o 5 (.new [.int .i64 0, .int .i64 0, .str [], .nilsl]), s 4 5 11, m 6 12],
  r [fa 13 0 5, l 14 13, ar 15 .eql (t 14) (n 2), m 16 15, og 17 (.fldA 1 (t 5)) 16 true, og 18 (.ld1 (t 17)) 16 true, og 19 (.arith .eql (t 18) (n 1)) 16 true,
  o 20 (.pick (t 16) (t 19) ff), m 4 20]] (.ret)⟩
theorem A83_ok : XOk Tryz.prog ITS 83 A83 := ⟨Tryz.f83, Tryz.func83, by kernel_rfl, by decide, by kernel_rfl, its_nil (by kernel_rfl)⟩

/- widgetry/layout.isFigure -/
def A84 : AFn := ⟨9, [.tmp 2], q [r [mv 2 ff], r [m 3 0, ar 4 .eql (t 3) (n 5), m 5 4, og 6 (.mov (t 0)) 5 false, og 7 (.arith .eql (t 6) (n 13)) 5 false, o 8 (.pick (t 5) tt (t 7)),
  m 2 8]] (.ret)⟩
theorem A84_ok : XOk Tryz.prog ITS 84 A84 := ⟨Tryz.f84, Tryz.func84, by kernel_rfl, by decide, by kernel_rfl, its_nil (by kernel_rfl)⟩

/- widgetry/paragraph.Validate -/
def A85 : AFn := ⟨100, [.tmp 4], q [r [o 2 (.box (t 0)), mv 4 (n 0)], q [r [fa 10 0 2, l 11 10, le 12 11, ar 13 .gtr (t 12) (n 2000), m 14 13, og 15 (.fldA 1 (t 2)) 14 false, og 16 (.ld1 (t 15)) 14 false,
  og 17 (.len (t 16)) 14 false, og 18 (.arith .gtr (t 17) (n 100)) 14 false, o 19 (.pick (t 14) tt (t 18)), m 20 19, og 21 (.mov (t 1)) 20 false, og 22 (.len (t 21)) 20 false,
  og 23 (.arith .gtr (t 22) (n 8)) 20 false, o 24 (.pick (t 20) tt (t 23))]] (.cond (t 24) (q [r [mv 4 (n 2)]] (.ret)) (sk)), q [r [fa 25 2 2, l 26 25, ar 27 .lss (t 26) (n (-1)),
  m 28 27, og 29 (.fldA 2 (t 2)) 28 false, og 30 (.ld1 (t 29)) 28 false, og 31 (.arith .gtr (t 30) (n 1)) 28 false, o 32 (.pick (t 28) tt (t 31)), m 33 32,
  og 34 (.fldA 3 (t 2)) 33 false, og 35 (.ld1 (t 34)) 33 false, og 36 (.arith .lss (t 35) (n 0)) 33 false, o 37 (.pick (t 33) tt (t 36)), m 38 37, og 39 (.fldA 3 (t 2)) 38 false,
  og 40 (.ld1 (t 39)) 38 false, og 41 (.arith .gtr (t 40) (n 2)) 38 false, o 42 (.pick (t 38) tt (t 41)), m 43 42, og 44 (.fldA 4 (t 2)) 43 false, og 45 (.ld1 (t 44)) 43 false,
  og 46 (.arith .lss (t 45) (n 0)) 43 false, o 47 (.pick (t 43) tt (t 46)), m 48 47, og 49 (.fldA 4 (t 2)) 48 false, og 50 (.ld1 (t 49)) 48 false, og 51 (.arith .gtr (t 50) (n 1048576)) 48 false,
  o 52 (.pick (t 48) tt (t 51))]] (.cond (t 52) (q [r [mv 4 (n 1)]] (.ret)) (sk)), q [r [fa 53 1 2, l 54 53, le 55 54, mv 56 (n 0)]] (.block 0 (.loop (q [r [ar 57 .lss (t 56) (t 55)],
  .cond (t 57) (sk) (.exit 0), .block 1 (q [r [ia 58 4 54 (t 56), ln 59 4 58, o 6 (.new [.int .i64 0, .int .i64 0, .int .i64 0, .int .i64 0]), s 4 6 59],
  r [fa 60 2 6, l 61 60, ar 62 .lss (t 61) (n 0), m 63 62, og 64 (.fldA 2 (t 6)) 63 false, og 65 (.ld1 (t 64)) 63 false, og 66 (.mov (t 1)) 63 false, og 67 (.len (t 66)) 63 false,
  og 68 (.arith .geq (t 65) (t 67)) 63 false, o 69 (.pick (t 63) tt (t 68)), m 70 69, og 71 (.fldA 3 (t 6)) 70 false, og 72 (.ld1 (t 71)) 70 false, og 73 (.arith .lss (t 72) (n 1)) 70 false,
  o 74 (.pick (t 70) tt (t 73)), m 75 74, og 76 (.fldA 3 (t 6)) 75 false, og 77 (.ld1 (t 76)) 75 false, og 78 (.arith .gtr (t 77) (n 1000)) 75 false, o 79 (.pick (t 75) tt (t 78))]] (.cond (t 79) (q [r [mv 4 (n 1)]] (.ret)) (sk)))] (r [ar 80 .add (t 56) (n 1),
  m 56 80])))), q [r [m 81 1, le 82 81, mv 83 (n 0)]] (.block 2 (.loop (q [r [ar 84 .lss (t 83) (t 82)], .cond (t 84) (sk) (.exit 2), .block 3 (q [r [ia 85 8 81 (t 83),
  ln 86 8 85, o 8 (.new [.int .i64 0, .int .i64 0, .int .i64 0, .int .i64 0, .int .i64 0, .nilsl, .nilsl, .nilsl]), s 8 8 86], r [ln 87 8 8, c 88 40 [t 87],
  m 9 88], r [m 89 9, ar 90 .neq (t 89) (n 0)]] (.cond (t 90) (q [r [m 91 9, m 4 91]] (.ret)) (sk)))] (r [ar 92 .add (t 83) (n 1), m 83 92])))), q [r [fa 93 1 2,
  l 94 93, fa 95 0 2, l 96 95, le 97 96, c 98 131 [t 94, t 97], o 99 (.un .not (t 98))]] (.cond (t 99) (q [r [mv 4 (n 10)]] (.ret)) (sk)), r [mv 4 (n 0)]] (.ret)⟩
theorem A85_ok : XOk Tryz.prog ITS 85 A85 := ⟨Tryz.f85, Tryz.func85, by kernel_rfl, by decide, by kernel_rfl, its_nil (by kernel_rfl)⟩

/- widgetry/paragraph.analyze -/
def A86 : AFn := ⟨131, [.tmp 4], q [r [o 2 (.box (t 0)), mv 4 (.const (.nilptr))], r [fa 15 0 2, l 16 15, m 5 16], d [(ln 17 5 2, 0), (m 18 1, 0), (m 19 5, 0), (c 20 132 [t 19], 4), (m 21 5,
  0), (c 22 133 [t 21], 28), (m 23 5, 0), (c 24 134 [t 23], 124), (m 25 5, 0), (le 26 25, 256), (ar 27 .add (t 26) (n 1), 768), (o 28 (.mksl 1 1 [.bool false] (t 27) (t 27)),
  1792), (o 29 (.build [.nilsl, .nilsl, .int .i64 0, .int .i64 0, .int .i64 0, .nilsl, .nilsl, .nilsl, .nilsl, .nilsl, .nilsl, .nilsl, .nilsl, .nilmap, .nilmap,
  .nilsl] [(0, 5, .tmp 17), (5, 1, .tmp 18), (6, 1, .tmp 20), (7, 1, .tmp 22), (10, 5, .tmp 24), (8, 1, .tmp 28)]), 4095), (o 30 (.box (t 29)), 8191), (m 6 30,
  16383)], q [r [m 31 6, o 32 (.nilchk (t 31)), fa 33 7 32, l 34 33, le 35 34, mv 36 (n 0)]] (.block 0 (.loop (q [r [ar 37 .lss (t 36) (t 35)], .cond (t 37) (sk) (.exit 0),
  .block 1 (q [r [ia 38 1 34 (t 36), l 39 38, m 8 39]] (r [m 40 6, o 41 (.nilchk (t 40)), fa 42 8 41, l 43 42, m 44 8, ia 45 1 43 (t 44), sv 1 45 tt]))] (r [ar 46 .add (t 36) (n 1),
  m 36 46])))), q [r [fa 47 1 2, l 48 47, le 49 48, mv 50 (n 0)]] (.block 2 (.loop (q [r [ar 51 .lss (t 50) (t 49)], .cond (t 51) (sk) (.exit 2), .block 3 (q [r [m 52 50,
  ia 53 4 48 (t 50), ln 54 4 53, o 10 (.new [.int .i64 0, .int .i64 0, .int .i64 0, .int .i64 0]), m 9 52, s 4 10 54], r [fa 55 0 10, l 56 55, m 11 56]] (.block 4 (.loop (q [q [r [m 57 11,
  fa 58 1 10, l 59 58, ar 60 .lss (t 57) (t 59)]] (.cond (t 60) (sk) (.exit 4)), .block 5 (r [m 63 6, m 64 6, o 65 (.nilchk (t 64)), fa 66 9 65, l 67 66,
  m 68 9, o 69 (.buildSl 1 1 [.int .i64 0] [(0, 1, .tmp 68)]), o 70 (.app 1 8 (t 67) (t 69)), o 71 (.nilchk (t 63)), fa 72 9 71, s 1 72 70])] (r [m 61 11,
  ar 62 .add (t 61) (n 1), m 11 62])))))] (r [ar 73 .add (t 50) (n 1), m 50 73])))), r [mv 12 (n 0)], q [r [m 74 6, o 75 (.nilchk (t 74)), fa 76 6 75, l 77 76,
  le 78 77, mv 79 (n 0)]] (.block 6 (.loop (q [r [ar 80 .lss (t 79) (t 78)], .cond (t 80) (sk) (.exit 6), .block 7 (q [r [m 81 79, ia 82 1 77 (t 79), l 83 82,
  m 13 81, m 14 83], r [m 84 14, ar 85 .eql (t 84) (n 2)]] (.cond (t 85) (q [d [(m 86 6, 0), (m 87 6, 0), (o 88 (.nilchk (t 87)), 2), (fa 89 15 88, 6), (l 90 89,
  14), (m 91 6, 0), (m 92 12, 0), (m 93 13, 0), (ar 94 .add (t 93) (n 1), 128), (c 95 135 [t 91, t 92, t 94], 480), (o 96 (.buildSl 4 1 [.int .i64 0, .int .i64 0,
  .int .i64 0, .nilsl] [(0, 4, .tmp 95)]), 992), (o 97 (.app 4 48 (t 90) (t 96)), 2046), (o 98 (.nilchk (t 86)), 4095), (fa 99 15 98, 8191), (s 1 99 97,
  16383)]] (r [m 100 13, ar 101 .add (t 100) (n 1), m 12 101])) (sk)))] (r [ar 102 .add (t 79) (n 1), m 79 102])))), q [r [m 103 5, le 104 103, ar 105 .eql (t 104) (n 0),
  m 106 105, og 107 (.mov (t 5)) 106 false, og 108 (.mov (t 5)) 106 false, og 109 (.len (t 108)) 106 false, og 110 (.arith .sub (t 109) (n 1)) 106 false,
  og 111 (.idxA 1 (t 107) (t 110)) 106 false, og 112 (.ld1 (t 111)) 106 false, og 113 (.call (fn 136) [t 112]) 106 false, o 114 (.pick (t 106) tt (t 113))]] (.cond (t 114) (d [(m 115 6,
  0), (m 116 6, 0), (o 117 (.nilchk (t 116)), 2), (fa 118 15 117, 6), (l 119 118, 14), (m 120 6, 0), (m 121 5, 0), (le 122 121, 64), (m 123 5, 0), (le 124 123,
  256), (c 125 135 [t 120, t 122, t 124], 992), (o 126 (.buildSl 4 1 [.int .i64 0, .int .i64 0, .int .i64 0, .nilsl] [(0, 4, .tmp 125)]), 2016), (o 127 (.app 4 48 (t 119) (t 126)),
  4094), (o 128 (.nilchk (t 115)), 8191), (fa 129 15 128, 16383), (s 1 129 127, 32767)]) (sk)), r [m 130 6, m 4 130]] (.ret)⟩
theorem A86_ok : XOk Tryz.prog ITS 86 A86 := ⟨Tryz.f86, Tryz.func86, by kernel_rfl, by decide, by kernel_rfl, its_nil (by kernel_rfl)⟩

/- (*widgetry/paragraph.text).end -/
def A87 : AFn := ⟨49, [.tmp 6], q [r [o 4 (.box (t 1)), mv 6 (n 0)], r [m 9 2, m 7 9], q [r [m 10 2, ar 11 .add (t 10) (n 1), m 8 11]] (.block 0 (.loop (q [q [r [m 12 8, fa 13 1 4, l 14 13,
  ar 15 .leq (t 12) (t 14)]] (.cond (t 15) (sk) (.exit 0)), .block 1 (q [q [r [m 18 0, o 19 (.nilchk (t 18)), fa 20 6 19, l 21 20, m 22 8, ar 23 .sub (t 22) (n 1),
  ia 24 1 21 (t 23), l 25 24, ar 26 .eql (t 25) (n 0)]] (.cond (t 26) (.exit 1) (sk)), q [d [(m 27 0, 0), (ln 28 4 4, 0), (m 29 2, 0), (m 30 8, 0), (c 31 137 [t 27,
  t 28, t 29, t 30], 15), (m 32 0, 0), (o 33 (.nilchk (t 32)), 32), (fa 34 0 33, 96), (fa 35 4 34, 224), (l 36 35, 480), (ar 37 .leq (t 31) (t 36), 1023)]] (.cond (t 37) (q [r [m 38 8,
  m 7 38]] (.exit 1)) (sk)), q [r [m 39 7, m 40 2, ar 41 .gtr (t 39) (t 40)]] (.cond (t 41) (q [r [m 42 7, m 6 42]] (.ret)) (sk)), r [m 43 0, ln 44 4 4,
  m 45 2, m 46 8, c 47 138 [t 43, t 44, t 45, t 46], m 6 47]] (.ret))] (r [m 16 8, ar 17 .add (t 16) (n 1), m 8 17])))), r [m 48 7, m 6 48]] (.ret)⟩
theorem A87_ok : XOk Tryz.prog ITS 87 A87 := ⟨Tryz.f87, Tryz.func87, by kernel_rfl, by decide, by kernel_rfl, its_nil (by kernel_rfl)⟩

/- (*widgetry/paragraph.text).line -/
def A88 : AFn := ⟨200, [.cell 10 (some 10)], q [r [o 6 (.box (t 1)), o 10 (.new [.int .i64 0, .int .i64 0, .int .i64 0, .int .i64 0, .int .i64 0, .int .i64 0, .int .i64 0, .int .i64 0, .int .i64 0,
  .nilsl])], d [(m 22 2, 0), (m 23 3, 0), (fa 24 2 6, 0), (l 25 24, 4), (m 26 4, 0), (m 27 0, 0), (ln 28 4 6, 0), (m 29 2, 0), (m 30 3, 0), (c 31 139 [t 27,
  t 28, t 29, t 30], 480), (o 32 (.build [.int .i64 0, .int .i64 0, .int .i64 0, .int .i64 0, .int .i64 0, .int .i64 0, .int .i64 0, .int .i64 0, .int .i64 0,
  .nilsl] [(0, 1, .tmp 22), (1, 1, .tmp 23), (2, 1, .tmp 25), (4, 1, .tmp 26), (9, 1, .tmp 31)]), 1023), (o 11 (.new [.int .i64 0, .int .i64 0, .int .i64 0,
  .int .i64 0, .int .i64 0, .int .i64 0, .int .i64 0, .int .i64 0, .int .i64 0, .nilsl]), 0), (s 10 11 32, 4095)], q [r [m 33 0, m 34 2, m 35 3, c 36 140 [t 33,
  t 34, t 35], m 12 36], r [m 37 3, fa 38 1 6, l 39 38, ar 40 .lss (t 37) (t 39)]] (.cond (t 40) (q [r [fa 41 9 11, l 42 41, le 43 42, mv 44 (n 0)]] (.block 0 (.loop (q [r [ar 45 .lss (t 44) (t 43)],
  .cond (t 45) (sk) (.exit 0), .block 1 (q [r [m 46 44, m 13 46], r [fa 47 9 11, l 48 47, m 49 13, ia 50 8 48 (t 49), fa 51 2 50, l 52 51, m 53 12, ar 54 .geq (t 52) (t 53)]] (.cond (t 54) (r [fa 55 9 11,
  l 56 55, m 57 13, ia 58 8 56 (t 57), fa 59 5 58, sv 1 59 (n 0)]) (sk)))] (r [ar 60 .add (t 44) (n 1), m 44 60]))))) (sk)), r [m 61 0, o 62 (.nilchk (t 61)),
  fa 63 0 62, fa 64 1 63, l 65 64, le 66 65, ar 67 .sub (t 66) (n 1), o 68 (.buildSl 1 1 [.int .i64 0] [(0, 1, .tmp 67)]), m 14 68], q [r [m 69 3, m 70 2,
  ar 71 .gtr (t 69) (t 70)]] (.cond (t 71) (r [m 72 0, o 73 (.nilchk (t 72)), fa 74 9 73, l 75 74, m 76 2, m 77 3, o 78 (.sl 1 (t 75) (some (.tmp 76)) (some (.tmp 77)) none),
  m 14 78]) (sk)), q [r [m 79 14, le 80 79, mv 81 (n 0)]] (.block 2 (.loop (q [r [ar 82 .lss (t 81) (t 80)], .cond (t 82) (sk) (.exit 2), .block 3 (q [r [ia 83 1 79 (t 81),
  l 84 83, m 16 84], d [(m 85 0, 0), (o 86 (.nilchk (t 85)), 1), (fa 87 5 86, 3), (l 88 87, 7), (m 89 0, 0), (o 90 (.nilchk (t 89)), 16), (fa 91 0 90, 48),
  (fa 92 1 91, 112), (l 93 92, 240), (m 94 16, 0), (ia 95 4 93 (t 94), 1008), (fa 96 2 95, 2032), (l 97 96, 4080), (ia 98 8 88 (t 97), 8191), (ln 99 8 98,
  16383), (m 100 0, 0), (o 101 (.nilchk (t 100)), 32768), (fa 102 0 101, 98304), (fa 103 1 102, 229376), (l 104 103, 491520), (m 105 16, 0), (ia 106 4 104 (t 105),
  2064384), (fa 107 3 106, 4161536), (l 108 107, 8355840), (o 17 (.new [.int .i64 0, .int .i64 0, .int .i64 0, .int .i64 0, .int .i64 0, .nilsl, .nilsl,
  .nilsl]), 0), (s 8 17 99, 16809983), (m 18 108, 67108863)]] (d [(fa 109 6 11, 0), (l 110 109, 1), (ln 111 8 17, 0), (m 112 18, 0), (c 113 141 [t 111, t 112],
  12), (o 114 (.mnmx true (t 110) (t 113)), 31), (fa 115 7 11, 0), (l 116 115, 64), (ln 117 8 17, 0), (m 118 18, 0), (c 119 142 [t 117, t 118], 796), (o 120 (.mnmx true (t 116) (t 119)),
  2012), (fa 121 8 11, 0), (l 122 121, 4096), (ln 123 8 17, 0), (m 124 18, 0), (c 125 143 [t 123, t 124], 50972), (o 126 (.mnmx true (t 122) (t 125)), 128796),
  (fa 127 6 11, 12543), (s 1 127 114, 391167), (fa 128 7 11, 917503), (s 1 128 120, 1966079), (fa 129 8 11, 4194303), (s 1 129 126, 8388607)]))] (r [ar 130 .add (t 81) (n 1),
  m 81 130])))), r [fa 131 8 11, l 132 131, fa 133 6 11, l 134 133, fa 135 7 11, l 136 135, ar 137 .add (t 134) (t 136), o 138 (.mnmx true (t 132) (t 137)),
  fa 139 8 11, s 1 139 138], r [fa 140 9 11, l 141 140, c 142 144 [t 141], fa 143 5 11, s 1 143 142], d [(m 144 0, 0), (o 145 (.nilchk (t 144)), 1), (fa 146 0 145,
  3), (fa 147 4 146, 7), (l 148 147, 15), (fa 149 5 11, 0), (l 150 149, 32), (ar 151 .sub (t 148) (t 150), 127), (m 19 151, 255)], .block 4 (q [r [m 153 0,
  o 154 (.nilchk (t 153)), fa 155 0 154, fa 156 3 155, l 157 156, ar 158 .eql (t 157) (n 2), m 152 158]] (.cond (t 152) (r [m 159 19, c 160 145 [t 159, n 2],
  fa 161 3 11, s 1 161 160]) (q [d [(m 163 0, 0), (o 164 (.nilchk (t 163)), 1), (fa 165 0 164, 3), (fa 166 3 165, 7), (l 167 166, 15), (ar 168 .eql (t 167) (n 1),
  31), (fa 169 2 6, 0), (l 170 169, 64), (ar 171 .rem (t 170) (n 2), 192), (ar 172 .eql (t 171) (n 0), 448), (o 173 (.eqs false (t 168) (t 172)), 1023),
  (m 162 173, 2047)]] (.cond (t 162) (r [m 174 19, fa 175 3 11, s 1 175 174]) (sk))))), r [fa 176 3 11, l 177 176, m 20 177], q [r [fa 178 9 11, l 179 178,
  le 180 179, mv 181 (n 0)]] (.block 5 (.loop (q [r [ar 182 .lss (t 181) (t 180)], .cond (t 182) (sk) (.exit 5), .block 6 (q [r [m 183 181, m 21 183], r [fa 184 9 11,
  l 185 184, m 186 21, m 187 20, ia 188 8 185 (t 186), fa 189 4 188, s 1 189 187]] (r [m 190 20, fa 191 9 11, l 192 191, m 193 21, ia 194 8 192 (t 193),
  fa 195 5 194, l 196 195, ar 197 .add (t 190) (t 196), m 20 197]))] (r [ar 198 .add (t 181) (n 1), m 181 198])))), r [ln 199 10 11, s 10 10 199]] (.ret)⟩
theorem A88_ok : XOk Tryz.prog ITS 88 A88 := ⟨Tryz.f88, Tryz.func88, by kernel_rfl, by decide, by kernel_rfl, its_nil (by kernel_rfl)⟩

/- widgetry/view.Text -/
def A89 : AFn := ⟨18, [.tmp 4], q [r [mv 4 (.const (.str []))], q [r [m 8 0, m 9 1, c 10 130 [t 8, t 9], m 7 10, ex 11 7 0, ex 12 7 1, o 5 (.new [.int .i64 0, .int .i64 0, .str [], .nilsl]),
  s 4 5 11, m 6 12], r [fa 13 0 5, l 14 13, ar 15 .eql (t 14) (n 3)]] (.cond (t 15) (q [r [fa 16 2 5, l 17 16, m 4 17]] (.ret)) (sk)), r [mv 4 (.const (.str []))]] (.ret)⟩
theorem A89_ok : XOk Tryz.prog ITS 89 A89 := ⟨Tryz.f89, Tryz.func89, by kernel_rfl, by decide, by kernel_rfl, its_nil (by kernel_rfl)⟩

/- widgetry/layout.spans -/
def A90 : AFn := ⟨138, [.tmp 6, .tmp 7], q [r [mv 6 (.const (.nilsl)), mv 7 ff], r [m 17 0, c 18 130 [t 17, .const (.str [115, 112, 97, 110, 115])], m 16 18, ex 19 16 0, ex 20 16 1, o 8 (.new [.int .i64 0,
  .int .i64 0, .str [], .nilsl]), s 4 8 19, m 9 20], q [r [fa 21 0 8, l 22 21, ar 23 .neq (t 22) (n 4), m 24 23, og 25 (.fldA 3 (t 8)) 24 false, og 26 (.ld1 (t 25)) 24 false,
  og 27 (.len (t 26)) 24 false, og 28 (.arith .lss (t 27) (n 1)) 24 false, o 29 (.pick (t 24) tt (t 28)), m 30 29, og 31 (.fldA 3 (t 8)) 30 false, og 32 (.ld1 (t 31)) 30 false,
  og 33 (.len (t 32)) 30 false, og 34 (.arith .gtr (t 33) (n 100)) 30 false, o 35 (.pick (t 30) tt (t 34))]] (.cond (t 35) (q [r [mv 6 (.const (.nilsl)),
  mv 7 ff]] (.ret)) (sk)), r [mv 10 (.const (.nilsl))], r [mv 11 (n 0)], q [r [fa 36 3 8, l 37 36, le 38 37, mv 39 (n 0)]] (.block 0 (.loop (q [r [ar 40 .lss (t 39) (t 38)],
  .cond (t 40) (sk) (.exit 0), .block 1 (q [r [ia 41 4 37 (t 39), ln 42 4 41, o 13 (.new [.int .i64 0, .int .i64 0, .str [], .nilsl]), s 4 13 42], q [r [fa 43 0 13,
  l 44 43, ar 45 .neq (t 44) (n 4), m 46 45, og 47 (.fldA 3 (t 13)) 46 false, og 48 (.ld1 (t 47)) 46 false, og 49 (.len (t 48)) 46 false, og 50 (.arith .neq (t 49) (n 4)) 46 false,
  o 51 (.pick (t 46) tt (t 50)), m 52 51, og 53 (.fldA 3 (t 13)) 52 false, og 54 (.ld1 (t 53)) 52 false, og 55 (.call (fn 146) [t 54, fn 147]) 52 false,
  o 56 (.pick (t 52) tt (t 55))]] (.cond (t 56) (q [r [mv 6 (.const (.nilsl)), mv 7 ff]] (.ret)) (sk)), d [(fa 57 3 13, 0), (l 58 57, 1), (ia 59 4 58 (n 0),
  3), (fa 60 1 59, 7), (l 61 60, 15), (fa 62 3 13, 0), (l 63 62, 32), (ia 64 4 63 (n 1), 96), (fa 65 1 64, 224), (l 66 65, 480), (fa 67 3 13, 0), (l 68 67,
  1024), (ia 69 4 68 (n 2), 3072), (fa 70 1 69, 7168), (l 71 70, 15360), (fa 72 3 13, 0), (l 73 72, 32768), (ia 74 4 73 (n 3), 98304), (fa 75 1 74, 229376),
  (l 76 75, 491520), (o 77 (.build [.int .i64 0, .int .i64 0, .int .i64 0, .int .i64 0] [(0, 1, .tmp 61), (1, 1, .tmp 66), (2, 1, .tmp 71), (3, 1, .tmp 76)]),
  1048575), (o 14 (.new [.int .i64 0, .int .i64 0, .int .i64 0, .int .i64 0]), 0), (s 4 14 77, 4194303)], r [m 78 1, ar 79 .eql (t 78) (n 0), m 80 79, og 81 (.fldA 3 (t 8)) 80 true,
  og 82 (.ld1 (t 81)) 80 true, og 83 (.len (t 82)) 80 true, og 84 (.arith .eql (t 83) (n 1)) 80 true, o 85 (.pick (t 80) (t 84) ff), m 86 85, og 87 (.fldA 1 (t 14)) 86 true,
  og 88 (.ld1 (t 87)) 86 true, og 89 (.arith .eql (t 88) (n 0)) 86 true, o 90 (.pick (t 86) (t 89) ff), m 15 90], q [r [fa 91 0 14, l 92 91, m 93 11, ar 94 .neq (t 92) (t 93),
  m 95 94, og 96 (.fldA 1 (t 14)) 95 false, og 97 (.ld1 (t 96)) 95 false, og 98 (.fldA 0 (t 14)) 95 false, og 99 (.ld1 (t 98)) 95 false, og 100 (.arith .leq (t 97) (t 99)) 95 false,
  og 101 (.mov (t 100)) 95 false, og 102 (.mov (t 15)) 101 true, og 103 (.un .not (t 102)) 101 true, og 104 (.pick (t 101) (t 103) ff) 95 false, o 105 (.pick (t 95) tt (t 104)),
  m 106 105, og 107 (.fldA 2 (t 14)) 106 false, og 108 (.ld1 (t 107)) 106 false, og 109 (.arith .lss (t 108) (n 0)) 106 false, o 110 (.pick (t 106) tt (t 109)),
  m 111 110, og 112 (.fldA 2 (t 14)) 111 false, og 113 (.ld1 (t 112)) 111 false, og 114 (.mov (t 2)) 111 false, og 115 (.arith .geq (t 113) (t 114)) 111 false,
  o 116 (.pick (t 111) tt (t 115)), m 117 116, og 118 (.fldA 3 (t 14)) 117 false, og 119 (.ld1 (t 118)) 117 false, og 120 (.arith .lss (t 119) (n 1)) 117 false,
  o 121 (.pick (t 117) tt (t 120)), m 122 121, og 123 (.fldA 3 (t 14)) 122 false, og 124 (.ld1 (t 123)) 122 false, og 125 (.arith .gtr (t 124) (n 1000)) 122 false,
  o 126 (.pick (t 122) tt (t 125))]] (.cond (t 126) (q [r [mv 6 (.const (.nilsl)), mv 7 ff]] (.ret)) (sk)), r [fa 127 1 14, l 128 127, m 11 128]] (r [m 129 10,
  ln 130 4 14, o 131 (.buildSl 4 1 [.int .i64 0, .int .i64 0, .int .i64 0, .int .i64 0] [(0, 4, .tmp 130)]), o 132 (.app 4 32 (t 129) (t 131)), m 10 132]))] (r [ar 133 .add (t 39) (n 1),
  m 39 133])))), r [m 134 10, m 135 11, m 136 1, ar 137 .eql (t 135) (t 136), m 6 134, m 7 137]] (.ret)⟩
theorem A90_ok : XOk Tryz.prog ITS 90 A90 := ⟨Tryz.f90, Tryz.func90, by kernel_rfl, by decide, by kernel_rfl, its_nil (by kernel_rfl)⟩

/- widgetry/fixed.Clamp -/
def A91 : AFn := ⟨23, [.tmp 6], q [r [mv 6 (n 0)], .block 0 (q [r [m 8 0, m 9 1, ar 10 .lss (t 8) (t 9), m 11 10, og 12 (.mov (t 2)) 11 false, og 13 (.mov (t 1)) 11 false, og 14 (.arith .lss (t 12) (t 13)) 11 false,
  o 15 (.pick (t 11) tt (t 14)), m 7 15]] (.cond (t 7) (q [r [m 16 1, m 6 16]] (.ret)) (q [r [m 18 0, m 19 2, ar 20 .gtr (t 18) (t 19), m 17 20]] (.cond (t 17) (q [r [m 21 2,
  m 6 21]] (.ret)) (sk))))), r [m 22 0, m 6 22]] (.ret)⟩
theorem A91_ok : XOk Tryz.prog ITS 91 A91 := ⟨Tryz.f91, Tryz.func91, by kernel_rfl, by decide, by kernel_rfl, its_nil (by kernel_rfl)⟩

/- (*widgetry/layout.scene).widths -/
def A92 : AFn := ⟨90, [.tmp 6], q [r [mv 6 (.const (.nilsl))], r [m 17 0, o 18 (.nilchk (t 17)), fa 19 5 18, l 20 19, m 21 1, o 22 (.xo (.mapget (.one (.int .i64)) false (.agg [.int .i64 0,
  .int .i64 0, .int .i64 0, .int .i64 0, .int .i64 0, .int .i64 0, .int .i64 0, .int .i64 0, .int .i64 0, .int .i64 0, .int .i64 0, .int .i64 0, .int .i64 0,
  .int .i64 0, .int .i64 0, .int .i64 0, .int .i64 0, .int .i64 0, .int .i64 0, .int .i64 0, .int .i64 0, .int .i64 0])) [t 20, t 21]), o 7 (.new [.int .i64 0,
  .int .i64 0, .int .i64 0, .int .i64 0, .int .i64 0, .int .i64 0, .int .i64 0, .int .i64 0, .int .i64 0, .int .i64 0, .int .i64 0, .int .i64 0, .int .i64 0,
  .int .i64 0, .int .i64 0, .int .i64 0, .int .i64 0, .int .i64 0, .int .i64 0, .int .i64 0, .int .i64 0, .int .i64 0]), s 22 7 22], q [r [m 23 0, m 24 1,
  c 25 21 [t 23, t 24], ar 26 .eql (t 25) (n 2)]] (.cond (t 26) (q [r [mv 8 (.const (.nilsl))], q [r [m 27 0, o 28 (.nilchk (t 27)), fa 29 6 28, l 30 29,
  m 31 1, o 32 (.xo (.mapget (.one (.int .i64)) false (.nilsl)) [t 30, t 31]), le 33 32, mv 34 (n 0)]] (.block 0 (.loop (q [r [ar 35 .lss (t 34) (t 33)],
  .cond (t 35) (sk) (.exit 0), .block 1 (q [r [ia 36 1 32 (t 34), l 37 36, m 10 37]] (r [m 38 8, m 39 0, m 40 10, m 41 0, m 42 10, c 43 148 [t 41, t 42,
  tt], m 44 0, m 45 10, c 46 148 [t 44, t 45, ff], c 47 107 [t 39, t 40, t 43, n 13, n 14, t 46], o 48 (.buildSl 5 1 [.int .i64 0, .int .i64 0, .int .i64 0,
  .int .i64 0, .int .i64 0] [(0, 5, .tmp 47)]), o 49 (.app 5 40 (t 38) (t 48)), m 8 49]))] (r [ar 50 .add (t 34) (n 1), m 34 50])))), r [m 52 2, o 53 (.idxArrA 22 1 (t 7) (n 9)),
  l 54 53, m 55 8, c 56 108 [t 52, t 54, t 55], m 51 56, ex 57 51 0, ex 58 51 1, m 11 57, m 12 58], r [m 59 11, m 6 59]] (.ret)) (sk)), r [m 60 0, m 61 1,
  c 62 21 [t 60, t 61], ar 63 .eql (t 62) (n 1), m 64 63, og 65 (.idxArrA 22 1 (t 7) (n 6)) 64 true, og 66 (.ld1 (t 65)) 64 true, og 67 (.arith .eql (t 66) (n 3)) 64 true,
  o 68 (.pick (t 64) (t 67) ff), m 13 68], r [mv 14 (.const (.nilsl))], q [r [m 69 0, o 70 (.nilchk (t 69)), fa 71 6 70, l 72 71, m 73 1, o 74 (.xo (.mapget (.one (.int .i64)) false (.nilsl)) [t 72,
  t 73]), le 75 74, mv 76 (n 0)]] (.block 2 (.loop (q [r [ar 77 .lss (t 76) (t 75)], .cond (t 77) (sk) (.exit 2), .block 3 (q [r [ia 78 1 74 (t 76), l 79 78,
  m 16 79]] (r [m 80 14, m 81 0, m 82 16, m 83 2, m 84 13, c 85 149 [t 81, t 82, t 83, t 84], o 86 (.buildSl 1 1 [.int .i64 0] [(0, 1, .tmp 85)]), o 87 (.app 1 8 (t 80) (t 86)),
  m 14 87]))] (r [ar 88 .add (t 76) (n 1), m 76 88])))), r [m 89 14, m 6 89]] (.ret)⟩
theorem A92_ok : XOk Tryz.prog ITS 92 A92 := ⟨Tryz.f92, Tryz.func92, by kernel_rfl, by decide, by kernel_rfl, its_nil (by kernel_rfl)⟩

/- (*widgetry/layout.scene).heights -/
def A93 : AFn := ⟨34, [.tmp 6], q [r [mv 6 (.const (.nilsl))], r [mv 7 (.const (.nilsl))], q [r [m 10 0, o 11 (.nilchk (t 10)), fa 12 6 11, l 13 12, m 14 1, o 15 (.xo (.mapget (.one (.int .i64)) false (.nilsl)) [t 13,
  t 14]), le 16 15, mv 17 (n 0)]] (.block 0 (.loop (q [r [ar 18 .lss (t 17) (t 16)], .cond (t 18) (sk) (.exit 0), .block 1 (q [r [m 19 17, ia 20 1 15 (t 17),
  l 21 20, m 8 19, m 9 21]] (r [m 22 7, m 23 0, m 24 9, m 25 2, m 26 8, ia 27 1 25 (t 26), l 28 27, c 29 101 [t 23, t 24, t 28], o 30 (.buildSl 1 1 [.int .i64 0] [(0,
  1, .tmp 29)]), o 31 (.app 1 8 (t 22) (t 30)), m 7 31]))] (r [ar 32 .add (t 17) (n 1), m 17 32])))), r [m 33 7, m 6 33]] (.ret)⟩
theorem A93_ok : XOk Tryz.prog ITS 93 A93 := ⟨Tryz.f93, Tryz.func93, by kernel_rfl, by decide, by kernel_rfl, its_nil (by kernel_rfl)⟩

/- widgetry/box.Offsets -/
def A94 : AFn := ⟨132, [.tmp 10], q [r [mv 10 (.const (.nilsl))], q [r [m 23 3, le 24 23, ar 25 .gtr (t 24) (n 100), m 26 25, og 27 (.mov (t 0)) 26 false, og 28 (.mov (t 1)) 26 false, og 29 (.buildSl 1 2 [.int .i64 0,
  .int .i64 0] [(0, 1, .tmp 27), (1, 1, .tmp 28)]) 26 false, og 30 (.call (fn 150) [t 29]) 26 false, og 31 (.un .not (t 30)) 26 false, o 32 (.pick (t 26) tt (t 31)),
  m 33 32, og 34 (.mov (t 3)) 33 false, og 35 (.call (fn 150) [t 34]) 33 false, og 36 (.un .not (t 35)) 33 false, o 37 (.pick (t 33) tt (t 36)), m 38 37,
  og 39 (.mov (t 2)) 38 false, og 40 (.arith .lss (t 39) (n 0)) 38 false, o 41 (.pick (t 38) tt (t 40)), m 42 41, og 43 (.mov (t 2)) 42 false, og 44 (.arith .gtr (t 43) (n 3)) 42 false,
  o 45 (.pick (t 42) tt (t 44))]] (.cond (t 45) (q [r [mv 10 (.const (.nilsl))]] (.ret)) (sk)), r [m 46 0, m 47 1, m 48 3, le 49 48, ar 50 .sub (t 49) (n 1),
  o 51 (.mnmx true (t 50) (n 0)), ar 52 .mul (t 47) (t 51), ar 53 .sub (t 46) (t 52), m 11 53], q [r [m 54 3, le 55 54, mv 56 (n 0)]] (.block 0 (.loop (q [r [ar 57 .lss (t 56) (t 55)],
  .cond (t 57) (sk) (.exit 0), .block 1 (q [r [ia 58 1 54 (t 56), l 59 58, m 13 59]] (r [m 60 11, m 61 13, ar 62 .sub (t 60) (t 61), m 11 62]))] (r [ar 63 .add (t 56) (n 1),
  m 56 63])))), r [mv 14 (n 0)], r [m 64 3, le 65 64, o 66 (.mksl 1 8 [.int .i64 0] (t 65) (t 65)), m 15 66], .block 2 (q [r [m 68 2, ar 69 .eql (t 68) (n 1),
  m 67 69]] (.cond (t 67) (r [m 70 11, m 14 70]) (q [r [m 72 2, ar 73 .eql (t 72) (n 2), m 71 73]] (.cond (t 71) (r [m 74 11, c 75 145 [t 74, n 2], m 14 75]) (q [r [m 77 2,
  ar 78 .eql (t 77) (n 3), m 79 78, og 80 (.mov (t 11)) 79 true, og 81 (.arith .gtr (t 80) (n 0)) 79 true, o 82 (.pick (t 79) (t 81) ff), m 83 82, og 84 (.mov (t 3)) 83 true,
  og 85 (.len (t 84)) 83 true, og 86 (.arith .gtr (t 85) (n 1)) 83 true, o 87 (.pick (t 83) (t 86) ff), m 76 87]] (.cond (t 76) (q [r [o 88 (.buildSl 1 1 [.int .i64 0] [(0,
  1, .const (.int .i64 1))]), m 89 3, le 90 89, ar 91 .sub (t 90) (n 1), c 92 151 [t 88, t 91], m 16 92], r [m 94 11, m 95 16, c 96 152 [t 94, t 95], m 93 96,
  ex 97 93 0, ex 98 93 1, m 17 97, m 18 98]] (r [m 99 15, m 100 17, o 101 (.copy 1 (t 99) (t 100))])) (sk))))))), r [mv 19 (.const (.nilsl))], q [r [m 102 3,
  le 103 102, mv 104 (n 0)]] (.block 3 (.loop (q [r [ar 105 .lss (t 104) (t 103)], .cond (t 105) (sk) (.exit 3), .block 4 (q [r [m 106 104, ia 107 1 102 (t 104),
  l 108 107, m 20 106, m 21 108], r [m 109 14, m 22 109], q [r [m 110 4]] (.cond (t 110) (r [m 111 0, m 112 21, ar 113 .sub (t 111) (t 112), m 114 14, ar 115 .sub (t 113) (t 114),
  m 22 115]) (sk)), r [m 116 19, m 117 22, o 118 (.buildSl 1 1 [.int .i64 0] [(0, 1, .tmp 117)]), o 119 (.app 1 8 (t 116) (t 118)), m 19 119]] (r [m 120 14,
  m 121 21, m 122 1, ar 123 .add (t 121) (t 122), m 124 15, m 125 20, ia 126 1 124 (t 125), l 127 126, ar 128 .add (t 123) (t 127), ar 129 .add (t 120) (t 128),
  m 14 129]))] (r [ar 130 .add (t 104) (n 1), m 104 130])))), r [m 131 19, m 10 131]] (.ret)⟩
theorem A94_ok : XOk Tryz.prog ITS 94 A94 := ⟨Tryz.f94, Tryz.func94, by kernel_rfl, by decide, by kernel_rfl, its_nil (by kernel_rfl)⟩

/- widgetry/box.Align -/
def A97 : AFn := ⟨42, [.tmp 8, .tmp 9], q [r [mv 8 (n 0), mv 9 (n 0)], q [r [m 10 1, m 11 2, o 12 (.buildSl 1 2 [.int .i64 0, .int .i64 0] [(0, 1, .tmp 10), (1, 1, .tmp 11)]), c 13 150 [t 12],
  o 14 (.un .not (t 13))]] (.cond (t 14) (q [r [mv 8 (n 0), mv 9 (n 0)]] (.ret)) (sk)), r [m 15 2, m 9 15], q [r [m 16 0]] (.block 0 (q [q [r [ar 18 .eql (t 16) (n 0),
  m 17 18]] (.cond (t 17) (sk) (r [ar 19 .eql (t 16) (n 4), m 17 19]))] (.cond (t 17) (sk) (q [r [ar 21 .eql (t 16) (n 1), m 20 21]] (.cond (t 20) (r [m 22 1,
  m 23 2, ar 24 .sub (t 22) (t 23), m 8 24]) (q [r [ar 26 .eql (t 16) (n 2), m 25 26]] (.cond (t 25) (r [m 27 1, m 28 2, ar 29 .sub (t 27) (t 28), c 30 145 [t 29,
  n 2], m 8 30]) (q [r [ar 32 .eql (t 16) (n 3), m 31 32]] (.cond (t 31) (r [m 33 1, m 9 33]) (q [r [mv 8 (n 0), mv 9 (n 0)]] (.ret))))))))))), q [r [m 34 3]] (.cond (t 34) (r [m 35 1,
  m 36 9, ar 37 .sub (t 35) (t 36), m 38 8, ar 39 .sub (t 37) (t 38), m 8 39]) (sk)), r [m 40 8, m 41 9, m 8 40, m 9 41]] (.ret)⟩
theorem A97_ok : XOk Tryz.prog ITS 97 A97 := ⟨Tryz.f97, Tryz.func97, by kernel_rfl, by decide, by kernel_rfl, its_nil (by kernel_rfl)⟩

/- (*widgetry/layout.scene).height -/
def A101 : AFn := ⟨61, [.tmp 6], q [r [mv 6 (n 0)], q [r [m 14 0, o 15 (.nilchk (t 14)), fa 16 10 15, l 17 16, m 18 1, m 19 2, o 20 (.build [.int .i64 0, .int .i64 0] [(0, 1, .tmp 18),
  (1, 1, .tmp 19)]), o 21 (.xo (.mapget (.st [.int .i64, .int .i64]) true (.int .i64 0)) [t 17, t 20]), m 13 21, ex 22 13 0, ex 23 13 1, m 7 22, m 8 23],
  r [m 24 8]] (.cond (t 24) (q [r [m 25 7, m 6 25]] (.ret)) (sk)), r [m 26 0, o 27 (.nilchk (t 26)), fa 28 5 27, l 29 28, m 30 1, o 31 (.xo (.mapget (.one (.int .i64)) false (.agg [.int .i64 0,
  .int .i64 0, .int .i64 0, .int .i64 0, .int .i64 0, .int .i64 0, .int .i64 0, .int .i64 0, .int .i64 0, .int .i64 0, .int .i64 0, .int .i64 0, .int .i64 0,
  .int .i64 0, .int .i64 0, .int .i64 0, .int .i64 0, .int .i64 0, .int .i64 0, .int .i64 0, .int .i64 0, .int .i64 0])) [t 29, t 30]), o 9 (.new [.int .i64 0,
  .int .i64 0, .int .i64 0, .int .i64 0, .int .i64 0, .int .i64 0, .int .i64 0, .int .i64 0, .int .i64 0, .int .i64 0, .int .i64 0, .int .i64 0, .int .i64 0,
  .int .i64 0, .int .i64 0, .int .i64 0, .int .i64 0, .int .i64 0, .int .i64 0, .int .i64 0, .int .i64 0, .int .i64 0]), s 22 9 31], r [ln 33 22 9, c 34 46 [t 33],
  m 32 34, ex 35 32 0, ex 36 32 1, m 10 35, m 11 36], d [(m 37 0, 0), (m 38 1, 0), (m 39 0, 0), (m 40 1, 0), (m 41 2, 0), (c 42 45 [t 39, t 40, t 41], 28),
  (c 43 160 [t 37, t 38, t 42], 63), (m 44 11, 0), (ar 45 .add (t 43) (t 44), 255), (o 46 (.mnmx false (t 45) (n 1048576)), 511), (o 47 (.idxArrA 22 1 (t 9) (n 15)),
  0), (l 48 47, 1024), (o 49 (.idxArrA 22 1 (t 9) (n 16)), 0), (l 50 49, 4096), (c 51 91 [t 46, t 48, t 50], 16383), (m 12 51, 32767)], r [m 52 0, o 53 (.nilchk (t 52)),
  fa 54 10 53, l 55 54, m 56 1, m 57 2, o 58 (.build [.int .i64 0, .int .i64 0] [(0, 1, .tmp 56), (1, 1, .tmp 57)]), m 59 12, on (.xo (.mapset (.st [.int .i64,
  .int .i64])) [t 55, t 58, t 59])], r [m 60 12, m 6 60]] (.ret)⟩
theorem A101_ok : XOk Tryz.prog ITS 101 A101 := ⟨Tryz.f101, Tryz.func101, by kernel_rfl, by decide, by kernel_rfl, its_nil (by kernel_rfl)⟩

/- (*widgetry/layout.scene).place$1 -/
def A102 : AFn := ⟨21, [], r [l 11 5, m 12 0, m 13 1, m 14 2, m 15 3, o 16 (.mnmx false (t 15) (n 1048576)), m 17 4, o 18 (.build [.int .i64 0, .int .i64 0, .int .i64 0, .int .i64 0,
  .int .i64 0] [(0, 1, .tmp 12), (1, 1, .tmp 13), (2, 1, .tmp 14), (3, 1, .tmp 16), (4, 1, .tmp 17)]), o 19 (.buildSl 5 1 [.int .i64 0, .int .i64 0, .int .i64 0,
  .int .i64 0, .int .i64 0] [(0, 5, .tmp 18)]), o 20 (.app 5 40 (t 11) (t 19)), s 1 5 20]⟩
theorem A102_ok : XOk Tryz.prog ITS 102 A102 := ⟨Tryz.f102, Tryz.func102, by kernel_rfl, by decide, by kernel_rfl, its_nil (by kernel_rfl)⟩

/- (*widgetry/layout.scene).place$2 -/
def A103 : AFn := ⟨25, [.tmp 6], q [r [mv 6 (n 0)], d [(l 9 1, 0), (o 10 (.nilchk (t 9)), 1), (fa 11 4 10, 3), (l 12 11, 7), (l 13 2, 0), (o 14 (.xo (.mapget (.one (.int .i64)) false (.agg [.int .i64 0,
  .int .i64 0, .int .i64 0, .str [], .nilsl, .nilsl, .nilsl])) [t 12, t 13]), 31), (o 15 (.fld 4 none (t 14)), 63), (m 16 0, 0), (c 17 89 [t 15, t 16], 255),
  (o 7 (.new [.str []]), 0), (s 1 7 17, 1023)], r [l 18 3, o 19 (.mkf (.func 105) [] [t 7, t 1]), c 20 104 [t 18, t 19], m 8 20], q [r [m 21 8, l 22 4, ar 23 .eql (t 21) (t 22)]] (.cond (t 23) (q [r [mv 6 (n (-1))]] (.ret)) (sk)),
  r [m 24 8, m 6 24]] (.ret)⟩
theorem A103_ok : XOk Tryz.prog ITS 103 A103 := ⟨Tryz.f103, Tryz.func103, by kernel_rfl, by decide, by kernel_rfl, its_nil (by kernel_rfl)⟩

/- slices.IndexFunc[[]int,int] -/
def A104 : AFn := ⟨19, [.tmp 4], q [r [mv 4 (n 0)], q [r [m 6 0, le 7 6, mv 8 (n 0)]] (.block 0 (.loop (q [r [ar 9 .lss (t 8) (t 7)], .cond (t 9) (sk) (.exit 0), .block 1 (q [r [m 10 8,
  m 5 10], r [m 11 1, m 12 0, m 13 5, ia 14 1 12 (t 13), l 15 14, o 16 (.call (t 11) [t 15])]] (.cond (t 16) (q [r [m 17 5, m 4 17]] (.ret)) (sk)))] (r [ar 18 .add (t 8) (n 1),
  m 8 18])))), r [mv 4 (n (-1))]] (.ret)⟩
theorem A104_ok : XOk Tryz.prog ITS 104 A104 := ⟨Tryz.f104, Tryz.func104, by kernel_rfl, by decide, by kernel_rfl, its_nil (by kernel_rfl)⟩

/- (*widgetry/layout.scene).place$2$1 -/
def A105 : AFn := ⟨18, [.tmp 4], q [r [mv 4 ff], d [(l 5 1, 0), (ar 6 .neq (t 5) (.const (.str [])), 1), (m 7 6, 3), (og 8 (.ld1 (t 2)) 7 true, 7), (og 9 (.nilchk (t 8)) 7 true, 15), (og 10 (.fldA 4 (t 9)) 7 true,
  31), (og 11 (.ld1 (t 10)) 7 true, 63), (og 12 (.mov (t 0)) 7 true, 7), (og 13 (.xo (.mapget (.one (.int .i64)) false (.agg [.int .i64 0, .int .i64 0, .int .i64 0,
  .str [], .nilsl, .nilsl, .nilsl])) [t 11, t 12]) 7 true, 255), (og 14 (.fld 3 none (t 13)) 7 true, 511), (og 15 (.ld1 (t 1)) 7 true, 7), (og 16 (.arith .eql (t 14) (t 15)) 7 true,
  2047), (o 17 (.pick (t 7) (t 16) ff), 4095), (m 4 17, 8191)]] (.ret)⟩
theorem A105_ok : XOk Tryz.prog ITS 105 A105 := ⟨Tryz.f105, Tryz.func105, by kernel_rfl, by decide, by kernel_rfl, its_nil (by kernel_rfl)⟩

/- widgetry/constraint.Solve -/
def A106 : AFn := ⟨96, [.cell 4 (some 4), .tmp 5], q [r [o 4 (.new [.int .i64 0, .nilsl, .nilsl, .nilsl]), mv 5 (n 0)], q [r [m 17 0, ar 18 .lss (t 17) (n 0), m 19 18, og 20 (.mov (t 0)) 19 false, og 21 (.arith .gtr (t 20) (n 64)) 19 false,
  o 22 (.pick (t 19) tt (t 21))]] (.cond (t 22) (q [r [o 23 (.build [.int .i64 0, .nilsl, .nilsl, .nilsl] []), s 4 4 23, mv 5 (n 1)]] (.ret)) (sk)), q [r [m 24 1,
  le 25 24, ar 26 .gtr (t 25) (n 200)]] (.cond (t 26) (q [r [o 27 (.build [.int .i64 0, .nilsl, .nilsl, .nilsl] []), s 4 4 27, mv 5 (n 2)]] (.ret)) (sk)),
  q [r [m 28 1, le 29 28, mv 30 (n 0)]] (.block 0 (.loop (q [r [ar 31 .lss (t 30) (t 29)], .cond (t 31) (sk) (.exit 0), .block 1 (q [r [ia 32 5 28 (t 30),
  ln 33 5 32, o 7 (.new [.int .i64 0, .int .i64 0, .int .i64 0, .int .i64 0, .int .i64 0]), s 5 7 33], r [m 34 0, ln 35 5 7, c 36 161 [t 34, t 35], o 37 (.un .not (t 36))]] (.cond (t 37) (q [r [o 38 (.build [.int .i64 0,
  .nilsl, .nilsl, .nilsl] []), s 4 4 38, mv 5 (n 1)]] (.ret)) (sk)))] (r [ar 39 .add (t 30) (n 1), m 30 39])))), d [(m 40 0, 0), (m 41 1, 0), (c 42 162 [t 41],
  2), (m 43 1, 0), (le 44 43, 8), (o 45 (.mksl 1 1 [.bool false] (t 44) (t 44)), 24), (o 46 (.build [.int .i64 0, .nilsl, .nilsl, .nilsl] [(0, 1, .tmp 40),
  (1, 1, .tmp 42), (2, 1, .tmp 45)]), 63), (o 8 (.new [.int .i64 0, .nilsl, .nilsl, .nilsl]), 0), (s 4 8 46, 255)], r [m 47 0, ar 48 .add (t 47) (n 1), o 49 (.mksl 1 8 [.int .i64 0] (t 48) (t 48)),
  m 9 49], r [mv 10 (.const (.nilsl))], q [r [mv 11 (n 0)]] (.block 2 (.loop (q [q [r [m 50 11, ar 51 .leq (t 50) (n 3)]] (.cond (t 51) (sk) (.exit 2)),
  .block 3 (q [r [m 54 1, le 55 54, mv 56 (n 0)]] (.block 4 (.loop (q [r [ar 57 .lss (t 56) (t 55)], .cond (t 57) (sk) (.exit 4), .block 5 (q [r [m 58 56,
  ia 59 5 54 (t 56), ln 60 5 59, o 13 (.new [.int .i64 0, .int .i64 0, .int .i64 0, .int .i64 0, .int .i64 0]), m 12 58, s 5 13 60], q [r [fa 61 4 13, l 62 61,
  m 63 11, ar 64 .neq (t 62) (t 63)]] (.cond (t 64) (.exit 5) (sk)), r [m 65 10, ln 66 5 13, c 67 164 [t 66], o 68 (.buildSl 1 2 [.nilsl, .nilsl] [(0, 1,
  .tmp 65), (1, 1, .tmp 67)]), c 69 163 [t 68], m 14 69], r [m 71 9, m 72 14, c 73 165 [t 71, t 72], m 70 73, ex 74 70 0, ex 75 70 1, m 15 74, m 16 75],
  q [r [m 76 16, o 77 (.un .not (t 76)), m 78 77, og 79 (.mov (t 11)) 78 true, og 80 (.arith .eql (t 79) (n 0)) 78 true, o 81 (.pick (t 78) (t 80) ff)]] (.cond (t 81) (q [r [o 82 (.build [.int .i64 0,
  .nilsl, .nilsl, .nilsl] []), s 4 4 82, mv 5 (n 13)]] (.ret)) (sk)), r [m 83 16]] (.cond (t 83) (d [(fa 84 2 8, 0), (l 85 84, 1), (m 86 12, 0), (m 87 15,
  0), (m 88 14, 0), (m 9 87, 8), (m 10 88, 56), (ia 89 1 85 (t 86), 127), (sv 1 89 tt, 255)]) (sk)))] (r [ar 90 .add (t 56) (n 1), m 56 90])))))] (r [m 52 11,
  ar 53 .add (t 52) (n 1), m 11 53])))), r [m 91 9, o 92 (.sl 1 (t 91) (some (.const (.int .i64 1))) none none), c 93 166 [t 92], fa 94 3 8, s 1 94 93],
  r [ln 95 4 8, s 4 4 95, mv 5 (n 0)]] (.ret)⟩
theorem A106_ok : XOk Tryz.prog ITS 106 A106 := ⟨Tryz.f106, Tryz.func106, by kernel_rfl, by decide, by kernel_rfl, its_nil (by kernel_rfl)⟩

/- (*widgetry/layout.scene).flex -/
def A107 : AFn := ⟨42, [.cell 12 (some 5)], q [r [o 12 (.new [.int .i64 0, .int .i64 0, .int .i64 0, .int .i64 0, .int .i64 0])], r [m 15 0, o 16 (.nilchk (t 15)), fa 17 5 16, l 18 17, m 19 1, o 20 (.xo (.mapget (.one (.int .i64)) false (.agg [.int .i64 0,
  .int .i64 0, .int .i64 0, .int .i64 0, .int .i64 0, .int .i64 0, .int .i64 0, .int .i64 0, .int .i64 0, .int .i64 0, .int .i64 0, .int .i64 0, .int .i64 0,
  .int .i64 0, .int .i64 0, .int .i64 0, .int .i64 0, .int .i64 0, .int .i64 0, .int .i64 0, .int .i64 0, .int .i64 0])) [t 18, t 19]), o 13 (.new [.int .i64 0,
  .int .i64 0, .int .i64 0, .int .i64 0, .int .i64 0, .int .i64 0, .int .i64 0, .int .i64 0, .int .i64 0, .int .i64 0, .int .i64 0, .int .i64 0, .int .i64 0,
  .int .i64 0, .int .i64 0, .int .i64 0, .int .i64 0, .int .i64 0, .int .i64 0, .int .i64 0, .int .i64 0, .int .i64 0]), s 22 13 20], r [o 21 (.idxArrA 22 1 (t 13) (n 12)),
  l 22 21, m 14 22], q [r [m 23 14, ar 24 .lss (t 23) (n 0)]] (.cond (t 24) (r [m 25 2, m 14 25]) (sk)), d [(m 26 14, 0), (c 27 47 [t 26], 1), (m 28 3, 0),
  (o 29 (.idxArrA 22 1 (t 13) (t 28)), 4), (l 30 29, 12), (m 31 5, 0), (o 32 (.mnmx true (t 30) (t 31)), 60), (c 33 47 [t 32], 127), (m 34 4, 0), (o 35 (.idxArrA 22 1 (t 13) (t 34)),
  256), (l 36 35, 768), (o 37 (.idxArrA 22 1 (t 13) (n 10)), 0), (l 38 37, 2048), (o 39 (.idxArrA 22 1 (t 13) (n 11)), 0), (l 40 39, 8192), (o 41 (.build [.int .i64 0,
  .int .i64 0, .int .i64 0, .int .i64 0, .int .i64 0] [(0, 1, .tmp 27), (1, 1, .tmp 33), (2, 1, .tmp 36), (3, 1, .tmp 38), (4, 1, .tmp 40)]), 32767), (s 5 12 41,
  65535)]] (.ret)⟩
theorem A107_ok : XOk Tryz.prog ITS 107 A107 := ⟨Tryz.f107, Tryz.func107, by kernel_rfl, by decide, by kernel_rfl, its_nil (by kernel_rfl)⟩

/- widgetry/box.Resolve -/
def A108 : AFn := ⟨149, [.tmp 6, .tmp 7], q [r [mv 6 (.const (.nilsl)), mv 7 (n 0)], q [r [m 17 0, m 18 1, m 19 2, c 20 167 [t 17, t 18, t 19], m 8 20], r [m 21 8, ar 22 .neq (t 21) (n 0)]] (.cond (t 22) (q [r [m 23 8,
  mv 6 (.const (.nilsl)), m 7 23]] (.ret)) (sk)), d [(m 24 2, 0), (m 25 0, 0), (m 26 1, 0), (m 27 2, 0), (le 28 27, 8), (ar 29 .sub (t 28) (n 1), 24), (o 30 (.mnmx true (t 29) (n 0)),
  56), (ar 31 .mul (t 26) (t 30), 124), (ar 32 .sub (t 25) (t 31), 254), (m 33 2, 0), (le 34 33, 512), (o 35 (.mksl 1 8 [.int .i64 0] (t 34) (t 34)), 1536),
  (m 36 2, 0), (le 37 36, 4096), (o 38 (.mksl 1 1 [.bool false] (t 37) (t 37)), 12288), (o 39 (.build [.nilsl, .int .i64 0, .bool false, .nilsl, .nilsl,
  .nilsl] [(0, 1, .tmp 24), (1, 1, .tmp 32), (4, 1, .tmp 35), (5, 1, .tmp 38)]), 32767), (o 40 (.box (t 39)), 65535), (m 9 40, 131071)], r [mv 10 (n 0)],
  q [r [m 41 2, le 42 41, mv 43 (n 0)]] (.block 0 (.loop (q [r [ar 44 .lss (t 43) (t 42)], .cond (t 44) (sk) (.exit 0), .block 1 (q [r [m 45 43, ia 46 5 41 (t 43),
  ln 47 5 46, o 12 (.new [.int .i64 0, .int .i64 0, .int .i64 0, .int .i64 0, .int .i64 0]), m 11 45, s 5 12 47], d [(m 48 9, 0), (o 49 (.nilchk (t 48)),
  1), (fa 50 4 49, 3), (l 51 50, 7), (m 52 11, 0), (m 53 9, 0), (m 54 11, 0), (fa 55 0 12, 0), (l 56 55, 128), (c 57 168 [t 53, t 54, t 56], 480), (ia 58 1 51 (t 52),
  1023), (s 1 58 57, 2047)]] (r [m 59 10, m 60 9, o 61 (.nilchk (t 60)), fa 62 4 61, l 63 62, m 64 11, ia 65 1 63 (t 64), l 66 65, ar 67 .add (t 59) (t 66),
  m 10 67]))] (r [ar 68 .add (t 43) (n 1), m 43 68])))), r [m 69 9, m 70 10, m 71 9, o 72 (.nilchk (t 71)), fa 73 1 72, l 74 73, ar 75 .leq (t 70) (t 74),
  o 76 (.nilchk (t 69)), fa 77 2 76, s 1 77 75], q [r [m 78 2, le 79 78, mv 80 (n 0)]] (.block 2 (.loop (q [r [ar 81 .lss (t 80) (t 79)], .cond (t 81) (sk) (.exit 2),
  .block 3 (q [r [m 82 80, ia 83 5 78 (t 80), ln 84 5 83, o 14 (.new [.int .i64 0, .int .i64 0, .int .i64 0, .int .i64 0, .int .i64 0]), m 13 82, s 5 14 84],
  d [(fa 85 4 14, 0), (l 86 85, 1), (fa 87 0 14, 0), (l 88 87, 4), (ar 89 .mul (t 86) (t 88), 15), (fa 90 0 14, 0), (l 91 90, 32), (m 92 9, 0), (o 93 (.nilchk (t 92)),
  128), (fa 94 4 93, 384), (l 95 94, 896), (m 96 13, 0), (ia 97 1 95 (t 96), 3968), (l 98 97, 8064), (ar 99 .lss (t 91) (t 98), 16352), (m 15 89, 31), (m 16 99,
  65535)], q [r [m 100 9, o 101 (.nilchk (t 100)), fa 102 2 101, l 103 102]] (.cond (t 103) (d [(fa 104 3 14, 0), (l 105 104, 1), (fa 106 0 14, 0), (l 107 106,
  4), (m 108 9, 0), (o 109 (.nilchk (t 108)), 16), (fa 110 4 109, 48), (l 111 110, 112), (m 112 13, 0), (ia 113 1 111 (t 112), 496), (l 114 113, 1008), (ar 115 .gtr (t 107) (t 114),
  2044), (m 15 105, 3), (m 16 115, 8191)]) (sk)), r [m 116 9, m 117 9, o 118 (.nilchk (t 117)), fa 119 3 118, l 120 119, m 121 15, o 122 (.buildSl 1 1 [.int .i64 0] [(0,
  1, .tmp 121)]), o 123 (.app 1 8 (t 120) (t 122)), o 124 (.nilchk (t 116)), fa 125 3 124, s 1 125 123]] (r [m 126 9, o 127 (.nilchk (t 126)), fa 128 5 127,
  l 129 128, m 130 13, m 131 15, ar 132 .eql (t 131) (n 0), m 133 132, og 134 (.mov (t 16)) 133 false, o 135 (.pick (t 133) tt (t 134)), ia 136 1 129 (t 130),
  s 1 136 135]))] (r [ar 137 .add (t 80) (n 1), m 80 137])))), .block 4 (.loop (q [q [r [m 138 9, o 139 (.nilchk (t 138)), fa 140 5 139, l 141 140, c 142 169 [t 141,
  ff]]] (.cond (t 142) (sk) (.exit 4))] (.block 5 (r [m 143 9, c 144 170 [t 143]])))), r [m 145 9, o 146 (.nilchk (t 145)), fa 147 4 146, l 148 147, m 6 148,
  mv 7 (n 0)]] (.ret)⟩
theorem A108_ok : XOk Tryz.prog ITS 108 A108 := ⟨Tryz.f108, Tryz.func108, by kernel_rfl, by decide, by kernel_rfl, its_nil (by kernel_rfl)⟩

/- slices.medianCmpFunc[widgetry/api.Box] -/
def A113 : AFn := ⟨41, [.tmp 12], q [r [mv 12 (n 0)], r [m 14 0, m 15 1, m 16 2, m 17 4, m 18 5, c 19 171 [t 14, t 15, t 16, t 17, t 18], m 13 19, ex 20 13 0, ex 21 13 1, m 1 20, m 2 21],
  r [m 23 0, m 24 2, m 25 3, m 26 4, m 27 5, c 28 171 [t 23, t 24, t 25, t 26, t 27], m 22 28, ex 29 22 0, ex 30 22 1, m 2 29, m 3 30], r [m 32 0, m 33 1,
  m 34 2, m 35 4, m 36 5, c 37 171 [t 32, t 33, t 34, t 35, t 36], m 31 37, ex 38 31 0, ex 39 31 1, m 1 38, m 2 39], r [m 40 2, m 12 40]] (.ret)⟩
theorem A113_ok : XOk Tryz.prog ITS 113 A113 := ⟨Tryz.f113, Tryz.func113, by kernel_rfl, by decide, by kernel_rfl, its_nil (by kernel_rfl)⟩

/- widgetry/widgetryref17.declaration -/
def A114 : AFn := ⟨75, [.tmp 4], q [r [o 2 (.box (t 0)), o 3 (.box (t 1)), mv 4 (n 0)], q [r [fa 5 0 3, l 6 5, ar 7 .lss (t 6) (n 0), m 8 7, og 9 (.fldA 0 (t 3)) 8 false, og 10 (.ld1 (t 9)) 8 false,
  og 11 (.arith .geq (t 10) (n 22)) 8 false, o 12 (.pick (t 8) tt (t 11))]] (.cond (t 12) (q [r [mv 4 (n 1)]] (.ret)) (sk)), q [r [fa 13 1 3, l 14 13, ar 15 .lss (t 14) (n 0),
  m 16 15, og 17 (.fldA 1 (t 3)) 16 false, og 18 (.ld1 (t 17)) 16 false, og 19 (.arith .gtr (t 18) (n 3)) 16 false, o 20 (.pick (t 16) tt (t 19)), m 21 20,
  og 22 (.fldA 2 (t 3)) 21 false, og 23 (.ld1 (t 22)) 21 false, og 24 (.arith .neq (t 23) (n 0)) 21 false, og 25 (.mov (t 24)) 21 false, og 26 (.fldA 1 (t 3)) 25 true,
  og 27 (.ld1 (t 26)) 25 true, og 28 (.arith .neq (t 27) (n 0)) 25 true, og 29 (.pick (t 25) (t 28) ff) 21 false, o 30 (.pick (t 21) tt (t 29)), m 31 30,
  og 32 (.fldA 3 (t 3)) 31 false, og 33 (.ld1 (t 32)) 31 false, og 34 (.arith .neq (t 33) (.const (.str []))) 31 false, og 35 (.mov (t 34)) 31 false, og 36 (.fldA 1 (t 3)) 35 true,
  og 37 (.ld1 (t 36)) 35 true, og 38 (.arith .neq (t 37) (n 1)) 35 true, og 39 (.pick (t 35) (t 38) ff) 31 false, o 40 (.pick (t 31) tt (t 39))]] (.cond (t 40) (q [r [mv 4 (n 9)]] (.ret)) (sk)),
  q [r [fa 41 1 3, l 42 41, ar 43 .eql (t 42) (n 0), m 44 43, og 45 (.fldA 0 (t 3)) 44 true, og 46 (.ld1 (t 45)) 44 true, og 47 (.fldA 2 (t 3)) 44 true,
  og 48 (.ld1 (t 47)) 44 true, og 49 (.call (fn 72) [t 46, t 48]) 44 true, og 50 (.un .not (t 49)) 44 true, o 51 (.pick (t 44) (t 50) ff)]] (.cond (t 51) (q [r [mv 4 (n 1)]] (.ret)) (sk)),
  q [r [fa 52 1 3, l 53 52, ar 54 .eql (t 53) (n 1), m 55 54, og 56 (.fldA 3 (t 3)) 55 true, og 57 (.ld1 (t 56)) 55 true, og 58 (.call (fn 35) [t 57]) 55 true,
  og 59 (.un .not (t 58)) 55 true, o 60 (.pick (t 55) (t 59) ff)]] (.cond (t 60) (q [r [mv 4 (n 4)]] (.ret)) (sk)), q [r [fa 61 0 3, l 62 61, ar 63 .eql (t 62) (n 5),
  m 64 63, og 65 (.fldA 0 (t 3)) 64 false, og 66 (.ld1 (t 65)) 64 false, og 67 (.arith .eql (t 66) (n 21)) 64 false, o 68 (.pick (t 64) tt (t 67)), m 69 68,
  og 70 (.fldA 2 (t 2)) 69 true, og 71 (.ld1 (t 70)) 69 true, og 72 (.arith .and (t 71) (n 7)) 69 true, og 73 (.arith .neq (t 72) (n 0)) 69 true, o 74 (.pick (t 69) (t 73) ff)]] (.cond (t 74) (q [r [mv 4 (n 13)]] (.ret)) (sk)),
  r [mv 4 (n 0)]] (.ret)⟩
theorem A114_ok : XOk Tryz.prog ITS 114 A114 := ⟨Tryz.f114, Tryz.func114, by kernel_rfl, by decide, by kernel_rfl, its_nil (by kernel_rfl)⟩

/- widgetry/widgetryref14.shaped -/
def A116 : AFn := ⟨156, [.tmp 2], q [r [o 1 (.box (t 0)), mv 2 ff], q [r [fa 12 1 1, l 13 12, ar 14 .lss (t 13) (n 2), m 15 14, og 16 (.fldA 1 (t 1)) 15 false, og 17 (.ld1 (t 16)) 15 false,
  og 18 (.arith .gtr (t 17) (n 1099511627776)) 15 false, o 19 (.pick (t 15) tt (t 18)), m 20 19, og 21 (.fldA 2 (t 1)) 20 false, og 22 (.ld1 (t 21)) 20 false,
  og 23 (.len (t 22)) 20 false, og 24 (.arith .lss (t 23) (n 1)) 20 false, o 25 (.pick (t 20) tt (t 24)), m 26 25, og 27 (.fldA 2 (t 1)) 26 false, og 28 (.ld1 (t 27)) 26 false,
  og 29 (.len (t 28)) 26 false, og 30 (.arith .gtr (t 29) (n 400)) 26 false, o 31 (.pick (t 26) tt (t 30))]] (.cond (t 31) (q [r [mv 2 ff]] (.ret)) (sk)),
  r [mv 3 (n 0)], q [r [mv 4 (n 0)]] (.block 0 (.loop (q [q [r [m 32 4, fa 33 2 1, l 34 33, le 35 34, ar 36 .lss (t 32) (t 35)]] (.cond (t 36) (sk) (.exit 0)),
  .block 1 (q [q [d [(fa 39 2 1, 0), (l 40 39, 1), (m 41 4, 0), (ia 42 7 40 (t 41), 7), (fa 43 0 42, 15), (l 44 43, 31), (m 45 3, 0), (ar 46 .leq (t 44) (t 45),
  127), (m 47 46, 255), (og 48 (.fldA 2 (t 1)) 47 false, 511), (og 49 (.ld1 (t 48)) 47 false, 1023), (og 50 (.mov (t 4)) 47 false, 511), (og 51 (.idxA 7 (t 49) (t 50)) 47 false,
  4095), (og 52 (.fldA 0 (t 51)) 47 false, 8191), (og 53 (.ld1 (t 52)) 47 false, 16383), (og 54 (.fldA 1 (t 1)) 47 false, 511), (og 55 (.ld1 (t 54)) 47 false,
  33279), (og 56 (.arith .geq (t 53) (t 55)) 47 false, 131071), (o 57 (.pick (t 47) tt (t 56)), 262143)]] (.cond (t 57) (q [r [mv 2 ff]] (.ret)) (sk))] (r [fa 58 2 1,
  l 59 58, m 60 4, ia 61 7 59 (t 60), fa 62 0 61, l 63 62, m 3 63]))] (r [m 37 4, ar 38 .add (t 37) (n 1), m 4 38])))), r [ln 64 3 1, fa 65 0 1, l 66 65,
  c 67 66 [t 64, t 66], m 5 67], q [r [m 68 5, ar 69 .lss (t 68) (n 0)]] (.cond (t 69) (q [r [mv 2 ff]] (.ret)) (sk)), r [mv 6 (n 0)], q [r [mv 7 (n 0)]] (.block 2 (.loop (q [q [r [m 70 7,
  fa 71 2 1, l 72 71, le 73 72, ar 74 .lss (t 70) (t 73)]] (.cond (t 74) (sk) (.exit 2)), .block 3 (q [r [fa 77 2 1, l 78 77, m 79 7, ia 80 7 78 (t 79),
  ln 81 7 80, o 8 (.new [.int .i64 0, .int .i64 0, .int .i64 0, .str [], .nilsl, .nilsl, .nilsl]), s 7 8 81], q [r [fa 82 1 8, l 83 82, ar 84 .eql (t 83) (n 0),
  m 85 7, m 86 5, ar 87 .eql (t 85) (t 86), o 88 (.eqs true (t 84) (t 87))]] (.cond (t 88) (q [r [mv 2 ff]] (.ret)) (sk)), q [r [fa 89 6 8, l 90 89, le 91 90,
  fa 92 2 1, l 93 92, le 94 93, ar 95 .gtr (t 91) (t 94)]] (.cond (t 95) (q [r [mv 2 ff]] (.ret)) (sk)), r [mv 9 (n 0)]] (.block 4 (.loop (q [q [r [m 96 9,
  fa 97 6 8, l 98 97, le 99 98, ar 100 .lss (t 96) (t 99)]] (.cond (t 100) (sk) (.exit 4)), .block 5 (q [d [(ln 103 3 1, 0), (fa 104 6 8, 0), (l 105 104,
  2), (m 106 9, 0), (ia 107 1 105 (t 106), 14), (l 108 107, 30), (c 109 66 [t 103, t 108], 63), (m 10 109, 127)], q [d [(m 110 10, 0), (ar 111 .lss (t 110) (n 0),
  1), (m 112 111, 3), (og 113 (.fldA 2 (t 1)) 112 false, 7), (og 114 (.ld1 (t 113)) 112 false, 15), (og 115 (.mov (t 10)) 112 false, 7), (og 116 (.idxA 7 (t 114) (t 115)) 112 false,
  63), (og 117 (.fldA 1 (t 116)) 112 false, 127), (og 118 (.ld1 (t 117)) 112 false, 255), (og 119 (.fldA 0 (t 8)) 112 false, 7), (og 120 (.ld1 (t 119)) 112 false,
  519), (og 121 (.arith .neq (t 118) (t 120)) 112 false, 2047), (o 122 (.pick (t 112) tt (t 121)), 4095)]] (.cond (t 122) (q [r [mv 2 ff]] (.ret)) (sk)),
  q [r [mv 11 (n 0)]] (.block 6 (.loop (q [q [r [m 123 11, m 124 9, ar 125 .lss (t 123) (t 124)]] (.cond (t 125) (sk) (.exit 6)), .block 7 (q [d [(fa 128 6 8,
  0), (l 129 128, 1), (m 130 11, 0), (ia 131 1 129 (t 130), 7), (l 132 131, 15), (fa 133 6 8, 0), (l 134 133, 32), (m 135 9, 0), (ia 136 1 134 (t 135), 224),
  (l 137 136, 480), (ar 138 .eql (t 132) (t 137), 1023)]] (.cond (t 138) (q [r [mv 2 ff]] (.ret)) (sk)))] (r [m 126 11, ar 127 .add (t 126) (n 1), m 11 127]))))] (r [m 139 6,
  ar 140 .add (t 139) (n 1), m 6 140]))] (r [m 101 9, ar 102 .add (t 101) (n 1), m 9 102])))))] (r [m 75 7, ar 76 .add (t 75) (n 1), m 7 76])))), q [r [m 141 6,
  fa 142 2 1, l 143 142, le 144 143, ar 145 .sub (t 144) (n 1), ar 146 .neq (t 141) (t 145)]] (.cond (t 146) (q [r [mv 2 ff]] (.ret)) (sk)), d [(ln 147 3 1,
  0), (fa 148 0 1, 0), (l 149 148, 2), (c 150 65 [t 147, t 149, .const (.nilsl)], 7), (le 151 150, 15), (fa 152 2 1, 0), (l 153 152, 32), (le 154 153, 96),
  (ar 155 .eql (t 151) (t 154), 255), (m 2 155, 511)]] (.ret)⟩
theorem A116_ok : XOk Tryz.prog ITS 116 A116 := ⟨Tryz.f116, Tryz.func116, by kernel_rfl, by decide, by kernel_rfl, its_nil (by kernel_rfl)⟩

/- widgetry/widgetryref14.describe -/
def A117 : AFn := ⟨40, [.cell 4 (some 5)], q [r [o 2 (.box (t 0)), o 4 (.new [.int .i64 0, .str [], .nilsl, .nilsl, .nilsl])], r [ln 8 3 2, m 9 1, c 10 30 [t 8, t 9], o 5 (.new [.int .i64 0, .int .i64 0,
  .int .i64 0, .str [], .nilsl, .nilsl, .nilsl]), s 7 5 10], r [fa 11 2 5, l 12 11, fa 13 3 5, l 14 13, fa 15 4 5, l 16 15, fa 17 5 5, l 18 17, o 19 (.build [.int .i64 0,
  .str [], .nilsl, .nilsl, .nilsl] [(0, 1, .tmp 12), (1, 1, .tmp 14), (2, 1, .tmp 16), (3, 1, .tmp 18)]), o 6 (.new [.int .i64 0, .str [], .nilsl, .nilsl,
  .nilsl]), s 5 6 19], q [r [mv 7 (n 0)]] (.block 0 (.loop (q [q [r [m 20 7, fa 21 6 5, l 22 21, le 23 22, ar 24 .lss (t 20) (t 23)]] (.cond (t 24) (sk) (.exit 0)),
  .block 1 (d [(fa 27 4 6, 0), (l 28 27, 1), (ln 29 3 2, 0), (fa 30 6 5, 0), (l 31 30, 8), (m 32 7, 0), (ia 33 1 31 (t 32), 56), (l 34 33, 120), (c 35 117 [t 29,
  t 34], 252), (o 36 (.buildSl 5 1 [.int .i64 0, .str [], .nilsl, .nilsl, .nilsl] [(0, 5, .tmp 35)]), 508), (o 37 (.app 5 96 (t 28) (t 36)), 1023), (fa 38 4 6,
  2047), (s 1 38 37, 4095)])] (r [m 25 7, ar 26 .add (t 25) (n 1), m 7 26])))), r [ln 39 5 6, s 5 4 39]] (.ret)⟩
theorem A117_ok : XOk Tryz.prog ITS 117 A117 := ⟨Tryz.f117, Tryz.func117, by kernel_rfl, by decide, by kernel_rfl, its_nil (by kernel_rfl)⟩

/- widgetry/widgetryref17.States -/
def A119 : AFn := ⟨24, [.tmp 4], q [r [mv 4 (n 0)], q [r [mv 5 (n 0)]] (.block 0 (.loop (q [q [r [m 6 5, m 7 0, le 8 7, ar 9 .lss (t 6) (t 8)]] (.cond (t 9) (sk) (.exit 0)), .block 1 (q [r [m 12 0,
  m 13 5, ia 14 2 12 (t 13), fa 15 0 14, l 16 15, m 17 1, ar 18 .eql (t 16) (t 17)]] (.cond (t 18) (q [r [m 19 0, m 20 5, ia 21 2 19 (t 20), fa 22 1 21,
  l 23 22, m 4 23]] (.ret)) (sk)))] (r [m 10 5, ar 11 .add (t 10) (n 1), m 5 11])))), r [mv 4 (n 0)]] (.ret)⟩
theorem A119_ok : XOk Tryz.prog ITS 119 A119 := ⟨Tryz.f119, Tryz.func119, by kernel_rfl, by decide, by kernel_rfl, its_nil (by kernel_rfl)⟩

/- widgetry/widgetryref01.Clamp -/
def A120 : AFn := ⟨21, [.tmp 6], q [r [mv 6 (n 0)], q [r [m 7 0, m 8 1, ar 9 .lss (t 7) (t 8), m 10 9, og 11 (.mov (t 2)) 10 false, og 12 (.mov (t 1)) 10 false, og 13 (.arith .lss (t 11) (t 12)) 10 false,
  o 14 (.pick (t 10) tt (t 13))]] (.cond (t 14) (q [r [m 15 1, m 6 15]] (.ret)) (sk)), q [r [m 16 0, m 17 2, ar 18 .gtr (t 16) (t 17)]] (.cond (t 18) (q [r [m 19 2,
  m 6 19]] (.ret)) (sk)), r [m 20 0, m 6 20]] (.ret)⟩
theorem A120_ok : XOk Tryz.prog ITS 120 A120 := ⟨Tryz.f120, Tryz.func120, by kernel_rfl, by decide, by kernel_rfl, its_nil (by kernel_rfl)⟩

/- widgetry/widgetryref01.Scale -/
def A121 : AFn := ⟨35, [.tmp 6, .tmp 7], q [r [mv 6 (n 0), mv 7 (n 0)], q [r [m 8 0, ar 9 .lss (t 8) (n (-1099511627776)), m 10 9, og 11 (.mov (t 0)) 10 false, og 12 (.arith .gtr (t 11) (n 1099511627776)) 10 false,
  o 13 (.pick (t 10) tt (t 12)), m 14 13, og 15 (.mov (t 1)) 14 false, og 16 (.arith .lss (t 15) (n 0)) 14 false, o 17 (.pick (t 14) tt (t 16)), m 18 17,
  og 19 (.mov (t 1)) 18 false, og 20 (.arith .gtr (t 19) (n 65536)) 18 false, o 21 (.pick (t 18) tt (t 20)), m 22 21, og 23 (.mov (t 2)) 22 false, og 24 (.arith .lss (t 23) (n 1)) 22 false,
  o 25 (.pick (t 22) tt (t 24)), m 26 25, og 27 (.mov (t 2)) 26 false, og 28 (.arith .gtr (t 27) (n 65536)) 26 false, o 29 (.pick (t 26) tt (t 28))]] (.cond (t 29) (q [r [mv 6 (n 0),
  mv 7 (n 1)]] (.ret)) (sk)), r [m 30 0, m 31 1, ar 32 .mul (t 30) (t 31), m 33 2, c 34 173 [t 32, t 33], m 6 34, mv 7 (n 0)]] (.ret)⟩
theorem A121_ok : XOk Tryz.prog ITS 121 A121 := ⟨Tryz.f121, Tryz.func121, by kernel_rfl, by decide, by kernel_rfl, its_nil (by kernel_rfl)⟩

/- widgetry/widgetryref11.check -/
def A122 : AFn := ⟨184, [.cell 6 (some 2), .tmp 7, .tmp 8], q [r [o 3 (.box (t 0)), o 6 (.new [.int .i64 0, .nilsl]), mv 7 (n 0), mv 8 (n 0)], r [m 18 2, ar 19 .add (t 18) (n 1), m 2 19], r [fa 20 0 3, l 21 20,
  ar 22 .eql (t 21) (n 4), m 9 22], q [r [m 23 9, m 24 23, og 25 (.mov (t 1)) 24 true, og 26 (.arith .gtr (t 25) (n 16)) 24 true, o 27 (.pick (t 24) (t 26) ff)]] (.cond (t 27) (q [r [o 28 (.build [.int .i64 0,
  .nilsl] []), m 29 2, s 2 6 28, m 7 29, mv 8 (n 8)]] (.ret)) (sk)), q [r [fa 30 0 3, l 31 30, ar 32 .lss (t 31) (n 1), m 33 32, og 34 (.fldA 0 (t 3)) 33 false,
  og 35 (.ld1 (t 34)) 33 false, og 36 (.arith .gtr (t 35) (n 4)) 33 false, o 37 (.pick (t 33) tt (t 36)), m 38 37, og 39 (.fldA 1 (t 3)) 38 false, og 40 (.ld1 (t 39)) 38 false,
  og 41 (.arith .neq (t 40) (n 0)) 38 false, og 42 (.mov (t 41)) 38 false, og 43 (.fldA 0 (t 3)) 42 true, og 44 (.ld1 (t 43)) 42 true, og 45 (.arith .neq (t 44) (n 1)) 42 true,
  og 46 (.pick (t 42) (t 45) ff) 38 false, og 47 (.mov (t 46)) 38 false, og 48 (.fldA 0 (t 3)) 47 true, og 49 (.ld1 (t 48)) 47 true, og 50 (.arith .neq (t 49) (n 2)) 47 true,
  og 51 (.pick (t 47) (t 50) ff) 38 false, o 52 (.pick (t 38) tt (t 51)), m 53 52, og 54 (.fldA 2 (t 3)) 53 false, og 55 (.ld1 (t 54)) 53 false, og 56 (.arith .neq (t 55) (.const (.str []))) 53 false,
  og 57 (.mov (t 56)) 53 false, og 58 (.fldA 0 (t 3)) 57 true, og 59 (.ld1 (t 58)) 57 true, og 60 (.arith .neq (t 59) (n 3)) 57 true, og 61 (.pick (t 57) (t 60) ff) 53 false,
  o 62 (.pick (t 53) tt (t 61)), m 63 62, og 64 (.fldA 3 (t 3)) 63 false, og 65 (.ld1 (t 64)) 63 false, og 66 (.len (t 65)) 63 false, og 67 (.arith .gtr (t 66) (n 0)) 63 false,
  og 68 (.mov (t 67)) 63 false, og 69 (.mov (t 9)) 68 true, og 70 (.un .not (t 69)) 68 true, og 71 (.pick (t 68) (t 70) ff) 63 false, o 72 (.pick (t 63) tt (t 71))]] (.cond (t 72) (q [r [o 73 (.build [.int .i64 0,
  .nilsl] []), m 74 2, s 2 6 73, m 7 74, mv 8 (n 9)]] (.ret)) (sk)), q [r [fa 75 0 3, l 76 75, ar 77 .eql (t 76) (n 1), m 78 77, og 79 (.fldA 1 (t 3)) 78 true,
  og 80 (.ld1 (t 79)) 78 true, og 81 (.arith .lss (t 80) (n (-1099511627776))) 78 true, og 82 (.mov (t 81)) 78 true, og 83 (.fldA 1 (t 3)) 82 false, og 84 (.ld1 (t 83)) 82 false,
  og 85 (.arith .gtr (t 84) (n 1099511627776)) 82 false, og 86 (.pick (t 82) tt (t 85)) 78 true, o 87 (.pick (t 78) (t 86) ff), m 88 87, og 89 (.fldA 0 (t 3)) 88 false,
  og 90 (.ld1 (t 89)) 88 false, og 91 (.arith .eql (t 90) (n 2)) 88 false, og 92 (.mov (t 91)) 88 false, og 93 (.fldA 1 (t 3)) 92 true, og 94 (.ld1 (t 93)) 92 true,
  og 95 (.arith .neq (t 94) (n 0)) 92 true, og 96 (.pick (t 92) (t 95) ff) 88 false, og 97 (.mov (t 96)) 88 false, og 98 (.fldA 1 (t 3)) 97 true, og 99 (.ld1 (t 98)) 97 true,
  og 100 (.arith .neq (t 99) (n 1)) 97 true, og 101 (.pick (t 97) (t 100) ff) 88 false, o 102 (.pick (t 88) tt (t 101))]] (.cond (t 102) (q [r [o 103 (.build [.int .i64 0,
  .nilsl] []), m 104 2, s 2 6 103, m 7 104, mv 8 (n 1)]] (.ret)) (sk)), q [r [fa 105 2 3, l 106 105, o 107 (.lenS (t 106)), ar 108 .gtr (t 107) (n 2000),
  m 109 108, og 110 (.fldA 3 (t 3)) 109 false, og 111 (.ld1 (t 110)) 109 false, og 112 (.len (t 111)) 109 false, og 113 (.arith .gtr (t 112) (n 100)) 109 false,
  o 114 (.pick (t 109) tt (t 113)), m 115 114, og 116 (.mov (t 2)) 115 false, og 117 (.arith .gtr (t 116) (n 1000)) 115 false, o 118 (.pick (t 115) tt (t 117))]] (.cond (t 118) (q [r [o 119 (.build [.int .i64 0,
  .nilsl] []), m 120 2, s 2 6 119, m 7 120, mv 8 (n 2)]] (.ret)) (sk)), q [r [fa 121 2 3, l 122 121, c 123 174 [t 122], o 124 (.un .not (t 123))]] (.cond (t 124) (q [r [o 125 (.build [.int .i64 0,
  .nilsl] []), m 126 2, s 2 6 125, m 7 126, mv 8 (n 3)]] (.ret)) (sk)), r [fa 127 0 3, l 128 127, o 129 (.build [.int .i64 0, .nilsl] [(0, 1, .tmp 128)]),
  o 10 (.new [.int .i64 0, .nilsl]), s 2 10 129], r [mv 11 tt], q [r [mv 12 (n 0)]] (.block 0 (.loop (q [q [r [m 130 12, fa 131 3 3, l 132 131, le 133 132,
  ar 134 .lss (t 130) (t 133)]] (.cond (t 134) (sk) (.exit 0)), .block 1 (q [r [fa 138 3 3, l 139 138, m 140 12, ia 141 4 139 (t 140), ln 142 4 141, m 143 1,
  ar 144 .add (t 143) (n 1), m 145 2, c 146 122 [t 142, t 144, t 145], m 137 146, ex 147 137 0, ex 148 137 1, ex 149 137 2, o 13 (.new [.int .i64 0, .nilsl]),
  s 2 13 147, m 14 148, m 15 149], r [m 150 14, m 2 150], q [r [m 151 15, ar 152 .neq (t 151) (n 0)]] (.cond (t 152) (q [r [o 153 (.build [.int .i64 0, .nilsl] []),
  m 154 2, m 155 15, s 2 6 153, m 7 154, m 8 155]] (.ret)) (sk)), q [r [m 156 11, o 157 (.un .not (t 156))]] (.cond (t 157) (.exit 1) (sk)), q [r [fa 158 1 10,
  l 159 158, le 160 159, ar 161 .eql (t 160) (n 0)]] (.cond (t 161) (q [r [ln 162 2 13, o 163 (.buildSl 2 1 [.int .i64 0, .nilsl] [(0, 2, .tmp 162)]), fa 164 1 10,
  s 1 164 163]] (.exit 1)) (sk)), d [(fa 166 1 10, 0), (l 167 166, 1), (ia 168 2 167 (n 0), 3), (ln 169 2 168, 7), (ln 170 2 13, 0), (c 171 175 [t 169, t 170],
  31), (m 165 171, 63), (ex 172 165 0, 127), (ex 173 165 1, 127), (o 16 (.new [.int .i64 0, .nilsl]), 0), (s 2 16 172, 767), (m 17 173, 2047)], r [m 174 17,
  m 11 174]] (r [ln 175 2 16, o 176 (.buildSl 2 1 [.int .i64 0, .nilsl] [(0, 2, .tmp 175)]), fa 177 1 10, s 1 177 176]))] (r [m 135 12, ar 136 .add (t 135) (n 1),
  m 12 136])))), q [r [m 178 11, o 179 (.un .not (t 178))]] (.cond (t 179) (q [r [o 180 (.build [.int .i64 0, .nilsl] []), m 181 2, s 2 6 180, m 7 181, mv 8 (n 5)]] (.ret)) (sk)),
  r [ln 182 2 10, m 183 2, s 2 6 182, m 7 183, mv 8 (n 0)]] (.ret)⟩
theorem A122_ok : XOk Tryz.prog ITS 122 A122 := ⟨Tryz.f122, Tryz.func122, by kernel_rfl, by decide, by kernel_rfl, its_nil (by kernel_rfl)⟩

/- widgetry/view.graph -/
def A123 : AFn := ⟨139, [.tmp 2, .tmp 3], q [r [o 1 (.box (t 0)), mv 2 (.const (.nilmap)), mv 3 ff], q [r [fa 17 1 1, l 18 17, ar 19 .lss (t 18) (n 2), m 20 19, og 21 (.fldA 1 (t 1)) 20 false,
  og 22 (.ld1 (t 21)) 20 false, og 23 (.arith .gtr (t 22) (n 1099511627776)) 20 false, o 24 (.pick (t 20) tt (t 23)), m 25 24, og 26 (.fldA 2 (t 1)) 25 false,
  og 27 (.ld1 (t 26)) 25 false, og 28 (.len (t 27)) 25 false, og 29 (.arith .lss (t 28) (n 1)) 25 false, o 30 (.pick (t 25) tt (t 29)), m 31 30, og 32 (.fldA 2 (t 1)) 31 false,
  og 33 (.ld1 (t 32)) 31 false, og 34 (.len (t 33)) 31 false, og 35 (.arith .gtr (t 34) (n 400)) 31 false, o 36 (.pick (t 31) tt (t 35))]] (.cond (t 36) (q [r [mv 2 (.const (.nilmap)),
  mv 3 ff]] (.ret)) (sk)), r [o 37 (.xo .mkmap []), m 4 37], r [mv 5 (n 0)], q [r [fa 38 2 1, l 39 38, le 40 39, mv 41 (n 0)]] (.block 0 (.loop (q [r [ar 42 .lss (t 41) (t 40)],
  .cond (t 42) (sk) (.exit 0), .block 1 (q [r [ia 43 7 39 (t 41), ln 44 7 43, o 7 (.new [.int .i64 0, .int .i64 0, .int .i64 0, .str [], .nilsl, .nilsl,
  .nilsl]), s 7 7 44], q [r [fa 45 0 7, l 46 45, m 47 5, ar 48 .leq (t 46) (t 47), m 49 48, og 50 (.fldA 0 (t 7)) 49 false, og 51 (.ld1 (t 50)) 49 false,
  og 52 (.fldA 1 (t 1)) 49 false, og 53 (.ld1 (t 52)) 49 false, og 54 (.arith .geq (t 51) (t 53)) 49 false, o 55 (.pick (t 49) tt (t 54)), m 56 55, og 57 (.fldA 1 (t 7)) 56 false,
  og 58 (.ld1 (t 57)) 56 false, og 59 (.arith .eql (t 58) (n 0)) 56 false, og 60 (.fldA 0 (t 7)) 56 false, og 61 (.ld1 (t 60)) 56 false, og 62 (.fldA 0 (t 1)) 56 false,
  og 63 (.ld1 (t 62)) 56 false, og 64 (.arith .eql (t 61) (t 63)) 56 false, og 65 (.eqs true (t 59) (t 64)) 56 false, o 66 (.pick (t 56) tt (t 65))]] (.cond (t 66) (q [r [mv 2 (.const (.nilmap)),
  mv 3 ff]] (.ret)) (sk)), r [fa 67 0 7, l 68 67, m 5 68]] (r [m 69 4, fa 70 0 7, l 71 70, ln 72 7 7, on (.xo (.mapset (.one (.int .i64))) [t 69, t 71, t 72])]))] (r [ar 73 .add (t 41) (n 1),
  m 41 73])))), q [r [m 75 4, fa 76 0 1, l 77 76, o 78 (.xo (.mapget (.one (.int .i64)) true (.agg [.int .i64 0, .int .i64 0, .int .i64 0, .str [], .nilsl,
  .nilsl, .nilsl])) [t 75, t 77]), m 74 78, ex 79 74 0, ex 80 74 1, o 8 (.new [.int .i64 0, .int .i64 0, .int .i64 0, .str [], .nilsl, .nilsl, .nilsl]),
  s 7 8 79, m 9 80], r [m 81 9, o 82 (.un .not (t 81))]] (.cond (t 82) (q [r [mv 2 (.const (.nilmap)), mv 3 ff]] (.ret)) (sk)), r [o 83 (.xo .mkmap []),
  fa 84 0 1, l 85 84, on (.xo (.mapset (.one (.int .i64))) [t 83, t 85, tt]), m 86 83, m 10 86], q [r [fa 87 2 1, l 88 87, le 89 88, mv 90 (n 0)]] (.block 2 (.loop (q [r [ar 91 .lss (t 90) (t 89)],
  .cond (t 91) (sk) (.exit 2), .block 3 (q [r [ia 92 7 88 (t 90), ln 93 7 92, o 12 (.new [.int .i64 0, .int .i64 0, .int .i64 0, .str [], .nilsl, .nilsl,
  .nilsl]), s 7 12 93], r [fa 94 6 12, l 95 94, le 96 95, mv 97 (n 0)]] (.block 4 (.loop (q [r [ar 98 .lss (t 97) (t 96)], .cond (t 98) (sk) (.exit 4), .block 5 (q [r [ia 99 1 95 (t 97),
  l 100 99, m 14 100], q [r [m 102 4, m 103 14, o 104 (.xo (.mapget (.one (.int .i64)) true (.agg [.int .i64 0, .int .i64 0, .int .i64 0, .str [], .nilsl,
  .nilsl, .nilsl])) [t 102, t 103]), m 101 104, ex 105 101 0, ex 106 101 1, o 15 (.new [.int .i64 0, .int .i64 0, .int .i64 0, .str [], .nilsl, .nilsl, .nilsl]),
  s 7 15 105, m 16 106], r [m 107 16, o 108 (.un .not (t 107)), m 109 108, og 110 (.fldA 1 (t 15)) 109 false, og 111 (.ld1 (t 110)) 109 false, og 112 (.fldA 0 (t 12)) 109 false,
  og 113 (.ld1 (t 112)) 109 false, og 114 (.arith .neq (t 111) (t 113)) 109 false, o 115 (.pick (t 109) tt (t 114)), m 116 115, og 117 (.mov (t 10)) 116 false,
  og 118 (.mov (t 14)) 116 false, og 119 (.xo (.mapget (.one (.int .i64)) false (.bool false)) [t 117, t 118]) 116 false, o 120 (.pick (t 116) tt (t 119))]] (.cond (t 120) (q [r [mv 2 (.const (.nilmap)),
  mv 3 ff]] (.ret)) (sk))] (r [m 121 10, m 122 14, on (.xo (.mapset (.one (.int .i64))) [t 121, t 122, tt])]))] (r [ar 123 .add (t 97) (n 1), m 97 123])))))] (r [ar 124 .add (t 90) (n 1),
  m 90 124])))), q [r [m 125 10, o 126 (.xo .maplen [t 125]), m 127 4, o 128 (.xo .maplen [t 127]), ar 129 .neq (t 126) (t 128)]] (.cond (t 129) (q [r [mv 2 (.const (.nilmap)),
  mv 3 ff]] (.ret)) (sk)), r [m 130 4, m 131 4, fa 132 0 1, l 133 132, c 134 176 [t 131, t 133], le 135 134, m 136 4, o 137 (.xo .maplen [t 136]), ar 138 .eql (t 135) (t 137),
  m 2 130, m 3 138]] (.ret)⟩
theorem A123_ok : XOk Tryz.prog ITS 123 A123 := ⟨Tryz.f123, Tryz.func123, by kernel_rfl, by decide, by kernel_rfl, its_nil (by kernel_rfl)⟩

/- widgetry/view.described -/
def A124 : AFn := ⟨38, [.cell 4 (some 5)], q [r [o 4 (.new [.int .i64 0, .str [], .nilsl, .nilsl, .nilsl])], r [m 9 0, m 10 1, o 11 (.xo (.mapget (.one (.int .i64)) false (.agg [.int .i64 0, .int .i64 0,
  .int .i64 0, .str [], .nilsl, .nilsl, .nilsl])) [t 9, t 10]), o 5 (.new [.int .i64 0, .int .i64 0, .int .i64 0, .str [], .nilsl, .nilsl, .nilsl]), s 7 5 11],
  r [fa 12 2 5, l 13 12, fa 14 3 5, l 15 14, fa 16 4 5, l 17 16, fa 18 5 5, l 19 18, o 20 (.build [.int .i64 0, .str [], .nilsl, .nilsl, .nilsl] [(0, 1,
  .tmp 13), (1, 1, .tmp 15), (2, 1, .tmp 17), (3, 1, .tmp 19)]), o 6 (.new [.int .i64 0, .str [], .nilsl, .nilsl, .nilsl]), s 5 6 20], q [r [fa 21 6 5, l 22 21,
  le 23 22, mv 24 (n 0)]] (.block 0 (.loop (q [r [ar 25 .lss (t 24) (t 23)], .cond (t 25) (sk) (.exit 0), .block 1 (q [r [ia 26 1 22 (t 24), l 27 26, m 8 27]] (d [(fa 28 4 6,
  0), (l 29 28, 1), (m 30 0, 0), (m 31 8, 0), (c 32 124 [t 30, t 31], 12), (o 33 (.buildSl 5 1 [.int .i64 0, .str [], .nilsl, .nilsl, .nilsl] [(0, 5, .tmp 32)]),
  28), (o 34 (.app 5 96 (t 29) (t 33)), 63), (fa 35 4 6, 127), (s 1 35 34, 255)]))] (r [ar 36 .add (t 24) (n 1), m 24 36])))), r [ln 37 5 6, s 5 4 37]] (.ret)⟩
theorem A124_ok : XOk Tryz.prog ITS 124 A124 := ⟨Tryz.f124, Tryz.func124, by kernel_rfl, by decide, by kernel_rfl, its_nil (by kernel_rfl)⟩

/- widgetry/view.Validate -/
def A125 : AFn := ⟨6, [.tmp 2], q [r [o 1 (.box (t 0)), mv 2 (n 0)], r [o 3 (.new [.int .i64 0]), sv 1 3 (n 0)], r [ln 4 5 1, c 5 177 [t 4, n 1, t 3], m 2 5]] (.ret)⟩
theorem A125_ok : XOk Tryz.prog ITS 125 A125 := ⟨Tryz.f125, Tryz.func125, by kernel_rfl, by decide, by kernel_rfl, its_nil (by kernel_rfl)⟩

/- widgetry/style.exists -/
def A126 : AFn := ⟨9, [.tmp 2], q [r [mv 2 ff], r [m 3 0, ar 4 .geq (t 3) (n 0), m 5 4, og 6 (.mov (t 0)) 5 true, og 7 (.arith .lss (t 6) (n 22)) 5 true, o 8 (.pick (t 5) (t 7) ff), m 2 8]] (.ret)⟩
theorem A126_ok : XOk Tryz.prog ITS 126 A126 := ⟨Tryz.f126, Tryz.func126, by kernel_rfl, by decide, by kernel_rfl, its_nil (by kernel_rfl)⟩

/- widgetry/font.within -/
def A127 : AFn := ⟨15, [.tmp 6], q [r [mv 6 ff], r [m 7 0, m 8 1, ar 9 .geq (t 7) (t 8), m 10 9, og 11 (.mov (t 0)) 10 true, og 12 (.mov (t 2)) 10 true, og 13 (.arith .leq (t 11) (t 12)) 10 true,
  o 14 (.pick (t 10) (t 13) ff), m 6 14]] (.ret)⟩
theorem A127_ok : XOk Tryz.prog ITS 127 A127 := ⟨Tryz.f127, Tryz.func127, by kernel_rfl, by decide, by kernel_rfl, its_nil (by kernel_rfl)⟩

/- widgetry/view.Attr -/
def A130 : AFn := ⟨23, [.cell 4 (some 4), .tmp 5], q [r [o 4 (.new [.int .i64 0, .int .i64 0, .str [], .nilsl]), mv 5 ff], q [r [m 8 0, le 9 8, mv 10 (n 0)]] (.block 0 (.loop (q [r [ar 11 .lss (t 10) (t 9)],
  .cond (t 11) (sk) (.exit 0), .block 1 (q [r [ia 12 5 8 (t 10), ln 13 5 12, o 7 (.new [.str [], .int .i64 0, .int .i64 0, .str [], .nilsl]), s 5 7 13],
  r [fa 14 0 7, l 15 14, m 16 1, ar 17 .eql (t 15) (t 16)]] (.cond (t 17) (q [r [fa 18 1 7, ln 19 4 18, c 20 180 [t 19], s 4 4 20, mv 5 tt]] (.ret)) (sk)))] (r [ar 21 .add (t 10) (n 1),
  m 10 21])))), r [o 22 (.build [.int .i64 0, .int .i64 0, .str [], .nilsl] []), s 4 4 22, mv 5 ff]] (.ret)⟩
theorem A130_ok : XOk Tryz.prog ITS 130 A130 := ⟨Tryz.f130, Tryz.func130, by kernel_rfl, by decide, by kernel_rfl, its_nil (by kernel_rfl)⟩

/- widgetry/paragraph.covers -/
def A131 : AFn := ⟨50, [.tmp 4], q [r [mv 4 ff], q [r [m 8 1, ar 9 .eql (t 8) (n 0)]] (.cond (t 9) (q [r [m 10 0, le 11 10, ar 12 .eql (t 11) (n 1), m 13 12, og 14 (.mov (t 0)) 13 true,
  og 15 (.idxA 4 (t 14) (n 0)) 13 true, og 16 (.fldA 0 (t 15)) 13 true, og 17 (.ld1 (t 16)) 13 true, og 18 (.arith .eql (t 17) (n 0)) 13 true, o 19 (.pick (t 13) (t 18) ff),
  m 20 19, og 21 (.mov (t 0)) 20 true, og 22 (.idxA 4 (t 21) (n 0)) 20 true, og 23 (.fldA 1 (t 22)) 20 true, og 24 (.ld1 (t 23)) 20 true, og 25 (.arith .eql (t 24) (n 0)) 20 true,
  o 26 (.pick (t 20) (t 25) ff), m 4 26]] (.ret)) (sk)), r [mv 5 (n 0)], q [r [m 27 0, le 28 27, mv 29 (n 0)]] (.block 0 (.loop (q [r [ar 30 .lss (t 29) (t 28)],
  .cond (t 30) (sk) (.exit 0), .block 1 (q [r [ia 31 4 27 (t 29), ln 32 4 31, o 7 (.new [.int .i64 0, .int .i64 0, .int .i64 0, .int .i64 0]), s 4 7 32],
  q [r [fa 33 0 7, l 34 33, m 35 5, ar 36 .neq (t 34) (t 35), m 37 36, og 38 (.fldA 1 (t 7)) 37 false, og 39 (.ld1 (t 38)) 37 false, og 40 (.fldA 0 (t 7)) 37 false,
  og 41 (.ld1 (t 40)) 37 false, og 42 (.arith .leq (t 39) (t 41)) 37 false, o 43 (.pick (t 37) tt (t 42))]] (.cond (t 43) (q [r [mv 4 ff]] (.ret)) (sk))] (r [fa 44 1 7,
  l 45 44, m 5 45]))] (r [ar 46 .add (t 29) (n 1), m 29 46])))), r [m 47 5, m 48 1, ar 49 .eql (t 47) (t 48), m 4 49]] (.ret)⟩
theorem A131_ok : XOk Tryz.prog ITS 131 A131 := ⟨Tryz.f131, Tryz.func131, by kernel_rfl, by decide, by kernel_rfl, its_nil (by kernel_rfl)⟩

/- widgetry/linebreak.Breaks -/
def A132 : AFn := ⟨38, [.tmp 2], q [r [mv 2 (.const (.nilsl))], q [r [m 6 0, le 7 6, ar 8 .eql (t 7) (n 0), m 9 8, og 10 (.mov (t 0)) 9 false, og 11 (.len (t 10)) 9 false, og 12 (.arith .gtr (t 11) (n 2000)) 9 false,
  o 13 (.pick (t 9) tt (t 12))]] (.cond (t 13) (q [r [mv 2 (.const (.nilsl))]] (.ret)) (sk)), r [m 14 0, c 15 181 [t 14], o 3 (.new [.nilsl, .nilsl, .nilsl]),
  s 3 3 15], r [m 16 0, le 17 16, o 18 (.mksl 1 8 [.int .i64 0] (t 17) (t 17)), m 4 18], q [r [mv 5 (n 1)]] (.block 0 (.loop (q [q [r [m 19 5, m 20 0, le 21 20,
  ar 22 .lss (t 19) (t 21)]] (.cond (t 22) (sk) (.exit 0)), .block 1 (r [m 25 4, m 26 5, ar 27 .sub (t 26) (n 1), ln 28 3 3, m 29 5, c 30 182 [t 28, t 29],
  ia 31 1 25 (t 27), s 1 31 30])] (r [m 23 5, ar 24 .add (t 23) (n 1), m 5 24])))), r [m 32 4, m 33 0, le 34 33, ar 35 .sub (t 34) (n 1), ia 36 1 32 (t 35),
  sv 1 36 (n 2)], r [m 37 4, m 2 37]] (.ret)⟩
theorem A132_ok : XOk Tryz.prog ITS 132 A132 := ⟨Tryz.f132, Tryz.func132, by kernel_rfl, by decide, by kernel_rfl, its_nil (by kernel_rfl)⟩
def xtr1 : XT := .node 92 (.node 78 (.node 70 (.node 67 (.node 65 (.one 64 A64) (.node 66 (.one 65 A65) (.one 66 A66))) (.node 68 (.one 67 A67) (.node 69 (.one 68 A68) (.one 69 A69)))) (.node 74 (.node 72 (.one 70 A70) (.node 73 (.one 72 A72) (.one 73 A73))) (.node 76 (.node 75 (.one 74 A74) (.one 75 A75)) (.node 77 (.one 76 A76) (.one 77 A77))))) (.node 85 (.node 81 (.node 79 (.one 78 A78) (.node 80 (.one 79 A79) (.one 80 A80))) (.node 83 (.node 82 (.one 81 A81) (.one 82 A82)) (.node 84 (.one 83 A83) (.one 84 A84)))) (.node 88 (.node 86 (.one 85 A85) (.node 87 (.one 86 A86) (.one 87 A87))) (.node 90 (.node 89 (.one 88 A88) (.one 89 A89)) (.node 91 (.one 90 A90) (.one 91 A91)))))) (.node 116 (.node 104 (.node 97 (.node 93 (.one 92 A92) (.node 94 (.one 93 A93) (.one 94 A94))) (.node 102 (.node 101 (.one 97 A97) (.one 101 A101)) (.node 103 (.one 102 A102) (.one 103 A103)))) (.node 107 (.node 105 (.one 104 A104) (.node 106 (.one 105 A105) (.one 106 A106))) (.node 113 (.node 108 (.one 107 A107) (.one 108 A108)) (.node 114 (.one 113 A113) (.one 114 A114))))) (.node 124 (.node 120 (.node 117 (.one 116 A116) (.node 119 (.one 117 A117) (.one 119 A119))) (.node 122 (.node 121 (.one 120 A120) (.one 121 A121)) (.node 123 (.one 122 A122) (.one 123 A123)))) (.node 127 (.node 125 (.one 124 A124) (.node 126 (.one 125 A125) (.one 126 A126))) (.node 131 (.node 130 (.one 127 A127) (.one 130 A130)) (.node 132 (.one 131 A131) (.one 132 A132))))))
theorem xtr1_ok : xtr1.Ok Tryz.prog ITS := ⟨⟨⟨⟨⟨A64_ok, ⟨A65_ok, A66_ok⟩⟩, ⟨A67_ok, ⟨A68_ok, A69_ok⟩⟩⟩, ⟨⟨A70_ok, ⟨A72_ok, A73_ok⟩⟩, ⟨⟨A74_ok, A75_ok⟩, ⟨A76_ok, A77_ok⟩⟩⟩⟩, ⟨⟨⟨A78_ok, ⟨A79_ok, A80_ok⟩⟩, ⟨⟨A81_ok, A82_ok⟩, ⟨A83_ok, A84_ok⟩⟩⟩, ⟨⟨A85_ok, ⟨A86_ok, A87_ok⟩⟩, ⟨⟨A88_ok, A89_ok⟩, ⟨A90_ok, A91_ok⟩⟩⟩⟩⟩, ⟨⟨⟨⟨A92_ok, ⟨A93_ok, A94_ok⟩⟩, ⟨⟨A97_ok, A101_ok⟩, ⟨A102_ok, A103_ok⟩⟩⟩, ⟨⟨A104_ok, ⟨A105_ok, A106_ok⟩⟩, ⟨⟨A107_ok, A108_ok⟩, ⟨A113_ok, A114_ok⟩⟩⟩⟩, ⟨⟨⟨A116_ok, ⟨A117_ok, A119_ok⟩⟩, ⟨⟨A120_ok, A121_ok⟩, ⟨A122_ok, A123_ok⟩⟩⟩, ⟨⟨A124_ok, ⟨A125_ok, A126_ok⟩⟩, ⟨⟨A127_ok, A130_ok⟩, ⟨A131_ok, A132_ok⟩⟩⟩⟩⟩⟩
end Go.Proofs.YtfpcmkpfdjnhnaaGreatDoor
end
