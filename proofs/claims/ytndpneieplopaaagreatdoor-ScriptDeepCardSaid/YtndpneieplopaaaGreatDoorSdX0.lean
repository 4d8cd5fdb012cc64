/- Functions of the program as data, first quarter. -/
import Derived.Test.YtndpneieplopaaaGreatDoorEngDZ
import Derived.Test.YtndpneieplopaaaGreatDoorProg
import Derived.KernelRfl
set_option linter.unusedSimpArgs false
set_option linter.unusedVariables false
set_option linter.unnecessarySimpa false
noncomputable section
namespace Go.Proofs.YtndpneieplopaaaGreatDoor
open Go.Eng Go.Eng.DZ
set_option maxRecDepth 100000
/- widgetry/widgetrylaw45.ScriptTexts -/
def A3 : AFn := ⟨92, [.tmp 4], q [r [mv 4 ff], q [r [m 18 0, o 19 (.lenS (t 18)), ar 20 .gtr (t 19) (n 300)]] (.cond (t 20) (q [r [mv 4 tt]] (.ret)) (sk)), r [m 21 1, c 22 7 [t 21],
  m 5 22], r [mv 6 (.const (.nilsl))], q [r [m 23 5, c 24 8 [t 23, n 4], m 7 24]] (.block 0 (.loop (q [q [r [m 25 7, ar 26 .gtr (t 25) (n 0)]] (.cond (t 26) (sk) (.exit 0)),
  .block 1 (r [m 29 6, m 30 5, c 31 9 [t 30], o 32 (.buildSl 37 1 [.int .i64 0, .int .i64 0, .int .i64 0, .int .i64 0, .int .i64 0, .int .i64 0, .int .i64 0,
  .int .i64 0, .int .i64 0, .int .i64 0, .int .i64 0, .int .i64 0, .bool false, .bool false, .int .i64 0, .nilsl, .int .i64 0, .int .i64 0, .int .i64 0,
  .int .i64 0, .int .i64 0, .str [], .int .i64 0, .nilsl, .nilsl, .nilsl, .int .i64 0, .int .i64 0, .bool false, .int .i64 0, .int .i64 0, .int .i64 0, .int .i64 0,
  .int .i64 0, .int .i64 0, .nilsl, .int .i64 0] [(0, 37, .tmp 31)]), o 33 (.app 37 376 (t 29) (t 32)), m 6 33])] (r [m 27 7, ar 28 .sub (t 27) (n 1), m 7 28])))),
  r [m 35 6, c 36 10 [t 35], m 34 36, ex 37 34 0, ex 38 34 1, m 8 37, m 9 38], r [m 39 0, m 40 8, m 41 5, m 42 8, c 43 11 [t 41, t 42], m 44 5, m 45 8, c 46 11 [t 44,
  t 45], m 47 5, m 48 5, m 49 8, c 50 11 [t 48, t 49], c 51 11 [t 47, t 50], o 52 (.buildSl 1 5 [.str [], .str [], .str [], .str [], .str []] [(0, 1, .tmp 39),
  (1, 1, .tmp 40), (2, 1, .tmp 43), (3, 1, .tmp 46), (4, 1, .tmp 51)]), m 10 52], q [r [mv 11 (n 0)]] (.block 2 (.loop (q [q [r [m 53 11, m 54 10, le 55 54,
  ar 56 .lss (t 53) (t 55)]] (.cond (t 56) (sk) (.exit 2)), .block 3 (q [r [m 60 10, m 61 11, ia 62 1 60 (t 61), l 63 62, c 64 12 [t 63], m 59 64, ex 65 59 0,
  ex 66 59 1, ex 67 59 2, m 12 65, m 13 66, m 14 67], r [m 69 10, m 70 11, ia 71 1 69 (t 70), l 72 71, c 73 13 [t 72], m 68 73, ex 74 68 0, ex 75 68 1, ex 76 68 2,
  m 15 74, m 16 75, m 17 76], r [m 77 14, m 78 17, ar 79 .neq (t 77) (t 78), m 80 79, og 81 (.mov (t 13)) 80 false, og 82 (.mov (t 16)) 80 false, og 83 (.arith .neq (t 81) (t 82)) 80 false,
  o 84 (.pick (t 80) tt (t 83)), m 85 84, og 86 (.mov (t 12)) 85 false, og 87 (.mov (t 15)) 85 false, og 88 (.call (fn 14) [t 86, t 87]) 85 false, og 89 (.un .not (t 88)) 85 false,
  o 90 (.pick (t 85) tt (t 89))]] (.cond (t 90) (q [r [mv 4 ff]] (.ret)) (sk)))] (r [m 57 11, ar 58 .add (t 57) (n 1), m 11 58])))), r [c 91 15 [], m 4 91]] (.ret)⟩
theorem A3_ok : XOk Tryz.prog [] 3 A3 := ⟨Tryz.f3, Tryz.func3, by kernel_rfl, by decide, by kernel_rfl, its_nil (by kernel_rfl)⟩

/- widgetry/widgetrylaw45.ScriptInputs -/
def A4 : AFn := ⟨110, [.tmp 4], q [r [mv 4 ff], q [r [m 13 0, le 14 13, ar 15 .gtr (t 14) (n 6)]] (.cond (t 15) (q [r [mv 4 tt]] (.ret)) (sk)), q [r [mv 5 (n 0)]] (.block 0 (.loop (q [q [r [m 16 5,
  m 17 0, le 18 17, ar 19 .lss (t 16) (t 18)]] (.cond (t 19) (sk) (.exit 0)), .block 1 (q [r [m 22 0, m 23 5, ia 24 37 22 (t 23), ln 25 37 24, c 26 16 [t 25],
  o 27 (.un .not (t 26))]] (.cond (t 27) (q [r [mv 4 tt]] (.ret)) (sk)))] (r [m 20 5, ar 21 .add (t 20) (n 1), m 5 21])))), r [m 28 1, c 29 7 [t 28], m 6 29],
  r [m 31 0, c 32 17 [t 31], m 30 32, ex 33 30 0, ex 34 30 1, m 7 33, m 8 34], r [m 36 0, c 37 10 [t 36], m 35 37, ex 38 35 0, ex 39 35 1, m 9 38, m 10 39],
  q [r [m 40 8, m 41 10, ar 42 .neq (t 40) (t 41), m 43 42, og 44 (.mov (t 7)) 43 false, og 45 (.mov (t 9)) 43 false, og 46 (.arith .neq (t 44) (t 45)) 43 false,
  o 47 (.pick (t 43) tt (t 46))]] (.cond (t 47) (q [r [mv 4 ff]] (.ret)) (sk)), q [r [mv 11 (n 0)]] (.block 2 (.loop (q [q [r [m 48 11, ar 49 .lss (t 48) (n 4)]] (.cond (t 49) (sk) (.exit 2)),
  .block 3 (q [r [m 52 6, c 53 9 [t 52], m 54 6, c 55 9 [t 54], o 56 (.buildSl 37 2 [.int .i64 0, .int .i64 0, .int .i64 0, .int .i64 0, .int .i64 0, .int .i64 0,
  .int .i64 0, .int .i64 0, .int .i64 0, .int .i64 0, .int .i64 0, .int .i64 0, .bool false, .bool false, .int .i64 0, .nilsl, .int .i64 0, .int .i64 0,
  .int .i64 0, .int .i64 0, .int .i64 0, .str [], .int .i64 0, .nilsl, .nilsl, .nilsl, .int .i64 0, .int .i64 0, .bool false, .int .i64 0, .int .i64 0, .int .i64 0,
  .int .i64 0, .int .i64 0, .int .i64 0, .nilsl, .int .i64 0, .int .i64 0, .int .i64 0, .int .i64 0, .int .i64 0, .int .i64 0, .int .i64 0, .int .i64 0,
  .int .i64 0, .int .i64 0, .int .i64 0, .int .i64 0, .int .i64 0, .bool false, .bool false, .int .i64 0, .nilsl, .int .i64 0, .int .i64 0, .int .i64 0,
  .int .i64 0, .int .i64 0, .str [], .int .i64 0, .nilsl, .nilsl, .nilsl, .int .i64 0, .int .i64 0, .bool false, .int .i64 0, .int .i64 0, .int .i64 0, .int .i64 0,
  .int .i64 0, .int .i64 0, .nilsl, .int .i64 0] [(0, 37, .tmp 53), (37, 37, .tmp 55)]), m 12 56], q [r [m 57 6, c 58 8 [t 57, n 3], ar 59 .eql (t 58) (n 0)]] (.cond (t 59) (q [d [(m 60 12,
  0), (ia 61 37 60 (n 1), 1), (fa 62 9 61, 3), (l 63 62, 7), (m 64 6, 0), (c 65 8 [t 64, n 2], 16), (ar 66 .add (t 63) (t 65), 63), (ia 67 37 60 (n 1), 127),
  (fa 68 9 67, 255), (s 1 68 66, 511)], d [(m 69 12, 0), (ia 70 37 69 (n 0), 1), (fa 71 16 70, 3), (fa 72 0 71, 7), (l 73 72, 15), (m 74 6, 0), (c 75 8 [t 74,
  n 2], 32), (ar 76 .add (t 73) (t 75), 127), (ia 77 37 69 (n 0), 255), (fa 78 16 77, 511), (fa 79 0 78, 1023), (s 1 79 76, 2047)]] (d [(m 80 12, 0), (ia 81 37 80 (n 1),
  1), (fa 82 22 81, 3), (fa 83 4 82, 7), (l 84 83, 15), (m 85 6, 0), (c 86 8 [t 85, n 2], 32), (ar 87 .add (t 84) (t 86), 127), (ia 88 37 80 (n 1), 255),
  (fa 89 22 88, 511), (fa 90 4 89, 1023), (s 1 90 87, 2047)])) (sk)), r [m 92 12, c 93 17 [t 92], m 91 93, ex 94 91 0, ex 95 91 1, m 7 94, m 8 95], r [m 97 12,
  c 98 10 [t 97], m 96 98, ex 99 96 0, ex 100 96 1, m 9 99, m 10 100], r [m 101 8, m 102 10, ar 103 .neq (t 101) (t 102), m 104 103, og 105 (.mov (t 7)) 104 false,
  og 106 (.mov (t 9)) 104 false, og 107 (.arith .neq (t 105) (t 106)) 104 false, o 108 (.pick (t 104) tt (t 107))]] (.cond (t 108) (q [r [mv 4 ff]] (.ret)) (sk)))] (r [m 50 11,
  ar 51 .add (t 50) (n 1), m 11 51])))), r [c 109 15 [], m 4 109]] (.ret)⟩
theorem A4_ok : XOk Tryz.prog [] 4 A4 := ⟨Tryz.f4, Tryz.func4, by kernel_rfl, by decide, by kernel_rfl, its_nil (by kernel_rfl)⟩

/- widgetry/widgetrylaw45.ScriptBack -/
def A5 : AFn := ⟨101, [.tmp 4], q [r [mv 4 ff], q [r [m 17 0, o 18 (.lenS (t 17)), ar 19 .gtr (t 18) (n 300)]] (.cond (t 19) (q [r [mv 4 tt]] (.ret)) (sk)), r [m 20 1, c 21 7 [t 20],
  m 5 21], r [mv 6 (.const (.nilsl))], q [r [m 22 5, c 23 8 [t 22, n 6], m 7 23]] (.block 0 (.loop (q [q [r [m 24 7, ar 25 .gtr (t 24) (n 0)]] (.cond (t 25) (sk) (.exit 0)),
  .block 1 (r [m 28 6, m 29 5, c 30 9 [t 29], o 31 (.buildSl 37 1 [.int .i64 0, .int .i64 0, .int .i64 0, .int .i64 0, .int .i64 0, .int .i64 0, .int .i64 0,
  .int .i64 0, .int .i64 0, .int .i64 0, .int .i64 0, .int .i64 0, .bool false, .bool false, .int .i64 0, .nilsl, .int .i64 0, .int .i64 0, .int .i64 0,
  .int .i64 0, .int .i64 0, .str [], .int .i64 0, .nilsl, .nilsl, .nilsl, .int .i64 0, .int .i64 0, .bool false, .int .i64 0, .int .i64 0, .int .i64 0, .int .i64 0,
  .int .i64 0, .int .i64 0, .nilsl, .int .i64 0] [(0, 37, .tmp 30)]), o 32 (.app 37 376 (t 28) (t 31)), m 6 32])] (r [m 26 7, ar 27 .sub (t 26) (n 1), m 7 27])))),
  r [m 34 6, c 35 17 [t 34], m 33 35, ex 36 33 0, ex 37 33 1, m 8 36, m 9 37], q [r [m 38 9, ar 39 .neq (t 38) (n 0)]] (.cond (t 39) (q [r [mv 4 ff]] (.ret)) (sk)),
  r [m 41 8, c 42 12 [t 41], m 40 42, ex 43 40 0, ex 44 40 1, ex 45 40 2, m 10 43, m 11 44, m 12 45], q [r [m 46 12, ar 47 .neq (t 46) (n 0), m 48 47, og 49 (.mov (t 11)) 48 false,
  og 50 (.mov (t 6)) 48 false, og 51 (.len (t 50)) 48 false, og 52 (.arith .neq (t 49) (t 51)) 48 false, o 53 (.pick (t 48) tt (t 52)), m 54 53, og 55 (.mov (t 10)) 54 false,
  og 56 (.mov (t 6)) 54 false, og 57 (.call (fn 14) [t 55, t 56]) 54 false, og 58 (.un .not (t 57)) 54 false, o 59 (.pick (t 54) tt (t 58))]] (.cond (t 59) (q [r [mv 4 ff]] (.ret)) (sk)),
  r [m 60 0, m 61 5, m 62 8, c 63 11 [t 61, t 62], m 64 5, m 65 8, c 66 11 [t 64, t 65], o 67 (.buildSl 1 3 [.str [], .str [], .str []] [(0, 1, .tmp 60),
  (1, 1, .tmp 63), (2, 1, .tmp 66)]), m 13 67], q [r [mv 14 (n 0)]] (.block 2 (.loop (q [q [r [m 68 14, m 69 13, le 70 69, ar 71 .lss (t 68) (t 70)]] (.cond (t 71) (sk) (.exit 2)),
  .block 3 (q [r [m 75 13, m 76 14, ia 77 1 75 (t 76), l 78 77, c 79 12 [t 78], m 74 79, ex 80 74 0, ex 81 74 1, ex 82 74 2, m 10 80, m 12 82], q [r [m 83 12,
  ar 84 .neq (t 83) (n 0)]] (.cond (t 84) (.exit 3) (sk)), r [m 86 10, c 87 17 [t 86], m 85 87, ex 88 85 0, ex 89 85 1, m 15 88, m 16 89], r [m 90 16, ar 91 .neq (t 90) (n 0),
  m 92 91, og 93 (.mov (t 15)) 92 false, og 94 (.mov (t 13)) 92 false, og 95 (.mov (t 14)) 92 false, og 96 (.idxA 1 (t 94) (t 95)) 92 false, og 97 (.ld1 (t 96)) 92 false,
  og 98 (.arith .neq (t 93) (t 97)) 92 false, o 99 (.pick (t 92) tt (t 98))]] (.cond (t 99) (q [r [mv 4 ff]] (.ret)) (sk)))] (r [m 72 14, ar 73 .add (t 72) (n 1),
  m 14 73])))), r [c 100 15 [], m 4 100]] (.ret)⟩
theorem A5_ok : XOk Tryz.prog [] 5 A5 := ⟨Tryz.f5, Tryz.func5, by kernel_rfl, by decide, by kernel_rfl, its_nil (by kernel_rfl)⟩

/- widgetry/widgetrylaw45.ScriptDeep -/
def A6 : AFn := ⟨104, [.tmp 2], q [r [mv 2 ff], r [m 13 0, ar 14 .rem (t 13) (.const (.int .u8 3)), o 15 (.convI .i64 (t 14)), ar 16 .add (n 15) (t 15), m 3 16], r [o 17 (.build [.int .i64 0,
  .int .i64 0, .str [], .nilsl] [(0, 1, .const (.int .i64 1)), (1, 1, .const (.int .i64 1))]), o 4 (.new [.int .i64 0, .int .i64 0, .str [], .nilsl]), s 4 4 17],
  r [mv 5 (.const (.str [49]))], q [r [mv 6 (n 0)]] (.block 0 (.loop (q [q [r [m 18 6, m 19 3, ar 20 .lss (t 18) (t 19)]] (.cond (t 20) (sk) (.exit 0)),
  .block 1 (q [r [ln 23 4 4, o 24 (.buildSl 4 1 [.int .i64 0, .int .i64 0, .str [], .nilsl] [(0, 4, .tmp 23)]), o 25 (.build [.int .i64 0, .int .i64 0, .str [],
  .nilsl] [(0, 1, .const (.int .i64 4)), (3, 1, .tmp 24)]), s 4 4 25]] (r [m 26 5, ar 27 .add (.const (.str [91])) (t 26), ar 28 .add (t 27) (.const (.str [93])),
  m 5 28]))] (r [m 21 6, ar 22 .add (t 21) (n 1), m 6 22])))), r [ln 29 4 4, o 30 (.buildSl 4 1 [.int .i64 0, .int .i64 0, .str [], .nilsl] [(0, 4, .tmp 29)]),
  o 31 (.build [.int .i64 0, .int .i64 0, .int .i64 0, .int .i64 0, .int .i64 0, .int .i64 0, .int .i64 0, .int .i64 0, .int .i64 0, .int .i64 0, .int .i64 0,
  .int .i64 0, .bool false, .bool false, .int .i64 0, .nilsl, .int .i64 0, .int .i64 0, .int .i64 0, .int .i64 0, .int .i64 0, .str [], .int .i64 0, .nilsl,
  .nilsl, .nilsl, .int .i64 0, .int .i64 0, .bool false, .int .i64 0, .int .i64 0, .int .i64 0, .int .i64 0, .int .i64 0, .int .i64 0, .nilsl, .int .i64 0] [(0,
  1, .const (.int .i64 6)), (15, 1, .tmp 30)]), o 32 (.buildSl 37 1 [.int .i64 0, .int .i64 0, .int .i64 0, .int .i64 0, .int .i64 0, .int .i64 0, .int .i64 0,
  .int .i64 0, .int .i64 0, .int .i64 0, .int .i64 0, .int .i64 0, .bool false, .bool false, .int .i64 0, .nilsl, .int .i64 0, .int .i64 0, .int .i64 0,
  .int .i64 0, .int .i64 0, .str [], .int .i64 0, .nilsl, .nilsl, .nilsl, .int .i64 0, .int .i64 0, .bool false, .int .i64 0, .int .i64 0, .int .i64 0, .int .i64 0,
  .int .i64 0, .int .i64 0, .nilsl, .int .i64 0] [(0, 37, .tmp 31)]), m 7 32], r [m 34 7, c 35 17 [t 34], m 33 35, ex 36 33 0, ex 37 33 1, m 8 36, m 9 37],
  r [m 39 5, ar 40 .add (.const (.str [116, 105, 109, 101, 32, 49, 10, 97, 114, 103, 115, 32])) (t 39), ar 41 .add (t 40) (.const (.str [10])), c 42 12 [t 41],
  m 38 42, ex 43 38 0, ex 44 38 1, ex 45 38 2, m 10 43, m 11 44, m 12 45], q [r [m 46 3, ar 47 .gtr (t 46) (n 16)]] (.cond (t 47) (q [r [m 48 9, ar 49 .eql (t 48) (n 1),
  m 50 49, og 51 (.mov (t 8)) 50 true, og 52 (.arith .eql (t 51) (.const (.str []))) 50 true, o 53 (.pick (t 50) (t 52) ff), m 54 53, og 55 (.mov (t 12)) 54 true,
  og 56 (.arith .eql (t 55) (n 3)) 54 true, o 57 (.pick (t 54) (t 56) ff), m 58 57, og 59 (.mov (t 11)) 58 true, og 60 (.arith .eql (t 59) (n 1)) 58 true,
  o 61 (.pick (t 58) (t 60) ff), m 62 61, og 63 (.mov (t 10)) 62 true, og 64 (.len (t 63)) 62 true, og 65 (.arith .eql (t 64) (n 0)) 62 true, o 66 (.pick (t 62) (t 65) ff),
  m 67 66, og 68 (.call (fn 15) []) 67 true, o 69 (.pick (t 67) (t 68) ff), m 2 69]] (.ret)) (sk)), d [(m 70 9, 0), (ar 71 .eql (t 70) (n 0), 1), (m 72 71,
  3), (og 73 (.mov (t 8)) 72 true, 7), (og 74 (.mov (t 5)) 72 true, 7), (og 75 (.arith .add (.const (.str [97, 114, 103, 115, 32])) (t 74)) 72 true, 23),
  (og 76 (.arith .add (t 75) (.const (.str [10]))) 72 true, 55), (og 77 (.arith .eql (t 73) (t 76)) 72 true, 127), (o 78 (.pick (t 72) (t 77) ff), 255),
  (m 79 78, 511), (og 80 (.mov (t 12)) 79 true, 1023), (og 81 (.arith .eql (t 80) (n 0)) 79 true, 2047), (o 82 (.pick (t 79) (t 81) ff), 4095), (m 83 82,
  8191), (og 84 (.mov (t 11)) 83 true, 16383), (og 85 (.arith .eql (t 84) (n 2)) 83 true, 32767), (o 86 (.pick (t 83) (t 85) ff), 65535), (m 87 86, 131071),
  (og 88 (.mov (t 10)) 87 true, 262143), (og 89 (.len (t 88)) 87 true, 524287), (og 90 (.arith .eql (t 89) (n 2)) 87 true, 1048575), (o 91 (.pick (t 87) (t 90) ff),
  2097151), (m 92 91, 4194303), (og 93 (.mov (t 10)) 92 true, 8388607), (og 94 (.idxA 37 (t 93) (n 1)) 92 true, 16777215), (og 95 (.ldn 37 (t 94)) 92 true,
  33554431), (og 96 (.mov (t 7)) 92 true, 8388607), (og 97 (.idxA 37 (t 96) (n 0)) 92 true, 75497471), (og 98 (.ldn 37 (t 97)) 92 true, 209715199), (og 99 (.call (fn 18) [t 95,
  t 98]) 92 true, 536870911), (o 100 (.pick (t 92) (t 99) ff), 1073741823), (m 101 100, 2147483647), (og 102 (.call (fn 15) []) 101 true, 4294967295), (o 103 (.pick (t 101) (t 102) ff),
  8589934591), (m 2 103, 17179869183)]] (.ret)⟩
theorem A6_ok : XOk Tryz.prog [] 6 A6 := ⟨Tryz.f6, Tryz.func6, by kernel_rfl, by decide, by kernel_rfl, its_nil (by kernel_rfl)⟩

/- widgetry/widgetrybase.New -/
def A7 : AFn := ⟨11, [.tmp 2], q [r [mv 2 (.const (.nilptr))], q [r [m 3 0, le 4 3, ar 5 .gtr (t 4) (n 4000)]] (.cond (t 5) (r [m 6 0, o 7 (.sl 1 (t 6) none (some (.const (.int .i64 4000))) none),
  m 0 7]) (sk)), r [m 8 0, o 9 (.build [.nilsl, .int .i64 0] [(0, 1, .tmp 8)]), o 10 (.box (t 9)), m 2 10]] (.ret)⟩
theorem A7_ok : XOk Tryz.prog [] 7 A7 := ⟨Tryz.f7, Tryz.func7, by kernel_rfl, by decide, by kernel_rfl, its_nil (by kernel_rfl)⟩

/- (*widgetry/widgetrybase.Src).N -/
def A8 : AFn := ⟨45, [.tmp 4], q [r [mv 4 (n 0)], q [d [(m 6 0, 0), (o 7 (.nilchk (t 6)), 1), (fa 8 1 7, 3), (l 9 8, 7), (m 10 0, 0), (o 11 (.nilchk (t 10)), 16), (fa 12 0 11, 48), (l 13 12,
  112), (le 14 13, 240), (ar 15 .geq (t 9) (t 14), 511), (m 16 15, 1023), (og 17 (.mov (t 1)) 16 false, 2047), (og 18 (.arith .lss (t 17) (n 1)) 16 false,
  4095), (o 19 (.pick (t 16) tt (t 18)), 8191)]] (.cond (t 19) (q [r [mv 4 (n 0)]] (.ret)) (sk)), d [(m 20 0, 0), (o 21 (.nilchk (t 20)), 1), (fa 22 0 21,
  3), (l 23 22, 7), (m 24 0, 0), (o 25 (.nilchk (t 24)), 16), (fa 26 1 25, 48), (l 27 26, 112), (ia 28 1 23 (t 27), 255), (l 29 28, 511), (m 30 1, 0), (ar 31 .rem (t 29) (t 30),
  2047), (m 5 31, 4095)], r [m 32 0, o 33 (.nilchk (t 32)), fa 34 1 33, l 35 34, ar 36 .add (t 35) (n 1), o 37 (.nilchk (t 32)), fa 38 1 37, s 1 38 36],
  q [r [m 39 5, ar 40 .lss (t 39) (n 0)]] (.cond (t 40) (r [m 41 5, m 42 1, ar 43 .add (t 41) (t 42), m 5 43]) (sk)), r [m 44 5, m 4 44]] (.ret)⟩
theorem A8_ok : XOk Tryz.prog [] 8 A8 := ⟨Tryz.f8, Tryz.func8, by kernel_rfl, by decide, by kernel_rfl, its_nil (by kernel_rfl)⟩

/- widgetry/widgetrylaw45.plain -/
def A9 : AFn := ⟨133, [.cell 2 (some 37)], q [r [o 2 (.new [.int .i64 0, .int .i64 0, .int .i64 0, .int .i64 0, .int .i64 0, .int .i64 0, .int .i64 0, .int .i64 0, .int .i64 0, .int .i64 0, .int .i64 0,
  .int .i64 0, .bool false, .bool false, .int .i64 0, .nilsl, .int .i64 0, .int .i64 0, .int .i64 0, .int .i64 0, .int .i64 0, .str [], .int .i64 0, .nilsl,
  .nilsl, .nilsl, .int .i64 0, .int .i64 0, .bool false, .int .i64 0, .int .i64 0, .int .i64 0, .int .i64 0, .int .i64 0, .int .i64 0, .nilsl, .int .i64 0])],
  r [m 8 0, c 9 19 [t 8, n (-3), n 999], m 3 9], q [r [m 10 0, c 11 8 [t 10, n 8]]] (.block 0 (q [r [ar 13 .eql (t 11) (n 0), m 12 13]] (.cond (t 12) (q [r [m 14 0,
  c 15 19 [t 14, n 1, n 6], m 16 0, c 17 8 [t 16, n 9], m 18 3, m 19 3, o 20 (.un .neg (t 19)), m 21 0, c 22 8 [t 21, n 99], m 23 0, c 24 19 [t 23, n (-9),
  n 9], o 25 (.build [.int .i64 0, .int .i64 0, .int .i64 0, .int .i64 0, .int .i64 0, .int .i64 0] [(0, 1, .tmp 15), (1, 1, .tmp 17), (2, 1, .tmp 18), (3,
  1, .tmp 20), (4, 1, .tmp 22), (5, 1, .tmp 24)]), o 26 (.build [.int .i64 0, .int .i64 0, .int .i64 0, .int .i64 0, .int .i64 0, .int .i64 0, .int .i64 0,
  .int .i64 0, .int .i64 0, .int .i64 0, .int .i64 0, .int .i64 0, .bool false, .bool false, .int .i64 0, .nilsl, .int .i64 0, .int .i64 0, .int .i64 0,
  .int .i64 0, .int .i64 0, .str [], .int .i64 0, .nilsl, .nilsl, .nilsl, .int .i64 0, .int .i64 0, .bool false, .int .i64 0, .int .i64 0, .int .i64 0, .int .i64 0,
  .int .i64 0, .int .i64 0, .nilsl, .int .i64 0] [(0, 1, .const (.int .i64 1)), (1, 6, .tmp 25)]), s 37 2 26]] (.ret)) (q [r [ar 28 .eql (t 11) (n 1), m 27 28]] (.cond (t 27) (q [d [(m 29 0,
  0), (c 30 20 [t 29], 1), (ia 31 2 30 (n 0), 3), (ln 32 2 31, 7), (m 33 0, 0), (c 34 8 [t 33, n 99], 19), (o 35 (.build [.int .i64 0, .int .i64 0, .int .i64 0,
  .int .i64 0, .int .i64 0, .int .i64 0, .int .i64 0, .int .i64 0, .int .i64 0, .int .i64 0, .int .i64 0, .int .i64 0, .bool false, .bool false, .int .i64 0,
  .nilsl, .int .i64 0, .int .i64 0, .int .i64 0, .int .i64 0, .int .i64 0, .str [], .int .i64 0, .nilsl, .nilsl, .nilsl, .int .i64 0, .int .i64 0, .bool false,
  .int .i64 0, .int .i64 0, .int .i64 0, .int .i64 0, .int .i64 0, .int .i64 0, .nilsl, .int .i64 0] [(0, 1, .const (.int .i64 2)), (7, 2, .tmp 32), (9,
  1, .tmp 34)]), 63), (s 37 2 35, 127)]] (.ret)) (q [r [ar 37 .eql (t 11) (n 2), m 36 37]] (.cond (t 36) (q [r [m 38 3, o 39 (.build [.int .i64 0, .int .i64 0,
  .int .i64 0, .int .i64 0, .int .i64 0, .int .i64 0, .int .i64 0, .int .i64 0, .int .i64 0, .int .i64 0, .int .i64 0, .int .i64 0, .bool false, .bool false,
  .int .i64 0, .nilsl, .int .i64 0, .int .i64 0, .int .i64 0, .int .i64 0, .int .i64 0, .str [], .int .i64 0, .nilsl, .nilsl, .nilsl, .int .i64 0, .int .i64 0,
  .bool false, .int .i64 0, .int .i64 0, .int .i64 0, .int .i64 0, .int .i64 0, .int .i64 0, .nilsl, .int .i64 0] [(0, 1, .const (.int .i64 3)), (9, 1, .tmp 38)]),
  s 37 2 39]] (.ret)) (q [r [ar 41 .eql (t 11) (n 3), m 40 41]] (.cond (t 40) (q [r [m 42 3, m 43 0, c 44 8 [t 43, n 99], o 45 (.build [.int .i64 0, .int .i64 0] [(0,
  1, .tmp 42), (1, 1, .tmp 44)]), o 46 (.build [.int .i64 0, .int .i64 0, .int .i64 0, .int .i64 0, .int .i64 0, .int .i64 0, .int .i64 0, .int .i64 0, .int .i64 0,
  .int .i64 0, .int .i64 0, .int .i64 0, .bool false, .bool false, .int .i64 0, .nilsl, .int .i64 0, .int .i64 0, .int .i64 0, .int .i64 0, .int .i64 0,
  .str [], .int .i64 0, .nilsl, .nilsl, .nilsl, .int .i64 0, .int .i64 0, .bool false, .int .i64 0, .int .i64 0, .int .i64 0, .int .i64 0, .int .i64 0, .int .i64 0,
  .nilsl, .int .i64 0] [(0, 1, .const (.int .i64 4)), (10, 2, .tmp 45)]), s 37 2 46]] (.ret)) (q [r [ar 48 .eql (t 11) (n 4), m 47 48]] (.cond (t 47) (q [r [m 49 0,
  c 50 21 [t 49], o 51 (.build [.int .i64 0, .int .i64 0, .int .i64 0, .int .i64 0, .int .i64 0, .int .i64 0, .int .i64 0, .int .i64 0, .int .i64 0, .int .i64 0,
  .int .i64 0, .int .i64 0, .bool false, .bool false, .int .i64 0, .nilsl, .int .i64 0, .int .i64 0, .int .i64 0, .int .i64 0, .int .i64 0, .str [], .int .i64 0,
  .nilsl, .nilsl, .nilsl, .int .i64 0, .int .i64 0, .bool false, .int .i64 0, .int .i64 0, .int .i64 0, .int .i64 0, .int .i64 0, .int .i64 0, .nilsl, .int .i64 0] [(0,
  1, .const (.int .i64 5)), (12, 3, .tmp 50)]), s 37 2 51]] (.ret)) (q [r [ar 53 .eql (t 11) (n 5), m 52 53]] (.cond (t 52) (q [r [o 54 (.build [.int .i64 0,
  .int .i64 0, .int .i64 0, .int .i64 0, .int .i64 0, .int .i64 0, .int .i64 0, .int .i64 0, .int .i64 0, .int .i64 0, .int .i64 0, .int .i64 0, .bool false,
  .bool false, .int .i64 0, .nilsl, .int .i64 0, .int .i64 0, .int .i64 0, .int .i64 0, .int .i64 0, .str [], .int .i64 0, .nilsl, .nilsl, .nilsl, .int .i64 0,
  .int .i64 0, .bool false, .int .i64 0, .int .i64 0, .int .i64 0, .int .i64 0, .int .i64 0, .int .i64 0, .nilsl, .int .i64 0] [(0, 1, .const (.int .i64 6))]),
  o 4 (.new [.int .i64 0, .int .i64 0, .int .i64 0, .int .i64 0, .int .i64 0, .int .i64 0, .int .i64 0, .int .i64 0, .int .i64 0, .int .i64 0, .int .i64 0,
  .int .i64 0, .bool false, .bool false, .int .i64 0, .nilsl, .int .i64 0, .int .i64 0, .int .i64 0, .int .i64 0, .int .i64 0, .str [], .int .i64 0, .nilsl,
  .nilsl, .nilsl, .int .i64 0, .int .i64 0, .bool false, .int .i64 0, .int .i64 0, .int .i64 0, .int .i64 0, .int .i64 0, .int .i64 0, .nilsl, .int .i64 0]),
  s 37 4 54], q [r [m 55 0, c 56 8 [t 55, n 3], m 5 56]] (.block 1 (.loop (q [q [r [m 57 5, ar 58 .gtr (t 57) (n 0)]] (.cond (t 58) (sk) (.exit 1)), .block 2 (d [(fa 61 15 4,
  0), (l 62 61, 1), (m 63 0, 0), (c 64 22 [t 63, n 2], 4), (o 65 (.buildSl 4 1 [.int .i64 0, .int .i64 0, .str [], .nilsl] [(0, 4, .tmp 64)]), 12), (o 66 (.app 4 56 (t 62) (t 65)),
  31), (fa 67 15 4, 63), (s 1 67 66, 127)])] (r [m 59 5, ar 60 .sub (t 59) (n 1), m 5 60])))), r [ln 68 37 4, s 37 2 68]] (.ret)) (q [r [ar 70 .eql (t 11) (n 6),
  m 69 70]] (.cond (t 69) (q [r [m 71 0, c 72 8 [t 71, n 9], m 73 3, m 74 0, c 75 8 [t 74, n 9], o 76 (.convI .u64 (t 75)), ar 77 .shl (n 1) (t 76), m 78 0,
  c 79 8 [t 78, n 9], m 80 0, c 81 8 [t 80, n 9], m 82 0, c 83 23 [t 82, n 4], o 84 (.xo .r2s [t 83]), o 85 (.build [.int .i64 0, .int .i64 0, .int .i64 0,
  .int .i64 0, .int .i64 0, .str []] [(0, 1, .tmp 72), (1, 1, .tmp 73), (2, 1, .tmp 77), (3, 1, .tmp 79), (4, 1, .tmp 81), (5, 1, .tmp 84)]), o 86 (.build [.int .i64 0,
  .int .i64 0, .int .i64 0, .int .i64 0, .int .i64 0, .int .i64 0, .int .i64 0, .int .i64 0, .int .i64 0, .int .i64 0, .int .i64 0, .int .i64 0, .bool false,
  .bool false, .int .i64 0, .nilsl, .int .i64 0, .int .i64 0, .int .i64 0, .int .i64 0, .int .i64 0, .str [], .int .i64 0, .nilsl, .nilsl, .nilsl, .int .i64 0,
  .int .i64 0, .bool false, .int .i64 0, .int .i64 0, .int .i64 0, .int .i64 0, .int .i64 0, .int .i64 0, .nilsl, .int .i64 0] [(0, 1, .const (.int .i64 7)),
  (16, 6, .tmp 85)]), s 37 2 86]] (.ret)) (sk)))))))))))))))), r [m 87 0, c 88 19 [t 87, n 14, n 17], o 89 (.build [.int .i64 0, .nilsl, .nilsl, .nilsl,
  .int .i64 0, .int .i64 0, .bool false, .int .i64 0, .int .i64 0, .int .i64 0, .int .i64 0, .int .i64 0, .int .i64 0, .nilsl, .int .i64 0] [(0, 1, .tmp 88)]),
  o 90 (.build [.int .i64 0, .int .i64 0, .int .i64 0, .int .i64 0, .int .i64 0, .int .i64 0, .int .i64 0, .int .i64 0, .int .i64 0, .int .i64 0, .int .i64 0,
  .int .i64 0, .bool false, .bool false, .int .i64 0, .nilsl, .int .i64 0, .int .i64 0, .int .i64 0, .int .i64 0, .int .i64 0, .str [], .int .i64 0, .nilsl,
  .nilsl, .nilsl, .int .i64 0, .int .i64 0, .bool false, .int .i64 0, .int .i64 0, .int .i64 0, .int .i64 0, .int .i64 0, .int .i64 0, .nilsl, .int .i64 0] [(0,
  1, .const (.int .i64 8)), (22, 15, .tmp 89)]), o 6 (.new [.int .i64 0, .int .i64 0, .int .i64 0, .int .i64 0, .int .i64 0, .int .i64 0, .int .i64 0, .int .i64 0,
  .int .i64 0, .int .i64 0, .int .i64 0, .int .i64 0, .bool false, .bool false, .int .i64 0, .nilsl, .int .i64 0, .int .i64 0, .int .i64 0, .int .i64 0,
  .int .i64 0, .str [], .int .i64 0, .nilsl, .nilsl, .nilsl, .int .i64 0, .int .i64 0, .bool false, .int .i64 0, .int .i64 0, .int .i64 0, .int .i64 0, .int .i64 0,
  .int .i64 0, .nilsl, .int .i64 0]), s 37 6 90], q [r [fa 91 22 6, fa 92 0 91, l 93 92, ar 94 .eql (t 93) (n 15), m 95 94, og 96 (.fldA 22 (t 6)) 95 false,
  og 97 (.fldA 0 (t 96)) 95 false, og 98 (.ld1 (t 97)) 95 false, og 99 (.arith .eql (t 98) (n 16)) 95 false, o 100 (.pick (t 95) tt (t 99))]] (.cond (t 100) (r [m 101 0,
  c 102 23 [t 101, n 5], fa 103 22 6, fa 104 1 103, s 1 104 102]) (sk)), q [r [fa 105 22 6, fa 106 0 105, l 107 106, ar 108 .eql (t 107) (n 15)]] (.cond (t 108) (q [r [m 109 0,
  c 110 8 [t 109, n 6], fa 111 22 6, fa 112 12 111, s 1 112 110], r [m 113 0, c 114 8 [t 113, n 3], m 7 114]] (.block 3 (.loop (q [q [r [m 115 7, ar 116 .gtr (t 115) (n 0)]] (.cond (t 116) (sk) (.exit 3)),
  .block 4 (d [(fa 119 22 6, 0), (fa 120 13 119, 1), (l 121 120, 3), (m 122 0, 0), (c 123 19 [t 122, n 1, n 3], 8), (m 124 0, 0), (c 125 8 [t 124, n 2],
  56), (ar 126 .eql (t 125) (n 1), 120), (o 127 (.build [.int .i64 0, .bool false] [(0, 1, .tmp 123), (1, 1, .tmp 126)]), 248), (o 128 (.buildSl 2 1 [.int .i64 0,
  .bool false] [(0, 2, .tmp 127)]), 504), (o 129 (.app 2 16 (t 121) (t 128)), 1023), (fa 130 22 6, 2047), (fa 131 13 130, 4095), (s 1 131 129, 8191)])] (r [m 117 7,
  ar 118 .sub (t 117) (n 1), m 7 118]))))) (sk)), r [ln 132 37 6, s 37 2 132]] (.ret)⟩
theorem A9_ok : XOk Tryz.prog [] 9 A9 := ⟨Tryz.f9, Tryz.func9, by kernel_rfl, by decide, by kernel_rfl, its_nil (by kernel_rfl)⟩

/- widgetry/widgetryref45.Format -/
def A10 : AFn := ⟨44, [.tmp 2, .tmp 3], q [r [mv 2 (.const (.str [])), mv 3 (n 0)], q [r [m 9 0, le 10 9, ar 11 .gtr (t 10) (n 200)]] (.cond (t 11) (q [r [mv 2 (.const (.str [])), mv 3 (n 2)]] (.ret)) (sk)),
  r [mv 4 (.const (.str []))], q [r [mv 5 (n 0)]] (.block 0 (.loop (q [q [r [m 12 5, m 13 0, le 14 13, ar 15 .lss (t 12) (t 14)]] (.cond (t 15) (sk) (.exit 0)),
  .block 1 (q [r [m 18 0, m 19 5, ia 20 37 18 (t 19), ln 21 37 20, c 22 24 [t 21], m 6 22], r [m 24 6, c 25 25 [t 24], m 23 25, ex 26 23 0, ex 27 23 1, o 7 (.new [.int .i64 0,
  .int .i64 0, .int .i64 0, .int .i64 0, .int .i64 0, .int .i64 0, .int .i64 0, .int .i64 0, .int .i64 0, .int .i64 0, .int .i64 0, .int .i64 0, .bool false,
  .bool false, .int .i64 0, .nilsl, .int .i64 0, .int .i64 0, .int .i64 0, .int .i64 0, .int .i64 0, .str [], .int .i64 0, .nilsl, .nilsl, .nilsl, .int .i64 0,
  .int .i64 0, .bool false, .int .i64 0, .int .i64 0, .int .i64 0, .int .i64 0, .int .i64 0, .int .i64 0, .nilsl, .int .i64 0]), s 37 7 26, m 8 27], q [d [(m 28 8,
  0), (o 29 (.un .not (t 28)), 1), (m 30 29, 3), (og 31 (.ldn 37 (t 7)) 30 false, 7), (og 32 (.mov (t 0)) 30 false, 7), (og 33 (.mov (t 5)) 30 false, 7),
  (og 34 (.idxA 37 (t 32) (t 33)) 30 false, 55), (og 35 (.ldn 37 (t 34)) 30 false, 119), (og 36 (.call (fn 18) [t 31, t 35]) 30 false, 255), (og 37 (.un .not (t 36)) 30 false,
  511), (o 38 (.pick (t 30) tt (t 37)), 1023)]] (.cond (t 38) (q [r [mv 2 (.const (.str [])), mv 3 (n 1)]] (.ret)) (sk))] (r [m 39 4, m 40 6, ar 41 .add (t 40) (.const (.str [10])),
  ar 42 .add (t 39) (t 41), m 4 42]))] (r [m 16 5, ar 17 .add (t 16) (n 1), m 5 17])))), r [m 43 4, m 2 43, mv 3 (n 0)]] (.ret)⟩
theorem A10_ok : XOk Tryz.prog [] 10 A10 := ⟨Tryz.f10, Tryz.func10, by kernel_rfl, by decide, by kernel_rfl, its_nil (by kernel_rfl)⟩

/- widgetry/widgetrylaw45.spoilt -/
def A11 : AFn := ⟨51, [.tmp 4], q [r [mv 4 (.const (.str []))], q [r [m 7 1, ar 8 .eql (t 7) (.const (.str []))]] (.cond (t 8) (q [r [mv 4 (.const (.str [120]))]] (.ret)) (sk)), r [m 9 0,
  m 10 1, o 11 (.lenS (t 10)), c 12 8 [t 9, t 11], m 5 12], r [m 13 0, c 14 8 [t 13, n 13], o 15 (.idxS (.const (.str [32, 48, 45, 34, 92, 91, 93, 97, 110,
  116, 120, 10, 255])) (t 14)), o 16 (.buildSl 1 1 [.int .u8 0] [(0, 1, .tmp 15)]), o 17 (.xo .b2s [t 16]), m 6 17], q [r [m 18 0, c 19 8 [t 18, n 3]]] (.block 0 (q [r [ar 21 .eql (t 19) (n 0),
  m 20 21]] (.cond (t 20) (q [d [(m 22 1, 0), (m 23 5, 0), (o 24 (.slS (t 22) none (some (.tmp 23))), 3), (m 25 1, 0), (m 26 5, 0), (ar 27 .add (t 26) (n 1),
  16), (o 28 (.slS (t 25) (some (.tmp 27)) none), 56), (ar 29 .add (t 24) (t 28), 127), (m 4 29, 255)]] (.ret)) (q [r [ar 31 .eql (t 19) (n 1), m 30 31]] (.cond (t 30) (q [d [(m 32 1,
  0), (m 33 5, 0), (o 34 (.slS (t 32) none (some (.tmp 33))), 3), (m 35 6, 0), (ar 36 .add (t 34) (t 35), 15), (m 37 1, 0), (m 38 5, 0), (o 39 (.slS (t 37) (some (.tmp 38)) none),
  96), (ar 40 .add (t 36) (t 39), 255), (m 4 40, 511)]] (.ret)) (sk)))))), d [(m 41 1, 0), (m 42 5, 0), (o 43 (.slS (t 41) none (some (.tmp 42))), 3), (m 44 6,
  0), (ar 45 .add (t 43) (t 44), 15), (m 46 1, 0), (m 47 5, 0), (ar 48 .add (t 47) (n 1), 64), (o 49 (.slS (t 46) (some (.tmp 48)) none), 224), (ar 50 .add (t 45) (t 49),
  511), (m 4 50, 1023)]] (.ret)⟩
theorem A11_ok : XOk Tryz.prog [] 11 A11 := ⟨Tryz.f11, Tryz.func11, by kernel_rfl, by decide, by kernel_rfl, its_nil (by kernel_rfl)⟩

/- widgetry/script.Parse -/
def A12 : AFn := ⟨45, [.tmp 2, .tmp 3, .tmp 4], q [r [mv 2 (.const (.nilsl)), mv 3 (n 0), mv 4 (n 0)], r [mv 5 (.const (.nilsl))], .block 0 (.loop (q [q [r [m 11 0, ar 12 .neq (t 11) (.const (.str []))]] (.cond (t 12) (sk) (.exit 0))] (.block 1 (q [r [m 14 0,
  c 15 26 [t 14, .const (.str [10])], m 13 15, ex 16 13 0, ex 17 13 1, ex 18 13 2, m 6 16, m 7 17, m 8 18], q [r [m 19 5, le 20 19, ar 21 .geq (t 20) (n 200)]] (.cond (t 21) (q [r [m 22 5,
  le 23 22, mv 2 (.const (.nilsl)), m 3 23, mv 4 (n 2)]] (.ret)) (sk)), r [m 25 6, c 26 27 [t 25], m 24 26, ex 27 24 0, ex 28 24 1, o 9 (.new [.int .i64 0,
  .int .i64 0, .int .i64 0, .int .i64 0, .int .i64 0, .int .i64 0, .int .i64 0, .int .i64 0, .int .i64 0, .int .i64 0, .int .i64 0, .int .i64 0, .bool false,
  .bool false, .int .i64 0, .nilsl, .int .i64 0, .int .i64 0, .int .i64 0, .int .i64 0, .int .i64 0, .str [], .int .i64 0, .nilsl, .nilsl, .nilsl, .int .i64 0,
  .int .i64 0, .bool false, .int .i64 0, .int .i64 0, .int .i64 0, .int .i64 0, .int .i64 0, .int .i64 0, .nilsl, .int .i64 0]), s 37 9 27, m 10 28], q [r [m 29 10,
  o 30 (.un .not (t 29)), m 31 30, og 32 (.mov (t 8)) 31 false, og 33 (.un .not (t 32)) 31 false, o 34 (.pick (t 31) tt (t 33))]] (.cond (t 34) (q [r [m 35 5,
  le 36 35, mv 2 (.const (.nilsl)), m 3 36, mv 4 (n 3)]] (.ret)) (sk)), r [m 37 5, ln 38 37 9, o 39 (.buildSl 37 1 [.int .i64 0, .int .i64 0, .int .i64 0,
  .int .i64 0, .int .i64 0, .int .i64 0, .int .i64 0, .int .i64 0, .int .i64 0, .int .i64 0, .int .i64 0, .int .i64 0, .bool false, .bool false, .int .i64 0,
  .nilsl, .int .i64 0, .int .i64 0, .int .i64 0, .int .i64 0, .int .i64 0, .str [], .int .i64 0, .nilsl, .nilsl, .nilsl, .int .i64 0, .int .i64 0, .bool false,
  .int .i64 0, .int .i64 0, .int .i64 0, .int .i64 0, .int .i64 0, .int .i64 0, .nilsl, .int .i64 0] [(0, 37, .tmp 38)]), o 40 (.app 37 376 (t 37) (t 39)),
  m 5 40]] (r [m 41 7, m 0 41]))))), r [m 42 5, m 43 5, le 44 43, m 2 42, m 3 44, mv 4 (n 0)]] (.ret)⟩
theorem A12_ok : XOk Tryz.prog [] 12 A12 := ⟨Tryz.f12, Tryz.func12, by kernel_rfl, by decide, by kernel_rfl, its_nil (by kernel_rfl)⟩

/- widgetry/widgetryref45.Parse -/
def A13 : AFn := ⟨57, [.tmp 2, .tmp 3, .tmp 4], q [r [mv 2 (.const (.nilsl)), mv 3 (n 0), mv 4 (n 0)], r [mv 5 (.const (.nilsl))], r [mv 6 (n 0)], q [r [mv 7 (n 0)]] (.block 0 (.loop (q [q [r [m 10 7,
  m 11 0, o 12 (.lenS (t 11)), ar 13 .lss (t 10) (t 12)]] (.cond (t 13) (sk) (.exit 0)), .block 1 (q [q [r [m 16 0, m 17 7, o 18 (.idxS (t 16) (t 17)), ar 19 .neq (t 18) (.const (.int .u8 10))]] (.cond (t 19) (.exit 1) (sk)),
  q [r [m 20 5, le 21 20, ar 22 .geq (t 21) (n 200)]] (.cond (t 22) (q [r [m 23 5, le 24 23, mv 2 (.const (.nilsl)), m 3 24, mv 4 (n 2)]] (.ret)) (sk)),
  r [m 26 0, m 27 6, m 28 7, o 29 (.slS (t 26) (some (.tmp 27)) (some (.tmp 28))), c 30 25 [t 29], m 25 30, ex 31 25 0, ex 32 25 1, o 8 (.new [.int .i64 0,
  .int .i64 0, .int .i64 0, .int .i64 0, .int .i64 0, .int .i64 0, .int .i64 0, .int .i64 0, .int .i64 0, .int .i64 0, .int .i64 0, .int .i64 0, .bool false,
  .bool false, .int .i64 0, .nilsl, .int .i64 0, .int .i64 0, .int .i64 0, .int .i64 0, .int .i64 0, .str [], .int .i64 0, .nilsl, .nilsl, .nilsl, .int .i64 0,
  .int .i64 0, .bool false, .int .i64 0, .int .i64 0, .int .i64 0, .int .i64 0, .int .i64 0, .int .i64 0, .nilsl, .int .i64 0]), s 37 8 31, m 9 32], q [r [m 33 9,
  o 34 (.un .not (t 33))]] (.cond (t 34) (q [r [m 35 5, le 36 35, mv 2 (.const (.nilsl)), m 3 36, mv 4 (n 3)]] (.ret)) (sk)), r [m 37 5, ln 38 37 8, o 39 (.buildSl 37 1 [.int .i64 0,
  .int .i64 0, .int .i64 0, .int .i64 0, .int .i64 0, .int .i64 0, .int .i64 0, .int .i64 0, .int .i64 0, .int .i64 0, .int .i64 0, .int .i64 0, .bool false,
  .bool false, .int .i64 0, .nilsl, .int .i64 0, .int .i64 0, .int .i64 0, .int .i64 0, .int .i64 0, .str [], .int .i64 0, .nilsl, .nilsl, .nilsl, .int .i64 0,
  .int .i64 0, .bool false, .int .i64 0, .int .i64 0, .int .i64 0, .int .i64 0, .int .i64 0, .int .i64 0, .nilsl, .int .i64 0] [(0, 37, .tmp 38)]), o 40 (.app 37 376 (t 37) (t 39)),
  m 5 40]] (r [m 41 7, ar 42 .add (t 41) (n 1), m 6 42]))] (r [m 14 7, ar 15 .add (t 14) (n 1), m 7 15])))), q [r [m 43 6, m 44 0, o 45 (.lenS (t 44)), ar 46 .lss (t 43) (t 45)]] (.cond (t 46) (q [q [r [m 47 5,
  le 48 47, ar 49 .geq (t 48) (n 200)]] (.cond (t 49) (q [r [m 50 5, le 51 50, mv 2 (.const (.nilsl)), m 3 51, mv 4 (n 2)]] (.ret)) (sk)), r [m 52 5, le 53 52,
  mv 2 (.const (.nilsl)), m 3 53, mv 4 (n 3)]] (.ret)) (sk)), r [m 54 5, m 55 5, le 56 55, m 2 54, m 3 56, mv 4 (n 0)]] (.ret)⟩
theorem A13_ok : XOk Tryz.prog [] 13 A13 := ⟨Tryz.f13, Tryz.func13, by kernel_rfl, by decide, by kernel_rfl, its_nil (by kernel_rfl)⟩

/- widgetry/widgetryref45.EqualInputs -/
def A14 : AFn := ⟨27, [.tmp 4], q [r [mv 4 ff], q [r [m 6 0, le 7 6, m 8 1, le 9 8, ar 10 .neq (t 7) (t 9)]] (.cond (t 10) (q [r [mv 4 ff]] (.ret)) (sk)), q [r [mv 5 (n 0)]] (.block 0 (.loop (q [q [r [m 11 5,
  m 12 0, le 13 12, ar 14 .lss (t 11) (t 13)]] (.cond (t 14) (sk) (.exit 0)), .block 1 (q [d [(m 17 0, 0), (m 18 5, 0), (ia 19 37 17 (t 18), 3), (ln 20 37 19,
  7), (m 21 1, 0), (m 22 5, 0), (ia 23 37 21 (t 22), 48), (ln 24 37 23, 112), (c 25 18 [t 20, t 24], 255), (o 26 (.un .not (t 25)), 511)]] (.cond (t 26) (q [r [mv 4 ff]] (.ret)) (sk)))] (r [m 15 5,
  ar 16 .add (t 15) (n 1), m 5 16])))), r [mv 4 tt]] (.ret)⟩
theorem A14_ok : XOk Tryz.prog [] 14 A14 := ⟨Tryz.f14, Tryz.func14, by kernel_rfl, by decide, by kernel_rfl, its_nil (by kernel_rfl)⟩

/- widgetry/widgetrylaw45.awake -/
def A15 : AFn := ⟨42, [.tmp 0], q [r [mv 0 ff], r [c 5 12 [.const (.str [107, 101, 121, 32, 99, 116, 114, 108, 43, 115, 32, 53, 10])], m 4 5, ex 6 4 0, ex 7 4 1, ex 8 4 2, m 1 6, m 2 7,
  m 3 8], r [m 9 3, ar 10 .eql (t 9) (n 0), m 11 10, og 12 (.mov (t 2)) 11 true, og 13 (.arith .eql (t 12) (n 1)) 11 true, o 14 (.pick (t 11) (t 13) ff),
  m 15 14, og 16 (.mov (t 1)) 15 true, og 17 (.len (t 16)) 15 true, og 18 (.arith .eql (t 17) (n 1)) 15 true, o 19 (.pick (t 15) (t 18) ff), m 20 19, og 21 (.mov (t 1)) 20 true,
  og 22 (.idxA 37 (t 21) (n 0)) 20 true, og 23 (.fldA 0 (t 22)) 20 true, og 24 (.ld1 (t 23)) 20 true, og 25 (.arith .eql (t 24) (n 2)) 20 true, o 26 (.pick (t 20) (t 25) ff),
  m 27 26, og 28 (.mov (t 1)) 27 true, og 29 (.idxA 37 (t 28) (n 0)) 27 true, og 30 (.fldA 7 (t 29)) 27 true, og 31 (.ldn 2 (t 30)) 27 true, og 32 (.build [.int .i64 0,
  .int .i64 0] [(0, 1, .const (.int .i64 115)), (1, 1, .const (.int .i64 1))]) 27 true, og 33 (.eqf false [.int .i64, .int .i64] (t 31) (t 32)) 27 true,
  o 34 (.pick (t 27) (t 33) ff), m 35 34, og 36 (.mov (t 1)) 35 true, og 37 (.idxA 37 (t 36) (n 0)) 35 true, og 38 (.fldA 9 (t 37)) 35 true, og 39 (.ld1 (t 38)) 35 true,
  og 40 (.arith .eql (t 39) (n 5)) 35 true, o 41 (.pick (t 35) (t 40) ff), m 0 41]] (.ret)⟩
theorem A15_ok : XOk Tryz.prog [] 15 A15 := ⟨Tryz.f15, Tryz.func15, by kernel_rfl, by decide, by kernel_rfl, its_nil (by kernel_rfl)⟩

/- widgetry/widgetrylaw45.small -/
def A16 : AFn := ⟨44, [.tmp 2], q [r [o 1 (.box (t 0)), mv 2 ff], r [fa 3 15 1, l 4 3, le 5 4, ar 6 .leq (t 5) (n 5), m 7 6, og 8 (.fldA 22 (t 1)) 7 true, og 9 (.fldA 1 (t 8)) 7 true,
  og 10 (.ld1 (t 9)) 7 true, og 11 (.len (t 10)) 7 true, og 12 (.arith .leq (t 11) (n 30)) 7 true, o 13 (.pick (t 7) (t 12) ff), m 14 13, og 15 (.fldA 22 (t 1)) 14 true,
  og 16 (.fldA 13 (t 15)) 14 true, og 17 (.ld1 (t 16)) 14 true, og 18 (.len (t 17)) 14 true, og 19 (.arith .leq (t 18) (n 20)) 14 true, o 20 (.pick (t 14) (t 19) ff),
  m 21 20, og 22 (.fldA 22 (t 1)) 21 true, og 23 (.fldA 2 (t 22)) 21 true, og 24 (.fldA 0 (t 23)) 21 true, og 25 (.ld1 (t 24)) 21 true, og 26 (.len (t 25)) 21 true,
  og 27 (.arith .leq (t 26) (n 30)) 21 true, o 28 (.pick (t 21) (t 27) ff), m 29 28, og 30 (.fldA 22 (t 1)) 29 true, og 31 (.fldA 2 (t 30)) 29 true, og 32 (.fldA 1 (t 31)) 29 true,
  og 33 (.ld1 (t 32)) 29 true, og 34 (.len (t 33)) 29 true, og 35 (.arith .leq (t 34) (n 30)) 29 true, o 36 (.pick (t 29) (t 35) ff), m 37 36, og 38 (.fldA 16 (t 1)) 37 true,
  og 39 (.fldA 5 (t 38)) 37 true, og 40 (.ld1 (t 39)) 37 true, og 41 (.lenS (t 40)) 37 true, og 42 (.arith .leq (t 41) (n 60)) 37 true, o 43 (.pick (t 37) (t 42) ff),
  m 2 43]] (.ret)⟩
theorem A16_ok : XOk Tryz.prog [] 16 A16 := ⟨Tryz.f16, Tryz.func16, by kernel_rfl, by decide, by kernel_rfl, its_nil (by kernel_rfl)⟩

/- widgetry/script.Format -/
def A17 : AFn := ⟨43, [.tmp 2, .tmp 3], q [r [mv 2 (.const (.str [])), mv 3 (n 0)], q [r [m 10 0, le 11 10, ar 12 .gtr (t 11) (n 200)]] (.cond (t 12) (q [r [mv 2 (.const (.str [])), mv 3 (n 2)]] (.ret)) (sk)),
  r [o 4 (.xo (.newT 85 [.nilptr, .nilsl]) [])], q [r [m 13 0, le 14 13, mv 15 (n 0)]] (.block 0 (.loop (q [r [ar 16 .lss (t 15) (t 14)], .cond (t 16) (sk) (.exit 0),
  .block 1 (q [r [ia 17 37 13 (t 15), ln 18 37 17, o 6 (.new [.int .i64 0, .int .i64 0, .int .i64 0, .int .i64 0, .int .i64 0, .int .i64 0, .int .i64 0,
  .int .i64 0, .int .i64 0, .int .i64 0, .int .i64 0, .int .i64 0, .bool false, .bool false, .int .i64 0, .nilsl, .int .i64 0, .int .i64 0, .int .i64 0,
  .int .i64 0, .int .i64 0, .str [], .int .i64 0, .nilsl, .nilsl, .nilsl, .int .i64 0, .int .i64 0, .bool false, .int .i64 0, .int .i64 0, .int .i64 0, .int .i64 0,
  .int .i64 0, .int .i64 0, .nilsl, .int .i64 0]), s 37 6 18], r [ln 19 37 6, c 20 28 [t 19], m 7 20], q [r [m 22 7, c 23 27 [t 22], m 21 23, ex 24 21 0,
  ex 25 21 1, o 8 (.new [.int .i64 0, .int .i64 0, .int .i64 0, .int .i64 0, .int .i64 0, .int .i64 0, .int .i64 0, .int .i64 0, .int .i64 0, .int .i64 0,
  .int .i64 0, .int .i64 0, .bool false, .bool false, .int .i64 0, .nilsl, .int .i64 0, .int .i64 0, .int .i64 0, .int .i64 0, .int .i64 0, .str [], .int .i64 0,
  .nilsl, .nilsl, .nilsl, .int .i64 0, .int .i64 0, .bool false, .int .i64 0, .int .i64 0, .int .i64 0, .int .i64 0, .int .i64 0, .int .i64 0, .nilsl, .int .i64 0]),
  s 37 8 24, m 9 25], r [m 26 9, o 27 (.un .not (t 26)), m 28 27, og 29 (.mov (t 7)) 28 false, og 30 (.call (fn 29) [t 29, .const (.str [10])]) 28 false,
  o 31 (.pick (t 28) tt (t 30)), m 32 31, og 33 (.ldn 37 (t 6)) 32 false, og 34 (.ldn 37 (t 8)) 32 false, og 35 (.call (fn 30) [t 33, t 34]) 32 false, og 36 (.un .not (t 35)) 32 false,
  o 37 (.pick (t 32) tt (t 36))]] (.cond (t 37) (q [r [mv 2 (.const (.str [])), mv 3 (n 1)]] (.ret)) (sk))] (r [m 38 7, ar 39 .add (t 38) (.const (.str [10])),
  c 40 31 [t 4, t 39]]))] (r [ar 41 .add (t 15) (n 1), m 15 41])))), r [c 42 32 [t 4], m 2 42, mv 3 (n 0)]] (.ret)⟩
theorem A17_ok : XOk Tryz.prog [] 17 A17 := ⟨Tryz.f17, Tryz.func17, by kernel_rfl, by decide, by kernel_rfl, its_nil (by kernel_rfl)⟩

/- widgetry/widgetryref45.Equal -/
def A18 : AFn := ⟨66, [.tmp 4], q [r [o 2 (.box (t 0)), o 3 (.box (t 1)), mv 4 ff], r [fa 5 0 2, l 6 5, fa 7 0 3, l 8 7, ar 9 .eql (t 6) (t 8), m 10 9, og 11 (.fldA 1 (t 2)) 10 true,
  og 12 (.ldn 6 (t 11)) 10 true, og 13 (.fldA 1 (t 3)) 10 true, og 14 (.ldn 6 (t 13)) 10 true, og 15 (.eqf false [.int .i64, .int .i64, .int .i64, .int .i64,
  .int .i64, .int .i64] (t 12) (t 14)) 10 true, o 16 (.pick (t 10) (t 15) ff), m 17 16, og 18 (.fldA 7 (t 2)) 17 true, og 19 (.ldn 2 (t 18)) 17 true, og 20 (.fldA 7 (t 3)) 17 true,
  og 21 (.ldn 2 (t 20)) 17 true, og 22 (.eqf false [.int .i64, .int .i64] (t 19) (t 21)) 17 true, o 23 (.pick (t 17) (t 22) ff), m 24 23, og 25 (.fldA 9 (t 2)) 24 true,
  og 26 (.ld1 (t 25)) 24 true, og 27 (.fldA 9 (t 3)) 24 true, og 28 (.ld1 (t 27)) 24 true, og 29 (.arith .eql (t 26) (t 28)) 24 true, o 30 (.pick (t 24) (t 29) ff),
  m 31 30, og 32 (.fldA 10 (t 2)) 31 true, og 33 (.ldn 2 (t 32)) 31 true, og 34 (.fldA 10 (t 3)) 31 true, og 35 (.ldn 2 (t 34)) 31 true, og 36 (.eqf false [.int .i64,
  .int .i64] (t 33) (t 35)) 31 true, o 37 (.pick (t 31) (t 36) ff), m 38 37, og 39 (.fldA 12 (t 2)) 38 true, og 40 (.ldn 3 (t 39)) 38 true, og 41 (.fldA 12 (t 3)) 38 true,
  og 42 (.ldn 3 (t 41)) 38 true, og 43 (.eqf false [.bool, .bool, .int .i64] (t 40) (t 42)) 38 true, o 44 (.pick (t 38) (t 43) ff), m 45 44, og 46 (.fldA 15 (t 2)) 45 true,
  og 47 (.ld1 (t 46)) 45 true, og 48 (.fldA 15 (t 3)) 45 true, og 49 (.ld1 (t 48)) 45 true, og 50 (.call (fn 33) [t 47, t 49]) 45 true, o 51 (.pick (t 45) (t 50) ff),
  m 52 51, og 53 (.fldA 16 (t 2)) 52 true, og 54 (.ldn 6 (t 53)) 52 true, og 55 (.fldA 16 (t 3)) 52 true, og 56 (.ldn 6 (t 55)) 52 true, og 57 (.eqf false [.int .i64,
  .int .i64, .int .i64, .int .i64, .int .i64, .str] (t 54) (t 56)) 52 true, o 58 (.pick (t 52) (t 57) ff), m 59 58, og 60 (.fldA 22 (t 2)) 59 true, og 61 (.ldn 15 (t 60)) 59 true,
  og 62 (.fldA 22 (t 3)) 59 true, og 63 (.ldn 15 (t 62)) 59 true, og 64 (.call (fn 34) [t 61, t 63]) 59 true, o 65 (.pick (t 59) (t 64) ff), m 4 65]] (.ret)⟩
theorem A18_ok : XOk Tryz.prog [] 18 A18 := ⟨Tryz.f18, Tryz.func18, by kernel_rfl, by decide, by kernel_rfl, its_nil (by kernel_rfl)⟩

/- (*widgetry/widgetrybase.Src).Range -/
def A19 : AFn := ⟨15, [.tmp 6], q [r [mv 6 (n 0)], r [m 7 1, m 8 0, m 9 2, m 10 1, ar 11 .sub (t 9) (t 10), ar 12 .add (t 11) (n 1), c 13 8 [t 8, t 12], ar 14 .add (t 7) (t 13), m 6 14]] (.ret)⟩
theorem A19_ok : XOk Tryz.prog [] 19 A19 := ⟨Tryz.f19, Tryz.func19, by kernel_rfl, by decide, by kernel_rfl, its_nil (by kernel_rfl)⟩

/- (*widgetry/widgetrybase.Src).Chords -/
def A20 : AFn := ⟨27, [.tmp 2], q [r [mv 2 (.const (.nilsl))], r [o 6 (.buildSl 1 7 [.int .i64 0, .int .i64 0, .int .i64 0, .int .i64 0, .int .i64 0, .int .i64 0, .int .i64 0] [(0, 1,
  .const (.int .i64 97)), (1, 1, .const (.int .i64 107)), (2, 1, .const (.int .i64 99)), (3, 1, .const (.int .i64 49)), (4, 1, .const (.int .i64 32)), (5,
  1, .const (.int .i64 2)), (6, 1, .const (.int .i64 12))]), m 3 6], r [mv 4 (.const (.nilsl))], q [r [m 7 0, c 8 19 [t 7, n 1, n 3], m 5 8]] (.block 0 (.loop (q [q [r [m 9 5,
  ar 10 .gtr (t 9) (n 0)]] (.cond (t 10) (sk) (.exit 0)), .block 1 (d [(m 13 4, 0), (m 14 3, 0), (m 15 0, 0), (m 16 3, 0), (le 17 16, 8), (c 18 8 [t 15,
  t 17], 28), (ia 19 1 14 (t 18), 62), (l 20 19, 126), (m 21 0, 0), (c 22 8 [t 21, n 3], 316), (o 23 (.build [.int .i64 0, .int .i64 0] [(0, 1, .tmp 20),
  (1, 1, .tmp 22)]), 1022), (o 24 (.buildSl 2 1 [.int .i64 0, .int .i64 0] [(0, 2, .tmp 23)]), 2046), (o 25 (.app 2 16 (t 13) (t 24)), 4095), (m 4 25, 8191)])] (r [m 11 5,
  ar 12 .sub (t 11) (n 1), m 5 12])))), r [m 26 4, m 2 26]] (.ret)⟩
theorem A20_ok : XOk Tryz.prog [] 20 A20 := ⟨Tryz.f20, Tryz.func20, by kernel_rfl, by decide, by kernel_rfl, its_nil (by kernel_rfl)⟩

/- (*widgetry/widgetrybase.Src).Mode -/
def A21 : AFn := ⟨15, [.cell 2 (some 3)], q [r [o 2 (.new [.bool false, .bool false, .int .i64 0])], r [m 3 0, c 4 8 [t 3, n 2], ar 5 .eql (t 4) (n 1), m 6 0, c 7 8 [t 6, n 2], ar 8 .eql (t 7) (n 1),
  o 9 (.buildSl 1 5 [.int .i64 0, .int .i64 0, .int .i64 0, .int .i64 0, .int .i64 0] [(0, 1, .const (.int .i64 100)), (1, 1, .const (.int .i64 100)), (2,
  1, .const (.int .i64 50)), (3, 1, .const (.int .i64 150)), (4, 1, .const (.int .i64 400))]), m 10 0, c 11 8 [t 10, n 5], ia 12 1 9 (t 11), l 13 12, o 14 (.build [.bool false,
  .bool false, .int .i64 0] [(0, 1, .tmp 5), (1, 1, .tmp 8), (2, 1, .tmp 13)]), s 3 2 14]] (.ret)⟩
theorem A21_ok : XOk Tryz.prog [] 21 A21 := ⟨Tryz.f21, Tryz.func21, by kernel_rfl, by decide, by kernel_rfl, its_nil (by kernel_rfl)⟩

/- (*widgetry/widgetrybase.Src).Value -/
def A22 : AFn := ⟨65, [.cell 4 (some 4)], q [r [o 4 (.new [.int .i64 0, .int .i64 0, .str [], .nilsl])], q [r [m 10 0, c 11 8 [t 10, n 5]]] (.block 0 (q [r [ar 13 .eql (t 11) (n 0), m 12 13]] (.cond (t 12) (q [r [m 14 0,
  c 15 8 [t 14, n 2], o 16 (.build [.int .i64 0, .int .i64 0, .str [], .nilsl] [(0, 1, .const (.int .i64 2)), (1, 1, .tmp 15)]), s 4 4 16]] (.ret)) (q [q [r [ar 18 .eql (t 11) (n 1),
  m 17 18]] (.cond (t 17) (sk) (r [ar 19 .eql (t 11) (n 2), m 17 19]))] (.cond (t 17) (q [r [m 20 0, c 21 35 [t 20, n 4], o 22 (.build [.int .i64 0, .int .i64 0,
  .str [], .nilsl] [(0, 1, .const (.int .i64 3)), (2, 1, .tmp 21)]), s 4 4 22]] (.ret)) (q [r [ar 24 .eql (t 11) (n 3), m 23 24]] (.cond (t 23) (q [r [m 25 1,
  ar 26 .gtr (t 25) (n 0)]] (.cond (t 26) (q [r [o 27 (.build [.int .i64 0, .int .i64 0, .str [], .nilsl] [(0, 1, .const (.int .i64 4))]), o 5 (.new [.int .i64 0,
  .int .i64 0, .str [], .nilsl]), s 4 5 27], q [r [m 28 0, c 29 8 [t 28, n 4], m 6 29], r [m 30 6, ar 31 .gtr (t 30) (n 0)]] (.cond (t 31) (q [r [m 32 0,
  m 33 1, ar 34 .sub (t 33) (n 1), c 35 22 [t 32, t 34], o 7 (.new [.int .i64 0, .int .i64 0, .str [], .nilsl]), s 4 7 35], r [fa 36 3 5, l 37 36, ln 38 4 7,
  o 39 (.buildSl 4 1 [.int .i64 0, .int .i64 0, .str [], .nilsl] [(0, 4, .tmp 38)]), o 40 (.app 4 56 (t 37) (t 39)), fa 41 3 5, s 1 41 40], r [mv 8 (n 1)]] (.block 1 (.loop (q [q [r [m 42 8,
  m 43 6, ar 44 .lss (t 42) (t 43)]] (.cond (t 44) (sk) (.exit 1)), .block 2 (d [(fa 47 3 5, 0), (l 48 47, 1), (m 49 0, 0), (ln 50 4 7, 0), (c 51 36 [t 49,
  t 50], 12), (o 52 (.buildSl 4 1 [.int .i64 0, .int .i64 0, .str [], .nilsl] [(0, 4, .tmp 51)]), 28), (o 53 (.app 4 56 (t 48) (t 52)), 63), (fa 54 3 5,
  127), (s 1 54 53, 255)])] (r [m 45 8, ar 46 .add (t 45) (n 1), m 8 46]))))) (sk)), r [ln 55 4 5, s 4 4 55]] (.ret)) (sk))) (sk)))))))), r [o 56 (.buildSl 1 10 [.int .i64 0,
  .int .i64 0, .int .i64 0, .int .i64 0, .int .i64 0, .int .i64 0, .int .i64 0, .int .i64 0, .int .i64 0, .int .i64 0] [(0, 1, .const (.int .i64 0)), (1,
  1, .const (.int .i64 1)), (2, 1, .const (.int .i64 2)), (3, 1, .const (.int .i64 3)), (4, 1, .const (.int .i64 (-1))), (5, 1, .const (.int .i64 7)), (6,
  1, .const (.int .i64 10)), (7, 1, .const (.int .i64 1099511627776)), (8, 1, .const (.int .i64 (-1099511627776))), (9, 1, .const (.int .i64 1099511627775))]),
  m 9 56], r [m 57 9, m 58 0, m 59 9, le 60 59, c 61 8 [t 58, t 60], ia 62 1 57 (t 61), l 63 62, o 64 (.build [.int .i64 0, .int .i64 0, .str [], .nilsl] [(0,
  1, .const (.int .i64 1)), (1, 1, .tmp 63)]), s 4 4 64]] (.ret)⟩
theorem A22_ok : XOk Tryz.prog [] 22 A22 := ⟨Tryz.f22, Tryz.func22, by kernel_rfl, by decide, by kernel_rfl, its_nil (by kernel_rfl)⟩

/- (*widgetry/widgetrybase.Src).Valid -/
def A23 : AFn := ⟨19, [.tmp 4], q [r [mv 4 (.const (.nilsl))], r [m 6 0, m 7 0, m 8 1, c 9 38 [t 7, t 8], c 10 37 [t 6, t 9], m 5 10], q [r [m 11 5, le 12 11, m 13 1, ar 14 .gtr (t 12) (t 13)]] (.cond (t 14) (r [m 15 5,
  m 16 1, o 17 (.sl 1 (t 15) none (some (.tmp 16)) none), m 5 17]) (sk)), r [m 18 5, m 4 18]] (.ret)⟩
theorem A23_ok : XOk Tryz.prog [] 23 A23 := ⟨Tryz.f23, Tryz.func23, by kernel_rfl, by decide, by kernel_rfl, its_nil (by kernel_rfl)⟩

/- widgetry/widgetryref45.print -/
def A24 : AFn := ⟨232, [.tmp 2], q [r [o 1 (.box (t 0)), mv 2 (.const (.str []))], r [mv 3 (.const (.str []))], q [r [fa 14 0 1, l 15 14]] (.block 0 (q [r [ar 17 .eql (t 15) (n 1), m 16 17]] (.cond (t 16) (q [q [d [(fa 18 1 1,
  0), (fa 19 0 18, 1), (l 20 19, 3), (ar 21 .lss (t 20) (n 1), 7), (m 22 21, 15), (og 23 (.fldA 1 (t 1)) 22 false, 31), (og 24 (.fldA 0 (t 23)) 22 false,
  63), (og 25 (.ld1 (t 24)) 22 false, 127), (og 26 (.call (fn 39) []) 22 false, 31), (og 27 (.len (t 26)) 22 false, 287), (og 28 (.arith .geq (t 25) (t 27)) 22 false,
  1023), (o 29 (.pick (t 22) tt (t 28)), 2047)]] (.cond (t 29) (q [r [mv 2 (.const (.str []))]] (.ret)) (sk)), d [(c 30 39 [], 0), (fa 31 1 1, 0), (fa 32 0 31,
  2), (l 33 32, 6), (ia 34 1 30 (t 33), 15), (l 35 34, 31), (ar 36 .add (.const (.str [112, 111, 105, 110, 116, 101, 114, 32])) (t 35), 63), (fa 37 1 1,
  0), (fa 38 1 37, 128), (l 39 38, 384), (fa 40 1 1, 0), (fa 41 2 40, 1024), (l 42 41, 3072), (fa 43 1 1, 0), (fa 44 3 43, 8192), (l 45 44, 24576), (fa 46 1 1,
  0), (fa 47 4 46, 65536), (l 48 47, 196608), (fa 49 1 1, 0), (fa 50 5 49, 524288), (l 51 50, 1572864), (o 52 (.buildSl 1 5 [.int .i64 0, .int .i64 0, .int .i64 0,
  .int .i64 0, .int .i64 0] [(0, 1, .tmp 39), (1, 1, .tmp 42), (2, 1, .tmp 45), (3, 1, .tmp 48), (4, 1, .tmp 51)]), 4194176), (c 53 40 [t 52], 8388481),
  (ar 54 .add (t 36) (t 53), 16777215), (m 2 54, 33554431)]] (.ret)) (q [r [ar 56 .eql (t 15) (n 2), m 55 56]] (.cond (t 55) (q [r [fa 58 7 1, ln 59 2 58,
  o 60 (.buildSl 2 1 [.int .i64 0, .int .i64 0] [(0, 2, .tmp 59)]), c 61 41 [t 60], m 57 61, ex 62 57 0, ex 63 57 1, m 4 62, m 5 63], r [m 64 4, ar 65 .add (.const (.str [107,
  101, 121, 32])) (t 64), fa 66 9 1, l 67 66, o 68 (.buildSl 1 1 [.int .i64 0] [(0, 1, .tmp 67)]), c 69 40 [t 68], ar 70 .add (t 65) (t 69), m 2 70]] (.ret)) (q [r [ar 72 .eql (t 15) (n 3),
  m 71 72]] (.cond (t 71) (q [r [fa 73 9 1, l 74 73, o 75 (.buildSl 1 1 [.int .i64 0] [(0, 1, .tmp 74)]), c 76 40 [t 75], ar 77 .add (.const (.str [116,
  105, 109, 101])) (t 76), m 2 77]] (.ret)) (q [r [ar 79 .eql (t 15) (n 4), m 78 79]] (.cond (t 78) (q [r [fa 80 10 1, fa 81 0 80, l 82 81, fa 83 10 1, fa 84 1 83,
  l 85 84, o 86 (.buildSl 1 2 [.int .i64 0, .int .i64 0] [(0, 1, .tmp 82), (1, 1, .tmp 85)]), c 87 40 [t 86], ar 88 .add (.const (.str [115, 105, 122, 101])) (t 87),
  m 2 88]] (.ret)) (q [r [ar 90 .eql (t 15) (n 5), m 89 90]] (.cond (t 89) (q [r [mv 6 (.const (.str [108, 105, 103, 104, 116])), mv 7 (.const (.str [110,
  111, 114, 109, 97, 108]))], q [r [fa 91 12 1, fa 92 0 91, l 93 92]] (.cond (t 93) (r [mv 6 (.const (.str [100, 97, 114, 107]))]) (sk)), q [r [fa 94 12 1,
  fa 95 1 94, l 96 95]] (.cond (t 96) (r [mv 7 (.const (.str [104, 105, 103, 104]))]) (sk)), r [m 97 6, ar 98 .add (.const (.str [109, 111, 100, 101, 32])) (t 97),
  ar 99 .add (t 98) (.const (.str [32])), m 100 7, ar 101 .add (t 99) (t 100), fa 102 12 1, fa 103 2 102, l 104 103, o 105 (.buildSl 1 1 [.int .i64 0] [(0,
  1, .tmp 104)]), c 106 40 [t 105], ar 107 .add (t 101) (t 106), m 2 107]] (.ret)) (q [r [ar 109 .eql (t 15) (n 6), m 108 109]] (.cond (t 108) (q [r [mv 3 (.const (.str [97,
  114, 103, 115]))], q [r [mv 8 (n 0)]] (.block 1 (.loop (q [q [r [m 110 8, fa 111 15 1, l 112 111, le 113 112, ar 114 .lss (t 110) (t 113)]] (.cond (t 114) (sk) (.exit 1)),
  .block 2 (q [q [r [fa 117 15 1, l 118 117, m 119 8, ia 120 4 118 (t 119), ln 121 4 120, c 122 42 [t 121], ar 123 .neq (t 122) (n 0)]] (.cond (t 123) (q [r [mv 2 (.const (.str []))]] (.ret)) (sk))] (r [m 124 3,
  fa 125 15 1, l 126 125, m 127 8, ia 128 4 126 (t 127), ln 129 4 128, c 130 43 [t 129], ar 131 .add (.const (.str [32])) (t 130), ar 132 .add (t 124) (t 131),
  m 3 132]))] (r [m 115 8, ar 116 .add (t 115) (n 1), m 8 116])))), r [m 133 3, m 2 133]] (.ret)) (q [r [ar 135 .eql (t 15) (n 7), m 134 135]] (.cond (t 134) (q [r [fa 136 16 1,
  ln 137 6 136, o 9 (.new [.int .i64 0, .int .i64 0, .int .i64 0, .int .i64 0, .int .i64 0, .str []]), s 6 9 137], q [r [mv 10 (n 0)]] (.block 3 (.loop (q [q [r [m 138 10,
  c 139 44 [], le 140 139, ar 141 .lss (t 138) (t 140)]] (.cond (t 141) (sk) (.exit 3)), .block 4 (q [r [fa 144 2 9, l 145 144, m 146 10, o 147 (.convI .u64 (t 146)),
  ar 148 .shl (n 1) (t 147), ar 149 .eql (t 145) (t 148)]] (.cond (t 149) (r [c 150 44 [], m 151 10, ia 152 1 150 (t 151), l 153 152, m 3 153]) (sk)))] (r [m 142 10,
  ar 143 .add (t 142) (n 1), m 10 143])))), d [(fa 154 0 9, 0), (l 155 154, 1), (fa 156 1 9, 0), (l 157 156, 4), (o 158 (.buildSl 1 2 [.int .i64 0, .int .i64 0] [(0,
  1, .tmp 155), (1, 1, .tmp 157)]), 15), (c 159 40 [t 158], 31), (ar 160 .add (.const (.str [97, 99, 99, 101, 115, 115])) (t 159), 63), (ar 161 .add (t 160) (.const (.str [32])),
  127), (m 162 3, 0), (ar 163 .add (t 161) (t 162), 511), (fa 164 3 9, 0), (l 165 164, 1024), (fa 166 4 9, 0), (l 167 166, 4096), (o 168 (.buildSl 1 2 [.int .i64 0,
  .int .i64 0] [(0, 1, .tmp 165), (1, 1, .tmp 167)]), 15360), (c 169 40 [t 168], 31807), (ar 170 .add (t 163) (t 169), 65535), (ar 171 .add (t 170) (.const (.str [32])),
  131071), (fa 172 5 9, 0), (l 173 172, 262144), (c 174 45 [t 173], 851007), (ar 175 .add (t 171) (t 174), 2097151), (m 2 175, 4194303)]] (.ret)) (q [r [ar 177 .eql (t 15) (n 8),
  m 176 177]] (.cond (t 176) (q [r [fa 178 22 1, ln 179 15 178, o 11 (.new [.int .i64 0, .nilsl, .nilsl, .nilsl, .int .i64 0, .int .i64 0, .bool false, .int .i64 0,
  .int .i64 0, .int .i64 0, .int .i64 0, .int .i64 0, .int .i64 0, .nilsl, .int .i64 0]), s 15 11 179], q [r [fa 180 0 11, l 181 180]] (.block 5 (q [r [ar 183 .eql (t 181) (n 14),
  m 182 183]] (.cond (t 182) (q [r [mv 2 (.const (.str [99, 111, 109, 112, 111, 115, 101, 32, 98, 101, 103, 105, 110]))]] (.ret)) (q [r [ar 185 .eql (t 181) (n 17),
  m 184 185]] (.cond (t 184) (q [r [mv 2 (.const (.str [99, 111, 109, 112, 111, 115, 101, 32, 99, 97, 110, 99, 101, 108]))]] (.ret)) (q [r [ar 187 .eql (t 181) (n 16),
  m 186 187]] (.cond (t 186) (q [r [fa 188 1 11, l 189 188, o 190 (.xo .r2s [t 189]), c 191 45 [t 190], ar 192 .add (.const (.str [99, 111, 109, 112, 111,
  115, 101, 32, 99, 111, 109, 109, 105, 116, 32])) (t 191), m 2 192]] (.ret)) (sk)))))))), d [(fa 193 1 11, 0), (l 194 193, 1), (o 195 (.xo .r2s [t 194]),
  3), (c 196 45 [t 195], 7), (ar 197 .add (.const (.str [99, 111, 109, 112, 111, 115, 101, 32, 117, 112, 100, 97, 116, 101, 32])) (t 196), 15), (fa 198 12 11,
  0), (l 199 198, 32), (o 200 (.buildSl 1 1 [.int .i64 0] [(0, 1, .tmp 199)]), 96), (c 201 40 [t 200], 239), (ar 202 .add (t 197) (t 201), 511), (m 3 202,
  1023)], q [r [mv 12 (n 0)]] (.block 6 (.loop (q [q [r [m 203 12, fa 204 13 11, l 205 204, le 206 205, ar 207 .lss (t 203) (t 206)]] (.cond (t 207) (sk) (.exit 6)),
  .block 7 (q [r [fa 210 13 11, l 211 210, m 212 12, ia 213 2 211 (t 212), fa 214 0 213, l 215 214, m 13 215], q [r [m 216 13, ar 217 .lss (t 216) (n 0)]] (.cond (t 217) (q [r [mv 2 (.const (.str []))]] (.ret)) (sk)),
  q [r [fa 218 13 11, l 219 218, m 220 12, ia 221 2 219 (t 220), fa 222 1 221, l 223 222]] (.cond (t 223) (r [m 224 13, o 225 (.un .neg (t 224)), m 13 225]) (sk))] (r [m 226 3,
  m 227 13, o 228 (.buildSl 1 1 [.int .i64 0] [(0, 1, .tmp 227)]), c 229 40 [t 228], ar 230 .add (t 226) (t 229), m 3 230]))] (r [m 208 12, ar 209 .add (t 208) (n 1),
  m 12 209])))), r [m 231 3, m 2 231]] (.ret)) (sk)))))))))))))))))), r [mv 2 (.const (.str []))]] (.ret)⟩
theorem A24_ok : XOk Tryz.prog [] 24 A24 := ⟨Tryz.f24, Tryz.func24, by kernel_rfl, by decide, by kernel_rfl, its_nil (by kernel_rfl)⟩

/- widgetry/widgetryref45.line -/
def A25 : AFn := ⟨261, [.cell 2 (some 37), .tmp 3], q [r [o 2 (.new [.int .i64 0, .int .i64 0, .int .i64 0, .int .i64 0, .int .i64 0, .int .i64 0, .int .i64 0, .int .i64 0, .int .i64 0, .int .i64 0, .int .i64 0,
  .int .i64 0, .bool false, .bool false, .int .i64 0, .nilsl, .int .i64 0, .int .i64 0, .int .i64 0, .int .i64 0, .int .i64 0, .str [], .int .i64 0, .nilsl,
  .nilsl, .nilsl, .int .i64 0, .int .i64 0, .bool false, .int .i64 0, .int .i64 0, .int .i64 0, .int .i64 0, .int .i64 0, .int .i64 0, .nilsl, .int .i64 0]),
  mv 3 ff], r [m 13 0, o 14 (.build [.str [], .int .i64 0, .bool false] [(0, 1, .tmp 13)]), o 15 (.box (t 14)), m 4 15], r [o 5 (.new [.int .i64 0, .int .i64 0,
  .int .i64 0, .int .i64 0, .int .i64 0, .int .i64 0, .int .i64 0, .int .i64 0, .int .i64 0, .int .i64 0, .int .i64 0, .int .i64 0, .bool false, .bool false,
  .int .i64 0, .nilsl, .int .i64 0, .int .i64 0, .int .i64 0, .int .i64 0, .int .i64 0, .str [], .int .i64 0, .nilsl, .nilsl, .nilsl, .int .i64 0, .int .i64 0,
  .bool false, .int .i64 0, .int .i64 0, .int .i64 0, .int .i64 0, .int .i64 0, .int .i64 0, .nilsl, .int .i64 0])], q [r [m 16 4, c 17 46 [t 16]]] (.block 0 (q [r [ar 22 .eql (t 17) (.const (.str [112,
  111, 105, 110, 116, 101, 114])), m 21 22]] (.cond (t 21) (q [r [fa 23 0 5, sv 1 23 (n 1)], r [m 24 4, c 25 47 [t 24]], r [c 26 39 [], m 27 4, c 28 46 [t 27],
  c 29 48 [t 26, t 28], m 6 29], r [m 30 4, m 31 4, o 32 (.nilchk (t 31)), fa 33 2 32, l 34 33, m 35 34, og 36 (.mov (t 6)) 35 false, og 37 (.arith .lss (t 36) (n 0)) 35 false,
  o 38 (.pick (t 35) tt (t 37)), o 39 (.nilchk (t 30)), fa 40 2 39, s 1 40 38], r [m 41 6, m 42 4, c 43 49 [t 42], o 44 (.build [.int .i64 0, .int .i64 0,
  .int .i64 0, .int .i64 0, .int .i64 0, .int .i64 0] [(0, 1, .tmp 41), (1, 1, .tmp 43)]), fa 45 1 5, s 6 45 44], r [m 46 4, c 47 49 [t 46], fa 48 1 5, fa 49 2 48,
  s 1 49 47], r [m 50 4, c 51 49 [t 50], fa 52 1 5, fa 53 3 52, s 1 53 51], r [m 54 4, c 55 49 [t 54], fa 56 1 5, fa 57 4 56, s 1 57 55]] (r [m 58 4, c 59 49 [t 58],
  fa 60 1 5, fa 61 5 60, s 1 61 59])) (q [r [ar 63 .eql (t 17) (.const (.str [107, 101, 121])), m 62 63]] (.cond (t 62) (q [r [fa 64 0 5, sv 1 64 (n 2)],
  r [m 65 4, c 66 47 [t 65]], r [m 68 4, c 69 46 [t 68], c 70 50 [t 69], m 67 70, ex 71 67 0, ex 72 67 1, m 7 71, m 8 72], r [m 73 4, m 74 4, o 75 (.nilchk (t 74)),
  fa 76 2 75, l 77 76, m 78 77, og 79 (.mov (t 8)) 78 false, og 80 (.arith .neq (t 79) (n 0)) 78 false, o 81 (.pick (t 78) tt (t 80)), m 82 81, og 83 (.mov (t 7)) 82 false,
  og 84 (.len (t 83)) 82 false, og 85 (.arith .neq (t 84) (n 1)) 82 false, o 86 (.pick (t 82) tt (t 85)), o 87 (.nilchk (t 73)), fa 88 2 87, s 1 88 86],
  q [r [m 89 4, o 90 (.nilchk (t 89)), fa 91 2 90, l 92 91, o 93 (.un .not (t 92))]] (.cond (t 93) (r [m 94 7, ia 95 2 94 (n 0), ln 96 2 95, fa 97 7 5, s 2 97 96]) (sk))] (r [m 98 4,
  c 99 49 [t 98], fa 100 9 5, s 1 100 99])) (q [r [ar 102 .eql (t 17) (.const (.str [116, 105, 109, 101])), m 101 102]] (.cond (t 101) (q [r [fa 103 0 5,
  sv 1 103 (n 3)]] (r [m 104 4, c 105 49 [t 104], fa 106 9 5, s 1 106 105])) (q [r [ar 108 .eql (t 17) (.const (.str [115, 105, 122, 101])), m 107 108]] (.cond (t 107) (q [r [fa 109 0 5,
  sv 1 109 (n 4)], r [m 110 4, c 111 49 [t 110], fa 112 10 5, fa 113 0 112, s 1 113 111]] (r [m 114 4, c 115 49 [t 114], fa 116 10 5, fa 117 1 116, s 1 117 115])) (q [r [ar 119 .eql (t 17) (.const (.str [109,
  111, 100, 101])), m 118 119]] (.cond (t 118) (q [r [fa 120 0 5, sv 1 120 (n 5)], r [m 121 4, c 122 47 [t 121]], r [m 123 4, c 124 46 [t 123], m 9 124],
  r [m 125 4, c 126 47 [t 125]], r [m 127 4, c 128 46 [t 127], m 10 128], r [m 129 9, ar 130 .eql (t 129) (.const (.str [100, 97, 114, 107])), m 131 10,
  ar 132 .eql (t 131) (.const (.str [104, 105, 103, 104])), o 133 (.build [.bool false, .bool false, .int .i64 0] [(0, 1, .tmp 130), (1, 1, .tmp 132)]),
  fa 134 12 5, s 3 134 133], r [m 135 4, m 136 4, o 137 (.nilchk (t 136)), fa 138 2 137, l 139 138, m 140 139, og 141 (.mov (t 9)) 140 false, og 142 (.arith .neq (t 141) (.const (.str [100,
  97, 114, 107]))) 140 false, og 143 (.mov (t 142)) 140 false, og 144 (.mov (t 9)) 143 true, og 145 (.arith .neq (t 144) (.const (.str [108, 105, 103, 104,
  116]))) 143 true, og 146 (.pick (t 143) (t 145) ff) 140 false, o 147 (.pick (t 140) tt (t 146)), m 148 147, og 149 (.mov (t 10)) 148 false, og 150 (.arith .neq (t 149) (.const (.str [104,
  105, 103, 104]))) 148 false, og 151 (.mov (t 150)) 148 false, og 152 (.mov (t 10)) 151 true, og 153 (.arith .neq (t 152) (.const (.str [110, 111, 114,
  109, 97, 108]))) 151 true, og 154 (.pick (t 151) (t 153) ff) 148 false, o 155 (.pick (t 148) tt (t 154)), o 156 (.nilchk (t 135)), fa 157 2 156, s 1 157 155]] (r [m 158 4,
  c 159 49 [t 158], fa 160 12 5, fa 161 2 160, s 1 161 159])) (q [r [ar 163 .eql (t 17) (.const (.str [97, 114, 103, 115])), m 162 163]] (.cond (t 162) (q [r [fa 164 0 5,
  sv 1 164 (n 6)]] (.block 1 (.loop (q [q [r [m 165 4, o 166 (.nilchk (t 165)), fa 167 2 166, l 168 167, o 169 (.un .not (t 168)), m 170 169, og 171 (.mov (t 4)) 170 true,
  og 172 (.call (fn 51) [t 171]) 170 true, og 173 (.un .not (t 172)) 170 true, o 174 (.pick (t 170) (t 173) ff)]] (.cond (t 174) (sk) (.exit 1))] (.block 2 (q [r [m 175 4,
  c 176 47 [t 175]], r [m 177 4, c 178 52 [t 177, n 1], o 11 (.new [.int .i64 0, .int .i64 0, .str [], .nilsl]), s 4 11 178], r [m 179 4, m 180 4, o 181 (.nilchk (t 180)),
  fa 182 2 181, l 183 182, m 184 183, og 185 (.ldn 4 (t 11)) 184 false, og 186 (.call (fn 42) [t 185]) 184 false, og 187 (.arith .neq (t 186) (n 0)) 184 false,
  o 188 (.pick (t 184) tt (t 187)), o 189 (.nilchk (t 179)), fa 190 2 189, s 1 190 188]] (d [(fa 191 15 5, 0), (l 192 191, 1), (ln 193 4 11, 0), (le 194 192,
  3), (o 195 (.buildSl 4 1 [.int .i64 0, .int .i64 0, .str [], .nilsl] [(0, 4, .const (.agg [.int .i64 0, .int .i64 0, .str [], .nilsl]))]), 0), (o 196 (.app 4 56 (t 192) (t 195)),
  31), (ia 197 4 196 (t 194), 63), (s 4 197 193, 127), (fa 198 15 5, 63), (s 1 198 196, 319)]))))))) (q [r [ar 200 .eql (t 17) (.const (.str [97, 99, 99,
  101, 115, 115])), m 199 200]] (.cond (t 199) (q [r [fa 201 0 5, sv 1 201 (n 7)], r [m 202 4, c 203 49 [t 202], fa 204 16 5, fa 205 0 204, s 1 205 203],
  r [m 206 4, c 207 49 [t 206], fa 208 16 5, fa 209 1 208, s 1 209 207], r [m 210 4, c 211 47 [t 210]], r [c 212 44 [], m 213 4, c 214 46 [t 213], c 215 48 [t 212,
  t 214], m 12 215], r [m 216 4, m 217 4, o 218 (.nilchk (t 217)), fa 219 2 218, l 220 219, m 221 220, og 222 (.mov (t 12)) 221 false, og 223 (.arith .lss (t 222) (n 0)) 221 false,
  o 224 (.pick (t 221) tt (t 223)), o 225 (.nilchk (t 216)), fa 226 2 225, s 1 226 224], r [m 227 12, o 228 (.mnmx true (t 227) (n 0)), o 229 (.convI .u64 (t 228)),
  ar 230 .shl (n 1) (t 229), fa 231 16 5, fa 232 2 231, s 1 232 230], r [m 233 4, c 234 49 [t 233], fa 235 16 5, fa 236 3 235, s 1 236 234], r [m 237 4,
  c 238 49 [t 237], fa 239 16 5, fa 240 4 239, s 1 240 238]] (r [m 241 4, c 242 53 [t 241], fa 243 16 5, fa 244 5 243, s 1 244 242])) (q [r [ar 246 .eql (t 17) (.const (.str [99,
  111, 109, 112, 111, 115, 101])), m 245 246]] (.cond (t 245) (q [r [fa 247 0 5, sv 1 247 (n 8)]] (r [m 248 4, fa 249 22 5, c 250 54 [t 248, t 249]])) (r [m 18 4,
  o 19 (.nilchk (t 18)), fa 20 2 19, sv 1 20 tt])))))))))))))))))), d [(ln 251 37 5, 0), (m 252 4, 0), (o 253 (.nilchk (t 252)), 2), (fa 254 2 253, 6), (l 255 254,
  14), (o 256 (.un .not (t 255)), 30), (m 257 256, 62), (og 258 (.mov (t 4)) 257 true, 126), (og 259 (.call (fn 51) [t 258]) 257 true, 254), (o 260 (.pick (t 257) (t 259) ff),
  510), (s 37 2 251, 511), (m 3 260, 2047)]] (.ret)⟩
theorem A25_ok : XOk Tryz.prog [] 25 A25 := ⟨Tryz.f25, Tryz.func25, by kernel_rfl, by decide, by kernel_rfl, its_nil (by kernel_rfl)⟩

/- strings.Cut -/
def A26 : AFn := ⟨13, [.tmp 4, .tmp 5, .tmp 6], q [r [mv 4 (.const (.str [])), mv 5 (.const (.str [])), mv 6 ff], r [m 7 0, m 8 1, c 9 55 [t 7, t 8], ex 10 9 0, ex 11 9 1, ex 12 9 2, m 4 10, m 5 11,
  m 6 12]] (.ret)⟩
theorem A26_ok : XOk Tryz.prog [] 26 A26 := ⟨Tryz.f26, Tryz.func26, by kernel_rfl, by decide, by kernel_rfl, its_nil (by kernel_rfl)⟩

/- widgetry/script.input -/
def A27 : AFn := ⟨146, [.cell 2 (some 37), .tmp 3], q [r [o 2 (.new [.int .i64 0, .int .i64 0, .int .i64 0, .int .i64 0, .int .i64 0, .int .i64 0, .int .i64 0, .int .i64 0, .int .i64 0, .int .i64 0, .int .i64 0,
  .int .i64 0, .bool false, .bool false, .int .i64 0, .nilsl, .int .i64 0, .int .i64 0, .int .i64 0, .int .i64 0, .int .i64 0, .str [], .int .i64 0, .nilsl,
  .nilsl, .nilsl, .int .i64 0, .int .i64 0, .bool false, .int .i64 0, .int .i64 0, .int .i64 0, .int .i64 0, .int .i64 0, .int .i64 0, .nilsl, .int .i64 0]),
  mv 3 ff], r [m 7 0, o 8 (.build [.str [], .int .i64 0, .bool false, .bool false] [(0, 1, .tmp 7), (2, 1, .const (.bool true)), (3, 1, .const (.bool true))]),
  o 9 (.box (t 8)), m 4 9], r [o 5 (.new [.int .i64 0, .int .i64 0, .int .i64 0, .int .i64 0, .int .i64 0, .int .i64 0, .int .i64 0, .int .i64 0, .int .i64 0,
  .int .i64 0, .int .i64 0, .int .i64 0, .bool false, .bool false, .int .i64 0, .nilsl, .int .i64 0, .int .i64 0, .int .i64 0, .int .i64 0, .int .i64 0,
  .str [], .int .i64 0, .nilsl, .nilsl, .nilsl, .int .i64 0, .int .i64 0, .bool false, .int .i64 0, .int .i64 0, .int .i64 0, .int .i64 0, .int .i64 0, .int .i64 0,
  .nilsl, .int .i64 0])], r [m 10 4, o 11 (.buildSl 1 8 [.str [], .str [], .str [], .str [], .str [], .str [], .str [], .str []] [(0, 1, .const (.str [112,
  111, 105, 110, 116, 101, 114])), (1, 1, .const (.str [107, 101, 121])), (2, 1, .const (.str [116, 105, 109, 101])), (3, 1, .const (.str [115, 105, 122,
  101])), (4, 1, .const (.str [109, 111, 100, 101])), (5, 1, .const (.str [97, 114, 103, 115])), (6, 1, .const (.str [97, 99, 99, 101, 115, 115])), (7, 1,
  .const (.str [99, 111, 109, 112, 111, 115, 101]))]), c 12 56 [t 10, t 11], ar 13 .add (n 1) (t 12), fa 14 0 5, s 1 14 13], q [r [fa 15 0 5, l 16 15]] (.block 0 (q [r [ar 18 .eql (t 16) (n 1),
  m 17 18]] (.cond (t 17) (q [r [m 19 4, c 20 57 [], c 21 56 [t 19, t 20], ar 22 .add (n 1) (t 21), fa 23 1 5, fa 24 0 23, s 1 24 22]] (r [m 25 4, c 26 58 [t 25],
  m 27 4, c 28 58 [t 27], m 29 4, c 30 58 [t 29], m 31 4, c 32 58 [t 31], m 33 4, c 34 58 [t 33], fa 35 1 5, fa 36 1 35, s 1 36 26, fa 37 1 5, fa 38 2 37,
  s 1 38 28, fa 39 1 5, fa 40 3 39, s 1 40 30, fa 41 1 5, fa 42 4 41, s 1 42 32, fa 43 1 5, fa 44 5 43, s 1 44 34])) (q [r [ar 46 .eql (t 16) (n 2), m 45 46]] (.cond (t 45) (q [r [m 47 4,
  c 48 59 [t 47], fa 49 7 5, s 2 49 48]] (r [m 50 4, c 51 58 [t 50], fa 52 9 5, s 1 52 51])) (q [r [ar 54 .eql (t 16) (n 3), m 53 54]] (.cond (t 53) (r [m 55 4,
  c 56 58 [t 55], fa 57 9 5, s 1 57 56]) (q [r [ar 59 .eql (t 16) (n 4), m 58 59]] (.cond (t 58) (r [m 60 4, c 61 58 [t 60], m 62 4, c 63 58 [t 62], fa 64 10 5,
  fa 65 0 64, s 1 65 61, fa 66 10 5, fa 67 1 66, s 1 67 63]) (q [r [ar 69 .eql (t 16) (n 5), m 68 69]] (.cond (t 68) (q [r [m 70 4, o 71 (.buildSl 1 2 [.str [],
  .str []] [(0, 1, .const (.str [108, 105, 103, 104, 116])), (1, 1, .const (.str [100, 97, 114, 107]))]), c 72 56 [t 70, t 71], ar 73 .eql (t 72) (n 1),
  fa 74 12 5, fa 75 0 74, s 1 75 73], r [m 76 4, o 77 (.buildSl 1 2 [.str [], .str []] [(0, 1, .const (.str [110, 111, 114, 109, 97, 108])), (1, 1, .const (.str [104,
  105, 103, 104]))]), c 78 56 [t 76, t 77], ar 79 .eql (t 78) (n 1), fa 80 12 5, fa 81 1 80, s 1 81 79]] (r [m 82 4, c 83 58 [t 82], fa 84 12 5, fa 85 2 84,
  s 1 85 83])) (q [r [ar 87 .eql (t 16) (n 6), m 86 87]] (.cond (t 86) (r [m 88 4, c 89 60 [t 88], fa 90 15 5, s 1 90 89]) (q [r [ar 92 .eql (t 16) (n 7),
  m 91 92]] (.cond (t 91) (q [r [fa 93 16 5, m 6 93], r [m 94 6, m 95 6, m 96 4, c 97 58 [t 96], m 98 4, c 99 58 [t 98], o 100 (.nilchk (t 94)), fa 101 0 100,
  s 1 101 97, o 102 (.nilchk (t 95)), fa 103 1 102, s 1 103 99], r [m 104 6, m 105 4, c 106 61 [], c 107 56 [t 105, t 106], o 108 (.mnmx true (n 0) (t 107)),
  ar 109 .shl (n 1) (t 108), o 110 (.nilchk (t 104)), fa 111 2 110, s 1 111 109]] (r [m 112 6, m 113 6, m 114 6, m 115 4, c 116 58 [t 115], m 117 4, c 118 58 [t 117],
  m 119 4, c 120 62 [t 119], o 121 (.nilchk (t 112)), fa 122 3 121, s 1 122 116, o 123 (.nilchk (t 113)), fa 124 4 123, s 1 124 118, o 125 (.nilchk (t 114)),
  fa 126 5 125, s 1 126 120])) (q [r [ar 128 .eql (t 16) (n 8), m 127 128]] (.cond (t 127) (r [m 129 4, c 130 63 [t 129], fa 131 22 5, s 15 131 130]) (sk)))))))))))))))))),
  d [(ln 132 37 5, 0), (m 133 4, 0), (o 134 (.nilchk (t 133)), 2), (fa 135 3 134, 6), (l 136 135, 14), (m 137 136, 30), (og 138 (.mov (t 4)) 137 true, 62),
  (og 139 (.nilchk (t 138)) 137 true, 126), (og 140 (.fldA 1 (t 139)) 137 true, 254), (og 141 (.ld1 (t 140)) 137 true, 510), (og 142 (.mov (t 0)) 137 true,
  62), (og 143 (.lenS (t 142)) 137 true, 1086), (og 144 (.arith .eql (t 141) (t 143)) 137 true, 4094), (o 145 (.pick (t 137) (t 144) ff), 8190), (s 37 2 132,
  63), (m 3 145, 32767)]] (.ret)⟩
theorem A27_ok : XOk Tryz.prog [] 27 A27 := ⟨Tryz.f27, Tryz.func27, by kernel_rfl, by decide, by kernel_rfl, its_nil (by kernel_rfl)⟩

/- widgetry/script.line -/
def A28 : AFn := ⟨161, [.tmp 2], q [r [o 1 (.box (t 0)), mv 2 (.const (.str []))], q [r [fa 11 0 1, l 12 11]] (.block 0 (q [r [ar 14 .eql (t 12) (n 1), m 13 14]] (.cond (t 13) (q [d [(c 15 57 [],
  0), (fa 16 1 1, 0), (fa 17 0 16, 2), (l 18 17, 6), (ar 19 .sub (t 18) (n 1), 14), (c 20 64 [t 15, t 19], 31), (ar 21 .add (.const (.str [112, 111, 105,
  110, 116, 101, 114, 32])) (t 20), 63), (ar 22 .add (t 21) (.const (.str [32])), 127), (fa 23 1 1, 0), (fa 24 1 23, 256), (l 25 24, 768), (fa 26 1 1, 0),
  (fa 27 2 26, 2048), (l 28 27, 6144), (fa 29 1 1, 0), (fa 30 3 29, 16384), (l 31 30, 49152), (fa 32 1 1, 0), (fa 33 4 32, 131072), (l 34 33, 393216), (fa 35 1 1,
  0), (fa 36 5 35, 1048576), (l 37 36, 3145728), (o 38 (.buildSl 1 5 [.int .i64 0, .int .i64 0, .int .i64 0, .int .i64 0, .int .i64 0] [(0, 1, .tmp 25),
  (1, 1, .tmp 28), (2, 1, .tmp 31), (3, 1, .tmp 34), (4, 1, .tmp 37)]), 8388352), (c 39 65 [t 38], 16777023), (ar 40 .add (t 22) (t 39), 33554431), (m 2 40,
  67108863)]] (.ret)) (q [r [ar 42 .eql (t 12) (n 2), m 41 42]] (.cond (t 41) (q [r [fa 44 7 1, ln 45 2 44, o 46 (.buildSl 2 1 [.int .i64 0, .int .i64 0] [(0,
  2, .tmp 45)]), c 47 66 [t 46], m 43 47, ex 48 43 0, ex 49 43 1, m 3 48, m 4 49], r [m 50 3, ar 51 .add (.const (.str [107, 101, 121, 32])) (t 50), ar 52 .add (t 51) (.const (.str [32])),
  fa 53 9 1, l 54 53, o 55 (.buildSl 1 1 [.int .i64 0] [(0, 1, .tmp 54)]), c 56 65 [t 55], ar 57 .add (t 52) (t 56), m 2 57]] (.ret)) (q [r [ar 59 .eql (t 12) (n 3),
  m 58 59]] (.cond (t 58) (q [r [fa 60 9 1, l 61 60, o 62 (.buildSl 1 1 [.int .i64 0] [(0, 1, .tmp 61)]), c 63 65 [t 62], ar 64 .add (.const (.str [116,
  105, 109, 101, 32])) (t 63), m 2 64]] (.ret)) (q [r [ar 66 .eql (t 12) (n 4), m 65 66]] (.cond (t 65) (q [r [fa 67 10 1, fa 68 0 67, l 69 68, fa 70 10 1,
  fa 71 1 70, l 72 71, o 73 (.buildSl 1 2 [.int .i64 0, .int .i64 0] [(0, 1, .tmp 69), (1, 1, .tmp 72)]), c 74 65 [t 73], ar 75 .add (.const (.str [115,
  105, 122, 101, 32])) (t 74), m 2 75]] (.ret)) (q [r [ar 77 .eql (t 12) (n 5), m 76 77]] (.cond (t 76) (q [d [(fa 78 12 1, 0), (fa 79 0 78, 1), (l 80 79,
  3), (c 81 67 [t 80, .const (.str [108, 105, 103, 104, 116]), .const (.str [100, 97, 114, 107])], 7), (ar 82 .add (.const (.str [109, 111, 100, 101, 32])) (t 81),
  15), (ar 83 .add (t 82) (.const (.str [32])), 31), (fa 84 12 1, 0), (fa 85 1 84, 64), (l 86 85, 192), (c 87 67 [t 86, .const (.str [110, 111, 114, 109,
  97, 108]), .const (.str [104, 105, 103, 104])], 463), (ar 88 .add (t 83) (t 87), 1023), (ar 89 .add (t 88) (.const (.str [32])), 2047), (fa 90 12 1, 0),
  (fa 91 2 90, 4096), (l 92 91, 12288), (o 93 (.buildSl 1 1 [.int .i64 0] [(0, 1, .tmp 92)]), 28672), (c 94 65 [t 93], 62415), (ar 95 .add (t 89) (t 94),
  131071), (m 2 95, 262143)]] (.ret)) (q [r [ar 97 .eql (t 12) (n 6), m 96 97]] (.cond (t 96) (q [r [o 98 (.buildSl 1 1 [.str []] [(0, 1, .const (.str [97,
  114, 103, 115]))]), m 5 98], q [r [fa 99 15 1, l 100 99, le 101 100, mv 102 (n 0)]] (.block 1 (.loop (q [r [ar 103 .lss (t 102) (t 101)], .cond (t 103) (sk) (.exit 1),
  .block 2 (q [r [ia 104 4 100 (t 102), ln 105 4 104, o 7 (.new [.int .i64 0, .int .i64 0, .str [], .nilsl]), s 4 7 105]] (r [m 106 5, ln 107 4 7, c 108 68 [t 107],
  o 109 (.buildSl 1 1 [.str []] [(0, 1, .tmp 108)]), o 110 (.app 1 16 (t 106) (t 109)), m 5 110]))] (r [ar 111 .add (t 102) (n 1), m 102 111])))), r [m 112 5,
  c 113 69 [t 112, .const (.str [32])], m 2 113]] (.ret)) (q [r [ar 115 .eql (t 12) (n 7), m 114 115]] (.cond (t 114) (q [r [fa 116 16 1, ln 117 6 116, o 8 (.new [.int .i64 0,
  .int .i64 0, .int .i64 0, .int .i64 0, .int .i64 0, .str []]), s 6 8 117], r [mv 9 (n (-1))], q [r [c 118 61 [], le 119 118, mv 120 (n 0)]] (.block 3 (.loop (q [r [ar 121 .lss (t 120) (t 119)],
  .cond (t 121) (sk) (.exit 3), .block 4 (q [r [m 122 120, m 10 122], d [(fa 123 2 8, 0), (l 124 123, 1), (m 125 10, 0), (ar 126 .shl (n 1) (t 125), 4),
  (ar 127 .eql (t 124) (t 126), 15)]] (.cond (t 127) (r [m 128 10, m 9 128]) (sk)))] (r [ar 129 .add (t 120) (n 1), m 120 129])))), d [(fa 130 0 8, 0), (l 131 130,
  1), (fa 132 1 8, 0), (l 133 132, 4), (o 134 (.buildSl 1 2 [.int .i64 0, .int .i64 0] [(0, 1, .tmp 131), (1, 1, .tmp 133)]), 15), (c 135 65 [t 134], 31),
  (ar 136 .add (.const (.str [97, 99, 99, 101, 115, 115, 32])) (t 135), 63), (ar 137 .add (t 136) (.const (.str [32])), 127), (c 138 61 [], 63), (m 139 9,
  0), (c 140 64 [t 138, t 139], 831), (ar 141 .add (t 137) (t 140), 2047), (ar 142 .add (t 141) (.const (.str [32])), 4095), (fa 143 3 8, 0), (l 144 143,
  8192), (fa 145 4 8, 0), (l 146 145, 32768), (o 147 (.buildSl 1 2 [.int .i64 0, .int .i64 0] [(0, 1, .tmp 144), (1, 1, .tmp 146)]), 122880), (c 148 65 [t 147],
  255807), (ar 149 .add (t 142) (t 148), 524287), (ar 150 .add (t 149) (.const (.str [32])), 1048575), (fa 151 5 8, 0), (l 152 151, 2097152), (c 153 70 [t 152],
  6809407), (ar 154 .add (t 150) (t 153), 16777215), (m 2 154, 33554431)]] (.ret)) (q [r [ar 156 .eql (t 12) (n 8), m 155 156]] (.cond (t 155) (q [r [fa 157 22 1,
  ln 158 15 157, c 159 71 [t 158], ar 160 .add (.const (.str [99, 111, 109, 112, 111, 115, 101, 32])) (t 159), m 2 160]] (.ret)) (sk)))))))))))))))))), r [mv 2 (.const (.str []))]] (.ret)⟩
theorem A28_ok : XOk Tryz.prog [] 28 A28 := ⟨Tryz.f28, Tryz.func28, by kernel_rfl, by decide, by kernel_rfl, its_nil (by kernel_rfl)⟩

/- strings.Contains -/
def A29 : AFn := ⟨9, [.tmp 4], q [r [mv 4 ff], r [m 5 0, m 6 1, c 7 72 [t 5, t 6], ar 8 .geq (t 7) (n 0), m 4 8]] (.ret)⟩
theorem A29_ok : XOk Tryz.prog [] 29 A29 := ⟨Tryz.f29, Tryz.func29, by kernel_rfl, by decide, by kernel_rfl, its_nil (by kernel_rfl)⟩

/- widgetry/script.same -/
def A30 : AFn := ⟨68, [.tmp 4], q [r [o 2 (.box (t 0)), o 3 (.box (t 1)), mv 4 ff], r [fa 6 0 2, l 7 6, fa 8 0 3, l 9 8, ar 10 .eql (t 7) (t 9), m 11 10, og 12 (.fldA 1 (t 2)) 11 true,
  og 13 (.ldn 6 (t 12)) 11 true, og 14 (.fldA 1 (t 3)) 11 true, og 15 (.ldn 6 (t 14)) 11 true, og 16 (.eqf false [.int .i64, .int .i64, .int .i64, .int .i64,
  .int .i64, .int .i64] (t 13) (t 15)) 11 true, o 17 (.pick (t 11) (t 16) ff), m 18 17, og 19 (.fldA 7 (t 2)) 18 true, og 20 (.ldn 2 (t 19)) 18 true, og 21 (.fldA 7 (t 3)) 18 true,
  og 22 (.ldn 2 (t 21)) 18 true, og 23 (.eqf false [.int .i64, .int .i64] (t 20) (t 22)) 18 true, o 24 (.pick (t 18) (t 23) ff), m 25 24, og 26 (.fldA 9 (t 2)) 25 true,
  og 27 (.ld1 (t 26)) 25 true, og 28 (.fldA 9 (t 3)) 25 true, og 29 (.ld1 (t 28)) 25 true, og 30 (.arith .eql (t 27) (t 29)) 25 true, o 31 (.pick (t 25) (t 30) ff),
  m 32 31, og 33 (.fldA 10 (t 2)) 32 true, og 34 (.ldn 2 (t 33)) 32 true, og 35 (.fldA 10 (t 3)) 32 true, og 36 (.ldn 2 (t 35)) 32 true, og 37 (.eqf false [.int .i64,
  .int .i64] (t 34) (t 36)) 32 true, o 38 (.pick (t 32) (t 37) ff), m 39 38, og 40 (.fldA 12 (t 2)) 39 true, og 41 (.ldn 3 (t 40)) 39 true, og 42 (.fldA 12 (t 3)) 39 true,
  og 43 (.ldn 3 (t 42)) 39 true, og 44 (.eqf false [.bool, .bool, .int .i64] (t 41) (t 43)) 39 true, o 45 (.pick (t 39) (t 44) ff), m 5 45], r [m 46 5, m 47 46,
  og 48 (.fldA 16 (t 2)) 47 true, og 49 (.ldn 6 (t 48)) 47 true, og 50 (.fldA 16 (t 3)) 47 true, og 51 (.ldn 6 (t 50)) 47 true, og 52 (.eqf false [.int .i64,
  .int .i64, .int .i64, .int .i64, .int .i64, .str] (t 49) (t 51)) 47 true, o 53 (.pick (t 47) (t 52) ff), m 54 53, og 55 (.fldA 15 (t 2)) 54 true, og 56 (.ld1 (t 55)) 54 true,
  og 57 (.fldA 15 (t 3)) 54 true, og 58 (.ld1 (t 57)) 54 true, og 59 (.call (fn 73) [t 56, t 58, fn 74]) 54 true, o 60 (.pick (t 54) (t 59) ff), m 61 60,
  og 62 (.fldA 22 (t 2)) 61 true, og 63 (.ldn 15 (t 62)) 61 true, og 64 (.fldA 22 (t 3)) 61 true, og 65 (.ldn 15 (t 64)) 61 true, og 66 (.call (fn 75) [t 63,
  t 65]) 61 true, o 67 (.pick (t 61) (t 66) ff), m 4 67]] (.ret)⟩
theorem A30_ok : XOk Tryz.prog [] 30 A30 := ⟨Tryz.f30, Tryz.func30, by kernel_rfl, by decide, by kernel_rfl, its_nil (by kernel_rfl)⟩

/- (*strings.Builder).WriteString -/
def A31 : AFn := ⟨19, [.tmp 4, .tmp 5], q [r [mv 4 (n 0), mv 5 (.const (.nilif))], r [m 6 0, c 7 76 [t 6]], r [m 8 0, m 9 0, o 10 (.nilchk (t 9)), fa 11 1 10, l 12 11, m 13 1, o 14 (.stuck),
  o 15 (.nilchk (t 8)), fa 16 1 15, s 1 16 14], r [m 17 1, o 18 (.lenS (t 17)), m 4 18, mv 5 (.const (.nilif))]] (.ret)⟩
theorem A31_ok : XOk Tryz.prog [] 31 A31 := ⟨Tryz.f31, Tryz.func31, by kernel_rfl, by decide, by kernel_rfl, its_nil (by kernel_rfl)⟩

/- (*strings.Builder).String -/
def A32 : AFn := ⟨14, [.tmp 2], q [r [mv 2 (.const (.str []))], d [(m 3 0, 0), (o 4 (.nilchk (t 3)), 1), (fa 5 1 4, 3), (l 6 5, 7), (o 7 (.stuck), 15), (m 8 0, 0), (o 9 (.nilchk (t 8)),
  32), (fa 10 1 9, 96), (l 11 10, 224), (le 12 11, 480), (o 13 (.stuck), 1023), (m 2 13, 2047)]] (.ret)⟩
theorem A32_ok : XOk Tryz.prog [] 32 A32 := ⟨Tryz.f32, Tryz.func32, by kernel_rfl, by decide, by kernel_rfl, its_nil (by kernel_rfl)⟩

/- widgetry/widgetryref11.SameValues -/
def A33 : AFn := ⟨27, [.tmp 4], q [r [mv 4 ff], q [r [m 6 0, le 7 6, m 8 1, le 9 8, ar 10 .neq (t 7) (t 9)]] (.cond (t 10) (q [r [mv 4 ff]] (.ret)) (sk)), q [r [mv 5 (n 0)]] (.block 0 (.loop (q [q [r [m 11 5,
  m 12 0, le 13 12, ar 14 .lss (t 11) (t 13)]] (.cond (t 14) (sk) (.exit 0)), .block 1 (q [d [(m 17 0, 0), (m 18 5, 0), (ia 19 4 17 (t 18), 3), (ln 20 4 19,
  7), (m 21 1, 0), (m 22 5, 0), (ia 23 4 21 (t 22), 48), (ln 24 4 23, 112), (c 25 77 [t 20, t 24], 255), (o 26 (.un .not (t 25)), 511)]] (.cond (t 26) (q [r [mv 4 ff]] (.ret)) (sk)))] (r [m 15 5,
  ar 16 .add (t 15) (n 1), m 5 16])))), r [mv 4 tt]] (.ret)⟩
theorem A33_ok : XOk Tryz.prog [] 33 A33 := ⟨Tryz.f33, Tryz.func33, by kernel_rfl, by decide, by kernel_rfl, its_nil (by kernel_rfl)⟩

/- widgetry/widgetryref45.equalText -/
def A34 : AFn := ⟨115, [.tmp 4], q [r [o 2 (.box (t 0)), o 3 (.box (t 1)), mv 4 ff], q [r [fa 6 13 2, l 7 6, le 8 7, fa 9 13 3, l 10 9, le 11 10, ar 12 .neq (t 8) (t 11), m 13 12, og 14 (.fldA 1 (t 2)) 13 false,
  og 15 (.ld1 (t 14)) 13 false, og 16 (.fldA 1 (t 3)) 13 false, og 17 (.ld1 (t 16)) 13 false, og 18 (.call (fn 78) [t 15, t 17]) 13 false, og 19 (.un .not (t 18)) 13 false,
  o 20 (.pick (t 13) tt (t 19)), m 21 20, og 22 (.fldA 2 (t 2)) 21 false, og 23 (.ldn 2 (t 22)) 21 false, og 24 (.fldA 2 (t 3)) 21 false, og 25 (.ldn 2 (t 24)) 21 false,
  og 26 (.call (fn 79) [t 23, t 25]) 21 false, og 27 (.un .not (t 26)) 21 false, o 28 (.pick (t 21) tt (t 27))]] (.cond (t 28) (q [r [mv 4 ff]] (.ret)) (sk)),
  q [r [mv 5 (n 0)]] (.block 0 (.loop (q [q [r [m 29 5, fa 30 13 2, l 31 30, le 32 31, ar 33 .lss (t 29) (t 32)]] (.cond (t 33) (sk) (.exit 0)), .block 1 (q [d [(fa 36 13 2,
  0), (l 37 36, 1), (m 38 5, 0), (ia 39 2 37 (t 38), 7), (ln 40 2 39, 15), (fa 41 13 3, 0), (l 42 41, 32), (m 43 5, 0), (ia 44 2 42 (t 43), 224), (ln 45 2 44,
  480), (o 46 (.eqf true [.int .i64, .bool] (t 40) (t 45)), 1023)]] (.cond (t 46) (q [r [mv 4 ff]] (.ret)) (sk)))] (r [m 34 5, ar 35 .add (t 34) (n 1), m 5 35])))),
  r [fa 47 0 2, l 48 47, fa 49 0 3, l 50 49, ar 51 .eql (t 48) (t 50), m 52 51, og 53 (.fldA 4 (t 2)) 52 true, og 54 (.ld1 (t 53)) 52 true, og 55 (.fldA 4 (t 3)) 52 true,
  og 56 (.ld1 (t 55)) 52 true, og 57 (.arith .eql (t 54) (t 56)) 52 true, o 58 (.pick (t 52) (t 57) ff), m 59 58, og 60 (.fldA 5 (t 2)) 59 true, og 61 (.ld1 (t 60)) 59 true,
  og 62 (.fldA 5 (t 3)) 59 true, og 63 (.ld1 (t 62)) 59 true, og 64 (.arith .eql (t 61) (t 63)) 59 true, o 65 (.pick (t 59) (t 64) ff), m 66 65, og 67 (.fldA 6 (t 2)) 66 true,
  og 68 (.ld1 (t 67)) 66 true, og 69 (.fldA 6 (t 3)) 66 true, og 70 (.ld1 (t 69)) 66 true, og 71 (.eqs false (t 68) (t 70)) 66 true, o 72 (.pick (t 66) (t 71) ff),
  m 73 72, og 74 (.fldA 7 (t 2)) 73 true, og 75 (.ld1 (t 74)) 73 true, og 76 (.fldA 7 (t 3)) 73 true, og 77 (.ld1 (t 76)) 73 true, og 78 (.arith .eql (t 75) (t 77)) 73 true,
  o 79 (.pick (t 73) (t 78) ff), m 80 79, og 81 (.fldA 8 (t 2)) 80 true, og 82 (.ld1 (t 81)) 80 true, og 83 (.fldA 8 (t 3)) 80 true, og 84 (.ld1 (t 83)) 80 true,
  og 85 (.arith .eql (t 82) (t 84)) 80 true, o 86 (.pick (t 80) (t 85) ff), m 87 86, og 88 (.fldA 9 (t 2)) 87 true, og 89 (.ld1 (t 88)) 87 true, og 90 (.fldA 9 (t 3)) 87 true,
  og 91 (.ld1 (t 90)) 87 true, og 92 (.arith .eql (t 89) (t 91)) 87 true, o 93 (.pick (t 87) (t 92) ff), m 94 93, og 95 (.fldA 10 (t 2)) 94 true, og 96 (.ldn 2 (t 95)) 94 true,
  og 97 (.fldA 10 (t 3)) 94 true, og 98 (.ldn 2 (t 97)) 94 true, og 99 (.eqf false [.int .i64, .int .i64] (t 96) (t 98)) 94 true, o 100 (.pick (t 94) (t 99) ff),
  m 101 100, og 102 (.fldA 12 (t 2)) 101 true, og 103 (.ld1 (t 102)) 101 true, og 104 (.fldA 12 (t 3)) 101 true, og 105 (.ld1 (t 104)) 101 true, og 106 (.arith .eql (t 103) (t 105)) 101 true,
  o 107 (.pick (t 101) (t 106) ff), m 108 107, og 109 (.fldA 14 (t 2)) 108 true, og 110 (.ld1 (t 109)) 108 true, og 111 (.fldA 14 (t 3)) 108 true, og 112 (.ld1 (t 111)) 108 true,
  og 113 (.arith .eql (t 110) (t 112)) 108 true, o 114 (.pick (t 108) (t 113) ff), m 4 114]] (.ret)⟩
theorem A34_ok : XOk Tryz.prog [] 34 A34 := ⟨Tryz.f34, Tryz.func34, by kernel_rfl, by decide, by kernel_rfl, its_nil (by kernel_rfl)⟩

/- (*widgetry/widgetrybase.Src).Word -/
def A35 : AFn := ⟨28, [.tmp 4], q [r [mv 4 (.const (.str []))], r [m 8 0, m 9 1, ar 10 .add (t 9) (n 1), c 11 8 [t 8, t 10], m 5 11], r [m 12 5, o 13 (.mksl 1 1 [.int .u8 0] (t 12) (t 12)),
  m 6 13], q [r [mv 7 (n 0)]] (.block 0 (.loop (q [q [r [m 14 7, m 15 5, ar 16 .lss (t 14) (t 15)]] (.cond (t 16) (sk) (.exit 0)), .block 1 (r [m 19 6, m 20 7,
  m 21 0, c 22 8 [t 21, n 4], ar 23 .add (n 97) (t 22), o 24 (.convI .u8 (t 23)), ia 25 1 19 (t 20), s 1 25 24])] (r [m 17 7, ar 18 .add (t 17) (n 1), m 7 18])))),
  r [m 26 6, o 27 (.xo .b2s [t 26]), m 4 27]] (.ret)⟩
theorem A35_ok : XOk Tryz.prog [] 35 A35 := ⟨Tryz.f35, Tryz.func35, by kernel_rfl, by decide, by kernel_rfl, its_nil (by kernel_rfl)⟩

/- (*widgetry/widgetrybase.Src).Like -/
def A36 : AFn := ⟨48, [.cell 4 (some 4)], q [r [o 3 (.box (t 1)), o 4 (.new [.int .i64 0, .int .i64 0, .str [], .nilsl])], q [r [fa 7 0 3, l 8 7]] (.block 0 (q [r [ar 10 .eql (t 8) (n 1), m 9 10]] (.cond (t 9) (q [r [m 11 0,
  c 12 19 [t 11, n (-3), n 9], o 13 (.build [.int .i64 0, .int .i64 0, .str [], .nilsl] [(0, 1, .const (.int .i64 1)), (1, 1, .tmp 12)]), s 4 4 13]] (.ret)) (q [r [ar 15 .eql (t 8) (n 2),
  m 14 15]] (.cond (t 14) (q [r [m 16 0, c 17 8 [t 16, n 2], o 18 (.build [.int .i64 0, .int .i64 0, .str [], .nilsl] [(0, 1, .const (.int .i64 2)), (1,
  1, .tmp 17)]), s 4 4 18]] (.ret)) (q [r [ar 20 .eql (t 8) (n 3), m 19 20]] (.cond (t 19) (q [r [m 21 0, c 22 35 [t 21, n 4], o 23 (.build [.int .i64 0,
  .int .i64 0, .str [], .nilsl] [(0, 1, .const (.int .i64 3)), (2, 1, .tmp 22)]), s 4 4 23]] (.ret)) (sk)))))))), r [o 24 (.build [.int .i64 0, .int .i64 0,
  .str [], .nilsl] [(0, 1, .const (.int .i64 4))]), o 5 (.new [.int .i64 0, .int .i64 0, .str [], .nilsl]), s 4 5 24], q [r [mv 6 (n 0)]] (.block 1 (.loop (q [q [r [m 25 6,
  fa 26 3 3, l 27 26, le 28 27, ar 29 .lss (t 25) (t 28)]] (.cond (t 29) (sk) (.exit 1)), .block 2 (q [r [m 32 0, c 33 8 [t 32, n 3], ar 34 .gtr (t 33) (n 0)]] (.cond (t 34) (d [(fa 35 3 5,
  0), (l 36 35, 1), (m 37 0, 0), (fa 38 3 3, 0), (l 39 38, 8), (m 40 6, 0), (ia 41 4 39 (t 40), 56), (ln 42 4 41, 120), (c 43 36 [t 37, t 42], 252), (o 44 (.buildSl 4 1 [.int .i64 0,
  .int .i64 0, .str [], .nilsl] [(0, 4, .tmp 43)]), 508), (o 45 (.app 4 56 (t 36) (t 44)), 1023), (fa 46 3 5, 2047), (s 1 46 45, 4095)]) (sk)))] (r [m 30 6,
  ar 31 .add (t 30) (n 1), m 6 31])))), r [ln 47 4 5, s 4 4 47]] (.ret)⟩
theorem A36_ok : XOk Tryz.prog [] 36 A36 := ⟨Tryz.f36, Tryz.func36, by kernel_rfl, by decide, by kernel_rfl, its_nil (by kernel_rfl)⟩

/- (*widgetry/widgetrybase.Src).valid -/
def A37 : AFn := ⟨8, [.tmp 4], q [r [mv 4 (.const (.nilsl))], r [m 5 1, o 6 (.xo .r2s [t 5]), o 7 (.xo .s2r [t 6]), m 4 7]] (.ret)⟩
theorem A37_ok : XOk Tryz.prog [] 37 A37 := ⟨Tryz.f37, Tryz.func37, by kernel_rfl, by decide, by kernel_rfl, its_nil (by kernel_rfl)⟩

/- (*widgetry/widgetrybase.Src).Text -/
def A38 : AFn := ⟨47, [.tmp 4], q [r [mv 4 (.const (.nilsl))], r [m 11 0, m 12 1, ar 13 .add (t 12) (n 1), c 14 8 [t 11, t 13], m 5 14], r [mv 6 (.const (.nilsl))], r [m 15 0, c 16 8 [t 15,
  n 3], m 7 16], r [mv 8 (.const (.nilsl))], q [r [mv 9 (n 0)]] (.block 0 (.loop (q [q [r [m 17 9, ar 18 .lss (t 17) (n 5)]] (.cond (t 18) (sk) (.exit 0)),
  .block 1 (r [m 21 8, m 22 0, c 23 80 [t 22], o 24 (.buildSl 1 1 [.int .i32 0] [(0, 1, .tmp 23)]), o 25 (.app 1 4 (t 21) (t 24)), m 8 25])] (r [m 19 9,
  ar 20 .add (t 19) (n 1), m 9 20])))), q [r [mv 10 (n 0)]] (.block 2 (.loop (q [q [r [m 26 10, m 27 5, ar 28 .lss (t 26) (t 27)]] (.cond (t 28) (sk) (.exit 2)),
  .block 3 (q [r [m 31 7, ar 32 .gtr (t 31) (n 0)]] (.cond (t 32) (r [m 33 6, m 34 8, m 35 0, c 36 8 [t 35, n 5], ia 37 1 34 (t 36), l 38 37, o 39 (.buildSl 1 1 [.int .i32 0] [(0,
  1, .tmp 38)]), o 40 (.app 1 4 (t 33) (t 39)), m 6 40]) (r [m 41 6, m 42 0, c 43 80 [t 42], o 44 (.buildSl 1 1 [.int .i32 0] [(0, 1, .tmp 43)]), o 45 (.app 1 4 (t 41) (t 44)),
  m 6 45])))] (r [m 29 10, ar 30 .add (t 29) (n 1), m 10 30])))), r [m 46 6, m 4 46]] (.ret)⟩
theorem A38_ok : XOk Tryz.prog [] 38 A38 := ⟨Tryz.f38, Tryz.func38, by kernel_rfl, by decide, by kernel_rfl, its_nil (by kernel_rfl)⟩

/- widgetry/widgetryref45.kinds -/
def A39 : AFn := ⟨2, [.tmp 0], q [r [mv 0 (.const (.nilsl))], r [o 1 (.buildSl 1 7 [.str [], .str [], .str [], .str [], .str [], .str [], .str []] [(0, 1, .const (.str [])), (1, 1, .const (.str [100,
  111, 119, 110])), (2, 1, .const (.str [109, 111, 118, 101])), (3, 1, .const (.str [117, 112])), (4, 1, .const (.str [99, 97, 110, 99, 101, 108])), (5,
  1, .const (.str [116, 105, 99, 107])), (6, 1, .const (.str [119, 104, 101, 101, 108]))]), m 0 1]] (.ret)⟩
theorem A39_ok : XOk Tryz.prog [] 39 A39 := ⟨Tryz.f39, Tryz.func39, by kernel_rfl, by decide, by kernel_rfl, its_nil (by kernel_rfl)⟩

/- widgetry/widgetryref45.numbers -/
def A40 : AFn := ⟨32, [.tmp 2], q [r [mv 2 (.const (.str []))], r [mv 3 (.const (.str []))], q [r [mv 4 (n 0)]] (.block 0 (.loop (q [q [r [m 5 4, m 6 0, le 7 6, ar 8 .lss (t 5) (t 7)]] (.cond (t 8) (sk) (.exit 0)),
  .block 1 (q [q [r [m 11 0, m 12 4, ia 13 1 11 (t 12), l 14 13, ar 15 .lss (t 14) (n (-1099511627776)), m 16 15, og 17 (.mov (t 0)) 16 false, og 18 (.mov (t 4)) 16 false,
  og 19 (.idxA 1 (t 17) (t 18)) 16 false, og 20 (.ld1 (t 19)) 16 false, og 21 (.arith .gtr (t 20) (n 1099511627776)) 16 false, o 22 (.pick (t 16) tt (t 21))]] (.cond (t 22) (q [r [mv 2 (.const (.str [33]))]] (.ret)) (sk))] (r [m 23 3,
  m 24 0, m 25 4, ia 26 1 24 (t 25), l 27 26, c 28 81 [t 27], ar 29 .add (.const (.str [32])) (t 28), ar 30 .add (t 23) (t 29), m 3 30]))] (r [m 9 4, ar 10 .add (t 9) (n 1),
  m 4 10])))), r [m 31 3, m 2 31]] (.ret)⟩
theorem A40_ok : XOk Tryz.prog [] 40 A40 := ⟨Tryz.f40, Tryz.func40, by kernel_rfl, by decide, by kernel_rfl, its_nil (by kernel_rfl)⟩

/- widgetry/widgetryref32.Format -/
def A41 : AFn := ⟨35, [.tmp 2, .tmp 3], q [r [mv 2 (.const (.str [])), mv 3 (n 0)], q [r [m 6 0, le 7 6, ar 8 .gtr (t 7) (n 3)]] (.cond (t 8) (q [r [mv 2 (.const (.str [])), mv 3 (n 2)]] (.ret)) (sk)),
  r [mv 4 (.const (.str []))], q [r [mv 5 (n 0)]] (.block 0 (.loop (q [q [r [m 9 5, m 10 0, le 11 10, ar 12 .lss (t 9) (t 11)]] (.cond (t 12) (sk) (.exit 0)),
  .block 1 (q [q [r [m 15 0, m 16 5, ia 17 2 15 (t 16), ln 18 2 17, c 19 82 [t 18], o 20 (.un .not (t 19))]] (.cond (t 20) (q [r [mv 2 (.const (.str [])),
  mv 3 (n 1)]] (.ret)) (sk)), q [r [m 21 5, ar 22 .gtr (t 21) (n 0)]] (.cond (t 22) (r [m 23 4, ar 24 .add (t 23) (.const (.str [32])), m 4 24]) (sk))] (r [m 25 4,
  m 26 0, m 27 5, ia 28 2 26 (t 27), ln 29 2 28, c 30 83 [t 29], ar 31 .add (t 25) (t 30), m 4 31]))] (r [m 13 5, ar 14 .add (t 13) (n 1), m 5 14])))), q [r [m 32 4,
  ar 33 .eql (t 32) (.const (.str []))]] (.cond (t 33) (q [r [mv 2 (.const (.str [])), mv 3 (n 1)]] (.ret)) (sk)), r [m 34 4, m 2 34, mv 3 (n 0)]] (.ret)⟩
theorem A41_ok : XOk Tryz.prog [] 41 A41 := ⟨Tryz.f41, Tryz.func41, by kernel_rfl, by decide, by kernel_rfl, its_nil (by kernel_rfl)⟩

/- widgetry/widgetryref11.Check -/
def A42 : AFn := ⟨11, [.tmp 2], q [r [o 1 (.box (t 0)), mv 2 (n 0)], r [ln 6 4 1, c 7 84 [t 6], m 5 7, ex 8 5 0, ex 9 5 1, o 3 (.new [.int .i64 0, .nilsl]), s 2 3 8, m 4 9], r [m 10 4,
  m 2 10]] (.ret)⟩
theorem A42_ok : XOk Tryz.prog [] 42 A42 := ⟨Tryz.f42, Tryz.func42, by kernel_rfl, by decide, by kernel_rfl, its_nil (by kernel_rfl)⟩

/- widgetry/widgetryref45.value -/
def A43 : AFn := ⟨43, [.tmp 2], q [r [o 1 (.box (t 0)), mv 2 (.const (.str []))], q [r [fa 5 0 1, l 6 5]] (.block 0 (q [r [ar 8 .eql (t 6) (n 1), m 7 8]] (.cond (t 7) (q [r [fa 9 1 1,
  l 10 9, c 11 81 [t 10], m 2 11]] (.ret)) (q [r [ar 13 .eql (t 6) (n 2), m 12 13]] (.cond (t 12) (q [q [r [fa 14 1 1, l 15 14, ar 16 .eql (t 15) (n 1)]] (.cond (t 16) (q [r [mv 2 (.const (.str [116,
  114, 117, 101]))]] (.ret)) (sk)), r [mv 2 (.const (.str [102, 97, 108, 115, 101]))]] (.ret)) (q [r [ar 18 .eql (t 6) (n 3), m 17 18]] (.cond (t 17) (q [r [fa 19 2 1,
  l 20 19, c 21 45 [t 20], m 2 21]] (.ret)) (sk)))))))), r [mv 3 (.const (.str [91]))], q [r [mv 4 (n 0)]] (.block 1 (.loop (q [q [r [m 22 4, fa 23 3 1,
  l 24 23, le 25 24, ar 26 .lss (t 22) (t 25)]] (.cond (t 26) (sk) (.exit 1)), .block 2 (q [q [r [m 29 4, ar 30 .gtr (t 29) (n 0)]] (.cond (t 30) (r [m 31 3,
  ar 32 .add (t 31) (.const (.str [32])), m 3 32]) (sk))] (r [m 33 3, fa 34 3 1, l 35 34, m 36 4, ia 37 4 35 (t 36), ln 38 4 37, c 39 43 [t 38], ar 40 .add (t 33) (t 39),
  m 3 40]))] (r [m 27 4, ar 28 .add (t 27) (n 1), m 4 28])))), r [m 41 3, ar 42 .add (t 41) (.const (.str [93])), m 2 42]] (.ret)⟩
theorem A43_ok : XOk Tryz.prog [] 43 A43 := ⟨Tryz.f43, Tryz.func43, by kernel_rfl, by decide, by kernel_rfl, its_nil (by kernel_rfl)⟩

/- widgetry/widgetryref45.acts -/
def A44 : AFn := ⟨2, [.tmp 0], q [r [mv 0 (.const (.nilsl))], r [o 1 (.buildSl 1 9 [.str [], .str [], .str [], .str [], .str [], .str [], .str [], .str [], .str []] [(0, 1, .const (.str [112,
  114, 101, 115, 115])), (1, 1, .const (.str [102, 111, 99, 117, 115])), (2, 1, .const (.str [105, 110, 99, 114, 101, 97, 115, 101])), (3, 1, .const (.str [100,
  101, 99, 114, 101, 97, 115, 101])), (4, 1, .const (.str [115, 101, 116, 116, 101, 120, 116])), (5, 1, .const (.str [115, 101, 108, 101, 99, 116])), (6,
  1, .const (.str [115, 99, 114, 111, 108, 108, 117, 112])), (7, 1, .const (.str [115, 99, 114, 111, 108, 108, 100, 111, 119, 110])), (8, 1, .const (.str [100,
  105, 115, 109, 105, 115, 115]))]), m 0 1]] (.ret)⟩
theorem A44_ok : XOk Tryz.prog [] 44 A44 := ⟨Tryz.f44, Tryz.func44, by kernel_rfl, by decide, by kernel_rfl, its_nil (by kernel_rfl)⟩

/- widgetry/widgetryref45.Quote -/
def A45 : AFn := ⟨39, [.tmp 2], q [r [mv 2 (.const (.str []))], r [o 5 (.buildSl 1 1 [.int .u8 0] [(0, 1, .const (.int .u8 34))]), m 3 5], q [r [mv 4 (n 0)]] (.block 0 (.loop (q [q [r [m 6 4,
  m 7 0, o 8 (.lenS (t 7)), ar 9 .lss (t 6) (t 8)]] (.cond (t 9) (sk) (.exit 0)), .block 1 (q [r [m 12 0, m 13 4, o 14 (.idxS (t 12) (t 13))]] (.block 2 (q [q [r [ar 22 .eql (t 14) (.const (.int .u8 92)),
  m 21 22]] (.cond (t 21) (sk) (r [ar 23 .eql (t 14) (.const (.int .u8 34)), m 21 23]))] (.cond (t 21) (r [m 24 3, m 25 0, m 26 4, o 27 (.idxS (t 25) (t 26)),
  o 28 (.buildSl 1 2 [.int .u8 0, .int .u8 0] [(0, 1, .const (.int .u8 92)), (1, 1, .tmp 27)]), o 29 (.app 1 1 (t 24) (t 28)), m 3 29]) (q [r [ar 31 .eql (t 14) (.const (.int .u8 10)),
  m 30 31]] (.cond (t 30) (r [m 32 3, o 33 (.buildSl 1 2 [.int .u8 0, .int .u8 0] [(0, 1, .const (.int .u8 92)), (1, 1, .const (.int .u8 110))]), o 34 (.app 1 1 (t 32) (t 33)),
  m 3 34]) (r [m 15 3, m 16 0, m 17 4, o 18 (.idxS (t 16) (t 17)), o 19 (.buildSl 1 1 [.int .u8 0] [(0, 1, .tmp 18)]), o 20 (.app 1 1 (t 15) (t 19)), m 3 20])))))))] (r [m 10 4,
  ar 11 .add (t 10) (n 1), m 4 11])))), r [m 35 3, o 36 (.buildSl 1 1 [.int .u8 0] [(0, 1, .const (.int .u8 34))]), o 37 (.app 1 1 (t 35) (t 36)), o 38 (.xo .b2s [t 37]),
  m 2 38]] (.ret)⟩
theorem A45_ok : XOk Tryz.prog [] 45 A45 := ⟨Tryz.f45, Tryz.func45, by kernel_rfl, by decide, by kernel_rfl, its_nil (by kernel_rfl)⟩

/- (*widgetry/widgetryref45.reader).word -/
def A46 : AFn := ⟨47, [.tmp 2], q [r [mv 2 (.const (.str []))], r [m 4 0, o 5 (.nilchk (t 4)), fa 6 1 5, l 7 6, m 3 7], .block 0 (.loop (q [q [d [(m 8 0, 0), (o 9 (.nilchk (t 8)), 1),
  (fa 10 1 9, 3), (l 11 10, 7), (m 12 0, 0), (o 13 (.nilchk (t 12)), 16), (fa 14 0 13, 48), (l 15 14, 112), (o 16 (.lenS (t 15)), 240), (ar 17 .lss (t 11) (t 16),
  511), (m 18 17, 1023), (og 19 (.mov (t 0)) 18 true, 2047), (og 20 (.nilchk (t 19)) 18 true, 4095), (og 21 (.fldA 0 (t 20)) 18 true, 8191), (og 22 (.ld1 (t 21)) 18 true,
  16383), (og 23 (.mov (t 0)) 18 true, 2047), (og 24 (.nilchk (t 23)) 18 true, 34815), (og 25 (.fldA 1 (t 24)) 18 true, 100351), (og 26 (.ld1 (t 25)) 18 true,
  231423), (og 27 (.idxS (t 22) (t 26)) 18 true, 524287), (og 28 (.arith .neq (t 27) (.const (.int .u8 32))) 18 true, 1048575), (o 29 (.pick (t 18) (t 28) ff),
  2097151)]] (.cond (t 29) (sk) (.exit 0))] (.block 1 (r [m 30 0, o 31 (.nilchk (t 30)), fa 32 1 31, l 33 32, ar 34 .add (t 33) (n 1), o 35 (.nilchk (t 30)),
  fa 36 1 35, s 1 36 34])))), d [(m 37 0, 0), (o 38 (.nilchk (t 37)), 1), (fa 39 0 38, 3), (l 40 39, 7), (m 41 3, 0), (m 42 0, 0), (o 43 (.nilchk (t 42)),
  32), (fa 44 1 43, 96), (l 45 44, 224), (o 46 (.slS (t 40) (some (.tmp 41)) (some (.tmp 45))), 511), (m 2 46, 1023)]] (.ret)⟩
theorem A46_ok : XOk Tryz.prog [] 46 A46 := ⟨Tryz.f46, Tryz.func46, by kernel_rfl, by decide, by kernel_rfl, its_nil (by kernel_rfl)⟩

/- (*widgetry/widgetryref45.reader).gap -/
def A47 : AFn := ⟨34, [], q [q [d [(m 2 0, 0), (o 3 (.nilchk (t 2)), 1), (fa 4 1 3, 3), (l 5 4, 7), (m 6 0, 0), (o 7 (.nilchk (t 6)), 16), (fa 8 0 7, 48), (l 9 8, 112), (o 10 (.lenS (t 9)),
  240), (ar 11 .geq (t 5) (t 10), 511), (m 12 11, 1023), (og 13 (.mov (t 0)) 12 false, 2047), (og 14 (.nilchk (t 13)) 12 false, 4095), (og 15 (.fldA 0 (t 14)) 12 false,
  8191), (og 16 (.ld1 (t 15)) 12 false, 16383), (og 17 (.mov (t 0)) 12 false, 2047), (og 18 (.nilchk (t 17)) 12 false, 34815), (og 19 (.fldA 1 (t 18)) 12 false,
  100351), (og 20 (.ld1 (t 19)) 12 false, 231423), (og 21 (.idxS (t 16) (t 20)) 12 false, 524287), (og 22 (.arith .neq (t 21) (.const (.int .u8 32))) 12 false,
  1048575), (o 23 (.pick (t 12) tt (t 22)), 2097151)]] (.cond (t 23) (q [r [m 24 0, o 25 (.nilchk (t 24)), fa 26 2 25, sv 1 26 tt]] (.ret)) (sk))] (r [m 27 0,
  o 28 (.nilchk (t 27)), fa 29 1 28, l 30 29, ar 31 .add (t 30) (n 1), o 32 (.nilchk (t 27)), fa 33 1 32, s 1 33 31])⟩
theorem A47_ok : XOk Tryz.prog [] 47 A47 := ⟨Tryz.f47, Tryz.func47, by kernel_rfl, by decide, by kernel_rfl, its_nil (by kernel_rfl)⟩

/- widgetry/widgetryref45.index -/
def A48 : AFn := ⟨23, [.tmp 4], q [r [mv 4 (n 0)], q [r [mv 5 (n 0)]] (.block 0 (.loop (q [q [r [m 6 5, m 7 0, le 8 7, ar 9 .lss (t 6) (t 8)]] (.cond (t 9) (sk) (.exit 0)), .block 1 (q [r [m 12 0,
  m 13 5, ia 14 1 12 (t 13), l 15 14, m 16 1, ar 17 .eql (t 15) (t 16), m 18 17, og 19 (.mov (t 1)) 18 true, og 20 (.arith .neq (t 19) (.const (.str []))) 18 true,
  o 21 (.pick (t 18) (t 20) ff)]] (.cond (t 21) (q [r [m 22 5, m 4 22]] (.ret)) (sk)))] (r [m 10 5, ar 11 .add (t 10) (n 1), m 5 11])))), r [mv 4 (n (-1))]] (.ret)⟩
theorem A48_ok : XOk Tryz.prog [] 48 A48 := ⟨Tryz.f48, Tryz.func48, by kernel_rfl, by decide, by kernel_rfl, its_nil (by kernel_rfl)⟩
def xtr0 : XT := .node 26 (.node 14 (.node 8 (.node 5 (.node 4 (.one 3 A3) (.one 4 A4)) (.node 6 (.one 5 A5) (.node 7 (.one 6 A6) (.one 7 A7)))) (.node 11 (.node 9 (.one 8 A8) (.node 10 (.one 9 A9) (.one 10 A10))) (.node 12 (.one 11 A11) (.node 13 (.one 12 A12) (.one 13 A13))))) (.node 20 (.node 17 (.node 15 (.one 14 A14) (.node 16 (.one 15 A15) (.one 16 A16))) (.node 18 (.one 17 A17) (.node 19 (.one 18 A18) (.one 19 A19)))) (.node 23 (.node 21 (.one 20 A20) (.node 22 (.one 21 A21) (.one 22 A22))) (.node 24 (.one 23 A23) (.node 25 (.one 24 A24) (.one 25 A25)))))) (.node 37 (.node 31 (.node 28 (.node 27 (.one 26 A26) (.one 27 A27)) (.node 29 (.one 28 A28) (.node 30 (.one 29 A29) (.one 30 A30)))) (.node 34 (.node 32 (.one 31 A31) (.node 33 (.one 32 A32) (.one 33 A33))) (.node 35 (.one 34 A34) (.node 36 (.one 35 A35) (.one 36 A36))))) (.node 43 (.node 40 (.node 38 (.one 37 A37) (.node 39 (.one 38 A38) (.one 39 A39))) (.node 41 (.one 40 A40) (.node 42 (.one 41 A41) (.one 42 A42)))) (.node 46 (.node 44 (.one 43 A43) (.node 45 (.one 44 A44) (.one 45 A45))) (.node 47 (.one 46 A46) (.node 48 (.one 47 A47) (.one 48 A48))))))
theorem xtr0_ok : xtr0.Ok Tryz.prog [] := ⟨⟨⟨⟨⟨A3_ok, A4_ok⟩, ⟨A5_ok, ⟨A6_ok, A7_ok⟩⟩⟩, ⟨⟨A8_ok, ⟨A9_ok, A10_ok⟩⟩, ⟨A11_ok, ⟨A12_ok, A13_ok⟩⟩⟩⟩, ⟨⟨⟨A14_ok, ⟨A15_ok, A16_ok⟩⟩, ⟨A17_ok, ⟨A18_ok, A19_ok⟩⟩⟩, ⟨⟨A20_ok, ⟨A21_ok, A22_ok⟩⟩, ⟨A23_ok, ⟨A24_ok, A25_ok⟩⟩⟩⟩⟩, ⟨⟨⟨⟨A26_ok, A27_ok⟩, ⟨A28_ok, ⟨A29_ok, A30_ok⟩⟩⟩, ⟨⟨A31_ok, ⟨A32_ok, A33_ok⟩⟩, ⟨A34_ok, ⟨A35_ok, A36_ok⟩⟩⟩⟩, ⟨⟨⟨A37_ok, ⟨A38_ok, A39_ok⟩⟩, ⟨A40_ok, ⟨A41_ok, A42_ok⟩⟩⟩, ⟨⟨A43_ok, ⟨A44_ok, A45_ok⟩⟩, ⟨A46_ok, ⟨A47_ok, A48_ok⟩⟩⟩⟩⟩⟩
end Go.Proofs.YtndpneieplopaaaGreatDoor
end
