/- Functions of the program as data, third quarter. -/
import Derived.Test.YtndpneieplopaaaGreatDoorEngDZ
import Derived.Test.YtndpneieplopaaaGreatDoorProg
import Derived.KernelRfl
set_option linter.unusedSimpArgs false
set_option linter.unusedVariables false
set_option linter.unnecessarySimpa false
noncomputable section
namespace Go.Proofs.YtndpneieplopaaaGreatDoor
open Go.Eng Go.Eng.DZ
set_option maxRecDepth 100000
/- (*widgetry/script.scanner).value -/
def A96 : AFn := ⟨64, [.cell 4 (some 4)], q [r [o 4 (.new [.int .i64 0, .int .i64 0, .str [], .nilsl])], q [r [m 8 0, c 9 94 [t 8], o 10 (.un .not (t 9)), m 11 10, og 12 (.mov (t 1)) 11 false,
  og 13 (.arith .gtr (t 12) (n 16)) 11 false, o 14 (.pick (t 11) tt (t 13))]] (.cond (t 14) (q [r [m 15 0, o 16 (.nilchk (t 15)), fa 17 3 16, sv 1 17 ff],
  r [o 18 (.build [.int .i64 0, .int .i64 0, .str [], .nilsl] []), s 4 4 18]] (.ret)) (sk)), q [d [(m 19 0, 0), (o 20 (.nilchk (t 19)), 1), (fa 21 0 20,
  3), (l 22 21, 7), (m 23 0, 0), (o 24 (.nilchk (t 23)), 16), (fa 25 1 24, 48), (l 26 25, 112), (o 27 (.idxS (t 22) (t 26)), 255)]] (.block 0 (q [r [ar 29 .eql (t 27) (.const (.int .u8 34)),
  m 28 29]] (.cond (t 28) (q [r [m 30 0, c 31 98 [t 30], o 32 (.build [.int .i64 0, .int .i64 0, .str [], .nilsl] [(0, 1, .const (.int .i64 3)), (2, 1, .tmp 31)]),
  s 4 4 32]] (.ret)) (q [r [ar 34 .eql (t 27) (.const (.int .u8 91)), m 33 34]] (.cond (t 33) (q [r [m 35 0, m 36 1, c 37 127 [t 35, t 36], s 4 4 37]] (.ret)) (sk)))))),
  r [m 38 0, c 39 122 [t 38, tt], m 5 39], q [r [m 40 5]] (.block 1 (q [r [ar 42 .eql (t 40) (.const (.str [116, 114, 117, 101])), m 41 42]] (.cond (t 41) (q [r [o 43 (.build [.int .i64 0,
  .int .i64 0, .str [], .nilsl] [(0, 1, .const (.int .i64 2)), (1, 1, .const (.int .i64 1))]), s 4 4 43]] (.ret)) (q [r [ar 45 .eql (t 40) (.const (.str [102,
  97, 108, 115, 101])), m 44 45]] (.cond (t 44) (q [r [o 46 (.build [.int .i64 0, .int .i64 0, .str [], .nilsl] [(0, 1, .const (.int .i64 2))]), s 4 4 46]] (.ret)) (sk)))))),
  r [m 48 5, c 49 92 [t 48], m 47 49, ex 50 47 0, ex 51 47 1, m 6 50, m 7 51], r [m 52 0, m 53 0, o 54 (.nilchk (t 53)), fa 55 3 54, l 56 55, m 57 56, og 58 (.mov (t 7)) 57 true,
  o 59 (.pick (t 57) (t 58) ff), o 60 (.nilchk (t 52)), fa 61 3 60, s 1 61 59], r [m 62 6, o 63 (.build [.int .i64 0, .int .i64 0, .str [], .nilsl] [(0,
  1, .const (.int .i64 1)), (1, 1, .tmp 62)]), s 4 4 63]] (.ret)⟩
theorem A96_ok : XOk Tryz.prog [] 96 A96 := ⟨Tryz.f96, Tryz.func96, by kernel_rfl, by decide, by kernel_rfl, its_nil (by kernel_rfl)⟩

/- widgetry/expr.Check -/
def A97 : AFn := ⟨11, [.tmp 2], q [r [o 1 (.box (t 0)), mv 2 (n 0)], r [ln 6 4 1, c 7 128 [t 6], m 5 7, ex 8 5 0, ex 9 5 1, o 3 (.new [.int .i64 0, .nilsl]), s 2 3 8, m 4 9], r [m 10 4,
  m 2 10]] (.ret)⟩
theorem A97_ok : XOk Tryz.prog [] 97 A97 := ⟨Tryz.f97, Tryz.func97, by kernel_rfl, by decide, by kernel_rfl, its_nil (by kernel_rfl)⟩

/- (*widgetry/script.scanner).quoted -/
def A98 : AFn := ⟨60, [.tmp 2], q [r [mv 2 (.const (.str []))], r [m 5 0, c 6 126 [t 5, .const (.int .u8 34)]], r [mv 3 (.const (.nilsl))], .block 0 (.loop (q [q [d [(m 7 0, 0), (c 8 94 [t 7],
  1), (m 9 8, 3), (og 10 (.mov (t 0)) 9 true, 7), (og 11 (.nilchk (t 10)) 9 true, 15), (og 12 (.fldA 0 (t 11)) 9 true, 31), (og 13 (.ld1 (t 12)) 9 true,
  63), (og 14 (.mov (t 0)) 9 true, 7), (og 15 (.nilchk (t 14)) 9 true, 135), (og 16 (.fldA 1 (t 15)) 9 true, 391), (og 17 (.ld1 (t 16)) 9 true, 903), (og 18 (.idxS (t 13) (t 17)) 9 true,
  2047), (og 19 (.arith .neq (t 18) (.const (.int .u8 34))) 9 true, 4095), (o 20 (.pick (t 9) (t 19) ff), 8191)]] (.cond (t 20) (sk) (.exit 0))] (.block 1 (q [d [(m 21 0,
  0), (o 22 (.nilchk (t 21)), 1), (fa 23 0 22, 3), (l 24 23, 7), (m 25 0, 0), (o 26 (.nilchk (t 25)), 16), (fa 27 1 26, 48), (l 28 27, 112), (o 29 (.idxS (t 24) (t 28)),
  255), (m 4 29, 511)], r [m 30 0, o 31 (.nilchk (t 30)), fa 32 1 31, l 33 32, ar 34 .add (t 33) (n 1), o 35 (.nilchk (t 30)), fa 36 1 35, s 1 36 34], q [r [m 37 4,
  ar 38 .eql (t 37) (.const (.int .u8 92))]] (.cond (t 38) (r [m 39 0, c 40 129 [t 39], m 4 40]) (sk))] (r [m 41 3, m 42 4, o 43 (.buildSl 1 1 [.int .u8 0] [(0,
  1, .tmp 42)]), o 44 (.app 1 1 (t 41) (t 43)), m 3 44]))))), r [m 45 0, c 46 126 [t 45, .const (.int .u8 34)]], r [m 47 0, m 48 0, o 49 (.nilchk (t 48)),
  fa 50 3 49, l 51 50, m 52 51, og 53 (.mov (t 3)) 52 true, og 54 (.call (fn 130) [t 53]) 52 true, o 55 (.pick (t 52) (t 54) ff), o 56 (.nilchk (t 47)),
  fa 57 3 56, s 1 57 55], r [m 58 3, o 59 (.xo .b2s [t 58]), m 2 59]] (.ret)⟩
theorem A98_ok : XOk Tryz.prog [] 98 A98 := ⟨Tryz.f98, Tryz.func98, by kernel_rfl, by decide, by kernel_rfl, its_nil (by kernel_rfl)⟩

/- strconv.Itoa -/
def A99 : AFn := ⟨5, [.tmp 2], q [r [mv 2 (.const (.str []))], r [m 3 0, c 4 131 [t 3], m 2 4]] (.ret)⟩
theorem A99_ok : XOk Tryz.prog [] 99 A99 := ⟨Tryz.f99, Tryz.func99, by kernel_rfl, by decide, by kernel_rfl, its_nil (by kernel_rfl)⟩

/- widgetry/shortcut.valid -/
def A100 : AFn := ⟨26, [.tmp 2], q [r [o 1 (.box (t 0)), mv 2 ff], r [fa 3 1 1, l 4 3, ar 5 .geq (t 4) (n 0), m 6 5, og 7 (.fldA 1 (t 1)) 6 true, og 8 (.ld1 (t 7)) 6 true, og 9 (.arith .leq (t 8) (n 15)) 6 true,
  o 10 (.pick (t 6) (t 9) ff), m 11 10, og 12 (.fldA 0 (t 1)) 11 true, og 13 (.ld1 (t 12)) 11 true, og 14 (.arith .geq (t 13) (n 1)) 11 true, og 15 (.mov (t 14)) 11 true,
  og 16 (.fldA 0 (t 1)) 15 true, og 17 (.ld1 (t 16)) 15 true, og 18 (.arith .leq (t 17) (n 23)) 15 true, og 19 (.pick (t 15) (t 18) ff) 11 true, og 20 (.mov (t 19)) 11 true,
  og 21 (.fldA 0 (t 1)) 20 false, og 22 (.ld1 (t 21)) 20 false, og 23 (.call (fn 132) [t 22]) 20 false, og 24 (.pick (t 20) tt (t 23)) 11 true, o 25 (.pick (t 11) (t 24) ff),
  m 2 25]] (.ret)⟩
theorem A100_ok : XOk Tryz.prog [] 100 A100 := ⟨Tryz.f100, Tryz.func100, by kernel_rfl, by decide, by kernel_rfl, its_nil (by kernel_rfl)⟩

/- widgetry/shortcut.write -/
def A101 : AFn := ⟨44, [.tmp 2], q [r [o 1 (.box (t 0)), mv 2 (.const (.str []))], r [o 3 (.xo (.newT 85 [.nilptr, .nilsl]) [])], q [r [c 6 133 [], le 7 6, mv 8 (n 0)]] (.block 0 (.loop (q [r [ar 9 .lss (t 8) (t 7)],
  .cond (t 9) (sk) (.exit 0), .block 1 (q [r [m 10 8, ia 11 1 6 (t 8), l 12 11, m 4 10, m 5 12], d [(fa 13 1 1, 0), (l 14 13, 1), (m 15 4, 0), (ar 16 .shl (n 1) (t 15),
  4), (ar 17 .and (t 14) (t 16), 15), (ar 18 .neq (t 17) (n 0), 31)]] (.cond (t 18) (r [m 19 5, ar 20 .add (t 19) (.const (.str [43])), c 21 31 [t 3, t 20]]) (sk)))] (r [ar 22 .add (t 8) (n 1),
  m 8 22])))), .block 2 (q [r [fa 28 0 1, l 29 28, ar 30 .leq (t 29) (n 23), m 27 30]] (.cond (t 27) (d [(c 31 134 [], 0), (fa 32 0 1, 0), (l 33 32, 2),
  (ar 34 .sub (t 33) (n 1), 6), (ia 35 1 31 (t 34), 15), (l 36 35, 31), (c 37 31 [t 3, t 36], 63)]) (q [r [fa 39 0 1, l 40 39, ar 41 .eql (t 40) (n 32),
  m 38 41]] (.cond (t 38) (r [c 42 31 [t 3, .const (.str [115, 112, 97, 99, 101])]]) (r [fa 23 0 1, l 24 23, o 25 (.convI .i32 (t 24)), c 26 135 [t 3, t 25]]))))),
  r [c 43 32 [t 3], m 2 43]] (.ret)⟩
theorem A101_ok : XOk Tryz.prog [] 101 A101 := ⟨Tryz.f101, Tryz.func101, by kernel_rfl, by decide, by kernel_rfl, its_nil (by kernel_rfl)⟩

/- strconv.FormatBool -/
def A102 : AFn := ⟨5, [.tmp 2], q [r [mv 2 (.const (.str []))], r [m 3 0, c 4 136 [t 3], m 2 4]] (.ret)⟩
theorem A102_ok : XOk Tryz.prog [] 102 A102 := ⟨Tryz.f102, Tryz.func102, by kernel_rfl, by decide, by kernel_rfl, its_nil (by kernel_rfl)⟩

/- (*strings.Builder).Grow -/
def A103 : AFn := ⟨25, [], q [r [m 4 0, c 5 76 [t 4]], q [r [m 6 1, ar 7 .lss (t 6) (n 0)]] (.cond (t 7) (r [o 8 (.stuck), on (.stuck)]) (sk)), d [(m 9 0, 0), (o 10 (.nilchk (t 9)),
  1), (fa 11 1 10, 3), (l 12 11, 7), (o 13 (.xo .capz [t 12]), 15), (m 14 0, 0), (o 15 (.nilchk (t 14)), 32), (fa 16 1 15, 96), (l 17 16, 224), (le 18 17,
  480), (ar 19 .sub (t 13) (t 18), 1023), (m 20 1, 0), (ar 21 .lss (t 19) (t 20), 4095)]] (.cond (t 21) (r [m 22 0, m 23 1, c 24 137 [t 22, t 23]]) (sk))⟩
theorem A103_ok : XOk Tryz.prog [] 103 A103 := ⟨Tryz.f103, Tryz.func103, by kernel_rfl, by decide, by kernel_rfl, its_nil (by kernel_rfl)⟩

/- strings.NewReplacer -/
def A104 : AFn := ⟨12, [.tmp 2], q [r [mv 2 (.const (.nilptr))], q [r [m 3 0, le 4 3, ar 5 .rem (t 4) (n 2), ar 6 .eql (t 5) (n 1)]] (.cond (t 6) (r [o 7 (.stuck), on (.stuck)]) (sk)),
  r [m 8 0, o 9 (.app 1 16 (.const (.nilsl)) (t 8)), o 10 (.build [.int .u32 0, .int .i32 0, .int .u32 0, .nilif, .nilsl] [(4, 1, .tmp 9)]), o 11 (.box (t 10)),
  m 2 11]] (.ret)⟩
theorem A104_ok : XOk Tryz.prog [] 104 A104 := ⟨Tryz.f104, Tryz.func104, by kernel_rfl, by decide, by kernel_rfl, its_nil (by kernel_rfl)⟩

/- (*strings.Replacer).Replace -/
def A105 : AFn := ⟨17, [.tmp 4], q [r [mv 4 (.const (.str []))], r [m 5 0, o 6 (.nilchk (t 5)), fa 7 0 6, m 8 0, o 9 (.mkf (.func 139) [t 8] []), c 10 138 [t 7, t 9]], r [m 11 0, o 12 (.nilchk (t 11)),
  fa 13 3 12, l 14 13, m 15 1, o 16 (.stuck), m 4 16]] (.ret)⟩
theorem A105_ok : XOk Tryz.prog [] 105 A105 := ⟨Tryz.f105, Tryz.func105, by kernel_rfl, by decide, by kernel_rfl, its_nil (by kernel_rfl)⟩

/- widgetry/expr.Equal -/
def A106 : AFn := ⟨18, [.tmp 4], q [r [o 2 (.box (t 0)), o 3 (.box (t 1)), mv 4 ff], r [ln 5 4 2, c 6 97 [t 5], ar 7 .eql (t 6) (n 0), m 8 7, og 9 (.ldn 4 (t 3)) 8 true, og 10 (.call (fn 97) [t 9]) 8 true,
  og 11 (.arith .eql (t 10) (n 0)) 8 true, o 12 (.pick (t 8) (t 11) ff), m 13 12, og 14 (.ldn 4 (t 2)) 13 true, og 15 (.ldn 4 (t 3)) 13 true, og 16 (.call (fn 140) [t 14,
  t 15]) 13 true, o 17 (.pick (t 13) (t 16) ff), m 4 17]] (.ret)⟩
theorem A106_ok : XOk Tryz.prog [] 106 A106 := ⟨Tryz.f106, Tryz.func106, by kernel_rfl, by decide, by kernel_rfl, its_nil (by kernel_rfl)⟩

/- slices.Equal[[]rune,rune] -/
def A107 : AFn := ⟨26, [.tmp 4], q [r [mv 4 ff], q [r [m 6 0, le 7 6, m 8 1, le 9 8, ar 10 .neq (t 7) (t 9)]] (.cond (t 10) (q [r [mv 4 ff]] (.ret)) (sk)), q [r [m 11 0, le 12 11, mv 13 (n 0)]] (.block 0 (.loop (q [r [ar 14 .lss (t 13) (t 12)],
  .cond (t 14) (sk) (.exit 0), .block 1 (q [r [m 15 13, m 5 15], d [(m 16 0, 0), (m 17 5, 0), (ia 18 1 16 (t 17), 3), (l 19 18, 7), (m 20 1, 0), (m 21 5,
  0), (ia 22 1 20 (t 21), 48), (l 23 22, 112), (ar 24 .neq (t 19) (t 23), 255)]] (.cond (t 24) (q [r [mv 4 ff]] (.ret)) (sk)))] (r [ar 25 .add (t 13) (n 1),
  m 13 25])))), r [mv 4 tt]] (.ret)⟩
theorem A107_ok : XOk Tryz.prog [] 107 A107 := ⟨Tryz.f107, Tryz.func107, by kernel_rfl, by decide, by kernel_rfl, its_nil (by kernel_rfl)⟩

/- widgetry/buffer.Equal -/
def A108 : AFn := ⟨57, [.tmp 4], q [r [o 2 (.box (t 0)), o 3 (.box (t 1)), mv 4 ff], q [r [fa 9 0 2, l 10 9, le 11 10, fa 12 0 3, l 13 12, le 14 13, ar 15 .neq (t 11) (t 14), m 16 15,
  og 17 (.fldA 1 (t 2)) 16 false, og 18 (.ld1 (t 17)) 16 false, og 19 (.len (t 18)) 16 false, og 20 (.fldA 1 (t 3)) 16 false, og 21 (.ld1 (t 20)) 16 false,
  og 22 (.len (t 21)) 16 false, og 23 (.arith .neq (t 19) (t 22)) 16 false, o 24 (.pick (t 16) tt (t 23))]] (.cond (t 24) (q [r [mv 4 ff]] (.ret)) (sk)),
  q [r [fa 25 0 2, l 26 25, le 27 26, mv 28 (n 0)]] (.block 0 (.loop (q [r [ar 29 .lss (t 28) (t 27)], .cond (t 29) (sk) (.exit 0), .block 1 (q [r [m 30 28,
  ia 31 1 26 (t 28), l 32 31, m 5 30, m 6 32], r [fa 33 0 3, l 34 33, m 35 5, ia 36 1 34 (t 35), l 37 36, m 38 6, ar 39 .neq (t 37) (t 38)]] (.cond (t 39) (q [r [mv 4 ff]] (.ret)) (sk)))] (r [ar 40 .add (t 28) (n 1),
  m 28 40])))), q [r [fa 41 1 2, l 42 41, le 43 42, mv 44 (n 0)]] (.block 2 (.loop (q [r [ar 45 .lss (t 44) (t 43)], .cond (t 45) (sk) (.exit 2), .block 3 (q [r [m 46 44,
  ia 47 2 42 (t 44), ln 48 2 47, o 8 (.new [.int .i64 0, .int .i64 0]), m 7 46, s 2 8 48], d [(fa 49 1 3, 0), (l 50 49, 1), (m 51 7, 0), (ia 52 2 50 (t 51),
  7), (ln 53 2 52, 15), (ln 54 2 8, 0), (o 55 (.eqf true [.int .i64, .int .i64] (t 53) (t 54)), 63)]] (.cond (t 55) (q [r [mv 4 ff]] (.ret)) (sk)))] (r [ar 56 .add (t 44) (n 1),
  m 44 56])))), r [mv 4 tt]] (.ret)⟩
theorem A108_ok : XOk Tryz.prog [] 108 A108 := ⟨Tryz.f108, Tryz.func108, by kernel_rfl, by decide, by kernel_rfl, its_nil (by kernel_rfl)⟩

/- slices.Equal[[]widgetry/api.Clause,widgetry/api.Clause] -/
def A109 : AFn := ⟨26, [.tmp 4], q [r [mv 4 ff], q [r [m 6 0, le 7 6, m 8 1, le 9 8, ar 10 .neq (t 7) (t 9)]] (.cond (t 10) (q [r [mv 4 ff]] (.ret)) (sk)), q [r [m 11 0, le 12 11, mv 13 (n 0)]] (.block 0 (.loop (q [r [ar 14 .lss (t 13) (t 12)],
  .cond (t 14) (sk) (.exit 0), .block 1 (q [r [m 15 13, m 5 15], d [(m 16 0, 0), (m 17 5, 0), (ia 18 2 16 (t 17), 3), (ln 19 2 18, 7), (m 20 1, 0), (m 21 5,
  0), (ia 22 2 20 (t 21), 48), (ln 23 2 22, 112), (o 24 (.eqf true [.int .i64, .bool] (t 19) (t 23)), 255)]] (.cond (t 24) (q [r [mv 4 ff]] (.ret)) (sk)))] (r [ar 25 .add (t 13) (n 1),
  m 13 25])))), r [mv 4 tt]] (.ret)⟩
theorem A109_ok : XOk Tryz.prog [] 109 A109 := ⟨Tryz.f109, Tryz.func109, by kernel_rfl, by decide, by kernel_rfl, its_nil (by kernel_rfl)⟩

/- widgetry/widgetrybase.alphabet -/
def A111 : AFn := ⟨2, [.tmp 0], q [r [mv 0 (.const (.nilsl))], r [o 1 (.buildSl 1 89 [.int .i32 0, .int .i32 0, .int .i32 0, .int .i32 0, .int .i32 0, .int .i32 0, .int .i32 0, .int .i32 0,
  .int .i32 0, .int .i32 0, .int .i32 0, .int .i32 0, .int .i32 0, .int .i32 0, .int .i32 0, .int .i32 0, .int .i32 0, .int .i32 0, .int .i32 0, .int .i32 0,
  .int .i32 0, .int .i32 0, .int .i32 0, .int .i32 0, .int .i32 0, .int .i32 0, .int .i32 0, .int .i32 0, .int .i32 0, .int .i32 0, .int .i32 0, .int .i32 0,
  .int .i32 0, .int .i32 0, .int .i32 0, .int .i32 0, .int .i32 0, .int .i32 0, .int .i32 0, .int .i32 0, .int .i32 0, .int .i32 0, .int .i32 0, .int .i32 0,
  .int .i32 0, .int .i32 0, .int .i32 0, .int .i32 0, .int .i32 0, .int .i32 0, .int .i32 0, .int .i32 0, .int .i32 0, .int .i32 0, .int .i32 0, .int .i32 0,
  .int .i32 0, .int .i32 0, .int .i32 0, .int .i32 0, .int .i32 0, .int .i32 0, .int .i32 0, .int .i32 0, .int .i32 0, .int .i32 0, .int .i32 0, .int .i32 0,
  .int .i32 0, .int .i32 0, .int .i32 0, .int .i32 0, .int .i32 0, .int .i32 0, .int .i32 0, .int .i32 0, .int .i32 0, .int .i32 0, .int .i32 0, .int .i32 0,
  .int .i32 0, .int .i32 0, .int .i32 0, .int .i32 0, .int .i32 0, .int .i32 0, .int .i32 0, .int .i32 0, .int .i32 0] [(0, 1, .const (.int .i32 97)), (1,
  1, .const (.int .i32 98)), (2, 1, .const (.int .i32 102)), (3, 1, .const (.int .i32 105)), (4, 1, .const (.int .i32 88)), (5, 1, .const (.int .i32 49)),
  (6, 1, .const (.int .i32 50)), (7, 1, .const (.int .i32 32)), (8, 1, .const (.int .i32 32)), (9, 1, .const (.int .i32 46)), (10, 1, .const (.int .i32 44)),
  (11, 1, .const (.int .i32 45)), (12, 1, .const (.int .i32 39)), (13, 1, .const (.int .i32 34)), (14, 1, .const (.int .i32 40)), (15, 1, .const (.int .i32 41)),
  (16, 1, .const (.int .i32 91)), (17, 1, .const (.int .i32 93)), (18, 1, .const (.int .i32 60)), (19, 1, .const (.int .i32 33)), (20, 1, .const (.int .i32 58)),
  (21, 1, .const (.int .i32 95)), (22, 1, .const (.int .i32 37)), (23, 1, .const (.int .i32 43)), (24, 1, .const (.int .i32 47)), (25, 1, .const (.int .i32 9)),
  (26, 1, .const (.int .i32 10)), (27, 1, .const (.int .i32 13)), (28, 1, .const (.int .i32 11)), (29, 1, .const (.int .i32 133)), (30, 1, .const (.int .i32 160)),
  (31, 1, .const (.int .i32 173)), (32, 1, .const (.int .i32 183)), (33, 1, .const (.int .i32 769)), (34, 1, .const (.int .i32 1488)), (35, 1, .const (.int .i32 1489)),
  (36, 1, .const (.int .i32 1470)), (37, 1, .const (.int .i32 1456)), (38, 1, .const (.int .i32 1536)), (39, 1, .const (.int .i32 1575)), (40, 1, .const (.int .i32 1576)),
  (41, 1, .const (.int .i32 1587)), (42, 1, .const (.int .i32 1600)), (43, 1, .const (.int .i32 1611)), (44, 1, .const (.int .i32 1633)), (45, 1, .const (.int .i32 1642)),
  (46, 1, .const (.int .i32 1548)), (47, 1, .const (.int .i32 1564)), (48, 1, .const (.int .i32 1777)), (49, 1, .const (.int .i32 2307)), (50, 1, .const (.int .i32 2309)),
  (51, 1, .const (.int .i32 2364)), (52, 1, .const (.int .i32 4352)), (53, 1, .const (.int .i32 4449)), (54, 1, .const (.int .i32 4520)), (55, 1, .const (.int .i32 44032)),
  (56, 1, .const (.int .i32 44033)), (57, 1, .const (.int .i32 8201)), (58, 1, .const (.int .i32 8203)), (59, 1, .const (.int .i32 8204)), (60, 1, .const (.int .i32 8205)),
  (61, 1, .const (.int .i32 8206)), (62, 1, .const (.int .i32 8207)), (63, 1, .const (.int .i32 8217)), (64, 1, .const (.int .i32 8232)), (65, 1, .const (.int .i32 8233)),
  (66, 1, .const (.int .i32 8234)), (67, 1, .const (.int .i32 8235)), (68, 1, .const (.int .i32 8236)), (69, 1, .const (.int .i32 8237)), (70, 1, .const (.int .i32 8238)),
  (71, 1, .const (.int .i32 8288)), (72, 1, .const (.int .i32 8294)), (73, 1, .const (.int .i32 8295)), (74, 1, .const (.int .i32 8296)), (75, 1, .const (.int .i32 8297)),
  (76, 1, .const (.int .i32 9728)), (77, 1, .const (.int .i32 12288)), (78, 1, .const (.int .i32 12289)), (79, 1, .const (.int .i32 12300)), (80, 1, .const (.int .i32 12301)),
  (81, 1, .const (.int .i32 12450)), (82, 1, .const (.int .i32 19968)), (83, 1, .const (.int .i32 65039)), (84, 1, .const (.int .i32 127462)), (85, 1, .const (.int .i32 127463)),
  (86, 1, .const (.int .i32 127995)), (87, 1, .const (.int .i32 128104)), (88, 1, .const (.int .i32 1114111))]), m 0 1]] (.ret)⟩
theorem A111_ok : XOk Tryz.prog [] 111 A111 := ⟨Tryz.f111, Tryz.func111, by kernel_rfl, by decide, by kernel_rfl, its_nil (by kernel_rfl)⟩

/- (*widgetry/widgetrybase.Src).Chance -/
def A112 : AFn := ⟨11, [.tmp 4], q [r [mv 4 ff], r [m 5 0, m 6 1, c 7 8 [t 5, t 6], m 8 1, ar 9 .sub (t 8) (n 1), ar 10 .eql (t 7) (t 9), m 4 10]] (.ret)⟩
theorem A112_ok : XOk Tryz.prog [] 112 A112 := ⟨Tryz.f112, Tryz.func112, by kernel_rfl, by decide, by kernel_rfl, its_nil (by kernel_rfl)⟩

/- (*widgetry/widgetrybase.Src).Raw -/
def A113 : AFn := ⟨31, [.tmp 2], q [r [mv 2 (n 0)], q [d [(m 3 0, 0), (o 4 (.nilchk (t 3)), 1), (fa 5 1 4, 3), (l 6 5, 7), (m 7 0, 0), (o 8 (.nilchk (t 7)), 16), (fa 9 0 8, 48), (l 10 9,
  112), (le 11 10, 240), (ar 12 .geq (t 6) (t 11), 511)]] (.cond (t 12) (q [r [mv 2 (n 0)]] (.ret)) (sk)), r [m 13 0, o 14 (.nilchk (t 13)), fa 15 1 14,
  l 16 15, ar 17 .add (t 16) (n 1), o 18 (.nilchk (t 13)), fa 19 1 18, s 1 19 17], d [(m 20 0, 0), (o 21 (.nilchk (t 20)), 1), (fa 22 0 21, 3), (l 23 22,
  7), (m 24 0, 0), (o 25 (.nilchk (t 24)), 16), (fa 26 1 25, 48), (l 27 26, 112), (ar 28 .sub (t 27) (n 1), 240), (ia 29 1 23 (t 28), 511), (l 30 29, 1023),
  (m 2 30, 2047)]] (.ret)⟩
theorem A113_ok : XOk Tryz.prog [] 113 A113 := ⟨Tryz.f113, Tryz.func113, by kernel_rfl, by decide, by kernel_rfl, its_nil (by kernel_rfl)⟩

/- widgetry/widgetryref32.modifiers -/
def A114 : AFn := ⟨2, [.tmp 0], q [r [mv 0 (.const (.nilsl))], r [o 1 (.buildSl 1 4 [.str [], .str [], .str [], .str []] [(0, 1, .const (.str [99, 116, 114, 108])), (1, 1, .const (.str [97,
  108, 116])), (2, 1, .const (.str [115, 104, 105, 102, 116])), (3, 1, .const (.str [109, 101, 116, 97]))]), m 0 1]] (.ret)⟩
theorem A114_ok : XOk Tryz.prog [] 114 A114 := ⟨Tryz.f114, Tryz.func114, by kernel_rfl, by decide, by kernel_rfl, its_nil (by kernel_rfl)⟩

/- widgetry/widgetryref32.names -/
def A115 : AFn := ⟨2, [.tmp 0], q [r [mv 0 (.const (.nilsl))], r [o 1 (.buildSl 1 24 [.str [], .str [], .str [], .str [], .str [], .str [], .str [], .str [], .str [], .str [], .str [],
  .str [], .str [], .str [], .str [], .str [], .str [], .str [], .str [], .str [], .str [], .str [], .str [], .str []] [(0, 1, .const (.str [])), (1, 1,
  .const (.str [116, 97, 98])), (2, 1, .const (.str [101, 110, 116, 101, 114])), (3, 1, .const (.str [101, 115, 99, 97, 112, 101])), (4, 1, .const (.str [98,
  97, 99, 107, 115, 112, 97, 99, 101])), (5, 1, .const (.str [100, 101, 108, 101, 116, 101])), (6, 1, .const (.str [108, 101, 102, 116])), (7, 1, .const (.str [114,
  105, 103, 104, 116])), (8, 1, .const (.str [117, 112])), (9, 1, .const (.str [100, 111, 119, 110])), (10, 1, .const (.str [104, 111, 109, 101])), (11,
  1, .const (.str [101, 110, 100])), (12, 1, .const (.str [102, 49])), (13, 1, .const (.str [102, 50])), (14, 1, .const (.str [102, 51])), (15, 1, .const (.str [102,
  52])), (16, 1, .const (.str [102, 53])), (17, 1, .const (.str [102, 54])), (18, 1, .const (.str [102, 55])), (19, 1, .const (.str [102, 56])), (20, 1,
  .const (.str [102, 57])), (21, 1, .const (.str [102, 49, 48])), (22, 1, .const (.str [102, 49, 49])), (23, 1, .const (.str [102, 49, 50]))]), m 0 1]] (.ret)⟩
theorem A115_ok : XOk Tryz.prog [] 115 A115 := ⟨Tryz.f115, Tryz.func115, by kernel_rfl, by decide, by kernel_rfl, its_nil (by kernel_rfl)⟩

/- widgetry/widgetryref11.check -/
def A116 : AFn := ⟨184, [.cell 6 (some 2), .tmp 7, .tmp 8], q [r [o 3 (.box (t 0)), o 6 (.new [.int .i64 0, .nilsl]), mv 7 (n 0), mv 8 (n 0)], r [m 18 2, ar 19 .add (t 18) (n 1), m 2 19], r [fa 20 0 3, l 21 20,
  ar 22 .eql (t 21) (n 4), m 9 22], q [r [m 23 9, m 24 23, og 25 (.mov (t 1)) 24 true, og 26 (.arith .gtr (t 25) (n 16)) 24 true, o 27 (.pick (t 24) (t 26) ff)]] (.cond (t 27) (q [r [o 28 (.build [.int .i64 0,
  .nilsl] []), m 29 2, s 2 6 28, m 7 29, mv 8 (n 8)]] (.ret)) (sk)), q [r [fa 30 0 3, l 31 30, ar 32 .lss (t 31) (n 1), m 33 32, og 34 (.fldA 0 (t 3)) 33 false,
  og 35 (.ld1 (t 34)) 33 false, og 36 (.arith .gtr (t 35) (n 4)) 33 false, o 37 (.pick (t 33) tt (t 36)), m 38 37, og 39 (.fldA 1 (t 3)) 38 false, og 40 (.ld1 (t 39)) 38 false,
  og 41 (.arith .neq (t 40) (n 0)) 38 false, og 42 (.mov (t 41)) 38 false, og 43 (.fldA 0 (t 3)) 42 true, og 44 (.ld1 (t 43)) 42 true, og 45 (.arith .neq (t 44) (n 1)) 42 true,
  og 46 (.pick (t 42) (t 45) ff) 38 false, og 47 (.mov (t 46)) 38 false, og 48 (.fldA 0 (t 3)) 47 true, og 49 (.ld1 (t 48)) 47 true, og 50 (.arith .neq (t 49) (n 2)) 47 true,
  og 51 (.pick (t 47) (t 50) ff) 38 false, o 52 (.pick (t 38) tt (t 51)), m 53 52, og 54 (.fldA 2 (t 3)) 53 false, og 55 (.ld1 (t 54)) 53 false, og 56 (.arith .neq (t 55) (.const (.str []))) 53 false,
  og 57 (.mov (t 56)) 53 false, og 58 (.fldA 0 (t 3)) 57 true, og 59 (.ld1 (t 58)) 57 true, og 60 (.arith .neq (t 59) (n 3)) 57 true, og 61 (.pick (t 57) (t 60) ff) 53 false,
  o 62 (.pick (t 53) tt (t 61)), m 63 62, og 64 (.fldA 3 (t 3)) 63 false, og 65 (.ld1 (t 64)) 63 false, og 66 (.len (t 65)) 63 false, og 67 (.arith .gtr (t 66) (n 0)) 63 false,
  og 68 (.mov (t 67)) 63 false, og 69 (.mov (t 9)) 68 true, og 70 (.un .not (t 69)) 68 true, og 71 (.pick (t 68) (t 70) ff) 63 false, o 72 (.pick (t 63) tt (t 71))]] (.cond (t 72) (q [r [o 73 (.build [.int .i64 0,
  .nilsl] []), m 74 2, s 2 6 73, m 7 74, mv 8 (n 9)]] (.ret)) (sk)), q [r [fa 75 0 3, l 76 75, ar 77 .eql (t 76) (n 1), m 78 77, og 79 (.fldA 1 (t 3)) 78 true,
  og 80 (.ld1 (t 79)) 78 true, og 81 (.arith .lss (t 80) (n (-1099511627776))) 78 true, og 82 (.mov (t 81)) 78 true, og 83 (.fldA 1 (t 3)) 82 false, og 84 (.ld1 (t 83)) 82 false,
  og 85 (.arith .gtr (t 84) (n 1099511627776)) 82 false, og 86 (.pick (t 82) tt (t 85)) 78 true, o 87 (.pick (t 78) (t 86) ff), m 88 87, og 89 (.fldA 0 (t 3)) 88 false,
  og 90 (.ld1 (t 89)) 88 false, og 91 (.arith .eql (t 90) (n 2)) 88 false, og 92 (.mov (t 91)) 88 false, og 93 (.fldA 1 (t 3)) 92 true, og 94 (.ld1 (t 93)) 92 true,
  og 95 (.arith .neq (t 94) (n 0)) 92 true, og 96 (.pick (t 92) (t 95) ff) 88 false, og 97 (.mov (t 96)) 88 false, og 98 (.fldA 1 (t 3)) 97 true, og 99 (.ld1 (t 98)) 97 true,
  og 100 (.arith .neq (t 99) (n 1)) 97 true, og 101 (.pick (t 97) (t 100) ff) 88 false, o 102 (.pick (t 88) tt (t 101))]] (.cond (t 102) (q [r [o 103 (.build [.int .i64 0,
  .nilsl] []), m 104 2, s 2 6 103, m 7 104, mv 8 (n 1)]] (.ret)) (sk)), q [r [fa 105 2 3, l 106 105, o 107 (.lenS (t 106)), ar 108 .gtr (t 107) (n 2000),
  m 109 108, og 110 (.fldA 3 (t 3)) 109 false, og 111 (.ld1 (t 110)) 109 false, og 112 (.len (t 111)) 109 false, og 113 (.arith .gtr (t 112) (n 100)) 109 false,
  o 114 (.pick (t 109) tt (t 113)), m 115 114, og 116 (.mov (t 2)) 115 false, og 117 (.arith .gtr (t 116) (n 1000)) 115 false, o 118 (.pick (t 115) tt (t 117))]] (.cond (t 118) (q [r [o 119 (.build [.int .i64 0,
  .nilsl] []), m 120 2, s 2 6 119, m 7 120, mv 8 (n 2)]] (.ret)) (sk)), q [r [fa 121 2 3, l 122 121, c 123 117 [t 122], o 124 (.un .not (t 123))]] (.cond (t 124) (q [r [o 125 (.build [.int .i64 0,
  .nilsl] []), m 126 2, s 2 6 125, m 7 126, mv 8 (n 3)]] (.ret)) (sk)), r [fa 127 0 3, l 128 127, o 129 (.build [.int .i64 0, .nilsl] [(0, 1, .tmp 128)]),
  o 10 (.new [.int .i64 0, .nilsl]), s 2 10 129], r [mv 11 tt], q [r [mv 12 (n 0)]] (.block 0 (.loop (q [q [r [m 130 12, fa 131 3 3, l 132 131, le 133 132,
  ar 134 .lss (t 130) (t 133)]] (.cond (t 134) (sk) (.exit 0)), .block 1 (q [r [fa 138 3 3, l 139 138, m 140 12, ia 141 4 139 (t 140), ln 142 4 141, m 143 1,
  ar 144 .add (t 143) (n 1), m 145 2, c 146 116 [t 142, t 144, t 145], m 137 146, ex 147 137 0, ex 148 137 1, ex 149 137 2, o 13 (.new [.int .i64 0, .nilsl]),
  s 2 13 147, m 14 148, m 15 149], r [m 150 14, m 2 150], q [r [m 151 15, ar 152 .neq (t 151) (n 0)]] (.cond (t 152) (q [r [o 153 (.build [.int .i64 0, .nilsl] []),
  m 154 2, m 155 15, s 2 6 153, m 7 154, m 8 155]] (.ret)) (sk)), q [r [m 156 11, o 157 (.un .not (t 156))]] (.cond (t 157) (.exit 1) (sk)), q [r [fa 158 1 10,
  l 159 158, le 160 159, ar 161 .eql (t 160) (n 0)]] (.cond (t 161) (q [r [ln 162 2 13, o 163 (.buildSl 2 1 [.int .i64 0, .nilsl] [(0, 2, .tmp 162)]), fa 164 1 10,
  s 1 164 163]] (.exit 1)) (sk)), d [(fa 166 1 10, 0), (l 167 166, 1), (ia 168 2 167 (n 0), 3), (ln 169 2 168, 7), (ln 170 2 13, 0), (c 171 141 [t 169, t 170],
  31), (m 165 171, 63), (ex 172 165 0, 127), (ex 173 165 1, 127), (o 16 (.new [.int .i64 0, .nilsl]), 0), (s 2 16 172, 767), (m 17 173, 2047)], r [m 174 17,
  m 11 174]] (r [ln 175 2 16, o 176 (.buildSl 2 1 [.int .i64 0, .nilsl] [(0, 2, .tmp 175)]), fa 177 1 10, s 1 177 176]))] (r [m 135 12, ar 136 .add (t 135) (n 1),
  m 12 136])))), q [r [m 178 11, o 179 (.un .not (t 178))]] (.cond (t 179) (q [r [o 180 (.build [.int .i64 0, .nilsl] []), m 181 2, s 2 6 180, m 7 181, mv 8 (n 5)]] (.ret)) (sk)),
  r [ln 182 2 10, m 183 2, s 2 6 182, m 7 183, mv 8 (n 0)]] (.ret)⟩
theorem A116_ok : XOk Tryz.prog [] 116 A116 := ⟨Tryz.f116, Tryz.func116, by kernel_rfl, by decide, by kernel_rfl, its_nil (by kernel_rfl)⟩

/- widgetry/widgetryref11.UTF8 -/
def A117 : AFn := ⟨8, [.tmp 2], q [r [mv 2 ff], r [m 3 0, o 4 (.xo .s2r [t 3]), o 5 (.xo .r2s [t 4]), m 6 0, ar 7 .eql (t 5) (t 6), m 2 7]] (.ret)⟩
theorem A117_ok : XOk Tryz.prog [] 117 A117 := ⟨Tryz.f117, Tryz.func117, by kernel_rfl, by decide, by kernel_rfl, its_nil (by kernel_rfl)⟩

/- internal/stringslite.IndexByte -/
def A118 : AFn := ⟨8, [.tmp 4], q [r [mv 4 (n 0)], r [m 5 0, m 6 1, c 7 142 [t 5, t 6], m 4 7]] (.ret)⟩
theorem A118_ok : XOk Tryz.prog [] 118 A118 := ⟨Tryz.f118, Tryz.func118, by kernel_rfl, by decide, by kernel_rfl, its_nil (by kernel_rfl)⟩

/- internal/bytealg.Cutover -/
def A120 : AFn := ⟨6, [.tmp 2], q [r [mv 2 (n 0)], r [m 3 0, ar 4 .add (t 3) (n 16), ar 5 .quo (t 4) (n 8), m 2 5]] (.ret)⟩
theorem A120_ok : XOk Tryz.prog [] 120 A120 := ⟨Tryz.f120, Tryz.func120, by kernel_rfl, by decide, by kernel_rfl, its_nil (by kernel_rfl)⟩

/- internal/bytealg.IndexRabinKarp[string] -/
def A121 : AFn := ⟨81, [.tmp 4], q [r [mv 4 (n 0)], r [m 12 1, c 13 143 [t 12], m 11 13, ex 14 11 0, ex 15 11 1, m 5 14, m 6 15], r [m 16 1, o 17 (.lenS (t 16)), m 7 17], r [mv 8 (.const (.int .u32 0))],
  q [r [mv 9 (n 0)]] (.block 0 (.loop (q [q [r [m 18 9, m 19 7, ar 20 .lss (t 18) (t 19)]] (.cond (t 20) (sk) (.exit 0)), .block 1 (r [m 23 8, ar 24 .mul (t 23) (.const (.int .u32 16777619)),
  m 25 0, m 26 9, o 27 (.idxS (t 25) (t 26)), o 28 (.convI .u32 (t 27)), ar 29 .add (t 24) (t 28), m 8 29])] (r [m 21 9, ar 22 .add (t 21) (n 1), m 9 22])))),
  q [r [m 30 8, m 31 5, ar 32 .eql (t 30) (t 31), m 33 32, og 34 (.mov (t 0)) 33 true, og 35 (.mov (t 7)) 33 true, og 36 (.slS (t 34) none (some (.tmp 35))) 33 true,
  og 37 (.mov (t 1)) 33 true, og 38 (.arith .eql (t 36) (t 37)) 33 true, o 39 (.pick (t 33) (t 38) ff)]] (.cond (t 39) (q [r [mv 4 (n 0)]] (.ret)) (sk)),
  q [r [m 40 7, m 10 40]] (.block 2 (.loop (q [q [r [m 41 10, m 42 0, o 43 (.lenS (t 42)), ar 44 .lss (t 41) (t 43)]] (.cond (t 44) (sk) (.exit 2))] (.block 3 (q [r [m 45 8,
  ar 46 .mul (t 45) (.const (.int .u32 16777619)), m 8 46], r [m 47 8, m 48 0, m 49 10, o 50 (.idxS (t 48) (t 49)), o 51 (.convI .u32 (t 50)), ar 52 .add (t 47) (t 51),
  m 8 52], r [m 53 8, m 54 6, m 55 0, m 56 10, m 57 7, ar 58 .sub (t 56) (t 57), o 59 (.idxS (t 55) (t 58)), o 60 (.convI .u32 (t 59)), ar 61 .mul (t 54) (t 60),
  ar 62 .sub (t 53) (t 61), m 8 62], r [m 63 10, ar 64 .add (t 63) (n 1), m 10 64], r [m 65 8, m 66 5, ar 67 .eql (t 65) (t 66), m 68 67, og 69 (.mov (t 0)) 68 true,
  og 70 (.mov (t 10)) 68 true, og 71 (.mov (t 7)) 68 true, og 72 (.arith .sub (t 70) (t 71)) 68 true, og 73 (.mov (t 10)) 68 true, og 74 (.slS (t 69) (some (.tmp 72)) (some (.tmp 73))) 68 true,
  og 75 (.mov (t 1)) 68 true, og 76 (.arith .eql (t 74) (t 75)) 68 true, o 77 (.pick (t 68) (t 76) ff)]] (.cond (t 77) (q [r [m 78 10, m 79 7, ar 80 .sub (t 78) (t 79),
  m 4 80]] (.ret)) (sk))))))), r [mv 4 (n (-1))]] (.ret)⟩
theorem A121_ok : XOk Tryz.prog [] 121 A121 := ⟨Tryz.f121, Tryz.func121, by kernel_rfl, by decide, by kernel_rfl, its_nil (by kernel_rfl)⟩

/- (*widgetry/script.scanner).bare -/
def A122 : AFn := ⟨74, [.tmp 4], q [r [mv 4 (.const (.str []))], r [m 6 0, o 7 (.nilchk (t 6)), fa 8 1 7, l 9 8, m 5 9], .block 0 (.loop (q [q [d [(m 10 0, 0), (o 11 (.nilchk (t 10)),
  1), (fa 12 1 11, 3), (l 13 12, 7), (m 14 0, 0), (o 15 (.nilchk (t 14)), 16), (fa 16 0 15, 48), (l 17 16, 112), (o 18 (.lenS (t 17)), 240), (ar 19 .lss (t 13) (t 18),
  511), (m 20 19, 1023), (og 21 (.mov (t 0)) 20 true, 2047), (og 22 (.nilchk (t 21)) 20 true, 4095), (og 23 (.fldA 0 (t 22)) 20 true, 8191), (og 24 (.ld1 (t 23)) 20 true,
  16383), (og 25 (.mov (t 0)) 20 true, 2047), (og 26 (.nilchk (t 25)) 20 true, 34815), (og 27 (.fldA 1 (t 26)) 20 true, 100351), (og 28 (.ld1 (t 27)) 20 true,
  231423), (og 29 (.idxS (t 24) (t 28)) 20 true, 524287), (og 30 (.arith .neq (t 29) (.const (.int .u8 32))) 20 true, 1048575), (o 31 (.pick (t 20) (t 30) ff),
  2097151), (m 32 31, 4194303), (og 33 (.mov (t 1)) 32 true, 8388607), (og 34 (.un .not (t 33)) 32 true, 16777215), (og 35 (.mov (t 34)) 32 true, 33554431),
  (og 36 (.mov (t 0)) 35 false, 67108863), (og 37 (.nilchk (t 36)) 35 false, 134217727), (og 38 (.fldA 0 (t 37)) 35 false, 268435455), (og 39 (.ld1 (t 38)) 35 false,
  536870911), (og 40 (.mov (t 0)) 35 false, 67108863), (og 41 (.nilchk (t 40)) 35 false, 1140850687), (og 42 (.fldA 1 (t 41)) 35 false, 3288334335), (og 43 (.ld1 (t 42)) 35 false,
  7583301631), (og 44 (.idxS (t 39) (t 43)) 35 false, 17179869183), (og 45 (.arith .neq (t 44) (.const (.int .u8 93))) 35 false, 34359738367), (og 46 (.pick (t 35) tt (t 45)) 32 true,
  68719476735), (o 47 (.pick (t 32) (t 46) ff), 137438953471)]] (.cond (t 47) (sk) (.exit 0))] (.block 1 (r [m 48 0, o 49 (.nilchk (t 48)), fa 50 1 49, l 51 50,
  ar 52 .add (t 51) (n 1), o 53 (.nilchk (t 48)), fa 54 1 53, s 1 54 52])))), q [r [m 55 5, m 56 0, o 57 (.nilchk (t 56)), fa 58 1 57, l 59 58, ar 60 .eql (t 55) (t 59)]] (.cond (t 60) (r [m 61 0,
  o 62 (.nilchk (t 61)), fa 63 3 62, sv 1 63 ff]) (sk)), d [(m 64 0, 0), (o 65 (.nilchk (t 64)), 1), (fa 66 0 65, 3), (l 67 66, 7), (m 68 5, 0), (m 69 0,
  0), (o 70 (.nilchk (t 69)), 32), (fa 71 1 70, 96), (l 72 71, 224), (o 73 (.slS (t 67) (some (.tmp 68)) (some (.tmp 72))), 511), (m 4 73, 1023)]] (.ret)⟩
theorem A122_ok : XOk Tryz.prog [] 122 A122 := ⟨Tryz.f122, Tryz.func122, by kernel_rfl, by decide, by kernel_rfl, its_nil (by kernel_rfl)⟩

/- strconv.Atoi -/
def A123 : AFn := ⟨18, [.tmp 2, .tmp 3], q [r [mv 2 (n 0), mv 3 (.const (.nilif))], r [m 7 0, c 8 144 [t 7], m 6 8, ex 9 6 0, ex 10 6 1, m 4 9, m 5 10], q [r [m 11 5, o 12 (.xo (.eqif true) [t 11])]] (.cond (t 12) (q [r [m 13 4,
  m 14 0, m 15 5, c 16 145 [.const (.str [65, 116, 111, 105]), t 14, n 0, n 0, t 15], m 2 13, m 3 16]] (.ret)) (sk)), r [m 17 4, m 2 17, mv 3 (.const (.nilif))]] (.ret)⟩
theorem A123_ok : XOk Tryz.prog [] 123 A123 := ⟨Tryz.f123, Tryz.func123, by kernel_rfl, by decide, by kernel_rfl, its_nil (by kernel_rfl)⟩

/- strings.Split -/
def A124 : AFn := ⟨8, [.tmp 4], q [r [mv 4 (.const (.nilsl))], r [m 5 0, m 6 1, c 7 146 [t 5, t 6, n 0, n (-1)], m 4 7]] (.ret)⟩
theorem A124_ok : XOk Tryz.prog [] 124 A124 := ⟨Tryz.f124, Tryz.func124, by kernel_rfl, by decide, by kernel_rfl, its_nil (by kernel_rfl)⟩

/- widgetry/shortcut.chord -/
def A125 : AFn := ⟨84, [.cell 2 (some 2), .tmp 3], q [r [o 2 (.new [.int .i64 0, .int .i64 0]), mv 3 ff], r [o 4 (.new [.int .i64 0, .int .i64 0])], q [r [c 12 133 [], le 13 12, mv 14 (n 0)]] (.block 0 (.loop (q [r [ar 15 .lss (t 14) (t 13)],
  .cond (t 15) (sk) (.exit 0), .block 1 (q [r [m 16 14, ia 17 1 12 (t 14), l 18 17, m 5 16, m 6 18], r [m 20 0, m 21 6, ar 22 .add (t 21) (.const (.str [43])),
  c 23 147 [t 20, t 22], m 19 23, ex 24 19 0, ex 25 19 1, m 7 24, m 8 25], r [m 26 8]] (.cond (t 26) (q [r [m 27 7, m 0 27]] (d [(fa 28 1 4, 0), (l 29 28,
  1), (m 30 5, 0), (ar 31 .shl (n 1) (t 30), 4), (ar 32 .or (t 29) (t 31), 15), (fa 33 1 4, 31), (s 1 33 32, 63)])) (sk)))] (r [ar 34 .add (t 14) (n 1),
  m 14 34])))), q [r [c 35 134 [], m 36 0, c 37 90 [t 35, t 36], m 9 37], r [m 38 9, ar 39 .geq (t 38) (n 0)]] (.cond (t 39) (q [r [m 40 9, ar 41 .add (n 1) (t 40),
  fa 42 0 4, s 1 42 41], r [ln 43 2 4, s 2 2 43, mv 3 tt]] (.ret)) (sk)), q [r [m 44 0, ar 45 .eql (t 44) (.const (.str [115, 112, 97, 99, 101]))]] (.cond (t 45) (q [r [fa 46 0 4,
  sv 1 46 (n 32)], r [ln 47 2 4, s 2 2 47, mv 3 tt]] (.ret)) (sk)), r [m 49 0, c 50 148 [t 49], m 48 50, ex 51 48 0, ex 52 48 1, m 10 51, m 11 52], q [r [m 53 11,
  m 54 0, o 55 (.lenS (t 54)), ar 56 .neq (t 53) (t 55), m 57 56, og 58 (.mov (t 11)) 57 false, og 59 (.arith .eql (t 58) (n 0)) 57 false, o 60 (.pick (t 57) tt (t 59)),
  m 61 60, og 62 (.mov (t 10)) 61 false, og 63 (.arith .eql (t 62) (.const (.int .i32 65533))) 61 false, og 64 (.mov (t 63)) 61 false, og 65 (.mov (t 11)) 64 true,
  og 66 (.arith .eql (t 65) (n 1)) 64 true, og 67 (.pick (t 64) (t 66) ff) 61 false, o 68 (.pick (t 61) tt (t 67)), m 69 68, og 70 (.mov (t 10)) 69 false,
  og 71 (.arith .eql (t 70) (.const (.int .i32 32))) 69 false, o 72 (.pick (t 69) tt (t 71)), m 73 72, og 74 (.mov (t 10)) 73 false, og 75 (.convI .i64 (t 74)) 73 false,
  og 76 (.call (fn 132) [t 75]) 73 false, og 77 (.un .not (t 76)) 73 false, o 78 (.pick (t 73) tt (t 77))]] (.cond (t 78) (q [r [o 79 (.build [.int .i64 0,
  .int .i64 0] []), s 2 2 79, mv 3 ff]] (.ret)) (sk)), r [m 80 10, o 81 (.convI .i64 (t 80)), fa 82 0 4, s 1 82 81], r [ln 83 2 4, s 2 2 83, mv 3 tt]] (.ret)⟩
theorem A125_ok : XOk Tryz.prog [] 125 A125 := ⟨Tryz.f125, Tryz.func125, by kernel_rfl, by decide, by kernel_rfl, its_nil (by kernel_rfl)⟩

/- (*widgetry/script.scanner).char -/
def A126 : AFn := ⟨30, [], q [q [d [(m 4 0, 0), (c 5 94 [t 4], 1), (o 6 (.un .not (t 5)), 3), (m 7 6, 7), (og 8 (.mov (t 0)) 7 false, 15), (og 9 (.nilchk (t 8)) 7 false, 31), (og 10 (.fldA 0 (t 9)) 7 false,
  63), (og 11 (.ld1 (t 10)) 7 false, 127), (og 12 (.mov (t 0)) 7 false, 15), (og 13 (.nilchk (t 12)) 7 false, 271), (og 14 (.fldA 1 (t 13)) 7 false, 783),
  (og 15 (.ld1 (t 14)) 7 false, 1807), (og 16 (.idxS (t 11) (t 15)) 7 false, 4095), (og 17 (.mov (t 1)) 7 false, 15), (og 18 (.arith .neq (t 16) (t 17)) 7 false,
  16383), (o 19 (.pick (t 7) tt (t 18)), 32767)]] (.cond (t 19) (q [r [m 20 0, o 21 (.nilchk (t 20)), fa 22 3 21, sv 1 22 ff]] (.ret)) (sk))] (r [m 23 0,
  o 24 (.nilchk (t 23)), fa 25 1 24, l 26 25, ar 27 .add (t 26) (n 1), o 28 (.nilchk (t 23)), fa 29 1 28, s 1 29 27])⟩
theorem A126_ok : XOk Tryz.prog [] 126 A126 := ⟨Tryz.f126, Tryz.func126, by kernel_rfl, by decide, by kernel_rfl, its_nil (by kernel_rfl)⟩

/- (*widgetry/script.scanner).list -/
def A127 : AFn := ⟨41, [.cell 4 (some 4)], q [r [o 4 (.new [.int .i64 0, .int .i64 0, .str [], .nilsl])], r [o 6 (.build [.int .i64 0, .int .i64 0, .str [], .nilsl] [(0, 1, .const (.int .i64 4))]),
  o 5 (.new [.int .i64 0, .int .i64 0, .str [], .nilsl]), s 4 5 6], r [m 7 0, c 8 126 [t 7, .const (.int .u8 91)]], .block 0 (.loop (q [q [d [(m 9 0, 0),
  (c 10 94 [t 9], 1), (m 11 10, 3), (og 12 (.mov (t 0)) 11 true, 7), (og 13 (.nilchk (t 12)) 11 true, 15), (og 14 (.fldA 0 (t 13)) 11 true, 31), (og 15 (.ld1 (t 14)) 11 true,
  63), (og 16 (.mov (t 0)) 11 true, 7), (og 17 (.nilchk (t 16)) 11 true, 135), (og 18 (.fldA 1 (t 17)) 11 true, 391), (og 19 (.ld1 (t 18)) 11 true, 903),
  (og 20 (.idxS (t 15) (t 19)) 11 true, 2047), (og 21 (.arith .neq (t 20) (.const (.int .u8 93))) 11 true, 4095), (o 22 (.pick (t 11) (t 21) ff), 8191)]] (.cond (t 22) (sk) (.exit 0))] (.block 1 (q [q [r [fa 23 3 5,
  l 24 23, le 25 24, ar 26 .gtr (t 25) (n 0)]] (.cond (t 26) (r [m 27 0, c 28 126 [t 27, .const (.int .u8 32)]]) (sk))] (d [(fa 29 3 5, 0), (l 30 29, 1),
  (m 31 0, 0), (m 32 1, 0), (ar 33 .add (t 32) (n 1), 8), (c 34 96 [t 31, t 33], 28), (o 35 (.buildSl 4 1 [.int .i64 0, .int .i64 0, .str [], .nilsl] [(0,
  4, .tmp 34)]), 60), (o 36 (.app 4 56 (t 30) (t 35)), 127), (fa 37 3 5, 255), (s 1 37 36, 511)]))))), r [m 38 0, c 39 126 [t 38, .const (.int .u8 93)]],
  r [ln 40 4 5, s 4 4 40]] (.ret)⟩
theorem A127_ok : XOk Tryz.prog [] 127 A127 := ⟨Tryz.f127, Tryz.func127, by kernel_rfl, by decide, by kernel_rfl, its_nil (by kernel_rfl)⟩

/- widgetry/expr.TypeOf -/
def A128 : AFn := ⟨18, [.cell 2 (some 2), .tmp 3], q [r [o 1 (.box (t 0)), o 2 (.new [.int .i64 0, .nilsl]), mv 3 (n 0)], r [o 4 (.new [.int .i64 0]), sv 1 4 (n 0)], r [ln 8 4 1, c 9 149 [t 8, n 0, t 4],
  m 7 9, ex 10 7 0, ex 11 7 1, o 5 (.new [.int .i64 0, .nilsl]), s 2 5 10, m 6 11], q [r [m 12 6, ar 13 .neq (t 12) (n 0)]] (.cond (t 13) (q [r [o 14 (.build [.int .i64 0,
  .nilsl] []), m 15 6, s 2 2 14, m 3 15]] (.ret)) (sk)), r [ln 16 2 5, c 17 150 [t 16], s 2 2 17, mv 3 (n 0)]] (.ret)⟩
theorem A128_ok : XOk Tryz.prog [] 128 A128 := ⟨Tryz.f128, Tryz.func128, by kernel_rfl, by decide, by kernel_rfl, its_nil (by kernel_rfl)⟩

/- (*widgetry/script.scanner).escape -/
def A129 : AFn := ⟨31, [.tmp 2], q [r [mv 2 (.const (.int .u8 0))], q [r [m 3 0, c 4 94 [t 3]]] (.cond (t 4) (q [r [m 5 0, o 6 (.nilchk (t 5)), fa 7 1 6, l 8 7, ar 9 .add (t 8) (n 1),
  o 10 (.nilchk (t 5)), fa 11 1 10, s 1 11 9], d [(m 12 0, 0), (o 13 (.nilchk (t 12)), 1), (fa 14 0 13, 3), (l 15 14, 7), (m 16 0, 0), (o 17 (.nilchk (t 16)),
  16), (fa 18 1 17, 48), (l 19 18, 112), (ar 20 .sub (t 19) (n 1), 240), (o 21 (.idxS (t 15) (t 20)), 511)]] (.block 0 (q [r [ar 23 .eql (t 21) (.const (.int .u8 92)),
  m 22 23]] (.cond (t 22) (q [r [mv 2 (.const (.int .u8 92))]] (.ret)) (q [r [ar 25 .eql (t 21) (.const (.int .u8 34)), m 24 25]] (.cond (t 24) (q [r [mv 2 (.const (.int .u8 34))]] (.ret)) (q [r [ar 27 .eql (t 21) (.const (.int .u8 110)),
  m 26 27]] (.cond (t 26) (q [r [mv 2 (.const (.int .u8 10))]] (.ret)) (sk))))))))) (sk)), r [m 28 0, o 29 (.nilchk (t 28)), fa 30 3 29, sv 1 30 ff], r [mv 2 (.const (.int .u8 0))]] (.ret)⟩
theorem A129_ok : XOk Tryz.prog [] 129 A129 := ⟨Tryz.f129, Tryz.func129, by kernel_rfl, by decide, by kernel_rfl, its_nil (by kernel_rfl)⟩

/- unicode/utf8.Valid -/
def A130 : AFn := ⟨188, [.tmp 2], q [r [mv 2 ff], r [m 7 0, m 8 0, le 9 8, m 10 0, le 11 10, o 12 (.sl 1 (t 7) none (some (.tmp 9)) (some (.tmp 11))), m 0 12], .block 0 (.loop (q [q [r [m 13 0,
  le 14 13, ar 15 .gtr (t 14) (n 0)]] (.cond (t 15) (sk) (.exit 0))] (.block 1 (q [r [m 16 0, ia 17 1 16 (n 0), l 18 17, m 3 18], q [r [m 19 3, ar 20 .lss (t 19) (.const (.int .u8 128))]] (.cond (t 20) (q [r [m 21 0,
  o 22 (.sl 1 (t 21) (some (.const (.int .i64 1))) none none), m 0 22], q [r [m 23 0, le 24 23, ar 25 .gtr (t 24) (n 8), m 26 25, og 27 (.mov (t 0)) 26 true,
  og 28 (.call (fn 151) [t 27]) 26 true, og 29 (.arith .and (t 28) (.const (.int .u64 9259542123273814144))) 26 true, og 30 (.arith .eql (t 29) (.const (.int .u64 0))) 26 true,
  o 31 (.pick (t 26) (t 30) ff)]] (.cond (t 31) (q [r [m 32 0, o 33 (.sl 1 (t 32) (some (.const (.int .i64 8))) none none), m 0 33], d [(m 34 0, 0), (le 35 34,
  1), (ar 36 .gtr (t 35) (n 16), 3), (m 37 36, 7), (og 38 (.mov (t 0)) 37 true, 15), (og 39 (.call (fn 151) [t 38]) 37 true, 31), (og 40 (.mov (t 0)) 37 true,
  15), (og 41 (.sl 1 (t 40) (some (.const (.int .i64 8))) none none) 37 true, 79), (og 42 (.call (fn 151) [t 41]) 37 true, 255), (og 43 (.arith .or (t 39) (t 42)) 37 true,
  511), (og 44 (.arith .and (t 43) (.const (.int .u64 9259542123273814144))) 37 true, 1023), (og 45 (.arith .eql (t 44) (.const (.int .u64 0))) 37 true,
  2047), (o 46 (.pick (t 37) (t 45) ff), 4095)]] (.cond (t 46) (q [r [m 47 0, o 48 (.sl 1 (t 47) (some (.const (.int .i64 16))) none none), m 0 48]] (.block 2 (.loop (q [q [d [(m 49 0,
  0), (le 50 49, 1), (ar 51 .gtr (t 50) (n 32), 3), (m 52 51, 7), (og 53 (.mov (t 0)) 52 true, 15), (og 54 (.call (fn 151) [t 53]) 52 true, 31), (og 55 (.mov (t 0)) 52 true,
  15), (og 56 (.sl 1 (t 55) (some (.const (.int .i64 8))) none none) 52 true, 79), (og 57 (.call (fn 151) [t 56]) 52 true, 255), (og 58 (.arith .or (t 54) (t 57)) 52 true,
  511), (og 59 (.mov (t 0)) 52 true, 15), (og 60 (.sl 1 (t 59) (some (.const (.int .i64 16))) none none) 52 true, 1039), (og 61 (.call (fn 151) [t 60]) 52 true,
  3583), (og 62 (.mov (t 0)) 52 true, 15), (og 63 (.sl 1 (t 62) (some (.const (.int .i64 24))) none none) 52 true, 8207), (og 64 (.call (fn 151) [t 63]) 52 true,
  32255), (og 65 (.arith .or (t 61) (t 64)) 52 true, 65023), (og 66 (.arith .or (t 58) (t 65)) 52 true, 131071), (og 67 (.arith .and (t 66) (.const (.int .u64 9259542123273814144))) 52 true,
  262143), (og 68 (.arith .eql (t 67) (.const (.int .u64 0))) 52 true, 524287), (o 69 (.pick (t 52) (t 68) ff), 1048575)]] (.cond (t 69) (sk) (.exit 2))] (.block 3 (r [m 70 0,
  o 71 (.sl 1 (t 70) (some (.const (.int .i64 32))) none none), m 0 71])))))) (sk))) (sk))] (.exit 1)) (sk)), r [m 72 3, o 73 (.idxArrA 256 1 (.const (.gptr 1 0)) (t 72)),
  l 74 73, m 4 74], r [m 75 4, ar 76 .and (t 75) (.const (.int .u8 7)), o 77 (.convI .i64 (t 76)), m 5 77], r [m 78 4, ar 79 .shr (t 78) (.const (.int .u64 4)),
  o 80 (.idxArrA 16 2 (.const (.gptr 2 0)) (t 79)), ln 81 2 80, o 6 (.new [.int .u8 0, .int .u8 0]), s 2 6 81], r [m 82 5]] (.block 4 (q [r [ar 84 .eql (t 82) (n 2),
  m 83 84]] (.cond (t 83) (q [q [d [(m 85 0, 0), (le 86 85, 1), (ar 87 .lss (t 86) (n 2), 3), (m 88 87, 7), (og 89 (.mov (t 0)) 88 false, 15), (og 90 (.idxA 1 (t 89) (n 1)) 88 false,
  31), (og 91 (.ld1 (t 90)) 88 false, 63), (og 92 (.fldA 0 (t 6)) 88 false, 15), (og 93 (.ld1 (t 92)) 88 false, 143), (og 94 (.arith .lss (t 91) (t 93)) 88 false,
  511), (o 95 (.pick (t 88) tt (t 94)), 1023), (m 96 95, 2047), (og 97 (.fldA 1 (t 6)) 96 false, 4095), (og 98 (.ld1 (t 97)) 96 false, 8191), (og 99 (.mov (t 0)) 96 false,
  4095), (og 100 (.idxA 1 (t 99) (n 1)) 96 false, 20479), (og 101 (.ld1 (t 100)) 96 false, 53247), (og 102 (.arith .lss (t 98) (t 101)) 96 false, 131071),
  (o 103 (.pick (t 96) tt (t 102)), 262143)]] (.cond (t 103) (q [r [mv 2 ff]] (.ret)) (sk))] (r [m 104 0, o 105 (.sl 1 (t 104) (some (.const (.int .i64 2))) none none),
  m 0 105])) (q [r [ar 107 .eql (t 82) (n 3), m 106 107]] (.cond (t 106) (q [q [d [(m 108 0, 0), (le 109 108, 1), (ar 110 .lss (t 109) (n 3), 3), (m 111 110,
  7), (og 112 (.mov (t 0)) 111 false, 15), (og 113 (.idxA 1 (t 112) (n 1)) 111 false, 31), (og 114 (.ld1 (t 113)) 111 false, 63), (og 115 (.fldA 0 (t 6)) 111 false,
  15), (og 116 (.ld1 (t 115)) 111 false, 143), (og 117 (.arith .lss (t 114) (t 116)) 111 false, 511), (o 118 (.pick (t 111) tt (t 117)), 1023), (m 119 118,
  2047), (og 120 (.fldA 1 (t 6)) 119 false, 4095), (og 121 (.ld1 (t 120)) 119 false, 8191), (og 122 (.mov (t 0)) 119 false, 4095), (og 123 (.idxA 1 (t 122) (n 1)) 119 false,
  20479), (og 124 (.ld1 (t 123)) 119 false, 53247), (og 125 (.arith .lss (t 121) (t 124)) 119 false, 131071), (o 126 (.pick (t 119) tt (t 125)), 262143),
  (m 127 126, 524287), (og 128 (.mov (t 0)) 127 false, 1048575), (og 129 (.idxA 1 (t 128) (n 2)) 127 false, 2097151), (og 130 (.ld1 (t 129)) 127 false, 4194303),
  (og 131 (.arith .lss (t 130) (.const (.int .u8 128))) 127 false, 8388607), (o 132 (.pick (t 127) tt (t 131)), 16777215), (m 133 132, 33554431), (og 134 (.mov (t 0)) 133 false,
  67108863), (og 135 (.idxA 1 (t 134) (n 2)) 133 false, 134217727), (og 136 (.ld1 (t 135)) 133 false, 268435455), (og 137 (.arith .lss (.const (.int .u8 191)) (t 136)) 133 false,
  536870911), (o 138 (.pick (t 133) tt (t 137)), 1073741823)]] (.cond (t 138) (q [r [mv 2 ff]] (.ret)) (sk))] (r [m 139 0, o 140 (.sl 1 (t 139) (some (.const (.int .i64 3))) none none),
  m 0 140])) (q [r [ar 142 .eql (t 82) (n 4), m 141 142]] (.cond (t 141) (q [q [d [(m 143 0, 0), (le 144 143, 1), (ar 145 .lss (t 144) (n 4), 3), (m 146 145,
  7), (og 147 (.mov (t 0)) 146 false, 15), (og 148 (.idxA 1 (t 147) (n 1)) 146 false, 31), (og 149 (.ld1 (t 148)) 146 false, 63), (og 150 (.fldA 0 (t 6)) 146 false,
  15), (og 151 (.ld1 (t 150)) 146 false, 143), (og 152 (.arith .lss (t 149) (t 151)) 146 false, 511), (o 153 (.pick (t 146) tt (t 152)), 1023), (m 154 153,
  2047), (og 155 (.fldA 1 (t 6)) 154 false, 4095), (og 156 (.ld1 (t 155)) 154 false, 8191), (og 157 (.mov (t 0)) 154 false, 4095), (og 158 (.idxA 1 (t 157) (n 1)) 154 false,
  20479), (og 159 (.ld1 (t 158)) 154 false, 53247), (og 160 (.arith .lss (t 156) (t 159)) 154 false, 131071), (o 161 (.pick (t 154) tt (t 160)), 262143),
  (m 162 161, 524287), (og 163 (.mov (t 0)) 162 false, 1048575), (og 164 (.idxA 1 (t 163) (n 2)) 162 false, 2097151), (og 165 (.ld1 (t 164)) 162 false, 4194303),
  (og 166 (.arith .lss (t 165) (.const (.int .u8 128))) 162 false, 8388607), (o 167 (.pick (t 162) tt (t 166)), 16777215), (m 168 167, 33554431), (og 169 (.mov (t 0)) 168 false,
  67108863), (og 170 (.idxA 1 (t 169) (n 2)) 168 false, 134217727), (og 171 (.ld1 (t 170)) 168 false, 268435455), (og 172 (.arith .lss (.const (.int .u8 191)) (t 171)) 168 false,
  536870911), (o 173 (.pick (t 168) tt (t 172)), 1073741823), (m 174 173, 2147483647), (og 175 (.mov (t 0)) 174 false, 4294967295), (og 176 (.idxA 1 (t 175) (n 3)) 174 false,
  8589934591), (og 177 (.ld1 (t 176)) 174 false, 17179869183), (og 178 (.arith .lss (t 177) (.const (.int .u8 128))) 174 false, 34359738367), (o 179 (.pick (t 174) tt (t 178)),
  68719476735), (m 180 179, 137438953471), (og 181 (.mov (t 0)) 180 false, 274877906943), (og 182 (.idxA 1 (t 181) (n 3)) 180 false, 549755813887), (og 183 (.ld1 (t 182)) 180 false,
  1099511627775), (og 184 (.arith .lss (.const (.int .u8 191)) (t 183)) 180 false, 2199023255551), (o 185 (.pick (t 180) tt (t 184)), 4398046511103)]] (.cond (t 185) (q [r [mv 2 ff]] (.ret)) (sk))] (r [m 186 0,
  o 187 (.sl 1 (t 186) (some (.const (.int .i64 4))) none none), m 0 187])) (q [r [mv 2 ff]] (.ret))))))))))))), r [mv 2 tt]] (.ret)⟩
theorem A130_ok : XOk Tryz.prog [] 130 A130 := ⟨Tryz.f130, Tryz.func130, by kernel_rfl, by decide, by kernel_rfl, its_nil (by kernel_rfl)⟩

/- internal/strconv.Itoa -/
def A131 : AFn := ⟨5, [.tmp 2], q [r [mv 2 (.const (.str []))], r [m 3 0, c 4 152 [t 3, n 10], m 2 4]] (.ret)⟩
theorem A131_ok : XOk Tryz.prog [] 131 A131 := ⟨Tryz.f131, Tryz.func131, by kernel_rfl, by decide, by kernel_rfl, its_nil (by kernel_rfl)⟩

/- widgetry/shortcut.character -/
def A132 : AFn := ⟨25, [.tmp 2], q [r [mv 2 ff], r [m 3 0, ar 4 .geq (t 3) (n 32), m 5 4, og 6 (.mov (t 0)) 5 true, og 7 (.arith .leq (t 6) (n 1114111)) 5 true, o 8 (.pick (t 5) (t 7) ff),
  m 9 8, og 10 (.mov (t 0)) 9 true, og 11 (.arith .lss (t 10) (n 55296)) 9 true, og 12 (.mov (t 11)) 9 true, og 13 (.mov (t 0)) 12 false, og 14 (.arith .gtr (t 13) (n 57343)) 12 false,
  og 15 (.pick (t 12) tt (t 14)) 9 true, o 16 (.pick (t 9) (t 15) ff), m 17 16, og 18 (.mov (t 0)) 17 true, og 19 (.arith .lss (t 18) (n 65)) 17 true, og 20 (.mov (t 19)) 17 true,
  og 21 (.mov (t 0)) 20 false, og 22 (.arith .gtr (t 21) (n 90)) 20 false, og 23 (.pick (t 20) tt (t 22)) 17 true, o 24 (.pick (t 17) (t 23) ff), m 2 24]] (.ret)⟩
theorem A132_ok : XOk Tryz.prog [] 132 A132 := ⟨Tryz.f132, Tryz.func132, by kernel_rfl, by decide, by kernel_rfl, its_nil (by kernel_rfl)⟩

/- widgetry/shortcut.modifiers -/
def A133 : AFn := ⟨2, [.tmp 0], q [r [mv 0 (.const (.nilsl))], r [o 1 (.buildSl 1 4 [.str [], .str [], .str [], .str []] [(0, 1, .const (.str [99, 116, 114, 108])), (1, 1, .const (.str [97,
  108, 116])), (2, 1, .const (.str [115, 104, 105, 102, 116])), (3, 1, .const (.str [109, 101, 116, 97]))]), m 0 1]] (.ret)⟩
theorem A133_ok : XOk Tryz.prog [] 133 A133 := ⟨Tryz.f133, Tryz.func133, by kernel_rfl, by decide, by kernel_rfl, its_nil (by kernel_rfl)⟩

/- widgetry/shortcut.keys -/
def A134 : AFn := ⟨2, [.tmp 0], q [r [mv 0 (.const (.nilsl))], r [o 1 (.buildSl 1 23 [.str [], .str [], .str [], .str [], .str [], .str [], .str [], .str [], .str [], .str [], .str [],
  .str [], .str [], .str [], .str [], .str [], .str [], .str [], .str [], .str [], .str [], .str [], .str []] [(0, 1, .const (.str [116, 97, 98])), (1, 1,
  .const (.str [101, 110, 116, 101, 114])), (2, 1, .const (.str [101, 115, 99, 97, 112, 101])), (3, 1, .const (.str [98, 97, 99, 107, 115, 112, 97, 99, 101])),
  (4, 1, .const (.str [100, 101, 108, 101, 116, 101])), (5, 1, .const (.str [108, 101, 102, 116])), (6, 1, .const (.str [114, 105, 103, 104, 116])), (7,
  1, .const (.str [117, 112])), (8, 1, .const (.str [100, 111, 119, 110])), (9, 1, .const (.str [104, 111, 109, 101])), (10, 1, .const (.str [101, 110, 100])),
  (11, 1, .const (.str [102, 49])), (12, 1, .const (.str [102, 50])), (13, 1, .const (.str [102, 51])), (14, 1, .const (.str [102, 52])), (15, 1, .const (.str [102,
  53])), (16, 1, .const (.str [102, 54])), (17, 1, .const (.str [102, 55])), (18, 1, .const (.str [102, 56])), (19, 1, .const (.str [102, 57])), (20, 1,
  .const (.str [102, 49, 48])), (21, 1, .const (.str [102, 49, 49])), (22, 1, .const (.str [102, 49, 50]))]), m 0 1]] (.ret)⟩
theorem A134_ok : XOk Tryz.prog [] 134 A134 := ⟨Tryz.f134, Tryz.func134, by kernel_rfl, by decide, by kernel_rfl, its_nil (by kernel_rfl)⟩

/- (*strings.Builder).WriteRune -/
def A135 : AFn := ⟨30, [.tmp 4, .tmp 5], q [r [mv 4 (n 0), mv 5 (.const (.nilif))], r [m 7 0, c 8 76 [t 7]], r [m 9 0, o 10 (.nilchk (t 9)), fa 11 1 10, l 12 11, le 13 12, m 6 13], r [m 14 0,
  m 15 0, o 16 (.nilchk (t 15)), fa 17 1 16, l 18 17, m 19 1, c 20 153 [t 18, t 19], o 21 (.nilchk (t 14)), fa 22 1 21, s 1 22 20], r [m 23 0, o 24 (.nilchk (t 23)),
  fa 25 1 24, l 26 25, le 27 26, m 28 6, ar 29 .sub (t 27) (t 28), m 4 29, mv 5 (.const (.nilif))]] (.ret)⟩
theorem A135_ok : XOk Tryz.prog [] 135 A135 := ⟨Tryz.f135, Tryz.func135, by kernel_rfl, by decide, by kernel_rfl, its_nil (by kernel_rfl)⟩

/- internal/strconv.FormatBool -/
def A136 : AFn := ⟨4, [.tmp 2], q [r [mv 2 (.const (.str []))], q [r [m 3 0]] (.cond (t 3) (q [r [mv 2 (.const (.str [116, 114, 117, 101]))]] (.ret)) (sk)), r [mv 2 (.const (.str [102,
  97, 108, 115, 101]))]] (.ret)⟩
theorem A136_ok : XOk Tryz.prog [] 136 A136 := ⟨Tryz.f136, Tryz.func136, by kernel_rfl, by decide, by kernel_rfl, its_nil (by kernel_rfl)⟩

/- (*strings.Builder).grow -/
def A137 : AFn := ⟨30, [], q [d [(m 5 0, 0), (o 6 (.nilchk (t 5)), 1), (fa 7 1 6, 3), (l 8 7, 7), (o 9 (.xo .capz [t 8]), 15), (ar 10 .mul (n 2) (t 9), 31), (m 11 1, 0), (ar 12 .add (t 10) (t 11),
  127), (c 13 154 [t 12], 255), (m 14 0, 0), (o 15 (.nilchk (t 14)), 512), (fa 16 1 15, 1536), (l 17 16, 3584), (le 18 17, 7680), (o 19 (.sl 1 (t 13) none (some (.tmp 18)) none),
  16383), (m 4 19, 32767)], r [m 20 4, m 21 0, o 22 (.nilchk (t 21)), fa 23 1 22, l 24 23, o 25 (.copy 1 (t 20) (t 24))]] (r [m 26 0, m 27 4, o 28 (.nilchk (t 26)),
  fa 29 1 28, s 1 29 27])⟩
theorem A137_ok : XOk Tryz.prog [] 137 A137 := ⟨Tryz.f137, Tryz.func137, by kernel_rfl, by decide, by kernel_rfl, its_nil (by kernel_rfl)⟩

/- (*sync.Once).Do -/
def A138 : AFn := ⟨12, [], q [r [m 4 0, o 5 (.nilchk (t 4)), fa 6 0 5, c 7 155 [t 6], o 8 (.un .not (t 7))]] (.cond (t 8) (r [m 9 0, m 10 1, c 11 156 [t 9, t 10]]) (sk))⟩
theorem A138_ok : XOk Tryz.prog [] 138 A138 := ⟨Tryz.f138, Tryz.func138, by kernel_rfl, by decide, by kernel_rfl, its_nil (by kernel_rfl)⟩

/- (*strings.Replacer).buildOnce -/
def A139 : AFn := ⟨10, [], q [r [m 2 0, m 3 0, c 4 157 [t 3], o 5 (.nilchk (t 2)), fa 6 3 5, s 1 6 4]] (r [m 7 0, o 8 (.nilchk (t 7)), fa 9 4 8, sv 1 9 (.const (.nilsl))])⟩
theorem A139_ok : XOk Tryz.prog [] 139 A139 := ⟨Tryz.f139, Tryz.func139, by kernel_rfl, by decide, by kernel_rfl, its_nil (by kernel_rfl)⟩

/- widgetry/expr.same -/
def A140 : AFn := ⟨31, [.tmp 4], q [r [o 2 (.box (t 0)), o 3 (.box (t 1)), mv 4 ff], r [fa 5 0 2, l 6 5, fa 7 0 3, l 8 7, ar 9 .eql (t 6) (t 8), m 10 9, og 11 (.fldA 1 (t 2)) 10 true,
  og 12 (.ld1 (t 11)) 10 true, og 13 (.fldA 1 (t 3)) 10 true, og 14 (.ld1 (t 13)) 10 true, og 15 (.arith .eql (t 12) (t 14)) 10 true, o 16 (.pick (t 10) (t 15) ff),
  m 17 16, og 18 (.fldA 2 (t 2)) 17 true, og 19 (.ld1 (t 18)) 17 true, og 20 (.fldA 2 (t 3)) 17 true, og 21 (.ld1 (t 20)) 17 true, og 22 (.arith .eql (t 19) (t 21)) 17 true,
  o 23 (.pick (t 17) (t 22) ff), m 24 23, og 25 (.fldA 3 (t 2)) 24 true, og 26 (.ld1 (t 25)) 24 true, og 27 (.fldA 3 (t 3)) 24 true, og 28 (.ld1 (t 27)) 24 true,
  og 29 (.call (fn 73) [t 26, t 28, fn 140]) 24 true, o 30 (.pick (t 24) (t 29) ff), m 4 30]] (.ret)⟩
theorem A140_ok : XOk Tryz.prog [] 140 A140 := ⟨Tryz.f140, Tryz.func140, by kernel_rfl, by decide, by kernel_rfl, its_nil (by kernel_rfl)⟩

/- widgetry/widgetryref11.join -/
def A141 : AFn := ⟨44, [.cell 4 (some 2), .tmp 5], q [r [o 2 (.box (t 0)), o 3 (.box (t 1)), o 4 (.new [.int .i64 0, .nilsl]), mv 5 ff], q [r [fa 8 0 2, l 9 8, fa 10 0 3, l 11 10, ar 12 .neq (t 9) (t 11)]] (.cond (t 12) (q [r [o 13 (.build [.int .i64 0,
  .nilsl] []), s 2 4 13, mv 5 ff]] (.ret)) (sk)), q [r [fa 14 1 2, l 15 14, le 16 15, ar 17 .eql (t 16) (n 0)]] (.cond (t 17) (q [r [ln 18 2 3, s 2 4 18,
  mv 5 tt]] (.ret)) (sk)), q [r [fa 19 1 3, l 20 19, le 21 20, ar 22 .eql (t 21) (n 0)]] (.cond (t 22) (q [r [ln 23 2 2, s 2 4 23, mv 5 tt]] (.ret)) (sk)),
  d [(fa 25 1 2, 0), (l 26 25, 1), (ia 27 2 26 (n 0), 3), (ln 28 2 27, 7), (fa 29 1 3, 0), (l 30 29, 16), (ia 31 2 30 (n 0), 48), (ln 32 2 31, 112), (c 33 141 [t 28,
  t 32], 255), (m 24 33, 511), (ex 34 24 0, 1023), (ex 35 24 1, 1023), (o 6 (.new [.int .i64 0, .nilsl]), 0), (s 2 6 34, 6143), (m 7 35, 16383)], q [r [m 36 7,
  o 37 (.un .not (t 36))]] (.cond (t 37) (q [r [o 38 (.build [.int .i64 0, .nilsl] []), s 2 4 38, mv 5 ff]] (.ret)) (sk)), r [fa 39 0 2, l 40 39, ln 41 2 6,
  o 42 (.buildSl 2 1 [.int .i64 0, .nilsl] [(0, 2, .tmp 41)]), o 43 (.build [.int .i64 0, .nilsl] [(0, 1, .tmp 40), (1, 1, .tmp 42)]), s 2 4 43, mv 5 tt]] (.ret)⟩
theorem A141_ok : XOk Tryz.prog [] 141 A141 := ⟨Tryz.f141, Tryz.func141, by kernel_rfl, by decide, by kernel_rfl, its_nil (by kernel_rfl)⟩

/- internal/bytealg.hashStr[string] -/
def A143 : AFn := ⟨39, [.tmp 2, .tmp 3], q [r [mv 2 (.const (.int .u32 0)), mv 3 (.const (.int .u32 0))], r [mv 4 (.const (.int .u32 0))], q [r [mv 5 (n 0)]] (.block 0 (.loop (q [q [r [m 9 5,
  m 10 0, o 11 (.lenS (t 10)), ar 12 .lss (t 9) (t 11)]] (.cond (t 12) (sk) (.exit 0)), .block 1 (r [m 15 4, ar 16 .mul (t 15) (.const (.int .u32 16777619)),
  m 17 0, m 18 5, o 19 (.idxS (t 17) (t 18)), o 20 (.convI .u32 (t 19)), ar 21 .add (t 16) (t 20), m 4 21])] (r [m 13 5, ar 14 .add (t 13) (n 1), m 5 14])))),
  r [mv 6 (.const (.int .u32 1)), mv 7 (.const (.int .u32 16777619))], q [r [m 22 0, o 23 (.lenS (t 22)), m 8 23]] (.block 2 (.loop (q [q [r [m 24 8, ar 25 .gtr (t 24) (n 0)]] (.cond (t 25) (sk) (.exit 2)),
  .block 3 (q [q [r [m 28 8, ar 29 .and (t 28) (n 1), ar 30 .neq (t 29) (n 0)]] (.cond (t 30) (r [m 31 6, m 32 7, ar 33 .mul (t 31) (t 32), m 6 33]) (sk))] (r [m 34 7,
  m 35 7, ar 36 .mul (t 34) (t 35), m 7 36]))] (r [m 26 8, ar 27 .shr (t 26) (.const (.int .u64 1)), m 8 27])))), r [m 37 4, m 38 6, m 2 37, m 3 38]] (.ret)⟩
theorem A143_ok : XOk Tryz.prog [] 143 A143 := ⟨Tryz.f143, Tryz.func143, by kernel_rfl, by decide, by kernel_rfl, its_nil (by kernel_rfl)⟩

/- internal/strconv.Atoi -/
def A144 : AFn := ⟨77, [.tmp 2, .tmp 3], q [r [mv 2 (n 0), mv 3 (.const (.nilif))], r [m 11 0, o 12 (.lenS (t 11)), m 4 12], q [r [mv 13 ff, og 14 (.mov (t 4)) 13 true, og 15 (.arith .lss (n 0) (t 14)) 13 true,
  og 16 (.mov (t 15)) 13 true, og 17 (.mov (t 4)) 16 true, og 18 (.arith .lss (t 17) (n 10)) 16 true, og 19 (.pick (t 16) (t 18) ff) 13 true, o 20 (.pick (t 13) (t 19) ff),
  m 21 20, og 22 (.mov tt) 21 false, og 23 (.mov (t 4)) 22 true, og 24 (.arith .lss (n 0) (t 23)) 22 true, og 25 (.mov (t 24)) 22 true, og 26 (.mov (t 4)) 25 true,
  og 27 (.arith .lss (t 26) (n 19)) 25 true, og 28 (.pick (t 25) (t 27) ff) 22 true, og 29 (.pick (t 22) (t 28) ff) 21 false, o 30 (.pick (t 21) tt (t 29))]] (.cond (t 30) (q [r [m 31 0,
  m 5 31], q [r [m 32 0, o 33 (.idxS (t 32) (n 0)), ar 34 .eql (t 33) (.const (.int .u8 45)), m 35 34, og 36 (.mov (t 0)) 35 false, og 37 (.idxS (t 36) (n 0)) 35 false,
  og 38 (.arith .eql (t 37) (.const (.int .u8 43))) 35 false, o 39 (.pick (t 35) tt (t 38))]] (.cond (t 39) (q [r [m 40 0, o 41 (.slS (t 40) (some (.const (.int .i64 1))) none),
  m 0 41], r [m 42 0, o 43 (.lenS (t 42)), ar 44 .lss (t 43) (n 1)]] (.cond (t 44) (q [r [o 45 (.stuck), mv 2 (n 0), m 3 45]] (.ret)) (sk))) (sk)), r [mv 6 (n 0)],
  q [r [m 46 0, o 47 (.stuck), le 48 47, mv 49 (n 0)]] (.block 0 (.loop (q [r [ar 50 .lss (t 49) (t 48)], .cond (t 50) (sk) (.exit 0), .block 1 (q [r [ia 51 1 47 (t 49),
  l 52 51, m 8 52], r [m 53 8, ar 54 .sub (t 53) (.const (.int .u8 48)), m 8 54], q [r [m 55 8, ar 56 .gtr (t 55) (.const (.int .u8 9))]] (.cond (t 56) (q [r [o 57 (.stuck),
  mv 2 (n 0), m 3 57]] (.ret)) (sk))] (r [m 58 6, ar 59 .mul (t 58) (n 10), m 60 8, o 61 (.convI .i64 (t 60)), ar 62 .add (t 59) (t 61), m 6 62]))] (r [ar 63 .add (t 49) (n 1),
  m 49 63])))), q [r [m 64 5, o 65 (.idxS (t 64) (n 0)), ar 66 .eql (t 65) (.const (.int .u8 45))]] (.cond (t 66) (r [m 67 6, o 68 (.un .neg (t 67)), m 6 68]) (sk)),
  r [m 69 6, m 2 69, mv 3 (.const (.nilif))]] (.ret)) (sk)), r [m 71 0, c 72 158 [t 71, n 10, n 0], m 70 72, ex 73 70 0, ex 74 70 1, m 9 73, m 10 74], r [m 75 9,
  m 76 10, m 2 75, m 3 76]] (.ret)⟩
theorem A144_ok : XOk Tryz.prog [] 144 A144 := ⟨Tryz.f144, Tryz.func144, by kernel_rfl, by decide, by kernel_rfl, its_nil (by kernel_rfl)⟩
def xtr2 : XT := .node 121 (.node 107 (.node 101 (.node 98 (.node 97 (.one 96 A96) (.one 97 A97)) (.node 99 (.one 98 A98) (.node 100 (.one 99 A99) (.one 100 A100)))) (.node 104 (.node 102 (.one 101 A101) (.node 103 (.one 102 A102) (.one 103 A103))) (.node 105 (.one 104 A104) (.node 106 (.one 105 A105) (.one 106 A106))))) (.node 114 (.node 111 (.node 108 (.one 107 A107) (.node 109 (.one 108 A108) (.one 109 A109))) (.node 112 (.one 111 A111) (.node 113 (.one 112 A112) (.one 113 A113)))) (.node 117 (.node 115 (.one 114 A114) (.node 116 (.one 115 A115) (.one 116 A116))) (.node 118 (.one 117 A117) (.node 120 (.one 118 A118) (.one 120 A120)))))) (.node 132 (.node 126 (.node 123 (.node 122 (.one 121 A121) (.one 122 A122)) (.node 124 (.one 123 A123) (.node 125 (.one 124 A124) (.one 125 A125)))) (.node 129 (.node 127 (.one 126 A126) (.node 128 (.one 127 A127) (.one 128 A128))) (.node 130 (.one 129 A129) (.node 131 (.one 130 A130) (.one 131 A131))))) (.node 138 (.node 135 (.node 133 (.one 132 A132) (.node 134 (.one 133 A133) (.one 134 A134))) (.node 136 (.one 135 A135) (.node 137 (.one 136 A136) (.one 137 A137)))) (.node 141 (.node 139 (.one 138 A138) (.node 140 (.one 139 A139) (.one 140 A140))) (.node 143 (.one 141 A141) (.node 144 (.one 143 A143) (.one 144 A144))))))
theorem xtr2_ok : xtr2.Ok Tryz.prog [] := ⟨⟨⟨⟨⟨A96_ok, A97_ok⟩, ⟨A98_ok, ⟨A99_ok, A100_ok⟩⟩⟩, ⟨⟨A101_ok, ⟨A102_ok, A103_ok⟩⟩, ⟨A104_ok, ⟨A105_ok, A106_ok⟩⟩⟩⟩, ⟨⟨⟨A107_ok, ⟨A108_ok, A109_ok⟩⟩, ⟨A111_ok, ⟨A112_ok, A113_ok⟩⟩⟩, ⟨⟨A114_ok, ⟨A115_ok, A116_ok⟩⟩, ⟨A117_ok, ⟨A118_ok, A120_ok⟩⟩⟩⟩⟩, ⟨⟨⟨⟨A121_ok, A122_ok⟩, ⟨A123_ok, ⟨A124_ok, A125_ok⟩⟩⟩, ⟨⟨A126_ok, ⟨A127_ok, A128_ok⟩⟩, ⟨A129_ok, ⟨A130_ok, A131_ok⟩⟩⟩⟩, ⟨⟨⟨A132_ok, ⟨A133_ok, A134_ok⟩⟩, ⟨A135_ok, ⟨A136_ok, A137_ok⟩⟩⟩, ⟨⟨A138_ok, ⟨A139_ok, A140_ok⟩⟩, ⟨A141_ok, ⟨A143_ok, A144_ok⟩⟩⟩⟩⟩⟩
end Go.Proofs.YtndpneieplopaaaGreatDoor
end
