/- Functions of the program as data, third quarter. -/
import Derived.Test.YtfpcmkpfdjnhnaaGreatDoorZlIts
import Derived.Test.YtfpcmkpfdjnhnaaGreatDoorProg
import Derived.KernelRfl
set_option linter.unusedSimpArgs false
set_option linter.unusedVariables false
set_option linter.unnecessarySimpa false
noncomputable section
namespace Go.Proofs.YtfpcmkpfdjnhnaaGreatDoor
open Go.Eng Go.Eng.DZ
set_option maxRecDepth 100000
/- widgetry/segment.Clusters -/
def A133 : AFn := ⟨51, [.tmp 2], q [r [mv 2 (.const (.nilsl))], q [r [m 8 0, le 9 8, ar 10 .eql (t 9) (n 0), m 11 10, og 12 (.mov (t 0)) 11 false, og 13 (.len (t 12)) 11 false, og 14 (.arith .gtr (t 13) (n 2000)) 11 false,
  o 15 (.pick (t 11) tt (t 14))]] (.cond (t 15) (q [r [mv 2 (.const (.nilsl))]] (.ret)) (sk)), r [m 16 0, le 17 16, o 18 (.mksl 1 8 [.int .i64 0] (t 17) (t 17)),
  m 3 18], q [r [m 19 0, le 20 19, mv 21 (n 0)]] (.block 0 (.loop (q [r [ar 22 .lss (t 21) (t 20)], .cond (t 22) (sk) (.exit 0), .block 1 (q [r [m 23 21,
  ia 24 1 19 (t 21), l 25 24, m 4 23, m 5 25]] (r [m 26 3, m 27 4, m 28 5, c 29 183 [t 28], ia 30 1 26 (t 27), s 1 30 29]))] (r [ar 31 .add (t 21) (n 1),
  m 21 31])))), r [o 32 (.buildSl 1 1 [.int .i64 0] [(0, 1, .const (.int .i64 0))]), m 6 32], q [r [mv 7 (n 1)]] (.block 2 (.loop (q [q [r [m 33 7, m 34 0,
  le 35 34, ar 36 .lss (t 33) (t 35)]] (.cond (t 36) (sk) (.exit 2)), .block 3 (q [r [m 39 3, m 40 7, c 41 184 [t 39, t 40]]] (.cond (t 41) (r [m 42 6, m 43 7,
  o 44 (.buildSl 1 1 [.int .i64 0] [(0, 1, .tmp 43)]), o 45 (.app 1 8 (t 42) (t 44)), m 6 45]) (sk)))] (r [m 37 7, ar 38 .add (t 37) (n 1), m 7 38])))),
  r [m 46 6, m 47 0, le 48 47, o 49 (.buildSl 1 1 [.int .i64 0] [(0, 1, .tmp 48)]), o 50 (.app 1 8 (t 46) (t 49)), m 2 50]] (.ret)⟩
theorem A133_ok : XOk Tryz.prog ITS 133 A133 := ⟨Tryz.f133, Tryz.func133, by kernel_rfl, by decide, by kernel_rfl, its_nil (by kernel_rfl)⟩

/- widgetry/shape.Prepare -/
def A134 : AFn := ⟨29, [.cell 2 (some 5)], q [r [o 2 (.new [.nilsl, .nilsl, .nilsl, .nilmap, .nilmap])], d [(m 6 0, 0), (m 7 0, 0), (c 8 185 [t 7], 2), (m 9 0, 0), (le 10 9, 8), (ar 11 .add (t 10) (n 1),
  24), (o 12 (.mksl 1 1 [.bool false] (t 11) (t 11)), 56), (o 13 (.xo .mkmap []), 0), (o 14 (.xo .mkmap []), 0), (o 15 (.build [.nilsl, .nilsl, .nilsl, .nilmap,
  .nilmap] [(0, 1, .tmp 6), (1, 1, .tmp 8), (2, 1, .tmp 12), (3, 1, .tmp 13), (4, 1, .tmp 14)]), 511), (o 3 (.new [.nilsl, .nilsl, .nilsl, .nilmap, .nilmap]),
  0), (s 5 3 15, 2047)], q [r [m 16 0, c 17 133 [t 16], le 18 17, mv 19 (n 0)]] (.block 0 (.loop (q [r [ar 20 .lss (t 19) (t 18)], .cond (t 20) (sk) (.exit 0),
  .block 1 (q [r [ia 21 1 17 (t 19), l 22 21, m 5 22]] (r [fa 23 2 3, l 24 23, m 25 5, ia 26 1 24 (t 25), sv 1 26 tt]))] (r [ar 27 .add (t 19) (n 1), m 19 27])))),
  r [ln 28 5 3, s 5 2 28]] (.ret)⟩
theorem A134_ok : XOk Tryz.prog ITS 134 A134 := ⟨Tryz.f134, Tryz.func134, by kernel_rfl, by decide, by kernel_rfl, its_nil (by kernel_rfl)⟩

/- (*widgetry/paragraph.text).section -/
def A135 : AFn := ⟨33, [.cell 6 (some 4)], q [r [o 6 (.new [.int .i64 0, .int .i64 0, .int .i64 0, .nilsl])], r [m 8 0, o 9 (.nilchk (t 8)), fa 10 0 9, fa 11 0 10, l 12 11, m 13 1, m 14 2, o 15 (.sl 1 (t 12) (some (.tmp 13)) (some (.tmp 14)) none),
  m 7 15], d [(m 16 1, 0), (m 17 2, 0), (m 18 7, 0), (m 19 0, 0), (o 20 (.nilchk (t 19)), 8), (fa 21 0 20, 24), (fa 22 2 21, 56), (l 23 22, 120), (c 24 186 [t 18,
  t 23], 252), (m 25 7, 0), (m 26 0, 0), (o 27 (.nilchk (t 26)), 1024), (fa 28 0 27, 3072), (fa 29 2 28, 7168), (l 30 29, 15360), (c 31 187 [t 25, t 30],
  32764), (o 32 (.build [.int .i64 0, .int .i64 0, .int .i64 0, .nilsl] [(0, 1, .tmp 16), (1, 1, .tmp 17), (2, 1, .tmp 24), (3, 1, .tmp 31)]), 65535), (s 4 6 32,
  131071)]] (.ret)⟩
theorem A135_ok : XOk Tryz.prog ITS 135 A135 := ⟨Tryz.f135, Tryz.func135, by kernel_rfl, by decide, by kernel_rfl, its_nil (by kernel_rfl)⟩

/- widgetry/paragraph.newline -/
def A136 : AFn := ⟨16, [.tmp 2], q [r [mv 2 ff], r [m 4 0, c 5 188 [t 4], m 3 5], r [m 6 3, ar 7 .eql (t 6) (n 1), m 8 7, og 9 (.mov (t 3)) 8 false, og 10 (.arith .eql (t 9) (n 2)) 8 false,
  o 11 (.pick (t 8) tt (t 10)), m 12 11, og 13 (.mov (t 3)) 12 false, og 14 (.arith .eql (t 13) (n 3)) 12 false, o 15 (.pick (t 12) tt (t 14)), m 2 15]] (.ret)⟩
theorem A136_ok : XOk Tryz.prog ITS 136 A136 := ⟨Tryz.f136, Tryz.func136, by kernel_rfl, by decide, by kernel_rfl, its_nil (by kernel_rfl)⟩

/- (*widgetry/paragraph.text).fitting -/
def A137 : AFn := ⟨37, [.tmp 8], q [r [o 5 (.box (t 1)), mv 8 (n 0)], r [m 13 0, m 14 2, m 15 3, c 16 140 [t 13, t 14, t 15], m 9 16, mv 10 (n 0)], q [r [m 17 0, ln 18 4 5, m 19 2, m 20 3,
  c 21 139 [t 17, t 18, t 19, t 20], le 22 21, mv 23 (n 0)]] (.block 0 (.loop (q [r [ar 24 .lss (t 23) (t 22)], .cond (t 24) (sk) (.exit 0), .block 1 (q [r [ia 25 8 21 (t 23),
  ln 26 8 25, o 12 (.new [.int .i64 0, .int .i64 0, .int .i64 0, .int .i64 0, .int .i64 0, .int .i64 0, .int .i64 0, .int .i64 0]), s 8 12 26], r [fa 27 2 12,
  l 28 27, m 29 9, ar 30 .lss (t 28) (t 29)]] (.cond (t 30) (r [m 31 10, fa 32 5 12, l 33 32, ar 34 .add (t 31) (t 33), m 10 34]) (sk)))] (r [ar 35 .add (t 23) (n 1),
  m 23 35])))), r [m 36 10, m 8 36]] (.ret)⟩
theorem A137_ok : XOk Tryz.prog ITS 137 A137 := ⟨Tryz.f137, Tryz.func137, by kernel_rfl, by decide, by kernel_rfl, its_nil (by kernel_rfl)⟩

/- (*widgetry/paragraph.text).glyphs -/
def A139 : AFn := ⟨215, [.tmp 8], q [r [o 5 (.box (t 1)), mv 8 (.const (.nilsl))], d [(m 21 0, 0), (o 22 (.nilchk (t 21)), 1), (fa 23 0 22, 3), (fa 24 0 23, 7), (l 25 24, 15), (fa 26 0 5,
  0), (l 27 26, 32), (fa 28 1 5, 0), (l 29 28, 128), (o 30 (.sl 1 (t 25) (some (.tmp 27)) (some (.tmp 29)) none), 511), (m 9 30, 1023)], r [m 31 9, fa 32 3 5,
  l 33 32, fa 34 2 5, l 35 34, m 36 2, fa 37 0 5, l 38 37, ar 39 .sub (t 36) (t 38), m 40 3, fa 41 0 5, l 42 41, ar 43 .sub (t 40) (t 42), c 44 189 [t 31,
  t 33, t 35, t 39, t 43], m 10 44], q [r [mv 11 (n 1)]] (.block 0 (.loop (q [q [r [m 45 11, m 46 10, le 47 46, ar 48 .lss (t 45) (t 47)]] (.cond (t 48) (sk) (.exit 0)),
  .block 1 (q [r [m 51 0, o 52 (.nilchk (t 51)), fa 53 8 52, l 54 53, m 55 2, m 56 11, ar 57 .add (t 55) (t 56), ia 58 1 54 (t 57), l 59 58, o 60 (.un .not (t 59))]] (.cond (t 60) (r [m 61 10,
  m 62 11, m 63 10, m 64 11, ar 65 .sub (t 64) (n 1), ia 66 1 63 (t 65), l 67 66, ia 68 1 61 (t 62), s 1 68 67]) (sk)))] (r [m 49 11, ar 50 .add (t 49) (n 1),
  m 11 50])))), r [m 69 10, le 70 69, o 71 (.mksl 1 8 [.int .i64 0] (t 70) (t 70)), m 12 71], r [mv 13 (.const (.nilsl))], q [r [m 72 10, le 73 72, mv 74 (n 0)]] (.block 2 (.loop (q [r [ar 75 .lss (t 74) (t 73)],
  .cond (t 75) (sk) (.exit 2), .block 3 (q [r [m 76 74, m 14 76], q [d [(m 77 14, 0), (ar 78 .eql (t 77) (n 0), 1), (m 79 78, 3), (og 80 (.mov (t 10)) 79 false,
  7), (og 81 (.mov (t 14)) 79 false, 7), (og 82 (.idxA 1 (t 80) (t 81)) 79 false, 31), (og 83 (.ld1 (t 82)) 79 false, 63), (og 84 (.mov (t 10)) 79 false,
  7), (og 85 (.mov (t 14)) 79 false, 7), (og 86 (.arith .sub (t 85) (n 1)) 79 false, 263), (og 87 (.idxA 1 (t 84) (t 86)) 79 false, 903), (og 88 (.ld1 (t 87)) 79 false,
  1927), (og 89 (.arith .neq (t 83) (t 88)) 79 false, 4095), (o 90 (.pick (t 79) tt (t 89)), 8191), (m 91 90, 16383), (og 92 (.mov (t 0)) 91 false, 32767),
  (og 93 (.nilchk (t 92)) 91 false, 65535), (og 94 (.fldA 9 (t 93)) 91 false, 131071), (og 95 (.ld1 (t 94)) 91 false, 262143), (og 96 (.mov (t 2)) 91 false,
  32767), (og 97 (.mov (t 14)) 91 false, 32767), (og 98 (.arith .add (t 96) (t 97)) 91 false, 1605631), (og 99 (.idxA 1 (t 95) (t 98)) 91 false, 4194303),
  (og 100 (.ld1 (t 99)) 91 false, 8388607), (og 101 (.mov (t 0)) 91 false, 32767), (og 102 (.nilchk (t 101)) 91 false, 16809983), (og 103 (.fldA 9 (t 102)) 91 false,
  50364415), (og 104 (.ld1 (t 103)) 91 false, 117473279), (og 105 (.mov (t 2)) 91 false, 32767), (og 106 (.mov (t 14)) 91 false, 32767), (og 107 (.arith .add (t 105) (t 106)) 91 false,
  805339135), (og 108 (.arith .sub (t 107) (n 1)) 91 false, 1879080959), (og 109 (.idxA 1 (t 104) (t 108)) 91 false, 4278222847), (og 110 (.ld1 (t 109)) 91 false,
  8573190143), (og 111 (.arith .neq (t 100) (t 110)) 91 false, 17179869183), (o 112 (.pick (t 91) tt (t 111)), 34359738367)]] (.cond (t 112) (r [m 113 13,
  m 114 2, m 115 14, ar 116 .add (t 114) (t 115), m 117 2, m 118 14, ar 119 .add (t 117) (t 118), o 120 (.build [.int .i64 0, .int .i64 0] [(0, 1, .tmp 116),
  (1, 1, .tmp 119)]), o 121 (.buildSl 2 1 [.int .i64 0, .int .i64 0] [(0, 2, .tmp 120)]), o 122 (.app 2 16 (t 113) (t 121)), m 13 122]) (sk)), r [m 123 12,
  m 124 14, m 125 13, le 126 125, ar 127 .sub (t 126) (n 1), ia 128 1 123 (t 124), s 1 128 127]] (d [(m 129 13, 0), (m 130 12, 0), (m 131 14, 0), (ia 132 1 130 (t 131),
  6), (l 133 132, 14), (ia 134 2 129 (t 133), 31), (o 135 (.idxArrA 2 1 (t 134) (n 1)), 63), (l 136 135, 127), (ar 137 .add (t 136) (n 1), 255), (ia 138 2 129 (t 133),
  31), (o 139 (.idxArrA 2 1 (t 138) (n 1)), 1023), (s 1 139 137, 2047)]))] (r [ar 140 .add (t 74) (n 1), m 74 140])))), r [mv 15 (.const (.nilsl))], r [m 141 13,
  le 142 141, o 143 (.mksl 1 1 [.bool false] (t 142) (t 142)), m 16 143], q [r [m 144 10, c 145 190 [t 144], le 146 145, mv 147 (n 0)]] (.block 4 (.loop (q [r [ar 148 .lss (t 147) (t 146)],
  .cond (t 148) (sk) (.exit 4), .block 5 (q [r [ia 149 1 145 (t 147), l 150 149, m 18 150], r [m 151 12, m 152 18, ia 153 1 151 (t 152), l 154 153, m 19 154],
  q [r [m 155 16, m 156 19, ia 157 1 155 (t 156), l 158 157]] (.cond (t 158) (.exit 5) (sk)), r [m 159 16, m 160 19, ia 161 1 159 (t 160), sv 1 161 tt],
  d [(m 162 0, 0), (o 163 (.nilchk (t 162)), 1), (fa 164 0 163, 3), (fa 165 1 164, 7), (l 166 165, 15), (m 167 0, 0), (o 168 (.nilchk (t 167)), 32), (fa 169 9 168,
  96), (l 170 169, 224), (m 171 2, 0), (m 172 18, 0), (ar 173 .add (t 171) (t 172), 1536), (ia 174 1 170 (t 173), 4064), (l 175 174, 8160), (ia 176 4 166 (t 175),
  16383), (ln 177 4 176, 32767), (o 20 (.new [.int .i64 0, .int .i64 0, .int .i64 0, .int .i64 0]), 0), (s 4 20 177, 131071)]] (d [(m 178 15, 0), (m 179 0,
  0), (o 180 (.nilchk (t 179)), 2), (fa 181 10 180, 6), (ln 182 5 181, 14), (m 183 0, 0), (o 184 (.nilchk (t 183)), 32), (fa 185 5 184, 96), (l 186 185,
  224), (fa 187 2 20, 0), (l 188 187, 512), (ia 189 8 186 (t 188), 2016), (ln 190 8 189, 4064), (fa 191 2 20, 0), (l 192 191, 8192), (fa 193 3 20, 0), (l 194 193,
  32768), (m 195 13, 0), (m 196 19, 0), (ia 197 2 195 (t 196), 393216), (o 198 (.idxArrA 2 1 (t 197) (n 0)), 917504), (l 199 198, 1966080), (m 200 13, 0),
  (m 201 19, 0), (ia 202 2 200 (t 201), 12582912), (o 203 (.idxArrA 2 1 (t 202) (n 1)), 29360128), (l 204 203, 62914560), (m 205 10, 0), (m 206 18, 0), (ia 207 1 205 (t 206),
  402653184), (l 208 207, 939524096), (ar 209 .rem (t 208) (n 2), 2013265920), (ar 210 .eql (t 209) (n 1), 4160749568), (c 211 191 [t 182, t 190, t 192,
  t 194, t 199, t 204, t 210], 8589934590), (o 212 (.app 8 64 (t 178) (t 211)), 17179869183), (m 15 212, 34359738367)]))] (r [ar 213 .add (t 147) (n 1),
  m 147 213])))), r [m 214 15, m 8 214]] (.ret)⟩
theorem A139_ok : XOk Tryz.prog ITS 139 A139 := ⟨Tryz.f139, Tryz.func139, by kernel_rfl, by decide, by kernel_rfl, its_nil (by kernel_rfl)⟩

/- (*widgetry/paragraph.text).white -/
def A140 : AFn := ⟨39, [.tmp 6], q [r [mv 6 (n 0)], .block 0 (.loop (q [q [r [m 8 2, m 9 1, ar 10 .gtr (t 8) (t 9)]] (.cond (t 10) (sk) (.exit 0)), .block 1 (q [r [m 13 0, o 14 (.nilchk (t 13)),
  fa 15 0 14, fa 16 0 15, l 17 16, m 18 2, ar 19 .sub (t 18) (n 1), ia 20 1 17 (t 19), l 21 20, c 22 188 [t 21], m 7 22], r [m 23 7, ar 24 .neq (t 23) (n 4),
  m 25 24, og 26 (.mov (t 0)) 25 true, og 27 (.nilchk (t 26)) 25 true, og 28 (.fldA 0 (t 27)) 25 true, og 29 (.fldA 0 (t 28)) 25 true, og 30 (.ld1 (t 29)) 25 true,
  og 31 (.mov (t 2)) 25 true, og 32 (.arith .sub (t 31) (n 1)) 25 true, og 33 (.idxA 1 (t 30) (t 32)) 25 true, og 34 (.ld1 (t 33)) 25 true, og 35 (.call (fn 136) [t 34]) 25 true,
  og 36 (.un .not (t 35)) 25 true, o 37 (.pick (t 25) (t 36) ff)]] (.cond (t 37) (.exit 0) (sk)))] (r [m 11 2, ar 12 .sub (t 11) (n 1), m 2 12]))), r [m 38 2,
  m 6 38]] (.ret)⟩
theorem A140_ok : XOk Tryz.prog ITS 140 A140 := ⟨Tryz.f140, Tryz.func140, by kernel_rfl, by decide, by kernel_rfl, its_nil (by kernel_rfl)⟩

/- widgetry/font.Ascent -/
def A141 : AFn := ⟨24, [.tmp 4], q [r [o 2 (.box (t 0)), mv 4 (n 0)], q [r [ln 6 8 2, m 7 1, c 8 192 [t 6, t 7], o 9 (.un .not (t 8))]] (.cond (t 9) (q [r [mv 4 (n 0)]] (.ret)) (sk)),
  r [ln 10 8 2, m 11 1, fa 12 1 2, l 13 12, c 14 193 [t 10, t 11, t 13], m 5 14], q [r [m 15 5, ar 16 .eql (t 15) (n 0), m 17 16, og 18 (.ldn 8 (t 2)) 17 true,
  og 19 (.mov (t 1)) 17 true, og 20 (.call (fn 142) [t 18, t 19]) 17 true, og 21 (.arith .eql (t 20) (n 0)) 17 true, o 22 (.pick (t 17) (t 21) ff)]] (.cond (t 22) (q [r [mv 4 (n 1)]] (.ret)) (sk)),
  r [m 23 5, m 4 23]] (.ret)⟩
theorem A141_ok : XOk Tryz.prog ITS 141 A141 := ⟨Tryz.f141, Tryz.func141, by kernel_rfl, by decide, by kernel_rfl, its_nil (by kernel_rfl)⟩

/- widgetry/font.Descent -/
def A142 : AFn := ⟨14, [.tmp 4], q [r [o 2 (.box (t 0)), mv 4 (n 0)], q [r [ln 5 8 2, m 6 1, c 7 192 [t 5, t 6], o 8 (.un .not (t 7))]] (.cond (t 8) (q [r [mv 4 (n 0)]] (.ret)) (sk)),
  r [ln 9 8 2, m 10 1, fa 11 2 2, l 12 11, c 13 193 [t 9, t 10, t 12], m 4 13]] (.ret)⟩
theorem A142_ok : XOk Tryz.prog ITS 142 A142 := ⟨Tryz.f142, Tryz.func142, by kernel_rfl, by decide, by kernel_rfl, its_nil (by kernel_rfl)⟩

/- widgetry/font.Height -/
def A143 : AFn := ⟨22, [.tmp 4], q [r [o 2 (.box (t 0)), mv 4 (n 0)], q [r [ln 5 8 2, m 6 1, c 7 192 [t 5, t 6], o 8 (.un .not (t 7))]] (.cond (t 8) (q [r [mv 4 (n 0)]] (.ret)) (sk)),
  d [(ln 9 8 2, 0), (m 10 1, 0), (c 11 141 [t 9, t 10], 3), (ln 12 8 2, 0), (m 13 1, 0), (c 14 142 [t 12, t 13], 31), (ar 15 .add (t 11) (t 14), 63), (ln 16 8 2,
  0), (m 17 1, 0), (fa 18 3 2, 0), (l 19 18, 512), (c 20 193 [t 16, t 17, t 19], 1983), (ar 21 .add (t 15) (t 20), 4095), (m 4 21, 8191)]] (.ret)⟩
theorem A143_ok : XOk Tryz.prog ITS 143 A143 := ⟨Tryz.f143, Tryz.func143, by kernel_rfl, by decide, by kernel_rfl, its_nil (by kernel_rfl)⟩

/- widgetry/shape.Width -/
def A144 : AFn := ⟨18, [.tmp 2], q [r [mv 2 (n 0)], r [mv 3 (n 0)], q [r [m 6 0, le 7 6, mv 8 (n 0)]] (.block 0 (.loop (q [r [ar 9 .lss (t 8) (t 7)], .cond (t 9) (sk) (.exit 0), .block 1 (q [r [ia 10 8 6 (t 8),
  ln 11 8 10, o 5 (.new [.int .i64 0, .int .i64 0, .int .i64 0, .int .i64 0, .int .i64 0, .int .i64 0, .int .i64 0, .int .i64 0]), s 8 5 11]] (r [m 12 3,
  fa 13 5 5, l 14 13, ar 15 .add (t 12) (t 14), m 3 15]))] (r [ar 16 .add (t 8) (n 1), m 8 16])))), r [m 17 3, m 2 17]] (.ret)⟩
theorem A144_ok : XOk Tryz.prog ITS 144 A144 := ⟨Tryz.f144, Tryz.func144, by kernel_rfl, by decide, by kernel_rfl, its_nil (by kernel_rfl)⟩

/- (*widgetry/layout.scene).intrinsic -/
def A148 : AFn := ⟨58, [.tmp 6], q [r [mv 6 (n 0)], r [m 14 0, o 15 (.nilchk (t 14)), fa 16 8 15, l 17 16, m 7 17], q [r [m 18 2]] (.cond (t 18) (r [m 19 0, o 20 (.nilchk (t 19)), fa 21 9 20,
  l 22 21, m 7 22]) (sk)), q [r [m 24 7, m 25 1, o 26 (.xo (.mapget (.one (.int .i64)) true (.int .i64 0)) [t 24, t 25]), m 23 26, ex 27 23 0, ex 28 23 1,
  m 8 27, m 9 28], r [m 29 9]] (.cond (t 29) (q [r [m 30 8, m 6 30]] (.ret)) (sk)), r [m 31 0, o 32 (.nilchk (t 31)), fa 33 5 32, l 34 33, m 35 1, o 36 (.xo (.mapget (.one (.int .i64)) false (.agg [.int .i64 0,
  .int .i64 0, .int .i64 0, .int .i64 0, .int .i64 0, .int .i64 0, .int .i64 0, .int .i64 0, .int .i64 0, .int .i64 0, .int .i64 0, .int .i64 0, .int .i64 0,
  .int .i64 0, .int .i64 0, .int .i64 0, .int .i64 0, .int .i64 0, .int .i64 0, .int .i64 0, .int .i64 0, .int .i64 0])) [t 34, t 35]), o 10 (.new [.int .i64 0,
  .int .i64 0, .int .i64 0, .int .i64 0, .int .i64 0, .int .i64 0, .int .i64 0, .int .i64 0, .int .i64 0, .int .i64 0, .int .i64 0, .int .i64 0, .int .i64 0,
  .int .i64 0, .int .i64 0, .int .i64 0, .int .i64 0, .int .i64 0, .int .i64 0, .int .i64 0, .int .i64 0, .int .i64 0]), s 22 10 36], r [ln 38 22 10, c 39 46 [t 38],
  m 37 39, ex 40 37 0, ex 41 37 1, m 11 40, m 12 41], d [(m 42 0, 0), (m 43 1, 0), (m 44 2, 0), (c 45 197 [t 42, t 43, t 44], 7), (m 46 11, 0), (ar 47 .add (t 45) (t 46),
  31), (o 48 (.mnmx false (t 47) (n 1048576)), 63), (o 49 (.idxArrA 22 1 (t 10) (n 13)), 0), (l 50 49, 128), (o 51 (.idxArrA 22 1 (t 10) (n 14)), 0), (l 52 51,
  512), (c 53 91 [t 48, t 50, t 52], 2047), (m 13 53, 4095)], r [m 54 7, m 55 1, m 56 13, on (.xo (.mapset (.one (.int .i64))) [t 54, t 55, t 56])], r [m 57 13,
  m 6 57]] (.ret)⟩
theorem A148_ok : XOk Tryz.prog ITS 148 A148 := ⟨Tryz.f148, Tryz.func148, by kernel_rfl, by decide, by kernel_rfl, its_nil (by kernel_rfl)⟩

/- (*widgetry/layout.scene).across -/
def A149 : AFn := ⟨29, [.tmp 8], q [r [mv 8 (n 0)], r [m 10 0, o 11 (.nilchk (t 10)), fa 12 5 11, l 13 12, m 14 1, o 15 (.xo (.mapget (.one (.int .i64)) false (.agg [.int .i64 0, .int .i64 0,
  .int .i64 0, .int .i64 0, .int .i64 0, .int .i64 0, .int .i64 0, .int .i64 0, .int .i64 0, .int .i64 0, .int .i64 0, .int .i64 0, .int .i64 0, .int .i64 0,
  .int .i64 0, .int .i64 0, .int .i64 0, .int .i64 0, .int .i64 0, .int .i64 0, .int .i64 0, .int .i64 0])) [t 13, t 14]), o 9 (.new [.int .i64 0, .int .i64 0,
  .int .i64 0, .int .i64 0, .int .i64 0, .int .i64 0, .int .i64 0, .int .i64 0, .int .i64 0, .int .i64 0, .int .i64 0, .int .i64 0, .int .i64 0, .int .i64 0,
  .int .i64 0, .int .i64 0, .int .i64 0, .int .i64 0, .int .i64 0, .int .i64 0, .int .i64 0, .int .i64 0]), s 22 9 15], q [r [m 16 3, o 17 (.un .not (t 16))]] (.cond (t 17) (r [m 18 2,
  m 19 0, m 20 1, c 21 148 [t 19, t 20, tt], o 22 (.mnmx false (t 18) (t 21)), m 2 22]) (sk)), r [m 23 2, o 24 (.idxArrA 22 1 (t 9) (n 13)), l 25 24, o 26 (.idxArrA 22 1 (t 9) (n 14)),
  l 27 26, c 28 91 [t 23, t 25, t 27], m 8 28]] (.ret)⟩
theorem A149_ok : XOk Tryz.prog ITS 149 A149 := ⟨Tryz.f149, Tryz.func149, by kernel_rfl, by decide, by kernel_rfl, its_nil (by kernel_rfl)⟩

/- widgetry/box.length -/
def A150 : AFn := ⟨6, [.tmp 2], q [r [mv 2 ff], r [m 3 0, c 4 198 [t 3, fn 199], o 5 (.un .not (t 4)), m 2 5]] (.ret)⟩
theorem A150_ok : XOk Tryz.prog ITS 150 A150 := ⟨Tryz.f150, Tryz.func150, by kernel_rfl, by decide, by kernel_rfl, its_nil (by kernel_rfl)⟩

/- widgetry/view.Number -/
def A155 : AFn := ⟨21, [.tmp 6], q [r [mv 6 (n 0)], q [r [m 10 0, m 11 1, c 12 130 [t 10, t 11], m 9 12, ex 13 9 0, ex 14 9 1, o 7 (.new [.int .i64 0, .int .i64 0, .str [], .nilsl]), s 4 7 13,
  m 8 14], r [fa 15 0 7, l 16 15, ar 17 .eql (t 16) (n 1)]] (.cond (t 17) (q [r [fa 18 1 7, l 19 18, m 6 19]] (.ret)) (sk)), r [m 20 2, m 6 20]] (.ret)⟩
theorem A155_ok : XOk Tryz.prog ITS 155 A155 := ⟨Tryz.f155, Tryz.func155, by kernel_rfl, by decide, by kernel_rfl, its_nil (by kernel_rfl)⟩

/- (*widgetry/layout.scene).deep -/
def A160 : AFn := ⟨178, [.tmp 6], q [r [mv 6 (n 0)], d [(m 22 0, 0), (o 23 (.nilchk (t 22)), 1), (fa 24 4 23, 3), (l 25 24, 7), (m 26 1, 0), (o 27 (.xo (.mapget (.one (.int .i64)) false (.agg [.int .i64 0,
  .int .i64 0, .int .i64 0, .str [], .nilsl, .nilsl, .nilsl])) [t 25, t 26]), 31), (m 28 0, 0), (o 29 (.nilchk (t 28)), 64), (fa 30 5 29, 192), (l 31 30,
  448), (m 32 1, 0), (o 33 (.xo (.mapget (.one (.int .i64)) false (.agg [.int .i64 0, .int .i64 0, .int .i64 0, .int .i64 0, .int .i64 0, .int .i64 0, .int .i64 0,
  .int .i64 0, .int .i64 0, .int .i64 0, .int .i64 0, .int .i64 0, .int .i64 0, .int .i64 0, .int .i64 0, .int .i64 0, .int .i64 0, .int .i64 0, .int .i64 0,
  .int .i64 0, .int .i64 0, .int .i64 0])) [t 31, t 32]), 1984), (o 7 (.new [.int .i64 0, .int .i64 0, .int .i64 0, .str [], .nilsl, .nilsl, .nilsl]), 0),
  (o 8 (.new [.int .i64 0, .int .i64 0, .int .i64 0, .int .i64 0, .int .i64 0, .int .i64 0, .int .i64 0, .int .i64 0, .int .i64 0, .int .i64 0, .int .i64 0,
  .int .i64 0, .int .i64 0, .int .i64 0, .int .i64 0, .int .i64 0, .int .i64 0, .int .i64 0, .int .i64 0, .int .i64 0, .int .i64 0, .int .i64 0]), 0), (s 7 7 27,
  12351), (s 22 8 33, 32767)], .block 0 (q [r [fa 35 2 7, l 36 35, c 37 22 [t 36], m 34 37]] (.cond (t 34) (q [d [(ln 39 7 7, 0), (ln 40 22 8, 0), (m 41 0,
  0), (o 42 (.nilchk (t 41)), 4), (fa 43 3 42, 12), (l 44 43, 28), (le 45 44, 60), (m 46 2, 0), (c 47 44 [t 39, t 40, t 45, t 46], 255), (m 48 0, 0), (o 49 (.nilchk (t 48)),
  512), (fa 50 3 49, 1536), (l 51 50, 3584), (c 52 43 [t 47, t 51], 8191), (m 38 52, 16383), (ex 53 38 0, 32767), (ex 54 38 1, 32767), (m 9 53, 65535), (m 10 54,
  262143)], r [m 55 9, c 56 208 [t 55], m 6 56]] (.ret)) (q [r [fa 58 2 7, l 59 58, c 60 84 [t 59], m 57 60]] (.cond (t 57) (q [r [fa 61 4 7, l 62 61, c 63 155 [t 62,
  .const (.str [104, 101, 105, 103, 104, 116]), n 0], c 64 47 [t 63], m 6 64]] (.ret)) (q [r [fa 66 2 7, l 67 66, ar 68 .eql (t 67) (n 8), m 69 68, og 70 (.idxArrA 22 1 (t 8) (n 12)) 69 true,
  og 71 (.ld1 (t 70)) 69 true, og 72 (.arith .geq (t 71) (n 0)) 69 true, o 73 (.pick (t 69) (t 72) ff), m 65 73]] (.cond (t 65) (q [r [o 74 (.idxArrA 22 1 (t 8) (n 12)),
  l 75 74, m 6 75]] (.ret)) (sk))))))), r [mv 11 (n 0)], q [r [m 76 0, m 77 1, c 78 21 [t 76, t 77]]] (.block 1 (q [r [ar 108 .eql (t 78) (n 3), m 107 108]] (.cond (t 107) (q [r [m 109 0,
  m 110 1, m 111 2, c 112 49 [t 109, t 110, t 111], le 113 112, mv 114 (n 0)]] (.block 4 (.loop (q [r [ar 115 .lss (t 114) (t 113)], .cond (t 115) (sk) (.exit 4),
  .block 5 (q [r [ia 116 4 112 (t 114), ln 117 4 116, o 13 (.new [.int .i64 0, .int .i64 0, .int .i64 0, .int .i64 0]), s 4 13 117]] (r [m 118 11, fa 119 1 13,
  l 120 119, fa 121 3 13, l 122 121, ar 123 .add (t 120) (t 122), o 124 (.mnmx true (t 118) (t 123)), m 11 124]))] (r [ar 125 .add (t 114) (n 1), m 114 125]))))) (q [r [ar 127 .eql (t 78) (n 4),
  m 126 127]] (.cond (t 126) (q [r [m 128 0, m 129 1, m 130 2, c 131 50 [t 128, t 129, t 130], le 132 131, mv 133 (n 0)]] (.block 6 (.loop (q [r [ar 134 .lss (t 133) (t 132)],
  .cond (t 134) (sk) (.exit 6), .block 7 (q [r [ia 135 4 131 (t 133), ln 136 4 135, o 15 (.new [.int .i64 0, .int .i64 0, .int .i64 0, .int .i64 0]), s 4 15 136]] (r [m 137 11,
  fa 138 1 15, l 139 138, fa 140 3 15, l 141 140, ar 142 .add (t 139) (t 141), o 143 (.mnmx true (t 137) (t 142)), m 11 143]))] (r [ar 144 .add (t 133) (n 1),
  m 133 144]))))) (q [r [ar 146 .eql (t 78) (n 2), m 145 146]] (.cond (t 145) (q [r [m 147 0, m 148 1, m 149 2, c 150 92 [t 147, t 148, t 149], m 16 150],
  r [m 151 0, m 152 1, m 153 16, c 154 93 [t 151, t 152, t 153], m 17 154], q [r [o 155 (.idxArrA 22 1 (t 8) (n 6)), l 156 155, ar 157 .eql (t 156) (n 4)]] (.cond (t 157) (q [r [m 159 17,
  m 160 0, m 161 1, m 162 16, c 163 96 [t 160, t 161, t 162], c 164 95 [t 159, t 163], m 158 164, ex 165 158 0, ex 166 158 1, m 11 166]] (.exit 1)) (sk)),
  r [m 167 17, le 168 167, mv 169 (n 0)]] (.block 8 (.loop (q [r [ar 170 .lss (t 169) (t 168)], .cond (t 170) (sk) (.exit 8), .block 9 (q [r [ia 171 1 167 (t 169),
  l 172 171, m 19 172]] (r [m 173 11, m 174 19, o 175 (.mnmx true (t 173) (t 174)), m 11 175]))] (r [ar 176 .add (t 169) (n 1), m 169 176]))))) (q [d [(o 79 (.idxArrA 22 1 (t 8) (n 9)),
  0), (l 80 79, 1), (m 81 0, 0), (o 82 (.nilchk (t 81)), 4), (fa 83 6 82, 12), (l 84 83, 28), (m 85 1, 0), (o 86 (.xo (.mapget (.one (.int .i64)) false (.nilsl)) [t 84,
  t 85]), 124), (le 87 86, 252), (ar 88 .sub (t 87) (n 1), 508), (o 89 (.mnmx true (t 88) (n 0)), 1020), (ar 90 .mul (t 80) (t 89), 2047), (m 11 90, 4095)],
  r [m 91 0, m 92 1, m 93 0, m 94 1, m 95 2, c 96 92 [t 93, t 94, t 95], c 97 93 [t 91, t 92, t 96], le 98 97, mv 99 (n 0)]] (.block 2 (.loop (q [r [ar 100 .lss (t 99) (t 98)],
  .cond (t 100) (sk) (.exit 2), .block 3 (q [r [ia 101 1 97 (t 99), l 102 101, m 21 102]] (r [m 103 11, m 104 21, ar 105 .add (t 103) (t 104), m 11 105]))] (r [ar 106 .add (t 99) (n 1),
  m 99 106])))))))))))), r [m 177 11, m 6 177]] (.ret)⟩
theorem A160_ok : XOk Tryz.prog ITS 160 A160 := ⟨Tryz.f160, Tryz.func160, by kernel_rfl, by decide, by kernel_rfl, its_nil (by kernel_rfl)⟩

/- widgetry/constraint.valid -/
def A161 : AFn := ⟨55, [.tmp 4], q [r [o 3 (.box (t 1)), mv 4 ff], r [fa 5 0 3, l 6 5, ar 7 .geq (t 6) (n (-1)), m 8 7, og 9 (.fldA 0 (t 3)) 8 true, og 10 (.ld1 (t 9)) 8 true, og 11 (.mov (t 0)) 8 true,
  og 12 (.arith .lss (t 10) (t 11)) 8 true, o 13 (.pick (t 8) (t 12) ff), m 14 13, og 15 (.fldA 1 (t 3)) 14 true, og 16 (.ld1 (t 15)) 14 true, og 17 (.arith .geq (t 16) (n (-1))) 14 true,
  o 18 (.pick (t 14) (t 17) ff), m 19 18, og 20 (.fldA 1 (t 3)) 19 true, og 21 (.ld1 (t 20)) 19 true, og 22 (.mov (t 0)) 19 true, og 23 (.arith .lss (t 21) (t 22)) 19 true,
  o 24 (.pick (t 19) (t 23) ff), m 25 24, og 26 (.fldA 2 (t 3)) 25 true, og 27 (.ld1 (t 26)) 25 true, og 28 (.arith .geq (t 27) (n 0)) 25 true, o 29 (.pick (t 25) (t 28) ff),
  m 30 29, og 31 (.fldA 2 (t 3)) 30 true, og 32 (.ld1 (t 31)) 30 true, og 33 (.arith .leq (t 32) (n 2)) 30 true, o 34 (.pick (t 30) (t 33) ff), m 35 34,
  og 36 (.fldA 3 (t 3)) 35 true, og 37 (.ld1 (t 36)) 35 true, og 38 (.arith .geq (t 37) (n (-1048576))) 35 true, o 39 (.pick (t 35) (t 38) ff), m 40 39,
  og 41 (.fldA 3 (t 3)) 40 true, og 42 (.ld1 (t 41)) 40 true, og 43 (.arith .leq (t 42) (n 1048576)) 40 true, o 44 (.pick (t 40) (t 43) ff), m 45 44, og 46 (.fldA 4 (t 3)) 45 true,
  og 47 (.ld1 (t 46)) 45 true, og 48 (.arith .geq (t 47) (n 0)) 45 true, o 49 (.pick (t 45) (t 48) ff), m 50 49, og 51 (.fldA 4 (t 3)) 50 true, og 52 (.ld1 (t 51)) 50 true,
  og 53 (.arith .leq (t 52) (n 3)) 50 true, o 54 (.pick (t 50) (t 53) ff), m 4 54]] (.ret)⟩
theorem A161_ok : XOk Tryz.prog ITS 161 A161 := ⟨Tryz.f161, Tryz.func161, by kernel_rfl, by decide, by kernel_rfl, its_nil (by kernel_rfl)⟩

/- slices.Clone[[]widgetry/api.Constraint,widgetry/api.Constraint] -/
def A162 : AFn := ⟨8, [.tmp 2], q [r [mv 2 (.const (.nilsl))], q [r [m 3 0, o 4 (.eqn .sl false (t 3) (.const (.nilsl)))]] (.cond (t 4) (q [r [mv 2 (.const (.nilsl))]] (.ret)) (sk)),
  r [o 5 (.buildSl 5 0 [] []), m 6 0, o 7 (.app 5 40 (t 5) (t 6)), m 2 7]] (.ret)⟩
theorem A162_ok : XOk Tryz.prog ITS 162 A162 := ⟨Tryz.f162, Tryz.func162, by kernel_rfl, by decide, by kernel_rfl, its_nil (by kernel_rfl)⟩

/- slices.Concat[[]widgetry/constraint.bound,widgetry/constraint.bound] -/
def A163 : AFn := ⟨36, [.tmp 2], q [r [mv 2 (.const (.nilsl))], r [mv 3 (n 0)], q [r [m 9 0, le 10 9, mv 11 (n 0)]] (.block 0 (.loop (q [r [ar 12 .lss (t 11) (t 10)], .cond (t 12) (sk) (.exit 0),
  .block 1 (q [r [ia 13 1 9 (t 11), l 14 13, m 5 14], r [m 15 3, m 16 5, le 17 16, ar 18 .add (t 15) (t 17), m 3 18], r [m 19 3, ar 20 .lss (t 19) (n 0)]] (.cond (t 20) (r [o 21 (.stuck),
  on (.stuck)]) (sk)))] (r [ar 22 .add (t 11) (n 1), m 11 22])))), r [m 23 3, c 24 209 [.const (.nilsl), t 23], m 6 24], q [r [m 25 0, le 26 25, mv 27 (n 0)]] (.block 2 (.loop (q [r [ar 28 .lss (t 27) (t 26)],
  .cond (t 28) (sk) (.exit 2), .block 3 (q [r [ia 29 1 25 (t 27), l 30 29, m 8 30]] (r [m 31 6, m 32 8, o 33 (.app 3 24 (t 31) (t 32)), m 6 33]))] (r [ar 34 .add (t 27) (n 1),
  m 27 34])))), r [m 35 6, m 2 35]] (.ret)⟩
theorem A163_ok : XOk Tryz.prog ITS 163 A163 := ⟨Tryz.f163, Tryz.func163, by kernel_rfl, by decide, by kernel_rfl, its_nil (by kernel_rfl)⟩

/- widgetry/constraint.bounds -/
def A164 : AFn := ⟨37, [.tmp 2], q [r [o 1 (.box (t 0)), mv 2 (.const (.nilsl))], r [fa 5 1 1, l 6 5, ar 7 .add (t 6) (n 1), fa 8 0 1, l 9 8, ar 10 .add (t 9) (n 1), fa 11 3 1, l 12 11,
  o 13 (.build [.int .i64 0, .int .i64 0, .int .i64 0] [(0, 1, .tmp 7), (1, 1, .tmp 10), (2, 1, .tmp 12)]), o 3 (.new [.int .i64 0, .int .i64 0, .int .i64 0]),
  s 3 3 13], r [fa 14 0 1, l 15 14, ar 16 .add (t 15) (n 1), fa 17 1 1, l 18 17, ar 19 .add (t 18) (n 1), fa 20 3 1, l 21 20, o 22 (.un .neg (t 21)), o 23 (.build [.int .i64 0,
  .int .i64 0, .int .i64 0] [(0, 1, .tmp 16), (1, 1, .tmp 19), (2, 1, .tmp 22)]), o 4 (.new [.int .i64 0, .int .i64 0, .int .i64 0]), s 3 4 23], q [r [fa 24 2 1,
  l 25 24]] (.block 0 (q [r [ar 27 .eql (t 25) (n 0), m 26 27]] (.cond (t 26) (q [r [ln 28 3 3, o 29 (.buildSl 3 1 [.int .i64 0, .int .i64 0, .int .i64 0] [(0,
  3, .tmp 28)]), m 2 29]] (.ret)) (q [r [ar 31 .eql (t 25) (n 1), m 30 31]] (.cond (t 30) (q [r [ln 32 3 4, o 33 (.buildSl 3 1 [.int .i64 0, .int .i64 0,
  .int .i64 0] [(0, 3, .tmp 32)]), m 2 33]] (.ret)) (sk)))))), r [ln 34 3 3, ln 35 3 4, o 36 (.buildSl 3 2 [.int .i64 0, .int .i64 0, .int .i64 0, .int .i64 0,
  .int .i64 0, .int .i64 0] [(0, 3, .tmp 34), (3, 3, .tmp 35)]), m 2 36]] (.ret)⟩
theorem A164_ok : XOk Tryz.prog ITS 164 A164 := ⟨Tryz.f164, Tryz.func164, by kernel_rfl, by decide, by kernel_rfl, its_nil (by kernel_rfl)⟩

/- widgetry/constraint.raise -/
def A165 : AFn := ⟨58, [.tmp 4, .tmp 5], q [r [mv 4 (.const (.nilsl)), mv 5 ff], r [m 11 0, c 12 166 [t 11], m 0 12], r [mv 6 (n 0)]] (.block 0 (.loop (q [.block 1 (q [r [mv 7 ff], q [r [m 15 1,
  le 16 15, mv 17 (n 0)]] (.block 2 (.loop (q [r [ar 18 .lss (t 17) (t 16)], .cond (t 18) (sk) (.exit 2), .block 3 (q [r [ia 19 3 15 (t 17), ln 20 3 19,
  o 9 (.new [.int .i64 0, .int .i64 0, .int .i64 0]), s 3 9 20], d [(m 21 0, 0), (fa 22 0 9, 0), (l 23 22, 2), (ia 24 1 21 (t 23), 7), (l 25 24, 15), (fa 26 2 9,
  0), (l 27 26, 32), (ar 28 .add (t 25) (t 27), 127), (m 10 28, 255)], r [m 29 10, m 30 0, fa 31 1 9, l 32 31, ia 33 1 30 (t 32), l 34 33, ar 35 .gtr (t 29) (t 34)]] (.cond (t 35) (q [r [m 36 0,
  fa 37 1 9, l 38 37, m 39 10, ia 40 1 36 (t 38), s 1 40 39]] (r [mv 7 tt])) (sk)))] (r [ar 41 .add (t 17) (n 1), m 17 41])))), q [r [m 42 0, ia 43 1 42 (n 0),
  l 44 43, ar 45 .gtr (t 44) (n 0), m 46 45, og 47 (.mov (t 0)) 46 false, og 48 (.call (fn 210) [t 47]) 46 false, og 49 (.arith .gtr (t 48) (n 1048576)) 46 false,
  o 50 (.pick (t 46) tt (t 49))]] (.cond (t 50) (q [r [mv 4 (.const (.nilsl)), mv 5 ff]] (.ret)) (sk)), q [r [m 51 7, o 52 (.un .not (t 51))]] (.cond (t 52) (q [r [m 53 0,
  m 4 53, mv 5 tt]] (.ret)) (sk)), r [m 54 6, m 55 0, le 56 55, ar 57 .gtr (t 54) (t 56)]] (.cond (t 57) (q [r [mv 4 (.const (.nilsl)), mv 5 ff]] (.ret)) (sk)))] (r [m 13 6,
  ar 14 .add (t 13) (n 1), m 6 14]))))⟩
theorem A165_ok : XOk Tryz.prog ITS 165 A165 := ⟨Tryz.f165, Tryz.func165, by kernel_rfl, by decide, by kernel_rfl, its_nil (by kernel_rfl)⟩

/- slices.Clone[[]int,int] -/
def A166 : AFn := ⟨8, [.tmp 2], q [r [mv 2 (.const (.nilsl))], q [r [m 3 0, o 4 (.eqn .sl false (t 3) (.const (.nilsl)))]] (.cond (t 4) (q [r [mv 2 (.const (.nilsl))]] (.ret)) (sk)),
  r [o 5 (.buildSl 1 0 [] []), m 6 0, o 7 (.app 1 8 (t 5) (t 6)), m 2 7]] (.ret)⟩
theorem A166_ok : XOk Tryz.prog ITS 166 A166 := ⟨Tryz.f166, Tryz.func166, by kernel_rfl, by decide, by kernel_rfl, its_nil (by kernel_rfl)⟩

/- widgetry/box.valid -/
def A167 : AFn := ⟨53, [.tmp 6], q [r [mv 6 (n 0)], q [r [m 9 2, le 10 9, ar 11 .gtr (t 10) (n 100)]] (.cond (t 11) (q [r [mv 6 (n 2)]] (.ret)) (sk)), q [r [m 12 0, m 13 1, o 14 (.buildSl 1 2 [.int .i64 0,
  .int .i64 0] [(0, 1, .tmp 12), (1, 1, .tmp 13)]), c 15 150 [t 14], o 16 (.un .not (t 15))]] (.cond (t 16) (q [r [mv 6 (n 1)]] (.ret)) (sk)), q [r [m 17 2,
  le 18 17, mv 19 (n 0)]] (.block 0 (.loop (q [r [ar 20 .lss (t 19) (t 18)], .cond (t 20) (sk) (.exit 0), .block 1 (q [r [ia 21 5 17 (t 19), ln 22 5 21,
  o 8 (.new [.int .i64 0, .int .i64 0, .int .i64 0, .int .i64 0, .int .i64 0]), s 5 8 22], r [fa 23 0 8, l 24 23, fa 25 1 8, l 26 25, fa 27 2 8, l 28 27,
  o 29 (.buildSl 1 3 [.int .i64 0, .int .i64 0, .int .i64 0] [(0, 1, .tmp 24), (1, 1, .tmp 26), (2, 1, .tmp 28)]), c 30 150 [t 29], o 31 (.un .not (t 30)),
  m 32 31, og 33 (.fldA 3 (t 8)) 32 false, og 34 (.ld1 (t 33)) 32 false, og 35 (.arith .lss (t 34) (n 0)) 32 false, o 36 (.pick (t 32) tt (t 35)), m 37 36,
  og 38 (.fldA 3 (t 8)) 37 false, og 39 (.ld1 (t 38)) 37 false, og 40 (.arith .gtr (t 39) (n 1000)) 37 false, o 41 (.pick (t 37) tt (t 40)), m 42 41, og 43 (.fldA 4 (t 8)) 42 false,
  og 44 (.ld1 (t 43)) 42 false, og 45 (.arith .lss (t 44) (n 0)) 42 false, o 46 (.pick (t 42) tt (t 45)), m 47 46, og 48 (.fldA 4 (t 8)) 47 false, og 49 (.ld1 (t 48)) 47 false,
  og 50 (.arith .gtr (t 49) (n 1000)) 47 false, o 51 (.pick (t 47) tt (t 50))]] (.cond (t 51) (q [r [mv 6 (n 1)]] (.ret)) (sk)))] (r [ar 52 .add (t 19) (n 1),
  m 19 52])))), r [mv 6 (n 0)]] (.ret)⟩
theorem A167_ok : XOk Tryz.prog ITS 167 A167 := ⟨Tryz.f167, Tryz.func167, by kernel_rfl, by decide, by kernel_rfl, its_nil (by kernel_rfl)⟩

/- (*widgetry/box.line).clamp -/
def A168 : AFn := ⟨25, [.tmp 6], q [r [mv 6 (n 0)], d [(m 7 2, 0), (m 8 0, 0), (o 9 (.nilchk (t 8)), 2), (fa 10 0 9, 6), (l 11 10, 14), (m 12 1, 0), (ia 13 5 11 (t 12), 62), (fa 14 1 13,
  126), (l 15 14, 254), (m 16 0, 0), (o 17 (.nilchk (t 16)), 512), (fa 18 0 17, 1536), (l 19 18, 3584), (m 20 1, 0), (ia 21 5 19 (t 20), 15872), (fa 22 2 21,
  32256), (l 23 22, 65024), (c 24 91 [t 7, t 15, t 23], 131071), (m 6 24, 262143)]] (.ret)⟩
theorem A168_ok : XOk Tryz.prog ITS 168 A168 := ⟨Tryz.f168, Tryz.func168, by kernel_rfl, by decide, by kernel_rfl, its_nil (by kernel_rfl)⟩

/- slices.Contains[[]bool,bool] -/
def A169 : AFn := ⟨9, [.tmp 4], q [r [mv 4 ff], r [m 5 0, m 6 1, c 7 211 [t 5, t 6], ar 8 .geq (t 7) (n 0), m 4 8]] (.ret)⟩
theorem A169_ok : XOk Tryz.prog ITS 169 A169 := ⟨Tryz.f169, Tryz.func169, by kernel_rfl, by decide, by kernel_rfl, its_nil (by kernel_rfl)⟩

/- slices.order2CmpFunc[widgetry/api.Box] -/
def A171 : AFn := ⟨32, [.tmp 10, .tmp 11], q [r [mv 10 (n 0), mv 11 (n 0)], q [d [(m 12 4, 0), (m 13 0, 0), (m 14 2, 0), (ia 15 7 13 (t 14), 6), (ln 16 7 15, 14), (m 17 0, 0), (m 18 1, 0), (ia 19 7 17 (t 18),
  96), (ln 20 7 19, 224), (o 21 (.call (t 12) [t 16, t 20]), 511), (ar 22 .lss (t 21) (n 0), 1023)]] (.cond (t 22) (q [r [m 23 3, o 24 (.nilchk (t 23)),
  l 25 24, ar 26 .add (t 25) (n 1), o 27 (.nilchk (t 23)), s 1 27 26], r [m 28 2, m 29 1, m 10 28, m 11 29]] (.ret)) (sk)), r [m 30 1, m 31 2, m 10 30, m 11 31]] (.ret)⟩
theorem A171_ok : XOk Tryz.prog ITS 171 A171 := ⟨Tryz.f171, Tryz.func171, by kernel_rfl, by decide, by kernel_rfl, its_nil (by kernel_rfl)⟩

/- widgetry/widgetryref01.Round -/
def A173 : AFn := ⟨52, [.tmp 4], q [r [mv 4 (n 0)], q [r [m 7 1, ar 8 .eql (t 7) (n 0), m 9 8, og 10 (.mov (t 0)) 9 false, og 11 (.arith .lss (t 10) (n (-1152921504606846976))) 9 false,
  o 12 (.pick (t 9) tt (t 11)), m 13 12, og 14 (.mov (t 0)) 13 false, og 15 (.arith .gtr (t 14) (n 1152921504606846976)) 13 false, o 16 (.pick (t 13) tt (t 15)),
  m 17 16, og 18 (.mov (t 1)) 17 false, og 19 (.arith .lss (t 18) (n (-1152921504606846976))) 17 false, o 20 (.pick (t 17) tt (t 19)), m 21 20, og 22 (.mov (t 1)) 21 false,
  og 23 (.arith .gtr (t 22) (n 1152921504606846976)) 21 false, o 24 (.pick (t 21) tt (t 23))]] (.cond (t 24) (q [r [mv 4 (n 0)]] (.ret)) (sk)), q [r [m 25 1,
  ar 26 .lss (t 25) (n 0)]] (.cond (t 26) (r [m 27 0, o 28 (.un .neg (t 27)), m 29 1, o 30 (.un .neg (t 29)), m 0 28, m 1 30]) (sk)), r [m 31 0, m 32 1,
  ar 33 .quo (t 31) (t 32), m 5 33], r [m 34 0, m 35 1, ar 36 .rem (t 34) (t 35), m 6 36], q [r [m 37 6, ar 38 .lss (t 37) (n 0)]] (.cond (t 38) (r [m 39 5,
  ar 40 .sub (t 39) (n 1), m 41 6, m 42 1, ar 43 .add (t 41) (t 42), m 5 40, m 6 43]) (sk)), q [r [m 44 6, m 45 1, m 46 6, ar 47 .sub (t 45) (t 46), ar 48 .geq (t 44) (t 47)]] (.cond (t 48) (r [m 49 5,
  ar 50 .add (t 49) (n 1), m 5 50]) (sk)), r [m 51 5, m 4 51]] (.ret)⟩
theorem A173_ok : XOk Tryz.prog ITS 173 A173 := ⟨Tryz.f173, Tryz.func173, by kernel_rfl, by decide, by kernel_rfl, its_nil (by kernel_rfl)⟩

/- widgetry/widgetryref11.UTF8 -/
def A174 : AFn := ⟨8, [.tmp 2], q [r [mv 2 ff], r [m 3 0, o 4 (.xo .s2r [t 3]), o 5 (.xo .r2s [t 4]), m 6 0, ar 7 .eql (t 5) (t 6), m 2 7]] (.ret)⟩
theorem A174_ok : XOk Tryz.prog ITS 174 A174 := ⟨Tryz.f174, Tryz.func174, by kernel_rfl, by decide, by kernel_rfl, its_nil (by kernel_rfl)⟩

/- widgetry/view.preorder -/
def A176 : AFn := ⟨26, [.tmp 4], q [r [mv 4 (.const (.nilsl))], r [m 8 1, o 9 (.buildSl 1 1 [.int .i64 0] [(0, 1, .tmp 8)]), m 5 9], q [r [m 10 0, m 11 1, o 12 (.xo (.mapget (.one (.int .i64)) false (.agg [.int .i64 0,
  .int .i64 0, .int .i64 0, .str [], .nilsl, .nilsl, .nilsl])) [t 10, t 11]), o 13 (.fld 6 none (t 12)), le 14 13, mv 15 (n 0)]] (.block 0 (.loop (q [r [ar 16 .lss (t 15) (t 14)],
  .cond (t 16) (sk) (.exit 0), .block 1 (q [r [ia 17 1 13 (t 15), l 18 17, m 7 18]] (r [m 19 5, m 20 0, m 21 7, c 22 176 [t 20, t 21], o 23 (.app 1 8 (t 19) (t 22)),
  m 5 23]))] (r [ar 24 .add (t 15) (n 1), m 15 24])))), r [m 25 5, m 4 25]] (.ret)⟩
theorem A176_ok : XOk Tryz.prog ITS 176 A176 := ⟨Tryz.f176, Tryz.func176, by kernel_rfl, by decide, by kernel_rfl, its_nil (by kernel_rfl)⟩

/- widgetry/view.validate -/
def A177 : AFn := ⟨108, [.tmp 6], q [r [o 3 (.box (t 0)), mv 6 (n 0)], r [m 15 2, o 16 (.nilchk (t 15)), l 17 16, ar 18 .add (t 17) (n 1), o 19 (.nilchk (t 15)), s 1 19 18], .block 0 (q [r [m 21 1,
  ar 22 .gtr (t 21) (n 16), m 20 22]] (.cond (t 20) (q [r [mv 6 (n 8)]] (.ret)) (q [r [m 24 2, o 25 (.nilchk (t 24)), l 26 25, ar 27 .gtr (t 26) (n 400),
  m 23 27]] (.cond (t 23) (q [r [mv 6 (n 2)]] (.ret)) (q [r [fa 29 0 3, l 30 29, ar 31 .lss (t 30) (n 1), m 32 31, og 33 (.fldA 0 (t 3)) 32 false, og 34 (.ld1 (t 33)) 32 false,
  og 35 (.arith .gtr (t 34) (n 13)) 32 false, o 36 (.pick (t 32) tt (t 35)), m 28 36]] (.cond (t 28) (q [r [mv 6 (n 9)]] (.ret)) (q [r [fa 38 1 3, l 39 38,
  c 40 213 [t 39], o 41 (.un .not (t 40)), m 37 41]] (.cond (t 37) (q [r [mv 6 (n 4)]] (.ret)) (q [r [fa 43 2 3, l 44 43, le 45 44, ar 46 .gtr (t 45) (n 24),
  m 47 46, og 48 (.fldA 3 (t 3)) 47 false, og 49 (.ld1 (t 48)) 47 false, og 50 (.len (t 49)) 47 false, og 51 (.arith .gtr (t 50) (n 24)) 47 false, o 52 (.pick (t 47) tt (t 51)),
  m 53 52, og 54 (.fldA 4 (t 3)) 53 false, og 55 (.ld1 (t 54)) 53 false, og 56 (.len (t 55)) 53 false, og 57 (.arith .gtr (t 56) (n 100)) 53 false, o 58 (.pick (t 53) tt (t 57)),
  m 42 58]] (.cond (t 42) (q [r [mv 6 (n 2)]] (.ret)) (sk))))))))))), q [r [fa 59 2 3, l 60 59, c 61 214 [t 60], m 7 61], r [m 62 7, ar 63 .neq (t 62) (n 0)]] (.cond (t 63) (q [r [m 64 7,
  m 6 64]] (.ret)) (sk)), q [r [fa 65 3 3, l 66 65, c 67 215 [t 66], m 8 67], r [m 68 8, ar 69 .neq (t 68) (n 0)]] (.cond (t 69) (q [r [m 70 8, m 6 70]] (.ret)) (sk)),
  r [o 71 (.xo .mkmap []), m 9 71], q [r [fa 72 4 3, l 73 72, le 74 73, mv 75 (n 0)]] (.block 1 (.loop (q [r [ar 76 .lss (t 75) (t 74)], .cond (t 76) (sk) (.exit 1),
  .block 2 (q [r [ia 77 5 73 (t 75), ln 78 5 77, o 11 (.new [.int .i64 0, .str [], .nilsl, .nilsl, .nilsl]), s 5 11 78], q [r [fa 79 1 11, l 80 79, ar 81 .neq (t 80) (.const (.str [])),
  m 82 81, og 83 (.mov (t 9)) 82 true, og 84 (.fldA 1 (t 11)) 82 true, og 85 (.ld1 (t 84)) 82 true, og 86 (.xo (.mapget (.one .str) false (.bool false)) [t 83,
  t 85]) 82 true, o 87 (.pick (t 82) (t 86) ff)]] (.cond (t 87) (q [r [mv 6 (n 6)]] (.ret)) (sk))] (r [m 88 9, fa 89 1 11, l 90 89, on (.xo (.mapset (.one .str)) [t 88,
  t 90, tt])]))] (r [ar 91 .add (t 75) (n 1), m 75 91])))), q [r [fa 92 4 3, l 93 92, le 94 93, mv 95 (n 0)]] (.block 3 (.loop (q [r [ar 96 .lss (t 95) (t 94)],
  .cond (t 96) (sk) (.exit 3), .block 4 (q [r [ia 97 5 93 (t 95), ln 98 5 97, o 13 (.new [.int .i64 0, .str [], .nilsl, .nilsl, .nilsl]), s 5 13 98], r [ln 99 5 13,
  m 100 1, ar 101 .add (t 100) (n 1), m 102 2, c 103 177 [t 99, t 101, t 102], m 14 103], r [m 104 14, ar 105 .neq (t 104) (n 0)]] (.cond (t 105) (q [r [m 106 14,
  m 6 106]] (.ret)) (sk)))] (r [ar 107 .add (t 95) (n 1), m 95 107])))), r [mv 6 (n 0)]] (.ret)⟩
theorem A177_ok : XOk Tryz.prog ITS 177 A177 := ⟨Tryz.f177, Tryz.func177, by kernel_rfl, by decide, by kernel_rfl, its_nil (by kernel_rfl)⟩

/- widgetry/view.value -/
def A180 : AFn := ⟨8, [.cell 2 (some 4)], q [r [o 1 (.box (t 0)), o 2 (.new [.int .i64 0, .int .i64 0, .str [], .nilsl])], r [fa 3 3 1, l 4 3, c 5 217 [t 4], fa 6 3 1, s 1 6 5], r [ln 7 4 1, s 4 2 7]] (.ret)⟩
theorem A180_ok : XOk Tryz.prog ITS 180 A180 := ⟨Tryz.f180, Tryz.func180, by kernel_rfl, by decide, by kernel_rfl, its_nil (by kernel_rfl)⟩

/- widgetry/linebreak.classify -/
def A181 : AFn := ⟨88, [.cell 2 (some 3)], q [r [o 2 (.new [.nilsl, .nilsl, .nilsl])], d [(m 8 0, 0), (le 9 8, 1), (o 10 (.mksl 1 8 [.int .i64 0] (t 9) (t 9)), 3), (m 11 0, 0), (le 12 11, 8), (o 13 (.mksl 1 8 [.int .i64 0] (t 12) (t 12)),
  24), (m 14 0, 0), (le 15 14, 64), (ar 16 .add (t 15) (n 1), 192), (o 17 (.mksl 1 1 [.bool false] (t 16) (t 16)), 448), (o 18 (.build [.nilsl, .nilsl, .nilsl] [(0,
  1, .tmp 10), (1, 1, .tmp 13), (2, 1, .tmp 17)]), 1023), (o 3 (.new [.nilsl, .nilsl, .nilsl]), 0), (s 3 3 18, 4095)], q [r [m 19 0, c 20 133 [t 19], le 21 20,
  mv 22 (n 0)]] (.block 0 (.loop (q [r [ar 23 .lss (t 22) (t 21)], .cond (t 23) (sk) (.exit 0), .block 1 (q [r [ia 24 1 20 (t 22), l 25 24, m 5 25]] (r [fa 26 2 3,
  l 27 26, m 28 5, ia 29 1 27 (t 28), sv 1 29 tt]))] (r [ar 30 .add (t 22) (n 1), m 22 30])))), q [r [m 31 0, le 32 31, mv 33 (n 0)]] (.block 2 (.loop (q [r [ar 34 .lss (t 33) (t 32)],
  .cond (t 34) (sk) (.exit 2), .block 3 (q [r [m 35 33, ia 36 1 31 (t 33), l 37 36, m 6 35, m 7 37], d [(fa 38 0 3, 0), (l 39 38, 1), (m 40 6, 0), (m 41 7,
  0), (c 42 188 [t 41], 8), (ia 43 1 39 (t 40), 31), (s 1 43 42, 63)], d [(fa 44 1 3, 0), (l 45 44, 1), (m 46 6, 0), (fa 47 0 3, 0), (l 48 47, 8), (m 49 6,
  0), (ia 50 1 48 (t 49), 56), (l 51 50, 120), (ia 52 1 45 (t 46), 255), (s 1 52 51, 511)], q [r [fa 53 0 3, l 54 53, m 55 6, ia 56 1 54 (t 55), l 57 56,
  c 58 218 [t 57], o 59 (.un .not (t 58))]] (.cond (t 59) (.exit 3) (sk)), r [fa 60 1 3, l 61 60, m 62 6, ia 63 1 61 (t 62), sv 1 63 (n 0)], r [m 64 6, ar 65 .gtr (t 64) (n 0),
  m 66 65, og 67 (.fldA 1 (t 3)) 66 true, og 68 (.ld1 (t 67)) 66 true, og 69 (.mov (t 6)) 66 true, og 70 (.arith .sub (t 69) (n 1)) 66 true, og 71 (.idxA 1 (t 68) (t 70)) 66 true,
  og 72 (.ld1 (t 71)) 66 true, og 73 (.call (fn 219) [t 72]) 66 true, og 74 (.un .not (t 73)) 66 true, o 75 (.pick (t 66) (t 74) ff)]] (.cond (t 75) (d [(fa 76 1 3,
  0), (l 77 76, 1), (m 78 6, 0), (fa 79 1 3, 0), (l 80 79, 8), (m 81 6, 0), (ar 82 .sub (t 81) (n 1), 32), (ia 83 1 80 (t 82), 120), (l 84 83, 248), (ia 85 1 77 (t 78),
  511), (s 1 85 84, 1023)]) (sk)))] (r [ar 86 .add (t 33) (n 1), m 33 86])))), r [ln 87 3 3, s 3 2 87]] (.ret)⟩
theorem A181_ok : XOk Tryz.prog ITS 181 A181 := ⟨Tryz.f181, Tryz.func181, by kernel_rfl, by decide, by kernel_rfl, its_nil (by kernel_rfl)⟩

/- (widgetry/linebreak.scan).before -/
def A182 : AFn := ⟨175, [.tmp 4], q [r [o 2 (.box (t 0)), mv 4 (n 0)], d [(fa 8 1 2, 0), (l 9 8, 1), (m 10 1, 0), (ar 11 .sub (t 10) (n 1), 4), (ia 12 1 9 (t 11), 15), (l 13 12, 31), (fa 14 1 2,
  0), (l 15 14, 64), (m 16 1, 0), (ia 17 1 15 (t 16), 448), (l 18 17, 960), (m 5 13, 63), (m 6 18, 4095)], r [mv 7 (fn 220)], .block 0 (q [r [m 20 5, ar 21 .eql (t 20) (n 2),
  m 22 21, og 23 (.mov (t 6)) 22 true, og 24 (.arith .eql (t 23) (n 3)) 22 true, o 25 (.pick (t 22) (t 24) ff), m 19 25]] (.cond (t 19) (q [r [mv 4 (n 0)]] (.ret)) (q [r [m 27 7,
  m 28 5, o 29 (.buildSl 1 3 [.int .i64 0, .int .i64 0, .int .i64 0] [(0, 1, .const (.int .i64 1)), (1, 1, .const (.int .i64 3)), (2, 1, .const (.int .i64 2))]),
  o 30 (.call (t 27) [t 28, t 29]), m 26 30]] (.cond (t 26) (q [r [mv 4 (n 2)]] (.ret)) (q [r [m 32 7, m 33 6, o 34 (.buildSl 1 5 [.int .i64 0, .int .i64 0,
  .int .i64 0, .int .i64 0, .int .i64 0] [(0, 1, .const (.int .i64 1)), (1, 1, .const (.int .i64 2)), (2, 1, .const (.int .i64 3)), (3, 1, .const (.int .i64 4)),
  (4, 1, .const (.int .i64 5))]), o 35 (.call (t 32) [t 33, t 34]), m 31 35]] (.cond (t 31) (q [r [mv 4 (n 0)]] (.ret)) (q [r [fa 37 2 2, l 38 37, m 39 1,
  ia 40 1 38 (t 39), l 41 40, o 42 (.un .not (t 41)), m 36 42]] (.cond (t 36) (q [r [mv 4 (n 0)]] (.ret)) (q [r [ln 44 3 2, m 45 1, c 46 221 [t 44, t 45,
  n 5], m 43 46]] (.cond (t 43) (q [r [mv 4 (n 1)]] (.ret)) (q [r [fa 48 0 2, l 49 48, m 50 1, ar 51 .sub (t 50) (n 1), ia 52 1 49 (t 51), l 53 52, ar 54 .eql (t 53) (n 6),
  m 47 54]] (.cond (t 47) (q [r [mv 4 (n 0)]] (.ret)) (q [r [fa 56 0 2, l 57 56, m 58 1, ia 59 1 57 (t 58), l 60 59, c 61 218 [t 60], m 62 61, og 63 (.mov (t 5)) 62 true,
  og 64 (.call (fn 219) [t 63]) 62 true, og 65 (.un .not (t 64)) 62 true, o 66 (.pick (t 62) (t 65) ff), m 55 66]] (.cond (t 55) (q [r [mv 4 (n 0)]] (.ret)) (q [q [r [m 68 5,
  ar 69 .eql (t 68) (n 8), m 67 69]] (.cond (t 67) (sk) (q [r [m 70 6, ar 71 .eql (t 70) (n 8), m 67 71]] (.cond (t 67) (sk) (r [m 72 5, ar 73 .eql (t 72) (n 9),
  m 67 73]))))] (.cond (t 67) (q [r [mv 4 (n 0)]] (.ret)) (q [r [m 75 6, ar 76 .eql (t 75) (n 9), m 77 76, og 78 (.mov (t 7)) 77 true, og 79 (.mov (t 5)) 77 true,
  og 80 (.buildSl 1 3 [.int .i64 0, .int .i64 0, .int .i64 0] [(0, 1, .const (.int .i64 4)), (1, 1, .const (.int .i64 10)), (2, 1, .const (.int .i64 11))]) 77 true,
  og 81 (.call (t 78) [t 79, t 80]) 77 true, og 82 (.un .not (t 81)) 77 true, o 83 (.pick (t 77) (t 82) ff), m 74 83]] (.cond (t 74) (q [r [mv 4 (n 0)]] (.ret)) (q [r [m 85 7,
  m 86 6, o 87 (.buildSl 1 3 [.int .i64 0, .int .i64 0, .int .i64 0] [(0, 1, .const (.int .i64 13)), (1, 1, .const (.int .i64 15)), (2, 1, .const (.int .i64 16))]),
  o 88 (.call (t 85) [t 86, t 87]), m 84 88]] (.cond (t 84) (q [r [mv 4 (n 0)]] (.ret)) (q [q [r [ln 90 3 2, m 91 1, c 92 221 [t 90, t 91, n 12], m 89 92]] (.cond (t 89) (sk) (r [m 93 6,
  ar 94 .eql (t 93) (n 12), m 95 94, og 96 (.ldn 3 (t 2)) 95 true, og 97 (.mov (t 1)) 95 true, og 98 (.call (fn 221) [t 96, t 97, n 14]) 95 true, o 99 (.pick (t 95) (t 98) ff),
  m 89 99]))] (.cond (t 89) (q [r [mv 4 (n 0)]] (.ret)) (q [r [m 101 5, ar 102 .eql (t 101) (n 4), m 100 102]] (.cond (t 100) (q [r [mv 4 (n 1)]] (.ret)) (q [q [r [m 104 5,
  ar 105 .eql (t 104) (n 14), m 103 105]] (.cond (t 103) (sk) (q [r [m 106 6, ar 107 .eql (t 106) (n 14), m 103 107]] (.cond (t 103) (sk) (q [r [m 108 6,
  ar 109 .eql (t 108) (n 10), m 103 109]] (.cond (t 103) (sk) (r [m 110 6, ar 111 .eql (t 110) (n 11), m 103 111]))))))] (.cond (t 103) (q [r [mv 4 (n 0)]] (.ret)) (q [q [r [m 113 5,
  ar 114 .eql (t 113) (n 0), m 115 114, og 116 (.mov (t 6)) 115 true, og 117 (.arith .eql (t 116) (n 17)) 115 true, o 118 (.pick (t 115) (t 117) ff), m 112 118]] (.cond (t 112) (sk) (r [m 119 5,
  ar 120 .eql (t 119) (n 17), m 121 120, og 122 (.mov (t 6)) 121 true, og 123 (.arith .eql (t 122) (n 0)) 121 true, o 124 (.pick (t 121) (t 123) ff), m 112 124]))] (.cond (t 112) (q [r [mv 4 (n 0)]] (.ret)) (q [r [m 126 7,
  m 127 5, o 128 (.buildSl 1 3 [.int .i64 0, .int .i64 0, .int .i64 0] [(0, 1, .const (.int .i64 17)), (1, 1, .const (.int .i64 11)), (2, 1, .const (.int .i64 16))]),
  o 129 (.call (t 126) [t 127, t 128]), m 130 129, og 131 (.mov (t 6)) 130 true, og 132 (.arith .eql (t 131) (n 17)) 130 true, o 133 (.pick (t 130) (t 132) ff),
  m 125 133]] (.cond (t 125) (q [r [mv 4 (n 0)]] (.ret)) (q [r [m 135 7, m 136 5, o 137 (.buildSl 1 2 [.int .i64 0, .int .i64 0] [(0, 1, .const (.int .i64 0)),
  (1, 1, .const (.int .i64 16))]), o 138 (.call (t 135) [t 136, t 137]), m 139 138, og 140 (.mov (t 6)) 139 true, og 141 (.arith .eql (t 140) (n 0)) 139 true,
  o 142 (.pick (t 139) (t 141) ff), m 134 142]] (.cond (t 134) (q [r [mv 4 (n 0)]] (.ret)) (q [r [m 144 7, m 145 5, o 146 (.buildSl 1 2 [.int .i64 0, .int .i64 0] [(0,
  1, .const (.int .i64 0)), (1, 1, .const (.int .i64 17))]), o 147 (.call (t 144) [t 145, t 146]), m 148 147, og 149 (.mov (t 6)) 148 true, og 150 (.arith .eql (t 149) (n 12)) 148 true,
  o 151 (.pick (t 148) (t 150) ff), m 143 151]] (.cond (t 143) (q [r [mv 4 (n 0)]] (.ret)) (q [r [m 153 5, ar 154 .eql (t 153) (n 13), m 155 154, og 156 (.mov (t 7)) 155 true,
  og 157 (.mov (t 6)) 155 true, og 158 (.buildSl 1 2 [.int .i64 0, .int .i64 0] [(0, 1, .const (.int .i64 0)), (1, 1, .const (.int .i64 17))]) 155 true,
  og 159 (.call (t 156) [t 157, t 158]) 155 true, o 160 (.pick (t 155) (t 159) ff), m 152 160]] (.cond (t 152) (q [r [mv 4 (n 0)]] (.ret)) (q [r [fa 162 0 2,
  l 163 162, m 164 1, ia 165 1 163 (t 164), l 166 165, ar 167 .eql (t 166) (n 19), m 168 167, og 169 (.ldn 3 (t 2)) 168 true, og 170 (.mov (t 1)) 168 true,
  og 171 (.call (fn 222) [t 169, t 170]) 168 true, og 172 (.arith .rem (t 171) (n 2)) 168 true, og 173 (.arith .eql (t 172) (n 1)) 168 true, o 174 (.pick (t 168) (t 173) ff),
  m 161 174]] (.cond (t 161) (q [r [mv 4 (n 0)]] (.ret)) (sk))))))))))))))))))))))))))))))))))))))), r [mv 4 (n 1)]] (.ret)⟩
theorem A182_ok : XOk Tryz.prog ITS 182 A182 := ⟨Tryz.f182, Tryz.func182, by kernel_rfl, by decide, by kernel_rfl, its_nil (by kernel_rfl)⟩

/- widgetry/char.Break -/
def A183 : AFn := ⟨7, [.tmp 2], q [r [mv 2 (n 0)], r [m 3 0, c 4 223 [t 3], o 5 (.fld 2 none (t 4)), o 6 (.convI .i64 (t 5)), m 2 6]] (.ret)⟩
theorem A183_ok : XOk Tryz.prog ITS 183 A183 := ⟨Tryz.f183, Tryz.func183, by kernel_rfl, by decide, by kernel_rfl, its_nil (by kernel_rfl)⟩

/- widgetry/segment.parts -/
def A184 : AFn := ⟨125, [.tmp 4], q [r [mv 4 ff], d [(m 9 0, 0), (m 10 1, 0), (ar 11 .sub (t 10) (n 1), 2), (ia 12 1 9 (t 11), 7), (l 13 12, 15), (m 14 0, 0), (m 15 1, 0), (ia 16 1 14 (t 15),
  96), (l 17 16, 224), (m 5 13, 31), (m 6 17, 1023)], .block 0 (q [r [m 19 5, ar 20 .eql (t 19) (n 1), m 21 20, og 22 (.mov (t 6)) 21 true, og 23 (.arith .eql (t 22) (n 2)) 21 true,
  o 24 (.pick (t 21) (t 23) ff), m 18 24]] (.cond (t 18) (q [r [mv 4 ff]] (.ret)) (q [r [m 26 5, c 27 224 [t 26], m 28 27, og 29 (.mov (t 6)) 28 false, og 30 (.call (fn 224) [t 29]) 28 false,
  o 31 (.pick (t 28) tt (t 30)), m 25 31]] (.cond (t 25) (q [r [mv 4 tt]] (.ret)) (q [r [m 33 5, ar 34 .eql (t 33) (n 9), m 35 34, og 36 (.mov (t 6)) 35 true,
  og 37 (.arith .eql (t 36) (n 9)) 35 true, og 38 (.mov (t 37)) 35 true, og 39 (.mov (t 6)) 38 false, og 40 (.arith .eql (t 39) (n 10)) 38 false, og 41 (.pick (t 38) tt (t 40)) 35 true,
  og 42 (.mov (t 41)) 35 true, og 43 (.mov (t 6)) 42 false, og 44 (.arith .eql (t 43) (n 12)) 42 false, og 45 (.pick (t 42) tt (t 44)) 35 true, og 46 (.mov (t 45)) 35 true,
  og 47 (.mov (t 6)) 46 false, og 48 (.arith .eql (t 47) (n 13)) 46 false, og 49 (.pick (t 46) tt (t 48)) 35 true, o 50 (.pick (t 35) (t 49) ff), m 32 50]] (.cond (t 32) (q [r [mv 4 ff]] (.ret)) (q [r [m 52 5,
  ar 53 .eql (t 52) (n 12), m 54 53, og 55 (.mov (t 5)) 54 false, og 56 (.arith .eql (t 55) (n 10)) 54 false, o 57 (.pick (t 54) tt (t 56)), m 58 57, og 59 (.mov (t 6)) 58 true,
  og 60 (.arith .eql (t 59) (n 10)) 58 true, og 61 (.mov (t 60)) 58 true, og 62 (.mov (t 6)) 61 false, og 63 (.arith .eql (t 62) (n 11)) 61 false, og 64 (.pick (t 61) tt (t 63)) 58 true,
  o 65 (.pick (t 58) (t 64) ff), m 51 65]] (.cond (t 51) (q [r [mv 4 ff]] (.ret)) (q [r [m 67 5, ar 68 .eql (t 67) (n 13), m 69 68, og 70 (.mov (t 5)) 69 false,
  og 71 (.arith .eql (t 70) (n 11)) 69 false, o 72 (.pick (t 69) tt (t 71)), m 73 72, og 74 (.mov (t 6)) 73 true, og 75 (.arith .eql (t 74) (n 11)) 73 true,
  o 76 (.pick (t 73) (t 75) ff), m 66 76]] (.cond (t 66) (q [r [mv 4 ff]] (.ret)) (q [r [m 78 6, ar 79 .eql (t 78) (n 4), m 80 79, og 81 (.mov (t 6)) 80 false,
  og 82 (.arith .eql (t 81) (n 5)) 80 false, o 83 (.pick (t 80) tt (t 82)), m 84 83, og 85 (.mov (t 6)) 84 false, og 86 (.arith .eql (t 85) (n 8)) 84 false,
  o 87 (.pick (t 84) tt (t 86)), m 88 87, og 89 (.mov (t 5)) 88 false, og 90 (.arith .eql (t 89) (n 7)) 88 false, o 91 (.pick (t 88) tt (t 90)), m 77 91]] (.cond (t 77) (q [r [mv 4 ff]] (.ret)) (q [r [m 93 6,
  ar 94 .eql (t 93) (n 14), m 95 94, og 96 (.mov (t 0)) 95 true, og 97 (.mov (t 1)) 95 true, og 98 (.call (fn 225) [t 96, t 97]) 95 true, o 99 (.pick (t 95) (t 98) ff),
  m 92 99]] (.cond (t 92) (q [r [mv 4 ff]] (.ret)) (q [r [m 101 5, ar 102 .eql (t 101) (n 6), m 103 102, og 104 (.mov (t 6)) 103 true, og 105 (.arith .eql (t 104) (n 6)) 103 true,
  o 106 (.pick (t 103) (t 105) ff), m 100 106]] (.cond (t 100) (q [r [mv 7 (n 0)], q [r [m 107 1, ar 108 .sub (t 107) (n 1), m 8 108]] (.block 1 (.loop (q [q [r [m 109 8,
  ar 110 .geq (t 109) (n 0), m 111 110, og 112 (.mov (t 0)) 111 true, og 113 (.mov (t 8)) 111 true, og 114 (.idxA 1 (t 112) (t 113)) 111 true, og 115 (.ld1 (t 114)) 111 true,
  og 116 (.arith .eql (t 115) (n 6)) 111 true, o 117 (.pick (t 111) (t 116) ff)]] (.cond (t 117) (sk) (.exit 1)), .block 2 (r [m 120 7, ar 121 .add (t 120) (n 1),
  m 7 121])] (r [m 118 8, ar 119 .sub (t 118) (n 1), m 8 119])))), r [m 122 7, ar 123 .rem (t 122) (n 2), ar 124 .eql (t 123) (n 0), m 4 124]] (.ret)) (sk))))))))))))))))),
  r [mv 4 tt]] (.ret)⟩
theorem A184_ok : XOk Tryz.prog ITS 184 A184 := ⟨Tryz.f184, Tryz.func184, by kernel_rfl, by decide, by kernel_rfl, its_nil (by kernel_rfl)⟩

/- widgetry/shape.Forms -/
def A185 : AFn := ⟨50, [.tmp 2], q [r [mv 2 (.const (.nilsl))], q [r [m 8 0, le 9 8, ar 10 .gtr (t 9) (n 2000)]] (.cond (t 10) (q [r [mv 2 (.const (.nilsl))]] (.ret)) (sk)), r [m 11 0,
  le 12 11, o 13 (.mksl 1 8 [.int .i64 0] (t 12) (t 12)), m 3 13], r [mv 4 (n (-1))], q [r [m 14 0, le 15 14, mv 16 (n 0)]] (.block 0 (.loop (q [r [ar 17 .lss (t 16) (t 15)],
  .cond (t 17) (sk) (.exit 0), .block 1 (q [r [m 18 16, ia 19 1 14 (t 16), l 20 19, m 5 18, m 6 20], r [m 21 6, c 22 226 [t 21], m 7 22], q [r [m 23 7, ar 24 .eql (t 23) (n 4)]] (.cond (t 24) (.exit 1) (sk)),
  q [r [m 25 4, ar 26 .geq (t 25) (n 0), m 27 26, og 28 (.mov (t 0)) 27 true, og 29 (.mov (t 4)) 27 true, og 30 (.idxA 1 (t 28) (t 29)) 27 true, og 31 (.ld1 (t 30)) 27 true,
  og 32 (.call (fn 226) [t 31]) 27 true, og 33 (.call (fn 227) [t 32]) 27 true, o 34 (.pick (t 27) (t 33) ff), m 35 34, og 36 (.mov (t 7)) 35 true, og 37 (.call (fn 228) [t 36]) 35 true,
  o 38 (.pick (t 35) (t 37) ff)]] (.cond (t 38) (q [r [m 39 3, m 40 0, m 41 4, c 42 229 [t 39, t 40, t 41, n 2]]] (r [m 43 3, m 44 0, m 45 5, c 46 229 [t 43,
  t 44, t 45, n 1]])) (sk))] (r [m 47 5, m 4 47]))] (r [ar 48 .add (t 16) (n 1), m 16 48])))), r [m 49 3, m 2 49]] (.ret)⟩
theorem A185_ok : XOk Tryz.prog ITS 185 A185 := ⟨Tryz.f185, Tryz.func185, by kernel_rfl, by decide, by kernel_rfl, its_nil (by kernel_rfl)⟩

/- widgetry/bidi.Base -/
def A186 : AFn := ⟨21, [.tmp 4], q [r [mv 4 (n 0)], q [r [m 6 1, ar 7 .eql (t 6) (n 0), m 8 7, og 9 (.mov (t 1)) 8 false, og 10 (.arith .eql (t 9) (n 1)) 8 false, o 11 (.pick (t 8) tt (t 10))]] (.cond (t 11) (q [r [m 12 1,
  m 4 12]] (.ret)) (sk)), r [m 13 0, c 14 230 [t 13], m 5 14], r [m 15 5, m 16 5, c 17 232 [t 16], m 18 5, le 19 18, c 20 231 [t 15, t 17, n 0, t 19], m 4 20]] (.ret)⟩
theorem A186_ok : XOk Tryz.prog ITS 186 A186 := ⟨Tryz.f186, Tryz.func186, by kernel_rfl, by decide, by kernel_rfl, its_nil (by kernel_rfl)⟩

/- widgetry/bidi.Levels -/
def A187 : AFn := ⟨133, [.tmp 4], q [r [mv 4 (.const (.nilsl))], q [r [m 12 0, le 13 12, ar 14 .gtr (t 13) (n 2000)]] (.cond (t 14) (q [r [mv 4 (.const (.nilsl))]] (.ret)) (sk)), r [m 15 0,
  c 16 230 [t 15], m 5 16], d [(m 19 5, 0), (c 20 166 [t 19], 1), (m 21 5, 0), (c 22 232 [t 21], 7), (m 26 0, 0), (m 27 1, 0), (c 28 186 [t 26, t 27], 63),
  (m 17 0, 0), (m 18 5, 0), (m 23 0, 0), (le 24 23, 512), (o 25 (.mksl 1 8 [.int .i64 0] (t 24) (t 24)), 1536), (o 29 (.build [.nilsl, .nilsl, .nilsl, .nilsl,
  .nilsl, .int .i64 0] [(0, 1, .tmp 17), (1, 1, .tmp 18), (2, 1, .tmp 20), (3, 1, .tmp 22), (4, 1, .tmp 25), (5, 1, .tmp 28)]), 4095), (o 30 (.box (t 29)),
  8191), (m 6 30, 16383)], r [m 31 6, c 32 233 [t 31]], q [r [m 33 6, c 34 234 [t 33], le 35 34, mv 36 (n 0)]] (.block 0 (.loop (q [r [ar 37 .lss (t 36) (t 35)],
  .cond (t 37) (sk) (.exit 0), .block 1 (q [r [ia 38 4 34 (t 36), ln 39 4 38, o 8 (.new [.nilsl, .int .i64 0, .int .i64 0, .int .i64 0]), s 4 8 39], r [m 40 6,
  ln 41 4 8, c 42 235 [t 40, t 41]], r [m 43 6, ln 44 4 8, c 45 236 [t 43, t 44]], r [m 46 6, ln 47 4 8, c 48 237 [t 46, t 47]]] (r [m 49 6, ln 50 4 8, c 51 238 [t 49,
  t 50]]))] (r [ar 52 .add (t 36) (n 1), m 36 52])))), q [r [m 53 0, le 54 53, mv 55 (n 0)]] (.block 2 (.loop (q [r [ar 56 .lss (t 55) (t 54)], .cond (t 56) (sk) (.exit 2),
  .block 3 (q [r [m 57 55, m 9 57]] (.block 4 (q [r [m 73 6, m 74 9, c 75 239 [t 73, t 74], o 76 (.un .not (t 75)), m 72 76]] (.cond (t 72) (sk) (q [r [m 78 9,
  ar 79 .eql (t 78) (n 0), m 77 79]] (.cond (t 77) (d [(m 80 6, 0), (o 81 (.nilchk (t 80)), 1), (fa 82 4 81, 3), (l 83 82, 7), (m 84 9, 0), (m 85 6, 0),
  (o 86 (.nilchk (t 85)), 32), (fa 87 5 86, 96), (l 88 87, 224), (ia 89 1 83 (t 84), 511), (s 1 89 88, 1023)]) (d [(m 58 6, 0), (o 59 (.nilchk (t 58)), 1),
  (fa 60 4 59, 3), (l 61 60, 7), (m 62 9, 0), (m 63 6, 0), (o 64 (.nilchk (t 63)), 32), (fa 65 4 64, 96), (l 66 65, 224), (m 67 9, 0), (ar 68 .sub (t 67) (n 1),
  512), (ia 69 1 66 (t 68), 2016), (l 70 69, 4064), (ia 71 1 61 (t 62), 8191), (s 1 71 70, 16383)])))))))] (r [ar 90 .add (t 55) (n 1), m 55 90])))), r [mv 10 tt],
  q [r [m 91 0, le 92 91, ar 93 .sub (t 92) (n 1), m 11 93]] (.block 5 (.loop (q [q [r [m 94 11, ar 95 .geq (t 94) (n 0)]] (.cond (t 95) (sk) (.exit 5)),
  .block 6 (q [.block 7 (q [r [m 99 5, m 100 11, ia 101 1 99 (t 100), l 102 101, ar 103 .eql (t 102) (n 11), m 104 103, og 105 (.mov (t 5)) 104 false, og 106 (.mov (t 11)) 104 false,
  og 107 (.idxA 1 (t 105) (t 106)) 104 false, og 108 (.ld1 (t 107)) 104 false, og 109 (.arith .eql (t 108) (n 10)) 104 false, o 110 (.pick (t 104) tt (t 109)),
  m 98 110]] (.cond (t 98) (r [mv 10 tt]) (q [r [m 112 5, m 113 11, ia 114 1 112 (t 113), l 115 114, c 116 240 [t 115], o 117 (.un .not (t 116)), m 111 117]] (.cond (t 111) (r [mv 10 ff]) (sk))))),
  r [m 118 10]] (.cond (t 118) (d [(m 119 6, 0), (o 120 (.nilchk (t 119)), 1), (fa 121 4 120, 3), (l 122 121, 7), (m 123 11, 0), (m 124 6, 0), (o 125 (.nilchk (t 124)),
  32), (fa 126 5 125, 96), (l 127 126, 224), (ia 128 1 122 (t 123), 511), (s 1 128 127, 1023)]) (sk)))] (r [m 96 11, ar 97 .sub (t 96) (n 1), m 11 97])))),
  r [m 129 6, o 130 (.nilchk (t 129)), fa 131 4 130, l 132 131, m 4 132]] (.ret)⟩
theorem A187_ok : XOk Tryz.prog ITS 187 A187 := ⟨Tryz.f187, Tryz.func187, by kernel_rfl, by decide, by kernel_rfl, its_nil (by kernel_rfl)⟩

/- widgetry/char.Line -/
def A188 : AFn := ⟨7, [.tmp 2], q [r [mv 2 (n 0)], r [m 3 0, c 4 223 [t 3], o 5 (.fld 4 none (t 4)), o 6 (.convI .i64 (t 5)), m 2 6]] (.ret)⟩
theorem A188_ok : XOk Tryz.prog ITS 188 A188 := ⟨Tryz.f188, Tryz.func188, by kernel_rfl, by decide, by kernel_rfl, its_nil (by kernel_rfl)⟩

/- widgetry/bidi.Reset -/
def A189 : AFn := ⟨69, [.tmp 10], q [r [mv 10 (.const (.nilsl))], q [r [m 14 3, ar 15 .lss (t 14) (n 0), m 16 15, og 17 (.mov (t 3)) 16 false, og 18 (.mov (t 4)) 16 false, og 19 (.arith .gtr (t 17) (t 18)) 16 false,
  o 20 (.pick (t 16) tt (t 19)), m 21 20, og 22 (.mov (t 4)) 21 false, og 23 (.mov (t 0)) 21 false, og 24 (.len (t 23)) 21 false, og 25 (.arith .gtr (t 22) (t 24)) 21 false,
  o 26 (.pick (t 21) tt (t 25)), m 27 26, og 28 (.mov (t 1)) 27 false, og 29 (.len (t 28)) 27 false, og 30 (.mov (t 0)) 27 false, og 31 (.len (t 30)) 27 false,
  og 32 (.arith .neq (t 29) (t 31)) 27 false, o 33 (.pick (t 27) tt (t 32))]] (.cond (t 33) (q [r [mv 10 (.const (.nilsl))]] (.ret)) (sk)), r [m 34 1, m 35 3,
  m 36 4, o 37 (.sl 1 (t 34) (some (.tmp 35)) (some (.tmp 36)) none), c 38 166 [t 37], m 11 38], q [r [m 39 4, ar 40 .sub (t 39) (n 1), m 12 40]] (.block 0 (.loop (q [q [r [m 41 12,
  m 42 3, ar 43 .geq (t 41) (t 42)]] (.cond (t 43) (sk) (.exit 0)), .block 1 (q [q [r [m 46 0, m 47 12, ia 48 1 46 (t 47), l 49 48, c 50 241 [t 49], m 13 50],
  r [m 51 13, c 52 240 [t 51], o 53 (.un .not (t 52)), m 54 53, og 55 (.mov (t 13)) 54 true, og 56 (.arith .neq (t 55) (n 11)) 54 true, o 57 (.pick (t 54) (t 56) ff),
  m 58 57, og 59 (.mov (t 13)) 58 true, og 60 (.arith .neq (t 59) (n 10)) 58 true, o 61 (.pick (t 58) (t 60) ff)]] (.cond (t 61) (.exit 0) (sk))] (r [m 62 11,
  m 63 12, m 64 3, ar 65 .sub (t 63) (t 64), m 66 2, ia 67 1 62 (t 65), s 1 67 66]))] (r [m 44 12, ar 45 .sub (t 44) (n 1), m 12 45])))), r [m 68 11, m 10 68]] (.ret)⟩
theorem A189_ok : XOk Tryz.prog ITS 189 A189 := ⟨Tryz.f189, Tryz.func189, by kernel_rfl, by decide, by kernel_rfl, its_nil (by kernel_rfl)⟩

/- widgetry/bidi.Order -/
def A190 : AFn := ⟨84, [.tmp 2], q [r [mv 2 (.const (.nilsl))], q [r [m 11 0, le 12 11, ar 13 .gtr (t 12) (n 2000)]] (.cond (t 13) (q [r [mv 2 (.const (.nilsl))]] (.ret)) (sk)), r [m 14 0,
  le 15 14, o 16 (.mksl 1 8 [.int .i64 0] (t 15) (t 15)), m 3 16], r [mv 4 (n 0), mv 5 (n 129)], q [r [m 17 0, le 18 17, mv 19 (n 0)]] (.block 0 (.loop (q [r [ar 20 .lss (t 19) (t 18)],
  .cond (t 20) (sk) (.exit 0), .block 1 (q [r [m 21 19, ia 22 1 17 (t 19), l 23 22, m 6 21, m 7 23], q [r [m 24 7, ar 25 .lss (t 24) (n 0), m 26 25, og 27 (.mov (t 7)) 26 false,
  og 28 (.arith .gtr (t 27) (n 127)) 26 false, o 29 (.pick (t 26) tt (t 28))]] (.cond (t 29) (q [r [mv 2 (.const (.nilsl))]] (.ret)) (sk)), r [m 30 3, m 31 6,
  m 32 6, ia 33 1 30 (t 31), s 1 33 32], r [m 34 4, m 35 7, o 36 (.mnmx true (t 34) (t 35)), m 4 36], r [m 37 7, ar 38 .rem (t 37) (n 2), ar 39 .eql (t 38) (n 1)]] (.cond (t 39) (r [m 40 5,
  m 41 7, o 42 (.mnmx false (t 40) (t 41)), m 5 42]) (sk)))] (r [ar 43 .add (t 19) (n 1), m 19 43])))), q [r [m 44 4, m 8 44]] (.block 2 (.loop (q [q [r [m 45 8,
  m 46 5, ar 47 .geq (t 45) (t 46)]] (.cond (t 47) (sk) (.exit 2)), .block 3 (q [r [mv 9 (n 0)]] (.block 4 (.loop (q [q [r [m 50 9, m 51 3, le 52 51, ar 53 .lss (t 50) (t 52)]] (.cond (t 53) (sk) (.exit 4)),
  .block 5 (q [r [m 56 9, m 10 56], .block 6 (.loop (q [q [r [m 57 10, m 58 3, le 59 58, ar 60 .lss (t 57) (t 59), m 61 60, og 62 (.mov (t 0)) 61 true, og 63 (.mov (t 3)) 61 true,
  og 64 (.mov (t 10)) 61 true, og 65 (.idxA 1 (t 63) (t 64)) 61 true, og 66 (.ld1 (t 65)) 61 true, og 67 (.idxA 1 (t 62) (t 66)) 61 true, og 68 (.ld1 (t 67)) 61 true,
  og 69 (.mov (t 8)) 61 true, og 70 (.arith .geq (t 68) (t 69)) 61 true, o 71 (.pick (t 61) (t 70) ff)]] (.cond (t 71) (sk) (.exit 6))] (.block 7 (r [m 72 10,
  ar 73 .add (t 72) (n 1), m 10 73])))), r [m 74 10, m 75 9, ar 76 .gtr (t 74) (t 75)]] (.cond (t 76) (q [r [m 77 3, m 78 9, m 79 10, o 80 (.sl 1 (t 77) (some (.tmp 78)) (some (.tmp 79)) none),
  c 81 242 [t 80]]] (r [m 82 10, m 9 82])) (sk)))] (r [m 54 9, ar 55 .add (t 54) (n 1), m 9 55])))))] (r [m 48 8, ar 49 .sub (t 48) (n 1), m 8 49])))), r [m 83 3,
  m 2 83]] (.ret)⟩
theorem A190_ok : XOk Tryz.prog ITS 190 A190 := ⟨Tryz.f190, Tryz.func190, by kernel_rfl, by decide, by kernel_rfl, its_nil (by kernel_rfl)⟩

/- (widgetry/shape.Prepared).Run -/
def A191 : AFn := ⟨101, [.tmp 14], q [r [o 7 (.box (t 0)), o 8 (.box (t 1)), mv 14 (.const (.nilsl))], r [mv 15 (.const (.nilsl))], q [r [m 20 4, m 16 20]] (.block 0 (.loop (q [q [r [m 21 16,
  m 22 5, ar 23 .lss (t 21) (t 22)]] (.cond (t 23) (sk) (.exit 0)), .block 1 (q [d [(fa 26 0 7, 0), (l 27 26, 1), (m 28 16, 0), (ia 29 1 27 (t 28), 7), (l 30 29,
  15), (o 31 (.convI .i64 (t 30)), 31), (fa 32 1 7, 0), (l 33 32, 64), (m 34 16, 0), (ia 35 1 33 (t 34), 448), (l 36 35, 960), (m 37 16, 0), (m 38 16, 0),
  (ar 39 .add (t 38) (n 1), 4096), (ln 40 5 7, 0), (ln 41 8 8, 0), (m 42 2, 0), (m 43 3, 0), (fa 44 0 7, 0), (l 45 44, 262144), (m 46 16, 0), (ia 47 1 45 (t 46),
  1835008), (l 48 47, 3932160), (o 49 (.build [.int .i64 0, .int .i64 0, .int .i32 0, .int .i32 0, .bool false] [(0, 1, .tmp 42), (1, 1, .tmp 43), (2, 1,
  .tmp 48), (3, 1, .const (.int .i32 0)), (4, 1, .const (.bool true))]), 8323072), (c 50 243 [t 40, t 41, t 49], 16760832), (m 51 2, 0), (m 52 3, 0), (o 53 (.build [.int .i64 0,
  .int .i64 0, .int .i64 0, .int .i64 0, .int .i64 0, .int .i64 0, .int .i64 0, .int .i64 0] [(0, 1, .tmp 31), (1, 1, .tmp 36), (2, 1, .tmp 37), (3, 1, .tmp 39),
  (5, 1, .tmp 50), (6, 1, .tmp 51), (7, 1, .tmp 52)]), 134217727), (o 17 (.new [.int .i64 0, .int .i64 0, .int .i64 0, .int .i64 0, .int .i64 0, .int .i64 0,
  .int .i64 0, .int .i64 0]), 0), (s 8 17 53, 536870911)], q [r [m 54 6]] (.cond (t 54) (r [fa 55 0 7, l 56 55, m 57 16, ia 58 1 56 (t 57), l 59 58, c 60 244 [t 59],
  o 61 (.convI .i64 (t 60)), fa 62 0 17, s 1 62 61]) (sk))] (r [m 63 15, ln 64 8 17, o 65 (.buildSl 8 1 [.int .i64 0, .int .i64 0, .int .i64 0, .int .i64 0,
  .int .i64 0, .int .i64 0, .int .i64 0, .int .i64 0] [(0, 8, .tmp 64)]), o 66 (.app 8 64 (t 63) (t 65)), m 15 66]))] (r [m 24 16, ar 25 .add (t 24) (n 1),
  m 16 25])))), d [(ln 67 5 7, 0), (ln 68 8 8, 0), (m 69 2, 0), (m 70 3, 0), (ln 71 5 7, 0), (ln 72 8 8, 0), (m 73 2, 0), (m 74 3, 0), (m 75 15, 0), (c 76 246 [t 71,
  t 72, t 73, t 74, t 75], 496), (c 77 245 [t 67, t 68, t 69, t 70, t 76], 1023), (m 15 77, 2047)], q [r [m 78 6]] (.cond (t 78) (r [ln 79 5 7, m 80 15,
  c 81 247 [t 79, t 80], m 15 81]) (sk)), r [mv 18 (n 0)], q [r [m 82 15, le 83 82, mv 84 (n 0)]] (.block 2 (.loop (q [r [ar 85 .lss (t 84) (t 83)], .cond (t 85) (sk) (.exit 2),
  .block 3 (q [r [m 86 84, m 19 86], r [m 87 15, m 88 19, m 89 18, ia 90 8 87 (t 88), fa 91 4 90, s 1 91 89]] (r [m 92 18, m 93 15, m 94 19, ia 95 8 93 (t 94),
  fa 96 5 95, l 97 96, ar 98 .add (t 92) (t 97), m 18 98]))] (r [ar 99 .add (t 84) (n 1), m 84 99])))), r [m 100 15, m 14 100]] (.ret)⟩
theorem A191_ok : XOk Tryz.prog ITS 191 A191 := ⟨Tryz.f191, Tryz.func191, by kernel_rfl, by decide, by kernel_rfl, its_nil (by kernel_rfl)⟩

/- widgetry/font.usable -/
def A192 : AFn := ⟨12, [.tmp 4], q [r [o 2 (.box (t 0)), mv 4 ff], r [m 5 1, c 6 127 [t 5, n 1, n 1000], m 7 6, og 8 (.ldn 8 (t 2)) 7 true, og 9 (.call (fn 40) [t 8]) 7 true, og 10 (.arith .eql (t 9) (n 0)) 7 true,
  o 11 (.pick (t 7) (t 10) ff), m 4 11]] (.ret)⟩
theorem A192_ok : XOk Tryz.prog ITS 192 A192 := ⟨Tryz.f192, Tryz.func192, by kernel_rfl, by decide, by kernel_rfl, its_nil (by kernel_rfl)⟩

/- widgetry/font.scaled -/
def A193 : AFn := ⟨13, [.tmp 6], q [r [o 3 (.box (t 0)), mv 6 (n 0)], r [m 7 2, m 8 1, ar 9 .mul (t 7) (t 8), fa 10 0 3, l 11 10, c 12 248 [t 9, t 11], m 6 12]] (.ret)⟩
theorem A193_ok : XOk Tryz.prog ITS 193 A193 := ⟨Tryz.f193, Tryz.func193, by kernel_rfl, by decide, by kernel_rfl, its_nil (by kernel_rfl)⟩

/- widgetry/fixed.ok -/
def A194 : AFn := ⟨23, [.tmp 4], q [r [mv 4 ff], r [m 5 1, ar 6 .neq (t 5) (n 0), m 7 6, og 8 (.mov (t 0)) 7 true, og 9 (.arith .geq (t 8) (n (-1152921504606846976))) 7 true, o 10 (.pick (t 7) (t 9) ff),
  m 11 10, og 12 (.mov (t 0)) 11 true, og 13 (.arith .leq (t 12) (n 1152921504606846976)) 11 true, o 14 (.pick (t 11) (t 13) ff), m 15 14, og 16 (.mov (t 1)) 15 true,
  og 17 (.arith .geq (t 16) (n (-1152921504606846976))) 15 true, o 18 (.pick (t 15) (t 17) ff), m 19 18, og 20 (.mov (t 1)) 19 true, og 21 (.arith .leq (t 20) (n 1152921504606846976)) 19 true,
  o 22 (.pick (t 19) (t 21) ff), m 4 22]] (.ret)⟩
theorem A194_ok : XOk Tryz.prog ITS 194 A194 := ⟨Tryz.f194, Tryz.func194, by kernel_rfl, by decide, by kernel_rfl, its_nil (by kernel_rfl)⟩

/- widgetry/fixed.floor -/
def A195 : AFn := ⟨16, [.tmp 4], q [r [mv 4 (n 0)], r [m 6 0, m 7 1, ar 8 .quo (t 6) (t 7), m 5 8], q [r [m 9 0, m 10 1, ar 11 .rem (t 9) (t 10), ar 12 .lss (t 11) (n 0)]] (.cond (t 12) (r [m 13 5,
  ar 14 .sub (t 13) (n 1), m 5 14]) (sk)), r [m 15 5, m 4 15]] (.ret)⟩
theorem A195_ok : XOk Tryz.prog ITS 195 A195 := ⟨Tryz.f195, Tryz.func195, by kernel_rfl, by decide, by kernel_rfl, its_nil (by kernel_rfl)⟩

/- (*widgetry/layout.scene).inner -/
def A197 : AFn := ⟨126, [.tmp 6], q [r [mv 6 (n 0)], d [(m 18 0, 0), (o 19 (.nilchk (t 18)), 1), (fa 20 4 19, 3), (l 21 20, 7), (m 22 1, 0), (o 23 (.xo (.mapget (.one (.int .i64)) false (.agg [.int .i64 0,
  .int .i64 0, .int .i64 0, .str [], .nilsl, .nilsl, .nilsl])) [t 21, t 22]), 31), (m 24 0, 0), (o 25 (.nilchk (t 24)), 64), (fa 26 5 25, 192), (l 27 26,
  448), (m 28 1, 0), (o 29 (.xo (.mapget (.one (.int .i64)) false (.agg [.int .i64 0, .int .i64 0, .int .i64 0, .int .i64 0, .int .i64 0, .int .i64 0, .int .i64 0,
  .int .i64 0, .int .i64 0, .int .i64 0, .int .i64 0, .int .i64 0, .int .i64 0, .int .i64 0, .int .i64 0, .int .i64 0, .int .i64 0, .int .i64 0, .int .i64 0,
  .int .i64 0, .int .i64 0, .int .i64 0])) [t 27, t 28]), 1984), (o 7 (.new [.int .i64 0, .int .i64 0, .int .i64 0, .str [], .nilsl, .nilsl, .nilsl]), 0),
  (o 8 (.new [.int .i64 0, .int .i64 0, .int .i64 0, .int .i64 0, .int .i64 0, .int .i64 0, .int .i64 0, .int .i64 0, .int .i64 0, .int .i64 0, .int .i64 0,
  .int .i64 0, .int .i64 0, .int .i64 0, .int .i64 0, .int .i64 0, .int .i64 0, .int .i64 0, .int .i64 0, .int .i64 0, .int .i64 0, .int .i64 0]), 0), (s 7 7 23,
  12351), (s 22 8 29, 32767)], .block 0 (q [r [fa 31 2 7, l 32 31, c 33 22 [t 32], m 30 33]] (.cond (t 30) (q [d [(ln 34 7 7, 0), (ln 35 22 8, 0), (m 36 0,
  0), (o 37 (.nilchk (t 36)), 4), (fa 38 3 37, 12), (l 39 38, 28), (le 40 39, 60), (c 41 44 [t 34, t 35, t 40, n 0], 127), (o 9 (.new [.nilsl, .nilsl, .int .i64 0,
  .int .i64 0, .int .i64 0]), 0), (s 5 9 41, 511)], q [r [m 42 2]] (.cond (t 42) (q [d [(ln 43 5 9, 0), (m 44 0, 0), (o 45 (.nilchk (t 44)), 2), (fa 46 3 45,
  6), (l 47 46, 14), (c 48 249 [t 43, t 47], 31), (m 6 48, 63)]] (.ret)) (sk)), d [(ln 49 5 9, 0), (m 50 0, 0), (o 51 (.nilchk (t 50)), 2), (fa 52 3 51,
  6), (l 53 52, 14), (c 54 250 [t 49, t 53], 31), (m 6 54, 63)]] (.ret)) (q [r [fa 56 2 7, l 57 56, c 58 84 [t 57], m 55 58]] (.cond (t 55) (q [r [fa 59 4 7,
  l 60 59, c 61 155 [t 60, .const (.str [119, 105, 100, 116, 104]), n 0], c 62 47 [t 61], m 6 62]] (.ret)) (q [r [m 64 0, m 65 1, c 66 21 [t 64, t 65], ar 67 .eql (t 66) (n 3),
  m 63 67]] (.cond (t 63) (q [r [m 69 0, m 70 1, c 71 98 [t 69, t 70], m 68 71, ex 72 68 0, ex 73 68 1, ex 74 68 2, m 10 72, m 11 73, m 12 74], q [r [m 75 2]] (.cond (t 75) (q [r [o 76 (.idxArrA 22 1 (t 8) (n 9)),
  l 77 76, m 78 10, m 79 12, c 80 251 [t 77, t 78, t 79], m 6 80]] (.ret)) (sk)), r [o 81 (.idxArrA 22 1 (t 8) (n 9)), l 82 81, m 83 10, m 84 12, c 85 252 [t 82,
  t 83, t 84], m 6 85]] (.ret)) (sk))))))), d [(o 86 (.idxArrA 22 1 (t 8) (n 9)), 0), (l 87 86, 1), (m 88 0, 0), (o 89 (.nilchk (t 88)), 4), (fa 90 6 89,
  12), (l 91 90, 28), (m 92 1, 0), (o 93 (.xo (.mapget (.one (.int .i64)) false (.nilsl)) [t 91, t 92]), 124), (le 94 93, 252), (ar 95 .sub (t 94) (n 1),
  508), (o 96 (.mnmx true (t 95) (n 0)), 1020), (ar 97 .mul (t 87) (t 96), 2047), (m 13 97, 4095), (mv 14 (n 0), 8191)], q [r [m 98 0, o 99 (.nilchk (t 98)),
  fa 100 6 99, l 101 100, m 102 1, o 103 (.xo (.mapget (.one (.int .i64)) false (.nilsl)) [t 101, t 102]), le 104 103, mv 105 (n 0)]] (.block 1 (.loop (q [r [ar 106 .lss (t 105) (t 104)],
  .cond (t 106) (sk) (.exit 1), .block 2 (q [r [ia 107 1 103 (t 105), l 108 107, m 16 108], r [m 109 0, m 110 16, m 111 2, c 112 148 [t 109, t 110, t 111],
  m 17 112], r [m 113 13, m 114 17, ar 115 .add (t 113) (t 114), m 13 115]] (r [m 116 14, m 117 17, o 118 (.mnmx true (t 116) (t 117)), m 14 118]))] (r [ar 119 .add (t 105) (n 1),
  m 105 119])))), q [r [m 120 0, m 121 1, c 122 21 [t 120, t 121], ar 123 .eql (t 122) (n 2)]] (.cond (t 123) (q [r [m 124 13, m 6 124]] (.ret)) (sk)), r [m 125 14,
  m 6 125]] (.ret)⟩
theorem A197_ok : XOk Tryz.prog ITS 197 A197 := ⟨Tryz.f197, Tryz.func197, by kernel_rfl, by decide, by kernel_rfl, its_nil (by kernel_rfl)⟩

/- slices.ContainsFunc[[]int,int] -/
def A198 : AFn := ⟨9, [.tmp 4], q [r [mv 4 ff], r [m 5 0, m 6 1, c 7 104 [t 5, t 6], ar 8 .geq (t 7) (n 0), m 4 8]] (.ret)⟩
theorem A198_ok : XOk Tryz.prog ITS 198 A198 := ⟨Tryz.f198, Tryz.func198, by kernel_rfl, by decide, by kernel_rfl, its_nil (by kernel_rfl)⟩

/- widgetry/box.length$1 -/
def A199 : AFn := ⟨9, [.tmp 2], q [r [mv 2 ff], r [m 3 0, ar 4 .lss (t 3) (n 0), m 5 4, og 6 (.mov (t 0)) 5 false, og 7 (.arith .gtr (t 6) (n 1048576)) 5 false, o 8 (.pick (t 5) tt (t 7)),
  m 2 8]] (.ret)⟩
theorem A199_ok : XOk Tryz.prog ITS 199 A199 := ⟨Tryz.f199, Tryz.func199, by kernel_rfl, by decide, by kernel_rfl, its_nil (by kernel_rfl)⟩

/- widgetry/paragraph.Height -/
def A208 : AFn := ⟨15, [.tmp 2], q [r [mv 2 (n 0)], r [o 3 (.new [.int .i64 0]), sv 1 3 (n 0)], q [r [m 6 0, c 7 256 [t 6]]] (.block 0 (.rng (t 7) [8, 9] (r [o 5 (.new [.int .i64 0, .int .i64 0,
  .int .i64 0, .int .i64 0, .int .i64 0, .int .i64 0, .int .i64 0, .int .i64 0, .int .i64 0, .nilsl]), s 10 5 9]) (.block 1 (r [l 10 3, fa 11 8 5, l 12 11,
  ar 13 .add (t 10) (t 12), s 1 3 13])))), r [l 14 3, m 2 14]] (.ret)⟩
theorem A208_ok (hit : ∀ it ∈ ITS, IterOk Tryz.prog it) : XOk Tryz.prog ITS 208 A208 := ⟨Tryz.f208, Tryz.func208, by kernel_rfl, by decide, by kernel_rfl, its_in (by kernel_rfl) hit⟩

/- slices.Grow[[]widgetry/constraint.bound,widgetry/constraint.bound] -/
def A209 : AFn := ⟨27, [.tmp 4], q [r [mv 4 (.const (.nilsl))], q [r [m 5 1, ar 6 .lss (t 5) (n 0)]] (.cond (t 6) (r [o 7 (.stuck), on (.stuck)]) (sk)), q [r [m 8 1, m 9 0, o 10 (.xo .capz [t 9]),
  m 11 0, le 12 11, ar 13 .sub (t 10) (t 12), ar 14 .sub (t 8) (t 13), m 1 14], r [m 15 1, ar 16 .gtr (t 15) (n 0)]] (.cond (t 16) (r [m 17 0, m 18 0, o 19 (.xo .capz [t 18]),
  o 20 (.sl 3 (t 17) none (some (.tmp 19)) none), m 21 1, o 22 (.xo (.appz 3 24 [.int .i64 0, .int .i64 0, .int .i64 0]) [t 20, t 21]), m 23 0, le 24 23,
  o 25 (.sl 3 (t 22) none (some (.tmp 24)) none), m 0 25]) (sk)), r [m 26 0, m 4 26]] (.ret)⟩
theorem A209_ok : XOk Tryz.prog ITS 209 A209 := ⟨Tryz.f209, Tryz.func209, by kernel_rfl, by decide, by kernel_rfl, its_nil (by kernel_rfl)⟩

/- slices.Max[[]int,int] -/
def A210 : AFn := ⟨25, [.tmp 2], q [r [mv 2 (n 0)], q [r [m 5 0, le 6 5, ar 7 .lss (t 6) (n 1)]] (.cond (t 7) (r [o 8 (.stuck), on (.stuck)]) (sk)), r [m 9 0, ia 10 1 9 (n 0), l 11 10,
  m 3 11], q [r [mv 4 (n 1)]] (.block 0 (.loop (q [q [r [m 12 4, m 13 0, le 14 13, ar 15 .lss (t 12) (t 14)]] (.cond (t 15) (sk) (.exit 0)), .block 1 (r [m 18 3,
  m 19 0, m 20 4, ia 21 1 19 (t 20), l 22 21, o 23 (.mnmx true (t 18) (t 22)), m 3 23])] (r [m 16 4, ar 17 .add (t 16) (n 1), m 4 17])))), r [m 24 3, m 2 24]] (.ret)⟩
theorem A210_ok : XOk Tryz.prog ITS 210 A210 := ⟨Tryz.f210, Tryz.func210, by kernel_rfl, by decide, by kernel_rfl, its_nil (by kernel_rfl)⟩

/- slices.Index[[]bool,bool] -/
def A211 : AFn := ⟨19, [.tmp 4], q [r [mv 4 (n 0)], q [r [m 6 0, le 7 6, mv 8 (n 0)]] (.block 0 (.loop (q [r [ar 9 .lss (t 8) (t 7)], .cond (t 9) (sk) (.exit 0), .block 1 (q [r [m 10 8,
  m 5 10], r [m 11 1, m 12 0, m 13 5, ia 14 1 12 (t 13), l 15 14, o 16 (.eqs false (t 11) (t 15))]] (.cond (t 16) (q [r [m 17 5, m 4 17]] (.ret)) (sk)))] (r [ar 18 .add (t 8) (n 1),
  m 8 18])))), r [mv 4 (n (-1))]] (.ret)⟩
theorem A211_ok : XOk Tryz.prog ITS 211 A211 := ⟨Tryz.f211, Tryz.func211, by kernel_rfl, by decide, by kernel_rfl, its_nil (by kernel_rfl)⟩

/- widgetry/view.Key -/
def A213 : AFn := ⟨47, [.tmp 2], q [r [mv 2 ff], q [r [m 5 0, o 6 (.lenS (t 5)), mv 7 (n 0)]] (.block 0 (.loop (q [r [ar 8 .lss (t 7) (t 6)], .cond (t 8) (sk) (.exit 0), .block 1 (q [r [m 9 7,
  m 3 9], r [m 10 0, m 11 3, o 12 (.idxS (t 10) (t 11)), m 4 12], r [m 13 4, ar 14 .lss (t 13) (.const (.int .u8 97)), m 15 14, og 16 (.mov (t 4)) 15 false,
  og 17 (.arith .gtr (t 16) (.const (.int .u8 122))) 15 false, o 18 (.pick (t 15) tt (t 17)), m 19 18, og 20 (.mov (t 4)) 19 true, og 21 (.arith .lss (t 20) (.const (.int .u8 65))) 19 true,
  og 22 (.mov (t 21)) 19 true, og 23 (.mov (t 4)) 22 false, og 24 (.arith .gtr (t 23) (.const (.int .u8 90))) 22 false, og 25 (.pick (t 22) tt (t 24)) 19 true,
  o 26 (.pick (t 19) (t 25) ff), m 27 26, og 28 (.mov (t 4)) 27 true, og 29 (.arith .lss (t 28) (.const (.int .u8 48))) 27 true, og 30 (.mov (t 29)) 27 true,
  og 31 (.mov (t 4)) 30 false, og 32 (.arith .gtr (t 31) (.const (.int .u8 57))) 30 false, og 33 (.pick (t 30) tt (t 32)) 27 true, o 34 (.pick (t 27) (t 33) ff),
  m 35 34, og 36 (.mov (t 4)) 35 true, og 37 (.arith .neq (t 36) (.const (.int .u8 45))) 35 true, o 38 (.pick (t 35) (t 37) ff), m 39 38, og 40 (.mov (t 4)) 39 true,
  og 41 (.arith .neq (t 40) (.const (.int .u8 95))) 39 true, o 42 (.pick (t 39) (t 41) ff)]] (.cond (t 42) (q [r [mv 2 ff]] (.ret)) (sk)))] (r [ar 43 .add (t 7) (n 1),
  m 7 43])))), r [m 44 0, o 45 (.lenS (t 44)), ar 46 .leq (t 45) (n 24), m 2 46]] (.ret)⟩
theorem A213_ok : XOk Tryz.prog ITS 213 A213 := ⟨Tryz.f213, Tryz.func213, by kernel_rfl, by decide, by kernel_rfl, its_nil (by kernel_rfl)⟩

/- widgetry/view.attributes -/
def A214 : AFn := ⟨39, [.tmp 2], q [r [mv 2 (n 0)], q [r [m 6 0, le 7 6, mv 8 (n 0)]] (.block 0 (.loop (q [r [ar 9 .lss (t 8) (t 7)], .cond (t 9) (sk) (.exit 0), .block 1 (q [r [m 10 8,
  ia 11 5 6 (t 8), ln 12 5 11, o 4 (.new [.str [], .int .i64 0, .int .i64 0, .str [], .nilsl]), m 3 10, s 5 4 12], .block 2 (q [r [fa 14 0 4, l 15 14, c 16 257 [t 15],
  o 17 (.un .not (t 16)), m 13 17]] (.cond (t 13) (q [r [mv 2 (n 4)]] (.ret)) (q [d [(m 19 3, 0), (ar 20 .gtr (t 19) (n 0), 1), (m 21 20, 3), (og 22 (.mov (t 0)) 21 true,
  7), (og 23 (.mov (t 3)) 21 true, 7), (og 24 (.arith .sub (t 23) (n 1)) 21 true, 23), (og 25 (.idxA 5 (t 22) (t 24)) 21 true, 63), (og 26 (.fldA 0 (t 25)) 21 true,
  127), (og 27 (.ld1 (t 26)) 21 true, 255), (og 28 (.fldA 0 (t 4)) 21 true, 7), (og 29 (.ld1 (t 28)) 21 true, 519), (og 30 (.arith .geq (t 27) (t 29)) 21 true,
  2047), (o 31 (.pick (t 21) (t 30) ff), 4095), (m 18 31, 8191)]] (.cond (t 18) (q [r [mv 2 (n 10)]] (.ret)) (sk))))), r [fa 32 1 4, ln 33 4 32, c 34 258 [t 33],
  m 5 34], r [m 35 5, ar 36 .neq (t 35) (n 0)]] (.cond (t 36) (q [r [m 37 5, m 2 37]] (.ret)) (sk)))] (r [ar 38 .add (t 8) (n 1), m 8 38])))), r [mv 2 (n 0)]] (.ret)⟩
theorem A214_ok : XOk Tryz.prog ITS 214 A214 := ⟨Tryz.f214, Tryz.func214, by kernel_rfl, by decide, by kernel_rfl, its_nil (by kernel_rfl)⟩
def xtr2 : XT := .node 174 (.node 150 (.node 140 (.node 136 (.node 134 (.one 133 A133) (.node 135 (.one 134 A134) (.one 135 A135))) (.node 137 (.one 136 A136) (.node 139 (.one 137 A137) (.one 139 A139)))) (.node 143 (.node 141 (.one 140 A140) (.node 142 (.one 141 A141) (.one 142 A142))) (.node 148 (.node 144 (.one 143 A143) (.one 144 A144)) (.node 149 (.one 148 A148) (.one 149 A149))))) (.node 165 (.node 161 (.node 155 (.one 150 A150) (.node 160 (.one 155 A155) (.one 160 A160))) (.node 163 (.node 162 (.one 161 A161) (.one 162 A162)) (.node 164 (.one 163 A163) (.one 164 A164)))) (.node 168 (.node 166 (.one 165 A165) (.node 167 (.one 166 A166) (.one 167 A167))) (.node 171 (.node 169 (.one 168 A168) (.one 169 A169)) (.node 173 (.one 171 A171) (.one 173 A173)))))) (.node 191 (.node 184 (.node 180 (.node 176 (.one 174 A174) (.node 177 (.one 176 A176) (.one 177 A177))) (.node 182 (.node 181 (.one 180 A180) (.one 181 A181)) (.node 183 (.one 182 A182) (.one 183 A183)))) (.node 187 (.node 185 (.one 184 A184) (.node 186 (.one 185 A185) (.one 186 A186))) (.node 189 (.node 188 (.one 187 A187) (.one 188 A188)) (.node 190 (.one 189 A189) (.one 190 A190))))) (.node 199 (.node 194 (.node 192 (.one 191 A191) (.node 193 (.one 192 A192) (.one 193 A193))) (.node 197 (.node 195 (.one 194 A194) (.one 195 A195)) (.node 198 (.one 197 A197) (.one 198 A198)))) (.node 210 (.node 208 (.one 199 A199) (.node 209 (.one 208 A208) (.one 209 A209))) (.node 213 (.node 211 (.one 210 A210) (.one 211 A211)) (.node 214 (.one 213 A213) (.one 214 A214))))))
theorem xtr2_ok (hit : ∀ it ∈ ITS, IterOk Tryz.prog it) : xtr2.Ok Tryz.prog ITS := ⟨⟨⟨⟨⟨A133_ok, ⟨A134_ok, A135_ok⟩⟩, ⟨A136_ok, ⟨A137_ok, A139_ok⟩⟩⟩, ⟨⟨A140_ok, ⟨A141_ok, A142_ok⟩⟩, ⟨⟨A143_ok, A144_ok⟩, ⟨A148_ok, A149_ok⟩⟩⟩⟩, ⟨⟨⟨A150_ok, ⟨A155_ok, A160_ok⟩⟩, ⟨⟨A161_ok, A162_ok⟩, ⟨A163_ok, A164_ok⟩⟩⟩, ⟨⟨A165_ok, ⟨A166_ok, A167_ok⟩⟩, ⟨⟨A168_ok, A169_ok⟩, ⟨A171_ok, A173_ok⟩⟩⟩⟩⟩, ⟨⟨⟨⟨A174_ok, ⟨A176_ok, A177_ok⟩⟩, ⟨⟨A180_ok, A181_ok⟩, ⟨A182_ok, A183_ok⟩⟩⟩, ⟨⟨A184_ok, ⟨A185_ok, A186_ok⟩⟩, ⟨⟨A187_ok, A188_ok⟩, ⟨A189_ok, A190_ok⟩⟩⟩⟩, ⟨⟨⟨A191_ok, ⟨A192_ok, A193_ok⟩⟩, ⟨⟨A194_ok, A195_ok⟩, ⟨A197_ok, A198_ok⟩⟩⟩, ⟨⟨A199_ok, ⟨A208_ok hit, A209_ok⟩⟩, ⟨⟨A210_ok, A211_ok⟩, ⟨A213_ok, A214_ok⟩⟩⟩⟩⟩⟩
end Go.Proofs.YtfpcmkpfdjnhnaaGreatDoor
end
