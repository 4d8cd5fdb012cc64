/- Functions of the program as data, fourth quarter. -/
import Derived.Test.YtndpneieplopaaaGreatDoorEngDZ
import Derived.Test.YtndpneieplopaaaGreatDoorProg
import Derived.KernelRfl
set_option linter.unusedSimpArgs false
set_option linter.unusedVariables false
set_option linter.unnecessarySimpa false
noncomputable section
namespace Go.Proofs.YtndpneieplopaaaGreatDoor
open Go.Eng Go.Eng.DZ
set_option maxRecDepth 100000
/- strconv.toError -/
def A145 : AFn := ⟨43, [.tmp 10], q [r [mv 10 (.const (.nilif))], q [r [m 11 4]] (.block 0 (q [r [o 13 (.stuck), o 14 (.stuck), m 12 14]] (.cond (t 12) (q [r [m 15 0, m 16 1, c 17 159 [t 15,
  t 16], o 18 (.stuck), m 10 18]] (.ret)) (q [r [o 20 (.stuck), o 21 (.stuck), m 19 21]] (.cond (t 19) (q [r [m 22 0, m 23 1, c 24 160 [t 22, t 23], o 25 (.stuck),
  m 10 25]] (.ret)) (q [r [o 27 (.stuck), o 28 (.stuck), m 26 28]] (.cond (t 26) (q [r [m 29 0, m 30 1, m 31 2, c 32 161 [t 29, t 30, t 31], o 33 (.stuck),
  m 10 33]] (.ret)) (q [r [o 35 (.stuck), o 36 (.stuck), m 34 36]] (.cond (t 34) (q [r [m 37 0, m 38 1, m 39 3, c 40 162 [t 37, t 38, t 39], o 41 (.stuck),
  m 10 41]] (.ret)) (sk)))))))))), r [m 42 4, m 10 42]] (.ret)⟩
theorem A145_ok : XOk Tryz.prog [] 145 A145 := ⟨Tryz.f145, Tryz.func145, by kernel_rfl, by decide, by kernel_rfl, its_nil (by kernel_rfl)⟩

/- strings.genSplit -/
def A146 : AFn := ⟨66, [.tmp 8], q [r [mv 8 (.const (.nilsl))], q [r [m 12 3, ar 13 .eql (t 12) (n 0)]] (.cond (t 13) (q [r [mv 8 (.const (.nilsl))]] (.ret)) (sk)), q [r [m 14 1, ar 15 .eql (t 14) (.const (.str []))]] (.cond (t 15) (q [r [m 16 0,
  m 17 3, c 18 163 [t 16, t 17], m 8 18]] (.ret)) (sk)), q [r [m 19 3, ar 20 .lss (t 19) (n 0)]] (.cond (t 20) (r [m 21 0, m 22 1, c 23 164 [t 21, t 22],
  ar 24 .add (t 23) (n 1), m 3 24]) (sk)), r [m 25 3, m 26 0, o 27 (.lenS (t 26)), ar 28 .add (t 27) (n 1), o 29 (.mnmx false (t 25) (t 28)), m 3 29], r [m 30 3,
  o 31 (.mksl 1 16 [.str []] (t 30) (t 30)), m 9 31], r [m 32 3, ar 33 .sub (t 32) (n 1), m 3 33], r [mv 10 (n 0)], .block 0 (.loop (q [q [r [m 34 10, m 35 3,
  ar 36 .lss (t 34) (t 35)]] (.cond (t 36) (sk) (.exit 0))] (.block 1 (q [r [m 37 0, m 38 1, c 39 72 [t 37, t 38], m 11 39], q [r [m 40 11, ar 41 .lss (t 40) (n 0)]] (.cond (t 41) (.exit 0) (sk)),
  r [m 42 9, m 43 10, m 44 0, m 45 11, m 46 2, ar 47 .add (t 45) (t 46), o 48 (.slS (t 44) none (some (.tmp 47))), ia 49 1 42 (t 43), s 1 49 48], r [m 50 0,
  m 51 11, m 52 1, o 53 (.lenS (t 52)), ar 54 .add (t 51) (t 53), o 55 (.slS (t 50) (some (.tmp 54)) none), m 0 55]] (r [m 56 10, ar 57 .add (t 56) (n 1),
  m 10 57]))))), r [m 58 9, m 59 10, m 60 0, ia 61 1 58 (t 59), s 1 61 60], r [m 62 9, m 63 10, ar 64 .add (t 63) (n 1), o 65 (.sl 1 (t 62) none (some (.tmp 64)) none),
  m 8 65]] (.ret)⟩
theorem A146_ok : XOk Tryz.prog [] 146 A146 := ⟨Tryz.f146, Tryz.func146, by kernel_rfl, by decide, by kernel_rfl, its_nil (by kernel_rfl)⟩

/- strings.CutPrefix -/
def A147 : AFn := ⟨11, [.tmp 4, .tmp 5], q [r [mv 4 (.const (.str [])), mv 5 ff], r [m 6 0, m 7 1, c 8 165 [t 6, t 7], ex 9 8 0, ex 10 8 1, m 4 9, m 5 10]] (.ret)⟩
theorem A147_ok : XOk Tryz.prog [] 147 A147 := ⟨Tryz.f147, Tryz.func147, by kernel_rfl, by decide, by kernel_rfl, its_nil (by kernel_rfl)⟩

/- unicode/utf8.DecodeRuneInString -/
def A148 : AFn := ⟨19, [.tmp 2, .tmp 3], q [r [mv 2 (.const (.int .i32 0)), mv 3 (n 0)], q [r [m 4 0, ar 5 .neq (t 4) (.const (.str [])), m 6 5, og 7 (.mov (t 0)) 6 true, og 8 (.idxS (t 7) (n 0)) 6 true,
  og 9 (.arith .lss (t 8) (.const (.int .u8 128))) 6 true, o 10 (.pick (t 6) (t 9) ff)]] (.cond (t 10) (q [r [m 11 0, o 12 (.idxS (t 11) (n 0)), o 13 (.convI .i32 (t 12)),
  m 2 13, mv 3 (n 1)]] (.ret)) (r [m 15 0, c 16 166 [t 15], m 14 16, ex 17 14 0, ex 18 14 1, m 2 17, m 3 18]))] (.ret)⟩
theorem A148_ok : XOk Tryz.prog [] 148 A148 := ⟨Tryz.f148, Tryz.func148, by kernel_rfl, by decide, by kernel_rfl, its_nil (by kernel_rfl)⟩

/- widgetry/expr.check -/
def A149 : AFn := ⟨121, [.cell 6 (some 2), .tmp 7], q [r [o 3 (.box (t 0)), o 6 (.new [.int .i64 0, .nilsl]), mv 7 (n 0)], q [r [fa 15 0 3, l 16 15, ar 17 .eql (t 16) (n 4), m 18 17, og 19 (.mov (t 1)) 18 true,
  og 20 (.arith .geq (t 19) (n 16)) 18 true, o 21 (.pick (t 18) (t 20) ff)]] (.cond (t 21) (q [r [o 22 (.build [.int .i64 0, .nilsl] []), s 2 6 22, mv 7 (n 8)]] (.ret)) (sk)),
  r [m 23 2, o 24 (.nilchk (t 23)), l 25 24, ar 26 .add (t 25) (n 1), o 27 (.nilchk (t 23)), s 1 27 26], .block 0 (q [r [ln 29 4 3, c 30 167 [t 29], o 31 (.un .not (t 30)),
  m 28 31]] (.cond (t 28) (q [r [o 32 (.build [.int .i64 0, .nilsl] []), s 2 6 32, mv 7 (n 9)]] (.ret)) (q [q [r [fa 34 0 3, l 35 34, ar 36 .eql (t 35) (n 1),
  m 37 36, og 38 (.fldA 1 (t 3)) 37 true, og 39 (.ld1 (t 38)) 37 true, og 40 (.call (fn 168) [t 39]) 37 true, og 41 (.un .not (t 40)) 37 true, o 42 (.pick (t 37) (t 41) ff),
  m 33 42]] (.cond (t 33) (sk) (r [fa 43 0 3, l 44 43, ar 45 .eql (t 44) (n 2), m 46 45, og 47 (.fldA 1 (t 3)) 46 true, og 48 (.ld1 (t 47)) 46 true, og 49 (.arith .neq (t 48) (n 0)) 46 true,
  o 50 (.pick (t 46) (t 49) ff), m 51 50, og 52 (.fldA 1 (t 3)) 51 true, og 53 (.ld1 (t 52)) 51 true, og 54 (.arith .neq (t 53) (n 1)) 51 true, o 55 (.pick (t 51) (t 54) ff),
  m 33 55]))] (.cond (t 33) (q [r [o 56 (.build [.int .i64 0, .nilsl] []), s 2 6 56, mv 7 (n 1)]] (.ret)) (q [r [fa 58 2 3, l 59 58, o 60 (.lenS (t 59)),
  ar 61 .gtr (t 60) (n 2000), m 62 61, og 63 (.fldA 3 (t 3)) 62 false, og 64 (.ld1 (t 63)) 62 false, og 65 (.len (t 64)) 62 false, og 66 (.arith .gtr (t 65) (n 100)) 62 false,
  o 67 (.pick (t 62) tt (t 66)), m 68 67, og 69 (.mov (t 2)) 68 false, og 70 (.nilchk (t 69)) 68 false, og 71 (.ld1 (t 70)) 68 false, og 72 (.arith .gtr (t 71) (n 1000)) 68 false,
  o 73 (.pick (t 68) tt (t 72)), m 57 73]] (.cond (t 57) (q [r [o 74 (.build [.int .i64 0, .nilsl] []), s 2 6 74, mv 7 (n 2)]] (.ret)) (q [r [fa 76 2 3,
  l 77 76, c 78 169 [t 77], o 79 (.un .not (t 78)), m 75 79]] (.cond (t 75) (q [r [o 80 (.build [.int .i64 0, .nilsl] []), s 2 6 80, mv 7 (n 3)]] (.ret)) (q [r [fa 82 0 3,
  l 83 82, ar 84 .neq (t 83) (n 4), m 81 84]] (.cond (t 81) (q [r [fa 85 0 3, l 86 85, o 87 (.build [.int .i64 0, .nilsl] [(0, 1, .tmp 86)]), s 2 6 87, mv 7 (n 0)]] (.ret)) (sk))))))))))),
  r [mv 8 (.const (.nilsl))], q [r [fa 88 3 3, l 89 88, le 90 89, mv 91 (n 0)]] (.block 1 (.loop (q [r [ar 92 .lss (t 91) (t 90)], .cond (t 92) (sk) (.exit 1),
  .block 2 (q [r [ia 93 4 89 (t 91), ln 94 4 93, o 10 (.new [.int .i64 0, .int .i64 0, .str [], .nilsl]), s 4 10 94], r [ln 96 4 10, m 97 1, ar 98 .add (t 97) (n 1),
  m 99 2, c 100 149 [t 96, t 98, t 99], m 95 100, ex 101 95 0, ex 102 95 1, o 11 (.new [.int .i64 0, .nilsl]), s 2 11 101, m 12 102], q [r [m 103 12, ar 104 .neq (t 103) (n 0)]] (.cond (t 104) (q [r [o 105 (.build [.int .i64 0,
  .nilsl] []), m 106 12, s 2 6 105, m 7 106]] (.ret)) (sk))] (r [m 107 8, ln 108 2 11, o 109 (.buildSl 2 1 [.int .i64 0, .nilsl] [(0, 2, .tmp 108)]), o 110 (.app 2 32 (t 107) (t 109)),
  m 8 110]))] (r [ar 111 .add (t 91) (n 1), m 91 111])))), r [m 113 8, c 114 170 [t 113], m 112 114, ex 115 112 0, ex 116 112 1, o 13 (.new [.int .i64 0,
  .nilsl]), s 2 13 115, m 14 116], q [r [m 117 14, o 118 (.un .not (t 117))]] (.cond (t 118) (q [r [o 119 (.build [.int .i64 0, .nilsl] []), s 2 6 119, mv 7 (n 5)]] (.ret)) (sk)),
  r [ln 120 2 13, s 2 6 120, mv 7 (n 0)]] (.ret)⟩
theorem A149_ok : XOk Tryz.prog [] 149 A149 := ⟨Tryz.f149, Tryz.func149, by kernel_rfl, by decide, by kernel_rfl, its_nil (by kernel_rfl)⟩

/- widgetry/expr.copyType -/
def A150 : AFn := ⟨16, [.cell 2 (some 2)], q [r [o 1 (.box (t 0)), o 2 (.new [.int .i64 0, .nilsl])], q [r [fa 3 1 1, l 4 3, le 5 4, ar 6 .eql (t 5) (n 0)]] (.cond (t 6) (q [r [fa 7 0 1, l 8 7,
  o 9 (.build [.int .i64 0, .nilsl] [(0, 1, .tmp 8)]), s 2 2 9]] (.ret)) (sk)), r [fa 10 1 1, l 11 10, ia 12 2 11 (n 0), ln 13 2 12, c 14 150 [t 13], c 15 171 [t 14],
  s 2 2 15]] (.ret)⟩
theorem A150_ok : XOk Tryz.prog [] 150 A150 := ⟨Tryz.f150, Tryz.func150, by kernel_rfl, by decide, by kernel_rfl, its_nil (by kernel_rfl)⟩

/- unicode/utf8.word[[]byte] -/
def A151 : AFn := ⟨71, [.tmp 2], q [r [mv 2 (.const (.int .u64 0))], .cond ff (q [d [(m 3 0, 0), (ia 4 1 3 (n 0), 1), (l 5 4, 3), (o 6 (.convI .u64 (t 5)), 7), (m 7 0, 0), (ia 8 1 7 (n 1),
  16), (l 9 8, 48), (o 10 (.convI .u64 (t 9)), 112), (ar 11 .shl (t 10) (.const (.int .u64 8)), 240), (ar 12 .or (t 6) (t 11), 511), (m 13 0, 0), (ia 14 1 13 (n 2),
  1024), (l 15 14, 3072), (o 16 (.convI .u64 (t 15)), 7168), (ar 17 .shl (t 16) (.const (.int .u64 16)), 15360), (ar 18 .or (t 12) (t 17), 32767), (m 19 0,
  0), (ia 20 1 19 (n 3), 65536), (l 21 20, 196608), (o 22 (.convI .u64 (t 21)), 458752), (ar 23 .shl (t 22) (.const (.int .u64 24)), 983040), (ar 24 .or (t 18) (t 23),
  2097151), (m 2 24, 4194303)]] (.ret)) (sk), d [(m 25 0, 0), (ia 26 1 25 (n 0), 1), (l 27 26, 3), (o 28 (.convI .u64 (t 27)), 7), (m 29 0, 0), (ia 30 1 29 (n 1),
  16), (l 31 30, 48), (o 32 (.convI .u64 (t 31)), 112), (ar 33 .shl (t 32) (.const (.int .u64 8)), 240), (ar 34 .or (t 28) (t 33), 511), (m 35 0, 0), (ia 36 1 35 (n 2),
  1024), (l 37 36, 3072), (o 38 (.convI .u64 (t 37)), 7168), (ar 39 .shl (t 38) (.const (.int .u64 16)), 15360), (ar 40 .or (t 34) (t 39), 32767), (m 41 0,
  0), (ia 42 1 41 (n 3), 65536), (l 43 42, 196608), (o 44 (.convI .u64 (t 43)), 458752), (ar 45 .shl (t 44) (.const (.int .u64 24)), 983040), (ar 46 .or (t 40) (t 45),
  2097151), (m 47 0, 0), (ia 48 1 47 (n 4), 4194304), (l 49 48, 12582912), (o 50 (.convI .u64 (t 49)), 29360128), (ar 51 .shl (t 50) (.const (.int .u64 32)),
  62914560), (ar 52 .or (t 46) (t 51), 134217727), (m 53 0, 0), (ia 54 1 53 (n 5), 268435456), (l 55 54, 805306368), (o 56 (.convI .u64 (t 55)), 1879048192),
  (ar 57 .shl (t 56) (.const (.int .u64 40)), 4026531840), (ar 58 .or (t 52) (t 57), 8589934591), (m 59 0, 0), (ia 60 1 59 (n 6), 17179869184), (l 61 60,
  51539607552), (o 62 (.convI .u64 (t 61)), 120259084288), (ar 63 .shl (t 62) (.const (.int .u64 48)), 257698037760), (ar 64 .or (t 58) (t 63), 549755813887),
  (m 65 0, 0), (ia 66 1 65 (n 7), 1099511627776), (l 67 66, 3298534883328), (o 68 (.convI .u64 (t 67)), 7696581394432), (ar 69 .shl (t 68) (.const (.int .u64 56)),
  16492674416640), (ar 70 .or (t 64) (t 69), 35184372088831), (m 2 70, 70368744177663)]] (.ret)⟩
theorem A151_ok : XOk Tryz.prog [] 151 A151 := ⟨Tryz.f151, Tryz.func151, by kernel_rfl, by decide, by kernel_rfl, its_nil (by kernel_rfl)⟩

/- internal/strconv.FormatInt -/
def A152 : AFn := ⟨54, [.tmp 4], q [r [mv 4 (.const (.str []))], q [r [m 10 1, ar 11 .eql (t 10) (n 10)]] (.cond (t 11) (q [q [r [m 12 0, ar 13 .leq (n 0) (t 12), m 14 13, og 15 (.mov (t 0)) 14 true,
  og 16 (.arith .lss (t 15) (n 100)) 14 true, o 17 (.pick (t 14) (t 16) ff)]] (.cond (t 17) (q [r [m 18 0, c 19 172 [t 18], m 4 19]] (.ret)) (sk)), r [o 5 (.new [.int .u8 0,
  .int .u8 0, .int .u8 0, .int .u8 0, .int .u8 0, .int .u8 0, .int .u8 0, .int .u8 0, .int .u8 0, .int .u8 0, .int .u8 0, .int .u8 0, .int .u8 0, .int .u8 0,
  .int .u8 0, .int .u8 0, .int .u8 0, .int .u8 0, .int .u8 0, .int .u8 0, .int .u8 0, .int .u8 0, .int .u8 0, .int .u8 0])], r [m 20 0, o 21 (.convI .u64 (t 20)),
  m 6 21], q [r [m 22 0, ar 23 .lss (t 22) (n 0)]] (.cond (t 23) (r [m 24 6, o 25 (.un .neg (t 24)), m 6 25]) (sk)), r [m 26 6, c 27 173 [t 26], m 7 27],
  r [m 28 7, ar 29 .add (n 1) (t 28), o 30 (.stuck), m 31 6, c 32 174 [t 30, t 31]], q [r [m 33 0, ar 34 .lss (t 33) (n 0)]] (.cond (t 34) (q [r [o 35 (.idxArrA 24 1 (t 5) (n 0)),
  sv 1 35 (.const (.int .u8 45))], r [m 36 7, ar 37 .add (n 1) (t 36), o 38 (.stuck), o 39 (.xo .b2s [t 38]), m 4 39]] (.ret)) (sk)), r [m 40 7, ar 41 .add (n 1) (t 40),
  o 42 (.stuck), o 43 (.xo .b2s [t 42]), m 4 43]] (.ret)) (sk)), r [m 45 0, o 46 (.convI .u64 (t 45)), m 47 1, m 48 0, ar 49 .lss (t 48) (n 0), c 50 175 [.const (.nilsl),
  t 46, t 47, t 49, ff], m 44 50, ex 51 44 0, ex 52 44 1, m 8 51, m 9 52], r [m 53 9, m 4 53]] (.ret)⟩
theorem A152_ok : XOk Tryz.prog [] 152 A152 := ⟨Tryz.f152, Tryz.func152, by kernel_rfl, by decide, by kernel_rfl, its_nil (by kernel_rfl)⟩

/- unicode/utf8.AppendRune -/
def A153 : AFn := ⟨16, [.tmp 4], q [r [mv 4 (.const (.nilsl))], q [r [m 5 1, o 6 (.convI .u32 (t 5)), ar 7 .leq (t 6) (.const (.int .u32 127))]] (.cond (t 7) (q [r [m 8 0, m 9 1, o 10 (.convI .u8 (t 9)),
  o 11 (.buildSl 1 1 [.int .u8 0] [(0, 1, .tmp 10)]), o 12 (.app 1 1 (t 8) (t 11)), m 4 12]] (.ret)) (sk)), r [m 13 0, m 14 1, c 15 176 [t 13, t 14], m 4 15]] (.ret)⟩
theorem A153_ok : XOk Tryz.prog [] 153 A153 := ⟨Tryz.f153, Tryz.func153, by kernel_rfl, by decide, by kernel_rfl, its_nil (by kernel_rfl)⟩

/- (*sync/atomic.Bool).Load -/
def A155 : AFn := ⟨8, [.tmp 2], q [r [mv 2 ff], r [m 3 0, o 4 (.nilchk (t 3)), fa 5 0 4, c 6 177 [t 5], ar 7 .neq (t 6) (.const (.int .u32 0)), m 2 7]] (.ret)⟩
theorem A155_ok : XOk Tryz.prog [] 155 A155 := ⟨Tryz.f155, Tryz.func155, by kernel_rfl, by decide, by kernel_rfl, its_nil (by kernel_rfl)⟩

/- (*sync.Once).doSlow -/
def A156 : AFn := ⟨21, [], q [r [m 4 0, o 5 (.nilchk (t 4)), fa 6 1 5, c 7 178 [t 6]], r [m 8 0, o 9 (.nilchk (t 8)), fa 10 1 9, on (.stuck)], r [m 11 0, o 12 (.nilchk (t 11)), fa 13 0 12,
  c 14 155 [t 13], o 15 (.un .not (t 14))]] (.cond (t 15) (q [r [m 16 0, o 17 (.nilchk (t 16)), fa 18 0 17, on (.stuck)]] (r [m 19 1, o 20 (.call (t 19) [])])) (sk))⟩
theorem A156_ok : XOk Tryz.prog [] 156 A156 := ⟨Tryz.f156, Tryz.func156, by kernel_rfl, by decide, by kernel_rfl, its_nil (by kernel_rfl)⟩

/- (*strings.Replacer).build -/
def A157 : AFn := ⟨132, [.tmp 2], q [r [mv 2 (.const (.nilif))], r [m 15 0, o 16 (.nilchk (t 15)), fa 17 4 16, l 18 17, m 3 18], q [r [m 19 3, le 20 19, ar 21 .eql (t 20) (n 2), m 22 21,
  og 23 (.mov (t 3)) 22 true, og 24 (.idxA 1 (t 23) (n 0)) 22 true, og 25 (.ld1 (t 24)) 22 true, og 26 (.lenS (t 25)) 22 true, og 27 (.arith .gtr (t 26) (n 1)) 22 true,
  o 28 (.pick (t 22) (t 27) ff)]] (.cond (t 28) (q [d [(m 29 3, 0), (ia 30 1 29 (n 0), 1), (l 31 30, 3), (m 32 3, 0), (ia 33 1 32 (n 1), 8), (l 34 33, 24),
  (c 35 181 [t 31, t 34], 63), (o 36 (.stuck), 127), (m 2 36, 255)]] (.ret)) (sk)), r [mv 4 tt], q [r [mv 5 (n 0)]] (.block 0 (.loop (q [q [r [m 37 5, m 38 3,
  le 39 38, ar 40 .lss (t 37) (t 39)]] (.cond (t 40) (sk) (.exit 0)), .block 1 (q [q [r [m 43 3, m 44 5, ia 45 1 43 (t 44), l 46 45, o 47 (.lenS (t 46)),
  ar 48 .neq (t 47) (n 1)]] (.cond (t 48) (q [r [m 49 3, c 50 182 [t 49], o 51 (.stuck), m 2 51]] (.ret)) (sk)), r [m 52 3, m 53 5, ar 54 .add (t 53) (n 1),
  ia 55 1 52 (t 54), l 56 55, o 57 (.lenS (t 56)), ar 58 .neq (t 57) (n 1)]] (.cond (t 58) (r [mv 4 ff]) (sk)))] (r [m 41 5, ar 42 .add (t 41) (n 2), m 5 42])))),
  q [r [m 59 4]] (.cond (t 59) (q [r [o 60 (.build [.int .u8 0, .int .u8 0, .int .u8 0, .int .u8 0, .int .u8 0, .int .u8 0, .int .u8 0, .int .u8 0, .int .u8 0,
  .int .u8 0, .int .u8 0, .int .u8 0, .int .u8 0, .int .u8 0, .int .u8 0, .int .u8 0, .int .u8 0, .int .u8 0, .int .u8 0, .int .u8 0, .int .u8 0, .int .u8 0,
  .int .u8 0, .int .u8 0, .int .u8 0, .int .u8 0, .int .u8 0, .int .u8 0, .int .u8 0, .int .u8 0, .int .u8 0, .int .u8 0, .int .u8 0, .int .u8 0, .int .u8 0,
  .int .u8 0, .int .u8 0, .int .u8 0, .int .u8 0, .int .u8 0, .int .u8 0, .int .u8 0, .int .u8 0, .int .u8 0, .int .u8 0, .int .u8 0, .int .u8 0, .int .u8 0,
  .int .u8 0, .int .u8 0, .int .u8 0, .int .u8 0, .int .u8 0, .int .u8 0, .int .u8 0, .int .u8 0, .int .u8 0, .int .u8 0, .int .u8 0, .int .u8 0, .int .u8 0,
  .int .u8 0, .int .u8 0, .int .u8 0, .int .u8 0, .int .u8 0, .int .u8 0, .int .u8 0, .int .u8 0, .int .u8 0, .int .u8 0, .int .u8 0, .int .u8 0, .int .u8 0,
  .int .u8 0, .int .u8 0, .int .u8 0, .int .u8 0, .int .u8 0, .int .u8 0, .int .u8 0, .int .u8 0, .int .u8 0, .int .u8 0, .int .u8 0, .int .u8 0, .int .u8 0,
  .int .u8 0, .int .u8 0, .int .u8 0, .int .u8 0, .int .u8 0, .int .u8 0, .int .u8 0, .int .u8 0, .int .u8 0, .int .u8 0, .int .u8 0, .int .u8 0, .int .u8 0,
  .int .u8 0, .int .u8 0, .int .u8 0, .int .u8 0, .int .u8 0, .int .u8 0, .int .u8 0, .int .u8 0, .int .u8 0, .int .u8 0, .int .u8 0, .int .u8 0, .int .u8 0,
  .int .u8 0, .int .u8 0, .int .u8 0, .int .u8 0, .int .u8 0, .int .u8 0, .int .u8 0, .int .u8 0, .int .u8 0, .int .u8 0, .int .u8 0, .int .u8 0, .int .u8 0,
  .int .u8 0, .int .u8 0, .int .u8 0, .int .u8 0, .int .u8 0, .int .u8 0, .int .u8 0, .int .u8 0, .int .u8 0, .int .u8 0, .int .u8 0, .int .u8 0, .int .u8 0,
  .int .u8 0, .int .u8 0, .int .u8 0, .int .u8 0, .int .u8 0, .int .u8 0, .int .u8 0, .int .u8 0, .int .u8 0, .int .u8 0, .int .u8 0, .int .u8 0, .int .u8 0,
  .int .u8 0, .int .u8 0, .int .u8 0, .int .u8 0, .int .u8 0, .int .u8 0, .int .u8 0, .int .u8 0, .int .u8 0, .int .u8 0, .int .u8 0, .int .u8 0, .int .u8 0,
  .int .u8 0, .int .u8 0, .int .u8 0, .int .u8 0, .int .u8 0, .int .u8 0, .int .u8 0, .int .u8 0, .int .u8 0, .int .u8 0, .int .u8 0, .int .u8 0, .int .u8 0,
  .int .u8 0, .int .u8 0, .int .u8 0, .int .u8 0, .int .u8 0, .int .u8 0, .int .u8 0, .int .u8 0, .int .u8 0, .int .u8 0, .int .u8 0, .int .u8 0, .int .u8 0,
  .int .u8 0, .int .u8 0, .int .u8 0, .int .u8 0, .int .u8 0, .int .u8 0, .int .u8 0, .int .u8 0, .int .u8 0, .int .u8 0, .int .u8 0, .int .u8 0, .int .u8 0,
  .int .u8 0, .int .u8 0, .int .u8 0, .int .u8 0, .int .u8 0, .int .u8 0, .int .u8 0, .int .u8 0, .int .u8 0, .int .u8 0, .int .u8 0, .int .u8 0, .int .u8 0,
  .int .u8 0, .int .u8 0, .int .u8 0, .int .u8 0, .int .u8 0, .int .u8 0, .int .u8 0, .int .u8 0, .int .u8 0, .int .u8 0, .int .u8 0, .int .u8 0, .int .u8 0,
  .int .u8 0, .int .u8 0, .int .u8 0, .int .u8 0, .int .u8 0, .int .u8 0, .int .u8 0, .int .u8 0, .int .u8 0, .int .u8 0, .int .u8 0, .int .u8 0, .int .u8 0,
  .int .u8 0, .int .u8 0, .int .u8 0, .int .u8 0, .int .u8 0, .int .u8 0, .int .u8 0, .int .u8 0, .int .u8 0, .int .u8 0, .int .u8 0, .int .u8 0, .int .u8 0] []),
  o 6 (.new [.int .u8 0, .int .u8 0, .int .u8 0, .int .u8 0, .int .u8 0, .int .u8 0, .int .u8 0, .int .u8 0, .int .u8 0, .int .u8 0, .int .u8 0, .int .u8 0,
  .int .u8 0, .int .u8 0, .int .u8 0, .int .u8 0, .int .u8 0, .int .u8 0, .int .u8 0, .int .u8 0, .int .u8 0, .int .u8 0, .int .u8 0, .int .u8 0, .int .u8 0,
  .int .u8 0, .int .u8 0, .int .u8 0, .int .u8 0, .int .u8 0, .int .u8 0, .int .u8 0, .int .u8 0, .int .u8 0, .int .u8 0, .int .u8 0, .int .u8 0, .int .u8 0,
  .int .u8 0, .int .u8 0, .int .u8 0, .int .u8 0, .int .u8 0, .int .u8 0, .int .u8 0, .int .u8 0, .int .u8 0, .int .u8 0, .int .u8 0, .int .u8 0, .int .u8 0,
  .int .u8 0, .int .u8 0, .int .u8 0, .int .u8 0, .int .u8 0, .int .u8 0, .int .u8 0, .int .u8 0, .int .u8 0, .int .u8 0, .int .u8 0, .int .u8 0, .int .u8 0,
  .int .u8 0, .int .u8 0, .int .u8 0, .int .u8 0, .int .u8 0, .int .u8 0, .int .u8 0, .int .u8 0, .int .u8 0, .int .u8 0, .int .u8 0, .int .u8 0, .int .u8 0,
  .int .u8 0, .int .u8 0, .int .u8 0, .int .u8 0, .int .u8 0, .int .u8 0, .int .u8 0, .int .u8 0, .int .u8 0, .int .u8 0, .int .u8 0, .int .u8 0, .int .u8 0,
  .int .u8 0, .int .u8 0, .int .u8 0, .int .u8 0, .int .u8 0, .int .u8 0, .int .u8 0, .int .u8 0, .int .u8 0, .int .u8 0, .int .u8 0, .int .u8 0, .int .u8 0,
  .int .u8 0, .int .u8 0, .int .u8 0, .int .u8 0, .int .u8 0, .int .u8 0, .int .u8 0, .int .u8 0, .int .u8 0, .int .u8 0, .int .u8 0, .int .u8 0, .int .u8 0,
  .int .u8 0, .int .u8 0, .int .u8 0, .int .u8 0, .int .u8 0, .int .u8 0, .int .u8 0, .int .u8 0, .int .u8 0, .int .u8 0, .int .u8 0, .int .u8 0, .int .u8 0,
  .int .u8 0, .int .u8 0, .int .u8 0, .int .u8 0, .int .u8 0, .int .u8 0, .int .u8 0, .int .u8 0, .int .u8 0, .int .u8 0, .int .u8 0, .int .u8 0, .int .u8 0,
  .int .u8 0, .int .u8 0, .int .u8 0, .int .u8 0, .int .u8 0, .int .u8 0, .int .u8 0, .int .u8 0, .int .u8 0, .int .u8 0, .int .u8 0, .int .u8 0, .int .u8 0,
  .int .u8 0, .int .u8 0, .int .u8 0, .int .u8 0, .int .u8 0, .int .u8 0, .int .u8 0, .int .u8 0, .int .u8 0, .int .u8 0, .int .u8 0, .int .u8 0, .int .u8 0,
  .int .u8 0, .int .u8 0, .int .u8 0, .int .u8 0, .int .u8 0, .int .u8 0, .int .u8 0, .int .u8 0, .int .u8 0, .int .u8 0, .int .u8 0, .int .u8 0, .int .u8 0,
  .int .u8 0, .int .u8 0, .int .u8 0, .int .u8 0, .int .u8 0, .int .u8 0, .int .u8 0, .int .u8 0, .int .u8 0, .int .u8 0, .int .u8 0, .int .u8 0, .int .u8 0,
  .int .u8 0, .int .u8 0, .int .u8 0, .int .u8 0, .int .u8 0, .int .u8 0, .int .u8 0, .int .u8 0, .int .u8 0, .int .u8 0, .int .u8 0, .int .u8 0, .int .u8 0,
  .int .u8 0, .int .u8 0, .int .u8 0, .int .u8 0, .int .u8 0, .int .u8 0, .int .u8 0, .int .u8 0, .int .u8 0, .int .u8 0, .int .u8 0, .int .u8 0, .int .u8 0,
  .int .u8 0, .int .u8 0, .int .u8 0, .int .u8 0, .int .u8 0, .int .u8 0, .int .u8 0, .int .u8 0, .int .u8 0, .int .u8 0, .int .u8 0, .int .u8 0, .int .u8 0,
  .int .u8 0, .int .u8 0, .int .u8 0, .int .u8 0, .int .u8 0, .int .u8 0, .int .u8 0, .int .u8 0, .int .u8 0, .int .u8 0, .int .u8 0, .int .u8 0, .int .u8 0,
  .int .u8 0, .int .u8 0, .int .u8 0, .int .u8 0, .int .u8 0, .int .u8 0, .int .u8 0, .int .u8 0, .int .u8 0, .int .u8 0]), s 256 6 60], q [r [mv 61 (n 0)]] (.block 2 (.loop (q [r [ar 62 .lss (t 61) (n 256)],
  .cond (t 62) (sk) (.exit 2), .block 3 (q [r [m 63 61, m 7 63]] (r [m 64 7, m 65 7, o 66 (.convI .u8 (t 65)), o 67 (.idxArrA 256 1 (t 6) (t 64)), s 1 67 66]))] (r [ar 68 .add (t 61) (n 1),
  m 61 68])))), q [r [m 69 3, le 70 69, ar 71 .sub (t 70) (n 2), m 8 71]] (.block 4 (.loop (q [q [r [m 72 8, ar 73 .geq (t 72) (n 0)]] (.cond (t 73) (sk) (.exit 4)),
  .block 5 (q [r [m 76 3, m 77 8, ia 78 1 76 (t 77), l 79 78, o 80 (.idxS (t 79) (n 0)), m 9 80], r [m 81 3, m 82 8, ar 83 .add (t 82) (n 1), ia 84 1 81 (t 83),
  l 85 84, o 86 (.idxS (t 85) (n 0)), m 10 86]] (r [m 87 9, m 88 10, o 89 (.idxArrA 256 1 (t 6) (t 87)), s 1 89 88]))] (r [m 74 8, ar 75 .sub (t 74) (n 2),
  m 8 75])))), r [o 90 (.stuck), m 2 90]] (.ret)) (sk)), r [m 91 3, le 92 91, ar 93 .quo (t 92) (n 2), o 94 (.mksl 1 16 [.str []] (n 0) (t 93)), o 95 (.build [.nilsl,
  .nilsl, .nilsl, .nilsl, .nilsl, .nilsl, .nilsl, .nilsl, .nilsl, .nilsl, .nilsl, .nilsl, .nilsl, .nilsl, .nilsl, .nilsl, .nilsl, .nilsl, .nilsl, .nilsl,
  .nilsl, .nilsl, .nilsl, .nilsl, .nilsl, .nilsl, .nilsl, .nilsl, .nilsl, .nilsl, .nilsl, .nilsl, .nilsl, .nilsl, .nilsl, .nilsl, .nilsl, .nilsl, .nilsl,
  .nilsl, .nilsl, .nilsl, .nilsl, .nilsl, .nilsl, .nilsl, .nilsl, .nilsl, .nilsl, .nilsl, .nilsl, .nilsl, .nilsl, .nilsl, .nilsl, .nilsl, .nilsl, .nilsl,
  .nilsl, .nilsl, .nilsl, .nilsl, .nilsl, .nilsl, .nilsl, .nilsl, .nilsl, .nilsl, .nilsl, .nilsl, .nilsl, .nilsl, .nilsl, .nilsl, .nilsl, .nilsl, .nilsl,
  .nilsl, .nilsl, .nilsl, .nilsl, .nilsl, .nilsl, .nilsl, .nilsl, .nilsl, .nilsl, .nilsl, .nilsl, .nilsl, .nilsl, .nilsl, .nilsl, .nilsl, .nilsl, .nilsl,
  .nilsl, .nilsl, .nilsl, .nilsl, .nilsl, .nilsl, .nilsl, .nilsl, .nilsl, .nilsl, .nilsl, .nilsl, .nilsl, .nilsl, .nilsl, .nilsl, .nilsl, .nilsl, .nilsl,
  .nilsl, .nilsl, .nilsl, .nilsl, .nilsl, .nilsl, .nilsl, .nilsl, .nilsl, .nilsl, .nilsl, .nilsl, .nilsl, .nilsl, .nilsl, .nilsl, .nilsl, .nilsl, .nilsl,
  .nilsl, .nilsl, .nilsl, .nilsl, .nilsl, .nilsl, .nilsl, .nilsl, .nilsl, .nilsl, .nilsl, .nilsl, .nilsl, .nilsl, .nilsl, .nilsl, .nilsl, .nilsl, .nilsl,
  .nilsl, .nilsl, .nilsl, .nilsl, .nilsl, .nilsl, .nilsl, .nilsl, .nilsl, .nilsl, .nilsl, .nilsl, .nilsl, .nilsl, .nilsl, .nilsl, .nilsl, .nilsl, .nilsl,
  .nilsl, .nilsl, .nilsl, .nilsl, .nilsl, .nilsl, .nilsl, .nilsl, .nilsl, .nilsl, .nilsl, .nilsl, .nilsl, .nilsl, .nilsl, .nilsl, .nilsl, .nilsl, .nilsl,
  .nilsl, .nilsl, .nilsl, .nilsl, .nilsl, .nilsl, .nilsl, .nilsl, .nilsl, .nilsl, .nilsl, .nilsl, .nilsl, .nilsl, .nilsl, .nilsl, .nilsl, .nilsl, .nilsl,
  .nilsl, .nilsl, .nilsl, .nilsl, .nilsl, .nilsl, .nilsl, .nilsl, .nilsl, .nilsl, .nilsl, .nilsl, .nilsl, .nilsl, .nilsl, .nilsl, .nilsl, .nilsl, .nilsl,
  .nilsl, .nilsl, .nilsl, .nilsl, .nilsl, .nilsl, .nilsl, .nilsl, .nilsl, .nilsl, .nilsl, .nilsl, .nilsl, .nilsl, .nilsl, .nilsl, .nilsl, .nilsl, .nilsl,
  .nilsl, .nilsl, .nilsl, .nilsl, .nilsl, .nilsl, .nilsl, .nilsl, .nilsl] [(256, 1, .tmp 94)]), o 11 (.new [.nilsl, .nilsl, .nilsl, .nilsl, .nilsl, .nilsl,
  .nilsl, .nilsl, .nilsl, .nilsl, .nilsl, .nilsl, .nilsl, .nilsl, .nilsl, .nilsl, .nilsl, .nilsl, .nilsl, .nilsl, .nilsl, .nilsl, .nilsl, .nilsl, .nilsl,
  .nilsl, .nilsl, .nilsl, .nilsl, .nilsl, .nilsl, .nilsl, .nilsl, .nilsl, .nilsl, .nilsl, .nilsl, .nilsl, .nilsl, .nilsl, .nilsl, .nilsl, .nilsl, .nilsl,
  .nilsl, .nilsl, .nilsl, .nilsl, .nilsl, .nilsl, .nilsl, .nilsl, .nilsl, .nilsl, .nilsl, .nilsl, .nilsl, .nilsl, .nilsl, .nilsl, .nilsl, .nilsl, .nilsl,
  .nilsl, .nilsl, .nilsl, .nilsl, .nilsl, .nilsl, .nilsl, .nilsl, .nilsl, .nilsl, .nilsl, .nilsl, .nilsl, .nilsl, .nilsl, .nilsl, .nilsl, .nilsl, .nilsl,
  .nilsl, .nilsl, .nilsl, .nilsl, .nilsl, .nilsl, .nilsl, .nilsl, .nilsl, .nilsl, .nilsl, .nilsl, .nilsl, .nilsl, .nilsl, .nilsl, .nilsl, .nilsl, .nilsl,
  .nilsl, .nilsl, .nilsl, .nilsl, .nilsl, .nilsl, .nilsl, .nilsl, .nilsl, .nilsl, .nilsl, .nilsl, .nilsl, .nilsl, .nilsl, .nilsl, .nilsl, .nilsl, .nilsl,
  .nilsl, .nilsl, .nilsl, .nilsl, .nilsl, .nilsl, .nilsl, .nilsl, .nilsl, .nilsl, .nilsl, .nilsl, .nilsl, .nilsl, .nilsl, .nilsl, .nilsl, .nilsl, .nilsl,
  .nilsl, .nilsl, .nilsl, .nilsl, .nilsl, .nilsl, .nilsl, .nilsl, .nilsl, .nilsl, .nilsl, .nilsl, .nilsl, .nilsl, .nilsl, .nilsl, .nilsl, .nilsl, .nilsl,
  .nilsl, .nilsl, .nilsl, .nilsl, .nilsl, .nilsl, .nilsl, .nilsl, .nilsl, .nilsl, .nilsl, .nilsl, .nilsl, .nilsl, .nilsl, .nilsl, .nilsl, .nilsl, .nilsl,
  .nilsl, .nilsl, .nilsl, .nilsl, .nilsl, .nilsl, .nilsl, .nilsl, .nilsl, .nilsl, .nilsl, .nilsl, .nilsl, .nilsl, .nilsl, .nilsl, .nilsl, .nilsl, .nilsl,
  .nilsl, .nilsl, .nilsl, .nilsl, .nilsl, .nilsl, .nilsl, .nilsl, .nilsl, .nilsl, .nilsl, .nilsl, .nilsl, .nilsl, .nilsl, .nilsl, .nilsl, .nilsl, .nilsl,
  .nilsl, .nilsl, .nilsl, .nilsl, .nilsl, .nilsl, .nilsl, .nilsl, .nilsl, .nilsl, .nilsl, .nilsl, .nilsl, .nilsl, .nilsl, .nilsl, .nilsl, .nilsl, .nilsl,
  .nilsl, .nilsl, .nilsl, .nilsl, .nilsl, .nilsl, .nilsl, .nilsl, .nilsl, .nilsl, .nilsl, .nilsl, .nilsl, .nilsl, .nilsl, .nilsl, .nilsl, .nilsl, .nilsl,
  .nilsl, .nilsl, .nilsl, .nilsl]), s 257 11 95], q [r [m 96 3, le 97 96, ar 98 .sub (t 97) (n 2), m 12 98]] (.block 6 (.loop (q [q [r [m 99 12, ar 100 .geq (t 99) (n 0)]] (.cond (t 100) (sk) (.exit 6)),
  .block 7 (q [r [m 103 3, m 104 12, ia 105 1 103 (t 104), l 106 105, o 107 (.idxS (t 106) (n 0)), m 13 107], r [m 108 3, m 109 12, ar 110 .add (t 109) (n 1),
  ia 111 1 108 (t 110), l 112 111, m 14 112], q [r [m 113 13, fa 114 0 11, o 115 (.idxArrA 256 1 (t 114) (t 113)), l 116 115, o 117 (.eqn .sl false (t 116) (.const (.nilsl)))]] (.cond (t 117) (r [fa 118 256 11,
  l 119 118, m 120 13, o 121 (.buildSl 1 1 [.int .u8 0] [(0, 1, .tmp 120)]), o 122 (.xo .b2s [t 121]), o 123 (.buildSl 1 1 [.str []] [(0, 1, .tmp 122)]),
  o 124 (.app 1 16 (t 119) (t 123)), fa 125 256 11, s 1 125 124]) (sk))] (r [m 126 13, m 127 14, o 128 (.stuck), fa 129 0 11, o 130 (.idxArrA 256 1 (t 129) (t 126)),
  s 1 130 128]))] (r [m 101 12, ar 102 .sub (t 101) (n 2), m 12 102])))), r [o 131 (.stuck), m 2 131]] (.ret)⟩
theorem A157_ok : XOk Tryz.prog [] 157 A157 := ⟨Tryz.f157, Tryz.func157, by kernel_rfl, by decide, by kernel_rfl, its_nil (by kernel_rfl)⟩

/- internal/strconv.ParseInt -/
def A158 : AFn := ⟨73, [.tmp 6, .tmp 7], q [r [mv 6 (n 0), mv 7 (.const (.nilif))], q [r [m 12 0, ar 13 .eql (t 12) (.const (.str []))]] (.cond (t 13) (q [r [o 14 (.stuck), mv 6 (n 0), m 7 14]] (.ret)) (sk)),
  r [mv 8 ff], q [r [m 15 0, o 16 (.idxS (t 15) (n 0))]] (.block 0 (q [r [ar 18 .eql (t 16) (.const (.int .u8 43)), m 17 18]] (.cond (t 17) (r [m 19 0, o 20 (.slS (t 19) (some (.const (.int .i64 1))) none),
  m 0 20]) (q [r [ar 22 .eql (t 16) (.const (.int .u8 45)), m 21 22]] (.cond (t 21) (q [r [m 23 0, o 24 (.slS (t 23) (some (.const (.int .i64 1))) none),
  m 0 24]] (r [mv 8 tt])) (sk)))))), r [mv 9 (.const (.int .u64 0))], r [m 26 0, m 27 1, m 28 2, c 29 183 [t 26, t 27, t 28], m 25 29, ex 30 25 0, ex 31 25 1,
  m 9 30, m 7 31], q [r [m 32 7, o 33 (.xo (.eqif true) [t 32]), m 34 33, og 35 (.mov (t 7)) 34 true, og 36 (.stuck) 34 true, og 37 (.stuck) 34 true, o 38 (.pick (t 34) (t 37) ff)]] (.cond (t 38) (q [r [m 39 7,
  mv 6 (n 0), m 7 39]] (.ret)) (sk)), q [r [m 40 2, ar 41 .eql (t 40) (n 0)]] (.cond (t 41) (r [mv 2 (n 64)]) (sk)), r [m 42 2, ar 43 .sub (t 42) (n 1),
  o 44 (.convI .u64 (t 43)), ar 45 .shl (.const (.int .u64 1)) (t 44), m 10 45], q [r [m 46 8, o 47 (.un .not (t 46)), m 48 47, og 49 (.mov (t 9)) 48 true,
  og 50 (.mov (t 10)) 48 true, og 51 (.arith .geq (t 49) (t 50)) 48 true, o 52 (.pick (t 48) (t 51) ff)]] (.cond (t 52) (q [r [m 53 10, ar 54 .sub (t 53) (.const (.int .u64 1)),
  o 55 (.convI .i64 (t 54)), o 56 (.stuck), m 6 55, m 7 56]] (.ret)) (sk)), q [r [m 57 8, m 58 57, og 59 (.mov (t 9)) 58 true, og 60 (.mov (t 10)) 58 true,
  og 61 (.arith .gtr (t 59) (t 60)) 58 true, o 62 (.pick (t 58) (t 61) ff)]] (.cond (t 62) (q [r [m 63 10, o 64 (.convI .i64 (t 63)), o 65 (.un .neg (t 64)),
  o 66 (.stuck), m 6 65, m 7 66]] (.ret)) (sk)), r [m 67 9, o 68 (.convI .i64 (t 67)), m 11 68], q [r [m 69 8]] (.cond (t 69) (r [m 70 11, o 71 (.un .neg (t 70)),
  m 11 71]) (sk)), r [m 72 11, m 6 72, mv 7 (.const (.nilif))]] (.ret)⟩
theorem A158_ok : XOk Tryz.prog [] 158 A158 := ⟨Tryz.f158, Tryz.func158, by kernel_rfl, by decide, by kernel_rfl, its_nil (by kernel_rfl)⟩

/- strconv.syntaxError -/
def A159 : AFn := ⟨11, [.tmp 4], q [r [mv 4 (.const (.nilptr))], d [(m 5 0, 0), (m 6 1, 0), (c 7 184 [t 6], 2), (o 8 (.ld1 (.const (.gptr 3 0))), 0), (o 9 (.build [.str [], .str [], .nilif] [(0,
  1, .tmp 5), (1, 1, .tmp 7), (2, 1, .tmp 8)]), 15), (o 10 (.box (t 9)), 31), (m 4 10, 63)]] (.ret)⟩
theorem A159_ok : XOk Tryz.prog [] 159 A159 := ⟨Tryz.f159, Tryz.func159, by kernel_rfl, by decide, by kernel_rfl, its_nil (by kernel_rfl)⟩

/- strconv.rangeError -/
def A160 : AFn := ⟨11, [.tmp 4], q [r [mv 4 (.const (.nilptr))], d [(m 5 0, 0), (m 6 1, 0), (c 7 184 [t 6], 2), (o 8 (.ld1 (.const (.gptr 4 0))), 0), (o 9 (.build [.str [], .str [], .nilif] [(0,
  1, .tmp 5), (1, 1, .tmp 7), (2, 1, .tmp 8)]), 15), (o 10 (.box (t 9)), 31), (m 4 10, 63)]] (.ret)⟩
theorem A160_ok : XOk Tryz.prog [] 160 A160 := ⟨Tryz.f160, Tryz.func160, by kernel_rfl, by decide, by kernel_rfl, its_nil (by kernel_rfl)⟩

/- strconv.baseError -/
def A161 : AFn := ⟨16, [.tmp 6], q [r [mv 6 (.const (.nilptr))], r [m 7 0, m 8 1, c 9 184 [t 8], m 10 2, c 11 99 [t 10], ar 12 .add (.const (.str [105, 110, 118, 97, 108, 105, 100, 32,
  98, 97, 115, 101, 32])) (t 11), c 13 185 [t 12], o 14 (.build [.str [], .str [], .nilif] [(0, 1, .tmp 7), (1, 1, .tmp 9), (2, 1, .tmp 13)]), o 15 (.box (t 14)),
  m 6 15]] (.ret)⟩
theorem A161_ok : XOk Tryz.prog [] 161 A161 := ⟨Tryz.f161, Tryz.func161, by kernel_rfl, by decide, by kernel_rfl, its_nil (by kernel_rfl)⟩

/- strconv.bitSizeError -/
def A162 : AFn := ⟨16, [.tmp 6], q [r [mv 6 (.const (.nilptr))], r [m 7 0, m 8 1, c 9 184 [t 8], m 10 2, c 11 99 [t 10], ar 12 .add (.const (.str [105, 110, 118, 97, 108, 105, 100, 32,
  98, 105, 116, 32, 115, 105, 122, 101, 32])) (t 11), c 13 185 [t 12], o 14 (.build [.str [], .str [], .nilif] [(0, 1, .tmp 7), (1, 1, .tmp 9), (2, 1, .tmp 13)]),
  o 15 (.box (t 14)), m 6 15]] (.ret)⟩
theorem A162_ok : XOk Tryz.prog [] 162 A162 := ⟨Tryz.f162, Tryz.func162, by kernel_rfl, by decide, by kernel_rfl, its_nil (by kernel_rfl)⟩

/- strings.explode -/
def A163 : AFn := ⟨50, [.tmp 4], q [r [mv 4 (.const (.nilsl))], r [m 10 0, c 11 186 [t 10], m 5 11], q [r [m 12 1, ar 13 .lss (t 12) (n 0), m 14 13, og 15 (.mov (t 1)) 14 false, og 16 (.mov (t 5)) 14 false,
  og 17 (.arith .gtr (t 15) (t 16)) 14 false, o 18 (.pick (t 14) tt (t 17))]] (.cond (t 18) (r [m 19 5, m 1 19]) (sk)), r [m 20 1, o 21 (.mksl 1 16 [.str []] (t 20) (t 20)),
  m 6 21], q [r [mv 7 (n 0)]] (.block 0 (.loop (q [q [r [m 22 7, m 23 1, ar 24 .sub (t 23) (n 1), ar 25 .lss (t 22) (t 24)]] (.cond (t 25) (sk) (.exit 0)),
  .block 1 (q [r [m 29 0, c 30 148 [t 29], m 28 30, ex 31 28 0, ex 32 28 1, m 8 31, m 9 32], r [m 33 6, m 34 7, m 35 0, m 36 9, o 37 (.slS (t 35) none (some (.tmp 36))),
  ia 38 1 33 (t 34), s 1 38 37]] (r [m 39 0, m 40 9, o 41 (.slS (t 39) (some (.tmp 40)) none), m 0 41]))] (r [m 26 7, ar 27 .add (t 26) (n 1), m 7 27])))),
  q [r [m 42 1, ar 43 .gtr (t 42) (n 0)]] (.cond (t 43) (r [m 44 6, m 45 1, ar 46 .sub (t 45) (n 1), m 47 0, ia 48 1 44 (t 46), s 1 48 47]) (sk)), r [m 49 6,
  m 4 49]] (.ret)⟩
theorem A163_ok : XOk Tryz.prog [] 163 A163 := ⟨Tryz.f163, Tryz.func163, by kernel_rfl, by decide, by kernel_rfl, its_nil (by kernel_rfl)⟩

/- strings.Count -/
def A164 : AFn := ⟨34, [.tmp 4], q [r [mv 4 (n 0)], q [r [m 7 1, o 8 (.lenS (t 7)), ar 9 .eql (t 8) (n 0)]] (.cond (t 9) (q [r [m 10 0, c 11 186 [t 10], ar 12 .add (t 11) (n 1), m 4 12]] (.ret)) (sk)),
  q [r [m 13 1, o 14 (.lenS (t 13)), ar 15 .eql (t 14) (n 1)]] (.cond (t 15) (q [r [m 16 0, m 17 1, o 18 (.idxS (t 17) (n 0)), c 19 187 [t 16, t 18], m 4 19]] (.ret)) (sk)),
  r [mv 5 (n 0)]] (.block 0 (.loop (.block 1 (q [r [m 20 0, m 21 1, c 22 72 [t 20, t 21], m 6 22], q [r [m 23 6, ar 24 .eql (t 23) (n (-1))]] (.cond (t 24) (q [r [m 25 5,
  m 4 25]] (.ret)) (sk)), r [m 26 5, ar 27 .add (t 26) (n 1), m 5 27]] (r [m 28 0, m 29 6, m 30 1, o 31 (.lenS (t 30)), ar 32 .add (t 29) (t 31), o 33 (.slS (t 28) (some (.tmp 32)) none),
  m 0 33])))))⟩
theorem A164_ok : XOk Tryz.prog [] 164 A164 := ⟨Tryz.f164, Tryz.func164, by kernel_rfl, by decide, by kernel_rfl, its_nil (by kernel_rfl)⟩

/- internal/stringslite.CutPrefix -/
def A165 : AFn := ⟨15, [.tmp 4, .tmp 5], q [r [mv 4 (.const (.str [])), mv 5 ff], q [r [m 6 0, m 7 1, c 8 188 [t 6, t 7], o 9 (.un .not (t 8))]] (.cond (t 9) (q [r [m 10 0, m 4 10, mv 5 ff]] (.ret)) (sk)),
  r [m 11 0, m 12 1, o 13 (.lenS (t 12)), o 14 (.slS (t 11) (some (.tmp 13)) none), m 4 14, mv 5 tt]] (.ret)⟩
theorem A165_ok : XOk Tryz.prog [] 165 A165 := ⟨Tryz.f165, Tryz.func165, by kernel_rfl, by decide, by kernel_rfl, its_nil (by kernel_rfl)⟩

/- unicode/utf8.decodeRuneInStringSlow -/
def A166 : AFn := ⟨117, [.tmp 2, .tmp 3], q [r [mv 2 (.const (.int .i32 0)), mv 3 (n 0)], r [m 13 0, o 14 (.lenS (t 13)), m 4 14], q [r [m 15 4, ar 16 .lss (t 15) (n 1)]] (.cond (t 16) (q [r [mv 2 (.const (.int .i32 65533)),
  mv 3 (n 0)]] (.ret)) (sk)), r [m 17 0, o 18 (.idxS (t 17) (n 0)), m 5 18], r [m 19 5, o 20 (.idxArrA 256 1 (.const (.gptr 1 0)) (t 19)), l 21 20, m 6 21],
  q [r [m 22 6, ar 23 .geq (t 22) (.const (.int .u8 240))]] (.cond (t 23) (q [r [m 24 6, o 25 (.convI .i32 (t 24)), ar 26 .shl (t 25) (.const (.int .u64 31)),
  ar 27 .shr (t 26) (.const (.int .u64 31)), m 7 27], r [m 28 0, o 29 (.idxS (t 28) (n 0)), o 30 (.convI .i32 (t 29)), m 31 7, ar 32 .andNot (t 30) (t 31),
  m 33 7, ar 34 .and (.const (.int .i32 65533)) (t 33), ar 35 .or (t 32) (t 34), m 2 35, mv 3 (n 1)]] (.ret)) (sk)), r [m 36 6, ar 37 .and (t 36) (.const (.int .u8 7)),
  o 38 (.convI .i64 (t 37)), m 8 38], r [m 39 6, ar 40 .shr (t 39) (.const (.int .u64 4)), o 41 (.idxArrA 16 2 (.const (.gptr 2 0)) (t 40)), ln 42 2 41,
  o 9 (.new [.int .u8 0, .int .u8 0]), s 2 9 42], q [r [m 43 4, m 44 8, ar 45 .lss (t 43) (t 44)]] (.cond (t 45) (q [r [mv 2 (.const (.int .i32 65533)),
  mv 3 (n 1)]] (.ret)) (sk)), r [m 46 0, o 47 (.idxS (t 46) (n 1)), m 10 47], q [r [m 48 10, fa 49 0 9, l 50 49, ar 51 .lss (t 48) (t 50), m 52 51, og 53 (.fldA 1 (t 9)) 52 false,
  og 54 (.ld1 (t 53)) 52 false, og 55 (.mov (t 10)) 52 false, og 56 (.arith .lss (t 54) (t 55)) 52 false, o 57 (.pick (t 52) tt (t 56))]] (.cond (t 57) (q [r [mv 2 (.const (.int .i32 65533)),
  mv 3 (n 1)]] (.ret)) (sk)), q [r [m 58 8, ar 59 .leq (t 58) (n 2)]] (.cond (t 59) (q [r [m 60 5, ar 61 .and (t 60) (.const (.int .u8 31)), o 62 (.convI .i32 (t 61)),
  ar 63 .shl (t 62) (.const (.int .u64 6)), m 64 10, ar 65 .and (t 64) (.const (.int .u8 63)), o 66 (.convI .i32 (t 65)), ar 67 .or (t 63) (t 66), m 2 67,
  mv 3 (n 2)]] (.ret)) (sk)), r [m 68 0, o 69 (.idxS (t 68) (n 2)), m 11 69], q [r [m 70 11, ar 71 .lss (t 70) (.const (.int .u8 128)), m 72 71, og 73 (.mov (t 11)) 72 false,
  og 74 (.arith .lss (.const (.int .u8 191)) (t 73)) 72 false, o 75 (.pick (t 72) tt (t 74))]] (.cond (t 75) (q [r [mv 2 (.const (.int .i32 65533)), mv 3 (n 1)]] (.ret)) (sk)),
  q [r [m 76 8, ar 77 .leq (t 76) (n 3)]] (.cond (t 77) (q [r [m 78 5, ar 79 .and (t 78) (.const (.int .u8 15)), o 80 (.convI .i32 (t 79)), ar 81 .shl (t 80) (.const (.int .u64 12)),
  m 82 10, ar 83 .and (t 82) (.const (.int .u8 63)), o 84 (.convI .i32 (t 83)), ar 85 .shl (t 84) (.const (.int .u64 6)), ar 86 .or (t 81) (t 85), m 87 11,
  ar 88 .and (t 87) (.const (.int .u8 63)), o 89 (.convI .i32 (t 88)), ar 90 .or (t 86) (t 89), m 2 90, mv 3 (n 3)]] (.ret)) (sk)), r [m 91 0, o 92 (.idxS (t 91) (n 3)),
  m 12 92], q [r [m 93 12, ar 94 .lss (t 93) (.const (.int .u8 128)), m 95 94, og 96 (.mov (t 12)) 95 false, og 97 (.arith .lss (.const (.int .u8 191)) (t 96)) 95 false,
  o 98 (.pick (t 95) tt (t 97))]] (.cond (t 98) (q [r [mv 2 (.const (.int .i32 65533)), mv 3 (n 1)]] (.ret)) (sk)), r [m 99 5, ar 100 .and (t 99) (.const (.int .u8 7)),
  o 101 (.convI .i32 (t 100)), ar 102 .shl (t 101) (.const (.int .u64 18)), m 103 10, ar 104 .and (t 103) (.const (.int .u8 63)), o 105 (.convI .i32 (t 104)),
  ar 106 .shl (t 105) (.const (.int .u64 12)), ar 107 .or (t 102) (t 106), m 108 11, ar 109 .and (t 108) (.const (.int .u8 63)), o 110 (.convI .i32 (t 109)),
  ar 111 .shl (t 110) (.const (.int .u64 6)), ar 112 .or (t 107) (t 111), m 113 12, ar 114 .and (t 113) (.const (.int .u8 63)), o 115 (.convI .i32 (t 114)),
  ar 116 .or (t 112) (t 115), m 2 116, mv 3 (n 4)]] (.ret)⟩
theorem A166_ok : XOk Tryz.prog [] 166 A166 := ⟨Tryz.f166, Tryz.func166, by kernel_rfl, by decide, by kernel_rfl, its_nil (by kernel_rfl)⟩

/- widgetry/expr.fields -/
def A167 : AFn := ⟨38, [.tmp 2], q [r [o 1 (.box (t 0)), mv 2 ff], q [r [fa 3 0 1, l 4 3]] (.block 0 (q [q [r [ar 6 .eql (t 4) (n 1), m 5 6]] (.cond (t 5) (sk) (r [ar 7 .eql (t 4) (n 2),
  m 5 7]))] (.cond (t 5) (q [r [fa 8 2 1, l 9 8, ar 10 .eql (t 9) (.const (.str [])), m 11 10, og 12 (.fldA 3 (t 1)) 11 true, og 13 (.ld1 (t 12)) 11 true,
  og 14 (.len (t 13)) 11 true, og 15 (.arith .eql (t 14) (n 0)) 11 true, o 16 (.pick (t 11) (t 15) ff), m 2 16]] (.ret)) (q [r [ar 18 .eql (t 4) (n 3), m 17 18]] (.cond (t 17) (q [r [fa 19 1 1,
  l 20 19, ar 21 .eql (t 20) (n 0), m 22 21, og 23 (.fldA 3 (t 1)) 22 true, og 24 (.ld1 (t 23)) 22 true, og 25 (.len (t 24)) 22 true, og 26 (.arith .eql (t 25) (n 0)) 22 true,
  o 27 (.pick (t 22) (t 26) ff), m 2 27]] (.ret)) (q [r [ar 29 .eql (t 4) (n 4), m 28 29]] (.cond (t 28) (q [r [fa 30 1 1, l 31 30, ar 32 .eql (t 31) (n 0),
  m 33 32, og 34 (.fldA 2 (t 1)) 33 true, og 35 (.ld1 (t 34)) 33 true, og 36 (.arith .eql (t 35) (.const (.str []))) 33 true, o 37 (.pick (t 33) (t 36) ff),
  m 2 37]] (.ret)) (sk)))))))), r [mv 2 ff]] (.ret)⟩
theorem A167_ok : XOk Tryz.prog [] 167 A167 := ⟨Tryz.f167, Tryz.func167, by kernel_rfl, by decide, by kernel_rfl, its_nil (by kernel_rfl)⟩

/- widgetry/expr.within -/
def A168 : AFn := ⟨9, [.tmp 2], q [r [mv 2 ff], r [m 3 0, ar 4 .geq (t 3) (n (-1099511627776)), m 5 4, og 6 (.mov (t 0)) 5 true, og 7 (.arith .leq (t 6) (n 1099511627776)) 5 true, o 8 (.pick (t 5) (t 7) ff),
  m 2 8]] (.ret)⟩
theorem A168_ok : XOk Tryz.prog [] 168 A168 := ⟨Tryz.f168, Tryz.func168, by kernel_rfl, by decide, by kernel_rfl, its_nil (by kernel_rfl)⟩

/- unicode/utf8.ValidString -/
def A169 : AFn := ⟨169, [.tmp 2], q [r [mv 2 ff], .block 0 (.loop (q [q [r [m 7 0, o 8 (.lenS (t 7)), ar 9 .gtr (t 8) (n 0)]] (.cond (t 9) (sk) (.exit 0))] (.block 1 (q [r [m 10 0, o 11 (.idxS (t 10) (n 0)),
  m 3 11], q [r [m 12 3, ar 13 .lss (t 12) (.const (.int .u8 128))]] (.cond (t 13) (q [r [m 14 0, o 15 (.slS (t 14) (some (.const (.int .i64 1))) none),
  m 0 15], q [r [m 16 0, o 17 (.lenS (t 16)), ar 18 .gtr (t 17) (n 8), m 19 18, og 20 (.mov (t 0)) 19 true, og 21 (.call (fn 189) [t 20]) 19 true, og 22 (.arith .and (t 21) (.const (.int .u64 9259542123273814144))) 19 true,
  og 23 (.arith .eql (t 22) (.const (.int .u64 0))) 19 true, o 24 (.pick (t 19) (t 23) ff)]] (.cond (t 24) (q [r [m 25 0, o 26 (.slS (t 25) (some (.const (.int .i64 8))) none),
  m 0 26], d [(m 27 0, 0), (o 28 (.lenS (t 27)), 1), (ar 29 .gtr (t 28) (n 16), 3), (m 30 29, 7), (og 31 (.mov (t 0)) 30 true, 15), (og 32 (.call (fn 189) [t 31]) 30 true,
  31), (og 33 (.mov (t 0)) 30 true, 15), (og 34 (.slS (t 33) (some (.const (.int .i64 8))) none) 30 true, 79), (og 35 (.call (fn 189) [t 34]) 30 true, 255),
  (og 36 (.arith .or (t 32) (t 35)) 30 true, 511), (og 37 (.arith .and (t 36) (.const (.int .u64 9259542123273814144))) 30 true, 1023), (og 38 (.arith .eql (t 37) (.const (.int .u64 0))) 30 true,
  2047), (o 39 (.pick (t 30) (t 38) ff), 4095)]] (.cond (t 39) (q [r [m 40 0, o 41 (.slS (t 40) (some (.const (.int .i64 16))) none), m 0 41]] (.block 2 (.loop (q [q [d [(m 42 0,
  0), (o 43 (.lenS (t 42)), 1), (ar 44 .gtr (t 43) (n 32), 3), (m 45 44, 7), (og 46 (.mov (t 0)) 45 true, 15), (og 47 (.call (fn 189) [t 46]) 45 true, 31),
  (og 48 (.mov (t 0)) 45 true, 15), (og 49 (.slS (t 48) (some (.const (.int .i64 8))) none) 45 true, 79), (og 50 (.call (fn 189) [t 49]) 45 true, 255), (og 51 (.arith .or (t 47) (t 50)) 45 true,
  511), (og 52 (.mov (t 0)) 45 true, 15), (og 53 (.slS (t 52) (some (.const (.int .i64 16))) none) 45 true, 1039), (og 54 (.call (fn 189) [t 53]) 45 true,
  3583), (og 55 (.mov (t 0)) 45 true, 15), (og 56 (.slS (t 55) (some (.const (.int .i64 24))) none) 45 true, 8207), (og 57 (.call (fn 189) [t 56]) 45 true,
  32255), (og 58 (.arith .or (t 54) (t 57)) 45 true, 65023), (og 59 (.arith .or (t 51) (t 58)) 45 true, 131071), (og 60 (.arith .and (t 59) (.const (.int .u64 9259542123273814144))) 45 true,
  262143), (og 61 (.arith .eql (t 60) (.const (.int .u64 0))) 45 true, 524287), (o 62 (.pick (t 45) (t 61) ff), 1048575)]] (.cond (t 62) (sk) (.exit 2))] (.block 3 (r [m 63 0,
  o 64 (.slS (t 63) (some (.const (.int .i64 32))) none), m 0 64])))))) (sk))) (sk))] (.exit 1)) (sk)), r [m 65 3, o 66 (.idxArrA 256 1 (.const (.gptr 1 0)) (t 65)),
  l 67 66, m 4 67], r [m 68 4, ar 69 .and (t 68) (.const (.int .u8 7)), o 70 (.convI .i64 (t 69)), m 5 70], r [m 71 4, ar 72 .shr (t 71) (.const (.int .u64 4)),
  o 73 (.idxArrA 16 2 (.const (.gptr 2 0)) (t 72)), ln 74 2 73, o 6 (.new [.int .u8 0, .int .u8 0]), s 2 6 74], r [m 75 5]] (.block 4 (q [r [ar 77 .eql (t 75) (n 2),
  m 76 77]] (.cond (t 76) (q [q [d [(m 78 0, 0), (o 79 (.lenS (t 78)), 1), (ar 80 .lss (t 79) (n 2), 3), (m 81 80, 7), (og 82 (.mov (t 0)) 81 false, 15),
  (og 83 (.idxS (t 82) (n 1)) 81 false, 31), (og 84 (.fldA 0 (t 6)) 81 false, 15), (og 85 (.ld1 (t 84)) 81 false, 79), (og 86 (.arith .lss (t 83) (t 85)) 81 false,
  255), (o 87 (.pick (t 81) tt (t 86)), 511), (m 88 87, 1023), (og 89 (.fldA 1 (t 6)) 88 false, 2047), (og 90 (.ld1 (t 89)) 88 false, 4095), (og 91 (.mov (t 0)) 88 false,
  2047), (og 92 (.idxS (t 91) (n 1)) 88 false, 10239), (og 93 (.arith .lss (t 90) (t 92)) 88 false, 32767), (o 94 (.pick (t 88) tt (t 93)), 65535)]] (.cond (t 94) (q [r [mv 2 ff]] (.ret)) (sk))] (r [m 95 0,
  o 96 (.slS (t 95) (some (.const (.int .i64 2))) none), m 0 96])) (q [r [ar 98 .eql (t 75) (n 3), m 97 98]] (.cond (t 97) (q [q [d [(m 99 0, 0), (o 100 (.lenS (t 99)),
  1), (ar 101 .lss (t 100) (n 3), 3), (m 102 101, 7), (og 103 (.mov (t 0)) 102 false, 15), (og 104 (.idxS (t 103) (n 1)) 102 false, 31), (og 105 (.fldA 0 (t 6)) 102 false,
  15), (og 106 (.ld1 (t 105)) 102 false, 79), (og 107 (.arith .lss (t 104) (t 106)) 102 false, 255), (o 108 (.pick (t 102) tt (t 107)), 511), (m 109 108,
  1023), (og 110 (.fldA 1 (t 6)) 109 false, 2047), (og 111 (.ld1 (t 110)) 109 false, 4095), (og 112 (.mov (t 0)) 109 false, 2047), (og 113 (.idxS (t 112) (n 1)) 109 false,
  10239), (og 114 (.arith .lss (t 111) (t 113)) 109 false, 32767), (o 115 (.pick (t 109) tt (t 114)), 65535), (m 116 115, 131071), (og 117 (.mov (t 0)) 116 false,
  262143), (og 118 (.idxS (t 117) (n 2)) 116 false, 524287), (og 119 (.arith .lss (t 118) (.const (.int .u8 128))) 116 false, 1048575), (o 120 (.pick (t 116) tt (t 119)),
  2097151), (m 121 120, 4194303), (og 122 (.mov (t 0)) 121 false, 8388607), (og 123 (.idxS (t 122) (n 2)) 121 false, 16777215), (og 124 (.arith .lss (.const (.int .u8 191)) (t 123)) 121 false,
  33554431), (o 125 (.pick (t 121) tt (t 124)), 67108863)]] (.cond (t 125) (q [r [mv 2 ff]] (.ret)) (sk))] (r [m 126 0, o 127 (.slS (t 126) (some (.const (.int .i64 3))) none),
  m 0 127])) (q [r [ar 129 .eql (t 75) (n 4), m 128 129]] (.cond (t 128) (q [q [d [(m 130 0, 0), (o 131 (.lenS (t 130)), 1), (ar 132 .lss (t 131) (n 4),
  3), (m 133 132, 7), (og 134 (.mov (t 0)) 133 false, 15), (og 135 (.idxS (t 134) (n 1)) 133 false, 31), (og 136 (.fldA 0 (t 6)) 133 false, 15), (og 137 (.ld1 (t 136)) 133 false,
  79), (og 138 (.arith .lss (t 135) (t 137)) 133 false, 255), (o 139 (.pick (t 133) tt (t 138)), 511), (m 140 139, 1023), (og 141 (.fldA 1 (t 6)) 140 false,
  2047), (og 142 (.ld1 (t 141)) 140 false, 4095), (og 143 (.mov (t 0)) 140 false, 2047), (og 144 (.idxS (t 143) (n 1)) 140 false, 10239), (og 145 (.arith .lss (t 142) (t 144)) 140 false,
  32767), (o 146 (.pick (t 140) tt (t 145)), 65535), (m 147 146, 131071), (og 148 (.mov (t 0)) 147 false, 262143), (og 149 (.idxS (t 148) (n 2)) 147 false,
  524287), (og 150 (.arith .lss (t 149) (.const (.int .u8 128))) 147 false, 1048575), (o 151 (.pick (t 147) tt (t 150)), 2097151), (m 152 151, 4194303),
  (og 153 (.mov (t 0)) 152 false, 8388607), (og 154 (.idxS (t 153) (n 2)) 152 false, 16777215), (og 155 (.arith .lss (.const (.int .u8 191)) (t 154)) 152 false,
  33554431), (o 156 (.pick (t 152) tt (t 155)), 67108863), (m 157 156, 134217727), (og 158 (.mov (t 0)) 157 false, 268435455), (og 159 (.idxS (t 158) (n 3)) 157 false,
  536870911), (og 160 (.arith .lss (t 159) (.const (.int .u8 128))) 157 false, 1073741823), (o 161 (.pick (t 157) tt (t 160)), 2147483647), (m 162 161, 4294967295),
  (og 163 (.mov (t 0)) 162 false, 8589934591), (og 164 (.idxS (t 163) (n 3)) 162 false, 17179869183), (og 165 (.arith .lss (.const (.int .u8 191)) (t 164)) 162 false,
  34359738367), (o 166 (.pick (t 162) tt (t 165)), 68719476735)]] (.cond (t 166) (q [r [mv 2 ff]] (.ret)) (sk))] (r [m 167 0, o 168 (.slS (t 167) (some (.const (.int .i64 4))) none),
  m 0 168])) (q [r [mv 2 ff]] (.ret))))))))))))), r [mv 2 tt]] (.ret)⟩
theorem A169_ok : XOk Tryz.prog [] 169 A169 := ⟨Tryz.f169, Tryz.func169, by kernel_rfl, by decide, by kernel_rfl, its_nil (by kernel_rfl)⟩

/- widgetry/expr.common -/
def A170 : AFn := ⟨34, [.cell 2 (some 2), .tmp 3], q [r [o 2 (.new [.int .i64 0, .nilsl]), mv 3 ff], q [r [m 8 0, le 9 8, ar 10 .eql (t 9) (n 0)]] (.cond (t 10) (q [r [o 11 (.build [.int .i64 0, .nilsl] [(0,
  1, .const (.int .i64 4))]), s 2 2 11, mv 3 tt]] (.ret)) (sk)), r [m 12 0, ia 13 2 12 (n 0), ln 14 2 13, o 4 (.new [.int .i64 0, .nilsl]), s 2 4 14], q [r [m 15 0,
  o 16 (.sl 2 (t 15) (some (.const (.int .i64 1))) none none), le 17 16, mv 18 (n 0)]] (.block 0 (.loop (q [r [ar 19 .lss (t 18) (t 17)], .cond (t 19) (sk) (.exit 0),
  .block 1 (q [r [ia 20 2 16 (t 18), ln 21 2 20, o 6 (.new [.int .i64 0, .nilsl]), s 2 6 21], r [mv 7 ff], r [ln 23 2 4, ln 24 2 6, c 25 190 [t 23, t 24],
  m 22 25, ex 26 22 0, ex 27 22 1, s 2 4 26, m 7 27], r [m 28 7, o 29 (.un .not (t 28))]] (.cond (t 29) (q [r [o 30 (.build [.int .i64 0, .nilsl] []), s 2 2 30,
  mv 3 ff]] (.ret)) (sk)))] (r [ar 31 .add (t 18) (n 1), m 18 31])))), r [ln 32 2 4, c 33 171 [t 32], s 2 2 33, mv 3 tt]] (.ret)⟩
theorem A170_ok : XOk Tryz.prog [] 170 A170 := ⟨Tryz.f170, Tryz.func170, by kernel_rfl, by decide, by kernel_rfl, its_nil (by kernel_rfl)⟩

/- widgetry/expr.listOf -/
def A171 : AFn := ⟨6, [.cell 2 (some 2)], q [r [o 1 (.box (t 0)), o 2 (.new [.int .i64 0, .nilsl])], r [ln 3 2 1, o 4 (.buildSl 2 1 [.int .i64 0, .nilsl] [(0, 2, .tmp 3)]), o 5 (.build [.int .i64 0,
  .nilsl] [(0, 1, .const (.int .i64 4)), (1, 1, .tmp 4)]), s 2 2 5]] (.ret)⟩
theorem A171_ok : XOk Tryz.prog [] 171 A171 := ⟨Tryz.f171, Tryz.func171, by kernel_rfl, by decide, by kernel_rfl, its_nil (by kernel_rfl)⟩

/- internal/strconv.small -/
def A172 : AFn := ⟨15, [.tmp 2], q [r [mv 2 (.const (.str []))], q [r [m 3 0, ar 4 .lss (t 3) (n 10)]] (.cond (t 4) (q [r [m 5 0, m 6 0, ar 7 .add (t 6) (n 1), o 8 (.slS (.const (.str [48,
  49, 50, 51, 52, 53, 54, 55, 56, 57, 97, 98, 99, 100, 101, 102, 103, 104, 105, 106, 107, 108, 109, 110, 111, 112, 113, 114, 115, 116, 117, 118, 119, 120,
  121, 122])) (some (.tmp 5)) (some (.tmp 7))), m 2 8]] (.ret)) (sk)), r [m 9 0, ar 10 .mul (t 9) (n 2), m 11 0, ar 12 .mul (t 11) (n 2), ar 13 .add (t 12) (n 2),
  o 14 (.slS (.const (.str [48, 48, 48, 49, 48, 50, 48, 51, 48, 52, 48, 53, 48, 54, 48, 55, 48, 56, 48, 57, 49, 48, 49, 49, 49, 50, 49, 51, 49, 52, 49, 53,
  49, 54, 49, 55, 49, 56, 49, 57, 50, 48, 50, 49, 50, 50, 50, 51, 50, 52, 50, 53, 50, 54, 50, 55, 50, 56, 50, 57, 51, 48, 51, 49, 51, 50, 51, 51, 51, 52,
  51, 53, 51, 54, 51, 55, 51, 56, 51, 57, 52, 48, 52, 49, 52, 50, 52, 51, 52, 52, 52, 53, 52, 54, 52, 55, 52, 56, 52, 57, 53, 48, 53, 49, 53, 50, 53, 51,
  53, 52, 53, 53, 53, 54, 53, 55, 53, 56, 53, 57, 54, 48, 54, 49, 54, 50, 54, 51, 54, 52, 54, 53, 54, 54, 54, 55, 54, 56, 54, 57, 55, 48, 55, 49, 55, 50,
  55, 51, 55, 52, 55, 53, 55, 54, 55, 55, 55, 56, 55, 57, 56, 48, 56, 49, 56, 50, 56, 51, 56, 52, 56, 53, 56, 54, 56, 55, 56, 56, 56, 57, 57, 48, 57, 49,
  57, 50, 57, 51, 57, 52, 57, 53, 57, 54, 57, 55, 57, 56, 57, 57])) (some (.tmp 10)) (some (.tmp 13))), m 2 14]] (.ret)⟩
theorem A172_ok : XOk Tryz.prog [] 172 A172 := ⟨Tryz.f172, Tryz.func172, by kernel_rfl, by decide, by kernel_rfl, its_nil (by kernel_rfl)⟩

/- internal/strconv.numDigits -/
def A173 : AFn := ⟨15, [.tmp 2], q [r [mv 2 (n 0)], r [m 4 0, c 5 192 [t 4], c 6 191 [t 5], m 3 6], r [m 7 3, m 8 0, m 9 3, o 10 (.idxArrA 20 1 (.const (.gptr 5 0)) (t 9)), l 11 10, ar 12 .geq (t 8) (t 11),
  c 13 193 [t 12], ar 14 .add (t 7) (t 13), m 2 14]] (.ret)⟩
theorem A173_ok : XOk Tryz.prog [] 173 A173 := ⟨Tryz.f173, Tryz.func173, by kernel_rfl, by decide, by kernel_rfl, its_nil (by kernel_rfl)⟩

/- internal/strconv.formatBase10 -/
def A174 : AFn := ⟨167, [], q [r [m 17 0, le 18 17, m 4 18], .block 0 (.loop (q [q [r [m 19 4, ar 20 .geq (t 19) (n 8)]] (.cond (t 20) (sk) (.exit 0))] (.block 1 (q [r [m 21 1, ar 22 .rem (t 21) (.const (.int .u64 100000000)),
  o 23 (.convI .u32 (t 22)), m 5 23], r [m 24 1, ar 25 .quo (t 24) (.const (.int .u64 100000000)), m 1 25], r [m 26 5, ar 27 .quo (t 26) (.const (.int .u32 10000)),
  m 28 5, ar 29 .rem (t 28) (.const (.int .u32 10000)), m 6 27, m 7 29], r [m 30 7, ar 31 .quo (t 30) (.const (.int .u32 100)), ar 32 .mul (t 31) (.const (.int .u32 2)),
  m 33 7, ar 34 .rem (t 33) (.const (.int .u32 100)), ar 35 .mul (t 34) (.const (.int .u32 2)), m 8 32, m 9 35], r [m 36 6, ar 37 .quo (t 36) (.const (.int .u32 100)),
  ar 38 .mul (t 37) (.const (.int .u32 2)), m 39 6, ar 40 .rem (t 39) (.const (.int .u32 100)), ar 41 .mul (t 40) (.const (.int .u32 2)), m 10 38, m 11 41],
  d [(m 42 0, 0), (m 43 4, 0), (ar 44 .sub (t 43) (n 1), 2), (m 45 0, 0), (m 46 4, 0), (ar 47 .sub (t 46) (n 2), 16), (m 48 9, 0), (ar 49 .add (t 48) (.const (.int .u32 1)),
  64), (o 50 (.idxS (.const (.str [48, 48, 48, 49, 48, 50, 48, 51, 48, 52, 48, 53, 48, 54, 48, 55, 48, 56, 48, 57, 49, 48, 49, 49, 49, 50, 49, 51, 49, 52,
  49, 53, 49, 54, 49, 55, 49, 56, 49, 57, 50, 48, 50, 49, 50, 50, 50, 51, 50, 52, 50, 53, 50, 54, 50, 55, 50, 56, 50, 57, 51, 48, 51, 49, 51, 50, 51, 51,
  51, 52, 51, 53, 51, 54, 51, 55, 51, 56, 51, 57, 52, 48, 52, 49, 52, 50, 52, 51, 52, 52, 52, 53, 52, 54, 52, 55, 52, 56, 52, 57, 53, 48, 53, 49, 53, 50,
  53, 51, 53, 52, 53, 53, 53, 54, 53, 55, 53, 56, 53, 57, 54, 48, 54, 49, 54, 50, 54, 51, 54, 52, 54, 53, 54, 54, 54, 55, 54, 56, 54, 57, 55, 48, 55, 49,
  55, 50, 55, 51, 55, 52, 55, 53, 55, 54, 55, 55, 55, 56, 55, 57, 56, 48, 56, 49, 56, 50, 56, 51, 56, 52, 56, 53, 56, 54, 56, 55, 56, 56, 56, 57, 57, 48,
  57, 49, 57, 50, 57, 51, 57, 52, 57, 53, 57, 54, 57, 55, 57, 56, 57, 57])) (t 49)), 192), (m 51 9, 0), (o 52 (.idxS (.const (.str [48, 48, 48, 49, 48, 50,
  48, 51, 48, 52, 48, 53, 48, 54, 48, 55, 48, 56, 48, 57, 49, 48, 49, 49, 49, 50, 49, 51, 49, 52, 49, 53, 49, 54, 49, 55, 49, 56, 49, 57, 50, 48, 50, 49,
  50, 50, 50, 51, 50, 52, 50, 53, 50, 54, 50, 55, 50, 56, 50, 57, 51, 48, 51, 49, 51, 50, 51, 51, 51, 52, 51, 53, 51, 54, 51, 55, 51, 56, 51, 57, 52, 48,
  52, 49, 52, 50, 52, 51, 52, 52, 52, 53, 52, 54, 52, 55, 52, 56, 52, 57, 53, 48, 53, 49, 53, 50, 53, 51, 53, 52, 53, 53, 53, 54, 53, 55, 53, 56, 53, 57,
  54, 48, 54, 49, 54, 50, 54, 51, 54, 52, 54, 53, 54, 54, 54, 55, 54, 56, 54, 57, 55, 48, 55, 49, 55, 50, 55, 51, 55, 52, 55, 53, 55, 54, 55, 55, 55, 56,
  55, 57, 56, 48, 56, 49, 56, 50, 56, 51, 56, 52, 56, 53, 56, 54, 56, 55, 56, 56, 56, 57, 57, 48, 57, 49, 57, 50, 57, 51, 57, 52, 57, 53, 57, 54, 57, 55,
  57, 56, 57, 57])) (t 51)), 512), (ia 53 1 42 (t 44), 455), (s 1 53 50, 2503), (ia 54 1 45 (t 47), 8191), (s 1 54 52, 16383)], d [(m 55 0, 0), (m 56 4,
  0), (ar 57 .sub (t 56) (n 3), 2), (m 58 0, 0), (m 59 4, 0), (ar 60 .sub (t 59) (n 4), 16), (m 61 8, 0), (ar 62 .add (t 61) (.const (.int .u32 1)), 64),
  (o 63 (.idxS (.const (.str [48, 48, 48, 49, 48, 50, 48, 51, 48, 52, 48, 53, 48, 54, 48, 55, 48, 56, 48, 57, 49, 48, 49, 49, 49, 50, 49, 51, 49, 52, 49,
  53, 49, 54, 49, 55, 49, 56, 49, 57, 50, 48, 50, 49, 50, 50, 50, 51, 50, 52, 50, 53, 50, 54, 50, 55, 50, 56, 50, 57, 51, 48, 51, 49, 51, 50, 51, 51, 51,
  52, 51, 53, 51, 54, 51, 55, 51, 56, 51, 57, 52, 48, 52, 49, 52, 50, 52, 51, 52, 52, 52, 53, 52, 54, 52, 55, 52, 56, 52, 57, 53, 48, 53, 49, 53, 50, 53,
  51, 53, 52, 53, 53, 53, 54, 53, 55, 53, 56, 53, 57, 54, 48, 54, 49, 54, 50, 54, 51, 54, 52, 54, 53, 54, 54, 54, 55, 54, 56, 54, 57, 55, 48, 55, 49, 55,
  50, 55, 51, 55, 52, 55, 53, 55, 54, 55, 55, 55, 56, 55, 57, 56, 48, 56, 49, 56, 50, 56, 51, 56, 52, 56, 53, 56, 54, 56, 55, 56, 56, 56, 57, 57, 48, 57,
  49, 57, 50, 57, 51, 57, 52, 57, 53, 57, 54, 57, 55, 57, 56, 57, 57])) (t 62)), 192), (m 64 8, 0), (o 65 (.idxS (.const (.str [48, 48, 48, 49, 48, 50, 48,
  51, 48, 52, 48, 53, 48, 54, 48, 55, 48, 56, 48, 57, 49, 48, 49, 49, 49, 50, 49, 51, 49, 52, 49, 53, 49, 54, 49, 55, 49, 56, 49, 57, 50, 48, 50, 49, 50,
  50, 50, 51, 50, 52, 50, 53, 50, 54, 50, 55, 50, 56, 50, 57, 51, 48, 51, 49, 51, 50, 51, 51, 51, 52, 51, 53, 51, 54, 51, 55, 51, 56, 51, 57, 52, 48, 52,
  49, 52, 50, 52, 51, 52, 52, 52, 53, 52, 54, 52, 55, 52, 56, 52, 57, 53, 48, 53, 49, 53, 50, 53, 51, 53, 52, 53, 53, 53, 54, 53, 55, 53, 56, 53, 57, 54,
  48, 54, 49, 54, 50, 54, 51, 54, 52, 54, 53, 54, 54, 54, 55, 54, 56, 54, 57, 55, 48, 55, 49, 55, 50, 55, 51, 55, 52, 55, 53, 55, 54, 55, 55, 55, 56, 55,
  57, 56, 48, 56, 49, 56, 50, 56, 51, 56, 52, 56, 53, 56, 54, 56, 55, 56, 56, 56, 57, 57, 48, 57, 49, 57, 50, 57, 51, 57, 52, 57, 53, 57, 54, 57, 55, 57,
  56, 57, 57])) (t 64)), 512), (ia 66 1 55 (t 57), 455), (s 1 66 63, 2503), (ia 67 1 58 (t 60), 8191), (s 1 67 65, 16383)], d [(m 68 0, 0), (m 69 4, 0),
  (ar 70 .sub (t 69) (n 5), 2), (m 71 0, 0), (m 72 4, 0), (ar 73 .sub (t 72) (n 6), 16), (m 74 11, 0), (ar 75 .add (t 74) (.const (.int .u32 1)), 64), (o 76 (.idxS (.const (.str [48,
  48, 48, 49, 48, 50, 48, 51, 48, 52, 48, 53, 48, 54, 48, 55, 48, 56, 48, 57, 49, 48, 49, 49, 49, 50, 49, 51, 49, 52, 49, 53, 49, 54, 49, 55, 49, 56, 49,
  57, 50, 48, 50, 49, 50, 50, 50, 51, 50, 52, 50, 53, 50, 54, 50, 55, 50, 56, 50, 57, 51, 48, 51, 49, 51, 50, 51, 51, 51, 52, 51, 53, 51, 54, 51, 55, 51,
  56, 51, 57, 52, 48, 52, 49, 52, 50, 52, 51, 52, 52, 52, 53, 52, 54, 52, 55, 52, 56, 52, 57, 53, 48, 53, 49, 53, 50, 53, 51, 53, 52, 53, 53, 53, 54, 53,
  55, 53, 56, 53, 57, 54, 48, 54, 49, 54, 50, 54, 51, 54, 52, 54, 53, 54, 54, 54, 55, 54, 56, 54, 57, 55, 48, 55, 49, 55, 50, 55, 51, 55, 52, 55, 53, 55,
  54, 55, 55, 55, 56, 55, 57, 56, 48, 56, 49, 56, 50, 56, 51, 56, 52, 56, 53, 56, 54, 56, 55, 56, 56, 56, 57, 57, 48, 57, 49, 57, 50, 57, 51, 57, 52, 57,
  53, 57, 54, 57, 55, 57, 56, 57, 57])) (t 75)), 192), (m 77 11, 0), (o 78 (.idxS (.const (.str [48, 48, 48, 49, 48, 50, 48, 51, 48, 52, 48, 53, 48, 54,
  48, 55, 48, 56, 48, 57, 49, 48, 49, 49, 49, 50, 49, 51, 49, 52, 49, 53, 49, 54, 49, 55, 49, 56, 49, 57, 50, 48, 50, 49, 50, 50, 50, 51, 50, 52, 50, 53,
  50, 54, 50, 55, 50, 56, 50, 57, 51, 48, 51, 49, 51, 50, 51, 51, 51, 52, 51, 53, 51, 54, 51, 55, 51, 56, 51, 57, 52, 48, 52, 49, 52, 50, 52, 51, 52, 52,
  52, 53, 52, 54, 52, 55, 52, 56, 52, 57, 53, 48, 53, 49, 53, 50, 53, 51, 53, 52, 53, 53, 53, 54, 53, 55, 53, 56, 53, 57, 54, 48, 54, 49, 54, 50, 54, 51,
  54, 52, 54, 53, 54, 54, 54, 55, 54, 56, 54, 57, 55, 48, 55, 49, 55, 50, 55, 51, 55, 52, 55, 53, 55, 54, 55, 55, 55, 56, 55, 57, 56, 48, 56, 49, 56, 50,
  56, 51, 56, 52, 56, 53, 56, 54, 56, 55, 56, 56, 56, 57, 57, 48, 57, 49, 57, 50, 57, 51, 57, 52, 57, 53, 57, 54, 57, 55, 57, 56, 57, 57])) (t 77)), 512),
  (ia 79 1 68 (t 70), 455), (s 1 79 76, 2503), (ia 80 1 71 (t 73), 8191), (s 1 80 78, 16383)], d [(m 81 0, 0), (m 82 4, 0), (ar 83 .sub (t 82) (n 7), 2),
  (m 84 0, 0), (m 85 4, 0), (ar 86 .sub (t 85) (n 8), 16), (m 87 10, 0), (ar 88 .add (t 87) (.const (.int .u32 1)), 64), (o 89 (.idxS (.const (.str [48,
  48, 48, 49, 48, 50, 48, 51, 48, 52, 48, 53, 48, 54, 48, 55, 48, 56, 48, 57, 49, 48, 49, 49, 49, 50, 49, 51, 49, 52, 49, 53, 49, 54, 49, 55, 49, 56, 49,
  57, 50, 48, 50, 49, 50, 50, 50, 51, 50, 52, 50, 53, 50, 54, 50, 55, 50, 56, 50, 57, 51, 48, 51, 49, 51, 50, 51, 51, 51, 52, 51, 53, 51, 54, 51, 55, 51,
  56, 51, 57, 52, 48, 52, 49, 52, 50, 52, 51, 52, 52, 52, 53, 52, 54, 52, 55, 52, 56, 52, 57, 53, 48, 53, 49, 53, 50, 53, 51, 53, 52, 53, 53, 53, 54, 53,
  55, 53, 56, 53, 57, 54, 48, 54, 49, 54, 50, 54, 51, 54, 52, 54, 53, 54, 54, 54, 55, 54, 56, 54, 57, 55, 48, 55, 49, 55, 50, 55, 51, 55, 52, 55, 53, 55,
  54, 55, 55, 55, 56, 55, 57, 56, 48, 56, 49, 56, 50, 56, 51, 56, 52, 56, 53, 56, 54, 56, 55, 56, 56, 56, 57, 57, 48, 57, 49, 57, 50, 57, 51, 57, 52, 57,
  53, 57, 54, 57, 55, 57, 56, 57, 57])) (t 88)), 192), (m 90 10, 0), (o 91 (.idxS (.const (.str [48, 48, 48, 49, 48, 50, 48, 51, 48, 52, 48, 53, 48, 54,
  48, 55, 48, 56, 48, 57, 49, 48, 49, 49, 49, 50, 49, 51, 49, 52, 49, 53, 49, 54, 49, 55, 49, 56, 49, 57, 50, 48, 50, 49, 50, 50, 50, 51, 50, 52, 50, 53,
  50, 54, 50, 55, 50, 56, 50, 57, 51, 48, 51, 49, 51, 50, 51, 51, 51, 52, 51, 53, 51, 54, 51, 55, 51, 56, 51, 57, 52, 48, 52, 49, 52, 50, 52, 51, 52, 52,
  52, 53, 52, 54, 52, 55, 52, 56, 52, 57, 53, 48, 53, 49, 53, 50, 53, 51, 53, 52, 53, 53, 53, 54, 53, 55, 53, 56, 53, 57, 54, 48, 54, 49, 54, 50, 54, 51,
  54, 52, 54, 53, 54, 54, 54, 55, 54, 56, 54, 57, 55, 48, 55, 49, 55, 50, 55, 51, 55, 52, 55, 53, 55, 54, 55, 55, 55, 56, 55, 57, 56, 48, 56, 49, 56, 50,
  56, 51, 56, 52, 56, 53, 56, 54, 56, 55, 56, 56, 56, 57, 57, 48, 57, 49, 57, 50, 57, 51, 57, 52, 57, 53, 57, 54, 57, 55, 57, 56, 57, 57])) (t 90)), 512),
  (ia 92 1 81 (t 83), 455), (s 1 92 89, 2503), (ia 93 1 84 (t 86), 8191), (s 1 93 91, 16383)]] (r [m 94 4, ar 95 .sub (t 94) (n 8), m 4 95]))))), r [m 96 1,
  o 97 (.convI .u32 (t 96)), m 12 97], q [r [m 98 4, ar 99 .geq (t 98) (n 4)]] (.cond (t 99) (q [r [m 100 12, ar 101 .rem (t 100) (.const (.int .u32 10000)),
  m 13 101], r [m 102 12, ar 103 .quo (t 102) (.const (.int .u32 10000)), m 12 103], r [m 104 13, ar 105 .quo (t 104) (.const (.int .u32 100)), ar 106 .mul (t 105) (.const (.int .u32 2)),
  m 107 13, ar 108 .rem (t 107) (.const (.int .u32 100)), ar 109 .mul (t 108) (.const (.int .u32 2)), m 14 106, m 15 109], d [(m 110 0, 0), (m 111 4, 0),
  (ar 112 .sub (t 111) (n 1), 2), (m 113 0, 0), (m 114 4, 0), (ar 115 .sub (t 114) (n 2), 16), (m 116 15, 0), (ar 117 .add (t 116) (.const (.int .u32 1)),
  64), (o 118 (.idxS (.const (.str [48, 48, 48, 49, 48, 50, 48, 51, 48, 52, 48, 53, 48, 54, 48, 55, 48, 56, 48, 57, 49, 48, 49, 49, 49, 50, 49, 51, 49, 52,
  49, 53, 49, 54, 49, 55, 49, 56, 49, 57, 50, 48, 50, 49, 50, 50, 50, 51, 50, 52, 50, 53, 50, 54, 50, 55, 50, 56, 50, 57, 51, 48, 51, 49, 51, 50, 51, 51,
  51, 52, 51, 53, 51, 54, 51, 55, 51, 56, 51, 57, 52, 48, 52, 49, 52, 50, 52, 51, 52, 52, 52, 53, 52, 54, 52, 55, 52, 56, 52, 57, 53, 48, 53, 49, 53, 50,
  53, 51, 53, 52, 53, 53, 53, 54, 53, 55, 53, 56, 53, 57, 54, 48, 54, 49, 54, 50, 54, 51, 54, 52, 54, 53, 54, 54, 54, 55, 54, 56, 54, 57, 55, 48, 55, 49,
  55, 50, 55, 51, 55, 52, 55, 53, 55, 54, 55, 55, 55, 56, 55, 57, 56, 48, 56, 49, 56, 50, 56, 51, 56, 52, 56, 53, 56, 54, 56, 55, 56, 56, 56, 57, 57, 48,
  57, 49, 57, 50, 57, 51, 57, 52, 57, 53, 57, 54, 57, 55, 57, 56, 57, 57])) (t 117)), 192), (m 119 15, 0), (o 120 (.idxS (.const (.str [48, 48, 48, 49, 48,
  50, 48, 51, 48, 52, 48, 53, 48, 54, 48, 55, 48, 56, 48, 57, 49, 48, 49, 49, 49, 50, 49, 51, 49, 52, 49, 53, 49, 54, 49, 55, 49, 56, 49, 57, 50, 48, 50,
  49, 50, 50, 50, 51, 50, 52, 50, 53, 50, 54, 50, 55, 50, 56, 50, 57, 51, 48, 51, 49, 51, 50, 51, 51, 51, 52, 51, 53, 51, 54, 51, 55, 51, 56, 51, 57, 52,
  48, 52, 49, 52, 50, 52, 51, 52, 52, 52, 53, 52, 54, 52, 55, 52, 56, 52, 57, 53, 48, 53, 49, 53, 50, 53, 51, 53, 52, 53, 53, 53, 54, 53, 55, 53, 56, 53,
  57, 54, 48, 54, 49, 54, 50, 54, 51, 54, 52, 54, 53, 54, 54, 54, 55, 54, 56, 54, 57, 55, 48, 55, 49, 55, 50, 55, 51, 55, 52, 55, 53, 55, 54, 55, 55, 55,
  56, 55, 57, 56, 48, 56, 49, 56, 50, 56, 51, 56, 52, 56, 53, 56, 54, 56, 55, 56, 56, 56, 57, 57, 48, 57, 49, 57, 50, 57, 51, 57, 52, 57, 53, 57, 54, 57,
  55, 57, 56, 57, 57])) (t 119)), 512), (ia 121 1 110 (t 112), 455), (s 1 121 118, 2503), (ia 122 1 113 (t 115), 8191), (s 1 122 120, 16383)], d [(m 123 0,
  0), (m 124 4, 0), (ar 125 .sub (t 124) (n 3), 2), (m 126 0, 0), (m 127 4, 0), (ar 128 .sub (t 127) (n 4), 16), (m 129 14, 0), (ar 130 .add (t 129) (.const (.int .u32 1)),
  64), (o 131 (.idxS (.const (.str [48, 48, 48, 49, 48, 50, 48, 51, 48, 52, 48, 53, 48, 54, 48, 55, 48, 56, 48, 57, 49, 48, 49, 49, 49, 50, 49, 51, 49, 52,
  49, 53, 49, 54, 49, 55, 49, 56, 49, 57, 50, 48, 50, 49, 50, 50, 50, 51, 50, 52, 50, 53, 50, 54, 50, 55, 50, 56, 50, 57, 51, 48, 51, 49, 51, 50, 51, 51,
  51, 52, 51, 53, 51, 54, 51, 55, 51, 56, 51, 57, 52, 48, 52, 49, 52, 50, 52, 51, 52, 52, 52, 53, 52, 54, 52, 55, 52, 56, 52, 57, 53, 48, 53, 49, 53, 50,
  53, 51, 53, 52, 53, 53, 53, 54, 53, 55, 53, 56, 53, 57, 54, 48, 54, 49, 54, 50, 54, 51, 54, 52, 54, 53, 54, 54, 54, 55, 54, 56, 54, 57, 55, 48, 55, 49,
  55, 50, 55, 51, 55, 52, 55, 53, 55, 54, 55, 55, 55, 56, 55, 57, 56, 48, 56, 49, 56, 50, 56, 51, 56, 52, 56, 53, 56, 54, 56, 55, 56, 56, 56, 57, 57, 48,
  57, 49, 57, 50, 57, 51, 57, 52, 57, 53, 57, 54, 57, 55, 57, 56, 57, 57])) (t 130)), 192), (m 132 14, 0), (o 133 (.idxS (.const (.str [48, 48, 48, 49, 48,
  50, 48, 51, 48, 52, 48, 53, 48, 54, 48, 55, 48, 56, 48, 57, 49, 48, 49, 49, 49, 50, 49, 51, 49, 52, 49, 53, 49, 54, 49, 55, 49, 56, 49, 57, 50, 48, 50,
  49, 50, 50, 50, 51, 50, 52, 50, 53, 50, 54, 50, 55, 50, 56, 50, 57, 51, 48, 51, 49, 51, 50, 51, 51, 51, 52, 51, 53, 51, 54, 51, 55, 51, 56, 51, 57, 52,
  48, 52, 49, 52, 50, 52, 51, 52, 52, 52, 53, 52, 54, 52, 55, 52, 56, 52, 57, 53, 48, 53, 49, 53, 50, 53, 51, 53, 52, 53, 53, 53, 54, 53, 55, 53, 56, 53,
  57, 54, 48, 54, 49, 54, 50, 54, 51, 54, 52, 54, 53, 54, 54, 54, 55, 54, 56, 54, 57, 55, 48, 55, 49, 55, 50, 55, 51, 55, 52, 55, 53, 55, 54, 55, 55, 55,
  56, 55, 57, 56, 48, 56, 49, 56, 50, 56, 51, 56, 52, 56, 53, 56, 54, 56, 55, 56, 56, 56, 57, 57, 48, 57, 49, 57, 50, 57, 51, 57, 52, 57, 53, 57, 54, 57,
  55, 57, 56, 57, 57])) (t 132)), 512), (ia 134 1 123 (t 125), 455), (s 1 134 131, 2503), (ia 135 1 126 (t 128), 8191), (s 1 135 133, 16383)]] (r [m 136 4,
  ar 137 .sub (t 136) (n 4), m 4 137])) (sk)), q [r [m 138 4, ar 139 .geq (t 138) (n 2)]] (.cond (t 139) (q [r [m 140 12, ar 141 .rem (t 140) (.const (.int .u32 100)),
  ar 142 .mul (t 141) (.const (.int .u32 2)), m 16 142], r [m 143 12, ar 144 .quo (t 143) (.const (.int .u32 100)), m 12 144], d [(m 145 0, 0), (m 146 4,
  0), (ar 147 .sub (t 146) (n 1), 2), (m 148 0, 0), (m 149 4, 0), (ar 150 .sub (t 149) (n 2), 16), (m 151 16, 0), (ar 152 .add (t 151) (.const (.int .u32 1)),
  64), (o 153 (.idxS (.const (.str [48, 48, 48, 49, 48, 50, 48, 51, 48, 52, 48, 53, 48, 54, 48, 55, 48, 56, 48, 57, 49, 48, 49, 49, 49, 50, 49, 51, 49, 52,
  49, 53, 49, 54, 49, 55, 49, 56, 49, 57, 50, 48, 50, 49, 50, 50, 50, 51, 50, 52, 50, 53, 50, 54, 50, 55, 50, 56, 50, 57, 51, 48, 51, 49, 51, 50, 51, 51,
  51, 52, 51, 53, 51, 54, 51, 55, 51, 56, 51, 57, 52, 48, 52, 49, 52, 50, 52, 51, 52, 52, 52, 53, 52, 54, 52, 55, 52, 56, 52, 57, 53, 48, 53, 49, 53, 50,
  53, 51, 53, 52, 53, 53, 53, 54, 53, 55, 53, 56, 53, 57, 54, 48, 54, 49, 54, 50, 54, 51, 54, 52, 54, 53, 54, 54, 54, 55, 54, 56, 54, 57, 55, 48, 55, 49,
  55, 50, 55, 51, 55, 52, 55, 53, 55, 54, 55, 55, 55, 56, 55, 57, 56, 48, 56, 49, 56, 50, 56, 51, 56, 52, 56, 53, 56, 54, 56, 55, 56, 56, 56, 57, 57, 48,
  57, 49, 57, 50, 57, 51, 57, 52, 57, 53, 57, 54, 57, 55, 57, 56, 57, 57])) (t 152)), 192), (m 154 16, 0), (o 155 (.idxS (.const (.str [48, 48, 48, 49, 48,
  50, 48, 51, 48, 52, 48, 53, 48, 54, 48, 55, 48, 56, 48, 57, 49, 48, 49, 49, 49, 50, 49, 51, 49, 52, 49, 53, 49, 54, 49, 55, 49, 56, 49, 57, 50, 48, 50,
  49, 50, 50, 50, 51, 50, 52, 50, 53, 50, 54, 50, 55, 50, 56, 50, 57, 51, 48, 51, 49, 51, 50, 51, 51, 51, 52, 51, 53, 51, 54, 51, 55, 51, 56, 51, 57, 52,
  48, 52, 49, 52, 50, 52, 51, 52, 52, 52, 53, 52, 54, 52, 55, 52, 56, 52, 57, 53, 48, 53, 49, 53, 50, 53, 51, 53, 52, 53, 53, 53, 54, 53, 55, 53, 56, 53,
  57, 54, 48, 54, 49, 54, 50, 54, 51, 54, 52, 54, 53, 54, 54, 54, 55, 54, 56, 54, 57, 55, 48, 55, 49, 55, 50, 55, 51, 55, 52, 55, 53, 55, 54, 55, 55, 55,
  56, 55, 57, 56, 48, 56, 49, 56, 50, 56, 51, 56, 52, 56, 53, 56, 54, 56, 55, 56, 56, 56, 57, 57, 48, 57, 49, 57, 50, 57, 51, 57, 52, 57, 53, 57, 54, 57,
  55, 57, 56, 57, 57])) (t 154)), 512), (ia 156 1 145 (t 147), 455), (s 1 156 153, 2503), (ia 157 1 148 (t 150), 8191), (s 1 157 155, 16383)]] (r [m 158 4,
  ar 159 .sub (t 158) (n 2), m 4 159])) (sk)), r [m 160 4, ar 161 .gtr (t 160) (n 0)]] (.cond (t 161) (r [m 162 0, m 163 12, ar 164 .add (.const (.int .u32 48)) (t 163),
  o 165 (.convI .u8 (t 164)), ia 166 1 162 (n 0), s 1 166 165]) (sk))⟩
theorem A174_ok : XOk Tryz.prog [] 174 A174 := ⟨Tryz.f174, Tryz.func174, by kernel_rfl, by decide, by kernel_rfl, its_nil (by kernel_rfl)⟩

/- internal/strconv.formatBits -/
def A175 : AFn := ⟨102, [.tmp 10, .tmp 11], q [r [mv 10 (.const (.nilsl)), mv 11 (.const (.str []))], q [r [m 19 2, ar 20 .lss (t 19) (n 2), m 21 20, og 22 (.mov (t 2)) 21 false, og 23 (.arith .eql (t 22) (n 10)) 21 false,
  o 24 (.pick (t 21) tt (t 23)), m 25 24, og 26 (.mov (t 2)) 25 false, og 27 (.arith .gtr (t 26) (n 36)) 25 false, o 28 (.pick (t 25) tt (t 27))]] (.cond (t 28) (r [o 29 (.stuck),
  on (.stuck)]) (sk)), r [o 12 (.new [.int .u8 0, .int .u8 0, .int .u8 0, .int .u8 0, .int .u8 0, .int .u8 0, .int .u8 0, .int .u8 0, .int .u8 0, .int .u8 0,
  .int .u8 0, .int .u8 0, .int .u8 0, .int .u8 0, .int .u8 0, .int .u8 0, .int .u8 0, .int .u8 0, .int .u8 0, .int .u8 0, .int .u8 0, .int .u8 0, .int .u8 0,
  .int .u8 0, .int .u8 0, .int .u8 0, .int .u8 0, .int .u8 0, .int .u8 0, .int .u8 0, .int .u8 0, .int .u8 0, .int .u8 0, .int .u8 0, .int .u8 0, .int .u8 0,
  .int .u8 0, .int .u8 0, .int .u8 0, .int .u8 0, .int .u8 0, .int .u8 0, .int .u8 0, .int .u8 0, .int .u8 0, .int .u8 0, .int .u8 0, .int .u8 0, .int .u8 0,
  .int .u8 0, .int .u8 0, .int .u8 0, .int .u8 0, .int .u8 0, .int .u8 0, .int .u8 0, .int .u8 0, .int .u8 0, .int .u8 0, .int .u8 0, .int .u8 0, .int .u8 0,
  .int .u8 0, .int .u8 0, .int .u8 0])], r [mv 13 (n 65)], q [r [m 30 3]] (.cond (t 30) (r [m 31 1, o 32 (.un .neg (t 31)), m 1 32]) (sk)), q [r [m 33 2,
  c 34 194 [t 33]]] (.cond (t 34) (q [r [m 35 2, o 36 (.convI .u64 (t 35)), c 37 195 [t 36], o 38 (.convI .u64 (t 37)), m 14 38], r [m 39 2, o 40 (.convI .u64 (t 39)),
  m 15 40], r [m 41 2, o 42 (.convI .u64 (t 41)), ar 43 .sub (t 42) (.const (.int .u64 1)), m 16 43], .block 0 (.loop (q [q [r [m 44 1, m 45 15, ar 46 .geq (t 44) (t 45)]] (.cond (t 46) (sk) (.exit 0))] (.block 1 (q [r [m 47 13,
  ar 48 .sub (t 47) (n 1), m 13 48], r [m 49 13, m 50 1, m 51 16, ar 52 .and (t 50) (t 51), o 53 (.idxS (.const (.str [48, 49, 50, 51, 52, 53, 54, 55, 56,
  57, 97, 98, 99, 100, 101, 102, 103, 104, 105, 106, 107, 108, 109, 110, 111, 112, 113, 114, 115, 116, 117, 118, 119, 120, 121, 122])) (t 52)), o 54 (.idxArrA 65 1 (t 12) (t 49)),
  s 1 54 53]] (r [m 55 1, m 56 14, ar 57 .shr (t 55) (t 56), m 1 57]))))), r [m 58 13, ar 59 .sub (t 58) (n 1), m 13 59]] (r [m 60 13, m 61 1, o 62 (.idxS (.const (.str [48,
  49, 50, 51, 52, 53, 54, 55, 56, 57, 97, 98, 99, 100, 101, 102, 103, 104, 105, 106, 107, 108, 109, 110, 111, 112, 113, 114, 115, 116, 117, 118, 119, 120,
  121, 122])) (t 61)), o 63 (.idxArrA 65 1 (t 12) (t 60)), s 1 63 62])) (q [r [m 64 2, o 65 (.convI .u64 (t 64)), m 17 65], .block 2 (.loop (q [q [r [m 66 1,
  m 67 17, ar 68 .geq (t 66) (t 67)]] (.cond (t 68) (sk) (.exit 2))] (.block 3 (q [r [m 69 13, ar 70 .sub (t 69) (n 1), m 13 70], r [m 71 1, m 72 17, ar 73 .quo (t 71) (t 72),
  m 18 73], r [m 74 13, m 75 1, m 76 18, m 77 17, ar 78 .mul (t 76) (t 77), ar 79 .sub (t 75) (t 78), o 80 (.idxS (.const (.str [48, 49, 50, 51, 52, 53,
  54, 55, 56, 57, 97, 98, 99, 100, 101, 102, 103, 104, 105, 106, 107, 108, 109, 110, 111, 112, 113, 114, 115, 116, 117, 118, 119, 120, 121, 122])) (t 79)),
  o 81 (.idxArrA 65 1 (t 12) (t 74)), s 1 81 80]] (r [m 82 18, m 1 82]))))), r [m 83 13, ar 84 .sub (t 83) (n 1), m 13 84]] (r [m 85 13, m 86 1, o 87 (.idxS (.const (.str [48,
  49, 50, 51, 52, 53, 54, 55, 56, 57, 97, 98, 99, 100, 101, 102, 103, 104, 105, 106, 107, 108, 109, 110, 111, 112, 113, 114, 115, 116, 117, 118, 119, 120,
  121, 122])) (t 86)), o 88 (.idxArrA 65 1 (t 12) (t 85)), s 1 88 87]))), q [r [m 89 3]] (.cond (t 89) (q [r [m 90 13, ar 91 .sub (t 90) (n 1), m 13 91]] (r [m 92 13,
  o 93 (.idxArrA 65 1 (t 12) (t 92)), sv 1 93 (.const (.int .u8 45))])) (sk)), q [r [m 94 4]] (.cond (t 94) (q [r [m 95 0, m 96 13, o 97 (.stuck), o 98 (.app 1 1 (t 95) (t 97)),
  m 10 98]] (.ret)) (sk)), r [m 99 13, o 100 (.stuck), o 101 (.xo .b2s [t 100]), m 11 101]] (.ret)⟩
theorem A175_ok : XOk Tryz.prog [] 175 A175 := ⟨Tryz.f175, Tryz.func175, by kernel_rfl, by decide, by kernel_rfl, its_nil (by kernel_rfl)⟩

/- unicode/utf8.appendRuneNonASCII -/
def A176 : AFn := ⟨78, [.tmp 4], q [r [mv 4 (.const (.nilsl))], r [m 6 1, o 7 (.convI .u32 (t 6)), m 5 7]] (.block 0 (q [r [m 12 5, ar 13 .leq (t 12) (.const (.int .u32 2047)), m 11 13]] (.cond (t 11) (q [r [m 14 0,
  m 15 1, ar 16 .shr (t 15) (.const (.int .u64 6)), o 17 (.convI .u8 (t 16)), ar 18 .or (.const (.int .u8 192)) (t 17), m 19 1, o 20 (.convI .u8 (t 19)),
  ar 21 .and (t 20) (.const (.int .u8 63)), ar 22 .or (.const (.int .u8 128)) (t 21), o 23 (.buildSl 1 2 [.int .u8 0, .int .u8 0] [(0, 1, .tmp 18), (1, 1,
  .tmp 22)]), o 24 (.app 1 1 (t 14) (t 23)), m 4 24]] (.ret)) (q [q [r [m 26 5, ar 27 .lss (t 26) (.const (.int .u32 55296)), m 25 27]] (.cond (t 25) (sk) (r [m 28 5,
  ar 29 .lss (.const (.int .u32 57343)) (t 28), m 30 29, og 31 (.mov (t 5)) 30 true, og 32 (.arith .leq (t 31) (.const (.int .u32 65535))) 30 true, o 33 (.pick (t 30) (t 32) ff),
  m 25 33]))] (.cond (t 25) (q [r [m 34 0, m 35 1, ar 36 .shr (t 35) (.const (.int .u64 12)), o 37 (.convI .u8 (t 36)), ar 38 .or (.const (.int .u8 224)) (t 37),
  m 39 1, ar 40 .shr (t 39) (.const (.int .u64 6)), o 41 (.convI .u8 (t 40)), ar 42 .and (t 41) (.const (.int .u8 63)), ar 43 .or (.const (.int .u8 128)) (t 42),
  m 44 1, o 45 (.convI .u8 (t 44)), ar 46 .and (t 45) (.const (.int .u8 63)), ar 47 .or (.const (.int .u8 128)) (t 46), o 48 (.buildSl 1 3 [.int .u8 0, .int .u8 0,
  .int .u8 0] [(0, 1, .tmp 38), (1, 1, .tmp 43), (2, 1, .tmp 47)]), o 49 (.app 1 1 (t 34) (t 48)), m 4 49]] (.ret)) (q [r [m 51 5, ar 52 .gtr (t 51) (.const (.int .u32 65535)),
  m 53 52, og 54 (.mov (t 5)) 53 true, og 55 (.arith .leq (t 54) (.const (.int .u32 1114111))) 53 true, o 56 (.pick (t 53) (t 55) ff), m 50 56]] (.cond (t 50) (q [r [m 57 0,
  m 58 1, ar 59 .shr (t 58) (.const (.int .u64 18)), o 60 (.convI .u8 (t 59)), ar 61 .or (.const (.int .u8 240)) (t 60), m 62 1, ar 63 .shr (t 62) (.const (.int .u64 12)),
  o 64 (.convI .u8 (t 63)), ar 65 .and (t 64) (.const (.int .u8 63)), ar 66 .or (.const (.int .u8 128)) (t 65), m 67 1, ar 68 .shr (t 67) (.const (.int .u64 6)),
  o 69 (.convI .u8 (t 68)), ar 70 .and (t 69) (.const (.int .u8 63)), ar 71 .or (.const (.int .u8 128)) (t 70), m 72 1, o 73 (.convI .u8 (t 72)), ar 74 .and (t 73) (.const (.int .u8 63)),
  ar 75 .or (.const (.int .u8 128)) (t 74), o 76 (.buildSl 1 4 [.int .u8 0, .int .u8 0, .int .u8 0, .int .u8 0] [(0, 1, .tmp 61), (1, 1, .tmp 66), (2, 1,
  .tmp 71), (3, 1, .tmp 75)]), o 77 (.app 1 1 (t 57) (t 76)), m 4 77]] (.ret)) (q [r [m 8 0, o 9 (.buildSl 1 3 [.int .u8 0, .int .u8 0, .int .u8 0] [(0,
  1, .const (.int .u8 239)), (1, 1, .const (.int .u8 191)), (2, 1, .const (.int .u8 189))]), o 10 (.app 1 1 (t 8) (t 9)), m 4 10]] (.ret)))))))))⟩
theorem A176_ok : XOk Tryz.prog [] 176 A176 := ⟨Tryz.f176, Tryz.func176, by kernel_rfl, by decide, by kernel_rfl, its_nil (by kernel_rfl)⟩

/- (*sync.Mutex).Lock -/
def A178 : AFn := ⟨6, [], r [m 2 0, o 3 (.nilchk (t 2)), fa 4 0 3, c 5 196 [t 4]]⟩
theorem A178_ok : XOk Tryz.prog [] 178 A178 := ⟨Tryz.f178, Tryz.func178, by kernel_rfl, by decide, by kernel_rfl, its_nil (by kernel_rfl)⟩

/- (*sync.Mutex).Unlock -/
def A179 : AFn := ⟨6, [], r [m 2 0, o 3 (.nilchk (t 2)), fa 4 0 3, c 5 197 [t 4]]⟩
theorem A179_ok : XOk Tryz.prog [] 179 A179 := ⟨Tryz.f179, Tryz.func179, by kernel_rfl, by decide, by kernel_rfl, its_nil (by kernel_rfl)⟩

/- (*sync/atomic.Bool).Store -/
def A180 : AFn := ⟨10, [], d [(m 4 0, 0), (o 5 (.nilchk (t 4)), 1), (fa 6 0 5, 3), (m 7 1, 0), (c 8 199 [t 7], 8), (c 9 198 [t 6, t 8], 31)]⟩
theorem A180_ok : XOk Tryz.prog [] 180 A180 := ⟨Tryz.f180, Tryz.func180, by kernel_rfl, by decide, by kernel_rfl, its_nil (by kernel_rfl)⟩

/- strings.makeSingleStringReplacer -/
def A181 : AFn := ⟨10, [.tmp 4], q [r [mv 4 (.const (.nilptr))], r [m 5 0, c 6 200 [t 5], m 7 1, o 8 (.build [.nilptr, .str []] [(0, 1, .tmp 6), (1, 1, .tmp 7)]), o 9 (.box (t 8)), m 4 9]] (.ret)⟩
theorem A181_ok : XOk Tryz.prog [] 181 A181 := ⟨Tryz.f181, Tryz.func181, by kernel_rfl, by decide, by kernel_rfl, its_nil (by kernel_rfl)⟩

/- strings.makeGenericReplacer -/
def A182 : AFn := ⟨117, [.tmp 2], q [r [mv 2 (.const (.nilptr))], r [o 13 (.new [.str [], .int .i64 0, .str [], .nilptr, .nilsl, .int .i64 0, .int .u8 0, .int .u8 0, .int .u8 0, .int .u8 0,
  .int .u8 0, .int .u8 0, .int .u8 0, .int .u8 0, .int .u8 0, .int .u8 0, .int .u8 0, .int .u8 0, .int .u8 0, .int .u8 0, .int .u8 0, .int .u8 0, .int .u8 0,
  .int .u8 0, .int .u8 0, .int .u8 0, .int .u8 0, .int .u8 0, .int .u8 0, .int .u8 0, .int .u8 0, .int .u8 0, .int .u8 0, .int .u8 0, .int .u8 0, .int .u8 0,
  .int .u8 0, .int .u8 0, .int .u8 0, .int .u8 0, .int .u8 0, .int .u8 0, .int .u8 0, .int .u8 0, .int .u8 0, .int .u8 0, .int .u8 0, .int .u8 0, .int .u8 0,
  .int .u8 0, .int .u8 0, .int .u8 0, .int .u8 0, .int .u8 0, .int .u8 0, .int .u8 0, .int .u8 0, .int .u8 0, .int .u8 0, .int .u8 0, .int .u8 0, .int .u8 0,
  .int .u8 0, .int .u8 0, .int .u8 0, .int .u8 0, .int .u8 0, .int .u8 0, .int .u8 0, .int .u8 0, .int .u8 0, .int .u8 0, .int .u8 0, .int .u8 0, .int .u8 0,
  .int .u8 0, .int .u8 0, .int .u8 0, .int .u8 0, .int .u8 0, .int .u8 0, .int .u8 0, .int .u8 0, .int .u8 0, .int .u8 0, .int .u8 0, .int .u8 0, .int .u8 0,
  .int .u8 0, .int .u8 0, .int .u8 0, .int .u8 0, .int .u8 0, .int .u8 0, .int .u8 0, .int .u8 0, .int .u8 0, .int .u8 0, .int .u8 0, .int .u8 0, .int .u8 0,
  .int .u8 0, .int .u8 0, .int .u8 0, .int .u8 0, .int .u8 0, .int .u8 0, .int .u8 0, .int .u8 0, .int .u8 0, .int .u8 0, .int .u8 0, .int .u8 0, .int .u8 0,
  .int .u8 0, .int .u8 0, .int .u8 0, .int .u8 0, .int .u8 0, .int .u8 0, .int .u8 0, .int .u8 0, .int .u8 0, .int .u8 0, .int .u8 0, .int .u8 0, .int .u8 0,
  .int .u8 0, .int .u8 0, .int .u8 0, .int .u8 0, .int .u8 0, .int .u8 0, .int .u8 0, .int .u8 0, .int .u8 0, .int .u8 0, .int .u8 0, .int .u8 0, .int .u8 0,
  .int .u8 0, .int .u8 0, .int .u8 0, .int .u8 0, .int .u8 0, .int .u8 0, .int .u8 0, .int .u8 0, .int .u8 0, .int .u8 0, .int .u8 0, .int .u8 0, .int .u8 0,
  .int .u8 0, .int .u8 0, .int .u8 0, .int .u8 0, .int .u8 0, .int .u8 0, .int .u8 0, .int .u8 0, .int .u8 0, .int .u8 0, .int .u8 0, .int .u8 0, .int .u8 0,
  .int .u8 0, .int .u8 0, .int .u8 0, .int .u8 0, .int .u8 0, .int .u8 0, .int .u8 0, .int .u8 0, .int .u8 0, .int .u8 0, .int .u8 0, .int .u8 0, .int .u8 0,
  .int .u8 0, .int .u8 0, .int .u8 0, .int .u8 0, .int .u8 0, .int .u8 0, .int .u8 0, .int .u8 0, .int .u8 0, .int .u8 0, .int .u8 0, .int .u8 0, .int .u8 0,
  .int .u8 0, .int .u8 0, .int .u8 0, .int .u8 0, .int .u8 0, .int .u8 0, .int .u8 0, .int .u8 0, .int .u8 0, .int .u8 0, .int .u8 0, .int .u8 0, .int .u8 0,
  .int .u8 0, .int .u8 0, .int .u8 0, .int .u8 0, .int .u8 0, .int .u8 0, .int .u8 0, .int .u8 0, .int .u8 0, .int .u8 0, .int .u8 0, .int .u8 0, .int .u8 0,
  .int .u8 0, .int .u8 0, .int .u8 0, .int .u8 0, .int .u8 0, .int .u8 0, .int .u8 0, .int .u8 0, .int .u8 0, .int .u8 0, .int .u8 0, .int .u8 0, .int .u8 0,
  .int .u8 0, .int .u8 0, .int .u8 0, .int .u8 0, .int .u8 0, .int .u8 0, .int .u8 0, .int .u8 0, .int .u8 0, .int .u8 0, .int .u8 0, .int .u8 0, .int .u8 0,
  .int .u8 0, .int .u8 0, .int .u8 0, .int .u8 0, .int .u8 0, .int .u8 0, .int .u8 0, .int .u8 0, .int .u8 0, .int .u8 0, .int .u8 0, .int .u8 0, .int .u8 0,
  .int .u8 0, .int .u8 0, .int .u8 0, .int .u8 0, .int .u8 0]), m 3 13], q [r [mv 4 (n 0)]] (.block 0 (.loop (q [q [r [m 14 4, m 15 0, le 16 15, ar 17 .lss (t 14) (t 16)]] (.cond (t 17) (sk) (.exit 0)),
  .block 1 (q [r [m 20 0, m 21 4, ia 22 1 20 (t 21), l 23 22, m 5 23], r [mv 6 (n 0)]] (.block 2 (.loop (q [q [r [m 24 6, m 25 5, o 26 (.lenS (t 25)), ar 27 .lss (t 24) (t 26)]] (.cond (t 27) (sk) (.exit 2)),
  .block 3 (d [(m 30 3, 0), (m 31 5, 0), (m 32 6, 0), (o 33 (.idxS (t 31) (t 32)), 6), (o 34 (.nilchk (t 30)), 1), (fa 35 6 34, 17), (o 36 (.idxArrA 256 1 (t 35) (t 33)),
  63), (sv 1 36 (.const (.int .u8 1)), 127)])] (r [m 28 6, ar 29 .add (t 28) (n 1), m 6 29])))))] (r [m 18 4, ar 19 .add (t 18) (n 2), m 4 19])))), q [r [m 37 3,
  o 38 (.nilchk (t 37)), fa 39 6 38, ln 40 256 39, mv 41 (n 0)]] (.block 4 (.loop (q [r [ar 42 .lss (t 41) (n 256)], .cond (t 42) (sk) (.exit 4), .block 5 (q [r [o 43 (.idx 256 1 none (t 40) (t 41)),
  m 8 43]] (r [m 44 3, o 45 (.nilchk (t 44)), fa 46 5 45, l 47 46, m 48 8, o 49 (.convI .i64 (t 48)), ar 50 .add (t 47) (t 49), o 51 (.nilchk (t 44)), fa 52 5 51,
  s 1 52 50]))] (r [ar 53 .add (t 41) (n 1), m 41 53])))), r [mv 9 (.const (.int .u8 0))], q [r [m 54 3, o 55 (.nilchk (t 54)), fa 56 6 55, ln 57 256 56,
  mv 58 (n 0)]] (.block 6 (.loop (q [r [ar 59 .lss (t 58) (n 256)], .cond (t 59) (sk) (.exit 6), .block 7 (q [r [m 60 58, o 61 (.idx 256 1 none (t 57) (t 58)),
  m 10 60, m 11 61], r [m 62 11, ar 63 .eql (t 62) (.const (.int .u8 0))]] (.cond (t 63) (d [(m 64 3, 0), (m 65 10, 0), (m 66 3, 0), (o 67 (.nilchk (t 66)),
  4), (fa 68 5 67, 12), (l 69 68, 28), (o 70 (.convI .u8 (t 69)), 60), (o 71 (.nilchk (t 64)), 1), (fa 72 6 71, 129), (o 73 (.idxArrA 256 1 (t 72) (t 65)),
  511), (s 1 73 70, 1023)]) (q [r [m 74 3, m 75 10, m 76 9, o 77 (.nilchk (t 74)), fa 78 6 77, o 79 (.idxArrA 256 1 (t 78) (t 75)), s 1 79 76]] (r [m 80 9,
  ar 81 .add (t 80) (.const (.int .u8 1)), m 9 81]))))] (r [ar 82 .add (t 58) (n 1), m 58 82])))), r [m 83 3, m 84 3, o 85 (.nilchk (t 84)), fa 86 5 85,
  l 87 86, o 88 (.mksl 1 8 [.nilptr] (t 87) (t 87)), o 89 (.nilchk (t 83)), fa 90 0 89, fa 91 4 90, s 1 91 88], q [r [mv 12 (n 0)]] (.block 8 (.loop (q [q [r [m 92 12,
  m 93 0, le 94 93, ar 95 .lss (t 92) (t 94)]] (.cond (t 95) (sk) (.exit 8)), .block 9 (d [(m 98 3, 0), (o 99 (.nilchk (t 98)), 1), (fa 100 0 99, 3), (m 101 0,
  0), (m 102 12, 0), (ia 103 1 101 (t 102), 24), (l 104 103, 56), (m 105 0, 0), (m 106 12, 0), (ar 107 .add (t 106) (n 1), 256), (ia 108 1 105 (t 107), 896),
  (l 109 108, 1920), (m 110 0, 0), (le 111 110, 4096), (m 112 12, 0), (ar 113 .sub (t 111) (t 112), 28672), (m 114 3, 0), (c 115 201 [t 100, t 104, t 109,
  t 113, t 114], 131071)])] (r [m 96 12, ar 97 .add (t 96) (n 2), m 12 97])))), r [m 116 3, m 2 116]] (.ret)⟩
theorem A182_ok : XOk Tryz.prog [] 182 A182 := ⟨Tryz.f182, Tryz.func182, by kernel_rfl, by decide, by kernel_rfl, its_nil (by kernel_rfl)⟩

/- internal/strconv.ParseUint -/
def A183 : AFn := ⟨172, [.tmp 6, .tmp 7], q [r [mv 6 (.const (.int .u64 0)), mv 7 (.const (.nilif))], q [r [m 18 0, ar 19 .eql (t 18) (.const (.str []))]] (.cond (t 19) (q [r [o 20 (.stuck), mv 6 (.const (.int .u64 0)),
  m 7 20]] (.ret)) (sk)), r [m 21 1, ar 22 .eql (t 21) (n 0), m 8 22], r [m 23 0, m 9 23], .block 0 (q [r [m 26 1, ar 27 .leq (n 2) (t 26), m 28 27, og 29 (.mov (t 1)) 28 true,
  og 30 (.arith .leq (t 29) (n 36)) 28 true, o 31 (.pick (t 28) (t 30) ff), m 25 31]] (.cond (t 25) (sk) (q [r [m 33 1, ar 34 .eql (t 33) (n 0), m 32 34]] (.cond (t 32) (q [r [mv 1 (n 10)],
  r [m 35 0, o 36 (.idxS (t 35) (n 0)), ar 37 .eql (t 36) (.const (.int .u8 48))]] (.cond (t 37) (.block 1 (q [r [m 41 0, o 42 (.lenS (t 41)), ar 43 .geq (t 42) (n 3),
  m 44 43, og 45 (.mov (t 0)) 44 true, og 46 (.idxS (t 45) (n 1)) 44 true, og 47 (.call (fn 202) [t 46]) 44 true, og 48 (.arith .eql (t 47) (.const (.int .u8 98))) 44 true,
  o 49 (.pick (t 44) (t 48) ff), m 40 49]] (.cond (t 40) (q [r [mv 1 (n 2)]] (r [m 50 0, o 51 (.slS (t 50) (some (.const (.int .i64 2))) none), m 0 51])) (q [r [m 53 0,
  o 54 (.lenS (t 53)), ar 55 .geq (t 54) (n 3), m 56 55, og 57 (.mov (t 0)) 56 true, og 58 (.idxS (t 57) (n 1)) 56 true, og 59 (.call (fn 202) [t 58]) 56 true,
  og 60 (.arith .eql (t 59) (.const (.int .u8 111))) 56 true, o 61 (.pick (t 56) (t 60) ff), m 52 61]] (.cond (t 52) (q [r [mv 1 (n 8)]] (r [m 62 0, o 63 (.slS (t 62) (some (.const (.int .i64 2))) none),
  m 0 63])) (q [r [m 65 0, o 66 (.lenS (t 65)), ar 67 .geq (t 66) (n 3), m 68 67, og 69 (.mov (t 0)) 68 true, og 70 (.idxS (t 69) (n 1)) 68 true, og 71 (.call (fn 202) [t 70]) 68 true,
  og 72 (.arith .eql (t 71) (.const (.int .u8 120))) 68 true, o 73 (.pick (t 68) (t 72) ff), m 64 73]] (.cond (t 64) (q [r [mv 1 (n 16)]] (r [m 74 0, o 75 (.slS (t 74) (some (.const (.int .i64 2))) none),
  m 0 75])) (q [r [mv 1 (n 8)]] (r [m 38 0, o 39 (.slS (t 38) (some (.const (.int .i64 1))) none), m 0 39]))))))))) (sk))) (q [r [o 24 (.stuck), mv 6 (.const (.int .u64 0)),
  m 7 24]] (.ret)))))), q [r [m 76 2, ar 77 .eql (t 76) (n 0)]] (.cond (t 77) (r [mv 2 (n 64)]) (q [r [m 78 2, ar 79 .lss (t 78) (n 0), m 80 79, og 81 (.mov (t 2)) 80 false,
  og 82 (.arith .gtr (t 81) (n 64)) 80 false, o 83 (.pick (t 80) tt (t 82))]] (.cond (t 83) (q [r [o 84 (.stuck), mv 6 (.const (.int .u64 0)), m 7 84]] (.ret)) (sk)))),
  r [mv 10 (.const (.int .u64 0))], q [r [m 85 1]] (.block 2 (q [r [ar 91 .eql (t 85) (n 10), m 90 91]] (.cond (t 90) (r [mv 10 (.const (.int .u64 1844674407370955162))]) (q [r [ar 93 .eql (t 85) (n 16),
  m 92 93]] (.cond (t 92) (r [mv 10 (.const (.int .u64 1152921504606846976))]) (r [m 86 1, o 87 (.convI .u64 (t 86)), ar 88 .quo (.const (.int .u64 18446744073709551615)) (t 87),
  ar 89 .add (t 88) (.const (.int .u64 1)), m 10 89])))))), r [m 94 2, o 95 (.convI .u64 (t 94)), ar 96 .shl (.const (.int .u64 1)) (t 95), ar 97 .sub (t 96) (.const (.int .u64 1)),
  m 11 97], r [mv 12 ff], r [mv 13 (.const (.int .u64 0))], q [r [m 98 0, o 99 (.stuck), le 100 99, mv 101 (n 0)]] (.block 3 (.loop (q [r [ar 102 .lss (t 101) (t 100)],
  .cond (t 102) (sk) (.exit 3), .block 4 (q [r [ia 103 1 99 (t 101), l 104 103, m 15 104], r [mv 16 (.const (.int .u8 0))], .block 5 (q [r [m 107 15, ar 108 .eql (t 107) (.const (.int .u8 95)),
  m 109 108, og 110 (.mov (t 8)) 109 true, o 111 (.pick (t 109) (t 110) ff), m 106 111]] (.cond (t 106) (q [r [mv 12 tt]] (.exit 4)) (q [r [m 113 15, ar 114 .leq (.const (.int .u8 48)) (t 113),
  m 115 114, og 116 (.mov (t 15)) 115 true, og 117 (.arith .leq (t 116) (.const (.int .u8 57))) 115 true, o 118 (.pick (t 115) (t 117) ff), m 112 118]] (.cond (t 112) (r [m 119 15,
  ar 120 .sub (t 119) (.const (.int .u8 48)), m 16 120]) (q [r [m 122 15, c 123 202 [t 122], ar 124 .leq (.const (.int .u8 97)) (t 123), m 125 124, og 126 (.mov (t 15)) 125 true,
  og 127 (.call (fn 202) [t 126]) 125 true, og 128 (.arith .leq (t 127) (.const (.int .u8 122))) 125 true, o 129 (.pick (t 125) (t 128) ff), m 121 129]] (.cond (t 121) (r [m 130 15,
  c 131 202 [t 130], ar 132 .sub (t 131) (.const (.int .u8 97)), ar 133 .add (t 132) (.const (.int .u8 10)), m 16 133]) (q [r [o 105 (.stuck), mv 6 (.const (.int .u64 0)),
  m 7 105]] (.ret)))))))), q [r [m 134 16, m 135 1, o 136 (.convI .u8 (t 135)), ar 137 .geq (t 134) (t 136)]] (.cond (t 137) (q [r [o 138 (.stuck), mv 6 (.const (.int .u64 0)),
  m 7 138]] (.ret)) (sk)), q [r [m 139 13, m 140 10, ar 141 .geq (t 139) (t 140)]] (.cond (t 141) (q [r [m 142 11, o 143 (.stuck), m 6 142, m 7 143]] (.ret)) (sk)),
  r [m 144 13, m 145 1, o 146 (.convI .u64 (t 145)), ar 147 .mul (t 144) (t 146), m 13 147], r [m 148 13, m 149 16, o 150 (.convI .u64 (t 149)), ar 151 .add (t 148) (t 150),
  m 17 151], q [r [m 152 17, m 153 13, ar 154 .lss (t 152) (t 153), m 155 154, og 156 (.mov (t 17)) 155 false, og 157 (.mov (t 11)) 155 false, og 158 (.arith .gtr (t 156) (t 157)) 155 false,
  o 159 (.pick (t 155) tt (t 158))]] (.cond (t 159) (q [r [m 160 11, o 161 (.stuck), m 6 160, m 7 161]] (.ret)) (sk))] (r [m 162 17, m 13 162]))] (r [ar 163 .add (t 101) (n 1),
  m 101 163])))), q [r [m 164 12, m 165 164, og 166 (.mov (t 9)) 165 true, og 167 (.call (fn 203) [t 166]) 165 true, og 168 (.un .not (t 167)) 165 true,
  o 169 (.pick (t 165) (t 168) ff)]] (.cond (t 169) (q [r [o 170 (.stuck), mv 6 (.const (.int .u64 0)), m 7 170]] (.ret)) (sk)), r [m 171 13, m 6 171, mv 7 (.const (.nilif))]] (.ret)⟩
theorem A183_ok : XOk Tryz.prog [] 183 A183 := ⟨Tryz.f183, Tryz.func183, by kernel_rfl, by decide, by kernel_rfl, its_nil (by kernel_rfl)⟩

/- errors.New -/
def A185 : AFn := ⟨7, [.tmp 2], q [r [mv 2 (.const (.nilif))], r [m 3 0, o 4 (.build [.str []] [(0, 1, .tmp 3)]), o 5 (.box (t 4)), o 6 (.stuck), m 2 6]] (.ret)⟩
theorem A185_ok : XOk Tryz.prog [] 185 A185 := ⟨Tryz.f185, Tryz.func185, by kernel_rfl, by decide, by kernel_rfl, its_nil (by kernel_rfl)⟩

/- unicode/utf8.RuneCountInString -/
def A186 : AFn := ⟨10, [.tmp 2], q [r [mv 2 (n 0)], q [r [m 3 0, o 4 (.stuck)]] (.block 0 (.loop (q [r [o 5 (.stuck), ex 6 5 0], .cond (t 6) (sk) (.exit 0)] (.block 1 (r [m 7 2, ar 8 .add (t 7) (n 1),
  m 2 8]))))), r [m 9 2, m 2 9]] (.ret)⟩
theorem A186_ok : XOk Tryz.prog [] 186 A186 := ⟨Tryz.f186, Tryz.func186, by kernel_rfl, by decide, by kernel_rfl, its_nil (by kernel_rfl)⟩

/- internal/stringslite.HasPrefix -/
def A188 : AFn := ⟨18, [.tmp 4], q [r [mv 4 ff], r [m 5 0, o 6 (.lenS (t 5)), m 7 1, o 8 (.lenS (t 7)), ar 9 .geq (t 6) (t 8), m 10 9, og 11 (.mov (t 0)) 10 true, og 12 (.mov (t 1)) 10 true,
  og 13 (.lenS (t 12)) 10 true, og 14 (.slS (t 11) none (some (.tmp 13))) 10 true, og 15 (.mov (t 1)) 10 true, og 16 (.arith .eql (t 14) (t 15)) 10 true,
  o 17 (.pick (t 10) (t 16) ff), m 4 17]] (.ret)⟩
theorem A188_ok : XOk Tryz.prog [] 188 A188 := ⟨Tryz.f188, Tryz.func188, by kernel_rfl, by decide, by kernel_rfl, its_nil (by kernel_rfl)⟩

/- unicode/utf8.word[string] -/
def A189 : AFn := ⟨59, [.tmp 2], q [r [mv 2 (.const (.int .u64 0))], .cond ff (q [d [(m 3 0, 0), (o 4 (.idxS (t 3) (n 0)), 1), (o 5 (.convI .u64 (t 4)), 3), (m 6 0, 0), (o 7 (.idxS (t 6) (n 1)),
  8), (o 8 (.convI .u64 (t 7)), 24), (ar 9 .shl (t 8) (.const (.int .u64 8)), 56), (ar 10 .or (t 5) (t 9), 127), (m 11 0, 0), (o 12 (.idxS (t 11) (n 2)),
  256), (o 13 (.convI .u64 (t 12)), 768), (ar 14 .shl (t 13) (.const (.int .u64 16)), 1792), (ar 15 .or (t 10) (t 14), 4095), (m 16 0, 0), (o 17 (.idxS (t 16) (n 3)),
  8192), (o 18 (.convI .u64 (t 17)), 24576), (ar 19 .shl (t 18) (.const (.int .u64 24)), 57344), (ar 20 .or (t 15) (t 19), 131071), (m 2 20, 262143)]] (.ret)) (sk),
  d [(m 21 0, 0), (o 22 (.idxS (t 21) (n 0)), 1), (o 23 (.convI .u64 (t 22)), 3), (m 24 0, 0), (o 25 (.idxS (t 24) (n 1)), 8), (o 26 (.convI .u64 (t 25)),
  24), (ar 27 .shl (t 26) (.const (.int .u64 8)), 56), (ar 28 .or (t 23) (t 27), 127), (m 29 0, 0), (o 30 (.idxS (t 29) (n 2)), 256), (o 31 (.convI .u64 (t 30)),
  768), (ar 32 .shl (t 31) (.const (.int .u64 16)), 1792), (ar 33 .or (t 28) (t 32), 4095), (m 34 0, 0), (o 35 (.idxS (t 34) (n 3)), 8192), (o 36 (.convI .u64 (t 35)),
  24576), (ar 37 .shl (t 36) (.const (.int .u64 24)), 57344), (ar 38 .or (t 33) (t 37), 131071), (m 39 0, 0), (o 40 (.idxS (t 39) (n 4)), 262144), (o 41 (.convI .u64 (t 40)),
  786432), (ar 42 .shl (t 41) (.const (.int .u64 32)), 1835008), (ar 43 .or (t 38) (t 42), 4194303), (m 44 0, 0), (o 45 (.idxS (t 44) (n 5)), 8388608), (o 46 (.convI .u64 (t 45)),
  25165824), (ar 47 .shl (t 46) (.const (.int .u64 40)), 58720256), (ar 48 .or (t 43) (t 47), 134217727), (m 49 0, 0), (o 50 (.idxS (t 49) (n 6)), 268435456),
  (o 51 (.convI .u64 (t 50)), 805306368), (ar 52 .shl (t 51) (.const (.int .u64 48)), 1879048192), (ar 53 .or (t 48) (t 52), 4294967295), (m 54 0, 0), (o 55 (.idxS (t 54) (n 7)),
  8589934592), (o 56 (.convI .u64 (t 55)), 25769803776), (ar 57 .shl (t 56) (.const (.int .u64 56)), 60129542144), (ar 58 .or (t 53) (t 57), 137438953471),
  (m 2 58, 274877906943)]] (.ret)⟩
theorem A189_ok : XOk Tryz.prog [] 189 A189 := ⟨Tryz.f189, Tryz.func189, by kernel_rfl, by decide, by kernel_rfl, its_nil (by kernel_rfl)⟩

/- widgetry/expr.join -/
def A190 : AFn := ⟨44, [.cell 4 (some 2), .tmp 5], q [r [o 2 (.box (t 0)), o 3 (.box (t 1)), o 4 (.new [.int .i64 0, .nilsl]), mv 5 ff], .block 0 (q [r [fa 9 0 2, l 10 9, fa 11 0 3, l 12 11, ar 13 .neq (t 10) (t 12),
  m 8 13]] (.cond (t 8) (q [r [o 14 (.build [.int .i64 0, .nilsl] []), s 2 4 14, mv 5 ff]] (.ret)) (q [r [fa 16 1 2, l 17 16, le 18 17, ar 19 .eql (t 18) (n 0),
  m 15 19]] (.cond (t 15) (q [r [ln 20 2 3, s 2 4 20, mv 5 tt]] (.ret)) (q [r [fa 22 1 3, l 23 22, le 24 23, ar 25 .eql (t 24) (n 0), m 21 25]] (.cond (t 21) (q [r [ln 26 2 2,
  s 2 4 26, mv 5 tt]] (.ret)) (sk))))))), d [(fa 28 1 2, 0), (l 29 28, 1), (ia 30 2 29 (n 0), 3), (ln 31 2 30, 7), (fa 32 1 3, 0), (l 33 32, 16), (ia 34 2 33 (n 0),
  48), (ln 35 2 34, 112), (c 36 190 [t 31, t 35], 255), (m 27 36, 511), (ex 37 27 0, 1023), (ex 38 27 1, 1023), (o 6 (.new [.int .i64 0, .nilsl]), 0), (s 2 6 37,
  6143), (m 7 38, 16383)], q [r [m 39 7, o 40 (.un .not (t 39))]] (.cond (t 40) (q [r [o 41 (.build [.int .i64 0, .nilsl] []), s 2 4 41, mv 5 ff]] (.ret)) (sk)),
  r [ln 42 2 6, c 43 171 [t 42], s 2 4 43, mv 5 tt]] (.ret)⟩
theorem A190_ok : XOk Tryz.prog [] 190 A190 := ⟨Tryz.f190, Tryz.func190, by kernel_rfl, by decide, by kernel_rfl, its_nil (by kernel_rfl)⟩

/- internal/strconv.log10Pow2 -/
def A191 : AFn := ⟨6, [.tmp 2], q [r [mv 2 (n 0)], r [m 3 0, ar 4 .mul (t 3) (n 78913), ar 5 .shr (t 4) (.const (.int .u64 18)), m 2 5]] (.ret)⟩
theorem A191_ok : XOk Tryz.prog [] 191 A191 := ⟨Tryz.f191, Tryz.func191, by kernel_rfl, by decide, by kernel_rfl, its_nil (by kernel_rfl)⟩

/- math/bits.Len64 -/
def A192 : AFn := ⟨25, [.tmp 2], q [r [mv 2 (n 0)], q [r [m 3 0, ar 4 .geq (t 3) (.const (.int .u64 4294967296))]] (.cond (t 4) (q [r [m 5 0, ar 6 .shr (t 5) (.const (.int .u64 32)), m 0 6]] (r [mv 2 (n 32)])) (sk)),
  q [r [m 7 0, ar 8 .geq (t 7) (.const (.int .u64 65536))]] (.cond (t 8) (q [r [m 9 0, ar 10 .shr (t 9) (.const (.int .u64 16)), m 0 10]] (r [m 11 2, ar 12 .add (t 11) (n 16),
  m 2 12])) (sk)), q [r [m 13 0, ar 14 .geq (t 13) (.const (.int .u64 256))]] (.cond (t 14) (q [r [m 15 0, ar 16 .shr (t 15) (.const (.int .u64 8)), m 0 16]] (r [m 17 2,
  ar 18 .add (t 17) (n 8), m 2 18])) (sk)), r [m 19 2, m 20 0, o 21 (.convI .u8 (t 20)), o 22 (.idxS (.const (.str [0, 1, 2, 2, 3, 3, 3, 3, 4, 4, 4, 4, 4,
  4, 4, 4, 5, 5, 5, 5, 5, 5, 5, 5, 5, 5, 5, 5, 5, 5, 5, 5, 6, 6, 6, 6, 6, 6, 6, 6, 6, 6, 6, 6, 6, 6, 6, 6, 6, 6, 6, 6, 6, 6, 6, 6, 6, 6, 6, 6, 6, 6, 6, 6,
  7, 7, 7, 7, 7, 7, 7, 7, 7, 7, 7, 7, 7, 7, 7, 7, 7, 7, 7, 7, 7, 7, 7, 7, 7, 7, 7, 7, 7, 7, 7, 7, 7, 7, 7, 7, 7, 7, 7, 7, 7, 7, 7, 7, 7, 7, 7, 7, 7, 7, 7,
  7, 7, 7, 7, 7, 7, 7, 7, 7, 7, 7, 7, 7, 8, 8, 8, 8, 8, 8, 8, 8, 8, 8, 8, 8, 8, 8, 8, 8, 8, 8, 8, 8, 8, 8, 8, 8, 8, 8, 8, 8, 8, 8, 8, 8, 8, 8, 8, 8, 8, 8,
  8, 8, 8, 8, 8, 8, 8, 8, 8, 8, 8, 8, 8, 8, 8, 8, 8, 8, 8, 8, 8, 8, 8, 8, 8, 8, 8, 8, 8, 8, 8, 8, 8, 8, 8, 8, 8, 8, 8, 8, 8, 8, 8, 8, 8, 8, 8, 8, 8, 8, 8,
  8, 8, 8, 8, 8, 8, 8, 8, 8, 8, 8, 8, 8, 8, 8, 8, 8, 8, 8, 8, 8, 8, 8, 8, 8, 8, 8, 8, 8, 8, 8, 8, 8, 8, 8, 8, 8, 8, 8])) (t 21)), o 23 (.convI .i64 (t 22)),
  ar 24 .add (t 19) (t 23), m 2 24]] (.ret)⟩
theorem A192_ok : XOk Tryz.prog [] 192 A192 := ⟨Tryz.f192, Tryz.func192, by kernel_rfl, by decide, by kernel_rfl, its_nil (by kernel_rfl)⟩

/- internal/strconv.bool2[int] -/
def A193 : AFn := ⟨4, [.tmp 2], q [r [mv 2 (n 0)], q [r [m 3 0]] (.cond (t 3) (q [r [mv 2 (n 1)]] (.ret)) (sk)), r [mv 2 (n 0)]] (.ret)⟩
theorem A193_ok : XOk Tryz.prog [] 193 A193 := ⟨Tryz.f193, Tryz.func193, by kernel_rfl, by decide, by kernel_rfl, its_nil (by kernel_rfl)⟩

/- internal/strconv.isPowerOfTwo -/
def A194 : AFn := ⟨8, [.tmp 2], q [r [mv 2 ff], r [m 3 0, m 4 0, ar 5 .sub (t 4) (n 1), ar 6 .and (t 3) (t 5), ar 7 .eql (t 6) (n 0), m 2 7]] (.ret)⟩
theorem A194_ok : XOk Tryz.prog [] 194 A194 := ⟨Tryz.f194, Tryz.func194, by kernel_rfl, by decide, by kernel_rfl, its_nil (by kernel_rfl)⟩

/- math/bits.TrailingZeros -/
def A195 : AFn := ⟨8, [.tmp 2], q [r [mv 2 (n 0)], .cond ff (q [r [m 3 0, o 4 (.convI .u32 (t 3)), c 5 204 [t 4], m 2 5]] (.ret)) (sk), r [m 6 0, c 7 205 [t 6], m 2 7]] (.ret)⟩
theorem A195_ok : XOk Tryz.prog [] 195 A195 := ⟨Tryz.f195, Tryz.func195, by kernel_rfl, by decide, by kernel_rfl, its_nil (by kernel_rfl)⟩
def xtr3 : XT := .node 169 (.node 157 (.node 150 (.node 147 (.node 146 (.one 145 A145) (.one 146 A146)) (.node 148 (.one 147 A147) (.node 149 (.one 148 A148) (.one 149 A149)))) (.node 153 (.node 151 (.one 150 A150) (.node 152 (.one 151 A151) (.one 152 A152))) (.node 155 (.one 153 A153) (.node 156 (.one 155 A155) (.one 156 A156))))) (.node 163 (.node 160 (.node 158 (.one 157 A157) (.node 159 (.one 158 A158) (.one 159 A159))) (.node 161 (.one 160 A160) (.node 162 (.one 161 A161) (.one 162 A162)))) (.node 166 (.node 164 (.one 163 A163) (.node 165 (.one 164 A164) (.one 165 A165))) (.node 167 (.one 166 A166) (.node 168 (.one 167 A167) (.one 168 A168)))))) (.node 182 (.node 175 (.node 172 (.node 170 (.one 169 A169) (.node 171 (.one 170 A170) (.one 171 A171))) (.node 173 (.one 172 A172) (.node 174 (.one 173 A173) (.one 174 A174)))) (.node 179 (.node 176 (.one 175 A175) (.node 178 (.one 176 A176) (.one 178 A178))) (.node 180 (.one 179 A179) (.node 181 (.one 180 A180) (.one 181 A181))))) (.node 190 (.node 186 (.node 183 (.one 182 A182) (.node 185 (.one 183 A183) (.one 185 A185))) (.node 188 (.one 186 A186) (.node 189 (.one 188 A188) (.one 189 A189)))) (.node 193 (.node 191 (.one 190 A190) (.node 192 (.one 191 A191) (.one 192 A192))) (.node 194 (.one 193 A193) (.node 195 (.one 194 A194) (.one 195 A195))))))
theorem xtr3_ok : xtr3.Ok Tryz.prog [] := ⟨⟨⟨⟨⟨A145_ok, A146_ok⟩, ⟨A147_ok, ⟨A148_ok, A149_ok⟩⟩⟩, ⟨⟨A150_ok, ⟨A151_ok, A152_ok⟩⟩, ⟨A153_ok, ⟨A155_ok, A156_ok⟩⟩⟩⟩, ⟨⟨⟨A157_ok, ⟨A158_ok, A159_ok⟩⟩, ⟨A160_ok, ⟨A161_ok, A162_ok⟩⟩⟩, ⟨⟨A163_ok, ⟨A164_ok, A165_ok⟩⟩, ⟨A166_ok, ⟨A167_ok, A168_ok⟩⟩⟩⟩⟩, ⟨⟨⟨⟨A169_ok, ⟨A170_ok, A171_ok⟩⟩, ⟨A172_ok, ⟨A173_ok, A174_ok⟩⟩⟩, ⟨⟨A175_ok, ⟨A176_ok, A178_ok⟩⟩, ⟨A179_ok, ⟨A180_ok, A181_ok⟩⟩⟩⟩, ⟨⟨⟨A182_ok, ⟨A183_ok, A185_ok⟩⟩, ⟨A186_ok, ⟨A188_ok, A189_ok⟩⟩⟩, ⟨⟨A190_ok, ⟨A191_ok, A192_ok⟩⟩, ⟨A193_ok, ⟨A194_ok, A195_ok⟩⟩⟩⟩⟩⟩
end Go.Proofs.YtndpneieplopaaaGreatDoor
end
