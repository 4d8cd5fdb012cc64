/- Functions of the program as data, fourth quarter. -/
import Derived.Test.YtfpcmkpfdjnhnaaGreatDoorZlIts
import Derived.Test.YtfpcmkpfdjnhnaaGreatDoorProg
import Derived.KernelRfl
set_option linter.unusedSimpArgs false
set_option linter.unusedVariables false
set_option linter.unnecessarySimpa false
noncomputable section
namespace Go.Proofs.YtfpcmkpfdjnhnaaGreatDoor
open Go.Eng Go.Eng.DZ
set_option maxRecDepth 100000
/- widgetry/view.actions -/
def A215 : AFn := ⟨65, [.tmp 2], q [r [mv 2 (n 0)], q [r [m 8 0, le 9 8, mv 10 (n 0)]] (.block 0 (.loop (q [r [ar 11 .lss (t 10) (t 9)], .cond (t 11) (sk) (.exit 0), .block 1 (q [r [m 12 10,
  ia 13 4 8 (t 10), ln 14 4 13, o 4 (.new [.str [], .str [], .str [], .nilsl]), m 3 12, s 4 4 14], .block 2 (q [r [fa 16 0 4, l 17 16, c 18 257 [t 17], o 19 (.un .not (t 18)),
  m 20 19, og 21 (.fldA 2 (t 4)) 20 false, og 22 (.ld1 (t 21)) 20 false, og 23 (.call (fn 257) [t 22]) 20 false, og 24 (.un .not (t 23)) 20 false, o 25 (.pick (t 20) tt (t 24)),
  m 15 25]] (.cond (t 15) (q [r [mv 2 (n 4)]] (.ret)) (q [d [(m 27 3, 0), (ar 28 .gtr (t 27) (n 0), 1), (m 29 28, 3), (og 30 (.mov (t 0)) 29 true, 7), (og 31 (.mov (t 3)) 29 true,
  7), (og 32 (.arith .sub (t 31) (n 1)) 29 true, 23), (og 33 (.idxA 4 (t 30) (t 32)) 29 true, 63), (og 34 (.fldA 0 (t 33)) 29 true, 127), (og 35 (.ld1 (t 34)) 29 true,
  255), (og 36 (.fldA 0 (t 4)) 29 true, 7), (og 37 (.ld1 (t 36)) 29 true, 519), (og 38 (.arith .geq (t 35) (t 37)) 29 true, 2047), (o 39 (.pick (t 29) (t 38) ff),
  4095), (m 26 39, 8191)]] (.cond (t 26) (q [r [mv 2 (n 10)]] (.ret)) (q [r [fa 41 1 4, l 42 41, o 43 (.lenS (t 42)), ar 44 .gtr (t 43) (n 400), m 45 44,
  og 46 (.fldA 3 (t 4)) 45 false, og 47 (.ld1 (t 46)) 45 false, og 48 (.len (t 47)) 45 false, og 49 (.arith .gtr (t 48) (n 100)) 45 false, o 50 (.pick (t 45) tt (t 49)),
  m 40 50]] (.cond (t 40) (q [r [mv 2 (n 2)]] (.ret)) (sk))))))), r [fa 51 3 4, l 52 51, le 53 52, mv 54 (n 0)]] (.block 3 (.loop (q [r [ar 55 .lss (t 54) (t 53)],
  .cond (t 55) (sk) (.exit 3), .block 4 (q [r [ia 56 4 52 (t 54), ln 57 4 56, o 6 (.new [.int .i64 0, .int .i64 0, .str [], .nilsl]), s 4 6 57], r [ln 58 4 6,
  c 59 258 [t 58], m 7 59], r [m 60 7, ar 61 .neq (t 60) (n 0)]] (.cond (t 61) (q [r [m 62 7, m 2 62]] (.ret)) (sk)))] (r [ar 63 .add (t 54) (n 1), m 54 63])))))] (r [ar 64 .add (t 10) (n 1),
  m 10 64])))), r [mv 2 (n 0)]] (.ret)⟩
theorem A215_ok : XOk Tryz.prog ITS 215 A215 := ⟨Tryz.f215, Tryz.func215, by kernel_rfl, by decide, by kernel_rfl, its_nil (by kernel_rfl)⟩

/- widgetry/view.values -/
def A217 : AFn := ⟨19, [.tmp 2], q [r [mv 2 (.const (.nilsl))], r [mv 3 (.const (.nilsl))], q [r [m 6 0, le 7 6, mv 8 (n 0)]] (.block 0 (.loop (q [r [ar 9 .lss (t 8) (t 7)], .cond (t 9) (sk) (.exit 0),
  .block 1 (q [r [ia 10 4 6 (t 8), ln 11 4 10, o 5 (.new [.int .i64 0, .int .i64 0, .str [], .nilsl]), s 4 5 11]] (r [m 12 3, ln 13 4 5, c 14 180 [t 13],
  o 15 (.buildSl 4 1 [.int .i64 0, .int .i64 0, .str [], .nilsl] [(0, 4, .tmp 14)]), o 16 (.app 4 56 (t 12) (t 15)), m 3 16]))] (r [ar 17 .add (t 8) (n 1),
  m 8 17])))), r [m 18 3, m 2 18]] (.ret)⟩
theorem A217_ok : XOk Tryz.prog ITS 217 A217 := ⟨Tryz.f217, Tryz.func217, by kernel_rfl, by decide, by kernel_rfl, its_nil (by kernel_rfl)⟩

/- widgetry/linebreak.combining -/
def A218 : AFn := ⟨9, [.tmp 2], q [r [mv 2 ff], r [m 3 0, ar 4 .eql (t 3) (n 7), m 5 4, og 6 (.mov (t 0)) 5 false, og 7 (.arith .eql (t 6) (n 6)) 5 false, o 8 (.pick (t 5) tt (t 7)),
  m 2 8]] (.ret)⟩
theorem A218_ok : XOk Tryz.prog ITS 218 A218 := ⟨Tryz.f218, Tryz.func218, by kernel_rfl, by decide, by kernel_rfl, its_nil (by kernel_rfl)⟩

/- (widgetry/linebreak.scan).before$1 -/
def A220 : AFn := ⟨17, [.tmp 4], q [r [mv 4 ff], q [r [m 7 1, le 8 7, mv 9 (n 0)]] (.block 0 (.loop (q [r [ar 10 .lss (t 9) (t 8)], .cond (t 10) (sk) (.exit 0), .block 1 (q [r [ia 11 1 7 (t 9),
  l 12 11, m 6 12], r [m 13 0, m 14 6, ar 15 .eql (t 13) (t 14)]] (.cond (t 15) (q [r [mv 4 tt]] (.ret)) (sk)))] (r [ar 16 .add (t 9) (n 1), m 9 16])))),
  r [mv 4 ff]] (.ret)⟩
theorem A220_ok : XOk Tryz.prog ITS 220 A220 := ⟨Tryz.f220, Tryz.func220, by kernel_rfl, by decide, by kernel_rfl, its_nil (by kernel_rfl)⟩

/- (widgetry/linebreak.scan).spaced -/
def A221 : AFn := ⟨32, [.tmp 6], q [r [o 3 (.box (t 0)), mv 6 ff], q [r [m 7 1, ar 8 .sub (t 7) (n 1), m 1 8]] (.block 0 (.loop (q [q [r [m 9 1, ar 10 .geq (t 9) (n 0), m 11 10, og 12 (.fldA 1 (t 3)) 11 true,
  og 13 (.ld1 (t 12)) 11 true, og 14 (.mov (t 1)) 11 true, og 15 (.idxA 1 (t 13) (t 14)) 11 true, og 16 (.ld1 (t 15)) 11 true, og 17 (.arith .eql (t 16) (n 4)) 11 true,
  o 18 (.pick (t 11) (t 17) ff)]] (.cond (t 18) (sk) (.exit 0)), .block 1 (sk)] (r [m 19 1, ar 20 .sub (t 19) (n 1), m 1 20])))), r [m 21 1, ar 22 .geq (t 21) (n 0),
  m 23 22, og 24 (.fldA 1 (t 3)) 23 true, og 25 (.ld1 (t 24)) 23 true, og 26 (.mov (t 1)) 23 true, og 27 (.idxA 1 (t 25) (t 26)) 23 true, og 28 (.ld1 (t 27)) 23 true,
  og 29 (.mov (t 2)) 23 true, og 30 (.arith .eql (t 28) (t 29)) 23 true, o 31 (.pick (t 23) (t 30) ff), m 6 31]] (.ret)⟩
theorem A221_ok : XOk Tryz.prog ITS 221 A221 := ⟨Tryz.f221, Tryz.func221, by kernel_rfl, by decide, by kernel_rfl, its_nil (by kernel_rfl)⟩

/- widgetry/char.find -/
def A223 : AFn := ⟨54, [.cell 2 (some 7)], q [r [o 2 (.new [.int .i32 0, .int .i32 0, .int .u8 0, .int .u8 0, .int .u8 0, .int .u8 0, .int .u8 0])], .block 0 (q [r [m 8 0, ar 9 .geq (t 8) (.const (.int .i32 44032)),
  m 10 9, og 11 (.mov (t 0)) 10 true, og 12 (.arith .leq (t 11) (.const (.int .i32 55203))) 10 true, o 13 (.pick (t 10) (t 12) ff), m 14 13, og 15 (.mov (t 0)) 14 true,
  og 16 (.arith .sub (t 15) (.const (.int .i32 44032))) 14 true, og 17 (.arith .rem (t 16) (.const (.int .i32 28))) 14 true, og 18 (.arith .eql (t 17) (.const (.int .i32 0))) 14 true,
  o 19 (.pick (t 14) (t 18) ff), m 7 19]] (.cond (t 7) (q [r [o 20 (.build [.int .i32 0, .int .i32 0, .int .u8 0, .int .u8 0, .int .u8 0, .int .u8 0, .int .u8 0] [(2,
  1, .const (.int .u8 12)), (3, 1, .const (.int .u8 3)), (4, 1, .const (.int .u8 18))]), s 7 2 20]] (.ret)) (q [r [m 22 0, ar 23 .geq (t 22) (.const (.int .i32 44032)),
  m 24 23, og 25 (.mov (t 0)) 24 true, og 26 (.arith .leq (t 25) (.const (.int .i32 55203))) 24 true, o 27 (.pick (t 24) (t 26) ff), m 21 27]] (.cond (t 21) (q [r [o 28 (.build [.int .i32 0,
  .int .i32 0, .int .u8 0, .int .u8 0, .int .u8 0, .int .u8 0, .int .u8 0] [(2, 1, .const (.int .u8 13)), (3, 1, .const (.int .u8 3)), (4, 1, .const (.int .u8 18))]),
  s 7 2 28]] (.ret)) (q [r [m 30 0, ar 31 .leq (t 30) (.const (.int .i32 161)), m 29 31]] (.cond (t 29) (q [r [c 32 259 [], o 3 (.new [.int .i32 0, .int .i32 0,
  .int .u8 0, .int .u8 0, .int .u8 0, .int .u8 0, .int .u8 0, .int .i32 0, .int .i32 0, .int .u8 0, .int .u8 0, .int .u8 0, .int .u8 0, .int .u8 0, .int .i32 0,
  .int .i32 0, .int .u8 0, .int .u8 0, .int .u8 0, .int .u8 0, .int .u8 0, .int .i32 0, .int .i32 0, .int .u8 0, .int .u8 0, .int .u8 0, .int .u8 0, .int .u8 0,
  .int .i32 0, .int .i32 0, .int .u8 0, .int .u8 0, .int .u8 0, .int .u8 0, .int .u8 0, .int .i32 0, .int .i32 0, .int .u8 0, .int .u8 0, .int .u8 0, .int .u8 0,
  .int .u8 0, .int .i32 0, .int .i32 0, .int .u8 0, .int .u8 0, .int .u8 0, .int .u8 0, .int .u8 0, .int .i32 0, .int .i32 0, .int .u8 0, .int .u8 0, .int .u8 0,
  .int .u8 0, .int .u8 0, .int .i32 0, .int .i32 0, .int .u8 0, .int .u8 0, .int .u8 0, .int .u8 0, .int .u8 0, .int .i32 0, .int .i32 0, .int .u8 0, .int .u8 0,
  .int .u8 0, .int .u8 0, .int .u8 0, .int .i32 0, .int .i32 0, .int .u8 0, .int .u8 0, .int .u8 0, .int .u8 0, .int .u8 0, .int .i32 0, .int .i32 0, .int .u8 0,
  .int .u8 0, .int .u8 0, .int .u8 0, .int .u8 0, .int .i32 0, .int .i32 0, .int .u8 0, .int .u8 0, .int .u8 0, .int .u8 0, .int .u8 0, .int .i32 0, .int .i32 0,
  .int .u8 0, .int .u8 0, .int .u8 0, .int .u8 0, .int .u8 0, .int .i32 0, .int .i32 0, .int .u8 0, .int .u8 0, .int .u8 0, .int .u8 0, .int .u8 0, .int .i32 0,
  .int .i32 0, .int .u8 0, .int .u8 0, .int .u8 0, .int .u8 0, .int .u8 0, .int .i32 0, .int .i32 0, .int .u8 0, .int .u8 0, .int .u8 0, .int .u8 0, .int .u8 0,
  .int .i32 0, .int .i32 0, .int .u8 0, .int .u8 0, .int .u8 0, .int .u8 0, .int .u8 0, .int .i32 0, .int .i32 0, .int .u8 0, .int .u8 0, .int .u8 0, .int .u8 0,
  .int .u8 0, .int .i32 0, .int .i32 0, .int .u8 0, .int .u8 0, .int .u8 0, .int .u8 0, .int .u8 0, .int .i32 0, .int .i32 0, .int .u8 0, .int .u8 0, .int .u8 0,
  .int .u8 0, .int .u8 0, .int .i32 0, .int .i32 0, .int .u8 0, .int .u8 0, .int .u8 0, .int .u8 0, .int .u8 0, .int .i32 0, .int .i32 0, .int .u8 0, .int .u8 0,
  .int .u8 0, .int .u8 0, .int .u8 0, .int .i32 0, .int .i32 0, .int .u8 0, .int .u8 0, .int .u8 0, .int .u8 0, .int .u8 0, .int .i32 0, .int .i32 0, .int .u8 0,
  .int .u8 0, .int .u8 0, .int .u8 0, .int .u8 0, .int .i32 0, .int .i32 0, .int .u8 0, .int .u8 0, .int .u8 0, .int .u8 0, .int .u8 0, .int .i32 0, .int .i32 0,
  .int .u8 0, .int .u8 0, .int .u8 0, .int .u8 0, .int .u8 0, .int .i32 0, .int .i32 0, .int .u8 0, .int .u8 0, .int .u8 0, .int .u8 0, .int .u8 0, .int .i32 0,
  .int .i32 0, .int .u8 0, .int .u8 0, .int .u8 0, .int .u8 0, .int .u8 0, .int .i32 0, .int .i32 0, .int .u8 0, .int .u8 0, .int .u8 0, .int .u8 0, .int .u8 0,
  .int .i32 0, .int .i32 0, .int .u8 0, .int .u8 0, .int .u8 0, .int .u8 0, .int .u8 0, .int .i32 0, .int .i32 0, .int .u8 0, .int .u8 0, .int .u8 0, .int .u8 0,
  .int .u8 0, .int .i32 0, .int .i32 0, .int .u8 0, .int .u8 0, .int .u8 0, .int .u8 0, .int .u8 0, .int .i32 0, .int .i32 0, .int .u8 0, .int .u8 0, .int .u8 0,
  .int .u8 0, .int .u8 0, .int .i32 0, .int .i32 0, .int .u8 0, .int .u8 0, .int .u8 0, .int .u8 0, .int .u8 0, .int .i32 0, .int .i32 0, .int .u8 0, .int .u8 0,
  .int .u8 0, .int .u8 0, .int .u8 0, .int .i32 0, .int .i32 0, .int .u8 0, .int .u8 0, .int .u8 0, .int .u8 0, .int .u8 0, .int .i32 0, .int .i32 0, .int .u8 0,
  .int .u8 0, .int .u8 0, .int .u8 0, .int .u8 0, .int .i32 0, .int .i32 0, .int .u8 0, .int .u8 0, .int .u8 0, .int .u8 0, .int .u8 0, .int .i32 0, .int .i32 0,
  .int .u8 0, .int .u8 0, .int .u8 0, .int .u8 0, .int .u8 0, .int .i32 0, .int .i32 0, .int .u8 0, .int .u8 0, .int .u8 0, .int .u8 0, .int .u8 0, .int .i32 0,
  .int .i32 0, .int .u8 0, .int .u8 0, .int .u8 0, .int .u8 0, .int .u8 0, .int .i32 0, .int .i32 0, .int .u8 0, .int .u8 0, .int .u8 0, .int .u8 0, .int .u8 0,
  .int .i32 0, .int .i32 0, .int .u8 0, .int .u8 0, .int .u8 0, .int .u8 0, .int .u8 0]), s 308 3 32], r [o 33 (.xo (.slpa 44 7) [t 3]), m 34 0, c 35 260 [t 33,
  t 34], s 7 2 35]] (.ret)) (q [r [m 37 0, ar 38 .leq (t 37) (.const (.int .i32 1642)), m 36 38]] (.cond (t 36) (q [r [c 39 261 [], o 4 (.new [.int .i32 0,
  .int .i32 0, .int .u8 0, .int .u8 0, .int .u8 0, .int .u8 0, .int .u8 0, .int .i32 0, .int .i32 0, .int .u8 0, .int .u8 0, .int .u8 0, .int .u8 0, .int .u8 0,
  .int .i32 0, .int .i32 0, .int .u8 0, .int .u8 0, .int .u8 0, .int .u8 0, .int .u8 0, .int .i32 0, .int .i32 0, .int .u8 0, .int .u8 0, .int .u8 0, .int .u8 0,
  .int .u8 0, .int .i32 0, .int .i32 0, .int .u8 0, .int .u8 0, .int .u8 0, .int .u8 0, .int .u8 0, .int .i32 0, .int .i32 0, .int .u8 0, .int .u8 0, .int .u8 0,
  .int .u8 0, .int .u8 0, .int .i32 0, .int .i32 0, .int .u8 0, .int .u8 0, .int .u8 0, .int .u8 0, .int .u8 0, .int .i32 0, .int .i32 0, .int .u8 0, .int .u8 0,
  .int .u8 0, .int .u8 0, .int .u8 0, .int .i32 0, .int .i32 0, .int .u8 0, .int .u8 0, .int .u8 0, .int .u8 0, .int .u8 0, .int .i32 0, .int .i32 0, .int .u8 0,
  .int .u8 0, .int .u8 0, .int .u8 0, .int .u8 0, .int .i32 0, .int .i32 0, .int .u8 0, .int .u8 0, .int .u8 0, .int .u8 0, .int .u8 0, .int .i32 0, .int .i32 0,
  .int .u8 0, .int .u8 0, .int .u8 0, .int .u8 0, .int .u8 0, .int .i32 0, .int .i32 0, .int .u8 0, .int .u8 0, .int .u8 0, .int .u8 0, .int .u8 0, .int .i32 0,
  .int .i32 0, .int .u8 0, .int .u8 0, .int .u8 0, .int .u8 0, .int .u8 0, .int .i32 0, .int .i32 0, .int .u8 0, .int .u8 0, .int .u8 0, .int .u8 0, .int .u8 0,
  .int .i32 0, .int .i32 0, .int .u8 0, .int .u8 0, .int .u8 0, .int .u8 0, .int .u8 0, .int .i32 0, .int .i32 0, .int .u8 0, .int .u8 0, .int .u8 0, .int .u8 0,
  .int .u8 0, .int .i32 0, .int .i32 0, .int .u8 0, .int .u8 0, .int .u8 0, .int .u8 0, .int .u8 0, .int .i32 0, .int .i32 0, .int .u8 0, .int .u8 0, .int .u8 0,
  .int .u8 0, .int .u8 0, .int .i32 0, .int .i32 0, .int .u8 0, .int .u8 0, .int .u8 0, .int .u8 0, .int .u8 0, .int .i32 0, .int .i32 0, .int .u8 0, .int .u8 0,
  .int .u8 0, .int .u8 0, .int .u8 0, .int .i32 0, .int .i32 0, .int .u8 0, .int .u8 0, .int .u8 0, .int .u8 0, .int .u8 0, .int .i32 0, .int .i32 0, .int .u8 0,
  .int .u8 0, .int .u8 0, .int .u8 0, .int .u8 0, .int .i32 0, .int .i32 0, .int .u8 0, .int .u8 0, .int .u8 0, .int .u8 0, .int .u8 0, .int .i32 0, .int .i32 0,
  .int .u8 0, .int .u8 0, .int .u8 0, .int .u8 0, .int .u8 0, .int .i32 0, .int .i32 0, .int .u8 0, .int .u8 0, .int .u8 0, .int .u8 0, .int .u8 0, .int .i32 0,
  .int .i32 0, .int .u8 0, .int .u8 0, .int .u8 0, .int .u8 0, .int .u8 0, .int .i32 0, .int .i32 0, .int .u8 0, .int .u8 0, .int .u8 0, .int .u8 0, .int .u8 0,
  .int .i32 0, .int .i32 0, .int .u8 0, .int .u8 0, .int .u8 0, .int .u8 0, .int .u8 0, .int .i32 0, .int .i32 0, .int .u8 0, .int .u8 0, .int .u8 0, .int .u8 0,
  .int .u8 0, .int .i32 0, .int .i32 0, .int .u8 0, .int .u8 0, .int .u8 0, .int .u8 0, .int .u8 0, .int .i32 0, .int .i32 0, .int .u8 0, .int .u8 0, .int .u8 0,
  .int .u8 0, .int .u8 0, .int .i32 0, .int .i32 0, .int .u8 0, .int .u8 0, .int .u8 0, .int .u8 0, .int .u8 0, .int .i32 0, .int .i32 0, .int .u8 0, .int .u8 0,
  .int .u8 0, .int .u8 0, .int .u8 0, .int .i32 0, .int .i32 0, .int .u8 0, .int .u8 0, .int .u8 0, .int .u8 0, .int .u8 0, .int .i32 0, .int .i32 0, .int .u8 0,
  .int .u8 0, .int .u8 0, .int .u8 0, .int .u8 0, .int .i32 0, .int .i32 0, .int .u8 0, .int .u8 0, .int .u8 0, .int .u8 0, .int .u8 0, .int .i32 0, .int .i32 0,
  .int .u8 0, .int .u8 0, .int .u8 0, .int .u8 0, .int .u8 0, .int .i32 0, .int .i32 0, .int .u8 0, .int .u8 0, .int .u8 0, .int .u8 0, .int .u8 0, .int .i32 0,
  .int .i32 0, .int .u8 0, .int .u8 0, .int .u8 0, .int .u8 0, .int .u8 0, .int .i32 0, .int .i32 0, .int .u8 0, .int .u8 0, .int .u8 0, .int .u8 0, .int .u8 0,
  .int .i32 0, .int .i32 0, .int .u8 0, .int .u8 0, .int .u8 0, .int .u8 0, .int .u8 0, .int .i32 0, .int .i32 0, .int .u8 0, .int .u8 0, .int .u8 0, .int .u8 0,
  .int .u8 0, .int .i32 0, .int .i32 0, .int .u8 0, .int .u8 0, .int .u8 0, .int .u8 0, .int .u8 0]), s 308 4 39], r [o 40 (.xo (.slpa 44 7) [t 4]), m 41 0,
  c 42 260 [t 40, t 41], s 7 2 42]] (.ret)) (q [r [m 44 0, ar 45 .leq (t 44) (.const (.int .i32 8237)), m 43 45]] (.cond (t 43) (q [r [c 46 262 [], o 5 (.new [.int .i32 0,
  .int .i32 0, .int .u8 0, .int .u8 0, .int .u8 0, .int .u8 0, .int .u8 0, .int .i32 0, .int .i32 0, .int .u8 0, .int .u8 0, .int .u8 0, .int .u8 0, .int .u8 0,
  .int .i32 0, .int .i32 0, .int .u8 0, .int .u8 0, .int .u8 0, .int .u8 0, .int .u8 0, .int .i32 0, .int .i32 0, .int .u8 0, .int .u8 0, .int .u8 0, .int .u8 0,
  .int .u8 0, .int .i32 0, .int .i32 0, .int .u8 0, .int .u8 0, .int .u8 0, .int .u8 0, .int .u8 0, .int .i32 0, .int .i32 0, .int .u8 0, .int .u8 0, .int .u8 0,
  .int .u8 0, .int .u8 0, .int .i32 0, .int .i32 0, .int .u8 0, .int .u8 0, .int .u8 0, .int .u8 0, .int .u8 0, .int .i32 0, .int .i32 0, .int .u8 0, .int .u8 0,
  .int .u8 0, .int .u8 0, .int .u8 0, .int .i32 0, .int .i32 0, .int .u8 0, .int .u8 0, .int .u8 0, .int .u8 0, .int .u8 0, .int .i32 0, .int .i32 0, .int .u8 0,
  .int .u8 0, .int .u8 0, .int .u8 0, .int .u8 0, .int .i32 0, .int .i32 0, .int .u8 0, .int .u8 0, .int .u8 0, .int .u8 0, .int .u8 0, .int .i32 0, .int .i32 0,
  .int .u8 0, .int .u8 0, .int .u8 0, .int .u8 0, .int .u8 0, .int .i32 0, .int .i32 0, .int .u8 0, .int .u8 0, .int .u8 0, .int .u8 0, .int .u8 0, .int .i32 0,
  .int .i32 0, .int .u8 0, .int .u8 0, .int .u8 0, .int .u8 0, .int .u8 0, .int .i32 0, .int .i32 0, .int .u8 0, .int .u8 0, .int .u8 0, .int .u8 0, .int .u8 0,
  .int .i32 0, .int .i32 0, .int .u8 0, .int .u8 0, .int .u8 0, .int .u8 0, .int .u8 0, .int .i32 0, .int .i32 0, .int .u8 0, .int .u8 0, .int .u8 0, .int .u8 0,
  .int .u8 0, .int .i32 0, .int .i32 0, .int .u8 0, .int .u8 0, .int .u8 0, .int .u8 0, .int .u8 0, .int .i32 0, .int .i32 0, .int .u8 0, .int .u8 0, .int .u8 0,
  .int .u8 0, .int .u8 0, .int .i32 0, .int .i32 0, .int .u8 0, .int .u8 0, .int .u8 0, .int .u8 0, .int .u8 0, .int .i32 0, .int .i32 0, .int .u8 0, .int .u8 0,
  .int .u8 0, .int .u8 0, .int .u8 0, .int .i32 0, .int .i32 0, .int .u8 0, .int .u8 0, .int .u8 0, .int .u8 0, .int .u8 0, .int .i32 0, .int .i32 0, .int .u8 0,
  .int .u8 0, .int .u8 0, .int .u8 0, .int .u8 0, .int .i32 0, .int .i32 0, .int .u8 0, .int .u8 0, .int .u8 0, .int .u8 0, .int .u8 0, .int .i32 0, .int .i32 0,
  .int .u8 0, .int .u8 0, .int .u8 0, .int .u8 0, .int .u8 0, .int .i32 0, .int .i32 0, .int .u8 0, .int .u8 0, .int .u8 0, .int .u8 0, .int .u8 0, .int .i32 0,
  .int .i32 0, .int .u8 0, .int .u8 0, .int .u8 0, .int .u8 0, .int .u8 0, .int .i32 0, .int .i32 0, .int .u8 0, .int .u8 0, .int .u8 0, .int .u8 0, .int .u8 0,
  .int .i32 0, .int .i32 0, .int .u8 0, .int .u8 0, .int .u8 0, .int .u8 0, .int .u8 0, .int .i32 0, .int .i32 0, .int .u8 0, .int .u8 0, .int .u8 0, .int .u8 0,
  .int .u8 0, .int .i32 0, .int .i32 0, .int .u8 0, .int .u8 0, .int .u8 0, .int .u8 0, .int .u8 0, .int .i32 0, .int .i32 0, .int .u8 0, .int .u8 0, .int .u8 0,
  .int .u8 0, .int .u8 0, .int .i32 0, .int .i32 0, .int .u8 0, .int .u8 0, .int .u8 0, .int .u8 0, .int .u8 0, .int .i32 0, .int .i32 0, .int .u8 0, .int .u8 0,
  .int .u8 0, .int .u8 0, .int .u8 0, .int .i32 0, .int .i32 0, .int .u8 0, .int .u8 0, .int .u8 0, .int .u8 0, .int .u8 0, .int .i32 0, .int .i32 0, .int .u8 0,
  .int .u8 0, .int .u8 0, .int .u8 0, .int .u8 0, .int .i32 0, .int .i32 0, .int .u8 0, .int .u8 0, .int .u8 0, .int .u8 0, .int .u8 0, .int .i32 0, .int .i32 0,
  .int .u8 0, .int .u8 0, .int .u8 0, .int .u8 0, .int .u8 0, .int .i32 0, .int .i32 0, .int .u8 0, .int .u8 0, .int .u8 0, .int .u8 0, .int .u8 0, .int .i32 0,
  .int .i32 0, .int .u8 0, .int .u8 0, .int .u8 0, .int .u8 0, .int .u8 0, .int .i32 0, .int .i32 0, .int .u8 0, .int .u8 0, .int .u8 0, .int .u8 0, .int .u8 0,
  .int .i32 0, .int .i32 0, .int .u8 0, .int .u8 0, .int .u8 0, .int .u8 0, .int .u8 0, .int .i32 0, .int .i32 0, .int .u8 0, .int .u8 0, .int .u8 0, .int .u8 0,
  .int .u8 0, .int .i32 0, .int .i32 0, .int .u8 0, .int .u8 0, .int .u8 0, .int .u8 0, .int .u8 0]), s 308 5 46], r [o 47 (.xo (.slpa 44 7) [t 5]), m 48 0,
  c 49 260 [t 47, t 48], s 7 2 49]] (.ret)) (sk))))))))))), r [c 50 263 [], o 6 (.new [.int .i32 0, .int .i32 0, .int .u8 0, .int .u8 0, .int .u8 0, .int .u8 0,
  .int .u8 0, .int .i32 0, .int .i32 0, .int .u8 0, .int .u8 0, .int .u8 0, .int .u8 0, .int .u8 0, .int .i32 0, .int .i32 0, .int .u8 0, .int .u8 0, .int .u8 0,
  .int .u8 0, .int .u8 0, .int .i32 0, .int .i32 0, .int .u8 0, .int .u8 0, .int .u8 0, .int .u8 0, .int .u8 0, .int .i32 0, .int .i32 0, .int .u8 0, .int .u8 0,
  .int .u8 0, .int .u8 0, .int .u8 0, .int .i32 0, .int .i32 0, .int .u8 0, .int .u8 0, .int .u8 0, .int .u8 0, .int .u8 0, .int .i32 0, .int .i32 0, .int .u8 0,
  .int .u8 0, .int .u8 0, .int .u8 0, .int .u8 0, .int .i32 0, .int .i32 0, .int .u8 0, .int .u8 0, .int .u8 0, .int .u8 0, .int .u8 0, .int .i32 0, .int .i32 0,
  .int .u8 0, .int .u8 0, .int .u8 0, .int .u8 0, .int .u8 0, .int .i32 0, .int .i32 0, .int .u8 0, .int .u8 0, .int .u8 0, .int .u8 0, .int .u8 0, .int .i32 0,
  .int .i32 0, .int .u8 0, .int .u8 0, .int .u8 0, .int .u8 0, .int .u8 0, .int .i32 0, .int .i32 0, .int .u8 0, .int .u8 0, .int .u8 0, .int .u8 0, .int .u8 0,
  .int .i32 0, .int .i32 0, .int .u8 0, .int .u8 0, .int .u8 0, .int .u8 0, .int .u8 0, .int .i32 0, .int .i32 0, .int .u8 0, .int .u8 0, .int .u8 0, .int .u8 0,
  .int .u8 0, .int .i32 0, .int .i32 0, .int .u8 0, .int .u8 0, .int .u8 0, .int .u8 0, .int .u8 0, .int .i32 0, .int .i32 0, .int .u8 0, .int .u8 0, .int .u8 0,
  .int .u8 0, .int .u8 0, .int .i32 0, .int .i32 0, .int .u8 0, .int .u8 0, .int .u8 0, .int .u8 0, .int .u8 0, .int .i32 0, .int .i32 0, .int .u8 0, .int .u8 0,
  .int .u8 0, .int .u8 0, .int .u8 0, .int .i32 0, .int .i32 0, .int .u8 0, .int .u8 0, .int .u8 0, .int .u8 0, .int .u8 0, .int .i32 0, .int .i32 0, .int .u8 0,
  .int .u8 0, .int .u8 0, .int .u8 0, .int .u8 0, .int .i32 0, .int .i32 0, .int .u8 0, .int .u8 0, .int .u8 0, .int .u8 0, .int .u8 0, .int .i32 0, .int .i32 0,
  .int .u8 0, .int .u8 0, .int .u8 0, .int .u8 0, .int .u8 0, .int .i32 0, .int .i32 0, .int .u8 0, .int .u8 0, .int .u8 0, .int .u8 0, .int .u8 0, .int .i32 0,
  .int .i32 0, .int .u8 0, .int .u8 0, .int .u8 0, .int .u8 0, .int .u8 0, .int .i32 0, .int .i32 0, .int .u8 0, .int .u8 0, .int .u8 0, .int .u8 0, .int .u8 0,
  .int .i32 0, .int .i32 0, .int .u8 0, .int .u8 0, .int .u8 0, .int .u8 0, .int .u8 0, .int .i32 0, .int .i32 0, .int .u8 0, .int .u8 0, .int .u8 0, .int .u8 0,
  .int .u8 0, .int .i32 0, .int .i32 0, .int .u8 0, .int .u8 0, .int .u8 0, .int .u8 0, .int .u8 0, .int .i32 0, .int .i32 0, .int .u8 0, .int .u8 0, .int .u8 0,
  .int .u8 0, .int .u8 0, .int .i32 0, .int .i32 0, .int .u8 0, .int .u8 0, .int .u8 0, .int .u8 0, .int .u8 0, .int .i32 0, .int .i32 0, .int .u8 0, .int .u8 0,
  .int .u8 0, .int .u8 0, .int .u8 0, .int .i32 0, .int .i32 0, .int .u8 0, .int .u8 0, .int .u8 0, .int .u8 0, .int .u8 0, .int .i32 0, .int .i32 0, .int .u8 0,
  .int .u8 0, .int .u8 0, .int .u8 0, .int .u8 0, .int .i32 0, .int .i32 0, .int .u8 0, .int .u8 0, .int .u8 0, .int .u8 0, .int .u8 0, .int .i32 0, .int .i32 0,
  .int .u8 0, .int .u8 0, .int .u8 0, .int .u8 0, .int .u8 0, .int .i32 0, .int .i32 0, .int .u8 0, .int .u8 0, .int .u8 0, .int .u8 0, .int .u8 0, .int .i32 0,
  .int .i32 0, .int .u8 0, .int .u8 0, .int .u8 0, .int .u8 0, .int .u8 0, .int .i32 0, .int .i32 0, .int .u8 0, .int .u8 0, .int .u8 0, .int .u8 0, .int .u8 0,
  .int .i32 0, .int .i32 0, .int .u8 0, .int .u8 0, .int .u8 0, .int .u8 0, .int .u8 0, .int .i32 0, .int .i32 0, .int .u8 0, .int .u8 0, .int .u8 0, .int .u8 0,
  .int .u8 0, .int .i32 0, .int .i32 0, .int .u8 0, .int .u8 0, .int .u8 0, .int .u8 0, .int .u8 0]), s 287 6 50], r [o 51 (.xo (.slpa 41 7) [t 6]), m 52 0,
  c 53 260 [t 51, t 52], s 7 2 53]] (.ret)⟩
theorem A223_ok : XOk Tryz.prog ITS 223 A223 := ⟨Tryz.f223, Tryz.func223, by kernel_rfl, by decide, by kernel_rfl, its_nil (by kernel_rfl)⟩

/- widgetry/segment.control -/
def A224 : AFn := ⟨13, [.tmp 2], q [r [mv 2 ff], r [m 3 0, ar 4 .eql (t 3) (n 3), m 5 4, og 6 (.mov (t 0)) 5 false, og 7 (.arith .eql (t 6) (n 1)) 5 false, o 8 (.pick (t 5) tt (t 7)),
  m 9 8, og 10 (.mov (t 0)) 9 false, og 11 (.arith .eql (t 10) (n 2)) 9 false, o 12 (.pick (t 9) tt (t 11)), m 2 12]] (.ret)⟩
theorem A224_ok : XOk Tryz.prog ITS 224 A224 := ⟨Tryz.f224, Tryz.func224, by kernel_rfl, by decide, by kernel_rfl, its_nil (by kernel_rfl)⟩

/- widgetry/char.Joining -/
def A226 : AFn := ⟨7, [.tmp 2], q [r [mv 2 (n 0)], r [m 3 0, c 4 223 [t 3], o 5 (.fld 6 none (t 4)), o 6 (.convI .i64 (t 5)), m 2 6]] (.ret)⟩
theorem A226_ok : XOk Tryz.prog ITS 226 A226 := ⟨Tryz.f226, Tryz.func226, by kernel_rfl, by decide, by kernel_rfl, its_nil (by kernel_rfl)⟩

/- widgetry/shape.forward -/
def A227 : AFn := ⟨9, [.tmp 2], q [r [mv 2 ff], r [m 3 0, ar 4 .eql (t 3) (n 2), m 5 4, og 6 (.mov (t 0)) 5 false, og 7 (.arith .eql (t 6) (n 3)) 5 false, o 8 (.pick (t 5) tt (t 7)),
  m 2 8]] (.ret)⟩
theorem A227_ok : XOk Tryz.prog ITS 227 A227 := ⟨Tryz.f227, Tryz.func227, by kernel_rfl, by decide, by kernel_rfl, its_nil (by kernel_rfl)⟩

/- widgetry/bidi.classes -/
def A230 : AFn := ⟨23, [.tmp 2], q [r [mv 2 (.const (.nilsl))], r [m 6 0, le 7 6, o 8 (.mksl 1 8 [.int .i64 0] (t 7) (t 7)), m 3 8], q [r [m 9 0, le 10 9, mv 11 (n 0)]] (.block 0 (.loop (q [r [ar 12 .lss (t 11) (t 10)],
  .cond (t 12) (sk) (.exit 0), .block 1 (q [r [m 13 11, ia 14 1 9 (t 11), l 15 14, m 4 13, m 5 15]] (r [m 16 3, m 17 4, m 18 5, c 19 241 [t 18], ia 20 1 16 (t 17),
  s 1 20 19]))] (r [ar 21 .add (t 11) (n 1), m 11 21])))), r [m 22 3, m 2 22]] (.ret)⟩
theorem A230_ok : XOk Tryz.prog ITS 230 A230 := ⟨Tryz.f230, Tryz.func230, by kernel_rfl, by decide, by kernel_rfl, its_nil (by kernel_rfl)⟩

/- widgetry/bidi.matching -/
def A232 : AFn := ⟨57, [.tmp 2], q [r [mv 2 (.const (.nilsl))], r [m 8 0, le 9 8, o 10 (.mksl 1 8 [.int .i64 0] (t 9) (t 9)), m 3 10], r [mv 4 (.const (.nilsl))], q [r [m 11 0, le 12 11,
  mv 13 (n 0)]] (.block 0 (.loop (q [r [ar 14 .lss (t 13) (t 12)], .cond (t 14) (sk) (.exit 0), .block 1 (q [r [m 15 13, ia 16 1 11 (t 13), l 17 16, m 5 15,
  m 6 17], r [m 18 3, m 19 5, ia 20 1 18 (t 19), sv 1 20 (n (-1))]] (.block 2 (q [r [m 22 6, c 23 264 [t 22], m 21 23]] (.cond (t 21) (r [m 24 4, m 25 5,
  o 26 (.buildSl 1 1 [.int .i64 0] [(0, 1, .tmp 25)]), o 27 (.app 1 8 (t 24) (t 26)), m 4 27]) (q [r [m 29 6, ar 30 .eql (t 29) (n 22), m 31 30, og 32 (.mov (t 4)) 31 true,
  og 33 (.len (t 32)) 31 true, og 34 (.arith .gtr (t 33) (n 0)) 31 true, o 35 (.pick (t 31) (t 34) ff), m 28 35]] (.cond (t 28) (q [r [m 36 4, m 37 4, le 38 37,
  ar 39 .sub (t 38) (n 1), ia 40 1 36 (t 39), l 41 40, m 7 41], r [m 42 4, m 43 4, le 44 43, ar 45 .sub (t 44) (n 1), o 46 (.sl 1 (t 42) none (some (.tmp 45)) none),
  m 4 46]] (r [m 47 3, m 48 5, m 49 3, m 50 7, m 51 7, m 52 5, ia 53 1 47 (t 48), s 1 53 51, ia 54 1 49 (t 50), s 1 54 52])) (sk)))))))] (r [ar 55 .add (t 13) (n 1),
  m 13 55])))), r [m 56 3, m 2 56]] (.ret)⟩
theorem A232_ok : XOk Tryz.prog ITS 232 A232 := ⟨Tryz.f232, Tryz.func232, by kernel_rfl, by decide, by kernel_rfl, its_nil (by kernel_rfl)⟩

/- (*widgetry/bidi.paragraph).explicit -/
def A233 : AFn := ⟨226, [], q [r [o 1 (.box (t 0))], r [l 15 1, o 16 (.nilchk (t 15)), fa 17 5 16, l 18 17, o 19 (.build [.int .i64 0, .int .i64 0, .bool false] [(0, 1, .tmp 18),
  (1, 1, .const (.int .i64 (-1))), (2, 1, .const (.bool false))]), o 20 (.buildSl 3 1 [.int .i64 0, .int .i64 0, .bool false] [(0, 3, .tmp 19)]), o 2 (.new [.nilsl]),
  s 1 2 20], r [mv 3 (n 0), mv 4 (n 0), mv 5 (n 0)], r [l 21 1, o 22 (.nilchk (t 21)), fa 23 1 22, l 24 23, le 25 24, mv 26 (n 0)]] (.block 0 (.loop (q [r [ar 27 .lss (t 26) (t 25)],
  .cond (t 27) (sk) (.exit 0), .block 1 (q [r [m 28 26, ia 29 1 24 (t 26), l 30 29, o 6 (.new [.int .i64 0]), s 1 6 28, m 7 30], r [l 31 2, l 32 2, le 33 32,
  ar 34 .sub (t 33) (n 1), ia 35 3 31 (t 34), ln 36 3 35, o 8 (.new [.int .i64 0, .int .i64 0, .bool false]), s 3 8 36], d [(l 37 1, 0), (o 38 (.nilchk (t 37)),
  1), (fa 39 4 38, 3), (l 40 39, 7), (l 41 6, 0), (fa 42 0 8, 0), (l 43 42, 32), (ia 44 1 40 (t 41), 127), (s 1 44 43, 255)], r [o 45 (.mkf (.func 265) [] [t 2,
  t 1, t 6]), m 9 45], r [m 46 7]] (.block 2 (q [q [r [ar 50 .eql (t 46) (n 16), m 49 50]] (.cond (t 49) (sk) (q [r [ar 51 .eql (t 46) (n 14), m 49 51]] (.cond (t 49) (sk) (q [r [ar 52 .eql (t 46) (n 17),
  m 49 52]] (.cond (t 49) (sk) (r [ar 53 .eql (t 46) (n 15), m 49 53]))))))] (.cond (t 49) (q [r [mv 10 (n (-1))], q [r [m 54 7, ar 55 .eql (t 54) (n 17)]] (.cond (t 55) (r [mv 10 (n 1)]) (q [r [m 56 7,
  ar 57 .eql (t 56) (n 15)]] (.cond (t 57) (r [mv 10 (n 0)]) (sk)))), r [fa 58 0 8, l 59 58, m 60 7, ar 61 .eql (t 60) (n 16), m 62 61, og 63 (.mov (t 7)) 62 false,
  og 64 (.arith .eql (t 63) (n 17)) 62 false, o 65 (.pick (t 62) tt (t 64)), c 66 266 [t 59, t 65], m 11 66], r [m 67 11, ar 68 .leq (t 67) (n 125), m 69 68,
  og 70 (.mov (t 3)) 69 true, og 71 (.arith .eql (t 70) (n 0)) 69 true, o 72 (.pick (t 69) (t 71) ff), m 73 72, og 74 (.mov (t 4)) 73 true, og 75 (.arith .eql (t 74) (n 0)) 73 true,
  o 76 (.pick (t 73) (t 75) ff)]] (.cond (t 76) (r [l 77 2, m 78 11, m 79 10, o 80 (.build [.int .i64 0, .int .i64 0, .bool false] [(0, 1, .tmp 78), (1,
  1, .tmp 79), (2, 1, .const (.bool false))]), o 81 (.buildSl 3 1 [.int .i64 0, .int .i64 0, .bool false] [(0, 3, .tmp 80)]), o 82 (.app 3 24 (t 77) (t 81)),
  s 1 2 82]) (q [r [m 83 3, ar 84 .eql (t 83) (n 0)]] (.cond (t 84) (r [m 85 4, ar 86 .add (t 85) (n 1), m 4 86]) (sk))))) (q [q [r [ar 88 .eql (t 46) (n 20),
  m 87 88]] (.cond (t 87) (sk) (q [r [ar 89 .eql (t 46) (n 19), m 87 89]] (.cond (t 87) (sk) (r [ar 90 .eql (t 46) (n 21), m 87 90]))))] (.cond (t 87) (q [r [m 91 9,
  o 92 (.call (t 91) [])], r [m 93 7, ar 94 .eql (t 93) (n 20), m 12 94], q [r [m 95 7, ar 96 .eql (t 95) (n 21)]] (.cond (t 96) (q [d [(l 97 1, 0), (o 98 (.nilchk (t 97)),
  1), (fa 99 3 98, 3), (l 100 99, 7), (l 101 6, 0), (ia 102 1 100 (t 101), 31), (l 103 102, 63), (m 13 103, 127)], q [r [m 104 13, ar 105 .lss (t 104) (n 0)]] (.cond (t 105) (r [l 106 1,
  o 107 (.nilchk (t 106)), fa 108 1 107, l 109 108, le 110 109, m 13 110]) (sk))] (d [(l 111 1, 0), (o 112 (.nilchk (t 111)), 1), (fa 113 1 112, 3), (l 114 113,
  7), (l 115 1, 0), (o 116 (.nilchk (t 115)), 16), (fa 117 3 116, 48), (l 118 117, 112), (l 119 6, 0), (ar 120 .add (t 119) (n 1), 256), (m 121 13, 0), (c 122 231 [t 114,
  t 118, t 120, t 121], 2047), (ar 123 .eql (t 122) (n 1), 4095), (m 12 123, 8191)])) (sk)), r [fa 124 0 8, l 125 124, m 126 12, c 127 266 [t 125, t 126],
  m 14 127], r [m 128 14, ar 129 .leq (t 128) (n 125), m 130 129, og 131 (.mov (t 3)) 130 true, og 132 (.arith .eql (t 131) (n 0)) 130 true, o 133 (.pick (t 130) (t 132) ff),
  m 134 133, og 135 (.mov (t 4)) 134 true, og 136 (.arith .eql (t 135) (n 0)) 134 true, o 137 (.pick (t 134) (t 136) ff)]] (.cond (t 137) (q [r [m 138 5,
  ar 139 .add (t 138) (n 1), m 5 139]] (r [l 140 2, m 141 14, o 142 (.build [.int .i64 0, .int .i64 0, .bool false] [(0, 1, .tmp 141), (1, 1, .const (.int .i64 (-1))),
  (2, 1, .const (.bool true))]), o 143 (.buildSl 3 1 [.int .i64 0, .int .i64 0, .bool false] [(0, 3, .tmp 142)]), o 144 (.app 3 24 (t 140) (t 143)), s 1 2 144])) (r [m 145 3,
  ar 146 .add (t 145) (n 1), m 3 146]))) (q [r [ar 148 .eql (t 46) (n 22), m 147 148]] (.cond (t 147) (q [q [r [m 149 3, ar 150 .gtr (t 149) (n 0)]] (.cond (t 150) (r [m 151 3,
  ar 152 .sub (t 151) (n 1), m 3 152]) (q [r [m 153 5, ar 154 .gtr (t 153) (n 0)]] (.cond (t 154) (q [r [mv 4 (n 0)], .block 3 (.loop (q [q [r [l 155 2,
  l 156 2, le 157 156, ar 158 .sub (t 157) (n 1), ia 159 3 155 (t 158), fa 160 2 159, l 161 160, o 162 (.un .not (t 161))]] (.cond (t 162) (sk) (.exit 3))] (.block 4 (r [l 163 2,
  l 164 2, le 165 164, ar 166 .sub (t 165) (n 1), o 167 (.sl 3 (t 163) none (some (.tmp 166)) none), s 1 2 167])))), r [l 168 2, l 169 2, le 170 169, ar 171 .sub (t 170) (n 1),
  o 172 (.sl 3 (t 168) none (some (.tmp 171)) none), s 1 2 172]] (r [m 173 5, ar 174 .sub (t 173) (n 1), m 5 174])) (sk)))), d [(l 175 1, 0), (o 176 (.nilchk (t 175)),
  1), (fa 177 4 176, 3), (l 178 177, 7), (l 179 6, 0), (l 180 2, 0), (l 181 2, 0), (le 182 181, 64), (ar 183 .sub (t 182) (n 1), 192), (ia 184 3 180 (t 183),
  480), (fa 185 0 184, 992), (l 186 185, 2016), (ia 187 1 178 (t 179), 4095), (s 1 187 186, 8191)]] (r [m 188 9, o 189 (.call (t 188) [])])) (q [r [ar 191 .eql (t 46) (n 18),
  m 190 191]] (.cond (t 190) (q [q [r [m 192 3, ar 193 .gtr (t 192) (n 0)]] (.cond (t 193) (.exit 2) (sk)), r [m 194 4, ar 195 .gtr (t 194) (n 0)]] (.cond (t 195) (r [m 196 4,
  ar 197 .sub (t 196) (n 1), m 4 197]) (q [r [fa 198 2 8, l 199 198, o 200 (.un .not (t 199)), m 201 200, og 202 (.ld1 (t 2)) 201 true, og 203 (.len (t 202)) 201 true,
  og 204 (.arith .gtr (t 203) (n 1)) 201 true, o 205 (.pick (t 201) (t 204) ff)]] (.cond (t 205) (r [l 206 2, l 207 2, le 208 207, ar 209 .sub (t 208) (n 1),
  o 210 (.sl 3 (t 206) none (some (.tmp 209)) none), s 1 2 210]) (sk))))) (q [r [ar 212 .eql (t 46) (n 10), m 211 212]] (.cond (t 211) (d [(l 213 1, 0),
  (o 214 (.nilchk (t 213)), 1), (fa 215 4 214, 3), (l 216 215, 7), (l 217 6, 0), (l 218 1, 0), (o 219 (.nilchk (t 218)), 32), (fa 220 5 219, 96), (l 221 220,
  224), (ia 222 1 216 (t 217), 511), (s 1 222 221, 1023)]) (q [r [ar 224 .eql (t 46) (n 9), m 223 224]] (.cond (t 223) (sk) (r [m 47 9, o 48 (.call (t 47) [])])))))))))))))))] (r [ar 225 .add (t 26) (n 1),
  m 26 225]))))⟩
theorem A233_ok : XOk Tryz.prog ITS 233 A233 := ⟨Tryz.f233, Tryz.func233, by kernel_rfl, by decide, by kernel_rfl, its_nil (by kernel_rfl)⟩

/- (*widgetry/bidi.paragraph).sequences -/
def A234 : AFn := ⟨209, [.tmp 2], q [r [mv 2 (.const (.nilsl))], r [mv 3 (.const (.nilsl))], q [r [m 22 0, o 23 (.nilchk (t 22)), fa 24 0 23, l 25 24, le 26 25, mv 27 (n 0)]] (.block 0 (.loop (q [r [ar 28 .lss (t 27) (t 26)],
  .cond (t 28) (sk) (.exit 0), .block 1 (q [r [m 29 27, m 4 29], r [m 30 0, m 31 4, c 32 239 [t 30, t 31], o 33 (.un .not (t 32))]] (.cond (t 33) (r [m 34 3,
  m 35 4, o 36 (.buildSl 1 1 [.int .i64 0] [(0, 1, .tmp 35)]), o 37 (.app 1 8 (t 34) (t 36)), m 3 37]) (sk)))] (r [ar 38 .add (t 27) (n 1), m 27 38])))),
  r [mv 5 (.const (.nilsl))], q [r [m 39 3, le 40 39, mv 41 (n 0)]] (.block 2 (.loop (q [r [ar 42 .lss (t 41) (t 40)], .cond (t 42) (sk) (.exit 2), .block 3 (q [r [m 43 41,
  ia 44 1 39 (t 41), l 45 44, m 6 43, m 7 45], q [d [(m 46 6, 0), (ar 47 .eql (t 46) (n 0), 1), (m 48 47, 3), (og 49 (.mov (t 0)) 48 false, 7), (og 50 (.nilchk (t 49)) 48 false,
  15), (og 51 (.fldA 4 (t 50)) 48 false, 31), (og 52 (.ld1 (t 51)) 48 false, 63), (og 53 (.mov (t 7)) 48 false, 7), (og 54 (.idxA 1 (t 52) (t 53)) 48 false,
  255), (og 55 (.ld1 (t 54)) 48 false, 511), (og 56 (.mov (t 0)) 48 false, 7), (og 57 (.nilchk (t 56)) 48 false, 1031), (og 58 (.fldA 4 (t 57)) 48 false,
  3079), (og 59 (.ld1 (t 58)) 48 false, 7175), (og 60 (.mov (t 3)) 48 false, 7), (og 61 (.mov (t 6)) 48 false, 7), (og 62 (.arith .sub (t 61) (n 1)) 48 false,
  32775), (og 63 (.idxA 1 (t 60) (t 62)) 48 false, 114695), (og 64 (.ld1 (t 63)) 48 false, 245767), (og 65 (.idxA 1 (t 59) (t 64)) 48 false, 523271), (og 66 (.ld1 (t 65)) 48 false,
  1047559), (og 67 (.arith .neq (t 55) (t 66)) 48 false, 2097151), (o 68 (.pick (t 48) tt (t 67)), 4194303)]] (.cond (t 68) (r [m 69 5, o 70 (.buildSl 1 1 [.nilsl] [(0,
  1, .const (.nilsl))]), o 71 (.app 1 24 (t 69) (t 70)), m 5 71]) (sk))] (r [m 72 5, m 73 5, le 74 73, ar 75 .sub (t 74) (n 1), m 76 5, m 77 5, le 78 77,
  ar 79 .sub (t 78) (n 1), ia 80 1 76 (t 79), l 81 80, m 82 7, o 83 (.buildSl 1 1 [.int .i64 0] [(0, 1, .tmp 82)]), o 84 (.app 1 8 (t 81) (t 83)), ia 85 1 72 (t 75),
  s 1 85 84]))] (r [ar 86 .add (t 41) (n 1), m 41 86])))), r [o 87 (.xo .mkmap []), m 8 87], q [r [m 88 5, le 89 88, mv 90 (n 0)]] (.block 4 (.loop (q [r [ar 91 .lss (t 90) (t 89)],
  .cond (t 91) (sk) (.exit 4), .block 5 (q [r [m 92 90, ia 93 1 88 (t 90), l 94 93, m 9 92, m 10 94]] (r [m 95 8, m 96 10, ia 97 1 96 (n 0), l 98 97, m 99 9,
  on (.xo (.mapset (.one (.int .i64))) [t 95, t 98, t 99])]))] (r [ar 100 .add (t 90) (n 1), m 90 100])))), d [(m 101 5, 0), (le 102 101, 1), (o 103 (.mksl 1 8 [.int .i64 0] (t 102) (t 102)),
  3), (m 104 5, 0), (le 105 104, 8), (o 106 (.mksl 1 1 [.bool false] (t 105) (t 105)), 24), (m 11 103, 7), (m 12 106, 127)], q [r [m 107 5, le 108 107, mv 109 (n 0)]] (.block 6 (.loop (q [r [ar 110 .lss (t 109) (t 108)],
  .cond (t 110) (sk) (.exit 6), .block 7 (q [r [m 111 109, ia 112 1 107 (t 109), l 113 112, m 13 111, m 14 113], r [m 114 11, m 115 13, ia 116 1 114 (t 115),
  sv 1 116 (n (-1))], r [m 117 14, m 118 14, le 119 118, ar 120 .sub (t 119) (n 1), ia 121 1 117 (t 120), l 122 121, m 15 122], q [r [m 123 0, o 124 (.nilchk (t 123)),
  fa 125 1 124, l 126 125, m 127 15, ia 128 1 126 (t 127), l 129 128, c 130 264 [t 129], o 131 (.un .not (t 130)), m 132 131, og 133 (.mov (t 0)) 132 false,
  og 134 (.nilchk (t 133)) 132 false, og 135 (.fldA 3 (t 134)) 132 false, og 136 (.ld1 (t 135)) 132 false, og 137 (.mov (t 15)) 132 false, og 138 (.idxA 1 (t 136) (t 137)) 132 false,
  og 139 (.ld1 (t 138)) 132 false, og 140 (.arith .lss (t 139) (n 0)) 132 false, o 141 (.pick (t 132) tt (t 140))]] (.cond (t 141) (.exit 7) (sk)), r [m 143 8,
  m 144 0, o 145 (.nilchk (t 144)), fa 146 3 145, l 147 146, m 148 15, ia 149 1 147 (t 148), l 150 149, o 151 (.xo (.mapget (.one (.int .i64)) true (.int .i64 0)) [t 143,
  t 150]), m 142 151, ex 152 142 0, ex 153 142 1, m 16 152, m 17 153], r [m 154 17]] (.cond (t 154) (r [m 155 11, m 156 13, m 157 12, m 158 16, m 159 16,
  ia 160 1 155 (t 156), s 1 160 159, ia 161 1 157 (t 158), sv 1 161 tt]) (sk)))] (r [ar 162 .add (t 109) (n 1), m 109 162])))), r [mv 18 (.const (.nilsl))],
  q [r [m 163 5, le 164 163, mv 165 (n 0)]] (.block 8 (.loop (q [r [ar 166 .lss (t 165) (t 164)], .cond (t 166) (sk) (.exit 8), .block 9 (q [r [m 167 165,
  m 19 167], q [r [m 168 12, m 169 19, ia 170 1 168 (t 169), l 171 170]] (.cond (t 171) (.exit 9) (sk)), d [(m 172 0, 0), (o 173 (.nilchk (t 172)), 1), (fa 174 4 173,
  3), (l 175 174, 7), (m 176 5, 0), (m 177 19, 0), (ia 178 1 176 (t 177), 48), (l 179 178, 112), (ia 180 1 179 (n 0), 240), (l 181 180, 496), (ia 182 1 175 (t 181),
  1023), (l 183 182, 2047), (o 184 (.build [.nilsl, .int .i64 0, .int .i64 0, .int .i64 0] [(1, 1, .tmp 183)]), 4095), (o 20 (.new [.nilsl, .int .i64 0,
  .int .i64 0, .int .i64 0]), 0), (s 4 20 184, 16383)], q [r [m 185 19, m 21 185]] (.block 10 (.loop (q [q [r [m 186 21, ar 187 .geq (t 186) (n 0)]] (.cond (t 187) (sk) (.exit 10)),
  .block 11 (d [(fa 192 0 20, 0), (l 193 192, 1), (m 194 5, 0), (m 195 21, 0), (ia 196 1 194 (t 195), 12), (l 197 196, 28), (o 198 (.app 1 8 (t 193) (t 197)),
  63), (fa 199 0 20, 127), (s 1 199 198, 255)])] (r [m 188 11, m 189 21, ia 190 1 188 (t 189), l 191 190, m 21 191]))))] (r [m 200 18, m 201 0, ln 202 4 20,
  m 203 3, c 204 267 [t 201, t 202, t 203], o 205 (.buildSl 4 1 [.nilsl, .int .i64 0, .int .i64 0, .int .i64 0] [(0, 4, .tmp 204)]), o 206 (.app 4 48 (t 200) (t 205)),
  m 18 206]))] (r [ar 207 .add (t 165) (n 1), m 165 207])))), r [m 208 18, m 2 208]] (.ret)⟩
theorem A234_ok : XOk Tryz.prog ITS 234 A234 := ⟨Tryz.f234, Tryz.func234, by kernel_rfl, by decide, by kernel_rfl, its_nil (by kernel_rfl)⟩

/- (*widgetry/bidi.paragraph).weak -/
def A235 : AFn := ⟨292, [], q [r [o 2 (.box (t 0)), o 3 (.box (t 1))], r [o 22 (.mkf (.func 268) [] [t 3, t 2]), m 4 22], q [r [fa 23 0 3, l 24 23, le 25 24, mv 26 (n 0)]] (.block 0 (.loop (q [r [ar 27 .lss (t 26) (t 25)],
  .cond (t 27) (sk) (.exit 0), .block 1 (q [r [m 28 26, ia 29 1 24 (t 26), l 30 29, m 5 28, m 6 30], q [r [l 31 2, o 32 (.nilchk (t 31)), fa 33 2 32, l 34 33,
  m 35 6, ia 36 1 34 (t 35), l 37 36, ar 38 .neq (t 37) (n 8)]] (.cond (t 38) (.exit 1) (sk)), r [m 39 4, m 40 5, ar 41 .sub (t 40) (n 1), o 42 (.call (t 39) [t 41]),
  m 7 42]] (.block 2 (q [r [m 51 5, ar 52 .eql (t 51) (n 0), m 50 52]] (.cond (t 50) (d [(l 53 2, 0), (o 54 (.nilchk (t 53)), 1), (fa 55 2 54, 3), (l 56 55,
  7), (m 57 6, 0), (fa 58 2 3, 0), (l 59 58, 32), (ia 60 1 56 (t 57), 127), (s 1 60 59, 255)]) (q [r [m 62 7, c 63 264 [t 62], m 64 63, og 65 (.mov (t 7)) 64 false,
  og 66 (.arith .eql (t 65) (n 22)) 64 false, o 67 (.pick (t 64) tt (t 66)), m 61 67]] (.cond (t 61) (r [l 68 2, o 69 (.nilchk (t 68)), fa 70 2 69, l 71 70,
  m 72 6, ia 73 1 71 (t 72), sv 1 73 (n 13)]) (r [l 43 2, o 44 (.nilchk (t 43)), fa 45 2 44, l 46 45, m 47 6, m 48 7, ia 49 1 46 (t 47), s 1 49 48])))))))] (r [ar 74 .add (t 26) (n 1),
  m 26 74])))), r [fa 75 2 3, l 76 75, m 8 76], q [r [fa 77 0 3, l 78 77, le 79 78, mv 80 (n 0)]] (.block 3 (.loop (q [r [ar 81 .lss (t 80) (t 79)], .cond (t 81) (sk) (.exit 3),
  .block 4 (q [r [ia 82 1 78 (t 80), l 83 82, m 10 83], r [l 84 2, o 85 (.nilchk (t 84)), fa 86 2 85, l 87 86, m 88 10, ia 89 1 87 (t 88), l 90 89]] (.block 5 (q [q [r [ar 92 .eql (t 90) (n 0),
  m 91 92]] (.cond (t 91) (sk) (q [r [ar 93 .eql (t 90) (n 1), m 91 93]] (.cond (t 91) (sk) (r [ar 94 .eql (t 90) (n 2), m 91 94]))))] (.cond (t 91) (r [l 95 2,
  o 96 (.nilchk (t 95)), fa 97 2 96, l 98 97, m 99 10, ia 100 1 98 (t 99), l 101 100, m 8 101]) (q [r [ar 103 .eql (t 90) (n 3), m 102 103]] (.cond (t 102) (q [r [m 104 8,
  ar 105 .eql (t 104) (n 2)]] (.cond (t 105) (r [l 106 2, o 107 (.nilchk (t 106)), fa 108 2 107, l 109 108, m 110 10, ia 111 1 109 (t 110), sv 1 111 (n 6)]) (sk))) (sk)))))))] (r [ar 112 .add (t 80) (n 1),
  m 80 112])))), q [r [fa 113 0 3, l 114 113, le 115 114, mv 116 (n 0)]] (.block 6 (.loop (q [r [ar 117 .lss (t 116) (t 115)], .cond (t 117) (sk) (.exit 6),
  .block 7 (q [r [ia 118 1 114 (t 116), l 119 118, m 12 119], r [l 120 2, o 121 (.nilchk (t 120)), fa 122 2 121, l 123 122, m 124 12, ia 125 1 123 (t 124),
  l 126 125, ar 127 .eql (t 126) (n 2)]] (.cond (t 127) (r [l 128 2, o 129 (.nilchk (t 128)), fa 130 2 129, l 131 130, m 132 12, ia 133 1 131 (t 132), sv 1 133 (n 1)]) (sk)))] (r [ar 134 .add (t 116) (n 1),
  m 116 134])))), q [r [fa 135 0 3, l 136 135, le 137 136, mv 138 (n 0)]] (.block 8 (.loop (q [r [ar 139 .lss (t 138) (t 137)], .cond (t 139) (sk) (.exit 8),
  .block 9 (q [r [m 140 138, ia 141 1 136 (t 138), l 142 141, m 13 140, m 14 142], r [m 143 4, m 144 13, ar 145 .sub (t 144) (n 1), o 146 (.call (t 143) [t 145]),
  m 147 4, m 148 13, ar 149 .add (t 148) (n 1), o 150 (.call (t 147) [t 149]), m 15 146, m 16 150], r [l 151 2, o 152 (.nilchk (t 151)), fa 153 2 152, l 154 153,
  m 155 14, ia 156 1 154 (t 155), l 157 156, ar 158 .eql (t 157) (n 4), m 159 158, og 160 (.mov (t 15)) 159 true, og 161 (.arith .eql (t 160) (n 3)) 159 true,
  o 162 (.pick (t 159) (t 161) ff), m 163 162, og 164 (.mov (t 16)) 163 true, og 165 (.arith .eql (t 164) (n 3)) 163 true, o 166 (.pick (t 163) (t 165) ff),
  m 167 166, og 168 (.ld1 (t 2)) 167 false, og 169 (.nilchk (t 168)) 167 false, og 170 (.fldA 2 (t 169)) 167 false, og 171 (.ld1 (t 170)) 167 false, og 172 (.mov (t 14)) 167 false,
  og 173 (.idxA 1 (t 171) (t 172)) 167 false, og 174 (.ld1 (t 173)) 167 false, og 175 (.arith .eql (t 174) (n 7)) 167 false, og 176 (.mov (t 175)) 167 false,
  og 177 (.mov (t 15)) 176 true, og 178 (.mov (t 16)) 176 true, og 179 (.arith .eql (t 177) (t 178)) 176 true, og 180 (.pick (t 176) (t 179) ff) 167 false,
  og 181 (.mov (t 180)) 167 false, og 182 (.mov (t 15)) 181 true, og 183 (.arith .eql (t 182) (n 3)) 181 true, og 184 (.mov (t 183)) 181 true, og 185 (.mov (t 15)) 184 false,
  og 186 (.arith .eql (t 185) (n 6)) 184 false, og 187 (.pick (t 184) tt (t 186)) 181 true, og 188 (.pick (t 181) (t 187) ff) 167 false, o 189 (.pick (t 167) tt (t 188))]] (.cond (t 189) (r [l 190 2,
  o 191 (.nilchk (t 190)), fa 192 2 191, l 193 192, m 194 14, m 195 15, ia 196 1 193 (t 194), s 1 196 195]) (sk)))] (r [ar 197 .add (t 138) (n 1), m 138 197])))),
  q [r [mv 17 (n 0)]] (.block 10 (.loop (q [q [r [m 198 17, fa 199 0 3, l 200 199, le 201 200, ar 202 .lss (t 198) (t 201)]] (.cond (t 202) (sk) (.exit 10)),
  .block 11 (q [q [r [m 205 4, m 206 17, o 207 (.call (t 205) [t 206]), ar 208 .neq (t 207) (n 5)]] (.cond (t 208) (.exit 11) (sk)), r [m 209 17, m 18 209],
  .block 12 (.loop (q [q [r [m 210 4, m 211 18, o 212 (.call (t 210) [t 211]), ar 213 .eql (t 212) (n 5)]] (.cond (t 213) (sk) (.exit 12))] (.block 13 (r [m 214 18,
  ar 215 .add (t 214) (n 1), m 18 215])))), q [r [m 216 4, m 217 17, ar 218 .sub (t 217) (n 1), o 219 (.call (t 216) [t 218]), ar 220 .eql (t 219) (n 3),
  m 221 220, og 222 (.mov (t 4)) 221 false, og 223 (.mov (t 18)) 221 false, og 224 (.call (t 222) [t 223]) 221 false, og 225 (.arith .eql (t 224) (n 3)) 221 false,
  o 226 (.pick (t 221) tt (t 225))]] (.cond (t 226) (q [r [m 227 17, m 19 227]] (.block 14 (.loop (q [q [r [m 228 19, m 229 18, ar 230 .lss (t 228) (t 229)]] (.cond (t 230) (sk) (.exit 14)),
  .block 15 (d [(l 233 2, 0), (o 234 (.nilchk (t 233)), 1), (fa 235 2 234, 3), (l 236 235, 7), (fa 237 0 3, 0), (l 238 237, 16), (m 239 19, 0), (ia 240 1 238 (t 239),
  112), (l 241 240, 240), (ia 242 1 236 (t 241), 511), (sv 1 242 (n 3), 1023)])] (r [m 231 19, ar 232 .add (t 231) (n 1), m 19 232]))))) (sk))] (r [m 243 18,
  ar 244 .sub (t 243) (n 1), m 17 244]))] (r [m 203 17, ar 204 .add (t 203) (n 1), m 17 204])))), r [fa 245 2 3, l 246 245, m 8 246], r [fa 247 0 3, l 248 247,
  le 249 248, mv 250 (n 0)]] (.block 16 (.loop (q [r [ar 251 .lss (t 250) (t 249)], .cond (t 251) (sk) (.exit 16), .block 17 (q [r [ia 252 1 248 (t 250),
  l 253 252, m 21 253], r [l 254 2, o 255 (.nilchk (t 254)), fa 256 2 255, l 257 256, m 258 21, ia 259 1 257 (t 258), l 260 259]] (.block 18 (q [q [r [ar 262 .eql (t 260) (n 4),
  m 261 262]] (.cond (t 261) (sk) (q [r [ar 263 .eql (t 260) (n 5), m 261 263]] (.cond (t 261) (sk) (r [ar 264 .eql (t 260) (n 7), m 261 264]))))] (.cond (t 261) (r [l 265 2,
  o 266 (.nilchk (t 265)), fa 267 2 266, l 268 267, m 269 21, ia 270 1 268 (t 269), sv 1 270 (n 13)]) (q [q [r [ar 272 .eql (t 260) (n 0), m 271 272]] (.cond (t 271) (sk) (r [ar 273 .eql (t 260) (n 1),
  m 271 273]))] (.cond (t 271) (r [l 274 2, o 275 (.nilchk (t 274)), fa 276 2 275, l 277 276, m 278 21, ia 279 1 277 (t 278), l 280 279, m 8 280]) (q [r [ar 282 .eql (t 260) (n 3),
  m 281 282]] (.cond (t 281) (q [r [m 283 8, ar 284 .eql (t 283) (n 0)]] (.cond (t 284) (r [l 285 2, o 286 (.nilchk (t 285)), fa 287 2 286, l 288 287, m 289 21,
  ia 290 1 288 (t 289), sv 1 290 (n 0)]) (sk))) (sk)))))))))] (r [ar 291 .add (t 250) (n 1), m 250 291]))))⟩
theorem A235_ok : XOk Tryz.prog ITS 235 A235 := ⟨Tryz.f235, Tryz.func235, by kernel_rfl, by decide, by kernel_rfl, its_nil (by kernel_rfl)⟩

/- (*widgetry/bidi.paragraph).brackets -/
def A236 : AFn := ⟨140, [], q [r [o 3 (.box (t 1))], r [fa 17 1 3, l 18 17, c 19 269 [t 18], m 4 19], r [m 20 0, ln 21 4 3, c 22 270 [t 20, t 21], le 23 22, mv 24 (n 0)]] (.block 0 (.loop (q [r [ar 25 .lss (t 24) (t 23)],
  .cond (t 25) (sk) (.exit 0), .block 1 (q [r [ia 26 2 22 (t 24), ln 27 2 26, o 6 (.new [.int .i64 0, .int .i64 0]), s 2 6 27], r [mv 7 ff, mv 8 ff], q [r [o 28 (.idxArrA 2 1 (t 6) (n 0)),
  l 29 28, ar 30 .add (t 29) (n 1), m 9 30]] (.block 2 (.loop (q [q [r [m 31 9, o 32 (.idxArrA 2 1 (t 6) (n 1)), l 33 32, ar 34 .lss (t 31) (t 33)]] (.cond (t 34) (sk) (.exit 2)),
  .block 3 (q [d [(m 37 0, 0), (o 38 (.nilchk (t 37)), 1), (fa 39 2 38, 3), (l 40 39, 7), (fa 41 0 3, 0), (l 42 41, 16), (m 43 9, 0), (ia 44 1 42 (t 43),
  112), (l 45 44, 240), (ia 46 1 40 (t 45), 511), (l 47 46, 1023), (c 48 271 [t 47], 2047)]] (.block 4 (q [r [m 50 4, ar 51 .eql (t 48) (t 50), m 49 51]] (.cond (t 49) (r [mv 7 tt]) (q [q [r [ar 53 .eql (t 48) (n 0),
  m 52 53]] (.cond (t 52) (sk) (r [ar 54 .eql (t 48) (n 1), m 52 54]))] (.cond (t 52) (r [mv 8 tt]) (sk)))))))] (r [m 35 9, ar 36 .add (t 35) (n 1), m 9 36])))),
  q [r [m 55 7, o 56 (.un .not (t 55)), m 57 56, og 58 (.mov (t 8)) 57 true, og 59 (.un .not (t 58)) 57 true, o 60 (.pick (t 57) (t 59) ff)]] (.cond (t 60) (.exit 1) (sk)),
  r [m 61 4, m 10 61], q [r [m 62 7, o 63 (.un .not (t 62))]] (.cond (t 63) (q [r [fa 64 2 3, l 65 64, m 11 65], q [r [o 66 (.idxArrA 2 1 (t 6) (n 0)), l 67 66,
  ar 68 .sub (t 67) (n 1), m 12 68]] (.block 5 (.loop (q [q [r [m 69 12, ar 70 .geq (t 69) (n 0)]] (.cond (t 70) (sk) (.exit 5)), .block 6 (q [d [(m 73 0,
  0), (o 74 (.nilchk (t 73)), 1), (fa 75 2 74, 3), (l 76 75, 7), (fa 77 0 3, 0), (l 78 77, 16), (m 79 12, 0), (ia 80 1 78 (t 79), 112), (l 81 80, 240), (ia 82 1 76 (t 81),
  511), (l 83 82, 1023), (c 84 271 [t 83], 2047), (m 13 84, 4095)], r [m 85 13, ar 86 .geq (t 85) (n 0)]] (.cond (t 86) (q [r [m 87 13, m 11 87]] (.exit 5)) (sk)))] (r [m 71 12,
  ar 72 .sub (t 71) (n 1), m 12 72]))))] (r [m 88 11, m 10 88])) (sk)), r [ln 89 2 6, mv 90 (n 0)]] (.block 7 (.loop (q [r [ar 91 .lss (t 90) (n 2)], .cond (t 91) (sk) (.exit 7),
  .block 8 (q [r [o 92 (.idx 2 1 none (t 89) (t 90)), m 15 92], d [(m 93 0, 0), (o 94 (.nilchk (t 93)), 1), (fa 95 2 94, 3), (l 96 95, 7), (fa 97 0 3, 0),
  (l 98 97, 16), (m 99 15, 0), (ia 100 1 98 (t 99), 112), (l 101 100, 240), (m 102 10, 0), (ia 103 1 96 (t 101), 1023), (s 1 103 102, 2047)], r [m 104 15,
  ar 105 .add (t 104) (n 1), m 16 105]] (.block 9 (.loop (q [q [d [(m 106 16, 0), (fa 107 0 3, 0), (l 108 107, 2), (le 109 108, 6), (ar 110 .lss (t 106) (t 109),
  15), (m 111 110, 31), (og 112 (.mov (t 0)) 111 true, 63), (og 113 (.nilchk (t 112)) 111 true, 127), (og 114 (.fldA 1 (t 113)) 111 true, 255), (og 115 (.ld1 (t 114)) 111 true,
  511), (og 116 (.fldA 0 (t 3)) 111 true, 63), (og 117 (.ld1 (t 116)) 111 true, 1087), (og 118 (.mov (t 16)) 111 true, 63), (og 119 (.idxA 1 (t 117) (t 118)) 111 true,
  7231), (og 120 (.ld1 (t 119)) 111 true, 15423), (og 121 (.idxA 1 (t 115) (t 120)) 111 true, 32767), (og 122 (.ld1 (t 121)) 111 true, 65535), (og 123 (.arith .eql (t 122) (n 8)) 111 true,
  131071), (o 124 (.pick (t 111) (t 123) ff), 262143)]] (.cond (t 124) (sk) (.exit 9)), .block 10 (d [(m 127 0, 0), (o 128 (.nilchk (t 127)), 1), (fa 129 2 128,
  3), (l 130 129, 7), (fa 131 0 3, 0), (l 132 131, 16), (m 133 16, 0), (ia 134 1 132 (t 133), 112), (l 135 134, 240), (m 136 10, 0), (ia 137 1 130 (t 135),
  1023), (s 1 137 136, 2047)])] (r [m 125 16, ar 126 .add (t 125) (n 1), m 16 126])))))] (r [ar 138 .add (t 90) (n 1), m 90 138])))))] (r [ar 139 .add (t 24) (n 1),
  m 24 139]))))⟩
theorem A236_ok : XOk Tryz.prog ITS 236 A236 := ⟨Tryz.f236, Tryz.func236, by kernel_rfl, by decide, by kernel_rfl, its_nil (by kernel_rfl)⟩

/- (*widgetry/bidi.paragraph).neutrals -/
def A237 : AFn := ⟨101, [], q [r [o 3 (.box (t 1))], r [fa 10 2 3, l 11 10, m 4 11], r [mv 5 (n 0)]] (.block 0 (.loop (q [q [r [m 12 5, fa 13 0 3, l 14 13, le 15 14, ar 16 .lss (t 12) (t 15)]] (.cond (t 16) (sk) (.exit 0)),
  .block 1 (q [q [d [(m 19 0, 0), (o 20 (.nilchk (t 19)), 1), (fa 21 2 20, 3), (l 22 21, 7), (fa 23 0 3, 0), (l 24 23, 16), (m 25 5, 0), (ia 26 1 24 (t 25),
  112), (l 27 26, 240), (ia 28 1 22 (t 27), 511), (l 29 28, 1023), (m 6 29, 2047)], r [m 30 6, c 31 272 [t 30], o 32 (.un .not (t 31))]] (.cond (t 32) (q [r [m 33 6,
  c 34 271 [t 33], m 4 34]] (.exit 1)) (sk)), r [m 35 5, m 7 35], .block 2 (.loop (q [q [d [(m 36 7, 0), (fa 37 0 3, 0), (l 38 37, 2), (le 39 38, 6), (ar 40 .lss (t 36) (t 39),
  15), (m 41 40, 31), (og 42 (.mov (t 0)) 41 true, 63), (og 43 (.nilchk (t 42)) 41 true, 127), (og 44 (.fldA 2 (t 43)) 41 true, 255), (og 45 (.ld1 (t 44)) 41 true,
  511), (og 46 (.fldA 0 (t 3)) 41 true, 63), (og 47 (.ld1 (t 46)) 41 true, 1087), (og 48 (.mov (t 7)) 41 true, 63), (og 49 (.idxA 1 (t 47) (t 48)) 41 true,
  7231), (og 50 (.ld1 (t 49)) 41 true, 15423), (og 51 (.idxA 1 (t 45) (t 50)) 41 true, 32767), (og 52 (.ld1 (t 51)) 41 true, 65535), (og 53 (.call (fn 272) [t 52]) 41 true,
  131071), (o 54 (.pick (t 41) (t 53) ff), 262143)]] (.cond (t 54) (sk) (.exit 2))] (.block 3 (r [m 55 7, ar 56 .add (t 55) (n 1), m 7 56])))), r [fa 57 3 3,
  l 58 57, m 8 58], q [r [m 59 7, fa 60 0 3, l 61 60, le 62 61, ar 63 .lss (t 59) (t 62)]] (.cond (t 63) (d [(m 64 0, 0), (o 65 (.nilchk (t 64)), 1), (fa 66 2 65,
  3), (l 67 66, 7), (fa 68 0 3, 0), (l 69 68, 16), (m 70 7, 0), (ia 71 1 69 (t 70), 112), (l 72 71, 240), (ia 73 1 67 (t 72), 511), (l 74 73, 1023), (c 75 271 [t 74],
  2047), (m 8 75, 4095)]) (sk)), r [fa 76 1 3, l 77 76, c 78 269 [t 77], m 9 78], q [r [m 79 4, m 80 8, ar 81 .eql (t 79) (t 80)]] (.cond (t 81) (r [m 82 4,
  m 9 82]) (sk)), .block 4 (.loop (q [q [r [m 83 5, m 84 7, ar 85 .lss (t 83) (t 84)]] (.cond (t 85) (sk) (.exit 4)), .block 5 (d [(m 88 0, 0), (o 89 (.nilchk (t 88)),
  1), (fa 90 2 89, 3), (l 91 90, 7), (fa 92 0 3, 0), (l 93 92, 16), (m 94 5, 0), (ia 95 1 93 (t 94), 112), (l 96 95, 240), (m 97 9, 0), (ia 98 1 91 (t 96),
  1023), (s 1 98 97, 2047)])] (r [m 86 5, ar 87 .add (t 86) (n 1), m 5 87])))] (r [m 99 5, ar 100 .sub (t 99) (n 1), m 5 100]))] (r [m 17 5, ar 18 .add (t 17) (n 1),
  m 5 18]))))⟩
theorem A237_ok : XOk Tryz.prog ITS 237 A237 := ⟨Tryz.f237, Tryz.func237, by kernel_rfl, by decide, by kernel_rfl, its_nil (by kernel_rfl)⟩

/- (*widgetry/bidi.paragraph).implicit -/
def A238 : AFn := ⟨88, [], q [r [o 3 (.box (t 1))], r [fa 7 0 3, l 8 7, le 9 8, mv 10 (n 0)]] (.block 0 (.loop (q [r [ar 11 .lss (t 10) (t 9)], .cond (t 11) (sk) (.exit 0), .block 1 (q [r [ia 12 1 8 (t 10),
  l 13 12, m 5 13], r [m 14 0, o 15 (.nilchk (t 14)), fa 16 2 15, l 17 16, m 18 5, ia 19 1 17 (t 18), l 20 19, m 6 20]] (.block 2 (q [r [fa 22 1 3, l 23 22,
  ar 24 .rem (t 23) (n 2), ar 25 .eql (t 24) (n 0), m 26 25, og 27 (.mov (t 6)) 26 true, og 28 (.arith .eql (t 27) (n 1)) 26 true, o 29 (.pick (t 26) (t 28) ff),
  m 21 29]] (.cond (t 21) (r [m 30 0, o 31 (.nilchk (t 30)), fa 32 4 31, l 33 32, m 34 5, ia 35 1 33 (t 34), l 36 35, ar 37 .add (t 36) (n 1), ia 38 1 33 (t 34),
  s 1 38 37]) (q [r [fa 40 1 3, l 41 40, ar 42 .rem (t 41) (n 2), ar 43 .eql (t 42) (n 0), m 44 43, og 45 (.mov (t 6)) 44 true, og 46 (.arith .eql (t 45) (n 6)) 44 true,
  og 47 (.mov (t 46)) 44 true, og 48 (.mov (t 6)) 47 false, og 49 (.arith .eql (t 48) (n 3)) 47 false, og 50 (.pick (t 47) tt (t 49)) 44 true, o 51 (.pick (t 44) (t 50) ff),
  m 39 51]] (.cond (t 39) (r [m 52 0, o 53 (.nilchk (t 52)), fa 54 4 53, l 55 54, m 56 5, ia 57 1 55 (t 56), l 58 57, ar 59 .add (t 58) (n 2), ia 60 1 55 (t 56),
  s 1 60 59]) (q [r [fa 62 1 3, l 63 62, ar 64 .rem (t 63) (n 2), ar 65 .eql (t 64) (n 1), m 66 65, og 67 (.mov (t 6)) 66 true, og 68 (.arith .eql (t 67) (n 0)) 66 true,
  og 69 (.mov (t 68)) 66 true, og 70 (.mov (t 6)) 69 false, og 71 (.arith .eql (t 70) (n 3)) 69 false, og 72 (.pick (t 69) tt (t 71)) 66 true, og 73 (.mov (t 72)) 66 true,
  og 74 (.mov (t 6)) 73 false, og 75 (.arith .eql (t 74) (n 6)) 73 false, og 76 (.pick (t 73) tt (t 75)) 66 true, o 77 (.pick (t 66) (t 76) ff), m 61 77]] (.cond (t 61) (r [m 78 0,
  o 79 (.nilchk (t 78)), fa 80 4 79, l 81 80, m 82 5, ia 83 1 81 (t 82), l 84 83, ar 85 .add (t 84) (n 1), ia 86 1 81 (t 82), s 1 86 85]) (sk)))))))))] (r [ar 87 .add (t 10) (n 1),
  m 10 87]))))⟩
theorem A238_ok : XOk Tryz.prog ITS 238 A238 := ⟨Tryz.f238, Tryz.func238, by kernel_rfl, by decide, by kernel_rfl, its_nil (by kernel_rfl)⟩

/- (*widgetry/bidi.paragraph).removed -/
def A239 : AFn := ⟨19, [.tmp 4], q [r [mv 4 ff], q [r [m 5 0, o 6 (.nilchk (t 5)), fa 7 1 6, l 8 7, m 9 1, ia 10 1 8 (t 9), l 11 10]] (.block 0 (q [q [r [ar 13 .eql (t 11) (n 16), m 12 13]] (.cond (t 12) (sk) (q [r [ar 14 .eql (t 11) (n 14),
  m 12 14]] (.cond (t 12) (sk) (q [r [ar 15 .eql (t 11) (n 17), m 12 15]] (.cond (t 12) (sk) (q [r [ar 16 .eql (t 11) (n 15), m 12 16]] (.cond (t 12) (sk) (q [r [ar 17 .eql (t 11) (n 18),
  m 12 17]] (.cond (t 12) (sk) (r [ar 18 .eql (t 11) (n 9), m 12 18]))))))))))] (.cond (t 12) (q [r [mv 4 tt]] (.ret)) (sk)))), r [mv 4 ff]] (.ret)⟩
theorem A239_ok : XOk Tryz.prog ITS 239 A239 := ⟨Tryz.f239, Tryz.func239, by kernel_rfl, by decide, by kernel_rfl, its_nil (by kernel_rfl)⟩

/- widgetry/bidi.blank -/
def A240 : AFn := ⟨15, [.tmp 2], q [r [mv 2 ff], q [r [m 3 0]] (.block 0 (q [q [r [ar 5 .eql (t 3) (n 12), m 4 5]] (.cond (t 4) (sk) (q [r [ar 6 .eql (t 3) (n 22), m 4 6]] (.cond (t 4) (sk) (q [r [ar 7 .eql (t 3) (n 9),
  m 4 7]] (.cond (t 4) (sk) (q [r [ar 8 .eql (t 3) (n 16), m 4 8]] (.cond (t 4) (sk) (q [r [ar 9 .eql (t 3) (n 14), m 4 9]] (.cond (t 4) (sk) (q [r [ar 10 .eql (t 3) (n 17),
  m 4 10]] (.cond (t 4) (sk) (q [r [ar 11 .eql (t 3) (n 15), m 4 11]] (.cond (t 4) (sk) (r [ar 12 .eql (t 3) (n 18), m 4 12]))))))))))))))] (.cond (t 4) (q [r [mv 2 tt]] (.ret)) (sk)))),
  r [m 13 0, c 14 264 [t 13], m 2 14]] (.ret)⟩
theorem A240_ok : XOk Tryz.prog ITS 240 A240 := ⟨Tryz.f240, Tryz.func240, by kernel_rfl, by decide, by kernel_rfl, its_nil (by kernel_rfl)⟩

/- widgetry/char.Bidi -/
def A241 : AFn := ⟨7, [.tmp 2], q [r [mv 2 (n 0)], r [m 3 0, c 4 223 [t 3], o 5 (.fld 5 none (t 4)), o 6 (.convI .i64 (t 5)), m 2 6]] (.ret)⟩
theorem A241_ok : XOk Tryz.prog ITS 241 A241 := ⟨Tryz.f241, Tryz.func241, by kernel_rfl, by decide, by kernel_rfl, its_nil (by kernel_rfl)⟩

/- (widgetry/shape.Prepared).width -/
def A243 : AFn := ⟨41, [.tmp 6], q [r [o 3 (.box (t 0)), o 4 (.box (t 1)), o 5 (.box (t 2)), mv 6 (n 0)], r [fa 10 3 3, l 11 10, ln 12 5 5, o 13 (.xo (.mapget (.st [.int .i64, .int .i64,
  .int .i32, .int .i32, .bool]) true (.int .i64 0)) [t 11, t 12]), m 9 13, ex 14 9 0, ex 15 9 1, m 7 14, m 8 15], .block 0 (q [r [m 25 8, m 24 25]] (.cond (t 24) (q [r [m 26 7,
  m 6 26]] (.ret)) (q [r [fa 28 4 5, l 29 28, m 27 29]] (.cond (t 27) (r [ln 30 8 4, fa 31 1 5, l 32 31, fa 33 2 5, l 34 33, c 35 273 [t 30, t 32, t 34],
  m 7 35]) (r [ln 16 8 4, fa 17 1 5, l 18 17, fa 19 2 5, l 20 19, fa 21 3 5, l 22 21, c 23 274 [t 16, t 18, t 20, t 22], m 7 23]))))), r [fa 36 3 3, l 37 36,
  ln 38 5 5, m 39 7, on (.xo (.mapset (.st [.int .i64, .int .i64, .int .i32, .int .i32, .bool])) [t 37, t 38, t 39])], r [m 40 7, m 6 40]] (.ret)⟩
theorem A243_ok : XOk Tryz.prog ITS 243 A243 := ⟨Tryz.f243, Tryz.func243, by kernel_rfl, by decide, by kernel_rfl, its_nil (by kernel_rfl)⟩

/- (widgetry/shape.Prepared).kern -/
def A245 : AFn := ⟨60, [.tmp 10], q [r [o 5 (.box (t 0)), o 6 (.box (t 1)), mv 10 (.const (.nilsl))], q [r [mv 11 (n 0)]] (.block 0 (.loop (q [q [r [m 13 11, ar 14 .add (t 13) (n 1), m 15 4,
  le 16 15, ar 17 .lss (t 14) (t 16)]] (.cond (t 17) (sk) (.exit 0)), .block 1 (q [r [m 20 4, m 21 11, ar 22 .add (t 21) (n 1), ia 23 8 20 (t 22), fa 24 2 23,
  l 25 24, m 12 25], r [fa 26 2 5, l 27 26, m 28 12, ia 29 1 27 (t 28), l 30 29]] (.cond (t 30) (d [(m 31 4, 0), (m 32 11, 0), (m 33 4, 0), (m 34 11, 0),
  (ia 35 8 33 (t 34), 12), (fa 36 5 35, 28), (l 37 36, 60), (ln 38 5 5, 0), (ln 39 8 6, 0), (m 40 2, 0), (m 41 3, 0), (fa 42 0 5, 0), (l 43 42, 2048), (m 44 12,
  0), (ar 45 .sub (t 44) (n 1), 8192), (ia 46 1 43 (t 45), 30720), (l 47 46, 63488), (fa 48 0 5, 0), (l 49 48, 131072), (m 50 12, 0), (ia 51 1 49 (t 50),
  917504), (l 52 51, 1966080), (o 53 (.build [.int .i64 0, .int .i64 0, .int .i32 0, .int .i32 0, .bool false] [(0, 1, .tmp 40), (1, 1, .tmp 41), (2, 1,
  .tmp 47), (3, 1, .tmp 52), (4, 1, .const (.bool false))]), 4193792), (c 54 243 [t 38, t 39, t 53], 8388480), (ar 55 .add (t 37) (t 54), 16777212), (o 56 (.mnmx true (n 0) (t 55)),
  33554428), (ia 57 8 31 (t 32), 67108863), (fa 58 5 57, 134217727), (s 1 58 56, 268435455)]) (sk)))] (r [m 18 11, ar 19 .add (t 18) (n 1), m 11 19])))),
  r [m 59 4, m 10 59]] (.ret)⟩
theorem A245_ok : XOk Tryz.prog ITS 245 A245 := ⟨Tryz.f245, Tryz.func245, by kernel_rfl, by decide, by kernel_rfl, its_nil (by kernel_rfl)⟩

/- (widgetry/shape.Prepared).ligatures -/
def A246 : AFn := ⟨101, [.tmp 10], q [r [o 5 (.box (t 0)), o 6 (.box (t 1)), mv 10 (.const (.nilsl))], r [mv 11 (.const (.nilsl))], q [r [mv 12 (n 0)]] (.block 0 (.loop (q [q [r [m 16 12,
  m 17 4, le 18 17, ar 19 .lss (t 16) (t 18)]] (.cond (t 19) (sk) (.exit 0)), .block 1 (q [r [m 22 4, m 23 12, ia 24 8 22 (t 23), ln 25 8 24, o 13 (.new [.int .i64 0,
  .int .i64 0, .int .i64 0, .int .i64 0, .int .i64 0, .int .i64 0, .int .i64 0, .int .i64 0]), s 8 13 25], q [r [fa 26 3 13, l 27 26, m 14 27], r [m 28 12,
  ar 29 .add (t 28) (n 1), m 30 4, le 31 30, ar 32 .lss (t 29) (t 31), m 33 32, og 34 (.fldA 2 (t 5)) 33 true, og 35 (.ld1 (t 34)) 33 true, og 36 (.fldA 2 (t 13)) 33 true,
  og 37 (.ld1 (t 36)) 33 true, og 38 (.idxA 1 (t 35) (t 37)) 33 true, og 39 (.ld1 (t 38)) 33 true, o 40 (.pick (t 33) (t 39) ff), m 41 40, og 42 (.fldA 2 (t 5)) 41 true,
  og 43 (.ld1 (t 42)) 41 true, og 44 (.mov (t 14)) 41 true, og 45 (.idxA 1 (t 43) (t 44)) 41 true, og 46 (.ld1 (t 45)) 41 true, o 47 (.pick (t 41) (t 46) ff),
  m 48 47, og 49 (.fldA 2 (t 5)) 48 true, og 50 (.ld1 (t 49)) 48 true, og 51 (.mov (t 14)) 48 true, og 52 (.arith .add (t 51) (n 1)) 48 true, og 53 (.idxA 1 (t 50) (t 52)) 48 true,
  og 54 (.ld1 (t 53)) 48 true, o 55 (.pick (t 48) (t 54) ff)]] (.cond (t 55) (q [d [(ln 56 5 5, 0), (ln 57 8 6, 0), (m 58 2, 0), (fa 59 0 5, 0), (l 60 59,
  8), (fa 61 2 13, 0), (l 62 61, 32), (ia 63 1 60 (t 62), 120), (l 64 63, 248), (fa 65 0 5, 0), (l 66 65, 512), (m 67 14, 0), (ia 68 1 66 (t 67), 3584),
  (l 69 68, 7680), (c 70 278 [t 56, t 57, t 58, t 64, t 69], 16383), (o 15 (.new [.int .i32 0, .int .i32 0, .int .i64 0, .int .i64 0, .bool false]), 0),
  (s 5 15 70, 65535)], r [fa 71 4 15, l 72 71]] (.cond (t 72) (q [d [(fa 73 0 15, 0), (fa 74 2 73, 1), (l 75 74, 3), (m 76 4, 0), (m 77 12, 0), (ar 78 .add (t 77) (n 1),
  16), (ia 79 8 76 (t 78), 56), (fa 80 3 79, 120), (l 81 80, 248), (fa 82 0 15, 0), (fa 83 3 82, 512), (l 84 83, 1536), (m 85 3, 0), (ar 86 .mul (t 84) (t 85),
  7680), (fa 87 0 6, 0), (l 88 87, 16384), (c 89 248 [t 86, t 88], 65024), (fa 90 0 13, 7), (s 1 90 75, 261639), (fa 91 1 13, 523783), (sv 1 91 (n 0), 1048071),
  (fa 92 3 13, 2097151), (s 1 92 81, 4194303), (fa 93 5 13, 8388607), (s 1 93 89, 16777215)]] (r [m 94 12, ar 95 .add (t 94) (n 1), m 12 95])) (sk))) (sk))] (r [m 96 11,
  ln 97 8 13, o 98 (.buildSl 8 1 [.int .i64 0, .int .i64 0, .int .i64 0, .int .i64 0, .int .i64 0, .int .i64 0, .int .i64 0, .int .i64 0] [(0, 8, .tmp 97)]),
  o 99 (.app 8 64 (t 96) (t 98)), m 11 99]))] (r [m 20 12, ar 21 .add (t 20) (n 1), m 12 21])))), r [m 100 11, m 10 100]] (.ret)⟩
theorem A246_ok : XOk Tryz.prog ITS 246 A246 := ⟨Tryz.f246, Tryz.func246, by kernel_rfl, by decide, by kernel_rfl, its_nil (by kernel_rfl)⟩

/- widgetry/fixed.Round -/
def A248 : AFn := ⟨22, [.tmp 4], q [r [mv 4 (n 0)], q [r [m 5 0, m 6 1, c 7 194 [t 5, t 6], o 8 (.un .not (t 7))]] (.cond (t 8) (q [r [mv 4 (n 0)]] (.ret)) (sk)), q [r [m 9 1, ar 10 .lss (t 9) (n 0)]] (.cond (t 10) (r [m 11 0,
  o 12 (.un .neg (t 11)), m 13 1, o 14 (.un .neg (t 13)), m 0 12, m 1 14]) (sk)), r [m 15 0, ar 16 .mul (n 2) (t 15), m 17 1, ar 18 .add (t 16) (t 17), m 19 1,
  ar 20 .mul (n 2) (t 19), c 21 195 [t 18, t 20], m 4 21]] (.ret)⟩
theorem A248_ok : XOk Tryz.prog ITS 248 A248 := ⟨Tryz.f248, Tryz.func248, by kernel_rfl, by decide, by kernel_rfl, its_nil (by kernel_rfl)⟩

/- widgetry/paragraph.Most -/
def A249 : AFn := ⟨54, [.tmp 4], q [r [o 2 (.box (t 0)), mv 4 (n 0)], q [r [ln 10 5 2, m 11 1, c 12 85 [t 10, t 11], ar 13 .neq (t 12) (n 0)]] (.cond (t 13) (q [r [mv 4 (n 0)]] (.ret)) (sk)),
  r [ln 14 5 2, m 15 1, c 16 86 [t 14, t 15], m 5 16], r [mv 6 (n 0)], q [r [m 17 5, o 18 (.nilchk (t 17)), fa 19 15 18, l 20 19, le 21 20, mv 22 (n 0)]] (.block 0 (.loop (q [r [ar 23 .lss (t 22) (t 21)],
  .cond (t 23) (sk) (.exit 0), .block 1 (q [r [ia 24 4 20 (t 22), ln 25 4 24, o 8 (.new [.int .i64 0, .int .i64 0, .int .i64 0, .nilsl]), s 4 8 25], r [fa 26 0 8,
  l 27 26, ar 28 .add (t 27) (n 1), m 9 28]] (.block 2 (.loop (q [q [r [m 29 9, fa 30 1 8, l 31 30, ar 32 .leq (t 29) (t 31)]] (.cond (t 32) (sk) (.exit 2)),
  .block 3 (q [r [m 35 5, o 36 (.nilchk (t 35)), fa 37 6 36, l 38 37, m 39 9, ar 40 .sub (t 39) (n 1), ia 41 1 38 (t 40), l 42 41, ar 43 .neq (t 42) (n 0)]] (.cond (t 43) (r [m 44 6,
  m 45 5, ln 46 4 8, fa 47 0 8, l 48 47, m 49 9, c 50 137 [t 45, t 46, t 48, t 49], o 51 (.mnmx true (t 44) (t 50)), m 6 51]) (sk)))] (r [m 33 9, ar 34 .add (t 33) (n 1),
  m 9 34])))))] (r [ar 52 .add (t 22) (n 1), m 22 52])))), r [m 53 6, m 4 53]] (.ret)⟩
theorem A249_ok : XOk Tryz.prog ITS 249 A249 := ⟨Tryz.f249, Tryz.func249, by kernel_rfl, by decide, by kernel_rfl, its_nil (by kernel_rfl)⟩

/- widgetry/paragraph.Least -/
def A250 : AFn := ⟨56, [.tmp 4], q [r [o 2 (.box (t 0)), mv 4 (n 0)], q [r [ln 11 5 2, m 12 1, c 13 85 [t 11, t 12], ar 14 .neq (t 13) (n 0)]] (.cond (t 14) (q [r [mv 4 (n 0)]] (.ret)) (sk)),
  r [ln 15 5 2, m 16 1, c 17 86 [t 15, t 16], m 5 17], r [mv 6 (n 0)], q [r [m 18 5, o 19 (.nilchk (t 18)), fa 20 15 19, l 21 20, le 22 21, mv 23 (n 0)]] (.block 0 (.loop (q [r [ar 24 .lss (t 23) (t 22)],
  .cond (t 24) (sk) (.exit 0), .block 1 (q [r [ia 25 4 21 (t 23), ln 26 4 25, o 8 (.new [.int .i64 0, .int .i64 0, .int .i64 0, .nilsl]), s 4 8 26], r [fa 27 0 8,
  l 28 27, m 9 28], r [m 29 9, ar 30 .add (t 29) (n 1), m 10 30]] (.block 2 (.loop (q [q [r [m 31 10, fa 32 1 8, l 33 32, ar 34 .leq (t 31) (t 33)]] (.cond (t 34) (sk) (.exit 2)),
  .block 3 (q [r [m 37 5, o 38 (.nilchk (t 37)), fa 39 6 38, l 40 39, m 41 10, ar 42 .sub (t 41) (n 1), ia 43 1 40 (t 42), l 44 43, ar 45 .neq (t 44) (n 0)]] (.cond (t 45) (q [r [m 46 6,
  m 47 5, ln 48 4 8, m 49 9, m 50 10, c 51 137 [t 47, t 48, t 49, t 50], o 52 (.mnmx true (t 46) (t 51)), m 6 52]] (r [m 53 10, m 9 53])) (sk)))] (r [m 35 10,
  ar 36 .add (t 35) (n 1), m 10 36])))))] (r [ar 54 .add (t 23) (n 1), m 23 54])))), r [m 55 6, m 4 55]] (.ret)⟩
theorem A250_ok : XOk Tryz.prog ITS 250 A250 := ⟨Tryz.f250, Tryz.func250, by kernel_rfl, by decide, by kernel_rfl, its_nil (by kernel_rfl)⟩

/- slices.All[[]widgetry/api.Line,widgetry/api.Line] -/
def A256 : AFn := ⟨4, [.tmp 2], q [r [o 1 (.box (t 0)), mv 2 (.const (.nilfunc))], r [o 3 (.mkf (.func 281) [] [t 1]), m 2 3]] (.ret)⟩
theorem A256_ok : XOk Tryz.prog ITS 256 A256 := ⟨Tryz.f256, Tryz.func256, by kernel_rfl, by decide, by kernel_rfl, its_nil (by kernel_rfl)⟩

/- widgetry/expr.Name -/
def A257 : AFn := ⟨59, [.tmp 2], q [r [mv 2 ff], q [r [m 6 0, o 7 (.lenS (t 6)), ar 8 .eql (t 7) (n 0), m 9 8, og 10 (.mov (t 0)) 9 false, og 11 (.lenS (t 10)) 9 false, og 12 (.arith .gtr (t 11) (n 24)) 9 false,
  o 13 (.pick (t 9) tt (t 12))]] (.cond (t 13) (q [r [mv 2 ff]] (.ret)) (sk)), q [r [m 14 0, o 15 (.lenS (t 14)), mv 16 (n 0)]] (.block 0 (.loop (q [r [ar 17 .lss (t 16) (t 15)],
  .cond (t 17) (sk) (.exit 0), .block 1 (q [r [m 18 16, m 3 18], r [m 19 0, m 20 3, o 21 (.idxS (t 19) (t 20)), m 4 21], r [m 22 4, ar 23 .geq (t 22) (.const (.int .u8 97)),
  m 24 23, og 25 (.mov (t 4)) 24 true, og 26 (.arith .leq (t 25) (.const (.int .u8 122))) 24 true, o 27 (.pick (t 24) (t 26) ff), m 28 27, og 29 (.mov (t 4)) 28 false,
  og 30 (.arith .geq (t 29) (.const (.int .u8 65))) 28 false, og 31 (.mov (t 30)) 28 false, og 32 (.mov (t 4)) 31 true, og 33 (.arith .leq (t 32) (.const (.int .u8 90))) 31 true,
  og 34 (.pick (t 31) (t 33) ff) 28 false, o 35 (.pick (t 28) tt (t 34)), m 5 35], r [m 36 5, o 37 (.un .not (t 36)), m 38 37, og 39 (.mov (t 3)) 38 true,
  og 40 (.arith .eql (t 39) (n 0)) 38 true, og 41 (.mov (t 40)) 38 true, og 42 (.mov (t 4)) 41 false, og 43 (.arith .lss (t 42) (.const (.int .u8 48))) 41 false,
  og 44 (.mov (t 43)) 41 false, og 45 (.mov (t 4)) 44 false, og 46 (.arith .gtr (t 45) (.const (.int .u8 57))) 44 false, og 47 (.pick (t 44) tt (t 46)) 41 false,
  og 48 (.mov (t 47)) 41 false, og 49 (.mov (t 4)) 48 true, og 50 (.arith .neq (t 49) (.const (.int .u8 45))) 48 true, og 51 (.pick (t 48) (t 50) ff) 41 false,
  og 52 (.mov (t 51)) 41 false, og 53 (.mov (t 4)) 52 true, og 54 (.arith .neq (t 53) (.const (.int .u8 95))) 52 true, og 55 (.pick (t 52) (t 54) ff) 41 false,
  og 56 (.pick (t 41) tt (t 55)) 38 true, o 57 (.pick (t 38) (t 56) ff)]] (.cond (t 57) (q [r [mv 2 ff]] (.ret)) (sk)))] (r [ar 58 .add (t 16) (n 1), m 16 58])))),
  r [mv 2 tt]] (.ret)⟩
theorem A257_ok : XOk Tryz.prog ITS 257 A257 := ⟨Tryz.f257, Tryz.func257, by kernel_rfl, by decide, by kernel_rfl, its_nil (by kernel_rfl)⟩

/- widgetry/expr.Check -/
def A258 : AFn := ⟨11, [.tmp 2], q [r [o 1 (.box (t 0)), mv 2 (n 0)], r [ln 6 4 1, c 7 282 [t 6], m 5 7, ex 8 5 0, ex 9 5 1, o 3 (.new [.int .i64 0, .nilsl]), s 2 3 8, m 4 9], r [m 10 4,
  m 2 10]] (.ret)⟩
theorem A258_ok : XOk Tryz.prog ITS 258 A258 := ⟨Tryz.f258, Tryz.func258, by kernel_rfl, by decide, by kernel_rfl, its_nil (by kernel_rfl)⟩

/- widgetry/char.first -/
def A259 : AFn := ⟨46, [.cell 0 (some 308)], q [r [o 0 (.new [.int .i32 0, .int .i32 0, .int .u8 0, .int .u8 0, .int .u8 0, .int .u8 0, .int .u8 0, .int .i32 0, .int .i32 0, .int .u8 0, .int .u8 0,
  .int .u8 0, .int .u8 0, .int .u8 0, .int .i32 0, .int .i32 0, .int .u8 0, .int .u8 0, .int .u8 0, .int .u8 0, .int .u8 0, .int .i32 0, .int .i32 0, .int .u8 0,
  .int .u8 0, .int .u8 0, .int .u8 0, .int .u8 0, .int .i32 0, .int .i32 0, .int .u8 0, .int .u8 0, .int .u8 0, .int .u8 0, .int .u8 0, .int .i32 0, .int .i32 0,
  .int .u8 0, .int .u8 0, .int .u8 0, .int .u8 0, .int .u8 0, .int .i32 0, .int .i32 0, .int .u8 0, .int .u8 0, .int .u8 0, .int .u8 0, .int .u8 0, .int .i32 0,
  .int .i32 0, .int .u8 0, .int .u8 0, .int .u8 0, .int .u8 0, .int .u8 0, .int .i32 0, .int .i32 0, .int .u8 0, .int .u8 0, .int .u8 0, .int .u8 0, .int .u8 0,
  .int .i32 0, .int .i32 0, .int .u8 0, .int .u8 0, .int .u8 0, .int .u8 0, .int .u8 0, .int .i32 0, .int .i32 0, .int .u8 0, .int .u8 0, .int .u8 0, .int .u8 0,
  .int .u8 0, .int .i32 0, .int .i32 0, .int .u8 0, .int .u8 0, .int .u8 0, .int .u8 0, .int .u8 0, .int .i32 0, .int .i32 0, .int .u8 0, .int .u8 0, .int .u8 0,
  .int .u8 0, .int .u8 0, .int .i32 0, .int .i32 0, .int .u8 0, .int .u8 0, .int .u8 0, .int .u8 0, .int .u8 0, .int .i32 0, .int .i32 0, .int .u8 0, .int .u8 0,
  .int .u8 0, .int .u8 0, .int .u8 0, .int .i32 0, .int .i32 0, .int .u8 0, .int .u8 0, .int .u8 0, .int .u8 0, .int .u8 0, .int .i32 0, .int .i32 0, .int .u8 0,
  .int .u8 0, .int .u8 0, .int .u8 0, .int .u8 0, .int .i32 0, .int .i32 0, .int .u8 0, .int .u8 0, .int .u8 0, .int .u8 0, .int .u8 0, .int .i32 0, .int .i32 0,
  .int .u8 0, .int .u8 0, .int .u8 0, .int .u8 0, .int .u8 0, .int .i32 0, .int .i32 0, .int .u8 0, .int .u8 0, .int .u8 0, .int .u8 0, .int .u8 0, .int .i32 0,
  .int .i32 0, .int .u8 0, .int .u8 0, .int .u8 0, .int .u8 0, .int .u8 0, .int .i32 0, .int .i32 0, .int .u8 0, .int .u8 0, .int .u8 0, .int .u8 0, .int .u8 0,
  .int .i32 0, .int .i32 0, .int .u8 0, .int .u8 0, .int .u8 0, .int .u8 0, .int .u8 0, .int .i32 0, .int .i32 0, .int .u8 0, .int .u8 0, .int .u8 0, .int .u8 0,
  .int .u8 0, .int .i32 0, .int .i32 0, .int .u8 0, .int .u8 0, .int .u8 0, .int .u8 0, .int .u8 0, .int .i32 0, .int .i32 0, .int .u8 0, .int .u8 0, .int .u8 0,
  .int .u8 0, .int .u8 0, .int .i32 0, .int .i32 0, .int .u8 0, .int .u8 0, .int .u8 0, .int .u8 0, .int .u8 0, .int .i32 0, .int .i32 0, .int .u8 0, .int .u8 0,
  .int .u8 0, .int .u8 0, .int .u8 0, .int .i32 0, .int .i32 0, .int .u8 0, .int .u8 0, .int .u8 0, .int .u8 0, .int .u8 0, .int .i32 0, .int .i32 0, .int .u8 0,
  .int .u8 0, .int .u8 0, .int .u8 0, .int .u8 0, .int .i32 0, .int .i32 0, .int .u8 0, .int .u8 0, .int .u8 0, .int .u8 0, .int .u8 0, .int .i32 0, .int .i32 0,
  .int .u8 0, .int .u8 0, .int .u8 0, .int .u8 0, .int .u8 0, .int .i32 0, .int .i32 0, .int .u8 0, .int .u8 0, .int .u8 0, .int .u8 0, .int .u8 0, .int .i32 0,
  .int .i32 0, .int .u8 0, .int .u8 0, .int .u8 0, .int .u8 0, .int .u8 0, .int .i32 0, .int .i32 0, .int .u8 0, .int .u8 0, .int .u8 0, .int .u8 0, .int .u8 0,
  .int .i32 0, .int .i32 0, .int .u8 0, .int .u8 0, .int .u8 0, .int .u8 0, .int .u8 0, .int .i32 0, .int .i32 0, .int .u8 0, .int .u8 0, .int .u8 0, .int .u8 0,
  .int .u8 0, .int .i32 0, .int .i32 0, .int .u8 0, .int .u8 0, .int .u8 0, .int .u8 0, .int .u8 0, .int .i32 0, .int .i32 0, .int .u8 0, .int .u8 0, .int .u8 0,
  .int .u8 0, .int .u8 0, .int .i32 0, .int .i32 0, .int .u8 0, .int .u8 0, .int .u8 0, .int .u8 0, .int .u8 0, .int .i32 0, .int .i32 0, .int .u8 0, .int .u8 0,
  .int .u8 0, .int .u8 0, .int .u8 0, .int .i32 0, .int .i32 0, .int .u8 0, .int .u8 0, .int .u8 0, .int .u8 0, .int .u8 0, .int .i32 0, .int .i32 0, .int .u8 0,
  .int .u8 0, .int .u8 0, .int .u8 0, .int .u8 0, .int .i32 0, .int .i32 0, .int .u8 0, .int .u8 0, .int .u8 0, .int .u8 0, .int .u8 0])], r [o 1 (.build [.int .i32 0,
  .int .i32 0, .int .u8 0, .int .u8 0, .int .u8 0, .int .u8 0, .int .u8 0] [(0, 1, .const (.int .i32 0)), (1, 1, .const (.int .i32 8)), (2, 1, .const (.int .u8 3)),
  (3, 1, .const (.int .u8 0)), (4, 1, .const (.int .u8 7)), (5, 1, .const (.int .u8 9)), (6, 1, .const (.int .u8 0))]), o 2 (.build [.int .i32 0, .int .i32 0,
  .int .u8 0, .int .u8 0, .int .u8 0, .int .u8 0, .int .u8 0] [(0, 1, .const (.int .i32 9)), (1, 1, .const (.int .i32 9)), (2, 1, .const (.int .u8 3)), (3,
  1, .const (.int .u8 0)), (4, 1, .const (.int .u8 10)), (5, 1, .const (.int .u8 11)), (6, 1, .const (.int .u8 0))]), o 3 (.build [.int .i32 0, .int .i32 0,
  .int .u8 0, .int .u8 0, .int .u8 0, .int .u8 0, .int .u8 0] [(0, 1, .const (.int .i32 10)), (1, 1, .const (.int .i32 10)), (2, 1, .const (.int .u8 2)),
  (3, 1, .const (.int .u8 1)), (4, 1, .const (.int .u8 3)), (5, 1, .const (.int .u8 10)), (6, 1, .const (.int .u8 0))]), o 4 (.build [.int .i32 0, .int .i32 0,
  .int .u8 0, .int .u8 0, .int .u8 0, .int .u8 0, .int .u8 0] [(0, 1, .const (.int .i32 11)), (1, 1, .const (.int .i32 11)), (2, 1, .const (.int .u8 3)),
  (3, 1, .const (.int .u8 1)), (4, 1, .const (.int .u8 1)), (5, 1, .const (.int .u8 11)), (6, 1, .const (.int .u8 0))]), o 5 (.build [.int .i32 0, .int .i32 0,
  .int .u8 0, .int .u8 0, .int .u8 0, .int .u8 0, .int .u8 0] [(0, 1, .const (.int .i32 12)), (1, 1, .const (.int .i32 12)), (2, 1, .const (.int .u8 3)),
  (3, 1, .const (.int .u8 1)), (4, 1, .const (.int .u8 1)), (5, 1, .const (.int .u8 12)), (6, 1, .const (.int .u8 0))]), o 6 (.build [.int .i32 0, .int .i32 0,
  .int .u8 0, .int .u8 0, .int .u8 0, .int .u8 0, .int .u8 0] [(0, 1, .const (.int .i32 13)), (1, 1, .const (.int .i32 13)), (2, 1, .const (.int .u8 1)),
  (3, 1, .const (.int .u8 1)), (4, 1, .const (.int .u8 2)), (5, 1, .const (.int .u8 10)), (6, 1, .const (.int .u8 0))]), o 7 (.build [.int .i32 0, .int .i32 0,
  .int .u8 0, .int .u8 0, .int .u8 0, .int .u8 0, .int .u8 0] [(0, 1, .const (.int .i32 14)), (1, 1, .const (.int .i32 31)), (2, 1, .const (.int .u8 3)),
  (3, 1, .const (.int .u8 0)), (4, 1, .const (.int .u8 7)), (5, 1, .const (.int .u8 9)), (6, 1, .const (.int .u8 0))]), o 8 (.build [.int .i32 0, .int .i32 0,
  .int .u8 0, .int .u8 0, .int .u8 0, .int .u8 0, .int .u8 0] [(0, 1, .const (.int .i32 32)), (1, 1, .const (.int .i32 32)), (2, 1, .const (.int .u8 0)),
  (3, 1, .const (.int .u8 2)), (4, 1, .const (.int .u8 4)), (5, 1, .const (.int .u8 12)), (6, 1, .const (.int .u8 0))]), o 9 (.build [.int .i32 0, .int .i32 0,
  .int .u8 0, .int .u8 0, .int .u8 0, .int .u8 0, .int .u8 0] [(0, 1, .const (.int .i32 33)), (1, 1, .const (.int .i32 33)), (2, 1, .const (.int .u8 0)),
  (3, 1, .const (.int .u8 0)), (4, 1, .const (.int .u8 15)), (5, 1, .const (.int .u8 13)), (6, 1, .const (.int .u8 0))]), o 10 (.build [.int .i32 0, .int .i32 0,
  .int .u8 0, .int .u8 0, .int .u8 0, .int .u8 0, .int .u8 0] [(0, 1, .const (.int .i32 34)), (1, 1, .const (.int .i32 34)), (2, 1, .const (.int .u8 0)),
  (3, 1, .const (.int .u8 0)), (4, 1, .const (.int .u8 14)), (5, 1, .const (.int .u8 13)), (6, 1, .const (.int .u8 0))]), o 11 (.build [.int .i32 0, .int .i32 0,
  .int .u8 0, .int .u8 0, .int .u8 0, .int .u8 0, .int .u8 0] [(0, 1, .const (.int .i32 35)), (1, 1, .const (.int .i32 37)), (2, 1, .const (.int .u8 0)),
  (3, 1, .const (.int .u8 0)), (4, 1, .const (.int .u8 0)), (5, 1, .const (.int .u8 5)), (6, 1, .const (.int .u8 0))]), o 12 (.build [.int .i32 0, .int .i32 0,
  .int .u8 0, .int .u8 0, .int .u8 0, .int .u8 0, .int .u8 0] [(0, 1, .const (.int .i32 38)), (1, 1, .const (.int .i32 38)), (2, 1, .const (.int .u8 0)),
  (3, 1, .const (.int .u8 0)), (4, 1, .const (.int .u8 0)), (5, 1, .const (.int .u8 13)), (6, 1, .const (.int .u8 0))]), o 13 (.build [.int .i32 0, .int .i32 0,
  .int .u8 0, .int .u8 0, .int .u8 0, .int .u8 0, .int .u8 0] [(0, 1, .const (.int .i32 39)), (1, 1, .const (.int .i32 39)), (2, 1, .const (.int .u8 0)),
  (3, 1, .const (.int .u8 7)), (4, 1, .const (.int .u8 14)), (5, 1, .const (.int .u8 13)), (6, 1, .const (.int .u8 0))]), o 14 (.build [.int .i32 0, .int .i32 0,
  .int .u8 0, .int .u8 0, .int .u8 0, .int .u8 0, .int .u8 0] [(0, 1, .const (.int .i32 40)), (1, 1, .const (.int .i32 40)), (2, 1, .const (.int .u8 0)),
  (3, 1, .const (.int .u8 0)), (4, 1, .const (.int .u8 12)), (5, 1, .const (.int .u8 13)), (6, 1, .const (.int .u8 0))]), o 15 (.build [.int .i32 0, .int .i32 0,
  .int .u8 0, .int .u8 0, .int .u8 0, .int .u8 0, .int .u8 0] [(0, 1, .const (.int .i32 41)), (1, 1, .const (.int .i32 41)), (2, 1, .const (.int .u8 0)),
  (3, 1, .const (.int .u8 0)), (4, 1, .const (.int .u8 13)), (5, 1, .const (.int .u8 13)), (6, 1, .const (.int .u8 0))]), o 16 (.build [.int .i32 0, .int .i32 0,
  .int .u8 0, .int .u8 0, .int .u8 0, .int .u8 0, .int .u8 0] [(0, 1, .const (.int .i32 42)), (1, 1, .const (.int .i32 42)), (2, 1, .const (.int .u8 0)),
  (3, 1, .const (.int .u8 0)), (4, 1, .const (.int .u8 0)), (5, 1, .const (.int .u8 13)), (6, 1, .const (.int .u8 0))]), o 17 (.build [.int .i32 0, .int .i32 0,
  .int .u8 0, .int .u8 0, .int .u8 0, .int .u8 0, .int .u8 0] [(0, 1, .const (.int .i32 43)), (1, 1, .const (.int .i32 43)), (2, 1, .const (.int .u8 0)),
  (3, 1, .const (.int .u8 0)), (4, 1, .const (.int .u8 0)), (5, 1, .const (.int .u8 4)), (6, 1, .const (.int .u8 0))]), o 18 (.build [.int .i32 0, .int .i32 0,
  .int .u8 0, .int .u8 0, .int .u8 0, .int .u8 0, .int .u8 0] [(0, 1, .const (.int .i32 44)), (1, 1, .const (.int .i32 44)), (2, 1, .const (.int .u8 0)),
  (3, 1, .const (.int .u8 6)), (4, 1, .const (.int .u8 16)), (5, 1, .const (.int .u8 7)), (6, 1, .const (.int .u8 0))]), o 19 (.build [.int .i32 0, .int .i32 0,
  .int .u8 0, .int .u8 0, .int .u8 0, .int .u8 0, .int .u8 0] [(0, 1, .const (.int .i32 45)), (1, 1, .const (.int .i32 45)), (2, 1, .const (.int .u8 0)),
  (3, 1, .const (.int .u8 0)), (4, 1, .const (.int .u8 11)), (5, 1, .const (.int .u8 4)), (6, 1, .const (.int .u8 0))]), o 20 (.build [.int .i32 0, .int .i32 0,
  .int .u8 0, .int .u8 0, .int .u8 0, .int .u8 0, .int .u8 0] [(0, 1, .const (.int .i32 46)), (1, 1, .const (.int .i32 46)), (2, 1, .const (.int .u8 0)),
  (3, 1, .const (.int .u8 7)), (4, 1, .const (.int .u8 16)), (5, 1, .const (.int .u8 7)), (6, 1, .const (.int .u8 0))]), o 21 (.build [.int .i32 0, .int .i32 0,
  .int .u8 0, .int .u8 0, .int .u8 0, .int .u8 0, .int .u8 0] [(0, 1, .const (.int .i32 47)), (1, 1, .const (.int .i32 47)), (2, 1, .const (.int .u8 0)),
  (3, 1, .const (.int .u8 0)), (4, 1, .const (.int .u8 10)), (5, 1, .const (.int .u8 7)), (6, 1, .const (.int .u8 0))]), o 22 (.build [.int .i32 0, .int .i32 0,
  .int .u8 0, .int .u8 0, .int .u8 0, .int .u8 0, .int .u8 0] [(0, 1, .const (.int .i32 48)), (1, 1, .const (.int .i32 57)), (2, 1, .const (.int .u8 0)),
  (3, 1, .const (.int .u8 4)), (4, 1, .const (.int .u8 17)), (5, 1, .const (.int .u8 3)), (6, 1, .const (.int .u8 0))]), o 23 (.build [.int .i32 0, .int .i32 0,
  .int .u8 0, .int .u8 0, .int .u8 0, .int .u8 0, .int .u8 0] [(0, 1, .const (.int .i32 58)), (1, 1, .const (.int .i32 58)), (2, 1, .const (.int .u8 0)),
  (3, 1, .const (.int .u8 5)), (4, 1, .const (.int .u8 16)), (5, 1, .const (.int .u8 7)), (6, 1, .const (.int .u8 0))]), o 24 (.build [.int .i32 0, .int .i32 0,
  .int .u8 0, .int .u8 0, .int .u8 0, .int .u8 0, .int .u8 0] [(0, 1, .const (.int .i32 59)), (1, 1, .const (.int .i32 59)), (2, 1, .const (.int .u8 0)),
  (3, 1, .const (.int .u8 6)), (4, 1, .const (.int .u8 16)), (5, 1, .const (.int .u8 13)), (6, 1, .const (.int .u8 0))]), o 25 (.build [.int .i32 0, .int .i32 0,
  .int .u8 0, .int .u8 0, .int .u8 0, .int .u8 0, .int .u8 0] [(0, 1, .const (.int .i32 60)), (1, 1, .const (.int .i32 62)), (2, 1, .const (.int .u8 0)),
  (3, 1, .const (.int .u8 0)), (4, 1, .const (.int .u8 0)), (5, 1, .const (.int .u8 13)), (6, 1, .const (.int .u8 0))]), o 26 (.build [.int .i32 0, .int .i32 0,
  .int .u8 0, .int .u8 0, .int .u8 0, .int .u8 0, .int .u8 0] [(0, 1, .const (.int .i32 63)), (1, 1, .const (.int .i32 63)), (2, 1, .const (.int .u8 0)),
  (3, 1, .const (.int .u8 0)), (4, 1, .const (.int .u8 15)), (5, 1, .const (.int .u8 13)), (6, 1, .const (.int .u8 0))]), o 27 (.build [.int .i32 0, .int .i32 0,
  .int .u8 0, .int .u8 0, .int .u8 0, .int .u8 0, .int .u8 0] [(0, 1, .const (.int .i32 64)), (1, 1, .const (.int .i32 64)), (2, 1, .const (.int .u8 0)),
  (3, 1, .const (.int .u8 0)), (4, 1, .const (.int .u8 0)), (5, 1, .const (.int .u8 13)), (6, 1, .const (.int .u8 0))]), o 28 (.build [.int .i32 0, .int .i32 0,
  .int .u8 0, .int .u8 0, .int .u8 0, .int .u8 0, .int .u8 0] [(0, 1, .const (.int .i32 65)), (1, 1, .const (.int .i32 90)), (2, 1, .const (.int .u8 0)),
  (3, 1, .const (.int .u8 3)), (4, 1, .const (.int .u8 0)), (5, 1, .const (.int .u8 0)), (6, 1, .const (.int .u8 0))]), o 29 (.build [.int .i32 0, .int .i32 0,
  .int .u8 0, .int .u8 0, .int .u8 0, .int .u8 0, .int .u8 0] [(0, 1, .const (.int .i32 91)), (1, 1, .const (.int .i32 91)), (2, 1, .const (.int .u8 0)),
  (3, 1, .const (.int .u8 0)), (4, 1, .const (.int .u8 12)), (5, 1, .const (.int .u8 13)), (6, 1, .const (.int .u8 0))]), o 30 (.build [.int .i32 0, .int .i32 0,
  .int .u8 0, .int .u8 0, .int .u8 0, .int .u8 0, .int .u8 0] [(0, 1, .const (.int .i32 92)), (1, 1, .const (.int .i32 92)), (2, 1, .const (.int .u8 0)),
  (3, 1, .const (.int .u8 0)), (4, 1, .const (.int .u8 0)), (5, 1, .const (.int .u8 13)), (6, 1, .const (.int .u8 0))]), o 31 (.build [.int .i32 0, .int .i32 0,
  .int .u8 0, .int .u8 0, .int .u8 0, .int .u8 0, .int .u8 0] [(0, 1, .const (.int .i32 93)), (1, 1, .const (.int .i32 93)), (2, 1, .const (.int .u8 0)),
  (3, 1, .const (.int .u8 0)), (4, 1, .const (.int .u8 13)), (5, 1, .const (.int .u8 13)), (6, 1, .const (.int .u8 0))]), o 32 (.build [.int .i32 0, .int .i32 0,
  .int .u8 0, .int .u8 0, .int .u8 0, .int .u8 0, .int .u8 0] [(0, 1, .const (.int .i32 94)), (1, 1, .const (.int .i32 94)), (2, 1, .const (.int .u8 0)),
  (3, 1, .const (.int .u8 0)), (4, 1, .const (.int .u8 0)), (5, 1, .const (.int .u8 13)), (6, 1, .const (.int .u8 0))]), o 33 (.build [.int .i32 0, .int .i32 0,
  .int .u8 0, .int .u8 0, .int .u8 0, .int .u8 0, .int .u8 0] [(0, 1, .const (.int .i32 95)), (1, 1, .const (.int .i32 95)), (2, 1, .const (.int .u8 0)),
  (3, 1, .const (.int .u8 8)), (4, 1, .const (.int .u8 0)), (5, 1, .const (.int .u8 13)), (6, 1, .const (.int .u8 0))]), o 34 (.build [.int .i32 0, .int .i32 0,
  .int .u8 0, .int .u8 0, .int .u8 0, .int .u8 0, .int .u8 0] [(0, 1, .const (.int .i32 96)), (1, 1, .const (.int .i32 96)), (2, 1, .const (.int .u8 0)),
  (3, 1, .const (.int .u8 0)), (4, 1, .const (.int .u8 0)), (5, 1, .const (.int .u8 13)), (6, 1, .const (.int .u8 0))]), o 35 (.build [.int .i32 0, .int .i32 0,
  .int .u8 0, .int .u8 0, .int .u8 0, .int .u8 0, .int .u8 0] [(0, 1, .const (.int .i32 97)), (1, 1, .const (.int .i32 122)), (2, 1, .const (.int .u8 0)),
  (3, 1, .const (.int .u8 3)), (4, 1, .const (.int .u8 0)), (5, 1, .const (.int .u8 0)), (6, 1, .const (.int .u8 0))]), o 36 (.build [.int .i32 0, .int .i32 0,
  .int .u8 0, .int .u8 0, .int .u8 0, .int .u8 0, .int .u8 0] [(0, 1, .const (.int .i32 123)), (1, 1, .const (.int .i32 123)), (2, 1, .const (.int .u8 0)),
  (3, 1, .const (.int .u8 0)), (4, 1, .const (.int .u8 12)), (5, 1, .const (.int .u8 13)), (6, 1, .const (.int .u8 0))]), o 37 (.build [.int .i32 0, .int .i32 0,
  .int .u8 0, .int .u8 0, .int .u8 0, .int .u8 0, .int .u8 0] [(0, 1, .const (.int .i32 124)), (1, 1, .const (.int .i32 124)), (2, 1, .const (.int .u8 0)),
  (3, 1, .const (.int .u8 0)), (4, 1, .const (.int .u8 10)), (5, 1, .const (.int .u8 13)), (6, 1, .const (.int .u8 0))]), o 38 (.build [.int .i32 0, .int .i32 0,
  .int .u8 0, .int .u8 0, .int .u8 0, .int .u8 0, .int .u8 0] [(0, 1, .const (.int .i32 125)), (1, 1, .const (.int .i32 125)), (2, 1, .const (.int .u8 0)),
  (3, 1, .const (.int .u8 0)), (4, 1, .const (.int .u8 13)), (5, 1, .const (.int .u8 13)), (6, 1, .const (.int .u8 0))]), o 39 (.build [.int .i32 0, .int .i32 0,
  .int .u8 0, .int .u8 0, .int .u8 0, .int .u8 0, .int .u8 0] [(0, 1, .const (.int .i32 126)), (1, 1, .const (.int .i32 126)), (2, 1, .const (.int .u8 0)),
  (3, 1, .const (.int .u8 0)), (4, 1, .const (.int .u8 0)), (5, 1, .const (.int .u8 13)), (6, 1, .const (.int .u8 0))]), o 40 (.build [.int .i32 0, .int .i32 0,
  .int .u8 0, .int .u8 0, .int .u8 0, .int .u8 0, .int .u8 0] [(0, 1, .const (.int .i32 127)), (1, 1, .const (.int .i32 132)), (2, 1, .const (.int .u8 3)),
  (3, 1, .const (.int .u8 0)), (4, 1, .const (.int .u8 7)), (5, 1, .const (.int .u8 9)), (6, 1, .const (.int .u8 0))]), o 41 (.build [.int .i32 0, .int .i32 0,
  .int .u8 0, .int .u8 0, .int .u8 0, .int .u8 0, .int .u8 0] [(0, 1, .const (.int .i32 133)), (1, 1, .const (.int .i32 133)), (2, 1, .const (.int .u8 3)),
  (3, 1, .const (.int .u8 1)), (4, 1, .const (.int .u8 1)), (5, 1, .const (.int .u8 10)), (6, 1, .const (.int .u8 0))]), o 42 (.build [.int .i32 0, .int .i32 0,
  .int .u8 0, .int .u8 0, .int .u8 0, .int .u8 0, .int .u8 0] [(0, 1, .const (.int .i32 134)), (1, 1, .const (.int .i32 159)), (2, 1, .const (.int .u8 3)),
  (3, 1, .const (.int .u8 0)), (4, 1, .const (.int .u8 7)), (5, 1, .const (.int .u8 9)), (6, 1, .const (.int .u8 0))]), o 43 (.build [.int .i32 0, .int .i32 0,
  .int .u8 0, .int .u8 0, .int .u8 0, .int .u8 0, .int .u8 0] [(0, 1, .const (.int .i32 160)), (1, 1, .const (.int .i32 160)), (2, 1, .const (.int .u8 0)),
  (3, 1, .const (.int .u8 0)), (4, 1, .const (.int .u8 9)), (5, 1, .const (.int .u8 7)), (6, 1, .const (.int .u8 0))]), o 44 (.build [.int .i32 0, .int .i32 0,
  .int .u8 0, .int .u8 0, .int .u8 0, .int .u8 0, .int .u8 0] [(0, 1, .const (.int .i32 161)), (1, 1, .const (.int .i32 161)), (2, 1, .const (.int .u8 0)),
  (3, 1, .const (.int .u8 0)), (4, 1, .const (.int .u8 12)), (5, 1, .const (.int .u8 13)), (6, 1, .const (.int .u8 0))]), o 45 (.build [.int .i32 0, .int .i32 0,
  .int .u8 0, .int .u8 0, .int .u8 0, .int .u8 0, .int .u8 0, .int .i32 0, .int .i32 0, .int .u8 0, .int .u8 0, .int .u8 0, .int .u8 0, .int .u8 0, .int .i32 0,
  .int .i32 0, .int .u8 0, .int .u8 0, .int .u8 0, .int .u8 0, .int .u8 0, .int .i32 0, .int .i32 0, .int .u8 0, .int .u8 0, .int .u8 0, .int .u8 0, .int .u8 0,
  .int .i32 0, .int .i32 0, .int .u8 0, .int .u8 0, .int .u8 0, .int .u8 0, .int .u8 0, .int .i32 0, .int .i32 0, .int .u8 0, .int .u8 0, .int .u8 0, .int .u8 0,
  .int .u8 0, .int .i32 0, .int .i32 0, .int .u8 0, .int .u8 0, .int .u8 0, .int .u8 0, .int .u8 0, .int .i32 0, .int .i32 0, .int .u8 0, .int .u8 0, .int .u8 0,
  .int .u8 0, .int .u8 0, .int .i32 0, .int .i32 0, .int .u8 0, .int .u8 0, .int .u8 0, .int .u8 0, .int .u8 0, .int .i32 0, .int .i32 0, .int .u8 0, .int .u8 0,
  .int .u8 0, .int .u8 0, .int .u8 0, .int .i32 0, .int .i32 0, .int .u8 0, .int .u8 0, .int .u8 0, .int .u8 0, .int .u8 0, .int .i32 0, .int .i32 0, .int .u8 0,
  .int .u8 0, .int .u8 0, .int .u8 0, .int .u8 0, .int .i32 0, .int .i32 0, .int .u8 0, .int .u8 0, .int .u8 0, .int .u8 0, .int .u8 0, .int .i32 0, .int .i32 0,
  .int .u8 0, .int .u8 0, .int .u8 0, .int .u8 0, .int .u8 0, .int .i32 0, .int .i32 0, .int .u8 0, .int .u8 0, .int .u8 0, .int .u8 0, .int .u8 0, .int .i32 0,
  .int .i32 0, .int .u8 0, .int .u8 0, .int .u8 0, .int .u8 0, .int .u8 0, .int .i32 0, .int .i32 0, .int .u8 0, .int .u8 0, .int .u8 0, .int .u8 0, .int .u8 0,
  .int .i32 0, .int .i32 0, .int .u8 0, .int .u8 0, .int .u8 0, .int .u8 0, .int .u8 0, .int .i32 0, .int .i32 0, .int .u8 0, .int .u8 0, .int .u8 0, .int .u8 0,
  .int .u8 0, .int .i32 0, .int .i32 0, .int .u8 0, .int .u8 0, .int .u8 0, .int .u8 0, .int .u8 0, .int .i32 0, .int .i32 0, .int .u8 0, .int .u8 0, .int .u8 0,
  .int .u8 0, .int .u8 0, .int .i32 0, .int .i32 0, .int .u8 0, .int .u8 0, .int .u8 0, .int .u8 0, .int .u8 0, .int .i32 0, .int .i32 0, .int .u8 0, .int .u8 0,
  .int .u8 0, .int .u8 0, .int .u8 0, .int .i32 0, .int .i32 0, .int .u8 0, .int .u8 0, .int .u8 0, .int .u8 0, .int .u8 0, .int .i32 0, .int .i32 0, .int .u8 0,
  .int .u8 0, .int .u8 0, .int .u8 0, .int .u8 0, .int .i32 0, .int .i32 0, .int .u8 0, .int .u8 0, .int .u8 0, .int .u8 0, .int .u8 0, .int .i32 0, .int .i32 0,
  .int .u8 0, .int .u8 0, .int .u8 0, .int .u8 0, .int .u8 0, .int .i32 0, .int .i32 0, .int .u8 0, .int .u8 0, .int .u8 0, .int .u8 0, .int .u8 0, .int .i32 0,
  .int .i32 0, .int .u8 0, .int .u8 0, .int .u8 0, .int .u8 0, .int .u8 0, .int .i32 0, .int .i32 0, .int .u8 0, .int .u8 0, .int .u8 0, .int .u8 0, .int .u8 0,
  .int .i32 0, .int .i32 0, .int .u8 0, .int .u8 0, .int .u8 0, .int .u8 0, .int .u8 0, .int .i32 0, .int .i32 0, .int .u8 0, .int .u8 0, .int .u8 0, .int .u8 0,
  .int .u8 0, .int .i32 0, .int .i32 0, .int .u8 0, .int .u8 0, .int .u8 0, .int .u8 0, .int .u8 0, .int .i32 0, .int .i32 0, .int .u8 0, .int .u8 0, .int .u8 0,
  .int .u8 0, .int .u8 0, .int .i32 0, .int .i32 0, .int .u8 0, .int .u8 0, .int .u8 0, .int .u8 0, .int .u8 0, .int .i32 0, .int .i32 0, .int .u8 0, .int .u8 0,
  .int .u8 0, .int .u8 0, .int .u8 0, .int .i32 0, .int .i32 0, .int .u8 0, .int .u8 0, .int .u8 0, .int .u8 0, .int .u8 0, .int .i32 0, .int .i32 0, .int .u8 0,
  .int .u8 0, .int .u8 0, .int .u8 0, .int .u8 0, .int .i32 0, .int .i32 0, .int .u8 0, .int .u8 0, .int .u8 0, .int .u8 0, .int .u8 0, .int .i32 0, .int .i32 0,
  .int .u8 0, .int .u8 0, .int .u8 0, .int .u8 0, .int .u8 0, .int .i32 0, .int .i32 0, .int .u8 0, .int .u8 0, .int .u8 0, .int .u8 0, .int .u8 0, .int .i32 0,
  .int .i32 0, .int .u8 0, .int .u8 0, .int .u8 0, .int .u8 0, .int .u8 0, .int .i32 0, .int .i32 0, .int .u8 0, .int .u8 0, .int .u8 0, .int .u8 0, .int .u8 0,
  .int .i32 0, .int .i32 0, .int .u8 0, .int .u8 0, .int .u8 0, .int .u8 0, .int .u8 0] [(0, 7, .tmp 1), (7, 7, .tmp 2), (14, 7, .tmp 3), (21, 7, .tmp 4),
  (28, 7, .tmp 5), (35, 7, .tmp 6), (42, 7, .tmp 7), (49, 7, .tmp 8), (56, 7, .tmp 9), (63, 7, .tmp 10), (70, 7, .tmp 11), (77, 7, .tmp 12), (84, 7, .tmp 13),
  (91, 7, .tmp 14), (98, 7, .tmp 15), (105, 7, .tmp 16), (112, 7, .tmp 17), (119, 7, .tmp 18), (126, 7, .tmp 19), (133, 7, .tmp 20), (140, 7, .tmp 21), (147,
  7, .tmp 22), (154, 7, .tmp 23), (161, 7, .tmp 24), (168, 7, .tmp 25), (175, 7, .tmp 26), (182, 7, .tmp 27), (189, 7, .tmp 28), (196, 7, .tmp 29), (203,
  7, .tmp 30), (210, 7, .tmp 31), (217, 7, .tmp 32), (224, 7, .tmp 33), (231, 7, .tmp 34), (238, 7, .tmp 35), (245, 7, .tmp 36), (252, 7, .tmp 37), (259,
  7, .tmp 38), (266, 7, .tmp 39), (273, 7, .tmp 40), (280, 7, .tmp 41), (287, 7, .tmp 42), (294, 7, .tmp 43), (301, 7, .tmp 44)]), s 308 0 45]] (.ret)⟩
theorem A259_ok : XOk Tryz.prog ITS 259 A259 := ⟨Tryz.f259, Tryz.func259, by kernel_rfl, by decide, by kernel_rfl, its_nil (by kernel_rfl)⟩

/- widgetry/char.search -/
def A260 : AFn := ⟨45, [.cell 4 (some 7)], q [r [o 4 (.new [.int .i32 0, .int .i32 0, .int .u8 0, .int .u8 0, .int .u8 0, .int .u8 0, .int .u8 0])], r [m 8 0, le 9 8, mv 5 (n 0), m 6 9], .block 0 (.loop (q [q [r [m 10 5,
  m 11 6, ar 12 .lss (t 10) (t 11)]] (.cond (t 12) (sk) (.exit 0))] (.block 1 (q [r [m 13 5, m 14 6, ar 15 .add (t 13) (t 14), ar 16 .quo (t 15) (n 2), m 7 16],
  r [m 17 0, m 18 7, ia 19 7 17 (t 18), fa 20 1 19, l 21 20, m 22 1, ar 23 .lss (t 21) (t 22)]] (.cond (t 23) (r [m 24 7, ar 25 .add (t 24) (n 1), m 5 25]) (r [m 26 7,
  m 6 26])))))), q [r [m 27 5, m 28 0, le 29 28, ar 30 .lss (t 27) (t 29), m 31 30, og 32 (.mov (t 0)) 31 true, og 33 (.mov (t 5)) 31 true, og 34 (.idxA 7 (t 32) (t 33)) 31 true,
  og 35 (.fldA 0 (t 34)) 31 true, og 36 (.ld1 (t 35)) 31 true, og 37 (.mov (t 1)) 31 true, og 38 (.arith .leq (t 36) (t 37)) 31 true, o 39 (.pick (t 31) (t 38) ff)]] (.cond (t 39) (q [r [m 40 0,
  m 41 5, ia 42 7 40 (t 41), ln 43 7 42, s 7 4 43]] (.ret)) (sk)), r [o 44 (.build [.int .i32 0, .int .i32 0, .int .u8 0, .int .u8 0, .int .u8 0, .int .u8 0,
  .int .u8 0] []), s 7 4 44]] (.ret)⟩
theorem A260_ok : XOk Tryz.prog ITS 260 A260 := ⟨Tryz.f260, Tryz.func260, by kernel_rfl, by decide, by kernel_rfl, its_nil (by kernel_rfl)⟩

/- widgetry/bidi.initiator -/
def A264 : AFn := ⟨13, [.tmp 2], q [r [mv 2 ff], r [m 3 0, ar 4 .eql (t 3) (n 19), m 5 4, og 6 (.mov (t 0)) 5 false, og 7 (.arith .eql (t 6) (n 20)) 5 false, o 8 (.pick (t 5) tt (t 7)),
  m 9 8, og 10 (.mov (t 0)) 9 false, og 11 (.arith .eql (t 10) (n 21)) 9 false, o 12 (.pick (t 9) tt (t 11)), m 2 12]] (.ret)⟩
theorem A264_ok : XOk Tryz.prog ITS 264 A264 := ⟨Tryz.f264, Tryz.func264, by kernel_rfl, by decide, by kernel_rfl, its_nil (by kernel_rfl)⟩

/- (*widgetry/bidi.paragraph).explicit$1 -/
def A265 : AFn := ⟨21, [], q [r [l 4 0, l 5 0, le 6 5, ar 7 .sub (t 6) (n 1), ia 8 3 4 (t 7), ln 9 3 8, o 3 (.new [.int .i64 0, .int .i64 0, .bool false]), s 3 3 9], r [fa 10 1 3,
  l 11 10, ar 12 .geq (t 11) (n 0)]] (.cond (t 12) (d [(l 13 1, 0), (o 14 (.nilchk (t 13)), 1), (fa 15 2 14, 3), (l 16 15, 7), (l 17 2, 0), (fa 18 1 3, 0),
  (l 19 18, 32), (ia 20 1 16 (t 17), 127), (s 1 20 19, 255)]) (sk))⟩
theorem A265_ok : XOk Tryz.prog ITS 265 A265 := ⟨Tryz.f265, Tryz.func265, by kernel_rfl, by decide, by kernel_rfl, its_nil (by kernel_rfl)⟩

/- (*widgetry/bidi.paragraph).ends -/
def A267 : AFn := ⟨98, [.cell 6 (some 4)], q [r [o 4 (.box (t 1)), o 6 (.new [.nilsl, .int .i64 0, .int .i64 0, .int .i64 0])], d [(m 14 0, 0), (o 15 (.nilchk (t 14)), 1), (fa 16 5 15, 3), (l 17 16,
  7), (m 18 0, 0), (o 19 (.nilchk (t 18)), 16), (fa 20 5 19, 48), (l 21 20, 112), (m 7 17, 15), (m 8 21, 511)], q [r [m 23 2, fa 24 0 4, l 25 24, ia 26 1 25 (n 0),
  l 27 26, c 28 283 [t 23, t 27], m 22 28, ex 29 22 0, ex 30 22 1, m 9 29, m 10 30], r [m 31 9, ar 32 .gtr (t 31) (n 0)]] (.cond (t 32) (d [(m 33 0, 0),
  (o 34 (.nilchk (t 33)), 1), (fa 35 4 34, 3), (l 36 35, 7), (m 37 2, 0), (m 38 9, 0), (ar 39 .sub (t 38) (n 1), 32), (ia 40 1 37 (t 39), 112), (l 41 40,
  240), (ia 42 1 36 (t 41), 511), (l 43 42, 1023), (m 7 43, 2047)]) (sk)), r [fa 44 0 4, l 45 44, fa 46 0 4, l 47 46, le 48 47, ar 49 .sub (t 48) (n 1),
  ia 50 1 45 (t 49), l 51 50, m 11 51], q [r [m 53 2, m 54 11, c 55 283 [t 53, t 54], m 52 55, ex 56 52 0, ex 57 52 1, m 12 56, m 13 57], r [m 58 12, ar 59 .add (t 58) (n 1),
  m 60 2, le 61 60, ar 62 .lss (t 59) (t 61), m 63 62, og 64 (.mov (t 0)) 63 true, og 65 (.nilchk (t 64)) 63 true, og 66 (.fldA 1 (t 65)) 63 true, og 67 (.ld1 (t 66)) 63 true,
  og 68 (.mov (t 11)) 63 true, og 69 (.idxA 1 (t 67) (t 68)) 63 true, og 70 (.ld1 (t 69)) 63 true, og 71 (.call (fn 264) [t 70]) 63 true, og 72 (.un .not (t 71)) 63 true,
  o 73 (.pick (t 63) (t 72) ff)]] (.cond (t 73) (d [(m 74 0, 0), (o 75 (.nilchk (t 74)), 1), (fa 76 4 75, 3), (l 77 76, 7), (m 78 2, 0), (m 79 12, 0), (ar 80 .add (t 79) (n 1),
  32), (ia 81 1 78 (t 80), 112), (l 82 81, 240), (ia 83 1 77 (t 82), 511), (l 84 83, 1023), (m 8 84, 2047)]) (sk)), d [(fa 85 1 4, 0), (l 86 85, 1), (m 87 7,
  0), (o 88 (.mnmx true (t 86) (t 87)), 7), (c 89 269 [t 88], 15), (fa 90 1 4, 0), (l 91 90, 32), (m 92 8, 0), (o 93 (.mnmx true (t 91) (t 92)), 224), (c 94 269 [t 93],
  511), (fa 95 2 4, 127), (s 1 95 89, 2047), (fa 96 3 4, 4095), (s 1 96 94, 8191)], r [ln 97 4 4, s 4 6 97]] (.ret)⟩
theorem A267_ok : XOk Tryz.prog ITS 267 A267 := ⟨Tryz.f267, Tryz.func267, by kernel_rfl, by decide, by kernel_rfl, its_nil (by kernel_rfl)⟩

/- (*widgetry/bidi.paragraph).weak$1 -/
def A268 : AFn := ⟨25, [.tmp 4], q [r [mv 4 (n 0)], q [r [m 5 0, ar 6 .lss (t 5) (n 0), m 7 6, og 8 (.mov (t 0)) 7 false, og 9 (.fldA 0 (t 1)) 7 false, og 10 (.ld1 (t 9)) 7 false, og 11 (.len (t 10)) 7 false,
  og 12 (.arith .geq (t 8) (t 11)) 7 false, o 13 (.pick (t 7) tt (t 12))]] (.cond (t 13) (q [r [mv 4 (n (-1))]] (.ret)) (sk)), d [(l 14 2, 0), (o 15 (.nilchk (t 14)),
  1), (fa 16 2 15, 3), (l 17 16, 7), (fa 18 0 1, 0), (l 19 18, 16), (m 20 0, 0), (ia 21 1 19 (t 20), 112), (l 22 21, 240), (ia 23 1 17 (t 22), 511), (l 24 23,
  1023), (m 4 24, 2047)]] (.ret)⟩
theorem A268_ok : XOk Tryz.prog ITS 268 A268 := ⟨Tryz.f268, Tryz.func268, by kernel_rfl, by decide, by kernel_rfl, its_nil (by kernel_rfl)⟩

/- widgetry/bidi.strong -/
def A269 : AFn := ⟨6, [.tmp 2], q [r [mv 2 (n 0)], q [r [m 3 0, ar 4 .rem (t 3) (n 2), ar 5 .eql (t 4) (n 1)]] (.cond (t 5) (q [r [mv 2 (n 1)]] (.ret)) (sk)), r [mv 2 (n 0)]] (.ret)⟩
theorem A269_ok : XOk Tryz.prog ITS 269 A269 := ⟨Tryz.f269, Tryz.func269, by kernel_rfl, by decide, by kernel_rfl, its_nil (by kernel_rfl)⟩

/- (*widgetry/bidi.paragraph).pairs -/
def A270 : AFn := ⟨90, [.tmp 4], q [r [o 3 (.box (t 1)), mv 4 (.const (.nilsl))], r [mv 5 (.const (.nilsl))], r [mv 6 (.const (.nilsl))], q [r [fa 12 0 3, l 13 12, le 14 13, mv 15 (n 0)]] (.block 0 (.loop (q [r [ar 16 .lss (t 15) (t 14)],
  .cond (t 16) (sk) (.exit 0), .block 1 (q [r [m 17 15, ia 18 1 13 (t 15), l 19 18, m 7 17, m 8 19], q [r [m 20 0, o 21 (.nilchk (t 20)), fa 22 2 21, l 23 22,
  m 24 8, ia 25 1 23 (t 24), l 26 25, ar 27 .neq (t 26) (n 13)]] (.cond (t 27) (.exit 1) (sk)), r [m 29 0, o 30 (.nilchk (t 29)), fa 31 0 30, l 32 31, m 33 8,
  ia 34 1 32 (t 33), l 35 34, c 36 284 [t 35], m 28 36, ex 37 28 0, ex 38 28 1, m 9 37, m 10 38], r [m 39 9]] (.block 2 (q [r [ar 41 .eql (t 39) (n 1), m 40 41]] (.cond (t 40) (q [q [r [m 42 5,
  le 43 42, ar 44 .eql (t 43) (n 63)]] (.cond (t 44) (q [r [mv 4 (.const (.nilsl))]] (.ret)) (sk))] (r [m 45 5, m 46 10, m 47 7, o 48 (.build [.int .i32 0,
  .int .i64 0] [(0, 1, .tmp 46), (1, 1, .tmp 47)]), o 49 (.buildSl 2 1 [.int .i32 0, .int .i64 0] [(0, 2, .tmp 48)]), o 50 (.app 2 16 (t 45) (t 49)), m 5 50])) (q [r [ar 52 .eql (t 39) (n 2),
  m 51 52]] (.cond (t 51) (q [r [m 53 5, le 54 53, ar 55 .sub (t 54) (n 1), m 11 55]] (.block 3 (.loop (q [q [r [m 56 11, ar 57 .geq (t 56) (n 0)]] (.cond (t 57) (sk) (.exit 3)),
  .block 4 (q [d [(m 60 5, 0), (m 61 11, 0), (ia 62 2 60 (t 61), 3), (fa 63 0 62, 7), (l 64 63, 15), (m 65 0, 0), (o 66 (.nilchk (t 65)), 32), (fa 67 0 66,
  96), (l 68 67, 224), (m 69 8, 0), (ia 70 1 68 (t 69), 992), (l 71 70, 2016), (ar 72 .eql (t 64) (t 71), 4095)]] (.cond (t 72) (q [r [m 73 6, m 74 5, m 75 11,
  ia 76 2 74 (t 75), fa 77 1 76, l 78 77, m 79 7, o 80 (.build [.int .i64 0, .int .i64 0] [(0, 1, .tmp 78), (1, 1, .tmp 79)]), o 81 (.buildSl 2 1 [.int .i64 0,
  .int .i64 0] [(0, 2, .tmp 80)]), o 82 (.app 2 16 (t 73) (t 81)), m 6 82], r [m 83 5, m 84 11, o 85 (.sl 2 (t 83) none (some (.tmp 84)) none), m 5 85]] (.exit 3)) (sk)))] (r [m 58 11,
  ar 59 .sub (t 58) (n 1), m 11 59]))))) (sk)))))))] (r [ar 86 .add (t 15) (n 1), m 15 86])))), r [m 87 6, c 88 285 [t 87, fn 286]], r [m 89 6, m 4 89]] (.ret)⟩
theorem A270_ok : XOk Tryz.prog ITS 270 A270 := ⟨Tryz.f270, Tryz.func270, by kernel_rfl, by decide, by kernel_rfl, its_nil (by kernel_rfl)⟩

/- widgetry/bidi.direction -/
def A271 : AFn := ⟨10, [.tmp 2], q [r [mv 2 (n 0)], q [r [m 3 0]] (.block 0 (q [r [ar 5 .eql (t 3) (n 0), m 4 5]] (.cond (t 4) (q [r [mv 2 (n 0)]] (.ret)) (q [q [r [ar 7 .eql (t 3) (n 1),
  m 6 7]] (.cond (t 6) (sk) (q [r [ar 8 .eql (t 3) (n 3), m 6 8]] (.cond (t 6) (sk) (r [ar 9 .eql (t 3) (n 6), m 6 9]))))] (.cond (t 6) (q [r [mv 2 (n 1)]] (.ret)) (sk)))))),
  r [mv 2 (n (-1))]] (.ret)⟩
theorem A271_ok : XOk Tryz.prog ITS 271 A271 := ⟨Tryz.f271, Tryz.func271, by kernel_rfl, by decide, by kernel_rfl, its_nil (by kernel_rfl)⟩

/- widgetry/bidi.neutral -/
def A272 : AFn := ⟨12, [.tmp 2], q [r [mv 2 ff], q [r [m 3 0]] (.block 0 (q [q [r [ar 5 .eql (t 3) (n 10), m 4 5]] (.cond (t 4) (sk) (q [r [ar 6 .eql (t 3) (n 11), m 4 6]] (.cond (t 4) (sk) (q [r [ar 7 .eql (t 3) (n 12),
  m 4 7]] (.cond (t 4) (sk) (q [r [ar 8 .eql (t 3) (n 13), m 4 8]] (.cond (t 4) (sk) (r [ar 9 .eql (t 3) (n 22), m 4 9]))))))))] (.cond (t 4) (q [r [mv 2 tt]] (.ret)) (sk)))),
  r [m 10 0, c 11 264 [t 10], m 2 11]] (.ret)⟩
theorem A272_ok : XOk Tryz.prog ITS 272 A272 := ⟨Tryz.f272, Tryz.func272, by kernel_rfl, by decide, by kernel_rfl, its_nil (by kernel_rfl)⟩

/- widgetry/font.Advance -/
def A273 : AFn := ⟨48, [.tmp 6], q [r [o 3 (.box (t 0)), mv 6 (n 0)], q [r [ln 10 8 3, m 11 1, c 12 192 [t 10, t 11], o 13 (.un .not (t 12))]] (.cond (t 13) (q [r [mv 6 (n 0)]] (.ret)) (sk)),
  q [r [m 14 2, c 15 183 [t 14]]] (.block 0 (q [q [r [ar 17 .eql (t 15) (n 4), m 16 17]] (.cond (t 16) (sk) (q [r [ar 18 .eql (t 15) (n 5), m 16 18]] (.cond (t 16) (sk) (q [r [ar 19 .eql (t 15) (n 3),
  m 16 19]] (.cond (t 16) (sk) (q [r [ar 20 .eql (t 15) (n 1), m 16 20]] (.cond (t 16) (sk) (r [ar 21 .eql (t 15) (n 2), m 16 21]))))))))] (.cond (t 16) (q [r [mv 6 (n 0)]] (.ret)) (sk)))),
  r [fa 22 4 3, l 23 22, m 7 23], q [r [fa 24 5 3, l 25 24, le 26 25, mv 27 (n 0)]] (.block 1 (.loop (q [r [ar 28 .lss (t 27) (t 26)], .cond (t 28) (sk) (.exit 1),
  .block 2 (q [r [ia 29 3 25 (t 27), ln 30 3 29, o 9 (.new [.int .i32 0, .int .i32 0, .int .i64 0]), s 3 9 30], r [fa 31 0 9, l 32 31, m 33 2, ar 34 .leq (t 32) (t 33),
  m 35 34, og 36 (.mov (t 2)) 35 true, og 37 (.fldA 1 (t 9)) 35 true, og 38 (.ld1 (t 37)) 35 true, og 39 (.arith .leq (t 36) (t 38)) 35 true, o 40 (.pick (t 35) (t 39) ff)]] (.cond (t 40) (r [fa 41 2 9,
  l 42 41, m 7 42]) (sk)))] (r [ar 43 .add (t 27) (n 1), m 27 43])))), r [ln 44 8 3, m 45 1, m 46 7, c 47 193 [t 44, t 45, t 46], m 6 47]] (.ret)⟩
theorem A273_ok : XOk Tryz.prog ITS 273 A273 := ⟨Tryz.f273, Tryz.func273, by kernel_rfl, by decide, by kernel_rfl, its_nil (by kernel_rfl)⟩

/- widgetry/font.Kern -/
def A274 : AFn := ⟨35, [.tmp 8], q [r [o 4 (.box (t 0)), mv 8 (n 0)], q [r [ln 11 8 4, m 12 1, c 13 192 [t 11, t 12], o 14 (.un .not (t 13))]] (.cond (t 14) (q [r [mv 8 (n 0)]] (.ret)) (sk)),
  r [fa 16 6 4, l 17 16, m 18 2, m 19 3, o 20 (.build [.int .i32 0, .int .i32 0, .int .i64 0] [(0, 1, .tmp 18), (1, 1, .tmp 19)]), c 21 287 [t 17, t 20,
  fn 288], m 15 21, ex 22 15 0, ex 23 15 1, m 9 22, m 10 23], q [r [m 24 10, o 25 (.un .not (t 24))]] (.cond (t 25) (q [r [mv 8 (n 0)]] (.ret)) (sk)), d [(ln 26 8 4,
  0), (m 27 1, 0), (fa 28 6 4, 0), (l 29 28, 4), (m 30 9, 0), (ia 31 3 29 (t 30), 28), (fa 32 2 31, 60), (l 33 32, 124), (c 34 193 [t 26, t 27, t 33], 255),
  (m 8 34, 511)]] (.ret)⟩
theorem A274_ok : XOk Tryz.prog ITS 274 A274 := ⟨Tryz.f274, Tryz.func274, by kernel_rfl, by decide, by kernel_rfl, its_nil (by kernel_rfl)⟩

/- (widgetry/shape.Prepared).union -/
def A278 : AFn := ⟨41, [.cell 10 (some 5)], q [r [o 5 (.box (t 0)), o 6 (.box (t 1)), o 10 (.new [.int .i32 0, .int .i32 0, .int .i64 0, .int .i64 0, .bool false])], r [m 14 2, m 15 3, m 16 4, o 17 (.build [.int .i64 0,
  .int .i64 0, .int .i32 0, .int .i32 0, .bool false] [(0, 1, .tmp 14), (1, 1, .const (.int .i64 0)), (2, 1, .tmp 15), (3, 1, .tmp 16), (4, 1, .const (.bool false))]),
  o 11 (.new [.int .i64 0, .int .i64 0, .int .i32 0, .int .i32 0, .bool false]), s 5 11 17], r [fa 19 4 5, l 20 19, ln 21 5 11, o 22 (.xo (.mapget (.st [.int .i64,
  .int .i64, .int .i32, .int .i32, .bool]) true (.agg [.int .i32 0, .int .i32 0, .int .i64 0, .int .i64 0, .bool false])) [t 20, t 21]), m 18 22, ex 23 18 0,
  ex 24 18 1, o 12 (.new [.int .i32 0, .int .i32 0, .int .i64 0, .int .i64 0, .bool false]), s 5 12 23, m 13 24], q [r [m 25 13, o 26 (.un .not (t 25))]] (.cond (t 26) (q [r [ln 28 8 6,
  m 29 3, m 30 4, c 31 289 [t 28, t 29, t 30], m 27 31, ex 32 27 0, ex 33 27 1, fa 34 0 12, s 4 34 32, fa 35 4 12, s 1 35 33]] (r [fa 36 4 5, l 37 36, ln 38 5 11,
  ln 39 5 12, on (.xo (.mapset (.st [.int .i64, .int .i64, .int .i32, .int .i32, .bool])) [t 37, t 38, t 39])])) (sk)), r [ln 40 5 12, s 5 10 40]] (.ret)⟩
theorem A278_ok : XOk Tryz.prog ITS 278 A278 := ⟨Tryz.f278, Tryz.func278, by kernel_rfl, by decide, by kernel_rfl, its_nil (by kernel_rfl)⟩

/- widgetry/expr.TypeOf -/
def A282 : AFn := ⟨18, [.cell 2 (some 2), .tmp 3], q [r [o 1 (.box (t 0)), o 2 (.new [.int .i64 0, .nilsl]), mv 3 (n 0)], r [o 4 (.new [.int .i64 0]), sv 1 4 (n 0)], r [ln 8 4 1, c 9 291 [t 8, n 0, t 4],
  m 7 9, ex 10 7 0, ex 11 7 1, o 5 (.new [.int .i64 0, .nilsl]), s 2 5 10, m 6 11], q [r [m 12 6, ar 13 .neq (t 12) (n 0)]] (.cond (t 13) (q [r [o 14 (.build [.int .i64 0,
  .nilsl] []), m 15 6, s 2 2 14, m 3 15]] (.ret)) (sk)), r [ln 16 2 5, c 17 292 [t 16], s 2 2 17, mv 3 (n 0)]] (.ret)⟩
theorem A282_ok : XOk Tryz.prog ITS 282 A282 := ⟨Tryz.f282, Tryz.func282, by kernel_rfl, by decide, by kernel_rfl, its_nil (by kernel_rfl)⟩

/- slices.BinarySearch[[]int,int] -/
def A283 : AFn := ⟨54, [.tmp 4, .tmp 5], q [r [mv 4 (n 0), mv 5 ff], r [m 10 0, le 11 10, m 6 11], r [m 12 6, mv 7 (n 0), m 8 12], .block 0 (.loop (q [q [r [m 13 7, m 14 8, ar 15 .lss (t 13) (t 14)]] (.cond (t 15) (sk) (.exit 0))] (.block 1 (q [r [m 16 7,
  m 17 8, ar 18 .add (t 16) (t 17), o 19 (.convI .u64 (t 18)), ar 20 .shr (t 19) (.const (.int .u64 1)), o 21 (.convI .i64 (t 20)), m 9 21], r [m 22 0, m 23 9,
  ia 24 1 22 (t 23), l 25 24, m 26 1, c 27 293 [t 25, t 26]]] (.cond (t 27) (r [m 28 9, ar 29 .add (t 28) (n 1), m 7 29]) (r [m 30 9, m 8 30])))))), r [m 31 7,
  m 32 7, m 33 6, ar 34 .lss (t 32) (t 33), m 35 34, og 36 (.mov (t 0)) 35 true, og 37 (.mov (t 7)) 35 true, og 38 (.idxA 1 (t 36) (t 37)) 35 true, og 39 (.ld1 (t 38)) 35 true,
  og 40 (.mov (t 1)) 35 true, og 41 (.arith .eql (t 39) (t 40)) 35 true, og 42 (.mov (t 41)) 35 true, og 43 (.mov (t 0)) 42 false, og 44 (.mov (t 7)) 42 false,
  og 45 (.idxA 1 (t 43) (t 44)) 42 false, og 46 (.ld1 (t 45)) 42 false, og 47 (.call (fn 294) [t 46]) 42 false, og 48 (.mov (t 47)) 42 false, og 49 (.mov (t 1)) 48 true,
  og 50 (.call (fn 294) [t 49]) 48 true, og 51 (.pick (t 48) (t 50) ff) 42 false, og 52 (.pick (t 42) tt (t 51)) 35 true, o 53 (.pick (t 35) (t 52) ff),
  m 4 31, m 5 53]] (.ret)⟩
theorem A283_ok : XOk Tryz.prog ITS 283 A283 := ⟨Tryz.f283, Tryz.func283, by kernel_rfl, by decide, by kernel_rfl, its_nil (by kernel_rfl)⟩

/- slices.SortFunc[[][2]int,[2]int] -/
def A285 : AFn := ⟨14, [], q [r [m 5 0, le 6 5, m 4 6]] (r [m 7 0, m 8 4, m 9 4, o 10 (.convI .u64 (t 9)), c 11 26 [t 10], m 12 1, c 13 295 [t 7, n 0, t 8, t 11, t 12]])⟩
theorem A285_ok : XOk Tryz.prog ITS 285 A285 := ⟨Tryz.f285, Tryz.func285, by kernel_rfl, by decide, by kernel_rfl, its_nil (by kernel_rfl)⟩

/- slices.BinarySearchFunc[[]widgetry/api.Kern,widgetry/api.Kern,widgetry/api.Kern] -/
def A287 : AFn := ⟨49, [.tmp 6, .tmp 7], q [r [o 4 (.box (t 1)), mv 6 (n 0), mv 7 ff], r [m 12 0, le 13 12, m 8 13], r [m 14 8, mv 9 (n 0), m 10 14], .block 0 (.loop (q [q [r [m 15 9, m 16 10,
  ar 17 .lss (t 15) (t 16)]] (.cond (t 17) (sk) (.exit 0))] (.block 1 (q [r [m 18 9, m 19 10, ar 20 .add (t 18) (t 19), o 21 (.convI .u64 (t 20)), ar 22 .shr (t 21) (.const (.int .u64 1)),
  o 23 (.convI .i64 (t 22)), m 11 23], d [(m 24 2, 0), (m 25 0, 0), (m 26 11, 0), (ia 27 3 25 (t 26), 6), (ln 28 3 27, 14), (ln 29 3 4, 0), (o 30 (.call (t 24) [t 28,
  t 29]), 63), (ar 31 .lss (t 30) (n 0), 127)]] (.cond (t 31) (r [m 32 11, ar 33 .add (t 32) (n 1), m 9 33]) (r [m 34 11, m 10 34])))))), d [(m 35 9, 0),
  (m 36 9, 0), (m 37 8, 0), (ar 38 .lss (t 36) (t 37), 6), (m 39 38, 14), (og 40 (.mov (t 2)) 39 true, 30), (og 41 (.mov (t 0)) 39 true, 30), (og 42 (.mov (t 9)) 39 true,
  30), (og 43 (.idxA 3 (t 41) (t 42)) 39 true, 222), (og 44 (.ldn 3 (t 43)) 39 true, 478), (og 45 (.ldn 3 (t 4)) 39 true, 30), (og 46 (.call (t 40) [t 44,
  t 45]) 39 true, 2046), (og 47 (.arith .eql (t 46) (n 0)) 39 true, 4094), (o 48 (.pick (t 39) (t 47) ff), 8190), (m 6 35, 4095), (m 7 48, 32767)]] (.ret)⟩
theorem A287_ok : XOk Tryz.prog ITS 287 A287 := ⟨Tryz.f287, Tryz.func287, by kernel_rfl, by decide, by kernel_rfl, its_nil (by kernel_rfl)⟩

/- widgetry/font.Ligature -/
def A289 : AFn := ⟨31, [.cell 6 (some 4), .tmp 7], q [r [o 3 (.box (t 0)), o 6 (.new [.int .i32 0, .int .i32 0, .int .i64 0, .int .i64 0]), mv 7 ff], q [r [ln 10 8 3, c 11 40 [t 10], ar 12 .neq (t 11) (n 0)]] (.cond (t 12) (q [r [o 13 (.build [.int .i32 0,
  .int .i32 0, .int .i64 0, .int .i64 0] []), s 4 6 13, mv 7 ff]] (.ret)) (sk)), r [fa 15 7 3, l 16 15, m 17 1, m 18 2, o 19 (.build [.int .i32 0, .int .i32 0,
  .int .i64 0, .int .i64 0] [(0, 1, .tmp 17), (1, 1, .tmp 18)]), c 20 296 [t 16, t 19, fn 297], m 14 20, ex 21 14 0, ex 22 14 1, m 8 21, m 9 22], q [r [m 23 9,
  o 24 (.un .not (t 23))]] (.cond (t 24) (q [r [o 25 (.build [.int .i32 0, .int .i32 0, .int .i64 0, .int .i64 0] []), s 4 6 25, mv 7 ff]] (.ret)) (sk)),
  r [fa 26 7 3, l 27 26, m 28 8, ia 29 4 27 (t 28), ln 30 4 29, s 4 6 30, mv 7 tt]] (.ret)⟩
theorem A289_ok : XOk Tryz.prog ITS 289 A289 := ⟨Tryz.f289, Tryz.func289, by kernel_rfl, by decide, by kernel_rfl, its_nil (by kernel_rfl)⟩

/- widgetry/expr.check -/
def A291 : AFn := ⟨121, [.cell 6 (some 2), .tmp 7], q [r [o 3 (.box (t 0)), o 6 (.new [.int .i64 0, .nilsl]), mv 7 (n 0)], q [r [fa 15 0 3, l 16 15, ar 17 .eql (t 16) (n 4), m 18 17, og 19 (.mov (t 1)) 18 true,
  og 20 (.arith .geq (t 19) (n 16)) 18 true, o 21 (.pick (t 18) (t 20) ff)]] (.cond (t 21) (q [r [o 22 (.build [.int .i64 0, .nilsl] []), s 2 6 22, mv 7 (n 8)]] (.ret)) (sk)),
  r [m 23 2, o 24 (.nilchk (t 23)), l 25 24, ar 26 .add (t 25) (n 1), o 27 (.nilchk (t 23)), s 1 27 26], .block 0 (q [r [ln 29 4 3, c 30 298 [t 29], o 31 (.un .not (t 30)),
  m 28 31]] (.cond (t 28) (q [r [o 32 (.build [.int .i64 0, .nilsl] []), s 2 6 32, mv 7 (n 9)]] (.ret)) (q [q [r [fa 34 0 3, l 35 34, ar 36 .eql (t 35) (n 1),
  m 37 36, og 38 (.fldA 1 (t 3)) 37 true, og 39 (.ld1 (t 38)) 37 true, og 40 (.call (fn 299) [t 39]) 37 true, og 41 (.un .not (t 40)) 37 true, o 42 (.pick (t 37) (t 41) ff),
  m 33 42]] (.cond (t 33) (sk) (r [fa 43 0 3, l 44 43, ar 45 .eql (t 44) (n 2), m 46 45, og 47 (.fldA 1 (t 3)) 46 true, og 48 (.ld1 (t 47)) 46 true, og 49 (.arith .neq (t 48) (n 0)) 46 true,
  o 50 (.pick (t 46) (t 49) ff), m 51 50, og 52 (.fldA 1 (t 3)) 51 true, og 53 (.ld1 (t 52)) 51 true, og 54 (.arith .neq (t 53) (n 1)) 51 true, o 55 (.pick (t 51) (t 54) ff),
  m 33 55]))] (.cond (t 33) (q [r [o 56 (.build [.int .i64 0, .nilsl] []), s 2 6 56, mv 7 (n 1)]] (.ret)) (q [r [fa 58 2 3, l 59 58, o 60 (.lenS (t 59)),
  ar 61 .gtr (t 60) (n 2000), m 62 61, og 63 (.fldA 3 (t 3)) 62 false, og 64 (.ld1 (t 63)) 62 false, og 65 (.len (t 64)) 62 false, og 66 (.arith .gtr (t 65) (n 100)) 62 false,
  o 67 (.pick (t 62) tt (t 66)), m 68 67, og 69 (.mov (t 2)) 68 false, og 70 (.nilchk (t 69)) 68 false, og 71 (.ld1 (t 70)) 68 false, og 72 (.arith .gtr (t 71) (n 1000)) 68 false,
  o 73 (.pick (t 68) tt (t 72)), m 57 73]] (.cond (t 57) (q [r [o 74 (.build [.int .i64 0, .nilsl] []), s 2 6 74, mv 7 (n 2)]] (.ret)) (q [r [fa 76 2 3,
  l 77 76, c 78 300 [t 77], o 79 (.un .not (t 78)), m 75 79]] (.cond (t 75) (q [r [o 80 (.build [.int .i64 0, .nilsl] []), s 2 6 80, mv 7 (n 3)]] (.ret)) (q [r [fa 82 0 3,
  l 83 82, ar 84 .neq (t 83) (n 4), m 81 84]] (.cond (t 81) (q [r [fa 85 0 3, l 86 85, o 87 (.build [.int .i64 0, .nilsl] [(0, 1, .tmp 86)]), s 2 6 87, mv 7 (n 0)]] (.ret)) (sk))))))))))),
  r [mv 8 (.const (.nilsl))], q [r [fa 88 3 3, l 89 88, le 90 89, mv 91 (n 0)]] (.block 1 (.loop (q [r [ar 92 .lss (t 91) (t 90)], .cond (t 92) (sk) (.exit 1),
  .block 2 (q [r [ia 93 4 89 (t 91), ln 94 4 93, o 10 (.new [.int .i64 0, .int .i64 0, .str [], .nilsl]), s 4 10 94], r [ln 96 4 10, m 97 1, ar 98 .add (t 97) (n 1),
  m 99 2, c 100 291 [t 96, t 98, t 99], m 95 100, ex 101 95 0, ex 102 95 1, o 11 (.new [.int .i64 0, .nilsl]), s 2 11 101, m 12 102], q [r [m 103 12, ar 104 .neq (t 103) (n 0)]] (.cond (t 104) (q [r [o 105 (.build [.int .i64 0,
  .nilsl] []), m 106 12, s 2 6 105, m 7 106]] (.ret)) (sk))] (r [m 107 8, ln 108 2 11, o 109 (.buildSl 2 1 [.int .i64 0, .nilsl] [(0, 2, .tmp 108)]), o 110 (.app 2 32 (t 107) (t 109)),
  m 8 110]))] (r [ar 111 .add (t 91) (n 1), m 91 111])))), r [m 113 8, c 114 301 [t 113], m 112 114, ex 115 112 0, ex 116 112 1, o 13 (.new [.int .i64 0,
  .nilsl]), s 2 13 115, m 14 116], q [r [m 117 14, o 118 (.un .not (t 117))]] (.cond (t 118) (q [r [o 119 (.build [.int .i64 0, .nilsl] []), s 2 6 119, mv 7 (n 5)]] (.ret)) (sk)),
  r [ln 120 2 13, s 2 6 120, mv 7 (n 0)]] (.ret)⟩
theorem A291_ok : XOk Tryz.prog ITS 291 A291 := ⟨Tryz.f291, Tryz.func291, by kernel_rfl, by decide, by kernel_rfl, its_nil (by kernel_rfl)⟩

/- widgetry/expr.copyType -/
def A292 : AFn := ⟨16, [.cell 2 (some 2)], q [r [o 1 (.box (t 0)), o 2 (.new [.int .i64 0, .nilsl])], q [r [fa 3 1 1, l 4 3, le 5 4, ar 6 .eql (t 5) (n 0)]] (.cond (t 6) (q [r [fa 7 0 1, l 8 7,
  o 9 (.build [.int .i64 0, .nilsl] [(0, 1, .tmp 8)]), s 2 2 9]] (.ret)) (sk)), r [fa 10 1 1, l 11 10, ia 12 2 11 (n 0), ln 13 2 12, c 14 292 [t 13], c 15 302 [t 14],
  s 2 2 15]] (.ret)⟩
theorem A292_ok : XOk Tryz.prog ITS 292 A292 := ⟨Tryz.f292, Tryz.func292, by kernel_rfl, by decide, by kernel_rfl, its_nil (by kernel_rfl)⟩

/- cmp.Less[int] -/
def A293 : AFn := ⟨17, [.tmp 4], q [r [mv 4 ff], r [m 5 0, c 6 303 [t 5], m 7 6, og 8 (.mov (t 1)) 7 true, og 9 (.call (fn 303) [t 8]) 7 true, og 10 (.un .not (t 9)) 7 true, o 11 (.pick (t 7) (t 10) ff),
  m 12 11, og 13 (.mov (t 0)) 12 false, og 14 (.mov (t 1)) 12 false, og 15 (.arith .lss (t 13) (t 14)) 12 false, o 16 (.pick (t 12) tt (t 15)), m 4 16]] (.ret)⟩
theorem A293_ok : XOk Tryz.prog ITS 293 A293 := ⟨Tryz.f293, Tryz.func293, by kernel_rfl, by decide, by kernel_rfl, its_nil (by kernel_rfl)⟩

/- slices.pdqsortCmpFunc[[2]int] -/
def A295 : AFn := ⟨148, [], q [r [mv 10 tt], r [mv 11 tt]] (.block 0 (.loop (.block 1 (q [r [m 21 2, m 22 1, ar 23 .sub (t 21) (t 22), m 12 23], q [r [m 24 12, ar 25 .leq (t 24) (n 12)]] (.cond (t 25) (q [r [m 26 0,
  m 27 1, m 28 2, m 29 4, c 30 304 [t 26, t 27, t 28, t 29]]] (.ret)) (sk)), q [r [m 31 3, ar 32 .eql (t 31) (n 0)]] (.cond (t 32) (q [r [m 33 0, m 34 1,
  m 35 2, m 36 4, c 37 305 [t 33, t 34, t 35, t 36]]] (.ret)) (sk)), q [r [m 38 10, o 39 (.un .not (t 38))]] (.cond (t 39) (q [r [m 40 0, m 41 1, m 42 2,
  m 43 4, c 44 306 [t 40, t 41, t 42, t 43]]] (r [m 45 3, ar 46 .sub (t 45) (n 1), m 3 46])) (sk)), r [m 48 0, m 49 1, m 50 2, m 51 4, c 52 307 [t 48, t 49,
  t 50, t 51], m 47 52, ex 53 47 0, ex 54 47 1, m 13 53, m 14 54], q [r [m 55 14, ar 56 .eql (t 55) (n 2)]] (.cond (t 56) (q [r [m 57 0, m 58 1, m 59 2,
  m 60 4, c 61 308 [t 57, t 58, t 59, t 60]], r [m 62 2, ar 63 .sub (t 62) (n 1), m 64 13, m 65 1, ar 66 .sub (t 64) (t 65), ar 67 .sub (t 63) (t 66), m 13 67]] (r [mv 14 (n 1)])) (sk)),
  q [r [m 68 10, m 69 68, og 70 (.mov (t 11)) 69 true, o 71 (.pick (t 69) (t 70) ff), m 72 71, og 73 (.mov (t 14)) 72 true, og 74 (.arith .eql (t 73) (n 1)) 72 true,
  o 75 (.pick (t 72) (t 74) ff)]] (.cond (t 75) (q [r [m 76 0, m 77 1, m 78 2, m 79 4, c 80 309 [t 76, t 77, t 78, t 79]]] (.cond (t 80) (.ret) (sk))) (sk)),
  q [d [(m 81 1, 0), (ar 82 .gtr (t 81) (n 0), 1), (m 83 82, 3), (og 84 (.mov (t 4)) 83 true, 7), (og 85 (.mov (t 0)) 83 true, 7), (og 86 (.mov (t 1)) 83 true,
  7), (og 87 (.arith .sub (t 86) (n 1)) 83 true, 39), (og 88 (.idxA 2 (t 85) (t 87)) 83 true, 119), (og 89 (.ldn 2 (t 88)) 83 true, 247), (og 90 (.mov (t 0)) 83 true,
  7), (og 91 (.mov (t 13)) 83 true, 7), (og 92 (.idxA 2 (t 90) (t 91)) 83 true, 1543), (og 93 (.ldn 2 (t 92)) 83 true, 3591), (og 94 (.call (t 84) [t 89,
  t 93]) 83 true, 8191), (og 95 (.arith .lss (t 94) (n 0)) 83 true, 16383), (og 96 (.un .not (t 95)) 83 true, 32767), (o 97 (.pick (t 83) (t 96) ff), 65535)]] (.cond (t 97) (q [r [m 98 0,
  m 99 1, m 100 2, m 101 13, m 102 4, c 103 310 [t 98, t 99, t 100, t 101, t 102], m 15 103], r [m 104 15, m 1 104]] (.exit 1)) (sk)), r [m 106 0, m 107 1,
  m 108 2, m 109 13, m 110 4, c 111 311 [t 106, t 107, t 108, t 109, t 110], m 105 111, ex 112 105 0, ex 113 105 1, m 16 112, m 17 113], r [m 114 17, m 11 114],
  r [m 115 16, m 116 1, ar 117 .sub (t 115) (t 116), m 118 2, m 119 16, ar 120 .sub (t 118) (t 119), m 18 117, m 19 120], r [m 121 12, ar 122 .quo (t 121) (n 8),
  m 20 122], r [m 123 18, m 124 19, ar 125 .lss (t 123) (t 124)]] (.cond (t 125) (q [r [m 126 18, m 127 20, ar 128 .geq (t 126) (t 127), m 10 128], r [m 129 0,
  m 130 1, m 131 16, m 132 3, m 133 4, c 134 295 [t 129, t 130, t 131, t 132, t 133]]] (r [m 135 16, ar 136 .add (t 135) (n 1), m 1 136])) (q [r [m 137 19,
  m 138 20, ar 139 .geq (t 137) (t 138), m 10 139], r [m 140 0, m 141 16, ar 142 .add (t 141) (n 1), m 143 2, m 144 3, m 145 4, c 146 295 [t 140, t 142,
  t 143, t 144, t 145]]] (r [m 147 16, m 2 147])))))))⟩
theorem A295_ok : XOk Tryz.prog ITS 295 A295 := ⟨Tryz.f295, Tryz.func295, by kernel_rfl, by decide, by kernel_rfl, its_nil (by kernel_rfl)⟩

/- slices.BinarySearchFunc[[]widgetry/api.Ligature,widgetry/api.Ligature,widgetry/api.Ligature] -/
def A296 : AFn := ⟨49, [.tmp 6, .tmp 7], q [r [o 4 (.box (t 1)), mv 6 (n 0), mv 7 ff], r [m 12 0, le 13 12, m 8 13], r [m 14 8, mv 9 (n 0), m 10 14], .block 0 (.loop (q [q [r [m 15 9, m 16 10,
  ar 17 .lss (t 15) (t 16)]] (.cond (t 17) (sk) (.exit 0))] (.block 1 (q [r [m 18 9, m 19 10, ar 20 .add (t 18) (t 19), o 21 (.convI .u64 (t 20)), ar 22 .shr (t 21) (.const (.int .u64 1)),
  o 23 (.convI .i64 (t 22)), m 11 23], d [(m 24 2, 0), (m 25 0, 0), (m 26 11, 0), (ia 27 4 25 (t 26), 6), (ln 28 4 27, 14), (ln 29 4 4, 0), (o 30 (.call (t 24) [t 28,
  t 29]), 63), (ar 31 .lss (t 30) (n 0), 127)]] (.cond (t 31) (r [m 32 11, ar 33 .add (t 32) (n 1), m 9 33]) (r [m 34 11, m 10 34])))))), d [(m 35 9, 0),
  (m 36 9, 0), (m 37 8, 0), (ar 38 .lss (t 36) (t 37), 6), (m 39 38, 14), (og 40 (.mov (t 2)) 39 true, 30), (og 41 (.mov (t 0)) 39 true, 30), (og 42 (.mov (t 9)) 39 true,
  30), (og 43 (.idxA 4 (t 41) (t 42)) 39 true, 222), (og 44 (.ldn 4 (t 43)) 39 true, 478), (og 45 (.ldn 4 (t 4)) 39 true, 30), (og 46 (.call (t 40) [t 44,
  t 45]) 39 true, 2046), (og 47 (.arith .eql (t 46) (n 0)) 39 true, 4094), (o 48 (.pick (t 39) (t 47) ff), 8190), (m 6 35, 4095), (m 7 48, 32767)]] (.ret)⟩
theorem A296_ok : XOk Tryz.prog ITS 296 A296 := ⟨Tryz.f296, Tryz.func296, by kernel_rfl, by decide, by kernel_rfl, its_nil (by kernel_rfl)⟩

/- widgetry/expr.fields -/
def A298 : AFn := ⟨38, [.tmp 2], q [r [o 1 (.box (t 0)), mv 2 ff], q [r [fa 3 0 1, l 4 3]] (.block 0 (q [q [r [ar 6 .eql (t 4) (n 1), m 5 6]] (.cond (t 5) (sk) (r [ar 7 .eql (t 4) (n 2),
  m 5 7]))] (.cond (t 5) (q [r [fa 8 2 1, l 9 8, ar 10 .eql (t 9) (.const (.str [])), m 11 10, og 12 (.fldA 3 (t 1)) 11 true, og 13 (.ld1 (t 12)) 11 true,
  og 14 (.len (t 13)) 11 true, og 15 (.arith .eql (t 14) (n 0)) 11 true, o 16 (.pick (t 11) (t 15) ff), m 2 16]] (.ret)) (q [r [ar 18 .eql (t 4) (n 3), m 17 18]] (.cond (t 17) (q [r [fa 19 1 1,
  l 20 19, ar 21 .eql (t 20) (n 0), m 22 21, og 23 (.fldA 3 (t 1)) 22 true, og 24 (.ld1 (t 23)) 22 true, og 25 (.len (t 24)) 22 true, og 26 (.arith .eql (t 25) (n 0)) 22 true,
  o 27 (.pick (t 22) (t 26) ff), m 2 27]] (.ret)) (q [r [ar 29 .eql (t 4) (n 4), m 28 29]] (.cond (t 28) (q [r [fa 30 1 1, l 31 30, ar 32 .eql (t 31) (n 0),
  m 33 32, og 34 (.fldA 2 (t 1)) 33 true, og 35 (.ld1 (t 34)) 33 true, og 36 (.arith .eql (t 35) (.const (.str []))) 33 true, o 37 (.pick (t 33) (t 36) ff),
  m 2 37]] (.ret)) (sk)))))))), r [mv 2 ff]] (.ret)⟩
theorem A298_ok : XOk Tryz.prog ITS 298 A298 := ⟨Tryz.f298, Tryz.func298, by kernel_rfl, by decide, by kernel_rfl, its_nil (by kernel_rfl)⟩

/- unicode/utf8.ValidString -/
def A300 : AFn := ⟨169, [.tmp 2], q [r [mv 2 ff], .block 0 (.loop (q [q [r [m 7 0, o 8 (.lenS (t 7)), ar 9 .gtr (t 8) (n 0)]] (.cond (t 9) (sk) (.exit 0))] (.block 1 (q [r [m 10 0, o 11 (.idxS (t 10) (n 0)),
  m 3 11], q [r [m 12 3, ar 13 .lss (t 12) (.const (.int .u8 128))]] (.cond (t 13) (q [r [m 14 0, o 15 (.slS (t 14) (some (.const (.int .i64 1))) none),
  m 0 15], q [r [m 16 0, o 17 (.lenS (t 16)), ar 18 .gtr (t 17) (n 8), m 19 18, og 20 (.mov (t 0)) 19 true, og 21 (.call (fn 312) [t 20]) 19 true, og 22 (.arith .and (t 21) (.const (.int .u64 9259542123273814144))) 19 true,
  og 23 (.arith .eql (t 22) (.const (.int .u64 0))) 19 true, o 24 (.pick (t 19) (t 23) ff)]] (.cond (t 24) (q [r [m 25 0, o 26 (.slS (t 25) (some (.const (.int .i64 8))) none),
  m 0 26], d [(m 27 0, 0), (o 28 (.lenS (t 27)), 1), (ar 29 .gtr (t 28) (n 16), 3), (m 30 29, 7), (og 31 (.mov (t 0)) 30 true, 15), (og 32 (.call (fn 312) [t 31]) 30 true,
  31), (og 33 (.mov (t 0)) 30 true, 15), (og 34 (.slS (t 33) (some (.const (.int .i64 8))) none) 30 true, 79), (og 35 (.call (fn 312) [t 34]) 30 true, 255),
  (og 36 (.arith .or (t 32) (t 35)) 30 true, 511), (og 37 (.arith .and (t 36) (.const (.int .u64 9259542123273814144))) 30 true, 1023), (og 38 (.arith .eql (t 37) (.const (.int .u64 0))) 30 true,
  2047), (o 39 (.pick (t 30) (t 38) ff), 4095)]] (.cond (t 39) (q [r [m 40 0, o 41 (.slS (t 40) (some (.const (.int .i64 16))) none), m 0 41]] (.block 2 (.loop (q [q [d [(m 42 0,
  0), (o 43 (.lenS (t 42)), 1), (ar 44 .gtr (t 43) (n 32), 3), (m 45 44, 7), (og 46 (.mov (t 0)) 45 true, 15), (og 47 (.call (fn 312) [t 46]) 45 true, 31),
  (og 48 (.mov (t 0)) 45 true, 15), (og 49 (.slS (t 48) (some (.const (.int .i64 8))) none) 45 true, 79), (og 50 (.call (fn 312) [t 49]) 45 true, 255), (og 51 (.arith .or (t 47) (t 50)) 45 true,
  511), (og 52 (.mov (t 0)) 45 true, 15), (og 53 (.slS (t 52) (some (.const (.int .i64 16))) none) 45 true, 1039), (og 54 (.call (fn 312) [t 53]) 45 true,
  3583), (og 55 (.mov (t 0)) 45 true, 15), (og 56 (.slS (t 55) (some (.const (.int .i64 24))) none) 45 true, 8207), (og 57 (.call (fn 312) [t 56]) 45 true,
  32255), (og 58 (.arith .or (t 54) (t 57)) 45 true, 65023), (og 59 (.arith .or (t 51) (t 58)) 45 true, 131071), (og 60 (.arith .and (t 59) (.const (.int .u64 9259542123273814144))) 45 true,
  262143), (og 61 (.arith .eql (t 60) (.const (.int .u64 0))) 45 true, 524287), (o 62 (.pick (t 45) (t 61) ff), 1048575)]] (.cond (t 62) (sk) (.exit 2))] (.block 3 (r [m 63 0,
  o 64 (.slS (t 63) (some (.const (.int .i64 32))) none), m 0 64])))))) (sk))) (sk))] (.exit 1)) (sk)), r [m 65 3, o 66 (.idxArrA 256 1 (.const (.gptr 1 0)) (t 65)),
  l 67 66, m 4 67], r [m 68 4, ar 69 .and (t 68) (.const (.int .u8 7)), o 70 (.convI .i64 (t 69)), m 5 70], r [m 71 4, ar 72 .shr (t 71) (.const (.int .u64 4)),
  o 73 (.idxArrA 16 2 (.const (.gptr 2 0)) (t 72)), ln 74 2 73, o 6 (.new [.int .u8 0, .int .u8 0]), s 2 6 74], r [m 75 5]] (.block 4 (q [r [ar 77 .eql (t 75) (n 2),
  m 76 77]] (.cond (t 76) (q [q [d [(m 78 0, 0), (o 79 (.lenS (t 78)), 1), (ar 80 .lss (t 79) (n 2), 3), (m 81 80, 7), (og 82 (.mov (t 0)) 81 false, 15),
  (og 83 (.idxS (t 82) (n 1)) 81 false, 31), (og 84 (.fldA 0 (t 6)) 81 false, 15), (og 85 (.ld1 (t 84)) 81 false, 79), (og 86 (.arith .lss (t 83) (t 85)) 81 false,
  255), (o 87 (.pick (t 81) tt (t 86)), 511), (m 88 87, 1023), (og 89 (.fldA 1 (t 6)) 88 false, 2047), (og 90 (.ld1 (t 89)) 88 false, 4095), (og 91 (.mov (t 0)) 88 false,
  2047), (og 92 (.idxS (t 91) (n 1)) 88 false, 10239), (og 93 (.arith .lss (t 90) (t 92)) 88 false, 32767), (o 94 (.pick (t 88) tt (t 93)), 65535)]] (.cond (t 94) (q [r [mv 2 ff]] (.ret)) (sk))] (r [m 95 0,
  o 96 (.slS (t 95) (some (.const (.int .i64 2))) none), m 0 96])) (q [r [ar 98 .eql (t 75) (n 3), m 97 98]] (.cond (t 97) (q [q [d [(m 99 0, 0), (o 100 (.lenS (t 99)),
  1), (ar 101 .lss (t 100) (n 3), 3), (m 102 101, 7), (og 103 (.mov (t 0)) 102 false, 15), (og 104 (.idxS (t 103) (n 1)) 102 false, 31), (og 105 (.fldA 0 (t 6)) 102 false,
  15), (og 106 (.ld1 (t 105)) 102 false, 79), (og 107 (.arith .lss (t 104) (t 106)) 102 false, 255), (o 108 (.pick (t 102) tt (t 107)), 511), (m 109 108,
  1023), (og 110 (.fldA 1 (t 6)) 109 false, 2047), (og 111 (.ld1 (t 110)) 109 false, 4095), (og 112 (.mov (t 0)) 109 false, 2047), (og 113 (.idxS (t 112) (n 1)) 109 false,
  10239), (og 114 (.arith .lss (t 111) (t 113)) 109 false, 32767), (o 115 (.pick (t 109) tt (t 114)), 65535), (m 116 115, 131071), (og 117 (.mov (t 0)) 116 false,
  262143), (og 118 (.idxS (t 117) (n 2)) 116 false, 524287), (og 119 (.arith .lss (t 118) (.const (.int .u8 128))) 116 false, 1048575), (o 120 (.pick (t 116) tt (t 119)),
  2097151), (m 121 120, 4194303), (og 122 (.mov (t 0)) 121 false, 8388607), (og 123 (.idxS (t 122) (n 2)) 121 false, 16777215), (og 124 (.arith .lss (.const (.int .u8 191)) (t 123)) 121 false,
  33554431), (o 125 (.pick (t 121) tt (t 124)), 67108863)]] (.cond (t 125) (q [r [mv 2 ff]] (.ret)) (sk))] (r [m 126 0, o 127 (.slS (t 126) (some (.const (.int .i64 3))) none),
  m 0 127])) (q [r [ar 129 .eql (t 75) (n 4), m 128 129]] (.cond (t 128) (q [q [d [(m 130 0, 0), (o 131 (.lenS (t 130)), 1), (ar 132 .lss (t 131) (n 4),
  3), (m 133 132, 7), (og 134 (.mov (t 0)) 133 false, 15), (og 135 (.idxS (t 134) (n 1)) 133 false, 31), (og 136 (.fldA 0 (t 6)) 133 false, 15), (og 137 (.ld1 (t 136)) 133 false,
  79), (og 138 (.arith .lss (t 135) (t 137)) 133 false, 255), (o 139 (.pick (t 133) tt (t 138)), 511), (m 140 139, 1023), (og 141 (.fldA 1 (t 6)) 140 false,
  2047), (og 142 (.ld1 (t 141)) 140 false, 4095), (og 143 (.mov (t 0)) 140 false, 2047), (og 144 (.idxS (t 143) (n 1)) 140 false, 10239), (og 145 (.arith .lss (t 142) (t 144)) 140 false,
  32767), (o 146 (.pick (t 140) tt (t 145)), 65535), (m 147 146, 131071), (og 148 (.mov (t 0)) 147 false, 262143), (og 149 (.idxS (t 148) (n 2)) 147 false,
  524287), (og 150 (.arith .lss (t 149) (.const (.int .u8 128))) 147 false, 1048575), (o 151 (.pick (t 147) tt (t 150)), 2097151), (m 152 151, 4194303),
  (og 153 (.mov (t 0)) 152 false, 8388607), (og 154 (.idxS (t 153) (n 2)) 152 false, 16777215), (og 155 (.arith .lss (.const (.int .u8 191)) (t 154)) 152 false,
  33554431), (o 156 (.pick (t 152) tt (t 155)), 67108863), (m 157 156, 134217727), (og 158 (.mov (t 0)) 157 false, 268435455), (og 159 (.idxS (t 158) (n 3)) 157 false,
  536870911), (og 160 (.arith .lss (t 159) (.const (.int .u8 128))) 157 false, 1073741823), (o 161 (.pick (t 157) tt (t 160)), 2147483647), (m 162 161, 4294967295),
  (og 163 (.mov (t 0)) 162 false, 8589934591), (og 164 (.idxS (t 163) (n 3)) 162 false, 17179869183), (og 165 (.arith .lss (.const (.int .u8 191)) (t 164)) 162 false,
  34359738367), (o 166 (.pick (t 162) tt (t 165)), 68719476735)]] (.cond (t 166) (q [r [mv 2 ff]] (.ret)) (sk))] (r [m 167 0, o 168 (.slS (t 167) (some (.const (.int .i64 4))) none),
  m 0 168])) (q [r [mv 2 ff]] (.ret))))))))))))), r [mv 2 tt]] (.ret)⟩
theorem A300_ok : XOk Tryz.prog ITS 300 A300 := ⟨Tryz.f300, Tryz.func300, by kernel_rfl, by decide, by kernel_rfl, its_nil (by kernel_rfl)⟩

/- cmp.isNaN[int] -/
def A303 : AFn := ⟨6, [.tmp 2], q [r [mv 2 ff], r [m 3 0, m 4 0, ar 5 .neq (t 3) (t 4), m 2 5]] (.ret)⟩
theorem A303_ok : XOk Tryz.prog ITS 303 A303 := ⟨Tryz.f303, Tryz.func303, by kernel_rfl, by decide, by kernel_rfl, its_nil (by kernel_rfl)⟩

/- slices.insertionSortCmpFunc[[2]int] -/
def A304 : AFn := ⟨53, [], q [r [m 10 1, ar 11 .add (t 10) (n 1), m 8 11]] (.block 0 (.loop (q [q [r [m 12 8, m 13 2, ar 14 .lss (t 12) (t 13)]] (.cond (t 14) (sk) (.exit 0)), .block 1 (q [r [m 17 8,
  m 9 17]] (.block 2 (.loop (q [q [d [(m 18 9, 0), (m 19 1, 0), (ar 20 .gtr (t 18) (t 19), 3), (m 21 20, 7), (og 22 (.mov (t 3)) 21 true, 15), (og 23 (.mov (t 0)) 21 true,
  15), (og 24 (.mov (t 9)) 21 true, 15), (og 25 (.idxA 2 (t 23) (t 24)) 21 true, 111), (og 26 (.ldn 2 (t 25)) 21 true, 239), (og 27 (.mov (t 0)) 21 true,
  15), (og 28 (.mov (t 9)) 21 true, 15), (og 29 (.arith .sub (t 28) (n 1)) 21 true, 1039), (og 30 (.idxA 2 (t 27) (t 29)) 21 true, 3599), (og 31 (.ldn 2 (t 30)) 21 true,
  7695), (og 32 (.call (t 22) [t 26, t 31]) 21 true, 16383), (og 33 (.arith .lss (t 32) (n 0)) 21 true, 32767), (o 34 (.pick (t 21) (t 33) ff), 65535)]] (.cond (t 34) (sk) (.exit 2)),
  .block 3 (d [(m 37 0, 0), (m 38 9, 0), (m 39 0, 0), (m 40 9, 0), (ar 41 .sub (t 40) (n 1), 8), (m 42 0, 0), (m 43 9, 0), (ar 44 .sub (t 43) (n 1), 64),
  (ia 45 2 42 (t 44), 224), (ln 46 2 45, 480), (m 47 0, 0), (m 48 9, 0), (ia 49 2 47 (t 48), 3072), (ln 50 2 49, 7168), (ia 51 2 37 (t 38), 16355), (s 2 51 46,
  32739), (ia 52 2 39 (t 41), 65535), (s 2 52 50, 131071)])] (r [m 35 9, ar 36 .sub (t 35) (n 1), m 9 36])))))] (r [m 15 8, ar 16 .add (t 15) (n 1), m 8 16]))))⟩
theorem A304_ok : XOk Tryz.prog ITS 304 A304 := ⟨Tryz.f304, Tryz.func304, by kernel_rfl, by decide, by kernel_rfl, its_nil (by kernel_rfl)⟩
def xtr3 : XT := .node 258 (.node 236 (.node 226 (.node 220 (.node 217 (.one 215 A215) (.node 218 (.one 217 A217) (.one 218 A218))) (.node 223 (.node 221 (.one 220 A220) (.one 221 A221)) (.node 224 (.one 223 A223) (.one 224 A224)))) (.node 232 (.node 227 (.one 226 A226) (.node 230 (.one 227 A227) (.one 230 A230))) (.node 234 (.node 233 (.one 232 A232) (.one 233 A233)) (.node 235 (.one 234 A234) (.one 235 A235))))) (.node 245 (.node 239 (.node 237 (.one 236 A236) (.node 238 (.one 237 A237) (.one 238 A238))) (.node 241 (.node 240 (.one 239 A239) (.one 240 A240)) (.node 243 (.one 241 A241) (.one 243 A243)))) (.node 249 (.node 246 (.one 245 A245) (.node 248 (.one 246 A246) (.one 248 A248))) (.node 256 (.node 250 (.one 249 A249) (.one 250 A250)) (.node 257 (.one 256 A256) (.one 257 A257)))))) (.node 282 (.node 269 (.node 264 (.node 259 (.one 258 A258) (.node 260 (.one 259 A259) (.one 260 A260))) (.node 267 (.node 265 (.one 264 A264) (.one 265 A265)) (.node 268 (.one 267 A267) (.one 268 A268)))) (.node 272 (.node 270 (.one 269 A269) (.node 271 (.one 270 A270) (.one 271 A271))) (.node 274 (.node 273 (.one 272 A272) (.one 273 A273)) (.node 278 (.one 274 A274) (.one 278 A278))))) (.node 293 (.node 287 (.node 283 (.one 282 A282) (.node 285 (.one 283 A283) (.one 285 A285))) (.node 291 (.node 289 (.one 287 A287) (.one 289 A289)) (.node 292 (.one 291 A291) (.one 292 A292)))) (.node 298 (.node 295 (.one 293 A293) (.node 296 (.one 295 A295) (.one 296 A296))) (.node 303 (.node 300 (.one 298 A298) (.one 300 A300)) (.node 304 (.one 303 A303) (.one 304 A304))))))
theorem xtr3_ok : xtr3.Ok Tryz.prog ITS := ⟨⟨⟨⟨⟨A215_ok, ⟨A217_ok, A218_ok⟩⟩, ⟨⟨A220_ok, A221_ok⟩, ⟨A223_ok, A224_ok⟩⟩⟩, ⟨⟨A226_ok, ⟨A227_ok, A230_ok⟩⟩, ⟨⟨A232_ok, A233_ok⟩, ⟨A234_ok, A235_ok⟩⟩⟩⟩, ⟨⟨⟨A236_ok, ⟨A237_ok, A238_ok⟩⟩, ⟨⟨A239_ok, A240_ok⟩, ⟨A241_ok, A243_ok⟩⟩⟩, ⟨⟨A245_ok, ⟨A246_ok, A248_ok⟩⟩, ⟨⟨A249_ok, A250_ok⟩, ⟨A256_ok, A257_ok⟩⟩⟩⟩⟩, ⟨⟨⟨⟨A258_ok, ⟨A259_ok, A260_ok⟩⟩, ⟨⟨A264_ok, A265_ok⟩, ⟨A267_ok, A268_ok⟩⟩⟩, ⟨⟨A269_ok, ⟨A270_ok, A271_ok⟩⟩, ⟨⟨A272_ok, A273_ok⟩, ⟨A274_ok, A278_ok⟩⟩⟩⟩, ⟨⟨⟨A282_ok, ⟨A283_ok, A285_ok⟩⟩, ⟨⟨A287_ok, A289_ok⟩, ⟨A291_ok, A292_ok⟩⟩⟩, ⟨⟨A293_ok, ⟨A295_ok, A296_ok⟩⟩, ⟨⟨A298_ok, A300_ok⟩, ⟨A303_ok, A304_ok⟩⟩⟩⟩⟩⟩
end Go.Proofs.YtfpcmkpfdjnhnaaGreatDoor
end
