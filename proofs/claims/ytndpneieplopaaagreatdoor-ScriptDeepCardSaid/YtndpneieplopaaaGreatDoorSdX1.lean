/- Functions of the program as data, second quarter. -/
import Derived.Test.YtndpneieplopaaaGreatDoorEngDZ
import Derived.Test.YtndpneieplopaaaGreatDoorProg
import Derived.KernelRfl
set_option linter.unusedSimpArgs false
set_option linter.unusedVariables false
set_option linter.unnecessarySimpa false
noncomputable section
namespace Go.Proofs.YtndpneieplopaaaGreatDoor
open Go.Eng Go.Eng.DZ
set_option maxRecDepth 100000
/- (*widgetry/widgetryref45.reader).number -/
def A49 : AFn := ⟨7, [.tmp 2], q [r [mv 2 (n 0)], r [m 3 0, c 4 47 [t 3]], r [m 5 0, c 6 85 [t 5], m 2 6]] (.ret)⟩
theorem A49_ok : XOk Tryz.prog [] 49 A49 := ⟨Tryz.f49, Tryz.func49, by kernel_rfl, by decide, by kernel_rfl, its_nil (by kernel_rfl)⟩

/- widgetry/widgetryref32.Parse -/
def A50 : AFn := ⟨48, [.tmp 2, .tmp 3], q [r [mv 2 (.const (.nilsl)), mv 3 (n 0)], q [r [m 9 0, o 10 (.lenS (t 9)), ar 11 .gtr (t 10) (n 100)]] (.cond (t 11) (q [r [mv 2 (.const (.nilsl)), mv 3 (n 2)]] (.ret)) (sk)),
  r [mv 4 (.const (.nilsl))], r [mv 5 (n 0)], q [r [mv 6 (n 0)]] (.block 0 (.loop (q [q [r [m 12 6, m 13 0, o 14 (.lenS (t 13)), ar 15 .leq (t 12) (t 14)]] (.cond (t 15) (sk) (.exit 0)),
  .block 1 (q [q [r [m 18 6, m 19 0, o 20 (.lenS (t 19)), ar 21 .lss (t 18) (t 20), m 22 21, og 23 (.mov (t 0)) 22 true, og 24 (.mov (t 6)) 22 true, og 25 (.idxS (t 23) (t 24)) 22 true,
  og 26 (.arith .neq (t 25) (.const (.int .u8 32))) 22 true, o 27 (.pick (t 22) (t 26) ff)]] (.cond (t 27) (.exit 1) (sk)), r [m 29 0, m 30 5, m 31 6, o 32 (.slS (t 29) (some (.tmp 30)) (some (.tmp 31))),
  c 33 86 [t 32], m 28 33, ex 34 28 0, ex 35 28 1, o 7 (.new [.int .i64 0, .int .i64 0]), s 2 7 34, m 8 35], q [r [m 36 8, o 37 (.un .not (t 36))]] (.cond (t 37) (q [r [mv 2 (.const (.nilsl)),
  mv 3 (n 3)]] (.ret)) (sk)), r [m 38 4, ln 39 2 7, o 40 (.buildSl 2 1 [.int .i64 0, .int .i64 0] [(0, 2, .tmp 39)]), o 41 (.app 2 16 (t 38) (t 40)), m 4 41]] (r [m 42 6,
  ar 43 .add (t 42) (n 1), m 5 43]))] (r [m 16 6, ar 17 .add (t 16) (n 1), m 6 17])))), q [r [m 44 4, le 45 44, ar 46 .gtr (t 45) (n 3)]] (.cond (t 46) (q [r [mv 2 (.const (.nilsl)),
  mv 3 (n 2)]] (.ret)) (sk)), r [m 47 4, m 2 47, mv 3 (n 0)]] (.ret)⟩
theorem A50_ok : XOk Tryz.prog [] 50 A50 := ⟨Tryz.f50, Tryz.func50, by kernel_rfl, by decide, by kernel_rfl, its_nil (by kernel_rfl)⟩

/- (*widgetry/widgetryref45.reader).end -/
def A51 : AFn := ⟨13, [.tmp 2], q [r [mv 2 ff], d [(m 3 0, 0), (o 4 (.nilchk (t 3)), 1), (fa 5 1 4, 3), (l 6 5, 7), (m 7 0, 0), (o 8 (.nilchk (t 7)), 16), (fa 9 0 8, 48), (l 10 9, 112),
  (o 11 (.lenS (t 10)), 240), (ar 12 .geq (t 6) (t 11), 511), (m 2 12, 1023)]] (.ret)⟩
theorem A51_ok : XOk Tryz.prog [] 51 A51 := ⟨Tryz.f51, Tryz.func51, by kernel_rfl, by decide, by kernel_rfl, its_nil (by kernel_rfl)⟩

/- (*widgetry/widgetryref45.reader).value -/
def A52 : AFn := ⟨90, [.cell 4 (some 4)], q [r [o 4 (.new [.int .i64 0, .int .i64 0, .str [], .nilsl])], .block 0 (q [r [m 10 0, o 11 (.nilchk (t 10)), fa 12 2 11, l 13 12, m 9 13]] (.cond (t 9) (sk) (q [r [m 15 0,
  c 16 87 [t 15, .const (.str [116, 114, 117, 101])], m 14 16]] (.cond (t 14) (q [r [o 17 (.build [.int .i64 0, .int .i64 0, .str [], .nilsl] [(0, 1, .const (.int .i64 2)),
  (1, 1, .const (.int .i64 1))]), s 4 4 17]] (.ret)) (q [r [m 19 0, c 20 87 [t 19, .const (.str [102, 97, 108, 115, 101])], m 18 20]] (.cond (t 18) (q [r [o 21 (.build [.int .i64 0,
  .int .i64 0, .str [], .nilsl] [(0, 1, .const (.int .i64 2))]), s 4 4 21]] (.ret)) (q [d [(m 23 0, 0), (o 24 (.nilchk (t 23)), 1), (fa 25 1 24, 3), (l 26 25,
  7), (m 27 0, 0), (o 28 (.nilchk (t 27)), 16), (fa 29 0 28, 48), (l 30 29, 112), (o 31 (.lenS (t 30)), 240), (ar 32 .lss (t 26) (t 31), 511), (m 33 32,
  1023), (og 34 (.mov (t 0)) 33 true, 2047), (og 35 (.nilchk (t 34)) 33 true, 4095), (og 36 (.fldA 0 (t 35)) 33 true, 8191), (og 37 (.ld1 (t 36)) 33 true,
  16383), (og 38 (.mov (t 0)) 33 true, 2047), (og 39 (.nilchk (t 38)) 33 true, 34815), (og 40 (.fldA 1 (t 39)) 33 true, 100351), (og 41 (.ld1 (t 40)) 33 true,
  231423), (og 42 (.idxS (t 37) (t 41)) 33 true, 524287), (og 43 (.arith .eql (t 42) (.const (.int .u8 34))) 33 true, 1048575), (o 44 (.pick (t 33) (t 43) ff),
  2097151), (m 22 44, 4194303)]] (.cond (t 22) (q [r [m 45 0, c 46 88 [t 45], o 47 (.build [.int .i64 0, .int .i64 0, .str [], .nilsl] [(0, 1, .const (.int .i64 3)),
  (2, 1, .tmp 46)]), s 4 4 47]] (.ret)) (q [r [m 49 0, c 50 87 [t 49, .const (.str [91])], m 48 50]] (.cond (t 48) (q [r [m 51 0, m 52 0, o 53 (.nilchk (t 52)),
  fa 54 2 53, l 55 54, m 56 55, og 57 (.mov (t 1)) 56 false, og 58 (.arith .gtr (t 57) (n 16)) 56 false, o 59 (.pick (t 56) tt (t 58)), o 60 (.nilchk (t 51)),
  fa 61 2 60, s 1 61 59], r [o 62 (.build [.int .i64 0, .int .i64 0, .str [], .nilsl] [(0, 1, .const (.int .i64 4))]), o 5 (.new [.int .i64 0, .int .i64 0,
  .str [], .nilsl]), s 4 5 62], .block 1 (.loop (q [q [r [m 63 0, o 64 (.nilchk (t 63)), fa 65 2 64, l 66 65, o 67 (.un .not (t 66)), m 68 67, og 69 (.mov (t 0)) 68 true,
  og 70 (.call (fn 87) [t 69, .const (.str [93])]) 68 true, og 71 (.un .not (t 70)) 68 true, o 72 (.pick (t 68) (t 71) ff)]] (.cond (t 72) (sk) (.exit 1))] (.block 2 (q [q [r [fa 73 3 5,
  l 74 73, le 75 74, ar 76 .gtr (t 75) (n 0)]] (.cond (t 76) (r [m 77 0, c 78 47 [t 77]]) (sk))] (d [(fa 79 3 5, 0), (l 80 79, 1), (m 81 0, 0), (m 82 1,
  0), (ar 83 .add (t 82) (n 1), 8), (c 84 52 [t 81, t 83], 28), (o 85 (.buildSl 4 1 [.int .i64 0, .int .i64 0, .str [], .nilsl] [(0, 4, .tmp 84)]), 60),
  (o 86 (.app 4 56 (t 80) (t 85)), 127), (fa 87 3 5, 255), (s 1 87 86, 511)]))))), r [ln 88 4 5, s 4 4 88]] (.ret)) (q [r [m 6 0, c 7 85 [t 6], o 8 (.build [.int .i64 0,
  .int .i64 0, .str [], .nilsl] [(0, 1, .const (.int .i64 1)), (1, 1, .tmp 7)]), s 4 4 8]] (.ret)))))))))))), r [o 89 (.build [.int .i64 0, .int .i64 0,
  .str [], .nilsl] []), s 4 4 89]] (.ret)⟩
theorem A52_ok : XOk Tryz.prog [] 52 A52 := ⟨Tryz.f52, Tryz.func52, by kernel_rfl, by decide, by kernel_rfl, its_nil (by kernel_rfl)⟩

/- (*widgetry/widgetryref45.reader).text -/
def A53 : AFn := ⟨7, [.tmp 2], q [r [mv 2 (.const (.str []))], r [m 3 0, c 4 47 [t 3]], r [m 5 0, c 6 88 [t 5], m 2 6]] (.ret)⟩
theorem A53_ok : XOk Tryz.prog [] 53 A53 := ⟨Tryz.f53, Tryz.func53, by kernel_rfl, by decide, by kernel_rfl, its_nil (by kernel_rfl)⟩

/- (*widgetry/widgetryref45.reader).compose -/
def A54 : AFn := ⟨77, [], q [r [m 5 0, c 6 47 [t 5]], r [m 7 0, c 8 46 [t 7]]] (.block 0 (q [r [ar 13 .eql (t 8) (.const (.str [98, 101, 103, 105, 110])), m 12 13]] (.cond (t 12) (r [m 14 1,
  o 15 (.nilchk (t 14)), fa 16 0 15, sv 1 16 (n 14)]) (q [r [ar 18 .eql (t 8) (.const (.str [99, 97, 110, 99, 101, 108])), m 17 18]] (.cond (t 17) (r [m 19 1,
  o 20 (.nilchk (t 19)), fa 21 0 20, sv 1 21 (n 17)]) (q [r [ar 23 .eql (t 8) (.const (.str [99, 111, 109, 109, 105, 116])), m 22 23]] (.cond (t 22) (q [r [m 24 1,
  o 25 (.nilchk (t 24)), fa 26 0 25, sv 1 26 (n 16)]] (r [m 27 1, m 28 0, c 29 53 [t 28], o 30 (.xo .s2r [t 29]), o 31 (.nilchk (t 27)), fa 32 1 31, s 1 32 30])) (q [r [ar 34 .eql (t 8) (.const (.str [117,
  112, 100, 97, 116, 101])), m 33 34]] (.cond (t 33) (q [r [m 35 1, o 36 (.nilchk (t 35)), fa 37 0 36, sv 1 37 (n 15)], r [m 38 1, m 39 0, c 40 53 [t 39],
  o 41 (.xo .s2r [t 40]), o 42 (.nilchk (t 38)), fa 43 1 42, s 1 43 41], r [m 44 1, m 45 0, c 46 49 [t 45], o 47 (.nilchk (t 44)), fa 48 12 47, s 1 48 46]] (.block 1 (.loop (q [q [r [m 49 0,
  o 50 (.nilchk (t 49)), fa 51 2 50, l 52 51, o 53 (.un .not (t 52)), m 54 53, og 55 (.mov (t 0)) 54 true, og 56 (.call (fn 51) [t 55]) 54 true, og 57 (.un .not (t 56)) 54 true,
  o 58 (.pick (t 54) (t 57) ff)]] (.cond (t 58) (sk) (.exit 1))] (.block 2 (q [r [m 59 0, c 60 49 [t 59], m 4 60]] (r [m 61 1, m 62 1, o 63 (.nilchk (t 62)),
  fa 64 13 63, l 65 64, m 66 4, m 67 4, o 68 (.un .neg (t 67)), o 69 (.mnmx true (t 66) (t 68)), m 70 4, ar 71 .lss (t 70) (n 0), o 72 (.build [.int .i64 0,
  .bool false] [(0, 1, .tmp 69), (1, 1, .tmp 71)]), o 73 (.buildSl 2 1 [.int .i64 0, .bool false] [(0, 2, .tmp 72)]), o 74 (.app 2 16 (t 65) (t 73)), o 75 (.nilchk (t 61)),
  fa 76 13 75, s 1 76 74]))))))) (r [m 9 0, o 10 (.nilchk (t 9)), fa 11 2 10, sv 1 11 tt]))))))))))⟩
theorem A54_ok : XOk Tryz.prog [] 54 A54 := ⟨Tryz.f54, Tryz.func54, by kernel_rfl, by decide, by kernel_rfl, its_nil (by kernel_rfl)⟩

/- internal/stringslite.Cut -/
def A55 : AFn := ⟨23, [.tmp 4, .tmp 5, .tmp 6], q [r [mv 4 (.const (.str [])), mv 5 (.const (.str [])), mv 6 ff], q [r [m 8 0, m 9 1, c 10 89 [t 8, t 9], m 7 10], r [m 11 7, ar 12 .geq (t 11) (n 0)]] (.cond (t 12) (q [d [(m 13 0,
  0), (m 14 7, 0), (o 15 (.slS (t 13) none (some (.tmp 14))), 3), (m 16 0, 0), (m 17 7, 0), (m 18 1, 0), (o 19 (.lenS (t 18)), 32), (ar 20 .add (t 17) (t 19),
  112), (o 21 (.slS (t 16) (some (.tmp 20)) none), 248), (m 4 15, 7), (m 5 21, 1023), (mv 6 tt, 2047)]] (.ret)) (sk)), r [m 22 0, m 4 22, mv 5 (.const (.str [])),
  mv 6 ff]] (.ret)⟩
theorem A55_ok : XOk Tryz.prog [] 55 A55 := ⟨Tryz.f55, Tryz.func55, by kernel_rfl, by decide, by kernel_rfl, its_nil (by kernel_rfl)⟩

/- (*widgetry/script.scanner).choice -/
def A56 : AFn := ⟨22, [.tmp 4], q [r [mv 4 (n 0)], r [m 6 1, m 7 0, c 8 91 [t 7], c 9 90 [t 6, t 8], m 5 9], r [m 10 0, m 11 0, o 12 (.nilchk (t 11)), fa 13 3 12, l 14 13, m 15 14, og 16 (.mov (t 5)) 15 true,
  og 17 (.arith .geq (t 16) (n 0)) 15 true, o 18 (.pick (t 15) (t 17) ff), o 19 (.nilchk (t 10)), fa 20 3 19, s 1 20 18], r [m 21 5, m 4 21]] (.ret)⟩
theorem A56_ok : XOk Tryz.prog [] 56 A56 := ⟨Tryz.f56, Tryz.func56, by kernel_rfl, by decide, by kernel_rfl, its_nil (by kernel_rfl)⟩

/- widgetry/script.kinds -/
def A57 : AFn := ⟨2, [.tmp 0], q [r [mv 0 (.const (.nilsl))], r [o 1 (.buildSl 1 6 [.str [], .str [], .str [], .str [], .str [], .str []] [(0, 1, .const (.str [100, 111, 119, 110])),
  (1, 1, .const (.str [109, 111, 118, 101])), (2, 1, .const (.str [117, 112])), (3, 1, .const (.str [99, 97, 110, 99, 101, 108])), (4, 1, .const (.str [116,
  105, 99, 107])), (5, 1, .const (.str [119, 104, 101, 101, 108]))]), m 0 1]] (.ret)⟩
theorem A57_ok : XOk Tryz.prog [] 57 A57 := ⟨Tryz.f57, Tryz.func57, by kernel_rfl, by decide, by kernel_rfl, its_nil (by kernel_rfl)⟩

/- (*widgetry/script.scanner).number -/
def A58 : AFn := ⟨22, [.tmp 2], q [r [mv 2 (n 0)], r [m 6 0, c 7 91 [t 6], c 8 92 [t 7], m 5 8, ex 9 5 0, ex 10 5 1, m 3 9, m 4 10], r [m 11 0, m 12 0, o 13 (.nilchk (t 12)), fa 14 3 13,
  l 15 14, m 16 15, og 17 (.mov (t 4)) 16 true, o 18 (.pick (t 16) (t 17) ff), o 19 (.nilchk (t 11)), fa 20 3 19, s 1 20 18], r [m 21 3, m 2 21]] (.ret)⟩
theorem A58_ok : XOk Tryz.prog [] 58 A58 := ⟨Tryz.f58, Tryz.func58, by kernel_rfl, by decide, by kernel_rfl, its_nil (by kernel_rfl)⟩

/- (*widgetry/script.scanner).chord -/
def A59 : AFn := ⟨25, [.cell 2 (some 2)], q [r [o 2 (.new [.int .i64 0, .int .i64 0])], r [m 6 0, c 7 91 [t 6], c 8 93 [t 7], m 5 8, ex 9 5 0, ex 10 5 1, m 3 9, m 4 10], q [r [m 11 4, ar 12 .neq (t 11) (n 0),
  m 13 12, og 14 (.mov (t 3)) 13 false, og 15 (.len (t 14)) 13 false, og 16 (.arith .neq (t 15) (n 1)) 13 false, o 17 (.pick (t 13) tt (t 16))]] (.cond (t 17) (q [r [m 18 0,
  o 19 (.nilchk (t 18)), fa 20 3 19, sv 1 20 ff], r [o 21 (.build [.int .i64 0, .int .i64 0] []), s 2 2 21]] (.ret)) (sk)), r [m 22 3, ia 23 2 22 (n 0),
  ln 24 2 23, s 2 2 24]] (.ret)⟩
theorem A59_ok : XOk Tryz.prog [] 59 A59 := ⟨Tryz.f59, Tryz.func59, by kernel_rfl, by decide, by kernel_rfl, its_nil (by kernel_rfl)⟩

/- (*widgetry/script.scanner).args -/
def A60 : AFn := ⟨28, [.tmp 2], q [r [mv 2 (.const (.nilsl))], r [mv 3 (.const (.nilsl))], .block 0 (.loop (q [q [r [m 5 0, c 6 94 [t 5]]] (.cond (t 6) (sk) (.exit 0))] (.block 1 (q [r [m 7 0,
  c 8 95 [t 7]], r [m 9 0, c 10 96 [t 9, n 0], o 4 (.new [.int .i64 0, .int .i64 0, .str [], .nilsl]), s 4 4 10], r [m 11 0, m 12 0, o 13 (.nilchk (t 12)),
  fa 14 3 13, l 15 14, m 16 15, og 17 (.ldn 4 (t 4)) 16 true, og 18 (.call (fn 97) [t 17]) 16 true, og 19 (.arith .eql (t 18) (n 0)) 16 true, o 20 (.pick (t 16) (t 19) ff),
  o 21 (.nilchk (t 11)), fa 22 3 21, s 1 22 20]] (r [m 23 3, ln 24 4 4, o 25 (.buildSl 4 1 [.int .i64 0, .int .i64 0, .str [], .nilsl] [(0, 4, .tmp 24)]),
  o 26 (.app 4 56 (t 23) (t 25)), m 3 26]))))), r [m 27 3, m 2 27]] (.ret)⟩
theorem A60_ok : XOk Tryz.prog [] 60 A60 := ⟨Tryz.f60, Tryz.func60, by kernel_rfl, by decide, by kernel_rfl, its_nil (by kernel_rfl)⟩

/- widgetry/script.acts -/
def A61 : AFn := ⟨2, [.tmp 0], q [r [mv 0 (.const (.nilsl))], r [o 1 (.buildSl 1 9 [.str [], .str [], .str [], .str [], .str [], .str [], .str [], .str [], .str []] [(0, 1, .const (.str [112,
  114, 101, 115, 115])), (1, 1, .const (.str [102, 111, 99, 117, 115])), (2, 1, .const (.str [105, 110, 99, 114, 101, 97, 115, 101])), (3, 1, .const (.str [100,
  101, 99, 114, 101, 97, 115, 101])), (4, 1, .const (.str [115, 101, 116, 116, 101, 120, 116])), (5, 1, .const (.str [115, 101, 108, 101, 99, 116])), (6,
  1, .const (.str [115, 99, 114, 111, 108, 108, 117, 112])), (7, 1, .const (.str [115, 99, 114, 111, 108, 108, 100, 111, 119, 110])), (8, 1, .const (.str [100,
  105, 115, 109, 105, 115, 115]))]), m 0 1]] (.ret)⟩
theorem A61_ok : XOk Tryz.prog [] 61 A61 := ⟨Tryz.f61, Tryz.func61, by kernel_rfl, by decide, by kernel_rfl, its_nil (by kernel_rfl)⟩

/- (*widgetry/script.scanner).text -/
def A62 : AFn := ⟨7, [.tmp 2], q [r [mv 2 (.const (.str []))], r [m 3 0, c 4 95 [t 3]], r [m 5 0, c 6 98 [t 5], m 2 6]] (.ret)⟩
theorem A62_ok : XOk Tryz.prog [] 62 A62 := ⟨Tryz.f62, Tryz.func62, by kernel_rfl, by decide, by kernel_rfl, its_nil (by kernel_rfl)⟩

/- (*widgetry/script.scanner).compose -/
def A63 : AFn := ⟨44, [.cell 2 (some 15)], q [r [o 2 (.new [.int .i64 0, .nilsl, .nilsl, .nilsl, .int .i64 0, .int .i64 0, .bool false, .int .i64 0, .int .i64 0, .int .i64 0, .int .i64 0, .int .i64 0,
  .int .i64 0, .nilsl, .int .i64 0])], r [m 5 0, o 6 (.buildSl 1 4 [.str [], .str [], .str [], .str []] [(0, 1, .const (.str [98, 101, 103, 105, 110])),
  (1, 1, .const (.str [117, 112, 100, 97, 116, 101])), (2, 1, .const (.str [99, 111, 109, 109, 105, 116])), (3, 1, .const (.str [99, 97, 110, 99, 101, 108]))]),
  c 7 56 [t 5, t 6], ar 8 .add (n 14) (t 7), o 9 (.build [.int .i64 0, .nilsl, .nilsl, .nilsl, .int .i64 0, .int .i64 0, .bool false, .int .i64 0, .int .i64 0,
  .int .i64 0, .int .i64 0, .int .i64 0, .int .i64 0, .nilsl, .int .i64 0] [(0, 1, .tmp 8)]), o 3 (.new [.int .i64 0, .nilsl, .nilsl, .nilsl, .int .i64 0,
  .int .i64 0, .bool false, .int .i64 0, .int .i64 0, .int .i64 0, .int .i64 0, .int .i64 0, .int .i64 0, .nilsl, .int .i64 0]), s 15 3 9], q [r [fa 10 0 3,
  l 11 10]] (.block 0 (q [r [ar 13 .eql (t 11) (n 16), m 12 13]] (.cond (t 12) (r [m 14 0, c 15 62 [t 14], o 16 (.xo .s2r [t 15]), fa 17 1 3, s 1 17 16]) (q [r [ar 19 .eql (t 11) (n 15),
  m 18 19]] (.cond (t 18) (q [r [m 20 0, c 21 62 [t 20], o 22 (.xo .s2r [t 21]), fa 23 1 3, s 1 23 22], r [m 24 0, c 25 58 [t 24], fa 26 12 3, s 1 26 25]] (.block 1 (.loop (q [q [r [m 27 0,
  c 28 94 [t 27]]] (.cond (t 28) (sk) (.exit 1))] (.block 2 (q [r [m 29 0, c 30 58 [t 29], m 4 30]] (r [fa 31 13 3, l 32 31, m 33 4, m 34 4, o 35 (.un .neg (t 34)),
  o 36 (.mnmx true (t 33) (t 35)), m 37 4, ar 38 .lss (t 37) (n 0), o 39 (.build [.int .i64 0, .bool false] [(0, 1, .tmp 36), (1, 1, .tmp 38)]), o 40 (.buildSl 2 1 [.int .i64 0,
  .bool false] [(0, 2, .tmp 39)]), o 41 (.app 2 16 (t 32) (t 40)), fa 42 13 3, s 1 42 41]))))))) (sk)))))), r [ln 43 15 3, s 15 2 43]] (.ret)⟩
theorem A63_ok : XOk Tryz.prog [] 63 A63 := ⟨Tryz.f63, Tryz.func63, by kernel_rfl, by decide, by kernel_rfl, its_nil (by kernel_rfl)⟩

/- widgetry/script.pick -/
def A64 : AFn := ⟨17, [.tmp 4], q [r [mv 4 (.const (.str []))], q [r [m 5 1, ar 6 .lss (t 5) (n 0), m 7 6, og 8 (.mov (t 1)) 7 false, og 9 (.mov (t 0)) 7 false, og 10 (.len (t 9)) 7 false,
  og 11 (.arith .geq (t 8) (t 10)) 7 false, o 12 (.pick (t 7) tt (t 11))]] (.cond (t 12) (q [r [mv 4 (.const (.str []))]] (.ret)) (sk)), r [m 13 0, m 14 1,
  ia 15 1 13 (t 14), l 16 15, m 4 16]] (.ret)⟩
theorem A64_ok : XOk Tryz.prog [] 64 A64 := ⟨Tryz.f64, Tryz.func64, by kernel_rfl, by decide, by kernel_rfl, its_nil (by kernel_rfl)⟩

/- widgetry/script.numbers -/
def A65 : AFn := ⟨20, [.tmp 2], q [r [mv 2 (.const (.str []))], r [mv 3 (.const (.nilsl))], q [r [m 6 0, le 7 6, mv 8 (n 0)]] (.block 0 (.loop (q [r [ar 9 .lss (t 8) (t 7)], .cond (t 9) (sk) (.exit 0),
  .block 1 (q [r [ia 10 1 6 (t 8), l 11 10, m 5 11]] (r [m 12 3, m 13 5, c 14 99 [t 13], o 15 (.buildSl 1 1 [.str []] [(0, 1, .tmp 14)]), o 16 (.app 1 16 (t 12) (t 15)),
  m 3 16]))] (r [ar 17 .add (t 8) (n 1), m 8 17])))), r [m 18 3, c 19 69 [t 18, .const (.str [32])], m 2 19]] (.ret)⟩
theorem A65_ok : XOk Tryz.prog [] 65 A65 := ⟨Tryz.f65, Tryz.func65, by kernel_rfl, by decide, by kernel_rfl, its_nil (by kernel_rfl)⟩

/- widgetry/shortcut.Format -/
def A66 : AFn := ⟨30, [.tmp 2, .tmp 3], q [r [mv 2 (.const (.str [])), mv 3 (n 0)], q [r [m 7 0, le 8 7, ar 9 .gtr (t 8) (n 3)]] (.cond (t 9) (q [r [mv 2 (.const (.str [])), mv 3 (n 2)]] (.ret)) (sk)),
  q [r [m 10 0, le 11 10, ar 12 .eql (t 11) (n 0)]] (.cond (t 12) (q [r [mv 2 (.const (.str [])), mv 3 (n 1)]] (.ret)) (sk)), r [mv 4 (.const (.nilsl))],
  q [r [m 13 0, le 14 13, mv 15 (n 0)]] (.block 0 (.loop (q [r [ar 16 .lss (t 15) (t 14)], .cond (t 16) (sk) (.exit 0), .block 1 (q [r [ia 17 2 13 (t 15),
  ln 18 2 17, o 6 (.new [.int .i64 0, .int .i64 0]), s 2 6 18], q [r [ln 19 2 6, c 20 100 [t 19], o 21 (.un .not (t 20))]] (.cond (t 21) (q [r [mv 2 (.const (.str [])),
  mv 3 (n 1)]] (.ret)) (sk))] (r [m 22 4, ln 23 2 6, c 24 101 [t 23], o 25 (.buildSl 1 1 [.str []] [(0, 1, .tmp 24)]), o 26 (.app 1 16 (t 22) (t 25)), m 4 26]))] (r [ar 27 .add (t 15) (n 1),
  m 15 27])))), r [m 28 4, c 29 69 [t 28, .const (.str [32])], m 2 29, mv 3 (n 0)]] (.ret)⟩
theorem A66_ok : XOk Tryz.prog [] 66 A66 := ⟨Tryz.f66, Tryz.func66, by kernel_rfl, by decide, by kernel_rfl, its_nil (by kernel_rfl)⟩

/- widgetry/script.choose -/
def A67 : AFn := ⟨10, [.tmp 6], q [r [mv 6 (.const (.str []))], q [r [m 7 0]] (.cond (t 7) (q [r [m 8 2, m 6 8]] (.ret)) (sk)), r [m 9 1, m 6 9]] (.ret)⟩
theorem A67_ok : XOk Tryz.prog [] 67 A67 := ⟨Tryz.f67, Tryz.func67, by kernel_rfl, by decide, by kernel_rfl, its_nil (by kernel_rfl)⟩

/- widgetry/script.write -/
def A68 : AFn := ⟨43, [.tmp 2], q [r [o 1 (.box (t 0)), mv 2 (.const (.str []))], q [r [fa 6 0 1, l 7 6]] (.block 0 (q [r [ar 9 .eql (t 7) (n 1), m 8 9]] (.cond (t 8) (q [r [fa 10 1 1,
  l 11 10, c 12 99 [t 11], m 2 12]] (.ret)) (q [r [ar 14 .eql (t 7) (n 2), m 13 14]] (.cond (t 13) (q [r [fa 15 1 1, l 16 15, ar 17 .eql (t 16) (n 1), c 18 102 [t 17],
  m 2 18]] (.ret)) (q [r [ar 20 .eql (t 7) (n 3), m 19 20]] (.cond (t 19) (q [r [fa 21 2 1, l 22 21, c 23 70 [t 22], m 2 23]] (.ret)) (q [r [ar 25 .eql (t 7) (n 4),
  m 24 25]] (.cond (t 24) (q [r [mv 3 (.const (.nilsl))], q [r [fa 26 3 1, l 27 26, le 28 27, mv 29 (n 0)]] (.block 1 (.loop (q [r [ar 30 .lss (t 29) (t 28)],
  .cond (t 30) (sk) (.exit 1), .block 2 (q [r [ia 31 4 27 (t 29), ln 32 4 31, o 5 (.new [.int .i64 0, .int .i64 0, .str [], .nilsl]), s 4 5 32]] (r [m 33 3,
  ln 34 4 5, c 35 68 [t 34], o 36 (.buildSl 1 1 [.str []] [(0, 1, .tmp 35)]), o 37 (.app 1 16 (t 33) (t 36)), m 3 37]))] (r [ar 38 .add (t 29) (n 1), m 29 38])))),
  r [m 39 3, c 40 69 [t 39, .const (.str [32])], ar 41 .add (.const (.str [91])) (t 40), ar 42 .add (t 41) (.const (.str [93])), m 2 42]] (.ret)) (sk)))))))))),
  r [mv 2 (.const (.str []))]] (.ret)⟩
theorem A68_ok : XOk Tryz.prog [] 68 A68 := ⟨Tryz.f68, Tryz.func68, by kernel_rfl, by decide, by kernel_rfl, its_nil (by kernel_rfl)⟩

/- strings.Join -/
def A69 : AFn := ⟨75, [.tmp 4], q [r [mv 4 (.const (.str []))], q [r [m 11 0, le 12 11]] (.block 0 (q [r [ar 14 .eql (t 12) (n 0), m 13 14]] (.cond (t 13) (q [r [mv 4 (.const (.str []))]] (.ret)) (q [r [ar 16 .eql (t 12) (n 1),
  m 15 16]] (.cond (t 15) (q [r [m 17 0, ia 18 1 17 (n 0), l 19 18, m 4 19]] (.ret)) (sk)))))), r [mv 5 (n 0)], q [r [m 20 1, o 21 (.lenS (t 20)), ar 22 .gtr (t 21) (n 0)]] (.cond (t 22) (q [q [r [m 23 1,
  o 24 (.lenS (t 23)), m 25 0, le 26 25, ar 27 .sub (t 26) (n 1), ar 28 .quo (n 9223372036854775807) (t 27), ar 29 .geq (t 24) (t 28)]] (.cond (t 29) (r [o 30 (.stuck),
  on (.stuck)]) (sk))] (r [m 31 5, m 32 1, o 33 (.lenS (t 32)), m 34 0, le 35 34, ar 36 .sub (t 35) (n 1), ar 37 .mul (t 33) (t 36), ar 38 .add (t 31) (t 37),
  m 5 38])) (sk)), q [r [m 39 0, le 40 39, mv 41 (n 0)]] (.block 1 (.loop (q [r [ar 42 .lss (t 41) (t 40)], .cond (t 42) (sk) (.exit 1), .block 2 (q [r [ia 43 1 39 (t 41),
  l 44 43, m 7 44], q [r [m 45 7, o 46 (.lenS (t 45)), m 47 5, ar 48 .sub (n 9223372036854775807) (t 47), ar 49 .gtr (t 46) (t 48)]] (.cond (t 49) (r [o 50 (.stuck),
  on (.stuck)]) (sk))] (r [m 51 5, m 52 7, o 53 (.lenS (t 52)), ar 54 .add (t 51) (t 53), m 5 54]))] (r [ar 55 .add (t 41) (n 1), m 41 55])))), r [o 8 (.xo (.newT 85 [.nilptr,
  .nilsl]) [])], r [m 56 5, c 57 103 [t 8, t 56]], r [m 58 0, ia 59 1 58 (n 0), l 60 59, c 61 31 [t 8, t 60]], q [r [m 62 0, o 63 (.sl 1 (t 62) (some (.const (.int .i64 1))) none none),
  le 64 63, mv 65 (n 0)]] (.block 3 (.loop (q [r [ar 66 .lss (t 65) (t 64)], .cond (t 66) (sk) (.exit 3), .block 4 (q [r [ia 67 1 63 (t 65), l 68 67, m 10 68],
  r [m 69 1, c 70 31 [t 8, t 69]]] (r [m 71 10, c 72 31 [t 8, t 71]]))] (r [ar 73 .add (t 65) (n 1), m 65 73])))), r [c 74 32 [t 8], m 4 74]] (.ret)⟩
theorem A69_ok : XOk Tryz.prog [] 69 A69 := ⟨Tryz.f69, Tryz.func69, by kernel_rfl, by decide, by kernel_rfl, its_nil (by kernel_rfl)⟩

/- widgetry/script.quote -/
def A70 : AFn := ⟨9, [.tmp 2], q [r [mv 2 (.const (.str []))], r [o 3 (.buildSl 1 6 [.str [], .str [], .str [], .str [], .str [], .str []] [(0, 1, .const (.str [92])), (1, 1, .const (.str [92,
  92])), (2, 1, .const (.str [34])), (3, 1, .const (.str [92, 34])), (4, 1, .const (.str [10])), (5, 1, .const (.str [92, 110]))]), c 4 104 [t 3], m 5 0,
  c 6 105 [t 4, t 5], ar 7 .add (.const (.str [34])) (t 6), ar 8 .add (t 7) (.const (.str [34])), m 2 8]] (.ret)⟩
theorem A70_ok : XOk Tryz.prog [] 70 A70 := ⟨Tryz.f70, Tryz.func70, by kernel_rfl, by decide, by kernel_rfl, its_nil (by kernel_rfl)⟩

/- widgetry/script.compose -/
def A71 : AFn := ⟨52, [.tmp 2], q [r [o 1 (.box (t 0)), mv 2 (.const (.str []))], q [r [fa 6 0 1, l 7 6]] (.block 0 (q [r [ar 9 .eql (t 7) (n 14), m 8 9]] (.cond (t 8) (q [r [mv 2 (.const (.str [98,
  101, 103, 105, 110]))]] (.ret)) (q [r [ar 11 .eql (t 7) (n 17), m 10 11]] (.cond (t 10) (q [r [mv 2 (.const (.str [99, 97, 110, 99, 101, 108]))]] (.ret)) (q [r [ar 13 .eql (t 7) (n 16),
  m 12 13]] (.cond (t 12) (q [r [fa 14 1 1, l 15 14, o 16 (.xo .r2s [t 15]), c 17 70 [t 16], ar 18 .add (.const (.str [99, 111, 109, 109, 105, 116, 32])) (t 17),
  m 2 18]] (.ret)) (sk)))))))), r [fa 19 12 1, l 20 19, o 21 (.buildSl 1 1 [.int .i64 0] [(0, 1, .tmp 20)]), m 3 21], q [r [fa 22 13 1, l 23 22, le 24 23,
  mv 25 (n 0)]] (.block 1 (.loop (q [r [ar 26 .lss (t 25) (t 24)], .cond (t 26) (sk) (.exit 1), .block 2 (q [r [ia 27 2 23 (t 25), ln 28 2 27, o 5 (.new [.int .i64 0,
  .bool false]), s 2 5 28], r [fa 29 1 5, l 30 29]] (.cond (t 30) (r [m 31 3, fa 32 0 5, l 33 32, o 34 (.un .neg (t 33)), o 35 (.buildSl 1 1 [.int .i64 0] [(0,
  1, .tmp 34)]), o 36 (.app 1 8 (t 31) (t 35)), m 3 36]) (r [m 37 3, fa 38 0 5, l 39 38, o 40 (.buildSl 1 1 [.int .i64 0] [(0, 1, .tmp 39)]), o 41 (.app 1 8 (t 37) (t 40)),
  m 3 41])))] (r [ar 42 .add (t 25) (n 1), m 25 42])))), r [fa 43 1 1, l 44 43, o 45 (.xo .r2s [t 44]), c 46 70 [t 45], ar 47 .add (.const (.str [117, 112,
  100, 97, 116, 101, 32])) (t 46), ar 48 .add (t 47) (.const (.str [32])), m 49 3, c 50 65 [t 49], ar 51 .add (t 48) (t 50), m 2 51]] (.ret)⟩
theorem A71_ok : XOk Tryz.prog [] 71 A71 := ⟨Tryz.f71, Tryz.func71, by kernel_rfl, by decide, by kernel_rfl, its_nil (by kernel_rfl)⟩

/- strings.Index -/
def A72 : AFn := ⟨8, [.tmp 4], q [r [mv 4 (n 0)], r [m 5 0, m 6 1, c 7 89 [t 5, t 6], m 4 7]] (.ret)⟩
theorem A72_ok : XOk Tryz.prog [] 72 A72 := ⟨Tryz.f72, Tryz.func72, by kernel_rfl, by decide, by kernel_rfl, its_nil (by kernel_rfl)⟩

/- slices.EqualFunc[[]widgetry/api.Value,[]widgetry/api.Value,widgetry/api.Value,widgetry/api.Value] -/
def A73 : AFn := ⟨32, [.tmp 6], q [r [mv 6 ff], q [r [m 10 0, le 11 10, m 12 1, le 13 12, ar 14 .neq (t 11) (t 13)]] (.cond (t 14) (q [r [mv 6 ff]] (.ret)) (sk)), q [r [m 15 0, le 16 15,
  mv 17 (n 0)]] (.block 0 (.loop (q [r [ar 18 .lss (t 17) (t 16)], .cond (t 18) (sk) (.exit 0), .block 1 (q [r [m 19 17, ia 20 4 15 (t 17), ln 21 4 20, o 8 (.new [.int .i64 0,
  .int .i64 0, .str [], .nilsl]), m 7 19, s 4 8 21], r [m 22 1, m 23 7, ia 24 4 22 (t 23), ln 25 4 24, o 9 (.new [.int .i64 0, .int .i64 0, .str [], .nilsl]),
  s 4 9 25], r [m 26 2, ln 27 4 8, ln 28 4 9, o 29 (.call (t 26) [t 27, t 28]), o 30 (.un .not (t 29))]] (.cond (t 30) (q [r [mv 6 ff]] (.ret)) (sk)))] (r [ar 31 .add (t 17) (n 1),
  m 17 31])))), r [mv 6 tt]] (.ret)⟩
theorem A73_ok : XOk Tryz.prog [] 73 A73 := ⟨Tryz.f73, Tryz.func73, by kernel_rfl, by decide, by kernel_rfl, its_nil (by kernel_rfl)⟩

/- widgetry/script.sameValue -/
def A74 : AFn := ⟨13, [.tmp 4], q [r [o 2 (.box (t 0)), o 3 (.box (t 1)), mv 4 ff], r [ln 5 4 2, c 6 97 [t 5], ar 7 .eql (t 6) (n 0), m 8 7, og 9 (.ldn 4 (t 2)) 8 true, og 10 (.ldn 4 (t 3)) 8 true,
  og 11 (.call (fn 106) [t 9, t 10]) 8 true, o 12 (.pick (t 8) (t 11) ff), m 4 12]] (.ret)⟩
theorem A74_ok : XOk Tryz.prog [] 74 A74 := ⟨Tryz.f74, Tryz.func74, by kernel_rfl, by decide, by kernel_rfl, its_nil (by kernel_rfl)⟩

/- widgetry/script.sameCommand -/
def A75 : AFn := ⟨97, [.tmp 4], q [r [o 2 (.box (t 0)), o 3 (.box (t 1)), mv 4 ff], q [r [fa 6 1 2, l 7 6, fa 8 1 3, l 9 8, c 10 107 [t 7, t 9], o 11 (.un .not (t 10)), m 12 11, og 13 (.fldA 2 (t 2)) 12 false,
  og 14 (.ldn 2 (t 13)) 12 false, og 15 (.fldA 2 (t 3)) 12 false, og 16 (.ldn 2 (t 15)) 12 false, og 17 (.call (fn 108) [t 14, t 16]) 12 false, og 18 (.un .not (t 17)) 12 false,
  o 19 (.pick (t 12) tt (t 18)), m 20 19, og 21 (.fldA 13 (t 2)) 20 false, og 22 (.ld1 (t 21)) 20 false, og 23 (.fldA 13 (t 3)) 20 false, og 24 (.ld1 (t 23)) 20 false,
  og 25 (.call (fn 109) [t 22, t 24]) 20 false, og 26 (.un .not (t 25)) 20 false, o 27 (.pick (t 20) tt (t 26))]] (.cond (t 27) (q [r [mv 4 ff]] (.ret)) (sk)),
  r [fa 28 0 2, l 29 28, fa 30 0 3, l 31 30, ar 32 .eql (t 29) (t 31), m 33 32, og 34 (.fldA 4 (t 2)) 33 true, og 35 (.ld1 (t 34)) 33 true, og 36 (.fldA 4 (t 3)) 33 true,
  og 37 (.ld1 (t 36)) 33 true, og 38 (.arith .eql (t 35) (t 37)) 33 true, o 39 (.pick (t 33) (t 38) ff), m 40 39, og 41 (.fldA 5 (t 2)) 40 true, og 42 (.ld1 (t 41)) 40 true,
  og 43 (.fldA 5 (t 3)) 40 true, og 44 (.ld1 (t 43)) 40 true, og 45 (.arith .eql (t 42) (t 44)) 40 true, o 46 (.pick (t 40) (t 45) ff), m 47 46, og 48 (.fldA 6 (t 2)) 47 true,
  og 49 (.ld1 (t 48)) 47 true, og 50 (.fldA 6 (t 3)) 47 true, og 51 (.ld1 (t 50)) 47 true, og 52 (.eqs false (t 49) (t 51)) 47 true, o 53 (.pick (t 47) (t 52) ff),
  m 54 53, og 55 (.fldA 7 (t 2)) 54 true, og 56 (.ld1 (t 55)) 54 true, og 57 (.fldA 7 (t 3)) 54 true, og 58 (.ld1 (t 57)) 54 true, og 59 (.arith .eql (t 56) (t 58)) 54 true,
  o 60 (.pick (t 54) (t 59) ff), m 5 60], r [m 61 5, m 62 61, og 63 (.fldA 8 (t 2)) 62 true, og 64 (.ld1 (t 63)) 62 true, og 65 (.fldA 8 (t 3)) 62 true,
  og 66 (.ld1 (t 65)) 62 true, og 67 (.arith .eql (t 64) (t 66)) 62 true, o 68 (.pick (t 62) (t 67) ff), m 69 68, og 70 (.fldA 9 (t 2)) 69 true, og 71 (.ld1 (t 70)) 69 true,
  og 72 (.fldA 9 (t 3)) 69 true, og 73 (.ld1 (t 72)) 69 true, og 74 (.arith .eql (t 71) (t 73)) 69 true, o 75 (.pick (t 69) (t 74) ff), m 76 75, og 77 (.fldA 10 (t 2)) 76 true,
  og 78 (.ldn 2 (t 77)) 76 true, og 79 (.fldA 10 (t 3)) 76 true, og 80 (.ldn 2 (t 79)) 76 true, og 81 (.eqf false [.int .i64, .int .i64] (t 78) (t 80)) 76 true,
  o 82 (.pick (t 76) (t 81) ff), m 83 82, og 84 (.fldA 12 (t 2)) 83 true, og 85 (.ld1 (t 84)) 83 true, og 86 (.fldA 12 (t 3)) 83 true, og 87 (.ld1 (t 86)) 83 true,
  og 88 (.arith .eql (t 85) (t 87)) 83 true, o 89 (.pick (t 83) (t 88) ff), m 90 89, og 91 (.fldA 14 (t 2)) 90 true, og 92 (.ld1 (t 91)) 90 true, og 93 (.fldA 14 (t 3)) 90 true,
  og 94 (.ld1 (t 93)) 90 true, og 95 (.arith .eql (t 92) (t 94)) 90 true, o 96 (.pick (t 90) (t 95) ff), m 4 96]] (.ret)⟩
theorem A75_ok : XOk Tryz.prog [] 75 A75 := ⟨Tryz.f75, Tryz.func75, by kernel_rfl, by decide, by kernel_rfl, its_nil (by kernel_rfl)⟩

/- (*strings.Builder).copyCheck -/
def A76 : AFn := ⟨20, [], q [r [m 2 0, o 3 (.nilchk (t 2)), fa 4 0 3, l 5 4, o 6 (.eqn .ptr false (t 5) (.const (.nilptr)))]] (.cond (t 6) (r [m 7 0, m 8 0, o 9 (.stuck), c 10 110 [t 9],
  o 11 (.stuck), o 12 (.nilchk (t 7)), fa 13 0 12, s 1 13 11]) (q [r [m 14 0, o 15 (.nilchk (t 14)), fa 16 0 15, l 17 16, m 18 0, o 19 (.eqn .ptr true (t 17) (t 18))]] (.cond (t 19) (.stuck) (sk))))⟩
theorem A76_ok : XOk Tryz.prog [] 76 A76 := ⟨Tryz.f76, Tryz.func76, by kernel_rfl, by decide, by kernel_rfl, its_nil (by kernel_rfl)⟩

/- widgetry/widgetryref11.Same -/
def A77 : AFn := ⟨53, [.tmp 4], q [r [o 2 (.box (t 0)), o 3 (.box (t 1)), mv 4 ff], q [r [fa 6 0 2, l 7 6, fa 8 0 3, l 9 8, ar 10 .neq (t 7) (t 9), m 11 10, og 12 (.fldA 1 (t 2)) 11 false,
  og 13 (.ld1 (t 12)) 11 false, og 14 (.fldA 1 (t 3)) 11 false, og 15 (.ld1 (t 14)) 11 false, og 16 (.arith .neq (t 13) (t 15)) 11 false, o 17 (.pick (t 11) tt (t 16)),
  m 18 17, og 19 (.fldA 2 (t 2)) 18 false, og 20 (.ld1 (t 19)) 18 false, og 21 (.fldA 2 (t 3)) 18 false, og 22 (.ld1 (t 21)) 18 false, og 23 (.arith .neq (t 20) (t 22)) 18 false,
  o 24 (.pick (t 18) tt (t 23)), m 25 24, og 26 (.fldA 3 (t 2)) 25 false, og 27 (.ld1 (t 26)) 25 false, og 28 (.len (t 27)) 25 false, og 29 (.fldA 3 (t 3)) 25 false,
  og 30 (.ld1 (t 29)) 25 false, og 31 (.len (t 30)) 25 false, og 32 (.arith .neq (t 28) (t 31)) 25 false, o 33 (.pick (t 25) tt (t 32))]] (.cond (t 33) (q [r [mv 4 ff]] (.ret)) (sk)),
  q [r [mv 5 (n 0)]] (.block 0 (.loop (q [q [r [m 34 5, fa 35 3 2, l 36 35, le 37 36, ar 38 .lss (t 34) (t 37)]] (.cond (t 38) (sk) (.exit 0)), .block 1 (q [d [(fa 41 3 2,
  0), (l 42 41, 1), (m 43 5, 0), (ia 44 4 42 (t 43), 7), (ln 45 4 44, 15), (fa 46 3 3, 0), (l 47 46, 32), (m 48 5, 0), (ia 49 4 47 (t 48), 224), (ln 50 4 49,
  480), (c 51 77 [t 45, t 50], 1023), (o 52 (.un .not (t 51)), 2047)]] (.cond (t 52) (q [r [mv 4 ff]] (.ret)) (sk)))] (r [m 39 5, ar 40 .add (t 39) (n 1),
  m 5 40])))), r [mv 4 tt]] (.ret)⟩
theorem A77_ok : XOk Tryz.prog [] 77 A77 := ⟨Tryz.f77, Tryz.func77, by kernel_rfl, by decide, by kernel_rfl, its_nil (by kernel_rfl)⟩

/- widgetry/widgetryref25.Same -/
def A78 : AFn := ⟨26, [.tmp 4], q [r [mv 4 ff], q [r [m 6 0, le 7 6, m 8 1, le 9 8, ar 10 .neq (t 7) (t 9)]] (.cond (t 10) (q [r [mv 4 ff]] (.ret)) (sk)), q [r [mv 5 (n 0)]] (.block 0 (.loop (q [q [r [m 11 5,
  m 12 0, le 13 12, ar 14 .lss (t 11) (t 13)]] (.cond (t 14) (sk) (.exit 0)), .block 1 (q [d [(m 17 0, 0), (m 18 5, 0), (ia 19 1 17 (t 18), 3), (l 20 19,
  7), (m 21 1, 0), (m 22 5, 0), (ia 23 1 21 (t 22), 48), (l 24 23, 112), (ar 25 .neq (t 20) (t 24), 255)]] (.cond (t 25) (q [r [mv 4 ff]] (.ret)) (sk)))] (r [m 15 5,
  ar 16 .add (t 15) (n 1), m 5 16])))), r [mv 4 tt]] (.ret)⟩
theorem A78_ok : XOk Tryz.prog [] 78 A78 := ⟨Tryz.f78, Tryz.func78, by kernel_rfl, by decide, by kernel_rfl, its_nil (by kernel_rfl)⟩

/- widgetry/widgetryref25.Equal -/
def A79 : AFn := ⟨39, [.tmp 4], q [r [o 2 (.box (t 0)), o 3 (.box (t 1)), mv 4 ff], q [r [fa 6 0 2, l 7 6, fa 8 0 3, l 9 8, c 10 78 [t 7, t 9], o 11 (.un .not (t 10)), m 12 11, og 13 (.fldA 1 (t 2)) 12 false,
  og 14 (.ld1 (t 13)) 12 false, og 15 (.len (t 14)) 12 false, og 16 (.fldA 1 (t 3)) 12 false, og 17 (.ld1 (t 16)) 12 false, og 18 (.len (t 17)) 12 false,
  og 19 (.arith .neq (t 15) (t 18)) 12 false, o 20 (.pick (t 12) tt (t 19))]] (.cond (t 20) (q [r [mv 4 ff]] (.ret)) (sk)), q [r [mv 5 (n 0)]] (.block 0 (.loop (q [q [r [m 21 5,
  fa 22 1 2, l 23 22, le 24 23, ar 25 .lss (t 21) (t 24)]] (.cond (t 25) (sk) (.exit 0)), .block 1 (q [d [(fa 28 1 2, 0), (l 29 28, 1), (m 30 5, 0), (ia 31 2 29 (t 30),
  7), (ln 32 2 31, 15), (fa 33 1 3, 0), (l 34 33, 32), (m 35 5, 0), (ia 36 2 34 (t 35), 224), (ln 37 2 36, 480), (o 38 (.eqf true [.int .i64, .int .i64] (t 32) (t 37)),
  1023)]] (.cond (t 38) (q [r [mv 4 ff]] (.ret)) (sk)))] (r [m 26 5, ar 27 .add (t 26) (n 1), m 5 27])))), r [mv 4 tt]] (.ret)⟩
theorem A79_ok : XOk Tryz.prog [] 79 A79 := ⟨Tryz.f79, Tryz.func79, by kernel_rfl, by decide, by kernel_rfl, its_nil (by kernel_rfl)⟩

/- (*widgetry/widgetrybase.Src).Rune -/
def A80 : AFn := ⟨17, [.tmp 2], q [r [mv 2 (.const (.int .i32 0))], r [c 4 111 [], m 3 4], q [r [m 5 0, c 6 112 [t 5, n 40]]] (.cond (t 6) (q [r [m 7 0, c 8 113 [t 7], o 9 (.convI .i32 (t 8)),
  m 2 9]] (.ret)) (sk)), r [m 10 3, m 11 0, m 12 3, le 13 12, c 14 8 [t 11, t 13], ia 15 1 10 (t 14), l 16 15, m 2 16]] (.ret)⟩
theorem A80_ok : XOk Tryz.prog [] 80 A80 := ⟨Tryz.f80, Tryz.func80, by kernel_rfl, by decide, by kernel_rfl, its_nil (by kernel_rfl)⟩

/- widgetry/widgetryref11.Decimal -/
def A81 : AFn := ⟨26, [.tmp 2], q [r [mv 2 (.const (.str []))], q [r [m 3 0, ar 4 .lss (t 3) (n 0)]] (.cond (t 4) (q [r [m 5 0, o 6 (.un .neg (t 5)), c 7 81 [t 6], ar 8 .add (.const (.str [45])) (t 7),
  m 2 8]] (.ret)) (sk)), q [r [m 9 0, ar 10 .lss (t 9) (n 10)]] (.cond (t 10) (q [r [m 11 0, ar 12 .add (n 48) (t 11), o 13 (.convI .u8 (t 12)), o 14 (.buildSl 1 1 [.int .u8 0] [(0,
  1, .tmp 13)]), o 15 (.xo .b2s [t 14]), m 2 15]] (.ret)) (sk)), d [(m 16 0, 0), (ar 17 .quo (t 16) (n 10), 1), (c 18 81 [t 17], 3), (m 19 0, 0), (ar 20 .rem (t 19) (n 10),
  8), (ar 21 .add (n 48) (t 20), 24), (o 22 (.convI .u8 (t 21)), 56), (o 23 (.buildSl 1 1 [.int .u8 0] [(0, 1, .tmp 22)]), 120), (o 24 (.xo .b2s [t 23]),
  248), (ar 25 .add (t 18) (t 24), 511), (m 2 25, 1023)]] (.ret)⟩
theorem A81_ok : XOk Tryz.prog [] 81 A81 := ⟨Tryz.f81, Tryz.func81, by kernel_rfl, by decide, by kernel_rfl, its_nil (by kernel_rfl)⟩

/- widgetry/widgetryref32.Valid -/
def A82 : AFn := ⟨42, [.tmp 2], q [r [o 1 (.box (t 0)), mv 2 ff], q [r [fa 4 1 1, l 5 4, ar 6 .lss (t 5) (n 0), m 7 6, og 8 (.fldA 1 (t 1)) 7 false, og 9 (.ld1 (t 8)) 7 false, og 10 (.arith .gtr (t 9) (n 15)) 7 false,
  o 11 (.pick (t 7) tt (t 10))]] (.cond (t 11) (q [r [mv 2 ff]] (.ret)) (sk)), r [fa 12 0 1, l 13 12, m 3 13], q [r [m 14 3, ar 15 .geq (t 14) (n 1), m 16 15,
  og 17 (.mov (t 3)) 16 true, og 18 (.arith .leq (t 17) (n 23)) 16 true, o 19 (.pick (t 16) (t 18) ff)]] (.cond (t 19) (q [r [mv 2 tt]] (.ret)) (sk)), r [m 20 3,
  ar 21 .geq (t 20) (n 32), m 22 21, og 23 (.mov (t 3)) 22 true, og 24 (.arith .leq (t 23) (n 1114111)) 22 true, o 25 (.pick (t 22) (t 24) ff), m 26 25,
  og 27 (.mov (t 3)) 26 true, og 28 (.arith .lss (t 27) (n 55296)) 26 true, og 29 (.mov (t 28)) 26 true, og 30 (.mov (t 3)) 29 false, og 31 (.arith .gtr (t 30) (n 57343)) 29 false,
  og 32 (.pick (t 29) tt (t 31)) 26 true, o 33 (.pick (t 26) (t 32) ff), m 34 33, og 35 (.mov (t 3)) 34 true, og 36 (.arith .lss (t 35) (n 65)) 34 true,
  og 37 (.mov (t 36)) 34 true, og 38 (.mov (t 3)) 37 false, og 39 (.arith .gtr (t 38) (n 90)) 37 false, og 40 (.pick (t 37) tt (t 39)) 34 true, o 41 (.pick (t 34) (t 40) ff),
  m 2 41]] (.ret)⟩
theorem A82_ok : XOk Tryz.prog [] 82 A82 := ⟨Tryz.f82, Tryz.func82, by kernel_rfl, by decide, by kernel_rfl, its_nil (by kernel_rfl)⟩

/- widgetry/widgetryref32.chord -/
def A83 : AFn := ⟨46, [.tmp 2], q [r [o 1 (.box (t 0)), mv 2 (.const (.str []))], r [mv 3 (.const (.str []))], q [r [mv 4 (n 0)]] (.block 0 (.loop (q [q [r [m 5 4, ar 6 .lss (t 5) (n 4)]] (.cond (t 6) (sk) (.exit 0)),
  .block 1 (q [r [fa 9 1 1, l 10 9, m 11 4, o 12 (.convI .u64 (t 11)), ar 13 .shr (t 10) (t 12), ar 14 .and (t 13) (n 1), ar 15 .eql (t 14) (n 1)]] (.cond (t 15) (r [m 16 3,
  c 17 114 [], m 18 4, ia 19 1 17 (t 18), l 20 19, ar 21 .add (t 20) (.const (.str [43])), ar 22 .add (t 16) (t 21), m 3 22]) (sk)))] (r [m 7 4, ar 8 .add (t 7) (n 1),
  m 4 8])))), .block 2 (q [r [fa 24 0 1, l 25 24, ar 26 .leq (t 25) (n 23), m 23 26]] (.cond (t 23) (q [d [(m 27 3, 0), (c 28 115 [], 0), (fa 29 0 1, 0),
  (l 30 29, 4), (ia 31 1 28 (t 30), 14), (l 32 31, 30), (ar 33 .add (t 27) (t 32), 63), (m 2 33, 127)]] (.ret)) (q [r [fa 35 0 1, l 36 35, ar 37 .eql (t 36) (n 32),
  m 34 37]] (.cond (t 34) (q [r [m 38 3, ar 39 .add (t 38) (.const (.str [115, 112, 97, 99, 101])), m 2 39]] (.ret)) (sk))))), r [m 40 3, fa 41 0 1, l 42 41,
  o 43 (.convI .i32 (t 42)), o 44 (.stuck), ar 45 .add (t 40) (t 44), m 2 45]] (.ret)⟩
theorem A83_ok : XOk Tryz.prog [] 83 A83 := ⟨Tryz.f83, Tryz.func83, by kernel_rfl, by decide, by kernel_rfl, its_nil (by kernel_rfl)⟩

/- widgetry/widgetryref11.TypeOf -/
def A84 : AFn := ⟨15, [.cell 2 (some 2), .tmp 3], q [r [o 1 (.box (t 0)), o 2 (.new [.int .i64 0, .nilsl]), mv 3 (n 0)], r [ln 8 4 1, c 9 116 [t 8, n 1, n 0], m 7 9, ex 10 7 0, ex 11 7 1, ex 12 7 2, o 4 (.new [.int .i64 0,
  .nilsl]), s 2 4 10, m 5 11, m 6 12], r [ln 13 2 4, m 14 6, s 2 2 13, m 3 14]] (.ret)⟩
theorem A84_ok : XOk Tryz.prog [] 84 A84 := ⟨Tryz.f84, Tryz.func84, by kernel_rfl, by decide, by kernel_rfl, its_nil (by kernel_rfl)⟩

/- (*widgetry/widgetryref45.reader).digits -/
def A85 : AFn := ⟨139, [.tmp 2], q [r [mv 2 (n 0)], r [m 7 0, o 8 (.nilchk (t 7)), fa 9 1 8, l 10 9, m 3 10, mv 4 ff], q [d [(m 11 0, 0), (o 12 (.nilchk (t 11)), 1), (fa 13 1 12, 3), (l 14 13,
  7), (m 15 0, 0), (o 16 (.nilchk (t 15)), 16), (fa 17 0 16, 48), (l 18 17, 112), (o 19 (.lenS (t 18)), 240), (ar 20 .lss (t 14) (t 19), 511), (m 21 20,
  1023), (og 22 (.mov (t 0)) 21 true, 2047), (og 23 (.nilchk (t 22)) 21 true, 4095), (og 24 (.fldA 0 (t 23)) 21 true, 8191), (og 25 (.ld1 (t 24)) 21 true,
  16383), (og 26 (.mov (t 0)) 21 true, 2047), (og 27 (.nilchk (t 26)) 21 true, 34815), (og 28 (.fldA 1 (t 27)) 21 true, 100351), (og 29 (.ld1 (t 28)) 21 true,
  231423), (og 30 (.idxS (t 25) (t 29)) 21 true, 524287), (og 31 (.arith .eql (t 30) (.const (.int .u8 45))) 21 true, 1048575), (o 32 (.pick (t 21) (t 31) ff),
  2097151)]] (.cond (t 32) (q [r [mv 4 tt]] (r [m 33 0, o 34 (.nilchk (t 33)), fa 35 1 34, l 36 35, ar 37 .add (t 36) (n 1), o 38 (.nilchk (t 33)), fa 39 1 38,
  s 1 39 37])) (sk)), d [(m 40 0, 0), (o 41 (.nilchk (t 40)), 1), (fa 42 1 41, 3), (l 43 42, 7), (mv 5 (n 0), 0), (m 6 43, 31)], .block 0 (.loop (q [q [d [(m 44 0,
  0), (o 45 (.nilchk (t 44)), 1), (fa 46 1 45, 3), (l 47 46, 7), (m 48 0, 0), (o 49 (.nilchk (t 48)), 16), (fa 50 0 49, 48), (l 51 50, 112), (o 52 (.lenS (t 51)),
  240), (ar 53 .lss (t 47) (t 52), 511), (m 54 53, 1023), (og 55 (.mov (t 0)) 54 true, 2047), (og 56 (.nilchk (t 55)) 54 true, 4095), (og 57 (.fldA 0 (t 56)) 54 true,
  8191), (og 58 (.ld1 (t 57)) 54 true, 16383), (og 59 (.mov (t 0)) 54 true, 2047), (og 60 (.nilchk (t 59)) 54 true, 34815), (og 61 (.fldA 1 (t 60)) 54 true,
  100351), (og 62 (.ld1 (t 61)) 54 true, 231423), (og 63 (.idxS (t 58) (t 62)) 54 true, 524287), (og 64 (.arith .geq (t 63) (.const (.int .u8 48))) 54 true,
  1048575), (o 65 (.pick (t 54) (t 64) ff), 2097151), (m 66 65, 4194303), (og 67 (.mov (t 0)) 66 true, 8388607), (og 68 (.nilchk (t 67)) 66 true, 16777215),
  (og 69 (.fldA 0 (t 68)) 66 true, 33554431), (og 70 (.ld1 (t 69)) 66 true, 67108863), (og 71 (.mov (t 0)) 66 true, 8388607), (og 72 (.nilchk (t 71)) 66 true,
  142606335), (og 73 (.fldA 1 (t 72)) 66 true, 411041791), (og 74 (.ld1 (t 73)) 66 true, 947912703), (og 75 (.idxS (t 70) (t 74)) 66 true, 2147483647), (og 76 (.arith .leq (t 75) (.const (.int .u8 57))) 66 true,
  4294967295), (o 77 (.pick (t 66) (t 76) ff), 8589934591), (m 78 77, 17179869183), (og 79 (.mov (t 5)) 78 true, 34359738367), (og 80 (.arith .leq (t 79) (n 1099511627776)) 78 true,
  68719476735), (o 81 (.pick (t 78) (t 80) ff), 137438953471)]] (.cond (t 81) (sk) (.exit 0))] (.block 1 (q [d [(m 82 5, 0), (ar 83 .mul (n 10) (t 82), 1),
  (m 84 0, 0), (o 85 (.nilchk (t 84)), 4), (fa 86 0 85, 12), (l 87 86, 28), (m 88 0, 0), (o 89 (.nilchk (t 88)), 64), (fa 90 1 89, 192), (l 91 90, 448),
  (o 92 (.idxS (t 87) (t 91)), 1020), (ar 93 .sub (t 92) (.const (.int .u8 48)), 2044), (o 94 (.convI .i64 (t 93)), 4092), (ar 95 .add (t 83) (t 94), 8191),
  (m 5 95, 16383)]] (r [m 96 0, o 97 (.nilchk (t 96)), fa 98 1 97, l 99 98, ar 100 .add (t 99) (n 1), o 101 (.nilchk (t 96)), fa 102 1 101, s 1 102 100]))))),
  q [r [m 103 4]] (.cond (t 103) (r [m 104 5, o 105 (.un .neg (t 104)), m 5 105]) (sk)), q [d [(m 106 0, 0), (o 107 (.nilchk (t 106)), 1), (fa 108 1 107,
  3), (l 109 108, 7), (m 110 6, 0), (ar 111 .eql (t 109) (t 110), 31), (m 112 111, 63), (og 113 (.mov (t 5)) 112 false, 127), (og 114 (.arith .gtr (t 113) (n 1099511627776)) 112 false,
  255), (o 115 (.pick (t 112) tt (t 114)), 511), (m 116 115, 1023), (og 117 (.mov (t 5)) 116 false, 2047), (og 118 (.arith .lss (t 117) (n (-1099511627776))) 116 false,
  4095), (o 119 (.pick (t 116) tt (t 118)), 8191), (m 120 119, 16383), (og 121 (.mov (t 5)) 120 false, 32767), (og 122 (.call (fn 81) [t 121]) 120 false,
  65535), (og 123 (.mov (t 0)) 120 false, 32767), (og 124 (.nilchk (t 123)) 120 false, 163839), (og 125 (.fldA 0 (t 124)) 120 false, 425983), (og 126 (.ld1 (t 125)) 120 false,
  950271), (og 127 (.mov (t 3)) 120 false, 32767), (og 128 (.mov (t 0)) 120 false, 32767), (og 129 (.nilchk (t 128)) 120 false, 4227071), (og 130 (.fldA 1 (t 129)) 120 false,
  12615679), (og 131 (.ld1 (t 130)) 120 false, 29392895), (og 132 (.slS (t 126) (some (.tmp 127)) (some (.tmp 131))) 120 false, 67010559), (og 133 (.arith .neq (t 122) (t 132)) 120 false,
  134217727), (o 134 (.pick (t 120) tt (t 133)), 268435455)]] (.cond (t 134) (r [m 135 0, o 136 (.nilchk (t 135)), fa 137 2 136, sv 1 137 tt]) (sk)), r [m 138 5,
  m 2 138]] (.ret)⟩
theorem A85_ok : XOk Tryz.prog [] 85 A85 := ⟨Tryz.f85, Tryz.func85, by kernel_rfl, by decide, by kernel_rfl, its_nil (by kernel_rfl)⟩

/- widgetry/widgetryref32.read -/
def A86 : AFn := ⟨95, [.cell 2 (some 2), .tmp 3], q [r [o 2 (.new [.int .i64 0, .int .i64 0]), mv 3 ff], r [o 9 (.build [.int .i64 0, .int .i64 0] []), o 4 (.new [.int .i64 0, .int .i64 0]), s 2 4 9],
  q [r [mv 5 (n 0)]] (.block 0 (.loop (q [q [r [m 10 5, ar 11 .lss (t 10) (n 4)]] (.cond (t 11) (sk) (.exit 0)), .block 1 (q [r [c 14 114 [], m 15 5, ia 16 1 14 (t 15),
  l 17 16, ar 18 .add (t 17) (.const (.str [43])), m 6 18], r [m 19 0, o 20 (.lenS (t 19)), m 21 6, o 22 (.lenS (t 21)), ar 23 .gtr (t 20) (t 22), m 24 23,
  og 25 (.mov (t 0)) 24 true, og 26 (.mov (t 6)) 24 true, og 27 (.lenS (t 26)) 24 true, og 28 (.slS (t 25) none (some (.tmp 27))) 24 true, og 29 (.mov (t 6)) 24 true,
  og 30 (.arith .eql (t 28) (t 29)) 24 true, o 31 (.pick (t 24) (t 30) ff)]] (.cond (t 31) (q [r [fa 32 1 4, l 33 32, m 34 5, o 35 (.convI .u64 (t 34)),
  ar 36 .shl (n 1) (t 35), ar 37 .add (t 33) (t 36), fa 38 1 4, s 1 38 37]] (r [m 39 0, m 40 6, o 41 (.lenS (t 40)), o 42 (.slS (t 39) (some (.tmp 41)) none),
  m 0 42])) (sk)))] (r [m 12 5, ar 13 .add (t 12) (n 1), m 5 13])))), r [m 43 0, o 44 (.xo .s2r [t 43]), m 7 44], q [r [mv 8 (n 1)]] (.block 2 (.loop (q [q [r [m 45 8,
  ar 46 .leq (t 45) (n 23)]] (.cond (t 46) (sk) (.exit 2)), .block 3 (q [r [c 49 115 [], m 50 8, ia 51 1 49 (t 50), l 52 51, m 53 0, ar 54 .eql (t 52) (t 53)]] (.cond (t 54) (r [m 55 8,
  fa 56 0 4, s 1 56 55]) (sk)))] (r [m 47 8, ar 48 .add (t 47) (n 1), m 8 48])))), q [r [m 57 0, ar 58 .eql (t 57) (.const (.str [115, 112, 97, 99, 101]))]] (.cond (t 58) (r [fa 59 0 4,
  sv 1 59 (n 32)]) (sk)), q [r [fa 60 0 4, l 61 60, ar 62 .eql (t 61) (n 0), m 63 62, og 64 (.mov (t 7)) 63 true, og 65 (.len (t 64)) 63 true, og 66 (.arith .eql (t 65) (n 1)) 63 true,
  o 67 (.pick (t 63) (t 66) ff), m 68 67, og 69 (.mov (t 7)) 68 true, og 70 (.idxA 1 (t 69) (n 0)) 68 true, og 71 (.ld1 (t 70)) 68 true, og 72 (.arith .gtr (t 71) (.const (.int .i32 32))) 68 true,
  o 73 (.pick (t 68) (t 72) ff)]] (.cond (t 73) (r [m 74 7, ia 75 1 74 (n 0), l 76 75, o 77 (.convI .i64 (t 76)), fa 78 0 4, s 1 78 77]) (sk)), d [(ln 79 2 4,
  0), (fa 80 0 4, 0), (l 81 80, 2), (ar 82 .gtr (t 81) (n 0), 6), (m 83 82, 14), (og 84 (.ldn 2 (t 4)) 83 true, 30), (og 85 (.call (fn 82) [t 84]) 83 true,
  62), (o 86 (.pick (t 83) (t 85) ff), 126), (m 87 86, 254), (og 88 (.fldA 0 (t 4)) 87 true, 510), (og 89 (.ld1 (t 88)) 87 true, 1022), (og 90 (.build [.int .i64 0,
  .int .i64 0] [(0, 1, .tmp 89)]) 87 true, 2046), (og 91 (.call (fn 83) [t 90]) 87 true, 4094), (og 92 (.mov (t 0)) 87 true, 510), (og 93 (.arith .eql (t 91) (t 92)) 87 true,
  16382), (o 94 (.pick (t 87) (t 93) ff), 32766), (s 2 2 79, 8191), (m 3 94, 131071)]] (.ret)⟩
theorem A86_ok : XOk Tryz.prog [] 86 A86 := ⟨Tryz.f86, Tryz.func86, by kernel_rfl, by decide, by kernel_rfl, its_nil (by kernel_rfl)⟩

/- (*widgetry/widgetryref45.reader).starts -/
def A87 : AFn := ⟨47, [.tmp 4], q [r [mv 4 ff], q [d [(m 5 0, 0), (o 6 (.nilchk (t 5)), 1), (fa 7 0 6, 3), (l 8 7, 7), (o 9 (.lenS (t 8)), 15), (m 10 0, 0), (o 11 (.nilchk (t 10)), 32),
  (fa 12 1 11, 96), (l 13 12, 224), (ar 14 .sub (t 9) (t 13), 511), (m 15 1, 0), (o 16 (.lenS (t 15)), 1024), (ar 17 .lss (t 14) (t 16), 4095), (m 18 17,
  8191), (og 19 (.mov (t 0)) 18 false, 16383), (og 20 (.nilchk (t 19)) 18 false, 32767), (og 21 (.fldA 0 (t 20)) 18 false, 65535), (og 22 (.ld1 (t 21)) 18 false,
  131071), (og 23 (.mov (t 0)) 18 false, 16383), (og 24 (.nilchk (t 23)) 18 false, 278527), (og 25 (.fldA 1 (t 24)) 18 false, 802815), (og 26 (.ld1 (t 25)) 18 false,
  1851391), (og 27 (.mov (t 0)) 18 false, 16383), (og 28 (.nilchk (t 27)) 18 false, 4210687), (og 29 (.fldA 1 (t 28)) 18 false, 12599295), (og 30 (.ld1 (t 29)) 18 false,
  29376511), (og 31 (.mov (t 1)) 18 false, 16383), (og 32 (.lenS (t 31)) 18 false, 67125247), (og 33 (.arith .add (t 30) (t 32)) 18 false, 264257535), (og 34 (.slS (t 22) (some (.tmp 26)) (some (.tmp 33))) 18 false,
  536870911), (og 35 (.mov (t 1)) 18 false, 16383), (og 36 (.arith .neq (t 34) (t 35)) 18 false, 2147483647), (o 37 (.pick (t 18) tt (t 36)), 4294967295)]] (.cond (t 37) (q [r [mv 4 ff]] (.ret)) (sk)),
  r [m 38 0, o 39 (.nilchk (t 38)), fa 40 1 39, l 41 40, m 42 1, o 43 (.lenS (t 42)), ar 44 .add (t 41) (t 43), o 45 (.nilchk (t 38)), fa 46 1 45, s 1 46 44],
  r [mv 4 tt]] (.ret)⟩
theorem A87_ok : XOk Tryz.prog [] 87 A87 := ⟨Tryz.f87, Tryz.func87, by kernel_rfl, by decide, by kernel_rfl, its_nil (by kernel_rfl)⟩

/- (*widgetry/widgetryref45.reader).quoted -/
def A88 : AFn := ⟨168, [.tmp 2], q [r [mv 2 (.const (.str []))], q [d [(m 6 0, 0), (o 7 (.nilchk (t 6)), 1), (fa 8 1 7, 3), (l 9 8, 7), (m 10 0, 0), (o 11 (.nilchk (t 10)), 16), (fa 12 0 11,
  48), (l 13 12, 112), (o 14 (.lenS (t 13)), 240), (ar 15 .geq (t 9) (t 14), 511), (m 16 15, 1023), (og 17 (.mov (t 0)) 16 false, 2047), (og 18 (.nilchk (t 17)) 16 false,
  4095), (og 19 (.fldA 0 (t 18)) 16 false, 8191), (og 20 (.ld1 (t 19)) 16 false, 16383), (og 21 (.mov (t 0)) 16 false, 2047), (og 22 (.nilchk (t 21)) 16 false,
  34815), (og 23 (.fldA 1 (t 22)) 16 false, 100351), (og 24 (.ld1 (t 23)) 16 false, 231423), (og 25 (.idxS (t 20) (t 24)) 16 false, 524287), (og 26 (.arith .neq (t 25) (.const (.int .u8 34))) 16 false,
  1048575), (o 27 (.pick (t 16) tt (t 26)), 2097151)]] (.cond (t 27) (q [r [m 28 0, o 29 (.nilchk (t 28)), fa 30 2 29, sv 1 30 tt], r [mv 2 (.const (.str []))]] (.ret)) (sk)),
  r [mv 3 (.const (.nilsl))], q [r [m 31 0, o 32 (.nilchk (t 31)), fa 33 1 32, l 34 33, ar 35 .add (t 34) (n 1), o 36 (.nilchk (t 31)), fa 37 1 36, s 1 37 35]] (.block 0 (.loop (q [q [d [(m 38 0,
  0), (o 39 (.nilchk (t 38)), 1), (fa 40 1 39, 3), (l 41 40, 7), (m 42 0, 0), (o 43 (.nilchk (t 42)), 16), (fa 44 0 43, 48), (l 45 44, 112), (o 46 (.lenS (t 45)),
  240), (ar 47 .lss (t 41) (t 46), 511), (m 48 47, 1023), (og 49 (.mov (t 0)) 48 true, 2047), (og 50 (.nilchk (t 49)) 48 true, 4095), (og 51 (.fldA 0 (t 50)) 48 true,
  8191), (og 52 (.ld1 (t 51)) 48 true, 16383), (og 53 (.mov (t 0)) 48 true, 2047), (og 54 (.nilchk (t 53)) 48 true, 34815), (og 55 (.fldA 1 (t 54)) 48 true,
  100351), (og 56 (.ld1 (t 55)) 48 true, 231423), (og 57 (.idxS (t 52) (t 56)) 48 true, 524287), (og 58 (.arith .neq (t 57) (.const (.int .u8 34))) 48 true,
  1048575), (o 59 (.pick (t 48) (t 58) ff), 2097151)]] (.cond (t 59) (sk) (.exit 0)), .block 1 (q [d [(m 67 0, 0), (o 68 (.nilchk (t 67)), 1), (fa 69 0 68,
  3), (l 70 69, 7), (m 71 0, 0), (o 72 (.nilchk (t 71)), 16), (fa 73 1 72, 48), (l 74 73, 112), (o 75 (.idxS (t 70) (t 74)), 255), (m 4 75, 511)], q [d [(m 76 4,
  0), (ar 77 .eql (t 76) (.const (.int .u8 92)), 1), (m 78 77, 3), (og 79 (.mov (t 0)) 78 true, 7), (og 80 (.nilchk (t 79)) 78 true, 15), (og 81 (.fldA 1 (t 80)) 78 true,
  31), (og 82 (.ld1 (t 81)) 78 true, 63), (og 83 (.arith .add (t 82) (n 1)) 78 true, 127), (og 84 (.mov (t 0)) 78 true, 7), (og 85 (.nilchk (t 84)) 78 true,
  263), (og 86 (.fldA 0 (t 85)) 78 true, 775), (og 87 (.ld1 (t 86)) 78 true, 1799), (og 88 (.lenS (t 87)) 78 true, 3847), (og 89 (.arith .lss (t 83) (t 88)) 78 true,
  8191), (o 90 (.pick (t 78) (t 89) ff), 16383)]] (.cond (t 90) (q [r [m 91 0, o 92 (.nilchk (t 91)), fa 93 1 92, l 94 93, ar 95 .add (t 94) (n 1), o 96 (.nilchk (t 91)),
  fa 97 1 96, s 1 97 95], d [(m 98 0, 0), (o 99 (.nilchk (t 98)), 1), (fa 100 0 99, 3), (l 101 100, 7), (m 102 0, 0), (o 103 (.nilchk (t 102)), 16), (fa 104 1 103,
  48), (l 105 104, 112), (o 106 (.idxS (t 101) (t 105)), 255), (m 4 106, 511)], r [m 107 4, ar 108 .eql (t 107) (.const (.int .u8 110))]] (.cond (t 108) (r [mv 4 (.const (.int .u8 10))]) (q [r [m 109 4,
  ar 110 .neq (t 109) (.const (.int .u8 34)), m 111 110, og 112 (.mov (t 4)) 111 true, og 113 (.arith .neq (t 112) (.const (.int .u8 92))) 111 true, o 114 (.pick (t 111) (t 113) ff)]] (.cond (t 114) (r [m 115 0,
  o 116 (.nilchk (t 115)), fa 117 2 116, sv 1 117 tt]) (sk))))) (q [r [m 118 4, ar 119 .eql (t 118) (.const (.int .u8 92))]] (.cond (t 119) (r [m 120 0,
  o 121 (.nilchk (t 120)), fa 122 2 121, sv 1 122 tt]) (sk))))] (r [m 123 3, m 124 4, o 125 (.buildSl 1 1 [.int .u8 0] [(0, 1, .tmp 124)]), o 126 (.app 1 1 (t 123) (t 125)),
  m 3 126]))] (r [m 60 0, o 61 (.nilchk (t 60)), fa 62 1 61, l 63 62, ar 64 .add (t 63) (n 1), o 65 (.nilchk (t 60)), fa 66 1 65, s 1 66 64])))), d [(m 127 0,
  0), (m 128 0, 0), (o 129 (.nilchk (t 128)), 2), (fa 130 2 129, 6), (l 131 130, 14), (m 132 131, 30), (og 133 (.mov (t 0)) 132 false, 62), (og 134 (.nilchk (t 133)) 132 false,
  126), (og 135 (.fldA 1 (t 134)) 132 false, 254), (og 136 (.ld1 (t 135)) 132 false, 510), (og 137 (.mov (t 0)) 132 false, 62), (og 138 (.nilchk (t 137)) 132 false,
  1086), (og 139 (.fldA 0 (t 138)) 132 false, 3134), (og 140 (.ld1 (t 139)) 132 false, 7230), (og 141 (.lenS (t 140)) 132 false, 15422), (og 142 (.arith .geq (t 136) (t 141)) 132 false,
  32766), (o 143 (.pick (t 132) tt (t 142)), 65534), (o 144 (.nilchk (t 127)), 131071), (fa 145 2 144, 262143), (s 1 145 143, 524287)], r [m 146 0, o 147 (.nilchk (t 146)),
  fa 148 1 147, l 149 148, ar 150 .add (t 149) (n 1), o 151 (.nilchk (t 146)), fa 152 1 151, s 1 152 150], r [m 153 3, o 154 (.xo .b2s [t 153]), m 5 154],
  r [m 155 0, m 156 0, o 157 (.nilchk (t 156)), fa 158 2 157, l 159 158, m 160 159, og 161 (.mov (t 5)) 160 false, og 162 (.call (fn 117) [t 161]) 160 false,
  og 163 (.un .not (t 162)) 160 false, o 164 (.pick (t 160) tt (t 163)), o 165 (.nilchk (t 155)), fa 166 2 165, s 1 166 164], r [m 167 5, m 2 167]] (.ret)⟩
theorem A88_ok : XOk Tryz.prog [] 88 A88 := ⟨Tryz.f88, Tryz.func88, by kernel_rfl, by decide, by kernel_rfl, its_nil (by kernel_rfl)⟩

/- internal/stringslite.Index -/
def A89 : AFn := ⟨143, [.tmp 4], q [r [mv 4 (n 0)], r [m 14 1, o 15 (.lenS (t 14)), m 5 15], .block 0 (q [r [m 17 5, ar 18 .eql (t 17) (n 0), m 19 18, og 20 (.mov (t 1)) 19 false, og 21 (.mov (t 0)) 19 false,
  og 22 (.arith .eql (t 20) (t 21)) 19 false, o 23 (.pick (t 19) tt (t 22)), m 16 23]] (.cond (t 16) (q [r [mv 4 (n 0)]] (.ret)) (q [r [m 25 5, ar 26 .eql (t 25) (n 1),
  m 24 26]] (.cond (t 24) (q [r [m 27 0, m 28 1, o 29 (.idxS (t 28) (n 0)), c 30 118 [t 27, t 29], m 4 30]] (.ret)) (q [r [m 32 5, m 33 0, o 34 (.lenS (t 33)),
  ar 35 .geq (t 32) (t 34), m 31 35]] (.cond (t 31) (q [r [mv 4 (n (-1))]] (.ret)) (q [r [m 37 5, o 38 (.ld1 (.const (.gptr 0 0))), ar 39 .leq (t 37) (t 38),
  m 40 39, og 41 (.mov (t 0)) 40 true, og 42 (.lenS (t 41)) 40 true, og 43 (.arith .leq (t 42) (n 64)) 40 true, o 44 (.pick (t 40) (t 43) ff), m 36 44]] (.cond (t 36) (q [r [m 45 0,
  m 46 1, c 47 119 [t 45, t 46], m 4 47]] (.ret)) (sk))))))))), r [m 48 1, o 49 (.idxS (t 48) (n 0)), m 6 49], r [m 50 1, o 51 (.idxS (t 50) (n 1)), m 7 51],
  r [mv 8 (n 0)], r [m 52 0, o 53 (.lenS (t 52)), m 54 5, ar 55 .sub (t 53) (t 54), ar 56 .add (t 55) (n 1), m 9 56], r [mv 10 (n 0)], .block 1 (.loop (q [q [r [m 57 8,
  m 58 9, ar 59 .lss (t 57) (t 58)]] (.cond (t 59) (sk) (.exit 1))] (.block 2 (q [q [r [m 60 0, m 61 8, o 62 (.idxS (t 60) (t 61)), m 63 6, ar 64 .neq (t 62) (t 63)]] (.cond (t 64) (q [r [m 65 0,
  m 66 8, ar 67 .add (t 66) (n 1), m 68 9, o 69 (.slS (t 65) (some (.tmp 67)) (some (.tmp 68))), m 70 6, c 71 118 [t 69, t 70], m 11 71], q [r [m 72 11,
  ar 73 .lss (t 72) (n 0)]] (.cond (t 73) (q [r [mv 4 (n (-1))]] (.ret)) (sk))] (r [m 74 8, m 75 11, ar 76 .add (t 75) (n 1), ar 77 .add (t 74) (t 76), m 8 77])) (sk)),
  q [r [m 78 0, m 79 8, ar 80 .add (t 79) (n 1), o 81 (.idxS (t 78) (t 80)), m 82 7, ar 83 .eql (t 81) (t 82), m 84 83, og 85 (.mov (t 0)) 84 true, og 86 (.mov (t 8)) 84 true,
  og 87 (.mov (t 8)) 84 true, og 88 (.mov (t 5)) 84 true, og 89 (.arith .add (t 87) (t 88)) 84 true, og 90 (.slS (t 85) (some (.tmp 86)) (some (.tmp 89))) 84 true,
  og 91 (.mov (t 1)) 84 true, og 92 (.arith .eql (t 90) (t 91)) 84 true, o 93 (.pick (t 84) (t 92) ff)]] (.cond (t 93) (q [r [m 94 8, m 4 94]] (.ret)) (sk)),
  r [m 95 8, ar 96 .add (t 95) (n 1), m 8 96], r [m 97 10, ar 98 .add (t 97) (n 1), m 10 98], r [m 99 5, o 100 (.ld1 (.const (.gptr 0 0))), ar 101 .leq (t 99) (t 100),
  m 102 101, og 103 (.mov (t 10)) 102 true, og 104 (.mov (t 8)) 102 true, og 105 (.call (fn 120) [t 104]) 102 true, og 106 (.arith .gtr (t 103) (t 105)) 102 true,
  o 107 (.pick (t 102) (t 106) ff)]] (.cond (t 107) (q [r [m 108 0, m 109 8, o 110 (.slS (t 108) (some (.tmp 109)) none), m 111 1, c 112 119 [t 110, t 111],
  m 12 112], q [r [m 113 12, ar 114 .geq (t 113) (n 0)]] (.cond (t 114) (q [r [m 115 12, m 116 8, ar 117 .add (t 115) (t 116), m 4 117]] (.ret)) (sk)), r [mv 4 (n (-1))]] (.ret)) (q [r [m 118 5,
  o 119 (.ld1 (.const (.gptr 0 0))), ar 120 .gtr (t 118) (t 119), m 121 120, og 122 (.mov (t 10)) 121 true, og 123 (.mov (t 8)) 121 true, og 124 (.arith .shr (t 123) (.const (.int .u64 4))) 121 true,
  og 125 (.arith .add (n 4) (t 124)) 121 true, og 126 (.arith .geq (t 122) (t 125)) 121 true, o 127 (.pick (t 121) (t 126) ff), m 128 127, og 129 (.mov (t 8)) 128 true,
  og 130 (.mov (t 9)) 128 true, og 131 (.arith .lss (t 129) (t 130)) 128 true, o 132 (.pick (t 128) (t 131) ff)]] (.cond (t 132) (q [r [m 133 0, m 134 8,
  o 135 (.slS (t 133) (some (.tmp 134)) none), m 136 1, c 137 121 [t 135, t 136], m 13 137], q [r [m 138 13, ar 139 .lss (t 138) (n 0)]] (.cond (t 139) (q [r [mv 4 (n (-1))]] (.ret)) (sk)),
  r [m 140 8, m 141 13, ar 142 .add (t 140) (t 141), m 4 142]] (.ret)) (sk)))))))), r [mv 4 (n (-1))]] (.ret)⟩
theorem A89_ok : XOk Tryz.prog [] 89 A89 := ⟨Tryz.f89, Tryz.func89, by kernel_rfl, by decide, by kernel_rfl, its_nil (by kernel_rfl)⟩

/- slices.Index[[]string,string] -/
def A90 : AFn := ⟨19, [.tmp 4], q [r [mv 4 (n 0)], q [r [m 6 0, le 7 6, mv 8 (n 0)]] (.block 0 (.loop (q [r [ar 9 .lss (t 8) (t 7)], .cond (t 9) (sk) (.exit 0), .block 1 (q [r [m 10 8,
  m 5 10], r [m 11 1, m 12 0, m 13 5, ia 14 1 12 (t 13), l 15 14, ar 16 .eql (t 11) (t 15)]] (.cond (t 16) (q [r [m 17 5, m 4 17]] (.ret)) (sk)))] (r [ar 18 .add (t 8) (n 1),
  m 8 18])))), r [mv 4 (n (-1))]] (.ret)⟩
theorem A90_ok : XOk Tryz.prog [] 90 A90 := ⟨Tryz.f90, Tryz.func90, by kernel_rfl, by decide, by kernel_rfl, its_nil (by kernel_rfl)⟩

/- (*widgetry/script.scanner).word -/
def A91 : AFn := ⟨7, [.tmp 2], q [r [mv 2 (.const (.str []))], r [m 3 0, c 4 95 [t 3]], r [m 5 0, c 6 122 [t 5, ff], m 2 6]] (.ret)⟩
theorem A91_ok : XOk Tryz.prog [] 91 A91 := ⟨Tryz.f91, Tryz.func91, by kernel_rfl, by decide, by kernel_rfl, its_nil (by kernel_rfl)⟩

/- widgetry/script.number -/
def A92 : AFn := ⟨28, [.tmp 2, .tmp 3], q [r [mv 2 (n 0), mv 3 ff], r [m 7 0, c 8 123 [t 7], m 6 8, ex 9 6 0, ex 10 6 1, m 4 9, m 5 10], r [m 11 4, m 12 5, o 13 (.xo (.eqif false) [t 12]), m 14 13,
  og 15 (.mov (t 4)) 14 true, og 16 (.call (fn 99) [t 15]) 14 true, og 17 (.mov (t 0)) 14 true, og 18 (.arith .eql (t 16) (t 17)) 14 true, o 19 (.pick (t 14) (t 18) ff),
  m 20 19, og 21 (.mov (t 4)) 20 true, og 22 (.arith .geq (t 21) (n (-1099511627776))) 20 true, o 23 (.pick (t 20) (t 22) ff), m 24 23, og 25 (.mov (t 4)) 24 true,
  og 26 (.arith .leq (t 25) (n 1099511627776)) 24 true, o 27 (.pick (t 24) (t 26) ff), m 2 11, m 3 27]] (.ret)⟩
theorem A92_ok : XOk Tryz.prog [] 92 A92 := ⟨Tryz.f92, Tryz.func92, by kernel_rfl, by decide, by kernel_rfl, its_nil (by kernel_rfl)⟩

/- widgetry/shortcut.Parse -/
def A93 : AFn := ⟨35, [.tmp 2, .tmp 3], q [r [mv 2 (.const (.nilsl)), mv 3 (n 0)], q [r [m 9 0, o 10 (.lenS (t 9)), ar 11 .gtr (t 10) (n 100)]] (.cond (t 11) (q [r [mv 2 (.const (.nilsl)), mv 3 (n 2)]] (.ret)) (sk)),
  r [mv 4 (.const (.nilsl))], q [r [m 12 0, c 13 124 [t 12, .const (.str [32])], le 14 13, mv 15 (n 0)]] (.block 0 (.loop (q [r [ar 16 .lss (t 15) (t 14)],
  .cond (t 16) (sk) (.exit 0), .block 1 (q [r [ia 17 1 13 (t 15), l 18 17, m 6 18], r [m 20 6, c 21 125 [t 20], m 19 21, ex 22 19 0, ex 23 19 1, o 7 (.new [.int .i64 0,
  .int .i64 0]), s 2 7 22, m 8 23], q [r [m 24 8, o 25 (.un .not (t 24))]] (.cond (t 25) (q [r [mv 2 (.const (.nilsl)), mv 3 (n 3)]] (.ret)) (sk))] (r [m 26 4,
  ln 27 2 7, o 28 (.buildSl 2 1 [.int .i64 0, .int .i64 0] [(0, 2, .tmp 27)]), o 29 (.app 2 16 (t 26) (t 28)), m 4 29]))] (r [ar 30 .add (t 15) (n 1), m 15 30])))),
  q [r [m 31 4, le 32 31, ar 33 .gtr (t 32) (n 3)]] (.cond (t 33) (q [r [mv 2 (.const (.nilsl)), mv 3 (n 2)]] (.ret)) (sk)), r [m 34 4, m 2 34, mv 3 (n 0)]] (.ret)⟩
theorem A93_ok : XOk Tryz.prog [] 93 A93 := ⟨Tryz.f93, Tryz.func93, by kernel_rfl, by decide, by kernel_rfl, its_nil (by kernel_rfl)⟩

/- (*widgetry/script.scanner).more -/
def A94 : AFn := ⟨19, [.tmp 2], q [r [mv 2 ff], d [(m 3 0, 0), (o 4 (.nilchk (t 3)), 1), (fa 5 3 4, 3), (l 6 5, 7), (m 7 6, 15), (og 8 (.mov (t 0)) 7 true, 31), (og 9 (.nilchk (t 8)) 7 true,
  63), (og 10 (.fldA 1 (t 9)) 7 true, 127), (og 11 (.ld1 (t 10)) 7 true, 255), (og 12 (.mov (t 0)) 7 true, 31), (og 13 (.nilchk (t 12)) 7 true, 543), (og 14 (.fldA 0 (t 13)) 7 true,
  1567), (og 15 (.ld1 (t 14)) 7 true, 3615), (og 16 (.lenS (t 15)) 7 true, 7711), (og 17 (.arith .lss (t 11) (t 16)) 7 true, 16383), (o 18 (.pick (t 7) (t 17) ff),
  32767), (m 2 18, 65535)]] (.ret)⟩
theorem A94_ok : XOk Tryz.prog [] 94 A94 := ⟨Tryz.f94, Tryz.func94, by kernel_rfl, by decide, by kernel_rfl, its_nil (by kernel_rfl)⟩

/- (*widgetry/script.scanner).space -/
def A95 : AFn := ⟨11, [], q [q [r [m 2 0, o 3 (.nilchk (t 2)), fa 4 2 3, l 5 4]] (.cond (t 5) (q [r [m 6 0, o 7 (.nilchk (t 6)), fa 8 2 7, sv 1 8 ff]] (.ret)) (sk))] (r [m 9 0,
  c 10 126 [t 9, .const (.int .u8 32)]])⟩
theorem A95_ok : XOk Tryz.prog [] 95 A95 := ⟨Tryz.f95, Tryz.func95, by kernel_rfl, by decide, by kernel_rfl, its_nil (by kernel_rfl)⟩
def xtr1 : XT := .node 72 (.node 60 (.node 54 (.node 51 (.node 50 (.one 49 A49) (.one 50 A50)) (.node 52 (.one 51 A51) (.node 53 (.one 52 A52) (.one 53 A53)))) (.node 57 (.node 55 (.one 54 A54) (.node 56 (.one 55 A55) (.one 56 A56))) (.node 58 (.one 57 A57) (.node 59 (.one 58 A58) (.one 59 A59))))) (.node 66 (.node 63 (.node 61 (.one 60 A60) (.node 62 (.one 61 A61) (.one 62 A62))) (.node 64 (.one 63 A63) (.node 65 (.one 64 A64) (.one 65 A65)))) (.node 69 (.node 67 (.one 66 A66) (.node 68 (.one 67 A67) (.one 68 A68))) (.node 70 (.one 69 A69) (.node 71 (.one 70 A70) (.one 71 A71)))))) (.node 84 (.node 78 (.node 75 (.node 73 (.one 72 A72) (.node 74 (.one 73 A73) (.one 74 A74))) (.node 76 (.one 75 A75) (.node 77 (.one 76 A76) (.one 77 A77)))) (.node 81 (.node 79 (.one 78 A78) (.node 80 (.one 79 A79) (.one 80 A80))) (.node 82 (.one 81 A81) (.node 83 (.one 82 A82) (.one 83 A83))))) (.node 90 (.node 87 (.node 85 (.one 84 A84) (.node 86 (.one 85 A85) (.one 86 A86))) (.node 88 (.one 87 A87) (.node 89 (.one 88 A88) (.one 89 A89)))) (.node 93 (.node 91 (.one 90 A90) (.node 92 (.one 91 A91) (.one 92 A92))) (.node 94 (.one 93 A93) (.node 95 (.one 94 A94) (.one 95 A95))))))
theorem xtr1_ok : xtr1.Ok Tryz.prog [] := ⟨⟨⟨⟨⟨A49_ok, A50_ok⟩, ⟨A51_ok, ⟨A52_ok, A53_ok⟩⟩⟩, ⟨⟨A54_ok, ⟨A55_ok, A56_ok⟩⟩, ⟨A57_ok, ⟨A58_ok, A59_ok⟩⟩⟩⟩, ⟨⟨⟨A60_ok, ⟨A61_ok, A62_ok⟩⟩, ⟨A63_ok, ⟨A64_ok, A65_ok⟩⟩⟩, ⟨⟨A66_ok, ⟨A67_ok, A68_ok⟩⟩, ⟨A69_ok, ⟨A70_ok, A71_ok⟩⟩⟩⟩⟩, ⟨⟨⟨⟨A72_ok, ⟨A73_ok, A74_ok⟩⟩, ⟨A75_ok, ⟨A76_ok, A77_ok⟩⟩⟩, ⟨⟨A78_ok, ⟨A79_ok, A80_ok⟩⟩, ⟨A81_ok, ⟨A82_ok, A83_ok⟩⟩⟩⟩, ⟨⟨⟨A84_ok, ⟨A85_ok, A86_ok⟩⟩, ⟨A87_ok, ⟨A88_ok, A89_ok⟩⟩⟩, ⟨⟨A90_ok, ⟨A91_ok, A92_ok⟩⟩, ⟨A93_ok, ⟨A94_ok, A95_ok⟩⟩⟩⟩⟩⟩
end Go.Proofs.YtndpneieplopaaaGreatDoor
end
