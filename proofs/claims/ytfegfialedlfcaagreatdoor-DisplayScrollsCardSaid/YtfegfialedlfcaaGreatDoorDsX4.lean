/- One more function as code for the kernel; printed by a program of ours. -/
import Derived.Test.YtfegfialedlfcaaGreatDoorDsIts
import Derived.Test.YtfegfialedlfcaaGreatDoorProg
import Derived.KernelRfl
set_option linter.unusedSimpArgs false
set_option linter.unusedVariables false
set_option linter.unnecessarySimpa false
noncomputable section
namespace Go.Proofs.YtfegfialedlfcaaGreatDoor
open Go.Eng Go.Eng.DZ
set_option maxRecDepth 100000
/- widgetry/view.Number -/
def A59 : AFn := ⟨21, [.tmp 6], q [r [mv 6 (n 0)], q [r [m 10 0, m 11 1, c 12 115 [t 10, t 11], m 9 12, ex 13 9 0, ex 14 9 1, o 7 (.new [.int .i64 0, .int .i64 0, .str [], .nilsl]), s 4 7 13,
  m 8 14], r [fa 15 0 7, l 16 15, ar 17 .eql (t 16) (n 1)]] (.cond (t 17) (q [r [fa 18 1 7, l 19 18, m 6 19]] (.ret)) (sk)), r [m 20 2, m 6 20]] (.ret)⟩
theorem A59_ok : XOk Tryz.prog ITS 59 A59 := ⟨Tryz.f59, Tryz.func59, by kernel_rfl, by decide, by kernel_rfl, its_nil (by kernel_rfl)⟩
def xtr4 : XT := .one 59 A59
theorem xtr4_ok : xtr4.Ok Tryz.prog ITS := A59_ok
end Go.Proofs.YtfegfialedlfcaaGreatDoor
end
