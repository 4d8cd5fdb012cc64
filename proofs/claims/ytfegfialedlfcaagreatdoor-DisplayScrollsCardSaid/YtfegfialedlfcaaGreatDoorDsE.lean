/- The runs of Build, Cascade, Compute and the check of a list of boxes: what goes in, what comes out. -/
import Derived.Test.YtfegfialedlfcaaGreatDoorDsX0
import Derived.Test.YtfegfialedlfcaaGreatDoorDsX1
import Derived.Test.YtfegfialedlfcaaGreatDoorDsX2
import Derived.Test.YtfegfialedlfcaaGreatDoorDsIt
import Derived.Test.YtfegfialedlfcaaGreatDoorDsC
import Derived.KernelRfl
set_option linter.unusedSimpArgs false
set_option linter.unusedVariables false
set_option linter.unnecessarySimpa false
noncomputable section
namespace Go.Proofs.YtfegfialedlfcaaGreatDoor
open Go.Eng
set_option maxRecDepth 100000
/-- what style.properties reads as -/
def props : List AV := [.bool true, .int .i64 0, .int .i64 16777215, .int .i64 0, .bool false, .int .i64 (-1), .int .i64 16777215, .int .i64 (-1), .bool true, .int .i64 1, .int .i64 1000, .int .i64 16, .bool true, .int .i64 0, .int .i64 7, .int .i64 0, .bool true, .int .i64 0, .int .i64 1, .int .i64 0, .bool false, .int .i64 0, .int .i64 4, .int .i64 1, .bool false, .int .i64 0, .int .i64 4, .int .i64 3, .bool false, .int .i64 0, .int .i64 3, .int .i64 0, .bool true, .int .i64 0, .int .i64 2, .int .i64 0, .bool false, .int .i64 0, .int .i64 1048576, .int .i64 0, .bool false, .int .i64 0, .int .i64 1000, .int .i64 0, .bool false, .int .i64 0, .int .i64 1000, .int .i64 1, .bool false, .int .i64 (-1), .int .i64 1048576, .int .i64 (-1), .bool false, .int .i64 0, .int .i64 1048576, .int .i64 0, .bool false, .int .i64 0, .int .i64 1048576, .int .i64 1048576, .bool false, .int .i64 0, .int .i64 1048576, .int .i64 0, .bool false, .int .i64 0, .int .i64 1048576, .int .i64 1048576, .bool false, .int .i64 0, .int .i64 1048576, .int .i64 0, .bool false, .int .i64 0, .int .i64 1048576, .int .i64 0, .bool false, .int .i64 0, .int .i64 1048576, .int .i64 0, .bool false, .int .i64 0, .int .i64 1048576, .int .i64 0, .bool true, .int .i64 0, .int .i64 1, .int .i64 0]
theorem hpl : props.all plainAV = true := by kernel_rfl
def xtr : XT := .node 87 (.node 36 xtr0 xtr1) (.node 142 xtr2 xtr3)
theorem its_ok : ∀ it ∈ ITS, IterOk Tryz.prog it := fun it hi => by
  have : it = ⟨181, true, none⟩ := by simpa [ITS] using hi
  subst this; exact it181
theorem xtr_ok : xtr.Ok Tryz.prog ITS := ⟨⟨xtr0_ok, xtr1_ok its_ok⟩, xtr2_ok, xtr3_ok⟩
noncomputable def X : Handler := xtab clH xtr ITS 10000 60
theorem X_ok : FOk Tryz.prog X := xtab_ok clH_ok xtr_ok 10000 60
def eB (n : Nat) : PE := ⟨4, [viewS n, I 1], .tup [treeS n, I 0]⟩
def eC (n : Nat) : PE := ⟨6, [treeS n, .psl (stS gk n), fontS, .agg [gw, gh]], .tup [boxG n, I 0]⟩
def eV (n : Nat) : PE := ⟨23, [treeS n, .psl (stS gk n), boxG n, .psl [[I 1, go]]], I 0⟩
def eA : PE := ⟨9, [], .bool true⟩
/-- the styles as they come, cell by cell -/
def stC (n : Nat) : List AV := sty0 0 ++ (tab (fun i => sty0 (i + 1)) n).flatten
def aK (n : Nat) : List AV := [.agg [.nilsl], .agg [.nilsl], .agg [.bool false, .bool false, I 100], treeS n, .nilsl]
end Go.Proofs.YtfegfialedlfcaaGreatDoor
end
