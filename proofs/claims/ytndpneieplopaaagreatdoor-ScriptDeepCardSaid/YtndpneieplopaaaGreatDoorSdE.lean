/- Calls of the closed runs, with their answers. -/
import Derived.Test.YtndpneieplopaaaGreatDoorSdX0
import Derived.Test.YtndpneieplopaaaGreatDoorSdX1
import Derived.Test.YtndpneieplopaaaGreatDoorSdX2
import Derived.Test.YtndpneieplopaaaGreatDoorSdX3
import Derived.Test.YtndpneieplopaaaGreatDoorSdH
import Derived.Test.YtndpneieplopaaaGreatDoorEngFB
set_option linter.unusedSimpArgs false
set_option linter.unusedVariables false
set_option linter.unnecessarySimpa false
noncomputable section
namespace Go.Proofs.YtndpneieplopaaaGreatDoor
open Go.Eng
set_option maxRecDepth 100000
abbrev I (n : Int) : AV := .int .i64 n
/-- what utf8.acceptRanges reads as -/
def props : List AV := [.int .u8 128, .int .u8 191, .int .u8 160, .int .u8 191, .int .u8 128, .int .u8 159, .int .u8 144, .int .u8 191, .int .u8 128, .int .u8 143, .int .u8 0, .int .u8 0, .int .u8 0, .int .u8 0, .int .u8 0, .int .u8 0, .int .u8 0, .int .u8 0, .int .u8 0, .int .u8 0, .int .u8 0, .int .u8 0, .int .u8 0, .int .u8 0, .int .u8 0, .int .u8 0, .int .u8 0, .int .u8 0, .int .u8 0, .int .u8 0, .int .u8 0, .int .u8 0]
theorem hpl : props.all plainAV = true := by kernel_rfl
def xtr : XT := .node 96 (.node 49 xtr0 xtr1) (.node 145 xtr2 xtr3)
theorem xtr_ok : xtr.Ok Tryz.prog [] := ⟨⟨xtr0_ok, xtr1_ok⟩, xtr2_ok, xtr3_ok⟩
noncomputable def X (ct : Handler) : Handler := xtab (hor lH ct) xtr [] 10000 60
theorem X_ok {ct : Handler} (h : FOk Tryz.prog ct) : FOk Tryz.prog (X ct) := xtab_ok (hor_ok lH_ok h) xtr_ok 10000 60
def v0 : AV := .psl [[I 4, I 0, .str [], .psl [[I 4, I 0, .str [], .psl [[I 4, I 0, .str [], .psl [[I 4, I 0, .str [], .psl [[I 4, I 0, .str [], .psl [[I 4, I 0, .str [], .psl [[I 4, I 0, .str [], .psl [[I 4, I 0, .str [], .psl [[I 4, I 0, .str [], .psl [[I 4, I 0, .str [], .psl [[I 4, I 0, .str [], .psl [[I 4, I 0, .str [], .psl [[I 4, I 0, .str [], .psl [[I 4, I 0, .str [], .psl [[I 1, I 1, .str [], .nilsl]]]]]]]]]]]]]]]]]]]]]]]]]]]]]]
def v1 : AV := .psl [[I 4, I 0, .str [], v0]]
def e0 : PE := ⟨27, [.str [97, 114, 103, 115, 32, 91, 91, 91, 91, 91, 91, 91, 91, 91, 91, 91, 91, 91, 91, 91, 49, 93, 93, 93, 93, 93, 93, 93, 93, 93, 93, 93, 93, 93, 93, 93]], .tup [.agg ([I 6] ++ (List.replicate 11 (I 0)) ++ [.bool false, .bool false, I 0, v1] ++ (List.replicate 5 (I 0)) ++ [.str [], I 0, .nilsl, .nilsl, .nilsl, I 0, I 0, .bool false] ++ (List.replicate 6 (I 0)) ++ [.nilsl, I 0]), .bool true]⟩
def v2 : AV := .agg [I 4, I 0, .str [], v0]
def e1 : PE := ⟨74, [v2, v2], .bool true⟩
def e2 : PE := ⟨27, [.str [107, 101, 121, 32, 99, 116, 114, 108, 43, 115, 32, 53]], .tup [.agg ([I 2] ++ (List.replicate 6 (I 0)) ++ [I 115, I 1, I 5, I 0, I 0, .bool false, .bool false, I 0, .nilsl] ++ (List.replicate 5 (I 0)) ++ [.str [], I 0, .nilsl, .nilsl, .nilsl, I 0, I 0, .bool false] ++ (List.replicate 6 (I 0)) ++ [.nilsl, I 0]), .bool true]⟩
def e3 : PE := ⟨27, [.str [97, 114, 103, 115, 32, 91, 91, 91, 91, 91, 91, 91, 91, 91, 91, 91, 91, 91, 91, 91, 91, 49, 93, 93, 93, 93, 93, 93, 93, 93, 93, 93, 93, 93, 93, 93, 93, 93]], .tup [.agg ([I 6] ++ (List.replicate 11 (I 0)) ++ [.bool false, .bool false, I 0, .psl [[I 4, I 0, .str [], v1]]] ++ (List.replicate 5 (I 0)) ++ [.str [], I 0, .nilsl, .nilsl, .nilsl, I 0, I 0, .bool false] ++ (List.replicate 6 (I 0)) ++ [.nilsl, I 0]), .bool true]⟩
def v3 : AV := .agg [I 4, I 0, .str [], v1]
def e4 : PE := ⟨74, [v3, v3], .bool true⟩
def e5 : PE := ⟨27, [.str [97, 114, 103, 115, 32, 91, 91, 91, 91, 91, 91, 91, 91, 91, 91, 91, 91, 91, 91, 91, 91, 91, 49, 93, 93, 93, 93, 93, 93, 93, 93, 93, 93, 93, 93, 93, 93, 93, 93, 93]], .tup [.agg ([I 6] ++ (List.replicate 11 (I 0)) ++ [.bool false, .bool false, I 0, .psl [[I 4, I 0, .str [], .psl [[I 4, I 0, .str [], .psl [[I 4, I 0, .str [], .psl [[I 4, I 0, .str [], .psl [[I 4, I 0, .str [], .psl [[I 4, I 0, .str [], .psl [[I 4, I 0, .str [], .psl [[I 4, I 0, .str [], .psl [[I 4, I 0, .str [], .psl [[I 4, I 0, .str [], .psl [[I 4, I 0, .str [], .psl [[I 4, I 0, .str [], .psl [[I 4, I 0, .str [], .psl [[I 4, I 0, .str [], .psl [[I 4, I 0, .str [], .psl [[I 4, I 0, .str [], .psl [[I 4, I 0, .str [], .psl [[I 0, I 0, .str [], .nilsl]]]]]]]]]]]]]]]]]]]]]]]]]]]]]]]]]]]]] ++ (List.replicate 5 (I 0)) ++ [.str [], I 0, .nilsl, .nilsl, .nilsl, I 0, I 0, .bool false] ++ (List.replicate 6 (I 0)) ++ [.nilsl, I 0]), .bool false]⟩
end Go.Proofs.YtndpneieplopaaaGreatDoor
end
