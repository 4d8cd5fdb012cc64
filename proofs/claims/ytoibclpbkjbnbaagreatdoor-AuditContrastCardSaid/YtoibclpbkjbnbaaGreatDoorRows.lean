/-
  NARROWER THAN 'FOR EVERY INPUT', by the rows' own cells (each row's printed sentence says how): AuditTargets: laid · AuditContrast: laid · AuditReach: laid.
  DERIVED. THE GIVEN ROWS OF THIS SEAT. 3 by the template 'for every input the law returns true; each argument reads behind the call as it read before'; 0 by the template 'total and deterministic' (their statements: YtoibclpbkjbnbaaGreatDoorTotals.lean).
  GIVEN WITH THE SEED: the statements are not yours to turn. If you find one false, say at which input.
  Laid BY PROGRAM, IN A SANDBOX (cutbox-rows.mjs): the forced cells as the released guide's own fill.sh prints them over the translation 7a8e963c354d0886… (all of the seat's roots in one cut). By AI agents, Wed Nov 11 2026. No macro, syntax, notation, axiom, sorry.
-/
import Derived.Test.YtoibclpbkjbnbaaGreatDoorChecked
import GoSem.PinnedTables
import GoSem.Claim
import GoSem.ClaimJoined
import GoSem.ClaimMapViews
import Derived.JoinedTies
import Derived.KernelRfl
namespace Go.Proofs.YtoibclpbkjbnbaaGreatDoor
/- THE CELL 'sum', in the pinned program and in every row, IS THE sha256 OF THE DUMP (.gsa) THAT YtoibclpbkjbnbaaGreatDoorProg.lean LOADS. Nothing in Lean hashes anything: it is a label: what it is worth is what the hold of that sum in a sandbox is worth. -/
noncomputable def Tryz.pinned : Pinned := { name := "ytoibclpbkjbnbaagreatdoor", sum := "7a8e963c354d0886216f19b4010d661b94b1fd81feafbcb448a6576375e2372e", checked := Tryz.checked }
namespace Rows
def none {H : Type} : Left H := { results := [], args := [] }

/- WHAT THE LISTED PACKAGE-LEVEL VARIABLES READ AS WHEN THE CALL BEGINS. Each datum BY PROGRAM (the guide's laid-datum.mjs) off the statement by which the dump's own 'gosem.cut.vars' lays the variable. In a bare row this is a premise. The card (YtoibclpbkjbnbaaGreatDoorCards.lean) ties it to the program's text. -/
def laid_unicode_utf8_acceptRanges {H : Type} : DataW H := .agg [.agg [.lit (.int .u8 128), .lit (.int .u8 191)], .agg [.lit (.int .u8 160), .lit (.int .u8 191)], .agg [.lit (.int .u8 128), .lit (.int .u8 159)], .agg [.lit (.int .u8 144), .lit (.int .u8 191)], .agg [.lit (.int .u8 128), .lit (.int .u8 143)], .agg [.lit (.int .u8 0), .lit (.int .u8 0)], .agg [.lit (.int .u8 0), .lit (.int .u8 0)], .agg [.lit (.int .u8 0), .lit (.int .u8 0)], .agg [.lit (.int .u8 0), .lit (.int .u8 0)], .agg [.lit (.int .u8 0), .lit (.int .u8 0)], .agg [.lit (.int .u8 0), .lit (.int .u8 0)], .agg [.lit (.int .u8 0), .lit (.int .u8 0)], .agg [.lit (.int .u8 0), .lit (.int .u8 0)], .agg [.lit (.int .u8 0), .lit (.int .u8 0)], .agg [.lit (.int .u8 0), .lit (.int .u8 0)], .agg [.lit (.int .u8 0), .lit (.int .u8 0)]]
def laid_widgetry_style_properties {H : Type} : DataW H := .agg [.agg [.lit (.bool true), .lit (.int .i64 0), .lit (.int .i64 16777215), .lit (.int .i64 0)], .agg [.lit (.bool false), .lit (.int .i64 (-1)), .lit (.int .i64 16777215), .lit (.int .i64 (-1))], .agg [.lit (.bool true), .lit (.int .i64 1), .lit (.int .i64 1000), .lit (.int .i64 16)], .agg [.lit (.bool true), .lit (.int .i64 0), .lit (.int .i64 7), .lit (.int .i64 0)], .agg [.lit (.bool true), .lit (.int .i64 0), .lit (.int .i64 1), .lit (.int .i64 0)], .agg [.lit (.bool false), .lit (.int .i64 0), .lit (.int .i64 4), .lit (.int .i64 1)], .agg [.lit (.bool false), .lit (.int .i64 0), .lit (.int .i64 4), .lit (.int .i64 3)], .agg [.lit (.bool false), .lit (.int .i64 0), .lit (.int .i64 3), .lit (.int .i64 0)], .agg [.lit (.bool true), .lit (.int .i64 0), .lit (.int .i64 2), .lit (.int .i64 0)], .agg [.lit (.bool false), .lit (.int .i64 0), .lit (.int .i64 1048576), .lit (.int .i64 0)], .agg [.lit (.bool false), .lit (.int .i64 0), .lit (.int .i64 1000), .lit (.int .i64 0)], .agg [.lit (.bool false), .lit (.int .i64 0), .lit (.int .i64 1000), .lit (.int .i64 1)], .agg [.lit (.bool false), .lit (.int .i64 (-1)), .lit (.int .i64 1048576), .lit (.int .i64 (-1))], .agg [.lit (.bool false), .lit (.int .i64 0), .lit (.int .i64 1048576), .lit (.int .i64 0)], .agg [.lit (.bool false), .lit (.int .i64 0), .lit (.int .i64 1048576), .lit (.int .i64 1048576)], .agg [.lit (.bool false), .lit (.int .i64 0), .lit (.int .i64 1048576), .lit (.int .i64 0)], .agg [.lit (.bool false), .lit (.int .i64 0), .lit (.int .i64 1048576), .lit (.int .i64 1048576)], .agg [.lit (.bool false), .lit (.int .i64 0), .lit (.int .i64 1048576), .lit (.int .i64 0)], .agg [.lit (.bool false), .lit (.int .i64 0), .lit (.int .i64 1048576), .lit (.int .i64 0)], .agg [.lit (.bool false), .lit (.int .i64 0), .lit (.int .i64 1048576), .lit (.int .i64 0)], .agg [.lit (.bool false), .lit (.int .i64 0), .lit (.int .i64 1048576), .lit (.int .i64 0)], .agg [.lit (.bool true), .lit (.int .i64 0), .lit (.int .i64 1), .lit (.int .i64 0)]]
/-- One of Go's own tables, pinned by name: the form's constant. -/
def laid_unicode_utf8_first : DataW Unit := Go.Pinned.utf8First

/-- 'widgetrylaw43.AuditTargets': WHATEVER THE INPUT: true; the input reads as it did. -/
def auditTargetsSpec : ChangeSpec := { name := "auditTargets", fn := fun _ => fun
  | [d1, d2, d3] => { results := [.lit (.bool true)], args := [d1, d2, d3] }
  | _ => none }
def auditTargetsRow : OpenClaim := { program := "ytoibclpbkjbnbaagreatdoor", sum := "7a8e963c354d0886216f19b4010d661b94b1fd81feafbcb448a6576375e2372e", func := "widgetry/widgetrylaw43.AuditTargets", spec := "auditTargets", unfollowed := true, recurses := true, named := ["unicode/utf8.first", "unicode/utf8.acceptRanges", "widgetry/style.properties"], plainKeys := false, apart := false, laid := [("unicode/utf8.acceptRanges", laid_unicode_utf8_acceptRanges), ("widgetry/style.properties", laid_widgetry_style_properties), ("unicode/utf8.first", laid_unicode_utf8_first)] }
def AuditTargetsSaid : Prop := auditTargetsRow.holds Tryz.pinned (OpenSpec.ofChange auditTargetsSpec)

/-- ITS FALSE NEIGHBOUR: 'it returns false'. Refute it at one input. -/
def auditTargetsWrong : ChangeSpec := { name := "auditTargets", fn := fun _ => fun
  | [d1, d2, d3] => { results := [.lit (.bool false)], args := [d1, d2, d3] }
  | _ => none }
def AuditTargetsWrongFalsely : Prop := auditTargetsRow.holds Tryz.pinned (OpenSpec.ofChange auditTargetsWrong)

/-- 'widgetrylaw43.AuditContrast': WHATEVER THE INPUT: true; the input reads as it did. -/
def auditContrastSpec : ChangeSpec := { name := "auditContrast", fn := fun _ => fun
  | [d1, d2, d3, d4] => { results := [.lit (.bool true)], args := [d1, d2, d3, d4] }
  | _ => none }
def auditContrastRow : OpenClaim := { program := "ytoibclpbkjbnbaagreatdoor", sum := "7a8e963c354d0886216f19b4010d661b94b1fd81feafbcb448a6576375e2372e", func := "widgetry/widgetrylaw43.AuditContrast", spec := "auditContrast", unfollowed := true, recurses := true, named := ["unicode/utf8.first", "unicode/utf8.acceptRanges", "widgetry/style.properties"], plainKeys := false, apart := false, laid := [("unicode/utf8.acceptRanges", laid_unicode_utf8_acceptRanges), ("widgetry/style.properties", laid_widgetry_style_properties), ("unicode/utf8.first", laid_unicode_utf8_first)] }
def AuditContrastSaid : Prop := auditContrastRow.holds Tryz.pinned (OpenSpec.ofChange auditContrastSpec)

/-- ITS FALSE NEIGHBOUR: 'it returns false'. Refute it at one input. -/
def auditContrastWrong : ChangeSpec := { name := "auditContrast", fn := fun _ => fun
  | [d1, d2, d3, d4] => { results := [.lit (.bool false)], args := [d1, d2, d3, d4] }
  | _ => none }
def AuditContrastWrongFalsely : Prop := auditContrastRow.holds Tryz.pinned (OpenSpec.ofChange auditContrastWrong)

/-- 'widgetrylaw43.AuditReach': WHATEVER THE INPUT: true; the input reads as it did. -/
def auditReachSpec : ChangeSpec := { name := "auditReach", fn := fun _ => fun
  | [d1, d2, d3] => { results := [.lit (.bool true)], args := [d1, d2, d3] }
  | _ => none }
def auditReachRow : OpenClaim := { program := "ytoibclpbkjbnbaagreatdoor", sum := "7a8e963c354d0886216f19b4010d661b94b1fd81feafbcb448a6576375e2372e", func := "widgetry/widgetrylaw43.AuditReach", spec := "auditReach", unfollowed := true, recurses := true, named := ["unicode/utf8.first", "unicode/utf8.acceptRanges", "widgetry/style.properties"], plainKeys := false, apart := false, laid := [("unicode/utf8.acceptRanges", laid_unicode_utf8_acceptRanges), ("widgetry/style.properties", laid_widgetry_style_properties), ("unicode/utf8.first", laid_unicode_utf8_first)] }
def AuditReachSaid : Prop := auditReachRow.holds Tryz.pinned (OpenSpec.ofChange auditReachSpec)

/-- ITS FALSE NEIGHBOUR: 'it returns false'. Refute it at one input. -/
def auditReachWrong : ChangeSpec := { name := "auditReach", fn := fun _ => fun
  | [d1, d2, d3] => { results := [.lit (.bool false)], args := [d1, d2, d3] }
  | _ => none }
def AuditReachWrongFalsely : Prop := auditReachRow.holds Tryz.pinned (OpenSpec.ofChange auditReachWrong)

/- THE SECOND FORM. 'bulk': how many values and letters a reading holds, each counted each time it is reached (what is shared counts as often as it is met; a slice's spare places count too). A statement '..UptoSaid' is the law's where the arguments, and the package variables that the reading takes, are together of bulk at most 1048576: NARROWER than '..Said'. Prove '..Said' where nothing that the law and all that it calls make is longer than what came in: it says more and counts as full. Else prove '..UptoSaid'. A law counts once. -/
mutual
def uptoBulk {H : Type} : DataW H → Nat
  | .lit (.string bytes) => bytes.length + 1
  | .lit _ => 1
  | .nil => 1
  | .ptr d => uptoBulk d + 1
  | .slice elems spare => uptoBulkAll elems + uptoBulkAll spare + 1
  | .agg parts => uptoBulkAll parts + 1
  | .iface _ d => uptoBulk d + 1
  | .map entries => uptoBulkEntries entries + 1
  | .held _ => 1
def uptoBulkAll {H : Type} : List (DataW H) → Nat
  | [] => 0
  | d :: r => uptoBulk d + uptoBulkAll r
def uptoBulkEntries {H : Type} : List (Lit × DataW H) → Nat
  | [] => 0
  | x :: r => uptoBulkEntry x + uptoBulkEntries r
def uptoBulkEntry {H : Type} : Lit × DataW H → Nat
  | (.string bytes, d) => bytes.length + uptoBulk d + 1
  | (_, d) => uptoBulk d + 1
 end
def uptoSmall : (H : Type) → List (DataW H) → Bool := fun _ ds => decide (uptoBulkAll ds ≤ 1048576)
def OpenSpec.upto (s : _root_.Go.ChangeSpec) : _root_.Go.OpenSpec := { _root_.Go.OpenSpec.ofChange s with cond := some uptoSmall }

/-- 'widgetrylaw43.AuditTargets', WHERE WHAT IT READS IS OF BULK AT MOST 1048576: true; the input reads as it did. -/
def auditTargetsUptoRow : OpenClaim := { program := "ytoibclpbkjbnbaagreatdoor", sum := "7a8e963c354d0886216f19b4010d661b94b1fd81feafbcb448a6576375e2372e", func := "widgetry/widgetrylaw43.AuditTargets", spec := "auditTargets", unfollowed := true, recurses := true, named := ["unicode/utf8.first", "unicode/utf8.acceptRanges", "widgetry/style.properties"], plainKeys := false, apart := false, laid := [("unicode/utf8.acceptRanges", laid_unicode_utf8_acceptRanges), ("widgetry/style.properties", laid_widgetry_style_properties), ("unicode/utf8.first", laid_unicode_utf8_first)], narrowed := true }
def AuditTargetsUptoSaid : Prop := auditTargetsUptoRow.holds Tryz.pinned (OpenSpec.upto auditTargetsSpec)

/-- 'widgetrylaw43.AuditContrast', WHERE WHAT IT READS IS OF BULK AT MOST 1048576: true; the input reads as it did. -/
def auditContrastUptoRow : OpenClaim := { program := "ytoibclpbkjbnbaagreatdoor", sum := "7a8e963c354d0886216f19b4010d661b94b1fd81feafbcb448a6576375e2372e", func := "widgetry/widgetrylaw43.AuditContrast", spec := "auditContrast", unfollowed := true, recurses := true, named := ["unicode/utf8.first", "unicode/utf8.acceptRanges", "widgetry/style.properties"], plainKeys := false, apart := false, laid := [("unicode/utf8.acceptRanges", laid_unicode_utf8_acceptRanges), ("widgetry/style.properties", laid_widgetry_style_properties), ("unicode/utf8.first", laid_unicode_utf8_first)], narrowed := true }
def AuditContrastUptoSaid : Prop := auditContrastUptoRow.holds Tryz.pinned (OpenSpec.upto auditContrastSpec)

/-- 'widgetrylaw43.AuditReach', WHERE WHAT IT READS IS OF BULK AT MOST 1048576: true; the input reads as it did. -/
def auditReachUptoRow : OpenClaim := { program := "ytoibclpbkjbnbaagreatdoor", sum := "7a8e963c354d0886216f19b4010d661b94b1fd81feafbcb448a6576375e2372e", func := "widgetry/widgetrylaw43.AuditReach", spec := "auditReach", unfollowed := true, recurses := true, named := ["unicode/utf8.first", "unicode/utf8.acceptRanges", "widgetry/style.properties"], plainKeys := false, apart := false, laid := [("unicode/utf8.acceptRanges", laid_unicode_utf8_acceptRanges), ("widgetry/style.properties", laid_widgetry_style_properties), ("unicode/utf8.first", laid_unicode_utf8_first)], narrowed := true }
def AuditReachUptoSaid : Prop := auditReachUptoRow.holds Tryz.pinned (OpenSpec.upto auditReachSpec)

end Rows
end Go.Proofs.YtoibclpbkjbnbaaGreatDoor
