/-
  No cell of these rows narrows 'for every input' (looked for: loops, veiled, ifaces, maps, wideKeys, modest, calm, conditions, laid).
  DERIVED. THE GIVEN ROWS OF THIS SEAT. 7 by the template 'for every input the law returns true; each argument reads behind the call as it read before'; 0 by the template 'total and deterministic' (their statements: YtpnekpbehcbmkaaTotals.lean).
  GIVEN WITH THE SEED: the statements are not yours to turn. If you find one false, say at which input.
  Laid BY PROGRAM, IN A SANDBOX (cutbox-rows.mjs): the forced cells as the released guide's own fill.sh prints them over the translation 2b35ff29babad92f… (all of the seat's roots in one cut). By AI agents, Wed Nov 11 2026. No macro, syntax, notation, axiom, sorry.
-/
import Derived.Test.YtpnekpbehcbmkaaChecked
import GoSem.Claim
import GoSem.ClaimJoined
import GoSem.ClaimMapViews
import Derived.JoinedTies
import Derived.KernelRfl
namespace Go.Proofs.Ytpnekpbehcbmkaa
/- THE CELL 'sum', in the pinned program and in every row, IS THE sha256 OF THE DUMP (.gsa) THAT YtpnekpbehcbmkaaProg.lean LOADS. Nothing in Lean hashes anything: it is a label: what it is worth is what the hold of that sum in a sandbox is worth. -/
noncomputable def Try.pinned : Pinned := { name := "ytpnekpbehcbmkaa", sum := "2b35ff29babad92f5ad4d109173a319aab1f036874c1e41cc6ab6c7d4bff49a9", checked := Try.checked }
namespace Rows
def none {H : Type} : Left H := { results := [], args := [] }

/-- 'widgetrylaw24.DisplayRaw': WHATEVER THE INPUT: true; the input reads as it did. -/
def displayRawSpec : ChangeSpec := { name := "displayRaw", fn := fun _ => fun
  | [d1, d2, d3] => { results := [.lit (.bool true)], args := [d1, d2, d3] }
  | _ => none }
def displayRawRow : OpenClaim := { program := "ytpnekpbehcbmkaa", sum := "2b35ff29babad92f5ad4d109173a319aab1f036874c1e41cc6ab6c7d4bff49a9", func := "widgetry/widgetrylaw24.DisplayRaw", spec := "displayRaw", unfollowed := true, recurses := true, apart := false }
def DisplayRawSaid : Prop := displayRawRow.holds Try.pinned (OpenSpec.ofChange displayRawSpec)

/-- ITS FALSE NEIGHBOUR: 'it returns false'. Refute it at one input. -/
def displayRawWrong : ChangeSpec := { name := "displayRaw", fn := fun _ => fun
  | [d1, d2, d3] => { results := [.lit (.bool false)], args := [d1, d2, d3] }
  | _ => none }
def DisplayRawWrongFalsely : Prop := displayRawRow.holds Try.pinned (OpenSpec.ofChange displayRawWrong)

/-- 'widgetrylaw24.DisplayPixels': WHATEVER THE INPUT: true; the input reads as it did. -/
def displayPixelsSpec : ChangeSpec := { name := "displayPixels", fn := fun _ => fun
  | [d] => { results := [.lit (.bool true)], args := [d] }
  | _ => none }
def displayPixelsRow : OpenClaim := { program := "ytpnekpbehcbmkaa", sum := "2b35ff29babad92f5ad4d109173a319aab1f036874c1e41cc6ab6c7d4bff49a9", func := "widgetry/widgetrylaw24.DisplayPixels", spec := "displayPixels", unfollowed := true, recurses := true, apart := false }
def DisplayPixelsSaid : Prop := displayPixelsRow.holds Try.pinned (OpenSpec.ofChange displayPixelsSpec)

/-- ITS FALSE NEIGHBOUR: 'it returns false'. Refute it at one input. -/
def displayPixelsWrong : ChangeSpec := { name := "displayPixels", fn := fun _ => fun
  | [d] => { results := [.lit (.bool false)], args := [d] }
  | _ => none }
def DisplayPixelsWrongFalsely : Prop := displayPixelsRow.holds Try.pinned (OpenSpec.ofChange displayPixelsWrong)

/-- 'widgetrylaw24.DisplayDamages': WHATEVER THE INPUT: true; the input reads as it did. -/
def displayDamagesSpec : ChangeSpec := { name := "displayDamages", fn := fun _ => fun
  | [d1, d2] => { results := [.lit (.bool true)], args := [d1, d2] }
  | _ => none }
def displayDamagesRow : OpenClaim := { program := "ytpnekpbehcbmkaa", sum := "2b35ff29babad92f5ad4d109173a319aab1f036874c1e41cc6ab6c7d4bff49a9", func := "widgetry/widgetrylaw24.DisplayDamages", spec := "displayDamages", unfollowed := true, recurses := true, apart := false }
def DisplayDamagesSaid : Prop := displayDamagesRow.holds Try.pinned (OpenSpec.ofChange displayDamagesSpec)

/-- ITS FALSE NEIGHBOUR: 'it returns false'. Refute it at one input. -/
def displayDamagesWrong : ChangeSpec := { name := "displayDamages", fn := fun _ => fun
  | [d1, d2] => { results := [.lit (.bool false)], args := [d1, d2] }
  | _ => none }
def DisplayDamagesWrongFalsely : Prop := displayDamagesRow.holds Try.pinned (OpenSpec.ofChange displayDamagesWrong)

/-- 'widgetrylaw24.DisplayQuiet': WHATEVER THE INPUT: true; the input reads as it did. -/
def displayQuietSpec : ChangeSpec := { name := "displayQuiet", fn := fun _ => fun
  | [d] => { results := [.lit (.bool true)], args := [d] }
  | _ => none }
def displayQuietRow : OpenClaim := { program := "ytpnekpbehcbmkaa", sum := "2b35ff29babad92f5ad4d109173a319aab1f036874c1e41cc6ab6c7d4bff49a9", func := "widgetry/widgetrylaw24.DisplayQuiet", spec := "displayQuiet", unfollowed := true, recurses := true, apart := false }
def DisplayQuietSaid : Prop := displayQuietRow.holds Try.pinned (OpenSpec.ofChange displayQuietSpec)

/-- ITS FALSE NEIGHBOUR: 'it returns false'. Refute it at one input. -/
def displayQuietWrong : ChangeSpec := { name := "displayQuiet", fn := fun _ => fun
  | [d] => { results := [.lit (.bool false)], args := [d] }
  | _ => none }
def DisplayQuietWrongFalsely : Prop := displayQuietRow.holds Try.pinned (OpenSpec.ofChange displayQuietWrong)

/-- 'widgetrylaw24.DisplayDiffs': WHATEVER THE INPUT: true; the input reads as it did. -/
def displayDiffsSpec : ChangeSpec := { name := "displayDiffs", fn := fun _ => fun
  | [d1, d2] => { results := [.lit (.bool true)], args := [d1, d2] }
  | _ => none }
def displayDiffsRow : OpenClaim := { program := "ytpnekpbehcbmkaa", sum := "2b35ff29babad92f5ad4d109173a319aab1f036874c1e41cc6ab6c7d4bff49a9", func := "widgetry/widgetrylaw24.DisplayDiffs", spec := "displayDiffs", inPlace := ["slices.overlaps[widgetry/api.Command]"], unfollowed := true, recurses := true, apart := false }
def DisplayDiffsSaid : Prop := displayDiffsRow.holds Try.pinned (OpenSpec.ofChange displayDiffsSpec)

/-- ITS FALSE NEIGHBOUR: 'it returns false'. Refute it at one input. -/
def displayDiffsWrong : ChangeSpec := { name := "displayDiffs", fn := fun _ => fun
  | [d1, d2] => { results := [.lit (.bool false)], args := [d1, d2] }
  | _ => none }
def DisplayDiffsWrongFalsely : Prop := displayDiffsRow.holds Try.pinned (OpenSpec.ofChange displayDiffsWrong)

/-- 'widgetrylaw24.DisplayApplies': WHATEVER THE INPUT: true; the input reads as it did. -/
def displayAppliesSpec : ChangeSpec := { name := "displayApplies", fn := fun _ => fun
  | [d1, d2] => { results := [.lit (.bool true)], args := [d1, d2] }
  | _ => none }
def displayAppliesRow : OpenClaim := { program := "ytpnekpbehcbmkaa", sum := "2b35ff29babad92f5ad4d109173a319aab1f036874c1e41cc6ab6c7d4bff49a9", func := "widgetry/widgetrylaw24.DisplayApplies", spec := "displayApplies", inPlace := ["slices.overlaps[widgetry/api.Command]"], unfollowed := true, recurses := true, apart := false }
def DisplayAppliesSaid : Prop := displayAppliesRow.holds Try.pinned (OpenSpec.ofChange displayAppliesSpec)

/-- ITS FALSE NEIGHBOUR: 'it returns false'. Refute it at one input. -/
def displayAppliesWrong : ChangeSpec := { name := "displayApplies", fn := fun _ => fun
  | [d1, d2] => { results := [.lit (.bool false)], args := [d1, d2] }
  | _ => none }
def DisplayAppliesWrongFalsely : Prop := displayAppliesRow.holds Try.pinned (OpenSpec.ofChange displayAppliesWrong)

/-- 'widgetrylaw24.DisplayLimits': WHATEVER THE INPUT: true; the input reads as it did. -/
def displayLimitsSpec : ChangeSpec := { name := "displayLimits", fn := fun _ => fun
  | [d] => { results := [.lit (.bool true)], args := [d] }
  | _ => none }
def displayLimitsRow : OpenClaim := { program := "ytpnekpbehcbmkaa", sum := "2b35ff29babad92f5ad4d109173a319aab1f036874c1e41cc6ab6c7d4bff49a9", func := "widgetry/widgetrylaw24.DisplayLimits", spec := "displayLimits", inPlace := ["slices.overlaps[widgetry/api.Command]"], unfollowed := true, recurses := true, apart := false }
def DisplayLimitsSaid : Prop := displayLimitsRow.holds Try.pinned (OpenSpec.ofChange displayLimitsSpec)

/-- ITS FALSE NEIGHBOUR: 'it returns false'. Refute it at one input. -/
def displayLimitsWrong : ChangeSpec := { name := "displayLimits", fn := fun _ => fun
  | [d] => { results := [.lit (.bool false)], args := [d] }
  | _ => none }
def DisplayLimitsWrongFalsely : Prop := displayLimitsRow.holds Try.pinned (OpenSpec.ofChange displayLimitsWrong)

/- THE SECOND FORM. 'bulk': how many values and letters a reading holds, each counted each time it is reached (what is shared counts as often as it is met; a slice's spare places count too). A statement '..UptoSaid' is the law's where the arguments, and the package variables that the reading takes, are together of bulk at most 1048576: NARROWER than '..Said'. Prove '..Said' where nothing that the law and all that it calls make is longer than what came in: it says more and counts as full. Else prove '..UptoSaid'. A law counts once. -/
mutual
def uptoBulk {H : Type} : DataW H → Nat
  | .lit (.string bytes) => bytes.length + 1
  | .lit _ => 1
  | .nil => 1
  | .ptr d => uptoBulk d + 1
  | .slice elems spare => uptoBulkAll elems + uptoBulkAll spare + 1
  | .agg parts => uptoBulkAll parts + 1
  | .iface _ d => uptoBulk d + 1
  | .map entries => uptoBulkEntries entries + 1
  | .held _ => 1
def uptoBulkAll {H : Type} : List (DataW H) → Nat
  | [] => 0
  | d :: r => uptoBulk d + uptoBulkAll r
def uptoBulkEntries {H : Type} : List (Lit × DataW H) → Nat
  | [] => 0
  | x :: r => uptoBulkEntry x + uptoBulkEntries r
def uptoBulkEntry {H : Type} : Lit × DataW H → Nat
  | (.string bytes, d) => bytes.length + uptoBulk d + 1
  | (_, d) => uptoBulk d + 1
 end
def uptoSmall : (H : Type) → List (DataW H) → Bool := fun _ ds => decide (uptoBulkAll ds ≤ 1048576)
def OpenSpec.upto (s : _root_.Go.ChangeSpec) : _root_.Go.OpenSpec := { _root_.Go.OpenSpec.ofChange s with cond := some uptoSmall }

/-- 'widgetrylaw24.DisplayRaw', WHERE WHAT IT READS IS OF BULK AT MOST 1048576: true; the input reads as it did. -/
def displayRawUptoRow : OpenClaim := { program := "ytpnekpbehcbmkaa", sum := "2b35ff29babad92f5ad4d109173a319aab1f036874c1e41cc6ab6c7d4bff49a9", func := "widgetry/widgetrylaw24.DisplayRaw", spec := "displayRaw", unfollowed := true, recurses := true, apart := false, narrowed := true }
def DisplayRawUptoSaid : Prop := displayRawUptoRow.holds Try.pinned (OpenSpec.upto displayRawSpec)

/-- 'widgetrylaw24.DisplayPixels', WHERE WHAT IT READS IS OF BULK AT MOST 1048576: true; the input reads as it did. -/
def displayPixelsUptoRow : OpenClaim := { program := "ytpnekpbehcbmkaa", sum := "2b35ff29babad92f5ad4d109173a319aab1f036874c1e41cc6ab6c7d4bff49a9", func := "widgetry/widgetrylaw24.DisplayPixels", spec := "displayPixels", unfollowed := true, recurses := true, apart := false, narrowed := true }
def DisplayPixelsUptoSaid : Prop := displayPixelsUptoRow.holds Try.pinned (OpenSpec.upto displayPixelsSpec)

/-- 'widgetrylaw24.DisplayDamages', WHERE WHAT IT READS IS OF BULK AT MOST 1048576: true; the input reads as it did. -/
def displayDamagesUptoRow : OpenClaim := { program := "ytpnekpbehcbmkaa", sum := "2b35ff29babad92f5ad4d109173a319aab1f036874c1e41cc6ab6c7d4bff49a9", func := "widgetry/widgetrylaw24.DisplayDamages", spec := "displayDamages", unfollowed := true, recurses := true, apart := false, narrowed := true }
def DisplayDamagesUptoSaid : Prop := displayDamagesUptoRow.holds Try.pinned (OpenSpec.upto displayDamagesSpec)

/-- 'widgetrylaw24.DisplayQuiet', WHERE WHAT IT READS IS OF BULK AT MOST 1048576: true; the input reads as it did. -/
def displayQuietUptoRow : OpenClaim := { program := "ytpnekpbehcbmkaa", sum := "2b35ff29babad92f5ad4d109173a319aab1f036874c1e41cc6ab6c7d4bff49a9", func := "widgetry/widgetrylaw24.DisplayQuiet", spec := "displayQuiet", unfollowed := true, recurses := true, apart := false, narrowed := true }
def DisplayQuietUptoSaid : Prop := displayQuietUptoRow.holds Try.pinned (OpenSpec.upto displayQuietSpec)

/-- 'widgetrylaw24.DisplayDiffs', WHERE WHAT IT READS IS OF BULK AT MOST 1048576: true; the input reads as it did. -/
def displayDiffsUptoRow : OpenClaim := { program := "ytpnekpbehcbmkaa", sum := "2b35ff29babad92f5ad4d109173a319aab1f036874c1e41cc6ab6c7d4bff49a9", func := "widgetry/widgetrylaw24.DisplayDiffs", spec := "displayDiffs", inPlace := ["slices.overlaps[widgetry/api.Command]"], unfollowed := true, recurses := true, apart := false, narrowed := true }
def DisplayDiffsUptoSaid : Prop := displayDiffsUptoRow.holds Try.pinned (OpenSpec.upto displayDiffsSpec)

/-- 'widgetrylaw24.DisplayApplies', WHERE WHAT IT READS IS OF BULK AT MOST 1048576: true; the input reads as it did. -/
def displayAppliesUptoRow : OpenClaim := { program := "ytpnekpbehcbmkaa", sum := "2b35ff29babad92f5ad4d109173a319aab1f036874c1e41cc6ab6c7d4bff49a9", func := "widgetry/widgetrylaw24.DisplayApplies", spec := "displayApplies", inPlace := ["slices.overlaps[widgetry/api.Command]"], unfollowed := true, recurses := true, apart := false, narrowed := true }
def DisplayAppliesUptoSaid : Prop := displayAppliesUptoRow.holds Try.pinned (OpenSpec.upto displayAppliesSpec)

/-- 'widgetrylaw24.DisplayLimits', WHERE WHAT IT READS IS OF BULK AT MOST 1048576: true; the input reads as it did. -/
def displayLimitsUptoRow : OpenClaim := { program := "ytpnekpbehcbmkaa", sum := "2b35ff29babad92f5ad4d109173a319aab1f036874c1e41cc6ab6c7d4bff49a9", func := "widgetry/widgetrylaw24.DisplayLimits", spec := "displayLimits", inPlace := ["slices.overlaps[widgetry/api.Command]"], unfollowed := true, recurses := true, apart := false, narrowed := true }
def DisplayLimitsUptoSaid : Prop := displayLimitsUptoRow.holds Try.pinned (OpenSpec.upto displayLimitsSpec)

end Rows
end Go.Proofs.Ytpnekpbehcbmkaa
