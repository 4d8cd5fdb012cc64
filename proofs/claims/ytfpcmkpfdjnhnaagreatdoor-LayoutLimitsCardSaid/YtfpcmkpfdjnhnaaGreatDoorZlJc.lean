/- Closed facts of the row, second part. Closed facts of the row, joined. -/
import Derived.Test.YtfpcmkpfdjnhnaaGreatDoorRows
import Derived.JoinedOf
import Derived.KernelRfl
import Derived.Test.YtfpcmkpfdjnhnaaGreatDoorZlJa
set_option linter.unusedSimpArgs false
set_option linter.unusedVariables false
set_option linter.unnecessarySimpa false
noncomputable section
namespace Go.Proofs.YtfpcmkpfdjnhnaaGreatDoor
set_option maxRecDepth 100000
theorem jf10 : ((Rows.layoutLimitsRow.unfollowed == Tryz.prog.unfollowed 3)) = true := by kernel_rfl
theorem jf11 : ((Rows.layoutLimitsRow.recurses == Tryz.prog.recurses 3)) = true := by kernel_rfl
theorem jf13 : ((Rows.layoutLimitsRow.maps == (Tryz.f3.params.toList ++ Rows.layoutLimitsSpec.plain.varTypes Tryz.prog).any (Tryz.prog.mapsRec ·))) = true := by kernel_rfl
theorem jf14 : ((Rows.layoutLimitsRow.ifaces == (Tryz.f3.params.toList ++ Rows.layoutLimitsSpec.plain.varTypes Tryz.prog).any (Tryz.prog.ifacesRec ·))) = true := by kernel_rfl
theorem jf15 : ((Rows.layoutLimitsRow.mapsOut == Tryz.prog.mapsAmong Tryz.f3.resultTypes.toList)) = true := by kernel_rfl
theorem jf16 : ((Rows.layoutLimitsRow.loops == (Tryz.f3.params.toList ++ Rows.layoutLimitsSpec.plain.varTypes Tryz.prog).any (Tryz.prog.loopsFrom ·))) = true := by kernel_rfl
theorem jf17 : ((Rows.layoutLimitsRow.wideKeys == (Tryz.f3.params.toList ++ Rows.layoutLimitsSpec.plain.varTypes Tryz.prog ++ Tryz.f3.resultTypes.toList).any (Tryz.prog.wideKeysFrom ·))) = true := by kernel_rfl
theorem jf18 : (Rows.layoutLimitsSpec.vars.all (Tryz.prog.varReadable ·)) = true := by kernel_rfl
theorem jf19 : (Tryz.f3.resultTypes.all (fun t => Tryz.prog.readableRec t && decide (t < Tryz.prog.types.size))) = true := by kernel_rfl
theorem jf20 : ((Rows.layoutLimitsRow.ifacesOut == Tryz.f3.resultTypes.toList.any (Tryz.prog.ifacesRec ·))) = true := by kernel_rfl
theorem jf21 : ((Rows.layoutLimitsRow.loopsOut == Tryz.f3.resultTypes.toList.any (Tryz.prog.loopsFrom ·))) = true := by kernel_rfl
theorem jf22 : ((Rows.layoutLimitsRow.plainKeys == Tryz.prog.plainKeys)) = true := by kernel_rfl
theorem jf23 : (Rows.layoutLimitsRow.shortTexts.isNone) = true := by kernel_rfl
theorem jf24 : (Tryz.prog.stopsHeard) = true := by kernel_rfl
theorem jf25 : (Tryz.prog.mayEnter) = true := by kernel_rfl
theorem jf26 : ((Rows.layoutLimitsRow.lifted == Tryz.prog.liftsFinal)) = true := by kernel_rfl
theorem jf27 : ((Tryz.prog.make == some Rows.layoutLimitsRow.make)) = true := by kernel_rfl
theorem jf28 : ((Rows.layoutLimitsRow.kinds == (if Rows.layoutLimitsRow.domain.isEmpty then [] else Tryz.f3.params.toList.map fun t => match Tryz.prog.underlying t with | some (.int k) => some k | _ => none))) = true := by kernel_rfl
theorem jf29 : ((Rows.layoutLimitsRow.pinned == Rows.layoutLimitsRow.pinnedBy)) = true := by kernel_rfl
theorem jf30 : ((Rows.layoutLimitsRow.veiled == (Tryz.f3.params.toList ++ Rows.layoutLimitsSpec.plain.varTypes Tryz.prog ++ Tryz.f3.resultTypes.toList).any (Tryz.prog.veiledRec ·))) = true := by kernel_rfl
theorem jf31 : (Rows.layoutLimitsRow.veiledFits Tryz.prog Tryz.f3.params.toList (Tryz.f3.params.toList ++ Rows.layoutLimitsSpec.plain.varTypes Tryz.prog ++ Tryz.f3.resultTypes.toList)) = true := by kernel_rfl
end Go.Proofs.YtfpcmkpfdjnhnaaGreatDoor
end
noncomputable section
set_option maxRecDepth 100000
namespace Go.Proofs.YtfpcmkpfdjnhnaaGreatDoor
theorem at2 {a b : Bool} (h : a = true) (k : b = true) : (a && b) = true := by rw [h, k]; rfl
theorem facts : joinedFacts Tryz.prog 3 Tryz.f3 Rows.layoutLimitsSpec Rows.layoutLimitsRow = true := by
  delta joinedFacts
  refine at2 ?_ jf31
  refine at2 ?_ jf30
  refine at2 ?_ jf29
  refine at2 ?_ jf28
  refine at2 ?_ jf27
  refine at2 ?_ jf26
  refine at2 ?_ jf25
  refine at2 ?_ jf24
  refine at2 ?_ jf23
  refine at2 ?_ jf22
  refine at2 ?_ jf21
  refine at2 ?_ jf20
  refine at2 ?_ jf19
  refine at2 ?_ jf18
  refine at2 ?_ jf17
  refine at2 ?_ jf16
  refine at2 ?_ jf15
  refine at2 ?_ jf14
  refine at2 ?_ jf13
  refine at2 ?_ jf12
  refine at2 ?_ jf11
  refine at2 ?_ jf10
  refine at2 ?_ jf9
  refine at2 ?_ jf8
  refine at2 ?_ jf7
  refine at2 ?_ jf6
  refine at2 ?_ jf5
  refine at2 ?_ jf4
  refine at2 ?_ jf3
  refine at2 ?_ jf2
  refine at2 ?_ jf1
  exact jf0
end Go.Proofs.YtfpcmkpfdjnhnaaGreatDoor
end
