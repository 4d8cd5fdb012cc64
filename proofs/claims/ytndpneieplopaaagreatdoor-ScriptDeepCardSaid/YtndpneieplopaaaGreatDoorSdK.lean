/- The calls that were found hold wherever the variable reads so. -/
import Derived.Test.YtndpneieplopaaaGreatDoorSdR0
import Derived.Test.YtndpneieplopaaaGreatDoorSdR1
set_option linter.unusedSimpArgs false
set_option linter.unusedVariables false
set_option linter.unnecessarySimpa false
noncomputable section
namespace Go.Proofs.YtndpneieplopaaaGreatDoor
open Go.Eng
theorem k0 : PVOk Tryz.prog 2 props e0 := pxOk_ok (X_ok noF_ok) hpl r0
theorem k1 : GVOk Tryz.prog 2 props e1 := gxOk_ok (X_ok noF_ok) hpl r1
theorem k2 : PVOk Tryz.prog 2 props e2 := pxOk_ok (X_ok noF_ok) hpl r2
theorem k3 : PVOk Tryz.prog 2 props e3 := pxOk_ok (X_ok noF_ok) hpl r3
theorem k4 : GVOk Tryz.prog 2 props e4 := gxOk_ok (X_ok noF_ok) hpl r4
theorem k5 : PVOk Tryz.prog 2 props e5 := pxOk_ok (X_ok noF_ok) hpl r5
theorem K0 : FOk Tryz.prog (hor (pX 2 props (.one 27 [e0, e2])) (gX 2 props (.one 74 [e1]))) := (hor_ok (pX_ok (t := (.one 27 [e0, e2])) (fun e he => by
  simp only [List.mem_cons, List.not_mem_nil, or_false] at he
  rcases he with rfl | rfl
  · exact ⟨rfl, k0⟩
  · exact ⟨rfl, k2⟩)) (gX_ok (t := (.one 74 [e1])) (fun e he => by
  simp only [List.mem_cons, List.not_mem_nil, or_false] at he
  rcases he with rfl
  · exact ⟨rfl, k1⟩)))
theorem K1 : FOk Tryz.prog (hor (pX 2 props (.one 27 [e3, e2])) (gX 2 props (.one 74 [e4]))) := (hor_ok (pX_ok (t := (.one 27 [e3, e2])) (fun e he => by
  simp only [List.mem_cons, List.not_mem_nil, or_false] at he
  rcases he with rfl | rfl
  · exact ⟨rfl, k3⟩
  · exact ⟨rfl, k2⟩)) (gX_ok (t := (.one 74 [e4])) (fun e he => by
  simp only [List.mem_cons, List.not_mem_nil, or_false] at he
  rcases he with rfl
  · exact ⟨rfl, k4⟩)))
theorem K2 : FOk Tryz.prog (pX 2 props (.one 27 [e5, e2])) := (pX_ok (t := (.one 27 [e5, e2])) (fun e he => by
  simp only [List.mem_cons, List.not_mem_nil, or_false] at he
  rcases he with rfl | rfl
  · exact ⟨rfl, k5⟩
  · exact ⟨rfl, k2⟩))
end Go.Proofs.YtndpneieplopaaaGreatDoor
end
