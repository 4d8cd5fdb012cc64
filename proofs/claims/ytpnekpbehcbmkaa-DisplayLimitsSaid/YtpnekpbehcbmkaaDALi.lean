/- The law DisplayLimits holds: for every number it answers true. -/
import Derived.Test.YtpnekpbehcbmkaaDAl
import Derived.Test.YtpnekpbehcbmkaaD7Raw
set_option linter.unusedSimpArgs false
set_option linter.unusedVariables false
set_option linter.unnecessarySimpa false
noncomputable section
namespace Go.Proofs.Ytpnekpbehcbmkaa
open Go.Eng
open Go.ChangeShapes Go.WideShapes Go.ChangeAt Go.RowKit
set_option linter.unusedVariables false
theorem int_read {W : World} {H : Type} {enc : TypeId × Value → H} {v : Value} {d : DataW H} {p : List MemPlace} (h : DataW.Trod enc Try.prog W 0 (fun _ => true) true 3 v d p) (hv : ∃ n, v = .int .i64 n) : ∃ n : Int, VR W.heap (fun _ => False) noB (I n) v := by
  obtain ⟨n, rfl⟩ := hv
  exact ⟨n, .int _ _⟩
set_option maxRecDepth 100000 in
theorem liftedLi (os : Os) (started : os.Started) (H : Type) (enc : TypeId × Value → H) :
    ReturnsInHanded {} Try.checked os 9 .any (Rows.displayLimitsSpec.pre6 enc Try.prog Try.f9 Rows.displayLimitsRow.domain false) (Rows.displayLimitsSpec.post enc Try.prog Try.f9 false true false false) := by
  refine returnsInHanded_of_change (C := Try.checked) own started (by kernel_rfl) Try.func9
    (ChangeSpec.witness6 (enc := enc) (C := Try.checked) false ⟨#[], #[.int .i64 0], []⟩ 8 (by kernel_rfl) (by kernel_rfl) (by kernel_rfl) (by kernel_rfl)) ?_
  intro W base args ds gs before hval0 hW hcnd _
  have hval : ∀ (j : Nat) t v, Try.f9.params[j]? = some t → args[j]? = some v → Value.okWide Try.prog W .any base t v := hval0
  have hW' := hW
  obtain ⟨p, q, hA0, hV, rfl, hfz, hnd⟩ := hW
  have hA : DataW.TrodAll enc Try.prog W 0 (fun _ => true) true Try.f9.params.toList args.toList ds p := hA0
  rw [Try.params9] at hA hval
  obtain ⟨v0, vs0, d0, ds0, p0, q0, hargs, rfl, rfl, h0, r0⟩ := trodAll_cons hA
  obtain ⟨rfl, rfl, rfl⟩ := trodAll_nil r0
  obtain rfl : args = #[v0] := by cases args; simp_all
  obtain ⟨rfl, rfl⟩ := trodVars_none hV
  have lt : ∀ {t : TypeId} {v : Value} {d : DataW H} {p : List MemPlace}, DataW.Trod enc Try.prog W 0 (fun _ => true) true t v d p → ∀ x ∈ p, x.block < W.heap.size := fun ⟨m, hm⟩ => DataW.trod_lt m _ _ _ hm
  obtain ⟨n, ra⟩ := int_read h0 (Go.WideShapes.okWide_int Try.underlying3 (hval 0 3 v0 rfl rfl))
  clear hA0 hval0
  refine (run_law (limits_f n) (.cons ra .nil)).mono fun e W' ⟨he, bel⟩ => ?_
  subst he
  exact ⟨_, rfl, _, _, _, [], _, [], hW', trodAll_mk1 (shut_bool Try.underlying4 _), (trodAll_cons_mk (Below.trod laidOut (by kernel_rfl) (of_decide_eq_true (by kernel_rfl)) h0 bel (lt h0)) trodAll_mk0), rfl, bel.frame _, fun h => by cases h⟩
theorem overLi : Rows.displayLimitsRow.holds Try.pinned (OpenSpec.ofChange Rows.displayLimitsSpec) :=
  OpenClaim.holds_of_wide 9 Try.f9 rfl rfl rfl rfl rfl rfl rfl ⟨rfl, rfl, rfl, rfl, rfl⟩ rfl rfl rfl rfl rfl (by kernel_rfl) Try.func9 (by kernel_rfl)
    (of_decide_eq_true (by kernel_rfl)) (by unfold Func.isWrapper; first | (rw [if_pos (by decide +kernel)]; kernel_rfl) | (rw [if_neg (by decide +kernel)]; exact ⟨rfl, rfl⟩))
    (fun os started H enc _ => liftedLi os started H enc)
theorem displayLimits_proved : Rows.DisplayLimitsSaid := overLi
#print axioms displayLimits_proved
end Go.Proofs.Ytpnekpbehcbmkaa
end
