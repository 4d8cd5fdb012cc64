/- PROVED: the law AuditReach returns true for all three truths that it is given, the listed variables reading as listed; the tied card. -/
import Derived.Test.YtoibclpbkjbnbaaGreatDoorZdR0
import Derived.Test.YtoibclpbkjbnbaaGreatDoorZdR1
import Derived.Test.YtoibclpbkjbnbaaGreatDoorZdR2
import Derived.Test.YtoibclpbkjbnbaaGreatDoorZdR3
import Derived.Test.YtoibclpbkjbnbaaGreatDoorTie
import Derived.Test.YtoibclpbkjbnbaaGreatDoorCards
import Derived.WalkKit
import Derived.ProofKit
import Derived.OpenShut
import Derived.Lay
import Derived.SevenTiedAt
set_option linter.unusedSimpArgs false
set_option linter.unusedVariables false
set_option linter.unnecessarySimpa false
noncomputable section
namespace Go.Proofs.YtoibclpbkjbnbaaGreatDoor
open Go.Eng
open Go.ChangeShapes Go.WideShapes Go.ChangeAt Go.RowKit
set_option linter.unusedVariables false
theorem own : ownKnob Tryz.prog.godebug = none := by kernel_rfl
/-- the variables that the row lists -/
def laid3 : List (String × DataW Unit) := [("unicode/utf8.acceptRanges", Rows.laid_unicode_utf8_acceptRanges), ("widgetry/style.properties", Rows.laid_widgetry_style_properties), ("unicode/utf8.first", Rows.laid_unicode_utf8_first)]
theorem gProps : Tryz.prog.globalNamed "widgetry/style.properties" = some 0 := by kernel_rfl
theorem tProps : flatD (H := Unit) Tryz.prog 8 ((Tryz.prog.globals[0]?).map (·.type)).get! Rows.laid_widgetry_style_properties = some props := by kernel_rfl
theorem props_of_laid {W : World} (h : laidMetH Tryz.prog laid3 W) : ∃ cur e fz, W.heap[0]? = some (.cells cur e fz) ∧ RL W.heap (fun _ => False) noB props cur.toList := by
  rw [MakeChecks.laidMetH_plain _ _ _ (by kernel_rfl)] at h
  obtain ⟨ps, ⟨g0, t0, cs0, f0, p0, q0, hg0, ht0, hv0, hd0, ⟨g1, t1, cs1, f1, p1, q1, hg1, ht1, hv1, hd1, _, _⟩, _⟩, _, _⟩ := h
  obtain rfl := Option.some.inj (gProps.symm.trans hg1)
  have hf := tProps
  rw [ht1] at hf
  have hR := flatD_RL (hp := W.heap) (L := fun _ => False) (β := noB) 8 _ _ _ _ _ props hd1 hf
  have hv := hv1
  simp only [World.var?, gProps, Option.bind_some] at hv
  split at hv
  · rename_i cs e fz hb
    cases hv
    exact ⟨_, _, _, hb, hR⟩
  · cases hv
theorem run_at (a b c : Bool) : okR 0 props (oall (otr 10000) 60 5 [.bool a, .bool b, .bool c] (gH 0 props)) = true := by
  cases a <;> cases b <;> cases c
  · exact run0f
  · exact run0t
  · exact run2f
  · exact run2t
  · exact run1f
  · exact run1t
  · exact run3f
  · exact run3t
theorem law (a b c : Bool) {W : World} (h : laidMetH Tryz.prog laid3 W) : Calls Tryz.prog 5 #[.bool a, .bool b, .bool c] W fun e W' => e = .returned (.bool true) ∧ Below W.heap.size W W' := by
  obtain ⟨cur, e, fz, hb, hR⟩ := props_of_laid h
  exact run_glob runs_ok (run_at a b c) (by kernel_rfl) hb hR fun hp L β => .cons (.bool _) (.cons (.bool _) (.cons (.bool _) .nil))
set_option maxRecDepth 100000 in
theorem lifted (os : Os) (started : os.Started) (H : Type) (enc : TypeId × Value → H) :
    ReturnsInHanded {} Tryz.checked os 5 .any (fun w args => (Rows.auditReachSpec.pre enc Tryz.prog Tryz.f5 [] false w args ∧ laidMetH Tryz.prog laid3 w) ∧ sizedMet enc Tryz.prog Tryz.f5 (OpenSpec.ofChange Rows.auditReachSpec) false w args)
      (Rows.auditReachSpec.post enc Tryz.prog Tryz.f5 false true false false) := by
  refine returnsInHanded_of_change_and (C := Tryz.checked) (X := fun w _ => laidMetH Tryz.prog laid3 w) (fun _ _ _ hh h => h.of_heap hh) own started (by kernel_rfl) Tryz.func5
    (ChangeSpec.witness_shaped (enc := enc) (C := Tryz.checked) (os := os) (X := fun w _ => laidMetH Tryz.prog laid3 w) false (World.laidAll Tryz.prog os laid3) #[.bool false, .bool false, .bool false] 8 (World.laidAll_os _ _ _)
      (World.shaped_of_ZipB (by kernel_rfl) (by kernel_rfl)) (by kernel_rfl) (by kernel_rfl) (by kernel_rfl)
      (by rw [MakeChecks.laidMetH_plain _ _ _ (by kernel_rfl)]; exact laidMet_laidAll _ (by kernel_rfl) (by kernel_rfl))) ?_
  intro W base args ds gs before hval0 hW _ _ hL _
  have hval : ∀ (j : Nat) t v, Tryz.f5.params[j]? = some t → args[j]? = some v → Value.okWide Tryz.prog W .any base t v := hval0
  have hW' := hW
  obtain ⟨p, q, hA0, hV, rfl, _, _⟩ := hW
  have hA : DataW.TrodAll enc Tryz.prog W 0 (fun _ => true) true Tryz.f5.params.toList args.toList ds p := hA0
  rw [Tryz.params5] at hA hval
  obtain ⟨v0, vs0, d0, ds0, p0, q0, hargs, rfl, rfl, h0, r0⟩ := trodAll_cons hA
  obtain ⟨v1, vs1, d1, ds1, p1, q1, rfl, rfl, rfl, h1, r1⟩ := trodAll_cons r0
  obtain ⟨v2, vs2, d2, ds2, p2, q2, rfl, rfl, rfl, h2, r2⟩ := trodAll_cons r1
  obtain ⟨rfl, rfl, rfl⟩ := trodAll_nil r2
  obtain ⟨rfl, rfl⟩ := trodVars_none hV
  obtain rfl : args = #[v0, v1, v2] := by cases args; simp_all
  obtain ⟨a, rfl, rfl, rfl⟩ := open_bool Tryz.underlying4 (hval 0 4 v0 rfl rfl) h0
  obtain ⟨b, rfl, rfl, rfl⟩ := open_bool Tryz.underlying4 (hval 1 4 v1 rfl rfl) h1
  obtain ⟨c, rfl, rfl, rfl⟩ := open_bool Tryz.underlying4 (hval 2 4 v2 rfl rfl) h2
  clear hA0 hval0
  simp only [List.append_nil] at hW'
  refine (law a b c hL).mono fun e W' ⟨he, hb⟩ => ?_
  subst he
  exact ⟨_, rfl, _, _, _, [], [], [], hW', trodAll_mk1 (shut_bool Tryz.underlying4 _), trodAll_mk3 (shut_bool Tryz.underlying4 _) (shut_bool Tryz.underlying4 _) (shut_bool Tryz.underlying4 _), rfl, hb.frame _, fun h => by cases h⟩
theorem auditReach_holds : Rows.AuditReachSaid :=
  OpenClaim.holds_of_wide 5 Tryz.f5 rfl rfl rfl rfl rfl rfl rfl ⟨rfl, rfl, rfl, rfl, rfl⟩ rfl rfl rfl rfl rfl (by kernel_rfl) Tryz.func5 (by kernel_rfl)
    (of_decide_eq_true (by kernel_rfl)) (by unfold Func.isWrapper; first | (rw [if_pos (by decide +kernel)]; kernel_rfl) | (rw [if_neg (by decide +kernel)]; exact ⟨rfl, rfl⟩))
    (fun os started H enc _ => lifted os started H enc)
theorem auditReach_proved : Rows.AuditReachCardSaid :=
  Claim7.holds_tied_plain_at .later [] [.data, .data, .pinned] true (true, "c9fa27a521c862538a83054d49e96e05d60249e3402b1fbffc521aacbc508f98") false
    auditReach_holds (fun _ h => by cases h) (by kernel_rfl) (fun _ h => by cases h) auditReach_row_tie rfl ⟨rfl, rfl⟩ (by kernel_rfl) rfl
    (fun f fn hf hfn => by
      obtain rfl : f = 5 := Option.some.inj ((show Tryz.prog.funcNamed "widgetry/widgetrylaw43.AuditReach" = some 5 by kernel_rfl).symm.trans hf) |>.symm
      obtain rfl : fn = Tryz.f5 := (Option.some.inj (Tryz.func5.symm.trans hfn)).symm
      exact ⟨by kernel_rfl, fun j t ht => by
        rw [Tryz.params5] at ht
        have hm : t ∈ [4, 4, 4] := by simpa using Array.mem_of_getElem? ht
        have hall : ([4, 4, 4].all fun u => !Tryz.prog.wantsStandIn u) = true := by kernel_rfl
        exact (show Tryz.prog.wantsStandIn t = false by simpa using List.all_eq_true.1 hall t hm)⟩)
    (by kernel_rfl)
#print axioms auditReach_proved
end Go.Proofs.YtoibclpbkjbnbaaGreatDoor
end
