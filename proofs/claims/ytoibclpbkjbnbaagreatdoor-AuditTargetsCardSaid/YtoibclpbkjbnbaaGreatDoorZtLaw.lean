/- PROVED: the law AuditTargets returns true for all numbers below 256 and both truths, the listed variables reading as listed; the tied card. -/
import Derived.Test.YtoibclpbkjbnbaaGreatDoorZtR0
import Derived.Test.YtoibclpbkjbnbaaGreatDoorZtR1
import Derived.Test.YtoibclpbkjbnbaaGreatDoorZtR2
import Derived.Test.YtoibclpbkjbnbaaGreatDoorZtR3
import Derived.Test.YtoibclpbkjbnbaaGreatDoorZtR4
import Derived.Test.YtoibclpbkjbnbaaGreatDoorZtR5
import Derived.Test.YtoibclpbkjbnbaaGreatDoorZtR6
import Derived.Test.YtoibclpbkjbnbaaGreatDoorZtR7
import Derived.Test.YtoibclpbkjbnbaaGreatDoorTie
import Derived.Test.YtoibclpbkjbnbaaGreatDoorCards
import Derived.WalkKit
import Derived.ProofKit
import Derived.OpenShut
import Derived.Lay
import Derived.SevenTiedAt
set_option linter.unusedSimpArgs false
set_option linter.unusedVariables false
set_option linter.unnecessarySimpa false
noncomputable section
namespace Go.Proofs.YtoibclpbkjbnbaaGreatDoor
open Go.Eng
open Go.ChangeShapes Go.WideShapes Go.ChangeAt Go.RowKit
set_option linter.unusedVariables false
theorem own : ownKnob Tryz.prog.godebug = none := by kernel_rfl
/-- the variables that the row lists -/
def laid3 : List (String × DataW Unit) := [("unicode/utf8.acceptRanges", Rows.laid_unicode_utf8_acceptRanges), ("widgetry/style.properties", Rows.laid_widgetry_style_properties), ("unicode/utf8.first", Rows.laid_unicode_utf8_first)]
theorem gProps : Tryz.prog.globalNamed "widgetry/style.properties" = some 0 := by kernel_rfl
theorem tProps : flatD (H := Unit) Tryz.prog 8 ((Tryz.prog.globals[0]?).map (·.type)).get! Rows.laid_widgetry_style_properties = some props := by kernel_rfl
theorem props_of_laid {W : World} (h : laidMetH Tryz.prog laid3 W) : ∃ cur e fz, W.heap[0]? = some (.cells cur e fz) ∧ RL W.heap (fun _ => False) noB props cur.toList := by
  rw [MakeChecks.laidMetH_plain _ _ _ (by kernel_rfl)] at h
  obtain ⟨ps, ⟨g0, t0, cs0, f0, p0, q0, hg0, ht0, hv0, hd0, ⟨g1, t1, cs1, f1, p1, q1, hg1, ht1, hv1, hd1, _, _⟩, _⟩, _, _⟩ := h
  obtain rfl := Option.some.inj (gProps.symm.trans hg1)
  have hf := tProps
  rw [ht1] at hf
  have hR := flatD_RL (hp := W.heap) (L := fun _ => False) (β := noB) 8 _ _ _ _ _ props hd1 hf
  have hv := hv1
  simp only [World.var?, gProps, Option.bind_some] at hv
  split at hv
  · rename_i cs e fz hb
    cases hv
    exact ⟨_, _, _, hb, hR⟩
  · cases hv
/-- a run, at numbers within its bounds -/
theorem law_at {l1 h1 l2 h2 : Int} {d : Bool} (hrun : okR 0 props (oall (otr 10000) 60 3 [.sint .u8 0 1 0 l1 h1, .sint .u8 0 2 0 l2 h2, .bool d] (gH 0 props 2)) = true) {a b : Int} (ha : 0 ≤ a) (hb : 0 ≤ b) (a1 : l1 ≤ a) (a2 : a ≤ h1) (b1 : l2 ≤ b) (b2 : b ≤ h2)
    {W : World} (h : laidMetH Tryz.prog laid3 W) : Calls Tryz.prog 3 #[.int .u8 a, .int .u8 b, .bool d] W fun e W' => e = .returned (.bool true) ∧ Below W.heap.size W W' := by
  obtain ⟨cur, e, fz, hbk, hR⟩ := props_of_laid h
  exact run_glob (gs := [a.toNat, b.toNat]) runs_ok hrun (by kernel_rfl) hbk hR fun hp L β hβ => .cons (.byte (hβ 0 _ rfl) ha a1 a2) (.cons (.byte (hβ 1 _ rfl) hb b1 b2) (.cons (.bool _) .nil))
theorem law (a b : Int) (d : Bool) (ha : 0 ≤ a) (ha2 : a ≤ 255) (hb : 0 ≤ b) (hb2 : b ≤ 255) {W : World} (h : laidMetH Tryz.prog laid3 W) :
    Calls Tryz.prog 3 #[.int .u8 a, .int .u8 b, .bool d] W fun e W' => e = .returned (.bool true) ∧ Below W.heap.size W W' := by
  cases d
  · by_cases hw0 : a ≤ 0
    · by_cases hh0 : b ≤ 100
      · exact law_at run0 ha hb (by omega) (by omega) (by omega) (by omega) h
      exact law_at run1 ha hb (by omega) (by omega) (by omega) (by omega) h
    by_cases hw1 : a ≤ 23
    · by_cases hh0 : b ≤ 0
      · exact law_at run2 ha hb (by omega) (by omega) (by omega) (by omega) h
      by_cases hh1 : b ≤ 100
      · exact law_at run3 ha hb (by omega) (by omega) (by omega) (by omega) h
      exact law_at run4 ha hb (by omega) (by omega) (by omega) (by omega) h
    by_cases hw2 : a ≤ 100
    · by_cases hh0 : b ≤ 0
      · exact law_at run5 ha hb (by omega) (by omega) (by omega) (by omega) h
      by_cases hh1 : b ≤ 23
      · exact law_at run6 ha hb (by omega) (by omega) (by omega) (by omega) h
      by_cases hh2 : b ≤ 100
      · exact law_at run7 ha hb (by omega) (by omega) (by omega) (by omega) h
      exact law_at run8 ha hb (by omega) (by omega) (by omega) (by omega) h
    by_cases hh0 : b ≤ 0
    · exact law_at run9 ha hb (by omega) (by omega) (by omega) (by omega) h
    by_cases hh1 : b ≤ 23
    · exact law_at run10 ha hb (by omega) (by omega) (by omega) (by omega) h
    by_cases hh2 : b ≤ 100
    · exact law_at run11 ha hb (by omega) (by omega) (by omega) (by omega) h
    exact law_at run12 ha hb (by omega) (by omega) (by omega) (by omega) h
  · by_cases hw0 : a ≤ 0
    · by_cases hh0 : b ≤ 100
      · exact law_at run13 ha hb (by omega) (by omega) (by omega) (by omega) h
      exact law_at run14 ha hb (by omega) (by omega) (by omega) (by omega) h
    by_cases hw1 : a ≤ 100
    · by_cases hh0 : b ≤ 0
      · exact law_at run15 ha hb (by omega) (by omega) (by omega) (by omega) h
      by_cases hh1 : b ≤ 100
      · exact law_at run16 ha hb (by omega) (by omega) (by omega) (by omega) h
      exact law_at run17 ha hb (by omega) (by omega) (by omega) (by omega) h
    by_cases hh0 : b ≤ 0
    · exact law_at run18 ha hb (by omega) (by omega) (by omega) (by omega) h
    by_cases hh1 : b ≤ 100
    · exact law_at run19 ha hb (by omega) (by omega) (by omega) (by omega) h
    exact law_at run20 ha hb (by omega) (by omega) (by omega) (by omega) h
set_option maxRecDepth 100000 in
theorem lifted (os : Os) (started : os.Started) (H : Type) (enc : TypeId × Value → H) :
    ReturnsInHanded {} Tryz.checked os 3 .any (fun w args => (Rows.auditTargetsSpec.pre enc Tryz.prog Tryz.f3 [] false w args ∧ laidMetH Tryz.prog laid3 w) ∧ sizedMet enc Tryz.prog Tryz.f3 (OpenSpec.ofChange Rows.auditTargetsSpec) false w args)
      (Rows.auditTargetsSpec.post enc Tryz.prog Tryz.f3 false true false false) := by
  refine returnsInHanded_of_change_and (C := Tryz.checked) (X := fun w _ => laidMetH Tryz.prog laid3 w) (fun _ _ _ hh h => h.of_heap hh) own started (by kernel_rfl) Tryz.func3
    (ChangeSpec.witness_shaped (enc := enc) (C := Tryz.checked) (os := os) (X := fun w _ => laidMetH Tryz.prog laid3 w) false (World.laidAll Tryz.prog os laid3) #[.int .u8 0, .int .u8 0, .bool false] 8 (World.laidAll_os _ _ _)
      (World.shaped_of_ZipB (by kernel_rfl) (by kernel_rfl)) (by kernel_rfl) (by kernel_rfl) (by kernel_rfl)
      (by rw [MakeChecks.laidMetH_plain _ _ _ (by kernel_rfl)]; exact laidMet_laidAll _ (by kernel_rfl) (by kernel_rfl))) ?_
  intro W base args ds gs before hval0 hW _ _ hL _
  have hval : ∀ (j : Nat) t v, Tryz.f3.params[j]? = some t → args[j]? = some v → Value.okWide Tryz.prog W .any base t v := hval0
  have hW' := hW
  obtain ⟨p, q, hA0, hV, rfl, _, _⟩ := hW
  have hA : DataW.TrodAll enc Tryz.prog W 0 (fun _ => true) true Tryz.f3.params.toList args.toList ds p := hA0
  rw [Tryz.params3] at hA hval
  obtain ⟨v0, vs0, d0, ds0, p0, q0, hargs, rfl, rfl, h0, r0⟩ := trodAll_cons hA
  obtain ⟨v1, vs1, d1, ds1, p1, q1, rfl, rfl, rfl, h1, r1⟩ := trodAll_cons r0
  obtain ⟨v2, vs2, d2, ds2, p2, q2, rfl, rfl, rfl, h2, r2⟩ := trodAll_cons r1
  obtain ⟨rfl, rfl, rfl⟩ := trodAll_nil r2
  obtain ⟨rfl, rfl⟩ := trodVars_none hV
  obtain rfl : args = #[v0, v1, v2] := by cases args; simp_all
  obtain ⟨a, rfl, rfl, rfl, wa⟩ := open_int Tryz.underlying5 (hval 0 5 v0 rfl rfl) h0
  obtain ⟨b, rfl, rfl, rfl, wb⟩ := open_int Tryz.underlying5 (hval 1 5 v1 rfl rfl) h1
  obtain ⟨c, rfl, rfl, rfl⟩ := open_bool Tryz.underlying4 (hval 2 4 v2 rfl rfl) h2
  clear hA0 hval0
  simp only [List.append_nil] at hW'
  have ha : 0 ≤ a ∧ a ≤ 255 := by simpa [Lit.wf, IntKind.min, IntKind.max, IntKind.signed, IntKind.bits] using wa
  have hb : 0 ≤ b ∧ b ≤ 255 := by simpa [Lit.wf, IntKind.min, IntKind.max, IntKind.signed, IntKind.bits] using wb
  refine (law a b c ha.1 ha.2 hb.1 hb.2 hL).mono fun e W' ⟨he, hb⟩ => ?_
  subst he
  exact ⟨_, rfl, _, _, _, [], [], [], hW', trodAll_mk1 (shut_bool Tryz.underlying4 _), trodAll_mk3 (shut_int Tryz.underlying5 wa) (shut_int Tryz.underlying5 wb) (shut_bool Tryz.underlying4 _), rfl, hb.frame _, fun h => by cases h⟩
theorem auditTargets_holds : Rows.AuditTargetsSaid :=
  OpenClaim.holds_of_wide 3 Tryz.f3 rfl rfl rfl rfl rfl rfl rfl ⟨rfl, rfl, rfl, rfl, rfl⟩ rfl rfl rfl rfl rfl (by kernel_rfl) Tryz.func3 (by kernel_rfl)
    (of_decide_eq_true (by kernel_rfl)) (by unfold Func.isWrapper; first | (rw [if_pos (by decide +kernel)]; kernel_rfl) | (rw [if_neg (by decide +kernel)]; exact ⟨rfl, rfl⟩))
    (fun os started H enc _ => lifted os started H enc)
theorem auditTargets_proved : Rows.AuditTargetsCardSaid :=
  Claim7.holds_tied_plain_at .later [] [.data, .data, .pinned] true (true, "c9fa27a521c862538a83054d49e96e05d60249e3402b1fbffc521aacbc508f98") false
    auditTargets_holds (fun _ h => by cases h) (by kernel_rfl) (fun _ h => by cases h) auditTargets_row_tie rfl ⟨rfl, rfl⟩ (by kernel_rfl) rfl
    (fun f fn hf hfn => by
      obtain rfl : f = 3 := Option.some.inj ((show Tryz.prog.funcNamed "widgetry/widgetrylaw43.AuditTargets" = some 3 by kernel_rfl).symm.trans hf) |>.symm
      obtain rfl : fn = Tryz.f3 := (Option.some.inj (Tryz.func3.symm.trans hfn)).symm
      exact ⟨by kernel_rfl, fun j t ht => by
        rw [Tryz.params3] at ht
        have hm : t ∈ [5, 5, 4] := by simpa using Array.mem_of_getElem? ht
        have hall : ([5, 5, 4].all fun u => !Tryz.prog.wantsStandIn u) = true := by kernel_rfl
        exact (show Tryz.prog.wantsStandIn t = false by simpa using List.all_eq_true.1 hall t hm)⟩)
    (by kernel_rfl)
#print axioms auditTargets_proved
end Go.Proofs.YtoibclpbkjbnbaaGreatDoor
end
