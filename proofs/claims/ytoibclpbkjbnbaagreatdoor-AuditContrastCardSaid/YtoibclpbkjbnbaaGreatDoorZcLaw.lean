/- PROVED: the law AuditContrast returns true for all colors and both truths, the listed variables reading as listed; the tied card. -/
import Derived.Test.YtoibclpbkjbnbaaGreatDoorZcR0
import Derived.Test.YtoibclpbkjbnbaaGreatDoorZcR1
import Derived.Test.YtoibclpbkjbnbaaGreatDoorZcR2
import Derived.Test.YtoibclpbkjbnbaaGreatDoorZcR3
import Derived.Test.YtoibclpbkjbnbaaGreatDoorTie
import Derived.Test.YtoibclpbkjbnbaaGreatDoorCards
import Derived.WalkKit
import Derived.ProofKit
import Derived.OpenShut
import Derived.Lay
import Derived.SevenTiedAt
set_option linter.unusedSimpArgs false
set_option linter.unusedVariables false
set_option linter.unnecessarySimpa false
noncomputable section
namespace Go.Proofs.YtoibclpbkjbnbaaGreatDoor
open Go.Eng
open Go.ChangeShapes Go.WideShapes Go.ChangeAt Go.RowKit
set_option linter.unusedVariables false
theorem own : ownKnob Tryz.prog.godebug = none := by kernel_rfl
/-- the variables that the row lists -/
def laid3 : List (String × DataW Unit) := [("unicode/utf8.acceptRanges", Rows.laid_unicode_utf8_acceptRanges), ("widgetry/style.properties", Rows.laid_widgetry_style_properties), ("unicode/utf8.first", Rows.laid_unicode_utf8_first)]
theorem gProps : Tryz.prog.globalNamed "widgetry/style.properties" = some 0 := by kernel_rfl
theorem tProps : flatD (H := Unit) Tryz.prog 8 ((Tryz.prog.globals[0]?).map (·.type)).get! Rows.laid_widgetry_style_properties = some props := by kernel_rfl
theorem props_of_laid {W : World} (h : laidMetH Tryz.prog laid3 W) : ∃ cur e fz, W.heap[0]? = some (.cells cur e fz) ∧ RL W.heap (fun _ => False) noB props cur.toList := by
  rw [MakeChecks.laidMetH_plain _ _ _ (by kernel_rfl)] at h
  obtain ⟨ps, ⟨g0, t0, cs0, f0, p0, q0, hg0, ht0, hv0, hd0, ⟨g1, t1, cs1, f1, p1, q1, hg1, ht1, hv1, hd1, _, _⟩, _⟩, _, _⟩ := h
  obtain rfl := Option.some.inj (gProps.symm.trans hg1)
  have hf := tProps
  rw [ht1] at hf
  have hR := flatD_RL (hp := W.heap) (L := fun _ => False) (β := noB) 8 _ _ _ _ _ props hd1 hf
  have hv := hv1
  simp only [World.var?, gProps, Option.bind_some] at hv
  split at hv
  · rename_i cs e fz hb
    cases hv
    exact ⟨_, _, _, hb, hR⟩
  · cases hv
theorem VR.col {hp : Array Obj} {L : Nat → Prop} {β : Bl} {k : IntKind} {r i j l b1 b2 b3 n1 n2 : Nat} {lo hi n : Int} (h1 : β i = some (b1, n1)) (h2 : β j = some (b2, n2)) (h3 : β l = some (b3, conN (n1 % 16777216) (n2 % 16777216))) (q1 : n1 ≤ 4294967295) (q2 : n2 ≤ 4294967295)
    (q3 : lo ≤ ((conN (n1 % 16777216) (n2 % 16777216) : Nat) : Int)) (q4 : ((conN (n1 % 16777216) (n2 % 16777216) : Nat) : Int) ≤ hi) (hn : n = (((if r = 0 then n1 else n2) : Nat) : Int)) : VR hp L β (.scol k 0 r i j l lo hi) (.int k n) := by
  subst hn
  have := VR.scol (hp := hp) (L := L) k 0 r i j l lo hi b1 n1 b2 n2 b3 h1 h2 h3 q1 q2 q3 q4
  rwa [Nat.mod_zero] at this
theorem conN_le (a b : Nat) : conN a b ≤ ((if lumN a < lumN b then lumN b else lumN a) + 50) * 100 := Nat.div_le_self _ _
theorem lumN_le (n : Nat) (h : n < 16777216) : lumN n ≤ 1000 := by
  have h1 := lum_bd (n : Int) (by simp only [Col]; omega)
  rw [lum_nat] at h1
  omega
theorem conN_bd (a b : Nat) (ha : a < 16777216) (hb : b < 16777216) : conN a b ≤ 1000000 := by
  have h1 := conN_le a b
  have h2 := lumN_le a ha
  have h3 := lumN_le b hb
  split at h1 <;> omega
/-- the law with its own background -/
theorem law_own {lo hi : Int} (hrun : okR 0 props (otab conH (otr 10000) 60 4 [.scol .u32 0 0 1 2 3 lo hi, .scol .u32 0 1 1 2 3 lo hi, .sint .u32 0 4 0 0 4294967295, .bool true] (gH 0 props 4)) = true) (a b c : Nat) (ha : a ≤ 4294967295) (hb : b ≤ 4294967295) (hc : c ≤ 4294967295)
    (h1 : lo ≤ ((conN (a % 16777216) (b % 16777216) : Nat) : Int)) (h2 : ((conN (a % 16777216) (b % 16777216) : Nat) : Int) ≤ hi) {W : World} (h : laidMetH Tryz.prog laid3 W) :
    Calls Tryz.prog 4 #[.int .u32 a, .int .u32 b, .int .u32 c, .bool true] W fun e W' => e = .returned (.bool true) ∧ Below W.heap.size W W' := by
  obtain ⟨cur, e, fz, hbk, hR⟩ := props_of_laid h
  refine run_glob (gs := [a, b, conN (a % 16777216) (b % 16777216), c]) runs_ok hrun (by kernel_rfl) hbk hR fun hp L β hβ => ?_
  have e1 := hβ 0 _ rfl
  have e2 := hβ 1 _ rfl
  have e3 := hβ 2 _ rfl
  have e4 := hβ 3 _ rfl
  exact .cons (VR.col e1 e2 e3 ha hb h1 h2 (by rw [if_pos rfl])) (.cons (VR.col e1 e2 e3 ha hb h1 h2 (by rw [if_neg (by decide)])) (.cons (.byte (n := (c : Int)) (by simpa using e4) (by omega) (by omega) (by omega)) (.cons (.bool _) .nil)))
/-- the law with the background behind -/
theorem law_behind {lo hi : Int} (hrun : okR 0 props (otab conH (otr 10000) 60 4 [.scol .u32 0 0 1 2 3 lo hi, .sint .u32 0 4 0 0 4294967295, .scol .u32 0 1 1 2 3 lo hi, .bool false] (gH 0 props 4)) = true) (a b c : Nat) (ha : a ≤ 4294967295) (hb : b ≤ 4294967295) (hc : c ≤ 4294967295)
    (h1 : lo ≤ ((conN (a % 16777216) (c % 16777216) : Nat) : Int)) (h2 : ((conN (a % 16777216) (c % 16777216) : Nat) : Int) ≤ hi) {W : World} (h : laidMetH Tryz.prog laid3 W) :
    Calls Tryz.prog 4 #[.int .u32 a, .int .u32 b, .int .u32 c, .bool false] W fun e W' => e = .returned (.bool true) ∧ Below W.heap.size W W' := by
  obtain ⟨cur, e, fz, hbk, hR⟩ := props_of_laid h
  refine run_glob (gs := [a, c, conN (a % 16777216) (c % 16777216), b]) runs_ok hrun (by kernel_rfl) hbk hR fun hp L β hβ => ?_
  have e1 := hβ 0 _ rfl
  have e2 := hβ 1 _ rfl
  have e3 := hβ 2 _ rfl
  have e4 := hβ 3 _ rfl
  exact .cons (VR.col e1 e2 e3 ha hc h1 h2 (by rw [if_pos rfl])) (.cons (.byte (n := (b : Int)) (by simpa using e4) (by omega) (by omega) (by omega)) (.cons (VR.col e1 e2 e3 ha hc h1 h2 (by rw [if_neg (by decide)])) (.cons (.bool _) .nil)))
theorem law (a b c : Nat) (d : Bool) (ha : a ≤ 4294967295) (hb : b ≤ 4294967295) (hc : c ≤ 4294967295) {W : World} (h : laidMetH Tryz.prog laid3 W) :
    Calls Tryz.prog 4 #[.int .u32 a, .int .u32 b, .int .u32 c, .bool d] W fun e W' => e = .returned (.bool true) ∧ Below W.heap.size W W' := by
  have m (n : Nat) : n % 16777216 < 16777216 := Nat.mod_lt _ (by decide)
  cases d
  · have hbd := conN_bd _ _ (m a) (m c)
    by_cases hl : conN (a % 16777216) (c % 16777216) ≤ 449
    · exact law_behind run2 a b c ha hb hc (by omega) (by omega) h
    · exact law_behind run3 a b c ha hb hc (by omega) (by omega) h
  · have hbd := conN_bd _ _ (m a) (m b)
    by_cases hl : conN (a % 16777216) (b % 16777216) ≤ 449
    · exact law_own run0 a b c ha hb hc (by omega) (by omega) h
    · exact law_own run1 a b c ha hb hc (by omega) (by omega) h
set_option maxRecDepth 100000 in
theorem lifted (os : Os) (started : os.Started) (H : Type) (enc : TypeId × Value → H) :
    ReturnsInHanded {} Tryz.checked os 4 .any (fun w args => (Rows.auditContrastSpec.pre enc Tryz.prog Tryz.f4 [] false w args ∧ laidMetH Tryz.prog laid3 w) ∧ sizedMet enc Tryz.prog Tryz.f4 (OpenSpec.ofChange Rows.auditContrastSpec) false w args)
      (Rows.auditContrastSpec.post enc Tryz.prog Tryz.f4 false true false false) := by
  refine returnsInHanded_of_change_and (C := Tryz.checked) (X := fun w _ => laidMetH Tryz.prog laid3 w) (fun _ _ _ hh h => h.of_heap hh) own started (by kernel_rfl) Tryz.func4
    (ChangeSpec.witness_shaped (enc := enc) (C := Tryz.checked) (os := os) (X := fun w _ => laidMetH Tryz.prog laid3 w) false (World.laidAll Tryz.prog os laid3) #[.int .u32 0, .int .u32 0, .int .u32 0, .bool false] 8 (World.laidAll_os _ _ _)
      (World.shaped_of_ZipB (by kernel_rfl) (by kernel_rfl)) (by kernel_rfl) (by kernel_rfl) (by kernel_rfl)
      (by rw [MakeChecks.laidMetH_plain _ _ _ (by kernel_rfl)]; exact laidMet_laidAll _ (by kernel_rfl) (by kernel_rfl))) ?_
  intro W base args ds gs before hval0 hW _ _ hL _
  have hval : ∀ (j : Nat) t v, Tryz.f4.params[j]? = some t → args[j]? = some v → Value.okWide Tryz.prog W .any base t v := hval0
  have hW' := hW
  obtain ⟨p, q, hA0, hV, rfl, _, _⟩ := hW
  have hA : DataW.TrodAll enc Tryz.prog W 0 (fun _ => true) true Tryz.f4.params.toList args.toList ds p := hA0
  rw [Tryz.params4] at hA hval
  obtain ⟨v0, vs0, d0, ds0, p0, q0, hargs, rfl, rfl, h0, r0⟩ := trodAll_cons hA
  obtain ⟨v1, vs1, d1, ds1, p1, q1, rfl, rfl, rfl, h1, r1⟩ := trodAll_cons r0
  obtain ⟨v2, vs2, d2, ds2, p2, q2, rfl, rfl, rfl, h2, r2⟩ := trodAll_cons r1
  obtain ⟨v3, vs3, d3, ds3, p3, q3, rfl, rfl, rfl, h3, r3⟩ := trodAll_cons r2
  obtain ⟨rfl, rfl, rfl⟩ := trodAll_nil r3
  obtain ⟨rfl, rfl⟩ := trodVars_none hV
  obtain rfl : args = #[v0, v1, v2, v3] := by cases args; simp_all
  obtain ⟨a, rfl, rfl, rfl, wa⟩ := open_int Tryz.underlying56 (hval 0 56 v0 rfl rfl) h0
  obtain ⟨b, rfl, rfl, rfl, wb⟩ := open_int Tryz.underlying56 (hval 1 56 v1 rfl rfl) h1
  obtain ⟨c, rfl, rfl, rfl, wc⟩ := open_int Tryz.underlying56 (hval 2 56 v2 rfl rfl) h2
  obtain ⟨d, rfl, rfl, rfl⟩ := open_bool Tryz.underlying4 (hval 3 4 v3 rfl rfl) h3
  clear hA0 hval0
  simp only [List.append_nil] at hW'
  have ha : 0 ≤ a ∧ a ≤ 4294967295 := by simpa [Lit.wf, IntKind.min, IntKind.max, IntKind.signed, IntKind.bits] using wa
  have hb : 0 ≤ b ∧ b ≤ 4294967295 := by simpa [Lit.wf, IntKind.min, IntKind.max, IntKind.signed, IntKind.bits] using wb
  have hc : 0 ≤ c ∧ c ≤ 4294967295 := by simpa [Lit.wf, IntKind.min, IntKind.max, IntKind.signed, IntKind.bits] using wc
  obtain ⟨na, rfl⟩ := Int.eq_ofNat_of_zero_le ha.1
  obtain ⟨nb, rfl⟩ := Int.eq_ofNat_of_zero_le hb.1
  obtain ⟨nc, rfl⟩ := Int.eq_ofNat_of_zero_le hc.1
  refine (law na nb nc d (by omega) (by omega) (by omega) hL).mono fun e W' ⟨he, hb⟩ => ?_
  subst he
  exact ⟨_, rfl, _, _, _, [], [], [], hW', trodAll_mk1 (shut_bool Tryz.underlying4 _), (trodAll_cons_mk (shut_int Tryz.underlying56 wa) (trodAll_cons_mk (shut_int Tryz.underlying56 wb) (trodAll_cons_mk (shut_int Tryz.underlying56 wc) (trodAll_mk1 (shut_bool Tryz.underlying4 _))))), rfl, hb.frame _, fun h => by cases h⟩
theorem auditContrast_holds : Rows.AuditContrastSaid :=
  OpenClaim.holds_of_wide 4 Tryz.f4 rfl rfl rfl rfl rfl rfl rfl ⟨rfl, rfl, rfl, rfl, rfl⟩ rfl rfl rfl rfl rfl (by kernel_rfl) Tryz.func4 (by kernel_rfl)
    (of_decide_eq_true (by kernel_rfl)) (by unfold Func.isWrapper; first | (rw [if_pos (by decide +kernel)]; kernel_rfl) | (rw [if_neg (by decide +kernel)]; exact ⟨rfl, rfl⟩))
    (fun os started H enc _ => lifted os started H enc)
theorem auditContrast_proved : Rows.AuditContrastCardSaid :=
  Claim7.holds_tied_plain_at .later [] [.data, .data, .pinned] true (true, "c9fa27a521c862538a83054d49e96e05d60249e3402b1fbffc521aacbc508f98") false
    auditContrast_holds (fun _ h => by cases h) (by kernel_rfl) (fun _ h => by cases h) auditContrast_row_tie rfl ⟨rfl, rfl⟩ (by kernel_rfl) rfl
    (fun f fn hf hfn => by
      obtain rfl : f = 4 := Option.some.inj ((show Tryz.prog.funcNamed "widgetry/widgetrylaw43.AuditContrast" = some 4 by kernel_rfl).symm.trans hf) |>.symm
      obtain rfl : fn = Tryz.f4 := (Option.some.inj (Tryz.func4.symm.trans hfn)).symm
      exact ⟨by kernel_rfl, fun j t ht => by
        rw [Tryz.params4] at ht
        have hm : t ∈ [56, 56, 56, 4] := by simpa using Array.mem_of_getElem? ht
        have hall : ([56, 56, 56, 4].all fun u => !Tryz.prog.wantsStandIn u) = true := by kernel_rfl
        exact (show Tryz.prog.wantsStandIn t = false by simpa using List.all_eq_true.1 hall t hm)⟩)
    (by kernel_rfl)
#print axioms auditContrast_proved
end Go.Proofs.YtoibclpbkjbnbaaGreatDoor
end
