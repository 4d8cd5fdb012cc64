/- Scripts with deep values: the law ScriptDeep answers true for every uint8, where the variables that the row lists are laid as it says. -/
import Derived.Test.YtndpneieplopaaaGreatDoorSdK
import Derived.Test.YtndpneieplopaaaGreatDoorTie
import Derived.Test.YtndpneieplopaaaGreatDoorCards
import Derived.WalkKit
import Derived.ProofKit
import Derived.OpenShut
import Derived.Lay
import Derived.SevenTiedAt
set_option linter.unusedSimpArgs false
set_option linter.unusedVariables false
set_option linter.unnecessarySimpa false
noncomputable section
namespace Go.Proofs.YtndpneieplopaaaGreatDoor
open Go.Eng
open Go.ChangeShapes Go.WideShapes Go.ChangeAt Go.RowKit
set_option linter.unusedVariables false
theorem own : ownKnob Tryz.prog.godebug = none := by kernel_rfl
/-- the variables that the row lists -/
def laid3 : List (String × DataW Unit) := [("math/bits.deBruijn32tab", Rows.laid_math_bits_deBruijn32tab), ("math/bits.deBruijn64tab", Rows.laid_math_bits_deBruijn64tab), ("internal/strconv.uint64pow10", Rows.laid_internal_strconv_uint64pow10), ("unicode/utf8.acceptRanges", Rows.laid_unicode_utf8_acceptRanges), ("strconv.ErrRange", Rows.laid_strconv_ErrRange), ("strconv.ErrSyntax", Rows.laid_strconv_ErrSyntax), ("unicode/utf8.first", Rows.laid_unicode_utf8_first)]
theorem gProps : Tryz.prog.globalNamed "unicode/utf8.acceptRanges" = some 2 := by kernel_rfl
theorem tProps : flatD (H := Unit) Tryz.prog 8 ((Tryz.prog.globals[2]?).map (·.type)).get! Rows.laid_unicode_utf8_acceptRanges = some props := by kernel_rfl
theorem props_of_laid {W : World} (h : laidMetH Tryz.prog laid3 W) : ∃ cur e fz, W.heap[2]? = some (.cells cur e fz) ∧ RL W.heap (fun _ => False) noB props cur.toList := by
  rw [MakeChecks.laidMetH_plain _ _ _ (by kernel_rfl)] at h
  obtain ⟨ps, ⟨_, _, _, _, _, _, _, _, _, _, ⟨_, _, _, _, _, _, _, _, _, _, ⟨_, _, _, _, _, _, _, _, _, _, ⟨g1, t1, cs1, f1, p1, q1, hg1, ht1, hv1, hd1, _, _⟩, _⟩, _⟩, _⟩, _, _⟩ := h
  obtain rfl := Option.some.inj (gProps.symm.trans hg1)
  have hf := tProps
  rw [ht1] at hf
  have hR := flatD_RL (hp := W.heap) (L := fun _ => False) (β := noB) 8 _ _ _ _ _ props hd1 hf
  have hv := hv1
  simp only [World.var?, gProps, Option.bind_some] at hv
  split at hv
  · rename_i cs e fz hb
    cases hv
    exact ⟨_, _, _, hb, hR⟩
  · cases hv
theorem rem3 (n : Int) (h0 : 0 ≤ n) (h1 : n ≤ 255) : ∃ r : Nat, r < 3 ∧ iarith .rem .u8 n 3 = some (.int .u8 (r : Int)) := by
  obtain ⟨m, rfl⟩ := Int.eq_ofNat_of_zero_le h0
  refine ⟨m % 3, Nat.mod_lt _ (by omega), ?_⟩
  have hm : m ≤ 255 := by omega
  have key : ((List.range 256).all fun m => match iarith .rem .u8 ((m : Nat) : Int) 3 with | some (.int .u8 r) => r == ((m % 3 : Nat) : Int) | _ => false) = true := by decide +kernel
  have h2 := List.all_eq_true.1 key m (List.mem_range.2 (by omega))
  split at h2
  · rename_i r hq
    rw [hq, eq_of_beq h2]
  · cases h2
theorem law (n : Int) (h0 : 0 ≤ n) (h1 : n ≤ 255) {W : World} (h : laidMetH Tryz.prog laid3 W) :
    Calls Tryz.prog 6 #[.int .u8 n] W fun e W' => e = .returned (.bool true) ∧ Below W.heap.size W W' := by
  obtain ⟨cur, e, fz, hbk, hR⟩ := props_of_laid h
  obtain ⟨r, h4, hr⟩ := rem3 n h0 h1
  have key : ∀ (hp : Array Obj) (L : Nat → Prop) (β : Bl), RL hp L β [.oint .u8 [(.rem, 3, (r : Int))]] [.int .u8 n] := fun hp L β =>
    .cons (.oint _ _ _ fun o d q hm => by
      simp only [List.mem_cons, List.not_mem_nil, or_false, Prod.mk.injEq] at hm
      obtain ⟨rfl, rfl, rfl⟩ := hm
      exact hr) .nil
  match r, h4, key with
  | 0, _, key => exact run_glob (gs := []) (X_ok K0) run0 hpl hbk hR fun hp L β _ => key hp L β
  | 1, _, key => exact run_glob (gs := []) (X_ok K1) run1 hpl hbk hR fun hp L β _ => key hp L β
  | 2, _, key => exact run_glob (gs := []) (X_ok K2) run2 hpl hbk hR fun hp L β _ => key hp L β
set_option maxRecDepth 100000 in
theorem lifted (os : Os) (started : os.Started) (H : Type) (enc : TypeId × Value → H) :
    ReturnsInHanded {} Tryz.checked os 6 .any (fun w args => (Rows.scriptDeepSpec.pre enc Tryz.prog Tryz.f6 [] false w args ∧ laidMetH Tryz.prog laid3 w) ∧ sizedMet enc Tryz.prog Tryz.f6 (OpenSpec.ofChange Rows.scriptDeepSpec) false w args)
      (Rows.scriptDeepSpec.post enc Tryz.prog Tryz.f6 false true false false) := by
  refine returnsInHanded_of_change_and (C := Tryz.checked) (X := fun w _ => laidMetH Tryz.prog laid3 w) (fun _ _ _ hh h => h.of_heap hh) own started (by kernel_rfl) Tryz.func6
    (ChangeSpec.witness_shaped (enc := enc) (C := Tryz.checked) (os := os) (X := fun w _ => laidMetH Tryz.prog laid3 w) false (World.laidAll Tryz.prog os laid3) #[.int .u8 0] 8 (World.laidAll_os _ _ _)
      (World.shaped_of_ZipB (by kernel_rfl) (by kernel_rfl)) (by kernel_rfl) (by kernel_rfl) (by kernel_rfl)
      (by rw [MakeChecks.laidMetH_plain _ _ _ (by kernel_rfl)]; exact laidMet_laidAll _ (by kernel_rfl) (by kernel_rfl))) ?_
  intro W base args ds gs before hval0 hW _ _ hL _
  have hval : ∀ (j : Nat) t v, Tryz.f6.params[j]? = some t → args[j]? = some v → Value.okWide Tryz.prog W .any base t v := hval0
  have hW' := hW
  obtain ⟨p, q, hA0, hV, rfl, _, _⟩ := hW
  have hA : DataW.TrodAll enc Tryz.prog W 0 (fun _ => true) true Tryz.f6.params.toList args.toList ds p := hA0
  rw [Tryz.params6] at hA hval
  obtain ⟨v0, vs0, d0, ds0, p0, q0, hargs, rfl, rfl, h0, r0⟩ := trodAll_cons hA
  obtain ⟨rfl, rfl, rfl⟩ := trodAll_nil r0
  obtain ⟨rfl, rfl⟩ := trodVars_none hV
  obtain rfl : args = #[v0] := by cases args; simp_all
  obtain ⟨a, rfl, rfl, rfl, wa⟩ := open_int Tryz.underlying5 (hval 0 5 v0 rfl rfl) h0
  clear hA0 hval0
  simp only [List.append_nil] at hW'
  have ha : 0 ≤ a ∧ a ≤ 255 := by simpa [Lit.wf, IntKind.min, IntKind.max, IntKind.signed, IntKind.bits] using wa
  refine (law a ha.1 ha.2 hL).mono fun e W' ⟨he, hb⟩ => ?_
  subst he
  exact ⟨_, rfl, _, _, _, [], [], [], hW', trodAll_mk1 (shut_bool Tryz.underlying4 _), trodAll_mk1 (shut_int Tryz.underlying5 wa), rfl, hb.frame _, fun h => by cases h⟩
theorem scriptDeep_holds : Rows.ScriptDeepSaid :=
  OpenClaim.holds_of_wide 6 Tryz.f6 rfl rfl rfl rfl rfl rfl rfl ⟨rfl, rfl, rfl, rfl, rfl⟩ rfl rfl rfl rfl rfl (by kernel_rfl) Tryz.func6 (by kernel_rfl)
    (of_decide_eq_true (by kernel_rfl)) (by unfold Func.isWrapper; first | (rw [if_pos (by decide +kernel)]; kernel_rfl) | (rw [if_neg (by decide +kernel)]; exact ⟨rfl, rfl⟩))
    (fun os started H enc _ => lifted os started H enc)
theorem scriptDeep_proved : Rows.ScriptDeepCardSaid :=
  Claim7.holds_tied_plain_at .later [] [.data, .data, .data, .data, .sentinel, .sentinel, .pinned] true (true, "1634e7c201b6555a02db3d98668e3da92c8f1215a22ed4f79945d3288704b5e7") true
    scriptDeep_holds (fun _ h => by cases h) (by kernel_rfl) (fun _ h => by cases h) scriptDeep_row_tie rfl ⟨rfl, rfl⟩ (by kernel_rfl) rfl
    (fun f fn hf hfn => by
      obtain rfl : f = 6 := Option.some.inj ((show Tryz.prog.funcNamed "widgetry/widgetrylaw45.ScriptDeep" = some 6 by kernel_rfl).symm.trans hf) |>.symm
      obtain rfl : fn = Tryz.f6 := (Option.some.inj (Tryz.func6.symm.trans hfn)).symm
      exact ⟨by kernel_rfl, fun j t ht => by
        rw [Tryz.params6] at ht
        have hm : t ∈ [5] := by simpa using Array.mem_of_getElem? ht
        have hall : ([5].all fun u => !Tryz.prog.wantsStandIn u) = true := by kernel_rfl
        exact (show Tryz.prog.wantsStandIn t = false by simpa using List.all_eq_true.1 hall t hm)⟩)
    (by kernel_rfl)
#print axioms scriptDeep_proved
end Go.Proofs.YtndpneieplopaaaGreatDoor
end
