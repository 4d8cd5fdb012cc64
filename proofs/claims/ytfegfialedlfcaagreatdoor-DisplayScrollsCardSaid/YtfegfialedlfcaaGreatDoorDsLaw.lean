/- The row DisplayScrolls and its card. -/
import Derived.Test.YtfegfialedlfcaaGreatDoorDsY
import Derived.Test.YtfegfialedlfcaaGreatDoorEngIN
import Derived.Test.YtfegfialedlfcaaGreatDoorDsJc
import Derived.Test.YtfegfialedlfcaaGreatDoorDsJd
import Derived.Test.YtfegfialedlfcaaGreatDoorTie
import Derived.Test.YtfegfialedlfcaaGreatDoorCards
import Derived.WalkKit
import Derived.ProofKit
import Derived.OpenShut
import Derived.Lay
import Derived.SevenTiedAt
set_option linter.unusedSimpArgs false
set_option linter.unusedVariables false
set_option linter.unnecessarySimpa false
noncomputable section
namespace Go.Proofs.YtfegfialedlfcaaGreatDoor
open Go.Eng
open Go.ChangeShapes Go.WideShapes Go.ChangeAt Go.RowKit
set_option linter.unusedVariables false
theorem own : ownKnob Tryz.prog.godebug = none := by kernel_rfl
/-- the variables that the row lists -/
def laid3 : List (String × DataW Unit) := [("unicode/utf8.acceptRanges", Rows.laid_unicode_utf8_acceptRanges), ("widgetry/style.properties", Rows.laid_widgetry_style_properties), ("unicode/utf8.first", Rows.laid_unicode_utf8_first)]
theorem gProps : Tryz.prog.globalNamed "widgetry/style.properties" = some 0 := by kernel_rfl
theorem tProps : flatD (H := Unit) Tryz.prog 8 ((Tryz.prog.globals[0]?).map (·.type)).get! Rows.laid_widgetry_style_properties = some props := by kernel_rfl
theorem props_of_laid {W : World} (h : laidMetH Tryz.prog laid3 W) : ∃ cur e fz, W.heap[0]? = some (.cells cur e fz) ∧ RL W.heap (fun _ => False) noB props cur.toList := by
  rw [MakeChecks.laidMetH_plain _ _ _ (by kernel_rfl)] at h
  obtain ⟨ps, ⟨g0, t0, cs0, f0, p0, q0, hg0, ht0, hv0, hd0, ⟨g1, t1, cs1, f1, p1, q1, hg1, ht1, hv1, hd1, _, _⟩, _⟩, _, _⟩ := h
  obtain rfl := Option.some.inj (gProps.symm.trans hg1)
  have hf := tProps
  rw [ht1] at hf
  have hR := flatD_RL (hp := W.heap) (L := fun _ => False) (β := noB) 8 _ _ _ _ _ props hd1 hf
  have hv := hv1
  simp only [World.var?, gProps, Option.bind_some] at hv
  split at hv
  · rename_i cs e fz hb
    cases hv
    exact ⟨_, _, _, hb, hR⟩
  · cases hv
theorem laidOut : laidOutB Tryz.prog = true := by kernel_rfl
theorem sh22 : shOf Tryz.prog 8 22 = some [.sl [.int .i64]] := by kernel_rfl
theorem ints_sh {a : AV} (h : HasSh a (.sl [.int .i64])) : ∃ l, a = ints l := by
  cases h with
  | sl xs e hl hx =>
    have : ∀ ys : List (List AV), (∀ x ∈ ys, HasShL x [.int .i64]) → ∃ l : List Int, ys = l.map fun n => [I n] := fun ys => by
      induction ys with
      | nil => intro _; exact ⟨[], rfl⟩
      | cons y ys ih =>
        intro hy
        obtain ⟨l, rfl⟩ := ih fun x hx => hy x (by simp [hx])
        have h1 := hy y (by simp)
        cases h1 with
        | cons a _ ar _ h2 h3 =>
          cases h3
          cases h2 with
          | int _ n _ => exact ⟨n :: l, rfl⟩
    obtain ⟨l, rfl⟩ := this xs hx
    exact ⟨l, rfl⟩
theorem ints_read {W : World} {H : Type} {enc : TypeId × Value → H} {v : Value} {d : DataW H} {p : List MemPlace} (h : DataW.Trod enc Tryz.prog W 0 (fun _ => true) true 22 v d p) (hv : ∃ a len cap, v = .slice a len cap) : ∃ l, VR W.heap (fun _ => False) noB (ints l) v := by
  obtain ⟨a, len, cap, rfl⟩ := hv
  obtain ⟨fuel, hf⟩ := h
  obtain ⟨xa, h1, h2⟩ := open_sh (L := fun _ => False) (fun _ h => h) fuel 8 22 _ _ _ sh22 hf
  cases h1 with
  | cons a1 _ x _ h3 h4 =>
    cases h4
    obtain ⟨l, rfl⟩ := ints_sh h3
    exact ⟨l, h2.2 0 _ _ (by simp) (by simp [Value.cells])⟩
theorem law {v : Value} {l : List Int} {W : World} (h : laidMetH Tryz.prog laid3 W) (hv : VR W.heap (fun _ => False) noB (ints l) v) (a b c : Int) :
    Calls Tryz.prog 3 #[v, .int .i64 a, .int .i64 b, .int .i64 c] W fun e W' => e = .returned (.bool true) ∧ Below W.heap.size W W' := by
  obtain ⟨cur, e, fz, hbk, hR⟩ := props_of_laid h
  exact run_c hbk hR hv a b c
set_option maxRecDepth 100000 in
theorem lifted (os : Os) (started : os.Started) (H : Type) (enc : TypeId × Value → H) :
    ReturnsInHanded {} Tryz.checked os 3 .any (fun w args => (Rows.displayScrollsSpec.pre enc Tryz.prog Tryz.f3 [] false w args ∧ laidMetH Tryz.prog laid3 w) ∧ sizedMet enc Tryz.prog Tryz.f3 (OpenSpec.ofChange Rows.displayScrollsSpec) false w args)
      (Rows.displayScrollsSpec.post enc Tryz.prog Tryz.f3 false true false false) := by
  refine returnsInHanded_of_change_and (C := Tryz.checked) (X := fun w _ => laidMetH Tryz.prog laid3 w) (fun _ _ _ hh h => h.of_heap hh) own started (by kernel_rfl) Tryz.func3
    (ChangeSpec.witness_shaped (enc := enc) (C := Tryz.checked) (os := os) (X := fun w _ => laidMetH Tryz.prog laid3 w) false (World.laidAll Tryz.prog os laid3) #[.slice none 0 0, .int .i64 0, .int .i64 0, .int .i64 0] 8 (World.laidAll_os _ _ _)
      (World.shaped_of_ZipB (by kernel_rfl) (by kernel_rfl)) (by kernel_rfl) (by kernel_rfl) (by kernel_rfl)
      (by rw [MakeChecks.laidMetH_plain _ _ _ (by kernel_rfl)]; exact laidMet_laidAll _ (by kernel_rfl) (by kernel_rfl))) ?_
  intro W base args ds gs before hval0 hW _ _ hL _
  have hval : ∀ (j : Nat) t v, Tryz.f3.params[j]? = some t → args[j]? = some v → Value.okWide Tryz.prog W .any base t v := hval0
  have hW' := hW
  obtain ⟨p, q, hA0, hV, rfl, _, _⟩ := hW
  have hA : DataW.TrodAll enc Tryz.prog W 0 (fun _ => true) true Tryz.f3.params.toList args.toList ds p := hA0
  rw [Tryz.params3] at hA hval
  obtain ⟨v0, vs0, d0, ds0, p0, q0, hargs, rfl, rfl, h0, r0⟩ := trodAll_cons hA
  obtain ⟨v1, vs1, d1, ds1, p1, q1, rfl, rfl, rfl, h1, r1⟩ := trodAll_cons r0
  obtain ⟨v2, vs2, d2, ds2, p2, q2, rfl, rfl, rfl, h2, r2⟩ := trodAll_cons r1
  obtain ⟨v3, vs3, d3, ds3, p3, q3, rfl, rfl, rfl, h3, r3⟩ := trodAll_cons r2
  obtain ⟨rfl, rfl, rfl⟩ := trodAll_nil r3
  obtain ⟨rfl, rfl⟩ := trodVars_none hV
  obtain rfl : args = #[v0, v1, v2, v3] := by cases args; simp_all
  have lt : ∀ {t : TypeId} {v : Value} {d : DataW H} {p : List MemPlace}, DataW.Trod enc Tryz.prog W 0 (fun _ => true) true t v d p → ∀ x ∈ p, x.block < W.heap.size := fun ⟨m, hm⟩ => DataW.trod_lt m _ _ _ hm
  obtain ⟨l, hu⟩ := ints_read h0 (okWide_slice (e := 3) Tryz.underlying22 (hval 0 22 v0 rfl rfl))
  obtain ⟨a, rfl, rfl, rfl, wa⟩ := open_int Tryz.underlying3 (hval 1 3 v1 rfl rfl) h1
  obtain ⟨b, rfl, rfl, rfl, wb⟩ := open_int Tryz.underlying3 (hval 2 3 v2 rfl rfl) h2
  obtain ⟨c, rfl, rfl, rfl, wc⟩ := open_int Tryz.underlying3 (hval 3 3 v3 rfl rfl) h3
  clear hA0 hval0
  refine (law hL hu a b c).mono fun e W' ⟨he, bel⟩ => ?_
  subst he
  exact ⟨_, rfl, _, _, _, [], _, [], hW', trodAll_mk1 (shut_bool Tryz.underlying4 _), (trodAll_cons_mk (Below.trod laidOut (by kernel_rfl) (of_decide_eq_true (by kernel_rfl)) h0 bel (lt h0)) (trodAll_cons_mk (shut_int Tryz.underlying3 wa) (trodAll_cons_mk (shut_int Tryz.underlying3 wb) (trodAll_cons_mk (shut_int Tryz.underlying3 wc) trodAll_mk0)))), rfl, bel.frame _, fun h => by cases h⟩
theorem displayScrolls_holds : Rows.DisplayScrollsSaid :=
  OpenClaim.holds_of_wide 3 Tryz.f3 rfl rfl rfl rfl rfl rfl rfl ⟨rfl, rfl, rfl, rfl, rfl⟩ rfl rfl rfl rfl rfl (by kernel_rfl) Tryz.func3 facts
    (of_decide_eq_true (by kernel_rfl)) (by unfold Func.isWrapper; first | (rw [if_pos (by decide +kernel)]; kernel_rfl) | (rw [if_neg (by decide +kernel)]; exact ⟨rfl, rfl⟩))
    (fun os started H enc _ => lifted os started H enc)
theorem displayScrolls_proved : Rows.DisplayScrollsCardSaid :=
  Claim7.holds_tied_plain_at .later [] [.data, .data, .pinned] true (true, "f46da637a8f46b52a4d64a357790f44b8addf3393cf991e45ebd07886606c522") false
    displayScrolls_holds (fun _ h => by cases h) cd_wf (fun _ h => by cases h) displayScrolls_row_tie rfl ⟨rfl, rfl⟩ cd_main rfl
    (fun f fn hf hfn => by
      obtain rfl : f = 3 := Option.some.inj (cd_fn.symm.trans hf) |>.symm
      obtain rfl : fn = Tryz.f3 := (Option.some.inj (Tryz.func3.symm.trans hfn)).symm
      exact ⟨cd_looks, fun j t ht => by
        rw [Tryz.params3] at ht
        have hm : t ∈ [22, 3, 3, 3] := by simpa using Array.mem_of_getElem? ht
        exact (show Tryz.prog.wantsStandIn t = false by simpa using List.all_eq_true.1 cd_stand t hm)⟩)
    cd_goes
#print axioms displayScrolls_proved
end Go.Proofs.YtfegfialedlfcaaGreatDoor
end
