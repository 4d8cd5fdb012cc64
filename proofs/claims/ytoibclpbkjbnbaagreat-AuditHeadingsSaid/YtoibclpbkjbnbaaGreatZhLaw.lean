/- PROVED: the law AuditHeadings returns true for every list of levels and leaves its argument as it was. -/
import Derived.Test.YtoibclpbkjbnbaaGreatZhC
import Derived.Test.YtoibclpbkjbnbaaGreatEngDD
import Derived.Test.YtoibclpbkjbnbaaGreatRows
import Derived.WalkKit
import Derived.ProofKit
import Derived.OpenShut
import Derived.ShutString
import Derived.ChangeOld
import Derived.Below
set_option linter.unusedSimpArgs false
set_option linter.unusedVariables false
set_option linter.unnecessarySimpa false
noncomputable section
namespace Go.Proofs.YtoibclpbkjbnbaaGreat
open Go.Eng
open Go.ChangeShapes Go.WideShapes Go.ChangeAt Go.RowKit
set_option linter.unusedVariables false
theorem own : ownKnob Tryz.prog.godebug = none := by kernel_rfl
theorem laidOut : laidOutB Tryz.prog = true := by kernel_rfl
theorem sh22 : shOf Tryz.prog 8 22 = some [.sl [.int .u8]] := by kernel_rfl
theorem hs_cons {xa : List AV} {s : SH} {ss : List SH} (h : HasShL xa (s :: ss)) : ∃ a bs, xa = a :: bs ∧ HasSh a s ∧ HasShL bs ss := by cases h with | cons a _ bs _ h hs => exact ⟨a, bs, rfl, h, hs⟩
theorem hs_nil {xa : List AV} (h : HasShL xa []) : xa = [] := by cases h; rfl
theorem us_of : ∀ {xs : List (List AV)}, (∀ x ∈ xs, HasShL x [.int .u8]) → ∃ us : List Int, xs = us.map (fun u => [AV.int .u8 u]) ∧ ∀ u ∈ us, 0 ≤ u ∧ u ≤ 255
  | [], _ => ⟨[], rfl, fun a ha => by simp at ha⟩
  | x :: xs, h => by
    obtain ⟨us, rfl, hu⟩ := us_of (xs := xs) fun y hy => h y (by simp [hy])
    obtain ⟨a, bs, rfl, h1, h2⟩ := hs_cons (h x (by simp))
    obtain rfl := hs_nil h2
    cases h1 with
    | int _ n hw =>
      refine ⟨n :: us, rfl, fun u hu' => ?_⟩
      rcases List.mem_cons.1 hu' with rfl | hu'
      · have hw' : (decide ((0 : Int) ≤ u) && decide (u ≤ 255)) = true := hw
        simp only [Bool.and_eq_true, decide_eq_true_eq] at hw'
        exact hw'
      · exact hu u hu'
theorem us_read {W : World} {H : Type} {enc : TypeId × Value → H} {v : Value} {d : DataW H} {p : List MemPlace} (h : DataW.Trod enc Tryz.prog W 0 (fun _ => true) true 22 v d p) (hv : ∃ a len cap, v = .slice a len cap) : ∃ us : List Int, us.length ≤ maxLen ∧ (∀ u ∈ us, 0 ≤ u ∧ u ≤ 255) ∧ VR W.heap (fun _ => False) noB (usA us) v := by
  obtain ⟨a, len, cap, rfl⟩ := hv
  obtain ⟨fuel, hf⟩ := h
  obtain ⟨xa, h1, h2⟩ := open_sh (L := fun _ => False) (fun _ h => h) fuel 8 22 _ _ _ sh22 hf
  obtain ⟨a1, x, rfl, h3, h4⟩ := hs_cons h1
  obtain rfl := hs_nil h4
  cases h3 with
  | sl xs e hl hx =>
    obtain ⟨us, rfl, hu⟩ := us_of hx
    exact ⟨us, by simpa using hl, hu, h2.2 0 (usA us) _ rfl (by simp [Value.cells])⟩
/-- the law, run in a world: true, and nothing that was there is written -/
theorem run_law {f : Nat} {pargs : List AV} (hf : Fresh Tryz.prog f pargs (.bool true)) {W : World} {cargs : Array Value} (hR : RL W.heap (fun _ => False) noB pargs cargs.toList) :
    Calls Tryz.prog f cargs W fun e W' => e = .returned (.bool true) ∧ Below W.heap.size W W' := by
  have hLL : LL (fun _ => False) noB emp.H = fun _ => False := by
    funext b; apply propext; exact ⟨fun h => h.elim id (live_emp _ b), fun h => h.elim⟩
  refine (hf.2 (fun _ => False) noB W cargs (simH_emp fun b h => h.elim) (by rw [hLL]; exact hR)).mono ?_
  rintro e W' ⟨cv, v, h', β', rfl, hfz, _, hv, ht⟩
  have hv2 : v = .bool true := by
    generalize hb : AV.bool true = b at hfz
    cases hfz <;> cases hb
    rfl
  subst hv2
  cases hv
  exact ⟨rfl, ht.os, ht.tape, ht.output, ht.size, fun k hk => ht.keep k hk (live_emp _ k)⟩
set_option maxRecDepth 100000 in
theorem lifted (os : Os) (started : os.Started) (H : Type) (enc : TypeId × Value → H) :
    ReturnsInHanded {} Tryz.checked os 3 .any (Rows.auditHeadingsSpec.pre6 enc Tryz.prog Tryz.f3 Rows.auditHeadingsRow.domain false) (Rows.auditHeadingsSpec.post enc Tryz.prog Tryz.f3 false true false false) := by
  refine returnsInHanded_of_change (C := Tryz.checked) own started (by kernel_rfl) Tryz.func3
    (ChangeSpec.witness6 (enc := enc) (C := Tryz.checked) false ⟨#[], #[.slice none 0 0], []⟩ 8 (by kernel_rfl) (by kernel_rfl) (by kernel_rfl) (by kernel_rfl)) ?_
  intro W base args ds gs before hval0 hW hcnd _
  have hval : ∀ (j : Nat) t v, Tryz.f3.params[j]? = some t → args[j]? = some v → Value.okWide Tryz.prog W .any base t v := hval0
  have hW' := hW
  obtain ⟨p, q, hA0, hV, rfl, hfz, hnd⟩ := hW
  have hA : DataW.TrodAll enc Tryz.prog W 0 (fun _ => true) true Tryz.f3.params.toList args.toList ds p := hA0
  rw [Tryz.params3] at hA hval
  obtain ⟨v0, vs0, d0, ds0, p0, q0, hargs, rfl, rfl, h0, r0⟩ := trodAll_cons hA
  obtain ⟨rfl, rfl, rfl⟩ := trodAll_nil r0
  obtain rfl : args = #[v0] := by cases args; simp_all
  obtain ⟨rfl, rfl⟩ := trodVars_none hV
  have lt : ∀ {t : TypeId} {v : Value} {d : DataW H} {p : List MemPlace}, DataW.Trod enc Tryz.prog W 0 (fun _ => true) true t v d p → ∀ x ∈ p, x.block < W.heap.size := fun ⟨m, hm⟩ => DataW.trod_lt m _ _ _ hm
  obtain ⟨us, hm, hu, ra⟩ := us_read h0 (okWide_slice Tryz.underlying22 (hval 0 22 v0 rfl rfl))
  clear hA0 hval0
  refine (run_law (law_all us hm hu) (.cons ra .nil)).mono fun e W' ⟨he, bel⟩ => ?_
  subst he
  exact ⟨_, rfl, _, _, _, [], _, [], hW', trodAll_mk1 (shut_bool Tryz.underlying4 _), (trodAll_cons_mk (Below.trod laidOut (by kernel_rfl) (of_decide_eq_true (by kernel_rfl)) h0 bel (lt h0)) trodAll_mk0), rfl, bel.frame _, fun h => by cases h⟩
theorem auditHeadings_proved : Rows.AuditHeadingsSaid :=
  OpenClaim.holds_of_wide 3 Tryz.f3 rfl rfl rfl rfl rfl rfl rfl ⟨rfl, rfl, rfl, rfl, rfl⟩ rfl rfl rfl rfl rfl (by kernel_rfl) Tryz.func3 (by kernel_rfl)
    (of_decide_eq_true (by kernel_rfl)) (by unfold Func.isWrapper; first | (rw [if_pos (by decide +kernel)]; kernel_rfl) | (rw [if_neg (by decide +kernel)]; exact ⟨rfl, rfl⟩))
    (fun os started H enc _ => lifted os started H enc)
end Go.Proofs.YtoibclpbkjbnbaaGreat
end
