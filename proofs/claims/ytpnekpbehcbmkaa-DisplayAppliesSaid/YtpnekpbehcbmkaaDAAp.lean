/- The law DisplayApplies holds: for every list of numbers and every list of splices it answers true and leaves its arguments as they were. -/
import Derived.Test.YtpnekpbehcbmkaaDAk
import Derived.Test.YtpnekpbehcbmkaaD7Raw
set_option linter.unusedSimpArgs false
set_option linter.unusedVariables false
set_option linter.unnecessarySimpa false
noncomputable section
namespace Go.Proofs.Ytpnekpbehcbmkaa
open Go.Eng
open Go.ChangeShapes Go.WideShapes Go.ChangeAt Go.RowKit
set_option linter.unusedVariables false
theorem sh41 : shOf Try.prog 8 41 = some [.sl [i8]] := by kernel_rfl
theorem ints_sh {a : AV} (h : HasSh a (.sl [i8])) : ∃ l, a = ints l ∧ SmX l := by
  cases h with
  | sl xs e hl hx =>
    obtain ⟨l, rfl, _⟩ := map_of (e := fun x : Int => [I x]) (Pr := fun _ => True) fun x hxm => by
      obtain ⟨a1, y, rfl, h1, h2⟩ := hs_cons (hx x hxm)
      obtain rfl := hs_nil h2
      obtain ⟨n, rfl⟩ := hs_int h1
      exact ⟨n, rfl, trivial⟩
    have h2 : (l.map fun x : Int => [I x]).length ≤ maxLen := hl
    refine ⟨l, rfl, ?_⟩
    unfold maxLen at h2
    unfold SmX
    simpa using h2
theorem ints_read {W : World} {H : Type} {enc : TypeId × Value → H} {v : Value} {d : DataW H} {p : List MemPlace} (h : DataW.Trod enc Try.prog W 0 (fun _ => true) true 41 v d p) (hv : ∃ a len cap, v = .slice a len cap) : ∃ l, SmX l ∧ VR W.heap (fun _ => False) noB (ints l) v := by
  obtain ⟨a, len, cap, rfl⟩ := hv
  obtain ⟨fuel, hf⟩ := h
  obtain ⟨xa, h1, h2⟩ := open_sh (L := fun _ => False) (fun _ h => h) fuel 8 41 _ _ _ sh41 hf
  obtain ⟨a1, x, rfl, h3, h4⟩ := hs_cons h1
  obtain rfl := hs_nil h4
  obtain ⟨l, rfl, hl⟩ := ints_sh h3
  exact ⟨l, hl, h2.2 0 _ _ (by simp) (by simp [Value.cells])⟩
theorem sh55 : shOf Try.prog 8 55 = some [.sl [i8, i8, .sl cmdSh]] := by kernel_rfl
theorem spls_sh {a : AV} (h : HasSh a (.sl [i8, i8, .sl cmdSh])) : ∃ l, a = spls l ∧ SmX l ∧ ∀ s ∈ l, SmX s.L := by
  cases h with
  | sl xs e hl hx =>
    obtain ⟨l, rfl, hp⟩ := map_of (e := Spl.enc) (Pr := fun s => SmX s.L) fun x hxm => by
      obtain ⟨a1, y, rfl, h1, h2⟩ := hs_cons (hx x hxm)
      obtain ⟨a2, y, rfl, h3, h4⟩ := hs_cons h2
      obtain ⟨a3, y, rfl, h5, h6⟩ := hs_cons h4
      obtain rfl := hs_nil h6
      obtain ⟨n, rfl⟩ := hs_int h1
      obtain ⟨m, rfl⟩ := hs_int h3
      obtain ⟨L, rfl, hL⟩ := cmds_sh h5
      exact ⟨⟨n, m, L⟩, rfl, hL⟩
    have h2 : (l.map Spl.enc).length ≤ maxLen := hl
    refine ⟨l, rfl, ?_, hp⟩
    unfold maxLen at h2
    unfold SmX
    simpa using h2
theorem spls_read {W : World} {H : Type} {enc : TypeId × Value → H} {v : Value} {d : DataW H} {p : List MemPlace} (h : DataW.Trod enc Try.prog W 0 (fun _ => true) true 55 v d p) (hv : ∃ a len cap, v = .slice a len cap) : ∃ l, SmX l ∧ (∀ s ∈ l, SmX s.L) ∧ VR W.heap (fun _ => False) noB (spls l) v := by
  obtain ⟨a, len, cap, rfl⟩ := hv
  obtain ⟨fuel, hf⟩ := h
  obtain ⟨xa, h1, h2⟩ := open_sh (L := fun _ => False) (fun _ h => h) fuel 8 55 _ _ _ sh55 hf
  obtain ⟨a1, x, rfl, h3, h4⟩ := hs_cons h1
  obtain rfl := hs_nil h4
  obtain ⟨l, rfl, hl, hp⟩ := spls_sh h3
  exact ⟨l, hl, hp, h2.2 0 _ _ (by simp) (by simp [Value.cells])⟩
set_option maxRecDepth 100000 in
theorem liftedAp (os : Os) (started : os.Started) (H : Type) (enc : TypeId × Value → H) :
    ReturnsInHanded {} Try.checked os 8 .any (Rows.displayAppliesSpec.pre6 enc Try.prog Try.f8 Rows.displayAppliesRow.domain false) (Rows.displayAppliesSpec.post enc Try.prog Try.f8 false true false false) := by
  refine returnsInHanded_of_change (C := Try.checked) own started (by kernel_rfl) Try.func8
    (ChangeSpec.witness6 (enc := enc) (C := Try.checked) false ⟨#[], #[.slice none 0 0, .slice none 0 0], []⟩ 8 (by kernel_rfl) (by kernel_rfl) (by kernel_rfl) (by kernel_rfl)) ?_
  intro W base args ds gs before hval0 hW hcnd _
  have hval : ∀ (j : Nat) t v, Try.f8.params[j]? = some t → args[j]? = some v → Value.okWide Try.prog W .any base t v := hval0
  have hW' := hW
  obtain ⟨p, q, hA0, hV, rfl, hfz, hnd⟩ := hW
  have hA : DataW.TrodAll enc Try.prog W 0 (fun _ => true) true Try.f8.params.toList args.toList ds p := hA0
  rw [Try.params8] at hA hval
  obtain ⟨v0, vs0, d0, ds0, p0, q0, hargs, rfl, rfl, h0, r0⟩ := trodAll_cons hA
  obtain ⟨v1, vs1, d1, ds1, p1, q1, rfl, rfl, rfl, h1, r1⟩ := trodAll_cons r0
  obtain ⟨rfl, rfl, rfl⟩ := trodAll_nil r1
  obtain rfl : args = #[v0, v1] := by cases args; simp_all
  obtain ⟨rfl, rfl⟩ := trodVars_none hV
  have lt : ∀ {t : TypeId} {v : Value} {d : DataW H} {p : List MemPlace}, DataW.Trod enc Try.prog W 0 (fun _ => true) true t v d p → ∀ x ∈ p, x.block < W.heap.size := fun ⟨m, hm⟩ => DataW.trod_lt m _ _ _ hm
  obtain ⟨la, sa, ra⟩ := ints_read h0 (okWide_slice Try.underlying41 (hval 0 41 v0 rfl rfl))
  obtain ⟨lb, sb, sc, rb⟩ := spls_read h1 (okWide_slice Try.underlying55 (hval 1 55 v1 rfl rfl))
  clear hA0 hval0
  refine (run_law (applies_f la lb sa sb sc) (.cons ra (.cons rb .nil))).mono fun e W' ⟨he, bel⟩ => ?_
  subst he
  exact ⟨_, rfl, _, _, _, [], _, [], hW', trodAll_mk1 (shut_bool Try.underlying4 _), (trodAll_cons_mk (Below.trod laidOut (by kernel_rfl) (of_decide_eq_true (by kernel_rfl)) h0 bel (lt h0)) (trodAll_cons_mk (Below.trod laidOut (by kernel_rfl) (of_decide_eq_true (by kernel_rfl)) h1 bel (lt h1)) trodAll_mk0)), rfl, bel.frame _, fun h => by cases h⟩
theorem overAp : Rows.displayAppliesRow.holds Try.pinned (OpenSpec.ofChange Rows.displayAppliesSpec) :=
  OpenClaim.holds_of_wide 8 Try.f8 rfl rfl rfl rfl rfl rfl rfl ⟨rfl, rfl, rfl, rfl, rfl⟩ rfl rfl rfl rfl rfl (by kernel_rfl) Try.func8 (by kernel_rfl)
    (of_decide_eq_true (by kernel_rfl)) (by unfold Func.isWrapper; first | (rw [if_pos (by decide +kernel)]; kernel_rfl) | (rw [if_neg (by decide +kernel)]; exact ⟨rfl, rfl⟩))
    (fun os started H enc _ => liftedAp os started H enc)
theorem displayApplies_proved : Rows.DisplayAppliesSaid := overAp
#print axioms displayApplies_proved
end Go.Proofs.Ytpnekpbehcbmkaa
end
