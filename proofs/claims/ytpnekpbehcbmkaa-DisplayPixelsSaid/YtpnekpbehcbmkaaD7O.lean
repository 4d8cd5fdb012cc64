/- What the law's own weighing of a list answers. -/
import Derived.Test.YtpnekpbehcbmkaaD7N
set_option linter.unusedSimpArgs false
set_option linter.unusedVariables false
set_option linter.unnecessarySimpa false
noncomputable section
namespace Go.Proofs.Ytpnekpbehcbmkaa
open Go.Eng
def heavy (l : List Cmd) : Bool := decide (60 < l.length) || l.any fun c => decide (30 < c.line.gl.length)
def hvI (l : List Cmd) (m : Nat) (vs : List AV) (h : AH) : Prop := ∃ i : Nat, i ≤ l.length ∧ m = l.length - i ∧ vs = [cmds l, I i] ∧ ∀ j (h1 : j < i) (h2 : j < l.length), ¬ 30 < l[j].line.gl.length
def SmX {α : Type} (l : List α) : Prop := l.length ≤ 9223372036854775807
theorem heavy_f (l : List Cmd) (hl : SmX l) : Fresh Try.prog 10 [cmds l] (.bool (heavy l)) := by
  refine C10 (tb_ok []) ?_
  unfold SmX at hl
  simp (disch := first | (simp; done) | omega | (simp only [nx_add, nx_set, nx_kill, nx_mk, nx_emp]; omega) | fail) [g10]
  refine ⟨fun hh => by simp [heavy]; omega, fun hh => ?_⟩
  refine ⟨hvI l, l.length, ⟨0, by simp⟩, ?_⟩
  rintro m vs h ⟨i, hi, rfl, rfl, hall⟩
  by_cases hlt : i < l.length
  · simp (disch := first | (simp; done) | omega | (simp only [nx_add, nx_set, nx_kill, nx_mk, nx_emp]; omega) | fail) [g10_l1, hlt]
    simp (disch := first | (simp; done) | omega | (simp only [nx_add, nx_set, nx_kill, nx_mk, nx_emp]; omega) | fail) [g10_s1, hlt]
    simp (disch := first | (simp; done) | omega | (simp only [nx_add, nx_set, nx_kill, nx_mk, nx_emp]; omega) | fail) [g10_s2, hlt]
    refine ⟨fun q => ?_, fun q => ?_⟩
    · simp (disch := first | (simp; done) | omega | (simp only [nx_add, nx_set, nx_kill, nx_mk, nx_emp]; omega) | fail) [g10_j3]
      simp [heavy]
      simp at q
      exact .inr ⟨_, List.getElem_mem hlt, by omega⟩
    · refine ⟨l.length - (i + 1), by omega, i + 1, by omega, rfl, by simp, fun j h1 h2 => ?_⟩
      by_cases hji : j < i
      · exact hall j hji h2
      · obtain rfl : j = i := by omega
        simp at q; omega
  · simp (disch := first | (simp; done) | omega | (simp only [nx_add, nx_set, nx_kill, nx_mk, nx_emp]; omega) | fail) [g10_l1, hlt]
    simp (disch := first | (simp; done) | omega | (simp only [nx_add, nx_set, nx_kill, nx_mk, nx_emp]; omega) | fail) [g10_j3, hlt]
    simp (disch := first | (simp; done) | omega | (simp only [nx_add, nx_set, nx_kill, nx_mk, nx_emp]; omega) | fail) [g10_c2, hlt]
    simp [heavy]
    refine ⟨by omega, fun c hc => ?_⟩
    obtain ⟨j, hj, rfl⟩ := List.getElem_of_mem hc
    have := hall j (by omega) hj
    omega
theorem heavy_c (l : List Cmd) (hl : SmX l) : Pure Try.prog 10 [cmds l] (.bool (heavy l)) := (heavy_f l hl).pure (by simp [cmds_cl])
def e10 : QE Try.prog := .pure 10 (fun (l : List Cmd) => [cmds l]) (fun (l : List Cmd) => SmX l) (fun (l : List Cmd) => .bool (heavy l)) (fun l hx => heavy_c l hx)
@[simp ↓] theorem e10_h (l : List (QE Try.prog)) (args : List AV) (h : AH) (Q : AV → AH → Prop) : tb (e10 :: l) 10 args h Q = e10.q args h Q := tb_here e10 l 10 args h Q rfl
@[simp ↓] theorem e10_t (l : List (QE Try.prog)) (f : Nat) (args : List AV) (h : AH) (Q : AV → AH → Prop) (hf : 10 ≠ f) : tb (e10 :: l) f args h Q = tb l f args h Q := tb_there e10 l f args h Q hf
@[simp ↓] theorem e10_q (l : List Cmd) (h : AH) (Q : AV → AH → Prop) : e10.q [cmds l] h Q = ((SmX l) ∧ Q (.bool (heavy l)) h) := (QE.pure_q (x := l) (by rintro _ h; simp at h; simp [h]) h Q)
theorem light {l : List Cmd} (h : heavy l = false) : SmL l := by
  simp [heavy] at h
  exact ⟨by unfold Sm; omega, fun c hc => by have := h.2 c hc; unfold SmC Sm; omega⟩
end Go.Proofs.Ytpnekpbehcbmkaa
