/- What comparing two lists of commands by a function answers, and what a clone of a list holds. -/
import Derived.Test.YtpnekpbehcbmkaaD7Q
set_option linter.unusedSimpArgs false
set_option linter.unusedVariables false
set_option linter.unnecessarySimpa false
noncomputable section
namespace Go.Proofs.Ytpnekpbehcbmkaa
open Go.Eng
def eqfI (a b : List Cmd) (m : Nat) (vs : List AV) (h : AH) : Prop := ∃ i : Nat, i ≤ a.length ∧ m = a.length - i ∧ vs = [cmds b, .func (.func 11) [] [], cmds a, I a.length, I i] ∧ ∀ j (h1 : j < i) (h2 : j < a.length) (h3 : j < b.length), a[j] = b[j]
theorem equalFunc_c (a b : List Cmd) (hx : SmL a ∧ SmL b) : Pure Try.prog 58 [cmds a, cmds b, .func (.func 11) [] []] (.bool (eqD a b)) := by
  refine .of (by simp [cmds_cl]; exact .func (by simp) (by simp)) (C58 (tb_ok [e11]) ?_)
  obtain ⟨ha, hb⟩ := hx
  have ha1 := ha.1; have hb1 := hb.1
  unfold Sm at ha1 hb1
  simp (disch := first | (simp; done) | omega | (simp only [nx_add, nx_set, nx_kill, nx_mk, nx_emp]; omega) | fail) [g58]
  refine ⟨fun hne => ?_, fun heq => ?_⟩
  · simp [eqD]; intro e; exact hne (by rw [e])
  have heq' : a.length = b.length := by omega
  refine ⟨eqfI a b, a.length, ⟨0, by simp⟩, ?_⟩
  rintro m vs h ⟨i, hi, rfl, rfl, hall⟩
  by_cases hlt : i < a.length
  · have hlt2 : i < b.length := by omega
    have s1 : SmC a[i] := ha.2 _ (List.getElem_mem hlt)
    have s2 : SmC b[i] := hb.2 _ (List.getElem_mem hlt2)
    have q1 : ¬ h.nx = h.nx + 1 := by omega
    simp (disch := first | (simp; done) | omega | (simp only [nx_add, nx_set, nx_kill, nx_mk, nx_emp]; omega) | fail) [g58_l1, hlt, hlt2, s1, s2, q1]
    simp (disch := first | (simp; done) | omega | (simp only [nx_add, nx_set, nx_kill, nx_mk, nx_emp]; omega) | fail) [g58_s1, hlt, hlt2, s1, s2, q1]
    refine ⟨fun hne => ?_, fun he => ?_⟩
    · simp [g58_j3, eqD]
      rintro rfl
      simp [eqD] at hne
    · refine ⟨a.length - (i + 1), by omega, i + 1, by omega, rfl, by simp, fun j h1 h2 h3 => ?_⟩
      by_cases hji : j < i
      · exact hall j hji h2 h3
      · obtain rfl : j = i := by omega
        exact eqD_iff.1 he
  · simp (disch := first | (simp; done) | omega | (simp only [nx_add, nx_set, nx_kill, nx_mk, nx_emp]; omega) | fail) [g58_l1, hlt]
    simp (disch := first | (simp; done) | omega | (simp only [nx_add, nx_set, nx_kill, nx_mk, nx_emp]; omega) | fail) [g58_j3, hlt]
    simp (disch := first | (simp; done) | omega | (simp only [nx_add, nx_set, nx_kill, nx_mk, nx_emp]; omega) | fail) [g58_c2, hlt]
    exact eqD_iff.2 (List.ext_getElem heq' fun j h1 h2 => hall j (by omega) h1 h2)
def e58 : QE Try.prog := .pure 58 (fun (((a, b)) : List Cmd × List Cmd) => [cmds a, cmds b, .func (.func 11) [] []]) (fun (((a, b)) : List Cmd × List Cmd) => SmL a ∧ SmL b) (fun (((a, b)) : List Cmd × List Cmd) => .bool (eqD a b)) (fun ⟨a, b⟩ hx => equalFunc_c a b hx)
@[simp ↓] theorem e58_h (l : List (QE Try.prog)) (args : List AV) (h : AH) (Q : AV → AH → Prop) : tb (e58 :: l) 58 args h Q = e58.q args h Q := tb_here e58 l 58 args h Q rfl
@[simp ↓] theorem e58_t (l : List (QE Try.prog)) (f : Nat) (args : List AV) (h : AH) (Q : AV → AH → Prop) (hf : 58 ≠ f) : tb (e58 :: l) f args h Q = tb l f args h Q := tb_there e58 l f args h Q hf
@[simp ↓] theorem e58_q (a : List Cmd) (b : List Cmd) (h : AH) (Q : AV → AH → Prop) : e58.q [cmds a, cmds b, .func (.func 11) [] []] h Q = ((SmL a ∧ SmL b) ∧ Q (.bool (eqD a b)) h) := (QE.pure_q (x := (a, b)) (by rintro ⟨_, _⟩ h; simp at h; simp [h]) h Q)
@[simp] theorem kApp_nr (h : AH) (z bytes id2 off2 m : Nat) (hm : m ≠ 0) : kApp h z bytes .nilsl (.rsl id2 off2 m z) =
    match h.cellsAt id2 with
    | some cs2 => match cut cs2 off2 (m * z) with
      | some new => if ones new = true ∧ roomy m bytes = true then some (.rsl h.nx 0 m z, h.add (.cells new)) else none
      | none => none
    | none => none := by
  simp only [kApp, aapp, acells, alen, if_true]
  cases h2 : h.cellsAt id2 with
  | none => simp
  | some cs2 =>
    simp
    cases h4 : cut cs2 off2 (m * z) with
    | none => simp
    | some new => cases ho : ones new <;> cases hr : roomy m bytes <;> simp [ho, hr, hm]
def grow (v : AV) (h : AH) (z : Nat) {α : Type} (e : α → List AV) (l : List α) : Prop := (l = [] ∧ v = .nilsl) ∨ ∃ id, v = .rsl id 0 l.length z ∧ id < h.nx ∧ h.cellsAt id = some ((l.map e).flatten)
@[simp] theorem Ln.spl12 (c : Cmd) : splice c.enc 12 c.line.enc = some c.enc := by cases c; exact Eq.trans rfl rfl
def clI (l : List Cmd) (m : Nat) (vs : List AV) (h : AH) : Prop := ∃ (i : Nat) (v : AV), i ≤ l.length ∧ m = l.length - i ∧ vs = [v, cmds l, I l.length, I i] ∧ grow v h 22 Cmd.enc (l.take i)
theorem take_snoc {α : Type} (l : List α) (i : Nat) (hi : i < l.length) : l.take (i + 1) = l.take i ++ [l[i]] := by rw [List.take_add_one]; simp [hi]
theorem cloned_c (l : List Cmd) (hl : Lite l) : Pure Try.prog 59 [cmds l] (cmds l) := by
  refine .of (by simp [cmds_cl]) (C59 (tb_ok [e79]) ?_)
  have hl1 := hl.1
  simp (disch := first | (simp; done) | omega | (simp only [nx_add, nx_set, nx_kill, nx_mk, nx_emp]; omega) | fail) [g59]
  refine ⟨clI l, l.length, ⟨0, .nilsl, by omega, rfl, rfl, .inl ⟨by simp, rfl⟩⟩, ?_⟩
  rintro m vs h ⟨i, v, hi, rfl, rfl, hv⟩
  by_cases hlt : i < l.length
  · have hg : l[i].line.gl.length ≤ 1000 := hl.2 _ (List.getElem_mem hlt)
    have hlen : (l.take i).length = i := by simp; omega
    rcases hv with ⟨he, rfl⟩ | ⟨id, rfl, hid, hc⟩
    · have hi0 : i = 0 := by rw [he] at hlen; simpa using hlen.symm
      simp (disch := first | (simp; done) | omega | (simp only [nx_add, nx_set, nx_kill, nx_mk, nx_emp]; omega) | fail) [g59_l1, hlt, hg]
      simp (disch := first | (simp; done) | omega | (simp only [nx_add, nx_set, nx_kill, nx_mk, nx_emp]; omega) | fail) [g59_s1, hlt, hg]
      refine ⟨l.length - (i + 1), by omega, i + 1, _, by omega, rfl, by simp; rfl, .inr ⟨h.nx + 1 + 1, by rw [take_snoc l i hlt, he]; simp, by simp, ?_⟩⟩
      rw [take_snoc l i hlt, he]; simp
    · have q1 : ¬ id = h.nx := by omega
      have q2 : ¬ id = h.nx + 1 := by omega
      rw [hlen]
      have hF2 : ((l.take (i + 1)).map Cmd.enc).flatten = ((l.take i).map Cmd.enc).flatten ++ l[i].enc := by rw [take_snoc l i hlt, List.map_append, List.flatten_append]; simp only [List.map_cons, List.map_nil, List.flatten_cons, List.flatten_nil, List.append_nil]
      have hcut : cut (((l.take i).map Cmd.enc).flatten) 0 (i * 22) = some (((l.take i).map Cmd.enc).flatten) := by
        have := cut_zero_app (α := ((l.take i).map Cmd.enc).flatten) (b := []) (n := i * 22) (by rw [flat_len Cmd.len, hlen])
        rwa [List.append_nil] at this
      have hones : ones (((l.take i).map Cmd.enc).flatten) = true := ones_flat Cmd.ones _
      generalize ((l.take i).map Cmd.enc).flatten = F at hc hF2 hcut hones
      simp (disch := first | (simp; done) | omega | (simp only [nx_add, nx_set, nx_kill, nx_mk, nx_emp]; omega) | fail) [g59_l1, hlt, hg, q1, q2, hc, hcut, hones]
      simp (disch := first | (simp; done) | omega | (simp only [nx_add, nx_set, nx_kill, nx_mk, nx_emp]; omega) | fail) [g59_s1, hlt, hg, q1, q2, hc, hcut, hones]
      refine ⟨l.length - (i + 1), by omega, i + 1, _, by omega, rfl, by simp; rfl, .inr ⟨h.nx + 1 + 1, by rw [show (l.take (i + 1)).length = i + 1 by simp; omega], by simp, ?_⟩⟩
      rw [hF2]; simp
  · have hil : i = l.length := by omega
    subst hil
    rw [List.take_length] at hv
    simp (disch := first | (simp; done) | omega | (simp only [nx_add, nx_set, nx_kill, nx_mk, nx_emp]; omega) | fail) [g59_l1, hlt]
    simp (disch := first | (simp; done) | omega | (simp only [nx_add, nx_set, nx_kill, nx_mk, nx_emp]; omega) | fail) [g59_j3, hlt]
    simp (disch := first | (simp; done) | omega | (simp only [nx_add, nx_set, nx_kill, nx_mk, nx_emp]; omega) | fail) [g59_c2, hlt]
    rcases hv with ⟨rfl, rfl⟩ | ⟨id, rfl, hid, hc⟩
    · exact .nilsl
    · exact frz_rows Cmd.len hc (fun a _ c hc => a.pls c hc h)
def e59 : QE Try.prog := .pure 59 (fun (l : List Cmd) => [cmds l]) (fun (l : List Cmd) => Lite l) (fun (l : List Cmd) => cmds l) (fun l hx => cloned_c l hx)
@[simp ↓] theorem e59_h (l : List (QE Try.prog)) (args : List AV) (h : AH) (Q : AV → AH → Prop) : tb (e59 :: l) 59 args h Q = e59.q args h Q := tb_here e59 l 59 args h Q rfl
@[simp ↓] theorem e59_t (l : List (QE Try.prog)) (f : Nat) (args : List AV) (h : AH) (Q : AV → AH → Prop) (hf : 59 ≠ f) : tb (e59 :: l) f args h Q = tb l f args h Q := tb_there e59 l f args h Q hf
@[simp ↓] theorem e59_q (l : List Cmd) (h : AH) (Q : AV → AH → Prop) : e59.q [cmds l] h Q = ((Lite l) ∧ Q (cmds l) h) := (QE.pure_q (x := l) (by rintro _ h; simp at h; simp [h]) h Q)
end Go.Proofs.Ytpnekpbehcbmkaa
