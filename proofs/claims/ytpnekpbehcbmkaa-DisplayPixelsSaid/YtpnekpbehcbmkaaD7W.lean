/- What the law on raw lists computes, as a plain function of its data. -/
import Derived.Test.YtpnekpbehcbmkaaD7U
set_option linter.unusedSimpArgs false
set_option linter.unusedVariables false
set_option linter.unnecessarySimpa false
noncomputable section
namespace Go.Proofs.Ytpnekpbehcbmkaa
open Go.Eng
def e15o : QE Try.prog := ⟨15, fun args h Q => ∃ v l p, args = [v, .agg (Pt.enc p)] ∧ Frz h false v (cmds l) ∧ SmL l ∧ Q (I (pixel l p)) h, fun args h Q ⟨v, l, p, h1, h2, h3, h4⟩ => by
  subst h1
  exact ⟨_, _, Fresh.call (pixel_f l p h3) rfl (frz_args2 h2 (.agg _ _ rfl fun i c d k1 k2 => by
    rw [k1] at k2; cases k2
    have := List.mem_of_getElem? k1
    simp [Pt.enc] at this
    rcases this with rfl | rfl <;> exact .int _ _)), h4⟩⟩
theorem e15o_h {tl : List (QE Try.prog)} {v : AV} {a : List AV} {h : AH} {Q : AV → AH → Prop} (l : List Cmd) (p : Pt) (ha : a = p.enc) (h2 : Frz h false v (cmds l)) (h3 : SmL l) (h4 : Q (I (pixel l p)) h) : tb (e15o :: tl) 15 [v, .agg a] h Q := by
  subst ha
  rw [tb_here e15o tl 15 _ _ _ rfl]
  exact ⟨v, l, p, rfl, h2, h3, h4⟩
@[simp ↓] theorem e15o_t (tl : List (QE Try.prog)) (f : Nat) (args : List AV) (h : AH) (Q : AV → AH → Prop) (hf : 15 ≠ f) : tb (e15o :: tl) f args h Q = tb tl f args h Q := tb_there e15o tl f args h Q hf
def e23o : QE Try.prog := ⟨23, fun args h Q => ∃ v1 v2 a b, args = [v1, v2] ∧ Frz h false v1 (cmds a) ∧ Frz h false v2 (cmds b) ∧ (Lite a ∧ Lite b) ∧ Q (rects (dmg a b)) h, fun args h Q ⟨v1, v2, a, b, h1, h2, h3, h4, h5⟩ => by
  subst h1
  exact ⟨_, _, Fresh.call (damage_f a b h4) rfl (frz_args2 h2 h3), h5⟩⟩
theorem e23o_h {tl : List (QE Try.prog)} {v1 v2 : AV} {h : AH} {Q : AV → AH → Prop} (a b : List Cmd) (h2 : Frz h false v1 (cmds a)) (h3 : Frz h false v2 (cmds b)) (h4 : Lite a ∧ Lite b) (h5 : Q (rects (dmg a b)) h) : tb (e23o :: tl) 23 [v1, v2] h Q := by
  rw [tb_here e23o tl 23 _ _ _ rfl]
  exact ⟨v1, v2, a, b, rfl, h2, h3, h4, h5⟩
@[simp ↓] theorem e23o_t (tl : List (QE Try.prog)) (f : Nat) (args : List AV) (h : AH) (Q : AV → AH → Prop) (hf : 23 ≠ f) : tb (e23o :: tl) f args h Q = tb tl f args h Q := tb_there e23o tl f args h Q hf
def fA : Cmd := fillC 0 0 10 10 1
def fB : Cmd := fillC 5 5 10 10 2
theorem px1 : pixel [fA, fB] ⟨7, 7⟩ = 2 := by decide
theorem px2 : pixel [fA, fB] ⟨1, 7⟩ = 1 := by decide
theorem px3 : pixel [fA, fB] ⟨1, 17⟩ = -1 := by decide
theorem dm1 : (dmg [fA, fB] [fA]).length = 1 := by
  have h1 : dAt [fA, fB] [fA] = 1 := by simp [dAt, lcp, eqD]
  have h2 : dTl [fA, fB] [fA] = 0 := by simp [dTl, h1, lcp]
  have h3 : eqD [fA, fB] [fA] = false := by simp [eqD]
  have h4 : dL [fA, fB] [fA] = [] := by simp [dL, h1, h2]
  have h5 : dSt [fA, fB] [fA] = false := by simp [dSt, h1, h2, h4]; decide
  have h6 : validate [fA, fB] = 0 := by decide
  have h7 : validate [fA] = 0 := by decide
  have h8 : exts 1 2 [] 0 [fA, fB] [] = some [⟨5, 5, 10, 10⟩] := rfl
  have h9 : exts 1 1 [] 0 [fA] [] = some [] := rfl
  unfold dmg
  rw [if_neg (by simp [h3]), if_pos ⟨h6, h7⟩]
  simp [dF, dTa, dTb, h5, h1, h2, h8, h9]
theorem awake_c : Pure Try.prog 17 [] (.bool true) := by
  refine .of (by simp) (C17 (tb_ok [e15o, e23o, e26]) ?_)
  have hsm : SmL [fA, fB] := ⟨by simp [Sm], by simp [SmC, Sm, fA, fB, fillC]⟩
  have hli : Lite [fA, fB] ∧ Lite [fA] := ⟨⟨by simp, by simp [fA, fB, fillC]⟩, ⟨by simp, by simp [fA, fillC]⟩⟩
  simp (disch := first | (simp; done) | omega | (simp only [nx_add, nx_set, nx_kill, nx_mk, nx_emp]; omega) | fail) [g17]
  simp (disch := first | (simp; done) | omega | (simp only [nx_add, nx_set, nx_kill, nx_mk, nx_emp]; omega) | fail) [g17_s4]
  refine wk_of (v := .rsl 0 0 2 22) (h := emp.add (.cells (fA.enc ++ fB.enc))) rfl ?_
  obtain ⟨h, hh⟩ : ∃ h, h = emp.add (.cells (fA.enc ++ fB.enc)) := ⟨_, rfl⟩
  have hc : h.cellsAt 0 = some (fA.enc ++ fB.enc) := by subst hh; simp
  rw [← hh]
  have hF : Frz h false (.rsl 0 0 2 22) (cmds [fA, fB]) := frz_rows Cmd.len (l := [fA, fB]) (by simpa using hc) (fun a _ c hc => a.pls c hc h)
  have hF1 : Frz h false (.rsl 0 0 1 22) (cmds [fA]) := by
    refine .rsl 0 0 22 _ [fA.enc] hc (by simp) (fun i y hy => ?_) (fun i y j c d k1 k2 k3 => ?_)
    · match i with
      | 0 => simp at hy; subst hy; simp
      | i + 1 => simp at hy
    · match i with
      | 0 =>
        simp at k1; subst k1
        have hj : j < 22 := by rw [← Cmd.len fA]; exact (List.getElem?_eq_some_iff.1 k2).1
        rw [show 0 + 0 * 22 + j = j by omega, List.getElem?_append_left (by simpa using hj), k2] at k3
        cases k3
        exact fA.pls _ (List.mem_of_getElem? k2) h
      | i + 1 => simp at k1
  refine e15o_h [fA, fB] ⟨7, 7⟩ rfl hF hsm ?_
  rw [px1]
  simp (disch := first | (simp; done) | omega | (simp only [nx_add, nx_set, nx_kill, nx_mk, nx_emp]; omega) | fail) [g17_s3]
  refine e15o_h [fA, fB] ⟨1, 7⟩ rfl hF hsm ?_
  rw [px2]
  simp (disch := first | (simp; done) | omega | (simp only [nx_add, nx_set, nx_kill, nx_mk, nx_emp]; omega) | fail) [g17_s2]
  refine e15o_h [fA, fB] ⟨1, 17⟩ rfl hF hsm ?_
  rw [px3]
  simp (disch := first | (simp; done) | omega | (simp only [nx_add, nx_set, nx_kill, nx_mk, nx_emp]; omega) | fail) [kSl_hi]
  refine e23o_h [fA, fB] [fA] hF hF1 hli ?_
  simp (disch := first | (simp; done) | omega | (simp only [nx_add, nx_set, nx_kill, nx_mk, nx_emp]; omega) | fail) [rects, dm1, g17_s1]
end Go.Proofs.Ytpnekpbehcbmkaa
noncomputable section
namespace Go.Proofs.Ytpnekpbehcbmkaa
open Go.Eng
def e17 : QE Try.prog := .pure 17 (fun (_u : Unit) => []) (fun (_u : Unit) => True) (fun (_u : Unit) => .bool true) (fun _ _ => awake_c )
@[simp ↓] theorem e17_h (l : List (QE Try.prog)) (args : List AV) (h : AH) (Q : AV → AH → Prop) : tb (e17 :: l) 17 args h Q = e17.q args h Q := tb_here e17 l 17 args h Q rfl
@[simp ↓] theorem e17_t (l : List (QE Try.prog)) (f : Nat) (args : List AV) (h : AH) (Q : AV → AH → Prop) (hf : 17 ≠ f) : tb (e17 :: l) f args h Q = tb l f args h Q := tb_there e17 l f args h Q hf
@[simp ↓] theorem e17_q  (h : AH) (Q : AV → AH → Prop) : e17.q [] h Q = Q (.bool true) h := (QE.pure_q (x := ()) (by intro _ _; rfl) h Q).trans (by simp)
def rawI (a b : List Cmd) (p : Pt) (m : Nat) (vs : List AV) (h : AH) : Prop := ∃ i : Nat, i ≤ a.length ∧ i ≤ b.length ∧ m = a.length - i ∧ vs = [cmds a, cmds b, .ptr 0 0, I i] ∧ h.cellsAt 0 = some p.enc
theorem raw_f (a b : List Cmd) (p : Pt) (ha1 : SmX a) (hb1 : SmX b) : Fresh Try.prog 3 [cmds a, cmds b, .agg p.enc] (.bool true) := by
  refine C3 (tb_ok [e10, e11, e12, e13, e14, e15, e16, e17]) ?_
  simp (disch := first | (simp; done) | omega | (simp only [nx_add, nx_set, nx_kill, nx_mk, nx_emp]; omega) | fail) [g3]
  refine ⟨fun vs h => vs = [cmds a, cmds b, .ptr 0 0, .bool (heavy a || heavy b)] ∧ h.cellsAt 0 = some p.enc, ?_, ?_⟩
  · cases q1 : heavy a <;> cases q2 : heavy b <;> simp (disch := first | (simp; done) | omega | (simp only [nx_add, nx_set, nx_kill, nx_mk, nx_emp]; omega) | fail) [g3_a1, g3_s1, ha1, hb1, q1, q2]
  rintro vs h ⟨rfl, h0⟩
  simp (disch := first | (simp; done) | omega | (simp only [nx_add, nx_set, nx_kill, nx_mk, nx_emp]; omega) | fail) [g3_j9]
  intro hva hvb
  have ha := light hva
  have hb := light hvb
  unfold SmX at ha1 hb1
  refine ⟨rawI a b p, a.length, ⟨0, by simp, by simp, by simp, rfl, h0⟩, ?_⟩
  rintro m vs h ⟨i, hi, hi2, rfl, rfl, h0⟩
  simp (disch := first | (simp; done) | omega | (simp only [nx_add, nx_set, nx_kill, nx_mk, nx_emp]; omega) | fail) [g3_l6]
  refine ⟨fun vs h => vs = [cmds a, cmds b, .ptr 0 0, I i, .bool (decide (i < a.length) && decide (i < b.length))] ∧ h.cellsAt 0 = some p.enc, ?_, ?_⟩
  · by_cases q1 : i < a.length <;> by_cases q2 : i < b.length <;> simp (disch := first | (simp; done) | omega | (simp only [nx_add, nx_set, nx_kill, nx_mk, nx_emp]; omega) | fail) [g3_a2, q1, q2, h0]
  rintro vs h ⟨rfl, h0⟩
  simp (disch := first | (simp; done) | omega | (simp only [nx_add, nx_set, nx_kill, nx_mk, nx_emp]; omega) | fail) [g3_j5]
  refine ⟨fun hl1 hl2 => ?_, fun hno => ?_⟩
  · refine ⟨fun vs h => vs = [cmds a, cmds b, .ptr 0 0, I i, .bool false] ∧ h.cellsAt 0 = some p.enc, ?_, ?_⟩
    · have s1 : SmC a[i] := ha.2 _ (List.getElem_mem hl1)
      have s2 : SmC b[i] := hb.2 _ (List.getElem_mem hl2)
      simp (disch := first | (simp; done) | omega | (simp only [nx_add, nx_set, nx_kill, nx_mk, nx_emp]; omega) | fail) [g3_a3, hl1, hl2, s1, s2, h0]
      simp (disch := first | (simp; done) | omega | (simp only [nx_add, nx_set, nx_kill, nx_mk, nx_emp]; omega) | fail) [g3_s4, hl1, hl2, s1, s2, h0]
      simp (disch := first | (simp; done) | omega | (simp only [nx_add, nx_set, nx_kill, nx_mk, nx_emp]; omega) | fail) [g3_s3, hl1, hl2, s1, s2, h0]
      simp (disch := first | (simp; done) | omega | (simp only [nx_add, nx_set, nx_kill, nx_mk, nx_emp]; omega) | fail) [g3_s2, hl1, hl2, s1, s2, h0]
      exact eqD_iff.2 rfl
    · rintro vs h ⟨rfl, h0⟩
      simp (disch := first | (simp; done) | omega | (simp only [nx_add, nx_set, nx_kill, nx_mk, nx_emp]; omega) | fail) [g3_j4]
      refine ⟨a.length - (i + 1), by omega, i + 1, by omega, by omega, rfl, by simp, h0⟩
  · simp (disch := first | (simp; done) | omega | (simp only [nx_add, nx_set, nx_kill, nx_mk, nx_emp]; omega) | fail) [g3_j8, h0, ha, hb]
    simp (disch := first | (simp; done) | omega | (simp only [nx_add, nx_set, nx_kill, nx_mk, nx_emp]; omega) | fail) [g3_c7, h0, ha, hb]
    simp (disch := first | (simp; done) | omega | (simp only [nx_add, nx_set, nx_kill, nx_mk, nx_emp]; omega) | fail) [g3_s6, h0, ha, hb]
    simp (disch := first | (simp; done) | omega | (simp only [nx_add, nx_set, nx_kill, nx_mk, nx_emp]; omega) | fail) [g3_s5, h0, ha, hb]
end Go.Proofs.Ytpnekpbehcbmkaa
