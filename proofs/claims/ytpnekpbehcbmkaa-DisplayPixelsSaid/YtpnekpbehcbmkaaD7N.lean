/- What the colour of a pixel is in the reference: the same. -/
import Derived.Test.YtpnekpbehcbmkaaD7M
set_option linter.unusedSimpArgs false
set_option linter.unusedVariables false
set_option linter.unnecessarySimpa false
noncomputable section
namespace Go.Proofs.Ytpnekpbehcbmkaa
open Go.Eng
def rpxI (l : List Cmd) (R : Int) (m : Nat) (vs : List AV) (h : AH) : Prop := ∃ (i id : Nat) (s : Sn) (rest : List Sn) (out : Int) (g : Tf) (gr : List Tf), i ≤ l.length ∧ m = l.length - i ∧ vs = [cmds l, I out, .rsl id 0 (rest.length + 1) 3, I i] ∧ Stk 3 Sn.enc id h (s :: rest) ∧ vrun (g :: gr) (l.drop i) = 0 ∧ gr.length = rest.length ∧ okS (s :: rest) ∧ prun (s :: rest) out (l.drop i) = R ∧ rest.length ≤ i
def rpM (l : List Cmd) (i : Nat) (st : List Sn) (c : Cmd) (out : Int) (vs : List AV) (h' : AH) : Prop := ∃ id' s' rest', pst st c = s' :: rest' ∧ vs = [cmds l, I (pout st c out), .rsl id' 0 (rest'.length + 1) 3, I i] ∧ Stk 3 Sn.enc id' h' (s' :: rest')
theorem rpM.mk {l : List Cmd} {i : Nat} {st : List Sn} {c : Cmd} {out out' : Int} {h' : AH} {id' : Nat} {s' : Sn} {rest' : List Sn} (h1 : pst st c = s' :: rest') (h2 : pout st c out = out') (h3 : Stk 3 Sn.enc id' h' (s' :: rest')) : rpM l i st c out [cmds l, I out', .rsl id' 0 (rest'.length + 1) 3, I i] h' := ⟨_, _, _, h1, by rw [h2], h3⟩
theorem rpixel_f (l : List Cmd) (p : Pt) (hl : SmL l) : Fresh Try.prog 16 [cmds l, .agg p.enc] (I (pixel l p)) := by
  refine C16 (tb_ok [e14, e47, e25, e48, e49]) ?_
  have hl1 := hl.1
  unfold Sm at hl1
  simp (disch := first | (simp; done) | omega | (simp only [nx_add, nx_set, nx_kill, nx_mk, nx_emp]; omega) | fail) [g16]
  refine ⟨fun vs h => vs = [cmds l, .ptr 0 0, .bool (!(decide (validate l = 0) && okP p))] ∧ h.cellsAt 0 = some p.enc, ?_, ?_⟩
  · by_cases q1 : validate l = 0 <;> cases q2 : okP p <;> simp (disch := first | (simp; done) | omega | (simp only [nx_add, nx_set, nx_kill, nx_mk, nx_emp]; omega) | fail) [g16_a1, g16_s1, q1, q2, hl]
  rintro vs h ⟨rfl, h0⟩
  simp (disch := first | (simp; done) | omega | (simp only [nx_add, nx_set, nx_kill, nx_mk, nx_emp]; omega) | fail) [g16_j9, h0]
  refine ⟨fun hh => by unfold pixel; rw [if_neg (by rintro ⟨z1, z2⟩; simp [z1, z2] at hh)], fun hv hp => ?_⟩
  have hlen : l.length ≤ 20000 := by
    unfold validate at hv
    split at hv
    · cases hv
    · omega
  refine ⟨rpxI l (pixel l p), l.length, ⟨0, h.nx, ⟨p, true⟩, [], -1, tf1, [], by omega, rfl, rfl, ⟨by simp, _, by simp; rfl, by simp [bot, Sn.enc, Pt.enc, cut]⟩, ?_, rfl, ?_, ?_, by simp⟩, ?_⟩
  · unfold validate at hv; rw [if_neg (by omega)] at hv; simpa using hv
  · intro x hx; simp at hx; subst hx; exact fun _ => hp
  · simp [pixel, hv, hp]
  rintro m vs h ⟨i, id, s, rest, out, g, gr, hi, rfl, rfl, ⟨hid, cs, hcs, hcut⟩, hrun, hgl, hok, hpr, hri⟩
  obtain ⟨htop, hpop⟩ := stk_top Sn.len hcut
  have hrl : rest.length ≤ 20000 := by omega
  by_cases hlt : i < l.length
  · have hd : l.drop i = l[i] :: l.drop (i + 1) := List.drop_eq_getElem_cons hlt
    rw [hd] at hrun hpr
    obtain ⟨c, hc⟩ : ∃ c, c = l[i] := ⟨_, rfl⟩
    have hsm : SmC c := by rw [hc]; exact hl.2 _ (List.getElem_mem hlt)
    have hsm' : Sm c.line.gl := hsm
    rw [← hc] at hrun hpr
    obtain ⟨g', gr', hrun', hcase, hnear, hrect⟩ := step_ok hrun
    simp (disch := first | (simp; done) | omega | (simp only [nx_add, nx_set, nx_kill, nx_mk, nx_emp]; omega) | fail) [g16_l6, hlt, ← hc]
    refine ⟨rpM l i (s :: rest) c out, ?_, ?_⟩
    · have hne : ¬ id = h.nx := by omega
      have hne2 : ¬ id = h.nx + 1 := by omega
      have hne3 : ¬ id = h.nx + 1 + 1 := by omega
      have hcut' : cut cs 0 ((rest.length + 1) * 3) = some (bot Sn.enc (s :: rest)) := by simpa using hcut
      simp (disch := first | (simp; done) | omega | (simp only [nx_add, nx_set, nx_kill, nx_mk, nx_emp]; omega) | fail) [g16_a4, hlt, ← hc, hcs, htop, hne, hne2, kIdxA_rsl]
      simp (disch := first | (simp; done) | omega | (simp only [nx_add, nx_set, nx_kill, nx_mk, nx_emp]; omega) | fail) [g16_s10, hlt, ← hc, hcs, htop, hne, hne2, kIdxA_rsl]
      have hne16 : ¬ id = h.nx + 1 + 1 + 13 := by omega
      have hne12 : ¬ id = h.nx + 1 + 1 + 1 + 9 := by omega
      refine ⟨fun k3 => ?_, fun k3 => ⟨fun k1 => ?_, fun k1 => ⟨fun k2 => ?_, fun k2 => ?_⟩⟩⟩
      · have hst : pst (s :: rest) c = rest := by simp [pst, k3]
        have ho : pout (s :: rest) c out = out := by simp [pout, k3]
        have hr0 : rest ≠ [] := by
          rintro rfl
          rcases hcase with ⟨_, e⟩ | ⟨k, _⟩ | ⟨k, _⟩
          · subst e; simp at hgl
          · omega
          · omega
        cases rest with
        | nil => exact absurd rfl hr0
        | cons s2 r2 =>
          simp (disch := first | (simp; done) | omega | (simp only [nx_add, nx_set, nx_kill, nx_mk, nx_emp]; omega) | fail) [g16_s2, kSl_hi]
          exact rpM.mk hst ho ⟨by simp; omega, cs, by simp [hcs, hne, hne2], hpop⟩
      · have hst : pst (s :: rest) c = ⟨s.p, s.inn && inR c.r s.p⟩ :: s :: rest := by simp [pst, k1]
        have ho : pout (s :: rest) c out = out := by simp [pout, k1]
        cases hin : s.inn
        · simp (disch := first | (simp; done) | omega | (simp only [nx_add, nx_set, nx_kill, nx_mk, nx_emp]; omega) | fail) [g16_s4, hcs, hne, hne2, hne16, hcut', hin]
          simp (disch := first | (simp; done) | omega | (simp only [nx_add, nx_set, nx_kill, nx_mk, nx_emp]; omega) | fail) [g16_s3, hcs, hne, hne2, hne16, hcut', hin]
          rw [hin] at hst
          refine rpM.mk hst ho (Stk.push' Sn.len ?_ rfl)
          simp
        · simp (disch := first | (simp; done) | omega | (simp only [nx_add, nx_set, nx_kill, nx_mk, nx_emp]; omega) | fail) [g16_s4, hcs, hne, hne2, hne16, hcut', hin]
          simp (disch := first | (simp; done) | omega | (simp only [nx_add, nx_set, nx_kill, nx_mk, nx_emp]; omega) | fail) [g16_s3, hcs, hne, hne2, hne16, hcut', hin]
          rw [hin] at hst
          refine rpM.mk hst ho (Stk.push' Sn.len ?_ rfl)
          simp
      · have hst : pst (s :: rest) c = ⟨bk c.t s.p, s.inn && okP (bk c.t s.p)⟩ :: s :: rest := by simp [pst, k2]
        have ho : pout (s :: rest) c out = out := by simp [pout, k2]
        cases hin : s.inn
        · simp (disch := first | (simp; done) | omega | (simp only [nx_add, nx_set, nx_kill, nx_mk, nx_emp]; omega) | fail) [g16_s7, hcs, hne, hne2, hne3, hne12, hcut', hin]
          simp (disch := first | (simp; done) | omega | (simp only [nx_add, nx_set, nx_kill, nx_mk, nx_emp]; omega) | fail) [g16_s6, hcs, hne, hne2, hne3, hne12, hcut', hin]
          simp (disch := first | (simp; done) | omega | (simp only [nx_add, nx_set, nx_kill, nx_mk, nx_emp]; omega) | fail) [g16_s5, hcs, hne, hne2, hne3, hne12, hcut', hin]
          rw [hin] at hst
          refine rpM.mk hst ho (Stk.push' Sn.len ?_ rfl)
          simp
        · simp (disch := first | (simp; done) | omega | (simp only [nx_add, nx_set, nx_kill, nx_mk, nx_emp]; omega) | fail) [g16_s7, hcs, hne, hne2, hne3, hne12, hcut', hin]
          simp (disch := first | (simp; done) | omega | (simp only [nx_add, nx_set, nx_kill, nx_mk, nx_emp]; omega) | fail) [g16_s6, hcs, hne, hne2, hne3, hne12, hcut', hin]
          simp (disch := first | (simp; done) | omega | (simp only [nx_add, nx_set, nx_kill, nx_mk, nx_emp]; omega) | fail) [g16_s5, hcs, hne, hne2, hne3, hne12, hcut', hin]
          rw [hin] at hst
          refine rpM.mk hst ho (Stk.push' Sn.len ?_ rfl)
          simp
      · have hst : pst (s :: rest) c = s :: rest := by simp [pst, k1, k2, k3]
        have ho : pout (s :: rest) c out = if s.inn && cov c s.p then (if c.kind = 6 then 8421504 else c.color) else out := by simp [pout, k1, k2, k3]
        have hk : c.kind = 4 ∨ c.kind = 5 ∨ c.kind = 6 := by
          rcases hcase with ⟨k, _⟩ | ⟨k, _⟩ | ⟨k, _⟩
          · exact absurd k k3
          · omega
          · exact k
        refine ⟨fun vs h1 => vs = [cmds l, I out, .rsl id 0 (rest.length + 1) 3, I i, .ptr h.nx 0, .ptr (h.nx + 1) 0, .bool (!(s.inn && inR c.r s.p))] ∧ h1.cellsAt h.nx = some c.enc ∧ h1.cellsAt (h.nx + 1) = some s.enc ∧ h1.cellsAt id = some cs ∧ h1.nx = h.nx + 2, ?_, ?_⟩
        · cases hin : s.inn <;> simp (disch := first | (simp; done) | omega | (simp only [nx_add, nx_set, nx_kill, nx_mk, nx_emp]; omega) | fail) [g16_a2, hin, hcs, hne, hne2] <;> simp (disch := first | (simp; done) | omega | (simp only [nx_add, nx_set, nx_kill, nx_mk, nx_emp]; omega) | fail) [g16_s8, hin, hcs, hne, hne2]
        · rintro vs h1 ⟨rfl, e1, e1', e2, e3⟩
          have hS : Stk 3 Sn.enc id h1 (s :: rest) := ⟨by omega, cs, e2, hcut⟩
          simp (disch := first | (simp; done) | omega | (simp only [nx_add, nx_set, nx_kill, nx_mk, nx_emp]; omega) | fail) [g16_j3, e1, e1']
          refine ⟨fun z => ?_, fun z1 z2 => ⟨fun k4 => ?_, fun k4 => ⟨fun k6 => ?_, fun k6 => ?_⟩⟩⟩
          · refine rpM.mk hst ?_ hS
            rw [ho]
            cases q : s.inn
            · simp
            · simp [q] at z; simp [cov, z]
          · refine rpM.mk hst ?_ hS
            rw [ho]; simp [z1, z2, cov, k4]
          · refine rpM.mk hst ?_ hS
            rw [ho]; simp [z1, z2, cov, k6]
          · have k5 : c.kind = 5 := by omega
            have hgp : GP c s.p := ⟨hok s (by simp) z1, hsm', hnear k5, hrect (by simp [isRec, k5])⟩
            simp (disch := first | (simp; done) | omega | (simp only [nx_add, nx_set, nx_kill, nx_mk, nx_emp]; omega) | fail) [g16_s9, e1, e1', hgp]
            refine ⟨fun gg gm gc => rpM.mk hst ?_ hS, fun hg => rpM.mk hst ?_ hS⟩
            · rw [ho]; simp [z1, z2, cov, k5]; intro hno; exact absurd gc (by simp [hno gg gm])
            · rw [ho]; simp [z1, z2, cov, k5]; intro gg gm gc; exact absurd gc (by simp [hg gg gm])
    · rintro vs h' ⟨id', s', rest', hst, rfl, hS⟩
      simp (disch := first | (simp; done) | omega | (simp only [nx_add, nx_set, nx_kill, nx_mk, nx_emp]; omega) | fail) [g16_j5]
      refine ⟨l.length - (i + 1), by omega, i + 1, id', s', rest', pout (s :: rest) c out, g', gr', by omega, rfl, by simp, hS, hrun', ?_, ?_, ?_, ?_⟩
      · have := congrArg List.length hst
        unfold pst at this
        rcases hcase with ⟨k, e⟩ | ⟨k, e⟩ | ⟨k, e⟩ <;> have := congrArg List.length e <;> simp at this
        all_goals grind
      · rw [← hst]; exact okS_step hok c
      · rw [← hst]; rw [← hpr]; simp [prun]
      · have := congrArg List.length hst
        unfold pst at this
        grind
  · have hil : i = l.length := by omega
    subst hil
    simp [prun] at hpr
    simp (disch := first | (simp; done) | omega | (simp only [nx_add, nx_set, nx_kill, nx_mk, nx_emp]; omega) | fail) [g16_l6, hlt]
    simp (disch := first | (simp; done) | omega | (simp only [nx_add, nx_set, nx_kill, nx_mk, nx_emp]; omega) | fail) [g16_j8, hlt]
    simp (disch := first | (simp; done) | omega | (simp only [nx_add, nx_set, nx_kill, nx_mk, nx_emp]; omega) | fail) [g16_c7, hlt]
    exact hpr
theorem rpixel_c (l : List Cmd) (p : Pt) (hl : SmL l) : Pure Try.prog 16 [cmds l, .agg p.enc] (I (pixel l p)) := (rpixel_f l p hl).pure (by simp [cmds_cl, Pt.cl])
def e16 : QE Try.prog := .pure 16 (fun (((l, p)) : List Cmd × Pt) => [cmds l, .agg p.enc]) (fun (((l, p)) : List Cmd × Pt) => SmL l) (fun (((l, p)) : List Cmd × Pt) => I (pixel l p)) (fun ⟨l, p⟩ hx => rpixel_c l p hx)
@[simp ↓] theorem e16_h (l : List (QE Try.prog)) (args : List AV) (h : AH) (Q : AV → AH → Prop) : tb (e16 :: l) 16 args h Q = e16.q args h Q := tb_here e16 l 16 args h Q rfl
@[simp ↓] theorem e16_t (l : List (QE Try.prog)) (f : Nat) (args : List AV) (h : AH) (Q : AV → AH → Prop) (hf : 16 ≠ f) : tb (e16 :: l) f args h Q = tb l f args h Q := tb_there e16 l f args h Q hf
@[simp ↓] theorem e16_q (l : List Cmd) (p : Pt) (h : AH) (Q : AV → AH → Prop) : e16.q [cmds l, .agg p.enc] h Q = ((SmL l) ∧ Q (I (pixel l p)) h) := (QE.pure_q (x := (l, p)) (by rintro ⟨_, _⟩ h; simp at h; simp [h]) h Q)
@[simp ↓] theorem e16_q_p (l : List Cmd) (p_x : Int) (p_y : Int) (h : AH) (Q : AV → AH → Prop) : e16.q [cmds l, .agg [I p_x, I p_y]] h Q = ((SmL l) ∧ Q (I (pixel l (Pt.mk p_x p_y))) h) := e16_q l ⟨p_x, p_y⟩ h Q
end Go.Proofs.Ytpnekpbehcbmkaa
