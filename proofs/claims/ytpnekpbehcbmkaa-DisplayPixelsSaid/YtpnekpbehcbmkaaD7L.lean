/- What validating a list of commands answers in the reference. -/
import Derived.Test.YtpnekpbehcbmkaaD7K
set_option linter.unusedSimpArgs false
set_option linter.unusedVariables false
set_option linter.unnecessarySimpa false
noncomputable section
namespace Go.Proofs.Ytpnekpbehcbmkaa
open Go.Eng
@[simp] theorem Gl.e4 (r : Gl) (h : 4 < r.enc.length) : r.enc[4]'h = I r.x := by cases r; exact Eq.trans rfl rfl
@[simp] theorem Gl.e5 (r : Gl) (h : 5 < r.enc.length) : r.enc[5]'h = I r.adv := by cases r; exact Eq.trans rfl rfl
def rvI (l : List Cmd) (m : Nat) (vs : List AV) (h : AH) : Prop := ∃ (i : Nat) (id : Nat) (top : Tf) (rest : List Tf), i ≤ l.length ∧ m = l.length - i ∧ vs = [cmds l, .rsl id 0 (rest.length + 1) 5, I i] ∧ Stk 5 Tf.enc id h (top :: rest) ∧ vrun (top :: rest) (l.drop i) = validate l ∧ rest.length ≤ i
def rvM (l : List Cmd) (i : Nat) (st : List Tf) (c : Cmd) (x : AX) (vs : List AV) (h' : AH) : Prop := (x = .nrm ∧ ∃ id' top' rest', cmdErr st c = .inr (top' :: rest') ∧ vs = [cmds l, .undef, .rsl id' 0 (rest'.length + 1) 5, I i] ∧ Stk 5 Tf.enc id' h' (top' :: rest') ∧ rest'.length ≤ i + 1) ∨ (x = .ret ∧ ∃ e u, cmdErr st c = .inl e ∧ vs = [cmds l, I e, u, I i])
theorem rvM.mk {l : List Cmd} {i : Nat} {st : List Tf} {c : Cmd} {h' : AH} {id' : Nat} {top' : Tf} {rest' : List Tf} (h1 : cmdErr st c = .inr (top' :: rest')) (h2 : Stk 5 Tf.enc id' h' (top' :: rest')) (h3 : rest'.length ≤ i + 1) : rvM l i st c .nrm [cmds l, .undef, .rsl id' 0 (rest'.length + 1) 5, I i] h' := .inl ⟨rfl, _, _, _, h1, rfl, h2, h3⟩
theorem rvM.err {l : List Cmd} {i : Nat} {st : List Tf} {c : Cmd} {h' : AH} {e : Int} {u : AV} (h1 : cmdErr st c = .inl e) : rvM l i st c .ret [cmds l, I e, u, I i] h' := .inr ⟨rfl, _, _, h1, rfl⟩
def rvN (l : List Cmd) (i n : Nat) (st : List Tf) (c : Cmd) (x : AX) (vs : List AV) (h' : AH) : Prop :=
  (x = .exit 1 ∧ ∃ id' top' rest', cmdErr st c = .inr (top' :: rest') ∧ vs = [cmds l, .undef, .rsl id' 0 (rest'.length + 1) 5, I i, .ptr n 0] ∧ Stk 5 Tf.enc id' h' (top' :: rest') ∧ rest'.length ≤ i + 1) ∨
  (x = .ret ∧ ∃ e u, cmdErr st c = .inl e ∧ vs = [cmds l, I e, u, I i, .ptr n 0]) ∨
  (x = .nrm ∧ ∃ id' top' rest', isRec c.kind = true ∧ (if c.kind = 1 then st.headD zT :: st else st) = top' :: rest' ∧ vs = [cmds l, .undef, .rsl id' 0 (rest'.length + 1) 5, I i, .ptr n 0] ∧ Stk 5 Tf.enc id' h' (top' :: rest') ∧ rest'.length ≤ i + 1 ∧ h'.cellsAt n = some c.enc)
theorem rvN.mk {l : List Cmd} {i n : Nat} {st : List Tf} {c : Cmd} {h' : AH} {id' : Nat} {top' : Tf} {rest' : List Tf} (h1 : cmdErr st c = .inr (top' :: rest')) (h2 : Stk 5 Tf.enc id' h' (top' :: rest')) (h3 : rest'.length ≤ i + 1) : rvN l i n st c (.exit 1) [cmds l, .undef, .rsl id' 0 (rest'.length + 1) 5, I i, .ptr n 0] h' := .inl ⟨rfl, _, _, _, h1, rfl, h2, h3⟩
theorem rvN.err {l : List Cmd} {i n : Nat} {st : List Tf} {c : Cmd} {h' : AH} {e : Int} {u : AV} (h1 : cmdErr st c = .inl e) : rvN l i n st c .ret [cmds l, I e, u, I i, .ptr n 0] h' := .inr (.inl ⟨rfl, _, _, h1, rfl⟩)
theorem rvN.go {l : List Cmd} {i n : Nat} {st : List Tf} {c : Cmd} {h' : AH} {id' : Nat} {top' : Tf} {rest' : List Tf} (h1 : isRec c.kind = true) (h2 : (if c.kind = 1 then st.headD zT :: st else st) = top' :: rest') (h3 : Stk 5 Tf.enc id' h' (top' :: rest')) (h4 : rest'.length ≤ i + 1) (h5 : h'.cellsAt n = some c.enc) : rvN l i n st c .nrm [cmds l, .undef, .rsl id' 0 (rest'.length + 1) 5, I i, .ptr n 0] h' := .inr (.inr ⟨rfl, _, _, _, h1, h2, rfl, h3, h4, h5⟩)
def rgI (l : List Cmd) (i n id : Nat) (c : Cmd) (top : Tf) (rest : List Tf) (m : Nat) (vs : List AV) (h : AH) : Prop := ∃ k : Nat, k ≤ c.line.gl.length ∧ m = c.line.gl.length - k ∧ vs = [cmds l, .rsl id 0 (rest.length + 1) 5, I i, .ptr n 0, I k] ∧ h.cellsAt n = some c.enc ∧ Stk 5 Tf.enc id h (top :: rest) ∧ ∀ j (h1 : j < k) (h2 : j < c.line.gl.length), farG c.line.gl[j] = false
theorem rvalidate_f (l : List Cmd) (hl : SmL l) : Fresh Try.prog 14 [cmds l] (I (validate l)) := by
  refine C14 (tb_ok [e40, e41, e42]) ?_
  have hl1 := hl.1
  unfold Sm at hl1
  simp (disch := first | (simp; done) | omega | (simp only [nx_add, nx_set, nx_kill, nx_mk, nx_emp]; omega) | fail) [g14]
  refine ⟨fun hh => by unfold validate; rw [if_pos (by omega)], fun hh => ?_⟩
  refine ⟨rvI l, l.length, ⟨0, 0, tf1, [], by omega, rfl, rfl, ⟨by simp, _, by simp; rfl, by simp [bot, tf1, Tf.enc, cut]⟩, ?_, by simp⟩, ?_⟩
  · simp [validate]; omega
  rintro m vs h ⟨i, id, top, rest, hi, rfl, rfl, ⟨hid, cs, hcs, hcut⟩, hrun, hri⟩
  obtain ⟨htop, hpop⟩ := stk_top Tf.len hcut
  have hrl : rest.length ≤ 20000 := by omega
  by_cases hlt : i < l.length
  · have hd : l.drop i = l[i] :: l.drop (i + 1) := List.drop_eq_getElem_cons hlt
    rw [hd] at hrun
    obtain ⟨c, hc⟩ : ∃ c, c = l[i] := ⟨_, rfl⟩
    have hsm : SmC c := by rw [hc]; exact hl.2 _ (List.getElem_mem hlt)
    have hsm' : Sm c.line.gl := hsm
    unfold Sm at hsm'
    rw [← hc] at hrun
    simp (disch := first | (simp; done) | omega | (simp only [nx_add, nx_set, nx_kill, nx_mk, nx_emp]; omega) | fail) [g14_l14, hlt, ← hc]
    refine ⟨rvM l i (top :: rest) c, ?_, ?_⟩
    · have hne : ¬ id = h.nx := by omega
      have hne2 : ¬ id = h.nx + 1 := by omega
      have hne3 : ¬ id = h.nx + 1 + 1 := by omega
      have hne4 : ¬ id = h.nx + 1 + 1 + 1 := by omega
      have hcut' : cut cs 0 ((rest.length + 1) * 5) = some (bot Tf.enc (top :: rest)) := by simpa using hcut
      simp (disch := first | (simp; done) | omega | (simp only [nx_add, nx_set, nx_kill, nx_mk, nx_emp]; omega) | fail) [g14_a12, hlt, ← hc, hcs, htop, hne, hne2, kIdxA_rsl]
      simp (disch := first | (simp; done) | omega | (simp only [nx_add, nx_set, nx_kill, nx_mk, nx_emp]; omega) | fail) [g14_s6, hlt, ← hc, hcs, htop, hne, hne2, kIdxA_rsl]
      refine ⟨rvN l i h.nx (top :: rest) c, ?_, ?_⟩
      · simp (disch := first | (simp; done) | omega | (simp only [nx_add, nx_set, nx_kill, nx_mk, nx_emp]; omega) | fail) [g14_a3, hcs, hne, hne2, hne3, hcut']
        refine ⟨fun k3 => ⟨fun hz => rvN.err ?_, fun hz => ?_⟩, fun k3 => ⟨fun k2 => ?_, fun k2 => ⟨fun k1 => ?_, fun k1 => ?_⟩⟩⟩
        · unfold cmdErr; rw [if_pos k3]; simp; exact List.length_eq_zero_iff.1 (by omega)
        · cases rest with
          | nil => simp at hz
          | cons t2 r2 =>
            simp (disch := first | (simp; done) | omega | (simp only [nx_add, nx_set, nx_kill, nx_mk, nx_emp]; omega) | fail) [kSl_hi]
            refine rvN.mk (top' := t2) (rest' := r2) (by unfold cmdErr; simp [k3]) ⟨by simp; omega, cs, by simp [hcs, hne, hne2], hpop⟩ (by simp at hri; omega)
        · have hcE : cmdErr (top :: rest) c = if cmbOk top c.t then .inr (cmb top c.t :: top :: rest) else .inl 1 := by unfold cmdErr; rw [if_neg k3, if_pos k2]; rfl
          cases q : cmbOk top c.t
          · simp (disch := first | (simp; done) | omega | (simp only [nx_add, nx_set, nx_kill, nx_mk, nx_emp]; omega) | fail) [g14_s2, cmbR, q]
            exact rvN.err (by rw [hcE]; simp [q])
          · simp (disch := first | (simp; done) | omega | (simp only [nx_add, nx_set, nx_kill, nx_mk, nx_emp]; omega) | fail) [g14_s2, hcs, hne, hne2, hne3, hne4, hcut', cmbR, q]
            simp (disch := first | (simp; done) | omega | (simp only [nx_add, nx_set, nx_kill, nx_mk, nx_emp]; omega) | fail) [g14_s1, hcs, hne, hne2, hne3, hne4, hcut', cmbR, q]
            refine rvN.mk (top' := cmb top c.t) (rest' := top :: rest) (by rw [hcE]; simp [q]) (Stk.push Tf.len ?_) ?_
            · simp
            · simp; omega
        · refine rvN.go (c := c) (st := top :: rest) (top' := top) (rest' := top :: rest) (by simp [isRec, k1]) (by simp [k1]) (Stk.push Tf.len ?_) ?_ ?_
          · simp
          · simp; omega
          · have q1 : ¬ h.nx = id := fun e => hne e.symm
            have q2 : ¬ h.nx = h.nx + 1 + 1 + 1 := by omega
            have q3 : ¬ h.nx = h.nx + 1 + 1 := by omega
            simp (disch := first | (simp; done) | omega | (simp only [nx_add, nx_set, nx_kill, nx_mk, nx_emp]; omega) | fail) [q1, q2, q3]
        · refine ⟨fun vs h1 => vs = [cmds l, .rsl id 0 (rest.length + 1) 5, I i, .ptr h.nx 0, .bool (c.kind == 4 || c.kind == 5 || c.kind == 6)] ∧ h1.cellsAt h.nx = some c.enc ∧ h1.cellsAt id = some cs ∧ h1.nx = h.nx + 2, ?_, ?_⟩
          · by_cases q1 : c.kind = 4 <;> by_cases q2 : c.kind = 5 <;> by_cases q3 : c.kind = 6 <;> simp (disch := first | (simp; done) | omega | (simp only [nx_add, nx_set, nx_kill, nx_mk, nx_emp]; omega) | fail) [g14_a1, q1, q2, q3, hcs, hne, hne2] <;> omega
          · rintro vs h1 ⟨rfl, e1, e2, e3⟩
            simp (disch := first | (simp; done) | omega | (simp only [nx_add, nx_set, nx_kill, nx_mk, nx_emp]; omega) | fail) [g14_j2]
            refine ⟨fun q => ?_, fun q4 q5 q6 => ?_⟩
            · refine rvN.go (top' := top) (rest' := rest) ?_ (by simp [k1]) ⟨by omega, cs, e2, hcut⟩ (by omega) e1
              simp [isRec]; omega
            · refine rvN.err ?_
              unfold cmdErr
              rw [if_neg k3, if_neg k2, if_neg (by omega)]
      · rintro x vs h1 hN
        rcases hN with ⟨rfl, id', top', rest', hE, rfl, hS, hr2⟩ | ⟨rfl, e, u, hE, rfl⟩ | ⟨rfl, id', top', rest', hrec, hst, rfl, hS, hr2, e1⟩
        · simp (disch := first | (simp; done) | omega | (simp only [nx_add, nx_set, nx_kill, nx_mk, nx_emp]; omega) | fail) [g14_j11]
          exact rvM.mk hE hS hr2
        · simp (disch := first | (simp; done) | omega | (simp only [nx_add, nx_set, nx_kill, nx_mk, nx_emp]; omega) | fail) [g14_j11]
          exact rvM.err hE
        · have hkk : c.kind = 1 ∨ c.kind = 4 ∨ c.kind = 5 ∨ c.kind = 6 := by simpa [isRec, or_assoc] using hrec
          have hcE : cmdErr (top :: rest) c = if okR c.r = false then .inl 1 else if (c.kind = 4 ∨ c.kind = 5) ∧ isCol c.color = false then .inl 1 else if c.kind = 5 ∧ nearL c.line = false then .inl 1 else .inr (top' :: rest') := by
            unfold cmdErr
            rw [if_neg (by omega), if_neg (by omega), if_pos hkk]
            split
            · rfl
            split
            · rfl
            split
            · rfl
            · rw [← hst]; split <;> rfl
          simp (disch := first | (simp; done) | omega | (simp only [nx_add, nx_set, nx_kill, nx_mk, nx_emp]; omega) | fail) [g14_j11, e1]
          refine ⟨fun hr => rvM.err (by rw [hcE]; simp [hr]), fun hr => ?_⟩
          refine ⟨fun vs h2 => vs = [cmds l, .rsl id' 0 (rest'.length + 1) 5, I i, .ptr h.nx 0, .bool ((c.kind == 4 || c.kind == 5) && !isCol c.color)] ∧ h2.cellsAt h.nx = some c.enc ∧ Stk 5 Tf.enc id' h2 (top' :: rest'), ?_, ?_⟩
          · by_cases q1 : c.kind = 4 <;> by_cases q2 : c.kind = 5 <;> by_cases q3 : c.color < 0 <;> by_cases q4 : 16777215 < c.color <;> simp (disch := first | (simp; done) | omega | (simp only [nx_add, nx_set, nx_kill, nx_mk, nx_emp]; omega) | fail) [g14_a4, g14_s3, q1, q2, q3, q4, e1] <;> first | exact hS | (refine ⟨?_, hS⟩; grind [isCol]) | (exfalso; omega)
          · rintro vs h2 ⟨rfl, e1, hS⟩
            simp (disch := first | (simp; done) | omega | (simp only [nx_add, nx_set, nx_kill, nx_mk, nx_emp]; omega) | fail) [g14_j10, e1]
            refine ⟨fun kk hcol => rvM.err (by rw [hcE]; simp [hr, kk, hcol]), fun hcol => ⟨fun k5 => rvM.mk (by rw [hcE]; simp [hr, k5]; intro kk; exact hcol (.inl kk)) hS hr2, fun k5 => ⟨fun hn => rvM.err ?_, fun hn => ?_⟩⟩⟩
            · rw [hcE]; simp [hr, k5, nearL, hn]
            have hcol' := hcol (.inr k5)
            refine ⟨rgI l i h.nx id' c top' rest', c.line.gl.length, ⟨0, by omega, rfl, rfl, e1, hS, fun j h1 => by omega⟩, ?_⟩
            rintro m vs h3 ⟨k, hk, rfl, rfl, e1, hS, hall⟩
            by_cases hkl : k < c.line.gl.length
            · simp (disch := first | (simp; done) | omega | (simp only [nx_add, nx_set, nx_kill, nx_mk, nx_emp]; omega) | fail) [g14_l7, e1, hkl]
              refine ⟨fun vs h4 => vs = [cmds l, .rsl id' 0 (rest'.length + 1) 5, I i, .ptr h.nx 0, I k, .bool (farG c.line.gl[k])] ∧ h4.cellsAt h.nx = some c.enc ∧ Stk 5 Tf.enc id' h4 (top' :: rest'), ?_, ?_⟩
              · simp (disch := first | (simp; done) | omega | (simp only [nx_add, nx_set, nx_kill, nx_mk, nx_emp]; omega) | fail) [g14_a5, e1, hkl]
                cases q1 : near40 c.line.gl[k].x <;> cases q2 : near40 c.line.gl[k].adv <;> simp (disch := first | (simp; done) | omega | (simp only [nx_add, nx_set, nx_kill, nx_mk, nx_emp]; omega) | fail) [g14_s5, e1, hkl, q1, q2, farG] <;> (try simp (disch := first | (simp; done) | omega | (simp only [nx_add, nx_set, nx_kill, nx_mk, nx_emp]; omega) | fail) [g14_s4, e1, hkl, q1, q2, farG])
                all_goals exact hS
              · rintro vs h4 ⟨rfl, e1, hS⟩
                simp (disch := first | (simp; done) | omega | (simp only [nx_add, nx_set, nx_kill, nx_mk, nx_emp]; omega) | fail) [g14_j6]
                refine ⟨fun hf => ?_, fun hf => ?_⟩
                · simp (disch := first | (simp; done) | omega | (simp only [nx_add, nx_set, nx_kill, nx_mk, nx_emp]; omega) | fail) [g14_j9]
                  refine rvM.err ?_
                  rw [hcE]; simp [hr, k5, hcol']
                  have : nearL c.line = false := by
                    simp [nearL]; intro _
                    exact ⟨_, List.getElem_mem hkl, hf⟩
                  simp [this]
                · refine ⟨c.line.gl.length - (k + 1), by omega, k + 1, by omega, rfl, by simp, e1, hS, fun j h1 h2 => ?_⟩
                  by_cases hjk : j < k
                  · exact hall j hjk h2
                  · obtain rfl : j = k := by omega
                    exact hf
            · simp (disch := first | (simp; done) | omega | (simp only [nx_add, nx_set, nx_kill, nx_mk, nx_emp]; omega) | fail) [g14_l7, e1, hkl]
              simp (disch := first | (simp; done) | omega | (simp only [nx_add, nx_set, nx_kill, nx_mk, nx_emp]; omega) | fail) [g14_j9, e1, hkl]
              simp (disch := first | (simp; done) | omega | (simp only [nx_add, nx_set, nx_kill, nx_mk, nx_emp]; omega) | fail) [g14_c8, e1, hkl]
              refine rvM.mk ?_ hS hr2
              have : nearL c.line = true := by
                simp [nearL, hn]
                intro g hg
                obtain ⟨j, hj, rfl⟩ := List.getElem_of_mem hg
                exact hall j (by omega) hj
              rw [hcE]; simp [hr, k5, hcol', this]
    · rintro x vs h' hM
      rcases hM with ⟨rfl, id', top', rest', hE, rfl, hS, hr2⟩ | ⟨rfl, e, u, hE, rfl⟩
      · simp (disch := first | (simp; done) | omega | (simp only [nx_add, nx_set, nx_kill, nx_mk, nx_emp]; omega) | fail) [g14_j13]
        refine ⟨l.length - (i + 1), by omega, i + 1, id', top', rest', by omega, rfl, by simp, hS, ?_, hr2⟩
        rw [← hrun]; simp [vrun, hE]
      · simp (disch := first | (simp; done) | omega | (simp only [nx_add, nx_set, nx_kill, nx_mk, nx_emp]; omega) | fail) [g14_j13, g14_j16]
        rw [← hrun]; simp [vrun, hE]
  · have hil : i = l.length := by omega
    subst hil
    simp [vrun] at hrun
    simp (disch := first | (simp; done) | omega | (simp only [nx_add, nx_set, nx_kill, nx_mk, nx_emp]; omega) | fail) [g14_l14, hlt]
    simp (disch := first | (simp; done) | omega | (simp only [nx_add, nx_set, nx_kill, nx_mk, nx_emp]; omega) | fail) [g14_j16, hlt]
    simp (disch := first | (simp; done) | omega | (simp only [nx_add, nx_set, nx_kill, nx_mk, nx_emp]; omega) | fail) [g14_c15, hlt]
    rw [← hrun]
    refine ⟨fun q => ?_, fun q => ?_⟩
    · rw [if_pos (by omega)]
    · rw [if_neg (by omega)]
theorem rvalidate_c (l : List Cmd) (hl : SmL l) : Pure Try.prog 14 [cmds l] (I (validate l)) := (rvalidate_f l hl).pure (by simp [cmds_cl])
def e14 : QE Try.prog := .pure 14 (fun (l : List Cmd) => [cmds l]) (fun (l : List Cmd) => SmL l) (fun (l : List Cmd) => I (validate l)) (fun l hx => rvalidate_c l hx)
@[simp ↓] theorem e14_h (l : List (QE Try.prog)) (args : List AV) (h : AH) (Q : AV → AH → Prop) : tb (e14 :: l) 14 args h Q = e14.q args h Q := tb_here e14 l 14 args h Q rfl
@[simp ↓] theorem e14_t (l : List (QE Try.prog)) (f : Nat) (args : List AV) (h : AH) (Q : AV → AH → Prop) (hf : 14 ≠ f) : tb (e14 :: l) f args h Q = tb l f args h Q := tb_there e14 l f args h Q hf
@[simp ↓] theorem e14_q (l : List Cmd) (h : AH) (Q : AV → AH → Prop) : e14.q [cmds l] h Q = ((SmL l) ∧ Q (I (validate l)) h) := (QE.pure_q (x := l) (by rintro _ h; simp at h; simp [h]) h Q)
end Go.Proofs.Ytpnekpbehcbmkaa
