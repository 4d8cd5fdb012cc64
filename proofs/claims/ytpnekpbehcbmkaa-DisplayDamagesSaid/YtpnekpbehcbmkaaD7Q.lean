/- What validating a list of commands answers in the reference. What the colour of a pixel is in the program. What the colour of a pixel is in the reference: the same. What the law's own weighing of a list answers. What cloning an empty slice of glyphs answers. What the copies of commands and the tests on them answer. What applying a transform to a rectangle answers. -/
import Derived.Test.YtpnekpbehcbmkaaD7K
import Derived.WalkKit
import Derived.ProofKit
set_option linter.unusedSimpArgs false
set_option linter.unusedVariables false
set_option linter.unnecessarySimpa false
noncomputable section
namespace Go.Proofs.Ytpnekpbehcbmkaa
open Go.Eng
@[simp] theorem Gl.e4 (r : Gl) (h : 4 < r.enc.length) : r.enc[4]'h = I r.x := by cases r; exact Eq.trans rfl rfl
@[simp] theorem Gl.e5 (r : Gl) (h : 5 < r.enc.length) : r.enc[5]'h = I r.adv := by cases r; exact Eq.trans rfl rfl
def rvI (l : List Cmd) (m : Nat) (vs : List AV) (h : AH) : Prop := ∃ (i : Nat) (id : Nat) (top : Tf) (rest : List Tf), i ≤ l.length ∧ m = l.length - i ∧ vs = [cmds l, .rsl id 0 (rest.length + 1) 5, I i] ∧ Stk 5 Tf.enc id h (top :: rest) ∧ vrun (top :: rest) (l.drop i) = validate l ∧ rest.length ≤ i
def rvM (l : List Cmd) (i : Nat) (st : List Tf) (c : Cmd) (x : AX) (vs : List AV) (h' : AH) : Prop := (x = .nrm ∧ ∃ id' top' rest', cmdErr st c = .inr (top' :: rest') ∧ vs = [cmds l, .undef, .rsl id' 0 (rest'.length + 1) 5, I i] ∧ Stk 5 Tf.enc id' h' (top' :: rest') ∧ rest'.length ≤ i + 1) ∨ (x = .ret ∧ ∃ e u, cmdErr st c = .inl e ∧ vs = [cmds l, I e, u, I i])
theorem rvM.mk {l : List Cmd} {i : Nat} {st : List Tf} {c : Cmd} {h' : AH} {id' : Nat} {top' : Tf} {rest' : List Tf} (h1 : cmdErr st c = .inr (top' :: rest')) (h2 : Stk 5 Tf.enc id' h' (top' :: rest')) (h3 : rest'.length ≤ i + 1) : rvM l i st c .nrm [cmds l, .undef, .rsl id' 0 (rest'.length + 1) 5, I i] h' := .inl ⟨rfl, _, _, _, h1, rfl, h2, h3⟩
theorem rvM.err {l : List Cmd} {i : Nat} {st : List Tf} {c : Cmd} {h' : AH} {e : Int} {u : AV} (h1 : cmdErr st c = .inl e) : rvM l i st c .ret [cmds l, I e, u, I i] h' := .inr ⟨rfl, _, _, h1, rfl⟩
def rvN (l : List Cmd) (i n : Nat) (st : List Tf) (c : Cmd) (x : AX) (vs : List AV) (h' : AH) : Prop :=
  (x = .exit 1 ∧ ∃ id' top' rest', cmdErr st c = .inr (top' :: rest') ∧ vs = [cmds l, .undef, .rsl id' 0 (rest'.length + 1) 5, I i, .ptr n 0] ∧ Stk 5 Tf.enc id' h' (top' :: rest') ∧ rest'.length ≤ i + 1) ∨
  (x = .ret ∧ ∃ e u, cmdErr st c = .inl e ∧ vs = [cmds l, I e, u, I i, .ptr n 0]) ∨
  (x = .nrm ∧ ∃ id' top' rest', isRec c.kind = true ∧ (if c.kind = 1 then st.headD zT :: st else st) = top' :: rest' ∧ vs = [cmds l, .undef, .rsl id' 0 (rest'.length + 1) 5, I i, .ptr n 0] ∧ Stk 5 Tf.enc id' h' (top' :: rest') ∧ rest'.length ≤ i + 1 ∧ h'.cellsAt n = some c.enc)
theorem rvN.mk {l : List Cmd} {i n : Nat} {st : List Tf} {c : Cmd} {h' : AH} {id' : Nat} {top' : Tf} {rest' : List Tf} (h1 : cmdErr st c = .inr (top' :: rest')) (h2 : Stk 5 Tf.enc id' h' (top' :: rest')) (h3 : rest'.length ≤ i + 1) : rvN l i n st c (.exit 1) [cmds l, .undef, .rsl id' 0 (rest'.length + 1) 5, I i, .ptr n 0] h' := .inl ⟨rfl, _, _, _, h1, rfl, h2, h3⟩
theorem rvN.err {l : List Cmd} {i n : Nat} {st : List Tf} {c : Cmd} {h' : AH} {e : Int} {u : AV} (h1 : cmdErr st c = .inl e) : rvN l i n st c .ret [cmds l, I e, u, I i, .ptr n 0] h' := .inr (.inl ⟨rfl, _, _, h1, rfl⟩)
theorem rvN.go {l : List Cmd} {i n : Nat} {st : List Tf} {c : Cmd} {h' : AH} {id' : Nat} {top' : Tf} {rest' : List Tf} (h1 : isRec c.kind = true) (h2 : (if c.kind = 1 then st.headD zT :: st else st) = top' :: rest') (h3 : Stk 5 Tf.enc id' h' (top' :: rest')) (h4 : rest'.length ≤ i + 1) (h5 : h'.cellsAt n = some c.enc) : rvN l i n st c .nrm [cmds l, .undef, .rsl id' 0 (rest'.length + 1) 5, I i, .ptr n 0] h' := .inr (.inr ⟨rfl, _, _, _, h1, h2, rfl, h3, h4, h5⟩)
def rgI (l : List Cmd) (i n id : Nat) (c : Cmd) (top : Tf) (rest : List Tf) (m : Nat) (vs : List AV) (h : AH) : Prop := ∃ k : Nat, k ≤ c.line.gl.length ∧ m = c.line.gl.length - k ∧ vs = [cmds l, .rsl id 0 (rest.length + 1) 5, I i, .ptr n 0, I k] ∧ h.cellsAt n = some c.enc ∧ Stk 5 Tf.enc id h (top :: rest) ∧ ∀ j (h1 : j < k) (h2 : j < c.line.gl.length), farG c.line.gl[j] = false
theorem rvalidate_f (l : List Cmd) (hl : SmL l) : Fresh Try.prog 14 [cmds l] (I (validate l)) := by
  refine C14 (tb_ok [e40, e41, e42]) ?_
  have hl1 := hl.1
  unfold Sm at hl1
  simp (disch := first | (simp; done) | omega | (simp only [nx_add, nx_set, nx_kill, nx_mk, nx_emp]; omega) | fail) [g14]
  refine ⟨fun hh => by unfold validate; rw [if_pos (by omega)], fun hh => ?_⟩
  refine ⟨rvI l, l.length, ⟨0, 0, tf1, [], by omega, rfl, rfl, ⟨by simp, _, by simp; rfl, by simp [bot, tf1, Tf.enc, cut]⟩, ?_, by simp⟩, ?_⟩
  · simp [validate]; omega
  rintro m vs h ⟨i, id, top, rest, hi, rfl, rfl, ⟨hid, cs, hcs, hcut⟩, hrun, hri⟩
  obtain ⟨htop, hpop⟩ := stk_top Tf.len hcut
  have hrl : rest.length ≤ 20000 := by omega
  by_cases hlt : i < l.length
  · have hd : l.drop i = l[i] :: l.drop (i + 1) := List.drop_eq_getElem_cons hlt
    rw [hd] at hrun
    obtain ⟨c, hc⟩ : ∃ c, c = l[i] := ⟨_, rfl⟩
    have hsm : SmC c := by rw [hc]; exact hl.2 _ (List.getElem_mem hlt)
    have hsm' : Sm c.line.gl := hsm
    unfold Sm at hsm'
    rw [← hc] at hrun
    simp (disch := first | (simp; done) | omega | (simp only [nx_add, nx_set, nx_kill, nx_mk, nx_emp]; omega) | fail) [g14_l14, hlt, ← hc]
    refine ⟨rvM l i (top :: rest) c, ?_, ?_⟩
    · have hne : ¬ id = h.nx := by omega
      have hne2 : ¬ id = h.nx + 1 := by omega
      have hne3 : ¬ id = h.nx + 1 + 1 := by omega
      have hne4 : ¬ id = h.nx + 1 + 1 + 1 := by omega
      have hcut' : cut cs 0 ((rest.length + 1) * 5) = some (bot Tf.enc (top :: rest)) := by simpa using hcut
      simp (disch := first | (simp; done) | omega | (simp only [nx_add, nx_set, nx_kill, nx_mk, nx_emp]; omega) | fail) [g14_a12, hlt, ← hc, hcs, htop, hne, hne2, kIdxA_rsl]
      simp (disch := first | (simp; done) | omega | (simp only [nx_add, nx_set, nx_kill, nx_mk, nx_emp]; omega) | fail) [g14_s6, hlt, ← hc, hcs, htop, hne, hne2, kIdxA_rsl]
      refine ⟨rvN l i h.nx (top :: rest) c, ?_, ?_⟩
      · simp (disch := first | (simp; done) | omega | (simp only [nx_add, nx_set, nx_kill, nx_mk, nx_emp]; omega) | fail) [g14_a3, hcs, hne, hne2, hne3, hcut']
        refine ⟨fun k3 => ⟨fun hz => rvN.err ?_, fun hz => ?_⟩, fun k3 => ⟨fun k2 => ?_, fun k2 => ⟨fun k1 => ?_, fun k1 => ?_⟩⟩⟩
        · unfold cmdErr; rw [if_pos k3]; simp; exact List.length_eq_zero_iff.1 (by omega)
        · cases rest with
          | nil => simp at hz
          | cons t2 r2 =>
            simp (disch := first | (simp; done) | omega | (simp only [nx_add, nx_set, nx_kill, nx_mk, nx_emp]; omega) | fail) [kSl_hi]
            refine rvN.mk (top' := t2) (rest' := r2) (by unfold cmdErr; simp [k3]) ⟨by simp; omega, cs, by simp [hcs, hne, hne2], hpop⟩ (by simp at hri; omega)
        · have hcE : cmdErr (top :: rest) c = if cmbOk top c.t then .inr (cmb top c.t :: top :: rest) else .inl 1 := by unfold cmdErr; rw [if_neg k3, if_pos k2]; rfl
          cases q : cmbOk top c.t
          · simp (disch := first | (simp; done) | omega | (simp only [nx_add, nx_set, nx_kill, nx_mk, nx_emp]; omega) | fail) [g14_s2, cmbR, q]
            exact rvN.err (by rw [hcE]; simp [q])
          · simp (disch := first | (simp; done) | omega | (simp only [nx_add, nx_set, nx_kill, nx_mk, nx_emp]; omega) | fail) [g14_s2, hcs, hne, hne2, hne3, hne4, hcut', cmbR, q]
            simp (disch := first | (simp; done) | omega | (simp only [nx_add, nx_set, nx_kill, nx_mk, nx_emp]; omega) | fail) [g14_s1, hcs, hne, hne2, hne3, hne4, hcut', cmbR, q]
            refine rvN.mk (top' := cmb top c.t) (rest' := top :: rest) (by rw [hcE]; simp [q]) (Stk.push Tf.len ?_) ?_
            · simp
            · simp; omega
        · refine rvN.go (c := c) (st := top :: rest) (top' := top) (rest' := top :: rest) (by simp [isRec, k1]) (by simp [k1]) (Stk.push Tf.len ?_) ?_ ?_
          · simp
          · simp; omega
          · have q1 : ¬ h.nx = id := fun e => hne e.symm
            have q2 : ¬ h.nx = h.nx + 1 + 1 + 1 := by omega
            have q3 : ¬ h.nx = h.nx + 1 + 1 := by omega
            simp (disch := first | (simp; done) | omega | (simp only [nx_add, nx_set, nx_kill, nx_mk, nx_emp]; omega) | fail) [q1, q2, q3]
        · refine ⟨fun vs h1 => vs = [cmds l, .rsl id 0 (rest.length + 1) 5, I i, .ptr h.nx 0, .bool (c.kind == 4 || c.kind == 5 || c.kind == 6)] ∧ h1.cellsAt h.nx = some c.enc ∧ h1.cellsAt id = some cs ∧ h1.nx = h.nx + 2, ?_, ?_⟩
          · by_cases q1 : c.kind = 4 <;> by_cases q2 : c.kind = 5 <;> by_cases q3 : c.kind = 6 <;> simp (disch := first | (simp; done) | omega | (simp only [nx_add, nx_set, nx_kill, nx_mk, nx_emp]; omega) | fail) [g14_a1, q1, q2, q3, hcs, hne, hne2] <;> omega
          · rintro vs h1 ⟨rfl, e1, e2, e3⟩
            simp (disch := first | (simp; done) | omega | (simp only [nx_add, nx_set, nx_kill, nx_mk, nx_emp]; omega) | fail) [g14_j2]
            refine ⟨fun q => ?_, fun q4 q5 q6 => ?_⟩
            · refine rvN.go (top' := top) (rest' := rest) ?_ (by simp [k1]) ⟨by omega, cs, e2, hcut⟩ (by omega) e1
              simp [isRec]; omega
            · refine rvN.err ?_
              unfold cmdErr
              rw [if_neg k3, if_neg k2, if_neg (by omega)]
      · rintro x vs h1 hN
        rcases hN with ⟨rfl, id', top', rest', hE, rfl, hS, hr2⟩ | ⟨rfl, e, u, hE, rfl⟩ | ⟨rfl, id', top', rest', hrec, hst, rfl, hS, hr2, e1⟩
        · simp (disch := first | (simp; done) | omega | (simp only [nx_add, nx_set, nx_kill, nx_mk, nx_emp]; omega) | fail) [g14_j11]
          exact rvM.mk hE hS hr2
        · simp (disch := first | (simp; done) | omega | (simp only [nx_add, nx_set, nx_kill, nx_mk, nx_emp]; omega) | fail) [g14_j11]
          exact rvM.err hE
        · have hkk : c.kind = 1 ∨ c.kind = 4 ∨ c.kind = 5 ∨ c.kind = 6 := by simpa [isRec, or_assoc] using hrec
          have hcE : cmdErr (top :: rest) c = if okR c.r = false then .inl 1 else if (c.kind = 4 ∨ c.kind = 5) ∧ isCol c.color = false then .inl 1 else if c.kind = 5 ∧ nearL c.line = false then .inl 1 else .inr (top' :: rest') := by
            unfold cmdErr
            rw [if_neg (by omega), if_neg (by omega), if_pos hkk]
            split
            · rfl
            split
            · rfl
            split
            · rfl
            · rw [← hst]; split <;> rfl
          simp (disch := first | (simp; done) | omega | (simp only [nx_add, nx_set, nx_kill, nx_mk, nx_emp]; omega) | fail) [g14_j11, e1]
          refine ⟨fun hr => rvM.err (by rw [hcE]; simp [hr]), fun hr => ?_⟩
          refine ⟨fun vs h2 => vs = [cmds l, .rsl id' 0 (rest'.length + 1) 5, I i, .ptr h.nx 0, .bool ((c.kind == 4 || c.kind == 5) && !isCol c.color)] ∧ h2.cellsAt h.nx = some c.enc ∧ Stk 5 Tf.enc id' h2 (top' :: rest'), ?_, ?_⟩
          · by_cases q1 : c.kind = 4 <;> by_cases q2 : c.kind = 5 <;> by_cases q3 : c.color < 0 <;> by_cases q4 : 16777215 < c.color <;> simp (disch := first | (simp; done) | omega | (simp only [nx_add, nx_set, nx_kill, nx_mk, nx_emp]; omega) | fail) [g14_a4, g14_s3, q1, q2, q3, q4, e1] <;> first | exact hS | (refine ⟨?_, hS⟩; grind [isCol]) | (exfalso; omega)
          · rintro vs h2 ⟨rfl, e1, hS⟩
            simp (disch := first | (simp; done) | omega | (simp only [nx_add, nx_set, nx_kill, nx_mk, nx_emp]; omega) | fail) [g14_j10, e1]
            refine ⟨fun kk hcol => rvM.err (by rw [hcE]; simp [hr, kk, hcol]), fun hcol => ⟨fun k5 => rvM.mk (by rw [hcE]; simp [hr, k5]; intro kk; exact hcol (.inl kk)) hS hr2, fun k5 => ⟨fun hn => rvM.err ?_, fun hn => ?_⟩⟩⟩
            · rw [hcE]; simp [hr, k5, nearL, hn]
            have hcol' := hcol (.inr k5)
            refine ⟨rgI l i h.nx id' c top' rest', c.line.gl.length, ⟨0, by omega, rfl, rfl, e1, hS, fun j h1 => by omega⟩, ?_⟩
            rintro m vs h3 ⟨k, hk, rfl, rfl, e1, hS, hall⟩
            by_cases hkl : k < c.line.gl.length
            · simp (disch := first | (simp; done) | omega | (simp only [nx_add, nx_set, nx_kill, nx_mk, nx_emp]; omega) | fail) [g14_l7, e1, hkl]
              refine ⟨fun vs h4 => vs = [cmds l, .rsl id' 0 (rest'.length + 1) 5, I i, .ptr h.nx 0, I k, .bool (farG c.line.gl[k])] ∧ h4.cellsAt h.nx = some c.enc ∧ Stk 5 Tf.enc id' h4 (top' :: rest'), ?_, ?_⟩
              · simp (disch := first | (simp; done) | omega | (simp only [nx_add, nx_set, nx_kill, nx_mk, nx_emp]; omega) | fail) [g14_a5, e1, hkl]
                cases q1 : near40 c.line.gl[k].x <;> cases q2 : near40 c.line.gl[k].adv <;> simp (disch := first | (simp; done) | omega | (simp only [nx_add, nx_set, nx_kill, nx_mk, nx_emp]; omega) | fail) [g14_s5, e1, hkl, q1, q2, farG] <;> (try simp (disch := first | (simp; done) | omega | (simp only [nx_add, nx_set, nx_kill, nx_mk, nx_emp]; omega) | fail) [g14_s4, e1, hkl, q1, q2, farG])
                all_goals exact hS
              · rintro vs h4 ⟨rfl, e1, hS⟩
                simp (disch := first | (simp; done) | omega | (simp only [nx_add, nx_set, nx_kill, nx_mk, nx_emp]; omega) | fail) [g14_j6]
                refine ⟨fun hf => ?_, fun hf => ?_⟩
                · simp (disch := first | (simp; done) | omega | (simp only [nx_add, nx_set, nx_kill, nx_mk, nx_emp]; omega) | fail) [g14_j9]
                  refine rvM.err ?_
                  rw [hcE]; simp [hr, k5, hcol']
                  have : nearL c.line = false := by
                    simp [nearL]; intro _
                    exact ⟨_, List.getElem_mem hkl, hf⟩
                  simp [this]
                · refine ⟨c.line.gl.length - (k + 1), by omega, k + 1, by omega, rfl, by simp, e1, hS, fun j h1 h2 => ?_⟩
                  by_cases hjk : j < k
                  · exact hall j hjk h2
                  · obtain rfl : j = k := by omega
                    exact hf
            · simp (disch := first | (simp; done) | omega | (simp only [nx_add, nx_set, nx_kill, nx_mk, nx_emp]; omega) | fail) [g14_l7, e1, hkl]
              simp (disch := first | (simp; done) | omega | (simp only [nx_add, nx_set, nx_kill, nx_mk, nx_emp]; omega) | fail) [g14_j9, e1, hkl]
              simp (disch := first | (simp; done) | omega | (simp only [nx_add, nx_set, nx_kill, nx_mk, nx_emp]; omega) | fail) [g14_c8, e1, hkl]
              refine rvM.mk ?_ hS hr2
              have : nearL c.line = true := by
                simp [nearL, hn]
                intro g hg
                obtain ⟨j, hj, rfl⟩ := List.getElem_of_mem hg
                exact hall j (by omega) hj
              rw [hcE]; simp [hr, k5, hcol', this]
    · rintro x vs h' hM
      rcases hM with ⟨rfl, id', top', rest', hE, rfl, hS, hr2⟩ | ⟨rfl, e, u, hE, rfl⟩
      · simp (disch := first | (simp; done) | omega | (simp only [nx_add, nx_set, nx_kill, nx_mk, nx_emp]; omega) | fail) [g14_j13]
        refine ⟨l.length - (i + 1), by omega, i + 1, id', top', rest', by omega, rfl, by simp, hS, ?_, hr2⟩
        rw [← hrun]; simp [vrun, hE]
      · simp (disch := first | (simp; done) | omega | (simp only [nx_add, nx_set, nx_kill, nx_mk, nx_emp]; omega) | fail) [g14_j13, g14_j16]
        rw [← hrun]; simp [vrun, hE]
  · have hil : i = l.length := by omega
    subst hil
    simp [vrun] at hrun
    simp (disch := first | (simp; done) | omega | (simp only [nx_add, nx_set, nx_kill, nx_mk, nx_emp]; omega) | fail) [g14_l14, hlt]
    simp (disch := first | (simp; done) | omega | (simp only [nx_add, nx_set, nx_kill, nx_mk, nx_emp]; omega) | fail) [g14_j16, hlt]
    simp (disch := first | (simp; done) | omega | (simp only [nx_add, nx_set, nx_kill, nx_mk, nx_emp]; omega) | fail) [g14_c15, hlt]
    rw [← hrun]
    refine ⟨fun q => ?_, fun q => ?_⟩
    · rw [if_pos (by omega)]
    · rw [if_neg (by omega)]
theorem rvalidate_c (l : List Cmd) (hl : SmL l) : Pure Try.prog 14 [cmds l] (I (validate l)) := (rvalidate_f l hl).pure (by simp [cmds_cl])
def e14 : QE Try.prog := .pure 14 (fun (l : List Cmd) => [cmds l]) (fun (l : List Cmd) => SmL l) (fun (l : List Cmd) => I (validate l)) (fun l hx => rvalidate_c l hx)
@[simp ↓] theorem e14_h (l : List (QE Try.prog)) (args : List AV) (h : AH) (Q : AV → AH → Prop) : tb (e14 :: l) 14 args h Q = e14.q args h Q := tb_here e14 l 14 args h Q rfl
@[simp ↓] theorem e14_t (l : List (QE Try.prog)) (f : Nat) (args : List AV) (h : AH) (Q : AV → AH → Prop) (hf : 14 ≠ f) : tb (e14 :: l) f args h Q = tb l f args h Q := tb_there e14 l f args h Q hf
@[simp ↓] theorem e14_q (l : List Cmd) (h : AH) (Q : AV → AH → Prop) : e14.q [cmds l] h Q = ((SmL l) ∧ Q (I (validate l)) h) := (QE.pure_q (x := l) (by rintro _ h; simp at h; simp [h]) h Q)
end Go.Proofs.Ytpnekpbehcbmkaa
end
noncomputable section
namespace Go.Proofs.Ytpnekpbehcbmkaa
open Go.Eng
structure Sn where
  p : Pt
  inn : Bool
def Sn.enc (s : Sn) : List AV := [I s.p.x, I s.p.y, .bool s.inn]
@[simp] theorem Sn.len (s : Sn) : s.enc.length = 3 := by cases s; rfl
@[simp] theorem Sn.ones (s : Sn) : ones s.enc = true := Eq.trans rfl rfl
@[simp high] theorem Sn.g1 (s : Sn) : s.enc[1]? = some (I s.p.y) := Eq.trans rfl rfl
@[simp high] theorem Sn.g2 (s : Sn) : s.enc[2]? = some (.bool s.inn) := Eq.trans rfl rfl
@[simp] theorem Sn.all (s : Sn) : cut s.enc 0 3 = some s.enc := Eq.trans rfl rfl
@[simp] theorem Sn.c0 (s : Sn) : cut s.enc 0 2 = some s.p.enc := Eq.trans rfl rfl
@[simp] theorem splice_pt (a b c : AV) (p : Pt) : splice [a, b, c] 0 p.enc = some [I p.x, I p.y, c] := Eq.trans rfl rfl
theorem Stk.push' {α : Type} {z : Nat} {e : α → List AV} (he : ∀ a, (e a).length = z) {h : AH} {st : List α} {a : α} {nid : Nat} {x : List AV} (hn : nid = h.nx) (hx : x = e a) : Stk z e nid (h.add (.cells (bot e st ++ x))) (a :: st) := by
  subst hx; exact Stk.push he hn
theorem step_ok {g : Tf} {gr : List Tf} {c : Cmd} {l : List Cmd} (h : vrun (g :: gr) (c :: l) = 0) : ∃ g' gr', vrun (g' :: gr') l = 0 ∧ ((c.kind = 3 ∧ gr = g' :: gr') ∨ ((c.kind = 1 ∨ c.kind = 2) ∧ gr' = g :: gr) ∨ ((c.kind = 4 ∨ c.kind = 5 ∨ c.kind = 6) ∧ g' :: gr' = g :: gr)) ∧ (c.kind = 5 → nearL c.line = true) ∧ (isRec c.kind = true → okR c.r = true) := by
  unfold vrun at h
  cases hE : cmdErr (g :: gr) c with
  | inl e =>
    rw [hE] at h
    simp at h; subst h
    unfold cmdErr at hE
    (repeat' (split at hE)) <;> simp at hE
  | inr st' =>
    rw [hE] at h
    simp at h
    unfold cmdErr at hE
    split at hE
    · rename_i k3
      split at hE
      · cases hE
      · rename_i hlen
        cases gr with
        | nil => simp at hlen
        | cons t2 r2 =>
          simp at hE; subst hE
          exact ⟨t2, r2, h, .inl ⟨k3, rfl⟩, by omega, by simp [isRec, k3]⟩
    split at hE
    · rename_i k3 k2
      split at hE
      · cases hE
        exact ⟨_, _, h, .inr (.inl ⟨.inr k2, rfl⟩), by omega, by simp [isRec, k2]⟩
      · cases hE
    split at hE
    · rename_i k3 k2 hk
      split at hE
      · cases hE
      rename_i hr
      split at hE
      · cases hE
      split at hE
      · cases hE
      rename_i hn
      have hr' : okR c.r = true := by simpa using hr
      have hn' : c.kind = 5 → nearL c.line = true := fun k5 => by simpa [k5] using hn
      split at hE
      · rename_i k1
        cases hE
        exact ⟨_, _, h, .inr (.inl ⟨.inl k1, rfl⟩), hn', fun _ => hr'⟩
      · rename_i k1
        cases hE
        exact ⟨_, _, h, .inr (.inr ⟨by omega, rfl⟩), hn', fun _ => hr'⟩
    · cases hE
def pst (st : List Sn) (c : Cmd) : List Sn :=
  match st with
  | [] => []
  | s :: rest => if c.kind = 1 then ⟨s.p, s.inn && inR c.r s.p⟩ :: s :: rest else if c.kind = 2 then ⟨bk c.t s.p, s.inn && okP (bk c.t s.p)⟩ :: s :: rest else if c.kind = 3 then rest else s :: rest
def pout (st : List Sn) (c : Cmd) (out : Int) : Int :=
  match st with
  | [] => out
  | s :: _ => if c.kind = 1 ∨ c.kind = 2 ∨ c.kind = 3 then out else if s.inn && cov c s.p then (if c.kind = 6 then 8421504 else c.color) else out
def prun : List Sn → Int → List Cmd → Int
  | _, out, [] => out
  | st, out, c :: l => prun (pst st c) (pout st c out) l
def pixel (l : List Cmd) (p : Pt) : Int := if validate l = 0 ∧ okP p = true then prun [⟨p, true⟩] (-1) l else -1
def okS (st : List Sn) : Prop := ∀ s ∈ st, s.inn = true → okP s.p = true
theorem okS_step {s : Sn} {rest : List Sn} (h : okS (s :: rest)) (c : Cmd) : okS (pst (s :: rest) c) := by
  unfold pst
  have h1 := h s (by simp)
  simp only
  split
  · intro x hx hi
    simp at hx
    rcases hx with rfl | rfl | hx
    · simp at hi; exact h1 hi.1
    · exact h1 hi
    · exact h x (by simp [hx]) hi
  split
  · intro x hx hi
    simp at hx
    rcases hx with rfl | rfl | hx
    · simp at hi; exact hi.2
    · exact h1 hi
    · exact h x (by simp [hx]) hi
  split
  · intro x hx hi; exact h x (by simp [hx]) hi
  · exact h
def pxI (l : List Cmd) (R : Int) (m : Nat) (vs : List AV) (h : AH) : Prop := ∃ (i id : Nat) (s : Sn) (rest : List Sn) (out : Int) (g : Tf) (gr : List Tf), i ≤ l.length ∧ m = l.length - i ∧ vs = [.rsl id 0 (rest.length + 1) 3, I out, cmds l, I l.length, I i] ∧ Stk 3 Sn.enc id h (s :: rest) ∧ vrun (g :: gr) (l.drop i) = 0 ∧ gr.length = rest.length ∧ okS (s :: rest) ∧ prun (s :: rest) out (l.drop i) = R ∧ rest.length ≤ i
def pM (l : List Cmd) (i : Nat) (st : List Sn) (c : Cmd) (out : Int) (vs : List AV) (h' : AH) : Prop := ∃ id' s' rest', pst st c = s' :: rest' ∧ vs = [.rsl id' 0 (rest'.length + 1) 3, I (pout st c out), cmds l, I l.length, I i] ∧ Stk 3 Sn.enc id' h' (s' :: rest')
theorem pM.mk {l : List Cmd} {i : Nat} {st : List Sn} {c : Cmd} {out out' : Int} {h' : AH} {id' : Nat} {s' : Sn} {rest' : List Sn} (h1 : pst st c = s' :: rest') (h2 : pout st c out = out') (h3 : Stk 3 Sn.enc id' h' (s' :: rest')) : pM l i st c out [.rsl id' 0 (rest'.length + 1) 3, I out', cmds l, I l.length, I i] h' := ⟨_, _, _, h1, by rw [h2], h3⟩
theorem pixel_f (l : List Cmd) (p : Pt) (hl : SmL l) : Fresh Try.prog 15 [cmds l, .agg p.enc] (I (pixel l p)) := by
  refine C15 (tb_ok [e13, e43, e44, e45, e46]) ?_
  have hl1 := hl.1
  unfold Sm at hl1
  simp (disch := first | (simp; done) | omega | (simp only [nx_add, nx_set, nx_kill, nx_mk, nx_emp]; omega) | fail) [g15]
  refine ⟨fun vs h => vs = [cmds l, .ptr 0 0, .bool (!(decide (validate l = 0) && okP p))] ∧ h.cellsAt 0 = some p.enc, ?_, ?_⟩
  · by_cases q1 : validate l = 0 <;> cases q2 : okP p <;> simp (disch := first | (simp; done) | omega | (simp only [nx_add, nx_set, nx_kill, nx_mk, nx_emp]; omega) | fail) [g15_a1, g15_s1, q1, q2, hl]
  rintro vs h ⟨rfl, h0⟩
  simp (disch := first | (simp; done) | omega | (simp only [nx_add, nx_set, nx_kill, nx_mk, nx_emp]; omega) | fail) [g15_j9, h0]
  refine ⟨fun hh => by unfold pixel; rw [if_neg (by rintro ⟨z1, z2⟩; simp [z1, z2] at hh)], fun hv hp => ?_⟩
  have hlen : l.length ≤ 20000 := by
    unfold validate at hv
    split at hv
    · cases hv
    · omega
  refine ⟨pxI l (pixel l p), l.length, ⟨0, h.nx, ⟨p, true⟩, [], -1, tf1, [], by omega, rfl, rfl, ⟨by simp, _, by simp; rfl, by simp [bot, Sn.enc, Pt.enc, cut]⟩, ?_, rfl, ?_, ?_, by simp⟩, ?_⟩
  · unfold validate at hv; rw [if_neg (by omega)] at hv; simpa using hv
  · intro x hx; simp at hx; subst hx; exact fun _ => hp
  · simp [pixel, hv, hp]
  rintro m vs h ⟨i, id, s, rest, out, g, gr, hi, rfl, rfl, ⟨hid, cs, hcs, hcut⟩, hrun, hgl, hok, hpr, hri⟩
  obtain ⟨htop, hpop⟩ := stk_top Sn.len hcut
  have hrl : rest.length ≤ 20000 := by omega
  by_cases hlt : i < l.length
  · have hd : l.drop i = l[i] :: l.drop (i + 1) := List.drop_eq_getElem_cons hlt
    rw [hd] at hrun hpr
    obtain ⟨c, hc⟩ : ∃ c, c = l[i] := ⟨_, rfl⟩
    have hsm : SmC c := by rw [hc]; exact hl.2 _ (List.getElem_mem hlt)
    have hsm' : Sm c.line.gl := hsm
    rw [← hc] at hrun hpr
    obtain ⟨g', gr', hrun', hcase, hnear, hrect⟩ := step_ok hrun
    simp (disch := first | (simp; done) | omega | (simp only [nx_add, nx_set, nx_kill, nx_mk, nx_emp]; omega) | fail) [g15_l6, hlt, ← hc]
    refine ⟨pM l i (s :: rest) c out, ?_, ?_⟩
    · have hne : ¬ id = h.nx := by omega
      have hne2 : ¬ id = h.nx + 1 := by omega
      have hne3 : ¬ id = h.nx + 1 + 1 := by omega
      have hcut' : cut cs 0 ((rest.length + 1) * 3) = some (bot Sn.enc (s :: rest)) := by simpa using hcut
      simp (disch := first | (simp; done) | omega | (simp only [nx_add, nx_set, nx_kill, nx_mk, nx_emp]; omega) | fail) [g15_a4, hlt, ← hc, hcs, htop, hne, hne2, kIdxA_rsl]
      simp (disch := first | (simp; done) | omega | (simp only [nx_add, nx_set, nx_kill, nx_mk, nx_emp]; omega) | fail) [g15_s7, hlt, ← hc, hcs, htop, hne, hne2, kIdxA_rsl]
      have hne16 : ¬ id = h.nx + 1 + 1 + 13 := by omega
      have hne12 : ¬ id = h.nx + 1 + 1 + 1 + 9 := by omega
      refine ⟨fun k1 => ?_, fun k1 => ?_⟩
      · have hst : pst (s :: rest) c = ⟨s.p, s.inn && inR c.r s.p⟩ :: s :: rest := by simp [pst, k1]
        have ho : pout (s :: rest) c out = out := by simp [pout, k1]
        cases hin : s.inn
        · simp (disch := first | (simp; done) | omega | (simp only [nx_add, nx_set, nx_kill, nx_mk, nx_emp]; omega) | fail) [g15_s3, hcs, hne, hne2, hne16, hcut', hin]
          simp (disch := first | (simp; done) | omega | (simp only [nx_add, nx_set, nx_kill, nx_mk, nx_emp]; omega) | fail) [g15_s2, hcs, hne, hne2, hne16, hcut', hin]
          rw [hin] at hst
          refine pM.mk hst ho (Stk.push' Sn.len ?_ rfl)
          simp
        · simp (disch := first | (simp; done) | omega | (simp only [nx_add, nx_set, nx_kill, nx_mk, nx_emp]; omega) | fail) [g15_s3, hcs, hne, hne2, hne16, hcut', hin]
          simp (disch := first | (simp; done) | omega | (simp only [nx_add, nx_set, nx_kill, nx_mk, nx_emp]; omega) | fail) [g15_s2, hcs, hne, hne2, hne16, hcut', hin]
          rw [hin] at hst
          refine pM.mk hst ho (Stk.push' Sn.len ?_ rfl)
          simp
      · simp (disch := first | (simp; done) | omega | (simp only [nx_add, nx_set, nx_kill, nx_mk, nx_emp]; omega) | fail) [g15_s6]
        refine ⟨fun k2 => ?_, fun k2 => ⟨fun k3 => ?_, fun k3 => ?_⟩⟩
        · have hst : pst (s :: rest) c = ⟨bk c.t s.p, s.inn && okP (bk c.t s.p)⟩ :: s :: rest := by simp [pst, k2]
          have ho : pout (s :: rest) c out = out := by simp [pout, k2]
          cases hin : s.inn
          · simp (disch := first | (simp; done) | omega | (simp only [nx_add, nx_set, nx_kill, nx_mk, nx_emp]; omega) | fail) [g15_s5, hcs, hne, hne2, hne3, hne12, hcut', hin]
            simp (disch := first | (simp; done) | omega | (simp only [nx_add, nx_set, nx_kill, nx_mk, nx_emp]; omega) | fail) [g15_s4, hcs, hne, hne2, hne3, hne12, hcut', hin]
            rw [hin] at hst
            refine pM.mk hst ho (Stk.push' Sn.len ?_ rfl)
            simp
          · simp (disch := first | (simp; done) | omega | (simp only [nx_add, nx_set, nx_kill, nx_mk, nx_emp]; omega) | fail) [g15_s5, hcs, hne, hne2, hne3, hne12, hcut', hin]
            simp (disch := first | (simp; done) | omega | (simp only [nx_add, nx_set, nx_kill, nx_mk, nx_emp]; omega) | fail) [g15_s4, hcs, hne, hne2, hne3, hne12, hcut', hin]
            rw [hin] at hst
            refine pM.mk hst ho (Stk.push' Sn.len ?_ rfl)
            simp
        · have hst : pst (s :: rest) c = rest := by simp [pst, k3]
          have ho : pout (s :: rest) c out = out := by simp [pout, k3]
          have hr0 : rest ≠ [] := by
            rintro rfl
            rcases hcase with ⟨_, e⟩ | ⟨k, _⟩ | ⟨k, _⟩
            · subst e; simp at hgl
            · omega
            · omega
          cases rest with
          | nil => exact absurd rfl hr0
          | cons s2 r2 =>
            simp (disch := first | (simp; done) | omega | (simp only [nx_add, nx_set, nx_kill, nx_mk, nx_emp]; omega) | fail) [kSl_hi]
            exact pM.mk hst ho ⟨by simp; omega, cs, by simp [hcs, hne, hne2], hpop⟩
        · have hst : pst (s :: rest) c = s :: rest := by simp [pst, k1, k2, k3]
          have ho : pout (s :: rest) c out = if s.inn && cov c s.p then (if c.kind = 6 then 8421504 else c.color) else out := by simp [pout, k1, k2, k3]
          have hk : c.kind = 4 ∨ c.kind = 5 ∨ c.kind = 6 := by
            rcases hcase with ⟨k, _⟩ | ⟨k, _⟩ | ⟨k, _⟩
            · exact absurd k k3
            · omega
            · exact k
          refine ⟨fun vs h1 => vs = [.rsl id 0 (rest.length + 1) 3, I out, .ptr h.nx 0, cmds l, I l.length, I i, .bool (s.inn && cov c s.p)] ∧ h1.cellsAt h.nx = some c.enc ∧ h1.cellsAt id = some cs ∧ h1.nx = h.nx + 2, ?_, ?_⟩
          · cases hin : s.inn
            · simp (disch := first | (simp; done) | omega | (simp only [nx_add, nx_set, nx_kill, nx_mk, nx_emp]; omega) | fail) [g15_a2, hin, hcs, hne, hne2]
            · have hcp : CP c s.p := ⟨hok s (by simp) hin, hsm', hnear, hk⟩
              simp (disch := first | (simp; done) | omega | (simp only [nx_add, nx_set, nx_kill, nx_mk, nx_emp]; omega) | fail) [g15_a2, hin, hcs, hne, hne2, hcp]
          · rintro vs h1 ⟨rfl, e1, e2, e3⟩
            simp (disch := first | (simp; done) | omega | (simp only [nx_add, nx_set, nx_kill, nx_mk, nx_emp]; omega) | fail) [g15_j3, e1]
            have hS : Stk 3 Sn.enc id h1 (s :: rest) := ⟨by omega, cs, e2, hcut⟩
            cases q : (s.inn && cov c s.p)
            · rw [q] at ho
              simp at q ⊢
              refine ⟨fun z1 z2 => by simp [q z1] at z2, fun _ => pM.mk hst (by simpa using ho) hS⟩
            · rw [q] at ho
              simp at q ⊢
              refine ⟨fun _ _ => ⟨fun k6 => pM.mk hst (by simpa [k6] using ho) hS, fun k6 => pM.mk hst (by simpa [k6] using ho) hS⟩, fun z => by simp [z q.1] at q⟩
    · rintro vs h' ⟨id', s', rest', hst, rfl, hS⟩
      simp (disch := first | (simp; done) | omega | (simp only [nx_add, nx_set, nx_kill, nx_mk, nx_emp]; omega) | fail) [g15_j5]
      refine ⟨l.length - (i + 1), by omega, i + 1, id', s', rest', pout (s :: rest) c out, g', gr', by omega, rfl, by simp, hS, hrun', ?_, ?_, ?_, ?_⟩
      · have := congrArg List.length hst
        unfold pst at this
        rcases hcase with ⟨k, e⟩ | ⟨k, e⟩ | ⟨k, e⟩ <;> have := congrArg List.length e <;> simp at this
        all_goals grind
      · rw [← hst]; exact okS_step hok c
      · rw [← hst]; rw [← hpr]; simp [prun]
      · have := congrArg List.length hst
        unfold pst at this
        grind
  · have hil : i = l.length := by omega
    subst hil
    simp [prun] at hpr
    simp (disch := first | (simp; done) | omega | (simp only [nx_add, nx_set, nx_kill, nx_mk, nx_emp]; omega) | fail) [g15_l6, hlt]
    simp (disch := first | (simp; done) | omega | (simp only [nx_add, nx_set, nx_kill, nx_mk, nx_emp]; omega) | fail) [g15_j8, hlt]
    simp (disch := first | (simp; done) | omega | (simp only [nx_add, nx_set, nx_kill, nx_mk, nx_emp]; omega) | fail) [g15_c7, hlt]
    exact hpr
end Go.Proofs.Ytpnekpbehcbmkaa
end
noncomputable section
namespace Go.Proofs.Ytpnekpbehcbmkaa
open Go.Eng
def rpM (l : List Cmd) (i : Nat) (st : List Sn) (c : Cmd) (out : Int) (vs : List AV) (h' : AH) : Prop := ∃ id' s' rest', pst st c = s' :: rest' ∧ vs = [cmds l, I (pout st c out), .rsl id' 0 (rest'.length + 1) 3, I i] ∧ Stk 3 Sn.enc id' h' (s' :: rest')
theorem rpM.mk {l : List Cmd} {i : Nat} {st : List Sn} {c : Cmd} {out out' : Int} {h' : AH} {id' : Nat} {s' : Sn} {rest' : List Sn} (h1 : pst st c = s' :: rest') (h2 : pout st c out = out') (h3 : Stk 3 Sn.enc id' h' (s' :: rest')) : rpM l i st c out [cmds l, I out', .rsl id' 0 (rest'.length + 1) 3, I i] h' := ⟨_, _, _, h1, by rw [h2], h3⟩
end Go.Proofs.Ytpnekpbehcbmkaa
end
noncomputable section
namespace Go.Proofs.Ytpnekpbehcbmkaa
open Go.Eng
def heavy (l : List Cmd) : Bool := decide (60 < l.length) || l.any fun c => decide (30 < c.line.gl.length)
def hvI (l : List Cmd) (m : Nat) (vs : List AV) (h : AH) : Prop := ∃ i : Nat, i ≤ l.length ∧ m = l.length - i ∧ vs = [cmds l, I i] ∧ ∀ j (h1 : j < i) (h2 : j < l.length), ¬ 30 < l[j].line.gl.length
def SmX {α : Type} (l : List α) : Prop := l.length ≤ 9223372036854775807
theorem heavy_f (l : List Cmd) (hl : SmX l) : Fresh Try.prog 10 [cmds l] (.bool (heavy l)) := by
  refine C10 (tb_ok []) ?_
  unfold SmX at hl
  simp (disch := first | (simp; done) | omega | (simp only [nx_add, nx_set, nx_kill, nx_mk, nx_emp]; omega) | fail) [g10]
  refine ⟨fun hh => by simp [heavy]; omega, fun hh => ?_⟩
  refine ⟨hvI l, l.length, ⟨0, by simp⟩, ?_⟩
  rintro m vs h ⟨i, hi, rfl, rfl, hall⟩
  by_cases hlt : i < l.length
  · simp (disch := first | (simp; done) | omega | (simp only [nx_add, nx_set, nx_kill, nx_mk, nx_emp]; omega) | fail) [g10_l1, hlt]
    simp (disch := first | (simp; done) | omega | (simp only [nx_add, nx_set, nx_kill, nx_mk, nx_emp]; omega) | fail) [g10_s1, hlt]
    simp (disch := first | (simp; done) | omega | (simp only [nx_add, nx_set, nx_kill, nx_mk, nx_emp]; omega) | fail) [g10_s2, hlt]
    refine ⟨fun q => ?_, fun q => ?_⟩
    · simp (disch := first | (simp; done) | omega | (simp only [nx_add, nx_set, nx_kill, nx_mk, nx_emp]; omega) | fail) [g10_j3]
      simp [heavy]
      simp at q
      exact .inr ⟨_, List.getElem_mem hlt, by omega⟩
    · refine ⟨l.length - (i + 1), by omega, i + 1, by omega, rfl, by simp, fun j h1 h2 => ?_⟩
      by_cases hji : j < i
      · exact hall j hji h2
      · obtain rfl : j = i := by omega
        simp at q; omega
  · simp (disch := first | (simp; done) | omega | (simp only [nx_add, nx_set, nx_kill, nx_mk, nx_emp]; omega) | fail) [g10_l1, hlt]
    simp (disch := first | (simp; done) | omega | (simp only [nx_add, nx_set, nx_kill, nx_mk, nx_emp]; omega) | fail) [g10_j3, hlt]
    simp (disch := first | (simp; done) | omega | (simp only [nx_add, nx_set, nx_kill, nx_mk, nx_emp]; omega) | fail) [g10_c2, hlt]
    simp [heavy]
    refine ⟨by omega, fun c hc => ?_⟩
    obtain ⟨j, hj, rfl⟩ := List.getElem_of_mem hc
    have := hall j (by omega) hj
    omega
theorem heavy_c (l : List Cmd) (hl : SmX l) : Pure Try.prog 10 [cmds l] (.bool (heavy l)) := (heavy_f l hl).pure (by simp [cmds_cl])
def e10 : QE Try.prog := .pure 10 (fun (l : List Cmd) => [cmds l]) (fun (l : List Cmd) => SmX l) (fun (l : List Cmd) => .bool (heavy l)) (fun l hx => heavy_c l hx)
@[simp ↓] theorem e10_h (l : List (QE Try.prog)) (args : List AV) (h : AH) (Q : AV → AH → Prop) : tb (e10 :: l) 10 args h Q = e10.q args h Q := tb_here e10 l 10 args h Q rfl
@[simp ↓] theorem e10_t (l : List (QE Try.prog)) (f : Nat) (args : List AV) (h : AH) (Q : AV → AH → Prop) (hf : 10 ≠ f) : tb (e10 :: l) f args h Q = tb l f args h Q := tb_there e10 l f args h Q hf
@[simp ↓] theorem e10_q (l : List Cmd) (h : AH) (Q : AV → AH → Prop) : e10.q [cmds l] h Q = ((SmX l) ∧ Q (.bool (heavy l)) h) := (QE.pure_q (x := l) (by rintro _ h; simp at h; simp [h]) h Q)
end Go.Proofs.Ytpnekpbehcbmkaa
end
noncomputable section
namespace Go.Proofs.Ytpnekpbehcbmkaa
open Go.Eng Go.RowKit
theorem nil31 (a : Option Addr) (cap : Nat) (w : World) : (binOp .eql 31 (.slice a 0 cap) (.slice none 0 0)).run Try.prog w = .ok (.bool a.isNone) w := by
  have h : ∀ n, (Op.equalIn (n + 1) 31 (.slice a 0 cap) (.slice none 0 0)).run Try.prog w = .ok a.isNone w := fun n => by
    cases a <;> simp [Op.equalIn, run_underlying Try.underlying31]
  have h : (Op.equal 31 (.slice a 0 cap) (.slice none 0 0)).run Try.prog w = .ok a.isNone w := h 9999
  simp only [binOp]
  simp [h]
set_option maxRecDepth 100000 in
theorem clone0 (a : Option Addr) (cap : Nat) (w : World) : Calls Try.prog 86 #[.slice a 0 cap] w fun e w' => (∃ a', e = .returned (.slice a' 0 0)) ∧ Quiet w.heap.size w w' := by
  cases a with
  | none =>
    go_enter Try.func86, Try.ntmps86
    go_wp2
    rename_i hK
    rw [nil31]
    refine hK _ _ ?_
    go_wp2
    go_ret
    exact ⟨⟨_, rfl⟩, .refl _ _⟩
  | some a =>
    go_enter Try.func86, Try.ntmps86
    go_wp2
    rename_i hK
    rw [nil31]
    refine hK _ _ ?_
    go_wp2
    go_ret
    exact ⟨⟨_, rfl⟩, .alloc _ (Nat.le_refl _)⟩
theorem clone0_d (h : AH) : CallD Try.prog 86 [.psl []] h (.psl []) h := by
  refine ⟨⟨_, Try.func86, rfl, by decide⟩, fun own β w cargs hs hR => ?_⟩
  obtain ⟨v, hc⟩ : ∃ v, cargs = #[v] := by
    have : cargs.toList.length = 1 := by simpa using hR.1.symm
    obtain ⟨v, hv⟩ := List.length_eq_one_iff.1 this
    exact ⟨v, by apply Array.ext'; simpa using hv⟩
  subst hc
  have hv := hR.2 0 (.psl []) v (by simp) (by simp)
  have key : ∀ a cap, Calls Try.prog 86 #[.slice a 0 cap] w fun e w' => ∃ cv v h' β', e = .returned cv ∧ (v = .psl [] ∧ h' = h) ∧ SimH own β' h'.H h'.nx w' ∧ VR w'.heap (LL own β' h'.H) β' v cv ∧ Trans own β h w β' h' w' := fun a cap => by
    refine (clone0 a cap w).mono ?_
    rintro e w' ⟨⟨a', rfl⟩, hq⟩
    exact ⟨_, _, h, β, rfl, ⟨rfl, rfl⟩, hs.quiet hq, .psl0 _ _, (Trans.refl own β h w).quiet hq⟩
  generalize hx : AV.psl [] = x at hv
  cases hv <;> cases hx
  · exact key _ _
  · exact key _ _
end Go.Proofs.Ytpnekpbehcbmkaa
end
noncomputable section
namespace Go.Proofs.Ytpnekpbehcbmkaa
open Go.Eng
@[simp] theorem kEqn_p1 (h : AH) (neg : Bool) (a b : Nat) : kEqn h .ptr neg (.ptr a b) .nilptr = some (.bool (if neg then true else false), h) := by cases neg <;> rfl
@[simp] theorem kEqn_p2 (h : AH) (neg : Bool) : kEqn h .ptr neg .nilptr .nilptr = some (.bool (if neg then false else true), h) := by cases neg <;> rfl
@[simp] theorem kEqn_s1 (h : AH) (x : List AV) (xs : List (List AV)) : kEqn h .sl false (.psl (x :: xs)) .nilsl = some (.bool false, h) := Eq.trans rfl rfl
theorem flat_get {α : Type} {e : α → List AV} {z : Nat} (he : ∀ a, (e a).length = z) : ∀ (l : List α) (i j : Nat) (a : α), l[i]? = some a → j < z → ((l.map e).flatten)[i * z + j]? = (e a)[j]?
  | [], i, j, a, h, _ => by simp at h
  | x :: l, 0, j, a, h, hj => by
    simp at h; subst h
    simp only [List.map_cons, List.flatten_cons, Nat.zero_mul, Nat.zero_add]
    rw [List.getElem?_append_left (by rw [he]; exact hj)]
  | x :: l, i + 1, j, a, h, hj => by
    simp at h
    simp only [List.map_cons, List.flatten_cons]
    rw [List.getElem?_append_right (by rw [he, Nat.succ_mul]; omega), he]
    rw [show (i + 1) * z + j - z = i * z + j by rw [Nat.succ_mul]; omega]
    exact flat_get he l i j a h hj
theorem frz_rows {α : Type} {e : α → List AV} {z : Nat} (he : ∀ a, (e a).length = z) {h : AH} {n : Bool} {l : List α} {id : Nat} (hc : h.cellsAt id = some ((l.map e).flatten)) (hp : ∀ a ∈ l, ∀ c ∈ e a, Frz h n c c) : Frz h n (.rsl id 0 l.length z) (.psl (l.map e)) := by
  have := Frz.rsl (h := h) (n := n) id 0 z _ (l.map e) hc (by rw [flat_len he]; simp) (fun i y hy => by simp at hy; obtain ⟨a, _, rfl⟩ := hy; exact he a) (fun i y j c d h1 h2 h3 => ?_)
  · simpa using this
  · simp only [List.getElem?_map, Option.map_eq_some_iff] at h1
    obtain ⟨a, ha, rfl⟩ := h1
    have hj : j < z := by rw [← he a]; exact (List.getElem?_eq_some_iff.1 h2).1
    rw [Nat.zero_add, flat_get he l i j a ha hj] at h3
    rw [h3] at h2; cases h2
    exact hp a (List.mem_of_getElem? ha) c (List.mem_of_getElem? h3)
theorem ones_flat {α : Type} {e : α → List AV} (ho : ∀ a, ones (e a) = true) : ∀ (l : List α), ones ((l.map e).flatten) = true
  | [] => rfl
  | a :: l => by
    have h1 := ho a
    have h2 := ones_flat ho l
    unfold ones at h1 h2 ⊢
    rw [List.map_cons, List.flatten_cons, List.all_append, h1, h2]; rfl
def Lite (l : List Cmd) : Prop := l.length ≤ 100000 ∧ ∀ c ∈ l, c.line.gl.length ≤ 1000
theorem Lite.sm {l : List Cmd} (h : Lite l) : SmL l := ⟨by unfold Sm; have := h.1; omega, fun c hc => by have := h.2 c hc; unfold SmC Sm; omega⟩
theorem gls_plain (h : AH) (n : Bool) (g : Gl) : ∀ c ∈ g.enc, Frz h n c c := by
  intro c hc
  simp [Gl.enc] at hc
  rcases hc with rfl | rfl | rfl | rfl | rfl | rfl | rfl | rfl <;> exact .int _ _
theorem kApp_gls (h : AH) (id : Nat) (l : List Gl) (hid : h.cellsAt id = some []) (hl : l.length ≤ 1000) : kApp h 8 64 (.rsl id 0 0 8) (gls l) = some (.rsl h.nx 0 l.length 8, (h.kill id).add (.cells (l.map Gl.enc).flatten)) := by
  have h1 : (l.map Gl.enc).all (fun x => x.length == 8) = true := by simp
  have h2 := ones_flat Gl.ones l
  have h3 : roomy (0 + l.length) 64 = true := roomy_ok _ _ (by omega) (by omega)
  simp only [kApp, aapp, acells, alen, gls, h1, if_true, h2, Bool.not_true, Bool.false_eq_true, if_false, hid, List.length_map, h3, Bool.and_true, decide_true]
  simp [cut]
theorem clone_c (l : List Gl) (hl : l.length ≤ 1000) : Pure Try.prog 86 [gls l] (gls l) := by
  cases l with
  | nil => exact fun h => clone0_d h
  | cons g t =>
    refine .of (by simp [gls_cl]) (C86 (tb_ok []) ?_)
    have hk : kEqn emp .sl false (gls (g :: t)) .nilsl = some (.bool false, emp) := kEqn_s1 _ _ _
    have ha := kApp_gls (emp.add (.cells [])) 0 (g :: t) (by simp) hl
    simp (disch := first | (simp; done) | omega | (simp only [nx_add, nx_set, nx_kill, nx_mk, nx_emp]; omega) | fail) [g86, hk, ha]
    simp only [gls]
    exact frz_rows Gl.len (l := g :: t) (by simp) (fun a _ => gls_plain _ _ a)
def e86 : QE Try.prog := .pure 86 (fun (l : List Gl) => [gls l]) (fun (l : List Gl) => l.length ≤ 1000) (fun (l : List Gl) => gls l) (fun l hx => clone_c l hx)
@[simp ↓] theorem e86_h (l : List (QE Try.prog)) (args : List AV) (h : AH) (Q : AV → AH → Prop) : tb (e86 :: l) 86 args h Q = e86.q args h Q := tb_here e86 l 86 args h Q rfl
@[simp ↓] theorem e86_q (l : List Gl) (h : AH) (Q : AV → AH → Prop) : e86.q [gls l] h Q = ((l.length ≤ 1000) ∧ Q (gls l) h) := (QE.pure_q (x := l) (by rintro _ h; simp at h; simp [h]) h Q)
@[simp] theorem stow_gls (l : List Gl) : stow (gls l) = true := by unfold gls; exact stow_psl _
@[simp] theorem cells_gls (l : List Gl) : (gls l).cells = [gls l] := Eq.trans rfl rfl
@[simp] theorem one_gls (l : List Gl) : (gls l).one = true := Eq.trans rfl rfl
@[simp] theorem Ln.spl (l : Ln) : splice l.enc 9 [gls l.gl] = some l.enc := by cases l; exact Eq.trans rfl rfl
theorem lpl (l : Ln) : ∀ x ∈ l.enc, Plain x := by simp [Ln.enc, Plain.int, gls_pl]
theorem copied_c (l : Ln) (hl : l.gl.length ≤ 1000) : Pure Try.prog 79 [.agg l.enc] (.agg l.enc) := by
  refine .of (by simp [Ln.cl]) (C79 (tb_ok [e86]) ?_)
  simp (disch := first | (simp; done) | omega | (simp only [nx_add, nx_set, nx_kill, nx_mk, nx_emp]; omega) | fail) [g79, hl]
  simp (disch := first | (simp; done) | omega | (simp only [nx_add, nx_set, nx_kill, nx_mk, nx_emp]; omega) | fail) [g79_s1]
  rw [FrzL_iff]
  exact ⟨rfl, fun i c d h1 h2 => by rw [h1] at h2; cases h2; exact lpl l c (List.mem_of_getElem? h1) _⟩
def e79 : QE Try.prog := .pure 79 (fun (l : Ln) => [.agg l.enc]) (fun (l : Ln) => l.gl.length ≤ 1000) (fun (l : Ln) => .agg l.enc) (fun l hx => copied_c l hx)
@[simp ↓] theorem e79_h (l : List (QE Try.prog)) (args : List AV) (h : AH) (Q : AV → AH → Prop) : tb (e79 :: l) 79 args h Q = e79.q args h Q := tb_here e79 l 79 args h Q rfl
@[simp ↓] theorem e79_q (l : Ln) (h : AH) (Q : AV → AH → Prop) : e79.q [.agg l.enc] h Q = ((l.gl.length ≤ 1000) ∧ Q (.agg l.enc) h) := (QE.pure_q (x := l) (by rintro _ h; simp at h; simp [h]) h Q)
def strct (c : Cmd) : Bool := c.kind == 1 || c.kind == 2 || c.kind == 3
theorem structural_c (c : Cmd) : Pure Try.prog 52 [.agg c.enc] (.bool (strct c)) := by
  refine .of (by simp [Cmd.cl]) (C52 (tb_ok []) ?_)
  by_cases q1 : c.kind = 1 <;> by_cases q2 : c.kind = 2 <;> by_cases q3 : c.kind = 3 <;> simp (disch := first | (simp; done) | omega | (simp only [nx_add, nx_set, nx_kill, nx_mk, nx_emp]; omega) | fail) [g52, q1, q2, q3] <;> simp (disch := first | (simp; done) | omega | (simp only [nx_add, nx_set, nx_kill, nx_mk, nx_emp]; omega) | fail) [g52_s1, strct, q1, q2, q3] <;> omega
theorem indexFuncC_c (l : List Cmd) (fn : Nat) (cap : List AV) (p : Cmd → Bool) (hcap : ∀ c ∈ cap, Closed c) (hp : ∀ g ∈ l, Pure Try.prog fn (.agg g.enc :: cap) (.bool (p g))) (hl : Sm l) : Pure Try.prog 74 [cmds l, .func (.func fn) [] cap] (I (idx p l)) := by
  refine .of (by simp [cmds_cl]; exact .func (by simp) hcap) (C74 (tb_ok [eH fn l Cmd.enc cap p hp]) ?_)
  unfold Sm at hl
  simp [g74]
  refine ⟨fun m vs h => ∃ i : Nat, i ≤ l.length ∧ m = l.length - i ∧ vs = [cmds l, .func (.func fn) [] cap, I l.length, I i] ∧ (∀ j (hj : j < i) (hj2 : j < l.length), p l[j] = false) ∧ h = emp, l.length, ⟨0, by simp⟩, ?_⟩
  rintro m vs h ⟨i, hi, rfl, rfl, hn, rfl⟩
  by_cases hlt : i < l.length
  · simp (disch := first | omega | (simp; done) | fail) [g74_l1, hlt]
    refine eH_h hlt ?_
    simp (disch := first | omega | (simp; done) | fail) [g74_j3]
    refine ⟨fun h1 => (idx_some hlt h1 (fun j hj => hn j hj (by omega))).symm, fun h1 => ⟨l.length - (i + 1), by omega, i + 1, by omega, rfl, by simp, fun j hj hj2 => ?_⟩⟩
    by_cases hj3 : j < i
    · exact hn j hj3 hj2
    · obtain rfl : j = i := by omega
      exact h1
  · have : i = l.length := by omega
    subst this
    simp [g74_l1, g74_j3, g74_c2]
    exact (idx_none fun j hj => hn j hj hj).symm
theorem anyStruct_c (l : List Cmd) (hl : Sm l) : Pure Try.prog 53 [cmds l, .func (.func 52) [] []] (.bool (l.any strct)) := by
  refine .of (by simp [cmds_cl]; exact .func (by simp) (by simp)) (C53 (tb_ok [.pure 74 (fun _ : Unit => [cmds l, .func (.func 52) [] []]) (fun _ => True) (fun _ => I (idx strct l)) (fun _ _ => indexFuncC_c l 52 [] strct (by simp) (fun g _ => structural_c g) hl)]) ?_)
  simp [g53]
  rw [tb_here (QE.pure 74 _ _ _ _) [] 74 _ _ _ rfl]
  refine ⟨(), rfl, trivial, ?_⟩
  simp [idx_nonneg]
def e53 : QE Try.prog := .pure 53 (fun (l : List Cmd) => [cmds l, .func (.func 52) [] []]) (fun (l : List Cmd) => Sm l) (fun (l : List Cmd) => .bool (l.any strct)) (fun l hx => anyStruct_c l hx)
@[simp ↓] theorem e53_h (l : List (QE Try.prog)) (args : List AV) (h : AH) (Q : AV → AH → Prop) : tb (e53 :: l) 53 args h Q = e53.q args h Q := tb_here e53 l 53 args h Q rfl
@[simp ↓] theorem e53_q (l : List Cmd) (h : AH) (Q : AV → AH → Prop) : e53.q [cmds l, .func (.func 52) [] []] h Q = ((Sm l) ∧ Q (.bool (l.any strct)) h) := (QE.pure_q (x := l) (by rintro _ h; simp at h; simp [h]) h Q)
def rects (l : List Rect) : AV := .psl (l.map Rect.enc)
def evr : List Rect := [⟨-1048576, -1048576, 1048576, 1048576⟩, ⟨0, -1048576, 1048576, 1048576⟩, ⟨-1048576, 0, 1048576, 1048576⟩, ⟨0, 0, 1048576, 1048576⟩]
def fillC (x y w h c : Int) : Cmd := ⟨4, ⟨x, y, w, h⟩, ⟨0, false, 0, 0, 0⟩, c, [], ⟨0, 0, 0, 0, 0, 0, 0, 0, 0, []⟩⟩
theorem fill_c (x y w h c : Int) : Pure Try.prog 26 [I x, I y, I w, I h, I c] (.agg (fillC x y w h c).enc) := by
  refine .of (by simp [cI]) (C26 (tb_ok []) ?_)
  simp (disch := first | (simp; done) | omega | (simp only [nx_add, nx_set, nx_kill, nx_mk, nx_emp]; omega) | fail) [g26]
  simp [splice, fillC, Cmd.enc, gls]
  exact .nilsl
def e26 : QE Try.prog := .pure 26 (fun (((x, y, w, e, c)) : Int × Int × Int × Int × Int) => [I x, I y, I w, I e, I c]) (fun (((x, y, w, e, c)) : Int × Int × Int × Int × Int) => True) (fun (((x, y, w, e, c)) : Int × Int × Int × Int × Int) => .agg (fillC x y w e c).enc) (fun ⟨x, y, w, e, c⟩ _ => fill_c x y w e c)
@[simp ↓] theorem e26_h (l : List (QE Try.prog)) (args : List AV) (h : AH) (Q : AV → AH → Prop) : tb (e26 :: l) 26 args h Q = e26.q args h Q := tb_here e26 l 26 args h Q rfl
@[simp ↓] theorem e26_q (x : Int) (y : Int) (w : Int) (e : Int) (c : Int) (h : AH) (Q : AV → AH → Prop) : e26.q [I x, I y, I w, I e, I c] h Q = Q (.agg (fillC x y w e c).enc) h := (QE.pure_q (x := (x, y, w, e, c)) (by rintro ⟨_, _, _, _, _⟩ h; simp at h; simp [h]) h Q).trans (by simp)
def emptyR (r : Rect) : Bool := decide ((vld r).w = 0) || decide ((vld r).h = 0)
theorem empty_c (r : Rect) : Pure Try.prog 77 [.agg r.enc] (.bool (emptyR r)) := by
  refine .of (by simp [Rect.cl]) (C77 (tb_ok [e70]) ?_)
  by_cases q1 : (vld r).w = 0 <;> by_cases q2 : (vld r).h = 0 <;> simp (disch := first | (simp; done) | omega | (simp only [nx_add, nx_set, nx_kill, nx_mk, nx_emp]; omega) | fail) [g77, q1, q2] <;> simp (disch := first | (simp; done) | omega | (simp only [nx_add, nx_set, nx_kill, nx_mk, nx_emp]; omega) | fail) [g77_s1, q1, q2, emptyR]
def e77 : QE Try.prog := .pure 77 (fun (r : Rect) => [.agg r.enc]) (fun (r : Rect) => True) (fun (r : Rect) => .bool (emptyR r)) (fun r _ => empty_c r)
@[simp ↓] theorem e77_h (l : List (QE Try.prog)) (args : List AV) (h : AH) (Q : AV → AH → Prop) : tb (e77 :: l) 77 args h Q = e77.q args h Q := tb_here e77 l 77 args h Q rfl
@[simp ↓] theorem e77_q (r : Rect) (h : AH) (Q : AV → AH → Prop) : e77.q [.agg r.enc] h Q = Q (.bool (emptyR r)) h := (QE.pure_q (x := r) (by rintro _ h; simp at h; simp [h]) h Q).trans (by simp)
end Go.Proofs.Ytpnekpbehcbmkaa
end
noncomputable section
namespace Go.Proofs.Ytpnekpbehcbmkaa
open Go.Eng
def rotR : Nat → Rect → Rect
  | 0, r => r
  | n + 1, r => rotR n ⟨-r.y - r.h, r.x, r.h, r.w⟩
def mirR (t : Tf) (r : Rect) : Rect := ⟨if t.mirror then -r.x - r.w else r.x, r.y, r.w, r.h⟩
def scR (t : Tf) (q : Rect) : Rect := ⟨q.x * t.scale + t.dx, q.y * t.scale + t.dy, q.w * t.scale, q.h * t.scale⟩
def apl (t : Tf) (r : Rect) : Rect := if okT t && okR r then scR t (rotR t.turn.toNat (mirR t r)) else zR
def Box (r : Rect) : Prop := -2097152 ≤ r.x ∧ r.x + r.w ≤ 2097152 ∧ -2097152 ≤ r.y ∧ r.y + r.h ≤ 2097152 ∧ 0 ≤ r.w ∧ 0 ≤ r.h
theorem mirR_box {t : Tf} {r : Rect} (h : okR r = true) : Box (mirR t r) := by
  have := okR_bd h
  unfold Box mirR
  cases t.mirror <;> simp <;> omega
theorem mul_k {a b : Int} (h1 : -4194304 ≤ a) (h2 : a ≤ 4194304) (h3 : 0 ≤ b) (h4 : b ≤ 16) : -67108864 ≤ a * b ∧ a * b ≤ 67108864 := mul_bd (A := 4194304) (B := 16) h1 h2 h3 h4
theorem mul_e {a b : Int} (h1 : -4194304 ≤ a) (h2 : a ≤ 4194304) (h3 : 0 ≤ b) (h4 : b ≤ 16) (h : AH) : kArith h .mul (I a) (I b) = some (I (a * b), h) := by
  obtain ⟨m1, m2⟩ := mul_k h1 h2 h3 h4
  exact kArith_mul h _ _ (Int.le_trans (by decide) m1) (Int.le_trans m2 (by decide))
theorem mul_a {a b d : Int} (h1 : -4194304 ≤ a) (h2 : a ≤ 4194304) (h3 : 0 ≤ b) (h4 : b ≤ 16) (h5 : -1048576 ≤ d) (h6 : d ≤ 1048576) (h : AH) : kArith h .add (I (a * b)) (I d) = some (I (a * b + d), h) := by
  obtain ⟨m1, m2⟩ := mul_k h1 h2 h3 h4
  generalize a * b = p at m1 m2 ⊢
  exact kArith_add h _ _ (by omega) (by omega)
def apI (t : Tf) (r : Rect) (m : Nat) (vs : List AV) (h : AH) : Prop := ∃ (i : Nat) (q : Rect), (i : Int) ≤ t.turn ∧ m = t.turn.toNat - i ∧ vs = [.ptr 0 0, .ptr 1 0, .ptr 2 0, I i] ∧ h.cellsAt 0 = some t.enc ∧ h.cellsAt 1 = some q.enc ∧ h.cellsAt 2 = some [I 0, I 0, I 0, I 0] ∧ rotR (t.turn.toNat - i) q = rotR t.turn.toNat (mirR t r) ∧ Box q
set_option maxHeartbeats 1000000 in
theorem apply_c (t : Tf) (r : Rect) : Pure Try.prog 76 [.agg t.enc, .agg r.enc] (.agg (apl t r).enc) := by
  refine .of (by simp [Tf.cl, Rect.cl]) (C76 (tb_ok [e65, e36]) ?_)
  simp (disch := first | (simp; done) | omega | (simp only [nx_add, nx_set, nx_kill, nx_mk, nx_emp]; omega) | fail) [g76]
  refine ⟨fun vs h => vs = [.ptr 0 0, .ptr 1 0, .ptr 2 0, .bool (!(okT t && okR r))] ∧ h.cellsAt 0 = some t.enc ∧ h.cellsAt 1 = some r.enc ∧ h.cellsAt 2 = some [I 0, I 0, I 0, I 0] ∧ h.nx = 3, ?_, ?_⟩
  · cases q1 : okT t <;> cases q2 : okR r <;> simp (disch := first | (simp; done) | omega | (simp only [nx_add, nx_set, nx_kill, nx_mk, nx_emp]; omega) | fail) [g76_a1, q1, q2] <;> simp (disch := first | (simp; done) | omega | (simp only [nx_add, nx_set, nx_kill, nx_mk, nx_emp]; omega) | fail) [g76_s1, q1, q2]
  rintro vs h ⟨rfl, h0, h1, h2, hn⟩
  cases hab : (okT t && okR r)
  · simp (disch := first | (simp; done) | omega | (simp only [nx_add, nx_set, nx_kill, nx_mk, nx_emp]; omega) | fail) [g76_j7, h0, h1, h2, hn]
    simp [apl, hab, zR, Rect.enc]
  · have ht : okT t = true := by simp at hab; exact hab.1
    have hr : okR r = true := by simp at hab; exact hab.2
    have bt := okT_bd ht
    have br := okR_bd hr
    simp (disch := first | (simp; done) | omega | (simp only [nx_add, nx_set, nx_kill, nx_mk, nx_emp]; omega) | fail) [g76_j7, h0, h1, h2, hn]
    refine ⟨fun vs h => vs = [.ptr 0 0, .ptr 1 0, .ptr 2 0] ∧ h.cellsAt 0 = some t.enc ∧ h.cellsAt 1 = some (mirR t r).enc ∧ h.cellsAt 2 = some [I 0, I 0, I 0, I 0], ?_, ?_⟩
    · cases hm : t.mirror <;> simp (disch := first | (simp; done) | omega | (simp only [nx_add, nx_set, nx_kill, nx_mk, nx_emp]; omega) | fail) [g76_a2, h0, h1, h2, hn, hm, mirR, Rect.enc]
    rintro vs h ⟨rfl, h0, h1, h2⟩
    simp (disch := first | (simp; done) | omega | (simp only [nx_add, nx_set, nx_kill, nx_mk, nx_emp]; omega) | fail) [g76_j6]
    refine ⟨apI t r, t.turn.toNat, ⟨0, mirR t r, by omega, rfl, rfl, h0, h1, h2, rfl, mirR_box hr⟩, ?_⟩
    rintro m vs h ⟨i, q, hi, rfl, rfl, h0, h1, h2, hrq, hb⟩
    obtain ⟨b1, b2, b3, b4, b5, b6⟩ := hb
    by_cases hlt : (i : Int) < t.turn
    · simp (disch := first | (simp; done) | omega | (simp only [nx_add, nx_set, nx_kill, nx_mk, nx_emp]; omega) | fail) [g76_l3, h0, h1, h2, hlt]
      simp (disch := first | (simp; done) | omega | (simp only [nx_add, nx_set, nx_kill, nx_mk, nx_emp]; omega) | fail) [g76_s3, h0, h1, h2, hlt]
      simp (disch := first | (simp; done) | omega | (simp only [nx_add, nx_set, nx_kill, nx_mk, nx_emp]; omega) | fail) [g76_s2, h0, h1, h2, hlt]
      refine ⟨t.turn.toNat - (i + 1), by omega, i + 1, ⟨-q.y - q.h, q.x, q.h, q.w⟩, by omega, rfl, by simp, ?_⟩
      simp (disch := first | (simp; done) | omega | (simp only [nx_add, nx_set, nx_kill, nx_mk, nx_emp]; omega) | fail) [h0, h1, h2, Rect.enc]
      refine ⟨?_, ?_⟩
      · rw [← hrq, show t.turn.toNat - i = (t.turn.toNat - (i + 1)) + 1 by omega]; rfl
      · unfold Box; simp; omega
    · have hz : t.turn.toNat - i = 0 := by omega
      rw [hz] at hrq
      have hs0 : 0 ≤ t.scale := by omega
      have x1 : q.x ≤ 4194304 := by omega
      have x2 : q.y ≤ 4194304 := by omega
      have x3 : q.w ≤ 4194304 := by omega
      have x4 : q.h ≤ 4194304 := by omega
      have y1 : -4194304 ≤ q.x := by omega
      have y2 : -4194304 ≤ q.y := by omega
      have y3 : -4194304 ≤ q.w := by omega
      have y4 : -4194304 ≤ q.h := by omega
      obtain ⟨_, _, _, t4, t5, t6, t7, t8⟩ := bt
      have k1 := fun h => mul_e y1 x1 hs0 t4 h
      have k2 := fun h => mul_e y2 x2 hs0 t4 h
      have k3 := fun h => mul_e y3 x3 hs0 t4 h
      have k4 := fun h => mul_e y4 x4 hs0 t4 h
      have k5 := fun h => mul_a y1 x1 hs0 t4 t5 t6 h
      have k6 := fun h => mul_a y2 x2 hs0 t4 t7 t8 h
      simp (disch := first | (simp; done) | omega | (simp only [nx_add, nx_set, nx_kill, nx_mk, nx_emp]; omega) | fail) [g76_l3, h0, h1, h2, hlt]
      clear x1 x2 x3 x4 y1 y2 y3 y4
      simp (disch := first | (simp; done) | fail) only [g76_j5, g76_c4, xs]
      simp (disch := first | (simp; done) | fail) [g76_c4, h0, h1, h2, k1, k5, -kArith_mul, -kArith_add]
      simp (disch := first | (simp; done) | fail) [g76_s6, h0, h1, h2, k2, k6, -kArith_mul, -kArith_add]
      simp (disch := first | (simp; done) | fail) [g76_s5, h0, h1, h2, k3, -kArith_mul, -kArith_add]
      simp (disch := first | (simp; done) | fail) [g76_s4, h0, h1, h2, k4, -kArith_mul, -kArith_add]
      have : apl t r = scR t q := by
        rw [show q = rotR t.turn.toNat (mirR t r) from hrq]
        unfold apl; rw [if_pos hab]
      rw [this]
      simp [scR, Rect.enc]
def e76 : QE Try.prog := .pure 76 (fun (((t, r)) : Tf × Rect) => [.agg t.enc, .agg r.enc]) (fun (((t, r)) : Tf × Rect) => True) (fun (((t, r)) : Tf × Rect) => .agg (apl t r).enc) (fun ⟨t, r⟩ _ => apply_c t r)
@[simp ↓] theorem e76_h (l : List (QE Try.prog)) (args : List AV) (h : AH) (Q : AV → AH → Prop) : tb (e76 :: l) 76 args h Q = e76.q args h Q := tb_here e76 l 76 args h Q rfl
@[simp ↓] theorem e76_t (l : List (QE Try.prog)) (f : Nat) (args : List AV) (h : AH) (Q : AV → AH → Prop) (hf : 76 ≠ f) : tb (e76 :: l) f args h Q = tb l f args h Q := tb_there e76 l f args h Q hf
@[simp ↓] theorem e76_q (t : Tf) (r : Rect) (h : AH) (Q : AV → AH → Prop) : e76.q [.agg t.enc, .agg r.enc] h Q = Q (.agg (apl t r).enc) h := (QE.pure_q (x := (t, r)) (by rintro ⟨_, _⟩ h; simp at h; simp [h]) h Q).trans (by simp)
end Go.Proofs.Ytpnekpbehcbmkaa
end
