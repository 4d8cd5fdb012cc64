/- What the colour of a pixel is in the program. -/
import Derived.Test.YtpnekpbehcbmkaaD7L
set_option linter.unusedSimpArgs false
set_option linter.unusedVariables false
set_option linter.unnecessarySimpa false
noncomputable section
namespace Go.Proofs.Ytpnekpbehcbmkaa
open Go.Eng
structure Sn where
  p : Pt
  inn : Bool
def Sn.enc (s : Sn) : List AV := [I s.p.x, I s.p.y, .bool s.inn]
@[simp] theorem Sn.len (s : Sn) : s.enc.length = 3 := by cases s; rfl
@[simp] theorem Sn.ones (s : Sn) : ones s.enc = true := Eq.trans rfl rfl
@[simp high] theorem Sn.g0 (s : Sn) : s.enc[0]? = some (I s.p.x) := Eq.trans rfl rfl
@[simp high] theorem Sn.g1 (s : Sn) : s.enc[1]? = some (I s.p.y) := Eq.trans rfl rfl
@[simp high] theorem Sn.g2 (s : Sn) : s.enc[2]? = some (.bool s.inn) := Eq.trans rfl rfl
@[simp] theorem Sn.all (s : Sn) : cut s.enc 0 3 = some s.enc := Eq.trans rfl rfl
@[simp] theorem Sn.c0 (s : Sn) : cut s.enc 0 2 = some s.p.enc := Eq.trans rfl rfl
@[simp] theorem kMov_e (h : AH) (v : AV) : kMov h v = some (v, h) := Eq.trans rfl rfl
@[simp] theorem splice_pt (a b c : AV) (p : Pt) : splice [a, b, c] 0 p.enc = some [I p.x, I p.y, c] := Eq.trans rfl rfl
@[simp] theorem splice_in (a b c d : AV) : splice [a, b, c] 2 [d] = some [a, b, d] := Eq.trans rfl rfl
@[simp] theorem splice_sn (a b c x y z : AV) : splice [a, b, c] 0 [x, y, z] = some [x, y, z] := Eq.trans rfl rfl
@[simp] theorem cut_sn (x y z : AV) : cut [x, y, z] 0 3 = some [x, y, z] := Eq.trans rfl rfl
theorem Stk.push' {α : Type} {z : Nat} {e : α → List AV} (he : ∀ a, (e a).length = z) {h : AH} {st : List α} {a : α} {nid : Nat} {x : List AV} (hn : nid = h.nx) (hx : x = e a) : Stk z e nid (h.add (.cells (bot e st ++ x))) (a :: st) := by
  subst hx; exact Stk.push he hn
theorem step_ok {g : Tf} {gr : List Tf} {c : Cmd} {l : List Cmd} (h : vrun (g :: gr) (c :: l) = 0) : ∃ g' gr', vrun (g' :: gr') l = 0 ∧ ((c.kind = 3 ∧ gr = g' :: gr') ∨ ((c.kind = 1 ∨ c.kind = 2) ∧ gr' = g :: gr) ∨ ((c.kind = 4 ∨ c.kind = 5 ∨ c.kind = 6) ∧ g' :: gr' = g :: gr)) ∧ (c.kind = 5 → nearL c.line = true) ∧ (isRec c.kind = true → okR c.r = true) := by
  unfold vrun at h
  cases hE : cmdErr (g :: gr) c with
  | inl e =>
    rw [hE] at h
    simp at h; subst h
    unfold cmdErr at hE
    (repeat' (split at hE)) <;> simp at hE
  | inr st' =>
    rw [hE] at h
    simp at h
    unfold cmdErr at hE
    split at hE
    · rename_i k3
      split at hE
      · cases hE
      · rename_i hlen
        cases gr with
        | nil => simp at hlen
        | cons t2 r2 =>
          simp at hE; subst hE
          exact ⟨t2, r2, h, .inl ⟨k3, rfl⟩, by omega, by simp [isRec, k3]⟩
    split at hE
    · rename_i k3 k2
      split at hE
      · cases hE
        exact ⟨_, _, h, .inr (.inl ⟨.inr k2, rfl⟩), by omega, by simp [isRec, k2]⟩
      · cases hE
    split at hE
    · rename_i k3 k2 hk
      split at hE
      · cases hE
      rename_i hr
      split at hE
      · cases hE
      split at hE
      · cases hE
      rename_i hn
      have hr' : okR c.r = true := by simpa using hr
      have hn' : c.kind = 5 → nearL c.line = true := fun k5 => by simpa [k5] using hn
      split at hE
      · rename_i k1
        cases hE
        exact ⟨_, _, h, .inr (.inl ⟨.inl k1, rfl⟩), hn', fun _ => hr'⟩
      · rename_i k1
        cases hE
        exact ⟨_, _, h, .inr (.inr ⟨by omega, rfl⟩), hn', fun _ => hr'⟩
    · cases hE
def pst (st : List Sn) (c : Cmd) : List Sn :=
  match st with
  | [] => []
  | s :: rest => if c.kind = 1 then ⟨s.p, s.inn && inR c.r s.p⟩ :: s :: rest else if c.kind = 2 then ⟨bk c.t s.p, s.inn && okP (bk c.t s.p)⟩ :: s :: rest else if c.kind = 3 then rest else s :: rest
def pout (st : List Sn) (c : Cmd) (out : Int) : Int :=
  match st with
  | [] => out
  | s :: _ => if c.kind = 1 ∨ c.kind = 2 ∨ c.kind = 3 then out else if s.inn && cov c s.p then (if c.kind = 6 then 8421504 else c.color) else out
def prun : List Sn → Int → List Cmd → Int
  | _, out, [] => out
  | st, out, c :: l => prun (pst st c) (pout st c out) l
def pixel (l : List Cmd) (p : Pt) : Int := if validate l = 0 ∧ okP p = true then prun [⟨p, true⟩] (-1) l else -1
def okS (st : List Sn) : Prop := ∀ s ∈ st, s.inn = true → okP s.p = true
theorem okS_step {s : Sn} {rest : List Sn} (h : okS (s :: rest)) (c : Cmd) : okS (pst (s :: rest) c) := by
  unfold pst
  have h1 := h s (by simp)
  simp only
  split
  · intro x hx hi
    simp at hx
    rcases hx with rfl | rfl | hx
    · simp at hi; exact h1 hi.1
    · exact h1 hi
    · exact h x (by simp [hx]) hi
  split
  · intro x hx hi
    simp at hx
    rcases hx with rfl | rfl | hx
    · simp at hi; exact hi.2
    · exact h1 hi
    · exact h x (by simp [hx]) hi
  split
  · intro x hx hi; exact h x (by simp [hx]) hi
  · exact h
def pxI (l : List Cmd) (R : Int) (m : Nat) (vs : List AV) (h : AH) : Prop := ∃ (i id : Nat) (s : Sn) (rest : List Sn) (out : Int) (g : Tf) (gr : List Tf), i ≤ l.length ∧ m = l.length - i ∧ vs = [.rsl id 0 (rest.length + 1) 3, I out, cmds l, I l.length, I i] ∧ Stk 3 Sn.enc id h (s :: rest) ∧ vrun (g :: gr) (l.drop i) = 0 ∧ gr.length = rest.length ∧ okS (s :: rest) ∧ prun (s :: rest) out (l.drop i) = R ∧ rest.length ≤ i
def pM (l : List Cmd) (i : Nat) (st : List Sn) (c : Cmd) (out : Int) (vs : List AV) (h' : AH) : Prop := ∃ id' s' rest', pst st c = s' :: rest' ∧ vs = [.rsl id' 0 (rest'.length + 1) 3, I (pout st c out), cmds l, I l.length, I i] ∧ Stk 3 Sn.enc id' h' (s' :: rest')
theorem pM.mk {l : List Cmd} {i : Nat} {st : List Sn} {c : Cmd} {out out' : Int} {h' : AH} {id' : Nat} {s' : Sn} {rest' : List Sn} (h1 : pst st c = s' :: rest') (h2 : pout st c out = out') (h3 : Stk 3 Sn.enc id' h' (s' :: rest')) : pM l i st c out [.rsl id' 0 (rest'.length + 1) 3, I out', cmds l, I l.length, I i] h' := ⟨_, _, _, h1, by rw [h2], h3⟩
theorem pixel_f (l : List Cmd) (p : Pt) (hl : SmL l) : Fresh Try.prog 15 [cmds l, .agg p.enc] (I (pixel l p)) := by
  refine C15 (tb_ok [e13, e43, e44, e45, e46]) ?_
  have hl1 := hl.1
  unfold Sm at hl1
  simp (disch := first | (simp; done) | omega | (simp only [nx_add, nx_set, nx_kill, nx_mk, nx_emp]; omega) | fail) [g15]
  refine ⟨fun vs h => vs = [cmds l, .ptr 0 0, .bool (!(decide (validate l = 0) && okP p))] ∧ h.cellsAt 0 = some p.enc, ?_, ?_⟩
  · by_cases q1 : validate l = 0 <;> cases q2 : okP p <;> simp (disch := first | (simp; done) | omega | (simp only [nx_add, nx_set, nx_kill, nx_mk, nx_emp]; omega) | fail) [g15_a1, g15_s1, q1, q2, hl]
  rintro vs h ⟨rfl, h0⟩
  simp (disch := first | (simp; done) | omega | (simp only [nx_add, nx_set, nx_kill, nx_mk, nx_emp]; omega) | fail) [g15_j9, h0]
  refine ⟨fun hh => by unfold pixel; rw [if_neg (by rintro ⟨z1, z2⟩; simp [z1, z2] at hh)], fun hv hp => ?_⟩
  have hlen : l.length ≤ 20000 := by
    unfold validate at hv
    split at hv
    · cases hv
    · omega
  refine ⟨pxI l (pixel l p), l.length, ⟨0, h.nx, ⟨p, true⟩, [], -1, tf1, [], by omega, rfl, rfl, ⟨by simp, _, by simp; rfl, by simp [bot, Sn.enc, Pt.enc, cut]⟩, ?_, rfl, ?_, ?_, by simp⟩, ?_⟩
  · unfold validate at hv; rw [if_neg (by omega)] at hv; simpa using hv
  · intro x hx; simp at hx; subst hx; exact fun _ => hp
  · simp [pixel, hv, hp]
  rintro m vs h ⟨i, id, s, rest, out, g, gr, hi, rfl, rfl, ⟨hid, cs, hcs, hcut⟩, hrun, hgl, hok, hpr, hri⟩
  obtain ⟨htop, hpop⟩ := stk_top Sn.len hcut
  have hrl : rest.length ≤ 20000 := by omega
  by_cases hlt : i < l.length
  · have hd : l.drop i = l[i] :: l.drop (i + 1) := List.drop_eq_getElem_cons hlt
    rw [hd] at hrun hpr
    obtain ⟨c, hc⟩ : ∃ c, c = l[i] := ⟨_, rfl⟩
    have hsm : SmC c := by rw [hc]; exact hl.2 _ (List.getElem_mem hlt)
    have hsm' : Sm c.line.gl := hsm
    rw [← hc] at hrun hpr
    obtain ⟨g', gr', hrun', hcase, hnear, hrect⟩ := step_ok hrun
    simp (disch := first | (simp; done) | omega | (simp only [nx_add, nx_set, nx_kill, nx_mk, nx_emp]; omega) | fail) [g15_l6, hlt, ← hc]
    refine ⟨pM l i (s :: rest) c out, ?_, ?_⟩
    · have hne : ¬ id = h.nx := by omega
      have hne2 : ¬ id = h.nx + 1 := by omega
      have hne3 : ¬ id = h.nx + 1 + 1 := by omega
      have hcut' : cut cs 0 ((rest.length + 1) * 3) = some (bot Sn.enc (s :: rest)) := by simpa using hcut
      simp (disch := first | (simp; done) | omega | (simp only [nx_add, nx_set, nx_kill, nx_mk, nx_emp]; omega) | fail) [g15_a4, hlt, ← hc, hcs, htop, hne, hne2, kIdxA_rsl]
      simp (disch := first | (simp; done) | omega | (simp only [nx_add, nx_set, nx_kill, nx_mk, nx_emp]; omega) | fail) [g15_s7, hlt, ← hc, hcs, htop, hne, hne2, kIdxA_rsl]
      have hne16 : ¬ id = h.nx + 1 + 1 + 13 := by omega
      have hne12 : ¬ id = h.nx + 1 + 1 + 1 + 9 := by omega
      refine ⟨fun k1 => ?_, fun k1 => ?_⟩
      · have hst : pst (s :: rest) c = ⟨s.p, s.inn && inR c.r s.p⟩ :: s :: rest := by simp [pst, k1]
        have ho : pout (s :: rest) c out = out := by simp [pout, k1]
        cases hin : s.inn
        · simp (disch := first | (simp; done) | omega | (simp only [nx_add, nx_set, nx_kill, nx_mk, nx_emp]; omega) | fail) [g15_s3, hcs, hne, hne2, hne16, hcut', hin]
          simp (disch := first | (simp; done) | omega | (simp only [nx_add, nx_set, nx_kill, nx_mk, nx_emp]; omega) | fail) [g15_s2, hcs, hne, hne2, hne16, hcut', hin]
          rw [hin] at hst
          refine pM.mk hst ho (Stk.push' Sn.len ?_ rfl)
          simp
        · simp (disch := first | (simp; done) | omega | (simp only [nx_add, nx_set, nx_kill, nx_mk, nx_emp]; omega) | fail) [g15_s3, hcs, hne, hne2, hne16, hcut', hin]
          simp (disch := first | (simp; done) | omega | (simp only [nx_add, nx_set, nx_kill, nx_mk, nx_emp]; omega) | fail) [g15_s2, hcs, hne, hne2, hne16, hcut', hin]
          rw [hin] at hst
          refine pM.mk hst ho (Stk.push' Sn.len ?_ rfl)
          simp
      · simp (disch := first | (simp; done) | omega | (simp only [nx_add, nx_set, nx_kill, nx_mk, nx_emp]; omega) | fail) [g15_s6]
        refine ⟨fun k2 => ?_, fun k2 => ⟨fun k3 => ?_, fun k3 => ?_⟩⟩
        · have hst : pst (s :: rest) c = ⟨bk c.t s.p, s.inn && okP (bk c.t s.p)⟩ :: s :: rest := by simp [pst, k2]
          have ho : pout (s :: rest) c out = out := by simp [pout, k2]
          cases hin : s.inn
          · simp (disch := first | (simp; done) | omega | (simp only [nx_add, nx_set, nx_kill, nx_mk, nx_emp]; omega) | fail) [g15_s5, hcs, hne, hne2, hne3, hne12, hcut', hin]
            simp (disch := first | (simp; done) | omega | (simp only [nx_add, nx_set, nx_kill, nx_mk, nx_emp]; omega) | fail) [g15_s4, hcs, hne, hne2, hne3, hne12, hcut', hin]
            rw [hin] at hst
            refine pM.mk hst ho (Stk.push' Sn.len ?_ rfl)
            simp
          · simp (disch := first | (simp; done) | omega | (simp only [nx_add, nx_set, nx_kill, nx_mk, nx_emp]; omega) | fail) [g15_s5, hcs, hne, hne2, hne3, hne12, hcut', hin]
            simp (disch := first | (simp; done) | omega | (simp only [nx_add, nx_set, nx_kill, nx_mk, nx_emp]; omega) | fail) [g15_s4, hcs, hne, hne2, hne3, hne12, hcut', hin]
            rw [hin] at hst
            refine pM.mk hst ho (Stk.push' Sn.len ?_ rfl)
            simp
        · have hst : pst (s :: rest) c = rest := by simp [pst, k3]
          have ho : pout (s :: rest) c out = out := by simp [pout, k3]
          have hr0 : rest ≠ [] := by
            rintro rfl
            rcases hcase with ⟨_, e⟩ | ⟨k, _⟩ | ⟨k, _⟩
            · subst e; simp at hgl
            · omega
            · omega
          cases rest with
          | nil => exact absurd rfl hr0
          | cons s2 r2 =>
            simp (disch := first | (simp; done) | omega | (simp only [nx_add, nx_set, nx_kill, nx_mk, nx_emp]; omega) | fail) [kSl_hi]
            exact pM.mk hst ho ⟨by simp; omega, cs, by simp [hcs, hne, hne2], hpop⟩
        · have hst : pst (s :: rest) c = s :: rest := by simp [pst, k1, k2, k3]
          have ho : pout (s :: rest) c out = if s.inn && cov c s.p then (if c.kind = 6 then 8421504 else c.color) else out := by simp [pout, k1, k2, k3]
          have hk : c.kind = 4 ∨ c.kind = 5 ∨ c.kind = 6 := by
            rcases hcase with ⟨k, _⟩ | ⟨k, _⟩ | ⟨k, _⟩
            · exact absurd k k3
            · omega
            · exact k
          refine ⟨fun vs h1 => vs = [.rsl id 0 (rest.length + 1) 3, I out, .ptr h.nx 0, cmds l, I l.length, I i, .bool (s.inn && cov c s.p)] ∧ h1.cellsAt h.nx = some c.enc ∧ h1.cellsAt id = some cs ∧ h1.nx = h.nx + 2, ?_, ?_⟩
          · cases hin : s.inn
            · simp (disch := first | (simp; done) | omega | (simp only [nx_add, nx_set, nx_kill, nx_mk, nx_emp]; omega) | fail) [g15_a2, hin, hcs, hne, hne2]
            · have hcp : CP c s.p := ⟨hok s (by simp) hin, hsm', hnear, hk⟩
              simp (disch := first | (simp; done) | omega | (simp only [nx_add, nx_set, nx_kill, nx_mk, nx_emp]; omega) | fail) [g15_a2, hin, hcs, hne, hne2, hcp]
          · rintro vs h1 ⟨rfl, e1, e2, e3⟩
            simp (disch := first | (simp; done) | omega | (simp only [nx_add, nx_set, nx_kill, nx_mk, nx_emp]; omega) | fail) [g15_j3, e1]
            have hS : Stk 3 Sn.enc id h1 (s :: rest) := ⟨by omega, cs, e2, hcut⟩
            cases q : (s.inn && cov c s.p)
            · rw [q] at ho
              simp at q ⊢
              refine ⟨fun z1 z2 => by simp [q z1] at z2, fun _ => pM.mk hst (by simpa using ho) hS⟩
            · rw [q] at ho
              simp at q ⊢
              refine ⟨fun _ _ => ⟨fun k6 => pM.mk hst (by simpa [k6] using ho) hS, fun k6 => pM.mk hst (by simpa [k6] using ho) hS⟩, fun z => by simp [z q.1] at q⟩
    · rintro vs h' ⟨id', s', rest', hst, rfl, hS⟩
      simp (disch := first | (simp; done) | omega | (simp only [nx_add, nx_set, nx_kill, nx_mk, nx_emp]; omega) | fail) [g15_j5]
      refine ⟨l.length - (i + 1), by omega, i + 1, id', s', rest', pout (s :: rest) c out, g', gr', by omega, rfl, by simp, hS, hrun', ?_, ?_, ?_, ?_⟩
      · have := congrArg List.length hst
        unfold pst at this
        rcases hcase with ⟨k, e⟩ | ⟨k, e⟩ | ⟨k, e⟩ <;> have := congrArg List.length e <;> simp at this
        all_goals grind
      · rw [← hst]; exact okS_step hok c
      · rw [← hst]; rw [← hpr]; simp [prun]
      · have := congrArg List.length hst
        unfold pst at this
        grind
  · have hil : i = l.length := by omega
    subst hil
    simp [prun] at hpr
    simp (disch := first | (simp; done) | omega | (simp only [nx_add, nx_set, nx_kill, nx_mk, nx_emp]; omega) | fail) [g15_l6, hlt]
    simp (disch := first | (simp; done) | omega | (simp only [nx_add, nx_set, nx_kill, nx_mk, nx_emp]; omega) | fail) [g15_j8, hlt]
    simp (disch := first | (simp; done) | omega | (simp only [nx_add, nx_set, nx_kill, nx_mk, nx_emp]; omega) | fail) [g15_c7, hlt]
    exact hpr
theorem pixel_c (l : List Cmd) (p : Pt) (hl : SmL l) : Pure Try.prog 15 [cmds l, .agg p.enc] (I (pixel l p)) := (pixel_f l p hl).pure (by simp [cmds_cl, Pt.cl])
def e15 : QE Try.prog := .pure 15 (fun (((l, p)) : List Cmd × Pt) => [cmds l, .agg p.enc]) (fun (((l, p)) : List Cmd × Pt) => SmL l) (fun (((l, p)) : List Cmd × Pt) => I (pixel l p)) (fun ⟨l, p⟩ hx => pixel_c l p hx)
@[simp ↓] theorem e15_h (l : List (QE Try.prog)) (args : List AV) (h : AH) (Q : AV → AH → Prop) : tb (e15 :: l) 15 args h Q = e15.q args h Q := tb_here e15 l 15 args h Q rfl
@[simp ↓] theorem e15_t (l : List (QE Try.prog)) (f : Nat) (args : List AV) (h : AH) (Q : AV → AH → Prop) (hf : 15 ≠ f) : tb (e15 :: l) f args h Q = tb l f args h Q := tb_there e15 l f args h Q hf
@[simp ↓] theorem e15_q (l : List Cmd) (p : Pt) (h : AH) (Q : AV → AH → Prop) : e15.q [cmds l, .agg p.enc] h Q = ((SmL l) ∧ Q (I (pixel l p)) h) := (QE.pure_q (x := (l, p)) (by rintro ⟨_, _⟩ h; simp at h; simp [h]) h Q)
@[simp ↓] theorem e15_q_p (l : List Cmd) (p_x : Int) (p_y : Int) (h : AH) (Q : AV → AH → Prop) : e15.q [cmds l, .agg [I p_x, I p_y]] h Q = ((SmL l) ∧ Q (I (pixel l (Pt.mk p_x p_y))) h) := e15_q l ⟨p_x, p_y⟩ h Q
end Go.Proofs.Ytpnekpbehcbmkaa
