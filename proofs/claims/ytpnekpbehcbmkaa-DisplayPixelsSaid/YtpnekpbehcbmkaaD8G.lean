/- What the law DisplayPixels computes. -/
import Derived.Test.YtpnekpbehcbmkaaD8D
set_option linter.unusedSimpArgs false
set_option linter.unusedVariables false
set_option linter.unnecessarySimpa false
noncomputable section
namespace Go.Proofs.Ytpnekpbehcbmkaa
open Go.Eng
theorem sM_len (L : List Int) (o a : Nat) : (sM L o a).1.length ≤ 1 := by
  unfold sM; (repeat' split) <;> simp
theorem sM_o (L : List Int) (o a : Nat) : (sM L o a).2.1 ≤ o + 1 := by
  unfold sM; (repeat' split) <;> simp <;> omega
theorem lM_bd (L : List Int) : ∀ (k : Nat) (l : List Cmd) (o a : Nat), (lM L k l o a).1.length ≤ l.length + k ∧ (lM L k l o a).2.1 ≤ o + k
  | 0, l, o, a => by simp [lM]
  | k + 1, l, o, a => by
    have h1 := lM_bd L k (l ++ (sM L o a).1) (sM L o a).2.1 (sM L o a).2.2
    have h2 := sM_len L o a
    have h3 := sM_o L o a
    simp at h1
    simp [lM]
    omega
def kI (h0 : AH) (sid : Nat) (L : List Int) (a K : Nat) (m : Nat) (vs : List AV) (hh : AH) : Prop :=
  ∃ (l : List Cmd) (o a' : Nat) (lv : AV), vs = [.ptr sid 0, lv, I o, I m] ∧ St h0 hh sid L a' lv l (60 + 2000 * (K - m)) ∧ m ≤ K ∧ l.length + m ≤ K ∧ o + m ≤ K ∧ lM L m l o a' = lM L K [] 0 a
def qI (h0 : AH) (sid : Nat) (L : List Int) (a' : Nat) (F : List Cmd) (m : Nat) (vs : List AV) (hh : AH) : Prop :=
  ∃ (l : List Cmd) (lv : AV), vs = [lv, I m] ∧ St h0 hh sid L a' lv l (60 + 2000 * 14 + 2 * (14 - m)) ∧ m ≤ 14 ∧ l.length + m ≤ 28 ∧ l ++ List.replicate m popC = F
theorem commands_c {h : AH} {sid : Nat} {L : List Int} {a : Nat} {n : Int} (hs : Src h sid L a) (hw : WF h) (hn : 0 ≤ n) (hn2 : n ≤ 13 ∨ n = 14) : CallsA Try.prog 19 [.ptr sid 0, I n] h fun v' h' => St h h' sid L (cM L a n).2 v' (cM L a n).1 30000 := by
  refine C19 (tb_ok [e20, e21, e50]) ?_
  have hb1 := nV_ge L a (show 1 ≤ n + 1 by omega)
  have hb2 := nV_lt L a (show 1 ≤ n + 1 by omega)
  simp (disch := first | (simp; done) | omega | (simp only [nx_add, nx_set, nx_kill, nx_mk, nx_emp]; omega) | fail) [g19]
  refine N_step hs (by omega) (by omega) fun h1 hs1 u1 => ?_
  have s1 : St h h1 sid L (nxA L a) .nilsl [] 60 := ⟨hs1, hs.lt, ((Gr.refl hw).upd u1), .inl ⟨rfl, rfl⟩⟩
  have hcM : ∃ K, K = (nV L a (n + 1)).toNat := ⟨_, rfl⟩
  obtain ⟨K, hK⟩ := hcM
  have hKi : nV L a (n + 1) = (K : Int) := by omega
  have hK14 : K ≤ 14 := by omega
  have hF1 : (cM L a n).1 = (lM L K [] 0 (nxA L a)).1 ++ List.replicate (lM L K [] 0 (nxA L a)).2.1 popC := by unfold cM; rw [← hK]
  have hF2 : (cM L a n).2 = (lM L K [] 0 (nxA L a)).2.2 := by unfold cM; rw [← hK]
  rw [hKi, hF1, hF2]
  clear hF1 hF2 hKi hK
  generalize nxA L a = a1 at *
  refine ⟨kI h sid L a1 K, K, ⟨[], 0, a1, .nilsl, rfl, s1.mono (by omega), by omega, by simp, by omega, rfl⟩, ?_⟩
  rintro m vs hh ⟨l, o, a', lv, rfl, st, hmK, hlm, hom, hlM⟩
  by_cases hm : 0 < m
  · have hm' : (0 : Int) < m := by omega
    obtain ⟨m, rfl⟩ : ∃ k, m = k + 1 := ⟨m - 1, by omega⟩
    simp (disch := first | (simp; done) | omega | (simp only [nx_add, nx_set, nx_kill, nx_mk, nx_emp]; omega) | fail) [g19_l8, hm']
    refine ⟨sP h sid L o a' l ((m + 1 : Nat) : Int) (60 + 2000 * (K - (m + 1))), ?_, ?_⟩
    · exact round st (by omega) (by omega)
    rintro vs h2 ⟨lv', rfl, st'⟩
    have k1 := sM_len L o a'
    have k2 := sM_o L o a'
    simp (disch := first | (simp; done) | omega | (simp only [nx_add, nx_set, nx_kill, nx_mk, nx_emp]; omega) | fail) [g19_j7]
    exact ⟨m, by omega, _, _, _, _, rfl, st'.mono (by omega), by omega, by simp; omega, by omega, by rw [← hlM]; rfl⟩
  · obtain rfl : m = 0 := by omega
    have hlM' : lM L K [] 0 a1 = (l, o, a') := hlM.symm
    simp (disch := first | (simp; done) | omega | (simp only [nx_add, nx_set, nx_kill, nx_mk, nx_emp]; omega) | fail) [g19_l8]
    simp (disch := first | (simp; done) | omega | (simp only [nx_add, nx_set, nx_kill, nx_mk, nx_emp]; omega) | fail) [g19_j13, g19_c12, hlM']
    refine ⟨qI h sid L a' (l ++ List.replicate o popC), o, ⟨l, lv, rfl, st.mono (by omega), by omega, by omega, rfl⟩, ?_⟩
    rintro m vs h2 ⟨l2, lv2, rfl, st2, hm14, hl2, hF⟩
    by_cases hm : 0 < m
    · have hm' : (0 : Int) < m := by omega
      obtain ⟨m, rfl⟩ : ∃ k, m = k + 1 := ⟨m - 1, by omega⟩
      simp (disch := first | (simp; done) | omega | (simp only [nx_add, nx_set, nx_kill, nx_mk, nx_emp]; omega) | fail) [g19_l9, hm']
      have hs2 := st2.src
      obtain ⟨lv', h'', q1, q2, q3⟩ := app_step (x := popC) (t := h2.nx) st2 ((Gr.refl st2.gr.wf).add (.cells (popC.enc.take 21 ++ [.nilsl]))) (hs2.gr (cellsAt_add_ne _ _ _ (by have := hs2.lt; omega)) (by simp)) (by omega) (by simp) (by simp) (by simp) rfl (nil_frz _ _ rfl) (by omega)
      refine wk_of q1 ⟨m, by omega, l2 ++ [popC], lv', rfl, q3.mono (by omega), by omega, by simp; omega, ?_⟩
      rw [← hF, List.append_assoc]; rfl
    · obtain rfl : m = 0 := by omega
      simp (disch := first | (simp; done) | omega | (simp only [nx_add, nx_set, nx_kill, nx_mk, nx_emp]; omega) | fail) [g19_l9]
      simp (disch := first | (simp; done) | omega | (simp only [nx_add, nx_set, nx_kill, nx_mk, nx_emp]; omega) | fail) [g19_j11, g19_c10]
      have hF' : l2 = l ++ List.replicate o popC := by rw [← hF]; simp
      rw [← hF']
      exact st2.mono (by omega)
def gS (h : AH) (sid : Nat) (L : List Int) (a : Nat) : AH := h.set sid (.cells (srcC L a))
theorem gS_get {h h' : AH} {sid : Nat} {L : List Int} {a c : Nat} {lv : AV} {l : List Cmd} (st : St h h' sid L a lv l c) : ∀ i, i < h.nx → (gS h sid L a).H.get i = h'.H.get i := by
  intro i hi
  unfold gS
  rw [get_set]
  by_cases h1 : i = sid
  · subst h1; rw [if_pos rfl]; exact (cellsAt_get st.src.c).symm
  · rw [if_neg h1]; exact (st.gr.get i h1 hi).symm
theorem gS_low {h : AH} {sid : Nat} {L : List Int} {a : Nat} (hw : WF h) (hs : sid < h.nx) : ∀ i o, (gS h sid L a).H.get i = some o → i < h.nx := by
  intro i o hi
  refine Nat.lt_of_not_le fun hle => ?_
  unfold gS at hi
  rw [get_set, if_neg (by omega), hw i hle] at hi
  cases hi
/-- the value and the heap after 'commands' -/
def cmV (h : AH) (l : List Cmd) : AV := if l = [] then .nilsl else .rsl (h.nx + 30000) 0 l.length 22
def cmH (h : AH) (sid : Nat) (L : List Int) (a : Nat) (l : List Cmd) : AH := if l = [] then ⟨(gS h sid L a).H, h.nx + 30000⟩ else settled (gS h sid L a) (h.nx + 30000) (flatC l)
/-- what a call does whose end is a list of commands and a reader that stands elsewhere -/
theorem settleC {f : Nat} {args : List AV} {h : AH} {sid : Nat} {L : List Int} {a : Nat} {l : List Cmd} (hw : WF h) (hc : CallsA Try.prog f args h fun v' h' => St h h' sid L a v' l 30000) (hs : sid < h.nx) : CallD Try.prog f args h (cmV h l) (cmH h sid L a l) := by
  unfold cmV cmH
  by_cases hl : l = []
  · rw [if_pos hl, if_pos hl]
    refine Go.Eng.settle0 hc fun v' h' st => ⟨st.gr.hi, gS_get st, gS_low hw hs, ?_⟩
    rcases st.list with ⟨h1, _⟩ | ⟨id, cs, _, h2, _⟩
    · exact h1
    · exact absurd hl h2
  · rw [if_neg hl, if_neg hl]
    refine Go.Eng.settle hc fun v' h' st => ⟨st.gr.hi, gS_get st, gS_low hw hs, ?_⟩
    rcases st.list with ⟨_, h1⟩ | ⟨id, cs, h1, h2, h3, h4, h5, h6⟩
    · exact absurd h1 hl
    · exact ⟨id, cs, h3, h5, h6, h1⟩
/-- a list of commands that stands in an object of its own, or none -/
def Lst (h : AH) (lo : Nat) (v : AV) (l : List Cmd) : Prop := (v = .nilsl ∧ l = []) ∨ ∃ id, v = .rsl id 0 l.length 22 ∧ l ≠ [] ∧ lo ≤ id ∧ id < h.nx ∧ h.cellsAt id = some (flatC l)
theorem cm_step {h : AH} {sid : Nat} {L : List Int} {a : Nat} {l : List Cmd} (hw : WF h) (hs : Src h sid L a) (a' : Nat) (ha' : a' ≤ L.length) :
    Src (cmH h sid L a' l) sid L a' ∧ WF (cmH h sid L a' l) ∧ h.nx ≤ (cmH h sid L a' l).nx ∧ (cmH h sid L a' l).nx ≤ h.nx + 30001 ∧ (∀ i, i ≠ sid → i < h.nx → (cmH h sid L a' l).H.get i = h.H.get i) ∧ Lst (cmH h sid L a' l) h.nx (cmV h l) l := by
  have hlt := hs.lt
  unfold cmH cmV
  by_cases hl : l = []
  · rw [if_pos hl, if_pos hl]
    refine ⟨⟨cellsAt_set_self _ _ _ _ rfl, ha', hs.ok, by show sid < h.nx + 30000; omega⟩, (hw.set sid hlt _).bump _ (by show h.nx ≤ _; omega), by show h.nx ≤ h.nx + 30000; omega, by show h.nx + 30000 ≤ _; omega, fun i hi _ => ?_, .inl ⟨rfl, hl⟩⟩
    show (h.set sid _).H.get i = _
    rw [get_set, if_neg hi]
  · rw [if_neg hl, if_neg hl]
    have hg : ∀ i, i ≠ h.nx + 30000 → (settled (gS h sid L a') (h.nx + 30000) (flatC l)).H.get i = (gS h sid L a').H.get i := fun i hi => by rw [get_settled, if_neg hi]
    refine ⟨⟨?_, ha', hs.ok, by show sid < h.nx + 30000 + 1; omega⟩, fun i hi => ?_, by show h.nx ≤ h.nx + 30000 + 1; omega, by show h.nx + 30000 + 1 ≤ _; omega, fun i hi hil => ?_, .inr ⟨h.nx + 30000, rfl, hl, by omega, by show h.nx + 30000 < h.nx + 30000 + 1; omega, ?_⟩⟩
    · rw [cellsAt_congr (hg sid (by omega))]; exact cellsAt_set_self _ _ _ _ rfl
    · have hi' : h.nx + 30000 + 1 ≤ i := hi
      rw [hg i (by omega)]
      exact hw.set sid hlt _ i (by show h.nx ≤ i; omega)
    · rw [hg i (by omega)]
      show (h.set sid _).H.get i = _
      rw [get_set, if_neg hi]
    · unfold AH.cellsAt
      rw [get_settled, if_pos rfl]
theorem gM_at (L : List Int) : ∀ (k : Nat) (g : List Gl) (a : Nat), a ≤ L.length → (gM L k g a).2 ≤ L.length
  | 0, g, a, h => by simpa [gM] using h
  | k + 1, g, a, h => gM_at L k _ _ (nxA_le L (nxA_le L h))
theorem wA_le (L : List Int) {a : Nat} (h : a ≤ L.length) : wA L a ≤ L.length := by
  unfold wA; split
  · exact nxA_le L h
  · exact nxA_le L (nxA_le L h)
theorem at4_le (L : List Int) {a : Nat} (h : a ≤ L.length) : at4 L a ≤ L.length := nxA_le L (nxA_le L (nxA_le L (nxA_le L h)))
theorem sM_at (L : List Int) (o a : Nat) (h : a ≤ L.length) : (sM L o a).2.2 ≤ L.length := by
  have h4 := nxA_le L (at4_le L h)
  unfold sM
  (repeat' split)
  · exact h4
  · exact nxA_le L (at4_le L h4)
  · exact h4
  · exact h4
  · exact wA_le L h4
  · exact nxA_le L (gM_at L _ _ _ (nxA_le L (nxA_le L h4)))
  · exact nxA_le L h4
theorem lM_at (L : List Int) : ∀ (k : Nat) (l : List Cmd) (o a : Nat), a ≤ L.length → (lM L k l o a).2.2 ≤ L.length
  | 0, l, o, a, h => h
  | k + 1, l, o, a, h => lM_at L k _ _ _ (sM_at L o a h)
theorem cM_at (L : List Int) (a : Nat) (n : Int) (h : a ≤ L.length) : (cM L a n).2 ≤ L.length := lM_at L _ _ _ _ (nxA_le L h)
def e19 : QE Try.prog := ⟨19, fun args h Q => ∃ sid L a n, args = [.ptr sid 0, I n] ∧ (Src h sid L a ∧ WF h ∧ 0 ≤ n ∧ n ≤ 14) ∧ Q (cmV h (cM L a n).1) (cmH h sid L (cM L a n).2 (cM L a n).1), fun args h Q ⟨sid, L, a, n, h1, ⟨h2, h3, h4, h5⟩, h6⟩ => by
  subst h1; exact ⟨_, _, settleC h3 (commands_c h2 h3 h4 (by omega)) h2.lt, h6⟩⟩
@[simp ↓] theorem e19_t (tl : List (QE Try.prog)) (f : Nat) (args : List AV) (h : AH) (Q : AV → AH → Prop) (hf : 19 ≠ f) : tb (e19 :: tl) f args h Q = tb tl f args h Q := tb_there e19 tl f args h Q hf
theorem C_step {tl : List (QE Try.prog)} {sid : Nat} {L : List Int} {a : Nat} {n : Int} {h : AH} {Q : AV → AH → Prop} (hs : Src h sid L a) (hw : WF h) (hn : 0 ≤ n) (hn2 : n ≤ 14)
    (hq : ∀ v h1, Src h1 sid L (cM L a n).2 → WF h1 → h.nx ≤ h1.nx → h1.nx ≤ h.nx + 30001 → (∀ i, i ≠ sid → i < h.nx → h1.H.get i = h.H.get i) → Lst h1 h.nx v (cM L a n).1 → Q v h1) : tb (e19 :: tl) 19 [.ptr sid 0, I n] h Q := by
  rw [tb_here e19 tl 19 _ _ _ rfl]
  obtain ⟨k1, k2, k3, k4, k5, k6⟩ := cm_step (l := (cM L a n).1) hw hs (cM L a n).2 (cM_at L a n hs.le)
  exact ⟨sid, L, a, n, rfl, ⟨hs, hw, hn, hn2⟩, hq _ _ k1 k2 k3 k4 k5 k6⟩
end Go.Proofs.Ytpnekpbehcbmkaa
noncomputable section
namespace Go.Proofs.Ytpnekpbehcbmkaa
open Go.Eng
theorem gM_len (L : List Int) : ∀ (k : Nat) (g : List Gl) (a : Nat), (gM L k g a).1.length = g.length + k
  | 0, g, a => by simp [gM]
  | k + 1, g, a => by simp [gM, gM_len L k]; omega
def GlOk (l : List Cmd) : Prop := ∀ c ∈ l, c.line.gl.length ≤ 10
theorem sM_gl (L : List Int) (o a : Nat) : GlOk (sM L o a).1 := by
  have hk : ∀ a, (nV L a 4).toNat ≤ 3 := fun a => by
    have h1 := nV_ge L a (show (1 : Int) ≤ 4 by omega)
    have h2 := nV_lt L a (show (1 : Int) ≤ 4 by omega)
    omega
  unfold sM GlOk
  (repeat' split) <;> intro c hc <;> simp at hc <;> subst hc <;> first | (show (0 : Nat) ≤ 10; omega) | skip
  show (gM L _ _ _).1.length ≤ 10
  rw [gM_len]
  have := hk (nxA L (nxA L (at4 L a)))
  simp; omega
theorem GlOk.app {a b : List Cmd} (h1 : GlOk a) (h2 : GlOk b) : GlOk (a ++ b) := fun c hc => by
  rcases List.mem_append.1 hc with h | h
  · exact h1 c h
  · exact h2 c h
theorem lM_gl (L : List Int) : ∀ (k : Nat) (l : List Cmd) (o a : Nat), GlOk l → GlOk (lM L k l o a).1
  | 0, l, o, a, h => h
  | k + 1, l, o, a, h => lM_gl L k _ _ _ (h.app (sM_gl L o a))
theorem cM_gl (L : List Int) (a : Nat) (n : Int) : GlOk (cM L a n).1 := by
  refine GlOk.app (lM_gl L _ _ _ _ fun c hc => by simp at hc) fun c hc => ?_
  rw [(List.mem_replicate.1 hc).2]
  show (0 : Nat) ≤ 10; omega
theorem cM_len (L : List Int) (a : Nat) (n : Int) (h1 : 0 ≤ n) (h2 : n ≤ 14) : (cM L a n).1.length ≤ 28 := by
  have hb1 := nV_ge L a (show 1 ≤ n + 1 by omega)
  have hb2 := nV_lt L a (show 1 ≤ n + 1 by omega)
  have := lM_bd L (nV L a (n + 1)).toNat [] 0 (nxA L a)
  unfold cM
  simp at this ⊢
  omega
theorem smL_of {l : List Cmd} (h1 : l.length ≤ 1000) (h2 : GlOk l) : SmL l := ⟨by unfold Sm; omega, fun c hc => by have := h2 c hc; unfold SmC Sm; omega⟩
theorem lite_of {l : List Cmd} (h1 : l.length ≤ 1000) (h2 : GlOk l) : Lite l := ⟨by omega, fun c hc => by have := h2 c hc; omega⟩
theorem Lst.frz {h : AH} {lo : Nat} {v : AV} {l : List Cmd} (hl : Lst h lo v l) : Frz h false v (cmds l) := by
  rcases hl with ⟨rfl, rfl⟩ | ⟨id, rfl, _, _, _, hc⟩
  · exact .nilsl
  · exact frz_rows Cmd.len (l := l) hc (fun a _ c hc => a.pls c hc h)
theorem frz_args1 {h : AH} {a c : AV} (h1 : Frz h false a c) : ∀ (i : Nat) (x y : AV), [a][i]? = some x → [c][i]? = some y → Frz h false x y := by
  intro i x y hx hy
  match i with
  | 0 => simp at hx hy; subst hx; subst hy; exact h1
  | i + 1 => simp at hx
def e13o : QE Try.prog := ⟨13, fun args h Q => ∃ v l, args = [v] ∧ Frz h false v (cmds l) ∧ SmL l ∧ Q (I (validate l)) h, fun args h Q ⟨v, l, h1, h2, h3, h4⟩ => by
  subst h1; exact ⟨_, _, Fresh.call (validate_f l h3) rfl (frz_args1 h2), h4⟩⟩
theorem e13o_h {tl : List (QE Try.prog)} {v : AV} {h : AH} {Q : AV → AH → Prop} (l : List Cmd) (h2 : Frz h false v (cmds l)) (h3 : SmL l) (h4 : Q (I (validate l)) h) : tb (e13o :: tl) 13 [v] h Q := by
  rw [tb_here e13o tl 13 _ _ _ rfl]; exact ⟨v, l, rfl, h2, h3, h4⟩
@[simp ↓] theorem e13o_t (tl : List (QE Try.prog)) (f : Nat) (args : List AV) (h : AH) (Q : AV → AH → Prop) (hf : 13 ≠ f) : tb (e13o :: tl) f args h Q = tb tl f args h Q := tb_there e13o tl f args h Q hf
def e14o : QE Try.prog := ⟨14, fun args h Q => ∃ v l, args = [v] ∧ Frz h false v (cmds l) ∧ SmL l ∧ Q (I (validate l)) h, fun args h Q ⟨v, l, h1, h2, h3, h4⟩ => by
  subst h1; exact ⟨_, _, Fresh.call (rvalidate_f l h3) rfl (frz_args1 h2), h4⟩⟩
theorem e14o_h {tl : List (QE Try.prog)} {v : AV} {h : AH} {Q : AV → AH → Prop} (l : List Cmd) (h2 : Frz h false v (cmds l)) (h3 : SmL l) (h4 : Q (I (validate l)) h) : tb (e14o :: tl) 14 [v] h Q := by
  rw [tb_here e14o tl 14 _ _ _ rfl]; exact ⟨v, l, rfl, h2, h3, h4⟩
@[simp ↓] theorem e14o_t (tl : List (QE Try.prog)) (f : Nat) (args : List AV) (h : AH) (Q : AV → AH → Prop) (hf : 14 ≠ f) : tb (e14o :: tl) f args h Q = tb tl f args h Q := tb_there e14o tl f args h Q hf
def e16o : QE Try.prog := ⟨16, fun args h Q => ∃ v l p, args = [v, .agg (Pt.enc p)] ∧ Frz h false v (cmds l) ∧ SmL l ∧ Q (I (pixel l p)) h, fun args h Q ⟨v, l, p, h1, h2, h3, h4⟩ => by
  subst h1
  exact ⟨_, _, Fresh.call (rpixel_f l p h3) rfl (frz_args2 h2 (.agg _ _ rfl fun i c d k1 k2 => by
    rw [k1] at k2; cases k2
    have := List.mem_of_getElem? k1
    simp [Pt.enc] at this
    rcases this with rfl | rfl <;> exact .int _ _)), h4⟩⟩
theorem e16o_h {tl : List (QE Try.prog)} {v : AV} {a : List AV} {h : AH} {Q : AV → AH → Prop} (l : List Cmd) (p : Pt) (ha : a = p.enc) (h2 : Frz h false v (cmds l)) (h3 : SmL l) (h4 : Q (I (pixel l p)) h) : tb (e16o :: tl) 16 [v, .agg a] h Q := by
  subst ha
  rw [tb_here e16o tl 16 _ _ _ rfl]
  exact ⟨v, l, p, rfl, h2, h3, h4⟩
@[simp ↓] theorem e16o_t (tl : List (QE Try.prog)) (f : Nat) (args : List AV) (h : AH) (Q : AV → AH → Prop) (hf : 16 ≠ f) : tb (e16o :: tl) f args h Q = tb tl f args h Q := tb_there e16o tl f args h Q hf
def e18 : QE Try.prog := ⟨18, fun args h Q => ∃ l, args = [ints l] ∧ SmX l ∧ Q (.ptr h.nx 0) (h.add (.cells (srcC (newL l) 0))), fun args h Q ⟨l, h1, h2, h3⟩ => by
  subst h1; exact ⟨_, _, new_d h2, h3⟩⟩
theorem e18_h {tl : List (QE Try.prog)} {l : List Int} {h : AH} {Q : AV → AH → Prop} (h2 : SmX l) (h3 : Q (.ptr h.nx 0) (h.add (.cells (srcC (newL l) 0)))) : tb (e18 :: tl) 18 [ints l] h Q := by
  rw [tb_here e18 tl 18 _ _ _ rfl]; exact ⟨l, rfl, h2, h3⟩
@[simp ↓] theorem e18_t (tl : List (QE Try.prog)) (f : Nat) (args : List AV) (h : AH) (Q : AV → AH → Prop) (hf : 18 ≠ f) : tb (e18 :: tl) f args h Q = tb tl f args h Q := tb_there e18 tl f args h Q hf
theorem WF.emp : WF emp := fun i _ => by simp [Go.Eng.emp, PM.get]
theorem Lst.keep {h h' : AH} {lo : Nat} {v : AV} {l : List Cmd} (hl : Lst h lo v l) (hn : h.nx ≤ h'.nx) (hg : ∀ i, lo ≤ i → i < h.nx → h'.H.get i = h.H.get i) : Lst h' lo v l := by
  rcases hl with h1 | ⟨id, h1, h2, h3, h4, h5⟩
  · exact .inl h1
  · exact .inr ⟨id, h1, h2, h3, by omega, by rw [cellsAt_congr (hg id h3 h4)]; exact h5⟩
theorem Lst.klen {h h' : AH} {lo : Nat} {v : AV} {l : List Cmd} (hl : Lst h lo v l) : kLen h' v = some (I l.length, h') := by
  rcases hl with ⟨rfl, rfl⟩ | ⟨id, rfl, _⟩ <;> simp
end Go.Proofs.Ytpnekpbehcbmkaa
noncomputable section
namespace Go.Proofs.Ytpnekpbehcbmkaa
open Go.Eng
def px0 : List (QE Try.prog) := [e18, e19, e20, e21, e13o, e14o, e15o, e16o, e17]
/-- a list of commands in an object of its own, whose empty runs of glyphs may be nil -/
def LsF (h : AH) (lo : Nat) (v : AV) (l : List Cmd) : Prop := (v = .nilsl ∧ l = []) ∨ ∃ id cs, v = .rsl id 0 l.length 22 ∧ lo ≤ id ∧ id < h.nx ∧ h.cellsAt id = some cs ∧ ∀ H, FrzL H false cs (flatC l)
theorem flatC_pl (l : List Cmd) (H : AH) : FrzL H false (flatC l) (flatC l) := by
  rw [FrzL_iff]
  refine ⟨rfl, fun i x y hx hy => ?_⟩
  rw [hx] at hy; cases hy
  unfold flatC at hx
  obtain ⟨e, he, hxe⟩ := List.mem_flatten.1 (List.mem_of_getElem? hx)
  obtain ⟨c, _, rfl⟩ := List.mem_map.1 he
  exact c.pls x hxe H
theorem Lst.lsF {h : AH} {lo : Nat} {v : AV} {l : List Cmd} (hl : Lst h lo v l) : LsF h lo v l := by
  rcases hl with h1 | ⟨id, h1, _, h3, h4, h5⟩
  · exact .inl h1
  · exact .inr ⟨id, _, h1, h3, h4, h5, flatC_pl l⟩
theorem LsF.keep {h h' : AH} {lo : Nat} {v : AV} {l : List Cmd} (hl : LsF h lo v l) (hn : h.nx ≤ h'.nx) (hg : ∀ i, lo ≤ i → i < h.nx → h'.H.get i = h.H.get i) : LsF h' lo v l := by
  rcases hl with h1 | ⟨id, cs, h1, h3, h4, h5, h6⟩
  · exact .inl h1
  · exact .inr ⟨id, cs, h1, h3, by omega, by rw [cellsAt_congr (hg id h3 h4)]; exact h5, h6⟩
theorem LsF.frz {h : AH} {lo : Nat} {v : AV} {l : List Cmd} (hl : LsF h lo v l) : Frz h false v (cmds l) := by
  rcases hl with ⟨rfl, rfl⟩ | ⟨id, cs, rfl, _, _, hc, hf⟩
  · exact .nilsl
  · have hf' := (FrzL_iff _ _ _ _).1 (hf h)
    have hlen : cs.length = l.length * 22 := by rw [hf'.1]; unfold flatC; exact flat_len Cmd.len l
    have := Frz.rsl (h := h) (n := false) id 0 22 cs (l.map Cmd.enc) hc (by simp; omega) (fun i y hy => by simp at hy; obtain ⟨a, _, rfl⟩ := hy; exact a.len) (fun i y j c d h1 h2 h3 => ?_)
    · rw [List.length_map] at this; exact this
    · simp only [List.getElem?_map, Option.map_eq_some_iff] at h1
      obtain ⟨a, ha, rfl⟩ := h1
      have hj : j < 22 := by rw [← Cmd.len a]; exact (List.getElem?_eq_some_iff.1 h2).1
      refine hf'.2 (0 + i * 22 + j) c d h3 ?_
      rw [Nat.zero_add]
      unfold flatC
      rw [flat_get Cmd.len l i j a ha hj]; exact h2
/-- a command without anything but its kind -/
def kindC (k : Int) : Cmd := ⟨k, zR, zTf, 0, [], zLn⟩
def pyM (sid : Nat) (L : List Int) (lo : Nat) (vs : List AV) (hh : AH) : Prop := ∃ (v : AV) (l : List Cmd), vs = [v] ∧ LsF hh lo v l ∧ l.length ≤ 100 ∧ GlOk l ∧ WF hh ∧ lo ≤ hh.nx
def pyI (lo : Nat) (v : AV) (l : List Cmd) (m : Nat) (vs : List AV) (hh : AH) : Prop := ∃ i : Nat, i + m = 60 ∧ vs = [v, I i] ∧ LsF hh lo v l ∧ WF hh ∧ lo ≤ hh.nx
theorem flat_take (l : List Cmd) (k : Nat) (hk : k ≤ l.length) : cut (flatC l) 0 (k * 22) = some (flatC (l.take k)) := by
  have h1 : flatC l = flatC (l.take k) ++ flatC (l.drop k) := by
    unfold flatC; rw [← List.flatten_append, ← List.map_append, List.take_append_drop]
  rw [h1]
  exact cut_zero_app (by unfold flatC; rw [flat_len Cmd.len]; simp; omega)
theorem px_tail {h : AH} {lo : Nat} {v : AV} {l : List Cmd} (hv : LsF h lo v l) (hl : l.length ≤ 100) (hg : GlOk l) (hw : WF h) (hlo : lo ≤ h.nx) : g4_j6 (tb px0) v h fun v' h' => Frz h' true v' (.bool true) := by
  have sm := smL_of (by omega) hg
  simp (disch := first | (simp; done) | omega | (simp only [nx_add, nx_set, nx_kill, nx_mk, nx_emp]; omega) | fail) [g4_j6, px0]
  refine e13o_h l hv.frz sm ?_
  simp (disch := first | (simp; done) | omega | (simp only [nx_add, nx_set, nx_kill, nx_mk, nx_emp]; omega) | fail) [g4_s5]
  refine e14o_h l hv.frz sm ?_
  simp (disch := first | (simp; done) | omega | (simp only [nx_add, nx_set, nx_kill, nx_mk, nx_emp]; omega) | fail)
  refine ⟨pyI lo v l, 60, ⟨0, rfl, rfl, hv, hw, hlo⟩, ?_⟩
  rintro m vs hh ⟨i, him, rfl, hv, hw, hlo⟩
  by_cases hi : i < 60
  · have hi' : (i : Int) < 60 := by omega
    simp (disch := first | (simp; done) | omega | (simp only [nx_add, nx_set, nx_kill, nx_mk, nx_emp]; omega) | fail) [g4_l3, hi', kArith_rem]
    have x1 := tmod_lt (x := (i : Int) * 7) (show (1 : Int) ≤ 90 by omega)
    have x2 := tmod_gt (x := (i : Int) * 7) (show (1 : Int) ≤ 90 by omega)
    have y1 := tmod_lt (x := (i : Int) * 11) (show (1 : Int) ≤ 90 by omega)
    have y2 := tmod_gt (x := (i : Int) * 11) (show (1 : Int) ≤ 90 by omega)
    generalize ((i : Int) * 7).tmod 90 = x at *
    generalize ((i : Int) * 11).tmod 90 = y at *
    simp (disch := first | (simp; done) | omega | (simp only [nx_add, nx_set, nx_kill, nx_mk, nx_emp]; omega) | fail)
    simp (disch := first | (simp; done) | omega | (simp only [nx_add, nx_set, nx_kill, nx_mk, nx_emp]; omega) | fail) [g4_s4]
    obtain ⟨h1, hh1⟩ : ∃ h1, h1 = (hh.add (.cells [I 0, I 0])).set hh.nx (.cells [I (x - 30), I (y - 30)]) := ⟨_, rfl⟩
    have n1 : h1.nx = hh.nx + 1 := by rw [hh1]; simp
    have w1 : WF h1 := by rw [hh1]; exact (hw.add _).set _ (by simp) _
    have l1 : LsF h1 lo v l := hv.keep (by omega) fun j _ hj => by rw [hh1, get_set, if_neg (by omega), get_add, if_neg (by omega)]
    have l2 : LsF ⟨h1.H, hh.nx + 1 + 7⟩ lo v l := l1.keep (by simp; omega) fun j _ _ => rfl
    have w2 : WF ⟨h1.H, hh.nx + 1 + 7⟩ := w1.bump _ (by omega)
    have hb2 : AH.cellsAt ⟨h1.H, hh.nx + 1 + 7⟩ hh.nx = some [I (x - 30), I (y - 30)] := by
      show h1.cellsAt hh.nx = _
      rw [hh1]; exact cellsAt_set_self _ _ _ _ rfl
    have hn2 : hh.nx + 1 + 7 ≤ (⟨h1.H, hh.nx + 1 + 7⟩ : AH).nx := Nat.le_refl _
    rw [show ((hh.add (.cells [AV.int IntKind.i64 0, AV.int IntKind.i64 0])).set hh.nx (.cells [AV.int IntKind.i64 (x - 30), AV.int IntKind.i64 (y - 30)])) = h1 from hh1.symm]
    clear hh1
    generalize (⟨h1.H, hh.nx + 1 + 7⟩ : AH) = h2 at *
    refine e15o_h l ⟨x - 30, y - 30⟩ rfl l2.frz sm ⟨hn2, ?_⟩
    simp (disch := first | (simp; done) | omega | (simp only [nx_add, nx_set, nx_kill, nx_mk, nx_emp]; omega) | fail) [hb2]
    refine e16o_h l ⟨x - 30, y - 30⟩ rfl l2.frz sm ⟨Nat.le_refl _, ?_⟩
    simp (disch := first | (simp; done) | omega | (simp only [nx_add, nx_set, nx_kill, nx_mk, nx_emp]; omega) | fail) [g4_s3]
    exact ⟨59 - i, by omega, i + 1, by omega, rfl, l2, w2, by omega⟩
  · have hi' : ¬ (i : Int) < 60 := by omega
    simp (disch := first | (simp; done) | omega | (simp only [nx_add, nx_set, nx_kill, nx_mk, nx_emp]; omega) | fail) [g4_l3, hi']
    simp (disch := first | (simp; done) | omega | (simp only [nx_add, nx_set, nx_kill, nx_mk, nx_emp]; omega) | fail) [g4_j5, g4_c4]
theorem pixels_f (l : List Int) (hl : SmX l) : Fresh Try.prog 4 [ints l] (.bool true) := by
  refine C4 (tb_ok px0) ?_
  simp (disch := first | (simp; done) | omega | (simp only [nx_add, nx_set, nx_kill, nx_mk, nx_emp]; omega) | fail) [g4, px0]
  refine e18_h hl ?_
  have w1 : WF (emp.add (.cells (srcC (newL l) 0))) := WF.emp.add _
  have s1 : Src (emp.add (.cells (srcC (newL l) 0))) emp.nx (newL l) 0 := ⟨cellsAt_add_self _ _ _ rfl, by omega, newL_ok l, by simp⟩
  generalize emp.add (.cells (srcC (newL l) 0)) = h1 at *
  generalize emp.nx = sid at *
  generalize newL l = L at *
  try simp (disch := first | (simp; done) | omega | (simp only [nx_add, nx_set, nx_kill, nx_mk, nx_emp]; omega) | fail)
  refine C_step s1 w1 (by omega) (by omega) fun v h2 s2 w2 n2 n2' g2 l2 => ?_
  have hlen := cM_len L 0 14 (by omega) (by omega)
  have hgl := cM_gl L 0 14
  generalize (cM L 0 14).1 = a at *
  generalize (cM L 0 14).2 = a0 at *
  have hslt := s1.lt
  refine ⟨fun vs hh => ∃ b : Bool, vs = [.ptr sid 0, v, .bool b] ∧ (b = true → 0 < a.length) ∧ Src hh sid L (nxA L a0) ∧ WF hh ∧ h1.nx ≤ hh.nx ∧ Lst hh h1.nx v a, ?_, ?_⟩
  · simp (disch := first | (simp; done) | omega | (simp only [nx_add, nx_set, nx_kill, nx_mk, nx_emp]; omega) | fail) [g4_a1]
    refine N_step s2 (by omega) (by omega) fun h3 s3 u3 => ?_
    have l3 : Lst h3 h1.nx v a := l2.keep u3.lo fun i hi hil => u3.get i (by omega) hil
    have w3 := u3.wf w2
    have u3lo := u3.lo
    have kl : ∀ h, kLen h v = some (I a.length, h) := fun h => l3.klen
    have hb : (a.length : Int) ≤ 28 := by omega
    by_cases q1 : nV L a0 5 = 0
    · simp (disch := first | (simp; done) | omega | (simp only [nx_add, nx_set, nx_kill, nx_mk, nx_emp]; omega) | fail) [g4_s1, q1, kl]
      by_cases q2 : a = []
      · exact .inl ⟨q2, s3, w3, by omega, l3⟩
      · exact .inr ⟨List.length_pos_iff.2 q2, s3, w3, by omega, l3⟩
    · simp (disch := first | (simp; done) | omega | (simp only [nx_add, nx_set, nx_kill, nx_mk, nx_emp]; omega) | fail) [g4_s1, q1, kl]
      exact ⟨s3, w3, by omega, l3⟩
  rintro vs hh ⟨b, rfl, hb, s3, w3, n3, l3⟩
  simp (disch := first | (simp; done) | omega | (simp only [nx_add, nx_set, nx_kill, nx_mk, nx_emp]; omega) | fail) [g4_j7]
  refine ⟨pyM sid L h1.nx, ?_, ?_⟩
  · cases b
    · simp (disch := first | (simp; done) | omega | (simp only [nx_add, nx_set, nx_kill, nx_mk, nx_emp]; omega) | fail) [g4_a2]
      exact ⟨v, a, rfl, l3.lsF, by omega, hgl, w3, n3⟩
    · have hpos := hb rfl
      have kl : ∀ h, kLen h v = some (I a.length, h) := fun h => l3.klen
      simp (disch := first | (simp; done) | omega | (simp only [nx_add, nx_set, nx_kill, nx_mk, nx_emp]; omega) | fail) [g4_a2, kl]
      rcases l3 with ⟨_, h0⟩ | ⟨id, rfl, hne, hid, hidl, hc⟩
      · subst h0; simp at hpos
      refine N_step (s3.gr rfl (by simp)) (by omega) (by omega) fun p hp up => ⟨up.lo, ?_⟩
      have lp : hh.nx + 12 ≤ p.nx := up.lo
      have c1 := nV_ge L (nxA L a0) (show (1 : Int) ≤ (a.length : Int) by omega)
      have c2 := nV_lt L (nxA L a0) (show (1 : Int) ≤ (a.length : Int) by omega)
      obtain ⟨k, hk⟩ : ∃ k : Nat, nV L (nxA L a0) (a.length : Int) = (k : Int) := ⟨(nV L (nxA L a0) (a.length : Int)).toNat, by omega⟩
      rw [hk] at c1 c2 ⊢
      rw [kSl_hi _ _ _ _ _ _ (by omega) (by omega)]
      simp (disch := first | (simp; done) | omega | (simp only [nx_add, nx_set, nx_kill, nx_mk, nx_emp]; omega) | fail)
      refine R_step hp (by omega) (by omega) (by omega) rfl fun q hq uq => ⟨uq.lo, ?_⟩
      have lq := uq.lo
      have idsid : id ≠ sid := by omega
      have same : ∀ j, j ≠ sid → j < hh.nx → q.H.get j = hh.H.get j := fun j h1 h2 => by
        rw [uq.get j h1 (by omega), up.get j h1 (by show j < hh.nx + 12; omega)]
      have wq : WF q := uq.wf (up.wf (w3.bump _ (by omega)))
      have hcq : q.cellsAt id = some (flatC a) := by rw [cellsAt_congr (same id idsid hidl)]; exact hc
      generalize 0 + nV L (nxA L (nxA L a0)) (7 - 0 + 1) = z at *
      simp only [g4_s2]
      refine wdp_of (v := .agg ((kindC z).enc.take 21 ++ [.nilsl])) (h' := q) rfl ?_
      refine wda_of (cs := (kindC z).enc.take 21 ++ [.nilsl]) (mk := fun r => .rsl r 0 1 22) rfl ?_
      have hcut : cut (flatC a) 0 (k * 22) = some (flatC (a.take k)) := flat_take a k (by omega)
      have hro : roomy (k + 1) 200 = true := roomy_ok _ _ (by omega) (by omega)
      have hcut2 : cut ((kindC z).enc.take 21 ++ [.nilsl]) 0 22 = some ((kindC z).enc.take 21 ++ [.nilsl]) := rfl
      have hones : ones ((kindC z).enc.take 21 ++ [.nilsl]) = true := rfl
      have htc : (q.set (hh.nx + 9) (.cells ((kindC z).enc.take 21 ++ [.nilsl]))).cellsAt (hh.nx + 9) = some ((kindC z).enc.take 21 ++ [.nilsl]) := cellsAt_set_self _ _ _ _ rfl
      have hic : (q.set (hh.nx + 9) (.cells ((kindC z).enc.take 21 ++ [.nilsl]))).cellsAt id = some (flatC a) := by rw [cellsAt_set_ne _ _ _ _ (by omega)]; exact hcq
      have wq1 : WF (q.set (hh.nx + 9) (.cells ((kindC z).enc.take 21 ++ [.nilsl]))) := wq.set _ (by omega) _
      have nq1 : (q.set (hh.nx + 9) (.cells ((kindC z).enc.take 21 ++ [.nilsl]))).nx = q.nx := by simp
      have hz := nil_frz
      generalize q.set (hh.nx + 9) (.cells ((kindC z).enc.take 21 ++ [.nilsl])) = q1 at *
      refine wde_of (v := .rsl q1.nx 0 (k + 1) 22) (h' := (q1.kill id).add (.cells (flatC (a.take k) ++ ((kindC z).enc.take 21 ++ [.nilsl])))) ?_ (by simp) ?_
      · rw [kApp_rr]
        simp only [htc, hic, hcut, Nat.one_mul, hcut2, hones, hro]
        simp
      · simp (disch := first | (simp; done) | omega | (simp only [nx_add, nx_set, nx_kill, nx_mk, nx_emp]; omega) | fail)
        have hkl : (a.take k ++ [kindC z]).length = k + 1 := by simp; omega
        refine ⟨_, a.take k ++ [kindC z], rfl, .inr ⟨q1.nx, _, by rw [hkl], by omega, by simp, by simp; rfl, fun H => ?_⟩, by omega, ?_, (wq1.kill id).add _, by simp; omega⟩
        · have h1 : flatC (a.take k ++ [kindC z]) = flatC (a.take k) ++ (kindC z).enc := by simp [flatC]
          rw [h1]
          exact (flatC_pl _ H).app (nil_frz H (kindC z) rfl)
        · exact GlOk.app (fun c hc => hgl c (List.mem_of_mem_take hc)) (fun c hc => by simp at hc; subst hc; show (0 : Nat) ≤ 10; omega)
  · rintro vs h4 ⟨v, l, rfl, k1, k2, k3, k4, k5⟩
    exact px_tail k1 k2 k3 k4 k5
end Go.Proofs.Ytpnekpbehcbmkaa
