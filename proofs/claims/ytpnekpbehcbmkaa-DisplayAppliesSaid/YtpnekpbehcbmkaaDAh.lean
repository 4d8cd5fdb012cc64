/- What the laws' maker of commands answers. Bounds of the commands that the laws make. What the law DisplayPixels computes. Reading and writing one command of a list that the law owns. What the laws' maker of a changed list answers. What the law DisplayDamages computes. A list of commands that a call owns: cloned, replaced in part. What performing splices answers. Lists and splices compared; the splice from one list to another, performed. -/
import Derived.Test.YtpnekpbehcbmkaaD8D
import Derived.Test.YtpnekpbehcbmkaaEngDD
import Derived.Test.YtpnekpbehcbmkaaD7R
set_option linter.unusedSimpArgs false
set_option linter.unusedVariables false
set_option linter.unnecessarySimpa false
noncomputable section
namespace Go.Proofs.Ytpnekpbehcbmkaa
open Go.Eng
theorem sM_len (L : List Int) (o a : Nat) : (sM L o a).1.length ≤ 1 := by
  unfold sM; (repeat' split) <;> simp
theorem sM_o (L : List Int) (o a : Nat) : (sM L o a).2.1 ≤ o + 1 := by
  unfold sM; (repeat' split) <;> simp <;> omega
theorem lM_bd (L : List Int) : ∀ (k : Nat) (l : List Cmd) (o a : Nat), (lM L k l o a).1.length ≤ l.length + k ∧ (lM L k l o a).2.1 ≤ o + k
  | 0, l, o, a => by simp [lM]
  | k + 1, l, o, a => by
    have h1 := lM_bd L k (l ++ (sM L o a).1) (sM L o a).2.1 (sM L o a).2.2
    have h2 := sM_len L o a
    have h3 := sM_o L o a
    simp at h1
    simp [lM]
    omega
def kI (h0 : AH) (sid : Nat) (L : List Int) (a K : Nat) (m : Nat) (vs : List AV) (hh : AH) : Prop :=
  ∃ (l : List Cmd) (o a' : Nat) (lv : AV), vs = [.ptr sid 0, lv, I o, I m] ∧ St h0 hh sid L a' lv l (60 + 2000 * (K - m)) ∧ m ≤ K ∧ l.length + m ≤ K ∧ o + m ≤ K ∧ lM L m l o a' = lM L K [] 0 a
def qI (h0 : AH) (sid : Nat) (L : List Int) (a' : Nat) (F : List Cmd) (m : Nat) (vs : List AV) (hh : AH) : Prop :=
  ∃ (l : List Cmd) (lv : AV), vs = [lv, I m] ∧ St h0 hh sid L a' lv l (60 + 2000 * 14 + 2 * (14 - m)) ∧ m ≤ 14 ∧ l.length + m ≤ 28 ∧ l ++ List.replicate m popC = F
theorem commands_c {h : AH} {sid : Nat} {L : List Int} {a : Nat} {n : Int} (hs : Src h sid L a) (hw : WF h) (hn : 0 ≤ n) (hn2 : n ≤ 13 ∨ n = 14) : CallsA Try.prog 19 [.ptr sid 0, I n] h fun v' h' => St h h' sid L (cM L a n).2 v' (cM L a n).1 30000 := by
  refine C19 (tb_ok [e20, e21, e50]) ?_
  have hb1 := nV_ge L a (show 1 ≤ n + 1 by omega)
  have hb2 := nV_lt L a (show 1 ≤ n + 1 by omega)
  simp (disch := first | (simp; done) | omega | (simp only [nx_add, nx_set, nx_kill, nx_mk, nx_emp]; omega) | fail) [g19]
  refine N_step hs (by omega) (by omega) fun h1 hs1 u1 => ?_
  have s1 : St h h1 sid L (nxA L a) .nilsl [] 60 := ⟨hs1, hs.lt, ((Gr.refl hw).upd u1), .inl ⟨rfl, rfl⟩⟩
  have hcM : ∃ K, K = (nV L a (n + 1)).toNat := ⟨_, rfl⟩
  obtain ⟨K, hK⟩ := hcM
  have hKi : nV L a (n + 1) = (K : Int) := by omega
  have hK14 : K ≤ 14 := by omega
  have hF1 : (cM L a n).1 = (lM L K [] 0 (nxA L a)).1 ++ List.replicate (lM L K [] 0 (nxA L a)).2.1 popC := by unfold cM; rw [← hK]
  have hF2 : (cM L a n).2 = (lM L K [] 0 (nxA L a)).2.2 := by unfold cM; rw [← hK]
  rw [hKi, hF1, hF2]
  clear hF1 hF2 hKi hK
  generalize nxA L a = a1 at *
  refine ⟨kI h sid L a1 K, K, ⟨[], 0, a1, .nilsl, rfl, s1.mono (by omega), by omega, by simp, by omega, rfl⟩, ?_⟩
  rintro m vs hh ⟨l, o, a', lv, rfl, st, hmK, hlm, hom, hlM⟩
  by_cases hm : 0 < m
  · have hm' : (0 : Int) < m := by omega
    obtain ⟨m, rfl⟩ : ∃ k, m = k + 1 := ⟨m - 1, by omega⟩
    simp (disch := first | (simp; done) | omega | (simp only [nx_add, nx_set, nx_kill, nx_mk, nx_emp]; omega) | fail) [g19_l8, hm']
    refine ⟨sP h sid L o a' l ((m + 1 : Nat) : Int) (60 + 2000 * (K - (m + 1))), ?_, ?_⟩
    · exact round st (by omega) (by omega)
    rintro vs h2 ⟨lv', rfl, st'⟩
    have k1 := sM_len L o a'
    have k2 := sM_o L o a'
    simp (disch := first | (simp; done) | omega | (simp only [nx_add, nx_set, nx_kill, nx_mk, nx_emp]; omega) | fail) [g19_j7]
    exact ⟨m, by omega, _, _, _, _, rfl, st'.mono (by omega), by omega, by simp; omega, by omega, by rw [← hlM]; rfl⟩
  · obtain rfl : m = 0 := by omega
    have hlM' : lM L K [] 0 a1 = (l, o, a') := hlM.symm
    simp (disch := first | (simp; done) | omega | (simp only [nx_add, nx_set, nx_kill, nx_mk, nx_emp]; omega) | fail) [g19_l8]
    simp (disch := first | (simp; done) | omega | (simp only [nx_add, nx_set, nx_kill, nx_mk, nx_emp]; omega) | fail) [g19_j13, g19_c12, hlM']
    refine ⟨qI h sid L a' (l ++ List.replicate o popC), o, ⟨l, lv, rfl, st.mono (by omega), by omega, by omega, rfl⟩, ?_⟩
    rintro m vs h2 ⟨l2, lv2, rfl, st2, hm14, hl2, hF⟩
    by_cases hm : 0 < m
    · have hm' : (0 : Int) < m := by omega
      obtain ⟨m, rfl⟩ : ∃ k, m = k + 1 := ⟨m - 1, by omega⟩
      simp (disch := first | (simp; done) | omega | (simp only [nx_add, nx_set, nx_kill, nx_mk, nx_emp]; omega) | fail) [g19_l9, hm']
      have hs2 := st2.src
      obtain ⟨lv', h'', q1, q2, q3⟩ := app_step (x := popC) (t := h2.nx) st2 ((Gr.refl st2.gr.wf).add (.cells (popC.enc.take 21 ++ [.nilsl]))) (hs2.gr (cellsAt_add_ne _ _ _ (by have := hs2.lt; omega)) (by simp)) (by omega) (by simp) (by simp) (by simp) rfl (nil_frz _ _ rfl) (by omega)
      refine wk_of q1 ⟨m, by omega, l2 ++ [popC], lv', rfl, q3.mono (by omega), by omega, by simp; omega, ?_⟩
      rw [← hF, List.append_assoc]; rfl
    · obtain rfl : m = 0 := by omega
      simp (disch := first | (simp; done) | omega | (simp only [nx_add, nx_set, nx_kill, nx_mk, nx_emp]; omega) | fail) [g19_l9]
      simp (disch := first | (simp; done) | omega | (simp only [nx_add, nx_set, nx_kill, nx_mk, nx_emp]; omega) | fail) [g19_j11, g19_c10]
      have hF' : l2 = l ++ List.replicate o popC := by rw [← hF]; simp
      rw [← hF']
      exact st2.mono (by omega)
def gS (h : AH) (sid : Nat) (L : List Int) (a : Nat) : AH := h.set sid (.cells (srcC L a))
theorem gS_get {h h' : AH} {sid : Nat} {L : List Int} {a c : Nat} {lv : AV} {l : List Cmd} (st : St h h' sid L a lv l c) : ∀ i, i < h.nx → (gS h sid L a).H.get i = h'.H.get i := by
  intro i hi
  unfold gS
  rw [get_set]
  by_cases h1 : i = sid
  · subst h1; rw [if_pos rfl]; exact (cellsAt_get st.src.c).symm
  · rw [if_neg h1]; exact (st.gr.get i h1 hi).symm
theorem gS_low {h : AH} {sid : Nat} {L : List Int} {a : Nat} (hw : WF h) (hs : sid < h.nx) : ∀ i o, (gS h sid L a).H.get i = some o → i < h.nx := by
  intro i o hi
  refine Nat.lt_of_not_le fun hle => ?_
  unfold gS at hi
  rw [get_set, if_neg (by omega), hw i hle] at hi
  cases hi
/-- the value and the heap after 'commands' -/
def cmV (h : AH) (l : List Cmd) : AV := if l = [] then .nilsl else .rsl (h.nx + 30000) 0 l.length 22
def cmH (h : AH) (sid : Nat) (L : List Int) (a : Nat) (l : List Cmd) : AH := if l = [] then ⟨(gS h sid L a).H, h.nx + 30000⟩ else settled (gS h sid L a) (h.nx + 30000) (flatC l)
/-- what a call does whose end is a list of commands and a reader that stands elsewhere -/
theorem settleC {f : Nat} {args : List AV} {h : AH} {sid : Nat} {L : List Int} {a : Nat} {l : List Cmd} (hw : WF h) (hc : CallsA Try.prog f args h fun v' h' => St h h' sid L a v' l 30000) (hs : sid < h.nx) : CallD Try.prog f args h (cmV h l) (cmH h sid L a l) := by
  unfold cmV cmH
  by_cases hl : l = []
  · rw [if_pos hl, if_pos hl]
    refine Go.Eng.settle0 hc fun v' h' st => ⟨st.gr.hi, gS_get st, gS_low hw hs, ?_⟩
    rcases st.list with ⟨h1, _⟩ | ⟨id, cs, _, h2, _⟩
    · exact h1
    · exact absurd hl h2
  · rw [if_neg hl, if_neg hl]
    refine Go.Eng.settle hc fun v' h' st => ⟨st.gr.hi, gS_get st, gS_low hw hs, ?_⟩
    rcases st.list with ⟨_, h1⟩ | ⟨id, cs, h1, h2, h3, h4, h5, h6⟩
    · exact absurd h1 hl
    · exact ⟨id, cs, h3, h5, h6, h1⟩
/-- a list of commands that stands in an object of its own, or none -/
def Lst (h : AH) (lo : Nat) (v : AV) (l : List Cmd) : Prop := (v = .nilsl ∧ l = []) ∨ ∃ id, v = .rsl id 0 l.length 22 ∧ l ≠ [] ∧ lo ≤ id ∧ id < h.nx ∧ h.cellsAt id = some (flatC l)
theorem cm_step {h : AH} {sid : Nat} {L : List Int} {a : Nat} {l : List Cmd} (hw : WF h) (hs : Src h sid L a) (a' : Nat) (ha' : a' ≤ L.length) :
    Src (cmH h sid L a' l) sid L a' ∧ WF (cmH h sid L a' l) ∧ h.nx ≤ (cmH h sid L a' l).nx ∧ (cmH h sid L a' l).nx ≤ h.nx + 30001 ∧ (∀ i, i ≠ sid → i < h.nx → (cmH h sid L a' l).H.get i = h.H.get i) ∧ Lst (cmH h sid L a' l) h.nx (cmV h l) l := by
  have hlt := hs.lt
  unfold cmH cmV
  by_cases hl : l = []
  · rw [if_pos hl, if_pos hl]
    refine ⟨⟨cellsAt_set_self _ _ _ _ rfl, ha', hs.ok, by show sid < h.nx + 30000; omega⟩, (hw.set sid hlt _).bump _ (by show h.nx ≤ _; omega), by show h.nx ≤ h.nx + 30000; omega, by show h.nx + 30000 ≤ _; omega, fun i hi _ => ?_, .inl ⟨rfl, hl⟩⟩
    show (h.set sid _).H.get i = _
    rw [get_set, if_neg hi]
  · rw [if_neg hl, if_neg hl]
    have hg : ∀ i, i ≠ h.nx + 30000 → (settled (gS h sid L a') (h.nx + 30000) (flatC l)).H.get i = (gS h sid L a').H.get i := fun i hi => by rw [get_settled, if_neg hi]
    refine ⟨⟨?_, ha', hs.ok, by show sid < h.nx + 30000 + 1; omega⟩, fun i hi => ?_, by show h.nx ≤ h.nx + 30000 + 1; omega, by show h.nx + 30000 + 1 ≤ _; omega, fun i hi hil => ?_, .inr ⟨h.nx + 30000, rfl, hl, by omega, by show h.nx + 30000 < h.nx + 30000 + 1; omega, ?_⟩⟩
    · rw [cellsAt_congr (hg sid (by omega))]; exact cellsAt_set_self _ _ _ _ rfl
    · have hi' : h.nx + 30000 + 1 ≤ i := hi
      rw [hg i (by omega)]
      exact hw.set sid hlt _ i (by show h.nx ≤ i; omega)
    · rw [hg i (by omega)]
      show (h.set sid _).H.get i = _
      rw [get_set, if_neg hi]
    · unfold AH.cellsAt
      rw [get_settled, if_pos rfl]
theorem gM_at (L : List Int) : ∀ (k : Nat) (g : List Gl) (a : Nat), a ≤ L.length → (gM L k g a).2 ≤ L.length
  | 0, g, a, h => by simpa [gM] using h
  | k + 1, g, a, h => gM_at L k _ _ (nxA_le L (nxA_le L h))
theorem wA_le (L : List Int) {a : Nat} (h : a ≤ L.length) : wA L a ≤ L.length := by
  unfold wA; split
  · exact nxA_le L h
  · exact nxA_le L (nxA_le L h)
theorem at4_le (L : List Int) {a : Nat} (h : a ≤ L.length) : at4 L a ≤ L.length := nxA_le L (nxA_le L (nxA_le L (nxA_le L h)))
theorem sM_at (L : List Int) (o a : Nat) (h : a ≤ L.length) : (sM L o a).2.2 ≤ L.length := by
  have h4 := nxA_le L (at4_le L h)
  unfold sM
  (repeat' split)
  · exact h4
  · exact nxA_le L (at4_le L h4)
  · exact h4
  · exact h4
  · exact wA_le L h4
  · exact nxA_le L (gM_at L _ _ _ (nxA_le L (nxA_le L h4)))
  · exact nxA_le L h4
theorem lM_at (L : List Int) : ∀ (k : Nat) (l : List Cmd) (o a : Nat), a ≤ L.length → (lM L k l o a).2.2 ≤ L.length
  | 0, l, o, a, h => h
  | k + 1, l, o, a, h => lM_at L k _ _ _ (sM_at L o a h)
theorem cM_at (L : List Int) (a : Nat) (n : Int) (h : a ≤ L.length) : (cM L a n).2 ≤ L.length := lM_at L _ _ _ _ (nxA_le L h)
def e19 : QE Try.prog := ⟨19, fun args h Q => ∃ sid L a n, args = [.ptr sid 0, I n] ∧ (Src h sid L a ∧ WF h ∧ 0 ≤ n ∧ n ≤ 14) ∧ Q (cmV h (cM L a n).1) (cmH h sid L (cM L a n).2 (cM L a n).1), fun args h Q ⟨sid, L, a, n, h1, ⟨h2, h3, h4, h5⟩, h6⟩ => by
  subst h1; exact ⟨_, _, settleC h3 (commands_c h2 h3 h4 (by omega)) h2.lt, h6⟩⟩
@[simp ↓] theorem e19_t (tl : List (QE Try.prog)) (f : Nat) (args : List AV) (h : AH) (Q : AV → AH → Prop) (hf : 19 ≠ f) : tb (e19 :: tl) f args h Q = tb tl f args h Q := tb_there e19 tl f args h Q hf
theorem C_step {tl : List (QE Try.prog)} {sid : Nat} {L : List Int} {a : Nat} {n : Int} {h : AH} {Q : AV → AH → Prop} (hs : Src h sid L a) (hw : WF h) (hn : 0 ≤ n) (hn2 : n ≤ 14)
    (hq : ∀ v h1, Src h1 sid L (cM L a n).2 → WF h1 → h.nx ≤ h1.nx → h1.nx ≤ h.nx + 30001 → (∀ i, i ≠ sid → i < h.nx → h1.H.get i = h.H.get i) → Lst h1 h.nx v (cM L a n).1 → Q v h1) : tb (e19 :: tl) 19 [.ptr sid 0, I n] h Q := by
  rw [tb_here e19 tl 19 _ _ _ rfl]
  obtain ⟨k1, k2, k3, k4, k5, k6⟩ := cm_step (l := (cM L a n).1) hw hs (cM L a n).2 (cM_at L a n hs.le)
  exact ⟨sid, L, a, n, rfl, ⟨hs, hw, hn, hn2⟩, hq _ _ k1 k2 k3 k4 k5 k6⟩
end Go.Proofs.Ytpnekpbehcbmkaa
end
noncomputable section
namespace Go.Proofs.Ytpnekpbehcbmkaa
open Go.Eng
theorem gM_len (L : List Int) : ∀ (k : Nat) (g : List Gl) (a : Nat), (gM L k g a).1.length = g.length + k
  | 0, g, a => by simp [gM]
  | k + 1, g, a => by simp [gM, gM_len L k]; omega
def GlOk (l : List Cmd) : Prop := ∀ c ∈ l, c.line.gl.length ≤ 10
theorem sM_gl (L : List Int) (o a : Nat) : GlOk (sM L o a).1 := by
  have hk : ∀ a, (nV L a 4).toNat ≤ 3 := fun a => by
    have h1 := nV_ge L a (show (1 : Int) ≤ 4 by omega)
    have h2 := nV_lt L a (show (1 : Int) ≤ 4 by omega)
    omega
  unfold sM GlOk
  (repeat' split) <;> intro c hc <;> simp at hc <;> subst hc <;> first | (show (0 : Nat) ≤ 10; omega) | skip
  show (gM L _ _ _).1.length ≤ 10
  rw [gM_len]
  have := hk (nxA L (nxA L (at4 L a)))
  simp; omega
theorem GlOk.app {a b : List Cmd} (h1 : GlOk a) (h2 : GlOk b) : GlOk (a ++ b) := fun c hc => by
  rcases List.mem_append.1 hc with h | h
  · exact h1 c h
  · exact h2 c h
theorem lM_gl (L : List Int) : ∀ (k : Nat) (l : List Cmd) (o a : Nat), GlOk l → GlOk (lM L k l o a).1
  | 0, l, o, a, h => h
  | k + 1, l, o, a, h => lM_gl L k _ _ _ (h.app (sM_gl L o a))
theorem cM_gl (L : List Int) (a : Nat) (n : Int) : GlOk (cM L a n).1 := by
  refine GlOk.app (lM_gl L _ _ _ _ fun c hc => by simp at hc) fun c hc => ?_
  rw [(List.mem_replicate.1 hc).2]
  show (0 : Nat) ≤ 10; omega
theorem cM_len (L : List Int) (a : Nat) (n : Int) (h1 : 0 ≤ n) (h2 : n ≤ 14) : (cM L a n).1.length ≤ 28 := by
  have hb1 := nV_ge L a (show 1 ≤ n + 1 by omega)
  have hb2 := nV_lt L a (show 1 ≤ n + 1 by omega)
  have := lM_bd L (nV L a (n + 1)).toNat [] 0 (nxA L a)
  unfold cM
  simp at this ⊢
  omega
theorem lite_of {l : List Cmd} (h1 : l.length ≤ 1000) (h2 : GlOk l) : Lite l := ⟨by omega, fun c hc => by have := h2 c hc; omega⟩
theorem Lst.frz {h : AH} {lo : Nat} {v : AV} {l : List Cmd} (hl : Lst h lo v l) : Frz h false v (cmds l) := by
  rcases hl with ⟨rfl, rfl⟩ | ⟨id, rfl, _, _, _, hc⟩
  · exact .nilsl
  · exact frz_rows Cmd.len (l := l) hc (fun a _ c hc => a.pls c hc h)
def e18 : QE Try.prog := ⟨18, fun args h Q => ∃ l, args = [ints l] ∧ SmX l ∧ Q (.ptr h.nx 0) (h.add (.cells (srcC (newL l) 0))), fun args h Q ⟨l, h1, h2, h3⟩ => by
  subst h1; exact ⟨_, _, new_d h2, h3⟩⟩
theorem e18_h {tl : List (QE Try.prog)} {l : List Int} {h : AH} {Q : AV → AH → Prop} (h2 : SmX l) (h3 : Q (.ptr h.nx 0) (h.add (.cells (srcC (newL l) 0)))) : tb (e18 :: tl) 18 [ints l] h Q := by
  rw [tb_here e18 tl 18 _ _ _ rfl]; exact ⟨l, rfl, h2, h3⟩
@[simp ↓] theorem e18_t (tl : List (QE Try.prog)) (f : Nat) (args : List AV) (h : AH) (Q : AV → AH → Prop) (hf : 18 ≠ f) : tb (e18 :: tl) f args h Q = tb tl f args h Q := tb_there e18 tl f args h Q hf
theorem WF.emp : WF emp := fun i _ => by simp [Go.Eng.emp, PM.get]
theorem Lst.keep {h h' : AH} {lo : Nat} {v : AV} {l : List Cmd} (hl : Lst h lo v l) (hn : h.nx ≤ h'.nx) (hg : ∀ i, lo ≤ i → i < h.nx → h'.H.get i = h.H.get i) : Lst h' lo v l := by
  rcases hl with h1 | ⟨id, h1, h2, h3, h4, h5⟩
  · exact .inl h1
  · exact .inr ⟨id, h1, h2, h3, by omega, by rw [cellsAt_congr (hg id h3 h4)]; exact h5⟩
theorem Lst.klen {h h' : AH} {lo : Nat} {v : AV} {l : List Cmd} (hl : Lst h lo v l) : kLen h' v = some (I l.length, h') := by
  rcases hl with ⟨rfl, rfl⟩ | ⟨id, rfl, _⟩ <;> simp
end Go.Proofs.Ytpnekpbehcbmkaa
end
noncomputable section
namespace Go.Proofs.Ytpnekpbehcbmkaa
open Go.Eng
/-- a list of commands in an object of its own, whose empty runs of glyphs may be nil -/
def LsF (h : AH) (lo : Nat) (v : AV) (l : List Cmd) : Prop := (v = .nilsl ∧ l = []) ∨ ∃ id cs, v = .rsl id 0 l.length 22 ∧ lo ≤ id ∧ id < h.nx ∧ h.cellsAt id = some cs ∧ ∀ H, FrzL H false cs (flatC l)
theorem flatC_pl (l : List Cmd) (H : AH) : FrzL H false (flatC l) (flatC l) := by
  rw [FrzL_iff]
  refine ⟨rfl, fun i x y hx hy => ?_⟩
  rw [hx] at hy; cases hy
  unfold flatC at hx
  obtain ⟨e, he, hxe⟩ := List.mem_flatten.1 (List.mem_of_getElem? hx)
  obtain ⟨c, _, rfl⟩ := List.mem_map.1 he
  exact c.pls x hxe H
theorem LsF.keep {h h' : AH} {lo : Nat} {v : AV} {l : List Cmd} (hl : LsF h lo v l) (hn : h.nx ≤ h'.nx) (hg : ∀ i, lo ≤ i → i < h.nx → h'.H.get i = h.H.get i) : LsF h' lo v l := by
  rcases hl with h1 | ⟨id, cs, h1, h3, h4, h5, h6⟩
  · exact .inl h1
  · exact .inr ⟨id, cs, h1, h3, by omega, by rw [cellsAt_congr (hg id h3 h4)]; exact h5, h6⟩
theorem LsF.frz {h : AH} {lo : Nat} {v : AV} {l : List Cmd} (hl : LsF h lo v l) : Frz h false v (cmds l) := by
  rcases hl with ⟨rfl, rfl⟩ | ⟨id, cs, rfl, _, _, hc, hf⟩
  · exact .nilsl
  · have hf' := (FrzL_iff _ _ _ _).1 (hf h)
    have hlen : cs.length = l.length * 22 := by rw [hf'.1]; unfold flatC; exact flat_len Cmd.len l
    have := Frz.rsl (h := h) (n := false) id 0 22 cs (l.map Cmd.enc) hc (by simp; omega) (fun i y hy => by simp at hy; obtain ⟨a, _, rfl⟩ := hy; exact a.len) (fun i y j c d h1 h2 h3 => ?_)
    · rw [List.length_map] at this; exact this
    · simp only [List.getElem?_map, Option.map_eq_some_iff] at h1
      obtain ⟨a, ha, rfl⟩ := h1
      have hj : j < 22 := by rw [← Cmd.len a]; exact (List.getElem?_eq_some_iff.1 h2).1
      refine hf'.2 (0 + i * 22 + j) c d h3 ?_
      rw [Nat.zero_add]
      unfold flatC
      rw [flat_get Cmd.len l i j a ha hj]; exact h2
theorem flat_take (l : List Cmd) (k : Nat) (hk : k ≤ l.length) : cut (flatC l) 0 (k * 22) = some (flatC (l.take k)) := by
  have h1 : flatC l = flatC (l.take k) ++ flatC (l.drop k) := by
    unfold flatC; rw [← List.flatten_append, ← List.map_append, List.take_append_drop]
  rw [h1]
  exact cut_zero_app (by unfold flatC; rw [flat_len Cmd.len]; simp; omega)
end Go.Proofs.Ytpnekpbehcbmkaa
end
noncomputable section
namespace Go.Proofs.Ytpnekpbehcbmkaa
open Go.Eng
theorem flat_at (l : List Cmd) (k j : Nat) (hk : k < l.length) (hj : j < 22) : (flatC l)[k * 22 + j]? = (l[k].enc)[j]? := by
  unfold flatC
  exact flat_get Cmd.len l k j l[k] (by simp [hk]) hj
/-- what a cell of a command holds, where it is known to be a number -/
theorem frz_int {h : AH} {n : Bool} {y : AV} {m : Int} (hf : Frz h n y (I m)) : y = I m := by
  generalize hb : AV.int IntKind.i64 m = b at hf
  cases hf <;> cases hb
  rfl
theorem LV.cell {h0 h : AH} {lv : AV} {l : List Cmd} (hl : LV h0 h lv l) (k : Nat) (hk : k < l.length) : ∃ id cs, lv = .rsl id 0 l.length 22 ∧ h0.nx ≤ id ∧ id < h.nx ∧ h.cellsAt id = some cs ∧ cs.length = l.length * 22 ∧ FrzL (rest h h0.nx id) false cs (flatC l) ∧ cs[k * 22]? = some (I l[k].kind) ∧ cs[k * 22 + 1]? = some (I l[k].r.x) := by
  rcases hl with ⟨_, rfl⟩ | ⟨id, cs, h1, _, h3, h4, h5, h6⟩
  · simp at hk
  have hf := (FrzL_iff _ _ _ _).1 h6
  have hlen : cs.length = l.length * 22 := by rw [hf.1]; unfold flatC; exact flat_len Cmd.len l
  have hlt : k * 22 + 1 < cs.length := by omega
  refine ⟨id, cs, h1, h3, h4, h5, hlen, h6, ?_, ?_⟩
  · have e1 : (flatC l)[k * 22]? = some (I l[k].kind) := flat_at l k 0 hk (by omega)
    have := frz_int (hf.2 (k * 22) cs[k * 22] _ (by simp) e1)
    rw [← this]; simp
  · have e1 : (flatC l)[k * 22 + 1]? = some (I l[k].r.x) := flat_at l k 1 hk (by omega)
    have := frz_int (hf.2 (k * 22 + 1) cs[k * 22 + 1] _ (by simp) e1)
    rw [← this]; simp
theorem flat_set : ∀ (l : List Cmd) (k : Nat) (x : Cmd), k < l.length → flatC (l.set k x) = (flatC l).take (k * 22) ++ x.enc ++ (flatC l).drop (k * 22 + 22)
  | [], k, x, h => by simp at h
  | c :: l, 0, x, h => by
    have h1 : flatC (c :: l) = c.enc ++ flatC l := by simp [flatC]
    have h2 : flatC (x :: l) = x.enc ++ flatC l := by simp [flatC]
    rw [List.set_cons_zero, h1, h2]
    simp [List.drop_append]
  | c :: l, k + 1, x, h => by
    have h1 : flatC (c :: l) = c.enc ++ flatC l := by simp [flatC]
    have h2 : flatC (c :: l.set k x) = c.enc ++ flatC (l.set k x) := by simp [flatC]
    have ih := flat_set l k x (by simpa using h)
    rw [List.set_cons_succ, h1, h2, ih, List.take_append, List.drop_append]
    have e1 : (k + 1) * 22 - c.enc.length = k * 22 := by rw [Cmd.len]; omega
    have e2 : (k + 1) * 22 + 22 - c.enc.length = k * 22 + 22 := by rw [Cmd.len]; omega
    have t1 : c.enc.take ((k + 1) * 22) = c.enc := List.take_of_length_le (by rw [Cmd.len]; omega)
    have t2 : c.enc.drop ((k + 1) * 22 + 22) = [] := List.drop_of_length_le (by rw [Cmd.len]; omega)
    rw [e1, e2, t1, t2]
    simp
theorem frzL_take {h : AH} {n : Bool} {a b : List AV} (hf : FrzL h n a b) (k : Nat) : FrzL h n (a.take k) (b.take k) := by
  rw [FrzL_iff] at hf ⊢
  refine ⟨by simp [hf.1], fun i x y hx hy => ?_⟩
  rw [List.getElem?_take] at hx hy
  split at hx
  · rename_i hi
    rw [if_pos hi] at hy
    exact hf.2 i x y hx hy
  · cases hx
theorem frzL_drop {h : AH} {n : Bool} {a b : List AV} (hf : FrzL h n a b) (k : Nat) : FrzL h n (a.drop k) (b.drop k) := by
  rw [FrzL_iff] at hf ⊢
  refine ⟨by simp [hf.1], fun i x y hx hy => ?_⟩
  rw [List.getElem?_drop] at hx hy
  exact hf.2 (k + i) x y hx hy
/-- one command is written -/
theorem LV.put {h0 h : AH} {id k : Nat} {l : List Cmd} {cs tc : List AV} {x : Cmd} (h3 : h0.nx ≤ id) (h4 : id < h.nx) (hlen : cs.length = l.length * 22) (h6 : FrzL (rest h h0.nx id) false cs (flatC l)) (hk : k < l.length) (ht : tc.length = 22) (hx : ∀ H, FrzL H false tc x.enc) :
    ∃ cs', splice cs (k * 22) tc = some cs' ∧ LV h0 (h.set id (.cells cs')) (.rsl id 0 l.length 22) (l.set k x) := by
  refine ⟨cs.take (k * 22) ++ tc ++ cs.drop (k * 22 + tc.length), by unfold splice; rw [if_pos (by omega)], .inr ⟨id, _, by simp, fun he => ?_, h3, by simp; omega, cellsAt_set_self _ _ _ _ rfl, ?_⟩⟩
  · have := congrArg List.length he
    simp at this; subst this; simp at hk
  · rw [flat_set l k x hk, ht]
    have he : ∀ (o : AObj) i cs, (rest h h0.nx id).cellsAt i = some cs → (rest (h.set id o) h0.nx id).cellsAt i = some cs := fun o i cs hi => by
      have hgi := cellsAt_get hi
      rw [get_rest] at hgi
      split at hgi
      · cases hgi
      · rw [cellsAt_rest (by omega) (by omega), cellsAt_set_ne _ _ _ _ (by omega), ← hi, cellsAt_rest (by omega) (by omega)]
    exact ((frzL_take (h6.ext (he _)) _).app (hx _)).app (frzL_drop (h6.ext (he _)) _)
end Go.Proofs.Ytpnekpbehcbmkaa
end
noncomputable section
namespace Go.Proofs.Ytpnekpbehcbmkaa
open Go.Eng
/-! A list that differs from another one in some commands. -/
def chR (L : List Int) (a : Nat) : Rect := ⟨-20 + nV L a 61, -20 + nV L (nxA L a) 61, nV L (nxA L (nxA L a)) 30, nV L (nxA L (nxA L (nxA L a))) 30⟩
/-- one round: the list, where the reader stands -/
def ch1 (L : List Int) (l : List Cmd) (a : Nat) : List Cmd × Nat :=
  match l[(nV L a l.length).toNat]? with
  | none => (l, a)
  | some c => if c.kind = 4 then (l.set (nV L a l.length).toNat (filC (chR L (nxA L a)) (nV L (at4 L (nxA L a)) 4)), nxA L (at4 L (nxA L a)))
    else if nV L (nxA L a) 3 = 0 then (l.set (nV L a l.length).toNat { c with r := { c.r with x := c.r.x + 1 } }, nxA L (nxA L a))
    else (l, nxA L (nxA L a))
def chM (L : List Int) : Nat → List Cmd → Nat → List Cmd × Nat
  | 0, l, a => (l, a)
  | k + 1, l, a => if l = [] then (l, a) else chM L k (ch1 L l a).1 (ch1 L l a).2
def Rb (n : Int) (l : List Cmd) : Prop := ∀ c ∈ l, -1000 ≤ c.r.x ∧ c.r.x ≤ n
def hI (h0 : AH) (sid : Nat) (L : List Int) (F : List Cmd × Nat) (m : Nat) (vs : List AV) (hh : AH) : Prop :=
  ∃ (l : List Cmd) (a' : Nat) (lv : AV) (c : Nat), vs = [.ptr sid 0, lv, I ((m : Int) - 1)] ∧ St h0 hh sid L a' lv l c ∧ c + 1000 * m ≤ 5000 ∧ m ≤ 3 ∧ l.length ≤ 100 ∧ Rb (1000 - m) l ∧ chM L m l a' = F
theorem LV.klen {h0 h h' : AH} {lv : AV} {l : List Cmd} (hl : LV h0 h lv l) : kLen h' lv = some (I l.length, h') := by
  rcases hl with ⟨rfl, rfl⟩ | ⟨id, cs, rfl, _⟩ <;> simp
theorem Rb.app {n : Int} {a b : List Cmd} (h1 : Rb n a) (h2 : Rb n b) : Rb n (a ++ b) := fun c hc => by
  rcases List.mem_append.1 hc with h | h
  · exact h1 c h
  · exact h2 c h
end Go.Proofs.Ytpnekpbehcbmkaa
end
noncomputable section
namespace Go.Proofs.Ytpnekpbehcbmkaa
open Go.Eng
/-! The law: the damage of the program is that of the reference. -/
theorem heavy_lite {l : List Cmd} (h : heavy l = false) : Lite l := by
  simp [heavy] at h
  exact ⟨by omega, fun c hc => by have := h.2 c hc; omega⟩
theorem Lst.lower {h : AH} {lo lo' : Nat} {v : AV} {l : List Cmd} (hl : Lst h lo v l) (hlo : lo' ≤ lo) : Lst h lo' v l := by
  rcases hl with h1 | ⟨id, h1, h2, h3, h4, h5⟩
  · exact .inl h1
  · exact .inr ⟨id, h1, h2, by omega, h4, h5⟩
end Go.Proofs.Ytpnekpbehcbmkaa
end
noncomputable section
namespace Go.Proofs.Ytpnekpbehcbmkaa
open Go.Eng Go.RowKit
/-! A list of commands that a call owns: cloned, replaced in part. -/
theorem wfrz_of {vs vs' : List AV} {h : AH} {k : List AV → AH → Prop} (hf : ∀ (i : Nat) (a b : AV), vs[i]? = some a → vs'[i]? = some b → Frz h false a b) (hk : k vs' ⟨.leaf, h.nx⟩) : wfrz vs h k := by
  have hnone : ∀ (i : Nat), PM.get (.leaf : PM AObj) i = none := fun i => by simp [PM.get]
  refine ⟨vs', fun own β w hs i a b v h1 h2 hv => VR.frz hs (n := false) (L2 := LL own β .leaf) (β2 := β) ?_ ?_ (hf i a b h1 h2) hv, hk⟩
  · rintro b ⟨id, o, base, hg, hβ⟩ hL
    obtain ⟨b', base', hβ', hn, _⟩ := hs.obj id o hg
    rw [hβ] at hβ'; cases hβ'
    rcases hL with hL | ⟨j, o2, b2, hg2, _⟩
    · exact hn hL
    · rw [hnone] at hg2; cases hg2
  · intro _ b hb hL
    rcases hL with hL | ⟨j, o2, b2, hg2, _⟩
    · exact hb (.inl hL)
    · rw [hnone] at hg2; cases hg2
def OLo (h : AH) (v : AV) (l : List Cmd) : Prop := (v = .nilsl ∧ l = []) ∨ ∃ id, v = .rsl id 0 l.length 22 ∧ id < h.nx ∧ h.cellsAt id = some (flatC l)
theorem OLo.frz {h : AH} {v : AV} {l : List Cmd} (hl : OLo h v l) : Frz h false v (cmds l) := by
  rcases hl with ⟨rfl, rfl⟩ | ⟨id, rfl, _, hc⟩
  · exact .nilsl
  · exact frz_rows Cmd.len (l := l) hc (fun a _ c hc => a.pls c hc h)
theorem OLo.klen {h h' : AH} {v : AV} {l : List Cmd} (hl : OLo h v l) : kLen h' v = some (I l.length, h') := by
  rcases hl with ⟨rfl, rfl⟩ | ⟨id, rfl, _⟩ <;> simp
theorem OLo.keep {h h' : AH} {v : AV} {l : List Cmd} (hl : OLo h v l) (hn : h.nx ≤ h'.nx) (hg : ∀ i, i < h.nx → h'.H.get i = h.H.get i) : OLo h' v l := by
  rcases hl with h1 | ⟨id, h1, h2, h3⟩
  · exact .inl h1
  · exact .inr ⟨id, h1, by omega, by rw [cellsAt_congr (hg id h2)]; exact h3⟩
def clI2 (h0 : AH) (l : List Cmd) (m : Nat) (vs : List AV) (h : AH) : Prop := ∃ (i : Nat) (v : AV), i ≤ l.length ∧ m = l.length - i ∧ vs = [v, cmds l, I l.length, I i] ∧ ((l.take i = [] ∧ v = .nilsl) ∨ ∃ id, v = .rsl id 0 (l.take i).length 22 ∧ h0.nx ≤ id ∧ id < h.nx ∧ h.cellsAt id = some (flatC (l.take i))) ∧ h0.nx ≤ h.nx ∧ h.nx ≤ h0.nx + 4 * i ∧ ∀ j, j < h0.nx → h.H.get j = h0.H.get j
theorem cloned_g (h0 : AH) (l : List Cmd) (hl : Lite l) : CallsA Try.prog 59 [cmds l] h0 fun v h => ((l = [] ∧ v = .nilsl) ∨ ∃ id, v = .rsl id 0 l.length 22 ∧ h0.nx ≤ id ∧ id < h.nx ∧ h.cellsAt id = some (flatC l)) ∧ h0.nx ≤ h.nx ∧ h.nx ≤ h0.nx + 4 * l.length ∧ ∀ j, j < h0.nx → h.H.get j = h0.H.get j := by
  refine C59 (tb_ok [e79]) ?_
  have hl1 := hl.1
  simp (disch := first | (simp; done) | omega | (simp only [nx_add, nx_set, nx_kill, nx_mk, nx_emp]; omega) | fail) [g59]
  refine ⟨clI2 h0 l, l.length, ⟨0, .nilsl, by omega, rfl, rfl, .inl ⟨by simp, rfl⟩, Nat.le_refl _, by omega, fun _ _ => rfl⟩, ?_⟩
  rintro m vs h ⟨i, v, hi, rfl, rfl, hv, hn1, hn2, hold⟩
  by_cases hlt : i < l.length
  · have hg : l[i].line.gl.length ≤ 1000 := hl.2 _ (List.getElem_mem hlt)
    have hlen : (l.take i).length = i := by simp; omega
    have hlen2 : (l.take (i + 1)).length = i + 1 := by simp; omega
    have hF2 : flatC (l.take (i + 1)) = flatC (l.take i) ++ l[i].enc := by unfold flatC; rw [take_snoc l i hlt, List.map_append, List.flatten_append]; simp only [List.map_cons, List.map_nil, List.flatten_cons, List.flatten_nil, List.append_nil]
    rcases hv with ⟨he, rfl⟩ | ⟨id, rfl, hid0, hid, hc⟩
    · have hi0 : i = 0 := by rw [he] at hlen; simpa using hlen.symm
      have hF0 : flatC (l.take i) = [] := by rw [he]; rfl
      rw [hF0, List.nil_append] at hF2
      simp (disch := first | (simp; done) | omega | (simp only [nx_add, nx_set, nx_kill, nx_mk, nx_emp]; omega) | fail) [g59_l1, hlt, hg]
      simp (disch := first | (simp; done) | omega | (simp only [nx_add, nx_set, nx_kill, nx_mk, nx_emp]; omega) | fail) [g59_s1, hlt, hg]
      refine ⟨l.length - (i + 1), by omega, i + 1, _, by omega, rfl, by simp; rfl, .inr ⟨h.nx + 1 + 1, by rw [hlen2, hi0], by omega, by simp, ?_⟩, by simp; omega, by simp; omega, fun j hj => ?_⟩
      · rw [hF2]; simp
      · simp only [get_add, get_set, get_kill, nx_add, nx_set, nx_kill]
        repeat rw [if_neg (by omega)]
        exact hold j hj
    · have q1 : ¬ id = h.nx := by omega
      have q2 : ¬ id = h.nx + 1 := by omega
      rw [hlen]
      have hcut : cut (flatC (l.take i)) 0 (i * 22) = some (flatC (l.take i)) := by
        have := cut_zero_app (α := flatC (l.take i)) (b := []) (n := i * 22) (by unfold flatC; rw [flat_len Cmd.len, hlen])
        rwa [List.append_nil] at this
      have hones : ones (flatC (l.take i)) = true := ones_flat Cmd.ones _
      generalize flatC (l.take i) = F at hc hF2 hcut hones
      simp (disch := first | (simp; done) | omega | (simp only [nx_add, nx_set, nx_kill, nx_mk, nx_emp]; omega) | fail) [g59_l1, hlt, hg, q1, q2, hc, hcut, hones]
      simp (disch := first | (simp; done) | omega | (simp only [nx_add, nx_set, nx_kill, nx_mk, nx_emp]; omega) | fail) [g59_s1, hlt, hg, q1, q2, hc, hcut, hones]
      refine ⟨l.length - (i + 1), by omega, i + 1, _, by omega, rfl, by simp; rfl, .inr ⟨h.nx + 1 + 1, by rw [hlen2], by omega, by simp, ?_⟩, by simp; omega, by simp; omega, fun j hj => ?_⟩
      · rw [hF2]; simp
      · simp only [get_add, get_set, get_kill, nx_add, nx_set, nx_kill]
        repeat rw [if_neg (by omega)]
        exact hold j hj
  · have hil : i = l.length := by omega
    subst hil
    rw [List.take_length] at hv
    simp (disch := first | (simp; done) | omega | (simp only [nx_add, nx_set, nx_kill, nx_mk, nx_emp]; omega) | fail) [g59_l1, hlt]
    simp (disch := first | (simp; done) | omega | (simp only [nx_add, nx_set, nx_kill, nx_mk, nx_emp]; omega) | fail) [g59_j3, hlt]
    simp (disch := first | (simp; done) | omega | (simp only [nx_add, nx_set, nx_kill, nx_mk, nx_emp]; omega) | fail) [g59_c2, hlt]
    exact ⟨hv, hn1, hn2, hold⟩
def clV (h : AH) (l : List Cmd) : AV := if l = [] then .nilsl else .rsl (h.nx + 4 * l.length) 0 l.length 22
def clH (h : AH) (l : List Cmd) : AH := if l = [] then ⟨h.H, h.nx + 4 * l.length⟩ else settled h (h.nx + 4 * l.length) (flatC l)
theorem cloned_d {h : AH} {l : List Cmd} (hw : WF h) (hl : Lite l) : CallD Try.prog 59 [cmds l] h (clV h l) (clH h l) := by
  unfold clV clH
  have hlow : ∀ i o, h.H.get i = some o → i < h.nx := fun i o hi => Nat.lt_of_not_le fun hle => by rw [hw i hle] at hi; cases hi
  by_cases h0 : l = []
  · rw [if_pos h0, if_pos h0]
    refine Go.Eng.settle0 (cloned_g h l hl) fun v' h' ⟨hv, hn1, hn2, hold⟩ => ⟨hn2, fun i hi => (hold i hi).symm, hlow, ?_⟩
    rcases hv with ⟨_, h1⟩ | ⟨id, rfl, _, hlt, hc⟩
    · exact h1
    · exfalso
      subst h0
      simp at hn2
      have := hn1
      omega
  · rw [if_neg h0, if_neg h0]
    refine Go.Eng.settle (cloned_g h l hl) fun v' h' ⟨hv, hn1, hn2, hold⟩ => ⟨hn2, fun i hi => (hold i hi).symm, hlow, ?_⟩
    rcases hv with ⟨h1, _⟩ | ⟨id, rfl, hid, hlt, hc⟩
    · exact absurd h1 h0
    · exact ⟨id, _, hid, hc, flatC_pl l _, rfl⟩
def e59c : QE Try.prog := ⟨59, fun args h Q => ∃ l, args = [cmds l] ∧ (Lite l ∧ WF h) ∧ Q (clV h l) (clH h l), fun args h Q ⟨l, h1, ⟨h2, h3⟩, h4⟩ => by
  subst h1; exact ⟨_, _, cloned_d h3 h2, h4⟩⟩
@[simp ↓] theorem e59c_t (tl : List (QE Try.prog)) (f : Nat) (args : List AV) (h : AH) (Q : AV → AH → Prop) (hf : 59 ≠ f) : tb (e59c :: tl) f args h Q = tb tl f args h Q := tb_there e59c tl f args h Q hf
theorem L_step {tl : List (QE Try.prog)} {l : List Cmd} {h : AH} {Q : AV → AH → Prop} (hl : Lite l) (hw : WF h)
    (hq : ∀ v h1, OLo h1 v l → (∀ id n, v = .rsl id 0 n 22 → h.nx ≤ id) → WF h1 → h.nx ≤ h1.nx → (∀ i, i < h.nx → h1.H.get i = h.H.get i) → Q v h1) : tb (e59c :: tl) 59 [cmds l] h Q := by
  rw [tb_here e59c tl 59 _ _ _ rfl]
  refine ⟨l, rfl, ⟨hl, hw⟩, ?_⟩
  unfold clV clH
  by_cases h0 : l = []
  · rw [if_pos h0, if_pos h0]
    exact hq _ _ (.inl ⟨rfl, h0⟩) (fun id n he => by cases he) (hw.bump _ (by show h.nx ≤ h.nx + 4 * l.length; omega)) (by show h.nx ≤ h.nx + 4 * l.length; omega) (fun _ _ => rfl)
  · rw [if_neg h0, if_neg h0]
    have hg : ∀ i, i ≠ h.nx + 4 * l.length → (settled h (h.nx + 4 * l.length) (flatC l)).H.get i = h.H.get i := fun i hi => by rw [get_settled, if_neg hi]
    refine hq _ _ (.inr ⟨_, rfl, by show h.nx + 4 * l.length < h.nx + 4 * l.length + 1; omega, ?_⟩) (fun id n he => by cases he; omega) (fun i hi => ?_) (by show h.nx ≤ h.nx + 4 * l.length + 1; omega) (fun i hi => hg i (by omega))
    · unfold AH.cellsAt; rw [get_settled, if_pos rfl]
    · have hi' : h.nx + 4 * l.length + 1 ≤ i := hi
      rw [hg i (by omega)]; exact hw i (by omega)
/-- slices.Replace -/
def rpV (h : AH) (v0 : AV) (n m i j : Nat) : AV := if i = j ∧ m = 0 then v0 else .rsl h.nx 0 (i + m + (n - j)) 22
def rpH (h : AH) (v0 : AV) (out L : List Cmd) (i j : Nat) : AH := if i = j ∧ L.length = 0 then h else match v0 with
  | .rsl id _ _ _ => (h.kill id).add (.cells (rX (flatC out) (flatC L) i j))
  | _ => h.add (.cells (flatC L))
structure RpP (h : AH) (v0 v3 : AV) (out L : List Cmd) (i j : Nat) : Prop where
  h0 : OLo h v0 out
  h3 : OLo h v3 L
  ne : ∀ a n b m, v0 = .rsl a 0 n 22 → v3 = .rsl b 0 m 22 → b ≠ a
  ij : i ≤ j
  jn : j ≤ out.length
  b1 : out.length ≤ 1000000
  b2 : L.length ≤ 1000000
theorem replace_d {h : AH} {v0 v3 : AV} {out L : List Cmd} {i j : Nat} (p : RpP h v0 v3 out L i j) : CallD Try.prog 60 [v0, I i, I j, v3] h (rpV h v0 out.length L.length i j) (rpH h v0 out L i j) := by
  refine ⟨⟨_, Try.func60, rfl, by decide⟩, fun own β w cargs hs hR => ?_⟩
  obtain ⟨c0, c1, c2, c3, hc⟩ : ∃ c0 c1 c2 c3, cargs = #[c0, c1, c2, c3] := by
    have h4 : cargs.toList.length = 4 := by simpa using hR.1.symm
    match hl : cargs.toList, h4 with
    | [a, b, c, d], _ => exact ⟨a, b, c, d, by apply Array.ext'; simpa using hl⟩
  subst hc
  have hv0 := hR.2 0 v0 c0 (by simp) (by simp)
  have hv1 := hR.2 1 (I i) c1 (by simp) (by simp)
  have hv2 := hR.2 2 (I j) c2 (by simp) (by simp)
  have hv3 := hR.2 3 v3 c3 (by simp) (by simp)
  cases hv1; cases hv2
  have lL : (flatC L).length = L.length * 22 := by unfold flatC; exact flat_len Cmd.len L
  have hs3 : (v3 = .nilsl ∧ L.length = 0 ∧ flatC L = []) ∨ ∃ id2, v3 = .rsl id2 0 L.length 22 ∧ h.cellsAt id2 = some (flatC L) := by
    rcases p.h3 with ⟨h1, rfl⟩ | ⟨id2, h1, _, h2⟩
    · exact .inl ⟨h1, rfl, rfl⟩
    · exact .inr ⟨id2, h1, h2⟩
  rcases p.h0 with ⟨rfl, rfl⟩ | ⟨id, rfl, _, hc0⟩
  · have hj := p.jn; have hij := p.ij
    simp at hj
    obtain rfl : j = 0 := hj
    obtain rfl : i = 0 := by omega
    cases hv0
    have key : ∀ va vc, c3 = .slice va L.length vc → Calls Try.prog 60 #[.slice none 0 0, .int .i64 0, .int .i64 0, c3] w fun e w' => ∃ cv v h' β', e = .returned cv ∧ (v = rpV h .nilsl 0 L.length 0 0 ∧ h' = rpH h .nilsl [] L 0 0) ∧ SimH own β' h'.H h'.nx w' ∧ VR w'.heap (LL own β' h'.H) β' v cv ∧ Trans own β h w β' h' w' := fun va vc hce => by
      subst hce
      refine rep_A0 ?_
      rcases Nat.eq_zero_or_pos L.length with hm | hm
      · rw [hm]
        refine (ins_A0).mono ?_
        rintro e w' ⟨rfl, rfl⟩
        have e1 : rpV h .nilsl 0 0 0 0 = .nilsl := rfl
        have e2 : rpH h .nilsl [] L 0 0 = h := by unfold rpH; rw [if_pos ⟨rfl, hm⟩]
        rw [e1, e2]
        exact ⟨⟨_, rfl⟩, _, _, _, β, rfl, ⟨rfl, rfl⟩, hs, .nilsl, .refl _ _ _ _⟩
      · have b2 := p.b2
        rcases hs3 with ⟨_, h1, _⟩ | ⟨id2, rfl, hc2⟩
        · omega
        have hcut : cut (flatC L) 0 (L.length * 22) = some (flatC L) := by
          have := cut_zero_app (α := flatC L) (b := []) (n := L.length * 22) lL
          rwa [List.append_nil] at this
        have hro : roomy L.length 200 = true := roomy_ok _ _ (by omega) (by omega)
        have hon : ones (flatC L) = true := ones_flat Cmd.ones _
        have hm0 : L.length ≠ 0 := by omega
        have happ : aapp h 22 200 .nilsl (.rsl id2 0 L.length 22) = some (.rsl h.nx 0 L.length 22, h.add (.cells (flatC L))) := by
          simp [aapp, acells, alen, hc2, hcut, hon, hro, hm0]
        have hq : zeroOf Try.prog 35 = some [.int .i64 0, .int .i64 0, .int .i64 0, .int .i64 0, .int .i64 0, .int .i64 0, .bool false, .int .i64 0, .int .i64 0, .int .i64 0, .int .i64 0, .str [], .int .i64 0, .int .i64 0, .int .i64 0, .int .i64 0, .int .i64 0, .int .i64 0, .int .i64 0, .int .i64 0, .int .i64 0, .nilsl] := by kernel_rfl
        obtain ⟨cv, w1, β1, q1, q2, q3, q4⟩ := app_run (append_ok hs Try.underlying22 hq szO35 rfl (by omega) byO35 .nilsl hv3 happ)
        refine (ins_B0 hm b2 q1).mono ?_
        rintro e w' ⟨rfl, rfl⟩
        have e1 : rpV h .nilsl 0 L.length 0 0 = .rsl h.nx 0 L.length 22 := by unfold rpV; rw [if_neg (by omega)]; simp
        have e2 : rpH h .nilsl [] L 0 0 = h.add (.cells (flatC L)) := by unfold rpH; rw [if_neg (by omega)]
        rw [e1, e2]
        exact ⟨⟨_, rfl⟩, _, _, _, _, rfl, ⟨rfl, rfl⟩, q2, q3, q4⟩
    have hc3 : ∃ va vc, c3 = .slice va L.length vc := by
      rcases hs3 with ⟨h1, h2, _⟩ | ⟨id2, h1, _⟩
      · rw [h1] at hv3; cases hv3; exact ⟨_, _, by rw [h2]⟩
      · rw [h1] at hv3
        generalize L.length = N at hv3
        cases hv3 with
        | rsl => exact ⟨_, _, rfl⟩
        | rsl0 => exact ⟨_, _, rfl⟩
    obtain ⟨va, vc, hc3⟩ := hc3
    exact key va vc hc3
  · have t : Two h (.rsl id 0 out.length 22) v3 out.length L.length (flatC out) (flatC L) id := ⟨rfl, hc0, by unfold flatC; exact flat_len Cmd.len out, ones_flat Cmd.ones _, by
      rcases hs3 with h1 | ⟨id2, h1, h2⟩
      · exact .inl h1
      · exact .inr ⟨id2, h1, p.ne _ _ _ _ rfl h1, h2, lL, ones_flat Cmd.ones _⟩, p.b1, p.b2⟩
    refine (rep_all hs t p.ij p.jn hv0 hv3).mono ?_
    rintro e w' ⟨cv, β', h1, h2, h3, h4⟩
    exact ⟨cv, _, _, β', h1, ⟨rfl, rfl⟩, h2, h3, h4⟩
def e60c : QE Try.prog := ⟨60, fun args h Q => ∃ v0 v3 out L i j, args = [v0, I (i : Nat), I (j : Nat), v3] ∧ RpP h v0 v3 out L i j ∧ Q (rpV h v0 out.length L.length i j) (rpH h v0 out L i j), fun args h Q ⟨v0, v3, out, L, i, j, h1, h2, h3⟩ => by
  subst h1; exact ⟨_, _, replace_d h2, h3⟩⟩
theorem rX_flat (out L : List Cmd) (i j : Nat) : rX (flatC out) (flatC L) i j = flatC (out.take i ++ L ++ out.drop j) := by
  have ht : ∀ (l : List Cmd) (k : Nat), (flatC l).take (k * 22) = flatC (l.take k) := fun l k => by
    induction l generalizing k with
    | nil => simp [flatC]
    | cons c l ih =>
      cases k with
      | zero => simp [flatC]
      | succ k =>
        have h1 : flatC (c :: l) = c.enc ++ flatC l := by simp [flatC]
        have h2 : flatC ((c :: l).take (k + 1)) = c.enc ++ flatC (l.take k) := by simp [flatC]
        rw [h1, h2, List.take_append, List.take_of_length_le (by rw [Cmd.len]; omega), Cmd.len, show (k + 1) * 22 - 22 = k * 22 by omega, ih]
  have hd : ∀ (l : List Cmd) (k : Nat), (flatC l).drop (k * 22) = flatC (l.drop k) := fun l k => by
    induction l generalizing k with
    | nil => simp [flatC]
    | cons c l ih =>
      cases k with
      | zero => simp [flatC]
      | succ k =>
        have h1 : flatC (c :: l) = c.enc ++ flatC l := by simp [flatC]
        rw [h1, List.drop_append, List.drop_of_length_le (by rw [Cmd.len]; omega), Cmd.len, show (k + 1) * 22 - 22 = k * 22 by omega, ih, List.nil_append]; rfl
  unfold rX
  rw [ht, hd]
  simp [flatC]
theorem P_step {tl : List (QE Try.prog)} {v0 v3 : AV} {out L : List Cmd} {i j : Nat} {h : AH} {Q : AV → AH → Prop} (p : RpP h v0 v3 out L i j) (hw : WF h)
    (hq : ∀ v h1, OLo h1 v (out.take i ++ L ++ out.drop j) → WF h1 → h.nx ≤ h1.nx → Q v h1) : tb (e60c :: tl) 60 [v0, I i, I j, v3] h Q := by
  rw [tb_here e60c tl 60 _ _ _ rfl]
  refine ⟨v0, v3, out, L, i, j, rfl, p, ?_⟩
  have hij := p.ij; have hjn := p.jn
  unfold rpV rpH
  by_cases h0 : i = j ∧ L.length = 0
  · rw [if_pos h0, if_pos h0]
    obtain ⟨rfl, hL⟩ := h0
    have hL0 : L = [] := List.length_eq_zero_iff.1 hL
    subst hL0
    refine hq _ _ ?_ hw (Nat.le_refl _)
    rw [List.append_nil, List.take_append_drop]; exact p.h0
  · rw [if_neg h0, if_neg h0]
    have hlen : (out.take i ++ L ++ out.drop j).length = i + L.length + (out.length - j) := by simp; omega
    rcases p.h0 with ⟨rfl, rfl⟩ | ⟨id, rfl, hid, hc0⟩
    · simp at hjn
      obtain rfl : j = 0 := hjn
      obtain rfl : i = 0 := by omega
      refine hq _ _ (.inr ⟨h.nx, by rw [hlen], by simp, ?_⟩) (hw.add _) (by simp)
      simp
    · refine hq _ _ (.inr ⟨h.nx, by rw [hlen], by simp, ?_⟩) ((hw.kill id).add _) (by simp)
      rw [rX_flat]
      simp
end Go.Proofs.Ytpnekpbehcbmkaa
end
noncomputable section
namespace Go.Proofs.Ytpnekpbehcbmkaa
open Go.Eng
/-! Performing splices. -/
structure Spl where
  at' : Int
  cnt : Int
  L : List Cmd
def Spl.enc (s : Spl) : List AV := [I s.at', I s.cnt, cmds s.L]
def spls (d : List Spl) : AV := .psl (d.map Spl.enc)
@[simp] theorem Spl.len (s : Spl) : s.enc.length = 3 := Eq.trans rfl rfl
@[simp] theorem Spl.ones (s : Spl) : ones s.enc = true := Eq.trans rfl rfl
@[simp high] theorem Spl.g0 (s : Spl) : s.enc[0]? = some (I s.at') := Eq.trans rfl rfl
@[simp high] theorem Spl.g1 (s : Spl) : s.enc[1]? = some (I s.cnt) := Eq.trans rfl rfl
@[simp high] theorem Spl.g2 (s : Spl) : s.enc[2]? = some (cmds s.L) := Eq.trans rfl rfl
@[simp] theorem Spl.all (s : Spl) : cut s.enc 0 3 = some s.enc := Eq.trans rfl rfl
theorem spls_cl (d : List Spl) : Closed (spls d) := .psl (by
  intro x hx c hc
  simp at hx
  obtain ⟨s, _, rfl⟩ := hx
  simp [Spl.enc] at hc
  rcases hc with rfl | rfl | rfl
  · exact .int _ _
  · exact .int _ _
  · exact cmds_cl _)
def badS (s : Spl) (out : List Cmd) : Bool := decide (s.at' < 0) || decide (s.cnt < 0) || decide ((out.length : Int) < s.at') || decide ((out.length : Int) - s.at' < s.cnt)
/-- the splices, one after the other: the error, and the list -/
def apS : List Cmd → List Spl → Int × List Cmd
  | out, [] => (0, out)
  | out, s :: r => if badS s out = true then (1, []) else if 20000 < out.length - s.cnt.toNat + s.L.length then (2, []) else apS (out.take s.at'.toNat ++ s.L ++ out.drop (s.at'.toNat + s.cnt.toNat)) r
def apR (a : List Cmd) (d : List Spl) : AV := .tup [cmds (apS a d).2, I (apS a d).1]
def sV (d : List Spl) (v : AV) : Prop := (v = .nilsl ∧ d = []) ∨ v = spls d
theorem sV.klen {d : List Spl} {v : AV} (hv : sV d v) (h : AH) : kLen h v = some (I d.length, h) := by
  rcases hv with ⟨rfl, rfl⟩ | rfl
  · simp
  · simp [spls]
theorem sV.cl {d : List Spl} {v : AV} (hv : sV d v) : Closed v := by
  rcases hv with ⟨rfl, _⟩ | rfl
  · exact .nilsl
  · exact spls_cl d
theorem sV.ix {d : List Spl} {v : AV} (hv : sV d v) {i : Nat} (hi : i < d.length) (h : AH) : kIdxA h 3 v (I i) = some (.pptr d[i].enc, h) := by
  rcases hv with ⟨_, rfl⟩ | rfl
  · simp at hi
  · exact kIdxA_psl (by simp [hi]) (Spl.len _)
def apsI (d : List Spl) (v : AV) (R : Int × List Cmd) (m : Nat) (vs : List AV) (h : AH) : Prop := ∃ (i : Nat) (out : List Cmd) (vo : AV), i ≤ d.length ∧ m = d.length - i ∧ vs = [vo, v, I d.length, I i] ∧ OLo h vo out ∧ WF h ∧ out.length ≤ 100000 ∧ apS out (d.drop i) = R
theorem apply_s (a : List Cmd) (d : List Spl) (v : AV) (hv : sV d v) (ha : Lite a) (hd : ∀ s ∈ d, Lite s.L) (hdl : SmX d) : Pure Try.prog 28 [cmds a, v] (apR a d) := by
  refine .of (by simp [cmds_cl, hv.cl]) (C28 (tb_ok [e59c, e60c]) ?_)
  simp (disch := first | (simp; done) | omega | (simp only [nx_add, nx_set, nx_kill, nx_mk, nx_emp]; omega) | fail) [g28]
  refine L_step ha WF.emp fun v1 h1 o1 f1 w1 n1 g1 => ?_
  have kl := fun h => hv.klen h
  unfold SmX at hdl
  simp (disch := first | (simp; done) | omega | (simp only [nx_add, nx_set, nx_kill, nx_mk, nx_emp]; omega) | fail) [kl]
  refine ⟨apsI d v (apS a d), d.length, ⟨0, a, v1, by omega, rfl, rfl, o1, w1, ha.1, rfl⟩, ?_⟩
  have hR : apR a d = .tup [cmds (apS a d).2, I (apS a d).1] := rfl
  rw [hR]
  generalize apS a d = R
  rintro m vs h ⟨i, out, vo, hi, rfl, rfl, ho, hw, hol, hap⟩
  by_cases hlt : i < d.length
  · have hlt' : (i : Int) < d.length := by omega
    have hix := fun h => hv.ix hlt h
    have hdr : d.drop i = d[i] :: d.drop (i + 1) := List.drop_eq_getElem_cons hlt
    have hsm := hd d[i] (List.getElem_mem hlt)
    obtain ⟨s, hs⟩ : ∃ s, s = d[i] := ⟨_, rfl⟩
    rw [hdr, ← hs] at hap
    rw [← hs] at hix hsm
    have ho' : ∀ h, kLen h vo = some (I out.length, h) := fun h => ho.klen
    simp (disch := first | (simp; done) | omega | (simp only [nx_add, nx_set, nx_kill, nx_mk, nx_emp]; omega) | fail) [g28_l3, hlt', hix]
    obtain ⟨H, hH⟩ : ∃ H, H = (h.add (.cells [AV.int .i64 0, AV.int .i64 0, AV.nilsl])).set h.nx (.cells s.enc) := ⟨_, rfl⟩
    rw [← hH]
    have hnH : H.nx = h.nx + 1 := by subst hH; simp
    have hgH : ∀ j, j < h.nx → H.H.get j = h.H.get j := fun j hj => by subst hH; rw [get_set, if_neg (by omega), get_add, if_neg (by omega)]
    have hcH : ∀ n, AH.cellsAt ⟨H.H, n⟩ h.nx = some s.enc := fun n => by
      show H.cellsAt h.nx = _
      subst hH; exact cellsAt_set_self _ _ _ _ rfl
    have hcH0 : H.cellsAt h.nx = some s.enc := hcH H.nx
    have hwH : WF H := by subst hH; exact (hw.add _).set _ (by simp) _
    have hoH : OLo H vo out := ho.keep (by omega) hgH
    clear hH
    refine ⟨fun vs h' => vs = [vo, .ptr h.nx 0, v, I d.length, I i, .bool (badS s out)] ∧ h' = H, ?_, ?_⟩
    · by_cases q1 : s.at' < 0
      · have hb : badS s out = true := by simp [badS, q1]
        simp (disch := first | (simp; done) | omega | (simp only [nx_add, nx_set, nx_kill, nx_mk, nx_emp]; omega) | fail) [g28_a1, hcH0, q1, hb]
        simp (disch := first | (simp; done) | omega | (simp only [nx_add, nx_set, nx_kill, nx_mk, nx_emp]; omega) | fail) [g28_s2, hb]
        simp (disch := first | (simp; done) | omega | (simp only [nx_add, nx_set, nx_kill, nx_mk, nx_emp]; omega) | fail) [g28_s1, hb]
      · by_cases q2 : s.cnt < 0
        · have hb : badS s out = true := by simp [badS, q2]
          simp (disch := first | (simp; done) | omega | (simp only [nx_add, nx_set, nx_kill, nx_mk, nx_emp]; omega) | fail) [g28_a1, hcH0, q1, q2, hb]
          simp (disch := first | (simp; done) | omega | (simp only [nx_add, nx_set, nx_kill, nx_mk, nx_emp]; omega) | fail) [g28_s2, hb]
          simp (disch := first | (simp; done) | omega | (simp only [nx_add, nx_set, nx_kill, nx_mk, nx_emp]; omega) | fail) [g28_s1, hb]
        · by_cases q3 : (out.length : Int) < s.at'
          · have hb : badS s out = true := by simp [badS, q3]
            simp (disch := first | (simp; done) | omega | (simp only [nx_add, nx_set, nx_kill, nx_mk, nx_emp]; omega) | fail) [g28_a1, hcH0, q1, q2, hb]
            simp (disch := first | (simp; done) | omega | (simp only [nx_add, nx_set, nx_kill, nx_mk, nx_emp]; omega) | fail) [g28_s2, hcH0, ho', q3, hb]
            simp (disch := first | (simp; done) | omega | (simp only [nx_add, nx_set, nx_kill, nx_mk, nx_emp]; omega) | fail) [g28_s1, hb]
          · by_cases q4 : (out.length : Int) - s.at' < s.cnt
            · have hb : badS s out = true := by simp [badS, q4]
              simp (disch := first | (simp; done) | omega | (simp only [nx_add, nx_set, nx_kill, nx_mk, nx_emp]; omega) | fail) [g28_a1, hcH0, q1, q2, hb]
              simp (disch := first | (simp; done) | omega | (simp only [nx_add, nx_set, nx_kill, nx_mk, nx_emp]; omega) | fail) [g28_s2, hcH0, ho', q3, hb]
              simp (disch := first | (simp; done) | omega | (simp only [nx_add, nx_set, nx_kill, nx_mk, nx_emp]; omega) | fail) [g28_s1, hcH0, ho', q4, hb]
            · have hb : badS s out = false := by simp [badS]; omega
              simp (disch := first | (simp; done) | omega | (simp only [nx_add, nx_set, nx_kill, nx_mk, nx_emp]; omega) | fail) [g28_a1, hcH0, q1, q2, hb]
              simp (disch := first | (simp; done) | omega | (simp only [nx_add, nx_set, nx_kill, nx_mk, nx_emp]; omega) | fail) [g28_s2, hcH0, ho', q3, hb]
              simp (disch := first | (simp; done) | omega | (simp only [nx_add, nx_set, nx_kill, nx_mk, nx_emp]; omega) | fail) [g28_s1, hcH0, ho', q4, hb]
    rintro vs h' ⟨rfl, rfl⟩
    unfold apS at hap
    cases hb : badS s out
    · have hbb : ¬ s.at' < 0 ∧ ¬ s.cnt < 0 ∧ ¬ (out.length : Int) < s.at' ∧ ¬ (out.length : Int) - s.at' < s.cnt := by
        simp [badS] at hb; omega
      obtain ⟨b1, b2, b3, b4⟩ := hbb
      obtain ⟨x, hx⟩ : ∃ x : Nat, s.at' = (x : Int) := ⟨s.at'.toNat, by omega⟩
      obtain ⟨y, hy⟩ : ∃ y : Nat, s.cnt = (y : Int) := ⟨s.cnt.toNat, by omega⟩
      have hkl2 : ∀ h, kLen h (cmds s.L) = some (I s.L.length, h) := fun h => by simp [cmds]
      have hsl := hsm.1
      rw [hb] at hap
      simp only [Bool.false_eq_true, if_false] at hap
      rw [hx, hy] at hap
      simp only [Int.toNat_natCast] at hap
      simp (disch := first | (simp; done) | omega | (simp only [nx_add, nx_set, nx_kill, nx_mk, nx_emp]; omega) | fail) [g28_j2, ho', hcH0, hkl2]
      have hcg0 : h'.cellsAt h.nx = some [I (x : Int), I (y : Int), cmds s.L] := by rw [hcH0, Spl.enc, hx, hy]
      have hcg : ∀ n, AH.cellsAt ⟨h'.H, n⟩ h.nx = some [I (x : Int), I (y : Int), cmds s.L] := fun n => by rw [hcH n, Spl.enc, hx, hy]
      rw [hy]
      by_cases hbig : 20000 < out.length - y + s.L.length
      · have hbig' : (20000 : Int) < (out.length : Int) - (y : Int) + s.L.length := by omega
        rw [if_pos hbig] at hap
        simp (disch := first | (simp; done) | omega | (simp only [nx_add, nx_set, nx_kill, nx_mk, nx_emp]; omega) | fail) [g28_s4, hbig']
        simp (disch := first | (simp; done) | omega | (simp only [nx_add, nx_set, nx_kill, nx_mk, nx_emp]; omega) | fail) [g28_j5, ← hap]
        exact .nilsl
      · have hbig' : ¬ (20000 : Int) < (out.length : Int) - (y : Int) + s.L.length := by omega
        rw [if_neg hbig] at hap
        simp (disch := first | (simp; done) | omega | (simp only [nx_add, nx_set, nx_kill, nx_mk, nx_emp]; omega) | fail) [g28_s4, hbig', hcg]
        simp (disch := first | (simp; done) | omega | (simp only [nx_add, nx_set, nx_kill, nx_mk, nx_emp]; omega) | fail) [g28_s3, hcg]
        refine L_step hsm (hwH.bump _ (by omega)) fun v2 h2 o2 f2 w2 n2 g2 => ⟨n2, ?_⟩
        have n2' : h'.nx + 13 ≤ h2.nx := n2
        rw [show ((x : Int) + (y : Int)) = ((x + y : Nat) : Int) by omega]
        have oo : OLo h2 vo out := hoH.keep (by omega) (fun j hj => g2 j (by show j < h'.nx + 13; omega))
        refine P_step ⟨oo, o2, fun p n q m e1 e2 => ?_, by omega, by omega, by omega, by omega⟩ w2 fun v3 h3 o3 w3 n3 => ⟨n3, recOk_rd (g2 h.nx (by show h.nx < h'.nx + 13; omega)).symm, d.length - (i + 1), by omega, i + 1, _, v3, by omega, rfl, by simp, o3, w3, by simp; omega, hap⟩
        have h5 : h'.nx + 13 ≤ q := f2 q m e2
        rcases hoH with ⟨e3, _⟩ | ⟨id, e3, hid, _⟩
        · rw [e3] at e1; cases e1
        · rw [e3] at e1; cases e1; omega
    · rw [hb] at hap
      simp only [if_true] at hap
      simp (disch := first | (simp; done) | omega | (simp only [nx_add, nx_set, nx_kill, nx_mk, nx_emp]; omega) | fail) [g28_j2]
      simp (disch := first | (simp; done) | omega | (simp only [nx_add, nx_set, nx_kill, nx_mk, nx_emp]; omega) | fail) [g28_j5, ← hap]
      exact .nilsl
  · have hil : i = d.length := by omega
    subst hil
    rw [List.drop_length] at hap
    unfold apS at hap
    have hlt' : ¬ (d.length : Int) < d.length := by omega
    simp (disch := first | (simp; done) | omega | (simp only [nx_add, nx_set, nx_kill, nx_mk, nx_emp]; omega) | fail) [g28_l3]
    simp (disch := first | (simp; done) | omega | (simp only [nx_add, nx_set, nx_kill, nx_mk, nx_emp]; omega) | fail) [g28_j5, g28_c4, ← hap]
    exact ho.frz
end Go.Proofs.Ytpnekpbehcbmkaa
end
noncomputable section
namespace Go.Proofs.Ytpnekpbehcbmkaa
open Go.Eng
/-! Lists and splices compared; the splice from one list to another, performed. -/
def saI (a b : List Cmd) (m : Nat) (vs : List AV) (h : AH) : Prop := ∃ i : Nat, ∃ (_ : a.length = b.length) (ha : i ≤ a.length), m = a.length - i ∧ vs = [cmds a, cmds b, I i] ∧ ∀ j (h : j < i), a[j]'(by omega) = b[j]'(by omega)
theorem same_c (a b : List Cmd) (hx : SmL a ∧ SmL b) : Pure Try.prog 31 [cmds a, cmds b] (.bool (eqD a b)) := by
  refine .of (by simp [cmds_cl]) (C31 (tb_ok [e12]) ?_)
  obtain ⟨ha, hb⟩ := hx
  have ha1 := ha.1; have hb1 := hb.1
  unfold Sm at ha1 hb1
  have kl : ∀ (l : List Cmd) h, kLen h (cmds l) = some (I l.length, h) := fun l h => by simp [cmds]
  by_cases hlen : a.length = b.length
  · have hlen' : (a.length : Int) = b.length := by omega
    simp (disch := first | (simp; done) | omega | (simp only [nx_add, nx_set, nx_kill, nx_mk, nx_emp]; omega) | fail) [g31, kl, hlen']
    refine ⟨saI a b, a.length, ⟨0, hlen, by omega, rfl, rfl, fun j h => by omega⟩, ?_⟩
    rintro m vs h ⟨i, _, hia, rfl, rfl, hall⟩
    by_cases hlt : i < a.length
    · have hlt' : (i : Int) < a.length := by omega
      have hltb : i < b.length := by omega
      have s1 : SmC a[i] := ha.2 _ (List.getElem_mem hlt)
      have s2 : SmC b[i] := hb.2 _ (List.getElem_mem hltb)
      have i1 : ∀ h, kIdxA h 22 (cmds a) (I i) = some (.pptr a[i].enc, h) := fun h => kIdxA_psl (by simp [hlt]) (Cmd.len _)
      have i2 : ∀ h, kIdxA h 22 (cmds b) (I i) = some (.pptr b[i].enc, h) := fun h => kIdxA_psl (by simp [hltb]) (Cmd.len _)
      simp (disch := first | (simp; done) | omega | (simp only [nx_add, nx_set, nx_kill, nx_mk, nx_emp]; omega) | fail) [g31_l1, kl, hlt', i1]
      simp (disch := first | (simp; done) | omega | (simp only [nx_add, nx_set, nx_kill, nx_mk, nx_emp]; omega) | fail) [g31_s1, i2, s1, s2]
      refine ⟨fun hne => ?_, fun he => ⟨a.length - (i + 1), by omega, i + 1, hlen, by omega, rfl, by simp, fun j hj => ?_⟩⟩
      · simp (disch := first | (simp; done) | omega | (simp only [nx_add, nx_set, nx_kill, nx_mk, nx_emp]; omega) | fail) [g31_j3]
        have hne2 : eqD a b = false := by
          rw [Bool.eq_false_iff]
          intro he
          have := eqD_iff.1 he
          subst this
          rw [eqD_iff.2 rfl] at hne; cases hne
        exact hne2
      · by_cases hji : j < i
        · exact hall j hji
        · obtain rfl : j = i := by omega
          exact eqD_iff.1 he
    · have hlt' : ¬ (i : Int) < a.length := by omega
      have hab : a = b := List.ext_getElem hlen fun j h1 h2 => hall j (by omega)
      simp (disch := first | (simp; done) | omega | (simp only [nx_add, nx_set, nx_kill, nx_mk, nx_emp]; omega) | fail) [g31_l1, kl, hlt']
      simp (disch := first | (simp; done) | omega | (simp only [nx_add, nx_set, nx_kill, nx_mk, nx_emp]; omega) | fail) [g31_j3, g31_c2]
      exact eqD_iff.2 hab
  · have hlen' : ¬ (a.length : Int) = b.length := by omega
    have hne : eqD a b = false := by
      rw [Bool.eq_false_iff]
      intro he
      exact hlen (congrArg List.length (eqD_iff.1 he))
    simp (disch := first | (simp; done) | omega | (simp only [nx_add, nx_set, nx_kill, nx_mk, nx_emp]; omega) | fail) [g31, kl, hlen']
    exact hne
def e31 : QE Try.prog := .pure 31 (fun (((a, b)) : List Cmd × List Cmd) => [cmds a, cmds b]) (fun (((a, b)) : List Cmd × List Cmd) => SmL a ∧ SmL b) (fun (((a, b)) : List Cmd × List Cmd) => .bool (eqD a b)) (fun ⟨a, b⟩ hx => same_c a b hx)
@[simp ↓] theorem e31_h (l : List (QE Try.prog)) (args : List AV) (h : AH) (Q : AV → AH → Prop) : tb (e31 :: l) 31 args h Q = e31.q args h Q := tb_here e31 l 31 args h Q rfl
@[simp ↓] theorem e31_t (l : List (QE Try.prog)) (f : Nat) (args : List AV) (h : AH) (Q : AV → AH → Prop) (hf : 31 ≠ f) : tb (e31 :: l) f args h Q = tb l f args h Q := tb_there e31 l f args h Q hf
@[simp ↓] theorem e31_q (a : List Cmd) (b : List Cmd) (h : AH) (Q : AV → AH → Prop) : e31.q [cmds a, cmds b] h Q = ((SmL a ∧ SmL b) ∧ Q (.bool (eqD a b)) h) := (QE.pure_q (x := (a, b)) (by rintro ⟨_, _⟩ h; simp at h; simp [h]) h Q)
end Go.Proofs.Ytpnekpbehcbmkaa
end
