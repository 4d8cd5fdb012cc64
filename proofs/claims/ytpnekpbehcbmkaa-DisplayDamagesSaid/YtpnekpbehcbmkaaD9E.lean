/- What the laws' maker of a changed list answers. What the law DisplayDamages computes. -/
import Derived.Test.YtpnekpbehcbmkaaD8I
import Derived.Test.YtpnekpbehcbmkaaD7W
set_option linter.unusedSimpArgs false
set_option linter.unusedVariables false
set_option linter.unnecessarySimpa false
noncomputable section
namespace Go.Proofs.Ytpnekpbehcbmkaa
open Go.Eng
/-! A list that differs from another one in some commands. -/
def chR (L : List Int) (a : Nat) : Rect := ⟨-20 + nV L a 61, -20 + nV L (nxA L a) 61, nV L (nxA L (nxA L a)) 30, nV L (nxA L (nxA L (nxA L a))) 30⟩
/-- one round: the list, where the reader stands -/
def ch1 (L : List Int) (l : List Cmd) (a : Nat) : List Cmd × Nat :=
  match l[(nV L a l.length).toNat]? with
  | none => (l, a)
  | some c => if c.kind = 4 then (l.set (nV L a l.length).toNat (filC (chR L (nxA L a)) (nV L (at4 L (nxA L a)) 4)), nxA L (at4 L (nxA L a)))
    else if nV L (nxA L a) 3 = 0 then (l.set (nV L a l.length).toNat { c with r := { c.r with x := c.r.x + 1 } }, nxA L (nxA L a))
    else (l, nxA L (nxA L a))
def chM (L : List Int) : Nat → List Cmd → Nat → List Cmd × Nat
  | 0, l, a => (l, a)
  | k + 1, l, a => if l = [] then (l, a) else chM L k (ch1 L l a).1 (ch1 L l a).2
/-- the whole: N(3)+1 rounds -/
def chF (L : List Int) (l : List Cmd) (a : Nat) : List Cmd × Nat := chM L ((nV L a 3).toNat + 1) l (nxA L a)
theorem ch1_len (L : List Int) (l : List Cmd) (a : Nat) : (ch1 L l a).1.length = l.length := by
  unfold ch1; (repeat' split) <;> simp
theorem chM_len (L : List Int) : ∀ (k : Nat) (l : List Cmd) (a : Nat), (chM L k l a).1.length = l.length
  | 0, l, a => rfl
  | k + 1, l, a => by unfold chM; split; rfl; rw [chM_len L k, ch1_len]
def Rb (n : Int) (l : List Cmd) : Prop := ∀ c ∈ l, -1000 ≤ c.r.x ∧ c.r.x ≤ n
theorem ch1_rb (L : List Int) (l : List Cmd) (a : Nat) {n : Int} (hn : 100 ≤ n) (hr : Rb n l) : Rb (n + 1) (ch1 L l a).1 := by
  have b1 := nV_ge L (nxA L a) (show (1 : Int) ≤ 61 by omega)
  have b2 := nV_lt L (nxA L a) (show (1 : Int) ≤ 61 by omega)
  intro c hc
  have old : ∀ c ∈ l, -1000 ≤ c.r.x ∧ c.r.x ≤ n + 1 := fun c hc => by have := hr c hc; omega
  unfold ch1 at hc
  split at hc
  · exact old c hc
  · rename_i c0 h0
    have hc0 := hr c0 (List.mem_of_getElem? h0)
    split at hc
    · rcases List.mem_or_eq_of_mem_set hc with h | rfl
      · exact old c h
      · show -1000 ≤ -20 + nV L (nxA L a) 61 ∧ -20 + nV L (nxA L a) 61 ≤ n + 1
        omega
    · split at hc
      · rcases List.mem_or_eq_of_mem_set hc with h | rfl
        · exact old c h
        · show -1000 ≤ c0.r.x + 1 ∧ c0.r.x + 1 ≤ n + 1
          omega
      · exact old c hc
def hI (h0 : AH) (sid : Nat) (L : List Int) (F : List Cmd × Nat) (m : Nat) (vs : List AV) (hh : AH) : Prop :=
  ∃ (l : List Cmd) (a' : Nat) (lv : AV) (c : Nat), vs = [.ptr sid 0, lv, I ((m : Int) - 1)] ∧ St h0 hh sid L a' lv l c ∧ c + 1000 * m ≤ 5000 ∧ m ≤ 3 ∧ l.length ≤ 100 ∧ Rb (1000 - m) l ∧ chM L m l a' = F
theorem LV.klen {h0 h h' : AH} {lv : AV} {l : List Cmd} (hl : LV h0 h lv l) : kLen h' lv = some (I l.length, h') := by
  rcases hl with ⟨rfl, rfl⟩ | ⟨id, cs, rfl, _⟩ <;> simp
theorem changed_c {h : AH} {sid : Nat} {L : List Int} {a : Nat} {v1 : AV} {l : List Cmd} (hs : Src h sid L a) (hw : WF h) (hl : Lst h 0 v1 l) (hsid : ∀ id, v1 = .rsl id 0 l.length 22 → id ≠ sid) (hn : l.length ≤ 100) (hr : Rb 900 l) : CallsA Try.prog 22 [.ptr sid 0, v1] h fun v' h' => St h h' sid L (chF L l a).2 v' (chF L l a).1 30000 := by
  refine C22 (tb_ok [e20, e21, e26]) ?_
  have hb1 := nV_ge L a (show (1 : Int) ≤ 3 by omega)
  have hb2 := nV_lt L a (show (1 : Int) ≤ 3 by omega)
  simp (disch := first | (simp; done) | omega | (simp only [nx_add, nx_set, nx_kill, nx_mk, nx_emp]; omega) | fail) [g22]
  have hst : ∃ lv1 h1, kApp h 22 200 .nilsl v1 = some (lv1, h1) ∧ St h h1 sid L a lv1 l 1 := by
    rcases hl with ⟨rfl, rfl⟩ | ⟨id, rfl, hne, _, hidl, hc⟩
    · exact ⟨_, _, kApp_nn _ _ _, hs, hs.lt, ⟨by omega, by omega, fun _ _ _ => rfl, hw⟩, .inl ⟨rfl, rfl⟩⟩
    · have hpos : l.length ≠ 0 := fun h => hne (List.length_eq_zero_iff.1 h)
      have hcut : cut (flatC l) 0 (l.length * 22) = some (flatC l) := by
        have := flat_take l l.length (Nat.le_refl _)
        rwa [List.take_length] at this
      have hro : roomy l.length 200 = true := roomy_ok _ _ (by omega) (by omega)
      have hon : ones (flatC l) = true := ones_flat Cmd.ones l
      refine ⟨.rsl h.nx 0 l.length 22, h.add (.cells (flatC l)), ?_, hs.gr (cellsAt_add_ne _ _ _ (by have := hs.lt; omega)) (by simp), hs.lt, (Gr.refl hw).add _, .inr ⟨h.nx, flatC l, rfl, hne, by omega, by simp, by simp, flatC_pl l _⟩⟩
      rw [kApp_nr _ _ _ _ _ _ hpos]
      simp [hc, hcut, hro, hon]
  obtain ⟨lv1, h1, q1, st1⟩ := hst
  refine wk_of q1 ?_
  refine N_step st1.src (by omega) (by omega) fun h2 hs2 u2 => ?_
  have st2 := st1.go ((Gr.refl st1.gr.wf).upd u2) hs2
  obtain ⟨m, hm⟩ : ∃ m : Nat, nV L a 3 = (m : Int) := ⟨(nV L a 3).toNat, by omega⟩
  have hF : chF L l a = chM L (m + 1) l (nxA L a) := by unfold chF; rw [show (nV L a 3).toNat = m by omega]
  rw [hF, hm]
  obtain ⟨F, hFe⟩ : ∃ F, F = chM L (m + 1) l (nxA L a) := ⟨_, rfl⟩
  rw [← hFe]
  refine ⟨hI h sid L F, m + 1, ⟨l, nxA L a, lv1, 61, by simp, st2.mono (by omega), by omega, by omega, by omega, fun c hc => by have := hr c hc; omega, hFe.symm⟩, ?_⟩
  rintro m vs hh ⟨l, a', lv, c, rfl, st, hcm, hm3, hl100, hrb, hch⟩
  have kl : ∀ h', kLen h' lv = some (I l.length, h') := fun h' => st.list.klen
  simp (disch := first | (simp; done) | omega | (simp only [nx_add, nx_set, nx_kill, nx_mk, nx_emp]; omega) | fail) [g22_l5]
  refine ⟨fun vs h' => vs = [.ptr sid 0, lv, I ((m : Int) - 1), .bool (decide (0 < m ∧ 0 < l.length))] ∧ h' = hh, ?_, ?_⟩
  · by_cases h0 : 0 < m
    · have h0' : (0 : Int) ≤ (m : Int) - 1 := by omega
      simp (disch := first | (simp; done) | omega | (simp only [nx_add, nx_set, nx_kill, nx_mk, nx_emp]; omega) | fail) [g22_a1, h0, h0', kl]
      omega
    · have h0' : ¬ (0 : Int) ≤ (m : Int) - 1 := by omega
      simp (disch := first | (simp; done) | omega | (simp only [nx_add, nx_set, nx_kill, nx_mk, nx_emp]; omega) | fail) [g22_a1, h0, h0', kl]
      omega
  rintro vs h' ⟨rfl, rfl⟩
  by_cases hgo : 0 < m ∧ 0 < l.length
  · simp (disch := first | (simp; done) | omega | (simp only [nx_add, nx_set, nx_kill, nx_mk, nx_emp]; omega) | fail) [g22_j4, hgo]
    refine ⟨fun vs h2 => ∃ lv2, vs = [.ptr sid 0, lv2, I ((m : Int) - 1)] ∧ St h h2 sid L (ch1 L l a').2 lv2 (ch1 L l a').1 (c + 1000), ?_, ?_⟩
    · have c1 := nV_ge L a' (show (1 : Int) ≤ (l.length : Int) by omega)
      have c2 := nV_lt L a' (show (1 : Int) ≤ (l.length : Int) by omega)
      obtain ⟨k, hk⟩ : ∃ k : Nat, nV L a' (l.length : Int) = (k : Int) := ⟨(nV L a' (l.length : Int)).toNat, by omega⟩
      have hkl : k < l.length := by omega
      simp (disch := first | (simp; done) | omega | (simp only [nx_add, nx_set, nx_kill, nx_mk, nx_emp]; omega) | fail) [g22_a2, kl]
      refine N_step st.src (by omega) (by omega) fun h3 hs3 u3 => ?_
      have g3 := (Gr.refl st.gr.wf).upd u3
      have st3 := st.go g3 hs3
      rw [hk]
      obtain ⟨id, cs, rfl, i1, i2, i3, i4, i5, i6, i7⟩ := st3.list.cell k hkl
      rw [kIdxA_rsl (i := (k : Int)) (by omega) (by omega)]
      simp (disch := first | (simp; done) | omega | (simp only [nx_add, nx_set, nx_kill, nx_mk, nx_emp]; omega) | fail) [i3, i6]
      have hk0 : cs[k * 22]'(by omega) = I l[k].kind := by
        rw [List.getElem?_eq_getElem (by omega)] at i6; exact Option.some.inj i6
      rw [hk0]
      have hget : l[(nV L a' (l.length : Int)).toNat]? = some l[k] := by rw [hk]; simp [hkl]
      by_cases q4 : l[k].kind = 4
      · simp (disch := first | (simp; done) | omega | (simp only [nx_add, nx_set, nx_kill, nx_mk, nx_emp]; omega) | fail) [q4]
        refine R_step st3.src (by omega) (by omega) (by omega) rfl fun h4 hs4 u4 => ?_
        simp (disch := first | (simp; done) | omega | (simp only [nx_add, nx_set, nx_kill, nx_mk, nx_emp]; omega) | fail) [g22_s5]
        refine R_step hs4 (by omega) (by omega) (by omega) rfl fun h5 hs5 u5 => ?_
        simp (disch := first | (simp; done) | omega | (simp only [nx_add, nx_set, nx_kill, nx_mk, nx_emp]; omega) | fail) [g22_s4]
        refine N_step hs5 (by omega) (by omega) fun h6 hs6 u6 => ?_
        simp (disch := first | (simp; done) | omega | (simp only [nx_add, nx_set, nx_kill, nx_mk, nx_emp]; omega) | fail) [g22_s3]
        refine N_step hs6 (by omega) (by omega) fun h7 hs7 u7 => ?_
        simp (disch := first | (simp; done) | omega | (simp only [nx_add, nx_set, nx_kill, nx_mk, nx_emp]; omega) | fail) [g22_s2]
        refine N_step hs7 (by omega) (by omega) fun h8 hs8 u8 => ?_
        have st8 := st3.go ((((((Gr.refl st3.gr.wf).upd u4).upd u5).upd u6).upd u7).upd u8) hs8
        have hix : ∀ h : AH, kIdxA h 22 (.rsl id 0 l.length 22) (I k) = some (.ptr id (k * 22), h) := fun h => by
          rw [kIdxA_rsl (i := (k : Int)) (by omega) (by omega)]; simp
        obtain ⟨id', cs8, e0, j1, j2, j3, j4, j5, j6, j7⟩ := st8.list.cell k hkl
        obtain rfl : id = id' := by cases e0; rfl
        have hc1 : ch1 L l a' = (l.set k (filC (chR L (nxA L a')) (nV L (at4 L (nxA L a')) 4)), nxA L (at4 L (nxA L a'))) := by
          unfold ch1; rw [hget]; simp [q4, hk]
        obtain ⟨cs', sp, lv'⟩ := LV.put (x := filC (chR L (nxA L a')) (nV L (at4 L (nxA L a')) 4)) (tc := (filC (chR L (nxA L a')) (nV L (at4 L (nxA L a')) 4)).enc) j1 j2 j4 j5 hkl (by simp) (fun H => by
          rw [FrzL_iff]
          refine ⟨rfl, fun i x y hx hy => ?_⟩
          rw [hx] at hy; cases hy
          exact Cmd.pls _ x (List.mem_of_getElem? hx) H)
        have hfe : (fillC (-20 + nV L (nxA L a') 61) (-20 + nV L (nxA L (nxA L a')) 61) (nV L (nxA L (nxA L (nxA L a'))) 30) (nV L (nxA L (nxA L (nxA L (nxA L a')))) 30) (nV L (nxA L (nxA L (nxA L (nxA L (nxA L a'))))) 4)) = filC (chR L (nxA L a')) (nV L (at4 L (nxA L a')) 4) := rfl
        simp (disch := first | (simp; done) | omega | (simp only [nx_add, nx_set, nx_kill, nx_mk, nx_emp]; omega) | fail) [g22_s1, hix, hfe, j3, sp]
        rw [hc1]
        have hsl := st.slt
        exact (St.mk (hs8.gr (cellsAt_set_ne _ _ _ _ (by omega)) (by simp)) hsl (st8.gr.set _ j1 j2) lv').mono (by omega)
      · simp (disch := first | (simp; done) | omega | (simp only [nx_add, nx_set, nx_kill, nx_mk, nx_emp]; omega) | fail) [q4]
        refine N_step st3.src (by omega) (by omega) fun h4 hs4 u4 => ?_
        have st4 := st3.go ((Gr.refl st3.gr.wf).upd u4) hs4
        by_cases q5 : nV L (nxA L a') 3 = 0
        · simp (disch := first | (simp; done) | omega | (simp only [nx_add, nx_set, nx_kill, nx_mk, nx_emp]; omega) | fail) [q5]
          have hix : ∀ h : AH, kIdxA h 22 (.rsl id 0 l.length 22) (I k) = some (.ptr id (k * 22), h) := fun h => by
            rw [kIdxA_rsl (i := (k : Int)) (by omega) (by omega)]; simp
          obtain ⟨id', cs4, e0, j1, j2, j3, j4, j5, j6, j7⟩ := st4.list.cell k hkl
          obtain rfl : id = id' := by cases e0; rfl
          have hxb := hrb l[k] (List.getElem_mem hkl)
          have hk1 : cs4[k * 22 + 1]'(by omega) = I l[k].r.x := by
            rw [List.getElem?_eq_getElem (by omega)] at j7; exact Option.some.inj j7
          simp (disch := first | (simp; done) | omega | (simp only [nx_add, nx_set, nx_kill, nx_mk, nx_emp]; omega) | fail) [g22_s7, hix, j3, j7]
          rw [hk1]
          have hc1 : ch1 L l a' = (l.set k (upX l[k] (l[k].r.x + 1)), nxA L (nxA L a')) := by
            unfold ch1; rw [hget]; simp [q4, q5, hk, upX]
          obtain ⟨cs', sp, lv'⟩ := LV.put1 (l[k].r.x + 1) j1 j2 j4 j5 hkl
          simp (disch := first | (simp; done) | omega | (simp only [nx_add, nx_set, nx_kill, nx_mk, nx_emp]; omega) | fail) [g22_s6, j3, sp]
          rw [hc1]
          have hsl := st.slt
          exact (St.mk (hs4.gr (cellsAt_set_ne _ _ _ _ (by omega)) (by simp)) hsl (st4.gr.set _ j1 j2) lv').mono (by omega)
        · have hc1 : ch1 L l a' = (l, nxA L (nxA L a')) := by unfold ch1; rw [hget]; simp [q4, q5]
          simp (disch := first | (simp; done) | omega | (simp only [nx_add, nx_set, nx_kill, nx_mk, nx_emp]; omega) | fail) [q5]
          rw [hc1]
          exact st4.mono (by omega)
    rintro vs h2 ⟨lv2, rfl, st2⟩
    simp (disch := first | (simp; done) | omega | (simp only [nx_add, nx_set, nx_kill, nx_mk, nx_emp]; omega) | fail) [g22_j3]
    obtain ⟨m, rfl⟩ : ∃ k, m = k + 1 := ⟨m - 1, by omega⟩
    have hne : l ≠ [] := fun he => by rw [he] at hgo; simp at hgo
    refine ⟨m, by omega, (ch1 L l a').1, (ch1 L l a').2, lv2, c + 1000, ?_, st2, by omega, by omega, by rw [ch1_len]; exact hl100, ?_, ?_⟩
    · rw [show (((m + 1 : Nat) : Int) - 1 - 1) = (m : Int) - 1 by omega]
    · have := ch1_rb L l a' (n := 1000 - ((m + 1 : Nat) : Int)) (by omega) hrb
      intro c hc; have := this c hc; omega
    · rw [← hch]; show _ = chM L (m + 1) l a'; conv => rhs; unfold chM
      rw [if_neg hne]
  · simp (disch := first | (simp; done) | omega | (simp only [nx_add, nx_set, nx_kill, nx_mk, nx_emp]; omega) | fail) [g22_j4, hgo]
    have hF : F = (l, a') := by
      rw [← hch]
      cases m with
      | zero => rfl
      | succ m =>
        have : l = [] := List.length_eq_zero_iff.1 (by omega)
        unfold chM; rw [if_pos this]
    simp (disch := first | (simp; done) | omega | (simp only [nx_add, nx_set, nx_kill, nx_mk, nx_emp]; omega) | fail) [g22_j7, g22_c6, hF]
    exact st.mono (by omega)
theorem ch1_at (L : List Int) (l : List Cmd) {a : Nat} (h : a ≤ L.length) : (ch1 L l a).2 ≤ L.length := by
  unfold ch1
  (repeat' split)
  · exact h
  · exact nxA_le L (at4_le L (nxA_le L h))
  · exact nxA_le L (nxA_le L h)
  · exact nxA_le L (nxA_le L h)
theorem chM_at (L : List Int) : ∀ (k : Nat) (l : List Cmd) (a : Nat), a ≤ L.length → (chM L k l a).2 ≤ L.length
  | 0, l, a, h => h
  | k + 1, l, a, h => by unfold chM; split; exact h; exact chM_at L k _ _ (ch1_at L l h)
theorem chF_at (L : List Int) (l : List Cmd) {a : Nat} (h : a ≤ L.length) : (chF L l a).2 ≤ L.length := chM_at L _ _ _ (nxA_le L h)
theorem chF_len (L : List Int) (l : List Cmd) (a : Nat) : (chF L l a).1.length = l.length := chM_len L _ _ _
theorem ch1_gl (L : List Int) (l : List Cmd) (a : Nat) (h : GlOk l) : GlOk (ch1 L l a).1 := by
  intro c hc
  unfold ch1 at hc
  split at hc
  · exact h c hc
  · rename_i c0 h0
    split at hc
    · rcases List.mem_or_eq_of_mem_set hc with h1 | rfl
      · exact h c h1
      · show (0 : Nat) ≤ 10; omega
    · split at hc
      · rcases List.mem_or_eq_of_mem_set hc with h1 | rfl
        · exact h c h1
        · exact h c0 (List.mem_of_getElem? h0)
      · exact h c hc
theorem chM_gl (L : List Int) : ∀ (k : Nat) (l : List Cmd) (a : Nat), GlOk l → GlOk (chM L k l a).1
  | 0, l, a, h => h
  | k + 1, l, a, h => by unfold chM; split; exact h; exact chM_gl L k _ _ (ch1_gl L l a h)
theorem chF_gl (L : List Int) (l : List Cmd) (a : Nat) (h : GlOk l) : GlOk (chF L l a).1 := chM_gl L _ _ _ h
theorem rM_rb (L : List Int) (a : Nat) : -1000 ≤ (rM L a).x ∧ (rM L a).x ≤ 900 := by
  have b1 := nV_ge L a (show (1 : Int) ≤ 61 by omega)
  have b2 := nV_lt L a (show (1 : Int) ≤ 61 by omega)
  show -1000 ≤ -20 + nV L a 61 ∧ -20 + nV L a 61 ≤ 900
  omega
theorem sM_rb (L : List Int) (o a : Nat) : Rb 900 (sM L o a).1 := by
  have h1 := rM_rb L a
  have h0 : -1000 ≤ zR.x ∧ zR.x ≤ 900 := by decide
  unfold sM
  (repeat' split) <;> intro c hc <;> simp at hc <;> subst hc <;> first | exact h1 | exact h0
theorem Rb.app {n : Int} {a b : List Cmd} (h1 : Rb n a) (h2 : Rb n b) : Rb n (a ++ b) := fun c hc => by
  rcases List.mem_append.1 hc with h | h
  · exact h1 c h
  · exact h2 c h
theorem lM_rb (L : List Int) : ∀ (k : Nat) (l : List Cmd) (o a : Nat), Rb 900 l → Rb 900 (lM L k l o a).1
  | 0, l, o, a, h => h
  | k + 1, l, o, a, h => lM_rb L k _ _ _ (h.app (sM_rb L o a))
theorem cM_rb (L : List Int) (a : Nat) (n : Int) : Rb 900 (cM L a n).1 := by
  refine Rb.app (lM_rb L _ _ _ _ fun c hc => by simp at hc) fun c hc => ?_
  rw [(List.mem_replicate.1 hc).2]
  show -1000 ≤ (0 : Int) ∧ (0 : Int) ≤ 900; omega
def e22 : QE Try.prog := ⟨22, fun args h Q => ∃ sid L a v1 l, args = [.ptr sid 0, v1] ∧ (Src h sid L a ∧ WF h ∧ Lst h 0 v1 l ∧ (∀ id, v1 = .rsl id 0 l.length 22 → id ≠ sid) ∧ l.length ≤ 100 ∧ Rb 900 l) ∧ Q (cmV h (chF L l a).1) (cmH h sid L (chF L l a).2 (chF L l a).1), fun args h Q ⟨sid, L, a, v1, l, h1, ⟨h2, h3, h4, h5, h6, h7⟩, h8⟩ => by
  subst h1; exact ⟨_, _, settleC h3 (changed_c h2 h3 h4 h5 h6 h7) h2.lt, h8⟩⟩
@[simp ↓] theorem e22_t (tl : List (QE Try.prog)) (f : Nat) (args : List AV) (h : AH) (Q : AV → AH → Prop) (hf : 22 ≠ f) : tb (e22 :: tl) f args h Q = tb tl f args h Q := tb_there e22 tl f args h Q hf
theorem H_step {tl : List (QE Try.prog)} {sid : Nat} {L : List Int} {a : Nat} {v1 : AV} {l : List Cmd} {h : AH} {Q : AV → AH → Prop} (hs : Src h sid L a) (hw : WF h) (hl : Lst h 0 v1 l) (hsid : ∀ id, v1 = .rsl id 0 l.length 22 → id ≠ sid) (hn : l.length ≤ 100) (hr : Rb 900 l)
    (hq : ∀ v h1, Src h1 sid L (chF L l a).2 → WF h1 → h.nx ≤ h1.nx → h1.nx ≤ h.nx + 30001 → (∀ i, i ≠ sid → i < h.nx → h1.H.get i = h.H.get i) → Lst h1 h.nx v (chF L l a).1 → Q v h1) : tb (e22 :: tl) 22 [.ptr sid 0, v1] h Q := by
  rw [tb_here e22 tl 22 _ _ _ rfl]
  obtain ⟨k1, k2, k3, k4, k5, k6⟩ := cm_step (l := (chF L l a).1) hw hs (chF L l a).2 (chF_at L l hs.le)
  exact ⟨sid, L, a, v1, l, rfl, ⟨hs, hw, hl, hsid, hn, hr⟩, hq _ _ k1 k2 k3 k4 k5 k6⟩
end Go.Proofs.Ytpnekpbehcbmkaa
end
noncomputable section
namespace Go.Proofs.Ytpnekpbehcbmkaa
open Go.Eng
/-! The law: the damage of the program is that of the reference. -/
theorem heavy_lite {l : List Cmd} (h : heavy l = false) : Lite l := by
  simp [heavy] at h
  exact ⟨by omega, fun c hc => by have := h.2 c hc; omega⟩
theorem dmg_len (a b : List Cmd) : (dmg a b).length ≤ a.length + b.length + 4 := by
  have he : evr.length = 4 := rfl
  unfold dmg
  split
  · simp
  split
  · cases hx : exts (dF a b) (dTa a b) [] 0 a [] with
    | none => simp [he]
    | some x =>
      cases hy : exts (dF a b) (dTb a b) [] 0 b [] with
      | none => simp [he]
      | some y =>
        have h1 := exts_len _ _ _ _ _ _ _ hx
        have h2 := exts_len _ _ _ _ _ _ _ hy
        simp at h1 h2 ⊢; omega
  · rw [he]; omega
theorem Lst.lower {h : AH} {lo lo' : Nat} {v : AV} {l : List Cmd} (hl : Lst h lo v l) (hlo : lo' ≤ lo) : Lst h lo' v l := by
  rcases hl with h1 | ⟨id, h1, h2, h3, h4, h5⟩
  · exact .inl h1
  · exact .inr ⟨id, h1, h2, by omega, h4, h5⟩
def dm0 : List (QE Try.prog) := [e10, e18, e19, e20, e22, e23o, e24o, e17]
def Fz (h : AH) (ws : List AV) (xs : List (List Cmd)) : Prop := ∀ (i : Nat) (w : AV) (x : List Cmd), ws[i]? = some w → xs[i]? = some x → Frz h false w (cmds x) ∧ Lite x
def dkI (H : AH) (va : AV) (id : Nat) (m : Nat) (vs : List AV) (hh : AH) : Prop := ∃ (i n : Nat), i ≤ 4 ∧ m = 4 - i ∧ vs = [va, .rsl id 0 4 1, I i] ∧ hh = ⟨H.H, n⟩
def dnI (H : AH) (va : AV) (id i : Nat) (X : List Rect) (m : Nat) (vs : List AV) (hh : AH) : Prop := ∃ (k n : Nat), k ≤ X.length ∧ m = X.length - k ∧ vs = [va, .rsl id 0 4 1, I i, rects X, rects X, I k] ∧ hh = ⟨H.H, n⟩
theorem dm_tail {H : AH} {va : AV} {a : List Cmd} {id : Nat} {ws : List AV} {xs : List (List Cmd)} (hc : H.cellsAt id = some ws) (hw : ws.length = 4) (hx : xs.length = 4) (hz : Fz H ws xs) (hva : Frz H false va (cmds a)) (ha : Lite a) (hl : ∀ x ∈ xs, x.length ≤ 1000) (hla : a.length ≤ 1000) :
    wloop (fun vs h k => g5_l4 (tb dm0) (nthD vs 0) (nthD vs 1) (nthD vs 2) h k) [va, .rsl id 0 4 1, I 0] H fun x vs h => g5_j6 (tb dm0) x (nthD vs 0) h fun v' h' => Frz h' true v' (.bool true) := by
  refine ⟨dkI H va id, 4, ⟨0, H.nx, by omega, rfl, rfl, rfl⟩, ?_⟩
  rintro m vs hh ⟨i, n, hi, rfl, rfl, rfl⟩
  have hcell : ∀ n, AH.cellsAt ⟨H.H, n⟩ id = some ws := fun n => hc
  by_cases hlt : i < 4
  · have hlt' : (i : Int) < 4 := by omega
    have hix : ∀ h, kIdxA h 1 (.rsl id 0 4 1) (I i) = some (.ptr id i, h) := fun h => by
      rw [kIdxA_rsl (i := (i : Int)) (by omega) (by omega)]; simp
    have hwi : ws[i]? = some (ws[i]'(by omega)) := by simp
    obtain ⟨x, hxi⟩ : ∃ x, xs[i]? = some x := ⟨xs[i], by simp⟩
    obtain ⟨hwx, hlx⟩ := hz i _ x hwi hxi
    have hxl := hl x (List.mem_of_getElem? hxi)
    simp (disch := first | (simp; done) | omega | (simp only [nx_add, nx_set, nx_kill, nx_mk, nx_emp]; omega) | fail) [g5_l4, hlt', hix, hcell, hwi, dm0]
    refine e23o_h a x (Frz.ext (h := H) (h' := ⟨H.H, n + 14⟩) (fun _ _ h => h) hva) (Frz.ext (h := H) (h' := ⟨H.H, n + 14⟩) (fun _ _ h => h) hwx) ⟨ha, hlx⟩ ⟨Nat.le_refl _, ?_⟩
    simp (disch := first | (simp; done) | omega | (simp only [nx_add, nx_set, nx_kill, nx_mk, nx_emp]; omega) | fail) [g5_s3, hix, hcell, hwi]
    refine e24o_h a x (Frz.ext (h := H) (h' := ⟨H.H, n + 14⟩) (fun _ _ h => h) hva) (Frz.ext (h := H) (h' := ⟨H.H, n + 14⟩) (fun _ _ h => h) hwx) ⟨ha, hlx⟩ ⟨Nat.le_refl _, ?_⟩
    have hX := dmg_len a x
    generalize dmg a x = X at *
    have kl : ∀ h, kLen h (rects X) = some (I X.length, h) := fun h => by simp [rects]
    try simp (disch := first | (simp; done) | omega | (simp only [nx_add, nx_set, nx_kill, nx_mk, nx_emp]; omega) | fail) [kl]
    try simp (disch := first | (simp; done) | omega | (simp only [nx_add, nx_set, nx_kill, nx_mk, nx_emp]; omega) | fail) [g5_s2, kl]
    refine ⟨dnI H va id i X, X.length, ⟨0, n + 14, by omega, rfl, rfl, rfl⟩, ?_⟩
    rintro m vs hh ⟨k, n2, hk, rfl, rfl, rfl⟩
    by_cases hkl : k < X.length
    · have hkl' : (k : Int) < X.length := by omega
      have hix2 : ∀ h, kIdxA h 4 (rects X) (I k) = some (.pptr X[k].enc, h) := fun h => kIdxA_psl (by simp [hkl]) (Rect.len _)
      simp (disch := first | (simp; done) | omega | (simp only [nx_add, nx_set, nx_kill, nx_mk, nx_emp]; omega) | fail) [g5_l1, kl, hkl', hix2]
      simp (disch := first | (simp; done) | omega | (simp only [nx_add, nx_set, nx_kill, nx_mk, nx_emp]; omega) | fail) [g5_s1, hix2, Rect.eqc]
      exact ⟨X.length - (k + 1), by omega, k + 1, _, by omega, rfl, rfl, rfl⟩
    · have hkl' : ¬ (k : Int) < X.length := by omega
      simp (disch := first | (simp; done) | omega | (simp only [nx_add, nx_set, nx_kill, nx_mk, nx_emp]; omega) | fail) [g5_l1, kl, hkl']
      simp (disch := first | (simp; done) | omega | (simp only [nx_add, nx_set, nx_kill, nx_mk, nx_emp]; omega) | fail) [g5_j3, g5_c2]
      exact ⟨4 - (i + 1), by omega, i + 1, _, by omega, rfl, rfl, rfl⟩
  · have hlt' : ¬ (i : Int) < 4 := by omega
    simp (disch := first | (simp; done) | omega | (simp only [nx_add, nx_set, nx_kill, nx_mk, nx_emp]; omega) | fail) [g5_l4, hlt', dm0]
    simp (disch := first | (simp; done) | omega | (simp only [nx_add, nx_set, nx_kill, nx_mk, nx_emp]; omega) | fail) [g5_j6, g5_c5]
theorem damages_f (l : List Int) (raw : List Cmd) (hl : SmX l) (hr : SmX raw) : Fresh Try.prog 5 [ints l, cmds raw] (.bool true) := by
  refine C5 (tb_ok dm0) ?_
  cases hv : heavy raw
  rotate_left
  · simp (disch := first | (simp; done) | omega | (simp only [nx_add, nx_set, nx_kill, nx_mk, nx_emp]; omega) | fail) [g5, dm0, hr, hv]
  have hrl := heavy_lite hv
  have hr60 : raw.length ≤ 60 := by simp [heavy] at hv; omega
  simp (disch := first | (simp; done) | omega | (simp only [nx_add, nx_set, nx_kill, nx_mk, nx_emp]; omega) | fail) [g5, dm0, hr, hv]
  refine e18_h hl ?_
  have w1 : WF (emp.add (.cells (srcC (newL l) 0))) := WF.emp.add _
  have s1 : Src (emp.add (.cells (srcC (newL l) 0))) emp.nx (newL l) 0 := ⟨cellsAt_add_self _ _ _ rfl, by omega, newL_ok l, by simp⟩
  generalize emp.add (.cells (srcC (newL l) 0)) = h1 at *
  generalize emp.nx = sid at *
  generalize newL l = L at *
  try simp (disch := first | (simp; done) | omega | (simp only [nx_add, nx_set, nx_kill, nx_mk, nx_emp]; omega) | fail)
  refine C_step s1 w1 (by omega) (by omega) fun v h2 s2 w2 n2 n2' g2 l2 => ?_
  have alen := cM_len L 0 12 (by omega) (by omega)
  have agl := cM_gl L 0 12
  have arb := cM_rb L 0 12
  generalize (cM L 0 12).1 = a at *
  generalize (cM L 0 12).2 = a0 at *
  have hslt := s1.lt
  try simp (disch := first | (simp; done) | omega | (simp only [nx_add, nx_set, nx_kill, nx_mk, nx_emp]; omega) | fail)
  refine H_step s2 w2 (l2.lower (by omega)) (fun id hid => ?_) (by omega) arb fun v3 h3 s3 w3 n3 n3' g3 l3 => ?_
  · rcases l2 with ⟨h0, _⟩ | ⟨id', h0, _, k1, _⟩
    · rw [h0] at hid; cases hid
    · rw [h0] at hid; cases hid; omega
  have clen := chF_len L a a0
  have cgl := chF_gl L a a0 agl
  generalize (chF L a a0).1 = c at *
  generalize (chF L a a0).2 = a1 at *
  simp (disch := first | (simp; done) | omega | (simp only [nx_add, nx_set, nx_kill, nx_mk, nx_emp]; omega) | fail) [g5_s5]
  refine C_step s3 w3 (by omega) (by omega) fun v4 h4 s4 w4 n4 n4' g4 l4 => ?_
  have dlen := cM_len L a1 6 (by omega) (by omega)
  have dgl := cM_gl L a1 6
  generalize (cM L a1 6).1 = d at *
  simp only [g5_s4]
  have q2 : v3 = .nilsl ∨ ∃ id k, v3 = .rsl id 0 k 22 := by
    rcases l3 with ⟨h0, _⟩ | ⟨id', h0, _⟩
    · exact .inl h0
    · exact .inr ⟨_, _, h0⟩
  have q3 : v4 = .nilsl ∨ ∃ id k, v4 = .rsl id 0 k 22 := by
    rcases l4 with ⟨h0, _⟩ | ⟨id', h0, _⟩
    · exact .inl h0
    · exact .inr ⟨_, _, h0⟩
  refine wk_of (v := .rsl h4.nx 0 4 1) (h := h4.add (.cells [v3, v4, cmds raw, .nilsl])) ?_ ?_
  · rcases q2 with rfl | ⟨_, _, rfl⟩ <;> rcases q3 with rfl | ⟨_, _, rfl⟩ <;> rfl
  have m4 : ∀ i, i < h4.nx → (h4.add (.cells [v3, v4, cmds raw, .nilsl])).H.get i = h4.H.get i := fun i hi => by rw [get_add, if_neg (by omega)]
  have la : Lst (h4.add (.cells [v3, v4, cmds raw, .nilsl])) h1.nx v a := ((l2.keep n3 fun i hi hil => g3 i (by omega) hil).keep n4 fun i hi hil => g4 i (by omega) hil).keep (by simp) fun i hi hil => m4 i hil
  have lc : Lst (h4.add (.cells [v3, v4, cmds raw, .nilsl])) h2.nx v3 c := (l3.keep n4 fun i hi hil => g4 i (by omega) hil).keep (by simp) fun i hi hil => m4 i hil
  have ld : Lst (h4.add (.cells [v3, v4, cmds raw, .nilsl])) h3.nx v4 d := l4.keep (by simp) fun i hi hil => m4 i hil
  have hcell : (h4.add (.cells [v3, v4, cmds raw, .nilsl])).cellsAt h4.nx = some [v3, v4, cmds raw, .nilsl] := cellsAt_add_self _ _ _ rfl
  generalize h4.add (.cells [v3, v4, cmds raw, .nilsl]) = H at *
  refine dm_tail (a := a) (xs := [c, d, raw, []]) hcell rfl rfl ?_ la.frz (lite_of (by omega) agl) ?_ (by omega)
  · intro i w x h1 h2
    match i with
    | 0 => simp at h1 h2; subst h1; subst h2; exact ⟨lc.frz, lite_of (by omega) cgl⟩
    | 1 => simp at h1 h2; subst h1; subst h2; exact ⟨ld.frz, lite_of (by omega) dgl⟩
    | 2 => simp at h1 h2; subst h1; subst h2; exact ⟨cmds_pl raw H, hrl⟩
    | 3 => simp at h1 h2; subst h1; subst h2; exact ⟨.nilsl, by simp, by simp⟩
    | i + 4 => simp at h1
  · intro x hx
    simp at hx
    rcases hx with rfl | rfl | rfl | rfl <;> first | omega | simp
end Go.Proofs.Ytpnekpbehcbmkaa
end
