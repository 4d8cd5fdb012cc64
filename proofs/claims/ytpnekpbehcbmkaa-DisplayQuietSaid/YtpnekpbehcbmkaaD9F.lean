/- Reading and writing one command of a list that the law owns. What the laws' maker of a changed list answers. What the law DisplayDamages computes. What the law DisplayQuiet computes. -/
import Derived.Test.YtpnekpbehcbmkaaD8G
import Derived.Test.YtpnekpbehcbmkaaD8B
set_option linter.unusedSimpArgs false
set_option linter.unusedVariables false
set_option linter.unnecessarySimpa false
noncomputable section
namespace Go.Proofs.Ytpnekpbehcbmkaa
open Go.Eng
theorem flat_at (l : List Cmd) (k j : Nat) (hk : k < l.length) (hj : j < 22) : (flatC l)[k * 22 + j]? = (l[k].enc)[j]? := by
  unfold flatC
  exact flat_get Cmd.len l k j l[k] (by simp [hk]) hj
/-- what a cell of a command holds, where it is known to be a number -/
theorem frz_int {h : AH} {n : Bool} {y : AV} {m : Int} (hf : Frz h n y (I m)) : y = I m := by
  generalize hb : AV.int IntKind.i64 m = b at hf
  cases hf <;> cases hb
  rfl
theorem LV.cell {h0 h : AH} {lv : AV} {l : List Cmd} (hl : LV h0 h lv l) (k : Nat) (hk : k < l.length) : ∃ id cs, lv = .rsl id 0 l.length 22 ∧ h0.nx ≤ id ∧ id < h.nx ∧ h.cellsAt id = some cs ∧ cs.length = l.length * 22 ∧ FrzL (rest h h0.nx id) false cs (flatC l) ∧ cs[k * 22]? = some (I l[k].kind) ∧ cs[k * 22 + 1]? = some (I l[k].r.x) := by
  rcases hl with ⟨_, rfl⟩ | ⟨id, cs, h1, _, h3, h4, h5, h6⟩
  · simp at hk
  have hf := (FrzL_iff _ _ _ _).1 h6
  have hlen : cs.length = l.length * 22 := by rw [hf.1]; unfold flatC; exact flat_len Cmd.len l
  have hlt : k * 22 + 1 < cs.length := by omega
  refine ⟨id, cs, h1, h3, h4, h5, hlen, h6, ?_, ?_⟩
  · have e1 : (flatC l)[k * 22]? = some (I l[k].kind) := flat_at l k 0 hk (by omega)
    have := frz_int (hf.2 (k * 22) cs[k * 22] _ (by simp) e1)
    rw [← this]; simp
  · have e1 : (flatC l)[k * 22 + 1]? = some (I l[k].r.x) := flat_at l k 1 hk (by omega)
    have := frz_int (hf.2 (k * 22 + 1) cs[k * 22 + 1] _ (by simp) e1)
    rw [← this]; simp
theorem flat_set : ∀ (l : List Cmd) (k : Nat) (x : Cmd), k < l.length → flatC (l.set k x) = (flatC l).take (k * 22) ++ x.enc ++ (flatC l).drop (k * 22 + 22)
  | [], k, x, h => by simp at h
  | c :: l, 0, x, h => by
    have h1 : flatC (c :: l) = c.enc ++ flatC l := by simp [flatC]
    have h2 : flatC (x :: l) = x.enc ++ flatC l := by simp [flatC]
    rw [List.set_cons_zero, h1, h2]
    simp [List.drop_append]
  | c :: l, k + 1, x, h => by
    have h1 : flatC (c :: l) = c.enc ++ flatC l := by simp [flatC]
    have h2 : flatC (c :: l.set k x) = c.enc ++ flatC (l.set k x) := by simp [flatC]
    have ih := flat_set l k x (by simpa using h)
    rw [List.set_cons_succ, h1, h2, ih, List.take_append, List.drop_append]
    have e1 : (k + 1) * 22 - c.enc.length = k * 22 := by rw [Cmd.len]; omega
    have e2 : (k + 1) * 22 + 22 - c.enc.length = k * 22 + 22 := by rw [Cmd.len]; omega
    have t1 : c.enc.take ((k + 1) * 22) = c.enc := List.take_of_length_le (by rw [Cmd.len]; omega)
    have t2 : c.enc.drop ((k + 1) * 22 + 22) = [] := List.drop_of_length_le (by rw [Cmd.len]; omega)
    rw [e1, e2, t1, t2]
    simp
theorem frzL_take {h : AH} {n : Bool} {a b : List AV} (hf : FrzL h n a b) (k : Nat) : FrzL h n (a.take k) (b.take k) := by
  rw [FrzL_iff] at hf ⊢
  refine ⟨by simp [hf.1], fun i x y hx hy => ?_⟩
  rw [List.getElem?_take] at hx hy
  split at hx
  · rename_i hi
    rw [if_pos hi] at hy
    exact hf.2 i x y hx hy
  · cases hx
theorem frzL_drop {h : AH} {n : Bool} {a b : List AV} (hf : FrzL h n a b) (k : Nat) : FrzL h n (a.drop k) (b.drop k) := by
  rw [FrzL_iff] at hf ⊢
  refine ⟨by simp [hf.1], fun i x y hx hy => ?_⟩
  rw [List.getElem?_drop] at hx hy
  exact hf.2 (k + i) x y hx hy
/-- one command is written -/
theorem LV.put {h0 h : AH} {id k : Nat} {l : List Cmd} {cs tc : List AV} {x : Cmd} (h3 : h0.nx ≤ id) (h4 : id < h.nx) (hlen : cs.length = l.length * 22) (h6 : FrzL (rest h h0.nx id) false cs (flatC l)) (hk : k < l.length) (ht : tc.length = 22) (hx : ∀ H, FrzL H false tc x.enc) :
    ∃ cs', splice cs (k * 22) tc = some cs' ∧ LV h0 (h.set id (.cells cs')) (.rsl id 0 l.length 22) (l.set k x) := by
  refine ⟨cs.take (k * 22) ++ tc ++ cs.drop (k * 22 + tc.length), by unfold splice; rw [if_pos (by omega)], .inr ⟨id, _, by simp, fun he => ?_, h3, by simp; omega, cellsAt_set_self _ _ _ _ rfl, ?_⟩⟩
  · have := congrArg List.length he
    simp at this; subst this; simp at hk
  · rw [flat_set l k x hk, ht]
    have he : ∀ (o : AObj) i cs, (rest h h0.nx id).cellsAt i = some cs → (rest (h.set id o) h0.nx id).cellsAt i = some cs := fun o i cs hi => by
      have hgi := cellsAt_get hi
      rw [get_rest] at hgi
      split at hgi
      · cases hgi
      · rw [cellsAt_rest (by omega) (by omega), cellsAt_set_ne _ _ _ _ (by omega), ← hi, cellsAt_rest (by omega) (by omega)]
    exact ((frzL_take (h6.ext (he _)) _).app (hx _)).app (frzL_drop (h6.ext (he _)) _)
def upX (c : Cmd) (v : Int) : Cmd := { c with r := { c.r with x := v } }
theorem upX_enc (c : Cmd) (v : Int) : (upX c v).enc = c.enc.set 1 (I v) := rfl
theorem flat_set1 : ∀ (l : List Cmd) (k : Nat) (v : Int) (hk : k < l.length), flatC (l.set k (upX l[k] v)) = (flatC l).set (k * 22 + 1) (I v)
  | [], k, v, h => by simp at h
  | c :: l, 0, v, h => by
    have h1 : flatC (c :: l) = c.enc ++ flatC l := by simp [flatC]
    have h2 : flatC (upX c v :: l) = (upX c v).enc ++ flatC l := by simp [flatC]
    show flatC (upX c v :: l) = _
    rw [h1, h2, upX_enc, List.set_append_left _ _ (by rw [Cmd.len]; omega)]
  | c :: l, k + 1, v, h => by
    have h1 : flatC (c :: l) = c.enc ++ flatC l := by simp [flatC]
    have ih := flat_set1 l k v (by simpa using h)
    have h2 : flatC (c :: l.set k (upX (l[k]'(by simpa using h)) v)) = c.enc ++ flatC (l.set k (upX (l[k]'(by simpa using h)) v)) := by simp [flatC]
    show flatC (c :: l.set k (upX (l[k]'(by simpa using h)) v)) = _
    rw [h2, ih, h1, List.set_append_right _ _ (by rw [Cmd.len]; omega)]
    rw [show (k + 1) * 22 + 1 - c.enc.length = k * 22 + 1 by rw [Cmd.len]; omega]
theorem LV.put1 {h0 h : AH} {id k : Nat} {l : List Cmd} {cs : List AV} (v : Int) (h3 : h0.nx ≤ id) (h4 : id < h.nx) (hlen : cs.length = l.length * 22) (h6 : FrzL (rest h h0.nx id) false cs (flatC l)) (hk : k < l.length) :
    ∃ cs', splice cs (k * 22 + 1) [I v] = some cs' ∧ LV h0 (h.set id (.cells cs')) (.rsl id 0 l.length 22) (l.set k (upX l[k] v)) := by
  refine ⟨cs.take (k * 22 + 1) ++ [I v] ++ cs.drop (k * 22 + 1 + 1), by unfold splice; rw [if_pos (by simp; omega)]; rfl, .inr ⟨id, _, by simp, fun he => ?_, h3, by simp; omega, cellsAt_set_self _ _ _ _ rfl, ?_⟩⟩
  · have := congrArg List.length he
    simp at this; subst this; simp at hk
  · have hfl : (flatC l).length = l.length * 22 := by unfold flatC; exact flat_len Cmd.len l
    have e1 : flatC (l.set k (upX l[k] v)) = (flatC l).take (k * 22 + 1) ++ [I v] ++ (flatC l).drop (k * 22 + 1 + 1) := by
      rw [flat_set1 l k v hk, List.set_eq_take_append_cons_drop, if_pos (by omega)]; simp
    rw [e1]
    have he : ∀ (o : AObj) i cs, (rest h h0.nx id).cellsAt i = some cs → (rest (h.set id o) h0.nx id).cellsAt i = some cs := fun o i cs hi => by
      have hgi := cellsAt_get hi
      rw [get_rest] at hgi
      split at hgi
      · cases hgi
      · rw [cellsAt_rest (by omega) (by omega), cellsAt_set_ne _ _ _ _ (by omega), ← hi, cellsAt_rest (by omega) (by omega)]
    have h1 : ∀ H, FrzL H false [I v] [I v] := fun H => by
      rw [FrzL_iff]
      refine ⟨rfl, fun i x y hx hy => ?_⟩
      rw [hx] at hy; cases hy
      have := List.mem_of_getElem? hx
      simp at this; subst this; exact .int _ _
    exact ((frzL_take (h6.ext (he _)) _).app (h1 _)).app (frzL_drop (h6.ext (he _)) _)
end Go.Proofs.Ytpnekpbehcbmkaa
end
noncomputable section
namespace Go.Proofs.Ytpnekpbehcbmkaa
open Go.Eng
/-! A list that differs from another one in some commands. -/
def chR (L : List Int) (a : Nat) : Rect := ⟨-20 + nV L a 61, -20 + nV L (nxA L a) 61, nV L (nxA L (nxA L a)) 30, nV L (nxA L (nxA L (nxA L a))) 30⟩
/-- one round: the list, where the reader stands -/
def ch1 (L : List Int) (l : List Cmd) (a : Nat) : List Cmd × Nat :=
  match l[(nV L a l.length).toNat]? with
  | none => (l, a)
  | some c => if c.kind = 4 then (l.set (nV L a l.length).toNat (filC (chR L (nxA L a)) (nV L (at4 L (nxA L a)) 4)), nxA L (at4 L (nxA L a)))
    else if nV L (nxA L a) 3 = 0 then (l.set (nV L a l.length).toNat { c with r := { c.r with x := c.r.x + 1 } }, nxA L (nxA L a))
    else (l, nxA L (nxA L a))
def chM (L : List Int) : Nat → List Cmd → Nat → List Cmd × Nat
  | 0, l, a => (l, a)
  | k + 1, l, a => if l = [] then (l, a) else chM L k (ch1 L l a).1 (ch1 L l a).2
/-- the whole: N(3)+1 rounds -/
def chF (L : List Int) (l : List Cmd) (a : Nat) : List Cmd × Nat := chM L ((nV L a 3).toNat + 1) l (nxA L a)
theorem ch1_len (L : List Int) (l : List Cmd) (a : Nat) : (ch1 L l a).1.length = l.length := by
  unfold ch1; (repeat' split) <;> simp
theorem chM_len (L : List Int) : ∀ (k : Nat) (l : List Cmd) (a : Nat), (chM L k l a).1.length = l.length
  | 0, l, a => rfl
  | k + 1, l, a => by unfold chM; split; rfl; rw [chM_len L k, ch1_len]
def Rb (n : Int) (l : List Cmd) : Prop := ∀ c ∈ l, -1000 ≤ c.r.x ∧ c.r.x ≤ n
theorem ch1_rb (L : List Int) (l : List Cmd) (a : Nat) {n : Int} (hn : 100 ≤ n) (hr : Rb n l) : Rb (n + 1) (ch1 L l a).1 := by
  have b1 := nV_ge L (nxA L a) (show (1 : Int) ≤ 61 by omega)
  have b2 := nV_lt L (nxA L a) (show (1 : Int) ≤ 61 by omega)
  intro c hc
  have old : ∀ c ∈ l, -1000 ≤ c.r.x ∧ c.r.x ≤ n + 1 := fun c hc => by have := hr c hc; omega
  unfold ch1 at hc
  split at hc
  · exact old c hc
  · rename_i c0 h0
    have hc0 := hr c0 (List.mem_of_getElem? h0)
    split at hc
    · rcases List.mem_or_eq_of_mem_set hc with h | rfl
      · exact old c h
      · show -1000 ≤ -20 + nV L (nxA L a) 61 ∧ -20 + nV L (nxA L a) 61 ≤ n + 1
        omega
    · split at hc
      · rcases List.mem_or_eq_of_mem_set hc with h | rfl
        · exact old c h
        · show -1000 ≤ c0.r.x + 1 ∧ c0.r.x + 1 ≤ n + 1
          omega
      · exact old c hc
def hI (h0 : AH) (sid : Nat) (L : List Int) (F : List Cmd × Nat) (m : Nat) (vs : List AV) (hh : AH) : Prop :=
  ∃ (l : List Cmd) (a' : Nat) (lv : AV) (c : Nat), vs = [.ptr sid 0, lv, I ((m : Int) - 1)] ∧ St h0 hh sid L a' lv l c ∧ c + 1000 * m ≤ 5000 ∧ m ≤ 3 ∧ l.length ≤ 100 ∧ Rb (1000 - m) l ∧ chM L m l a' = F
theorem LV.klen {h0 h h' : AH} {lv : AV} {l : List Cmd} (hl : LV h0 h lv l) : kLen h' lv = some (I l.length, h') := by
  rcases hl with ⟨rfl, rfl⟩ | ⟨id, cs, rfl, _⟩ <;> simp
theorem changed_c {h : AH} {sid : Nat} {L : List Int} {a : Nat} {v1 : AV} {l : List Cmd} (hs : Src h sid L a) (hw : WF h) (hl : Lst h 0 v1 l) (hsid : ∀ id, v1 = .rsl id 0 l.length 22 → id ≠ sid) (hn : l.length ≤ 100) (hr : Rb 900 l) : CallsA Try.prog 22 [.ptr sid 0, v1] h fun v' h' => St h h' sid L (chF L l a).2 v' (chF L l a).1 30000 := by
  refine C22 (tb_ok [e20, e21, e26]) ?_
  have hb1 := nV_ge L a (show (1 : Int) ≤ 3 by omega)
  have hb2 := nV_lt L a (show (1 : Int) ≤ 3 by omega)
  simp (disch := first | (simp; done) | omega | (simp only [nx_add, nx_set, nx_kill, nx_mk, nx_emp]; omega) | fail) [g22]
  have hst : ∃ lv1 h1, kApp h 22 200 .nilsl v1 = some (lv1, h1) ∧ St h h1 sid L a lv1 l 1 := by
    rcases hl with ⟨rfl, rfl⟩ | ⟨id, rfl, hne, _, hidl, hc⟩
    · exact ⟨_, _, kApp_nn _ _ _, hs, hs.lt, ⟨by omega, by omega, fun _ _ _ => rfl, hw⟩, .inl ⟨rfl, rfl⟩⟩
    · have hpos : l.length ≠ 0 := fun h => hne (List.length_eq_zero_iff.1 h)
      have hcut : cut (flatC l) 0 (l.length * 22) = some (flatC l) := by
        have := flat_take l l.length (Nat.le_refl _)
        rwa [List.take_length] at this
      have hro : roomy l.length 200 = true := roomy_ok _ _ (by omega) (by omega)
      have hon : ones (flatC l) = true := ones_flat Cmd.ones l
      refine ⟨.rsl h.nx 0 l.length 22, h.add (.cells (flatC l)), ?_, hs.gr (cellsAt_add_ne _ _ _ (by have := hs.lt; omega)) (by simp), hs.lt, (Gr.refl hw).add _, .inr ⟨h.nx, flatC l, rfl, hne, by omega, by simp, by simp, flatC_pl l _⟩⟩
      rw [kApp_nr _ _ _ _ _ _ hpos]
      simp [hc, hcut, hro, hon]
  obtain ⟨lv1, h1, q1, st1⟩ := hst
  refine wk_of q1 ?_
  refine N_step st1.src (by omega) (by omega) fun h2 hs2 u2 => ?_
  have st2 := st1.go ((Gr.refl st1.gr.wf).upd u2) hs2
  obtain ⟨m, hm⟩ : ∃ m : Nat, nV L a 3 = (m : Int) := ⟨(nV L a 3).toNat, by omega⟩
  have hF : chF L l a = chM L (m + 1) l (nxA L a) := by unfold chF; rw [show (nV L a 3).toNat = m by omega]
  rw [hF, hm]
  obtain ⟨F, hFe⟩ : ∃ F, F = chM L (m + 1) l (nxA L a) := ⟨_, rfl⟩
  rw [← hFe]
  refine ⟨hI h sid L F, m + 1, ⟨l, nxA L a, lv1, 61, by simp, st2.mono (by omega), by omega, by omega, by omega, fun c hc => by have := hr c hc; omega, hFe.symm⟩, ?_⟩
  rintro m vs hh ⟨l, a', lv, c, rfl, st, hcm, hm3, hl100, hrb, hch⟩
  have kl : ∀ h', kLen h' lv = some (I l.length, h') := fun h' => st.list.klen
  simp (disch := first | (simp; done) | omega | (simp only [nx_add, nx_set, nx_kill, nx_mk, nx_emp]; omega) | fail) [g22_l5]
  refine ⟨fun vs h' => vs = [.ptr sid 0, lv, I ((m : Int) - 1), .bool (decide (0 < m ∧ 0 < l.length))] ∧ h' = hh, ?_, ?_⟩
  · by_cases h0 : 0 < m
    · have h0' : (0 : Int) ≤ (m : Int) - 1 := by omega
      simp (disch := first | (simp; done) | omega | (simp only [nx_add, nx_set, nx_kill, nx_mk, nx_emp]; omega) | fail) [g22_a1, h0, h0', kl]
      omega
    · have h0' : ¬ (0 : Int) ≤ (m : Int) - 1 := by omega
      simp (disch := first | (simp; done) | omega | (simp only [nx_add, nx_set, nx_kill, nx_mk, nx_emp]; omega) | fail) [g22_a1, h0, h0', kl]
      omega
  rintro vs h' ⟨rfl, rfl⟩
  by_cases hgo : 0 < m ∧ 0 < l.length
  · simp (disch := first | (simp; done) | omega | (simp only [nx_add, nx_set, nx_kill, nx_mk, nx_emp]; omega) | fail) [g22_j4, hgo]
    refine ⟨fun vs h2 => ∃ lv2, vs = [.ptr sid 0, lv2, I ((m : Int) - 1)] ∧ St h h2 sid L (ch1 L l a').2 lv2 (ch1 L l a').1 (c + 1000), ?_, ?_⟩
    · have c1 := nV_ge L a' (show (1 : Int) ≤ (l.length : Int) by omega)
      have c2 := nV_lt L a' (show (1 : Int) ≤ (l.length : Int) by omega)
      obtain ⟨k, hk⟩ : ∃ k : Nat, nV L a' (l.length : Int) = (k : Int) := ⟨(nV L a' (l.length : Int)).toNat, by omega⟩
      have hkl : k < l.length := by omega
      simp (disch := first | (simp; done) | omega | (simp only [nx_add, nx_set, nx_kill, nx_mk, nx_emp]; omega) | fail) [g22_a2, kl]
      refine N_step st.src (by omega) (by omega) fun h3 hs3 u3 => ?_
      have g3 := (Gr.refl st.gr.wf).upd u3
      have st3 := st.go g3 hs3
      rw [hk]
      obtain ⟨id, cs, rfl, i1, i2, i3, i4, i5, i6, i7⟩ := st3.list.cell k hkl
      rw [kIdxA_rsl (i := (k : Int)) (by omega) (by omega)]
      simp (disch := first | (simp; done) | omega | (simp only [nx_add, nx_set, nx_kill, nx_mk, nx_emp]; omega) | fail) [i3, i6]
      have hk0 : cs[k * 22]'(by omega) = I l[k].kind := by
        rw [List.getElem?_eq_getElem (by omega)] at i6; exact Option.some.inj i6
      rw [hk0]
      have hget : l[(nV L a' (l.length : Int)).toNat]? = some l[k] := by rw [hk]; simp [hkl]
      by_cases q4 : l[k].kind = 4
      · simp (disch := first | (simp; done) | omega | (simp only [nx_add, nx_set, nx_kill, nx_mk, nx_emp]; omega) | fail) [q4]
        refine R_step st3.src (by omega) (by omega) (by omega) rfl fun h4 hs4 u4 => ?_
        simp (disch := first | (simp; done) | omega | (simp only [nx_add, nx_set, nx_kill, nx_mk, nx_emp]; omega) | fail) [g22_s5]
        refine R_step hs4 (by omega) (by omega) (by omega) rfl fun h5 hs5 u5 => ?_
        simp (disch := first | (simp; done) | omega | (simp only [nx_add, nx_set, nx_kill, nx_mk, nx_emp]; omega) | fail) [g22_s4]
        refine N_step hs5 (by omega) (by omega) fun h6 hs6 u6 => ?_
        simp (disch := first | (simp; done) | omega | (simp only [nx_add, nx_set, nx_kill, nx_mk, nx_emp]; omega) | fail) [g22_s3]
        refine N_step hs6 (by omega) (by omega) fun h7 hs7 u7 => ?_
        simp (disch := first | (simp; done) | omega | (simp only [nx_add, nx_set, nx_kill, nx_mk, nx_emp]; omega) | fail) [g22_s2]
        refine N_step hs7 (by omega) (by omega) fun h8 hs8 u8 => ?_
        have st8 := st3.go ((((((Gr.refl st3.gr.wf).upd u4).upd u5).upd u6).upd u7).upd u8) hs8
        have hix : ∀ h : AH, kIdxA h 22 (.rsl id 0 l.length 22) (I k) = some (.ptr id (k * 22), h) := fun h => by
          rw [kIdxA_rsl (i := (k : Int)) (by omega) (by omega)]; simp
        obtain ⟨id', cs8, e0, j1, j2, j3, j4, j5, j6, j7⟩ := st8.list.cell k hkl
        obtain rfl : id = id' := by cases e0; rfl
        have hc1 : ch1 L l a' = (l.set k (filC (chR L (nxA L a')) (nV L (at4 L (nxA L a')) 4)), nxA L (at4 L (nxA L a'))) := by
          unfold ch1; rw [hget]; simp [q4, hk]
        obtain ⟨cs', sp, lv'⟩ := LV.put (x := filC (chR L (nxA L a')) (nV L (at4 L (nxA L a')) 4)) (tc := (filC (chR L (nxA L a')) (nV L (at4 L (nxA L a')) 4)).enc) j1 j2 j4 j5 hkl (by simp) (fun H => by
          rw [FrzL_iff]
          refine ⟨rfl, fun i x y hx hy => ?_⟩
          rw [hx] at hy; cases hy
          exact Cmd.pls _ x (List.mem_of_getElem? hx) H)
        have hfe : (fillC (-20 + nV L (nxA L a') 61) (-20 + nV L (nxA L (nxA L a')) 61) (nV L (nxA L (nxA L (nxA L a'))) 30) (nV L (nxA L (nxA L (nxA L (nxA L a')))) 30) (nV L (nxA L (nxA L (nxA L (nxA L (nxA L a'))))) 4)) = filC (chR L (nxA L a')) (nV L (at4 L (nxA L a')) 4) := rfl
        simp (disch := first | (simp; done) | omega | (simp only [nx_add, nx_set, nx_kill, nx_mk, nx_emp]; omega) | fail) [g22_s1, hix, hfe, j3, sp]
        rw [hc1]
        have hsl := st.slt
        exact (St.mk (hs8.gr (cellsAt_set_ne _ _ _ _ (by omega)) (by simp)) hsl (st8.gr.set _ j1 j2) lv').mono (by omega)
      · simp (disch := first | (simp; done) | omega | (simp only [nx_add, nx_set, nx_kill, nx_mk, nx_emp]; omega) | fail) [q4]
        refine N_step st3.src (by omega) (by omega) fun h4 hs4 u4 => ?_
        have st4 := st3.go ((Gr.refl st3.gr.wf).upd u4) hs4
        by_cases q5 : nV L (nxA L a') 3 = 0
        · simp (disch := first | (simp; done) | omega | (simp only [nx_add, nx_set, nx_kill, nx_mk, nx_emp]; omega) | fail) [q5]
          have hix : ∀ h : AH, kIdxA h 22 (.rsl id 0 l.length 22) (I k) = some (.ptr id (k * 22), h) := fun h => by
            rw [kIdxA_rsl (i := (k : Int)) (by omega) (by omega)]; simp
          obtain ⟨id', cs4, e0, j1, j2, j3, j4, j5, j6, j7⟩ := st4.list.cell k hkl
          obtain rfl : id = id' := by cases e0; rfl
          have hxb := hrb l[k] (List.getElem_mem hkl)
          have hk1 : cs4[k * 22 + 1]'(by omega) = I l[k].r.x := by
            rw [List.getElem?_eq_getElem (by omega)] at j7; exact Option.some.inj j7
          simp (disch := first | (simp; done) | omega | (simp only [nx_add, nx_set, nx_kill, nx_mk, nx_emp]; omega) | fail) [g22_s7, hix, j3, j7]
          rw [hk1]
          have hc1 : ch1 L l a' = (l.set k (upX l[k] (l[k].r.x + 1)), nxA L (nxA L a')) := by
            unfold ch1; rw [hget]; simp [q4, q5, hk, upX]
          obtain ⟨cs', sp, lv'⟩ := LV.put1 (l[k].r.x + 1) j1 j2 j4 j5 hkl
          simp (disch := first | (simp; done) | omega | (simp only [nx_add, nx_set, nx_kill, nx_mk, nx_emp]; omega) | fail) [g22_s6, j3, sp]
          rw [hc1]
          have hsl := st.slt
          exact (St.mk (hs4.gr (cellsAt_set_ne _ _ _ _ (by omega)) (by simp)) hsl (st4.gr.set _ j1 j2) lv').mono (by omega)
        · have hc1 : ch1 L l a' = (l, nxA L (nxA L a')) := by unfold ch1; rw [hget]; simp [q4, q5]
          simp (disch := first | (simp; done) | omega | (simp only [nx_add, nx_set, nx_kill, nx_mk, nx_emp]; omega) | fail) [q5]
          rw [hc1]
          exact st4.mono (by omega)
    rintro vs h2 ⟨lv2, rfl, st2⟩
    simp (disch := first | (simp; done) | omega | (simp only [nx_add, nx_set, nx_kill, nx_mk, nx_emp]; omega) | fail) [g22_j3]
    obtain ⟨m, rfl⟩ : ∃ k, m = k + 1 := ⟨m - 1, by omega⟩
    have hne : l ≠ [] := fun he => by rw [he] at hgo; simp at hgo
    refine ⟨m, by omega, (ch1 L l a').1, (ch1 L l a').2, lv2, c + 1000, ?_, st2, by omega, by omega, by rw [ch1_len]; exact hl100, ?_, ?_⟩
    · rw [show (((m + 1 : Nat) : Int) - 1 - 1) = (m : Int) - 1 by omega]
    · have := ch1_rb L l a' (n := 1000 - ((m + 1 : Nat) : Int)) (by omega) hrb
      intro c hc; have := this c hc; omega
    · rw [← hch]; show _ = chM L (m + 1) l a'; conv => rhs; unfold chM
      rw [if_neg hne]
  · simp (disch := first | (simp; done) | omega | (simp only [nx_add, nx_set, nx_kill, nx_mk, nx_emp]; omega) | fail) [g22_j4, hgo]
    have hF : F = (l, a') := by
      rw [← hch]
      cases m with
      | zero => rfl
      | succ m =>
        have : l = [] := List.length_eq_zero_iff.1 (by omega)
        unfold chM; rw [if_pos this]
    simp (disch := first | (simp; done) | omega | (simp only [nx_add, nx_set, nx_kill, nx_mk, nx_emp]; omega) | fail) [g22_j7, g22_c6, hF]
    exact st.mono (by omega)
theorem ch1_at (L : List Int) (l : List Cmd) {a : Nat} (h : a ≤ L.length) : (ch1 L l a).2 ≤ L.length := by
  unfold ch1
  (repeat' split)
  · exact h
  · exact nxA_le L (at4_le L (nxA_le L h))
  · exact nxA_le L (nxA_le L h)
  · exact nxA_le L (nxA_le L h)
theorem chM_at (L : List Int) : ∀ (k : Nat) (l : List Cmd) (a : Nat), a ≤ L.length → (chM L k l a).2 ≤ L.length
  | 0, l, a, h => h
  | k + 1, l, a, h => by unfold chM; split; exact h; exact chM_at L k _ _ (ch1_at L l h)
theorem chF_at (L : List Int) (l : List Cmd) {a : Nat} (h : a ≤ L.length) : (chF L l a).2 ≤ L.length := chM_at L _ _ _ (nxA_le L h)
theorem chF_len (L : List Int) (l : List Cmd) (a : Nat) : (chF L l a).1.length = l.length := chM_len L _ _ _
theorem ch1_gl (L : List Int) (l : List Cmd) (a : Nat) (h : GlOk l) : GlOk (ch1 L l a).1 := by
  intro c hc
  unfold ch1 at hc
  split at hc
  · exact h c hc
  · rename_i c0 h0
    split at hc
    · rcases List.mem_or_eq_of_mem_set hc with h1 | rfl
      · exact h c h1
      · show (0 : Nat) ≤ 10; omega
    · split at hc
      · rcases List.mem_or_eq_of_mem_set hc with h1 | rfl
        · exact h c h1
        · exact h c0 (List.mem_of_getElem? h0)
      · exact h c hc
theorem chM_gl (L : List Int) : ∀ (k : Nat) (l : List Cmd) (a : Nat), GlOk l → GlOk (chM L k l a).1
  | 0, l, a, h => h
  | k + 1, l, a, h => by unfold chM; split; exact h; exact chM_gl L k _ _ (ch1_gl L l a h)
theorem chF_gl (L : List Int) (l : List Cmd) (a : Nat) (h : GlOk l) : GlOk (chF L l a).1 := chM_gl L _ _ _ h
theorem rM_rb (L : List Int) (a : Nat) : -1000 ≤ (rM L a).x ∧ (rM L a).x ≤ 900 := by
  have b1 := nV_ge L a (show (1 : Int) ≤ 61 by omega)
  have b2 := nV_lt L a (show (1 : Int) ≤ 61 by omega)
  show -1000 ≤ -20 + nV L a 61 ∧ -20 + nV L a 61 ≤ 900
  omega
theorem sM_rb (L : List Int) (o a : Nat) : Rb 900 (sM L o a).1 := by
  have h1 := rM_rb L a
  have h0 : -1000 ≤ zR.x ∧ zR.x ≤ 900 := by decide
  unfold sM
  (repeat' split) <;> intro c hc <;> simp at hc <;> subst hc <;> first | exact h1 | exact h0
theorem Rb.app {n : Int} {a b : List Cmd} (h1 : Rb n a) (h2 : Rb n b) : Rb n (a ++ b) := fun c hc => by
  rcases List.mem_append.1 hc with h | h
  · exact h1 c h
  · exact h2 c h
theorem lM_rb (L : List Int) : ∀ (k : Nat) (l : List Cmd) (o a : Nat), Rb 900 l → Rb 900 (lM L k l o a).1
  | 0, l, o, a, h => h
  | k + 1, l, o, a, h => lM_rb L k _ _ _ (h.app (sM_rb L o a))
theorem cM_rb (L : List Int) (a : Nat) (n : Int) : Rb 900 (cM L a n).1 := by
  refine Rb.app (lM_rb L _ _ _ _ fun c hc => by simp at hc) fun c hc => ?_
  rw [(List.mem_replicate.1 hc).2]
  show -1000 ≤ (0 : Int) ∧ (0 : Int) ≤ 900; omega
def e22 : QE Try.prog := ⟨22, fun args h Q => ∃ sid L a v1 l, args = [.ptr sid 0, v1] ∧ (Src h sid L a ∧ WF h ∧ Lst h 0 v1 l ∧ (∀ id, v1 = .rsl id 0 l.length 22 → id ≠ sid) ∧ l.length ≤ 100 ∧ Rb 900 l) ∧ Q (cmV h (chF L l a).1) (cmH h sid L (chF L l a).2 (chF L l a).1), fun args h Q ⟨sid, L, a, v1, l, h1, ⟨h2, h3, h4, h5, h6, h7⟩, h8⟩ => by
  subst h1; exact ⟨_, _, settleC h3 (changed_c h2 h3 h4 h5 h6 h7) h2.lt, h8⟩⟩
@[simp ↓] theorem e22_t (tl : List (QE Try.prog)) (f : Nat) (args : List AV) (h : AH) (Q : AV → AH → Prop) (hf : 22 ≠ f) : tb (e22 :: tl) f args h Q = tb tl f args h Q := tb_there e22 tl f args h Q hf
theorem H_step {tl : List (QE Try.prog)} {sid : Nat} {L : List Int} {a : Nat} {v1 : AV} {l : List Cmd} {h : AH} {Q : AV → AH → Prop} (hs : Src h sid L a) (hw : WF h) (hl : Lst h 0 v1 l) (hsid : ∀ id, v1 = .rsl id 0 l.length 22 → id ≠ sid) (hn : l.length ≤ 100) (hr : Rb 900 l)
    (hq : ∀ v h1, Src h1 sid L (chF L l a).2 → WF h1 → h.nx ≤ h1.nx → h1.nx ≤ h.nx + 30001 → (∀ i, i ≠ sid → i < h.nx → h1.H.get i = h.H.get i) → Lst h1 h.nx v (chF L l a).1 → Q v h1) : tb (e22 :: tl) 22 [.ptr sid 0, v1] h Q := by
  rw [tb_here e22 tl 22 _ _ _ rfl]
  obtain ⟨k1, k2, k3, k4, k5, k6⟩ := cm_step (l := (chF L l a).1) hw hs (chF L l a).2 (chF_at L l hs.le)
  exact ⟨sid, L, a, v1, l, rfl, ⟨hs, hw, hl, hsid, hn, hr⟩, hq _ _ k1 k2 k3 k4 k5 k6⟩
end Go.Proofs.Ytpnekpbehcbmkaa
end
noncomputable section
namespace Go.Proofs.Ytpnekpbehcbmkaa
open Go.Eng
theorem dmg_len (a b : List Cmd) : (dmg a b).length ≤ a.length + b.length + 4 := by
  have he : evr.length = 4 := rfl
  unfold dmg
  split
  · simp
  split
  · cases hx : exts (dF a b) (dTa a b) [] 0 a [] with
    | none => simp [he]
    | some x =>
      cases hy : exts (dF a b) (dTb a b) [] 0 b [] with
      | none => simp [he]
      | some y =>
        have h1 := exts_len _ _ _ _ _ _ _ hx
        have h2 := exts_len _ _ _ _ _ _ _ hy
        simp at h1 h2 ⊢; omega
  · rw [he]; omega
theorem Lst.lower {h : AH} {lo lo' : Nat} {v : AV} {l : List Cmd} (hl : Lst h lo v l) (hlo : lo' ≤ lo) : Lst h lo' v l := by
  rcases hl with h1 | ⟨id, h1, h2, h3, h4, h5⟩
  · exact .inl h1
  · exact .inr ⟨id, h1, h2, by omega, h4, h5⟩
end Go.Proofs.Ytpnekpbehcbmkaa
end
noncomputable section
namespace Go.Proofs.Ytpnekpbehcbmkaa
open Go.Eng
/-! The law: outside the damage nothing changes. -/
def qu0 : List (QE Try.prog) := [e18, e19, e20, e22, e23o, e25, e15o, e17]
def quI (lo : Nat) (va vb : AV) (a b : List Cmd) (d : List Rect) (m : Nat) (vs : List AV) (hh : AH) : Prop := ∃ i : Nat, i + m = 200 ∧ vs = [va, vb, rects d, I i] ∧ Lst hh lo va a ∧ Lst hh lo vb b ∧ lo ≤ hh.nx
def qvI (va vb : AV) (d : List Rect) (i pid : Nat) (p : Pt) (H : AH) (m : Nat) (vs : List AV) (hh : AH) : Prop := ∃ (k n : Nat) (s : Bool), k ≤ d.length ∧ m = d.length - k ∧ vs = [va, vb, rects d, I i, .ptr pid 0, .bool s, I k] ∧ hh = ⟨H.H, n⟩ ∧ H.nx ≤ n ∧ (s || (d.drop k).any fun r => inR r p) = d.any fun r => inR r p
theorem qu_tail {h : AH} {lo : Nat} {va vb : AV} {a b : List Cmd} (hva : Lst h lo va a) (hvb : Lst h lo vb b) (ha : a.length ≤ 100) (hb : b.length ≤ 100) (ga : GlOk a) (gb : GlOk b) (hlo : lo ≤ h.nx) : g6_j12 (tb qu0) va vb h fun v' h' => Frz h' true v' (.bool true) := by
  have sa := smL_of (by omega) ga
  have sb := smL_of (by omega) gb
  have lta := lite_of (by omega) ga
  have ltb := lite_of (by omega) gb
  simp (disch := first | (simp; done) | omega | (simp only [nx_add, nx_set, nx_kill, nx_mk, nx_emp]; omega) | fail) [g6_j12, qu0]
  refine e23o_h a b hva.frz hvb.frz ⟨lta, ltb⟩ ?_
  have hlaw := quiet_law a b
  have hdl := dmg_len a b
  generalize dmg a b = d at *
  have kl : ∀ h, kLen h (rects d) = some (I d.length, h) := fun h => by simp [rects]
  refine ⟨quI lo va vb a b d, 200, ⟨0, rfl, rfl, hva, hvb, hlo⟩, ?_⟩
  rintro m vs hh ⟨i, him, rfl, hva, hvb, hlo⟩
  by_cases hi : i < 200
  · have hi' : (i : Int) < 200 := by omega
    simp (disch := first | (simp; done) | omega | (simp only [nx_add, nx_set, nx_kill, nx_mk, nx_emp]; omega) | fail) [g6_l9, hi', kArith_rem]
    have x1 := tmod_lt (x := (i : Int) * 13) (show (1 : Int) ≤ 160 by omega)
    have x2 := tmod_gt (x := (i : Int) * 13) (show (1 : Int) ≤ 160 by omega)
    have x3 : 0 ≤ ((i : Int) * 13).tmod 160 := Int.tmod_nonneg _ (by omega)
    have y1 := tmod_lt (x := (i : Int) * 29) (show (1 : Int) ≤ 160 by omega)
    have y2 := tmod_gt (x := (i : Int) * 29) (show (1 : Int) ≤ 160 by omega)
    have y3 : 0 ≤ ((i : Int) * 29).tmod 160 := Int.tmod_nonneg _ (by omega)
    generalize ((i : Int) * 13).tmod 160 = x at *
    generalize ((i : Int) * 29).tmod 160 = y at *
    simp (disch := first | (simp; done) | omega | (simp only [nx_add, nx_set, nx_kill, nx_mk, nx_emp]; omega) | fail)
    simp (disch := first | (simp; done) | omega | (simp only [nx_add, nx_set, nx_kill, nx_mk, nx_emp]; omega) | fail) [g6_s3]
    obtain ⟨H, hH⟩ : ∃ H, H = ((hh.add (.cells [AV.int .i64 0, AV.int .i64 0])).set hh.nx (.cells [AV.int .i64 (x - 60), AV.int .i64 (y - 60)])) := ⟨_, rfl⟩
    rw [← hH]
    have hnH : H.nx = hh.nx + 1 := by subst hH; simp
    have hgH : ∀ j, j < hh.nx → H.H.get j = hh.H.get j := fun j hj => by subst hH; rw [get_set, if_neg (by omega), get_add, if_neg (by omega)]
    have hcH : ∀ n, AH.cellsAt ⟨H.H, n⟩ hh.nx = some [AV.int .i64 (x - 60), AV.int .i64 (y - 60)] := fun n => by
      show H.cellsAt hh.nx = _
      subst hH; exact cellsAt_set_self _ _ _ _ rfl
    clear hH
    have hp : okP ⟨x - 60, y - 60⟩ = true := by simp [okP, within]; omega
    have hev : ∃ r ∈ evr, inR r ⟨x - 60, y - 60⟩ = true := by
      by_cases z1 : x - 60 < 0 <;> by_cases z2 : y - 60 < 0
      · exact ⟨⟨-1048576, -1048576, 1048576, 1048576⟩, by simp [evr], by simp [inR, okR, within]; omega⟩
      · exact ⟨⟨-1048576, 0, 1048576, 1048576⟩, by simp [evr], by simp [inR, okR, within]; omega⟩
      · exact ⟨⟨0, -1048576, 1048576, 1048576⟩, by simp [evr], by simp [inR, okR, within]; omega⟩
      · exact ⟨⟨0, 0, 1048576, 1048576⟩, by simp [evr], by simp [inR, okR, within]; omega⟩
    have hpx := hlaw ⟨x - 60, y - 60⟩ hp hev
    refine ⟨qvI va vb d i hh.nx ⟨x - 60, y - 60⟩ H, d.length, ⟨0, H.nx, false, by omega, rfl, rfl, rfl, Nat.le_refl _, by simp⟩, ?_⟩
    rintro m2 vs h2 ⟨k, n, s, hk, rfl, rfl, rfl, hn, hs⟩
    by_cases hkl : k < d.length
    · have hkl' : (k : Int) < d.length := by omega
      have hix : ∀ h, kIdxA h 4 (rects d) (I k) = some (.pptr d[k].enc, h) := fun h => kIdxA_psl (by simp [hkl]) (Rect.len _)
      simp (disch := first | (simp; done) | omega | (simp only [nx_add, nx_set, nx_kill, nx_mk, nx_emp]; omega) | fail) [g6_l4, kl, hkl']
      refine ⟨fun vs h3 => vs = [va, vb, rects d, I i, .ptr hh.nx 0, .bool (s || inR d[k] ⟨x - 60, y - 60⟩), I k] ∧ h3 = ⟨H.H, n + 10⟩, ?_, ?_⟩
      · cases s
        · simp (disch := first | (simp; done) | omega | (simp only [nx_add, nx_set, nx_kill, nx_mk, nx_emp]; omega) | fail) [g6_a2, hix, hcH]
          simp (disch := first | (simp; done) | omega | (simp only [nx_add, nx_set, nx_kill, nx_mk, nx_emp]; omega) | fail) [g6_s1]
        · simp (disch := first | (simp; done) | omega | (simp only [nx_add, nx_set, nx_kill, nx_mk, nx_emp]; omega) | fail) [g6_a2]
          simp (disch := first | (simp; done) | omega | (simp only [nx_add, nx_set, nx_kill, nx_mk, nx_emp]; omega) | fail) [g6_s1]
      rintro vs h3 ⟨rfl, rfl⟩
      simp (disch := first | (simp; done) | omega | (simp only [nx_add, nx_set, nx_kill, nx_mk, nx_emp]; omega) | fail) [g6_j3]
      refine ⟨d.length - (k + 1), by omega, k + 1, n + 10, _, by omega, rfl, rfl, rfl, by omega, ?_⟩
      rw [List.drop_eq_getElem_cons hkl, List.any_cons] at hs
      rw [← hs, Bool.or_assoc]
    · have hkl' : ¬ (k : Int) < d.length := by omega
      have hkd : k = d.length := by omega
      rw [hkd, List.drop_length] at hs
      simp only [List.any_nil, Bool.or_false] at hs
      simp (disch := first | (simp; done) | omega | (simp only [nx_add, nx_set, nx_kill, nx_mk, nx_emp]; omega) | fail) [g6_l4, kl, hkl']
      simp (disch := first | (simp; done) | omega | (simp only [nx_add, nx_set, nx_kill, nx_mk, nx_emp]; omega) | fail) [g6_j8, g6_c7]
      have keep : ∀ {v : AV} {l : List Cmd}, Lst hh lo v l → ∀ n', hh.nx ≤ n' → Lst ⟨H.H, n'⟩ lo v l := fun hl n' hn' => hl.keep hn' fun j _ hj => hgH j hj
      refine ⟨fun vs h3 => vs = [va, vb, rects d, I i, .bool false] ∧ h3 = ⟨H.H, n + 11⟩, ?_, ?_⟩
      · cases s
        · have hpe := hpx (fun r hr => by
            have := hs.symm
            rw [List.any_eq_false] at this
            simpa using this r hr)
          simp (disch := first | (simp; done) | omega | (simp only [nx_add, nx_set, nx_kill, nx_mk, nx_emp]; omega) | fail) [g6_a5, hcH]
          refine e15o_h a ⟨x - 60, y - 60⟩ rfl (keep hva _ (by omega)).frz sa ⟨Nat.le_refl _, ?_⟩
          simp (disch := first | (simp; done) | omega | (simp only [nx_add, nx_set, nx_kill, nx_mk, nx_emp]; omega) | fail) [hcH]
          simp (disch := first | (simp; done) | omega | (simp only [nx_add, nx_set, nx_kill, nx_mk, nx_emp]; omega) | fail) [g6_s2]
          refine e15o_h b ⟨x - 60, y - 60⟩ rfl (keep hvb _ (by omega)).frz sb ⟨Nat.le_refl _, ?_⟩
          simp (disch := first | (simp; done) | omega | (simp only [nx_add, nx_set, nx_kill, nx_mk, nx_emp]; omega) | fail) [hpe]
        · simp (disch := first | (simp; done) | omega | (simp only [nx_add, nx_set, nx_kill, nx_mk, nx_emp]; omega) | fail) [g6_a5]
          simp (disch := first | (simp; done) | omega | (simp only [nx_add, nx_set, nx_kill, nx_mk, nx_emp]; omega) | fail) [g6_s2]
      rintro vs h3 ⟨rfl, rfl⟩
      simp (disch := first | (simp; done) | omega | (simp only [nx_add, nx_set, nx_kill, nx_mk, nx_emp]; omega) | fail) [g6_j6]
      exact ⟨m - 1, by omega, i + 1, by omega, rfl, keep hva _ (by omega), keep hvb _ (by omega), by show lo ≤ n + 11; omega⟩
  · have hi' : ¬ (i : Int) < 200 := by omega
    simp (disch := first | (simp; done) | omega | (simp only [nx_add, nx_set, nx_kill, nx_mk, nx_emp]; omega) | fail) [g6_l9, hi']
    simp (disch := first | (simp; done) | omega | (simp only [nx_add, nx_set, nx_kill, nx_mk, nx_emp]; omega) | fail) [g6_j11, g6_c10]
theorem quiet_f (l : List Int) (hl : SmX l) : Fresh Try.prog 6 [ints l] (.bool true) := by
  refine C6 (tb_ok qu0) ?_
  simp (disch := first | (simp; done) | omega | (simp only [nx_add, nx_set, nx_kill, nx_mk, nx_emp]; omega) | fail) [g6, qu0]
  refine e18_h hl ?_
  have w1 : WF (emp.add (.cells (srcC (newL l) 0))) := WF.emp.add _
  have s1 : Src (emp.add (.cells (srcC (newL l) 0))) emp.nx (newL l) 0 := ⟨cellsAt_add_self _ _ _ rfl, by omega, newL_ok l, by simp⟩
  generalize emp.add (.cells (srcC (newL l) 0)) = h1 at *
  generalize emp.nx = sid at *
  generalize newL l = L at *
  try simp (disch := first | (simp; done) | omega | (simp only [nx_add, nx_set, nx_kill, nx_mk, nx_emp]; omega) | fail)
  refine C_step s1 w1 (by omega) (by omega) fun v h2 s2 w2 n2 n2' g2 l2 => ?_
  have alen := cM_len L 0 12 (by omega) (by omega)
  have agl := cM_gl L 0 12
  have arb := cM_rb L 0 12
  generalize (cM L 0 12).1 = a at *
  generalize (cM L 0 12).2 = a0 at *
  have hslt := s1.lt
  try simp (disch := first | (simp; done) | omega | (simp only [nx_add, nx_set, nx_kill, nx_mk, nx_emp]; omega) | fail)
  refine H_step s2 w2 (l2.lower (by omega)) (fun id hid => ?_) (by omega) arb fun v3 h3 s3 w3 n3 n3' g3 l3 => ?_
  · rcases l2 with ⟨h0, _⟩ | ⟨id', h0, _, k1, _⟩
    · rw [h0] at hid; cases hid
    · rw [h0] at hid; cases hid; omega
  have clen := chF_len L a a0
  have cgl := chF_gl L a a0 agl
  generalize (chF L a a0).1 = c at *
  generalize (chF L a a0).2 = a1 at *
  try simp (disch := first | (simp; done) | omega | (simp only [nx_add, nx_set, nx_kill, nx_mk, nx_emp]; omega) | fail)
  refine N_step s3 (by omega) (by omega) fun h4 s4 u4 => ?_
  have la4 : Lst h4 h1.nx v a := (l2.keep n3 fun i hi hil => g3 i (by omega) hil).keep u4.lo fun i hi hil => u4.get i (by omega) hil
  have lc4 : Lst h4 h2.nx v3 c := l3.keep u4.lo fun i hi hil => u4.get i (by omega) hil
  have w4 := u4.wf w3
  have u4lo := u4.lo
  try simp (disch := first | (simp; done) | omega | (simp only [nx_add, nx_set, nx_kill, nx_mk, nx_emp]; omega) | fail)
  refine ⟨fun vs hh => ∃ v5 b, vs = [v, v5] ∧ Lst hh h1.nx v a ∧ Lst hh h1.nx v5 b ∧ b.length ≤ 100 ∧ GlOk b ∧ h1.nx ≤ hh.nx, ?_, ?_⟩
  · by_cases q : nV L a1 4 = 0
    · simp (disch := first | (simp; done) | omega | (simp only [nx_add, nx_set, nx_kill, nx_mk, nx_emp]; omega) | fail) [g6_a1, q]
      refine C_step s4 w4 (by omega) (by omega) fun v5 h5 s5 w5 n5 n5' g5 l5 => ?_
      have dlen := cM_len L (nxA L a1) 12 (by omega) (by omega)
      have dgl := cM_gl L (nxA L a1) 12
      exact ⟨la4.keep n5 fun i hi hil => g5 i (by omega) hil, _, l5.lower (by omega), by omega, dgl, by omega⟩
    · simp (disch := first | (simp; done) | omega | (simp only [nx_add, nx_set, nx_kill, nx_mk, nx_emp]; omega) | fail) [g6_a1, q]
      exact ⟨la4, c, lc4.lower (by omega), by omega, cgl, by omega⟩
  · rintro vs hh ⟨v5, b, rfl, la, lb, hb, gb, hlo⟩
    exact qu_tail la lb (by omega) hb agl gb hlo
end Go.Proofs.Ytpnekpbehcbmkaa
end
