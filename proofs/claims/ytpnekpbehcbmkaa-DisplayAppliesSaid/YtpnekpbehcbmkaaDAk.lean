/- What the reference's performing of splices answers: that of the program. What the law DisplayApplies computes. -/
import Derived.Test.YtpnekpbehcbmkaaDAh
set_option linter.unusedSimpArgs false
set_option linter.unusedVariables false
set_option linter.unnecessarySimpa false
noncomputable section
namespace Go.Proofs.Ytpnekpbehcbmkaa
open Go.Eng
/-! The reference's performing of splices: that of the program. -/
theorem app_any {h : AH} {vd vs : AV} {x y : List Cmd} (hd : OLo h vd x) (hw : WF h) (hc : acells h 22 vs = some (flatC y)) (hl : alen vs = some y.length) (hx : x.length + y.length ≤ 1000000) :
    ∃ v h', kApp h 22 200 vd vs = some (v, h') ∧ OLo h' v (x ++ y) ∧ WF h' ∧ h.nx ≤ h'.nx ∧ (∀ id n, v = .rsl id 0 n 22 → h.nx ≤ id) ∧ ∀ i, i < h.nx → (∀ n, vd ≠ .rsl i 0 n 22) → h'.H.get i = h.H.get i := by
  have hon : ones (flatC y) = true := ones_flat Cmd.ones y
  rcases hd with ⟨rfl, rfl⟩ | ⟨id, rfl, hid, hcs⟩
  · by_cases hy : y.length = 0
    · have hy0 : y = [] := List.length_eq_zero_iff.1 hy
      subst hy0
      refine ⟨.nilsl, h, ?_, .inl ⟨rfl, rfl⟩, hw, Nat.le_refl _, (fun id n he => by cases he), fun _ _ _ => rfl⟩
      have : flatC [] = [] := rfl
      simp [kApp, aapp, hc, hl, this, ones]
    · have hro : roomy y.length 200 = true := roomy_ok _ _ (by omega) (by omega)
      refine ⟨.rsl h.nx 0 y.length 22, h.add (.cells (flatC y)), ?_, .inr ⟨h.nx, by simp, by simp, by simp⟩, hw.add _, by simp, (fun id n he => by cases he; exact Nat.le_refl _), fun i hi _ => by rw [get_add, if_neg (by omega)]⟩
      simp [kApp, aapp, hc, hl, hon, hy, hro]
  · have hro : roomy (x.length + y.length) 200 = true := roomy_ok _ _ (by omega) (by omega)
    have hcut : cut (flatC x) 0 (x.length * 22) = some (flatC x) := by
      have := flat_take x x.length (Nat.le_refl _)
      rwa [List.take_length] at this
    have hfa : flatC (x ++ y) = flatC x ++ flatC y := by simp [flatC]
    refine ⟨.rsl h.nx 0 (x.length + y.length) 22, (h.kill id).add (.cells (flatC x ++ flatC y)), ?_, .inr ⟨h.nx, by simp, by simp, by rw [hfa]; simp⟩, (hw.kill id).add _, by simp, (fun id n he => by cases he; exact Nat.le_refl _), fun i hi hn => ?_⟩
    · simp [kApp, aapp, hc, hl, hon, hro, hcs, hcut]
    · have : i ≠ id := fun e => hn _ (by rw [e])
      rw [get_add, if_neg (by simp; omega), get_kill, if_neg this]
/-- a list, frozen or owned -/
def VL (h : AH) (v : AV) (l : List Cmd) : Prop := v = cmds l ∨ OLo h v l
theorem VL.klen {h h' : AH} {v : AV} {l : List Cmd} (hl : VL h v l) : kLen h' v = some (I l.length, h') := by
  rcases hl with rfl | hl
  · simp [cmds]
  · exact hl.klen
theorem VL.frz {h : AH} {v : AV} {l : List Cmd} (hl : VL h v l) : Frz h false v (cmds l) := by
  rcases hl with rfl | hl
  · exact cmds_pl l h
  · exact hl.frz
theorem VL.keep {h h' : AH} {v : AV} {l : List Cmd} (hl : VL h v l) (hn : h.nx ≤ h'.nx) (hg : ∀ i, i < h.nx → h'.H.get i = h.H.get i) : VL h' v l := by
  rcases hl with h1 | hl
  · exact .inl h1
  · exact .inr (hl.keep hn hg)
theorem cmds_cells (h : AH) (l : List Cmd) : acells h 22 (cmds l) = some (flatC l) := by
  have : (l.map Cmd.enc).all (fun x => x.length == 22) = true := by simp
  simp only [acells, cmds]
  rw [if_pos this]; rfl
theorem flat_drop (l : List Cmd) (k : Nat) (hk : k ≤ l.length) : cut (flatC l) (k * 22) ((l.length - k) * 22) = some (flatC (l.drop k)) := by
  have h1 : flatC l = flatC (l.take k) ++ flatC (l.drop k) := by
    unfold flatC; rw [← List.flatten_append, ← List.map_append, List.take_append_drop]
  have l1 : (flatC (l.take k)).length = k * 22 := by unfold flatC; rw [flat_len Cmd.len]; simp; omega
  have l2 : (flatC (l.drop k)).length = (l.length - k) * 22 := by unfold flatC; rw [flat_len Cmd.len]; simp
  unfold cut
  rw [h1, if_pos (by simp; omega), List.drop_left' l1, List.take_of_length_le (by omega)]
/-- the first k elements, as a source -/
theorem VL.pre {h : AH} {v : AV} {l : List Cmd} (hl : VL h v l) {k : Nat} (hk : k ≤ l.length) : ∃ v', (∀ h', kSl h' 22 v none (some (I k)) none = some (v', h')) ∧ alen v' = some (l.take k).length ∧ ∀ h', h.nx ≤ h'.nx → (∀ i, i < h.nx → h'.H.get i = h.H.get i) → acells h' 22 v' = some (flatC (l.take k)) := by
  have q2 : (k : Int) ≤ l.length := by omega
  have hkl : (l.take k).length = k := by simp; omega
  rcases hl with rfl | ⟨rfl, rfl⟩ | ⟨id, rfl, hid, hc⟩
  · have hall : (l.map Cmd.enc).all (fun x => x.length == 22) = true := by simp
    refine ⟨cmds (l.take k), fun h' => ?_, by simp [alen, cmds], fun h' _ _ => cmds_cells h' _⟩
    simp [kSl, aslice, asl, alen, abd, aidx, cmds, q2]
  · have hk0 : k = 0 := by simpa using hk
    subst hk0
    exact ⟨.nilsl, fun h' => by simp [kSl, aslice, asl, alen, abd, aidx], rfl, fun _ _ _ => rfl⟩
  · refine ⟨.rsl id 0 k 22, fun h' => by rw [kSl_hi _ _ _ _ _ _ (by omega) q2]; simp, by rw [hkl]; rfl, fun h' _ hg => ?_⟩
    have hc' : h'.cellsAt id = some (flatC l) := by rw [cellsAt_congr (hg id hid)]; exact hc
    simp [acells, hc', flat_take l k hk]
theorem VL.suf {h : AH} {v : AV} {l : List Cmd} (hl : VL h v l) {k : Nat} (hk : k ≤ l.length) : ∃ v', (∀ h', kSl h' 22 v (some (I k)) none none = some (v', h')) ∧ alen v' = some (l.drop k).length ∧ ∀ h', h.nx ≤ h'.nx → (∀ i, i < h.nx → h'.H.get i = h.H.get i) → acells h' 22 v' = some (flatC (l.drop k)) := by
  have q2 : (k : Int) ≤ l.length := by omega
  rcases hl with rfl | ⟨rfl, rfl⟩ | ⟨id, rfl, hid, hc⟩
  · have hall : (l.map Cmd.enc).all (fun x => x.length == 22) = true := by simp
    refine ⟨cmds (l.drop k), fun h' => ?_, by simp [alen, cmds], fun h' _ _ => cmds_cells h' _⟩
    have : ((l.map Cmd.enc).drop k).take (l.length - k) = (l.drop k).map Cmd.enc := by rw [List.take_of_length_le (by simp), List.map_drop]
    simp [kSl, aslice, asl, alen, abd, aidx, cmds, q2, this]
  · have hk0 : k = 0 := by simpa using hk
    subst hk0
    exact ⟨.nilsl, fun h' => by simp [kSl, aslice, asl, alen, abd, aidx], rfl, fun _ _ _ => rfl⟩
  · refine ⟨.rsl id (0 + k * 22) (l.length - k) 22, fun h' => by simp [kSl, aslice, asl, alen, abd, aidx, q2], by simp [alen], fun h' _ hg => ?_⟩
    have hc' : h'.cellsAt id = some (flatC l) := by rw [cellsAt_congr (hg id hid)]; exact hc
    simp [acells, hc', flat_drop l k hk]
def apJ (d : List Spl) (v : AV) (R : Int × List Cmd) (m : Nat) (vs : List AV) (h : AH) : Prop := ∃ (i : Nat) (out : List Cmd) (vo : AV), i ≤ d.length ∧ m = d.length - i ∧ vs = [vo, v, I i] ∧ VL h vo out ∧ WF h ∧ out.length ≤ 100000 ∧ apS out (d.drop i) = R
theorem rapply_s (a : List Cmd) (d : List Spl) (v : AV) (hv : sV d v) (ha : Lite a) (hd : ∀ s ∈ d, Lite s.L) (hdl : SmX d) : Pure Try.prog 32 [cmds a, v] (apR a d) := by
  refine .of (by simp [cmds_cl, hv.cl]) (C32 (tb_ok []) ?_)
  have kl := fun h => hv.klen h
  unfold SmX at hdl
  simp (disch := first | (simp; done) | omega | (simp only [nx_add, nx_set, nx_kill, nx_mk, nx_emp]; omega) | fail) [g32]
  refine ⟨apJ d v (apS a d), d.length, ⟨0, a, cmds a, by omega, rfl, rfl, .inl rfl, WF.emp, ha.1, rfl⟩, ?_⟩
  have hR : apR a d = .tup [cmds (apS a d).2, I (apS a d).1] := rfl
  rw [hR]
  generalize apS a d = R
  rintro m vs h ⟨i, out, vo, hi, rfl, rfl, ho, hw, hol, hap⟩
  by_cases hlt : i < d.length
  · have hlt' : (i : Int) < d.length := by omega
    have hix := fun h => hv.ix hlt h
    have hdr : d.drop i = d[i] :: d.drop (i + 1) := List.drop_eq_getElem_cons hlt
    have hsm := hd d[i] (List.getElem_mem hlt)
    obtain ⟨s, hs⟩ : ∃ s, s = d[i] := ⟨_, rfl⟩
    rw [hdr, ← hs] at hap
    rw [← hs] at hix hsm
    have ho' : ∀ h, kLen h vo = some (I out.length, h) := fun h => ho.klen
    simp (disch := first | (simp; done) | omega | (simp only [nx_add, nx_set, nx_kill, nx_mk, nx_emp]; omega) | fail) [g32_l3, kl, hlt', hix]
    obtain ⟨H, hH⟩ : ∃ H, H = (h.add (.cells [AV.int .i64 0, AV.int .i64 0, AV.nilsl])).set h.nx (.cells s.enc) := ⟨_, rfl⟩
    rw [← hH]
    have hnH : H.nx = h.nx + 1 := by subst hH; simp
    have hgH : ∀ j, j < h.nx → H.H.get j = h.H.get j := fun j hj => by subst hH; rw [get_set, if_neg (by omega), get_add, if_neg (by omega)]
    have hcH : ∀ n, AH.cellsAt ⟨H.H, n⟩ h.nx = some s.enc := fun n => by
      show H.cellsAt h.nx = _
      subst hH; exact cellsAt_set_self _ _ _ _ rfl
    have hcH0 : H.cellsAt h.nx = some s.enc := hcH H.nx
    have hwH : WF H := by subst hH; exact (hw.add _).set _ (by simp) _
    have hoH : VL H vo out := ho.keep (by omega) hgH
    clear hH
    refine ⟨fun vs h' => vs = [vo, v, I i, .ptr h.nx 0, .bool (badS s out)] ∧ h' = H, ?_, ?_⟩
    · by_cases q1 : s.at' < 0
      · have hb : badS s out = true := by simp [badS, q1]
        simp (disch := first | (simp; done) | omega | (simp only [nx_add, nx_set, nx_kill, nx_mk, nx_emp]; omega) | fail) [g32_a1, hcH0, q1, hb]
        simp (disch := first | (simp; done) | omega | (simp only [nx_add, nx_set, nx_kill, nx_mk, nx_emp]; omega) | fail) [g32_s2, hb]
        simp (disch := first | (simp; done) | omega | (simp only [nx_add, nx_set, nx_kill, nx_mk, nx_emp]; omega) | fail) [g32_s1, hb]
      · by_cases q2 : s.cnt < 0
        · have hb : badS s out = true := by simp [badS, q2]
          simp (disch := first | (simp; done) | omega | (simp only [nx_add, nx_set, nx_kill, nx_mk, nx_emp]; omega) | fail) [g32_a1, hcH0, q1, q2, hb]
          simp (disch := first | (simp; done) | omega | (simp only [nx_add, nx_set, nx_kill, nx_mk, nx_emp]; omega) | fail) [g32_s2, hb]
          simp (disch := first | (simp; done) | omega | (simp only [nx_add, nx_set, nx_kill, nx_mk, nx_emp]; omega) | fail) [g32_s1, hb]
        · by_cases q3 : (out.length : Int) < s.at'
          · have hb : badS s out = true := by simp [badS, q3]
            simp (disch := first | (simp; done) | omega | (simp only [nx_add, nx_set, nx_kill, nx_mk, nx_emp]; omega) | fail) [g32_a1, hcH0, q1, q2, hb]
            simp (disch := first | (simp; done) | omega | (simp only [nx_add, nx_set, nx_kill, nx_mk, nx_emp]; omega) | fail) [g32_s2, hcH0, ho', q3, hb]
            simp (disch := first | (simp; done) | omega | (simp only [nx_add, nx_set, nx_kill, nx_mk, nx_emp]; omega) | fail) [g32_s1, hb]
          · by_cases q4 : (out.length : Int) - s.at' < s.cnt
            · have hb : badS s out = true := by simp [badS, q4]
              simp (disch := first | (simp; done) | omega | (simp only [nx_add, nx_set, nx_kill, nx_mk, nx_emp]; omega) | fail) [g32_a1, hcH0, q1, q2, hb]
              simp (disch := first | (simp; done) | omega | (simp only [nx_add, nx_set, nx_kill, nx_mk, nx_emp]; omega) | fail) [g32_s2, hcH0, ho', q3, hb]
              simp (disch := first | (simp; done) | omega | (simp only [nx_add, nx_set, nx_kill, nx_mk, nx_emp]; omega) | fail) [g32_s1, hcH0, ho', q4, hb]
            · have hb : badS s out = false := by simp [badS]; omega
              simp (disch := first | (simp; done) | omega | (simp only [nx_add, nx_set, nx_kill, nx_mk, nx_emp]; omega) | fail) [g32_a1, hcH0, q1, q2, hb]
              simp (disch := first | (simp; done) | omega | (simp only [nx_add, nx_set, nx_kill, nx_mk, nx_emp]; omega) | fail) [g32_s2, hcH0, ho', q3, hb]
              simp (disch := first | (simp; done) | omega | (simp only [nx_add, nx_set, nx_kill, nx_mk, nx_emp]; omega) | fail) [g32_s1, hcH0, ho', q4, hb]
    rintro vs h' ⟨rfl, rfl⟩
    unfold apS at hap
    cases hb : badS s out
    · have hbb : ¬ s.at' < 0 ∧ ¬ s.cnt < 0 ∧ ¬ (out.length : Int) < s.at' ∧ ¬ (out.length : Int) - s.at' < s.cnt := by
        simp [badS] at hb; omega
      obtain ⟨b1, b2, b3, b4⟩ := hbb
      obtain ⟨x, hx⟩ : ∃ x : Nat, s.at' = (x : Int) := ⟨s.at'.toNat, by omega⟩
      obtain ⟨y, hy⟩ : ∃ y : Nat, s.cnt = (y : Int) := ⟨s.cnt.toNat, by omega⟩
      have hkl2 : ∀ h, kLen h (cmds s.L) = some (I s.L.length, h) := fun h => by simp [cmds]
      have hsl := hsm.1
      rw [hb] at hap
      simp only [Bool.false_eq_true, if_false] at hap
      rw [hx, hy] at hap
      simp only [Int.toNat_natCast] at hap
      simp (disch := first | (simp; done) | omega | (simp only [nx_add, nx_set, nx_kill, nx_mk, nx_emp]; omega) | fail) [g32_j2, ho', hcH0, hkl2]
      have hcg0 : h'.cellsAt h.nx = some [I (x : Int), I (y : Int), cmds s.L] := by rw [hcH0, Spl.enc, hx, hy]
      have hcg : ∀ n, AH.cellsAt ⟨h'.H, n⟩ h.nx = some [I (x : Int), I (y : Int), cmds s.L] := fun n => by rw [hcH n, Spl.enc, hx, hy]
      rw [hy]
      by_cases hbig : 20000 < out.length - y + s.L.length
      · have hbig' : (20000 : Int) < (out.length : Int) - (y : Int) + s.L.length := by omega
        rw [if_pos hbig] at hap
        simp (disch := first | (simp; done) | omega | (simp only [nx_add, nx_set, nx_kill, nx_mk, nx_emp]; omega) | fail) [g32_s5, hbig']
        simp (disch := first | (simp; done) | omega | (simp only [nx_add, nx_set, nx_kill, nx_mk, nx_emp]; omega) | fail) [g32_j5, ← hap]
        exact .nilsl
      · have hbig' : ¬ (20000 : Int) < (out.length : Int) - (y : Int) + s.L.length := by omega
        rw [if_neg hbig] at hap
        obtain ⟨u1, hs1, hl1, hc1⟩ := hoH.pre (k := x) (by omega)
        obtain ⟨u2, hs2, hl2, hc2⟩ := hoH.suf (k := x + y) (by omega)
        simp (disch := first | (simp; done) | omega | (simp only [nx_add, nx_set, nx_kill, nx_mk, nx_emp]; omega) | fail) [g32_s5, hbig', hcg, hs1]
        have wB : WF ⟨h'.H, h'.nx + 17⟩ := hwH.bump _ (by omega)
        obtain ⟨v1, h1, q1, o1, w1, n1, f1, g1⟩ := app_any (h := ⟨h'.H, h'.nx + 17⟩) (vd := .nilsl) (x := []) (.inl ⟨rfl, rfl⟩) wB (hc1 _ (by show h'.nx ≤ h'.nx + 17; omega) (fun _ _ => rfl)) hl1 (by simp; omega)
        have n1' : h'.nx + 17 ≤ h1.nx := n1
        have G1 : ∀ j, j < h'.nx → h1.H.get j = h'.H.get j := fun j hj => g1 j (by show j < h'.nx + 17; omega) (fun n he => by cases he)
        refine wde_of q1 n1 ?_
        have hcg1 : h1.cellsAt h.nx = some [I (x : Int), I (y : Int), cmds s.L] := by rw [cellsAt_congr (G1 h.nx (by omega))]; exact hcg0
        simp (disch := first | (simp; done) | omega | (simp only [nx_add, nx_set, nx_kill, nx_mk, nx_emp]; omega) | fail) [hcg1]
        simp (disch := first | (simp; done) | omega | (simp only [nx_add, nx_set, nx_kill, nx_mk, nx_emp]; omega) | fail) [g32_s4]
        obtain ⟨v2, h2, q2, o2, w2, n2, f2, g2⟩ := app_any o1 w1 (cmds_cells h1 s.L) (by simp [alen, cmds]) (by simp; omega)
        have G2 : ∀ j, j < h'.nx → h2.H.get j = h1.H.get j := fun j hj => g2 j (by omega) (fun n he => by
          have h5 : h'.nx + 17 ≤ j := f1 j n he
          omega)
        refine wde_of q2 n2 ?_
        have hcg2 : h2.cellsAt h.nx = some [I (x : Int), I (y : Int), cmds s.L] := by rw [cellsAt_congr (G2 h.nx (by omega))]; exact hcg1
        have hs2' : ∀ h, kSl h 22 vo (some (.int .i64 ((x : Int) + (y : Int)))) none none = some (u2, h) := fun h => by
          have := hs2 h
          rwa [show ((x + y : Nat) : Int) = (x : Int) + (y : Int) by omega] at this
        simp (disch := first | (simp; done) | omega | (simp only [nx_add, nx_set, nx_kill, nx_mk, nx_emp]; omega) | fail) [hcg2, hs2']
        simp (disch := first | (simp; done) | omega | (simp only [nx_add, nx_set, nx_kill, nx_mk, nx_emp]; omega) | fail) [g32_s3]
        obtain ⟨v3, h3, q3, o3, w3, n3, f3, g3⟩ := app_any o2 w2 (hc2 h2 (by omega) (fun j hj => (G2 j hj).trans (G1 j hj))) hl2 (by simp; omega)
        refine wde_of q3 n3 ?_
        have R1 : recOk (.eff ⟨h'.H, h'.nx + 17⟩ h1) (.read h.nx) = true := recOk_rd' (G1 h.nx (by omega)).symm
        have R2 : recOk (.eff h1 h2) (.read h.nx) = true := recOk_rd' (G2 h.nx (by omega)).symm
        simp (disch := first | (simp; done) | omega | (simp only [nx_add, nx_set, nx_kill, nx_mk, nx_emp]; omega) | fail) [R1, R2]
        exact ⟨d.length - (i + 1), by omega, i + 1, _, v3, by omega, rfl, by simp, .inr o3, w3, by simp; omega, by simpa using hap⟩
    · rw [hb] at hap
      simp only [if_true] at hap
      simp (disch := first | (simp; done) | omega | (simp only [nx_add, nx_set, nx_kill, nx_mk, nx_emp]; omega) | fail) [g32_j2]
      simp (disch := first | (simp; done) | omega | (simp only [nx_add, nx_set, nx_kill, nx_mk, nx_emp]; omega) | fail) [g32_j5, ← hap]
      exact .nilsl
  · have hil : i = d.length := by omega
    subst hil
    rw [List.drop_length] at hap
    unfold apS at hap
    have hlt' : ¬ (d.length : Int) < d.length := by omega
    simp (disch := first | (simp; done) | omega | (simp only [nx_add, nx_set, nx_kill, nx_mk, nx_emp]; omega) | fail) [g32_l3, kl]
    simp (disch := first | (simp; done) | omega | (simp only [nx_add, nx_set, nx_kill, nx_mk, nx_emp]; omega) | fail) [g32_j5, g32_c4, ← hap]
    exact ho.frz
end Go.Proofs.Ytpnekpbehcbmkaa
end
noncomputable section
namespace Go.Proofs.Ytpnekpbehcbmkaa
open Go.Eng
/-! The law: splices are performed as the reference performs them. -/
theorem apS_mem {P : Cmd → Prop} : ∀ (d : List Spl) (out : List Cmd), (∀ c ∈ out, P c) → (∀ s ∈ d, ∀ c ∈ s.L, P c) → ∀ c ∈ (apS out d).2, P c
  | [], out, h1, _ => by simpa [apS] using h1
  | s :: r, out, h1, h2 => by
    unfold apS
    split
    · simp
    split
    · simp
    · refine apS_mem r _ (fun c hc => ?_) fun t ht => h2 t (List.mem_cons_of_mem _ ht)
      rcases List.mem_append.1 hc with hc | hc
      · rcases List.mem_append.1 hc with hc | hc
        · exact h1 c (List.mem_of_mem_take hc)
        · exact h2 s (List.mem_cons_self ..) c hc
      · exact h1 c (List.mem_of_mem_drop hc)
theorem apS_len : ∀ (d : List Spl) (out : List Cmd), out.length ≤ 100000 → (apS out d).2.length ≤ 100000
  | [], out, h => by simpa [apS] using h
  | s :: r, out, h => by
    unfold apS
    cases hb : badS s out
    · simp only [Bool.false_eq_true, if_false]
      split
      · simp
      · rename_i hn
        simp [badS] at hb
        refine apS_len r _ ?_
        simp; omega
    · simp
theorem apS_sm {a : List Cmd} {d : List Spl} (ha : Lite a) (hd : ∀ s ∈ d, Lite s.L) : SmL (apS a d).2 := by
  refine ⟨by have := apS_len d a ha.1; unfold Sm; omega, fun c hc => ?_⟩
  have := apS_mem (P := fun c => c.line.gl.length ≤ 1000) d a ha.2 (fun s hs => (hd s hs).2) c hc
  unfold SmC Sm; omega
def e28s : QE Try.prog := ⟨28, fun args h Q => ∃ a d, args = [cmds a, spls d] ∧ (Lite a ∧ (∀ s ∈ d, Lite s.L) ∧ SmX d) ∧ Q (apR a d) h, fun args h Q ⟨a, d, h1, h2, h3⟩ => by
  subst h1; exact ⟨_, _, apply_s a d _ (.inr rfl) h2.1 h2.2.1 h2.2.2 h, h3⟩⟩
theorem e28s_h {tl : List (QE Try.prog)} {a : List Cmd} {d : List Spl} {h : AH} {Q : AV → AH → Prop} (h2 : Lite a ∧ (∀ s ∈ d, Lite s.L) ∧ SmX d) (h3 : Q (apR a d) h) : tb (e28s :: tl) 28 [cmds a, spls d] h Q := by
  rw [tb_here e28s tl 28 _ _ _ rfl]; exact ⟨a, d, rfl, h2, h3⟩
@[simp ↓] theorem e28s_t (tl : List (QE Try.prog)) (f : Nat) (args : List AV) (h : AH) (Q : AV → AH → Prop) (hf : 28 ≠ f) : tb (e28s :: tl) f args h Q = tb tl f args h Q := tb_there e28s tl f args h Q hf
def e32s : QE Try.prog := ⟨32, fun args h Q => ∃ a d, args = [cmds a, spls d] ∧ (Lite a ∧ (∀ s ∈ d, Lite s.L) ∧ SmX d) ∧ Q (apR a d) h, fun args h Q ⟨a, d, h1, h2, h3⟩ => by
  subst h1; exact ⟨_, _, rapply_s a d _ (.inr rfl) h2.1 h2.2.1 h2.2.2 h, h3⟩⟩
theorem e32s_h {tl : List (QE Try.prog)} {a : List Cmd} {d : List Spl} {h : AH} {Q : AV → AH → Prop} (h2 : Lite a ∧ (∀ s ∈ d, Lite s.L) ∧ SmX d) (h3 : Q (apR a d) h) : tb (e32s :: tl) 32 [cmds a, spls d] h Q := by
  rw [tb_here e32s tl 32 _ _ _ rfl]; exact ⟨a, d, rfl, h2, h3⟩
@[simp ↓] theorem e32s_t (tl : List (QE Try.prog)) (f : Nat) (args : List AV) (h : AH) (Q : AV → AH → Prop) (hf : 32 ≠ f) : tb (e32s :: tl) f args h Q = tb tl f args h Q := tb_there e32s tl f args h Q hf
def ap0 : List (QE Try.prog) := [e10, e18, e19, e20, e21, e28s, e32s, e31, e17]
theorem ap_tail {a : List Cmd} {d raw : List Spl} {h : AH} (ha : Lite a) (hd : ∀ s ∈ d, Lite s.L) (hr : ∀ s ∈ raw, Lite s.L) (h1 : SmX d) (h2 : SmX raw) : g8_f3 (tb ap0) (spls raw) (cmds a) (spls d) h fun v' h' => Frz h' true v' (.bool true) := by
  have s1 := apS_sm ha hd
  have s2 := apS_sm ha hr
  have q1 : eqD (apS a d).2 (apS a d).2 = true := eqD_iff.2 rfl
  have q2 : eqD (apS a raw).2 (apS a raw).2 = true := eqD_iff.2 rfl
  simp (disch := first | (simp; done) | omega | (simp only [nx_add, nx_set, nx_kill, nx_mk, nx_emp]; omega) | fail) [g8_f3, ap0]
  refine e28s_h ⟨ha, hd, h1⟩ ?_
  simp (disch := first | (simp; done) | omega | (simp only [nx_add, nx_set, nx_kill, nx_mk, nx_emp]; omega) | fail) [g8_s9, apR]
  refine e32s_h ⟨ha, hd, h1⟩ ?_
  simp (disch := first | (simp; done) | omega | (simp only [nx_add, nx_set, nx_kill, nx_mk, nx_emp]; omega) | fail) [g8_s8, apR]
  refine e28s_h ⟨ha, hr, h2⟩ ?_
  simp (disch := first | (simp; done) | omega | (simp only [nx_add, nx_set, nx_kill, nx_mk, nx_emp]; omega) | fail) [g8_s7, apR]
  refine e32s_h ⟨ha, hr, h2⟩ ?_
  simp (disch := first | (simp; done) | omega | (simp only [nx_add, nx_set, nx_kill, nx_mk, nx_emp]; omega) | fail) [g8_s6, apR, s1, q1]
  simp (disch := first | (simp; done) | omega | (simp only [nx_add, nx_set, nx_kill, nx_mk, nx_emp]; omega) | fail) [g8_s5, s2, q2]
  simp (disch := first | (simp; done) | omega | (simp only [nx_add, nx_set, nx_kill, nx_mk, nx_emp]; omega) | fail) [g8_s4]
structure Sp2 where
  s : Spl
  v : AV
def Sp2.enc (p : Sp2) : List AV := [I p.s.at', I p.s.cnt, p.v]
theorem Sp2.len (p : Sp2) : p.enc.length = 3 := rfl
/-- a list of splices that is owned, whose lists are owned, too -/
structure DO (h : AH) (lo : Nat) (vd : AV) (D : List Sp2) : Prop where
  o : (vd = .nilsl ∧ D = []) ∨ ∃ id, vd = .rsl id 0 D.length 3 ∧ lo ≤ id ∧ id < h.nx ∧ h.cellsAt id = some ((D.map Sp2.enc).flatten)
  l : ∀ p ∈ D, Lst h lo p.v p.s.L ∧ Lite p.s.L ∧ ∀ id k, vd = .rsl id 0 k 3 → ∀ j n, p.v = .rsl j 0 n 22 → j ≠ id
theorem DO.keep {h h' : AH} {lo : Nat} {vd : AV} {D : List Sp2} (hd : DO h lo vd D) (hn : h.nx ≤ h'.nx) (hg : ∀ i, lo ≤ i → i < h.nx → h'.H.get i = h.H.get i) : DO h' lo vd D := by
  refine ⟨?_, fun p hp => ⟨(hd.l p hp).1.keep hn hg, (hd.l p hp).2⟩⟩
  rcases hd.o with h1 | ⟨id, h1, h2, h3, h4⟩
  · exact .inl h1
  · exact .inr ⟨id, h1, h2, by omega, by rw [cellsAt_congr (hg id h2 h3)]; exact h4⟩
theorem DO.frz {h : AH} {lo : Nat} {vd : AV} {D : List Sp2} (hd : DO h lo vd D) : Frz h false vd (spls (D.map Sp2.s)) := by
  rcases hd.o with ⟨rfl, rfl⟩ | ⟨id, rfl, _, _, hc⟩
  · exact .nilsl
  · have hl : ((D.map Sp2.s).map Spl.enc).length = D.length := by simp
    have hfl := flat_len (e := Sp2.enc) Sp2.len D
    have := Frz.rsl (h := h) (n := false) id 0 3 _ ((D.map Sp2.s).map Spl.enc) hc (by rw [hl, hfl]; omega) (fun i y hy => by
      simp at hy; obtain ⟨p, _, rfl⟩ := hy; rfl) (fun i y j c e h1 h2 h3 => ?_)
    · rw [hl] at this; exact this
    · simp only [List.getElem?_map, Option.map_eq_some_iff] at h1
      obtain ⟨t, ⟨p, hp, rfl⟩, rfl⟩ := h1
      have hj : j < 3 := by rw [← Spl.len p.s]; exact (List.getElem?_eq_some_iff.1 h2).1
      rw [Nat.zero_add, flat_get Sp2.len D i j p hp hj] at h3
      have hpm := List.mem_of_getElem? hp
      match j, hj with
      | 0, _ => simp [Sp2.enc, Spl.enc] at h2 h3; subst h2; subst h3; exact .int _ _
      | 1, _ => simp [Sp2.enc, Spl.enc] at h2 h3; subst h2; subst h3; exact .int _ _
      | 2, _ => simp [Sp2.enc, Spl.enc] at h2 h3; subst h2; subst h3; exact (hd.l p hpm).1.frz
def apK (raw : List Spl) (sid : Nat) (L : List Int) (lo : Nat) (va : AV) (a : List Cmd) (m : Nat) (vs : List AV) (hh : AH) : Prop := ∃ (x : Nat) (D : List Sp2) (vd : AV), vs = [spls raw, .ptr sid 0, va, vd, I m] ∧ Src hh sid L x ∧ WF hh ∧ lo ≤ hh.nx ∧ Lst hh lo va a ∧ DO hh lo vd D ∧ D.length + m ≤ 10 ∧ (∀ id k, vd = .rsl id 0 k 3 → ∀ j n, va = .rsl j 0 n 22 → j ≠ id)
theorem Lst.kill_ne {h : AH} {lo j : Nat} {v : AV} {l : List Cmd} (hl : Lst h lo v l) (hj : ∀ id n, v = .rsl id 0 n 22 → id ≠ j) : Lst (h.kill j) lo v l := by
  rcases hl with h1 | ⟨id, h1, h2, h3, h4, h5⟩
  · exact .inl h1
  · exact .inr ⟨id, h1, h2, h3, by simpa using h4, by rw [cellsAt_kill_ne _ _ _ (hj _ _ h1)]; exact h5⟩
theorem Lst.add_k {h : AH} {lo : Nat} {v : AV} {l : List Cmd} (hl : Lst h lo v l) (o : AObj) : Lst (h.add o) lo v l := hl.keep (by simp) fun i _ hi => by rw [get_add, if_neg (by omega)]
theorem Lst.lt {h : AH} {lo : Nat} {v : AV} {l : List Cmd} (hl : Lst h lo v l) : ∀ id n, v = .rsl id 0 n 22 → lo ≤ id ∧ id < h.nx := fun id n he => by
  rcases hl with ⟨h0, _⟩ | ⟨id', h0, _, k3, k4, _⟩
  · rw [h0] at he; cases he
  · rw [h0] at he; cases he; exact ⟨k3, k4⟩
theorem Lst.form {h : AH} {lo : Nat} {v : AV} {l : List Cmd} (hl : Lst h lo v l) : v = .nilsl ∨ ∃ id k, v = .rsl id 0 k 22 := by
  rcases hl with ⟨h0, _⟩ | ⟨id', h0, _⟩
  · exact .inl h0
  · exact .inr ⟨_, _, h0⟩
/-- one splice more -/
theorem DO.more {h : AH} {lo : Nat} {va vd v : AV} {a c : List Cmd} {D : List Sp2} (hd : DO h lo vd D) (hw : WF h) (hlo : lo ≤ h.nx) (ha : Lst h lo va a) (hna : ∀ id k, vd = .rsl id 0 k 3 → ∀ j n, va = .rsl j 0 n 22 → j ≠ id) (hc : Lst h lo v c) (hcl : Lite c) (hnc : ∀ id k, vd = .rsl id 0 k 3 → ∀ j n, v = .rsl j 0 n 22 → j ≠ id) (x y : Int) (hlen : D.length ≤ 10) :
    ∃ vd' h', kApp (h.add (.cells [I x, I y, v])) 3 40 vd (.rsl h.nx 0 1 3) = some (vd', h') ∧ DO h' lo vd' (D ++ [⟨⟨x, y, c⟩, v⟩]) ∧ Lst h' lo va a ∧ WF h' ∧ h.nx ≤ h'.nx ∧ (∀ i, i < h.nx → (∀ k, vd ≠ .rsl i 0 k 3) → h'.H.get i = h.H.get i) ∧ (∀ id k, vd' = .rsl id 0 k 3 → h.nx < id) := by
  have hon : ones [I x, I y, v] = true := by rcases hc.form with rfl | ⟨_, _, rfl⟩ <;> rfl
  have hcut : cut [I x, I y, v] 0 3 = some [I x, I y, v] := rfl
  have hself : (h.add (.cells [I x, I y, v])).cellsAt h.nx = some [I x, I y, v] := cellsAt_add_self _ _ _ rfl
  rcases hd.o with ⟨rfl, rfl⟩ | ⟨id, rfl, hid0, hid, hcs⟩
  · refine ⟨.rsl (h.nx + 1) 0 1 3, (h.add (.cells [I x, I y, v])).add (.cells [I x, I y, v]), ?_, ⟨.inr ⟨h.nx + 1, rfl, by omega, by simp, by simp [Sp2.enc]⟩, fun p hp => ?_⟩, (ha.add_k _).add_k _, (hw.add _).add _, by simp; omega, fun i hi _ => ?_, fun id k he => by cases he; omega⟩
    · rw [kApp_nr _ _ _ _ _ _ (by omega)]
      simp [hcut, hon]
    · simp at hp; subst hp
      exact ⟨(hc.add_k _).add_k _, hcl, fun id k he j n e2 => by cases he; have := (hc.lt j n e2).2; omega⟩
    · rw [get_add, if_neg (by simp; omega), get_add, if_neg (by omega)]
  · have hne : ¬ id = h.nx := by omega
    have hcs1 : (h.add (.cells [I x, I y, v])).cellsAt id = some ((D.map Sp2.enc).flatten) := by rw [cellsAt_add_ne _ _ _ (by omega)]; exact hcs
    have hfl := flat_len (e := Sp2.enc) Sp2.len D
    have hcut2 : cut ((D.map Sp2.enc).flatten) 0 (D.length * 3) = some ((D.map Sp2.enc).flatten) := by
      have := cut_zero_app (α := (D.map Sp2.enc).flatten) (b := []) (n := D.length * 3) hfl
      rwa [List.append_nil] at this
    have hro : roomy (D.length + 1) 40 = true := roomy_ok _ _ (by omega) (by omega)
    refine ⟨.rsl (h.nx + 1) 0 (D.length + 1) 3, ((h.add (.cells [I x, I y, v])).kill id).add (.cells ((D.map Sp2.enc).flatten ++ [I x, I y, v])), ?_, ⟨.inr ⟨h.nx + 1, by simp, by omega, by simp, by simp [Sp2.enc]⟩, fun p hp => ?_⟩, ((ha.add_k _).kill_ne (hna _ _ rfl)).add_k _, ((hw.add _).kill id).add _, by simp; omega, fun i hi hn => ?_, fun id k he => by cases he; omega⟩
    · rw [kApp_rr]
      simp [hself, hcs1, hcut, hcut2, hon, hro]
    · rcases List.mem_append.1 hp with hp | hp
      · obtain ⟨k1, k2, k3⟩ := hd.l p hp
        exact ⟨((k1.add_k _).kill_ne (k3 _ _ rfl)).add_k _, k2, fun id2 k he j n e2 => by cases he; have := (k1.lt j n e2).2; omega⟩
      · simp at hp; subst hp
        exact ⟨((hc.add_k _).kill_ne (hnc _ _ rfl)).add_k _, hcl, fun id2 k he j n e2 => by cases he; have := (hc.lt j n e2).2; omega⟩
    · have : i ≠ id := fun e => hn D.length (by rw [e])
      rw [get_add, if_neg (by simp; omega), get_kill, if_neg this, get_add, if_neg (by omega)]
def apL (l : List Int) (raw : List Spl) (m : Nat) (vs : List AV) (h : AH) : Prop := ∃ i : Nat, i ≤ raw.length ∧ m = raw.length - i ∧ vs = [ints l, spls raw, I i] ∧ h = emp ∧ ∀ j (h1 : j < i) (h2 : j < raw.length), heavy raw[j].L = false
theorem applies_f (l : List Int) (raw : List Spl) (hl : SmX l) (hr : SmX raw) (hrl : ∀ s ∈ raw, SmX s.L) : Fresh Try.prog 8 [ints l, spls raw] (.bool true) := by
  refine C8 (tb_ok ap0) ?_
  have kl : ∀ h, kLen h (spls raw) = some (I raw.length, h) := fun h => by simp [spls]
  have hr' := hr
  unfold SmX at hr
  by_cases h6 : 6 < raw.length
  · have h6' : (6 : Int) < raw.length := by omega
    simp (disch := first | (simp; done) | omega | (simp only [nx_add, nx_set, nx_kill, nx_mk, nx_emp]; omega) | fail) [g8, kl, h6']
  have h6' : ¬ (6 : Int) < raw.length := by omega
  simp (disch := first | (simp; done) | omega | (simp only [nx_add, nx_set, nx_kill, nx_mk, nx_emp]; omega) | fail) [g8, kl, h6', ap0]
  refine ⟨apL l raw, raw.length, ⟨0, by omega, rfl, rfl, rfl, fun j h1 => by omega⟩, ?_⟩
  rintro m vs h ⟨i, hi, rfl, rfl, rfl, hall⟩
  by_cases hlt : i < raw.length
  · have hlt' : (i : Int) < raw.length := by omega
    have hsx := hrl raw[i] (List.getElem_mem hlt)
    have hix : ∀ h, kIdxA h 3 (spls raw) (I i) = some (.pptr raw[i].enc, h) := fun h => kIdxA_psl (by simp [hlt]) (Spl.len _)
    obtain ⟨s, hs⟩ : ∃ s, s = raw[i] := ⟨_, rfl⟩
    rw [← hs] at hix hsx
    cases hv : heavy s.L
    · simp (disch := first | (simp; done) | omega | (simp only [nx_add, nx_set, nx_kill, nx_mk, nx_emp]; omega) | fail) [g8_l1, kl, hlt', hix, Spl.enc, hsx, hv]
      refine ⟨raw.length - (i + 1), by omega, i + 1, by omega, rfl, by simp, rfl, fun j h1 h2 => ?_⟩
      by_cases hji : j < i
      · exact hall j hji h2
      · obtain rfl : j = i := by omega
        rw [← hs]; exact hv
    · simp (disch := first | (simp; done) | omega | (simp only [nx_add, nx_set, nx_kill, nx_mk, nx_emp]; omega) | fail) [g8_l1, kl, hlt', hix, Spl.enc, hsx, hv]
      simp (disch := first | (simp; done) | omega | (simp only [nx_add, nx_set, nx_kill, nx_mk, nx_emp]; omega) | fail) [g8_j7]
  have hlt' : ¬ (i : Int) < raw.length := by omega
  have hlite : ∀ s ∈ raw, Lite s.L := fun s hs => by
    obtain ⟨j, hj, rfl⟩ := List.getElem_of_mem hs
    exact heavy_lite (hall j (by omega) hj)
  simp (disch := first | (simp; done) | omega | (simp only [nx_add, nx_set, nx_kill, nx_mk, nx_emp]; omega) | fail) [g8_l1, kl, hlt']
  clear hall hlt hlt' kl h6 h6' hi
  simp (disch := first | (simp; done) | omega | (simp only [nx_add, nx_set, nx_kill, nx_mk, nx_emp]; omega) | fail) [g8_j7, g8_c6]
  refine e18_h hl ?_
  have w1 : WF (emp.add (.cells (srcC (newL l) 0))) := WF.emp.add _
  have s1 : Src (emp.add (.cells (srcC (newL l) 0))) emp.nx (newL l) 0 := ⟨cellsAt_add_self _ _ _ rfl, by omega, newL_ok l, by simp⟩
  generalize emp.add (.cells (srcC (newL l) 0)) = h1 at *
  generalize emp.nx = sid at *
  generalize newL l = L at *
  try simp (disch := first | (simp; done) | omega | (simp only [nx_add, nx_set, nx_kill, nx_mk, nx_emp]; omega) | fail)
  refine C_step s1 w1 (by omega) (by omega) fun v h2 s2 w2 n2 n2' g2 l2 => ?_
  have alen := cM_len L 0 8 (by omega) (by omega)
  have agl := cM_gl L 0 8
  generalize (cM L 0 8).1 = a at *
  generalize (cM L 0 8).2 = a0 at *
  have hslt := s1.lt
  try simp (disch := first | (simp; done) | omega | (simp only [nx_add, nx_set, nx_kill, nx_mk, nx_emp]; omega) | fail)
  refine N_step s2 (by omega) (by omega) fun h3 s3 u3 => ?_
  have c1 := nV_ge L a0 (show (1 : Int) ≤ 4 by omega)
  have c2 := nV_lt L a0 (show (1 : Int) ≤ 4 by omega)
  obtain ⟨k, hk⟩ : ∃ k : Nat, nV L a0 4 = (k : Int) := ⟨(nV L a0 4).toNat, by omega⟩
  rw [hk]
  have u3lo := u3.lo
  refine ⟨apK raw sid L h1.nx v a, k, ⟨_, [], .nilsl, rfl, s3, u3.wf w2, by omega, l2.keep u3.lo (fun i hi hil => u3.get i (by omega) hil), ⟨.inl ⟨rfl, rfl⟩, fun p hp => by simp at hp⟩, by simp; omega, fun id k he => by cases he⟩, ?_⟩
  rintro m vs hh ⟨x, D, vd, rfl, hs, hw, hlo, hla, hD, hDm, hna⟩
  by_cases hm : 0 < m
  · have hm' : (0 : Int) < m := by omega
    have hm2 : ¬ m = 0 := by omega
    simp (disch := first | (simp; done) | omega | (simp only [nx_add, nx_set, nx_kill, nx_mk, nx_emp]; omega) | fail) [g8_l2, hm, hm', hm2]
    refine R_step hs (by omega) (by omega) (by omega) rfl fun h4 s4 u4 => ?_
    simp (disch := first | (simp; done) | omega | (simp only [nx_add, nx_set, nx_kill, nx_mk, nx_emp]; omega) | fail) [g8_s3]
    refine R_step s4 (by omega) (by omega) (by omega) rfl fun h5 s5 u5 => ?_
    simp (disch := first | (simp; done) | omega | (simp only [nx_add, nx_set, nx_kill, nx_mk, nx_emp]; omega) | fail) [g8_s2]
    refine C_step s5 (u5.wf (u4.wf hw)) (by omega) (by omega) fun v6 h6 s6 w6 n6 n6' g6 l6 => ?_
    have clen := cM_len L (nxA L (nxA L x)) 2 (by omega) (by omega)
    have cgl := cM_gl L (nxA L (nxA L x)) 2
    generalize (cM L (nxA L (nxA L x)) 2).1 = c at *
    generalize (cM L (nxA L (nxA L x)) 2).2 = x2 at *
    generalize -1 + nV L x 11 = p at *
    generalize -1 + nV L (nxA L x) 6 = q at *
    have u4lo := u4.lo; have u5lo := u5.lo
    have same : ∀ i, i ≠ sid → i < hh.nx → h6.H.get i = hh.H.get i := fun i hi hil => by rw [g6 i hi (by omega), u5.get i hi (by omega), u4.get i hi hil]
    have la6 : Lst h6 h1.nx v a := hla.keep (by omega) fun i hi hil => same i (by omega) hil
    have D6 : DO h6 h1.nx vd D := hD.keep (by omega) fun i hi hil => same i (by omega) hil
    have lc6 : Lst h6 h1.nx v6 c := l6.lower (by omega)
    have hdlt : ∀ id k, vd = .rsl id 0 k 3 → id < hh.nx := fun id k he => by
      rcases hD.o with ⟨h0, _⟩ | ⟨id', h0, _, k3, _⟩
      · rw [h0] at he; cases he
      · rw [h0] at he; cases he; exact k3
    have hdlo : ∀ id k, vd = .rsl id 0 k 3 → h1.nx ≤ id := fun id k he => by
      rcases hD.o with ⟨h0, _⟩ | ⟨id', h0, k2, _⟩
      · rw [h0] at he; cases he
      · rw [h0] at he; cases he; exact k2
    obtain ⟨vd', h7, q1, D7, la7, w7, n7, g7', f7⟩ := D6.more w6 (by omega) la6 hna lc6 (lite_of (by omega) cgl) (fun id k he j n e2 => by
      have e3 := hdlt id k he
      have e4 := (l6.lt j n e2).1
      omega) p q (by omega)
    simp only [g8_s1]
    refine wk_of (v := .agg [I p, I q, v6]) (h := h6) ?_ ?_
    · rcases lc6.form with rfl | ⟨_, _, rfl⟩ <;> rfl
    refine wk_of (v := .rsl h6.nx 0 1 3) (h := h6.add (.cells [I p, I q, v6])) rfl ?_
    refine wk_of q1 ?_
    simp (disch := first | (simp; done) | omega | (simp only [nx_add, nx_set, nx_kill, nx_mk, nx_emp]; omega) | fail)
    refine ⟨m - 1, by omega, x2, _, vd', ?_, ?_, w7, by omega, la7, D7, by simp; omega, fun id k he j n e2 => ?_⟩
    · rw [show ((m - 1 : Nat) : Int) = (m : Int) - 1 by omega]
    · refine s6.gr (cellsAt_congr (g7' sid s6.lt fun k he => ?_)) n7
      have := hdlo sid k he; omega
    · have e3 := f7 id k he
      have e4 := (la6.lt j n e2).2
      omega
  · obtain rfl : m = 0 := by omega
    simp (disch := first | (simp; done) | omega | (simp only [nx_add, nx_set, nx_kill, nx_mk, nx_emp]; omega) | fail) [g8_l2]
    simp (disch := first | (simp; done) | omega | (simp only [nx_add, nx_set, nx_kill, nx_mk, nx_emp]; omega) | fail) [g8_j5, g8_c4]
    refine wfrz_of (vs' := [spls raw, cmds a, spls (D.map Sp2.s)]) (fun i p q h1 h2 => ?_) ?_
    · match i with
      | 0 =>
        simp at h1 h2; subst h1; subst h2
        exact .psl rfl _ _ rfl (fun i x y h1 h2 => by rw [h1] at h2; cases h2; rfl) (fun i x y j c d h1 h2 h3 h4 => by
          rw [h1] at h2; cases h2; rw [h3] at h4; cases h4
          simp only [List.getElem?_map, Option.map_eq_some_iff] at h1
          obtain ⟨s, _, rfl⟩ := h1
          have := List.mem_of_getElem? h3
          simp [Spl.enc] at this
          rcases this with rfl | rfl | rfl
          · exact .int _ _
          · exact .int _ _
          · exact cmds_pl _ _)
      | 1 => simp at h1 h2; subst h1; subst h2; exact hla.frz
      | 2 => simp at h1 h2; subst h1; subst h2; exact hD.frz
      | i + 3 => simp at h1
    · refine ap_tail (lite_of (by omega) agl) (fun s hs => ?_) hlite (by unfold SmX; simp; omega) hr'
      obtain ⟨p, hp, rfl⟩ := List.mem_map.1 hs
      exact (hD.l p hp).2.1
end Go.Proofs.Ytpnekpbehcbmkaa
end
