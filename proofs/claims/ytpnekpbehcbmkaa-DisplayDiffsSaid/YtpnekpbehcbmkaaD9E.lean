/- One round of the laws' maker of commands. What the laws' maker of commands answers. Bounds of the commands that the laws make. What the law DisplayPixels computes. Reading and writing one command of a list that the law owns. What the laws' maker of a changed list answers. What the law DisplayDamages computes. -/
import Derived.Test.YtpnekpbehcbmkaaD8C
import Derived.Test.YtpnekpbehcbmkaaD7W
set_option linter.unusedSimpArgs false
set_option linter.unusedVariables false
set_option linter.unnecessarySimpa false
noncomputable section
namespace Go.Proofs.Ytpnekpbehcbmkaa
open Go.Eng
theorem St.mono {h0 h : AH} {sid : Nat} {L : List Int} {a : Nat} {lv : AV} {l : List Cmd} {c d : Nat} (hs : St h0 h sid L a lv l c) (hcd : c ≤ d) : St h0 h sid L a lv l d :=
  ⟨hs.src, hs.slt, ⟨hs.gr.lo, by have := hs.gr.hi; omega, hs.gr.get, hs.gr.wf⟩, hs.list⟩
/-- a step that appends nothing -/
theorem St.go {h0 h h' : AH} {sid : Nat} {L : List Int} {a a' c d : Nat} {lv : AV} {l : List Cmd} (hst : St h0 h sid L a lv l c) (hg : Gr h h' sid d) (hs : Src h' sid L a') : St h0 h' sid L a' lv l (c + d) := by
  have hlo := hst.gr.lo
  have hlo' := hg.lo
  have hslt := hst.slt
  refine ⟨hs, hst.slt, ⟨by omega, by have := hst.gr.hi; have := hg.hi; omega, fun i hi hl => by rw [hg.get i hi (by omega), hst.gr.get i hi hl], hg.wf⟩, ?_⟩
  rcases hst.list with h1 | ⟨id, cs, rfl, hne, hid, hidl, hcs, hfc⟩
  · exact .inl h1
  · refine .inr ⟨id, cs, rfl, hne, hid, by omega, by rw [← hcs]; exact cellsAt_congr (hg.get id (by omega) hidl), hfc.ext fun i cs hi => ?_⟩
    have hgi := cellsAt_get hi
    rw [get_rest] at hgi
    split at hgi
    · cases hgi
    · rename_i hn
      have hlt : i < h.nx := Nat.lt_of_not_le fun hle => by rw [hst.gr.wf i hle] at hgi; cases hgi
      rw [cellsAt_rest (by omega) (by omega), ← hi, cellsAt_rest (by omega) (by omega)]
      exact cellsAt_congr (hg.get i (by omega) hlt)
theorem Src.gr {h h' : AH} {sid : Nat} {L : List Int} {a : Nat} (hs : Src h sid L a) (hc : h'.cellsAt sid = h.cellsAt sid) (hn : h.nx ≤ h'.nx) : Src h' sid L a :=
  ⟨by rw [hc]; exact hs.c, hs.le, hs.ok, Nat.lt_of_lt_of_le hs.lt hn⟩
def sP (h0 : AH) (sid : Nat) (L : List Int) (o a : Nat) (l : List Cmd) (i : Int) (c : Nat) (vs : List AV) (h : AH) : Prop :=
  ∃ lv, vs = [.ptr sid 0, lv, I (sM L o a).2.1, I i] ∧ St h0 h sid L (sM L o a).2.2 lv (l ++ (sM L o a).1) (c + 2000)
/-- the glyphs of a run, as they grow -/
def GV (h hh : AH) (b b2 : Nat) (gv : AV) (g : List Gl) : Prop :=
  (gv = .nilsl ∧ g = []) ∨ ∃ gid, gv = .rsl gid 0 g.length 8 ∧ g ≠ [] ∧ h.nx ≤ gid ∧ gid < hh.nx ∧ gid ≠ b ∧ gid ≠ b2 ∧ hh.cellsAt gid = some (g.map Gl.enc).flatten
theorem g_app {h hh : AH} {b b2 t : Nat} {gv : AV} {g : List Gl} {x : Gl} (hv : GV h hh b b2 gv g) (ht : hh.cellsAt t = some x.enc) (hl : g.length ≤ 100) (hn : h.nx ≤ hh.nx) :
    ∃ hh', kApp hh 8 64 gv (.rsl t 0 1 8) = some (.rsl hh.nx 0 (g.length + 1) 8, hh') ∧ hh'.nx = hh.nx + 1 ∧ hh'.cellsAt hh.nx = some ((g ++ [x]).map Gl.enc).flatten ∧
      (∀ j, j < h.nx ∨ j = b ∨ j = b2 → j < hh.nx → hh'.H.get j = hh.H.get j) ∧ (WF hh → WF hh') := by
  have hcut : cut x.enc 0 8 = some x.enc := x.all
  rcases hv with ⟨rfl, rfl⟩ | ⟨gid, rfl, hne, h1, h2, h3, h4, h5⟩
  · refine ⟨hh.add (.cells x.enc), ?_, by simp, by simp, fun j _ hj => by rw [get_add, if_neg (by omega)], fun hw => hw.add _⟩
    rw [kApp_nr _ _ _ _ _ _ (by omega)]
    simp [ht]
  · have hfl : ((g ++ [x]).map Gl.enc).flatten = (g.map Gl.enc).flatten ++ x.enc := by simp
    have hcut' : cut (g.map Gl.enc).flatten 0 (g.length * 8) = some (g.map Gl.enc).flatten := by
      have := cut_zero_app (α := (g.map Gl.enc).flatten) (b := []) (n := g.length * 8) (flat_len Gl.len g)
      rwa [List.append_nil] at this
    have hro : roomy (g.length + 1) 64 = true := roomy_ok _ _ (by omega) (by omega)
    refine ⟨(hh.kill gid).add (.cells ((g.map Gl.enc).flatten ++ x.enc)), ?_, by simp, by rw [hfl]; simp, fun j hj hjl => ?_, fun hw => (hw.kill _).add _⟩
    · rw [kApp_rr]
      simp [ht, h5, hcut', hro]
    · rw [get_add, if_neg (by simp; omega), get_kill, if_neg (by omega)]
def lnC (x : Int) (gv : AV) : List AV := [I 0, I 0, I 0, I x, I 0, I 0, I 0, I 0, I 0, gv]
def gI (h : AH) (sid b b2 : Nat) (L : List Int) (lv : AV) (o : Nat) (i x : Int) (r : Rect) (K a7 : Nat) (m : Nat) (vs : List AV) (hh : AH) : Prop :=
  ∃ (g : List Gl) (a' : Nat) (gv : AV), vs = [.ptr sid 0, lv, I o, I i, .ptr b 0, .ptr b2 0, I m] ∧ Gr h hh sid (600 + 200 * g.length) ∧ Src hh sid L a' ∧ b < hh.nx ∧ b2 < hh.nx ∧ hh.cellsAt b = some [I r.x, I r.y, I r.w, I r.h] ∧ hh.cellsAt b2 = some (lnC x gv) ∧ GV h hh b b2 gv g ∧ gM L m g a' = gM L K [] a7 ∧ g.length + m = K
theorem glyphs {h0 h h7 : AH} {sid b : Nat} {L : List Int} {a a5 o c : Nat} {lv : AV} {l : List Cmd} {i x : Int} {r : Rect} (hst : St h0 h sid L a lv l c) (hl : l.length ≤ 500) (ho : o ≤ 1000) (g7 : Gr h h7 sid 400) (hs7 : Src h7 sid L a5)
    (hbl : h.nx ≤ b) (hb : b < h7.nx) (hbs : b ≠ sid) (hbc : h7.cellsAt b = some [I r.x, I r.y, I r.w, I r.h])
    (hsm : sM L o a = ([glC r (nV L (gM L (nV L a5 4).toNat [] (nxA L a5)).2 3) x (gM L (nV L a5 4).toNat [] (nxA L a5)).1], o, nxA L (gM L (nV L a5 4).toNat [] (nxA L a5)).2)) :
    g19_s10 (tb [e20, e21, e50]) (.ptr sid 0) lv (I o) (I i) (.ptr b 0) (I x) h7 (sP h0 sid L o a l i c) := by
  have hsl := hst.src.lt
  have h7l := hs7.lt
  simp (disch := first | (simp; done) | omega | (simp only [nx_add, nx_set, nx_kill, nx_mk, nx_emp]; omega) | fail) [g19_s10]
  obtain ⟨h8, hh8⟩ : ∃ h8, h8 = (h7.add (.cells [I 0, I 0, I 0, I 0, I 0, I 0, I 0, I 0, I 0, .nilsl])).set h7.nx (.cells (lnC x .nilsl)) := ⟨_, rfl⟩
  have g8 : Gr h h8 sid 401 := by rw [hh8]; exact (g7.add _).set _ g7.lo (by simp)
  have hs8 : Src h8 sid L a5 := hs7.gr (by rw [hh8, cellsAt_set_ne _ _ _ _ (by omega), cellsAt_add_ne _ _ _ (by omega)]) (by rw [hh8]; simp)
  have hb8 : h8.cellsAt h7.nx = some (lnC x .nilsl) := by rw [hh8]; simp
  have hb8' : h7.nx < h8.nx := by rw [hh8]; simp
  have hb8b : h8.cellsAt b = some [I r.x, I r.y, I r.w, I r.h] := by rw [hh8, cellsAt_set_ne _ _ _ _ (by omega), cellsAt_add_ne _ _ _ (by omega)]; exact hbc
  have hb2 : h.nx ≤ h7.nx := g7.lo
  have hb2s : h7.nx ≠ sid := by omega
  have hbb : b ≠ h7.nx := by omega
  have hb8'' : b < h8.nx := by omega
  rw [show (h7.add (.cells [AV.int IntKind.i64 0, AV.int IntKind.i64 0, AV.int IntKind.i64 0, AV.int IntKind.i64 0, AV.int IntKind.i64 0, AV.int IntKind.i64 0, AV.int IntKind.i64 0, AV.int IntKind.i64 0, AV.int IntKind.i64 0, AV.nilsl])).set h7.nx (.cells [AV.int IntKind.i64 0, AV.int IntKind.i64 0, AV.int IntKind.i64 0, AV.int IntKind.i64 x, AV.int IntKind.i64 0, AV.int IntKind.i64 0, AV.int IntKind.i64 0, AV.int IntKind.i64 0, AV.int IntKind.i64 0, AV.nilsl]) = h8 from hh8.symm]
  clear hh8
  generalize h7.nx = b2 at *
  have hk1 := nV_ge L a5 (show (1 : Int) ≤ 4 by omega)
  have hk2 := nV_lt L a5 (show (1 : Int) ≤ 4 by omega)
  obtain ⟨K, hK⟩ : ∃ K, K = (nV L a5 4).toNat := ⟨_, rfl⟩
  have hKi : nV L a5 4 = (K : Int) := by omega
  have hK3 : K ≤ 3 := by omega
  rw [← hK] at hsm
  refine N_step hs8 (by omega) (by omega) fun h9 hs9 u9 => ?_
  rw [hKi]
  have hc9 : ∀ j, j ≠ sid → j < h8.nx → h9.cellsAt j = h8.cellsAt j := fun j h1 h2 => cellsAt_congr (u9.get j h1 h2)
  refine ⟨gI h sid b b2 L lv o i x r K (nxA L a5), K, ⟨[], nxA L a5, .nilsl, rfl, ?_, hs9, by have := u9.lo; omega, by have := u9.lo; omega, by rw [hc9 _ hbs hb8'']; exact hb8b, by rw [hc9 _ hb2s hb8']; exact hb8, .inl ⟨rfl, rfl⟩, rfl, by simp⟩, ?_⟩
  · have := g8.upd u9
    exact ⟨this.lo, by have := this.hi; simp; omega, this.get, this.wf⟩
  rintro m vs hh ⟨g, a', gv, rfl, gg, hsg, hbn, hb2n, hcb, hcb2, hgv, hgm, hgk⟩
  by_cases hm : 0 < m
  · have hm' : (0 : Int) < m := by omega
    obtain ⟨m, rfl⟩ : ∃ k, m = k + 1 := ⟨m - 1, by omega⟩
    simp (disch := first | (simp; done) | omega | (simp only [nx_add, nx_set, nx_kill, nx_mk, nx_emp]; omega) | fail) [g19_l2, hm', hcb2, lnC]
    refine N_step (hsg.gr rfl (by simp)) (by omega) (by omega) fun p hp up => ⟨up.lo, ?_⟩
    refine N_step hp (by omega) (by omega) fun q hq uq => ⟨uq.lo, ?_⟩
    have lp : hh.nx + 11 ≤ p.nx := up.lo
    have lq := uq.lo
    have hp' : p.nx ≤ hh.nx + 11 + 60 := up.hi
    have hq' := uq.hi
    have glo := gg.lo
    have ghi := gg.hi
    have same : ∀ j, j ≠ sid → j < hh.nx → q.H.get j = hh.H.get j := fun j h1 h2 => by
      rw [uq.get j h1 (by omega), up.get j h1 (by show j < hh.nx + 11; omega)]
    have wq : WF q := uq.wf (up.wf (gg.wf.bump _ (by omega)))
    obtain ⟨y, hy⟩ : ∃ y : Gl, y = ⟨97, 0, 0, 0, nV L a' 40, nV L (nxA L a') 12, 0, 0⟩ := ⟨_, rfl⟩
    refine wdp_of (v := .agg y.enc) (h' := q) (by rw [hy]; rfl) ?_
    simp only [g19_s8]
    refine wda_of (cs := y.enc) (mk := fun r => .rsl r 0 1 8) (by rw [hy]; rfl) ?_
    obtain ⟨q1, hq1⟩ : ∃ q1, q1 = q.set (hh.nx + 7) (.cells y.enc) := ⟨_, rfl⟩
    have same1 : ∀ j, j ≠ sid → j < hh.nx → q1.H.get j = hh.H.get j := fun j h1 h2 => by rw [hq1, get_set, if_neg (by omega)]; exact same j h1 h2
    have hn1 : q1.nx = q.nx := by rw [hq1]; simp
    have hgv1 : GV h q1 b b2 gv g := by
      rcases hgv with h1 | ⟨gid, h1, h2, h3, h4, h5, h6, h7⟩
      · exact .inl h1
      · exact .inr ⟨gid, h1, h2, h3, by omega, h5, h6, by rw [cellsAt_congr (same1 gid (by omega) h4)]; exact h7⟩
    have ht1 : q1.cellsAt (hh.nx + 7) = some y.enc := by rw [hq1]; simp
    obtain ⟨q2, k1, k2, k3, k4, k5⟩ := g_app hgv1 ht1 (by omega) (by omega)
    have wq2 : WF q2 := k5 (by rw [hq1]; exact wq.set _ (by omega) _)
    rw [← hq1]
    refine wde_of k1 (by omega) ?_
    have hb2q : q2.cellsAt b2 = some [I 0, I 0, I 0, I x, I 0, I 0, I 0, I 0, I 0, gv] := by rw [cellsAt_congr (k4 b2 (.inr (.inr rfl)) (by omega)), cellsAt_congr (same1 b2 hb2s hb2n)]; exact hcb2
    have hbq : q2.cellsAt b = some [I r.x, I r.y, I r.w, I r.h] := by rw [cellsAt_congr (k4 b (.inr (.inl rfl)) (by omega)), cellsAt_congr (same1 b hbs hbn)]; exact hcb
    have r1 : recOk (.read b2) (.eff ⟨hh.H, hh.nx + 11⟩ p) = true := recOk_rd (up.get b2 hb2s (by show b2 < hh.nx + 11; omega)).symm
    have r2 : recOk (.read b2) (.eff p q) = true := recOk_rd (uq.get b2 hb2s (by omega)).symm
    have r3 : recOk (.read b2) (.alloc (hh.nx + 7) y.enc) = true := by simp; omega
    simp (disch := first | (simp; done) | omega | (simp only [nx_add, nx_set, nx_kill, nx_mk, nx_emp]; omega) | fail) [hb2q, r1, r2, r3]
    refine ⟨m, by omega, g ++ [y], nxA L (nxA L a'), .rsl q1.nx 0 (g.length + 1) 8, rfl, ⟨by simp; omega, by simp; omega, fun j h1 h2 => ?_, wq2.set _ (by omega) _⟩, ⟨?_, hq.le, hq.ok, by simp; omega⟩, by simp; omega, by simp; omega, ?_, ?_, ?_, ?_, by simp; omega⟩
    · rw [get_set, if_neg (by omega), k4 j (.inl h2) (by omega), same1 j h1 (by omega), gg.get j h1 h2]
    · rw [cellsAt_set_ne _ _ _ _ (by omega), cellsAt_congr (k4 sid (.inl hsl) (by omega)), hq1, cellsAt_set_ne _ _ _ _ (by omega)]; exact hq.c
    · rw [cellsAt_set_ne _ _ _ _ (by omega)]; exact hbq
    · rw [cellsAt_set_self _ _ _ _ rfl]; rfl
    · refine .inr ⟨q1.nx, by simp, by simp, by omega, by simp; omega, by omega, by omega, ?_⟩
      rw [cellsAt_set_ne _ _ _ _ (by omega)]; exact k3
    · rw [← hgm, hy]; rfl
  · obtain rfl : m = 0 := by omega
    simp (disch := first | (simp; done) | omega | (simp only [nx_add, nx_set, nx_kill, nx_mk, nx_emp]; omega) | fail) [g19_l2]
    simp (disch := first | (simp; done) | omega | (simp only [nx_add, nx_set, nx_kill, nx_mk, nx_emp]; omega) | fail) [g19_j4, g19_c3, hcb]
    have hgm' : gM L K [] (nxA L a5) = (g, a') := hgm.symm
    rw [hgm'] at hsm
    refine N_step (hsg.gr rfl (by simp)) (by omega) (by omega) fun p hp up => ⟨up.lo, ?_⟩
    have lp : hh.nx + 9 ≤ p.nx := up.lo
    have hp' : p.nx ≤ hh.nx + 9 + 60 := up.hi
    have glo := gg.lo
    have ghi := gg.hi
    have same : ∀ j, j ≠ sid → j < hh.nx → p.H.get j = hh.H.get j := fun j h1 h2 => up.get j h1 (by show j < hh.nx + 9; omega)
    have wp : WF p := up.wf (gg.wf.bump _ (by omega))
    have hcb2p : p.cellsAt b2 = some (lnC x gv) := by rw [cellsAt_congr (same b2 hb2s hb2n)]; exact hcb2
    refine wdp_of (v := .agg (lnC x gv)) (h' := p) (by rw [hcb2p]; rfl) ?_
    obtain ⟨X, hX⟩ : ∃ X, X = glC r (nV L a' 3) x g := ⟨_, rfl⟩
    refine wdp_of (v := .agg (X.enc.take 21 ++ [gv])) (h' := p) (by rw [hX]; rfl) ?_
    refine wda_of (cs := X.enc.take 21 ++ [gv]) (mk := fun r => .rsl r 0 1 22) (by rw [hX]; rfl) ?_
    obtain ⟨p1, hp1⟩ : ∃ p1, p1 = p.set (hh.nx + 6) (.cells (X.enc.take 21 ++ [gv])) := ⟨_, rfl⟩
    have gp1 : Gr h p1 sid 1300 := by
      have := ((gg.bump (hh.nx + 9) (by omega) 9 (by omega)).upd up).set (.cells (X.enc.take 21 ++ [gv])) (j := hh.nx + 6) (by omega) (by omega)
      rw [hp1]
      exact ⟨this.lo, by have := this.hi; omega, this.get, this.wf⟩
    have hsp1 : Src p1 sid L (nxA L a') := hp.gr (by rw [hp1, cellsAt_set_ne _ _ _ _ (by omega)]) (by rw [hp1]; simp)
    have hn1 : p1.nx = p.nx := by rw [hp1]; simp
    have hfz : FrzL (rest p1 h.nx (hh.nx + 6)) false (X.enc.take 21 ++ [gv]) X.enc := by
      have hXg : X.line.gl = g := by rw [hX]; rfl
      rcases hgv with ⟨rfl, rfl⟩ | ⟨gid, rfl, q2, q3, q4, q5, q6, q7⟩
      · exact nil_frz _ X hXg
      · have h2 : X.enc = X.enc.take 21 ++ [gls g] := by rw [← hXg]; rfl
        have h1 : FrzL (rest p1 h.nx (hh.nx + 6)) false (X.enc.take 21) (X.enc.take 21) := by
          rw [FrzL_iff]
          refine ⟨rfl, fun i x y hx hy => ?_⟩
          rw [hx] at hy; cases hy
          exact X.pls x (List.mem_of_mem_take (List.mem_of_getElem? hx)) _
        have h3 : FrzL (rest p1 h.nx (hh.nx + 6)) false [AV.rsl gid 0 g.length 8] [gls g] := by
          rw [FrzL_iff]
          refine ⟨rfl, fun i x y hx hy => ?_⟩
          match i with
          | 0 =>
            simp at hx hy; subst hx; subst hy
            refine frz_rows Gl.len (l := g) ?_ (fun y _ c hc => by simp [Gl.enc] at hc; rcases hc with rfl | rfl | rfl | rfl | rfl | rfl | rfl | rfl <;> exact .int _ _)
            rw [cellsAt_rest (by omega) (by omega), hp1, cellsAt_set_ne _ _ _ _ (by omega), cellsAt_congr (same gid (by omega) q4)]
            exact q7
          | i + 1 => simp at hx
        have h4 := h1.app h3
        rwa [← h2] at h4
    have hones : ones (X.enc.take 21 ++ [gv]) = true := by
      rw [hX]
      rcases hgv with ⟨rfl, rfl⟩ | ⟨gid, rfl, _⟩
      · rfl
      · rfl
    obtain ⟨lv', h'', k1, k2, k3⟩ := app_step (x := X) hst gp1 hsp1 (by omega) (by omega) (by rw [hp1]; simp) (by simp) hones hfz (by omega)
    rw [← hp1]
    refine wde_of k1 k2 ?_
    have r1 : recOk (.read b) (.eff ⟨hh.H, hh.nx + 9⟩ p) = true := recOk_rd (up.get b hbs (by show b < hh.nx + 9; omega)).symm
    have r2 : recOk (.eff ⟨hh.H, hh.nx + 9⟩ p) (.read b2) = true := recOk_rd' (up.get b2 hb2s (by show b2 < hh.nx + 9; omega)).symm
    simp (disch := first | (simp; done) | omega | (simp only [nx_add, nx_set, nx_kill, nx_mk, nx_emp]; omega) | fail) [g19_s9, r1, r2]
    refine ⟨lv', by rw [hsm], ?_⟩
    rw [hsm]
    rw [hX] at k3
    exact k3.mono (by omega)
theorem round {h0 h : AH} {sid : Nat} {L : List Int} {a o c : Nat} {lv : AV} {l : List Cmd} {i : Int} (hst : St h0 h sid L a lv l c) (hl : l.length ≤ 500) (ho : o ≤ 1000) :
    g19_a6 (tb [e20, e21, e50]) (.ptr sid 0) lv (I o) (I i) h (sP h0 sid L o a l i c) := by
  have hs0 := hst.src
  have w0 := hst.gr.wf
  simp (disch := first | (simp; done) | omega | (simp only [nx_add, nx_set, nx_kill, nx_mk, nx_emp]; omega) | fail) [g19_a6]
  refine R_step hs0 (by omega) (by omega) (by omega) rfl fun h1 hs1 u1 => ?_
  have g1 := (Gr.refl (id := sid) w0).upd u1
  simp (disch := first | (simp; done) | omega | (simp only [nx_add, nx_set, nx_kill, nx_mk, nx_emp]; omega) | fail) [g19_s15]
  refine R_step hs1 (by omega) (by omega) (by omega) rfl fun h2 hs2 u2 => ?_
  have g2 := g1.upd u2
  simp (disch := first | (simp; done) | omega | (simp only [nx_add, nx_set, nx_kill, nx_mk, nx_emp]; omega) | fail) [g19_s14]
  refine N_step hs2 (by omega) (by omega) fun h3 hs3 u3 => ?_
  have g3 := g2.upd u3
  simp (disch := first | (simp; done) | omega | (simp only [nx_add, nx_set, nx_kill, nx_mk, nx_emp]; omega) | fail) [g19_s13]
  refine N_step hs3 (by omega) (by omega) fun h4 hs4 u4 => ?_
  have g4' := g3.upd u4
  simp (disch := first | (simp; done) | omega | (simp only [nx_add, nx_set, nx_kill, nx_mk, nx_emp]; omega) | fail) [g19_s12]
  obtain ⟨h5, hh5⟩ : ∃ h5, h5 = (h4.add (.cells [I 0, I 0, I 0, I 0])).set h4.nx (.cells (rM L a).enc) := ⟨_, rfl⟩
  have g5 : Gr h h5 sid 241 := by rw [hh5]; exact (g4'.add _).set _ g4'.lo (by simp)
  have hs5 : Src h5 sid L (at4 L a) := hs4.gr (by rw [hh5, cellsAt_set_ne _ _ _ _ (by have := hs4.lt; omega), cellsAt_add_ne _ _ _ (by have := hs4.lt; omega)]) (by rw [hh5]; simp)
  have hb5 : h5.cellsAt h4.nx = some (rM L a).enc := by rw [hh5]; simp
  have hb5' : h4.nx < h5.nx := by rw [hh5]; simp
  have hbl := g4'.lo
  have hn4 : h4.nx ≠ sid := by have := hs4.lt; omega
  generalize h4.nx = b at *
  rw [show (h4.add (.cells [AV.int IntKind.i64 0, AV.int IntKind.i64 0, AV.int IntKind.i64 0, AV.int IntKind.i64 0])).set b (.cells [AV.int IntKind.i64 (-20 + nV L a 61), AV.int IntKind.i64 (-20 + nV L (nxA L a) 61), AV.int IntKind.i64 (nV L (nxA L (nxA L a)) 40), AV.int IntKind.i64 (nV L (nxA L (nxA L (nxA L a))) 40)]) = h5 from hh5.symm]
  refine N_step hs5 (by omega) (by omega) fun h6 hs6 u6 => ?_
  have g6 := g5.upd u6
  have hb6 : h6.cellsAt b = some (rM L a).enc := by rw [← hb5]; exact cellsAt_congr (u6.get b hn4 hb5')
  have hb6' : b < h6.nx := by have := u6.lo; omega
  clear hh5 hb5 hb5' g5 hs5 u6 g4' u4 hs4 g3 u3 hs3 g2 u2 hs2 g1 u1 hs1
  have hk1 := nV_ge L (at4 L a) (show (1 : Int) ≤ 9 by omega)
  have hk2 := nV_lt L (at4 L a) (show (1 : Int) ≤ 9 by omega)
  have hb7 : h6.cellsAt b = some [I (rM L a).x, I (rM L a).y, I (rM L a).w, I (rM L a).h] := hb6
  generalize hrm : rM L a = r at *
  -- a command of the box alone, appended
  have fin : ∀ {h7 : AH} {t : Nat} {x : Cmd} {d a' : Nat} {o' : Nat}, Gr h h7 sid d → d ≤ 1500 → Src h7 sid L a' → h.nx ≤ t → t < h7.nx → h7.cellsAt t = some (x.enc.take 21 ++ [.nilsl]) → x.line.gl = [] → sM L o a = ([x], o', a') →
      ∃ lv' h'', kApp h7 22 200 lv (.rsl t 0 1 22) = some (lv', h'') ∧ h7.nx ≤ h''.nx ∧ sP h0 sid L o a l i c [.ptr sid 0, lv', I o', I i] h'' := by
    intro h7 t x d a' o' g7 hd hs7 ht ht' hc hgl hsm
    obtain ⟨lv', h'', hk, hn, hst'⟩ := app_step (x := x) hst g7 hs7 ht ht' hc (by simp) (by
      have := x.ones
      unfold Cmd.enc at *; simpa [ones] using this) (nil_frz _ x hgl) (by omega)
    refine ⟨lv', h'', hk, hn, lv', by rw [hsm], ?_⟩
    rw [hsm]
    exact hst'.mono (by omega)
  have finD : ∀ {h6 h7 : AH} {x : Cmd} {z d a' : Nat} {o' : Nat}, Gr h h6 sid d → d ≤ 1000 → Upd ⟨h6.H, h6.nx + z⟩ h7 sid → z ≤ 100 → 5 < z → Src h7 sid L a' → x.line.gl = [] → sM L o a = ([x], o', a') →
      ∃ lv' h'', kApp (h7.set (h6.nx + 5) (.cells (x.enc.take 21 ++ [.nilsl]))) 22 200 lv (.rsl (h6.nx + 5) 0 1 22) = some (lv', h'') ∧ h7.nx ≤ h''.nx ∧ sP h0 sid L o a l i c [.ptr sid 0, lv', I o', I i] h'' := by
    intro h6 h7 x z d a' o' g6 hd u7 hz hz' hs7 hgl hsm
    have hlo : h6.nx + z ≤ h7.nx := u7.lo
    have hlo6 := g6.lo
    have hlt := hs0.lt
    refine fin (((g6.bump (h6.nx + z) (by omega) z (by omega)).upd u7).set _ (by omega) (by omega)) (by omega) (hs7.gr (cellsAt_set_ne _ _ _ _ (by omega)) (by simp)) (by omega) (by simp; omega) (by simp) hgl hsm
  by_cases k0 : nV L (at4 L a) 9 = 0
  · have hsm : sM L o a = ([clipC r], o + 1, nxA L (at4 L a)) := by unfold sM; rw [if_pos k0, hrm]
    simp (disch := first | (simp; done) | omega | (simp only [nx_add, nx_set, nx_kill, nx_mk, nx_emp]; omega) | fail) [k0, hb7]
    simp (disch := first | (simp; done) | omega | (simp only [nx_add, nx_set, nx_kill, nx_mk, nx_emp]; omega) | fail) [g19_s1]
    refine wk_of (v := .agg ((clipC r).enc.take 21 ++ [.nilsl])) (h := h6) rfl ?_
    refine wk_of (v := .rsl h6.nx 0 1 22) (h := h6.add (.cells ((clipC r).enc.take 21 ++ [.nilsl]))) rfl ?_
    obtain ⟨lv', h'', q1, q2, q3⟩ := fin (x := clipC r) (t := h6.nx) (g6.add (.cells ((clipC r).enc.take 21 ++ [.nilsl]))) (by omega) (hs6.gr (cellsAt_add_ne _ _ _ (by have := hs6.lt; omega)) (by simp)) (by omega) (by simp) (by simp) rfl hsm
    exact wk_of q1 q3
  by_cases k1 : nV L (at4 L a) 9 = 1
  · have hsm : sM L o a = ([tfC (tM L (nxA L (at4 L a)))], o + 1, nxA L (at4 L (nxA L (at4 L a)))) := by unfold sM; rw [if_neg k0, if_pos k1]
    generalize nxA L (at4 L a) = a' at *
    simp (disch := first | (simp; done) | omega | (simp only [nx_add, nx_set, nx_kill, nx_mk, nx_emp]; omega) | fail) [k1]
    refine N_step hs6 (by omega) (by omega) fun h7 hs7 u7 => ?_
    simp (disch := first | (simp; done) | omega | (simp only [nx_add, nx_set, nx_kill, nx_mk, nx_emp]; omega) | fail) [g19_s6]
    refine N_step hs7 (by omega) (by omega) fun h8 hs8 u8 => ?_
    simp (disch := first | (simp; done) | omega | (simp only [nx_add, nx_set, nx_kill, nx_mk, nx_emp]; omega) | fail) [g19_s5]
    refine R_step hs8 (by omega) (by omega) (by omega) rfl fun h9 hs9 u9 => ?_
    simp (disch := first | (simp; done) | omega | (simp only [nx_add, nx_set, nx_kill, nx_mk, nx_emp]; omega) | fail) [g19_s4]
    refine R_step hs9 (by omega) (by omega) (by omega) rfl fun h10 hs10 u10 => ?_
    simp (disch := first | (simp; done) | omega | (simp only [nx_add, nx_set, nx_kill, nx_mk, nx_emp]; omega) | fail) [g19_s3]
    refine R_step hs10 (by omega) (by omega) (by omega) rfl fun h11 hs11 u11 => ?_
    have g11 := ((((g6.upd u7).upd u8).upd u9).upd u10).upd u11
    simp (disch := first | (simp; done) | omega | (simp only [nx_add, nx_set, nx_kill, nx_mk, nx_emp]; omega) | fail) [g19_s2]
    have hlo := g11.lo
    refine wk_of (v := .agg ((tfC (tM L a')).enc.take 21 ++ [.nilsl])) (h := h11) rfl ?_
    refine wk_of (v := .rsl h11.nx 0 1 22) (h := h11.add (.cells ((tfC (tM L a')).enc.take 21 ++ [.nilsl]))) rfl ?_
    obtain ⟨lv', h'', q1, q2, q3⟩ := fin (x := tfC (tM L a')) (t := h11.nx) (g11.add (.cells ((tfC (tM L a')).enc.take 21 ++ [.nilsl]))) (by omega) (hs11.gr (cellsAt_add_ne _ _ _ (by have := hs11.lt; omega)) (by simp)) (by omega) (by simp) (by simp) rfl hsm
    exact wk_of q1 q3
  simp (disch := first | (simp; done) | omega | (simp only [nx_add, nx_set, nx_kill, nx_mk, nx_emp]; omega) | fail) [k0, k1]
  refine ⟨fun vs h' => vs = [.ptr sid 0, lv, I o, I i, .ptr b 0, I (nV L (at4 L a) 9), .bool (decide (nV L (at4 L a) 9 = 2 ∨ nV L (at4 L a) 9 = 3))] ∧ h' = h6, ?_, ?_⟩
  · by_cases k2 : nV L (at4 L a) 9 = 2
    · simp (disch := first | (simp; done) | omega | (simp only [nx_add, nx_set, nx_kill, nx_mk, nx_emp]; omega) | fail) [g19_a1, k2]
    · simp (disch := first | (simp; done) | omega | (simp only [nx_add, nx_set, nx_kill, nx_mk, nx_emp]; omega) | fail) [g19_a1, k2]
      rfl
  rintro vs h' ⟨rfl, rfl⟩
  by_cases k2 : nV L (at4 L a) 9 = 2 ∨ nV L (at4 L a) 9 = 3
  · by_cases ho0 : 0 < o
    · have hsm : sM L o a = ([popC], o - 1, nxA L (at4 L a)) := by unfold sM; rw [if_neg k0, if_neg k1, if_pos k2, if_pos ho0]
      have ho0' : (0 : Int) < o := by omega
      simp (disch := first | (simp; done) | omega | (simp only [nx_add, nx_set, nx_kill, nx_mk, nx_emp]; omega) | fail) [g19_j5, k2, ho0, ho0']
      obtain ⟨lv', h'', q1, q2, q3⟩ := fin (x := popC) (g6.add (.cells (popC.enc.take 21 ++ [.nilsl]))) (by omega) (hs6.gr (cellsAt_add_ne _ _ _ (by have := hs6.lt; omega)) (by simp)) (by have := g6.lo; omega) (by simp) (by simp) rfl hsm
      rw [show ((o : Int) - 1) = ((o - 1 : Nat) : Int) by omega]
      exact wk_of q1 q3
    · have hsm : sM L o a = ([], o, nxA L (at4 L a)) := by unfold sM; rw [if_neg k0, if_neg k1, if_pos k2, if_neg ho0]
      have ho0' : ¬ (0 : Int) < o := by omega
      simp (disch := first | (simp; done) | omega | (simp only [nx_add, nx_set, nx_kill, nx_mk, nx_emp]; omega) | fail) [g19_j5, k2, ho0, ho0']
      refine ⟨lv, by rw [hsm], ?_⟩
      rw [hsm, List.append_nil]
      exact (hst.go g6 hs6).mono (by omega)
  by_cases k4 : nV L (at4 L a) 9 = 4
  · have hsm : sM L o a = ([imgC r (wV L (nxA L (at4 L a)))], o, wA L (nxA L (at4 L a))) := by unfold sM; rw [if_neg k0, if_neg k1, if_neg k2, if_pos k4, hrm]
    simp (disch := first | (simp; done) | omega | (simp only [nx_add, nx_set, nx_kill, nx_mk, nx_emp]; omega) | fail) [g19_j5, k4, hb7]
    generalize nxA L (at4 L a) = a' at *
    refine W_step (hs6.gr rfl (by simp)) fun h7 hs7 u7 => ?_
    refine ⟨u7.lo, ?_⟩
    refine wdp_of (v := .agg ((imgC r (wV L a')).enc.take 21 ++ [.nilsl])) (h' := h7) rfl ?_
    refine wda_of (cs := (imgC r (wV L a')).enc.take 21 ++ [.nilsl]) rfl ?_
    obtain ⟨lv', h'', q1, q2, q3⟩ := finD g6 (by omega) u7 (by omega) (by omega) hs7 rfl hsm
    refine wde_of q1 q2 ?_
    have hrec : recOk (.read b) (.eff ⟨h'.H, h'.nx + 8⟩ h7) = true := recOk_rd (u7.get b hn4 (by show b < h'.nx + 8; omega)).symm
    simp (disch := first | (simp; done) | omega | (simp only [nx_add, nx_set, nx_kill, nx_mk, nx_emp]; omega) | fail) [g19_s7, hrec]
    exact q3
  by_cases k5 : nV L (at4 L a) 9 = 5
  · have hsm : sM L o a = ([glC r (nV L (gM L (nV L (nxA L (nxA L (at4 L a))) 4).toNat [] (nxA L (nxA L (nxA L (at4 L a))))).2 3) (nV L (nxA L (at4 L a)) 5) (gM L (nV L (nxA L (nxA L (at4 L a))) 4).toNat [] (nxA L (nxA L (nxA L (at4 L a))))).1], o, nxA L (gM L (nV L (nxA L (nxA L (at4 L a))) 4).toNat [] (nxA L (nxA L (nxA L (at4 L a))))).2) := by
      unfold sM; rw [if_neg k0, if_neg k1, if_neg k2, if_neg k4, if_pos k5, hrm]
    simp (disch := first | (simp; done) | omega | (simp only [nx_add, nx_set, nx_kill, nx_mk, nx_emp]; omega) | fail) [g19_j5, k5]
    generalize nxA L (at4 L a) = a' at *
    refine N_step hs6 (by omega) (by omega) fun h7 hs7 u7 => ?_
    have g7 := g6.upd u7
    have u7lo := u7.lo
    exact glyphs hst hl ho ⟨g7.lo, by have := g7.hi; omega, g7.get, g7.wf⟩ hs7 hbl (by omega) hn4 (by rw [← hb7]; exact cellsAt_congr (u7.get b hn4 hb6')) hsm
  have hsm : sM L o a = ([filC r (nV L (nxA L (at4 L a)) 4)], o, nxA L (nxA L (at4 L a))) := by unfold sM; rw [if_neg k0, if_neg k1, if_neg k2, if_neg k4, if_neg k5, hrm]
  simp (disch := first | (simp; done) | omega | (simp only [nx_add, nx_set, nx_kill, nx_mk, nx_emp]; omega) | fail) [g19_j5, k2, k4, k5, hb7]
  generalize nxA L (at4 L a) = a' at *
  refine N_step (hs6.gr rfl (by simp)) (by omega) (by omega) fun h7 hs7 u7 => ?_
  refine ⟨u7.lo, ?_⟩
  refine wdp_of (v := .agg ((filC r (nV L a' 4)).enc.take 21 ++ [.nilsl])) (h' := h7) rfl ?_
  refine wda_of (cs := (filC r (nV L a' 4)).enc.take 21 ++ [.nilsl]) rfl ?_
  obtain ⟨lv', h'', q1, q2, q3⟩ := finD g6 (by omega) u7 (by omega) (by omega) hs7 rfl hsm
  refine wde_of q1 q2 ?_
  have hrec : recOk (.read b) (.eff ⟨h'.H, h'.nx + 8⟩ h7) = true := recOk_rd (u7.get b hn4 (by show b < h'.nx + 8; omega)).symm
  simp (disch := first | (simp; done) | omega | (simp only [nx_add, nx_set, nx_kill, nx_mk, nx_emp]; omega) | fail) [g19_s11, hrec]
  exact q3
end Go.Proofs.Ytpnekpbehcbmkaa
end
noncomputable section
namespace Go.Proofs.Ytpnekpbehcbmkaa
open Go.Eng
theorem sM_len (L : List Int) (o a : Nat) : (sM L o a).1.length ≤ 1 := by
  unfold sM; (repeat' split) <;> simp
theorem sM_o (L : List Int) (o a : Nat) : (sM L o a).2.1 ≤ o + 1 := by
  unfold sM; (repeat' split) <;> simp <;> omega
theorem lM_bd (L : List Int) : ∀ (k : Nat) (l : List Cmd) (o a : Nat), (lM L k l o a).1.length ≤ l.length + k ∧ (lM L k l o a).2.1 ≤ o + k
  | 0, l, o, a => by simp [lM]
  | k + 1, l, o, a => by
    have h1 := lM_bd L k (l ++ (sM L o a).1) (sM L o a).2.1 (sM L o a).2.2
    have h2 := sM_len L o a
    have h3 := sM_o L o a
    simp at h1
    simp [lM]
    omega
def kI (h0 : AH) (sid : Nat) (L : List Int) (a K : Nat) (m : Nat) (vs : List AV) (hh : AH) : Prop :=
  ∃ (l : List Cmd) (o a' : Nat) (lv : AV), vs = [.ptr sid 0, lv, I o, I m] ∧ St h0 hh sid L a' lv l (60 + 2000 * (K - m)) ∧ m ≤ K ∧ l.length + m ≤ K ∧ o + m ≤ K ∧ lM L m l o a' = lM L K [] 0 a
def qI (h0 : AH) (sid : Nat) (L : List Int) (a' : Nat) (F : List Cmd) (m : Nat) (vs : List AV) (hh : AH) : Prop :=
  ∃ (l : List Cmd) (lv : AV), vs = [lv, I m] ∧ St h0 hh sid L a' lv l (60 + 2000 * 14 + 2 * (14 - m)) ∧ m ≤ 14 ∧ l.length + m ≤ 28 ∧ l ++ List.replicate m popC = F
theorem commands_c {h : AH} {sid : Nat} {L : List Int} {a : Nat} {n : Int} (hs : Src h sid L a) (hw : WF h) (hn : 0 ≤ n) (hn2 : n ≤ 13 ∨ n = 14) : CallsA Try.prog 19 [.ptr sid 0, I n] h fun v' h' => St h h' sid L (cM L a n).2 v' (cM L a n).1 30000 := by
  refine C19 (tb_ok [e20, e21, e50]) ?_
  have hb1 := nV_ge L a (show 1 ≤ n + 1 by omega)
  have hb2 := nV_lt L a (show 1 ≤ n + 1 by omega)
  simp (disch := first | (simp; done) | omega | (simp only [nx_add, nx_set, nx_kill, nx_mk, nx_emp]; omega) | fail) [g19]
  refine N_step hs (by omega) (by omega) fun h1 hs1 u1 => ?_
  have s1 : St h h1 sid L (nxA L a) .nilsl [] 60 := ⟨hs1, hs.lt, ((Gr.refl hw).upd u1), .inl ⟨rfl, rfl⟩⟩
  have hcM : ∃ K, K = (nV L a (n + 1)).toNat := ⟨_, rfl⟩
  obtain ⟨K, hK⟩ := hcM
  have hKi : nV L a (n + 1) = (K : Int) := by omega
  have hK14 : K ≤ 14 := by omega
  have hF1 : (cM L a n).1 = (lM L K [] 0 (nxA L a)).1 ++ List.replicate (lM L K [] 0 (nxA L a)).2.1 popC := by unfold cM; rw [← hK]
  have hF2 : (cM L a n).2 = (lM L K [] 0 (nxA L a)).2.2 := by unfold cM; rw [← hK]
  rw [hKi, hF1, hF2]
  clear hF1 hF2 hKi hK
  generalize nxA L a = a1 at *
  refine ⟨kI h sid L a1 K, K, ⟨[], 0, a1, .nilsl, rfl, s1.mono (by omega), by omega, by simp, by omega, rfl⟩, ?_⟩
  rintro m vs hh ⟨l, o, a', lv, rfl, st, hmK, hlm, hom, hlM⟩
  by_cases hm : 0 < m
  · have hm' : (0 : Int) < m := by omega
    obtain ⟨m, rfl⟩ : ∃ k, m = k + 1 := ⟨m - 1, by omega⟩
    simp (disch := first | (simp; done) | omega | (simp only [nx_add, nx_set, nx_kill, nx_mk, nx_emp]; omega) | fail) [g19_l8, hm']
    refine ⟨sP h sid L o a' l ((m + 1 : Nat) : Int) (60 + 2000 * (K - (m + 1))), ?_, ?_⟩
    · exact round st (by omega) (by omega)
    rintro vs h2 ⟨lv', rfl, st'⟩
    have k1 := sM_len L o a'
    have k2 := sM_o L o a'
    simp (disch := first | (simp; done) | omega | (simp only [nx_add, nx_set, nx_kill, nx_mk, nx_emp]; omega) | fail) [g19_j7]
    exact ⟨m, by omega, _, _, _, _, rfl, st'.mono (by omega), by omega, by simp; omega, by omega, by rw [← hlM]; rfl⟩
  · obtain rfl : m = 0 := by omega
    have hlM' : lM L K [] 0 a1 = (l, o, a') := hlM.symm
    simp (disch := first | (simp; done) | omega | (simp only [nx_add, nx_set, nx_kill, nx_mk, nx_emp]; omega) | fail) [g19_l8]
    simp (disch := first | (simp; done) | omega | (simp only [nx_add, nx_set, nx_kill, nx_mk, nx_emp]; omega) | fail) [g19_j13, g19_c12, hlM']
    refine ⟨qI h sid L a' (l ++ List.replicate o popC), o, ⟨l, lv, rfl, st.mono (by omega), by omega, by omega, rfl⟩, ?_⟩
    rintro m vs h2 ⟨l2, lv2, rfl, st2, hm14, hl2, hF⟩
    by_cases hm : 0 < m
    · have hm' : (0 : Int) < m := by omega
      obtain ⟨m, rfl⟩ : ∃ k, m = k + 1 := ⟨m - 1, by omega⟩
      simp (disch := first | (simp; done) | omega | (simp only [nx_add, nx_set, nx_kill, nx_mk, nx_emp]; omega) | fail) [g19_l9, hm']
      have hs2 := st2.src
      obtain ⟨lv', h'', q1, q2, q3⟩ := app_step (x := popC) (t := h2.nx) st2 ((Gr.refl st2.gr.wf).add (.cells (popC.enc.take 21 ++ [.nilsl]))) (hs2.gr (cellsAt_add_ne _ _ _ (by have := hs2.lt; omega)) (by simp)) (by omega) (by simp) (by simp) (by simp) rfl (nil_frz _ _ rfl) (by omega)
      refine wk_of q1 ⟨m, by omega, l2 ++ [popC], lv', rfl, q3.mono (by omega), by omega, by simp; omega, ?_⟩
      rw [← hF, List.append_assoc]; rfl
    · obtain rfl : m = 0 := by omega
      simp (disch := first | (simp; done) | omega | (simp only [nx_add, nx_set, nx_kill, nx_mk, nx_emp]; omega) | fail) [g19_l9]
      simp (disch := first | (simp; done) | omega | (simp only [nx_add, nx_set, nx_kill, nx_mk, nx_emp]; omega) | fail) [g19_j11, g19_c10]
      have hF' : l2 = l ++ List.replicate o popC := by rw [← hF]; simp
      rw [← hF']
      exact st2.mono (by omega)
def gS (h : AH) (sid : Nat) (L : List Int) (a : Nat) : AH := h.set sid (.cells (srcC L a))
theorem gS_get {h h' : AH} {sid : Nat} {L : List Int} {a c : Nat} {lv : AV} {l : List Cmd} (st : St h h' sid L a lv l c) : ∀ i, i < h.nx → (gS h sid L a).H.get i = h'.H.get i := by
  intro i hi
  unfold gS
  rw [get_set]
  by_cases h1 : i = sid
  · subst h1; rw [if_pos rfl]; exact (cellsAt_get st.src.c).symm
  · rw [if_neg h1]; exact (st.gr.get i h1 hi).symm
theorem gS_low {h : AH} {sid : Nat} {L : List Int} {a : Nat} (hw : WF h) (hs : sid < h.nx) : ∀ i o, (gS h sid L a).H.get i = some o → i < h.nx := by
  intro i o hi
  refine Nat.lt_of_not_le fun hle => ?_
  unfold gS at hi
  rw [get_set, if_neg (by omega), hw i hle] at hi
  cases hi
/-- the value and the heap after 'commands' -/
def cmV (h : AH) (l : List Cmd) : AV := if l = [] then .nilsl else .rsl (h.nx + 30000) 0 l.length 22
def cmH (h : AH) (sid : Nat) (L : List Int) (a : Nat) (l : List Cmd) : AH := if l = [] then ⟨(gS h sid L a).H, h.nx + 30000⟩ else settled (gS h sid L a) (h.nx + 30000) (flatC l)
/-- what a call does whose end is a list of commands and a reader that stands elsewhere -/
theorem settleC {f : Nat} {args : List AV} {h : AH} {sid : Nat} {L : List Int} {a : Nat} {l : List Cmd} (hw : WF h) (hc : CallsA Try.prog f args h fun v' h' => St h h' sid L a v' l 30000) (hs : sid < h.nx) : CallD Try.prog f args h (cmV h l) (cmH h sid L a l) := by
  unfold cmV cmH
  by_cases hl : l = []
  · rw [if_pos hl, if_pos hl]
    refine Go.Eng.settle0 hc fun v' h' st => ⟨st.gr.hi, gS_get st, gS_low hw hs, ?_⟩
    rcases st.list with ⟨h1, _⟩ | ⟨id, cs, _, h2, _⟩
    · exact h1
    · exact absurd hl h2
  · rw [if_neg hl, if_neg hl]
    refine Go.Eng.settle hc fun v' h' st => ⟨st.gr.hi, gS_get st, gS_low hw hs, ?_⟩
    rcases st.list with ⟨_, h1⟩ | ⟨id, cs, h1, h2, h3, h4, h5, h6⟩
    · exact absurd h1 hl
    · exact ⟨id, cs, h3, h5, h6, h1⟩
/-- a list of commands that stands in an object of its own, or none -/
def Lst (h : AH) (lo : Nat) (v : AV) (l : List Cmd) : Prop := (v = .nilsl ∧ l = []) ∨ ∃ id, v = .rsl id 0 l.length 22 ∧ l ≠ [] ∧ lo ≤ id ∧ id < h.nx ∧ h.cellsAt id = some (flatC l)
theorem cm_step {h : AH} {sid : Nat} {L : List Int} {a : Nat} {l : List Cmd} (hw : WF h) (hs : Src h sid L a) (a' : Nat) (ha' : a' ≤ L.length) :
    Src (cmH h sid L a' l) sid L a' ∧ WF (cmH h sid L a' l) ∧ h.nx ≤ (cmH h sid L a' l).nx ∧ (cmH h sid L a' l).nx ≤ h.nx + 30001 ∧ (∀ i, i ≠ sid → i < h.nx → (cmH h sid L a' l).H.get i = h.H.get i) ∧ Lst (cmH h sid L a' l) h.nx (cmV h l) l := by
  have hlt := hs.lt
  unfold cmH cmV
  by_cases hl : l = []
  · rw [if_pos hl, if_pos hl]
    refine ⟨⟨cellsAt_set_self _ _ _ _ rfl, ha', hs.ok, by show sid < h.nx + 30000; omega⟩, (hw.set sid hlt _).bump _ (by show h.nx ≤ _; omega), by show h.nx ≤ h.nx + 30000; omega, by show h.nx + 30000 ≤ _; omega, fun i hi _ => ?_, .inl ⟨rfl, hl⟩⟩
    show (h.set sid _).H.get i = _
    rw [get_set, if_neg hi]
  · rw [if_neg hl, if_neg hl]
    have hg : ∀ i, i ≠ h.nx + 30000 → (settled (gS h sid L a') (h.nx + 30000) (flatC l)).H.get i = (gS h sid L a').H.get i := fun i hi => by rw [get_settled, if_neg hi]
    refine ⟨⟨?_, ha', hs.ok, by show sid < h.nx + 30000 + 1; omega⟩, fun i hi => ?_, by show h.nx ≤ h.nx + 30000 + 1; omega, by show h.nx + 30000 + 1 ≤ _; omega, fun i hi hil => ?_, .inr ⟨h.nx + 30000, rfl, hl, by omega, by show h.nx + 30000 < h.nx + 30000 + 1; omega, ?_⟩⟩
    · rw [cellsAt_congr (hg sid (by omega))]; exact cellsAt_set_self _ _ _ _ rfl
    · have hi' : h.nx + 30000 + 1 ≤ i := hi
      rw [hg i (by omega)]
      exact hw.set sid hlt _ i (by show h.nx ≤ i; omega)
    · rw [hg i (by omega)]
      show (h.set sid _).H.get i = _
      rw [get_set, if_neg hi]
    · unfold AH.cellsAt
      rw [get_settled, if_pos rfl]
theorem gM_at (L : List Int) : ∀ (k : Nat) (g : List Gl) (a : Nat), a ≤ L.length → (gM L k g a).2 ≤ L.length
  | 0, g, a, h => by simpa [gM] using h
  | k + 1, g, a, h => gM_at L k _ _ (nxA_le L (nxA_le L h))
theorem wA_le (L : List Int) {a : Nat} (h : a ≤ L.length) : wA L a ≤ L.length := by
  unfold wA; split
  · exact nxA_le L h
  · exact nxA_le L (nxA_le L h)
theorem at4_le (L : List Int) {a : Nat} (h : a ≤ L.length) : at4 L a ≤ L.length := nxA_le L (nxA_le L (nxA_le L (nxA_le L h)))
theorem sM_at (L : List Int) (o a : Nat) (h : a ≤ L.length) : (sM L o a).2.2 ≤ L.length := by
  have h4 := nxA_le L (at4_le L h)
  unfold sM
  (repeat' split)
  · exact h4
  · exact nxA_le L (at4_le L h4)
  · exact h4
  · exact h4
  · exact wA_le L h4
  · exact nxA_le L (gM_at L _ _ _ (nxA_le L (nxA_le L h4)))
  · exact nxA_le L h4
theorem lM_at (L : List Int) : ∀ (k : Nat) (l : List Cmd) (o a : Nat), a ≤ L.length → (lM L k l o a).2.2 ≤ L.length
  | 0, l, o, a, h => h
  | k + 1, l, o, a, h => lM_at L k _ _ _ (sM_at L o a h)
theorem cM_at (L : List Int) (a : Nat) (n : Int) (h : a ≤ L.length) : (cM L a n).2 ≤ L.length := lM_at L _ _ _ _ (nxA_le L h)
def e19 : QE Try.prog := ⟨19, fun args h Q => ∃ sid L a n, args = [.ptr sid 0, I n] ∧ (Src h sid L a ∧ WF h ∧ 0 ≤ n ∧ n ≤ 14) ∧ Q (cmV h (cM L a n).1) (cmH h sid L (cM L a n).2 (cM L a n).1), fun args h Q ⟨sid, L, a, n, h1, ⟨h2, h3, h4, h5⟩, h6⟩ => by
  subst h1; exact ⟨_, _, settleC h3 (commands_c h2 h3 h4 (by omega)) h2.lt, h6⟩⟩
@[simp ↓] theorem e19_t (tl : List (QE Try.prog)) (f : Nat) (args : List AV) (h : AH) (Q : AV → AH → Prop) (hf : 19 ≠ f) : tb (e19 :: tl) f args h Q = tb tl f args h Q := tb_there e19 tl f args h Q hf
theorem C_step {tl : List (QE Try.prog)} {sid : Nat} {L : List Int} {a : Nat} {n : Int} {h : AH} {Q : AV → AH → Prop} (hs : Src h sid L a) (hw : WF h) (hn : 0 ≤ n) (hn2 : n ≤ 14)
    (hq : ∀ v h1, Src h1 sid L (cM L a n).2 → WF h1 → h.nx ≤ h1.nx → h1.nx ≤ h.nx + 30001 → (∀ i, i ≠ sid → i < h.nx → h1.H.get i = h.H.get i) → Lst h1 h.nx v (cM L a n).1 → Q v h1) : tb (e19 :: tl) 19 [.ptr sid 0, I n] h Q := by
  rw [tb_here e19 tl 19 _ _ _ rfl]
  obtain ⟨k1, k2, k3, k4, k5, k6⟩ := cm_step (l := (cM L a n).1) hw hs (cM L a n).2 (cM_at L a n hs.le)
  exact ⟨sid, L, a, n, rfl, ⟨hs, hw, hn, hn2⟩, hq _ _ k1 k2 k3 k4 k5 k6⟩
end Go.Proofs.Ytpnekpbehcbmkaa
end
noncomputable section
namespace Go.Proofs.Ytpnekpbehcbmkaa
open Go.Eng
theorem gM_len (L : List Int) : ∀ (k : Nat) (g : List Gl) (a : Nat), (gM L k g a).1.length = g.length + k
  | 0, g, a => by simp [gM]
  | k + 1, g, a => by simp [gM, gM_len L k]; omega
def GlOk (l : List Cmd) : Prop := ∀ c ∈ l, c.line.gl.length ≤ 10
theorem sM_gl (L : List Int) (o a : Nat) : GlOk (sM L o a).1 := by
  have hk : ∀ a, (nV L a 4).toNat ≤ 3 := fun a => by
    have h1 := nV_ge L a (show (1 : Int) ≤ 4 by omega)
    have h2 := nV_lt L a (show (1 : Int) ≤ 4 by omega)
    omega
  unfold sM GlOk
  (repeat' split) <;> intro c hc <;> simp at hc <;> subst hc <;> first | (show (0 : Nat) ≤ 10; omega) | skip
  show (gM L _ _ _).1.length ≤ 10
  rw [gM_len]
  have := hk (nxA L (nxA L (at4 L a)))
  simp; omega
theorem GlOk.app {a b : List Cmd} (h1 : GlOk a) (h2 : GlOk b) : GlOk (a ++ b) := fun c hc => by
  rcases List.mem_append.1 hc with h | h
  · exact h1 c h
  · exact h2 c h
theorem lM_gl (L : List Int) : ∀ (k : Nat) (l : List Cmd) (o a : Nat), GlOk l → GlOk (lM L k l o a).1
  | 0, l, o, a, h => h
  | k + 1, l, o, a, h => lM_gl L k _ _ _ (h.app (sM_gl L o a))
theorem cM_gl (L : List Int) (a : Nat) (n : Int) : GlOk (cM L a n).1 := by
  refine GlOk.app (lM_gl L _ _ _ _ fun c hc => by simp at hc) fun c hc => ?_
  rw [(List.mem_replicate.1 hc).2]
  show (0 : Nat) ≤ 10; omega
theorem cM_len (L : List Int) (a : Nat) (n : Int) (h1 : 0 ≤ n) (h2 : n ≤ 14) : (cM L a n).1.length ≤ 28 := by
  have hb1 := nV_ge L a (show 1 ≤ n + 1 by omega)
  have hb2 := nV_lt L a (show 1 ≤ n + 1 by omega)
  have := lM_bd L (nV L a (n + 1)).toNat [] 0 (nxA L a)
  unfold cM
  simp at this ⊢
  omega
theorem lite_of {l : List Cmd} (h1 : l.length ≤ 1000) (h2 : GlOk l) : Lite l := ⟨by omega, fun c hc => by have := h2 c hc; omega⟩
theorem Lst.frz {h : AH} {lo : Nat} {v : AV} {l : List Cmd} (hl : Lst h lo v l) : Frz h false v (cmds l) := by
  rcases hl with ⟨rfl, rfl⟩ | ⟨id, rfl, _, _, _, hc⟩
  · exact .nilsl
  · exact frz_rows Cmd.len (l := l) hc (fun a _ c hc => a.pls c hc h)
def e18 : QE Try.prog := ⟨18, fun args h Q => ∃ l, args = [ints l] ∧ SmX l ∧ Q (.ptr h.nx 0) (h.add (.cells (srcC (newL l) 0))), fun args h Q ⟨l, h1, h2, h3⟩ => by
  subst h1; exact ⟨_, _, new_d h2, h3⟩⟩
theorem e18_h {tl : List (QE Try.prog)} {l : List Int} {h : AH} {Q : AV → AH → Prop} (h2 : SmX l) (h3 : Q (.ptr h.nx 0) (h.add (.cells (srcC (newL l) 0)))) : tb (e18 :: tl) 18 [ints l] h Q := by
  rw [tb_here e18 tl 18 _ _ _ rfl]; exact ⟨l, rfl, h2, h3⟩
@[simp ↓] theorem e18_t (tl : List (QE Try.prog)) (f : Nat) (args : List AV) (h : AH) (Q : AV → AH → Prop) (hf : 18 ≠ f) : tb (e18 :: tl) f args h Q = tb tl f args h Q := tb_there e18 tl f args h Q hf
theorem WF.emp : WF emp := fun i _ => by simp [Go.Eng.emp, PM.get]
theorem Lst.keep {h h' : AH} {lo : Nat} {v : AV} {l : List Cmd} (hl : Lst h lo v l) (hn : h.nx ≤ h'.nx) (hg : ∀ i, lo ≤ i → i < h.nx → h'.H.get i = h.H.get i) : Lst h' lo v l := by
  rcases hl with h1 | ⟨id, h1, h2, h3, h4, h5⟩
  · exact .inl h1
  · exact .inr ⟨id, h1, h2, h3, by omega, by rw [cellsAt_congr (hg id h3 h4)]; exact h5⟩
theorem Lst.klen {h h' : AH} {lo : Nat} {v : AV} {l : List Cmd} (hl : Lst h lo v l) : kLen h' v = some (I l.length, h') := by
  rcases hl with ⟨rfl, rfl⟩ | ⟨id, rfl, _⟩ <;> simp
end Go.Proofs.Ytpnekpbehcbmkaa
end
noncomputable section
namespace Go.Proofs.Ytpnekpbehcbmkaa
open Go.Eng
/-- a list of commands in an object of its own, whose empty runs of glyphs may be nil -/
def LsF (h : AH) (lo : Nat) (v : AV) (l : List Cmd) : Prop := (v = .nilsl ∧ l = []) ∨ ∃ id cs, v = .rsl id 0 l.length 22 ∧ lo ≤ id ∧ id < h.nx ∧ h.cellsAt id = some cs ∧ ∀ H, FrzL H false cs (flatC l)
theorem flatC_pl (l : List Cmd) (H : AH) : FrzL H false (flatC l) (flatC l) := by
  rw [FrzL_iff]
  refine ⟨rfl, fun i x y hx hy => ?_⟩
  rw [hx] at hy; cases hy
  unfold flatC at hx
  obtain ⟨e, he, hxe⟩ := List.mem_flatten.1 (List.mem_of_getElem? hx)
  obtain ⟨c, _, rfl⟩ := List.mem_map.1 he
  exact c.pls x hxe H
theorem LsF.keep {h h' : AH} {lo : Nat} {v : AV} {l : List Cmd} (hl : LsF h lo v l) (hn : h.nx ≤ h'.nx) (hg : ∀ i, lo ≤ i → i < h.nx → h'.H.get i = h.H.get i) : LsF h' lo v l := by
  rcases hl with h1 | ⟨id, cs, h1, h3, h4, h5, h6⟩
  · exact .inl h1
  · exact .inr ⟨id, cs, h1, h3, by omega, by rw [cellsAt_congr (hg id h3 h4)]; exact h5, h6⟩
theorem LsF.frz {h : AH} {lo : Nat} {v : AV} {l : List Cmd} (hl : LsF h lo v l) : Frz h false v (cmds l) := by
  rcases hl with ⟨rfl, rfl⟩ | ⟨id, cs, rfl, _, _, hc, hf⟩
  · exact .nilsl
  · have hf' := (FrzL_iff _ _ _ _).1 (hf h)
    have hlen : cs.length = l.length * 22 := by rw [hf'.1]; unfold flatC; exact flat_len Cmd.len l
    have := Frz.rsl (h := h) (n := false) id 0 22 cs (l.map Cmd.enc) hc (by simp; omega) (fun i y hy => by simp at hy; obtain ⟨a, _, rfl⟩ := hy; exact a.len) (fun i y j c d h1 h2 h3 => ?_)
    · rw [List.length_map] at this; exact this
    · simp only [List.getElem?_map, Option.map_eq_some_iff] at h1
      obtain ⟨a, ha, rfl⟩ := h1
      have hj : j < 22 := by rw [← Cmd.len a]; exact (List.getElem?_eq_some_iff.1 h2).1
      refine hf'.2 (0 + i * 22 + j) c d h3 ?_
      rw [Nat.zero_add]
      unfold flatC
      rw [flat_get Cmd.len l i j a ha hj]; exact h2
theorem flat_take (l : List Cmd) (k : Nat) (hk : k ≤ l.length) : cut (flatC l) 0 (k * 22) = some (flatC (l.take k)) := by
  have h1 : flatC l = flatC (l.take k) ++ flatC (l.drop k) := by
    unfold flatC; rw [← List.flatten_append, ← List.map_append, List.take_append_drop]
  rw [h1]
  exact cut_zero_app (by unfold flatC; rw [flat_len Cmd.len]; simp; omega)
end Go.Proofs.Ytpnekpbehcbmkaa
end
noncomputable section
namespace Go.Proofs.Ytpnekpbehcbmkaa
open Go.Eng
theorem flat_at (l : List Cmd) (k j : Nat) (hk : k < l.length) (hj : j < 22) : (flatC l)[k * 22 + j]? = (l[k].enc)[j]? := by
  unfold flatC
  exact flat_get Cmd.len l k j l[k] (by simp [hk]) hj
/-- what a cell of a command holds, where it is known to be a number -/
theorem frz_int {h : AH} {n : Bool} {y : AV} {m : Int} (hf : Frz h n y (I m)) : y = I m := by
  generalize hb : AV.int IntKind.i64 m = b at hf
  cases hf <;> cases hb
  rfl
theorem LV.cell {h0 h : AH} {lv : AV} {l : List Cmd} (hl : LV h0 h lv l) (k : Nat) (hk : k < l.length) : ∃ id cs, lv = .rsl id 0 l.length 22 ∧ h0.nx ≤ id ∧ id < h.nx ∧ h.cellsAt id = some cs ∧ cs.length = l.length * 22 ∧ FrzL (rest h h0.nx id) false cs (flatC l) ∧ cs[k * 22]? = some (I l[k].kind) ∧ cs[k * 22 + 1]? = some (I l[k].r.x) := by
  rcases hl with ⟨_, rfl⟩ | ⟨id, cs, h1, _, h3, h4, h5, h6⟩
  · simp at hk
  have hf := (FrzL_iff _ _ _ _).1 h6
  have hlen : cs.length = l.length * 22 := by rw [hf.1]; unfold flatC; exact flat_len Cmd.len l
  have hlt : k * 22 + 1 < cs.length := by omega
  refine ⟨id, cs, h1, h3, h4, h5, hlen, h6, ?_, ?_⟩
  · have e1 : (flatC l)[k * 22]? = some (I l[k].kind) := flat_at l k 0 hk (by omega)
    have := frz_int (hf.2 (k * 22) cs[k * 22] _ (by simp) e1)
    rw [← this]; simp
  · have e1 : (flatC l)[k * 22 + 1]? = some (I l[k].r.x) := flat_at l k 1 hk (by omega)
    have := frz_int (hf.2 (k * 22 + 1) cs[k * 22 + 1] _ (by simp) e1)
    rw [← this]; simp
theorem flat_set : ∀ (l : List Cmd) (k : Nat) (x : Cmd), k < l.length → flatC (l.set k x) = (flatC l).take (k * 22) ++ x.enc ++ (flatC l).drop (k * 22 + 22)
  | [], k, x, h => by simp at h
  | c :: l, 0, x, h => by
    have h1 : flatC (c :: l) = c.enc ++ flatC l := by simp [flatC]
    have h2 : flatC (x :: l) = x.enc ++ flatC l := by simp [flatC]
    rw [List.set_cons_zero, h1, h2]
    simp [List.drop_append]
  | c :: l, k + 1, x, h => by
    have h1 : flatC (c :: l) = c.enc ++ flatC l := by simp [flatC]
    have h2 : flatC (c :: l.set k x) = c.enc ++ flatC (l.set k x) := by simp [flatC]
    have ih := flat_set l k x (by simpa using h)
    rw [List.set_cons_succ, h1, h2, ih, List.take_append, List.drop_append]
    have e1 : (k + 1) * 22 - c.enc.length = k * 22 := by rw [Cmd.len]; omega
    have e2 : (k + 1) * 22 + 22 - c.enc.length = k * 22 + 22 := by rw [Cmd.len]; omega
    have t1 : c.enc.take ((k + 1) * 22) = c.enc := List.take_of_length_le (by rw [Cmd.len]; omega)
    have t2 : c.enc.drop ((k + 1) * 22 + 22) = [] := List.drop_of_length_le (by rw [Cmd.len]; omega)
    rw [e1, e2, t1, t2]
    simp
theorem frzL_take {h : AH} {n : Bool} {a b : List AV} (hf : FrzL h n a b) (k : Nat) : FrzL h n (a.take k) (b.take k) := by
  rw [FrzL_iff] at hf ⊢
  refine ⟨by simp [hf.1], fun i x y hx hy => ?_⟩
  rw [List.getElem?_take] at hx hy
  split at hx
  · rename_i hi
    rw [if_pos hi] at hy
    exact hf.2 i x y hx hy
  · cases hx
theorem frzL_drop {h : AH} {n : Bool} {a b : List AV} (hf : FrzL h n a b) (k : Nat) : FrzL h n (a.drop k) (b.drop k) := by
  rw [FrzL_iff] at hf ⊢
  refine ⟨by simp [hf.1], fun i x y hx hy => ?_⟩
  rw [List.getElem?_drop] at hx hy
  exact hf.2 (k + i) x y hx hy
/-- one command is written -/
theorem LV.put {h0 h : AH} {id k : Nat} {l : List Cmd} {cs tc : List AV} {x : Cmd} (h3 : h0.nx ≤ id) (h4 : id < h.nx) (hlen : cs.length = l.length * 22) (h6 : FrzL (rest h h0.nx id) false cs (flatC l)) (hk : k < l.length) (ht : tc.length = 22) (hx : ∀ H, FrzL H false tc x.enc) :
    ∃ cs', splice cs (k * 22) tc = some cs' ∧ LV h0 (h.set id (.cells cs')) (.rsl id 0 l.length 22) (l.set k x) := by
  refine ⟨cs.take (k * 22) ++ tc ++ cs.drop (k * 22 + tc.length), by unfold splice; rw [if_pos (by omega)], .inr ⟨id, _, by simp, fun he => ?_, h3, by simp; omega, cellsAt_set_self _ _ _ _ rfl, ?_⟩⟩
  · have := congrArg List.length he
    simp at this; subst this; simp at hk
  · rw [flat_set l k x hk, ht]
    have he : ∀ (o : AObj) i cs, (rest h h0.nx id).cellsAt i = some cs → (rest (h.set id o) h0.nx id).cellsAt i = some cs := fun o i cs hi => by
      have hgi := cellsAt_get hi
      rw [get_rest] at hgi
      split at hgi
      · cases hgi
      · rw [cellsAt_rest (by omega) (by omega), cellsAt_set_ne _ _ _ _ (by omega), ← hi, cellsAt_rest (by omega) (by omega)]
    exact ((frzL_take (h6.ext (he _)) _).app (hx _)).app (frzL_drop (h6.ext (he _)) _)
end Go.Proofs.Ytpnekpbehcbmkaa
end
noncomputable section
namespace Go.Proofs.Ytpnekpbehcbmkaa
open Go.Eng
/-! A list that differs from another one in some commands. -/
def chR (L : List Int) (a : Nat) : Rect := ⟨-20 + nV L a 61, -20 + nV L (nxA L a) 61, nV L (nxA L (nxA L a)) 30, nV L (nxA L (nxA L (nxA L a))) 30⟩
/-- one round: the list, where the reader stands -/
def ch1 (L : List Int) (l : List Cmd) (a : Nat) : List Cmd × Nat :=
  match l[(nV L a l.length).toNat]? with
  | none => (l, a)
  | some c => if c.kind = 4 then (l.set (nV L a l.length).toNat (filC (chR L (nxA L a)) (nV L (at4 L (nxA L a)) 4)), nxA L (at4 L (nxA L a)))
    else if nV L (nxA L a) 3 = 0 then (l.set (nV L a l.length).toNat { c with r := { c.r with x := c.r.x + 1 } }, nxA L (nxA L a))
    else (l, nxA L (nxA L a))
def chM (L : List Int) : Nat → List Cmd → Nat → List Cmd × Nat
  | 0, l, a => (l, a)
  | k + 1, l, a => if l = [] then (l, a) else chM L k (ch1 L l a).1 (ch1 L l a).2
def Rb (n : Int) (l : List Cmd) : Prop := ∀ c ∈ l, -1000 ≤ c.r.x ∧ c.r.x ≤ n
def hI (h0 : AH) (sid : Nat) (L : List Int) (F : List Cmd × Nat) (m : Nat) (vs : List AV) (hh : AH) : Prop :=
  ∃ (l : List Cmd) (a' : Nat) (lv : AV) (c : Nat), vs = [.ptr sid 0, lv, I ((m : Int) - 1)] ∧ St h0 hh sid L a' lv l c ∧ c + 1000 * m ≤ 5000 ∧ m ≤ 3 ∧ l.length ≤ 100 ∧ Rb (1000 - m) l ∧ chM L m l a' = F
theorem LV.klen {h0 h h' : AH} {lv : AV} {l : List Cmd} (hl : LV h0 h lv l) : kLen h' lv = some (I l.length, h') := by
  rcases hl with ⟨rfl, rfl⟩ | ⟨id, cs, rfl, _⟩ <;> simp
theorem Rb.app {n : Int} {a b : List Cmd} (h1 : Rb n a) (h2 : Rb n b) : Rb n (a ++ b) := fun c hc => by
  rcases List.mem_append.1 hc with h | h
  · exact h1 c h
  · exact h2 c h
end Go.Proofs.Ytpnekpbehcbmkaa
end
noncomputable section
namespace Go.Proofs.Ytpnekpbehcbmkaa
open Go.Eng
/-! The law: the damage of the program is that of the reference. -/
theorem heavy_lite {l : List Cmd} (h : heavy l = false) : Lite l := by
  simp [heavy] at h
  exact ⟨by omega, fun c hc => by have := h.2 c hc; omega⟩
end Go.Proofs.Ytpnekpbehcbmkaa
end
