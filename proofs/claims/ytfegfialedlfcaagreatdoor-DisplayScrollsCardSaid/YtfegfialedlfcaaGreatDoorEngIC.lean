/- The painter: the root. A contract with ghosts beside a laid variable, called where other objects are. Paint. Values without ghosts; rows of a list of one's own, taken as frozen. -/
import Derived.Test.YtfegfialedlfcaaGreatDoorDsN
import Derived.Test.YtfegfialedlfcaaGreatDoorEngGI
set_option linter.unusedSimpArgs false
set_option linter.unusedVariables false
set_option linter.unnecessarySimpa false
noncomputable section
namespace Go.Proofs.YtfegfialedlfcaaGreatDoor
open Go.Eng
/-! the painter: the root -/
theorem own0_d {h : AH} {px a b c : Nat} {out : AV} {ka kb kc : List (AV × AV)} {off id kind : Int} {ja jb : Nat} {N S : List AV} {r : Rc} (hP : PS h px a b c ka kb kc off out)
    (hN : kfind (.one (.int .i64)) (I id) ka 0 = some (some (ja, .agg N))) (hS : kfind (.one (.int .i64)) (I id) kb 0 = some (some (jb, .agg S))) (N1 : N.length = 7) (N2 : ones N = true) (N3 : N[2]? = some (I kind)) (hk : kind = 1 ∨ kind = 8)
    (S1 : S.length = 22) (S2 : ones S = true) (S3 : S[21]? = some (I 0)) (S4 : S[1]? = some (I (-1))) : CallD Tryz.prog 60 [.ptr px 0, I id, .agg r.enc] h (.tup []) h := by
  refine restT (C60 (tU_ok _) ?_)
  have hp := hP.p
  have hx := hP.lp
  have la := hP.la
  have lb := hP.lb
  have m1 : ¬ px = h.nx := by omega
  simp (disch := first | (simp; done) | omega | (simp only [nx_add, nx_set, nx_kill, nx_mk, nx_emp]; omega) | fail) [g60, hp, m1]
  have ha : (AH.mk (h.add (.cells r.enc)).H (h.nx + 1 + 23)).mapAt a = some ka := (mapAt_add (by omega)).trans hP.ma
  have hb' : (AH.mk (h.add (.cells r.enc)).H (h.nx + 1 + 23)).mapAt b = some kb := (mapAt_add (by omega)).trans hP.mb
  have g1 := fun z => get_of (z := z) ha hN
  have g2 := fun z => get_of (z := z) hb' hS
  simp (disch := first | (simp; done) | omega | (simp only [nx_add, nx_set, nx_kill, nx_mk, nx_emp]; omega) | fail) [g1, xRd, rdK, g60_s10, hp, m1]
  simp (disch := first | (simp; done) | omega | (simp only [nx_add, nx_set, nx_kill, nx_mk, nx_emp]; omega) | fail) [g2]
  have o1 : ¬ h.nx + 1 + 17 = px := by omega
  have o2 : ¬ h.nx + 1 + 17 = a := by omega
  have o3 : ¬ h.nx + 1 + 17 = b := by omega
  have o4 : ¬ h.nx + 1 + 18 = px := by omega
  have o5 : ¬ h.nx + 1 + 18 = a := by omega
  have o6 : ¬ h.nx + 1 + 18 = b := by omega
  have o7 : ¬ h.nx + 1 + 19 = px := by omega
  have o8 : ¬ h.nx + 1 + 19 = a := by omega
  have o9 : ¬ h.nx + 1 + 19 = b := by omega
  simp (disch := first | (simp; done) | omega | (simp only [nx_add, nx_set, nx_kill, nx_mk, nx_emp]; omega) | fail) [g60_s9, splice_all, N1, N2, S1, S2, o1, o2, o3, o4, o5, o6, o7, o8, o9]
  refine ⟨by omega, by omega, by omega, ?_⟩
  generalize hH : AH.set (AH.set (AH.set (AH.set _ _ _) _ _) _ _) (h.nx + 1 + 19) _ = H
  have q17 : ¬ h.nx = h.nx + 1 + 17 := by omega
  have q18 : ¬ h.nx = h.nx + 1 + 18 := by omega
  have q19 : ¬ h.nx = h.nx + 1 + 19 := by omega
  have k0 : H.cellsAt h.nx = some r.enc := by rw [← hH]; simp (disch := first | (simp; done) | omega | (simp only [nx_add, nx_set, nx_kill, nx_mk, nx_emp]; omega) | fail) [q17, q18, q19]
  have kN : H.cellsAt (h.nx + 1 + 17) = some N := by rw [← hH]; simp (disch := first | (simp; done) | omega | (simp only [nx_add, nx_set, nx_kill, nx_mk, nx_emp]; omega) | fail) []
  have kS : H.cellsAt (h.nx + 1 + 18) = some S := by rw [← hH]; simp (disch := first | (simp; done) | omega | (simp only [nx_add, nx_set, nx_kill, nx_mk, nx_emp]; omega) | fail) []
  have kA : H.cellsAt (h.nx + 1 + 19) = some (Pt.enc ⟨r.x, r.y⟩) := by rw [← hH]; simp (disch := first | (simp; done) | omega | (simp only [nx_add, nx_set, nx_kill, nx_mk, nx_emp]; omega) | fail) []; rfl
  have kg : ∀ i, i < h.nx → H.H.get i = h.H.get i := fun i hi => by
    rw [← hH, get_set, if_neg (by omega), get_set, if_neg (by omega), get_set, if_neg (by omega), get_set, if_neg (by omega), get_set, if_neg (by omega), get_set, if_neg (by omega)]
    exact (Fr.refl h |>.add _).get i hi
  have kp : H.cellsAt px = some [.mapv a, .mapv b, .mapv c, offL off, .nilsl, out] := (cellsAt_congr (kg px hx)).trans hp
  have kn : H.nx = h.nx + 24 := by rw [← hH]; simp
  clear hH g1 g2 ha hb' o1 o2 o3 o4 o5 o6 o7 o8 o9
  have s21 : S[21]'(by omega) = I 0 := Option.some.inj ((List.getElem?_eq_getElem _).symm.trans S3)
  have s1 : S[1]'(by omega) = I (-1) := Option.some.inj ((List.getElem?_eq_getElem _).symm.trans S4)
  have n2' : N[2]'(by omega) = I kind := Option.some.inj ((List.getElem?_eq_getElem _).symm.trans N3)
  simp (disch := first | (simp; done) | omega | (simp only [nx_add, nx_set, nx_kill, nx_mk, nx_emp]; omega) | fail) [g60_s8, kS, s21, s1]
  refine ⟨fun vs h' => vs = [.ptr px 0, I id, .ptr h.nx 0, .ptr (h.nx + 1 + 17) 0, .ptr (h.nx + 1 + 18) 0, .ptr (h.nx + 1 + 19) 0] ∧ h' = H, ?_, ?_⟩
  · simp (disch := first | (simp; done) | omega | (simp only [nx_add, nx_set, nx_kill, nx_mk, nx_emp]; omega) | fail) [g60_a1]
  · rintro vs h' ⟨rfl, rfl⟩
    simp (disch := first | (simp; done) | omega | (simp only [nx_add, nx_set, nx_kill, nx_mk, nx_emp]; omega) | fail) [g60_j13, kA]
    refine sD (mark_d (hp := kp) (by omega)) ?_
    simp (disch := first | (simp; done) | omega | (simp only [nx_add, nx_set, nx_kill, nx_mk, nx_emp]; omega) | fail) [kN, n2']
    refine sD (text_d _ _ hk) ?_
    refine ⟨fun vs h2 => (∃ v5, vs = [.ptr px 0, I id, v5, .ptr (h.nx + 1 + 17) 0, .ptr (h.nx + 1 + 19) 0]) ∧ h2 = h', ?_, ?_⟩
    · simp (disch := first | (simp; done) | omega | (simp only [nx_add, nx_set, nx_kill, nx_mk, nx_emp]; omega) | fail) [g60_a9]
    rintro vs h2 ⟨⟨v5, rfl⟩, rfl⟩
    have hk5 : (kind == 5) = false := by rcases hk with rfl | rfl <;> rfl
    simp (disch := first | (simp; done) | omega | (simp only [nx_add, nx_set, nx_kill, nx_mk, nx_emp]; omega) | fail) [g60_j12, kN, n2', hk5]
    refine ⟨fun vs h3 => vs = [.ptr px 0, I id, .ptr (h.nx + 1 + 19) 0] ∧ h3 = h2, ?_, ?_⟩
    · simp (disch := first | (simp; done) | omega | (simp only [nx_add, nx_set, nx_kill, nx_mk, nx_emp]; omega) | fail) [g60_a10]
    rintro vs h3 ⟨rfl, rfl⟩
    simp (disch := first | (simp; done) | omega | (simp only [nx_add, nx_set, nx_kill, nx_mk, nx_emp]; omega) | fail) [g60_j11, kA]
    refine sD (mark_d (hp := kp) (by omega)) ?_
    exact ⟨by omega, kg⟩
/-- the root's children as the node tells them -/
def kidsL (n : Nat) : AV := opt (tab (fun i => [I (i + 2 : Nat)]) n)
theorem opt_tab {α : Type} (f : Nat → List AV) (n : Nat) : (n = 0 ∧ opt (tab f n) = .nilsl) ∨ (0 < n ∧ opt (tab f n) = .psl (tab f n)) := by
  cases n with
  | zero => exact .inl ⟨rfl, rfl⟩
  | succ n => 
    refine .inr ⟨by omega, ?_⟩
    rw [← tab_cons]; rfl
theorem kids_one (n : Nat) : (kidsL n).one = true ∧ stow (kidsL n) = true ∧ (kidsL n).cells = [kidsL n] := by
  rcases opt_tab (α := Nat) (fun i => [I (i + 2 : Nat)]) n with ⟨_, h⟩ | ⟨_, h⟩ <;> unfold kidsL <;> rw [h] <;> exact ⟨rfl, rfl, rfl⟩
theorem kids_len (n : Nat) (h : AH) : kLen h (kidsL n) = some (I n, h) := by
  rcases opt_tab (α := Nat) (fun i => [I (i + 2 : Nat)]) n with ⟨h0, e⟩ | ⟨_, e⟩ <;> unfold kidsL <;> rw [e]
  · subst h0; rfl
  · simp [kLen, alen, tab_len]
theorem kids_at {n i : Nat} (hi : i < n) (h : AH) : kIdxA h 1 (kidsL n) (I i) = some (.pptr [I (i + 2 : Nat)], h) := by
  rcases opt_tab (α := Nat) (fun i => [I (i + 2 : Nat)]) n with ⟨h0, h1⟩ | ⟨_, h1⟩
  · omega
  · unfold kidsL
    rw [h1]
    exact kIdxA_psl (by rw [tab_get, if_pos hi]) rfl
inductive LI (px n x y z : Nat) (h2 : AH) : Nat → List AV → AH → Prop
  | mk {m : Nat} {h' : AH} (i : Nat) (A : AV) : i + m = n → KL h' A i → (∀ id o k s, A = .rsl id o k s → h2.nx ≤ id) → (∀ j, j < h2.nx → h'.H.get j = h2.H.get j) → h2.nx ≤ h'.nx → h'.nx ≤ h2.nx + 100 * i → LI px n x y z h2 m [.ptr px 0, I 1, .ptr x 0, .ptr y 0, .bool false, .ptr z 0, A, kidsL n, I n, I i] h'
inductive LJ (px n x y z : Nat) (h2 : AH) (i : Nat) : List AV → AH → Prop
  | mk {h' : AH} (A : AV) : KL h' A (i + 1) → (∀ id o k s, A = .rsl id o k s → h2.nx ≤ id) → (∀ j, j < h2.nx → h'.H.get j = h2.H.get j) → h2.nx ≤ h'.nx → h'.nx ≤ h2.nx + 100 * (i + 1) → LJ px n x y z h2 i [.ptr px 0, I 1, .ptr x 0, .ptr y 0, .bool false, .ptr z 0, A, kidsL n, I n, I i] h'
theorem KL.app {h g : AH} {A : AV} {i q : Nat} (hA : KL h A i) (hg : ∀ j, j < h.nx → g.H.get j = h.H.get j) (h1 : h.nx ≤ q) (h2 : q < g.nx) (hc : g.cellsAt q = some [I ((i : Int) + 2)]) (hi : i < 1000) :
    ∃ g', kApp g 1 8 A (.rsl q 0 1 1) = some (.rsl g.nx 0 (i + 1) 1, g') ∧ KL g' (.rsl g.nx 0 (i + 1) 1) (i + 1) ∧ g'.nx = g.nx + 1 ∧ ∀ j, j < g.nx → (∀ o k s, A ≠ .rsl j o k s) → g'.H.get j = g.H.get j := by
  have hx : acells g 1 (.rsl q 0 1 1) = some [I ((i : Int) + 2)] := by simp [acells, hc, cut]
  have hr : roomy (i + 1) 8 = true := by simp [roomy]; omega
  have hr1 : roomy 1 8 = true := by simp [roomy]
  rcases hA with ⟨rfl, rfl⟩ | ⟨id, rfl, c, lt⟩
  · refine ⟨g.add (.cells [I ((0 : Nat) + 2 : Int)]), by simp [kApp, aapp, hx, alen, hr1, AV.one], .inr ⟨g.nx, rfl, by simp [tab], by simp⟩, by simp, fun j hj _ => by rw [get_add, if_neg (by omega)]⟩
  · have hcg : g.cellsAt id = some (tab (fun i => I ((i : Int) + 2)) i) := (cellsAt_congr (hg id lt)).trans c
    have hcut : cut (tab (fun i => I ((i : Int) + 2)) i) 0 (i * 1) = some (tab (fun i => I ((i : Int) + 2)) i) := by
      have := cut_zero_app (α := tab (fun i => I ((i : Int) + 2)) i) (b := []) (n := i * 1) (by rw [tab_len]; omega)
      rwa [List.append_nil] at this
    have hcut1 := hcut
    rw [Nat.mul_one] at hcut1
    refine ⟨(g.kill id).add (.cells (tab (fun i => I ((i : Int) + 2)) i ++ [I ((i : Int) + 2)])), by simp [kApp, aapp, hx, alen, hr, AV.one, hcg, hcut1], .inr ⟨g.nx, rfl, by simp [tab], by simp⟩, by simp, fun j hj hne => ?_⟩
    rw [get_add, if_neg (by simp only [nx_kill]; omega), get_kill, if_neg]
    rintro rfl
    exact hne _ _ _ rfl
theorem pG_px {h : AH} {px a b c k B : Nat} {off : Int} {l : List Cm} (h1 : px < h.nx) : (pG h px a b c off k B l).cellsAt px = some (pre a b c off ++ [.rsl (h.nx + B) 0 l.length 22]) := by
  have : (pG h px a b c off k B l).H.get px = some (.cells (pre a b c off ++ [.rsl (h.nx + B) 0 l.length 22])) := by
    unfold pG; rw [get_settled, if_neg (by omega), get_set, if_pos rfl]
  unfold AH.cellsAt; rw [this]
theorem paint0_d {h : AH} {px a b c n : Nat} {W H off : Int} {hs : Nat → Int} (hP : PS h px a b c (km (nodeF n) (n + 1)) (km (styF hs) (n + 1)) (km (boxF n W H hs) (n + 1)) off .nilsl) (hn : n ≤ 20) (hh : Hs hs) (hW : 10 ≤ W ∧ W ≤ 137) (hH : 10 ≤ H ∧ H ≤ 137) (ho : -499 ≤ off ∧ off ≤ 499) :
    CallD Tryz.prog 24 [.ptr px 0, I 1, .agg (Pt.enc ⟨0, 0⟩)] h (.tup []) (pG h px a b c off h.nx 30000 (outL W H off hs n ++ [⟨3, ⟨0, 0, 0, 0⟩, 0⟩])) := by
  have hx := hP.lp
  refine restP hx (by omega) (C24 (tU_ok _) ?_)
  have hp := hP.p
  have la := hP.la
  have lb := hP.lb
  have lc := hP.lc
  have m1 : ¬ px = h.nx := by omega
  have ha : (AH.mk (h.add (.cells (Pt.enc ⟨0, 0⟩))).H (h.nx + 1 + 16)).mapAt a = some (km (nodeF n) (n + 1)) := (mapAt_add (by omega)).trans hP.ma
  have hc' : (AH.mk (h.add (.cells (Pt.enc ⟨0, 0⟩))).H (h.nx + 1 + 16)).mapAt c = some (km (boxF n W H hs) (n + 1)) := (mapAt_add (by omega)).trans hP.mc
  obtain ⟨k1, k2, k3⟩ := kids_one n
  have g1 := fun z => get_km (k := 1) (i := 0) (z := z) ha rfl (by omega)
  have g2 := fun z => get_km (k := 1) (i := 0) (z := z) hc' rfl (by omega)
  have eN : nodeF n 0 = .agg [I 1, I 0, I 8, .str [], .nilsl, .nilsl, kidsL n] := rfl
  have eB : boxF n W H hs 0 = .agg [I 1, I 0, I 0, I W, I H, I (bl0 n H hs), .nilsl] := rfl
  rw [eN] at g1
  rw [eB] at g2
  simp (disch := first | (simp; done) | omega | (simp only [nx_add, nx_set, nx_kill, nx_mk, nx_emp]; omega) | fail) [g24, hp, m1, g1, xRd, rdK]
  simp (disch := first | (simp; done) | omega | (simp only [nx_add, nx_set, nx_kill, nx_mk, nx_emp]; omega) | fail) [g24_s13, hp, m1, g2, xRd, rdK]
  have o1 : ¬ h.nx + 1 + 12 = px := by omega
  have o2 : ¬ h.nx + 1 + 12 = a := by omega
  have o3 : ¬ h.nx + 1 + 12 = c := by omega
  have o4 : ¬ h.nx + 1 + 13 = px := by omega
  have o5 : ¬ h.nx + 1 + 13 = a := by omega
  have o6 : ¬ h.nx + 1 + 13 = c := by omega
  simp (disch := first | (simp; done) | omega | (simp only [nx_add, nx_set, nx_kill, nx_mk, nx_emp]; omega) | fail) [g24_s12, k1, k2, k3, o1, o2, o3, o4, o5, o6]
  generalize hG : AH.mk _ (h.nx + 1 + 16 + 8) = G
  have k5 : G.cellsAt h.nx = some (Pt.enc ⟨0, 0⟩) := by
    have q1 : ¬ h.nx = h.nx + 1 + 12 := by omega
    have q2 : ¬ h.nx = h.nx + 1 + 13 := by omega
    rw [← hG]; simp (disch := first | (simp; done) | omega | (simp only [nx_add, nx_set, nx_kill, nx_mk, nx_emp]; omega) | fail) [q1, q2]
  have k6 : G.cellsAt (h.nx + 1 + 12) = some [I 1, I 0, I 8, .str [], .nilsl, .nilsl, kidsL n] := by rw [← hG]; simp (disch := first | (simp; done) | omega | (simp only [nx_add, nx_set, nx_kill, nx_mk, nx_emp]; omega) | fail) []
  have k7 : G.cellsAt (h.nx + 1 + 13) = some [I 1, I 0, I 0, I W, I H, I (bl0 n H hs), .nilsl] := by rw [← hG]; simp (disch := first | (simp; done) | omega | (simp only [nx_add, nx_set, nx_kill, nx_mk, nx_emp]; omega) | fail) []
  have kg : ∀ i, i < h.nx → G.H.get i = h.H.get i := fun i hi => by
    rw [← hG]
    show (AH.set _ _ _).H.get i = _
    rw [get_set, if_neg (by omega), get_set, if_neg (by omega), get_set, if_neg (by omega), get_set, if_neg (by omega)]
    exact (Fr.refl h |>.add _).get i hi
  have kn : G.nx = h.nx + 25 := by rw [← hG]
  clear hG g1 g2 ha hc' o1 o2 o3 o4 o5 o6
  refine sD (turn_d _) ?_
  simp (disch := first | (simp; done) | omega | (simp only [nx_add, nx_set, nx_kill, nx_mk, nx_emp]; omega) | fail) [k6, kn]
  refine sD (scale_d _) ?_
  simp (disch := first | (simp; done) | omega | (simp only [nx_add, nx_set, nx_kill, nx_mk, nx_emp]; omega) | fail) [g24_s11]
  refine ⟨by omega, ?_⟩
  refine ⟨fun vs h' => vs = [.ptr px 0, I 1, .ptr h.nx 0, .ptr (h.nx + 1 + 12) 0, .ptr (h.nx + 1 + 13) 0, I 0, I 1, .bool false] ∧ h' = G, ?_, ?_⟩
  · simp (disch := first | (simp; done) | omega | (simp only [nx_add, nx_set, nx_kill, nx_mk, nx_emp]; omega) | fail) [g24_a1, g24_s2, g24_s1]
  rintro vs h1 ⟨rfl, rfl⟩
  simp (disch := first | (simp; done) | omega | (simp only [nx_add, nx_set, nx_kill, nx_mk, nx_emp]; omega) | fail) [g24_j14]
  refine ⟨fun vs h' => vs = [.ptr px 0, I 1, .ptr h.nx 0, .ptr (h.nx + 1 + 12) 0, .ptr (h.nx + 1 + 13) 0, .bool false] ∧ h' = h1, ?_, ?_⟩
  · simp (disch := first | (simp; done) | omega | (simp only [nx_add, nx_set, nx_kill, nx_mk, nx_emp]; omega) | fail) [g24_a2]
  rintro vs h2 ⟨rfl, rfl⟩
  simp (disch := first | (simp; done) | omega | (simp only [nx_add, nx_set, nx_kill, nx_mk, nx_emp]; omega) | fail) [g24_j13, k5, k7]
  simp (disch := first | (simp; done) | omega | (simp only [nx_add, nx_set, nx_kill, nx_mk, nx_emp]; omega) | fail) [g24_s10, k7]
  generalize hG : AH.set (AH.add h2 _) h2.nx _ = G
  have e11 : G.cellsAt h2.nx = some (Rc.enc ⟨0, 0, W, H⟩) := by rw [← hG]; simp [Rc.enc]
  have e6 : G.cellsAt (h.nx + 1 + 12) = some [I 1, I 0, I 8, .str [], .nilsl, .nilsl, kidsL n] := by
    have q1 : ¬ h.nx + 1 + 12 = h2.nx := by omega
    rw [← hG]; simp (disch := first | (simp; done) | omega | (simp only [nx_add, nx_set, nx_kill, nx_mk, nx_emp]; omega) | fail) [q1, k6]
  have eg : ∀ i, i < h.nx → G.H.get i = h.H.get i := fun i hi => by
    rw [← hG, get_set, if_neg (by omega), get_add, if_neg (by omega)]; exact kg i hi
  have en : G.nx = h2.nx + 1 := by rw [← hG]; simp
  clear hG
  have hP2 : PS G px a b c (km (nodeF n) (n + 1)) (km (styF hs) (n + 1)) (km (boxF n W H hs) (n + 1)) off .nilsl := ⟨(cellsAt_congr (eg px hx)).trans hp, (mapAt_congr (eg a la)).trans hP.ma, (mapAt_congr (eg b lb)).trans hP.mb, (mapAt_congr (eg c lc)).trans hP.mc, by omega, by omega, by omega, by omega⟩
  have z1 := kfind_km (nodeF n) 0 (n + 1)
  have z2 := kfind_km (styF hs) 0 (n + 1)
  rw [if_pos (by omega)] at z1 z2
  refine sD (own0_d (id := 1) (kind := 8) (r := ⟨0, 0, W, H⟩) (N := [I 1, I 0, I 8, .str [], .nilsl, .nilsl, kidsL n]) (S := st22 (I (-1)) (I 0)) hP2 z1 z2 rfl (by simp [k1]) rfl (.inr rfl) rfl rfl rfl rfl) ?_
  simp (disch := first | (simp; done) | omega | (simp only [nx_add, nx_set, nx_kill, nx_mk, nx_emp]; omega) | fail) [e6, g24_s9, kids_len]
  refine ⟨LI px n h.nx (h.nx + 1 + 12) h2.nx G, n, .mk 0 .nilsl (by omega) (.inl ⟨rfl, rfl⟩) (by simp) (fun _ _ => rfl) (by omega) (by omega), ?_⟩
  rintro m vs h3 ⟨i, A, him, hA, hA2, hg, hn1, hn2⟩
  have lp2 := hP2.lp
  have la2 := hP2.la
  have lb2 := hP2.lb
  have lc2 := hP2.lc
  have hP3 : PS h3 px a b c (km (nodeF n) (n + 1)) (km (styF hs) (n + 1)) (km (boxF n W H hs) (n + 1)) off .nilsl := ⟨(cellsAt_congr (hg px lp2)).trans hP2.p, (mapAt_congr (hg a la2)).trans hP2.ma, (mapAt_congr (hg b lb2)).trans hP2.mb, (mapAt_congr (hg c lc2)).trans hP2.mc, by omega, by omega, by omega, by omega⟩
  have p3 := hP3.p
  cases m with
  | zero =>
    obtain rfl : i = n := by omega
    have f6 := (cellsAt_congr (hg (h.nx + 1 + 12) (by omega))).trans e6
    have f11 := (cellsAt_congr (hg h2.nx (by omega))).trans e11
    simp (disch := first | (simp; done) | omega | (simp only [nx_add, nx_set, nx_kill, nx_mk, nx_emp]; omega) | fail) [g24_l5, g24_j12, g24_c11, f6]
    have hl := outL_len W H off hs i
    refine ⟨fun vs h' => vs = [.ptr px 0, .bool false] ∧ h' = pG h3 px a b c off h3.nx 20000 (outL W H off hs i ++ [⟨3, ⟨0, 0, 0, 0⟩, 0⟩]), ?_, ?_⟩
    · simp (disch := first | (simp; done) | omega | (simp only [nx_add, nx_set, nx_kill, nx_mk, nx_emp]; omega) | fail) [g24_a9, f11]
      exact sD (scroll_d hP3 hA hn hh hW hH ho) rfl
    rintro vs h4 ⟨rfl, rfl⟩
    simp (disch := first | (simp; done) | omega | (simp only [nx_add, nx_set, nx_kill, nx_mk, nx_emp]; omega) | fail) [g24_j10]
    refine ⟨by rw [pG_nx]; omega, h3.nx + 20000, by omega, ?_, ?_, fun j hj h1 _ => ?_⟩
    · have := pG_px (h := h3) (a := a) (b := b) (c := c) (off := off) (k := h3.nx) (B := 20000) (l := outL W H off hs i ++ [⟨3, ⟨0, 0, 0, 0⟩, 0⟩]) hP3.lp
      simpa using this
    · exact pG_Out.c
    · rw [pG_get (by omega) h1 (by omega)]
      exact (hg j (by omega)).trans (eg j hj)
  | succ m =>
    have hi : i < n := by omega
    have hli : (i : Int) < n := by omega
    simp (disch := first | (simp; done) | omega | (simp only [nx_add, nx_set, nx_kill, nx_mk, nx_emp]; omega) | fail) [g24_l5, hli]
    refine ⟨LJ px n h.nx (h.nx + 1 + 12) h2.nx G i, ?_, ?_⟩
    · have q := fun h => kids_at hi h
      have g1 := fun z => got_km (k := (i : Int) + 2) (i := i + 1) (z := z) hP3.mc (by omega) (by omega)
      simp (disch := first | (simp; done) | omega | (simp only [nx_add, nx_set, nx_kill, nx_mk, nx_emp]; omega) | fail) [g24_a3, q, p3, g1, boxF]
      simp (disch := first | (simp; done) | omega | (simp only [nx_add, nx_set, nx_kill, nx_mk, nx_emp]; omega) | fail) [g24_s5]
      generalize hQ : AH.add (AH.set _ h3.nx _) _ = Q
      have qg : ∀ j, j < h3.nx → Q.H.get j = h3.H.get j := fun j hj => by
        rw [← hQ, get_add, if_neg (by simp; omega), get_set, if_neg (by omega), get_add, if_neg (by omega)]
      have qn : Q.nx = h3.nx + 2 := by rw [← hQ]; simp
      have qc : Q.cellsAt (h3.nx + 1) = some [I ((i : Int) + 2)] := by rw [← hQ]; simp
      clear hQ
      obtain ⟨Q2, e1, e2, e3, e4⟩ := hA.app (q := h3.nx + 1) qg (by omega) (by omega) qc (by omega)
      simp only [e1, wk_some]
      refine .mk _ e2 (fun id o k s he => by cases he; omega) (fun j hj => ?_) (by omega) (by omega)
      rw [e4 j (by omega) (fun o k s he => by have := hA2 _ _ _ _ he; omega), qg j (by omega)]
      exact hg j hj
    · rintro vs h4 ⟨A', z1, z2, z3, z4, z5⟩
      simp (disch := first | (simp; done) | omega | (simp only [nx_add, nx_set, nx_kill, nx_mk, nx_emp]; omega) | fail) [g24_j4]
      exact ⟨m, by omega, .mk (i + 1) A' (by omega) z1 z2 z3 z4 z5⟩
end Go.Proofs.YtfegfialedlfcaaGreatDoor
end
noncomputable section
set_option maxRecDepth 10000
namespace Go.Eng
/-- a contract with ghosts beside variable 0, called where other objects are, with arguments that can be taken as frozen -/
theorem frameGA {P : Program} {f : Nat} {gs : List Nat} {args pargs cs : List AV} {v : AV} {R : AV → AH → Prop} (hc : CallsA P f pargs (gH 0 cs gs.length) R) (hR0 : ∀ v0 h0, R v0 h0 → h0.H.get 0 = some (.glob 0 cs) ∧ ∃ n, fzF true (1 + gs.length) h0 n v0 = some v) (hpl : cs.all plainAV = true) (hcf : clsT (1 + gs.length) v = true)
    (ho : okGL (0 :: gs) pargs) {h : AH} (hgh : h.H.get 0 = some (.glob 0 cs)) (hlen : args.length = pargs.length) (hfz : ∀ (i : Nat) (a p : AV), args[i]? = some a → pargs[i]? = some p → Frz h false a (inst (0 :: gs) p)) : CallD P f args h (inst (0 :: gs) v) h := by
  refine ⟨hc.1, fun own β w cargs hs hRL => ?_⟩
  obtain ⟨b, base, hb, hnb, hb0, hbg, cur, e, fz, q1, q2, q3⟩ := hs.obj 0 _ hgh
  subst hb0; subst hbg
  have hlt := lt_of_get q1
  have hlive : live β h.H 0 := ⟨0, _, 0, hgh, hb⟩
  have hll : ∀ x, live (gBt 0 gs) (gH 0 cs gs.length).H x ↔ x = 0 := by
    intro x
    constructor
    · rintro ⟨id, o, ba, h1, h2⟩
      obtain ⟨rfl, _⟩ := gH_get h1
      simp [gBt] at h2; exact h2.1.symm
    · rintro rfl
      exact ⟨0, .glob 0 cs, 0, by simp [gH, PM.get_put], by simp [gBt]⟩
  have hL2 : ∀ x, LL (fun _ => False) (gBt 0 gs) (gH 0 cs gs.length).H x → x = 0 := fun x hx => hx.elim (fun h => h.elim) (hll x).1
  have hS : SimH (fun _ => False) (gBt 0 gs) (gH 0 cs gs.length).H (gH 0 cs gs.length).nx w := by
    refine ⟨fun id hid => ?_, fun id b base hb' => ?_, fun b hb => hb.elim, fun id o ho => ?_, fun id id' o o' b x y h1 h2 _ _ => (gH_get h1).1.trans (gH_get h2).1.symm⟩
    · simp only [gH] at hid
      unfold gBt
      rw [if_neg (by omega), if_pos (by omega), List.getElem?_eq_none (by omega)]; rfl
    · unfold gBt at hb'
      split at hb'
      · cases hb'; exact hlt
      · split at hb'
        · rw [Option.map_eq_some_iff] at hb'
          obtain ⟨n, _, he⟩ := hb'
          cases he; exact hlt
        · cases hb'
    · obtain ⟨rfl, rfl⟩ := gH_get ho
      exact ⟨0, 0, by simp [gBt], fun hf => hf.elim, rfl, rfl, cur, e, fz, q1, q2, fun i c v hc hv => plain_any (List.all_eq_true.1 hpl c (List.mem_of_getElem? hc)) (q3 i c v hc hv)⟩
  have hR : RL w.heap (LL (fun _ => False) (gBt 0 gs) (gH 0 cs gs.length).H) (gBt 0 gs) pargs cargs.toList := by
    refine ⟨hlen ▸ hRL.1, fun i p v h1 h2 => ?_⟩
    obtain ⟨a, ha⟩ := get_of_len hlen h1
    have hfa := (hfz i a p ha h1).ext (h' := h.kill 0) (fun j l hj => by
      rw [cellsAt_kill_ne]
      · exact hj
      · rintro rfl
        rw [cellsAt_get hj] at hgh; cases hgh)
    refine uninst (fun i n hi => gB_ns hi) p (okGL_get ho h1) v (VR.frzs (β2 := gBt 0 gs) hs (fun i o hi => ?_) (fun b hl hL => ?_) (fun _ b hb hL => ?_) hfa (hRL.2 i a v ha h2))
    · rw [get_kill] at hi
      split at hi
      · cases hi
      · exact hi
    · obtain rfl := hL2 b hL
      obtain ⟨id, o, ba, h3, h4⟩ := hl
      rw [get_kill] at h3
      split at h3
      · cases h3
      · rename_i hid
        exact hid (hs.inj id 0 o _ 0 ba 0 h3 hgh h4 hb)
    · obtain rfl := hL2 b hL
      exact hb (.inr hlive)
  refine (hc.2 (fun _ => False) (gBt 0 gs) w cargs hS hR).mono ?_
  rintro e' w' ⟨cv, v1, h1, β0, rfl, hq, hs0, hv0, ht⟩
  obtain ⟨hg0, n, hf⟩ := hR0 v1 h1 hq
  have hkeep : ∀ x, x < w.heap.size → x ≠ 0 → w'.heap[x]? = w.heap[x]? := fun x hx hne => ht.keep x hx fun hl => hne ((hll x).1 hl)
  obtain ⟨b1, ba1, hbb1, _, hz0, hbg1, cur1, e1, fz1, r1, r2, r3⟩ := hs0.obj 0 _ (hg0)
  subst hbg1; subst hz0
  have hT : Trans own β h w β h w' := ⟨fun _ _ h => h, fun _ _ => rfl, Nat.le_refl _, ht.size, fun x hx hn => hkeep x hx fun he => hn (he ▸ hlive), fun _ h => .inl h, fun x cur2 e2 fz2 hc => (by
    obtain ⟨c, f, k1, k2, k3⟩ := ht.shape x cur2 e2 fz2 hc
    by_cases hx : x = 0
    · exact ⟨c, f, k1, k2, fun _ => k3 (hx ▸ ⟨_, _, _, hg0, hbb1⟩)⟩
    · rw [hkeep x (lt_of_get hc) hx, hc] at k1; cases k1
      exact ⟨_, _, by rw [hkeep x (lt_of_get hc) hx]; exact hc, rfl, fun _ => rfl⟩), ht.os, ht.tape, ht.output⟩
  have hSS : SimH own β h.H h.nx w' := by
    refine ⟨hs.fresh, fun id b' ba hb' => Nat.lt_of_lt_of_le (hs.lt id b' ba hb') ht.size, fun b' hb' => Nat.lt_of_lt_of_le (hs.ownlt b' hb') ht.size, fun id o hg => ?_, hs.inj⟩
    by_cases hid : id = 0
    · subst hid
      rw [hgh] at hg; cases hg
      exact ⟨0, 0, hb, hnb, rfl, rfl, cur1, e1, fz1, r1, r2, fun i c u k1 k2 => plain_any (List.all_eq_true.1 hpl c (List.mem_of_getElem? k1)) (r3 i c u k1 k2)⟩
    · obtain ⟨b', ba, hb', hnb', hor⟩ := hs.obj id o hg
      refine ⟨b', ba, hb', hnb', ?_⟩
      have hl' := hs.lt id b' ba hb'
      have hne : b' ≠ 0 := fun he => hid (hs.inj id 0 o _ b' ba 0 hg hgh hb' (he ▸ hb))
      cases o with
      | cells cs' =>
        obtain ⟨cur', e', s1, s2, s3⟩ := hor
        exact ⟨cur', e', by rw [hkeep b' hl' hne]; exact s1, s2, fun i c v k1 k2 => (s3 i c v k1 k2).later hT.later⟩
      | map kvs =>
        obtain ⟨s0, es, s1, s2, s3⟩ := hor
        exact ⟨s0, es, by rw [hkeep b' hl' hne]; exact s1, s2, fun i kv e k1 k2 => ⟨(s3 i kv e k1 k2).1.later hT.later, (s3 i kv e k1 k2).2.1.later hT.later, (s3 i kv e k1 k2).2.2⟩⟩
      | siter s pos => exact ⟨hor.1, by rw [hkeep b' hl' hne]; exact hor.2⟩
      | typ t cs' =>
        obtain ⟨s0, cur', s1, s2, s3⟩ := hor
        exact ⟨s0, cur', by rw [hkeep b' hl' hne]; exact s1, s2, fun i c v k1 k2 => (s3 i c v k1 k2).later hT.later⟩
      | glob g' cs' =>
        obtain ⟨s0, s00, cur', e', fz', s1, s2, s3⟩ := hor
        exact ⟨s0, s00, cur', e', fz', by rw [hkeep b' hl' hne]; exact s1, s2, fun i c v k1 k2 => (s3 i c v k1 k2).later hT.later⟩
  refine ⟨cv, _, h, β, rfl, ⟨rfl, rfl⟩, hSS, ?_, hT⟩
  have k1 : VR w'.heap (LL own β h.H) β0 v cv := by
    refine VR.frzK hs0 (K := 1 + gs.length) (fun id cs' b base hgc hbc hl => ?_) (fun hn => by cases hn) (fun i _ => rfl) n v1 v hf cv hv0
    rcases ht.live b ⟨id, _, base, hgc, hbc⟩ with h2 | h2
    · obtain rfl := (hll b).1 h2
      have := hs0.inj id 0 _ _ 0 base 0 hgc (hg0) hbc hbb1
      subst this
      rw [hg0] at hgc; cases hgc
    · have := hs.ll hl; omega
  have k2 := k1.inst (ns := 0 :: gs) fun i n hi => by
    obtain ⟨b, hb⟩ := gB_ns hi
    exact ⟨b, ht.ext _ _ hb⟩
  exact clsT_ok (K := 0) (fun i hi => absurd hi (Nat.not_lt_zero _)) (clsT_inst (by simp; omega) hcf) k2


end Go.Eng
end
noncomputable section
namespace Go.Proofs.YtfegfialedlfcaaGreatDoor
open Go.Eng
/-! Paint -/
def ndc (n : Nat) : Nat → List AV
  | 0 => rootN n
  | i + 1 => kidN i
theorem nd_eq (n : Nat) : rootN n :: tab kidN n = tab (ndc n) (n + 1) := tab_cons (ndc n) n
theorem node_eq (n i : Nat) : nodeF n i = .agg (ndc n i) := by cases i <;> rfl
def stc (hs : Nat → Int) : Nat → List AV
  | 0 => sty0 0
  | i + 1 => sty (I (i + 2 : Nat)) (I (i + 1 : Nat)) (I (hs i))
theorem st_eq (hs : Nat → Int) (n : Nat) : stS (fun i => I (hs i)) n = tab (stc hs) (n + 1) := tab_cons (stc hs) n
def bxc (n : Nat) (W H : Int) (hs : Nat → Int) : Nat → List AV
  | 0 => boxR (I W) (I H) (I (bl0 n H hs))
  | i + 1 => boxK i (I (tp hs i)) (I W) (I (hs i))
theorem box_eq (n : Nat) (W H : Int) (hs : Nat → Int) (i : Nat) : boxF n W H hs i = .agg (bxc n W H hs i) := by cases i <;> rfl
theorem tab_at {n i : Nat} (f : Nat → List AV) (z : Nat) (hz : ∀ i, (f i).length = z) (hi : i < n) (h : AH) : kIdxA h z (.psl (tab f n)) (I i) = some (.pptr (f i), h) := kIdxA_psl (by rw [tab_get, if_pos hi]) (hz i)
theorem ndc_len (n i : Nat) : (ndc n i).length = 7 := by cases i <;> rfl
theorem stc_len (hs : Nat → Int) (i : Nat) : (stc hs i).length = 23 := by cases i <;> rfl
theorem bxc_len (n : Nat) (W H : Int) (hs : Nat → Int) (i : Nat) : (bxc n W H hs i).length = 7 := by cases i <;> rfl
theorem ent_km {h : AH} {a m : Nat} {f : Nat → AV} {z : AV} {k : Int} (hm : h.mapAt a = some (km f m)) (hk : k = (m : Int) + 1) : kX h (.mapent (.one (.int .i64)) z) [.mapv a, I k] = some (.tup [z, I m], h.set a (.map (km f m ++ [(I k, z)]))) := by
  subst hk
  simp only [kX, Eng.keyOf, Eng.keyS, decide_true, if_true, hm, kfind_km, Nat.lt_irrefl, if_false, km_len]
theorem entst_km {h : AH} {a m : Nat} {f : Nat → AV} {z x : AV} {k : Int} (hm : h.mapAt a = some (km f m ++ [(I k, z)])) (hk : k = (m : Int) + 1) (hx : x = f m) : kX h .entst [.mapv a, I m, x] = some (.undef, h.set a (.map (km f (m + 1)))) := by
  subst hk; subst hx
  have e1 : (km f m ++ [(I ((m : Int) + 1), z)])[m]? = some (I ((m : Int) + 1), z) := by
    rw [List.getElem?_append_right (by rw [km_len]; omega), km_len]; simp
  have e2 : (km f m ++ [(I ((m : Int) + 1), z)]).set m (I ((m : Int) + 1), f m) = km f (m + 1) := by
    rw [List.set_append_right _ _ (by rw [km_len]; omega), km_len]; simp [km, tab]
  simp only [kX, hm, Int.toNat_natCast, e1, e2]
  rw [if_pos (by omega)]
def out (W H off : Int) (hs : Nat → Int) (n : Nat) : List Cm := outL W H off hs n ++ [⟨3, ⟨0, 0, 0, 0⟩, 0⟩]
@[simp high] theorem fill6 (a b c : Nat) (o : Int) : afill [.nilmap, .nilmap, .nilmap, .nilsl, .nilsl, .nilsl] [(0, 1, .mapv a), (1, 1, .mapv b), (2, 1, .mapv c), (3, 1, .psl [[I 1, I o]]), (4, 1, .nilsl)] = some [.mapv a, .mapv b, .mapv c, .psl [[I 1, I o]], .nilsl, .nilsl] := Eq.trans rfl rfl
theorem cellsAt_addm (h : AH) (m : List (AV × AV)) (i : Nat) : (h.add (.map m)).cellsAt i = if i = h.nx then none else h.cellsAt i := by
  unfold AH.cellsAt; rw [get_add]; by_cases h1 : i = h.nx <;> simp [h1]
theorem nd_form (n i : Nat) : ∃ a b c d e f, ndc n i = [I ((i : Int) + 1), a, b, c, d, e, f] ∧ ones [a, b, c, d, e, f] = true := by
  cases i with
  | zero => exact ⟨_, _, _, _, _, _, rfl, by have := (kids_one n).1; unfold kidsL at this; simp only [ones_cons, ones_nil, this]; rfl⟩
  | succ i => exact ⟨_, _, _, _, _, _, by simp only [ndc, kidN]; rw [show ((i + 2 : Nat) : Int) = ((i + 1 : Nat) : Int) + 1 by omega], by simp [AV.one]⟩
theorem st_form (hs : Nat → Int) (i : Nat) : ∃ S, stc hs i = I ((i : Int) + 1) :: S ∧ styF hs i = .agg S ∧ S.length = 22 ∧ ones S = true := by
  cases i with
  | zero => exact ⟨_, rfl, rfl, rfl, rfl⟩
  | succ i => exact ⟨_, by simp only [stc, sty]; rw [show ((i + 2 : Nat) : Int) = ((i + 1 : Nat) : Int) + 1 by omega]; simp [st22], rfl, rfl, rfl⟩
theorem bx_form (n : Nat) (W H : Int) (hs : Nat → Int) (i : Nat) : ∃ a b c d e, bxc n W H hs i = [I ((i : Int) + 1), a, b, c, d, e, .nilsl] ∧ ones [a, b, c, d, e] = true := by
  cases i with
  | zero => exact ⟨_, _, _, _, _, rfl, rfl⟩
  | succ i => exact ⟨_, _, _, _, _, by simp only [bxc, boxK]; rw [show ((i + 2 : Nat) : Int) = ((i + 1 : Nat) : Int) + 1 by omega], rfl⟩
inductive P1 (x n : Nat) (W H off : Int) (hs : Nat → Int) : Nat → List AV → AH → Prop
  | mk {m : Nat} {h' : AH} (i : Nat) : i + m = n + 1 → PS h' (x + 4) (x + 1) (x + 2) (x + 3) (km (nodeF n) i) (km (styF hs) i) (km (boxF n W H hs) 0) off .nilsl → h'.H.get 0 = some (.glob 0 props) → h'.cellsAt x = some [I 1, I (n + 2 : Nat), .psl (rootN n :: tab kidN n)] → x + 5 ≤ h'.nx →
    P1 x n W H off hs m [.psl (tab (stc hs) (n + 1)), .psl (tab (bxc n W H hs) (n + 1)), .ptr x 0, .ptr (x + 4) 0, .psl (tab (ndc n) (n + 1)), I ((n : Int) + 1), I i] h'
inductive P2 (x n : Nat) (W H off : Int) (hs : Nat → Int) : Nat → List AV → AH → Prop
  | mk {m : Nat} {h' : AH} (i : Nat) : i + m = n + 1 → PS h' (x + 4) (x + 1) (x + 2) (x + 3) (km (nodeF n) (n + 1)) (km (styF hs) (n + 1)) (km (boxF n W H hs) i) off .nilsl → h'.H.get 0 = some (.glob 0 props) → h'.cellsAt x = some [I 1, I (n + 2 : Nat), .psl (rootN n :: tab kidN n)] → x + 5 ≤ h'.nx →
    P2 x n W H off hs m [.ptr x 0, .ptr (x + 4) 0, .psl (tab (bxc n W H hs) (n + 1)), I ((n : Int) + 1), I i] h'
theorem PS.fr {h h' : AH} {px a b c : Nat} {ka kb kc : List (AV × AV)} {off : Int} {o : AV} (hP : PS h px a b c ka kb kc off o) (f : Fr h h') : PS h' px a b c ka kb kc off o := by
  have n := f.nx
  exact ⟨(cellsAt_congr (f.get _ hP.lp)).trans hP.p, (mapAt_congr (f.get _ hP.la)).trans hP.ma, (mapAt_congr (f.get _ hP.lb)).trans hP.mb, (mapAt_congr (f.get _ hP.lc)).trans hP.mc, Nat.lt_of_lt_of_le hP.lp n, Nat.lt_of_lt_of_le hP.la n, Nat.lt_of_lt_of_le hP.lb n, Nat.lt_of_lt_of_le hP.lc n⟩
theorem mapAt_set' (h : AH) (i j : Nat) (m : List (AV × AV)) : (h.set j (.map m)).mapAt i = if i = j then some m else h.mapAt i := by
  unfold AH.mapAt; rw [get_set]; by_cases h1 : i = j <;> simp [h1]
theorem cellsAt_set' (h : AH) (i j : Nat) (m : List (AV × AV)) : (h.set j (.map m)).cellsAt i = if i = j then none else h.cellsAt i := by
  unfold AH.cellsAt; rw [get_set]; by_cases h1 : i = j <;> simp [h1]
theorem PS.setc {h : AH} {x : Nat} {ka kb kc kc' : List (AV × AV)} {off : Int} {o : AV} (hP : PS h (x + 4) (x + 1) (x + 2) (x + 3) ka kb kc off o) : PS (h.set (x + 3) (.map kc')) (x + 4) (x + 1) (x + 2) (x + 3) ka kb kc' off o := by
  refine ⟨?_, ?_, ?_, ?_, hP.lp, hP.la, hP.lb, hP.lc⟩ <;> simp [mapAt_set', cellsAt_set', hP.p, hP.ma, hP.mb]
theorem PS.seta {h : AH} {x : Nat} {ka kb kc ka' : List (AV × AV)} {off : Int} {o : AV} (hP : PS h (x + 4) (x + 1) (x + 2) (x + 3) ka kb kc off o) : PS (h.set (x + 1) (.map ka')) (x + 4) (x + 1) (x + 2) (x + 3) ka' kb kc off o := by
  refine ⟨?_, ?_, ?_, ?_, hP.lp, hP.la, hP.lb, hP.lc⟩ <;> simp [mapAt_set', cellsAt_set', hP.p, hP.mc, hP.mb]
theorem PS.setb {h : AH} {x : Nat} {ka kb kc kb' : List (AV × AV)} {off : Int} {o : AV} (hP : PS h (x + 4) (x + 1) (x + 2) (x + 3) ka kb kc off o) : PS (h.set (x + 2) (.map kb')) (x + 4) (x + 1) (x + 2) (x + 3) ka kb' kc off o := by
  refine ⟨?_, ?_, ?_, ?_, hP.lp, hP.la, hP.lb, hP.lc⟩ <;> simp [mapAt_set', cellsAt_set', hP.p, hP.mc, hP.ma]
theorem flat_get : ∀ (l : List Cm) (i j : Nat) (c : Cm), l[i]? = some c → j < 22 → (flat l)[i * 22 + j]? = c.enc[j]?
  | [], i, j, c, h, _ => by simp at h
  | a :: l, 0, j, c, h, hj => by
    simp at h; subst h
    show (a.enc ++ flat l)[_]? = _
    rw [List.getElem?_append_left (by rw [Cm.len]; omega)]; congr 1; omega
  | a :: l, i + 1, j, c, h, hj => by
    show (a.enc ++ flat l)[_]? = _
    rw [List.getElem?_append_right (by rw [Cm.len]; omega), Cm.len, ← flat_get l i j c (by simpa using h) hj]
    congr 1; omega
theorem Cm.frz {h : AH} {n : Bool} (c : Cm) (j : Nat) (d : AV) (hd : c.enc[j]? = some d) : Frz h n d d := by
  have := List.mem_of_getElem? hd
  simp [Cm.enc] at this
  rcases this with rfl | rfl | rfl | rfl | rfl | rfl | rfl | rfl | rfl | rfl | rfl | rfl <;> constructor
theorem frz_cmds {h : AH} {n : Bool} {id : Nat} {l : List Cm} (hc : h.cellsAt id = some (flat l)) : Frz h n (.rsl id 0 l.length 22) (cmds l) := by
  have := Frz.rsl (h := h) (n := n) id 0 22 (flat l) (l.map Cm.enc) hc (by rw [flat_ln, List.length_map]; omega) (fun i y hy => by
    rw [List.getElem?_map] at hy
    cases hq : l[i]? with
    | none => rw [hq] at hy; cases hy
    | some c => rw [hq] at hy; cases hy; exact Cm.len c) (fun i y j c d hy hj hcc => by
    rw [List.getElem?_map] at hy
    cases hq : l[i]? with
    | none => rw [hq] at hy; cases hy
    | some e =>
      rw [hq] at hy; cases hy
      have hj2 : j < 22 := by have := (List.getElem?_eq_some_iff.1 hj).1; rwa [Cm.len] at this
      rw [show 0 + i * 22 + j = i * 22 + j by omega, flat_get l i j e hq hj2, hj] at hcc
      cases hcc
      exact Cm.frz e j c hj)
  rwa [List.length_map] at this
theorem out_vr {W H off : Int} {hs : Nat → Int} (hh : Hs hs) (hW : 10 ≤ W ∧ W ≤ 137) (hH : 10 ≤ H ∧ H ≤ 137) (ho : -499 ≤ off ∧ off ≤ 499) : ∀ (n : Nat) (tl : List Cm), n ≤ 20 → Vr 1 tl → Vr 0 (outL W H off hs n ++ tl)
  | 0, tl, _, ht => .inl ⟨rfl, by simp [okR]; omega, ht⟩
  | n + 1, tl, hn, ht => by
    simp only [outL]
    cases hv : vis H off hs n
    · exact out_vr hh hW hH ho n tl (by omega) ht
    · simp only [cond_true, List.append_assoc]
      have := tp_bd hh n
      have := hh n
      exact out_vr hh hW hH ho n _ (by omega) (.inr (.inl ⟨rfl, by simp [okR]; omega, by simp [isCol]; omega, ht⟩))
theorem out_v {n : Nat} {W H off : Int} {hs : Nat → Int} (hh : Hs hs) (hW : 10 ≤ W ∧ W ≤ 137) (hH : 10 ≤ H ∧ H ≤ 137) (ho : -499 ≤ off ∧ off ≤ 499) (hn : n ≤ 20) : Vr 0 (out W H off hs n) :=
  out_vr hh hW hH ho n _ hn (.inr (.inr ⟨rfl, 0, rfl, rfl⟩))
theorem out_len {n : Nat} {W H off : Int} {hs : Nat → Int} (hn : n ≤ 20) : (out W H off hs n).length ≤ 20000 := by
  have := outL_len W H off hs n
  simp [out]; omega
theorem paint_c {n : Nat} {W H off : Int} {hs : Nat → Int} {h : AH} (hV : ∀ g : AH, g.H.get 0 = some (.glob 0 props) → CallD Tryz.prog 23 [treeS n, .psl (tab (stc hs) (n + 1)), .psl (tab (bxc n W H hs) (n + 1)), offL off] g (I 0) g) (hg0 : h.H.get 0 = some (.glob 0 props)) (h1 : 0 < h.nx) (hn : n ≤ 20) (hh : Hs hs) (hW : 10 ≤ W ∧ W ≤ 137) (hH : 10 ≤ H ∧ H ≤ 137) (ho : -499 ≤ off ∧ off ≤ 499) :
    CallsA Tryz.prog 7 [treeS n, .psl (tab (stc hs) (n + 1)), .psl (tab (bxc n W H hs) (n + 1)), offL off, .nilsl] h fun v' h' => ∃ id, v' = .tup [.rsl id 0 (out W H off hs n).length 22, I 0] ∧ h'.cellsAt id = some (flat (out W H off hs n)) ∧ h'.H.get 0 = some (.glob 0 props) := by
  refine C7 (tU_ok _) ?_
  simp (disch := first | (simp; done) | omega | (simp only [nx_add, nx_set, nx_kill, nx_mk, nx_emp]; omega) | fail) [g7, treeS]
  have hV' := hV
  simp only [treeS] at hV'
  refine sD (hV' _ (by rw [get_add, if_neg (by omega)]; exact hg0)) ?_
  simp (disch := first | (simp; done) | omega | (simp only [nx_add, nx_set, nx_kill, nx_mk, nx_emp]; omega) | fail) [kX, offL]
  have q4 : ¬ h.nx = h.nx + 1 + 1 + 1 + 1 := by omega
  have q3 : ¬ h.nx = h.nx + 1 + 1 + 1 := by omega
  have q2 : ¬ h.nx = h.nx + 1 + 1 := by omega
  have q1 : ¬ h.nx = h.nx + 1 := by omega
  have hnd := nd_eq n
  simp (disch := first | (simp; done) | omega | (simp only [nx_add, nx_set, nx_kill, nx_mk, nx_emp]; omega) | fail) [g7_s8, kLen, alen, tab_len, cellsAt_addm, q1, q2, q3, q4]
  generalize hG : AH.add _ (AObj.cells [.mapv (h.nx + 1), _, _, _, _, _]) = G
  have hP : PS G (h.nx + 4) (h.nx + 1) (h.nx + 2) (h.nx + 3) (km (nodeF n) 0) (km (styF hs) 0) (km (boxF n W H hs) 0) off .nilsl := by
    refine ⟨?_, ?_, ?_, ?_, ?_, ?_, ?_, ?_⟩ <;> rw [← hG] <;> simp [offL, km, tab, AH.mapAt, get_add]
  have k0 : G.H.get 0 = some (.glob 0 props) := by
    rw [← hG, get_add, if_neg (by simp only [nx_add]; omega), get_add, if_neg (by simp only [nx_add]; omega), get_add, if_neg (by simp only [nx_add]; omega), get_add, if_neg (by simp only [nx_add]; omega), get_add, if_neg (by omega)]; exact hg0
  have kt : G.cellsAt h.nx = some [I 1, I (n + 2 : Nat), .psl (rootN n :: tab kidN n)] := by rw [← hG]; simp [cellsAt_addm, q1, q2, q3, q4]
  have kn : G.nx = h.nx + 5 := by rw [← hG]; simp
  clear hG
  have ex : h.nx + 1 + 1 + 1 + 1 = h.nx + 4 := by omega
  rw [ex, nd_eq]
  generalize hx : h.nx = x at *
  clear ex q1 q2 q3 q4 hg0 hnd hV hV' hx
  refine ⟨P1 x n W H off hs, n + 1, .mk 0 (by omega) hP k0 kt (by omega), ?_⟩
  clear hP k0 kt kn
  rintro m vs g ⟨i, him, hP, k0, kt, kn⟩
  have p := hP.p
  cases m with
  | zero =>
    obtain rfl : i = n + 1 := by omega
    simp (disch := first | (simp; done) | omega | (simp only [nx_add, nx_set, nx_kill, nx_mk, nx_emp]; omega) | fail) [g7_l1, g7_j8, g7_c7, kLen, alen, tab_len]
    refine ⟨P2 x n W H off hs, n + 1, .mk 0 (by omega) hP k0 kt (by omega), ?_⟩
    clear hP k0 kt kn p
    rintro m vs g ⟨i, him, hP, k0, kt, kn⟩
    have p := hP.p
    cases m with
    | zero =>
      obtain rfl : i = n + 1 := by omega
      have g2 := fun (h : AH) z hm => got_km (h := h) (k := 1) (i := 0) (m := n + 1) (f := boxF n W H hs) (a := x + 3) (z := z) hm rfl (by omega)
      have hm : (AH.mk g.H (g.nx + 13)).mapAt (x + 3) = some (km (boxF n W H hs) (n + 1)) := hP.mc
      have g3 := fun z => g2 _ z hm
      have eB : boxF n W H hs 0 = .agg [I 1, I 0, I 0, I W, I H, I (bl0 n H hs), .nilsl] := rfl
      rw [eB] at g3
      clear g2 hm
      simp (disch := first | (simp; done) | omega | (simp only [nx_add, nx_set, nx_kill, nx_mk, nx_emp]; omega) | fail) [g7_l2, g7_j6, g7_c5, p, kt, g3, xRd, rdK]
      have y4 : ¬ x + 4 = g.nx + 10 := by have := hP.lp; omega
      have y0 : ¬ x = g.nx + 10 := by omega
      simp (disch := first | (simp; done) | omega | (simp only [nx_add, nx_set, nx_kill, nx_mk, nx_emp]; omega) | fail) [g7_s7, y4, y0]
      refine ⟨by omega, by omega, by omega, ?_⟩
      generalize hQ : AH.set (AH.set _ _ _) (g.nx + 10) _ = Q
      have qf : Fr g Q := by
        rw [← hQ]
        exact ⟨by simp only [nx_set]; omega, fun j hj => by rw [get_set, if_neg (by omega), get_set, if_neg (by omega)]⟩
      have qc : Q.cellsAt (g.nx + 10) = some [I 1, I 0, I 0, I W, I H, I (bl0 n H hs), .nilsl] := by rw [← hQ]; simp
      clear hQ
      have hP2 := hP.fr qf
      have p2 := hP2.p
      have qn := qf.nx
      have h2 := hP2.lp
      refine ⟨fun vs h' => vs = [.ptr (x + 4) 0] ∧ h' = pG Q (x + 4) (x + 1) (x + 2) (x + 3) off Q.nx 30000 (out W H off hs n), ?_, ?_⟩
      · have kt2 := (cellsAt_congr (qf.get x (by omega))).trans kt
        simp (disch := first | (simp; done) | omega | (simp only [nx_add, nx_set, nx_kill, nx_mk, nx_emp]; omega) | fail) [g7_a3, qc, kt2, g7_s5]
        exact sD (paint0_d hP2 hn hh hW hH ho) rfl
      rintro vs g2 ⟨rfl, rfl⟩
      have z1 := pG_px (h := Q) (px := x + 4) (a := x + 1) (b := x + 2) (c := x + 3) (off := off) (k := Q.nx) (B := 30000) (l := out W H off hs n) h2
      have z2 := (pG_Out (h := Q) (px := x + 4) (a := x + 1) (b := x + 2) (c := x + 3) (off := off) (k := Q.nx) (B := 30000) (l := out W H off hs n)).c
      have z3 : (pG Q (x + 4) (x + 1) (x + 2) (x + 3) off Q.nx 30000 (out W H off hs n)).H.get 0 = some (.glob 0 props) := by
        rw [pG_get (by omega) (by omega) (by omega), qf.get 0 (by omega)]; exact k0
      generalize pG Q (x + 4) (x + 1) (x + 2) (x + 3) off Q.nx 30000 (out W H off hs n) = Q2 at *
      simp only [pre, List.cons_append, List.nil_append] at z1
      simp (disch := first | (simp; done) | omega | (simp only [nx_add, nx_set, nx_kill, nx_mk, nx_emp]; omega) | fail) [g7_j4, z1]
      refine sD ((validate_f _ (out_len hn) (out_v hh hW hH ho hn)).call rfl fun i a b h1 h2 => ?_) ?_
      · cases i with
        | zero => cases h1; cases h2; exact frz_cmds z2
        | succ i => simp at h1
      simp (disch := first | (simp; done) | omega | (simp only [nx_add, nx_set, nx_kill, nx_mk, nx_emp]; omega) | fail) [z1, g7_s6]
      exact ⟨z2, z3⟩
    | succ m =>
      have hli : (i : Int) < (n : Int) + 1 := by omega
      have d1 := fun h => tab_at (n := n + 1) (i := i) (bxc n W H hs) 7 (bxc_len n W H hs) (by omega) h
      have en := box_eq n W H hs i
      obtain ⟨r1, r2, r3, r4, r5, e1, e2⟩ := bx_form n W H hs i
      rw [e1] at d1
      have e2' := e2
      simp at e2'
      simp (disch := first | (simp; done) | omega | (simp only [nx_add, nx_set, nx_kill, nx_mk, nx_emp]; omega) | fail) [g7_l2, hli, d1, e2', p]
      have hg0' : g.nx ≠ 0 := by omega
      generalize hQ : AH.mk _ _ = Q
      have qf : Fr g Q := by
        rw [← hQ]
        exact ⟨by simp only []; omega, fun j hj => by show (AH.set _ _ _).H.get j = _; rw [get_set, if_neg (by omega), get_add, if_neg (by omega)]⟩
      have qc : Q.cellsAt g.nx = some [I ((i : Int) + 1), r1, r2, r3, r4, r5, .nilsl] := by rw [← hQ]; simp
      clear hQ
      have hP2 := hP.fr qf
      have p2 := hP2.p
      have y1 : ¬ g.nx = x + 3 := by have := hP.lc; omega
      have z1 := set_km (k := (i : Int) + 1) (x := .agg [I ((i : Int) + 1), r1, r2, r3, r4, r5, .nilsl]) hP2.mc rfl (by rw [box_eq, e1])
      simp (disch := first | (simp; done) | omega | (simp only [nx_add, nx_set, nx_kill, nx_mk, nx_emp]; omega) | fail) [g7_s4, p2, qc, z1]
      have h0 : 0 < g.nx := by omega
      have w := P2.mk (n := n) (W := W) (H := H) (hs := hs) (m := m) (i + 1) (by omega) (hP2.setc (kc' := km (boxF n W H hs) (i + 1))) (by rw [get_set, if_neg (by omega)]; exact (qf.get 0 h0).trans k0) (by rw [cellsAt_set', if_neg (by omega)]; exact (cellsAt_congr (qf.get x (by omega))).trans kt) (by simp only [nx_set]; have := qf.nx; omega)
      exact ⟨m, by omega, w⟩
  | succ m =>
    have hli : (i : Int) < (n : Int) + 1 := by omega
    have d1 := fun h => tab_at (n := n + 1) (i := i) (ndc n) 7 (ndc_len n) (by omega) h
    have d2 := fun h => tab_at (n := n + 1) (i := i) (stc hs) 23 (stc_len hs) (by omega) h
    have en := node_eq n i
    obtain ⟨r1, r2, r3, r4, r5, r6, e1, e2⟩ := nd_form n i
    obtain ⟨S, e3, e4, e5, e6⟩ := st_form hs i
    rw [e1] at d1
    rw [e3] at d2
    have e2' := e2
    simp at e2'
    simp (disch := first | (simp; done) | omega | (simp only [nx_add, nx_set, nx_kill, nx_mk, nx_emp]; omega) | fail) [g7_l1, hli, d1, e2']
    generalize hQ : AH.mk _ _ = Q
    have qf : Fr g Q := by
      rw [← hQ]
      exact ⟨by simp only []; omega, fun j hj => by show (AH.set _ _ _).H.get j = _; rw [get_set, if_neg (by omega), get_add, if_neg (by omega)]⟩
    have qc : Q.cellsAt g.nx = some [I ((i : Int) + 1), r1, r2, r3, r4, r5, r6] := by rw [← hQ]; simp
    clear hQ
    have hP2 := hP.fr qf
    have p2 := hP2.p
    have y1 : ¬ g.nx = x + 1 := by have := hP.la; omega
    have y2 : ¬ g.nx = x + 2 := by have := hP.lb; omega
    simp (disch := first | (simp; done) | omega | (simp only [nx_add, nx_set, nx_kill, nx_mk, nx_emp]; omega) | fail) [p, p2, qc, g7_s3]
    have za := fun z => ent_km (z := z) (k := (i : Int) + 1) hP2.ma rfl
    have f1 : ∀ h : AH, kFldA h 1 (.pptr (I ((i : Int) + 1) :: S)) = some (.pptr S, h) := fun h => rfl
    have f2 : ∀ h : AH, kLdn h 22 (.pptr S) = some (.agg S, h) := fun h => by simp [kLdn, aloadn, e5]
    simp (disch := first | (simp; done) | omega | (simp only [nx_add, nx_set, nx_kill, nx_mk, nx_emp]; omega) | fail) [qc, g7_s2, d2, f1, f2, za]
    generalize hQ1 : AH.set Q (x + 1) _ = Q1
    have m1 : Q1.mapAt (x + 1) = some (km (nodeF n) i ++ [(I ((i : Int) + 1), .agg [.int .i64 0, .int .i64 0, .int .i64 0, .str [], .nilsl, .nilsl, .nilsl])]) := by rw [← hQ1, mapAt_set', if_pos rfl]
    have hP3 := hP2.seta (ka' := km (nodeF n) i ++ [(I ((i : Int) + 1), .agg [.int .i64 0, .int .i64 0, .int .i64 0, .str [], .nilsl, .nilsl, .nilsl])])
    rw [hQ1] at hP3
    have zc := entst_km (x := .agg [I ((i : Int) + 1), r1, r2, r3, r4, r5, r6]) (f := nodeF n) m1 rfl (by rw [en, e1])
    have hP4 := hP3.seta (ka' := km (nodeF n) (i + 1))
    have zd := fun z => ent_km (z := z) (k := (i : Int) + 1) hP4.mb rfl
    simp (disch := first | (simp; done) | omega | (simp only [nx_add, nx_set, nx_kill, nx_mk, nx_emp]; omega) | fail) [g7_s1, zc, zd]
    generalize hQ2 : AH.set (AH.set Q1 _ _) (x + 2) _ = Q2
    have hP5 := hP4.setb (kb' := km (styF hs) i ++ [(I ((i : Int) + 1), .agg [I 0, I 0, I 0, I 0, I 0, I 0, I 0, I 0, I 0, I 0, I 0, I 0, I 0, I 0, I 0, I 0, I 0, I 0, I 0, I 0, I 0, I 0])])
    rw [hQ2] at hP5
    have ze := entst_km (x := .agg S) (f := styF hs) hP5.mb rfl e4.symm
    have hP6 := hP5.setb (kb' := km (styF hs) (i + 1))
    have h0 : 0 < g.nx := by omega
    have qn := qf.nx
    have fr : ∀ j, j ≠ x + 1 → j ≠ x + 2 → (Q2.set (x + 2) (.map (km (styF hs) (i + 1)))).H.get j = Q.H.get j := fun j k1 k2 => by
      rw [get_set, if_neg k2, ← hQ2, get_set, if_neg k2, get_set, if_neg k1, ← hQ1, get_set, if_neg k1]
    simp (disch := first | (simp; done) | omega | (simp only [nx_add, nx_set, nx_kill, nx_mk, nx_emp]; omega) | fail) [ze]
    refine ⟨?_, m, by omega, ?_⟩
    · rw [← hQ1]; simp (disch := first | (simp; done) | omega | (simp only [nx_add, nx_set, nx_kill, nx_mk, nx_emp]; omega) | fail) [y1]
    have w := P1.mk (n := n) (W := W) (H := H) (hs := hs) (m := m) (i + 1) (by omega) hP6 (by rw [fr 0 (by omega) (by omega)]; exact (qf.get 0 h0).trans k0) ((cellsAt_congr (fr x (by omega) (by omega))).trans ((cellsAt_congr (qf.get x (by omega))).trans kt)) (by rw [← hQ2, ← hQ1]; simp only [nx_set]; omega)
    exact w
end Go.Proofs.YtfegfialedlfcaaGreatDoor
end
noncomputable section
namespace Go.Eng
section
variable {ns : List Nat}
mutual
theorem inst_cls : ∀ (a : AV), clsF 0 a = true → inst ns a = a
  | .bool _, _ => by simp only [inst]
  | .int _ _, _ => by simp only [inst]
  | .str _, _ => by simp only [inst]
  | .nilptr, _ => by simp only [inst]
  | .nilsl, _ => by simp only [inst]
  | .esl, _ => by simp only [inst]
  | .nilfunc, _ => by simp only [inst]
  | .nilif, _ => by simp only [inst]
  | .nilmap, _ => by simp only [inst]
  | .gptr _ _, _ => by simp only [inst]
  | .sint _ _ i _ _ _, hh => by simp [clsF] at hh
  | .lin k l c lo hi, hh => by cases l <;> simp [clsF] at hh
  | .agg cs, hh => by
    simp only [clsF] at hh
    simp only [inst, instL_eq, inst_clsL cs hh]
  | .psl xs, hh => by
    simp only [clsF] at hh
    simp only [inst, instLL_eq, inst_clsP xs hh]
  | .undef, hh => by simp [clsF] at hh
  | .tup _, hh => by simp [clsF] at hh
  | .ptr _ _, hh => by simp [clsF] at hh
  | .pptr _, hh => by simp [clsF] at hh
  | .rsl _ _ _ _, hh => by simp [clsF] at hh
  | .mapv _, hh => by simp [clsF] at hh
  | .func _ _ _, hh => by simp [clsF] at hh
  | .iface _ _, hh => by simp [clsF] at hh
  | .scol _ _ _ _ _ _ _ _, hh => by simp [clsF] at hh
  | .oint _ _, hh => by simp [clsF] at hh
  | .gsl _ _ _, hh => by simp [clsF] at hh
theorem inst_clsL : ∀ (l : List AV), clsL 0 l = true → l.map (inst ns) = l
  | [], _ => rfl
  | a :: l, hh => by
    simp only [clsL, Bool.and_eq_true] at hh
    simp only [List.map_cons, inst_cls a hh.1, inst_clsL l hh.2]
theorem inst_clsP : ∀ (l : List (List AV)), clsP 0 l = true → (l.map fun x => x.map (inst ns)) = l
  | [], _ => rfl
  | a :: l, hh => by
    simp only [clsP, Bool.and_eq_true] at hh
    simp only [List.map_cons, inst_clsL a hh.1, inst_clsP l hh.2]
end
mutual
theorem okG_cls : ∀ (a : AV), clsF 0 a = true → okG ns a
  | .bool _, _ => trivial
  | .int _ _, _ => trivial
  | .str _, _ => trivial
  | .nilptr, _ => trivial
  | .nilsl, _ => trivial
  | .esl, _ => trivial
  | .nilfunc, _ => trivial
  | .nilif, _ => trivial
  | .nilmap, _ => trivial
  | .gptr _ _, _ => trivial
  | .sint _ _ i _ _ _, hh => by simp [clsF] at hh
  | .lin k l c lo hi, hh => by cases l <;> simp [clsF] at hh
  | .agg cs, hh => by
    simp only [clsF] at hh
    exact okGL_cls cs hh
  | .psl xs, hh => by
    simp only [clsF] at hh
    exact okGLL_cls xs hh
  | .undef, hh => by simp [clsF] at hh
  | .tup _, hh => by simp [clsF] at hh
  | .ptr _ _, hh => by simp [clsF] at hh
  | .pptr _, hh => by simp [clsF] at hh
  | .rsl _ _ _ _, hh => by simp [clsF] at hh
  | .mapv _, hh => by simp [clsF] at hh
  | .func _ _ _, hh => by simp [clsF] at hh
  | .iface _ _, hh => by simp [clsF] at hh
  | .scol _ _ _ _ _ _ _ _, hh => by simp [clsF] at hh
  | .oint _ _, hh => by simp [clsF] at hh
  | .gsl _ _ _, hh => by simp [clsF] at hh
theorem okGL_cls : ∀ (l : List AV), clsL 0 l = true → okGL ns l
  | [], _ => trivial
  | a :: l, hh => by
    simp only [clsL, Bool.and_eq_true] at hh
    exact ⟨okG_cls a hh.1, okGL_cls l hh.2⟩
theorem okGLL_cls : ∀ (l : List (List AV)), clsP 0 l = true → okGLL ns l
  | [], _ => trivial
  | a :: l, hh => by
    simp only [clsP, Bool.and_eq_true] at hh
    exact ⟨okGL_cls a hh.1, okGLL_cls l hh.2⟩
end
theorem insE_app : ∀ {l m : List (Int × Nat)} {a b : Int}, insE ns l = some a → insE ns m = some b → insE ns (l ++ m) = some (a + b)
  | [], m, a, b, h1, h2 => by simp [insE] at h1; subst h1; simpa using h2
  | p :: l, m, a, b, h1, h2 => by
    simp only [insE] at h1
    split at h1
    · rename_i n e k1 k2
      cases h1
      simp only [List.cons_append, insE, k1, insE_app k2 h2]
      congr 1; omega
    · cases h1
end
/-- rows of a list as one's own, taken as frozen -/
theorem rows_get : ∀ (rows : List (List AV)) (z : Nat), (∀ r ∈ rows, r.length = z) → ∀ (i j : Nat) (r : List AV), rows[i]? = some r → j < z → rows.flatten[i * z + j]? = r[j]?
  | [], z, _, i, j, r, h, _ => by simp at h
  | a :: l, z, hz, 0, j, r, h, hj => by
    simp at h; subst h
    have := hz a (by simp)
    rw [List.flatten_cons, List.getElem?_append_left (by omega)]; congr 1; omega
  | a :: l, z, hz, i + 1, j, r, h, hj => by
    have := hz a (by simp)
    have e : (i + 1) * z = z + i * z := by rw [Nat.succ_mul]; omega
    rw [List.flatten_cons, List.getElem?_append_right (by omega), this, ← rows_get l z (fun x hx => hz x (by simp [hx])) i j r (by simpa using h) hj]
    congr 1; omega
theorem rows_len : ∀ (rows : List (List AV)) (z : Nat), (∀ r ∈ rows, r.length = z) → rows.flatten.length = rows.length * z
  | [], _, _ => by simp
  | a :: l, z, hz => by
    rw [List.flatten_cons, List.length_append, rows_len l z (fun x hx => hz x (by simp [hx])), hz a (by simp), List.length_cons, Nat.succ_mul]; omega
theorem frz_rows {h : AH} {n : Bool} {id z : Nat} {rows : List (List AV)} (hc : h.cellsAt id = some rows.flatten) (hz : ∀ r ∈ rows, r.length = z) (hf : ∀ r ∈ rows, ∀ (j : Nat) (d : AV), r[j]? = some d → Frz h n d d) : Frz h n (.rsl id 0 rows.length z) (.psl rows) := by
  refine .rsl id 0 z _ rows hc (by rw [rows_len rows z hz]; omega) (fun i y hy => hz y (List.mem_of_getElem? hy)) fun i y j c d hy hj hcc => ?_
  have hy' := List.mem_of_getElem? hy
  have hj2 : j < z := by rw [← hz y hy']; exact (List.getElem?_eq_some_iff.1 hj).1
  rw [show 0 + i * z + j = i * z + j by omega, rows_get rows z hz i j y hy hj2, hj] at hcc
  cases hcc
  exact hf y hy' j c hj
end Go.Eng
end
