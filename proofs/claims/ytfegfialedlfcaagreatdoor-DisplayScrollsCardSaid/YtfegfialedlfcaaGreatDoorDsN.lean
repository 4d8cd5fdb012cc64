/- The painter's small methods. Maps from 1, 2 and so on. A method that puts a new list into its object, told exactly. The painter: a node itself. The painter: a group without children. The painter: the scroll node. -/
import Derived.Test.YtfegfialedlfcaaGreatDoorDsI
import Derived.Test.YtfegfialedlfcaaGreatDoorDsE
import Derived.Test.YtfegfialedlfcaaGreatDoorDsX4
import Derived.KernelRfl
import Derived.Test.YtfegfialedlfcaaGreatDoorEngIN
set_option linter.unusedSimpArgs false
set_option linter.unusedVariables false
set_option linter.unnecessarySimpa false
noncomputable section
namespace Go.Proofs.YtfegfialedlfcaaGreatDoor
open Go.Eng
set_option maxRecDepth 100000
/-! the painter's small methods -/
def X2 : Handler := xtab X xtr4 ITS 10000 60
theorem X2_ok : FOk Tryz.prog X2 := xtab_ok X_ok xtr4_ok 10000 60
theorem rTurn : peOk X2 0 ⟨59, [.nilsl, .str [116, 117, 114, 110], I 0], I 0⟩ = true := by kernel_rfl
theorem rScale : peOk X2 0 ⟨59, [.nilsl, .str [115, 99, 97, 108, 101], I 1], I 1⟩ = true := by kernel_rfl
theorem rFlag : peOk X2 0 ⟨122, [.nilsl, .str [112, 105, 110, 110, 101, 100]], .bool false⟩ = true := by kernel_rfl
theorem turn_d (h : AH) : CallD Tryz.prog 59 [.nilsl, .str [116, 117, 114, 110], I 0] h (I 0) h := peOk_ok X2_ok rTurn h (Nat.zero_le _)
theorem scale_d (h : AH) : CallD Tryz.prog 59 [.nilsl, .str [115, 99, 97, 108, 101], I 1] h (I 1) h := peOk_ok X2_ok rScale h (Nat.zero_le _)
theorem flag_d (h : AH) : CallD Tryz.prog 122 [.nilsl, .str [112, 105, 110, 110, 101, 100]] h (.bool false) h := peOk_ok X2_ok rFlag h (Nat.zero_le _)
theorem restT {P : Program} {f : Nat} {args : List AV} {h : AH} (hc : CallsA P f args h fun v' h' => v' = .tup [] ∧ Fr h h') : CallD P f args h (.tup []) h := restF (fun _ => .tup _ _ rfl (by simp)) hc
theorem mark_d {h : AH} {px : Nat} {m1 m2 m3 offs out id : AV} {at_ : Pt} {b : Bool} (hp : h.cellsAt px = some [m1, m2, m3, offs, .nilsl, out]) (hx : px < h.nx) : CallD Tryz.prog 116 [.ptr px 0, id, .agg at_.enc, .bool b] h (.tup []) h := by
  refine restT (C116 (tU_ok _) ?_)
  have hne : ¬ px = h.nx := by omega
  simp (disch := first | (simp; done) | omega | (simp only [nx_add, nx_set, nx_kill, nx_mk, nx_emp]; omega) | fail) [g116, hp, hne]
  refine ⟨fun m vs h' => m = 0 ∧ (∃ v0 v1 v3 v6, vs = [v0, v1, v3, v6, .nilsl, I 0, I 0]) ∧ Fr h h', 0, ⟨rfl, ⟨_, _, _, _, rfl⟩, (Fr.refl h).add _⟩, ?_⟩
  rintro m vs h' ⟨rfl, ⟨v0, v1, v3, v6, rfl⟩, hf⟩
  simp (disch := first | (simp; done) | omega | (simp only [nx_add, nx_set, nx_kill, nx_mk, nx_emp]; omega) | fail) [g116_l5, g116_j7, g116_c6, hf]
def offL (off : Int) : AV := .psl [[I 1, I off]]
theorem offset_d {h : AH} {px : Nat} {m1 m2 m3 mk out : AV} {off : Int} (hp : h.cellsAt px = some [m1, m2, m3, offL off, mk, out]) (hx : px < h.nx) : CallD Tryz.prog 121 [.ptr px 0, I 1] h (I off) h := by
  refine restI (C121 (tU_ok _) ?_)
  simp (disch := first | (simp; done) | omega | (simp only [nx_add, nx_set, nx_kill, nx_mk, nx_emp]; omega) | fail) [g121, hp, offL]
  refine ⟨fun m vs h' => m = 0 ∧ vs = [I 1, offL off, I 1, I 0] ∧ h' = h, 0, ⟨rfl, rfl, rfl⟩, ?_⟩
  rintro m vs h' ⟨rfl, rfl, rfl⟩
  have e1 : ∀ h : AH, kIdxA h 2 (offL off) (I 0) = some (.pptr [I 1, I off], h) := fun h => kIdxA_psl (i := 0) rfl rfl
  have e2 : ∀ h : AH, kLdn h 2 (.pptr [I 1, I off]) = some (.agg [I 1, I off], h) := fun h => rfl
  simp (disch := first | (simp; done) | omega | (simp only [nx_add, nx_set, nx_kill, nx_mk, nx_emp]; omega) | fail) [g121_l1, e1, e2, g121_s1, g121_j3]
  exact ((Fr.refl h').add _).set (Nat.le_refl _) _
end Go.Proofs.YtfegfialedlfcaaGreatDoor
end
noncomputable section
namespace Go.Eng
theorem mapAt_congr {h h' : AH} {i : Nat} (e : h'.H.get i = h.H.get i) : h'.mapAt i = h.mapAt i := by unfold AH.mapAt; rw [e]
theorem mapAt_add {h : AH} {i : Nat} {o : AObj} (hi : i ≠ h.nx) : (h.add o).mapAt i = h.mapAt i := mapAt_congr (by rw [get_add, if_neg hi])
end Go.Eng
namespace Go.Proofs.YtfegfialedlfcaaGreatDoor
open Go.Eng
/-! tables -/
theorem tab_len {α : Type} (f : Nat → α) : ∀ n, (tab f n).length = n
  | 0 => rfl
  | n + 1 => by simp [tab, tab_len f n]
theorem tab_get {α : Type} (f : Nat → α) : ∀ (n i : Nat), (tab f n)[i]? = if i < n then some (f i) else none
  | 0, i => by simp [tab]
  | n + 1, i => by
    simp only [tab]
    by_cases h : i < n
    · rw [List.getElem?_append_left (by rw [tab_len]; exact h), tab_get f n i, if_pos h, if_pos (by omega)]
    · rw [List.getElem?_append_right (by rw [tab_len]; omega), tab_len]
      by_cases h2 : i = n
      · subst h2; simp
      · rw [if_neg (by omega), List.getElem?_eq_none (by simp; omega)]
theorem tab_cons {α : Type} (f : Nat → α) : ∀ n, f 0 :: tab (fun i => f (i + 1)) n = tab f (n + 1)
  | 0 => rfl
  | n + 1 => by
    have := tab_cons f n
    simp only [tab] at this ⊢
    rw [← this]; rfl
theorem tab_map {α β : Type} (g : α → β) (f : Nat → α) : ∀ n, (tab f n).map g = tab (fun i => g (f i)) n
  | 0 => rfl
  | n + 1 => by simp [tab, tab_map g f n]
theorem tab_congr {α : Type} {f g : Nat → α} : ∀ {n : Nat}, (∀ i, i < n → f i = g i) → tab f n = tab g n
  | 0, _ => rfl
  | n + 1, h => by simp only [tab]; rw [tab_congr fun i hi => h i (by omega), h n (by omega)]
/-- a map from 1, 2 .. -/
def km (f : Nat → AV) (m : Nat) : List (AV × AV) := tab (fun i => (I ((i : Int) + 1), f i)) m
theorem km_len (f : Nat → AV) (m : Nat) : (km f m).length = m := tab_len _ _
theorem kfind_app {k : Int} : ∀ (l : List (AV × AV)) (e : AV × AV) (s : Nat), kfind (.one (.int .i64)) (I k) l s = some none → kfind (.one (.int .i64)) (I k) (l ++ [e]) s = kfind (.one (.int .i64)) (I k) [e] (s + l.length)
  | [], e, s, _ => by simp
  | a :: l, e, s, h => by
    simp only [kfind] at h
    simp only [List.cons_append, kfind]
    split at h
    · rename_i h1
      rw [if_pos h1]
      split at h
      · cases h
      · rename_i h2
        rw [if_neg h2, kfind_app l e (s + 1) h]
        simp only [kfind, List.length_cons]
        congr 1
        rw [show s + 1 + l.length = s + (l.length + 1) by omega]
    · cases h
theorem kfind_app' {k : Int} {r : Nat × AV} : ∀ (l : List (AV × AV)) (e : AV × AV) (s : Nat), kfind (.one (.int .i64)) (I k) l s = some (some r) → kfind (.one (.int .i64)) (I k) (l ++ [e]) s = some (some r)
  | [], e, s, h => by simp [kfind] at h
  | a :: l, e, s, h => by
    simp only [kfind] at h
    simp only [List.cons_append, kfind]
    split at h
    · rename_i h1
      rw [if_pos h1]
      split at h
      · rename_i h2; rw [if_pos h2]; exact h
      · rename_i h2; rw [if_neg h2]; exact kfind_app' l e (s + 1) h
    · cases h
theorem kfind_km (f : Nat → AV) (i : Nat) : ∀ m, kfind (.one (.int .i64)) (I ((i : Int) + 1)) (km f m) 0 = some (if i < m then some (i, f i) else none)
  | 0 => by simp [km, tab, kfind]
  | m + 1 => by
    have ih := kfind_km f i m
    show kfind _ _ (km f m ++ [_]) 0 = _
    by_cases h : i < m
    · rw [if_pos h] at ih
      rw [kfind_app' _ _ _ ih, if_pos (by omega)]
    · rw [if_neg h] at ih
      rw [kfind_app _ _ _ ih, km_len]
      by_cases h2 : i = m
      · subst h2; simp [kfind, Eng.keyOf, Eng.keyS, kd, kdS, keq, keqS]
      · rw [if_neg (by omega)]
        have : ¬ ((i : Int) = m) := by omega
        simp [kfind, Eng.keyOf, Eng.keyS, kd, kdS, keq, keqS, this]
theorem get_km {h : AH} {a m i : Nat} {f : Nat → AV} {z : AV} {k : Int} (hm : h.mapAt a = some (km f m)) (hk : k = (i : Int) + 1) (hi : i < m) : kX h (.mapget (.one (.int .i64)) false z) [.mapv a, I k] = some (f i, h) := by
  subst hk
  simp only [kX, Eng.keyOf, Eng.keyS, decide_true, if_true, amap, hm, kfind_km, if_pos hi, Bool.false_eq_true, if_false]
theorem got_km {h : AH} {a m i : Nat} {f : Nat → AV} {z : AV} {k : Int} (hm : h.mapAt a = some (km f m)) (hk : k = (i : Int) + 1) (hi : i < m) : kX h (.mapget (.one (.int .i64)) true z) [.mapv a, I k] = some (.tup [f i, .bool true], h) := by
  subst hk
  simp only [kX, Eng.keyOf, Eng.keyS, decide_true, if_true, amap, hm, kfind_km, if_pos hi]
theorem set_km {h : AH} {a m : Nat} {f : Nat → AV} {x : AV} {k : Int} (hm : h.mapAt a = some (km f m)) (hk : k = (m : Int) + 1) (hx : x = f m) : kX h (.mapset (.one (.int .i64))) [.mapv a, I k, x] = some (.undef, h.set a (.map (km f (m + 1)))) := by
  subst hk; subst hx
  simp only [kX, Eng.keyOf, Eng.keyS, decide_true, if_true, hm, kfind_km, Nat.lt_irrefl, if_false]
  rfl
end Go.Proofs.YtfegfialedlfcaaGreatDoor
noncomputable section
namespace Go.Eng
theorem settleP {P : Program} {f : Nat} {args : List AV} {h : AH} {px k B m z : Nat} {pre cs : List AV} (hpx : px < h.nx) (hkp : k ≠ px)
    (hc : CallsA P f args h fun v' h' => v' = .tup [] ∧ h'.nx ≤ h.nx + B ∧ ∃ id, h.nx ≤ id ∧ h'.cellsAt px = some (pre ++ [.rsl id 0 m z]) ∧ h'.cellsAt id = some cs ∧ ∀ i, i < h.nx → i ≠ px → i ≠ k → h'.H.get i = h.H.get i) :
    CallD P f args h (.tup []) (settled ((h.kill k).set px (.cells (pre ++ [.rsl (h.nx + B) 0 m z]))) (h.nx + B) cs) := by
  refine ⟨hc.1, fun own β w cargs hs hRL => (hc.2 own β w cargs hs hRL).mono ?_⟩
  rintro e w' ⟨cv, v0, h0, β0, rfl, ⟨rfl, hB, id, hid, hp0, hcs, hold⟩, hs0, hv0, ht⟩
  obtain ⟨b, base, hb, hnown, cur, et, hcur, hcl, hcell⟩ := hs0.obj id _ (cellsAt_get hcs)
  have hlive : live β0 h0.H b := ⟨id, _, base, cellsAt_get hcs, hb⟩
  have hblt : b < w'.heap.size := hs0.lt id b base hb
  obtain ⟨N, hN⟩ : ∃ N, N = h.nx + B := ⟨_, rfl⟩
  rw [← hN] at hB ⊢
  obtain ⟨g, hg⟩ : ∃ g, g = settled ((h.kill k).set px (.cells (pre ++ [.rsl N 0 m z]))) N cs := ⟨_, rfl⟩
  rw [← hg]
  have hnx : β0 N = none := hs0.fresh _ hB
  obtain ⟨β', hβ'⟩ : ∃ β', β' = upd β0 N b base := ⟨_, rfl⟩
  have hgood : ∀ {i x}, β0 i = some x → β' i = some x := fun {i x} hi => by
    have : i ≠ N := fun e => by rw [e, hnx] at hi; cases hi
    rw [hβ', upd_ne _ _ _ this]; exact hi
  have hself : β' N = some (b, base) := by rw [hβ']; exact upd_same _ _ _ _
  have hne : ∀ i, i ≠ N → β' i = β0 i := fun i hi => by rw [hβ', upd_ne _ _ _ hi]
  have hnone : ∀ i, h.nx ≤ i → h.H.get i = none := fun i hi => by
    cases hh : h.H.get i with
    | none => rfl
    | some o => obtain ⟨b, base, hb, _⟩ := hs.obj i o hh; rw [hs.fresh i hi] at hb; cases hb
  have gN : g.H.get N = some (.cells cs) := by rw [hg, get_settled, if_pos rfl]
  have gp : g.H.get px = some (.cells (pre ++ [.rsl N 0 m z])) := by rw [hg, get_settled, if_neg (by omega), get_set, if_pos rfl]
  have go : ∀ i o, g.H.get i = some o → i = N ∨ i = px ∨ (i < h.nx ∧ i ≠ px ∧ h0.H.get i = some o) := fun i o hi => by
    by_cases h1 : i = N
    · exact .inl h1
    by_cases h2 : i = px
    · exact .inr (.inl h2)
    rw [hg, get_settled, if_neg h1, get_set, if_neg h2, get_kill] at hi
    split at hi
    · cases hi
    · rename_i h3
      have h4 : i < h.nx := Nat.lt_of_not_le fun hle => by rw [hnone i hle] at hi; cases hi
      exact .inr (.inr ⟨h4, h2, by rw [hold i h4 h2 h3]; exact hi⟩)
  have gnx : g.nx = N + 1 := by rw [hg]; rfl
  have hlv0 : ∀ b', live β' g.H b' → live β0 h0.H b' := by
    rintro b' ⟨i, o, ba, h1, h2⟩
    rcases go i o h1 with rfl | rfl | ⟨h3, h4, h5⟩
    · rw [hself] at h2; cases h2; exact hlive
    · rw [hne _ (by omega)] at h2; exact ⟨_, _, ba, cellsAt_get hp0, h2⟩
    · rw [hne _ (by omega)] at h2; exact ⟨i, o, ba, h5, h2⟩
  have hL : ∀ b', LL own β' g.H b' → LL own β0 h0.H b' := fun b' hb' => hb'.imp_right (hlv0 b')
  have hLat : Later w'.heap (LL own β0 h0.H) β0 w'.heap (LL own β' g.H) β' :=
    ⟨fun i x hx => hgood hx, fun b' _ hn => ⟨fun hl => hn (hL b' hl), rfl⟩, fun _ cur _ fz hcu => ⟨cur, fz, hcu, rfl⟩⟩
  have hT : Trans own β h w β' g w' := by
    refine ⟨fun i x hx => hgood (ht.ext i x hx), fun i hi => ?_, by rw [gnx]; omega, ht.size, ht.keep, fun b' hl => ht.live b' (hlv0 b' hl), fun b' cur e fz hc => let ⟨c, f, h1, h2, h3⟩ := ht.shape b' cur e fz hc; ⟨c, f, h1, h2, fun hl => h3 (hlv0 b' hl)⟩, ht.os, ht.tape, ht.output⟩
    rw [hne i (by omega)]; exact ht.low i hi
  -- the object of each number of g, in h0
  have back : ∀ i o bb ba, g.H.get i = some o → β' i = some (bb, ba) → ∃ j o', h0.H.get j = some o' ∧ β0 j = some (bb, ba) ∧ (i = N → j = id) ∧ (i ≠ N → j = i ∧ i < h.nx) := fun i o bb ba h1 h2 => by
    rcases go i o h1 with rfl | rfl | ⟨h3, h4, h5⟩
    · rw [hself] at h2; cases h2; exact ⟨id, _, cellsAt_get hcs, hb, fun _ => rfl, fun h => absurd rfl h⟩
    · rw [hne _ (by omega)] at h2; exact ⟨i, _, cellsAt_get hp0, h2, fun h => by omega, fun _ => ⟨rfl, hpx⟩⟩
    · rw [hne _ (by omega)] at h2; exact ⟨i, o, h5, h2, fun h => by omega, fun _ => ⟨rfl, h3⟩⟩
  have hS : SimH own β' g.H g.nx w' := by
    refine ⟨fun i hi => ?_, fun i b' ba hi => ?_, hs0.ownlt, fun i o hgi => ?_, fun i j o o' b' x y h1 h2 h3 h4 => ?_⟩
    · rw [gnx] at hi
      rw [hne i (by omega)]; exact hs0.fresh i (by omega)
    · by_cases h1 : i = N
      · subst h1; rw [hself] at hi; cases hi; exact hblt
      · rw [hne i h1] at hi; exact hs0.lt i b' ba hi
    · rcases go i o hgi with rfl | rfl | ⟨h3, h4, h5⟩
      · rw [gN] at hgi; cases hgi
        exact ⟨b, base, hself, hnown, cur, et, hcur, hcl, fun i c u k1 k2 => (hcell i c u k1 k2).later hLat⟩
      · rw [gp] at hgi; cases hgi
        obtain ⟨b', ba, q1, q2, cur2, e2, r1, r2, r3⟩ := hs0.obj i _ (cellsAt_get hp0)
        refine ⟨b', ba, hgood q1, q2, cur2, e2, r1, by simpa using r2, fun j c u k1 k2 => ?_⟩
        by_cases hj : j < pre.length
        · rw [List.getElem?_append_left hj] at k1
          exact (r3 j c u (by rw [List.getElem?_append_left hj]; exact k1) k2).later hLat
        · rw [List.getElem?_append_right (by omega)] at k1
          have hj0 : j - pre.length = 0 := by
            have := (List.getElem?_eq_some_iff.1 k1).1
            simp at this; omega
          rw [hj0] at k1
          simp at k1
          subst k1
          have hv := r3 j (.rsl id 0 m z) u (by rw [List.getElem?_append_right (by omega), hj0]; rfl) k2
          cases hv with
          | rsl _ _ _ _ b2 base2 cap cur2 e2 fz2 g1 g2 g3 g4 g5 => rw [hb] at g1; cases g1; exact .rsl _ _ _ _ b base cap cur2 e2 fz2 hself g2 g3 g4 g5
          | rsl0 _ _ _ b2 base2 o g1 => rw [hb] at g1; cases g1; exact .rsl0 _ _ _ b base o hself
      · obtain ⟨b', ba, q1, q2, q3⟩ := hs0.obj i o h5
        exact ⟨b', ba, hgood q1, q2, OR.later hLat rfl q3⟩
    · obtain ⟨i1, o1, a1, a2, a3, a4⟩ := back i o b' x h1 h3
      obtain ⟨j1, o2, c1, c2, c3, c4⟩ := back j o' b' y h2 h4
      have hij := hs0.inj i1 j1 o1 o2 b' x y a1 c1 a2 c2
      by_cases hi : i = N <;> by_cases hj : j = N
      · rw [hi, hj]
      · have := a3 hi; have := c4 hj; omega
      · have := a4 hi; have := c3 hj; omega
      · have := a4 hi; have := c4 hj; omega
  refine ⟨cv, _, g, β', rfl, ⟨rfl, rfl⟩, hS, ?_, hT⟩
  exact hv0.later hLat
end Go.Eng
end
noncomputable section
namespace Go.Proofs.YtfegfialedlfcaaGreatDoor
open Go.Eng
/-! the painter: a node itself -/
theorem get_of {h : AH} {a j : Nat} {kvs : List (AV × AV)} {v z : AV} {k : Int} (hm : h.mapAt a = some kvs) (hf : kfind (.one (.int .i64)) (I k) kvs 0 = some (some (j, v))) : kX h (.mapget (.one (.int .i64)) false z) [.mapv a, I k] = some (v, h) := by
  simp only [kX, Eng.keyOf, Eng.keyS, decide_true, if_true, amap, hm, hf, Bool.false_eq_true, if_false]
theorem map_cells {h : AH} {i : Nat} {cs : List AV} {ks : List (AV × AV)} (h1 : h.cellsAt i = some cs) (h2 : h.mapAt i = some ks) : False := by
  have := cellsAt_get h1
  rw [mapAt_some h2] at this
  cases this
@[simp high] theorem fill4 (r : Rc) (n : Int) : afill [.int .i64 0, .int .i64 0, .int .i64 0, .int .i64 0, .int .i64 0, .int .i64 0, .bool false, .int .i64 0, .int .i64 0, .int .i64 0, .int .i64 0, .str [], .int .i64 0, .int .i64 0, .int .i64 0, .int .i64 0, .int .i64 0, .int .i64 0, .int .i64 0, .int .i64 0, .int .i64 0, .nilsl] [(0, 1, .int .i64 4), (1, 4, .agg r.enc), (10, 1, .int .i64 n)] = some (Cm.enc ⟨4, r, n⟩) := Eq.trans rfl rfl
@[simp high] theorem fill1 (r : Rc) : afill [.int .i64 0, .int .i64 0, .int .i64 0, .int .i64 0, .int .i64 0, .int .i64 0, .bool false, .int .i64 0, .int .i64 0, .int .i64 0, .int .i64 0, .str [], .int .i64 0, .int .i64 0, .int .i64 0, .int .i64 0, .int .i64 0, .int .i64 0, .int .i64 0, .int .i64 0, .int .i64 0, .nilsl] [(0, 1, .int .i64 1), (1, 4, .agg r.enc)] = some (Cm.enc ⟨1, r, 0⟩) := Eq.trans rfl rfl
@[simp high] theorem fill3 : afill [.int .i64 0, .int .i64 0, .int .i64 0, .int .i64 0, .int .i64 0, .int .i64 0, .bool false, .int .i64 0, .int .i64 0, .int .i64 0, .int .i64 0, .str [], .int .i64 0, .int .i64 0, .int .i64 0, .int .i64 0, .int .i64 0, .int .i64 0, .int .i64 0, .int .i64 0, .int .i64 0, .nilsl] [(0, 1, .int .i64 3)] = some (Cm.enc ⟨3, ⟨0, 0, 0, 0⟩, 0⟩) := Eq.trans rfl rfl
@[simp high] theorem fill22 (c : Cm) : afill [.int .i64 0, .int .i64 0, .int .i64 0, .int .i64 0, .int .i64 0, .int .i64 0, .bool false, .int .i64 0, .int .i64 0, .int .i64 0, .int .i64 0, .str [], .int .i64 0, .int .i64 0, .int .i64 0, .int .i64 0, .int .i64 0, .int .i64 0, .int .i64 0, .int .i64 0, .int .i64 0, .nilsl] [(0, 22, .agg c.enc)] = some c.enc := Eq.trans rfl rfl
@[simp] theorem ixa_1 (h : AH) (id o : Nat) : kIdxArrA h 22 1 (.ptr id o) (.int .i64 1) = some (.ptr id (o + 1), h) := Eq.trans rfl rfl
@[simp] theorem ixa_15 (h : AH) (id o : Nat) : kIdxArrA h 22 1 (.ptr id o) (.int .i64 15) = some (.ptr id (o + 15), h) := Eq.trans rfl rfl
@[simp] theorem ixa_21 (h : AH) (id o : Nat) : kIdxArrA h 22 1 (.ptr id o) (.int .i64 21) = some (.ptr id (o + 21), h) := Eq.trans rfl rfl
theorem kApp_nil {h : AH} {z b id o m : Nat} {cs new : List AV} (hc : h.cellsAt id = some cs) (hn : cut cs o (m * z) = some new) (ho : ones new = true) (hr : roomy m b = true) (hm : m ≠ 0) : kApp h z b .nilsl (.rsl id o m z) = some (.rsl h.nx 0 m z, h.add (.cells new)) := by
  have ha : acells h z (.rsl id o m z) = some new := by simp [acells, hc, hn]
  cases m with
  | zero => exact absurd rfl hm
  | succ m => simp [kApp, aapp, ha, alen, ho, hr]
/-- the painter's cells but for its commands -/
def pre (a b c : Nat) (off : Int) : List AV := [.mapv a, .mapv b, .mapv c, offL off, .nilsl]
structure PS (h : AH) (px a b c : Nat) (ka kb kc : List (AV × AV)) (off : Int) (out : AV) : Prop where
  p : h.cellsAt px = some [.mapv a, .mapv b, .mapv c, offL off, .nilsl, out]
  ma : h.mapAt a = some ka
  mb : h.mapAt b = some kb
  mc : h.mapAt c = some kc
  lp : px < h.nx
  la : a < h.nx
  lb : b < h.nx
  lc : c < h.nx
def flat (l : List Cm) : List AV := (l.map Cm.enc).flatten
theorem flat_ln : ∀ l : List Cm, (flat l).length = l.length * 22
  | [] => rfl
  | c :: l => by
    have := flat_ln l
    simp only [flat] at this
    simp [flat, this, Nat.succ_mul]; omega
theorem flat_app (l m : List Cm) : flat (l ++ m) = flat l ++ flat m := by simp [flat]
theorem flat_one (c : Cm) : flat [c] = c.enc := by simp [flat]
/-- commands so far, in a list of one's own -/
structure Out (h : AH) (k : Nat) (l : List Cm) : Prop where
  c : h.cellsAt k = some (flat l)
  lt : k < h.nx
theorem Out.ne {h : AH} {px a b c k : Nat} {ka kb kc : List (AV × AV)} {off : Int} {l : List Cm} (hP : PS h px a b c ka kb kc off (.rsl k 0 l.length 22)) (hO : Out h k l) : k ≠ px ∧ k ≠ a ∧ k ≠ b ∧ k ≠ c ∧ px ≠ a ∧ px ≠ b ∧ px ≠ c := by
  refine ⟨?_, ?_, ?_, ?_, ?_, ?_, ?_⟩
  · rintro rfl
    have := hO.c.symm.trans hP.p
    have := congrArg (Option.map List.length) this
    rw [Option.map_some, flat_ln] at this
    simp at this; omega
  · rintro rfl; exact map_cells hO.c hP.ma
  · rintro rfl; exact map_cells hO.c hP.mb
  · rintro rfl; exact map_cells hO.c hP.mc
  · rintro rfl; exact map_cells hP.p hP.ma
  · rintro rfl; exact map_cells hP.p hP.mb
  · rintro rfl; exact map_cells hP.p hP.mc
/-- what a method leaves that adds commands -/
def pG (h : AH) (px a b c : Nat) (off : Int) (k B : Nat) (l : List Cm) : AH := settled ((h.kill k).set px (.cells (pre a b c off ++ [.rsl (h.nx + B) 0 l.length 22]))) (h.nx + B) (flat l)
theorem pG_get {h : AH} {px a b c k B i : Nat} {off : Int} {l : List Cm} (h1 : i < h.nx) (h2 : i ≠ px) (h3 : i ≠ k) : (pG h px a b c off k B l).H.get i = h.H.get i := by
  unfold pG
  rw [get_settled, if_neg (by omega), get_set, if_neg h2, get_kill, if_neg h3]
theorem pG_nx {h : AH} {px a b c k B : Nat} {off : Int} {l : List Cm} : (pG h px a b c off k B l).nx = h.nx + B + 1 := rfl
theorem pG_PS {h : AH} {px a b c k B : Nat} {ka kb kc : List (AV × AV)} {off : Int} {l l' : List Cm} (hP : PS h px a b c ka kb kc off (.rsl k 0 l.length 22)) (hO : Out h k l) : PS (pG h px a b c off k B l') px a b c ka kb kc off (.rsl (h.nx + B) 0 l'.length 22) := by
  obtain ⟨n1, n2, n3, n4, n5, n6, n7⟩ := hO.ne hP
  have hlp := hP.lp
  have hla := hP.la
  have hlb := hP.lb
  have hlc := hP.lc
  refine ⟨?_, ?_, ?_, ?_, by rw [pG_nx]; omega, by rw [pG_nx]; omega, by rw [pG_nx]; omega, by rw [pG_nx]; omega⟩
  · have : (pG h px a b c off k B l').H.get px = some (.cells (pre a b c off ++ [.rsl (h.nx + B) 0 l'.length 22])) := by
      unfold pG; rw [get_settled, if_neg (by omega), get_set, if_pos rfl]
    unfold AH.cellsAt; rw [this]; rfl
  · rw [mapAt_congr (pG_get hla (Ne.symm n5) (Ne.symm n2))]; exact hP.ma
  · rw [mapAt_congr (pG_get hlb (Ne.symm n6) (Ne.symm n3))]; exact hP.mb
  · rw [mapAt_congr (pG_get hlc (Ne.symm n7) (Ne.symm n4))]; exact hP.mc
theorem pG_Out {h : AH} {px a b c k B : Nat} {off : Int} {l : List Cm} : Out (pG h px a b c off k B l) (h.nx + B) l :=
  ⟨by unfold AH.cellsAt pG; rw [get_settled, if_pos rfl], by rw [pG_nx]; omega⟩
/-- a method of the painter that adds commands, told exactly -/
theorem restP {f : Nat} {args : List AV} {h : AH} {px a b c k B : Nat} {off : Int} {l : List Cm} (hpx : px < h.nx) (hkp : k ≠ px)
    (hc : CallsA Tryz.prog f args h fun v' h' => v' = .tup [] ∧ h'.nx ≤ h.nx + B ∧ ∃ id, h.nx ≤ id ∧ h'.cellsAt px = some (pre a b c off ++ [.rsl id 0 l.length 22]) ∧ h'.cellsAt id = some (flat l) ∧ ∀ i, i < h.nx → i ≠ px → i ≠ k → h'.H.get i = h.H.get i) :
    CallD Tryz.prog f args h (.tup []) (pG h px a b c off k B l) := settleP hpx hkp hc
theorem own_d {h : AH} {px a b c k : Nat} {ka kb kc : List (AV × AV)} {off id kind bg : Int} {ja jb : Nat} {N S : List AV} {l : List Cm} {r : Rc} (hP : PS h px a b c ka kb kc off (.rsl k 0 l.length 22)) (hO : Out h k l) (hl : l.length ≤ 1000)
    (hN : kfind (.one (.int .i64)) (I id) ka 0 = some (some (ja, .agg N))) (hS : kfind (.one (.int .i64)) (I id) kb 0 = some (some (jb, .agg S))) (N1 : N.length = 7) (N2 : ones N = true) (N3 : N[2]? = some (I kind)) (hk : kind = 1 ∨ kind = 8)
    (S1 : S.length = 22) (S2 : ones S = true) (S3 : S[21]? = some (I 0)) (S4 : S[1]? = some (I bg)) (hb : bg ≠ -1) : CallD Tryz.prog 60 [.ptr px 0, I id, .agg r.enc] h (.tup []) (pG h px a b c off k 100 (l ++ [⟨4, r, bg⟩])) := by
  obtain ⟨n1, n2, n3, n4, n5, n6, n7⟩ := hO.ne hP
  refine restP hP.lp n1 (C60 (tU_ok _) ?_)
  have hp := hP.p
  have hx := hP.lp
  have la := hP.la
  have lb := hP.lb
  have lk := hO.lt
  have m1 : ¬ px = h.nx := by omega
  simp (disch := first | (simp; done) | omega | (simp only [nx_add, nx_set, nx_kill, nx_mk, nx_emp]; omega) | fail) [g60, hp, m1]
  have ha : (AH.mk (h.add (.cells r.enc)).H (h.nx + 1 + 23)).mapAt a = some ka := (mapAt_add (by omega)).trans hP.ma
  have hb' : (AH.mk (h.add (.cells r.enc)).H (h.nx + 1 + 23)).mapAt b = some kb := (mapAt_add (by omega)).trans hP.mb
  have g1 := fun z => get_of (z := z) ha hN
  have g2 := fun z => get_of (z := z) hb' hS
  simp (disch := first | (simp; done) | omega | (simp only [nx_add, nx_set, nx_kill, nx_mk, nx_emp]; omega) | fail) [g1, xRd, rdK, g60_s10, hp, m1]
  simp (disch := first | (simp; done) | omega | (simp only [nx_add, nx_set, nx_kill, nx_mk, nx_emp]; omega) | fail) [g2]
  have o1 : ¬ h.nx + 1 + 17 = px := by omega
  have o2 : ¬ h.nx + 1 + 17 = a := by omega
  have o3 : ¬ h.nx + 1 + 17 = b := by omega
  have o4 : ¬ h.nx + 1 + 18 = px := by omega
  have o5 : ¬ h.nx + 1 + 18 = a := by omega
  have o6 : ¬ h.nx + 1 + 18 = b := by omega
  have o7 : ¬ h.nx + 1 + 19 = px := by omega
  have o8 : ¬ h.nx + 1 + 19 = a := by omega
  have o9 : ¬ h.nx + 1 + 19 = b := by omega
  simp (disch := first | (simp; done) | omega | (simp only [nx_add, nx_set, nx_kill, nx_mk, nx_emp]; omega) | fail) [g60_s9, splice_all, N1, N2, S1, S2, o1, o2, o3, o4, o5, o6, o7, o8, o9]
  refine ⟨by omega, by omega, by omega, ?_⟩
  generalize hH : AH.set (AH.set (AH.set (AH.set _ _ _) _ _) _ _) (h.nx + 1 + 19) _ = H
  have q17 : ¬ h.nx = h.nx + 1 + 17 := by omega
  have q18 : ¬ h.nx = h.nx + 1 + 18 := by omega
  have q19 : ¬ h.nx = h.nx + 1 + 19 := by omega
  have k0 : H.cellsAt h.nx = some r.enc := by rw [← hH]; simp (disch := first | (simp; done) | omega | (simp only [nx_add, nx_set, nx_kill, nx_mk, nx_emp]; omega) | fail) [q17, q18, q19]
  have kN : H.cellsAt (h.nx + 1 + 17) = some N := by rw [← hH]; simp (disch := first | (simp; done) | omega | (simp only [nx_add, nx_set, nx_kill, nx_mk, nx_emp]; omega) | fail) []
  have kS : H.cellsAt (h.nx + 1 + 18) = some S := by rw [← hH]; simp (disch := first | (simp; done) | omega | (simp only [nx_add, nx_set, nx_kill, nx_mk, nx_emp]; omega) | fail) []
  have kA : H.cellsAt (h.nx + 1 + 19) = some (Pt.enc ⟨r.x, r.y⟩) := by rw [← hH]; simp (disch := first | (simp; done) | omega | (simp only [nx_add, nx_set, nx_kill, nx_mk, nx_emp]; omega) | fail) []; rfl
  have kg : ∀ i, i < h.nx → H.H.get i = h.H.get i := fun i hi => by
    rw [← hH, get_set, if_neg (by omega), get_set, if_neg (by omega), get_set, if_neg (by omega), get_set, if_neg (by omega), get_set, if_neg (by omega), get_set, if_neg (by omega)]
    exact (Fr.refl h |>.add _).get i hi
  have kp : H.cellsAt px = some [.mapv a, .mapv b, .mapv c, offL off, .nilsl, .rsl k 0 l.length 22] := (cellsAt_congr (kg px hx)).trans hp
  have kk : H.cellsAt k = some (flat l) := (cellsAt_congr (kg k hO.lt)).trans hO.c
  have kn : H.nx = h.nx + 24 := by rw [← hH]; simp
  clear hH g1 g2 ha hb' o1 o2 o3 o4 o5 o6 o7 o8 o9
  have s21 : S[21]'(by omega) = I 0 := Option.some.inj ((List.getElem?_eq_getElem _).symm.trans S3)
  have s1 : S[1]'(by omega) = I bg := Option.some.inj ((List.getElem?_eq_getElem _).symm.trans S4)
  have n2' : N[2]'(by omega) = I kind := Option.some.inj ((List.getElem?_eq_getElem _).symm.trans N3)
  simp (disch := first | (simp; done) | omega | (simp only [nx_add, nx_set, nx_kill, nx_mk, nx_emp]; omega) | fail) [g60_s8, kS, s21, s1, hb]
  refine ⟨fun vs h' => vs = [.ptr px 0, I id, .ptr h.nx 0, .ptr (h.nx + 1 + 17) 0, .ptr (h.nx + 1 + 18) 0, .ptr (h.nx + 1 + 19) 0] ∧ h'.cellsAt (h.nx + 1 + 17) = some N ∧ h'.cellsAt (h.nx + 1 + 19) = some (Pt.enc ⟨r.x, r.y⟩) ∧ h'.nx ≤ h.nx + 90 ∧ h.nx + 24 ≤ h'.nx ∧
    ∃ id, h.nx ≤ id ∧ h'.cellsAt px = some (pre a b c off ++ [.rsl id 0 (l.length + 1) 22]) ∧ h'.cellsAt id = some (flat (l ++ [⟨4, r, bg⟩])) ∧ ∀ i, i < h.nx → ¬ i = px → ¬ i = k → h'.H.get i = h.H.get i, ?_, ?_⟩
  · have o1 : ¬ px = H.nx + 8 := by omega
    have o2 : ¬ k = H.nx + 8 := by omega
    have o3 : ¬ px = k := Ne.symm n1
    have hb2 : (bg = -1) = False := by simp [hb]
    have hc1 : cut (flat l) 0 (l.length * 22) = some (flat l) := by
      have := cut_zero_app (α := flat l) (b := []) (n := l.length * 22) (flat_ln l)
      rwa [List.append_nil] at this
    have o4 : ¬ px = H.nx + 13 := by omega
    simp (disch := first | (simp; done) | omega | (simp only [nx_add, nx_set, nx_kill, nx_mk, nx_emp]; omega) | fail) [g60_a1, g60_s1, kp, k0, kk, hb2, o1, o2, o3, o4, hc1]
    refine ⟨by omega, ?_, ?_, by omega, by omega, H.nx + 13, by omega, rfl, ?_, fun i hi h1 h2 => ?_⟩
    · rw [if_neg (by omega), if_neg (by omega), if_neg (by omega), if_neg (by omega)]; exact kN
    · rw [if_neg (by omega), if_neg (by omega), if_neg (by omega), if_neg (by omega)]; exact kA
    · rw [if_neg (by omega), if_pos rfl, flat_app, flat_one]
    · rw [get_set, if_neg h1, get_add, if_neg (by show ¬ i = H.nx + 13; omega), get_kill, if_neg h2, get_set, if_neg (by omega)]
      exact kg i hi
  · rintro vs h' ⟨rfl, j1, j2, j3, j4, id', j5, j6, j7, j8⟩
    simp (disch := first | (simp; done) | omega | (simp only [nx_add, nx_set, nx_kill, nx_mk, nx_emp]; omega) | fail) [g60_j13, j2]
    refine sD (mark_d (hp := j6) (by omega)) ?_
    simp (disch := first | (simp; done) | omega | (simp only [nx_add, nx_set, nx_kill, nx_mk, nx_emp]; omega) | fail) [j1, n2']
    refine sD (text_d _ _ hk) ?_
    refine ⟨fun vs h2 => (∃ v5, vs = [.ptr px 0, I id, v5, .ptr (h.nx + 1 + 17) 0, .ptr (h.nx + 1 + 19) 0]) ∧ h2 = h', ?_, ?_⟩
    · simp (disch := first | (simp; done) | omega | (simp only [nx_add, nx_set, nx_kill, nx_mk, nx_emp]; omega) | fail) [g60_a9]
    rintro vs h2 ⟨⟨v5, rfl⟩, rfl⟩
    have hk5 : (kind == 5) = false := by rcases hk with rfl | rfl <;> rfl
    simp (disch := first | (simp; done) | omega | (simp only [nx_add, nx_set, nx_kill, nx_mk, nx_emp]; omega) | fail) [g60_j12, j1, n2', hk5]
    refine ⟨fun vs h3 => vs = [.ptr px 0, I id, .ptr (h.nx + 1 + 19) 0] ∧ h3 = h2, ?_, ?_⟩
    · simp (disch := first | (simp; done) | omega | (simp only [nx_add, nx_set, nx_kill, nx_mk, nx_emp]; omega) | fail) [g60_a10]
    rintro vs h3 ⟨rfl, rfl⟩
    simp (disch := first | (simp; done) | omega | (simp only [nx_add, nx_set, nx_kill, nx_mk, nx_emp]; omega) | fail) [g60_j11, j2]
    refine sD (mark_d (hp := j6) (by omega)) ?_
    exact ⟨by omega, id', j5, j6, j7, j8⟩
end Go.Proofs.YtfegfialedlfcaaGreatDoor
end
noncomputable section
namespace Go.Proofs.YtfegfialedlfcaaGreatDoor
open Go.Eng
/-! the painter: a group without children -/
theorem paintk_d {h : AH} {px a b c k : Nat} {ka kb kc : List (AV × AV)} {off id bg bx by_ bw bh bl : Int} {ja jb jc : Nat} {nid par : Int} {S : List AV} {l : List Cm} {p : Pt} (hP : PS h px a b c ka kb kc off (.rsl k 0 l.length 22)) (hO : Out h k l) (hl : l.length ≤ 1000)
    (hN : kfind (.one (.int .i64)) (I id) ka 0 = some (some (ja, .agg [I nid, I par, I 1, .str [], .nilsl, .nilsl, .nilsl]))) (hS : kfind (.one (.int .i64)) (I id) kb 0 = some (some (jb, .agg S)))
    (hB : kfind (.one (.int .i64)) (I id) kc 0 = some (some (jc, .agg [I id, I bx, I by_, I bw, I bh, I bl, .nilsl])))
    (S1 : S.length = 22) (S2 : ones S = true) (S3 : S[21]? = some (I 0)) (S4 : S[1]? = some (I bg)) (hb : bg ≠ -1) : CallD Tryz.prog 24 [.ptr px 0, I id, .agg p.enc] h (.tup []) (pG h px a b c off k 400 (l ++ [⟨4, ⟨p.x, p.y, bw, bh⟩, bg⟩])) := by
  obtain ⟨n1, n2, n3, n4, n5, n6, n7⟩ := hO.ne hP
  refine restP hP.lp n1 (C24 (tU_ok _) ?_)
  have hp := hP.p
  have hx := hP.lp
  have la := hP.la
  have lb := hP.lb
  have lc := hP.lc
  have lk := hO.lt
  have m1 : ¬ px = h.nx := by omega
  have ha : (AH.mk (h.add (.cells p.enc)).H (h.nx + 1 + 16)).mapAt a = some ka := (mapAt_add (by omega)).trans hP.ma
  have hc' : (AH.mk (h.add (.cells p.enc)).H (h.nx + 1 + 16)).mapAt c = some kc := (mapAt_add (by omega)).trans hP.mc
  have g1 := fun z => get_of (z := z) ha hN
  have g2 := fun z => get_of (z := z) hc' hB
  simp (disch := first | (simp; done) | omega | (simp only [nx_add, nx_set, nx_kill, nx_mk, nx_emp]; omega) | fail) [g24, hp, m1, g1, xRd, rdK]
  simp (disch := first | (simp; done) | omega | (simp only [nx_add, nx_set, nx_kill, nx_mk, nx_emp]; omega) | fail) [g24_s13, hp, m1, g2, xRd, rdK]
  have o1 : ¬ h.nx + 1 + 12 = px := by omega
  have o2 : ¬ h.nx + 1 + 12 = a := by omega
  have o3 : ¬ h.nx + 1 + 12 = c := by omega
  have o4 : ¬ h.nx + 1 + 13 = px := by omega
  have o5 : ¬ h.nx + 1 + 13 = a := by omega
  have o6 : ¬ h.nx + 1 + 13 = c := by omega
  simp (disch := first | (simp; done) | omega | (simp only [nx_add, nx_set, nx_kill, nx_mk, nx_emp]; omega) | fail) [g24_s12, o1, o2, o3, o4, o5, o6]
  generalize hH : AH.mk _ (h.nx + 1 + 16 + 8) = H
  have k5 : H.cellsAt h.nx = some p.enc := by
    have q1 : ¬ h.nx = h.nx + 1 + 12 := by omega
    have q2 : ¬ h.nx = h.nx + 1 + 13 := by omega
    rw [← hH]; simp (disch := first | (simp; done) | omega | (simp only [nx_add, nx_set, nx_kill, nx_mk, nx_emp]; omega) | fail) [q1, q2]
  have k6 : H.cellsAt (h.nx + 1 + 12) = some [I nid, I par, I 1, .str [], .nilsl, .nilsl, .nilsl] := by rw [← hH]; simp (disch := first | (simp; done) | omega | (simp only [nx_add, nx_set, nx_kill, nx_mk, nx_emp]; omega) | fail) []
  have k7 : H.cellsAt (h.nx + 1 + 13) = some [I id, I bx, I by_, I bw, I bh, I bl, .nilsl] := by rw [← hH]; simp (disch := first | (simp; done) | omega | (simp only [nx_add, nx_set, nx_kill, nx_mk, nx_emp]; omega) | fail) []
  have kg : ∀ i, i < h.nx → H.H.get i = h.H.get i := fun i hi => by
    rw [← hH]
    show (AH.set _ _ _).H.get i = _
    rw [get_set, if_neg (by omega), get_set, if_neg (by omega), get_set, if_neg (by omega), get_set, if_neg (by omega)]
    exact (Fr.refl h |>.add _).get i hi
  have kn : H.nx = h.nx + 25 := by rw [← hH]
  clear hH g1 g2 ha hc' o1 o2 o3 o4 o5 o6
  refine sD (turn_d _) ?_
  simp (disch := first | (simp; done) | omega | (simp only [nx_add, nx_set, nx_kill, nx_mk, nx_emp]; omega) | fail) [k6, kn]
  refine sD (scale_d _) ?_
  simp (disch := first | (simp; done) | omega | (simp only [nx_add, nx_set, nx_kill, nx_mk, nx_emp]; omega) | fail) [g24_s11]
  refine ⟨by omega, ?_⟩
  refine ⟨fun vs h' => vs = [.ptr px 0, I id, .ptr h.nx 0, .ptr (h.nx + 1 + 12) 0, .ptr (h.nx + 1 + 13) 0, I 0, I 1, .bool false] ∧ h' = H, ?_, ?_⟩
  · simp (disch := first | (simp; done) | omega | (simp only [nx_add, nx_set, nx_kill, nx_mk, nx_emp]; omega) | fail) [g24_a1, g24_s2, g24_s1]
  rintro vs h1 ⟨rfl, rfl⟩
  simp (disch := first | (simp; done) | omega | (simp only [nx_add, nx_set, nx_kill, nx_mk, nx_emp]; omega) | fail) [g24_j14]
  refine ⟨fun vs h' => vs = [.ptr px 0, I id, .ptr h.nx 0, .ptr (h.nx + 1 + 12) 0, .ptr (h.nx + 1 + 13) 0, .bool false] ∧ h' = h1, ?_, ?_⟩
  · simp (disch := first | (simp; done) | omega | (simp only [nx_add, nx_set, nx_kill, nx_mk, nx_emp]; omega) | fail) [g24_a2]
  rintro vs h2 ⟨rfl, rfl⟩
  simp (disch := first | (simp; done) | omega | (simp only [nx_add, nx_set, nx_kill, nx_mk, nx_emp]; omega) | fail) [g24_j13, k5, k7]
  simp (disch := first | (simp; done) | omega | (simp only [nx_add, nx_set, nx_kill, nx_mk, nx_emp]; omega) | fail) [g24_s10, k7]
  generalize hH : AH.set (AH.add h2 _) h2.nx _ = H
  have e11 : H.cellsAt h2.nx = some [I p.x, I p.y, I bw, I bh] := by rw [← hH]; simp
  have e5 : H.cellsAt h.nx = some p.enc := by
    have q1 : ¬ h.nx = h2.nx := by omega
    rw [← hH]; simp (disch := first | (simp; done) | omega | (simp only [nx_add, nx_set, nx_kill, nx_mk, nx_emp]; omega) | fail) [q1, k5]
  have e6 : H.cellsAt (h.nx + 1 + 12) = some [I nid, I par, I 1, .str [], .nilsl, .nilsl, .nilsl] := by
    have q1 : ¬ h.nx + 1 + 12 = h2.nx := by omega
    rw [← hH]; simp (disch := first | (simp; done) | omega | (simp only [nx_add, nx_set, nx_kill, nx_mk, nx_emp]; omega) | fail) [q1, k6]
  have eg : ∀ i, i < h.nx → H.H.get i = h.H.get i := fun i hi => by
    rw [← hH, get_set, if_neg (by omega), get_add, if_neg (by omega)]; exact kg i hi
  have en : H.nx = h2.nx + 1 := by rw [← hH]; simp
  clear hH
  have hP2 : PS H px a b c ka kb kc off (.rsl k 0 l.length 22) := ⟨(cellsAt_congr (eg px hx)).trans hp, (mapAt_congr (eg a la)).trans hP.ma, (mapAt_congr (eg b lb)).trans hP.mb, (mapAt_congr (eg c lc)).trans hP.mc, by omega, by omega, by omega, by omega⟩
  have hO2 : Out H k l := ⟨(cellsAt_congr (eg k lk)).trans hO.c, by omega⟩
  refine sD (own_d (r := ⟨p.x, p.y, bw, bh⟩) hP2 hO2 hl hN hS rfl rfl rfl (.inl rfl) S1 S2 S3 S4 hb) ?_
  have hP3 := pG_PS (B := 100) (l' := l ++ [⟨4, ⟨p.x, p.y, bw, bh⟩, bg⟩]) hP2 hO2
  have hO3 := pG_Out (h := H) (px := px) (a := a) (b := b) (c := c) (off := off) (k := k) (B := 100) (l := l ++ [⟨4, ⟨p.x, p.y, bw, bh⟩, bg⟩])
  have hg3 := fun i (h1 : i < H.nx) (h2 : i ≠ px) (h3 : i ≠ k) => pG_get (B := 100) (a := a) (b := b) (c := c) (off := off) (l := l ++ [⟨4, ⟨p.x, p.y, bw, bh⟩, bg⟩]) h1 h2 h3
  have hn3 := pG_nx (h := H) (px := px) (a := a) (b := b) (c := c) (off := off) (k := k) (B := 100) (l := l ++ [⟨4, ⟨p.x, p.y, bw, bh⟩, bg⟩])
  generalize pG H px a b c off k 100 (l ++ [⟨4, ⟨p.x, p.y, bw, bh⟩, bg⟩]) = H3 at *
  have f6 : H3.cellsAt (h.nx + 1 + 12) = some [I nid, I par, I 1, .str [], .nilsl, .nilsl, .nilsl] := (cellsAt_congr (hg3 _ (by omega) (by omega) (by omega))).trans e6
  simp (disch := first | (simp; done) | omega | (simp only [nx_add, nx_set, nx_kill, nx_mk, nx_emp]; omega) | fail) [f6, g24_s9]
  refine ⟨fun m vs h' => m = 0 ∧ vs = [.ptr px 0, I id, .ptr h.nx 0, .ptr (h.nx + 1 + 12) 0, .bool false, .ptr h2.nx 0, .nilsl, .nilsl, I 0, I 0] ∧ h' = H3, 0, ⟨rfl, rfl, rfl⟩, ?_⟩
  rintro m vs h3 ⟨rfl, rfl, rfl⟩
  simp (disch := first | (simp; done) | omega | (simp only [nx_add, nx_set, nx_kill, nx_mk, nx_emp]; omega) | fail) [g24_l5, g24_j12, g24_c11, f6]
  refine ⟨fun vs h' => vs = [.ptr px 0, .bool false] ∧ h' = h3, ?_, ?_⟩
  · simp (disch := first | (simp; done) | omega | (simp only [nx_add, nx_set, nx_kill, nx_mk, nx_emp]; omega) | fail) [g24_a9]
    refine ⟨fun m vs h' => m = 0 ∧ (∃ v5, vs = [.ptr px 0, v5, .bool false, .nilsl, I 0, I 0]) ∧ h' = h3, 0, ⟨rfl, ⟨_, rfl⟩, rfl⟩, ?_⟩
    rintro m vs h4 ⟨rfl, ⟨v5, rfl⟩, rfl⟩
    simp (disch := first | (simp; done) | omega | (simp only [nx_add, nx_set, nx_kill, nx_mk, nx_emp]; omega) | fail) [g24_l6, g24_j8, g24_c7]
  rintro vs h4 ⟨rfl, rfl⟩
  simp (disch := first | (simp; done) | omega | (simp only [nx_add, nx_set, nx_kill, nx_mk, nx_emp]; omega) | fail) [g24_j10]
  refine ⟨by omega, H.nx + 100, by omega, by have := hP3.p; simpa [pre] using this, hO3.c, fun i hi h1 h2 => (hg3 i (by omega) h1 h2).trans (eg i hi)⟩
end Go.Proofs.YtfegfialedlfcaaGreatDoor
end
noncomputable section
namespace Go.Proofs.YtfegfialedlfcaaGreatDoor
open Go.Eng
/-! the painter: the scroll node -/
/-- where the groups begin -/
def tp (hs : Nat → Int) : Nat → Int
  | 0 => 0
  | i + 1 => tp hs i + hs i
def Hs (hs : Nat → Int) : Prop := ∀ i, 0 ≤ hs i ∧ hs i ≤ 31
theorem tp_bd {hs : Nat → Int} (h : Hs hs) : ∀ i, 0 ≤ tp hs i ∧ tp hs i ≤ 31 * i
  | 0 => by simp [tp]
  | i + 1 => by
    have := tp_bd h i
    have := h i
    simp only [tp]; omega
def nodeF (n : Nat) : Nat → AV
  | 0 => .agg (rootN n)
  | i + 1 => .agg (kidN i)
def st22 (bg mh : AV) : List AV := [I 0, bg, I 16, I 0, I 0, I 1, I 3, I 0, I 0, I 0, I 0, I 1, I (-1), I 0, I 1048576, mh, I 1048576, I 0, I 0, I 0, I 0, I 0]
def styF (hs : Nat → Int) : Nat → AV
  | 0 => .agg (st22 (I (-1)) (I 0))
  | i + 1 => .agg (st22 (I ((i : Int) + 1)) (I (hs i)))
/-- the baseline of the root -/
def bl0 (n : Nat) (H : Int) (hs : Nat → Int) : Int := match n with
  | 0 => H
  | _ + 1 => hs 0
def boxF (n : Nat) (W H : Int) (hs : Nat → Int) : Nat → AV
  | 0 => .agg [I 1, I 0, I 0, I W, I H, I (bl0 n H hs), .nilsl]
  | i + 1 => .agg [I ((i : Int) + 2), I 0, I (tp hs i), I W, I (hs i), I (hs i), .nilsl]
def vis (H off : Int) (hs : Nat → Int) (i : Nat) : Bool := decide (0 < hs i) && decide (tp hs i - off < H) && decide (0 < tp hs i - off + hs i)
/-- the commands behind the first groups -/
def outL (W H off : Int) (hs : Nat → Int) : Nat → List Cm
  | 0 => [⟨1, ⟨0, 0, W, H⟩, 0⟩]
  | i + 1 => cond (vis H off hs i) (outL W H off hs i ++ [⟨4, ⟨0, tp hs i - off, W, hs i⟩, (i : Int) + 1⟩]) (outL W H off hs i)
theorem outL_len (W H off : Int) (hs : Nat → Int) : ∀ i, (outL W H off hs i).length ≤ i + 1
  | 0 => by simp [outL]
  | i + 1 => by
    have := outL_len W H off hs i
    simp only [outL]
    cases vis H off hs i <;> simp <;> omega
/-- a list of the children's numbers -/
def KL (h : AH) (A : AV) (n : Nat) : Prop := (n = 0 ∧ A = .nilsl) ∨ ∃ id, A = .rsl id 0 n 1 ∧ h.cellsAt id = some (tab (fun i => I ((i : Int) + 2)) n) ∧ id < h.nx
theorem KL.len {h : AH} {A : AV} {n : Nat} (hA : KL h A n) (h' : AH) : kLen h' A = some (I n, h') := by
  rcases hA with ⟨rfl, rfl⟩ | ⟨id, rfl, _⟩ <;> simp
theorem KL.at_ {h h' : AH} {A : AV} {n i : Nat} {px : Nat} {cs : List AV} (hA : KL h A n) (hp : h.cellsAt px = some cs) (hcl : cs.length = 6) (hc6 : cs[0]? ≠ some (I 2)) (hg : ∀ j, j < h.nx → j ≠ px → h'.H.get j = h.H.get j) (hi : i < n) : ∃ p, (∀ h1 : AH, kIdxA h1 1 A (I i) = some (p, h1)) ∧ kLd1 h' p = some (I ((i : Int) + 2), h') := by
  rcases hA with ⟨rfl, rfl⟩ | ⟨id, rfl, hc, hl⟩
  · omega
  · have hne : id ≠ px := by
      rintro rfl
      rw [hc] at hp
      cases hp
      apply hc6
      rw [tab_get, if_pos (by omega)]; rfl
    have hc' : h'.cellsAt id = some (tab (fun i => I ((i : Int) + 2)) n) := (cellsAt_congr (hg id hl hne)).trans hc
    refine ⟨.ptr id (0 + (i : Int).toNat * 1), fun h1 => kIdxA_rsl (by omega) (by omega), ?_⟩
    have : (tab (fun i => I ((i : Int) + 2)) n)[0 + (i : Int).toNat * 1]? = some (I ((i : Int) + 2)) := by
      rw [show 0 + (i : Int).toNat * 1 = i by omega, tab_get, if_pos hi]
    rw [kLd1_ptr hc' this]
inductive SI (h : AH) (px a b c n : Nat) (W H off : Int) (hs : Nat → Int) (K : AV) : Nat → List AV → AH → Prop
  | mk {m : Nat} {h' : AH} (i k : Nat) (E : Int) : i + m = n → PS h' px a b c (km (nodeF n) (n + 1)) (km (styF hs) (n + 1)) (km (boxF n W H hs) (n + 1)) off (.rsl k 0 (outL W H off hs i).length 22) → Out h' k (outL W H off hs i) → h.nx ≤ k → h'.cellsAt h.nx = some (Rc.enc ⟨0, 0, W, H⟩) → h.nx < k →
    (∀ j, j < h.nx → j ≠ px → h'.H.get j = h.H.get j) → h'.nx ≤ h.nx + 50 + 500 * i → h.nx + 13 ≤ h'.nx → SI h px a b c n W H off hs K m [.ptr px 0, .ptr h.nx 0, I off, I E, .nilsl, K, I n, I i] h'
@[simp] theorem fldR (h : AH) (a b c d e f g : AV) : kFld h 1 (some 4) (.agg [a, b, c, d, e, f, g]) = some (.agg [b, c, d, e], h) := Eq.trans rfl rfl
@[simp] theorem fld4 (h : AH) (a b c d e f g : AV) : kFld h 4 none (.agg [a, b, c, d, e, f, g]) = some (e, h) := Eq.trans rfl rfl
inductive SM (h : AH) (px a b c n : Nat) (W H off : Int) (hs : Nat → Int) (K : AV) (i : Nat) : List AV → AH → Prop
  | mk {h' : AH} (k : Nat) (E : Int) : PS h' px a b c (km (nodeF n) (n + 1)) (km (styF hs) (n + 1)) (km (boxF n W H hs) (n + 1)) off (.rsl k 0 (outL W H off hs (i + 1)).length 22) → Out h' k (outL W H off hs (i + 1)) → h.nx ≤ k → h'.cellsAt h.nx = some (Rc.enc ⟨0, 0, W, H⟩) → h.nx < k →
    (∀ j, j < h.nx → j ≠ px → h'.H.get j = h.H.get j) → h'.nx ≤ h.nx + 50 + 500 * (i + 1) → h.nx + 13 ≤ h'.nx → SM h px a b c n W H off hs K i [.ptr px 0, .ptr h.nx 0, I off, I E, .nilsl, K, I n, I i] h'
theorem kfind_at (f : Nat → AV) {i m : Nat} (h : i + 1 < m) : kfind (.one (.int .i64)) (I ((i : Int) + 2)) (km f m) 0 = some (some (i + 1, f (i + 1))) := by
  have := kfind_km f (i + 1) m
  rw [if_pos h] at this
  rw [show (i : Int) + 2 = ((i + 1 : Nat) : Int) + 1 by omega]
  exact this
theorem scroll_d {h : AH} {px a b c n : Nat} {W H off : Int} {hs : Nat → Int} {K : AV} (hP : PS h px a b c (km (nodeF n) (n + 1)) (km (styF hs) (n + 1)) (km (boxF n W H hs) (n + 1)) off .nilsl) (hK : KL h K n) (hn : n ≤ 20) (hh : Hs hs) (hW : 10 ≤ W ∧ W ≤ 137) (hH : 10 ≤ H ∧ H ≤ 137) (ho : -499 ≤ off ∧ off ≤ 499) :
    CallD Tryz.prog 61 [.ptr px 0, I 1, .agg (Rc.enc ⟨0, 0, W, H⟩), K] h (.tup []) (pG h px a b c off h.nx 20000 (outL W H off hs n ++ [⟨3, ⟨0, 0, 0, 0⟩, 0⟩])) := by
  have hx := hP.lp
  refine restP hx (by omega) (C61 (tU_ok _) ?_)
  have hp := hP.p
  have la := hP.la
  have lb := hP.lb
  have lc := hP.lc
  have m1 : ¬ px = h.nx := by omega
  simp (disch := first | (simp; done) | omega | (simp only [nx_add, nx_set, nx_kill, nx_mk, nx_emp]; omega) | fail) [g61, hp, m1]
  have m2 : ¬ px = h.nx + 1 + 7 := by omega
  have m3 : ¬ h.nx + 1 + 7 = px := by omega
  have m4 : ¬ px = h.nx + 1 + 12 := by omega
  have ap := kApp_nil (h := (AH.mk (h.add (.cells (Rc.enc ⟨0, 0, W, H⟩))).H (h.nx + 1 + 12)).set (h.nx + 1 + 7) (.cells (Cm.enc ⟨1, ⟨0, 0, W, H⟩, 0⟩))) (z := 22) (b := 200) (id := h.nx + 1 + 7) (o := 0) (m := 1) (cs := Cm.enc ⟨1, ⟨0, 0, W, H⟩, 0⟩) (new := Cm.enc ⟨1, ⟨0, 0, W, H⟩, 0⟩) (by simp) rfl rfl (by simp) (by omega)
  simp (disch := first | (simp; done) | omega | (simp only [nx_add, nx_set, nx_kill, nx_mk, nx_emp]; omega) | fail) [g61_s13, hp, m1, m2, m3, m4, ap]
  generalize hG : AH.set (AH.add _ _) px _ = G
  have gp : G.cellsAt px = some [.mapv a, .mapv b, .mapv c, offL off, .nilsl, .rsl (h.nx + 13) 0 1 22] := by rw [← hG]; simp
  have gk : G.cellsAt (h.nx + 13) = some (flat (outL W H off hs 0)) := by
    have q : ¬ h.nx + 13 = px := by omega
    rw [← hG]; simp [q, outL, flat_one]
  have g0 : G.cellsAt h.nx = some (Rc.enc ⟨0, 0, W, H⟩) := by
    have q1 : ¬ h.nx = px := by omega
    have q2 : ¬ h.nx = h.nx + 1 + 12 := by omega
    have q3 : ¬ h.nx = h.nx + 1 + 7 := by omega
    rw [← hG]; simp [q1, q2, q3]
  have gg : ∀ j, j < h.nx → j ≠ px → G.H.get j = h.H.get j := fun j hj hne => by
    rw [← hG, get_set, if_neg hne, get_add, if_neg (by show ¬ j = h.nx + 13; omega), get_set, if_neg (by omega)]
    exact (Fr.refl h |>.add _).get j hj
  have gn : G.nx = h.nx + 14 := by rw [← hG]; simp
  clear hG ap
  refine sD (offset_d (hp := gp) (by omega)) ?_
  simp only [hK.len, wk_some]
  have hKp := fun i (h' : AH) hg hi => hK.at_ (h' := h') (i := i) hp rfl (by simp) hg hi
  refine ⟨SI h px a b c n W H off hs K, n, ?_, ?_⟩
  · refine .mk 0 (h.nx + 13) 0 (by omega) ⟨gp, (mapAt_congr (gg a la ?_)).trans hP.ma, (mapAt_congr (gg b lb ?_)).trans hP.mb, (mapAt_congr (gg c lc ?_)).trans hP.mc, by omega, by omega, by omega, by omega⟩ ⟨gk, by omega⟩ (by omega) g0 (by omega) gg (by omega) (by omega)
    · rintro rfl; exact map_cells hp hP.ma
    · rintro rfl; exact map_cells hp hP.mb
    · rintro rfl; exact map_cells hp hP.mc
  clear gp gk g0 gg gn
  rintro m vs h1 ⟨i, k, E, him, hP1, hO1, hk, h0, hk0, hg, hn1, hn2⟩
  obtain ⟨q1, q2, q3, q4, q5, q6, q7⟩ := hO1.ne hP1
  have hp1 := hP1.p
  cases m with
  | zero =>
    obtain rfl : i = n := by omega
    simp (disch := first | (simp; done) | omega | (simp only [nx_add, nx_set, nx_kill, nx_mk, nx_emp]; omega) | fail) [g61_l9, g61_j18, g61_c17]
    refine ⟨fun m vs h' => m = 0 ∧ vs = [.ptr px 0, .ptr h.nx 0, I off, I E, .nilsl, .nilsl, I 0, I 0] ∧ h' = h1, 0, ⟨rfl, rfl, rfl⟩, ?_⟩
    rintro m vs h2 ⟨rfl, rfl, rfl⟩
    have o1 : ¬ k = h2.nx := by have := hO1.lt; omega
    have o2 : ¬ px = h2.nx := by omega
    have o3 : ¬ px = h2.nx + 1 := by omega
    have o4 : ¬ px = k := Ne.symm q1
    have hl := outL_len W H off hs i
    have hc1 : cut (flat (outL W H off hs i)) 0 ((outL W H off hs i).length * 22) = some (flat (outL W H off hs i)) := by
      have := cut_zero_app (α := flat (outL W H off hs i)) (b := []) (n := (outL W H off hs i).length * 22) (flat_ln _)
      rwa [List.append_nil] at this
    simp (disch := first | (simp; done) | omega | (simp only [nx_add, nx_set, nx_kill, nx_mk, nx_emp]; omega) | fail) [g61_l14, g61_j16, g61_c15, hp1, hO1.c, o1, o2, o3, o4, hc1]
    simp (disch := first | (simp; done) | omega | (simp only [nx_add, nx_set, nx_kill, nx_mk, nx_emp]; omega) | fail) [g61_s12, hp1, o2, o3, o4]
    refine ⟨by omega, h2.nx + 1, by omega, by simp [pre], ?_, fun j hj h3 h4 => ?_⟩
    · rw [if_neg (by omega), if_pos rfl, flat_app, flat_one]
    · rw [get_set, if_neg h3, get_add, if_neg (by show ¬ j = h2.nx + 1; omega), get_kill, if_neg (by omega), get_add, if_neg (by omega)]
      exact hg j hj h3
  | succ m =>
    have hi : i < n := by omega
    have hli : (i : Int) < n := by omega
    obtain ⟨p, hp2, hp3⟩ := hKp i h1 hg hi
    have t1 := tp_bd hh i
    have t2 := hh i
    simp (disch := first | (simp; done) | omega | (simp only [nx_add, nx_set, nx_kill, nx_mk, nx_emp]; omega) | fail) [g61_l9, hli]
    refine ⟨SM h px a b c n W H off hs K i, ?_, ?_⟩
    · have g1 := fun z => get_of (z := z) hP1.mc (kfind_at (boxF n W H hs) (i := i) (by omega))
      simp (disch := first | (simp; done) | omega | (simp only [nx_add, nx_set, nx_kill, nx_mk, nx_emp]; omega) | fail) [g61_a7, hp2, hp3, hp1, g1, boxF]
      simp (disch := first | (simp; done) | omega | (simp only [nx_add, nx_set, nx_kill, nx_mk, nx_emp]; omega) | fail) [g61_s7]
      generalize hH : AH.set (AH.add h1 _) h1.nx _ = H1
      have b1 : H1.cellsAt h1.nx = some [I 0, I (tp hs i), I W, I (hs i)] := by rw [← hH]; simp
      have bg : ∀ j, j < h1.nx → H1.H.get j = h1.H.get j := fun j hj => by
        rw [← hH, get_set, if_neg (by omega), get_add, if_neg (by omega)]
      have bn : H1.nx = h1.nx + 1 := by rw [← hH]; simp
      clear hH
      have lp1 := hP1.lp
      have la1 := hP1.la
      have lb1 := hP1.lb
      have lc1 := hP1.lc
      have lo1 := hO1.lt
      have hP2 : PS H1 px a b c (km (nodeF n) (n + 1)) (km (styF hs) (n + 1)) (km (boxF n W H hs) (n + 1)) off (.rsl k 0 (outL W H off hs i).length 22) :=
        ⟨(cellsAt_congr (bg px lp1)).trans hp1, (mapAt_congr (bg a la1)).trans hP1.ma, (mapAt_congr (bg b lb1)).trans hP1.mb, (mapAt_congr (bg c lc1)).trans hP1.mc, by omega, by omega, by omega, by omega⟩
      have hO2 : Out H1 k (outL W H off hs i) := ⟨(cellsAt_congr (bg k lo1)).trans hO1.c, by omega⟩
      have b0 : H1.cellsAt h.nx = some (Rc.enc ⟨0, 0, W, H⟩) := (cellsAt_congr (bg _ (by omega))).trans h0
      have hp2 := hP2.p
      refine ⟨fun vs h' => (∃ z, vs = [.ptr px 0, .ptr h.nx 0, I off, I E, .nilsl, I ((i : Int) + 2), .ptr h1.nx 0, K, I n, I i, .bool z]) ∧ h' = H1, ?_, ?_⟩
      · by_cases hi0 : i = 0
        · subst hi0
          simp (disch := first | (simp; done) | omega | (simp only [nx_add, nx_set, nx_kill, nx_mk, nx_emp]; omega) | fail) [g61_a1, g61_s1]
        · simp (disch := first | (simp; done) | omega | (simp only [nx_add, nx_set, nx_kill, nx_mk, nx_emp]; omega) | fail) [g61_a1, g61_s1, hi0, b1]
      rintro vs h2 ⟨⟨z, rfl⟩, rfl⟩
      simp (disch := first | (simp; done) | omega | (simp only [nx_add, nx_set, nx_kill, nx_mk, nx_emp]; omega) | fail) [g61_j6]
      refine ⟨fun vs h' => (∃ E, vs = [.ptr px 0, .ptr h.nx 0, I off, I E, .nilsl, I ((i : Int) + 2), .ptr h1.nx 0, K, I n, I i]) ∧ h' = h2, ?_, ?_⟩
      · cases z
        · simp (disch := first | (simp; done) | omega | (simp only [nx_add, nx_set, nx_kill, nx_mk, nx_emp]; omega) | fail) [g61_a2]
        · simp (disch := first | (simp; done) | omega | (simp only [nx_add, nx_set, nx_kill, nx_mk, nx_emp]; omega) | fail) [g61_a2, b1]
      rintro vs h3 ⟨⟨E2, rfl⟩, rfl⟩
      have g2 := fun z => get_of (z := z) hP2.ma (kfind_at (nodeF n) (i := i) (by omega))
      simp (disch := first | (simp; done) | omega | (simp only [nx_add, nx_set, nx_kill, nx_mk, nx_emp]; omega) | fail) [g61_j5, hp2, g2, nodeF, kidN]
      refine sD (flag_d _) ?_
      simp (disch := first | (simp; done) | omega | (simp only [nx_add, nx_set, nx_kill, nx_mk, nx_emp]; omega) | fail) [b0]
      simp (disch := first | (simp; done) | omega | (simp only [nx_add, nx_set, nx_kill, nx_mk, nx_emp]; omega) | fail) [g61_s6, b1]
      refine ⟨fun vs h' => vs = [.ptr px 0, .ptr h.nx 0, I off, I E2, .nilsl, I ((i : Int) + 2), .ptr h1.nx 0, I (tp hs i - off), K, I n, I i, .bool (vis H off hs i)] ∧ h' = h3, ?_, ?_⟩
      · have w0 : (0 < W) = True := by simp; omega
        have wH : (0 < H) = True := by simp; omega
        have e0 : tp hs i - off + hs i = hs i + (tp hs i - off) := by omega
        by_cases c1 : 0 < hs i <;> by_cases c2 : tp hs i - off < H <;> by_cases c3 : 0 < tp hs i - off + hs i <;> simp (disch := first | (simp; done) | omega | (simp only [nx_add, nx_set, nx_kill, nx_mk, nx_emp]; omega) | fail) [g61_a3, b0, b1, w0, wH, c1, c2, c3, g61_s5, g61_s4, g61_s3, vis]
      · rintro vs h4 ⟨rfl, rfl⟩
        simp (disch := first | (simp; done) | omega | (simp only [nx_add, nx_set, nx_kill, nx_mk, nx_emp]; omega) | fail) [g61_j4, b0, b1]
        refine ⟨fun hv => ?_, fun hv => ?_⟩
        · have hl := outL_len W H off hs i
          refine sD (paintk_d (p := ⟨0, tp hs i - off⟩) (bg := (i : Int) + 1) hP2 hO2 (by omega) (kfind_at (nodeF n) (by omega)) (kfind_at (styF hs) (by omega)) (kfind_at (boxF n W H hs) (by omega)) rfl rfl rfl rfl (by omega)) ?_
          have e : outL W H off hs (i + 1) = outL W H off hs i ++ [⟨4, ⟨0, tp hs i - off, W, hs i⟩, (i : Int) + 1⟩] := by simp [outL, hv]
          rw [← e]
          have gq := fun j (h1 : j < h4.nx) (h2 : j ≠ px) (h3 : j ≠ k) => pG_get (B := 400) (a := a) (b := b) (c := c) (off := off) (l := outL W H off hs (i + 1)) h1 h2 h3
          refine .mk (h4.nx + 400) E2 (pG_PS hP2 hO2) pG_Out (by omega) ((cellsAt_congr (gq _ (by omega) (by omega) (by omega))).trans b0) (by omega) (fun j h1 h2 => ((gq j (by omega) h2 (by omega)).trans (bg j (by omega))).trans (hg j h1 h2)) (by rw [pG_nx]; omega) (by rw [pG_nx]; omega)
        · exact .mk k E2 (by simpa [outL, hv] using hP2) (by simpa [outL, hv] using hO2) hk b0 hk0 (fun j h1 h2 => (bg j (by omega)).trans (hg j h1 h2)) (by omega) (by omega)
    · rintro vs h2 ⟨k2, E2, z1, z2, z3, z4, z5, z6, z7, z8⟩
      simp (disch := first | (simp; done) | omega | (simp only [nx_add, nx_set, nx_kill, nx_mk, nx_emp]; omega) | fail) [g61_j8]
      exact ⟨m, by omega, .mk (i + 1) k2 E2 (by omega) z1 z2 z3 z4 z5 z6 z7 z8⟩
end Go.Proofs.YtfegfialedlfcaaGreatDoor
end
