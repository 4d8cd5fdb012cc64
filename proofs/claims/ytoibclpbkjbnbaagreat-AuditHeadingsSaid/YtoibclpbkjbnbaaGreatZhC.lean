/- The closed run of the law's sanity check. What the screen of the law's view is, for every list of levels. -/
import Derived.Test.YtoibclpbkjbnbaaGreatZhB
import Derived.Test.YtoibclpbkjbnbaaGreatEngPH
import Derived.KernelRfl
import Derived.Test.YtoibclpbkjbnbaaGreatZhR0
import Derived.Test.YtoibclpbkjbnbaaGreatZhR1
import Derived.Test.YtoibclpbkjbnbaaGreatZhR2
import Derived.Test.YtoibclpbkjbnbaaGreatZhR3
set_option linter.unusedSimpArgs false
set_option linter.unusedVariables false
set_option linter.unnecessarySimpa false
noncomputable section
namespace Go.Proofs.YtoibclpbkjbnbaaGreat
open Go.Eng
set_option maxRecDepth 1000000
def eAw : PE := ⟨7, [], .bool true⟩
theorem rAw : peOk (oall (otr 10000) 60) 0 eAw = true := by kernel_rfl
theorem aw_p : Pure Tryz.prog 7 [] (.bool true) := fun h => peOk_ok runs_ok rAw h (Nat.zero_le _)
end Go.Proofs.YtoibclpbkjbnbaaGreat
end
noncomputable section
namespace Go.Proofs.YtoibclpbkjbnbaaGreat
open Go.Eng
theorem all_ids {Pr : PE → Bool} {L : Nat} {f : Int → PE} (h : (ids L f).all Pr = true) : ∀ e ∈ ids L f, Pr e = true := fun e he => List.all_eq_true.1 h e he
theorem one_ok {P : Program} {K : Nat} {e : PE} (h : PEOk P K e) : ∀ e' ∈ [e], PEOk P K e' := fun e' he => by simp at he; subst he; exact h
theorem gone_ok {P : Program} {K : Nat} {e : PE} (h : GEOk P K e) : ∀ e' ∈ [e], GEOk P K e' := fun e' he => by simp at he; subst he; exact h
theorem six (L : Nat) (h : AllOk L) : ∃ v h', CallD Tryz.prog 6 [viewS (gho L), .nilsl] ⟨.leaf, L⟩ v h' ∧ frzF L h' 500 v = some (scrS (gho L)) := by
  obtain ⟨h77, h37, h38, h95, h15, h14, h17, h18, h19, h20, h21, h22, h24, h25, h10, hP⟩ := h
  have b0 : FOk Tryz.prog (T0 noH) := T0_ok noH_fok
  have k77 := geOk_ok b0 h77
  have k37 := peOk_ok b0 h37
  have k38 := peOk_ok b0 h38
  have b1 : FOk Tryz.prog (T0 (pTH L (H1 L))) := T0_ok (pTH_ok ⟨one_ok k37, one_ok k38⟩)
  have k95 := peOk_ok b1 h95
  have k15 := peOk_ok b1 h15
  have g77 : FOk Tryz.prog (gH L [e77]) := gH_ok (gone_ok k77)
  have b2 : FOk Tryz.prog (T1 L) := T0_ok (orH_ok (pTH_ok ⟨one_ok k15, one_ok k37, one_ok k38, one_ok k95⟩) g77)
  have k18 : ∀ e ∈ ids L (e18 L), PEOk Tryz.prog L e := fun e he => peOk_ok b2 (all_ids h18 e he)
  have b3 : FOk Tryz.prog (T2 L) := T0_ok (orH_ok (pTH_ok ⟨⟨one_ok k15, k18⟩, one_ok k37, one_ok k38, one_ok k95⟩) g77)
  have k14 := peOk_ok b3 h14
  have k17 : ∀ e ∈ ids L (e17 L), PEOk Tryz.prog L e := fun e he => peOk_ok b3 (all_ids h17 e he)
  have k19 : ∀ e ∈ ids L (e19 L), PEOk Tryz.prog L e := fun e he => peOk_ok b3 (all_ids h19 e he)
  have k20 : ∀ e ∈ ids L (e20 L), PEOk Tryz.prog L e := fun e he => peOk_ok b3 (all_ids h20 e he)
  have k21 : ∀ e ∈ ids L (e21 L), PEOk Tryz.prog L e := fun e he => peOk_ok b3 (all_ids h21 e he)
  have k22 : ∀ e ∈ ids L (e22 L), PEOk Tryz.prog L e := fun e he => peOk_ok b3 (all_ids h22 e he)
  have k24 : ∀ e ∈ ids L (e24 L), PEOk Tryz.prog L e := fun e he => peOk_ok b3 (all_ids h24 e he)
  have k25 : ∀ e ∈ ids L (e25 L), PEOk Tryz.prog L e := fun e he => peOk_ok b3 (all_ids h25 e he)
  have b4 : FOk Tryz.prog (T3 L) := T0_ok (orH_ok (pTH_ok ⟨⟨⟨one_ok k14, one_ok k15⟩, k17, k18, k19⟩, ⟨k20, k21, k22⟩, k24, k25⟩) g77)
  have k10 := geOk_ok b4 h10
  have b5 : FOk Tryz.prog (T0 (gH L [e10 L])) := T0_ok (gH_ok (gone_ok k10))
  unfold okP at hP
  split at hP
  · rename_i v h' hr
    split at hP
    · rename_i u hu
      have := AV.beq_eq _ _ hP
      subst this
      exact ⟨v, h', b5 _ _ _ _ _ hr, hu⟩
    · cases hP
  · cases hP
theorem allOk (L : Nat) (h : L ≤ 12) : AllOk L := by
  match L, h with
  | 0, _ => exact all0
  | 1, _ => exact all1
  | 2, _ => exact all2
  | 3, _ => exact all3
  | 4, _ => exact all4
  | 5, _ => exact all5
  | 6, _ => exact all6
  | 7, _ => exact all7
  | 8, _ => exact all8
  | 9, _ => exact all9
  | 10, _ => exact all10
  | 11, _ => exact all11
  | 12, _ => exact all12
  | n + 13, h => omega
section
variable (ns : List Nat)
theorem inst_opt (l : List (List AV)) : inst ns (opt l) = opt (l.map fun x => x.map (inst ns)) := by
  cases l with
  | nil => simp [opt, inst]
  | cons a r => simp [opt, inst, instLL_eq]
theorem inst_attr (x : AV) : (attrS x).map (inst ns) = attrS (inst ns x) := by simp [attrS, inst]
theorem inst_kid (x : AV) : (kidS x).map (inst ns) = kidS (inst ns x) := by simp [kidS, inst, instLL_eq, inst_attr]
theorem inst_view (l : List AV) : inst ns (viewS l) = viewS (l.map (inst ns)) := by
  simp [viewS, inst, instL_eq, inst_opt, inst_kid, Function.comp_def]
theorem map_num {f g : Nat → AV → List AV} (h : ∀ i a, (f i a).map (inst ns) = g i (inst ns a)) : ∀ (l : List AV) (i : Nat), (num i l f).map (fun x => x.map (inst ns)) = num i (l.map (inst ns)) g
  | [], i => rfl
  | a :: r, i => by simp [num, h, map_num h r]
theorem inst_ids (l : List AV) : inst ns (idsS l) = idsS (l.map (inst ns)) := by
  unfold idsS
  rw [inst_opt, map_num ns (g := fun i _ => [I i]) fun i a => by simp [inst]]
theorem inst_scr (l : List AV) : inst ns (scrS l) = scrS (l.map (inst ns)) := by
  have h1 := map_num ns (f := fun i x => [I i, I 1, I 9, .str [], .psl [attrS x], .nilsl, .nilsl]) (g := fun i x => [I i, I 1, I 9, .str [], .psl [attrS x], .nilsl, .nilsl]) (fun i a => by simp [inst, instLL_eq, inst_attr]) l 2
  have h2 := map_num ns (f := fun i _ => styS i) (g := fun i _ => styS i) (fun i a => by simp [inst, styS]) l 2
  have h3 := map_num ns (f := accS) (g := accS) (fun i a => by simp [inst, accS]) l 2
  have h4 : (styS 1).map (inst ns) = styS 1 := by simp [styS, inst]
  have h5 : ∀ x, (accR x).map (inst ns) = accR (inst ns x) := fun x => by simp [accR, inst]
  simp only [scrS, accN, inst, instL_eq, instLL_eq, List.map_cons, List.map_nil, h1, h2, h3, h4, h5, inst_ids, List.length_map]
end
theorem gho_get (L i : Nat) : (gho L)[i]? = if i < L then some (lvS i) else none := by
  unfold gho
  rw [List.getElem?_map]
  by_cases h : i < L <;> simp [h]
theorem gho_inst (us : List Int) (hu : ∀ u ∈ us, 0 ≤ u ∧ u ≤ 255) : (gho us.length).map (inst (us.map Int.toNat)) = (lvs us).map I := by
  apply List.ext_getElem?
  intro i
  rw [List.getElem?_map, gho_get]
  by_cases h : i < us.length
  · have := hu us[i] (List.getElem_mem h)
    simp [h, lvS, inst, lvs]
    omega
  · simp [h, lvs]
theorem okg (us : List Int) (hu : ∀ u ∈ us, 0 ≤ u ∧ u ≤ 255) : ∀ (l : List Nat), (∀ i ∈ l, i < us.length) → okGLL (us.map Int.toNat) ((l.map lvS).map kidS)
  | [], _ => by simp [okGLL]
  | i :: l, h => by
    have hi := h i (by simp)
    have := hu us[i] (List.getElem_mem hi)
    have ih := okg us hu l fun j hj => h j (by simp [hj])
    refine ⟨?_, ih⟩
    simp only [kidS, attrS, okGL, okG, okGLL, lvS, true_and, and_true]
    exact ⟨us[i].toNat, by simp [hi], by omega, by omega⟩
theorem h6_of (us : List Int) (hl : us.length ≤ 12) (hu : ∀ u ∈ us, 0 ≤ u ∧ u ≤ 255) : Pure Tryz.prog 6 [viewS ((lvs us).map I), .nilsl] (scrI (lvs us)) := by
  obtain ⟨v, h', hc, hf⟩ := six us.length (allOk _ hl)
  have hmap : ([viewS (gho us.length), .nilsl] : List AV).map (inst (us.map Int.toNat)) = [viewS ((lvs us).map I), .nilsl] := by
    simp [inst_view, gho_inst us hu, inst]
  have := ghost_elim hc (ns := us.map Int.toNat) (by simp) ?_ ?_
  · rw [hmap] at this
    refine Pure.of ?_ (this.mono ?_)
    · intro a ha
      simp at ha
      rcases ha with rfl | rfl
      · refine .agg ?_
        intro c hc
        simp only [List.mem_cons, List.not_mem_nil, or_false] at hc
        rcases hc with rfl | rfl | rfl | rfl | rfl
        · exact cI _
        · exact .str _
        · exact .nilsl
        · exact .nilsl
        · refine opt_cl ?_
          intro x hx c hc
          simp at hx
          obtain ⟨n, _, rfl⟩ := hx
          simp only [kidS, List.mem_cons, List.not_mem_nil, or_false] at hc
          rcases hc with rfl | rfl | rfl | rfl | rfl
          · exact cI _
          · exact .str _
          · exact .psl fun y hy => by simp at hy; subst hy; exact attr_cl (cI n)
          · exact .nilsl
          · exact .nilsl
      · exact .nilsl
    · rintro v1 h1 ⟨rfl, rfl⟩
      have := frzF_ok (ns := us.map Int.toNat) (h := h') 500 v (scrS (gho us.length)) (by simpa using hf)
      rw [inst_scr, gho_inst us hu] at this
      exact this
  · refine ⟨?_, by simp [okG], trivial⟩
    simp only [viewS, okG, okGL, true_and, and_true]
    have ho := okg us hu (List.range us.length) fun i hi => by simpa using hi
    have e : ((List.range us.length).map lvS).map kidS = (gho us.length).map kidS := rfl
    rw [e] at ho
    revert ho
    cases (gho us.length).map kidS with
    | nil => intro _; simp [opt, okG]
    | cons a r => intro ho; simpa [opt, okG] using ho
  · intro hp L β cargs hne hR
    rw [hmap] at hR
    obtain ⟨c0, hc0⟩ : ∃ c, cargs[0]? = some c := ⟨cargs[0]'(by have := hR.1; simp at this; omega), by simp⟩
    have hr := hR.2 0 _ c0 rfl hc0
    cases hr with
    | agg _ vs hl2 hx =>
      have hv4 : 4 < vs.size := by simp at hl2; omega
      obtain ⟨v4, e4⟩ : ∃ v4, vs[4]? = some v4 := ⟨vs[4], by simp [hv4]⟩
      have h4 := hx 4 _ v4 rfl e4
      cases us with
      | nil => simp at hne
      | cons u us' =>
        simp only [lvs, List.map_cons, opt] at h4
        cases h4 with
        | psl _ z b o cap cur e fz hb => exact Nat.lt_of_le_of_lt (Nat.zero_le _) (lt_of_get hb)
theorem long_f (us : List Int) (hl : 12 < us.length) (hm : us.length ≤ maxLen) : Fresh Tryz.prog 3 [usA us] (.bool true) := by
  refine C3 (tb_ok []) ?_
  simp (disch := first | (simp; done) | omega | (simp only [nx_add, nx_set, nx_kill, nx_mk, nx_emp]; omega) | fail) [g3, usA]
  omega
theorem law_all (us : List Int) (hm : us.length ≤ maxLen) (hu : ∀ u ∈ us, 0 ≤ u ∧ u ≤ 255) : Fresh Tryz.prog 3 [usA us] (.bool true) := by
  by_cases h : us.length ≤ 12
  · exact law_f us h hu (h6_of us h hu) aw_p
  · exact long_f us (by omega) hm
end Go.Proofs.YtoibclpbkjbnbaaGreat
end
