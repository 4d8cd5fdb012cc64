/- The runs for every number of groups; values without ghosts. The ghosts' numbers put in. What the law calls, told for all numbers. Rows of a list that grows; numbers of the law. The law: its walk, and what is drawn at a height. A law that reads a laid variable, run where the variable is laid. The law run where its variable is laid, wherever the list of heights lies. -/
import Derived.Test.YtfegfialedlfcaaGreatDoorEngIC
import Derived.Test.YtfegfialedlfcaaGreatDoorDsR0
import Derived.Test.YtfegfialedlfcaaGreatDoorDsR1
import Derived.Test.YtfegfialedlfcaaGreatDoorDsR2
import Derived.Test.YtfegfialedlfcaaGreatDoorDsR3
import Derived.Test.YtfegfialedlfcaaGreatDoorDsR4
import Derived.Test.YtfegfialedlfcaaGreatDoorDsR5
import Derived.Test.YtfegfialedlfcaaGreatDoorDsR6
import Derived.Test.YtfegfialedlfcaaGreatDoorDsR7
import Derived.Test.YtfegfialedlfcaaGreatDoorEngGI
set_option linter.unusedSimpArgs false
set_option linter.unusedVariables false
set_option linter.unnecessarySimpa false
noncomputable section
namespace Go.Proofs.YtfegfialedlfcaaGreatDoor
open Go.Eng
/-! the closed runs as contracts -/
theorem allB : ∀ {n : Nat}, n ≤ 20 → giOk X props 0 (eB n) = true
  | 0, _ => rB0
  | 1, _ => rB1
  | 2, _ => rB2
  | 3, _ => rB3
  | 4, _ => rB4
  | 5, _ => rB5
  | 6, _ => rB6
  | 7, _ => rB7
  | 8, _ => rB8
  | 9, _ => rB9
  | 10, _ => rB10
  | 11, _ => rB11
  | 12, _ => rB12
  | 13, _ => rB13
  | 14, _ => rB14
  | 15, _ => rB15
  | 16, _ => rB16
  | 17, _ => rB17
  | 18, _ => rB18
  | 19, _ => rB19
  | 20, _ => rB20
  | _ + 21, h => absurd h (by omega)
theorem allC : ∀ {n : Nat}, n ≤ 20 → giOk X props (n + 3) (eC n) = true
  | 0, _ => rC0
  | 1, _ => rC1
  | 2, _ => rC2
  | 3, _ => rC3
  | 4, _ => rC4
  | 5, _ => rC5
  | 6, _ => rC6
  | 7, _ => rC7
  | 8, _ => rC8
  | 9, _ => rC9
  | 10, _ => rC10
  | 11, _ => rC11
  | 12, _ => rC12
  | 13, _ => rC13
  | 14, _ => rC14
  | 15, _ => rC15
  | 16, _ => rC16
  | 17, _ => rC17
  | 18, _ => rC18
  | 19, _ => rC19
  | 20, _ => rC20
  | _ + 21, h => absurd h (by omega)
theorem allV : ∀ {n : Nat}, n ≤ 20 → giOk X props (n + 3) (eV n) = true
  | 0, _ => rV0
  | 1, _ => rV1
  | 2, _ => rV2
  | 3, _ => rV3
  | 4, _ => rV4
  | 5, _ => rV5
  | 6, _ => rV6
  | 7, _ => rV7
  | 8, _ => rV8
  | 9, _ => rV9
  | 10, _ => rV10
  | 11, _ => rV11
  | 12, _ => rV12
  | 13, _ => rV13
  | 14, _ => rV14
  | 15, _ => rV15
  | 16, _ => rV16
  | 17, _ => rV17
  | 18, _ => rV18
  | 19, _ => rV19
  | 20, _ => rV20
  | _ + 21, h => absurd h (by omega)
theorem allK : ∀ {n : Nat}, n ≤ 20 → coOk X 5 (aK n) (stC n) (n + 1) 23 = true
  | 0, _ => rK0
  | 1, _ => rK1
  | 2, _ => rK2
  | 3, _ => rK3
  | 4, _ => rK4
  | 5, _ => rK5
  | 6, _ => rK6
  | 7, _ => rK7
  | 8, _ => rK8
  | 9, _ => rK9
  | 10, _ => rK10
  | 11, _ => rK11
  | 12, _ => rK12
  | 13, _ => rK13
  | 14, _ => rK14
  | 15, _ => rK15
  | 16, _ => rK16
  | 17, _ => rK17
  | 18, _ => rK18
  | 19, _ => rK19
  | 20, _ => rK20
  | _ + 21, h => absurd h (by omega)
end Go.Proofs.YtfegfialedlfcaaGreatDoor
end
noncomputable section
namespace Go.Proofs.YtfegfialedlfcaaGreatDoor
open Go.Eng
/-! the ghosts' numbers put in -/
def gsn (W H off : Int) (hs : Nat → Int) (n : Nat) : List Nat := W.toNat :: H.toNat :: (off + 499).toNat :: tab (fun i => (hs i).toNat) n
theorem gsn_len (W H off : Int) (hs : Nat → Int) (n : Nat) : (gsn W H off hs n).length = n + 3 := by simp [gsn, tab_len]
section
variable {W H off : Int} {hs : Nat → Int} {n : Nat}
theorem ns_k {i : Nat} (hi : i < n) : (0 :: gsn W H off hs n)[4 + i]? = some (hs i).toNat := by
  rw [show 4 + i = (((i + 1) + 1) + 1) + 1 by omega]
  simp only [gsn, List.getElem?_cons_succ]
  rw [tab_get, if_pos hi]
theorem e_w (hW : 10 ≤ W ∧ W ≤ 137) : insE (0 :: gsn W H off hs n) [(1, 1)] = some W := by simp [insE, gsn]; omega
theorem e_h (hH : 10 ≤ H ∧ H ≤ 137) : insE (0 :: gsn W H off hs n) [(1, 2)] = some H := by simp [insE, gsn]; omega
theorem e_o (ho : -499 ≤ off ∧ off ≤ 499) : insE (0 :: gsn W H off hs n) [(1, 3)] = some (off + 499) := by simp [insE, gsn]; omega
theorem e_k (hh : Hs hs) {i : Nat} (hi : i < n) : insE (0 :: gsn W H off hs n) [(1, 4 + i)] = some (hs i) := by
  have := hh i
  simp only [insE, ns_k hi]; congr 1; omega
theorem e_t (hh : Hs hs) : ∀ {m : Nat}, m ≤ n → insE (0 :: gsn W H off hs n) (tab (fun i => ((1 : Int), 4 + i)) m) = some (tp hs m)
  | 0, _ => rfl
  | m + 1, h => insE_app (e_t hh (by omega)) (e_k hh (by omega))
theorem i_w (hW : 10 ≤ W ∧ W ≤ 137) : inst (0 :: gsn W H off hs n) gw = I W := by simp [gw, inst, e_w hW]
theorem i_h (hH : 10 ≤ H ∧ H ≤ 137) : inst (0 :: gsn W H off hs n) gh = I H := by simp [gh, inst, e_h hH]
theorem i_o (ho : -499 ≤ off ∧ off ≤ 499) : inst (0 :: gsn W H off hs n) go = I off := by simp [go, inst, e_o ho]; omega
theorem i_k (hh : Hs hs) {i : Nat} (hi : i < n) : inst (0 :: gsn W H off hs n) (gk i) = I (hs i) := by simp [gk, inst, e_k hh hi]
theorem i_t (hh : Hs hs) : ∀ {m : Nat}, m ≤ n → inst (0 :: gsn W H off hs n) (gt m) = I (tp hs m)
  | 0, _ => by simp [gt, inst, tp]
  | m + 1, h => by
    have := e_t (W := W) (H := H) (off := off) hh h
    simp [gt, inst, this]
theorem i_b (hh : Hs hs) (hH : 10 ≤ H ∧ H ≤ 137) : inst (0 :: gsn W H off hs n) (gb n) = I (bl0 n H hs) := by
  cases n with
  | zero => exact i_h hH
  | succ n => exact i_k hh (by omega)
theorem o_w (hW : 10 ≤ W ∧ W ≤ 137) : okG (0 :: gsn W H off hs n) gw := ⟨W, e_w hW, by omega, by omega⟩
theorem o_h (hH : 10 ≤ H ∧ H ≤ 137) : okG (0 :: gsn W H off hs n) gh := ⟨H, e_h hH, by omega, by omega⟩
theorem o_o (ho : -499 ≤ off ∧ off ≤ 499) : okG (0 :: gsn W H off hs n) go := ⟨off + 499, e_o ho, by omega, by omega⟩
theorem o_k (hh : Hs hs) {i : Nat} (hi : i < n) : okG (0 :: gsn W H off hs n) (gk i) := ⟨hs i, e_k hh hi, by have := hh i; omega, by have := hh i; omega⟩
theorem o_t (hh : Hs hs) : ∀ {m : Nat}, m ≤ n → okG (0 :: gsn W H off hs n) (gt m)
  | 0, _ => trivial
  | m + 1, h => ⟨tp hs (m + 1), e_t hh h, by have := tp_bd hh (m + 1); omega, by have := tp_bd hh (m + 1); omega⟩
theorem o_b (hh : Hs hs) (hH : 10 ≤ H ∧ H ≤ 137) : okG (0 :: gsn W H off hs n) (gb n) := by
  cases n with
  | zero => exact o_h hH
  | succ n => exact o_k hh (by omega)
theorem okGLL_app {ns : List Nat} : ∀ {l m : List (List AV)}, okGLL ns l → okGLL ns m → okGLL ns (l ++ m)
  | [], _, _, h => h
  | _ :: _, _, h1, h2 => ⟨h1.1, okGLL_app h1.2 h2⟩
theorem okGLL_tab {ns : List Nat} {f : Nat → List AV} : ∀ {n : Nat}, (∀ i, i < n → okGL ns (f i)) → okGLL ns (tab f n)
  | 0, _ => trivial
  | n + 1, h => okGLL_app (okGLL_tab fun i hi => h i (by omega)) ⟨h n (by omega), trivial⟩
theorem clsP_app {K : Nat} : ∀ {l m : List (List AV)}, clsP K l = true → clsP K m = true → clsP K (l ++ m) = true
  | [], _, _, h => h
  | _ :: _, _, h1, h2 => by
    simp only [clsP, Bool.and_eq_true] at h1
    simp only [List.cons_append, clsP, Bool.and_eq_true]
    exact ⟨h1.1, clsP_app h1.2 h2⟩
theorem clsP_tab {K : Nat} {f : Nat → List AV} : ∀ {n : Nat}, (∀ i, i < n → clsL K (f i) = true) → clsP K (tab f n) = true
  | 0, _ => rfl
  | n + 1, h => clsP_app (clsP_tab fun i hi => h i (by omega)) (by simp [clsP, h n (by omega)])
theorem i_st (hh : Hs hs) : inst (0 :: gsn W H off hs n) (.psl (stS gk n)) = .psl (tab (stc hs) (n + 1)) := by
  simp only [inst, instLL_eq, stS, List.map_cons, tab_map]
  rw [← st_eq]
  unfold stS
  congr 1
  congr 1
  exact tab_congr fun i hi => by simp [sty, inst, i_k hh hi]
theorem o_st (hh : Hs hs) : okG (0 :: gsn W H off hs n) (.psl (stS gk n)) := by
  refine ⟨okGL_cls _ rfl, okGLL_tab fun i hi => ?_⟩
  simp only [sty, okGL]
  exact ⟨trivial, trivial, trivial, trivial, trivial, trivial, trivial, trivial, trivial, trivial, trivial, trivial, trivial, trivial, trivial, trivial, o_k hh hi, trivial, trivial, trivial, trivial, trivial, trivial, trivial⟩
theorem i_box (hh : Hs hs) (hW : 10 ≤ W ∧ W ≤ 137) (hH : 10 ≤ H ∧ H ≤ 137) : inst (0 :: gsn W H off hs n) (boxG n) = .psl (tab (bxc n W H hs) (n + 1)) := by
  have e : boxR (I W) (I H) (I (bl0 n H hs)) :: tab (fun i => boxK i (I (tp hs i)) (I W) (I (hs i))) n = tab (bxc n W H hs) (n + 1) := tab_cons (bxc n W H hs) n
  unfold boxG
  rw [← e]
  simp only [inst, instLL_eq, List.map_cons, tab_map]
  congr 1
  congr 1
  · simp [boxR, inst, i_w hW, i_h hH, i_b hh hH]
  · exact tab_congr fun i hi => by simp [boxK, inst, i_w hW, i_k hh hi, i_t hh (show i ≤ n by omega)]
theorem o_box (hh : Hs hs) (hW : 10 ≤ W ∧ W ≤ 137) (hH : 10 ≤ H ∧ H ≤ 137) : okG (0 :: gsn W H off hs n) (boxG n) := by
  refine ⟨?_, okGLL_tab fun i hi => ?_⟩
  · simp only [boxR, okGL]
    exact ⟨trivial, trivial, trivial, o_w hW, o_h hH, o_b hh hH, trivial, trivial⟩
  · simp only [boxK, okGL]
    exact ⟨trivial, trivial, o_t hh (by omega), o_w hW, o_k hh hi, o_k hh hi, trivial, trivial⟩
end
theorem c_tree : ∀ {n : Nat}, n ≤ 20 → clsF 0 (treeS n) = true := fun {n} h => by
  have hq : ((List.range 21).all fun n => clsF 0 (treeS n)) = true := by kernel_rfl
  exact List.all_eq_true.1 hq n (by simp; omega)
theorem c_stc (hs : Nat → Int) (i : Nat) : clsL 0 (stc hs i) = true := by cases i <;> rfl
theorem c_bxc (n : Nat) (W H : Int) (hs : Nat → Int) (i : Nat) : clsL 0 (bxc n W H hs i) = true := by cases i <;> rfl
theorem c_cm (c : Cm) : clsL 0 c.enc = true := rfl
theorem c_cmds : ∀ (l : List Cm), clsP 0 (l.map Cm.enc) = true
  | [] => rfl
  | c :: l => by simp [clsP, c_cm, c_cmds l]
end Go.Proofs.YtfegfialedlfcaaGreatDoor
end
noncomputable section
namespace Go.Proofs.YtfegfialedlfcaaGreatDoor
open Go.Eng
/-! what the law calls, told for all numbers -/
theorem arg1 {h : AH} {a p : AV} (h1 : Frz h false a p) : ∀ (i : Nat) (x y : AV), [a][i]? = some x → [p][i]? = some y → Frz h false x y
  | 0, _, _, e1, e2 => by cases e1; cases e2; exact h1
  | i + 1, _, _, e1, _ => by simp at e1
theorem args_cons {h : AH} {a p : AV} {xs ps : List AV} (h1 : Frz h false a p) (h2 : ∀ (i : Nat) (x y : AV), xs[i]? = some x → ps[i]? = some y → Frz h false x y) : ∀ (i : Nat) (x y : AV), (a :: xs)[i]? = some x → (p :: ps)[i]? = some y → Frz h false x y
  | 0, _, _, e1, e2 => by cases e1; cases e2; exact h1
  | i + 1, _, _, e1, e2 => h2 i _ _ (by simpa using e1) (by simpa using e2)
theorem args_nil {h : AH} : ∀ (i : Nat) (x y : AV), ([] : List AV)[i]? = some x → ([] : List AV)[i]? = some y → Frz h false x y := fun i x y e1 _ => by simp at e1
theorem args_i {ns : List Nat} {h : AH} {xs ps : List AV} (h2 : ∀ (i : Nat) (x y : AV), xs[i]? = some x → (ps.map (inst ns))[i]? = some y → Frz h false x y) : ∀ (i : Nat) (x y : AV), xs[i]? = some x → ps[i]? = some y → Frz h false x (inst ns y) := fun i x y e1 e2 => h2 i x _ e1 (by rw [List.getElem?_map, e2]; rfl)
theorem build_d {n : Nat} (hn : n ≤ 20) {h : AH} (hg : h.H.get 0 = some (.glob 0 props)) {K : AV} (hK : Frz h false K (opt (tab (fun _ => kidV) n))) : CallD Tryz.prog 4 [.agg [I 8, .str [], .nilsl, .nilsl, K], I 1] h (.tup [treeS n, I 0]) h := by
  have hc : clsF 0 (viewS n) = true := by
    have hq : ((List.range 21).all fun n => clsF 0 (viewS n)) = true := by kernel_rfl
    exact List.all_eq_true.1 hq n (by simp; omega)
  have := giOk_ok X_ok hpl (allB hn) [] rfl ⟨okG_cls _ hc, trivial, trivial⟩ h [.agg [I 8, .str [], .nilsl, .nilsl, K], I 1] hg rfl
    (args_i (by
      simp only [eB, List.map_cons, List.map_nil, inst_cls _ hc]
      exact args_cons (.agg _ _ rfl (args_cons (.int _ _) (args_cons (.str _) (args_cons .nilsl0 (args_cons .nilsl0 (args_cons hK args_nil)))))) (arg1 (by simp only [inst]; exact .int _ _))))
  simp only [eB, inst, instL_eq, List.map_cons, List.map_nil, inst_cls _ (c_tree hn)] at this
  exact this
theorem awake_d {h : AH} (hg : h.H.get 0 = some (.glob 0 props)) : CallD Tryz.prog 9 [] h (.bool true) h := by
  have := giOk_ok X_ok hpl rA [] rfl trivial h [] hg rfl (args_i args_nil)
  simpa only [eA, inst] using this
theorem casc_d {n : Nat} (hn : n ≤ 20) (h : AH) : CallD Tryz.prog 5 (aK n) h (.tup [.rsl h.nx 0 (n + 1) 23, I 0]) (h.add (.cells (stC n))) :=
  coOk_ok X_ok (allK hn) rfl fun i a b h1 h2 => by
    rw [h1] at h2; cases h2
    have hc : clsL 0 (aK n) = true := by
      have := c_tree hn
      simp [aK, clsL, clsF, this]
    exact frzL_cls _ hc i a h1
section
variable {W H off : Int} {hs : Nat → Int} {n : Nat}
theorem st_frz {h : AH} {sid : Nat} (hst : h.cellsAt sid = some (tab (stc hs) (n + 1)).flatten) : Frz h false (.rsl sid 0 (n + 1) 23) (.psl (tab (stc hs) (n + 1))) := by
  have := frz_rows (n := false) (z := 23) hst (fun r hr => by
    obtain ⟨i, hi⟩ := List.mem_iff_getElem?.1 hr
    rw [tab_get] at hi
    split at hi
    · cases hi; exact stc_len hs i
    · cases hi) (fun r hr j d hd => by
    obtain ⟨i, hi⟩ := List.mem_iff_getElem?.1 hr
    rw [tab_get] at hi
    split at hi
    · cases hi; exact frzL_cls _ (c_stc hs i) j d hd
    · cases hi)
  rwa [tab_len] at this
theorem c_boxes : clsF 0 (.psl (tab (bxc n W H hs) (n + 1))) = true := clsP_tab fun i _ => c_bxc n W H hs i
theorem c_sts : clsF 0 (.psl (tab (stc hs) (n + 1))) = true := clsP_tab fun i _ => c_stc hs i
theorem comp_d (hn : n ≤ 20) (hh : Hs hs) (hW : 10 ≤ W ∧ W ≤ 137) (hH : 10 ≤ H ∧ H ≤ 137) {h : AH} (hg : h.H.get 0 = some (.glob 0 props)) {S F : AV} (hS : Frz h false S (.psl (tab (stc hs) (n + 1)))) (hF : Frz h false F fontS) :
    CallD Tryz.prog 6 [treeS n, S, F, .agg [I W, I H]] h (.tup [.psl (tab (bxc n W H hs) (n + 1)), I 0]) h := by
  have := giOk_ok X_ok hpl (allC hn) (gsn W H 0 hs n) (gsn_len ..) ⟨okG_cls _ (c_tree hn), o_st hh, okG_cls _ rfl, ⟨o_w hW, o_h hH, trivial⟩, trivial⟩ h [treeS n, S, F, .agg [I W, I H]] hg rfl
    (args_i (by
      simp only [eC, List.map_cons, List.map_nil, inst_cls _ (c_tree hn), i_st hh]
      exact args_cons (frz_cls _ (c_tree hn)) (args_cons hS (args_cons (by rw [inst_cls fontS rfl]; exact hF) (arg1 (by simp only [inst, instL_eq, List.map_cons, List.map_nil, i_w hW, i_h hH]; exact frz_cls _ rfl))))))
  simp only [eC, inst, instL_eq, List.map_cons, List.map_nil, i_box hh hW hH] at this
  exact this
theorem valid23 (hn : n ≤ 20) (hh : Hs hs) (hW : 10 ≤ W ∧ W ≤ 137) (hH : 10 ≤ H ∧ H ≤ 137) (ho : -499 ≤ off ∧ off ≤ 499) {h : AH} (hg : h.H.get 0 = some (.glob 0 props)) :
    CallD Tryz.prog 23 [treeS n, .psl (tab (stc hs) (n + 1)), .psl (tab (bxc n W H hs) (n + 1)), offL off] h (I 0) h := by
  have := giOk_ok X_ok hpl (allV hn) (gsn W H off hs n) (gsn_len ..) ⟨okG_cls _ (c_tree hn), o_st hh, o_box hh hW hH, ⟨⟨trivial, o_o ho, trivial⟩, trivial⟩, trivial⟩ h [treeS n, .psl (tab (stc hs) (n + 1)), .psl (tab (bxc n W H hs) (n + 1)), offL off] hg rfl
    (args_i (by
      simp only [eV, List.map_cons, List.map_nil, inst_cls _ (c_tree hn), i_st hh, i_box hh hW hH]
      exact args_cons (frz_cls _ (c_tree hn)) (args_cons (frz_cls _ c_sts) (args_cons (frz_cls _ c_boxes) (arg1 (by
        have : inst (0 :: gsn W H off hs n) (.psl [[I 1, go]]) = offL off := by simp [inst, instLL_eq, i_o ho, offL]
        rw [this]; exact frz_cls _ rfl))))))
  simpa only [eV, inst] using this
end
theorem c_cmds1 : ∀ (l : List Cm), clsP 1 (l.map Cm.enc) = true
  | [] => rfl
  | c :: l => by simp [clsP, c_cmds1 l, show clsL 1 c.enc = true from rfl]
theorem fzL_cm (c : Cm) (h : AH) (m : Nat) : fzL true 1 h (m + 30) c.enc = some c.enc := rfl
theorem fzC_flat (h : AH) : ∀ (l : List Cm) (m : Nat), l.length ≤ m → fzC true 1 h (m + 31) 22 l.length (flat l) = some (l.map Cm.enc)
  | [], m, _ => by simp [fzC]
  | c :: l, 0, hm => by simp at hm
  | c :: l, m + 1, hm => by
    have e1 : (flat (c :: l)).take 22 = c.enc := by
      show (c.enc ++ flat l).take 22 = _
      rw [List.take_append_of_le_length (by rw [Cm.len]; omega)]; exact List.take_of_length_le (by rw [Cm.len]; omega)
    have e2 : (flat (c :: l)).drop 22 = flat l := by
      show (c.enc ++ flat l).drop 22 = _
      exact List.drop_left' (Cm.len c)
    have e3 : fzL true 1 h (m + 31) c.enc = some c.enc := fzL_cm c h (m + 1)
    have e4 := fzC_flat h l m (by simpa using hm)
    show fzC true 1 h ((m + 31) + 1) 22 (l.length + 1) (flat (c :: l)) = _
    unfold fzC
    simp only [e1, e2, e3, e4]; rfl
theorem fz_out {h : AH} {id : Nat} {l : List Cm} (hc : h.cellsAt id = some (flat l)) : ∃ m, fzF true 1 h m (.tup [.rsl id 0 l.length 22, I 0]) = some (.tup [cmds l, I 0]) := by
  refine ⟨l.length + 34, ?_⟩
  have e : fzF true 1 h (l.length + 32) (.rsl id 0 l.length 22) = some (cmds l) := by
    show (match h.cellsAt id with
      | some cs => cond (Nat.ble (0 + l.length * 22) cs.length) ((fzC true 1 h (l.length + 31) 22 l.length (cs.drop 0)).map AV.psl) none
      | none => none) = _
    rw [hc]
    simp only [List.drop_zero, fzC_flat h l l.length (Nat.le_refl _)]
    rw [show Nat.ble (0 + l.length * 22) (flat l).length = true from Nat.ble_eq_true_of_le (by rw [flat_ln]; omega)]
    rfl
  show ((match fzF true 1 h (l.length + 32) (.rsl id 0 l.length 22), fzL true 1 h (l.length + 32) [I 0] with
    | some b, some m => some (b :: m)
    | _, _ => none).map AV.tup) = _
  rw [e]; rfl
theorem paint_d {W H off : Int} {hs : Nat → Int} {n : Nat} (hn : n ≤ 20) (hh : Hs hs) (hW : 10 ≤ W ∧ W ≤ 137) (hH : 10 ≤ H ∧ H ≤ 137) (ho : -499 ≤ off ∧ off ≤ 499) {h : AH} (hg : h.H.get 0 = some (.glob 0 props)) {S O : AV} (hS : Frz h false S (.psl (tab (stc hs) (n + 1)))) (hO : Frz h false O (offL off)) :
    CallD Tryz.prog 7 [treeS n, S, .psl (tab (bxc n W H hs) (n + 1)), O, .nilsl] h (.tup [cmds (out W H off hs n), I 0]) h := by
  have hc := paint_c (h := gH 0 props 0) (fun g hg => valid23 (off := off) hn hh hW hH ho hg) (by simp [gH, PM.get_put]) (by simp [gH]) hn hh hW hH ho
  have c1 : clsF 0 (offL off) = true := rfl
  have := frameGA (gs := []) (v := .tup [cmds (out W H off hs n), I 0]) (h := h) (args := [treeS n, S, .psl (tab (bxc n W H hs) (n + 1)), O, .nilsl]) hc (fun v0 h0 ⟨id, h1, h2, h3⟩ => ⟨h3, by subst h1; exact fz_out h2⟩) hpl
    (by show (clsP 1 _ && _) = true; rw [c_cmds1]; rfl)
    ⟨okG_cls _ (c_tree hn), okG_cls _ c_sts, okG_cls _ c_boxes, okG_cls _ c1, trivial, trivial⟩ hg rfl
    (args_i (by
      simp only [List.map_cons, List.map_nil, inst_cls _ (c_tree hn), inst_cls _ c_sts, inst_cls _ c_boxes, inst_cls _ c1]
      exact args_cons (frz_cls _ (c_tree hn)) (args_cons hS (args_cons (frz_cls _ c_boxes) (args_cons hO (arg1 (by simp only [inst]; exact .nilsl0)))))))
  have e : inst [0] (cmds (out W H off hs n)) = cmds (out W H off hs n) := inst_cls _ (c_cmds _)
  simp only [inst, instL_eq, List.map_cons, List.map_nil, e] at this
  exact this
end Go.Proofs.YtfegfialedlfcaaGreatDoor
end
noncomputable section
namespace Go.Proofs.YtfegfialedlfcaaGreatDoor
open Go.Eng
/-! rows of a list of one's own that grows -/
inductive RL' (h : AH) (rows : List (List AV)) (z : Nat) : AV → Prop
  | nil : rows = [] → RL' h rows z .nilsl
  | own (id : Nat) : h.cellsAt id = some rows.flatten → id < h.nx → RL' h rows z (.rsl id 0 rows.length z)
theorem RL'.lt {h : AH} {rows : List (List AV)} {z : Nat} {id o k s : Nat} (hA : RL' h rows z (.rsl id o k s)) : id < h.nx := by
  cases hA with
  | own _ _ lt => exact lt
theorem RL'.keep {h h' : AH} {rows : List (List AV)} {z : Nat} {A : AV} (hA : RL' h rows z A) (hn : h.nx ≤ h'.nx) (hk : ∀ id o k s, A = .rsl id o k s → h'.H.get id = h.H.get id) : RL' h' rows z A := by
  cases hA with
  | nil e => exact .nil e
  | own id c lt => exact .own id ((cellsAt_congr (hk id _ _ _ rfl)).trans c) (by omega)
theorem RL'.app {h g : AH} {A : AV} {rows : List (List AV)} {row : List AV} {z b q : Nat} (hA : RL' h rows z A) (hz : ∀ r ∈ rows, r.length = z) (hr : row.length = z) (ho : ones row = true) (hg : ∀ id o k s, A = .rsl id o k s → g.H.get id = h.H.get id) (hn : h.nx ≤ g.nx) (hc : g.cellsAt q = some row) (hb : roomy (rows.length + 1) b = true) :
    ∃ g', kApp g z b A (.rsl q 0 1 z) = some (.rsl g.nx 0 (rows ++ [row]).length z, g') ∧ RL' g' (rows ++ [row]) z (.rsl g.nx 0 (rows ++ [row]).length z) ∧ g'.nx = g.nx + 1 ∧ ∀ j, j < g.nx → (∀ o k s, A ≠ .rsl j o k s) → g'.H.get j = g.H.get j := by
  have hx : acells g z (.rsl q 0 1 z) = some row := by
    have : cut row 0 (1 * z) = some row := by
      have := cut_zero_app (α := row) (b := []) (n := 1 * z) (by omega)
      rwa [List.append_nil] at this
    simp only [acells, if_true, hc, this]
  have hl : (rows ++ [row]).length = rows.length + 1 := by simp
  rw [hl]
  cases hA with
  | nil e =>
    subst e
    have hfl : (([] : List (List AV)) ++ [row]).flatten = row := by simp
    refine ⟨g.add (.cells row), ?_, ?_, by simp, fun j hj _ => by rw [get_add, if_neg (by omega)]⟩
    · simp only [List.length_nil, Nat.zero_add] at hb ⊢
      simp [kApp, aapp, hx, alen, hb, ho]
    · have := RL'.own (h := g.add (.cells row)) (rows := [] ++ [row]) (z := z) g.nx (by rw [hfl]; simp) (by simp)
      simpa using this
  | own id c lt =>
    have hcg : g.cellsAt id = some rows.flatten := (cellsAt_congr (hg id _ _ _ rfl)).trans c
    have hcut : cut rows.flatten 0 (rows.length * z) = some rows.flatten := by
      have := cut_zero_app (α := rows.flatten) (b := []) (n := rows.length * z) (rows_len rows z hz)
      rwa [List.append_nil] at this
    refine ⟨(g.kill id).add (.cells (rows.flatten ++ row)), by simp [kApp, aapp, hx, alen, hb, ho, hcg, hcut], ?_, by simp, fun j hj hne => ?_⟩
    · have := RL'.own (h := (g.kill id).add (.cells (rows.flatten ++ row))) (rows := rows ++ [row]) (z := z) g.nx (by simp) (by simp)
      rwa [hl] at this
    · rw [get_add, if_neg (by simp only [nx_kill]; omega), get_kill, if_neg]
      rintro rfl
      exact hne _ _ _ rfl
theorem RL'.frz {h : AH} {A : AV} {rows : List (List AV)} {z : Nat} (hA : RL' h rows z A) (hz : ∀ r ∈ rows, r.length = z) (hf : ∀ r ∈ rows, ∀ (j : Nat) (d : AV), r[j]? = some d → Frz h false d d) : Frz h false A (.psl rows) := by
  cases hA with
  | nil e => subst e; exact .nilsl
  | own id c lt => exact frz_rows c hz hf
/-- one cell of a row written -/
theorem splice_rows : ∀ (rows : List (List AV)) (z k c : Nat) (r : List AV) (x : AV), (∀ r ∈ rows, r.length = z) → rows[k]? = some r → c < z → splice rows.flatten (k * z + c) [x] = some (rows.set k (r.set c x)).flatten
  | [], z, k, c, r, x, _, h, _ => by simp at h
  | a :: l, z, 0, c, r, x, hz, h, hc => by
    simp at h; subst h
    have h1 := hz a (by simp)
    have e1 : (a ++ l.flatten).take c = a.take c := List.take_append_of_le_length (by omega)
    have e2 : (a ++ l.flatten).drop (c + 1) = a.drop (c + 1) ++ l.flatten := List.drop_append_of_le_length (by omega)
    simp only [List.flatten_cons, List.set_cons_zero, Nat.zero_mul, Nat.zero_add, splice, List.length_append, List.length_cons, List.length_nil, e1, e2]
    rw [if_pos (by omega), List.set_eq_take_append_cons_drop, if_pos (by omega)]
    simp
  | a :: l, z, k + 1, c, r, x, hz, h, hc => by
    have h1 := hz a (by simp)
    have ih := splice_rows l z k c r x (fun y hy => hz y (by simp [hy])) (by simpa using h) hc
    have e : (k + 1) * z + c = a.length + (k * z + c) := by rw [Nat.succ_mul]; omega
    simp only [List.flatten_cons, List.set_cons_succ]
    unfold splice at ih ⊢
    rw [e]
    split at ih
    · rename_i hle
      have ih' := Option.some.inj ih
      rw [if_pos (by simp only [List.length_append] at hle ⊢; omega), ← ih', List.take_append, List.drop_append]
      simp only [List.length_cons, List.length_nil] at *
      rw [List.take_of_length_le (by omega), List.drop_of_length_le (by omega)]
      have q1 : a.length + (k * z + c) - a.length = k * z + c := by omega
      have q2 : a.length + (k * z + c) + (0 + 1) - a.length = k * z + c + (0 + 1) := by omega
      rw [q1, q2]; simp [List.append_assoc]
    · cases ih
/-! numbers of the law -/
def a127 (a : Int) : Int := IntKind.wrap .i64 (((BitVec.ofInt 64 a &&& BitVec.ofInt 64 127).toNat : Nat) : Int)
def a31 (a : Int) : Int := IntKind.wrap .i64 (((BitVec.ofInt 64 a &&& BitVec.ofInt 64 31).toNat : Nat) : Int)
theorem wrap_small {n : Nat} (h : n < 1000) : IntKind.wrap .i64 (n : Int) = n := by
  have h1 : (IntKind.wrap .i64 (n : Int)) = (n : Int) := fitsK_wrap (k := .i64) (lo := 0) (hi := 1000) (by decide) (by omega) (by omega)
  exact h1
theorem a127_bd (a : Int) : 0 ≤ a127 a ∧ a127 a ≤ 127 := by
  have e : (BitVec.ofInt 64 a &&& BitVec.ofInt 64 127).toNat = (BitVec.ofInt 64 a).toNat % 128 := by
    rw [BitVec.toNat_and]
    exact Nat.and_two_pow_sub_one_eq_mod _ 7
  have := Nat.mod_lt (BitVec.ofInt 64 a).toNat (show 128 > 0 by omega)
  unfold a127
  rw [e, wrap_small (by omega)]; omega
theorem a31_bd (a : Int) : 0 ≤ a31 a ∧ a31 a ≤ 31 := by
  have e : (BitVec.ofInt 64 a &&& BitVec.ofInt 64 31).toNat = (BitVec.ofInt 64 a).toNat % 32 := by
    rw [BitVec.toNat_and]
    exact Nat.and_two_pow_sub_one_eq_mod _ 5
  have := Nat.mod_lt (BitVec.ofInt 64 a).toNat (show 32 > 0 by omega)
  unfold a31
  rw [e, wrap_small (by omega)]; omega
@[simp] theorem k127 (h : AH) (a : Int) : kArith h .and (I a) (I 127) = some (I (a127 a), h) := Eq.trans rfl rfl
@[simp] theorem k31 (h : AH) (a : Int) : kArith h .and (I a) (I 31) = some (I (a31 a), h) := Eq.trans rfl rfl
theorem k500 (h : AH) (a : Int) : ∃ r, kArith h .rem (I a) (I 500) = some (I r, h) ∧ -499 ≤ r ∧ r ≤ 499 := by
  refine ⟨a.tmod 500, rfl, ?_, ?_⟩
  · have := Int.lt_tmod_of_pos a (show (0 : Int) < 500 by omega); omega
  · have := Int.tmod_lt_of_pos a (show (0 : Int) < 500 by omega); omega
end Go.Proofs.YtfegfialedlfcaaGreatDoor
end
noncomputable section
namespace Go.Proofs.YtfegfialedlfcaaGreatDoor
open Go.Eng
/-! the plain law: what is drawn at a height -/
/-- the group that stands at a height -/
def wantF (hs : Nat → Int) (off y : Int) : Nat → Int
  | 0 => -1
  | i + 1 => if tp hs i ≤ y + off ∧ y + off < tp hs i + hs i then (i : Int) + 1 else wantF hs off y i
def colF (W H off : Int) (hs : Nat → Int) (p : Pt) : Nat → Int
  | 0 => -1
  | i + 1 => cond (vis H off hs i) (cond (inR ⟨0, 0, W, H⟩ p && inR ⟨0, tp hs i - off, W, hs i⟩ p) ((i : Int) + 1) (colF W H off hs p i)) (colF W H off hs p i)
theorem pr_outL (W H off : Int) (hs : Nat → Int) (p : Pt) : ∀ (n : Nat) (tl : List Cm), pr p [true] (-1) (outL W H off hs n ++ tl) = pr p [inR ⟨0, 0, W, H⟩ p, true] (colF W H off hs p n) tl
  | 0, tl => by simp [outL, pr, colF]
  | n + 1, tl => by
    simp only [outL, colF]
    cases hv : vis H off hs n
    · simp only [cond_false]; exact pr_outL W H off hs p n tl
    · simp only [cond_true, List.append_assoc]
      rw [pr_outL W H off hs p n]
      simp [pr]
theorem pr_out (W H off : Int) (hs : Nat → Int) (p : Pt) (n : Nat) : pr p [true] (-1) (out W H off hs n) = colF W H off hs p n := by
  unfold out
  rw [pr_outL]
  simp [pr]
theorem colF_w {W H off y : Int} {hs : Nat → Int} : ∀ n, colF W H off hs ⟨W, y⟩ n = -1
  | 0 => rfl
  | n + 1 => by
    have : inR ⟨0, 0, W, H⟩ ⟨W, y⟩ = false := by simp [inR]
    simp [colF, this, colF_w n]
theorem colF_y {W H off y : Int} {hs : Nat → Int} (hW : 10 ≤ W ∧ W ≤ 137) : ∀ n, colF W H off hs ⟨3, y⟩ n = if 0 ≤ y ∧ y < H then wantF hs off y n else -1
  | 0 => by simp [colF, wantF]
  | n + 1 => by
    have e1 : inR ⟨0, 0, W, H⟩ ⟨3, y⟩ = (decide (0 ≤ y) && decide (y < H)) := by
      have : (3 : Int) < W := by omega
      simp [inR, this]
    have e2 : inR ⟨0, tp hs n - off, W, hs n⟩ ⟨3, y⟩ = (decide (tp hs n - off ≤ y) && decide (y < tp hs n - off + hs n)) := by
      have : (3 : Int) < W := by omega
      simp [inR, this]
    simp only [colF, colF_y hW n, e1, e2, wantF]
    by_cases c : 0 ≤ y ∧ y < H
    · simp only [c, and_self, decide_true, Bool.true_and, if_true]
      by_cases d : tp hs n ≤ y + off ∧ y + off < tp hs n + hs n
      · have hv : vis H off hs n = true := by simp [vis]; omega
        have d1 : tp hs n - off ≤ y := by omega
        have d2 : y < tp hs n - off + hs n := by omega
        simp [hv, d, d1, d2]
      · rw [if_neg d]
        have : (decide (tp hs n - off ≤ y) && decide (y < tp hs n - off + hs n)) = false := by simp; omega
        rw [this]; cases vis H off hs n <;> rfl
    · have : (decide (0 ≤ y) && decide (y < H)) = false := by simp; omega
      rw [if_neg c, if_neg c, this]; cases vis H off hs n <;> rfl
/-! the law's heights, however they lie -/
/-- a list of numbers: its length, its items -/
def Hts (A : AV) (N : Nat) (x : Nat → Int) : Prop := ∀ g : AH, g.H.get 0 = some (.glob 0 props) → kLen g A = some (I N, g) ∧ ∀ i, i < N → ∃ p, kIdxA g 1 A (I i) = some (p, g) ∧ kLd1 g p = some (I (x i), g)
inductive L1 (A : AV) (N vx : Nat) (off W H : Int) : Nat → List AV → AH → Prop
  | mk {m : Nat} {g : AH} (i : Nat) (K : AV) : i + m = N → g.H.get 0 = some (.glob 0 props) → g.cellsAt vx = some [I 8, .str [], .nilsl, .nilsl, K] → vx < g.nx → 0 < vx → RL' g (tab (fun _ => kidV) i) 5 K → (∀ id o k s, K = .rsl id o k s → vx < id) → (i = 0 → K = .nilsl) → L1 A N vx off W H m [A, I off, I W, I H, .ptr vx 0, I i] g
def stp (hs : Nat → Int) (i : Nat) : Nat → List AV := fun j => if j ≤ i then stc hs j else sty0 j
theorem stC_eq (hs : Nat → Int) (n : Nat) : stC n = (tab (stp hs 0) (n + 1)).flatten := by
  rw [← tab_cons]
  show _ = stp hs 0 0 ++ _
  unfold stC
  congr 2
theorem stp_len (hs : Nat → Int) (i j : Nat) : (stp hs i j).length = 23 := by 
  unfold stp
  split
  · exact stc_len hs j
  · rfl
theorem stp_step (hs : Nat → Int) (i n : Nat) : ((tab (stp hs i) n).set (i + 1) (((sty0 (i + 1)).set 16 (I (hs i))).set 2 (I ((i : Int) + 1)))) = tab (stp hs (i + 1)) n := by
  apply List.ext_getElem?
  intro j
  rw [List.getElem?_set, tab_get, tab_get, tab_len]
  by_cases h1 : i + 1 = j
  · subst h1
    by_cases h2 : i + 1 < n
    · rw [if_pos rfl, if_pos h2, if_pos h2]
      have : stp hs (i + 1) (i + 1) = stc hs (i + 1) := by simp [stp]
      rw [this]; rfl
    · rw [if_pos rfl, if_neg h2, if_neg h2]
  · rw [if_neg h1]
    have : stp hs i j = stp hs (i + 1) j := by
      unfold stp
      by_cases h2 : j ≤ i
      · rw [if_pos h2, if_pos (by omega)]
      · rw [if_neg h2, if_neg (by omega)]
    rw [this]
theorem stp_end (hs : Nat → Int) (n : Nat) : tab (stp hs n) (n + 1) = tab (stc hs) (n + 1) := tab_congr fun i hi => by unfold stp; rw [if_pos (by omega)]
inductive L2 (A : AV) (N tx sid : Nat) (off W H : Int) (hs : Nat → Int) : Nat → List AV → AH → Prop
  | mk {m : Nat} {g : AH} (i : Nat) (T : AV) : i + m = N → g.H.get 0 = some (.glob 0 props) → g.cellsAt tx = some [I 1, I (N + 2 : Nat), .psl (rootN N :: tab kidN N)] → g.cellsAt sid = some (tab (stp hs i) (N + 1)).flatten → tx < sid → sid < g.nx → 0 < tx → RL' g (tab (fun j => [I (tp hs j)]) i) 1 T → (∀ id o k s, T = .rsl id o k s → sid < id) →
    L2 A N tx sid off W H hs m [A, I off, I W, I H, .ptr tx 0, .rsl sid 0 (N + 1) 23, I (tp hs i), T, I i] g
theorem num_at {g : AH} {f : Nat → Int} {N : Nat} {T : AV} (hT : RL' g (tab (fun j => [I (f j)]) N) 1 T) : kLen g T = some (I N, g) ∧ ∀ i, i < N → ∃ p, kIdxA g 1 T (I i) = some (p, g) ∧ kLd1 g p = some (I (f i), g) := by
  have hl : (tab (fun j => [I (f j)]) N).length = N := tab_len _ _
  cases hT with
  | nil e =>
    have : N = 0 := by rw [← hl, e]; rfl
    subst this
    exact ⟨rfl, fun i hi => absurd hi (by omega)⟩
  | own id c lt =>
    rw [hl]
    refine ⟨by simp [kLen, alen], fun i hi => ⟨_, kIdxA_rsl (by omega) (by omega), ?_⟩⟩
    have e := rows_get (tab (fun j => [I (f j)]) N) 1 (fun r hr => by
      obtain ⟨j, hj⟩ := List.mem_iff_getElem?.1 hr
      rw [tab_get] at hj
      split at hj
      · cases hj; rfl
      · cases hj) i 0 [I (f i)] (by rw [tab_get, if_pos hi]) (by omega)
    rw [kLd1_ptr c (v := I (f i))]
    rw [show 0 + (i : Int).toNat * 1 = i * 1 + 0 by omega, e]; rfl
inductive L3 (A C : AV) (N : Nat) (off W H : Int) (hs : Nat → Int) (T : AV) : Nat → List AV → AH → Prop
  | mk {m : Nat} {g : AH} (y : Int) : y + m = H + 5 → -5 ≤ y → g.H.get 0 = some (.glob 0 props) → RL' g (tab (fun j => [I (tp hs j)]) N) 1 T → L3 A C N off W H hs T m [A, I off, I W, I H, T, C, I y] g
inductive L4 (A C : AV) (N : Nat) (off W H y : Int) (hs : Nat → Int) (T : AV) : Nat → List AV → AH → Prop
  | mk {m : Nat} {g : AH} (i : Nat) : i + m = N → (i = 0 ∨ (0 ≤ y ∧ y < H)) → g.H.get 0 = some (.glob 0 props) → RL' g (tab (fun j => [I (tp hs j)]) N) 1 T → L4 A C N off W H y hs T m [A, I off, I W, I H, T, C, I y, I (wantF hs off y i), I i] g
theorem law_c {A : AV} {N : Nat} {x : Nat → Int} (hA : Hts A N x) (off0 w0 h0 : Int) {h : AH} (hg : h.H.get 0 = some (.glob 0 props)) (hn : 0 < h.nx) :
    CallsA Tryz.prog 3 [A, I off0, I w0, I h0] h fun v' h' => v' = .bool true ∧ h'.H.get 0 = some (.glob 0 props) := by
  refine C3 (tU_ok _) ?_
  obtain ⟨off, ho1, ho⟩ := k500 h off0
  have hW := a127_bd w0
  have hH := a127_bd h0
  simp (disch := first | (simp; done) | omega | (simp only [nx_add, nx_set, nx_kill, nx_mk, nx_emp]; omega) | fail) [g3, (hA h hg).1]
  refine ⟨fun _ => hg, fun hN => ?_⟩
  simp only [ho1, wk_some]
  generalize eW : 10 + a127 w0 = W
  generalize eH : 10 + a127 h0 = H
  have hW' : 10 ≤ W ∧ W ≤ 137 := by omega
  have hH' : 10 ≤ H ∧ H ≤ 137 := by omega
  clear hW hH eW eH
  have hN' : N ≤ 20 := by omega
  simp (disch := first | (simp; done) | omega | (simp only [nx_add, nx_set, nx_kill, nx_mk, nx_emp]; omega) | fail) [g3_s13]
  refine ⟨L1 A N h.nx off W H, N, ?_, ?_⟩
  · refine .mk 0 .nilsl (by omega) ?_ (by simp) (by simp) hn (.nil rfl) (by simp) (fun _ => rfl)
    rw [get_set, if_neg (by omega), get_add, if_neg (by omega)]; exact hg
  rintro m vs g ⟨i, K, him, g0, gv, lv, v0, hK, hK2, hK3⟩
  have hl := (hA g g0).1
  cases m with
  | zero =>
    obtain rfl : i = N := by omega
    simp (disch := first | (simp; done) | omega | (simp only [nx_add, nx_set, nx_kill, nx_mk, nx_emp]; omega) | fail) [g3_l1, hl, g3_j22, g3_c21, gv]
    have hfK : Frz g false K (opt (tab (fun _ => kidV) i)) := by
      rcases opt_tab (α := AV) (fun _ => kidV) i with ⟨z, e⟩ | ⟨z, e⟩
      · rw [e, hK3 z]; exact .nilsl0
      · rw [e]
        exact hK.frz (fun r hr => by
          obtain ⟨j, hj⟩ := List.mem_iff_getElem?.1 hr
          rw [tab_get] at hj
          split at hj
          · cases hj; rfl
          · cases hj) (fun r hr j d hd => by
          obtain ⟨k, hj⟩ := List.mem_iff_getElem?.1 hr
          rw [tab_get] at hj
          split at hj
          · cases hj; exact frzL_cls kidV rfl j d hd
          · cases hj)
    refine sD (build_d hN' g0 hfK) ?_
    have lv0 : 0 < g.nx := by omega
    clear hK hK2 hK3 hfK gv lv v0
    simp (disch := first | (simp; done) | omega | (simp only [nx_add, nx_set, nx_kill, nx_mk, nx_emp]; omega) | fail) [g3_s12, treeS]
    generalize hQ : AH.set _ g.nx _ = Q
    have q0 : Q.H.get 0 = some (.glob 0 props) := by
      have : 0 < g.nx := lv0
      rw [← hQ, get_set, if_neg (by omega), get_add, if_neg (by omega)]; exact g0
    have qt : Q.cellsAt g.nx = some [I 1, I (i + 2 : Nat), .psl (rootN i :: tab kidN i)] := by rw [← hQ]; simp
    have qn : Q.nx = g.nx + 1 := by rw [← hQ]; simp
    clear hQ
    simp (disch := first | (simp; done) | omega | (simp only [nx_add, nx_set, nx_kill, nx_mk, nx_emp]; omega) | fail) [g3_s11, qt]
    have cd := casc_d hN' Q
    simp only [aK, treeS] at cd
    refine sD cd ?_
    simp (disch := first | (simp; done) | omega | (simp only [nx_add, nx_set, nx_kill, nx_mk, nx_emp]; omega) | fail) [g3_s10]
    have lt0 : 0 < g.nx := lv0
    obtain ⟨hs, hhs⟩ : ∃ hs : Nat → Int, hs = fun i => a31 (x i) := ⟨_, rfl⟩
    have hh : Hs hs := fun i => by rw [hhs]; exact a31_bd _
    refine ⟨L2 A i g.nx Q.nx off W H hs, i, ?_, ?_⟩
    · refine .mk 0 (.rsl (Q.nx + 1) 0 0 1) (by omega) ?_ ?_ ?_ (by omega) (by simp only [nx_add]; omega) lt0 ?_ (fun id o k s he => by cases he; omega)
      · rw [get_add, if_neg (by simp only [nx_add]; omega), get_add, if_neg (by omega)]; exact q0
      · exact (cellsAt_congr (by rw [get_add, if_neg (by simp only [nx_add]; omega), get_add, if_neg (by omega)])).trans qt
      · rw [← stC_eq]
        refine (cellsAt_congr (by rw [get_add, if_neg (by simp only [nx_add]; omega)])).trans ?_
        simp
      · exact RL'.own (rows := []) (z := 1) _ (by simp) (by simp)
    clear q0 qt qn cd g0 hl him ho1
    rintro m vs g2 ⟨k, T, hkm, g0, gt, gs, l1, l2, l3, hT, hT2⟩
    have hl := (hA g2 g0).1
    cases m with
    | zero =>
      obtain rfl : k = i := by omega
      simp (disch := first | (simp; done) | omega | (simp only [nx_add, nx_set, nx_kill, nx_mk, nx_emp]; omega) | fail) [g3_l2, hl, g3_j20, g3_c19, gt]
      generalize hQ : AH.add _ _ = Q3
      have c0 : Q3.cellsAt g2.nx = some [I 16, I 12, I 4, I 0, I 8, .nilsl, .nilsl, .nilsl] := by rw [← hQ]; simp
      have cg : ∀ j, j < g2.nx → Q3.H.get j = g2.H.get j := fun j hj => by rw [← hQ, get_add, if_neg (by omega)]
      have cn : Q3.nx = g2.nx + 1 := by rw [← hQ]; simp
      clear hQ
      have hst : Q3.cellsAt Q.nx = some (tab (stc hs) (k + 1)).flatten := by rw [← stp_end]; exact (cellsAt_congr (cg _ l2)).trans gs
      have g30 : Q3.H.get 0 = some (.glob 0 props) := (cg 0 (by omega)).trans g0
      have gt3 := (cellsAt_congr (cg g.nx (by omega))).trans gt
      have hF : Frz Q3 false (.rsl g2.nx 0 1 8) fontS := frz_rows (rows := [[I 16, I 12, I 4, I 0, I 8, .nilsl, .nilsl, .nilsl]]) (by simpa using c0) (by simp) (fun r hr j d hd => by
        rw [List.mem_singleton.1 hr] at hd
        exact frzL_cls [I 16, I 12, I 4, I 0, I 8, .nilsl, .nilsl, .nilsl] rfl j d hd)
      have cd := comp_d hN' hh hW' hH' g30 (st_frz hst) hF
      simp only [treeS] at cd
      refine sD cd ?_
      clear cd
      simp (disch := first | (simp; done) | omega | (simp only [nx_add, nx_set, nx_kill, nx_mk, nx_emp]; omega) | fail) [g3_s9, gt3]
      generalize hQ : AH.add _ _ = Q4
      have d0 : Q4.cellsAt Q3.nx = some [I 1, I off] := by rw [← hQ]; simp
      have dg : ∀ j, j < Q3.nx → Q4.H.get j = Q3.H.get j := fun j hj => by rw [← hQ, get_add, if_neg (by omega)]
      have dn : Q4.nx = Q3.nx + 1 := by rw [← hQ]; simp
      clear hQ
      have g40 : Q4.H.get 0 = some (.glob 0 props) := (dg 0 (by omega)).trans g30
      have hst4 : Q4.cellsAt Q.nx = some (tab (stc hs) (k + 1)).flatten := (cellsAt_congr (dg _ (by omega))).trans hst
      have hO : Frz Q4 false (.rsl Q3.nx 0 1 2) (offL off) := frz_rows (rows := [[I 1, I off]]) (by simpa using d0) (by simp) (fun r hr j d hd => by
        rw [List.mem_singleton.1 hr] at hd
        exact frzL_cls [I 1, I off] rfl j d hd)
      have cd := paint_d hN' hh hW' hH' ho g40 (st_frz hst4) hO
      simp only [treeS] at cd
      refine sD cd ?_
      clear cd
      have hT4 : RL' Q4 (tab (fun j => [I (tp hs j)]) k) 1 T := hT.keep (by omega) (fun id o k s he => by subst he; have := hT.lt; rw [dg id (by omega), cg id (by omega)])
      clear hO hst4 hst hF c0 cg cn dg dn d0 gt3 hT hT2 gt gs
      simp (disch := first | (simp; done) | omega | (simp only [nx_add, nx_set, nx_kill, nx_mk, nx_emp]; omega) | fail) [g3_s8]
      refine ⟨fun vs h' => vs = [A, I off, I W, I H, T, cmds (out W H off hs k), .bool false] ∧ h' = Q4, ?_, ?_⟩
      · simp (disch := first | (simp; done) | omega | (simp only [nx_add, nx_set, nx_kill, nx_mk, nx_emp]; omega) | fail) [g3_a3]
      rintro vs h5 ⟨rfl, rfl⟩
      simp (disch := first | (simp; done) | omega | (simp only [nx_add, nx_set, nx_kill, nx_mk, nx_emp]; omega) | fail) [g3_j18]
      refine ⟨L3 A (cmds (out W H off hs k)) k off W H hs T, (H + 10).toNat, .mk (-5) (by omega) (by omega) g40 hT4, ?_⟩
      clear hT4 g40
      rintro m vs h6 ⟨y, hym, hy5, h60, hT6⟩
      cases m with
      | zero =>
        have ey : ¬ y < H + 5 := by omega
        simp (disch := first | (simp; done) | omega | (simp only [nx_add, nx_set, nx_kill, nx_mk, nx_emp]; omega) | fail) [g3_l15, ey, g3_j17, g3_c16]
        exact sD (awake_d h60) ⟨rfl, h60⟩
      | succ m =>
        have ey : y < H + 5 := by omega
        simp (disch := first | (simp; done) | omega | (simp only [nx_add, nx_set, nx_kill, nx_mk, nx_emp]; omega) | fail) [g3_l15, ey]
        refine ⟨L4 A (cmds (out W H off hs k)) k off W H y hs T, k, .mk 0 (by omega) (.inl rfl) h60 hT6, ?_⟩
        clear hT6 h60
        rintro m2 vs h7 ⟨i, him2, hiy, h70, hT7⟩
        obtain ⟨tl, ta⟩ := num_at hT7
        have hik : (i : Int) < k ∨ i = k := by omega
        simp (disch := first | (simp; done) | omega | (simp only [nx_add, nx_set, nx_kill, nx_mk, nx_emp]; omega) | fail) [g3_l10]
        refine ⟨fun vs h' => vs = [A, I off, I W, I H, T, cmds (out W H off hs k), I y, I (wantF hs off y i), I i, .bool (decide (i < k) && decide (0 ≤ y) && decide (y < H))] ∧ h' = h7, ?_, ?_⟩
        · by_cases c1 : i < k <;> by_cases c2 : 0 ≤ y <;> by_cases c3 : y < H <;> simp (disch := first | (simp; done) | omega | (simp only [nx_add, nx_set, nx_kill, nx_mk, nx_emp]; omega) | fail) [g3_a4, tl, c1, c2, c3, g3_s4]
        rintro vs h8 ⟨rfl, rfl⟩
        by_cases cc : i < k ∧ 0 ≤ y ∧ y < H
        · obtain ⟨c1, c2, c3⟩ := cc
          obtain ⟨m2, rfl⟩ : ∃ q, m2 = q + 1 := ⟨m2 - 1, by omega⟩
          simp (disch := first | (simp; done) | omega | (simp only [nx_add, nx_set, nx_kill, nx_mk, nx_emp]; omega) | fail) [g3_j9, c1, c2, c3]
          have gB : (AH.mk h8.H (h8.nx + 24)).H.get 0 = some (.glob 0 props) := h70
          have hTB : RL' (AH.mk h8.H (h8.nx + 24)) (tab (fun j => [I (tp hs j)]) k) 1 T := hT7.keep (by simp only []; omega) (fun _ _ _ _ _ => rfl)
          obtain ⟨p, u1, u2⟩ := (num_at hTB).2 i c1
          obtain ⟨pA, r1, r2⟩ := (hA _ gB).2 i c1
          have ek : a31 (x i) = hs i := by rw [hhs]
          have tb := tp_bd hh i
          have tk := hh i
          refine ⟨fun vs h' => vs = [A, I off, I W, I H, T, cmds (out W H off hs k), I y, I (wantF hs off y (i + 1)), I i] ∧ h' = AH.mk h8.H (h8.nx + 24), ?_, ?_⟩
          · simp (disch := first | (simp; done) | omega | (simp only [nx_add, nx_set, nx_kill, nx_mk, nx_emp]; omega) | fail) [g3_a7]
            refine ⟨fun vs h' => vs = [A, I off, I W, I H, T, cmds (out W H off hs k), I y, I (wantF hs off y i), I i, .bool (decide (tp hs i ≤ y + off) && decide (y + off < tp hs i + hs i))] ∧ h' = AH.mk h8.H (h8.nx + 24), ?_, ?_⟩
            · by_cases b1 : tp hs i ≤ y + off <;> by_cases b2 : y + off < tp hs i + hs i <;> simp (disch := first | (simp; done) | omega | (simp only [nx_add, nx_set, nx_kill, nx_mk, nx_emp]; omega) | fail) [g3_a5, g3_s6, g3_s5, u1, u2, r1, r2, ek, b1, b2]
            rintro vs h9 ⟨rfl, rfl⟩
            by_cases b : tp hs i ≤ y + off ∧ y + off < tp hs i + hs i
            · simp (disch := first | (simp; done) | omega | (simp only [nx_add, nx_set, nx_kill, nx_mk, nx_emp]; omega) | fail) [g3_j6, b, wantF]
            · have bf : (decide (tp hs i ≤ y + off) && decide (y + off < tp hs i + hs i)) = false := by
                simp only [Bool.and_eq_false_iff, decide_eq_false_iff_not]; omega
              simp (disch := first | (simp; done) | omega | (simp only [nx_add, nx_set, nx_kill, nx_mk, nx_emp]; omega) | fail) [g3_j6, bf, wantF, b]
          rintro vs h9 ⟨rfl, rfl⟩
          simp (disch := first | (simp; done) | omega | (simp only [nx_add, nx_set, nx_kill, nx_mk, nx_emp]; omega) | fail) [g3_j8]
          have w := L4.mk (A := A) (C := cmds (out W H off hs k)) (N := k) (off := off) (W := W) (H := H) (y := y) (hs := hs) (m := m2) (i + 1) (by omega) (.inr ⟨c2, c3⟩) gB hTB
          exact ⟨m2, by omega, w⟩
        · have cf : (decide (i < k) && decide (0 ≤ y) && decide (y < H)) = false := by
            simp only [Bool.and_eq_false_iff, decide_eq_false_iff_not]; omega
          simp (disch := first | (simp; done) | omega | (simp only [nx_add, nx_set, nx_kill, nx_mk, nx_emp]; omega) | fail) [g3_j9, cf, g3_j14, g3_c13]
          refine ⟨fun vs h' => vs = [A, I off, I W, I H, T, cmds (out W H off hs k), I y, .bool false] ∧ h' = h8, ?_, ?_⟩
          · simp (disch := first | (simp; done) | omega | (simp only [nx_add, nx_set, nx_kill, nx_mk, nx_emp]; omega) | fail) [g3_a11]
            refine sD (pixel_p (out W H off hs k) ⟨3, y⟩ (out_len hN') (out_v hh hW' hH' ho hN') (by simp [okP]; omega) _) ?_
            have ew : pr ⟨3, y⟩ [true] (-1) (out W H off hs k) = wantF hs off y i := by
              rw [pr_out, colF_y hW']
              by_cases c : 0 ≤ y ∧ y < H
              · rw [if_pos c]
                have : i = k := by omega
                rw [this]
              · rw [if_neg c]
                have : i = 0 := by omega
                rw [this]; rfl
            rw [ew]
            simp (disch := first | (simp; done) | omega | (simp only [nx_add, nx_set, nx_kill, nx_mk, nx_emp]; omega) | fail) [g3_s7]
            refine sD (pixel_p (out W H off hs k) ⟨W, y⟩ (out_len hN') (out_v hh hW' hH' ho hN') (by simp [okP]; omega) _) ?_
            rw [pr_out, colF_w]
            simp (disch := first | (simp; done) | omega | (simp only [nx_add, nx_set, nx_kill, nx_mk, nx_emp]; omega) | fail) []
          rintro vs h9 ⟨rfl, rfl⟩
          simp (disch := first | (simp; done) | omega | (simp only [nx_add, nx_set, nx_kill, nx_mk, nx_emp]; omega) | fail) [g3_j12]
          have w := L3.mk (A := A) (C := cmds (out W H off hs k)) (N := k) (off := off) (W := W) (H := H) (hs := hs) (m := m) (y + 1) (by omega) (by omega) h70 hT7
          exact ⟨m, by omega, w⟩
    | succ m =>
      have hk : (k : Int) < i := by omega
      obtain ⟨p, p1, p2⟩ := (hA g2 g0).2 k (by omega)
      have ek : a31 (x k) = hs k := by rw [hhs]
      have tb := tp_bd hh k
      have tk := hh k
      simp (disch := first | (simp; done) | omega | (simp only [nx_add, nx_set, nx_kill, nx_mk, nx_emp]; omega) | fail) [g3_l2, hl, hk, p1, p2, ek]
      have d1 : ∀ h : AH, kIdxA h 23 (.rsl Q.nx 0 (i + 1) 23) (I ((k : Int) + 1)) = some (.ptr Q.nx ((k + 1) * 23), h) := fun h => by
        rw [kIdxA_rsl (by omega) (by omega)]; congr 3; omega
      have rl : ∀ r ∈ tab (stp hs k) (i + 1), r.length = 23 := fun r hr => by
        obtain ⟨j, hj⟩ := List.mem_iff_getElem?.1 hr
        rw [tab_get] at hj
        split at hj
        · cases hj; exact stp_len hs k j
        · cases hj
      have rk : (tab (stp hs k) (i + 1))[k + 1]? = some (sty0 (k + 1)) := by
        rw [tab_get, if_pos (by omega)]; unfold stp; rw [if_neg (by omega)]
      have s1 : splice (tab (stp hs k) (i + 1)).flatten ((k + 1) * 23 + 1 + 15) [I (hs k)] = some ((tab (stp hs k) (i + 1)).set (k + 1) ((sty0 (k + 1)).set 16 (I (hs k)))).flatten := splice_rows _ 23 (k + 1) 16 _ _ rl rk (by omega)
      have s2 : splice ((tab (stp hs k) (i + 1)).set (k + 1) ((sty0 (k + 1)).set 16 (I (hs k)))).flatten ((k + 1) * 23 + 1 + 1) [I ((k : Int) + 1)] = some (tab (stp hs (k + 1)) (i + 1)).flatten := by
        have := splice_rows ((tab (stp hs k) (i + 1)).set (k + 1) ((sty0 (k + 1)).set 16 (I (hs k)))) 23 (k + 1) 2 ((sty0 (k + 1)).set 16 (I (hs k))) (I ((k : Int) + 1)) (fun r hr => by
          rcases List.mem_or_eq_of_mem_set hr with h1 | h1
          · exact rl r h1
          · subst h1; rfl) (by rw [List.getElem?_set, if_pos rfl, if_pos (by rw [tab_len]; omega)]) (by omega)
        rw [List.set_set, stp_step] at this
        exact this
      have gne : ¬ g.nx = Q.nx := by omega
      simp (disch := first | (simp; done) | omega | (simp only [nx_add, nx_set, nx_kill, nx_mk, nx_emp]; omega) | fail) [d1, gs, s1, g3_s3]
      simp (disch := first | (simp; done) | omega | (simp only [nx_add, nx_set, nx_kill, nx_mk, nx_emp]; omega) | fail) [d1, s2]
      generalize hG : AH.set (AH.set _ _ _) _ _ = G
      have gg : ∀ j, j ≠ Q.nx → G.H.get j = g2.H.get j := fun j hj => by rw [← hG, get_set, if_neg hj, get_set, if_neg hj]
      have gc : G.cellsAt Q.nx = some (tab (stp hs (k + 1)) (i + 1)).flatten := by rw [← hG]; simp
      have gn : G.nx = g2.nx := by rw [← hG]; simp
      clear hG
      simp (disch := first | (simp; done) | omega | (simp only [nx_add, nx_set, nx_kill, nx_mk, nx_emp]; omega) | fail) [g3_s2]
      generalize hR : AH.add _ _ = R
      have rn : R.nx = G.nx + 1 := by rw [← hR]; simp
      have rc : R.cellsAt G.nx = some [I (tp hs k)] := by rw [← hR]; simp
      have rg : ∀ j, j < G.nx → R.H.get j = G.H.get j := fun j hj => by rw [← hR, get_add, if_neg (by omega)]
      clear hR
      obtain ⟨R2, e1, e2, e3, e4⟩ := hT.app (g := R) (q := G.nx) (b := 8) (row := [I (tp hs k)]) (fun r hr => by
        obtain ⟨j, hj⟩ := List.mem_iff_getElem?.1 hr
        rw [tab_get] at hj
        split at hj
        · cases hj; rfl
        · cases hj) rfl rfl (fun id o k s he => by
          have h1 := hT2 _ _ _ _ he
          subst he
          have h2 := hT.lt
          rw [rg id (by omega), gg id (by omega)]) (by omega) rc (by simp [roomy, tab_len]; omega)
      simp (disch := first | (simp; done) | omega | (simp only [nx_add, nx_set, nx_kill, nx_mk, nx_emp]; omega) | fail) [e1]
      have w := L2.mk (A := A) (N := i) (tx := g.nx) (sid := Q.nx) (off := off) (W := W) (H := H) (hs := hs) (m := m) (g := R2) (k + 1) (.rsl R.nx 0 (tab (fun j => [I (tp hs j)]) k ++ [[I (tp hs k)]]).length 1) (by omega)
        (by rw [e4 0 (by omega) (fun o k s he => by have := hT2 _ _ _ _ he; omega), rg 0 (by omega), gg 0 (by omega)]; exact g0)
        ((cellsAt_congr (by rw [e4 g.nx (by omega) (fun o k s he => by have := hT2 _ _ _ _ he; omega), rg _ (by omega), gg _ (by omega)])).trans gt)
        ((cellsAt_congr (by rw [e4 Q.nx (by omega) (fun o k s he => by have := hT2 _ _ _ _ he; omega), rg _ (by omega)])).trans gc) l1 (by omega) l3 e2 (fun id o k s he => by cases he; omega)
      refine ⟨m, by omega, ?_⟩
      simpa [tp] using w
  | succ m =>
    have hi : (i : Int) < N := by omega
    simp (disch := first | (simp; done) | omega | (simp only [nx_add, nx_set, nx_kill, nx_mk, nx_emp]; omega) | fail) [g3_l1, hl, hi, gv]
    generalize hQ : AH.add _ _ = Q
    have qn : Q.nx = g.nx + 1 := by rw [← hQ]; simp
    have qc : Q.cellsAt g.nx = some kidV := by rw [← hQ]; simp [kidV]
    have qg : ∀ j, j < g.nx → Q.H.get j = g.H.get j := fun j hj => by rw [← hQ, get_add, if_neg (by omega)]
    clear hQ
    obtain ⟨Q2, e1, e2, e3, e4⟩ := hK.app (q := g.nx) (b := 96) (row := kidV) (fun r hr => by
      obtain ⟨j, hj⟩ := List.mem_iff_getElem?.1 hr
      rw [tab_get] at hj
      split at hj
      · cases hj; rfl
      · cases hj) rfl rfl (fun id o k s he => qg id (by subst he; exact hK.lt)) (by omega) qc (by simp [roomy, tab_len]; omega)
    have e5 : Q2.cellsAt h.nx = some [I 8, .str [], .nilsl, .nilsl, K] := (cellsAt_congr ((e4 h.nx (by omega) (fun o k s he => by have := hK2 _ _ _ _ he; omega)).trans (qg _ lv))).trans gv
    simp (disch := first | (simp; done) | omega | (simp only [nx_add, nx_set, nx_kill, nx_mk, nx_emp]; omega) | fail) [e1, g3_s1, e5]
    refine ⟨m, by omega, ?_⟩
    have w := L1.mk (A := A) (N := N) (vx := h.nx) (off := off) (W := W) (H := H) (m := m) (g := Q2.set h.nx (.cells [I 8, .str [], .nilsl, .nilsl, .rsl Q.nx 0 (tab (fun _ => kidV) i ++ [kidV]).length 5])) (i + 1) (.rsl Q.nx 0 (tab (fun _ => kidV) i ++ [kidV]).length 5) (by omega)
      (by rw [get_set, if_neg (by omega), e4 0 (by omega) (fun o k s he => by have := hK2 _ _ _ _ he; omega), qg 0 (by omega)]; exact g0) (by simp) (by simp only [nx_set]; omega) hn
      (e2.keep (by simp) (fun id o k s he => by cases he; rw [get_set, if_neg (by omega)])) (fun id o k s he => by cases he; omega) (by omega)
    simpa using w
end Go.Proofs.YtfegfialedlfcaaGreatDoor
end
noncomputable section
namespace Go.Eng
open Go.RowKit
/-- a cell of a plain variable that reads as a number -/
theorem alias_get {hp hp' : Array Obj} {L L' : Nat → Prop} {β β' : Bl} {cs : List AV} {cur : Array Value} (hcs : RL hp L β cs cur.toList) (hpl : cs.all plainAV = true) {k : Nat} (hk : k < cur.size) {n : Int} (hv : VR hp' L' β' (.int .i64 n) cur[k]) : cs[k]? = some (.int .i64 n) := by
  have hl2 := hcs.1
  simp at hl2
  have hco : cs[k]? = some cs[k] := List.getElem?_eq_getElem (by omega)
  have h6 := hcs.2 k _ cur[k] hco (by simp [hk])
  have hpc : plainAV cs[k] = true := List.all_eq_true.1 hpl _ (List.getElem_mem _)
  rw [hco]
  congr 1
  generalize cs[k]'(by omega) = pc at *
  generalize cur[k] = cv at *
  cases hv
  cases pc <;> simp [plainAV] at hpc <;> cases h6
  rfl
/-- a law that reads a laid variable and returns true, run where the variable is laid -/
theorem run_globA {P : Program} {f g : Nat} {pargs l : List AV} {gs : List Nat} (hc : CallsA P f pargs (gH g l gs.length) fun v h => v = .bool true ∧ h.H.get g = some (.glob g l)) (hpl : l.all plainAV = true)
    {W : World} {cargs : Array Value} {cur : Array Value} {e : TypeId} {fz : Nat × Nat} (hb : W.heap[g]? = some (.cells cur e fz)) (hcs : RL W.heap (fun _ => False) noB l cur.toList)
    (hR : RL W.heap (LL (fun _ => False) (gBt g gs) (gH g l gs.length).H) (gBt g gs) pargs cargs.toList) :
    Calls P f cargs W fun e W' => e = .returned (.bool true) ∧ Below W.heap.size W W' := by
  have hlt := lt_of_get hb
  have hpv : ∀ (i : Nat) (c : AV) (hp : Array Obj) (L : Nat → Prop) (β : Bl) (v : Value), l[i]? = some c → cur[i]? = some v → VR hp L β c v := by
    intro i c hp L β v hc hv
    have h1 := hcs.2 i c v hc (by simpa using hv)
    have hpc : plainAV c = true := List.all_eq_true.1 hpl c (List.mem_of_getElem? hc)
    cases c <;> simp [plainAV] at hpc <;> cases h1
    · exact .bool _
    · exact .int _ _
  have hS : SimH (fun _ => False) (gBt g gs) (gH g l gs.length).H (gH g l gs.length).nx W := by
    refine ⟨fun id hid => ?_, fun id b base hb' => ?_, fun b hb => hb.elim, fun id o ho => ?_, fun id id' o o' b x y h1 h2 _ _ => (gH_get h1).1.trans (gH_get h2).1.symm⟩
    · simp only [gH] at hid
      unfold gBt
      rw [if_neg (by omega), if_pos (by omega), List.getElem?_eq_none (by omega)]; rfl
    · unfold gBt at hb'
      split at hb'
      · cases hb'; exact hlt
      · split at hb'
        · rw [Option.map_eq_some_iff] at hb'
          obtain ⟨n, _, he⟩ := hb'
          cases he; exact hlt
        · cases hb'
    · obtain ⟨rfl, rfl⟩ := gH_get ho
      refine ⟨id, 0, by simp [gBt], fun hf => hf.elim, rfl, rfl, cur, e, fz, hb, ?_, fun i c v hc hv => hpv i c _ _ _ v hc hv⟩
      have := hcs.1
      simp at this
      try omega
  refine (hc.2 (fun _ => False) (gBt g gs) W cargs hS hR).mono ?_
  rintro ee W' ⟨cv, v, h2, β', rfl, ⟨rfl, hg⟩, hS', hv, ht⟩
  cases hv
  refine ⟨rfl, ht.os, ht.tape, ht.output, ht.size, fun k hk => ?_⟩
  by_cases hkg : k = g
  · subst hkg
    obtain ⟨b, base, h1, _, h0, h3, cur', e', fz', h4, h5, h6⟩ := hS'.obj k _ hg
    subst h3
    obtain ⟨cur2, fz2, h7, h8, h9⟩ := ht.shape _ _ _ _ hb
    obtain rfl := h9 ⟨_, _, _, hg, h1⟩
    rw [h7] at h4
    cases h4
    rw [h7, hb]
    have : cur' = cur := by
      apply Array.ext h8
      intro i hi1 hi2
      have hlen := hcs.1
      simp at hlen
      have hc : l[i]? = some l[i] := List.getElem?_eq_getElem (by omega)
      exact plain_eq (List.all_eq_true.1 hpl _ (List.mem_of_getElem? hc)) (h6 i _ _ hc (Array.getElem?_eq_getElem hi1)) (hpv i _ W.heap (fun _ => False) noB _ hc (Array.getElem?_eq_getElem hi2))
    rw [this]
  · refine ht.keep k hk ?_
    rintro ⟨id, o, base, h1, h2⟩
    obtain ⟨rfl, rfl⟩ := gH_get h1
    simp [gBt] at h2
    exact hkg h2.1.symm
end Go.Eng
end
noncomputable section
namespace Go.Proofs.YtfegfialedlfcaaGreatDoor
open Go.Eng Go.RowKit
/-! the list of heights, wherever it lies -/
def ints (l : List Int) : AV := .psl (l.map fun n => [I n])
theorem hts_psl (l : List Int) : Hts (ints l) l.length (fun i => l.getD i 0) := fun g _ => by
  refine ⟨by simp [ints, kLen, alen], fun i hi => ?_⟩
  have e : (l.map fun n => [I n])[i]? = some [I l[i]] := by rw [List.getElem?_map, List.getElem?_eq_getElem hi]; rfl
  refine ⟨.pptr [I l[i]], kIdxA_psl e rfl, ?_⟩
  have e2 : l.getD i 0 = l[i] := by simp [hi]
  show _ = some (I (l.getD i 0), g)
  rw [e2]; rfl
theorem hts_gsl {o n : Nat} {x : Nat → Int} (hx : ∀ i, i < n → props[o + i]? = some (I (x i))) : Hts (.gsl 0 o n) n x := fun g hg => by
  refine ⟨by simp [kLen, alen], fun i hi => ⟨.gptr 0 (o + i), ?_, ?_⟩⟩
  · simp [kIdxA, aidxA, aix_int (show (0 : Int) ≤ i by omega) (show (i : Int) < n by omega)]
  · have e : g.globAt 0 = some props := by unfold AH.globAt; rw [hg]; simp
    simp [kLd1, aload1, e, hx i hi]
theorem lt_add {o i n c : Nat} (h : o + n * 1 ≤ c) (hi : i < n) : o + i < c := by omega
theorem alias_at {W : World} {cur : Array Value} (hcs : RL W.heap (fun _ => False) noB props cur.toList) {o i : Nat} (hlt : o + i < cur.size) {hp : Array Obj} {L : Nat → Prop} {β : Bl} {xs : List (List AV)} (h : ∀ (i : Nat) (x : List AV) (j : Nat) (c : AV) (v : Value), xs[i]? = some x → x[j]? = some c → cur[o + i * 1 + j]? = some v → VR hp L β c v) {n m : Int} (hx : xs[i]? = some [I n]) (hm : m = n) : props[o + i]? = some (I m) := by
  subst hm
  exact alias_get hcs hpl hlt (h i _ 0 (I m) cur[o + i] hx rfl (by simp [hlt]))
/-- the run whatever the list is -/
theorem run_c {W : World} {cur : Array Value} {e : TypeId} {fz : Nat × Nat} (hb : W.heap[0]? = some (.cells cur e fz)) (hcs : RL W.heap (fun _ => False) noB props cur.toList) {l : List Int} {v : Value} (hv : VR W.heap (fun _ => False) noB (ints l) v) (a b c : Int) :
    Calls Tryz.prog 3 #[v, .int .i64 a, .int .i64 b, .int .i64 c] W fun e W' => e = .returned (.bool true) ∧ Below W.heap.size W W' := by
  have main : ∀ (A : AV) (N : Nat) (x : Nat → Int), Hts A N x → VR W.heap (LL (fun _ => False) (gBt 0 []) (gH 0 props 0).H) (gBt 0 []) A v → Calls Tryz.prog 3 #[v, .int .i64 a, .int .i64 b, .int .i64 c] W fun e W' => e = .returned (.bool true) ∧ Below W.heap.size W W' := fun A N x hA hv =>
    run_globA (gs := []) (law_c hA a b c (h := gH 0 props 0) (by simp [gH, PM.get_put]) (by simp [gH])) hpl hb hcs (.cons hv (.cons (.int _ _) (.cons (.int _ _) (.cons (.int _ _) .nil))))
  have hlive : ∀ x, LL (fun _ => False) (gBt 0 []) (gH 0 props 0).H x → x = 0 := by
    rintro x (hf | ⟨id, o, ba, h1, h2⟩)
    · exact hf.elim
    · obtain ⟨rfl, _⟩ := gH_get h1
      simp [gBt] at h2; exact h2.1.symm
  unfold ints at hv
  generalize hxs : (l.map fun n : Int => [I n]) = xs at hv
  cases hv with
  | psl0 ad cap =>
    refine main (ints []) 0 _ (hts_psl []) (.psl0 _ _)
  | psl _ z b o cap cur2 e2 fz2 hbk hL hs hz hc h =>
    by_cases hb0 : b = 0
    · subst hb0
      rw [hbk] at hb
      cases hb
      have hlen : xs.length = l.length := by rw [← hxs]; simp
      rcases Nat.eq_zero_or_pos l.length with h0 | hpos
      · have : xs = [] := List.length_eq_zero_iff.1 (hlen.trans h0)
        subst this
        exact main (ints []) 0 _ (hts_psl []) (.psl0 _ _)
      have hrow : ∀ i (hi : i < l.length), xs[i]? = some [I l[i]] := fun i hi => by
        rw [← hxs, List.getElem?_map, List.getElem?_eq_getElem hi]; rfl
      have z1 : z = 1 := (hz 0 _ (hrow 0 hpos)).symm
      subst z1
      rw [hlen] at hs hc main ⊢
      refine main (.gsl 0 o l.length) l.length (fun i => l.getD i 0) (hts_gsl fun i hi => ?_) (.gsl 0 o l.length cap hc)
      exact alias_at hcs (lt_add hs hi) h (hrow i hi) (by simp [hi])
    · refine main (ints l) l.length _ (hts_psl l) ?_
      unfold ints
      rw [hxs]
      refine .psl xs z b o cap cur2 e2 fz2 hbk (fun hq => hb0 (hlive b hq)) hs hz hc fun i x j c v q1 q2 q3 => ?_
      have := h i x j c v q1 q2 q3
      rw [← hxs, List.getElem?_map] at q1
      cases hq : l[i]? with
      | none => rw [hq] at q1; cases q1
      | some n =>
        rw [hq] at q1; cases q1
        cases j with
        | zero => cases q2; cases this; exact .int _ _
        | succ j => simp at q2
end Go.Proofs.YtfegfialedlfcaaGreatDoor
end
