/- What the damage between two lists of commands is in the program. Outside the damage of two lists of commands every pixel is the same. What the reference's image of a rectangle is: that of the program. What the reference's difference of two lists is: that of the program. -/
import Derived.Test.YtpnekpbehcbmkaaD7T
set_option linter.unusedSimpArgs false
set_option linter.unusedVariables false
set_option linter.unnecessarySimpa false
noncomputable section
namespace Go.Proofs.Ytpnekpbehcbmkaa
open Go.Eng
def flatR (l : List Rect) : List AV := (l.map Rect.enc).flatten
theorem flatR_frz (h : AH) (n : Bool) (l : List Rect) : FrzL h n (flatR l) (flatR l) := by
  rw [FrzL_iff]
  refine ⟨rfl, fun i c d h1 h2 => ?_⟩
  rw [h1] at h2; cases h2
  have hm := List.mem_of_getElem? h1
  obtain ⟨x, hx, hr⟩ := List.mem_flatten.1 hm
  obtain ⟨r, _, rfl⟩ := List.mem_map.1 hx
  simp [Rect.enc] at hr
  rcases hr with rfl | rfl | rfl | rfl <;> exact .int _ _
theorem everything_d (h : AH) : CallD Try.prog 51 [] h (.rsl h.nx 0 4 4) (h.add (.cells (flatR evr))) := by
  refine C51 (tb_ok []) ?_
  simp (disch := first | (simp; done) | omega | (simp only [nx_add, nx_set, nx_kill, nx_mk, nx_emp]; omega) | fail) [g51]
  simp [splice]
  rfl
def e51 : QE Try.prog := ⟨51, fun args h Q => args = [] ∧ Q (.rsl h.nx 0 4 4) (h.add (.cells (flatR evr))), fun args h Q ⟨h1, h2⟩ => by subst h1; exact ⟨_, _, everything_d h, h2⟩⟩
@[simp ↓] theorem e51_h (tl : List (QE Try.prog)) (h : AH) (Q : AV → AH → Prop) : tb (e51 :: tl) 51 [] h Q = Q (.rsl h.nx 0 4 4) (h.add (.cells (flatR evr))) := by
  rw [tb_here e51 tl 51 _ _ _ rfl]
  exact propext ⟨fun h => h.2, fun h => ⟨rfl, h⟩⟩
@[simp ↓] theorem e51_t (tl : List (QE Try.prog)) (f : Nat) (args : List AV) (h : AH) (Q : AV → AH → Prop) (hf : 51 ≠ f) : tb (e51 :: tl) f args h Q = tb tl f args h Q := tb_there e51 tl f args h Q hf
def exV (R : Option (List Rect)) (h : AH) : AV := match R with
  | none => .tup [.nilsl, .bool false]
  | some [] => .tup [.nilsl, .bool true]
  | some (r :: o) => .tup [.rsl h.nx 0 (o.length + 1) 4, .bool true]
def exH (R : Option (List Rect)) (h : AH) : AH := match R with
  | none => h
  | some [] => h
  | some (r :: o) => h.add (.cells (flatR (r :: o)))
theorem frz_args3 {h : AH} {a b : AV} {n m : Int} (h1 : Frz h false a b) : ∀ (i : Nat) (x y : AV), [a, I n, I m][i]? = some x → [b, I n, I m][i]? = some y → Frz h false x y := by
  intro i x y hx hy
  match i with
  | 0 => simp at hx hy; subst hx; subst hy; exact h1
  | 1 => simp at hx hy; subst hx; subst hy; exact .int _ _
  | 2 => simp at hx hy; subst hx; subst hy; exact .int _ _
  | i + 3 => simp at hx
theorem extents_d (l : List Cmd) (f t : Nat) (hl : SmL l) (hv : validate l = 0) (hf : f ≤ 100000) (ht : t ≤ 100000) (h : AH) : CallD Try.prog 54 [cmds l, I f, I t] h (exV (exts f t [] 0 l []) h) (exH (exts f t [] 0 l []) h) := by
  have hc := extents_e l f t hl hv hf ht
  generalize exts f t [] 0 l [] = R at hc ⊢
  match R with
  | none => exact frame (n := true) hc (fun v' h' (hr : v' = _) => by subst hr; exact .tup _ _ rfl (fun i c d k1 k2 => by
      match i with
      | 0 => simp at k1 k2; subst k1; subst k2; exact .nilsl0
      | 1 => simp at k1 k2; subst k1; subst k2; exact .bool _
      | i + 2 => simp at k1)) (.inr ⟨rfl, rfl, frz_args3 (cmds_pl l h)⟩)
  | some [] => exact frame (n := true) hc (fun v' h' (hr : v' = _) => by subst hr; exact .tup _ _ rfl (fun i c d k1 k2 => by
      match i with
      | 0 => simp at k1 k2; subst k1; subst k2; exact .nilsl0
      | 1 => simp at k1 k2; subst k1; subst k2; exact .bool _
      | i + 2 => simp at k1)) (.inr ⟨rfl, rfl, frz_args3 (cmds_pl l h)⟩)
  | some (r :: o) => exact frameO hc (fun v' h' ⟨id, hv', hc'⟩ => ⟨id, _, hc', flatR_frz _ _ _, by subst hv'; exact .two _ _ _ _ _ (.bool _)⟩) rfl (frz_args3 (cmds_pl l h))
def e54 : QE Try.prog := ⟨54, fun args h Q => ∃ l f t, args = [cmds l, I (f : Nat), I (t : Nat)] ∧ (SmL l ∧ validate l = 0 ∧ f ≤ 100000 ∧ t ≤ 100000) ∧ Q (exV (exts f t [] 0 l []) h) (exH (exts f t [] 0 l []) h), fun args h Q ⟨l, f, t, h1, ⟨h2, h3, h4, h5⟩, h6⟩ => by
  subst h1; exact ⟨_, _, extents_d l f t h2 h3 h4 h5 h, h6⟩⟩
theorem e54_h {tl : List (QE Try.prog)} {l : List Cmd} {f t : Nat} {h : AH} {Q : AV → AH → Prop} (hx : SmL l ∧ validate l = 0 ∧ f ≤ 100000 ∧ t ≤ 100000) (hq : Q (exV (exts f t [] 0 l []) h) (exH (exts f t [] 0 l []) h)) : tb (e54 :: tl) 54 [cmds l, I f, I t] h Q := by
  rw [tb_here e54 tl 54 _ _ _ rfl]
  exact ⟨l, f, t, rfl, hx, hq⟩
@[simp ↓] theorem e54_t (tl : List (QE Try.prog)) (f : Nat) (args : List AV) (h : AH) (Q : AV → AH → Prop) (hf : 54 ≠ f) : tb (e54 :: tl) f args h Q = tb tl f args h Q := tb_there e54 tl f args h Q hf
def dSt (a b : List Cmd) : Bool := ((a.drop (dAt a b)).take (a.length - dTl a b - dAt a b)).any strct || (dL a b).any strct
def dF (a b : List Cmd) : Nat := if dSt a b then 0 else dAt a b
def dTa (a b : List Cmd) : Nat := if dSt a b then a.length else a.length - dTl a b
def dTb (a b : List Cmd) : Nat := if dSt a b then b.length else b.length - dTl a b
def dmg (a b : List Cmd) : List Rect := if eqD a b then [] else if validate a = 0 ∧ validate b = 0 then
    (match exts (dF a b) (dTa a b) [] 0 a [], exts (dF a b) (dTb a b) [] 0 b [] with
    | some x, some y => x ++ y
    | _, _ => evr)
  else evr
theorem valid_len {l : List Cmd} (h : validate l = 0) : l.length ≤ 20000 := by
  unfold validate at h
  split at h
  · cases h
  · omega
theorem dj {vx vy : AV} {bx bY : Bool} {h : AH} {Q : AV → AH → Prop} (h1 : bx = true → bY = true → wk (kApp h 4 32 vx vy) Q) (h2 : bx = false ∨ bY = false → Q (.rsl h.nx 0 4 4) (h.add (.cells (flatR evr)))) : g23_s3 (tb [e51, e54, e27, e13, e53]) vx (.bool bx) (.tup [vy, .bool bY]) h Q := by
  simp (disch := first | (simp; done) | omega | (simp only [nx_add, nx_set, nx_kill, nx_mk, nx_emp]; omega) | fail) [g23_s3]
  refine ⟨fun vs h' => vs = [vx, vy, .bool (!(bx && bY))] ∧ h' = h, ?_, ?_⟩
  · cases bx <;> cases bY <;> simp (disch := first | (simp; done) | omega | (simp only [nx_add, nx_set, nx_kill, nx_mk, nx_emp]; omega) | fail) [g23_a4]
  · rintro vs h' ⟨rfl, rfl⟩
    cases bx <;> cases bY <;> simp (disch := first | (simp; done) | omega | (simp only [nx_add, nx_set, nx_kill, nx_mk, nx_emp]; omega) | fail) [g23_j5]
    · exact h2 (.inl rfl)
    · exact h2 (.inl rfl)
    · exact h2 (.inr rfl)
    · exact h1 rfl rfl
theorem frz_flat {h : AH} {id : Nat} {l : List Rect} (hc : h.cellsAt id = some (flatR l)) : Frz h true (.rsl id 0 l.length 4) (rects l) :=
  frz_rows Rect.len hc (fun r _ c hc => by simp [Rect.enc] at hc; rcases hc with rfl | rfl | rfl | rfl <;> exact .int _ _)
theorem frz_ev (h : AH) : Frz (h.add (.cells (flatR evr))) true (.rsl h.nx 0 4 4) (rects evr) := frz_flat (l := evr) (by simp)
theorem flat_cut (l : List Rect) : cut (flatR l) 0 (l.length * 4) = some (flatR l) := by
  have := cut_zero_app (α := flatR l) (b := []) (n := l.length * 4) (by unfold flatR; rw [flat_len Rect.len])
  rwa [List.append_nil] at this
theorem flat_ones (l : List Rect) : ones (flatR l) = true := ones_flat Rect.ones l
theorem kApp_nn (h : AH) (z b : Nat) : kApp h z b .nilsl .nilsl = some (.nilsl, h) := Eq.trans rfl rfl
theorem kApp_rn (h : AH) (id : Nat) (l : List Rect) (hc : h.cellsAt id = some (flatR l)) (hl : l.length ≤ 100000) : kApp h 4 32 (.rsl id 0 l.length 4) .nilsl = some (.rsl h.nx 0 l.length 4, (h.kill id).add (.cells (flatR l))) := by
  have h3 : roomy (l.length + 0) 32 = true := roomy_ok _ _ (by omega) (by omega)
  have h3' : roomy l.length 32 = true := h3
  simp [kApp, aapp, acells, alen, hc, flat_cut l, ones, h3']
theorem kApp_nr' (h : AH) (id : Nat) (l : List Rect) (hc : h.cellsAt id = some (flatR l)) (hl : l.length ≤ 100000) (h0 : l.length ≠ 0) : kApp h 4 32 .nilsl (.rsl id 0 l.length 4) = some (.rsl h.nx 0 l.length 4, h.add (.cells (flatR l))) := by
  have h3 : roomy l.length 32 = true := roomy_ok _ _ (by omega) (by omega)
  rw [kApp_nr _ _ _ _ _ _ h0]
  simp [hc, flat_cut l, flat_ones l, h3]
theorem kApp_rr' (h : AH) (id id2 : Nat) (l l2 : List Rect) (hc : h.cellsAt id = some (flatR l)) (hc2 : h.cellsAt id2 = some (flatR l2)) (hl : l.length + l2.length ≤ 100000) : kApp h 4 32 (.rsl id 0 l.length 4) (.rsl id2 0 l2.length 4) = some (.rsl h.nx 0 (l.length + l2.length) 4, (h.kill id).add (.cells (flatR l ++ flatR l2))) := by
  have h3 : roomy (l.length + l2.length) 32 = true := roomy_ok _ _ (by omega) (by omega)
  rw [kApp_rr]
  simp [hc, hc2, flat_cut l, flat_cut l2, flat_ones l2, h3]
theorem wk_of {r : Option (AV × AH)} {v : AV} {h : AH} {k : AV → AH → Prop} (hr : r = some (v, h)) (hk : k v h) : wk r k := by subst hr; exact hk
theorem flat_app (a b : List Rect) : flatR (a ++ b) = flatR a ++ flatR b := by simp [flatR]
theorem exts_len (f t : Nat) : ∀ (l : List Cmd) (st : List (Option Tf)) (i : Nat) (out o : List Rect), exts f t st i l out = some o → o.length ≤ out.length + l.length
  | [], st, i, out, o, h => by simp [exts] at h; subst h; simp
  | c :: l, st, i, out, o, h => by
    unfold exts at h
    (repeat' (split at h))
    all_goals (try (cases h; done))
    all_goals (have := exts_len f t l _ _ _ _ h; (try simp only [List.length_append, List.length_cons, List.length_nil] at this ⊢); first | omega | (split at this <;> simp at this ⊢ <;> omega))
theorem damage_f (a b : List Cmd) (hx : Lite a ∧ Lite b) : Fresh Try.prog 23 [cmds a, cmds b] (rects (dmg a b)) := by
  refine C23 (tb_ok [e51, e54, e27, e13, e53]) ?_
  obtain ⟨ha, hb⟩ := hx
  have sa := ha.sm; have sb := hb.sm
  cases heq : eqD a b
  · have hres : dRes a b = .psl [[I (dAt a b), I ((a.length - dTl a b - dAt a b : Nat) : Int), cmds (dL a b)]] := by unfold dRes; rw [if_neg (by simp [heq])]
    simp (disch := first | (simp; done) | omega | (simp only [nx_add, nx_set, nx_kill, nx_mk, nx_emp]; omega) | fail) [g23, ha, hb, hres]
    refine ⟨fun vs h => vs = [cmds a, cmds b, dRes a b, .bool (!(decide (validate a = 0) && decide (validate b = 0)))] ∧ h = emp, ?_, ?_⟩
    · by_cases q1 : validate a = 0 <;> by_cases q2 : validate b = 0 <;> simp (disch := first | (simp; done) | omega | (simp only [nx_add, nx_set, nx_kill, nx_mk, nx_emp]; omega) | fail) [g23_a1, q1, q2, sa, sb, hres] <;> simp (disch := first | (simp; done) | omega | (simp only [nx_add, nx_set, nx_kill, nx_mk, nx_emp]; omega) | fail) [g23_s1, q1, q2, sa, sb, hres]
    rintro vs h ⟨rfl, rfl⟩
    have hix : kIdxA emp 3 (dRes a b) (I 0) = some (.pptr [I (dAt a b), I ((a.length - dTl a b - dAt a b : Nat) : Int), cmds (dL a b)], emp) := by rw [hres]; exact kIdxA_psl (i := 0) rfl rfl
    simp (disch := first | (simp; done) | omega | (simp only [nx_add, nx_set, nx_kill, nx_mk, nx_emp]; omega) | fail) [g23_j8, hix]
    refine ⟨fun hbad => ?_, fun hva hvb => ?_⟩
    · have hd : dmg a b = evr := by
        unfold dmg; rw [if_neg (by simp [heq]), if_neg (by rintro ⟨z1, z2⟩; simp [z1, z2] at hbad)]
      rw [hd]
      exact frz_rows Rect.len (l := evr) (by simp [flatR]) (fun r _ c hc => by simp [Rect.enc] at hc; rcases hc with rfl | rfl | rfl | rfl <;> exact .int _ _)
    · have hle := d_le a b
      have hlL : (dL a b).length = b.length - dTl a b - dAt a b := by unfold dL; simp; omega
      have la1 := ha.1
      have lb1 := hb.1
      have e1 : ((dAt a b : Nat) : Int) + ((a.length - dTl a b - dAt a b : Nat) : Int) = ((a.length - dTl a b : Nat) : Int) := by omega
      have e2 : ((dAt a b : Nat) : Int) + ((b.length - dTl a b - dAt a b : Nat) : Int) = ((b.length - dTl a b : Nat) : Int) := by omega
      have g1 : (Cmd.enc = Cmd.enc) := rfl
      simp (disch := first | (simp; done) | omega | (simp only [nx_add, nx_set, nx_kill, nx_mk, nx_emp]; omega) | fail) [g23_s6, e1, e2, hlL]
      simp (disch := first | (simp; done) | omega | (simp only [nx_add, nx_set, nx_kill, nx_mk, nx_emp]; omega) | fail) [g23_s5, e1, e2, hlL]
      have hsl : ∀ h, kSl h 22 (cmds a) (some (I (dAt a b))) (some (I ((a.length - dTl a b : Nat) : Int))) none = some (cmds ((a.drop (dAt a b)).take (a.length - dTl a b - dAt a b)), h) := fun h => kSl_cmds h a _ _ (by omega) (by omega)
      have sm1 : Sm ((a.drop (dAt a b)).take (a.length - dTl a b - dAt a b)) := by unfold Sm; simp; omega
      have sm2 : Sm (dL a b) := by unfold Sm; omega
      refine ⟨fun vs h => vs = [cmds a, cmds b, I (dAt a b), I ((a.length - dTl a b : Nat) : Int), I ((b.length - dTl a b : Nat) : Int), .bool (dSt a b)], ?_, ?_⟩
      · cases q1 : ((a.drop (dAt a b)).take (a.length - dTl a b - dAt a b)).any strct
        · have hd : dSt a b = (dL a b).any strct := by unfold dSt; rw [q1]; rfl
          simp (disch := first | (simp; done) | omega | (simp only [nx_add, nx_set, nx_kill, nx_mk, nx_emp]; omega) | fail) [g23_a2, hsl, sm1, sm2, q1, hd]
          simp (disch := first | (simp; done) | omega | (simp only [nx_add, nx_set, nx_kill, nx_mk, nx_emp]; omega) | fail) [g23_s2, hsl, sm1, sm2, q1, hd]
        · have hd : dSt a b = true := by unfold dSt; rw [q1]; rfl
          simp (disch := first | (simp; done) | omega | (simp only [nx_add, nx_set, nx_kill, nx_mk, nx_emp]; omega) | fail) [g23_a2, hsl, sm1, sm2, q1, hd]
          simp (disch := first | (simp; done) | omega | (simp only [nx_add, nx_set, nx_kill, nx_mk, nx_emp]; omega) | fail) [g23_s2, hsl, sm1, sm2, q1, hd]
      rintro vs h rfl
      simp (disch := first | (simp; done) | omega | (simp only [nx_add, nx_set, nx_kill, nx_mk, nx_emp]; omega) | fail) [g23_j7]
      refine ⟨fun vs h => vs = [cmds a, cmds b, I (dF a b : Nat), I (dTa a b : Nat), I (dTb a b : Nat)], ?_, ?_⟩
      · cases q : dSt a b <;> simp (disch := first | (simp; done) | omega | (simp only [nx_add, nx_set, nx_kill, nx_mk, nx_emp]; omega) | fail) [g23_a3, q, dF, dTa, dTb]
      rintro vs h rfl
      simp (disch := first | (simp; done) | omega | (simp only [nx_add, nx_set, nx_kill, nx_mk, nx_emp]; omega) | fail) [g23_j6]
      have hF : dF a b ≤ 100000 := by unfold dF; split <;> omega
      have hTa : dTa a b ≤ 100000 := by unfold dTa; split <;> omega
      have hTb : dTb a b ≤ 100000 := by unfold dTb; split <;> omega
      refine e54_h ⟨sa, hva, hF, hTa⟩ ?_
      have hdm : dmg a b = (match exts (dF a b) (dTa a b) [] 0 a [], exts (dF a b) (dTb a b) [] 0 b [] with
          | some x, some y => x ++ y
          | _, _ => evr) := by
        unfold dmg; rw [if_neg (by simp [heq]), if_pos ⟨hva, hvb⟩]
      rw [hdm]
      have va := valid_len hva
      have vb := valid_len hvb
      have lX := fun o => exts_len (dF a b) (dTa a b) a [] 0 [] o
      have lY := fun o => exts_len (dF a b) (dTb a b) b [] 0 [] o
      generalize exts (dF a b) (dTa a b) [] 0 a [] = X at lX ⊢
      match X with
      | none =>
        simp (disch := first | (simp; done) | omega | (simp only [nx_add, nx_set, nx_kill, nx_mk, nx_emp]; omega) | fail) [g23_s4, exV, exH]
        refine e54_h ⟨sb, hvb, hF, hTb⟩ ?_
        generalize exts (dF a b) (dTb a b) [] 0 b [] = Y at lY ⊢
        match Y with
        | none => exact dj (fun z => by cases z) fun _ => frz_ev _
        | some [] => exact dj (fun z => by cases z) fun _ => frz_ev _
        | some (r :: o) => exact dj (fun z => by cases z) fun _ => frz_ev _
      | some [] =>
        simp (disch := first | (simp; done) | omega | (simp only [nx_add, nx_set, nx_kill, nx_mk, nx_emp]; omega) | fail) [g23_s4, exV, exH]
        refine e54_h ⟨sb, hvb, hF, hTb⟩ ?_
        generalize exts (dF a b) (dTb a b) [] 0 b [] = Y at lY ⊢
        match Y with
        | none => exact dj (fun _ z => by cases z) fun _ => frz_ev _
        | some [] =>
          refine dj (fun _ _ => ?_) (fun z => by simp at z)
          rw [kApp_nn]
          exact .nilsl
        | some (r :: o) =>
          have := lY _ rfl
          refine dj (fun _ _ => ?_) (fun z => by simp at z)
          exact wk_of (kApp_nr' (h.add (.cells (flatR (r :: o)))) h.nx (r :: o) (by simp) (by simp at this; simp; omega) (by simp)) (frz_flat (l := r :: o) (by simp))
      | some (r1 :: o1) =>
        have l1 := lX _ rfl
        simp at l1
        simp (disch := first | (simp; done) | omega | (simp only [nx_add, nx_set, nx_kill, nx_mk, nx_emp]; omega) | fail) [g23_s4, exV, exH]
        refine e54_h ⟨sb, hvb, hF, hTb⟩ ?_
        generalize exts (dF a b) (dTb a b) [] 0 b [] = Y at lY ⊢
        match Y with
        | none => exact dj (fun _ z => by cases z) fun _ => frz_ev _
        | some [] =>
          refine dj (fun _ _ => ?_) (fun z => by simp at z)
          exact wk_of (kApp_rn (h.add (.cells (flatR (r1 :: o1)))) h.nx (r1 :: o1) (by simp) (by simp; omega)) (by
            show Frz _ true _ (rects ((r1 :: o1) ++ []))
            rw [List.append_nil]
            exact frz_flat (l := r1 :: o1) (by simp))
        | some (r :: o) =>
          have l2 := lY _ rfl
          simp at l2
          refine dj (fun _ _ => ?_) (fun z => by simp at z)
          exact wk_of (kApp_rr' ((h.add (.cells (flatR (r1 :: o1)))).add (.cells (flatR (r :: o)))) h.nx (h.nx + 1) (r1 :: o1) (r :: o) (by simp) (by simp) (by simp; omega)) (by
            have := frz_flat (h := ((((h.add (.cells (flatR (r1 :: o1)))).add (.cells (flatR (r :: o)))).kill h.nx).add (.cells (flatR (r1 :: o1) ++ flatR (r :: o))))) (id := h.nx + 1 + 1) (l := (r1 :: o1) ++ (r :: o)) (by rw [flat_app]; simp)
            rw [List.length_append] at this
            simpa using this)
  · have hres : dRes a b = .nilsl := by unfold dRes; rw [if_pos heq]
    simp (disch := first | (simp; done) | omega | (simp only [nx_add, nx_set, nx_kill, nx_mk, nx_emp]; omega) | fail) [g23, ha, hb, hres]
    simp [dmg, heq, rects]
    exact .nilsl
end Go.Proofs.Ytpnekpbehcbmkaa
end
noncomputable section
namespace Go.Proofs.Ytpnekpbehcbmkaa
open Go.Eng
/-! Outside the damage nothing changes. -/
def InB (r : Rect) (x y : Int) : Prop := r.x ≤ x ∧ x < r.x + r.w ∧ r.y ≤ y ∧ y < r.y + r.h
theorem inR_iff {r : Rect} {p : Pt} : inR r p = true ↔ okR r = true ∧ InB r p.x p.y := by
  unfold inR InB; simp [and_assoc]
theorem rot_in (r : Rect) (x y : Int) : ∀ n : Nat, n ≤ 3 → InB r (rotB n x y).1 (rotB n x y).2 → InB (rotR n r) x y
  | 0, _, h => h
  | 1, _, h => by simp only [InB, rotB, rotR] at *; omega
  | 2, _, h => by simp only [InB, rotB, rotR] at *; omega
  | 3, _, h => by simp only [InB, rotB, rotR] at *; omega
  | n + 4, h, _ => by omega
theorem sc_in {t : Tf} {q : Rect} {x y : Int} (hs : 1 ≤ t.scale) (h : InB q ((x - t.dx) / t.scale) ((y - t.dy) / t.scale)) : InB (scR t q) x y := by
  obtain ⟨h1, h2, h3, h4⟩ := h
  have hs0 : 0 < t.scale := by omega
  rw [Int.le_ediv_iff_mul_le hs0] at h1 h3
  rw [Int.ediv_lt_iff_lt_mul hs0, Int.add_mul] at h2 h4
  simp only [InB, scR]
  omega
theorem apl_in {t : Tf} {r : Rect} {p : Pt} (ht : okT t = true) (hp : okP p = true) (hq : inR r (bk t p) = true) (ha : okR (apl t r) = true) : inR (apl t r) p = true := by
  obtain ⟨hr, hb⟩ := inR_iff.1 hq
  refine inR_iff.2 ⟨ha, ?_⟩
  have bt := okT_bd ht
  have e1 : apl t r = scR t (rotR t.turn.toNat (mirR t r)) := by unfold apl; rw [if_pos (by simp [ht, hr])]
  rw [e1]
  refine sc_in (by omega) (rot_in _ _ _ _ (by omega) ?_)
  unfold bk at hb
  rw [if_pos (by simp [ht, hp])] at hb
  generalize (rotB t.turn.toNat ((p.x - t.dx) / t.scale) ((p.y - t.dy) / t.scale)) = z at hb ⊢
  unfold mirR InB at *
  cases hm : t.mirror <;> simp [hm] at hb ⊢ <;> omega
/-- the open transforms, and the images of a point -/
inductive Rel (p : Pt) : List (Option Tf) → List Sn → Prop
  | base : okP p = true → Rel p [] [⟨p, true⟩]
  | clip {st : List (Option Tf)} {s : Sn} {ss : List Sn} (b : Bool) : Rel p st (s :: ss) → Rel p (none :: st) (⟨s.p, s.inn && b⟩ :: s :: ss)
  | tr {st : List (Option Tf)} {s : Sn} {ss : List Sn} {t : Tf} : Rel p st (s :: ss) → okT t = true → Rel p (some t :: st) (⟨bk t s.p, s.inn && okP (bk t s.p)⟩ :: s :: ss)
theorem Rel.ok {p : Pt} {st : List (Option Tf)} {s : Sn} {ss : List Sn} (h : Rel p st (s :: ss)) (hi : s.inn = true) : okP s.p = true := by
  generalize hx : s :: ss = x at h
  induction h generalizing s ss with
  | base h => cases hx; exact h
  | clip b h ih => cases hx; simp at hi; have h2 := ih hi.1 rfl; exact h2
  | tr h ht ih => cases hx; simp at hi; exact hi.2
theorem Rel.ext {p : Pt} {st : List (Option Tf)} {s : Sn} {ss : List Sn} (h : Rel p st (s :: ss)) {r R : Rect} (hi : s.inn = true) (hr : inR r s.p = true) (he : ext1 st r = some R) : inR R p = true := by
  generalize hx : s :: ss = x at h
  induction h generalizing s ss r with
  | base h => cases hx; simp [ext1] at he; subst he; exact hr
  | clip b h ih =>
    cases hx
    simp at hi
    unfold ext1 at he
    split at he
    · exact ih hi.1 hr he rfl
    · cases he
  | tr h ht ih =>
    cases hx
    simp at hi
    unfold ext1 at he
    split at he
    · rename_i ha
      exact ih hi.1 (apl_in ht (h.ok hi.1) hr ha) he rfl
    · cases he
theorem vrun_t {g : Tf} {gr : List Tf} {c : Cmd} {l : List Cmd} (h : vrun (g :: gr) (c :: l) = 0) (hk : c.kind = 2) : okT c.t = true := by
  unfold vrun cmdErr at h
  by_cases hc : cmbOk g c.t = true
  · unfold cmbOk at hc; simp at hc; exact hc.1.2
  · simp [hk, hc] at h
/-- the commands from one place to another one do not show at the point -/
def Qt (f t : Nat) : Nat → List Sn → List Cmd → Prop
  | _, _, [] => True
  | i, ss, c :: l => (f ≤ i → i < t → ∀ o, pout ss c o = o) ∧ Qt f t (i + 1) (pst ss c) l
theorem Qt.all {f t : Nat} : ∀ (l : List Cmd) (i : Nat) (ss : List Sn) (o : Int), Qt f t i ss l → f ≤ i → i + l.length ≤ t → prun ss o l = o
  | [], _, _, _, _, _, _ => rfl
  | c :: l, i, ss, o, h, h1, h2 => by
    obtain ⟨q1, q2⟩ := h
    simp at h2
    unfold prun
    rw [q1 h1 (by omega)]
    exact Qt.all l _ _ _ q2 (by omega) (by omega)
def psts : List Sn → List Cmd → List Sn
  | ss, [] => ss
  | ss, c :: l => psts (pst ss c) l
theorem Qt.app {f t : Nat} : ∀ (x y : List Cmd) (i : Nat) (ss : List Sn), Qt f t i ss (x ++ y) → Qt f t (i + x.length) (psts ss x) y
  | [], y, i, ss, h => h
  | c :: x, y, i, ss, h => by
    have := Qt.app x y (i + 1) (pst ss c) h.2
    rw [show i + (c :: x).length = i + 1 + x.length by simp; omega]
    exact this
theorem Qt.skip {f t : Nat} : ∀ (x y : List Cmd) (i : Nat) (ss : List Sn) (o : Int), Qt f t i ss (x ++ y) → f ≤ i → i + x.length ≤ t → x.any strct = false → prun ss o (x ++ y) = prun ss o y
  | [], y, _, _, _, _, _, _, _ => rfl
  | c :: x, y, i, ss, o, h, h1, h2, hs => by
    obtain ⟨q1, q2⟩ := h
    simp at h2
    simp only [List.any_cons, Bool.or_eq_false_iff] at hs
    have hk : ¬ c.kind = 1 ∧ ¬ c.kind = 2 ∧ ¬ c.kind = 3 := by
      have := hs.1; unfold strct at this; simp at this; omega
    have hps : pst ss c = ss := by
      unfold pst
      cases ss with
      | nil => rfl
      | cons s tl => simp only; rw [if_neg hk.1, if_neg hk.2.1, if_neg hk.2.2]
    show prun (pst ss c) (pout ss c o) (x ++ y) = _
    rw [hps] at q2 ⊢
    rw [q1 h1 (by omega)]
    exact Qt.skip x y _ _ _ q2 (by omega) (by omega) hs.2
end Go.Proofs.Ytpnekpbehcbmkaa
end
noncomputable section
namespace Go.Proofs.Ytpnekpbehcbmkaa
open Go.Eng
/-! The reference's image of a rectangle. -/
@[simp] theorem kMnmx_max (h : AH) (a b : Int) : kMnmx h true (.int .i64 a) (.int .i64 b) = some (.int .i64 (if a < b then b else a), h) := Eq.trans rfl rfl
def mn (a b : Int) : Int := if b < a then b else a
def mxx (a b : Int) : Int := if a < b then b else a
def rap (t : Tf) (r : Rect) : Rect := ⟨mn ((lin t r.x r.y).x + t.dx) ((lin t (r.x + r.w) (r.y + r.h)).x + t.dx), mn ((lin t r.x r.y).y + t.dy) ((lin t (r.x + r.w) (r.y + r.h)).y + t.dy),
  mxx ((lin t r.x r.y).x + t.dx) ((lin t (r.x + r.w) (r.y + r.h)).x + t.dx) - mn ((lin t r.x r.y).x + t.dx) ((lin t (r.x + r.w) (r.y + r.h)).x + t.dx),
  mxx ((lin t r.x r.y).y + t.dy) ((lin t (r.x + r.w) (r.y + r.h)).y + t.dy) - mn ((lin t r.x r.y).y + t.dy) ((lin t (r.x + r.w) (r.y + r.h)).y + t.dy)⟩
theorem rap_eq {t : Tf} {r : Rect} (ht : okT t = true) (hr : okR r = true) : rap t r = apl t r := by
  have bt := okT_bd ht
  have br := okR_bd hr
  have e1 : apl t r = scR t (rotR t.turn.toNat (mirR t r)) := by unfold apl; rw [if_pos (by simp [ht, hr])]
  rw [e1]
  obtain ⟨x, y, w, e⟩ := r
  simp only at br
  have hw : 0 ≤ w * t.scale := Int.mul_nonneg (by omega) (by omega)
  have he : 0 ≤ e * t.scale := Int.mul_nonneg (by omega) (by omega)
  have hn : t.turn.toNat = 0 ∨ t.turn.toNat = 1 ∨ t.turn.toNat = 2 ∨ t.turn.toNat = 3 := by omega
  rcases hn with h | h | h | h <;> cases hm : t.mirror <;> simp only [rap, lin, rot, rotR, mirR, scR, mx, mn, mxx, h, hm, if_true, Bool.false_eq_true, if_false, Int.add_mul, Int.sub_mul, Int.neg_mul, Int.neg_neg, Int.neg_sub, Int.neg_add, Rect.mk.injEq] <;>
    (generalize w * t.scale = W at *; generalize e * t.scale = E at *; generalize x * t.scale = X at *; generalize y * t.scale = Y at *; generalize t.dx = dx at *; generalize t.dy = dy at *; refine ⟨?_, ?_, ?_, ?_⟩ <;> (repeat' split) <;> omega)
theorem rapply_c (t : Tf) (r : Rect) : Pure Try.prog 78 [.agg t.enc, .agg r.enc] (.agg (apl t r).enc) := by
  refine .of (by simp [Tf.cl, Rect.cl]) (C78 (tb_ok [e67, e41, e68]) ?_)
  simp (disch := first | (simp; done) | omega | (simp only [nx_add, nx_set, nx_kill, nx_mk, nx_emp]; omega) | fail) [g78]
  refine ⟨fun vs h => vs = [.ptr 0 0, .ptr 1 0, .ptr 2 0, .bool (!(okT t && okR r))] ∧ h.cellsAt 0 = some t.enc ∧ h.cellsAt 1 = some r.enc ∧ h.cellsAt 2 = some [I 0, I 0, I 0, I 0] ∧ h.nx = 3, ?_, ?_⟩
  · cases q1 : okT t <;> cases q2 : okR r <;> simp (disch := first | (simp; done) | omega | (simp only [nx_add, nx_set, nx_kill, nx_mk, nx_emp]; omega) | fail) [g78_a1, q1, q2] <;> simp (disch := first | (simp; done) | omega | (simp only [nx_add, nx_set, nx_kill, nx_mk, nx_emp]; omega) | fail) [g78_s1, q1, q2]
  rintro vs h ⟨rfl, h0, h1, h2, hn⟩
  cases hab : (okT t && okR r)
  · simp (disch := first | (simp; done) | omega | (simp only [nx_add, nx_set, nx_kill, nx_mk, nx_emp]; omega) | fail) [g78_j2, h0, h1, h2, hn]
    simp [apl, hab, zR, Rect.enc]
  · have ht : okT t = true := by simp at hab; exact hab.1
    have hr : okR r = true := by simp at hab; exact hab.2
    have bt := okT_bd ht
    have br := okR_bd hr
    have l1 := lin_bd ht (x := r.x) (y := r.y) (by omega) (by omega)
    have l2 := lin_bd ht (x := r.x + r.w) (y := r.y + r.h) (by omega) (by omega)
    have k1 : -50000000 ≤ (lin t r.x r.y).x + t.dx ∧ (lin t r.x r.y).x + t.dx ≤ 50000000 := by omega
    have k2 : -50000000 ≤ (lin t r.x r.y).y + t.dy ∧ (lin t r.x r.y).y + t.dy ≤ 50000000 := by omega
    have k3 : -50000000 ≤ (lin t (r.x + r.w) (r.y + r.h)).x + t.dx ∧ (lin t (r.x + r.w) (r.y + r.h)).x + t.dx ≤ 50000000 := by omega
    have k4 : -50000000 ≤ (lin t (r.x + r.w) (r.y + r.h)).y + t.dy ∧ (lin t (r.x + r.w) (r.y + r.h)).y + t.dy ≤ 50000000 := by omega
    rw [← rap_eq ht hr]
    have hrap : rap t r = ⟨mn ((lin t r.x r.y).x + t.dx) ((lin t (r.x + r.w) (r.y + r.h)).x + t.dx), mn ((lin t r.x r.y).y + t.dy) ((lin t (r.x + r.w) (r.y + r.h)).y + t.dy),
  mxx ((lin t r.x r.y).x + t.dx) ((lin t (r.x + r.w) (r.y + r.h)).x + t.dx) - mn ((lin t r.x r.y).x + t.dx) ((lin t (r.x + r.w) (r.y + r.h)).x + t.dx),
  mxx ((lin t r.x r.y).y + t.dy) ((lin t (r.x + r.w) (r.y + r.h)).y + t.dy) - mn ((lin t r.x r.y).y + t.dy) ((lin t (r.x + r.w) (r.y + r.h)).y + t.dy)⟩ := rfl
    rw [hrap]
    simp (disch := first | (simp; done) | omega | (simp only [nx_add, nx_set, nx_kill, nx_mk, nx_emp]; omega) | fail) [g78_j2, h0, h1, h2, hn, ht]
    simp (disch := first | (simp; done) | omega | (simp only [nx_add, nx_set, nx_kill, nx_mk, nx_emp]; omega) | fail) [g78_s5, h0, h1, h2, hn, ht]
    simp (disch := first | (simp; done) | omega | (simp only [nx_add, nx_set, nx_kill, nx_mk, nx_emp]; omega) | fail) [g78_s4, h0, h1, h2, hn, ht]
    generalize (lin t r.x r.y).x + t.dx = A at *
    generalize (lin t r.x r.y).y + t.dy = B at *
    generalize (lin t (r.x + r.w) (r.y + r.h)).x + t.dx = C at *
    generalize (lin t (r.x + r.w) (r.y + r.h)).y + t.dy = D at *
    clear hrap l1 l2
    refine ⟨⟨by omega, by omega⟩, ⟨by omega, by omega⟩, ?_⟩
    simp (disch := first | (simp; done) | omega | (simp only [nx_add, nx_set, nx_kill, nx_mk, nx_emp]; omega) | fail) [g78_s3, h0, h1, h2, hn]
    simp (disch := first | (simp; done) | omega | (simp only [nx_add, nx_set, nx_kill, nx_mk, nx_emp]; omega) | fail) [g78_s2, h0, h1, h2, hn]
    simp [mn, mxx, Rect.enc]
def e78 : QE Try.prog := .pure 78 (fun (((t, r)) : Tf × Rect) => [.agg t.enc, .agg r.enc]) (fun (((t, r)) : Tf × Rect) => True) (fun (((t, r)) : Tf × Rect) => .agg (apl t r).enc) (fun ⟨t, r⟩ _ => rapply_c t r)
@[simp ↓] theorem e78_h (l : List (QE Try.prog)) (args : List AV) (h : AH) (Q : AV → AH → Prop) : tb (e78 :: l) 78 args h Q = e78.q args h Q := tb_here e78 l 78 args h Q rfl
@[simp ↓] theorem e78_q (t : Tf) (r : Rect) (h : AH) (Q : AV → AH → Prop) : e78.q [.agg t.enc, .agg r.enc] h Q = Q (.agg (apl t r).enc) h := (QE.pure_q (x := (t, r)) (by rintro ⟨_, _⟩ h; simp at h; simp [h]) h Q).trans (by simp)
theorem bracket_c (n : Int) : Pure Try.prog 56 [I n] (.bool (n == 1 || n == 2 || n == 3)) := by
  refine .of (by simp [cI]) (C56 (tb_ok []) ?_)
  by_cases h1 : n = 1
  · simp (disch := first | (simp; done) | omega | (simp only [nx_add, nx_set, nx_kill, nx_mk, nx_emp]; omega) | fail) [g56, h1]
  · by_cases h2 : n = 2
    · simp (disch := first | (simp; done) | omega | (simp only [nx_add, nx_set, nx_kill, nx_mk, nx_emp]; omega) | fail) [g56, h2]
    · by_cases h3 : n = 3 <;> simp (disch := first | (simp; done) | omega | (simp only [nx_add, nx_set, nx_kill, nx_mk, nx_emp]; omega) | fail) [g56, h1, h2, h3]
def e56 : QE Try.prog := .pure 56 (fun (n : Int) => [I n]) (fun (n : Int) => True) (fun (n : Int) => .bool (n == 1 || n == 2 || n == 3)) (fun n _ => bracket_c n)
@[simp ↓] theorem e56_h (l : List (QE Try.prog)) (args : List AV) (h : AH) (Q : AV → AH → Prop) : tb (e56 :: l) 56 args h Q = e56.q args h Q := tb_here e56 l 56 args h Q rfl
@[simp ↓] theorem e56_q (n : Int) (h : AH) (Q : AV → AH → Prop) : e56.q [I n] h Q = Q (.bool (n == 1 || n == 2 || n == 3)) h := (QE.pure_q (x := n) (by rintro _ h; simp at h; simp [h]) h Q).trans (by simp)
theorem reverything_d (h : AH) : CallD Try.prog 55 [] h (.rsl h.nx 0 4 4) (h.add (.cells (flatR evr))) := by
  refine C55 (tb_ok []) ?_
  simp (disch := first | (simp; done) | omega | (simp only [nx_add, nx_set, nx_kill, nx_mk, nx_emp]; omega) | fail) [g55]
  simp (disch := first | (simp; done) | omega | (simp only [nx_add, nx_set, nx_kill, nx_mk, nx_emp]; omega) | fail) [g55_s1]
  simp [splice]
  rfl
def e55 : QE Try.prog := ⟨55, fun args h Q => args = [] ∧ Q (.rsl h.nx 0 4 4) (h.add (.cells (flatR evr))), fun args h Q ⟨h1, h2⟩ => by subst h1; exact ⟨_, _, reverything_d h, h2⟩⟩
@[simp ↓] theorem e55_h (tl : List (QE Try.prog)) (h : AH) (Q : AV → AH → Prop) : tb (e55 :: tl) 55 [] h Q = Q (.rsl h.nx 0 4 4) (h.add (.cells (flatR evr))) := by
  rw [tb_here e55 tl 55 _ _ _ rfl]
  exact propext ⟨fun h => h.2, fun h => ⟨rfl, h⟩⟩
@[simp ↓] theorem e55_t (tl : List (QE Try.prog)) (f : Nat) (args : List AV) (h : AH) (Q : AV → AH → Prop) (hf : 55 ≠ f) : tb (e55 :: tl) f args h Q = tb tl f args h Q := tb_there e55 tl f args h Q hf
end Go.Proofs.Ytpnekpbehcbmkaa
end
noncomputable section
namespace Go.Proofs.Ytpnekpbehcbmkaa
open Go.Eng
/-! The reference's splice. -/
def rbI (a b : List Cmd) (m : Nat) (vs : List AV) (h : AH) : Prop := ∃ i : Nat, ∃ (ha : i ≤ a.length) (hb : i ≤ b.length), m = a.length - i ∧ vs = [cmds a, cmds b, I i] ∧ ∀ j (h : j < i), a[j]'(by omega) = b[j]'(by omega)
def rbJ (a b : List Cmd) (i m : Nat) (vs : List AV) (h : AH) : Prop := ∃ t : Nat, ∃ (ha : t ≤ a.length - i) (hb : t ≤ b.length - i), m = a.length - t ∧ vs = [cmds a, cmds b, I i, I t] ∧ ∀ j (h : j < t), a[a.length - 1 - j]'(by omega) = b[b.length - 1 - j]'(by omega)
def dAll (a b : List Cmd) (i : Nat) : Bool := decide (i = a.length) && decide (i = b.length)
theorem rdiff_c (a b : List Cmd) (hx : Lite a ∧ Lite b) : Pure Try.prog 30 [cmds a, cmds b] (dRes a b) := by
  refine .of (by simp [cmds_cl]) (C30 (tb_ok [e12]) ?_)
  obtain ⟨ha, hb⟩ := hx
  have ha1 := ha.1; have hb1 := hb.1
  have ha2 := ha.sm; have hb2 := hb.sm
  simp (disch := first | (simp; done) | omega | (simp only [nx_add, nx_set, nx_kill, nx_mk, nx_emp]; omega) | fail) [g30]
  refine ⟨rbI a b, a.length, ⟨0, by omega, by omega, rfl, rfl, fun j h => by omega⟩, ?_⟩
  rintro m vs h ⟨i, hia, hib, rfl, rfl, hall⟩
  simp (disch := first | (simp; done) | omega | (simp only [nx_add, nx_set, nx_kill, nx_mk, nx_emp]; omega) | fail) [g30_l3]
  refine ⟨fun vs h => vs = [cmds a, cmds b, I i, .bool (both a b i)], ?_, ?_⟩
  · by_cases q1 : i < a.length
    · by_cases q2 : i < b.length
      · have s1 : SmC a[i] := ha2.2 _ (List.getElem_mem q1)
        have s2 : SmC b[i] := hb2.2 _ (List.getElem_mem q2)
        simp (disch := first | (simp; done) | omega | (simp only [nx_add, nx_set, nx_kill, nx_mk, nx_emp]; omega) | fail) [g30_a1, q1, q2, s1, s2, both]
        simp (disch := first | (simp; done) | omega | (simp only [nx_add, nx_set, nx_kill, nx_mk, nx_emp]; omega) | fail) [g30_s2, q1, q2, s1, s2, both]
        simp (disch := first | (simp; done) | omega | (simp only [nx_add, nx_set, nx_kill, nx_mk, nx_emp]; omega) | fail) [g30_s1, q1, q2, s1, s2, both]
      · have hbo : both a b i = false := by unfold both; simp [q1, q2]
        simp (disch := first | (simp; done) | omega | (simp only [nx_add, nx_set, nx_kill, nx_mk, nx_emp]; omega) | fail) [g30_a1, q1, q2, hbo]
        simp (disch := first | (simp; done) | omega | (simp only [nx_add, nx_set, nx_kill, nx_mk, nx_emp]; omega) | fail) [g30_s2, q1, q2, hbo]
        simp (disch := first | (simp; done) | omega | (simp only [nx_add, nx_set, nx_kill, nx_mk, nx_emp]; omega) | fail) [g30_s1, q1, q2, hbo]
    · have hbo : both a b i = false := by unfold both; simp [q1]
      simp (disch := first | (simp; done) | omega | (simp only [nx_add, nx_set, nx_kill, nx_mk, nx_emp]; omega) | fail) [g30_a1, q1, hbo]
      simp (disch := first | (simp; done) | omega | (simp only [nx_add, nx_set, nx_kill, nx_mk, nx_emp]; omega) | fail) [g30_s2, q1, hbo]
      simp (disch := first | (simp; done) | omega | (simp only [nx_add, nx_set, nx_kill, nx_mk, nx_emp]; omega) | fail) [g30_s1, q1, hbo]
  rintro vs h rfl
  simp (disch := first | (simp; done) | omega | (simp only [nx_add, nx_set, nx_kill, nx_mk, nx_emp]; omega) | fail) [g30_j2]
  have hbo : ∀ h1 : i < a.length, ∀ h2 : i < b.length, both a b i = eqD a[i] b[i] := fun h1 h2 => by simp [both, h1, h2]
  refine ⟨fun hbt => ?_, fun hbf => ?_⟩
  · have q : i < a.length ∧ i < b.length := by
      unfold both at hbt
      by_cases q1 : i < a.length
      · by_cases q2 : i < b.length
        · exact ⟨q1, q2⟩
        · simp [q1, q2] at hbt
      · simp [q1] at hbt
    obtain ⟨q1, q2⟩ := q
    rw [hbo q1 q2] at hbt
    refine ⟨a.length - (i + 1), by omega, i + 1, by omega, by omega, rfl, by simp, fun j hj => ?_⟩
    by_cases hji : j < i
    · exact hall j hji
    · obtain rfl : j = i := by omega
      exact eqD_iff.1 hbt
  · have hat : dAt a b = i := lcp_unique hia hib hall fun h1 h2 e => by rw [hbo h1 h2, eqD_iff.2 e] at hbf; cases hbf
    simp (disch := first | (simp; done) | omega | (simp only [nx_add, nx_set, nx_kill, nx_mk, nx_emp]; omega) | fail) [g30_j12, g30_c11]
    refine ⟨fun vs h => vs = [cmds a, cmds b, I i, .bool (dAll a b i)], ?_, ?_⟩
    · by_cases q1 : i = a.length
      · by_cases q2 : i = b.length
        · have q1' : (i : Int) = a.length := by omega
          have q2' : (i : Int) = b.length := by omega
          have q3' : (a.length : Int) = b.length := by omega
          have hd : dAll a b i = true := by simp [dAll, ← q1, ← q2]
          simp (disch := first | (simp; done) | omega | (simp only [nx_add, nx_set, nx_kill, nx_mk, nx_emp]; omega) | fail) [g30_a4, q1', q2', q3', hd]
        · have q1' : (i : Int) = a.length := by omega
          have q2' : ¬ (i : Int) = b.length := by omega
          have q3' : ¬ (a.length : Int) = b.length := by omega
          have hd : dAll a b i = false := by simp [dAll, q2]
          simp (disch := first | (simp; done) | omega | (simp only [nx_add, nx_set, nx_kill, nx_mk, nx_emp]; omega) | fail) [g30_a4, q1', q2', q3', hd]
      · have q1' : ¬ (i : Int) = a.length := by omega
        have hd : dAll a b i = false := by simp [dAll, q1]
        simp (disch := first | (simp; done) | omega | (simp only [nx_add, nx_set, nx_kill, nx_mk, nx_emp]; omega) | fail) [g30_a4, q1', hd]
    rintro vs h rfl
    simp (disch := first | (simp; done) | omega | (simp only [nx_add, nx_set, nx_kill, nx_mk, nx_emp]; omega) | fail) [g30_j10]
    have heq : eqD a b = dAll a b i := by
      rw [Bool.eq_iff_iff, eqD_iff]
      constructor
      · intro e
        subst e
        have : lcp a a = a.length := lcp_unique (Nat.le_refl _) (Nat.le_refl _) (fun _ _ => rfl) (fun h1 => by omega)
        have : i = a.length := by rw [← hat]; exact this
        simp [dAll, this]
      · intro hd
        simp [dAll] at hd
        exact List.ext_getElem (by omega) fun j h1 h2 => hall j (by omega)
    refine ⟨fun hd => ?_, fun hd => ?_⟩
    · have hres : dRes a b = .nilsl := by unfold dRes; rw [if_pos (by rw [heq, hd])]
      rw [hres]; exact .nilsl0
    · have hne : eqD a b = false := by rw [heq, hd]
      refine ⟨rbJ a b i, a.length, ⟨0, by omega, by omega, rfl, rfl, fun j h => by omega⟩, ?_⟩
      rintro m vs h ⟨t, hta, htb, rfl, rfl, hall2⟩
      simp (disch := first | (simp; done) | omega | (simp only [nx_add, nx_set, nx_kill, nx_mk, nx_emp]; omega) | fail) [g30_l7]
      refine ⟨fun vs h => vs = [cmds a, cmds b, I i, I t, .bool (both (a.drop i).reverse (b.drop i).reverse t)], ?_, ?_⟩
      · by_cases q1 : t < a.length - i
        · by_cases q2 : t < b.length - i
          · have e1 : ((a.length : Int) - 1 - t) = ((a.length - 1 - t : Nat) : Int) := by omega
            have e2 : ((b.length : Int) - 1 - t) = ((b.length - 1 - t : Nat) : Int) := by omega
            have s1 : SmC (a[a.length - 1 - t]'(by omega)) := ha2.2 _ (List.getElem_mem _)
            have s2 : SmC (b[b.length - 1 - t]'(by omega)) := hb2.2 _ (List.getElem_mem _)
            have qa : (t : Int) < a.length - i := by omega
            have qb : (t : Int) < b.length - i := by omega
            have w1 : a.length - 1 - t < a.length := by omega
            have w2 : b.length - 1 - t < b.length := by omega
            have hbb : both (a.drop i).reverse (b.drop i).reverse t = eqD (a[a.length - 1 - t]'(by omega)) (b[b.length - 1 - t]'(by omega)) := by
              unfold both
              have z1 : t < (a.drop i).reverse.length := by simp; omega
              have z2 : t < (b.drop i).reverse.length := by simp; omega
              rw [List.getElem?_eq_getElem z1, List.getElem?_eq_getElem z2]
              simp
              congr 2 <;> congr 1 <;> omega
            rw [hbb]
            simp (disch := first | (simp; done) | omega | (simp only [nx_add, nx_set, nx_kill, nx_mk, nx_emp]; omega) | fail) [g30_a5, qa, qb, s1, s2, w1, w2, e1, e2]
            simp (disch := first | (simp; done) | omega | (simp only [nx_add, nx_set, nx_kill, nx_mk, nx_emp]; omega) | fail) [g30_s6, qa, qb, s1, s2, w1, w2, e1, e2]
            simp (disch := first | (simp; done) | omega | (simp only [nx_add, nx_set, nx_kill, nx_mk, nx_emp]; omega) | fail) [g30_s5, qa, qb, s1, s2, w1, w2, e1, e2]
            simp (disch := first | (simp; done) | omega | (simp only [nx_add, nx_set, nx_kill, nx_mk, nx_emp]; omega) | fail) [g30_s4, qa, qb, s1, s2, w1, w2, e1, e2]
            simp (disch := first | (simp; done) | omega | (simp only [nx_add, nx_set, nx_kill, nx_mk, nx_emp]; omega) | fail) [g30_s3, qa, qb, s1, s2, w1, w2, e1, e2]
          · have qa : (t : Int) < a.length - i := by omega
            have qb : ¬ (t : Int) < b.length - i := by omega
            have hbb : both (a.drop i).reverse (b.drop i).reverse t = false := by
              unfold both
              have z1 : t < (a.drop i).reverse.length := by simp; omega
              have z2 : ¬ t < (b.drop i).reverse.length := by simp; omega
              rw [List.getElem?_eq_getElem z1, List.getElem?_eq_none (by omega)]
            simp (disch := first | (simp; done) | omega | (simp only [nx_add, nx_set, nx_kill, nx_mk, nx_emp]; omega) | fail) [g30_a5, qa, qb, hbb]
            simp (disch := first | (simp; done) | omega | (simp only [nx_add, nx_set, nx_kill, nx_mk, nx_emp]; omega) | fail) [g30_s6, qa, qb, hbb]
            simp (disch := first | (simp; done) | omega | (simp only [nx_add, nx_set, nx_kill, nx_mk, nx_emp]; omega) | fail) [g30_s5, qa, qb, hbb]
            simp (disch := first | (simp; done) | omega | (simp only [nx_add, nx_set, nx_kill, nx_mk, nx_emp]; omega) | fail) [g30_s4, qa, qb, hbb]
            simp (disch := first | (simp; done) | omega | (simp only [nx_add, nx_set, nx_kill, nx_mk, nx_emp]; omega) | fail) [g30_s3, qa, qb, hbb]
        · have qa : ¬ (t : Int) < a.length - i := by omega
          have hbb : both (a.drop i).reverse (b.drop i).reverse t = false := by
            unfold both
            have z1 : ¬ t < (a.drop i).reverse.length := by simp; omega
            rw [List.getElem?_eq_none (by omega)]
          simp (disch := first | (simp; done) | omega | (simp only [nx_add, nx_set, nx_kill, nx_mk, nx_emp]; omega) | fail) [g30_a5, qa, hbb]
          simp (disch := first | (simp; done) | omega | (simp only [nx_add, nx_set, nx_kill, nx_mk, nx_emp]; omega) | fail) [g30_s6, qa, hbb]
          simp (disch := first | (simp; done) | omega | (simp only [nx_add, nx_set, nx_kill, nx_mk, nx_emp]; omega) | fail) [g30_s5, qa, hbb]
          simp (disch := first | (simp; done) | omega | (simp only [nx_add, nx_set, nx_kill, nx_mk, nx_emp]; omega) | fail) [g30_s4, qa, hbb]
          simp (disch := first | (simp; done) | omega | (simp only [nx_add, nx_set, nx_kill, nx_mk, nx_emp]; omega) | fail) [g30_s3, qa, hbb]
      · rintro vs h rfl
        simp (disch := first | (simp; done) | omega | (simp only [nx_add, nx_set, nx_kill, nx_mk, nx_emp]; omega) | fail) [g30_j6]
        have hgen : ∀ (h1 : t < a.length - i) (h2 : t < b.length - i), both (a.drop i).reverse (b.drop i).reverse t = eqD (a[a.length - 1 - t]'(by omega)) (b[b.length - 1 - t]'(by omega)) := fun h1 h2 => by
          unfold both
          have z1 : t < (a.drop i).reverse.length := by simp; omega
          have z2 : t < (b.drop i).reverse.length := by simp; omega
          rw [List.getElem?_eq_getElem z1, List.getElem?_eq_getElem z2]
          simp
          congr 2 <;> congr 1 <;> omega
        refine ⟨fun hbt => ?_, fun hbf2 => ?_⟩
        · have q : t < a.length - i ∧ t < b.length - i := by
            unfold both at hbt
            by_cases q1 : t < (a.drop i).reverse.length
            · by_cases q2 : t < (b.drop i).reverse.length
              · simp at q1 q2; omega
              · rw [List.getElem?_eq_getElem q1, List.getElem?_eq_none (by omega)] at hbt; cases hbt
            · rw [List.getElem?_eq_none (by omega)] at hbt; cases hbt
          rw [hgen q.1 q.2] at hbt
          refine ⟨a.length - (t + 1), by omega, t + 1, by omega, by omega, rfl, by simp, fun j hj => ?_⟩
          by_cases hji : j < t
          · exact hall2 j hji
          · obtain rfl : j = t := by omega
            exact eqD_iff.1 hbt
        · have htl : dTl a b = t := by
            unfold dTl
            rw [hat]
            refine lcp_unique (by simp; omega) (by simp; omega) (fun j hj => ?_) (fun h1 h2 e => ?_)
            · have := hall2 j hj
              simp
              have z1 : i + (a.length - i - 1 - j) = a.length - 1 - j := by omega
              have z2 : i + (b.length - i - 1 - j) = b.length - 1 - j := by omega
              simp only [z1, z2]; exact this
            · simp at h1 h2
              rw [hgen (by omega) (by omega)] at hbf2
              simp at e
              have z1 : i + (a.length - i - 1 - t) = a.length - 1 - t := by omega
              have z2 : i + (b.length - i - 1 - t) = b.length - 1 - t := by omega
              simp only [z1, z2] at e
              rw [eqD_iff.2 e] at hbf2; cases hbf2
          have hsl : ∀ h, kSl h 22 (cmds b) (some (I i)) (some (I ((b.length : Int) - t))) none = some (cmds (dL a b), h) := fun h => by
            have := kSl_cmds h b i (b.length - t) (by omega) (by omega)
            rw [show ((b.length - t : Nat) : Int) = (b.length : Int) - t by omega] at this
            rw [this]; unfold dL; rw [htl, hat]
          have hres : dRes a b = .psl ([()].map fun _ => [I (i : Int), I ((a.length : Int) - i - t), cmds (dL a b)]) := by
            unfold dRes
            rw [if_neg (by simpa using hne), htl, hat, show ((a.length - t - i : Nat) : Int) = (a.length : Int) - i - t by omega]; rfl
          simp (disch := first | (simp; done) | omega | (simp only [nx_add, nx_set, nx_kill, nx_mk, nx_emp]; omega) | fail) [g30_j9, hsl]
          simp (disch := first | (simp; done) | omega | (simp only [nx_add, nx_set, nx_kill, nx_mk, nx_emp]; omega) | fail) [g30_c8, hsl]
          simp (disch := first | (simp; done) | omega | (simp only [nx_add, nx_set, nx_kill, nx_mk, nx_emp]; omega) | fail) [g30_s7, hsl]
          rw [hres]
          refine frz_rows (l := [()]) (z := 3) (fun _ => rfl) (by simp) (fun _ _ c hc => ?_)
          simp at hc
          rcases hc with rfl | rfl | rfl
          · exact .int _ _
          · exact .int _ _
          · exact cmds_pl _ _
def e30 : QE Try.prog := .pure 30 (fun (((a, b)) : List Cmd × List Cmd) => [cmds a, cmds b]) (fun (((a, b)) : List Cmd × List Cmd) => Lite a ∧ Lite b) (fun (((a, b)) : List Cmd × List Cmd) => dRes a b) (fun ⟨a, b⟩ hx => rdiff_c a b hx)
@[simp ↓] theorem e30_h (l : List (QE Try.prog)) (args : List AV) (h : AH) (Q : AV → AH → Prop) : tb (e30 :: l) 30 args h Q = e30.q args h Q := tb_here e30 l 30 args h Q rfl
@[simp ↓] theorem e30_t (l : List (QE Try.prog)) (f : Nat) (args : List AV) (h : AH) (Q : AV → AH → Prop) (hf : 30 ≠ f) : tb (e30 :: l) f args h Q = tb l f args h Q := tb_there e30 l f args h Q hf
@[simp ↓] theorem e30_q (a : List Cmd) (b : List Cmd) (h : AH) (Q : AV → AH → Prop) : e30.q [cmds a, cmds b] h Q = ((Lite a ∧ Lite b) ∧ Q (dRes a b) h) := (QE.pure_q (x := (a, b)) (by rintro ⟨_, _⟩ h; simp at h; simp [h]) h Q)
end Go.Proofs.Ytpnekpbehcbmkaa
end
