/- What the damage between two lists of commands is in the program. -/
import Derived.Test.YtpnekpbehcbmkaaD7T
set_option linter.unusedSimpArgs false
set_option linter.unusedVariables false
set_option linter.unnecessarySimpa false
noncomputable section
namespace Go.Proofs.Ytpnekpbehcbmkaa
open Go.Eng
def flatR (l : List Rect) : List AV := (l.map Rect.enc).flatten
theorem flatR_frz (h : AH) (n : Bool) (l : List Rect) : FrzL h n (flatR l) (flatR l) := by
  rw [FrzL_iff]
  refine ⟨rfl, fun i c d h1 h2 => ?_⟩
  rw [h1] at h2; cases h2
  have hm := List.mem_of_getElem? h1
  obtain ⟨x, hx, hr⟩ := List.mem_flatten.1 hm
  obtain ⟨r, _, rfl⟩ := List.mem_map.1 hx
  simp [Rect.enc] at hr
  rcases hr with rfl | rfl | rfl | rfl <;> exact .int _ _
theorem everything_d (h : AH) : CallD Try.prog 51 [] h (.rsl h.nx 0 4 4) (h.add (.cells (flatR evr))) := by
  refine C51 (tb_ok []) ?_
  simp (disch := first | (simp; done) | omega | (simp only [nx_add, nx_set, nx_kill, nx_mk, nx_emp]; omega) | fail) [g51]
  simp [splice]
  rfl
def e51 : QE Try.prog := ⟨51, fun args h Q => args = [] ∧ Q (.rsl h.nx 0 4 4) (h.add (.cells (flatR evr))), fun args h Q ⟨h1, h2⟩ => by subst h1; exact ⟨_, _, everything_d h, h2⟩⟩
@[simp ↓] theorem e51_h (tl : List (QE Try.prog)) (h : AH) (Q : AV → AH → Prop) : tb (e51 :: tl) 51 [] h Q = Q (.rsl h.nx 0 4 4) (h.add (.cells (flatR evr))) := by
  rw [tb_here e51 tl 51 _ _ _ rfl]
  exact propext ⟨fun h => h.2, fun h => ⟨rfl, h⟩⟩
@[simp ↓] theorem e51_t (tl : List (QE Try.prog)) (f : Nat) (args : List AV) (h : AH) (Q : AV → AH → Prop) (hf : 51 ≠ f) : tb (e51 :: tl) f args h Q = tb tl f args h Q := tb_there e51 tl f args h Q hf
def exV (R : Option (List Rect)) (h : AH) : AV := match R with
  | none => .tup [.nilsl, .bool false]
  | some [] => .tup [.nilsl, .bool true]
  | some (r :: o) => .tup [.rsl h.nx 0 (o.length + 1) 4, .bool true]
def exH (R : Option (List Rect)) (h : AH) : AH := match R with
  | none => h
  | some [] => h
  | some (r :: o) => h.add (.cells (flatR (r :: o)))
theorem frz_args3 {h : AH} {a b : AV} {n m : Int} (h1 : Frz h false a b) : ∀ (i : Nat) (x y : AV), [a, I n, I m][i]? = some x → [b, I n, I m][i]? = some y → Frz h false x y := by
  intro i x y hx hy
  match i with
  | 0 => simp at hx hy; subst hx; subst hy; exact h1
  | 1 => simp at hx hy; subst hx; subst hy; exact .int _ _
  | 2 => simp at hx hy; subst hx; subst hy; exact .int _ _
  | i + 3 => simp at hx
theorem extents_d (l : List Cmd) (f t : Nat) (hl : SmL l) (hv : validate l = 0) (hf : f ≤ 100000) (ht : t ≤ 100000) (h : AH) : CallD Try.prog 54 [cmds l, I f, I t] h (exV (exts f t [] 0 l []) h) (exH (exts f t [] 0 l []) h) := by
  have hc := extents_e l f t hl hv hf ht
  generalize exts f t [] 0 l [] = R at hc ⊢
  match R with
  | none => exact frame (n := true) hc (fun v' h' (hr : v' = _) => by subst hr; exact .tup _ _ rfl (fun i c d k1 k2 => by
      match i with
      | 0 => simp at k1 k2; subst k1; subst k2; exact .nilsl0
      | 1 => simp at k1 k2; subst k1; subst k2; exact .bool _
      | i + 2 => simp at k1)) (.inr ⟨rfl, rfl, frz_args3 (cmds_pl l h)⟩)
  | some [] => exact frame (n := true) hc (fun v' h' (hr : v' = _) => by subst hr; exact .tup _ _ rfl (fun i c d k1 k2 => by
      match i with
      | 0 => simp at k1 k2; subst k1; subst k2; exact .nilsl0
      | 1 => simp at k1 k2; subst k1; subst k2; exact .bool _
      | i + 2 => simp at k1)) (.inr ⟨rfl, rfl, frz_args3 (cmds_pl l h)⟩)
  | some (r :: o) => exact frameO hc (fun v' h' ⟨id, hv', hc'⟩ => ⟨id, _, hc', flatR_frz _ _ _, by subst hv'; exact .two _ _ _ _ _ (.bool _)⟩) rfl (frz_args3 (cmds_pl l h))
def e54 : QE Try.prog := ⟨54, fun args h Q => ∃ l f t, args = [cmds l, I (f : Nat), I (t : Nat)] ∧ (SmL l ∧ validate l = 0 ∧ f ≤ 100000 ∧ t ≤ 100000) ∧ Q (exV (exts f t [] 0 l []) h) (exH (exts f t [] 0 l []) h), fun args h Q ⟨l, f, t, h1, ⟨h2, h3, h4, h5⟩, h6⟩ => by
  subst h1; exact ⟨_, _, extents_d l f t h2 h3 h4 h5 h, h6⟩⟩
theorem e54_h {tl : List (QE Try.prog)} {l : List Cmd} {f t : Nat} {h : AH} {Q : AV → AH → Prop} (hx : SmL l ∧ validate l = 0 ∧ f ≤ 100000 ∧ t ≤ 100000) (hq : Q (exV (exts f t [] 0 l []) h) (exH (exts f t [] 0 l []) h)) : tb (e54 :: tl) 54 [cmds l, I f, I t] h Q := by
  rw [tb_here e54 tl 54 _ _ _ rfl]
  exact ⟨l, f, t, rfl, hx, hq⟩
@[simp ↓] theorem e54_t (tl : List (QE Try.prog)) (f : Nat) (args : List AV) (h : AH) (Q : AV → AH → Prop) (hf : 54 ≠ f) : tb (e54 :: tl) f args h Q = tb tl f args h Q := tb_there e54 tl f args h Q hf
def dSt (a b : List Cmd) : Bool := ((a.drop (dAt a b)).take (a.length - dTl a b - dAt a b)).any strct || (dL a b).any strct
def dF (a b : List Cmd) : Nat := if dSt a b then 0 else dAt a b
def dTa (a b : List Cmd) : Nat := if dSt a b then a.length else a.length - dTl a b
def dTb (a b : List Cmd) : Nat := if dSt a b then b.length else b.length - dTl a b
def dmg (a b : List Cmd) : List Rect := if eqD a b then [] else if validate a = 0 ∧ validate b = 0 then
    (match exts (dF a b) (dTa a b) [] 0 a [], exts (dF a b) (dTb a b) [] 0 b [] with
    | some x, some y => x ++ y
    | _, _ => evr)
  else evr
theorem valid_len {l : List Cmd} (h : validate l = 0) : l.length ≤ 20000 := by
  unfold validate at h
  split at h
  · cases h
  · omega
theorem dj {vx vy : AV} {bx bY : Bool} {h : AH} {Q : AV → AH → Prop} (h1 : bx = true → bY = true → wk (kApp h 4 32 vx vy) Q) (h2 : bx = false ∨ bY = false → Q (.rsl h.nx 0 4 4) (h.add (.cells (flatR evr)))) : g23_s3 (tb [e51, e54, e27, e13, e53]) vx (.bool bx) (.tup [vy, .bool bY]) h Q := by
  simp (disch := first | (simp; done) | omega | (simp only [nx_add, nx_set, nx_kill, nx_mk, nx_emp]; omega) | fail) [g23_s3]
  refine ⟨fun vs h' => vs = [vx, vy, .bool (!(bx && bY))] ∧ h' = h, ?_, ?_⟩
  · cases bx <;> cases bY <;> simp (disch := first | (simp; done) | omega | (simp only [nx_add, nx_set, nx_kill, nx_mk, nx_emp]; omega) | fail) [g23_a4]
  · rintro vs h' ⟨rfl, rfl⟩
    cases bx <;> cases bY <;> simp (disch := first | (simp; done) | omega | (simp only [nx_add, nx_set, nx_kill, nx_mk, nx_emp]; omega) | fail) [g23_j5]
    · exact h2 (.inl rfl)
    · exact h2 (.inl rfl)
    · exact h2 (.inr rfl)
    · exact h1 rfl rfl
theorem frz_flat {h : AH} {id : Nat} {l : List Rect} (hc : h.cellsAt id = some (flatR l)) : Frz h true (.rsl id 0 l.length 4) (rects l) :=
  frz_rows Rect.len hc (fun r _ c hc => by simp [Rect.enc] at hc; rcases hc with rfl | rfl | rfl | rfl <;> exact .int _ _)
theorem frz_ev (h : AH) : Frz (h.add (.cells (flatR evr))) true (.rsl h.nx 0 4 4) (rects evr) := frz_flat (l := evr) (by simp)
theorem flat_cut (l : List Rect) : cut (flatR l) 0 (l.length * 4) = some (flatR l) := by
  have := cut_zero_app (α := flatR l) (b := []) (n := l.length * 4) (by unfold flatR; rw [flat_len Rect.len])
  rwa [List.append_nil] at this
theorem flat_ones (l : List Rect) : ones (flatR l) = true := ones_flat Rect.ones l
theorem kApp_nn (h : AH) (z b : Nat) : kApp h z b .nilsl .nilsl = some (.nilsl, h) := Eq.trans rfl rfl
theorem kApp_rn (h : AH) (id : Nat) (l : List Rect) (hc : h.cellsAt id = some (flatR l)) (hl : l.length ≤ 100000) : kApp h 4 32 (.rsl id 0 l.length 4) .nilsl = some (.rsl h.nx 0 l.length 4, (h.kill id).add (.cells (flatR l))) := by
  have h3 : roomy (l.length + 0) 32 = true := roomy_ok _ _ (by omega) (by omega)
  have h3' : roomy l.length 32 = true := h3
  simp [kApp, aapp, acells, alen, hc, flat_cut l, ones, h3']
theorem kApp_nr' (h : AH) (id : Nat) (l : List Rect) (hc : h.cellsAt id = some (flatR l)) (hl : l.length ≤ 100000) (h0 : l.length ≠ 0) : kApp h 4 32 .nilsl (.rsl id 0 l.length 4) = some (.rsl h.nx 0 l.length 4, h.add (.cells (flatR l))) := by
  have h3 : roomy l.length 32 = true := roomy_ok _ _ (by omega) (by omega)
  rw [kApp_nr _ _ _ _ _ _ h0]
  simp [hc, flat_cut l, flat_ones l, h3]
theorem kApp_rr' (h : AH) (id id2 : Nat) (l l2 : List Rect) (hc : h.cellsAt id = some (flatR l)) (hc2 : h.cellsAt id2 = some (flatR l2)) (hl : l.length + l2.length ≤ 100000) : kApp h 4 32 (.rsl id 0 l.length 4) (.rsl id2 0 l2.length 4) = some (.rsl h.nx 0 (l.length + l2.length) 4, (h.kill id).add (.cells (flatR l ++ flatR l2))) := by
  have h3 : roomy (l.length + l2.length) 32 = true := roomy_ok _ _ (by omega) (by omega)
  rw [kApp_rr]
  simp [hc, hc2, flat_cut l, flat_cut l2, flat_ones l2, h3]
theorem wk_of {r : Option (AV × AH)} {v : AV} {h : AH} {k : AV → AH → Prop} (hr : r = some (v, h)) (hk : k v h) : wk r k := by subst hr; exact hk
theorem flat_app (a b : List Rect) : flatR (a ++ b) = flatR a ++ flatR b := by simp [flatR]
theorem exts_len (f t : Nat) : ∀ (l : List Cmd) (st : List (Option Tf)) (i : Nat) (out o : List Rect), exts f t st i l out = some o → o.length ≤ out.length + l.length
  | [], st, i, out, o, h => by simp [exts] at h; subst h; simp
  | c :: l, st, i, out, o, h => by
    unfold exts at h
    (repeat' (split at h))
    all_goals (try (cases h; done))
    all_goals (have := exts_len f t l _ _ _ _ h; (try simp only [List.length_append, List.length_cons, List.length_nil] at this ⊢); first | omega | (split at this <;> simp at this ⊢ <;> omega))
theorem damage_f (a b : List Cmd) (hx : Lite a ∧ Lite b) : Fresh Try.prog 23 [cmds a, cmds b] (rects (dmg a b)) := by
  refine C23 (tb_ok [e51, e54, e27, e13, e53]) ?_
  obtain ⟨ha, hb⟩ := hx
  have sa := ha.sm; have sb := hb.sm
  cases heq : eqD a b
  · have hres : dRes a b = .psl [[I (dAt a b), I ((a.length - dTl a b - dAt a b : Nat) : Int), cmds (dL a b)]] := by unfold dRes; rw [if_neg (by simp [heq])]
    simp (disch := first | (simp; done) | omega | (simp only [nx_add, nx_set, nx_kill, nx_mk, nx_emp]; omega) | fail) [g23, ha, hb, hres]
    refine ⟨fun vs h => vs = [cmds a, cmds b, dRes a b, .bool (!(decide (validate a = 0) && decide (validate b = 0)))] ∧ h = emp, ?_, ?_⟩
    · by_cases q1 : validate a = 0 <;> by_cases q2 : validate b = 0 <;> simp (disch := first | (simp; done) | omega | (simp only [nx_add, nx_set, nx_kill, nx_mk, nx_emp]; omega) | fail) [g23_a1, q1, q2, sa, sb, hres] <;> simp (disch := first | (simp; done) | omega | (simp only [nx_add, nx_set, nx_kill, nx_mk, nx_emp]; omega) | fail) [g23_s1, q1, q2, sa, sb, hres]
    rintro vs h ⟨rfl, rfl⟩
    have hix : kIdxA emp 3 (dRes a b) (I 0) = some (.pptr [I (dAt a b), I ((a.length - dTl a b - dAt a b : Nat) : Int), cmds (dL a b)], emp) := by rw [hres]; exact kIdxA_psl (i := 0) rfl rfl
    simp (disch := first | (simp; done) | omega | (simp only [nx_add, nx_set, nx_kill, nx_mk, nx_emp]; omega) | fail) [g23_j8, hix]
    refine ⟨fun hbad => ?_, fun hva hvb => ?_⟩
    · have hd : dmg a b = evr := by
        unfold dmg; rw [if_neg (by simp [heq]), if_neg (by rintro ⟨z1, z2⟩; simp [z1, z2] at hbad)]
      rw [hd]
      exact frz_rows Rect.len (l := evr) (by simp [flatR]) (fun r _ c hc => by simp [Rect.enc] at hc; rcases hc with rfl | rfl | rfl | rfl <;> exact .int _ _)
    · have hle := d_le a b
      have hlL : (dL a b).length = b.length - dTl a b - dAt a b := by unfold dL; simp; omega
      have la1 := ha.1
      have lb1 := hb.1
      have e1 : ((dAt a b : Nat) : Int) + ((a.length - dTl a b - dAt a b : Nat) : Int) = ((a.length - dTl a b : Nat) : Int) := by omega
      have e2 : ((dAt a b : Nat) : Int) + ((b.length - dTl a b - dAt a b : Nat) : Int) = ((b.length - dTl a b : Nat) : Int) := by omega
      have g1 : (Cmd.enc = Cmd.enc) := rfl
      simp (disch := first | (simp; done) | omega | (simp only [nx_add, nx_set, nx_kill, nx_mk, nx_emp]; omega) | fail) [g23_s6, e1, e2, hlL]
      simp (disch := first | (simp; done) | omega | (simp only [nx_add, nx_set, nx_kill, nx_mk, nx_emp]; omega) | fail) [g23_s5, e1, e2, hlL]
      have hsl : ∀ h, kSl h 22 (cmds a) (some (I (dAt a b))) (some (I ((a.length - dTl a b : Nat) : Int))) none = some (cmds ((a.drop (dAt a b)).take (a.length - dTl a b - dAt a b)), h) := fun h => kSl_cmds h a _ _ (by omega) (by omega)
      have sm1 : Sm ((a.drop (dAt a b)).take (a.length - dTl a b - dAt a b)) := by unfold Sm; simp; omega
      have sm2 : Sm (dL a b) := by unfold Sm; omega
      refine ⟨fun vs h => vs = [cmds a, cmds b, I (dAt a b), I ((a.length - dTl a b : Nat) : Int), I ((b.length - dTl a b : Nat) : Int), .bool (dSt a b)], ?_, ?_⟩
      · cases q1 : ((a.drop (dAt a b)).take (a.length - dTl a b - dAt a b)).any strct
        · have hd : dSt a b = (dL a b).any strct := by unfold dSt; rw [q1]; rfl
          simp (disch := first | (simp; done) | omega | (simp only [nx_add, nx_set, nx_kill, nx_mk, nx_emp]; omega) | fail) [g23_a2, hsl, sm1, sm2, q1, hd]
          simp (disch := first | (simp; done) | omega | (simp only [nx_add, nx_set, nx_kill, nx_mk, nx_emp]; omega) | fail) [g23_s2, hsl, sm1, sm2, q1, hd]
        · have hd : dSt a b = true := by unfold dSt; rw [q1]; rfl
          simp (disch := first | (simp; done) | omega | (simp only [nx_add, nx_set, nx_kill, nx_mk, nx_emp]; omega) | fail) [g23_a2, hsl, sm1, sm2, q1, hd]
          simp (disch := first | (simp; done) | omega | (simp only [nx_add, nx_set, nx_kill, nx_mk, nx_emp]; omega) | fail) [g23_s2, hsl, sm1, sm2, q1, hd]
      rintro vs h rfl
      simp (disch := first | (simp; done) | omega | (simp only [nx_add, nx_set, nx_kill, nx_mk, nx_emp]; omega) | fail) [g23_j7]
      refine ⟨fun vs h => vs = [cmds a, cmds b, I (dF a b : Nat), I (dTa a b : Nat), I (dTb a b : Nat)], ?_, ?_⟩
      · cases q : dSt a b <;> simp (disch := first | (simp; done) | omega | (simp only [nx_add, nx_set, nx_kill, nx_mk, nx_emp]; omega) | fail) [g23_a3, q, dF, dTa, dTb]
      rintro vs h rfl
      simp (disch := first | (simp; done) | omega | (simp only [nx_add, nx_set, nx_kill, nx_mk, nx_emp]; omega) | fail) [g23_j6]
      have hF : dF a b ≤ 100000 := by unfold dF; split <;> omega
      have hTa : dTa a b ≤ 100000 := by unfold dTa; split <;> omega
      have hTb : dTb a b ≤ 100000 := by unfold dTb; split <;> omega
      refine e54_h ⟨sa, hva, hF, hTa⟩ ?_
      have hdm : dmg a b = (match exts (dF a b) (dTa a b) [] 0 a [], exts (dF a b) (dTb a b) [] 0 b [] with
          | some x, some y => x ++ y
          | _, _ => evr) := by
        unfold dmg; rw [if_neg (by simp [heq]), if_pos ⟨hva, hvb⟩]
      rw [hdm]
      have va := valid_len hva
      have vb := valid_len hvb
      have lX := fun o => exts_len (dF a b) (dTa a b) a [] 0 [] o
      have lY := fun o => exts_len (dF a b) (dTb a b) b [] 0 [] o
      generalize exts (dF a b) (dTa a b) [] 0 a [] = X at lX ⊢
      match X with
      | none =>
        simp (disch := first | (simp; done) | omega | (simp only [nx_add, nx_set, nx_kill, nx_mk, nx_emp]; omega) | fail) [g23_s4, exV, exH]
        refine e54_h ⟨sb, hvb, hF, hTb⟩ ?_
        generalize exts (dF a b) (dTb a b) [] 0 b [] = Y at lY ⊢
        match Y with
        | none => exact dj (fun z => by cases z) fun _ => frz_ev _
        | some [] => exact dj (fun z => by cases z) fun _ => frz_ev _
        | some (r :: o) => exact dj (fun z => by cases z) fun _ => frz_ev _
      | some [] =>
        simp (disch := first | (simp; done) | omega | (simp only [nx_add, nx_set, nx_kill, nx_mk, nx_emp]; omega) | fail) [g23_s4, exV, exH]
        refine e54_h ⟨sb, hvb, hF, hTb⟩ ?_
        generalize exts (dF a b) (dTb a b) [] 0 b [] = Y at lY ⊢
        match Y with
        | none => exact dj (fun _ z => by cases z) fun _ => frz_ev _
        | some [] =>
          refine dj (fun _ _ => ?_) (fun z => by simp at z)
          rw [kApp_nn]
          exact .nilsl
        | some (r :: o) =>
          have := lY _ rfl
          refine dj (fun _ _ => ?_) (fun z => by simp at z)
          exact wk_of (kApp_nr' (h.add (.cells (flatR (r :: o)))) h.nx (r :: o) (by simp) (by simp at this; simp; omega) (by simp)) (frz_flat (l := r :: o) (by simp))
      | some (r1 :: o1) =>
        have l1 := lX _ rfl
        simp at l1
        simp (disch := first | (simp; done) | omega | (simp only [nx_add, nx_set, nx_kill, nx_mk, nx_emp]; omega) | fail) [g23_s4, exV, exH]
        refine e54_h ⟨sb, hvb, hF, hTb⟩ ?_
        generalize exts (dF a b) (dTb a b) [] 0 b [] = Y at lY ⊢
        match Y with
        | none => exact dj (fun _ z => by cases z) fun _ => frz_ev _
        | some [] =>
          refine dj (fun _ _ => ?_) (fun z => by simp at z)
          exact wk_of (kApp_rn (h.add (.cells (flatR (r1 :: o1)))) h.nx (r1 :: o1) (by simp) (by simp; omega)) (by
            show Frz _ true _ (rects ((r1 :: o1) ++ []))
            rw [List.append_nil]
            exact frz_flat (l := r1 :: o1) (by simp))
        | some (r :: o) =>
          have l2 := lY _ rfl
          simp at l2
          refine dj (fun _ _ => ?_) (fun z => by simp at z)
          exact wk_of (kApp_rr' ((h.add (.cells (flatR (r1 :: o1)))).add (.cells (flatR (r :: o)))) h.nx (h.nx + 1) (r1 :: o1) (r :: o) (by simp) (by simp) (by simp; omega)) (by
            have := frz_flat (h := ((((h.add (.cells (flatR (r1 :: o1)))).add (.cells (flatR (r :: o)))).kill h.nx).add (.cells (flatR (r1 :: o1) ++ flatR (r :: o))))) (id := h.nx + 1 + 1) (l := (r1 :: o1) ++ (r :: o)) (by rw [flat_app]; simp)
            rw [List.length_append] at this
            simpa using this)
  · have hres : dRes a b = .nilsl := by unfold dRes; rw [if_pos heq]
    simp (disch := first | (simp; done) | omega | (simp only [nx_add, nx_set, nx_kill, nx_mk, nx_emp]; omega) | fail) [g23, ha, hb, hres]
    simp [dmg, heq, rects]
    exact .nilsl
theorem damage_c (a b : List Cmd) (hx : Lite a ∧ Lite b) : Pure Try.prog 23 [cmds a, cmds b] (rects (dmg a b)) := (damage_f a b hx).pure (by simp [cmds_cl])
end Go.Proofs.Ytpnekpbehcbmkaa
