/- What the damage between two lists of commands is in the program. Outside the damage of two lists of commands every pixel is the same. What the reference's extents of a list of commands are: those of the program. What the law's call of every public function on raw lists answers. What the law on raw lists computes, as a plain function of its data. A call that ends with one new object and changed old ones: what else it has made is forgotten, what the new object holds is frozen. What the reader of numbers of the laws answers, and what it does to its object. The commands that the laws make, as a plain function of the numbers. One round of the laws' maker of commands. What the laws' maker of commands answers. Bounds of the commands that the laws make. What the law DisplayPixels computes. -/
import Derived.Test.YtpnekpbehcbmkaaD7T
import Derived.Test.YtpnekpbehcbmkaaEngBB
set_option linter.unusedSimpArgs false
set_option linter.unusedVariables false
set_option linter.unnecessarySimpa false
noncomputable section
namespace Go.Proofs.Ytpnekpbehcbmkaa
open Go.Eng
def flatR (l : List Rect) : List AV := (l.map Rect.enc).flatten
theorem flatR_frz (h : AH) (n : Bool) (l : List Rect) : FrzL h n (flatR l) (flatR l) := by
  rw [FrzL_iff]
  refine ⟨rfl, fun i c d h1 h2 => ?_⟩
  rw [h1] at h2; cases h2
  have hm := List.mem_of_getElem? h1
  obtain ⟨x, hx, hr⟩ := List.mem_flatten.1 hm
  obtain ⟨r, _, rfl⟩ := List.mem_map.1 hx
  simp [Rect.enc] at hr
  rcases hr with rfl | rfl | rfl | rfl <;> exact .int _ _
theorem everything_d (h : AH) : CallD Try.prog 51 [] h (.rsl h.nx 0 4 4) (h.add (.cells (flatR evr))) := by
  refine C51 (tb_ok []) ?_
  simp (disch := first | (simp; done) | omega | (simp only [nx_add, nx_set, nx_kill, nx_mk, nx_emp]; omega) | fail) [g51]
  simp [splice]
  rfl
def e51 : QE Try.prog := ⟨51, fun args h Q => args = [] ∧ Q (.rsl h.nx 0 4 4) (h.add (.cells (flatR evr))), fun args h Q ⟨h1, h2⟩ => by subst h1; exact ⟨_, _, everything_d h, h2⟩⟩
@[simp ↓] theorem e51_h (tl : List (QE Try.prog)) (h : AH) (Q : AV → AH → Prop) : tb (e51 :: tl) 51 [] h Q = Q (.rsl h.nx 0 4 4) (h.add (.cells (flatR evr))) := by
  rw [tb_here e51 tl 51 _ _ _ rfl]
  exact propext ⟨fun h => h.2, fun h => ⟨rfl, h⟩⟩
@[simp ↓] theorem e51_t (tl : List (QE Try.prog)) (f : Nat) (args : List AV) (h : AH) (Q : AV → AH → Prop) (hf : 51 ≠ f) : tb (e51 :: tl) f args h Q = tb tl f args h Q := tb_there e51 tl f args h Q hf
def exV (R : Option (List Rect)) (h : AH) : AV := match R with
  | none => .tup [.nilsl, .bool false]
  | some [] => .tup [.nilsl, .bool true]
  | some (r :: o) => .tup [.rsl h.nx 0 (o.length + 1) 4, .bool true]
def exH (R : Option (List Rect)) (h : AH) : AH := match R with
  | none => h
  | some [] => h
  | some (r :: o) => h.add (.cells (flatR (r :: o)))
theorem frz_args3 {h : AH} {a b : AV} {n m : Int} (h1 : Frz h false a b) : ∀ (i : Nat) (x y : AV), [a, I n, I m][i]? = some x → [b, I n, I m][i]? = some y → Frz h false x y := by
  intro i x y hx hy
  match i with
  | 0 => simp at hx hy; subst hx; subst hy; exact h1
  | 1 => simp at hx hy; subst hx; subst hy; exact .int _ _
  | 2 => simp at hx hy; subst hx; subst hy; exact .int _ _
  | i + 3 => simp at hx
theorem extents_d (l : List Cmd) (f t : Nat) (hl : SmL l) (hv : validate l = 0) (hf : f ≤ 100000) (ht : t ≤ 100000) (h : AH) : CallD Try.prog 54 [cmds l, I f, I t] h (exV (exts f t [] 0 l []) h) (exH (exts f t [] 0 l []) h) := by
  have hc := extents_e l f t hl hv hf ht
  generalize exts f t [] 0 l [] = R at hc ⊢
  match R with
  | none => exact frame (n := true) hc (fun v' h' (hr : v' = _) => by subst hr; exact .tup _ _ rfl (fun i c d k1 k2 => by
      match i with
      | 0 => simp at k1 k2; subst k1; subst k2; exact .nilsl0
      | 1 => simp at k1 k2; subst k1; subst k2; exact .bool _
      | i + 2 => simp at k1)) (.inr ⟨rfl, rfl, frz_args3 (cmds_pl l h)⟩)
  | some [] => exact frame (n := true) hc (fun v' h' (hr : v' = _) => by subst hr; exact .tup _ _ rfl (fun i c d k1 k2 => by
      match i with
      | 0 => simp at k1 k2; subst k1; subst k2; exact .nilsl0
      | 1 => simp at k1 k2; subst k1; subst k2; exact .bool _
      | i + 2 => simp at k1)) (.inr ⟨rfl, rfl, frz_args3 (cmds_pl l h)⟩)
  | some (r :: o) => exact frameO hc (fun v' h' ⟨id, hv', hc'⟩ => ⟨id, _, hc', flatR_frz _ _ _, by subst hv'; exact .two _ _ _ _ _ (.bool _)⟩) rfl (frz_args3 (cmds_pl l h))
def e54 : QE Try.prog := ⟨54, fun args h Q => ∃ l f t, args = [cmds l, I (f : Nat), I (t : Nat)] ∧ (SmL l ∧ validate l = 0 ∧ f ≤ 100000 ∧ t ≤ 100000) ∧ Q (exV (exts f t [] 0 l []) h) (exH (exts f t [] 0 l []) h), fun args h Q ⟨l, f, t, h1, ⟨h2, h3, h4, h5⟩, h6⟩ => by
  subst h1; exact ⟨_, _, extents_d l f t h2 h3 h4 h5 h, h6⟩⟩
theorem e54_h {tl : List (QE Try.prog)} {l : List Cmd} {f t : Nat} {h : AH} {Q : AV → AH → Prop} (hx : SmL l ∧ validate l = 0 ∧ f ≤ 100000 ∧ t ≤ 100000) (hq : Q (exV (exts f t [] 0 l []) h) (exH (exts f t [] 0 l []) h)) : tb (e54 :: tl) 54 [cmds l, I f, I t] h Q := by
  rw [tb_here e54 tl 54 _ _ _ rfl]
  exact ⟨l, f, t, rfl, hx, hq⟩
@[simp ↓] theorem e54_t (tl : List (QE Try.prog)) (f : Nat) (args : List AV) (h : AH) (Q : AV → AH → Prop) (hf : 54 ≠ f) : tb (e54 :: tl) f args h Q = tb tl f args h Q := tb_there e54 tl f args h Q hf
def dSt (a b : List Cmd) : Bool := ((a.drop (dAt a b)).take (a.length - dTl a b - dAt a b)).any strct || (dL a b).any strct
def dF (a b : List Cmd) : Nat := if dSt a b then 0 else dAt a b
def dTa (a b : List Cmd) : Nat := if dSt a b then a.length else a.length - dTl a b
def dTb (a b : List Cmd) : Nat := if dSt a b then b.length else b.length - dTl a b
def dmg (a b : List Cmd) : List Rect := if eqD a b then [] else if validate a = 0 ∧ validate b = 0 then
    (match exts (dF a b) (dTa a b) [] 0 a [], exts (dF a b) (dTb a b) [] 0 b [] with
    | some x, some y => x ++ y
    | _, _ => evr)
  else evr
theorem valid_len {l : List Cmd} (h : validate l = 0) : l.length ≤ 20000 := by
  unfold validate at h
  split at h
  · cases h
  · omega
theorem dj {vx vy : AV} {bx bY : Bool} {h : AH} {Q : AV → AH → Prop} (h1 : bx = true → bY = true → wk (kApp h 4 32 vx vy) Q) (h2 : bx = false ∨ bY = false → Q (.rsl h.nx 0 4 4) (h.add (.cells (flatR evr)))) : g23_s3 (tb [e51, e54, e27, e13, e53]) vx (.bool bx) (.tup [vy, .bool bY]) h Q := by
  simp (disch := first | (simp; done) | omega | (simp only [nx_add, nx_set, nx_kill, nx_mk, nx_emp]; omega) | fail) [g23_s3]
  refine ⟨fun vs h' => vs = [vx, vy, .bool (!(bx && bY))] ∧ h' = h, ?_, ?_⟩
  · cases bx <;> cases bY <;> simp (disch := first | (simp; done) | omega | (simp only [nx_add, nx_set, nx_kill, nx_mk, nx_emp]; omega) | fail) [g23_a4]
  · rintro vs h' ⟨rfl, rfl⟩
    cases bx <;> cases bY <;> simp (disch := first | (simp; done) | omega | (simp only [nx_add, nx_set, nx_kill, nx_mk, nx_emp]; omega) | fail) [g23_j5]
    · exact h2 (.inl rfl)
    · exact h2 (.inl rfl)
    · exact h2 (.inr rfl)
    · exact h1 rfl rfl
theorem frz_flat {h : AH} {id : Nat} {l : List Rect} (hc : h.cellsAt id = some (flatR l)) : Frz h true (.rsl id 0 l.length 4) (rects l) :=
  frz_rows Rect.len hc (fun r _ c hc => by simp [Rect.enc] at hc; rcases hc with rfl | rfl | rfl | rfl <;> exact .int _ _)
theorem frz_ev (h : AH) : Frz (h.add (.cells (flatR evr))) true (.rsl h.nx 0 4 4) (rects evr) := frz_flat (l := evr) (by simp)
theorem flat_cut (l : List Rect) : cut (flatR l) 0 (l.length * 4) = some (flatR l) := by
  have := cut_zero_app (α := flatR l) (b := []) (n := l.length * 4) (by unfold flatR; rw [flat_len Rect.len])
  rwa [List.append_nil] at this
theorem flat_ones (l : List Rect) : ones (flatR l) = true := ones_flat Rect.ones l
theorem kApp_nn (h : AH) (z b : Nat) : kApp h z b .nilsl .nilsl = some (.nilsl, h) := Eq.trans rfl rfl
theorem kApp_rn (h : AH) (id : Nat) (l : List Rect) (hc : h.cellsAt id = some (flatR l)) (hl : l.length ≤ 100000) : kApp h 4 32 (.rsl id 0 l.length 4) .nilsl = some (.rsl h.nx 0 l.length 4, (h.kill id).add (.cells (flatR l))) := by
  have h3 : roomy (l.length + 0) 32 = true := roomy_ok _ _ (by omega) (by omega)
  have h3' : roomy l.length 32 = true := h3
  simp [kApp, aapp, acells, alen, hc, flat_cut l, ones, h3']
theorem kApp_nr' (h : AH) (id : Nat) (l : List Rect) (hc : h.cellsAt id = some (flatR l)) (hl : l.length ≤ 100000) (h0 : l.length ≠ 0) : kApp h 4 32 .nilsl (.rsl id 0 l.length 4) = some (.rsl h.nx 0 l.length 4, h.add (.cells (flatR l))) := by
  have h3 : roomy l.length 32 = true := roomy_ok _ _ (by omega) (by omega)
  rw [kApp_nr _ _ _ _ _ _ h0]
  simp [hc, flat_cut l, flat_ones l, h3]
theorem kApp_rr' (h : AH) (id id2 : Nat) (l l2 : List Rect) (hc : h.cellsAt id = some (flatR l)) (hc2 : h.cellsAt id2 = some (flatR l2)) (hl : l.length + l2.length ≤ 100000) : kApp h 4 32 (.rsl id 0 l.length 4) (.rsl id2 0 l2.length 4) = some (.rsl h.nx 0 (l.length + l2.length) 4, (h.kill id).add (.cells (flatR l ++ flatR l2))) := by
  have h3 : roomy (l.length + l2.length) 32 = true := roomy_ok _ _ (by omega) (by omega)
  rw [kApp_rr]
  simp [hc, hc2, flat_cut l, flat_cut l2, flat_ones l2, h3]
theorem wk_of {r : Option (AV × AH)} {v : AV} {h : AH} {k : AV → AH → Prop} (hr : r = some (v, h)) (hk : k v h) : wk r k := by subst hr; exact hk
theorem flat_app (a b : List Rect) : flatR (a ++ b) = flatR a ++ flatR b := by simp [flatR]
theorem exts_len (f t : Nat) : ∀ (l : List Cmd) (st : List (Option Tf)) (i : Nat) (out o : List Rect), exts f t st i l out = some o → o.length ≤ out.length + l.length
  | [], st, i, out, o, h => by simp [exts] at h; subst h; simp
  | c :: l, st, i, out, o, h => by
    unfold exts at h
    (repeat' (split at h))
    all_goals (try (cases h; done))
    all_goals (have := exts_len f t l _ _ _ _ h; (try simp only [List.length_append, List.length_cons, List.length_nil] at this ⊢); first | omega | (split at this <;> simp at this ⊢ <;> omega))
theorem damage_f (a b : List Cmd) (hx : Lite a ∧ Lite b) : Fresh Try.prog 23 [cmds a, cmds b] (rects (dmg a b)) := by
  refine C23 (tb_ok [e51, e54, e27, e13, e53]) ?_
  obtain ⟨ha, hb⟩ := hx
  have sa := ha.sm; have sb := hb.sm
  cases heq : eqD a b
  · have hres : dRes a b = .psl [[I (dAt a b), I ((a.length - dTl a b - dAt a b : Nat) : Int), cmds (dL a b)]] := by unfold dRes; rw [if_neg (by simp [heq])]
    simp (disch := first | (simp; done) | omega | (simp only [nx_add, nx_set, nx_kill, nx_mk, nx_emp]; omega) | fail) [g23, ha, hb, hres]
    refine ⟨fun vs h => vs = [cmds a, cmds b, dRes a b, .bool (!(decide (validate a = 0) && decide (validate b = 0)))] ∧ h = emp, ?_, ?_⟩
    · by_cases q1 : validate a = 0 <;> by_cases q2 : validate b = 0 <;> simp (disch := first | (simp; done) | omega | (simp only [nx_add, nx_set, nx_kill, nx_mk, nx_emp]; omega) | fail) [g23_a1, q1, q2, sa, sb, hres] <;> simp (disch := first | (simp; done) | omega | (simp only [nx_add, nx_set, nx_kill, nx_mk, nx_emp]; omega) | fail) [g23_s1, q1, q2, sa, sb, hres]
    rintro vs h ⟨rfl, rfl⟩
    have hix : kIdxA emp 3 (dRes a b) (I 0) = some (.pptr [I (dAt a b), I ((a.length - dTl a b - dAt a b : Nat) : Int), cmds (dL a b)], emp) := by rw [hres]; exact kIdxA_psl (i := 0) rfl rfl
    simp (disch := first | (simp; done) | omega | (simp only [nx_add, nx_set, nx_kill, nx_mk, nx_emp]; omega) | fail) [g23_j8, hix]
    refine ⟨fun hbad => ?_, fun hva hvb => ?_⟩
    · have hd : dmg a b = evr := by
        unfold dmg; rw [if_neg (by simp [heq]), if_neg (by rintro ⟨z1, z2⟩; simp [z1, z2] at hbad)]
      rw [hd]
      exact frz_rows Rect.len (l := evr) (by simp [flatR]) (fun r _ c hc => by simp [Rect.enc] at hc; rcases hc with rfl | rfl | rfl | rfl <;> exact .int _ _)
    · have hle := d_le a b
      have hlL : (dL a b).length = b.length - dTl a b - dAt a b := by unfold dL; simp; omega
      have la1 := ha.1
      have lb1 := hb.1
      have e1 : ((dAt a b : Nat) : Int) + ((a.length - dTl a b - dAt a b : Nat) : Int) = ((a.length - dTl a b : Nat) : Int) := by omega
      have e2 : ((dAt a b : Nat) : Int) + ((b.length - dTl a b - dAt a b : Nat) : Int) = ((b.length - dTl a b : Nat) : Int) := by omega
      have g1 : (Cmd.enc = Cmd.enc) := rfl
      simp (disch := first | (simp; done) | omega | (simp only [nx_add, nx_set, nx_kill, nx_mk, nx_emp]; omega) | fail) [g23_s6, e1, e2, hlL]
      simp (disch := first | (simp; done) | omega | (simp only [nx_add, nx_set, nx_kill, nx_mk, nx_emp]; omega) | fail) [g23_s5, e1, e2, hlL]
      have hsl : ∀ h, kSl h 22 (cmds a) (some (I (dAt a b))) (some (I ((a.length - dTl a b : Nat) : Int))) none = some (cmds ((a.drop (dAt a b)).take (a.length - dTl a b - dAt a b)), h) := fun h => kSl_cmds h a _ _ (by omega) (by omega)
      have sm1 : Sm ((a.drop (dAt a b)).take (a.length - dTl a b - dAt a b)) := by unfold Sm; simp; omega
      have sm2 : Sm (dL a b) := by unfold Sm; omega
      refine ⟨fun vs h => vs = [cmds a, cmds b, I (dAt a b), I ((a.length - dTl a b : Nat) : Int), I ((b.length - dTl a b : Nat) : Int), .bool (dSt a b)], ?_, ?_⟩
      · cases q1 : ((a.drop (dAt a b)).take (a.length - dTl a b - dAt a b)).any strct
        · have hd : dSt a b = (dL a b).any strct := by unfold dSt; rw [q1]; rfl
          simp (disch := first | (simp; done) | omega | (simp only [nx_add, nx_set, nx_kill, nx_mk, nx_emp]; omega) | fail) [g23_a2, hsl, sm1, sm2, q1, hd]
          simp (disch := first | (simp; done) | omega | (simp only [nx_add, nx_set, nx_kill, nx_mk, nx_emp]; omega) | fail) [g23_s2, hsl, sm1, sm2, q1, hd]
        · have hd : dSt a b = true := by unfold dSt; rw [q1]; rfl
          simp (disch := first | (simp; done) | omega | (simp only [nx_add, nx_set, nx_kill, nx_mk, nx_emp]; omega) | fail) [g23_a2, hsl, sm1, sm2, q1, hd]
          simp (disch := first | (simp; done) | omega | (simp only [nx_add, nx_set, nx_kill, nx_mk, nx_emp]; omega) | fail) [g23_s2, hsl, sm1, sm2, q1, hd]
      rintro vs h rfl
      simp (disch := first | (simp; done) | omega | (simp only [nx_add, nx_set, nx_kill, nx_mk, nx_emp]; omega) | fail) [g23_j7]
      refine ⟨fun vs h => vs = [cmds a, cmds b, I (dF a b : Nat), I (dTa a b : Nat), I (dTb a b : Nat)], ?_, ?_⟩
      · cases q : dSt a b <;> simp (disch := first | (simp; done) | omega | (simp only [nx_add, nx_set, nx_kill, nx_mk, nx_emp]; omega) | fail) [g23_a3, q, dF, dTa, dTb]
      rintro vs h rfl
      simp (disch := first | (simp; done) | omega | (simp only [nx_add, nx_set, nx_kill, nx_mk, nx_emp]; omega) | fail) [g23_j6]
      have hF : dF a b ≤ 100000 := by unfold dF; split <;> omega
      have hTa : dTa a b ≤ 100000 := by unfold dTa; split <;> omega
      have hTb : dTb a b ≤ 100000 := by unfold dTb; split <;> omega
      refine e54_h ⟨sa, hva, hF, hTa⟩ ?_
      have hdm : dmg a b = (match exts (dF a b) (dTa a b) [] 0 a [], exts (dF a b) (dTb a b) [] 0 b [] with
          | some x, some y => x ++ y
          | _, _ => evr) := by
        unfold dmg; rw [if_neg (by simp [heq]), if_pos ⟨hva, hvb⟩]
      rw [hdm]
      have va := valid_len hva
      have vb := valid_len hvb
      have lX := fun o => exts_len (dF a b) (dTa a b) a [] 0 [] o
      have lY := fun o => exts_len (dF a b) (dTb a b) b [] 0 [] o
      generalize exts (dF a b) (dTa a b) [] 0 a [] = X at lX ⊢
      match X with
      | none =>
        simp (disch := first | (simp; done) | omega | (simp only [nx_add, nx_set, nx_kill, nx_mk, nx_emp]; omega) | fail) [g23_s4, exV, exH]
        refine e54_h ⟨sb, hvb, hF, hTb⟩ ?_
        generalize exts (dF a b) (dTb a b) [] 0 b [] = Y at lY ⊢
        match Y with
        | none => exact dj (fun z => by cases z) fun _ => frz_ev _
        | some [] => exact dj (fun z => by cases z) fun _ => frz_ev _
        | some (r :: o) => exact dj (fun z => by cases z) fun _ => frz_ev _
      | some [] =>
        simp (disch := first | (simp; done) | omega | (simp only [nx_add, nx_set, nx_kill, nx_mk, nx_emp]; omega) | fail) [g23_s4, exV, exH]
        refine e54_h ⟨sb, hvb, hF, hTb⟩ ?_
        generalize exts (dF a b) (dTb a b) [] 0 b [] = Y at lY ⊢
        match Y with
        | none => exact dj (fun _ z => by cases z) fun _ => frz_ev _
        | some [] =>
          refine dj (fun _ _ => ?_) (fun z => by simp at z)
          rw [kApp_nn]
          exact .nilsl
        | some (r :: o) =>
          have := lY _ rfl
          refine dj (fun _ _ => ?_) (fun z => by simp at z)
          exact wk_of (kApp_nr' (h.add (.cells (flatR (r :: o)))) h.nx (r :: o) (by simp) (by simp at this; simp; omega) (by simp)) (frz_flat (l := r :: o) (by simp))
      | some (r1 :: o1) =>
        have l1 := lX _ rfl
        simp at l1
        simp (disch := first | (simp; done) | omega | (simp only [nx_add, nx_set, nx_kill, nx_mk, nx_emp]; omega) | fail) [g23_s4, exV, exH]
        refine e54_h ⟨sb, hvb, hF, hTb⟩ ?_
        generalize exts (dF a b) (dTb a b) [] 0 b [] = Y at lY ⊢
        match Y with
        | none => exact dj (fun _ z => by cases z) fun _ => frz_ev _
        | some [] =>
          refine dj (fun _ _ => ?_) (fun z => by simp at z)
          exact wk_of (kApp_rn (h.add (.cells (flatR (r1 :: o1)))) h.nx (r1 :: o1) (by simp) (by simp; omega)) (by
            show Frz _ true _ (rects ((r1 :: o1) ++ []))
            rw [List.append_nil]
            exact frz_flat (l := r1 :: o1) (by simp))
        | some (r :: o) =>
          have l2 := lY _ rfl
          simp at l2
          refine dj (fun _ _ => ?_) (fun z => by simp at z)
          exact wk_of (kApp_rr' ((h.add (.cells (flatR (r1 :: o1)))).add (.cells (flatR (r :: o)))) h.nx (h.nx + 1) (r1 :: o1) (r :: o) (by simp) (by simp) (by simp; omega)) (by
            have := frz_flat (h := ((((h.add (.cells (flatR (r1 :: o1)))).add (.cells (flatR (r :: o)))).kill h.nx).add (.cells (flatR (r1 :: o1) ++ flatR (r :: o))))) (id := h.nx + 1 + 1) (l := (r1 :: o1) ++ (r :: o)) (by rw [flat_app]; simp)
            rw [List.length_append] at this
            simpa using this)
  · have hres : dRes a b = .nilsl := by unfold dRes; rw [if_pos heq]
    simp (disch := first | (simp; done) | omega | (simp only [nx_add, nx_set, nx_kill, nx_mk, nx_emp]; omega) | fail) [g23, ha, hb, hres]
    simp [dmg, heq, rects]
    exact .nilsl
end Go.Proofs.Ytpnekpbehcbmkaa
end
noncomputable section
namespace Go.Proofs.Ytpnekpbehcbmkaa
open Go.Eng
/-! Outside the damage nothing changes. -/
def InB (r : Rect) (x y : Int) : Prop := r.x ≤ x ∧ x < r.x + r.w ∧ r.y ≤ y ∧ y < r.y + r.h
theorem inR_iff {r : Rect} {p : Pt} : inR r p = true ↔ okR r = true ∧ InB r p.x p.y := by
  unfold inR InB; simp [and_assoc]
theorem rot_in (r : Rect) (x y : Int) : ∀ n : Nat, n ≤ 3 → InB r (rotB n x y).1 (rotB n x y).2 → InB (rotR n r) x y
  | 0, _, h => h
  | 1, _, h => by simp only [InB, rotB, rotR] at *; omega
  | 2, _, h => by simp only [InB, rotB, rotR] at *; omega
  | 3, _, h => by simp only [InB, rotB, rotR] at *; omega
  | n + 4, h, _ => by omega
theorem sc_in {t : Tf} {q : Rect} {x y : Int} (hs : 1 ≤ t.scale) (h : InB q ((x - t.dx) / t.scale) ((y - t.dy) / t.scale)) : InB (scR t q) x y := by
  obtain ⟨h1, h2, h3, h4⟩ := h
  have hs0 : 0 < t.scale := by omega
  rw [Int.le_ediv_iff_mul_le hs0] at h1 h3
  rw [Int.ediv_lt_iff_lt_mul hs0, Int.add_mul] at h2 h4
  simp only [InB, scR]
  omega
theorem apl_in {t : Tf} {r : Rect} {p : Pt} (ht : okT t = true) (hp : okP p = true) (hq : inR r (bk t p) = true) (ha : okR (apl t r) = true) : inR (apl t r) p = true := by
  obtain ⟨hr, hb⟩ := inR_iff.1 hq
  refine inR_iff.2 ⟨ha, ?_⟩
  have bt := okT_bd ht
  have e1 : apl t r = scR t (rotR t.turn.toNat (mirR t r)) := by unfold apl; rw [if_pos (by simp [ht, hr])]
  rw [e1]
  refine sc_in (by omega) (rot_in _ _ _ _ (by omega) ?_)
  unfold bk at hb
  rw [if_pos (by simp [ht, hp])] at hb
  generalize (rotB t.turn.toNat ((p.x - t.dx) / t.scale) ((p.y - t.dy) / t.scale)) = z at hb ⊢
  unfold mirR InB at *
  cases hm : t.mirror <;> simp [hm] at hb ⊢ <;> omega
/-- the open transforms, and the images of a point -/
inductive Rel (p : Pt) : List (Option Tf) → List Sn → Prop
  | base : okP p = true → Rel p [] [⟨p, true⟩]
  | clip {st : List (Option Tf)} {s : Sn} {ss : List Sn} (b : Bool) : Rel p st (s :: ss) → Rel p (none :: st) (⟨s.p, s.inn && b⟩ :: s :: ss)
  | tr {st : List (Option Tf)} {s : Sn} {ss : List Sn} {t : Tf} : Rel p st (s :: ss) → okT t = true → Rel p (some t :: st) (⟨bk t s.p, s.inn && okP (bk t s.p)⟩ :: s :: ss)
theorem Rel.ok {p : Pt} {st : List (Option Tf)} {s : Sn} {ss : List Sn} (h : Rel p st (s :: ss)) (hi : s.inn = true) : okP s.p = true := by
  generalize hx : s :: ss = x at h
  induction h generalizing s ss with
  | base h => cases hx; exact h
  | clip b h ih => cases hx; simp at hi; have h2 := ih hi.1 rfl; exact h2
  | tr h ht ih => cases hx; simp at hi; exact hi.2
theorem Rel.ext {p : Pt} {st : List (Option Tf)} {s : Sn} {ss : List Sn} (h : Rel p st (s :: ss)) {r R : Rect} (hi : s.inn = true) (hr : inR r s.p = true) (he : ext1 st r = some R) : inR R p = true := by
  generalize hx : s :: ss = x at h
  induction h generalizing s ss r with
  | base h => cases hx; simp [ext1] at he; subst he; exact hr
  | clip b h ih =>
    cases hx
    simp at hi
    unfold ext1 at he
    split at he
    · exact ih hi.1 hr he rfl
    · cases he
  | tr h ht ih =>
    cases hx
    simp at hi
    unfold ext1 at he
    split at he
    · rename_i ha
      exact ih hi.1 (apl_in ht (h.ok hi.1) hr ha) he rfl
    · cases he
/-- the commands from one place to another one do not show at the point -/
def Qt (f t : Nat) : Nat → List Sn → List Cmd → Prop
  | _, _, [] => True
  | i, ss, c :: l => (f ≤ i → i < t → ∀ o, pout ss c o = o) ∧ Qt f t (i + 1) (pst ss c) l
theorem Qt.all {f t : Nat} : ∀ (l : List Cmd) (i : Nat) (ss : List Sn) (o : Int), Qt f t i ss l → f ≤ i → i + l.length ≤ t → prun ss o l = o
  | [], _, _, _, _, _, _ => rfl
  | c :: l, i, ss, o, h, h1, h2 => by
    obtain ⟨q1, q2⟩ := h
    simp at h2
    unfold prun
    rw [q1 h1 (by omega)]
    exact Qt.all l _ _ _ q2 (by omega) (by omega)
def psts : List Sn → List Cmd → List Sn
  | ss, [] => ss
  | ss, c :: l => psts (pst ss c) l
theorem Qt.app {f t : Nat} : ∀ (x y : List Cmd) (i : Nat) (ss : List Sn), Qt f t i ss (x ++ y) → Qt f t (i + x.length) (psts ss x) y
  | [], y, i, ss, h => h
  | c :: x, y, i, ss, h => by
    have := Qt.app x y (i + 1) (pst ss c) h.2
    rw [show i + (c :: x).length = i + 1 + x.length by simp; omega]
    exact this
theorem Qt.skip {f t : Nat} : ∀ (x y : List Cmd) (i : Nat) (ss : List Sn) (o : Int), Qt f t i ss (x ++ y) → f ≤ i → i + x.length ≤ t → x.any strct = false → prun ss o (x ++ y) = prun ss o y
  | [], y, _, _, _, _, _, _, _ => rfl
  | c :: x, y, i, ss, o, h, h1, h2, hs => by
    obtain ⟨q1, q2⟩ := h
    simp at h2
    simp only [List.any_cons, Bool.or_eq_false_iff] at hs
    have hk : ¬ c.kind = 1 ∧ ¬ c.kind = 2 ∧ ¬ c.kind = 3 := by
      have := hs.1; unfold strct at this; simp at this; omega
    have hps : pst ss c = ss := by
      unfold pst
      cases ss with
      | nil => rfl
      | cons s tl => simp only; rw [if_neg hk.1, if_neg hk.2.1, if_neg hk.2.2]
    show prun (pst ss c) (pout ss c o) (x ++ y) = _
    rw [hps] at q2 ⊢
    rw [q1 h1 (by omega)]
    exact Qt.skip x y _ _ _ q2 (by omega) (by omega) hs.2
end Go.Proofs.Ytpnekpbehcbmkaa
end
noncomputable section
namespace Go.Proofs.Ytpnekpbehcbmkaa
open Go.Eng
/-! The reference's extents. -/
def tfe (o : Option Tf) : List AV := (o.getD zT).enc
theorem tfe_len (o : Option Tf) : (tfe o).length = 5 := Tf.len _
structure EJ (h : AH) (vo vu : AV) (st : List (Option Tf)) (out : List Rect) (io iu : Nat) : Prop where
  op : (st = [] ∧ vo = .nilsl) ∨ (vo = .rsl io 0 st.length 5 ∧ Stk 5 tfe io h st)
  ou : (out = [] ∧ vu = .nilsl) ∨ (out ≠ [] ∧ vu = .rsl iu 0 out.length 4 ∧ iu < h.nx ∧ h.cellsAt iu = some (flatR out))
  ne : vo ≠ .nilsl → vu ≠ .nilsl → io ≠ iu
theorem EJ.keep {h h' : AH} {vo vu : AV} {st : List (Option Tf)} {out : List Rect} {io iu : Nat} (he : EJ h vo vu st out io iu) {b : Nat} (hk : Kp b h h') (hb : h.nx ≤ b) : EJ h' vo vu st out io iu := by
  refine ⟨?_, ?_, he.ne⟩
  · rcases he.op with q | ⟨q1, ⟨q3, cs, q4, q5⟩⟩
    · exact .inl q
    · exact .inr ⟨q1, ⟨Nat.lt_of_lt_of_le q3 hk.1, cs, (hk.2 io q3 (by omega)).trans q4, q5⟩⟩
  · rcases he.ou with q | ⟨q0, q1, q3, q4⟩
    · exact .inl q
    · exact .inr ⟨q0, q1, Nat.lt_of_lt_of_le q3 hk.1, (hk.2 iu q3 (by omega)).trans q4⟩
theorem EJ.push {h h' : AH} {vo vu : AV} {st : List (Option Tf)} {out : List Rect} {io iu : Nat} (he : EJ h vo vu st out io iu) (s : Option Tf) {h1 : AH} {b nid : Nat} {x : List AV} (hk : Kp b h h1) (hb : h.nx ≤ b ∨ (vo ≠ .nilsl ∧ b = io)) (hn : nid = h1.nx) (hx : x = tfe s) (hh : h' = h1.add (.cells (bot tfe st ++ x))) :
    EJ h' (.rsl nid 0 (st.length + 1) 5) vu (s :: st) out nid iu := by
  have h1nx := hk.1
  subst hh
  refine ⟨.inr ⟨rfl, Stk.push' tfe_len hn hx⟩, ?_, fun _ hu => ?_⟩
  · rcases he.ou with q | ⟨q0, q1, q3, q4⟩
    · exact .inl q
    · have hbu : iu ≠ b := by
        rcases hb with hb | ⟨hb1, hb2⟩
        · omega
        · have := he.ne hb1 (by rw [q1]; simp); omega
      refine .inr ⟨q0, q1, by simp; omega, ?_⟩
      rw [cellsAt_add, if_neg (by omega)]; exact (hk.2 iu q3 hbu).trans q4
  · rcases he.ou with q | ⟨q0, q1, q3, q4⟩
    · exact absurd q.2 hu
    · omega
theorem EJ.pop {h : AH} {vo vu : AV} {s : Option Tf} {st : List (Option Tf)} {out : List Rect} {io iu : Nat} (he : EJ h vo vu (s :: st) out io iu) : EJ h (.rsl io 0 st.length 5) vu st out io iu := by
  rcases he.op with ⟨q, _⟩ | ⟨q1, ⟨q3, cs, q4, q5⟩⟩
  · cases q
  · exact ⟨.inr ⟨rfl, q3, cs, q4, (stk_top tfe_len q5).2⟩, he.ou, fun _ h2 => he.ne (by rw [q1]; simp) h2⟩
end Go.Proofs.Ytpnekpbehcbmkaa
end
noncomputable section
namespace Go.Proofs.Ytpnekpbehcbmkaa
open Go.Eng
def e15o : QE Try.prog := ⟨15, fun args h Q => ∃ v l p, args = [v, .agg (Pt.enc p)] ∧ Frz h false v (cmds l) ∧ SmL l ∧ Q (I (pixel l p)) h, fun args h Q ⟨v, l, p, h1, h2, h3, h4⟩ => by
  subst h1
  exact ⟨_, _, Fresh.call (pixel_f l p h3) rfl (frz_args2 h2 (.agg _ _ rfl fun i c d k1 k2 => by
    rw [k1] at k2; cases k2
    have := List.mem_of_getElem? k1
    simp [Pt.enc] at this
    rcases this with rfl | rfl <;> exact .int _ _)), h4⟩⟩
theorem e15o_h {tl : List (QE Try.prog)} {v : AV} {a : List AV} {h : AH} {Q : AV → AH → Prop} (l : List Cmd) (p : Pt) (ha : a = p.enc) (h2 : Frz h false v (cmds l)) (h3 : SmL l) (h4 : Q (I (pixel l p)) h) : tb (e15o :: tl) 15 [v, .agg a] h Q := by
  subst ha
  rw [tb_here e15o tl 15 _ _ _ rfl]
  exact ⟨v, l, p, rfl, h2, h3, h4⟩
@[simp ↓] theorem e15o_t (tl : List (QE Try.prog)) (f : Nat) (args : List AV) (h : AH) (Q : AV → AH → Prop) (hf : 15 ≠ f) : tb (e15o :: tl) f args h Q = tb tl f args h Q := tb_there e15o tl f args h Q hf
def e23o : QE Try.prog := ⟨23, fun args h Q => ∃ v1 v2 a b, args = [v1, v2] ∧ Frz h false v1 (cmds a) ∧ Frz h false v2 (cmds b) ∧ (Lite a ∧ Lite b) ∧ Q (rects (dmg a b)) h, fun args h Q ⟨v1, v2, a, b, h1, h2, h3, h4, h5⟩ => by
  subst h1
  exact ⟨_, _, Fresh.call (damage_f a b h4) rfl (frz_args2 h2 h3), h5⟩⟩
theorem e23o_h {tl : List (QE Try.prog)} {v1 v2 : AV} {h : AH} {Q : AV → AH → Prop} (a b : List Cmd) (h2 : Frz h false v1 (cmds a)) (h3 : Frz h false v2 (cmds b)) (h4 : Lite a ∧ Lite b) (h5 : Q (rects (dmg a b)) h) : tb (e23o :: tl) 23 [v1, v2] h Q := by
  rw [tb_here e23o tl 23 _ _ _ rfl]
  exact ⟨v1, v2, a, b, rfl, h2, h3, h4, h5⟩
@[simp ↓] theorem e23o_t (tl : List (QE Try.prog)) (f : Nat) (args : List AV) (h : AH) (Q : AV → AH → Prop) (hf : 23 ≠ f) : tb (e23o :: tl) f args h Q = tb tl f args h Q := tb_there e23o tl f args h Q hf
def fA : Cmd := fillC 0 0 10 10 1
def fB : Cmd := fillC 5 5 10 10 2
theorem px1 : pixel [fA, fB] ⟨7, 7⟩ = 2 := by decide
theorem px2 : pixel [fA, fB] ⟨1, 7⟩ = 1 := by decide
theorem px3 : pixel [fA, fB] ⟨1, 17⟩ = -1 := by decide
theorem dm1 : (dmg [fA, fB] [fA]).length = 1 := by
  have h1 : dAt [fA, fB] [fA] = 1 := by simp [dAt, lcp, eqD]
  have h2 : dTl [fA, fB] [fA] = 0 := by simp [dTl, h1, lcp]
  have h3 : eqD [fA, fB] [fA] = false := by simp [eqD]
  have h4 : dL [fA, fB] [fA] = [] := by simp [dL, h1, h2]
  have h5 : dSt [fA, fB] [fA] = false := by simp [dSt, h1, h2, h4]; decide
  have h6 : validate [fA, fB] = 0 := by decide
  have h7 : validate [fA] = 0 := by decide
  have h8 : exts 1 2 [] 0 [fA, fB] [] = some [⟨5, 5, 10, 10⟩] := rfl
  have h9 : exts 1 1 [] 0 [fA] [] = some [] := rfl
  unfold dmg
  rw [if_neg (by simp [h3]), if_pos ⟨h6, h7⟩]
  simp [dF, dTa, dTb, h5, h1, h2, h8, h9]
theorem awake_c : Pure Try.prog 17 [] (.bool true) := by
  refine .of (by simp) (C17 (tb_ok [e15o, e23o, e26]) ?_)
  have hsm : SmL [fA, fB] := ⟨by simp [Sm], by simp [SmC, Sm, fA, fB, fillC]⟩
  have hli : Lite [fA, fB] ∧ Lite [fA] := ⟨⟨by simp, by simp [fA, fB, fillC]⟩, ⟨by simp, by simp [fA, fillC]⟩⟩
  simp (disch := first | (simp; done) | omega | (simp only [nx_add, nx_set, nx_kill, nx_mk, nx_emp]; omega) | fail) [g17]
  simp (disch := first | (simp; done) | omega | (simp only [nx_add, nx_set, nx_kill, nx_mk, nx_emp]; omega) | fail) [g17_s4]
  refine wk_of (v := .rsl 0 0 2 22) (h := emp.add (.cells (fA.enc ++ fB.enc))) rfl ?_
  obtain ⟨h, hh⟩ : ∃ h, h = emp.add (.cells (fA.enc ++ fB.enc)) := ⟨_, rfl⟩
  have hc : h.cellsAt 0 = some (fA.enc ++ fB.enc) := by subst hh; simp
  rw [← hh]
  have hF : Frz h false (.rsl 0 0 2 22) (cmds [fA, fB]) := frz_rows Cmd.len (l := [fA, fB]) (by simpa using hc) (fun a _ c hc => a.pls c hc h)
  have hF1 : Frz h false (.rsl 0 0 1 22) (cmds [fA]) := by
    refine .rsl 0 0 22 _ [fA.enc] hc (by simp) (fun i y hy => ?_) (fun i y j c d k1 k2 k3 => ?_)
    · match i with
      | 0 => simp at hy; subst hy; simp
      | i + 1 => simp at hy
    · match i with
      | 0 =>
        simp at k1; subst k1
        have hj : j < 22 := by rw [← Cmd.len fA]; exact (List.getElem?_eq_some_iff.1 k2).1
        rw [show 0 + 0 * 22 + j = j by omega, List.getElem?_append_left (by simpa using hj), k2] at k3
        cases k3
        exact fA.pls _ (List.mem_of_getElem? k2) h
      | i + 1 => simp at k1
  refine e15o_h [fA, fB] ⟨7, 7⟩ rfl hF hsm ?_
  rw [px1]
  simp (disch := first | (simp; done) | omega | (simp only [nx_add, nx_set, nx_kill, nx_mk, nx_emp]; omega) | fail) [g17_s3]
  refine e15o_h [fA, fB] ⟨1, 7⟩ rfl hF hsm ?_
  rw [px2]
  simp (disch := first | (simp; done) | omega | (simp only [nx_add, nx_set, nx_kill, nx_mk, nx_emp]; omega) | fail) [g17_s2]
  refine e15o_h [fA, fB] ⟨1, 17⟩ rfl hF hsm ?_
  rw [px3]
  simp (disch := first | (simp; done) | omega | (simp only [nx_add, nx_set, nx_kill, nx_mk, nx_emp]; omega) | fail) [kSl_hi]
  refine e23o_h [fA, fB] [fA] hF hF1 hli ?_
  simp (disch := first | (simp; done) | omega | (simp only [nx_add, nx_set, nx_kill, nx_mk, nx_emp]; omega) | fail) [rects, dm1, g17_s1]
end Go.Proofs.Ytpnekpbehcbmkaa
end
noncomputable section
namespace Go.Proofs.Ytpnekpbehcbmkaa
open Go.Eng
def e17 : QE Try.prog := .pure 17 (fun (_u : Unit) => []) (fun (_u : Unit) => True) (fun (_u : Unit) => .bool true) (fun _ _ => awake_c )
@[simp ↓] theorem e17_h (l : List (QE Try.prog)) (args : List AV) (h : AH) (Q : AV → AH → Prop) : tb (e17 :: l) 17 args h Q = e17.q args h Q := tb_here e17 l 17 args h Q rfl
@[simp ↓] theorem e17_q  (h : AH) (Q : AV → AH → Prop) : e17.q [] h Q = Q (.bool true) h := (QE.pure_q (x := ()) (by intro _ _; rfl) h Q).trans (by simp)
end Go.Proofs.Ytpnekpbehcbmkaa
end
noncomputable section
namespace Go.Eng
open Go.RowKit
/-- VR.frz, where the objects that are frozen are some of those that are owned -/
theorem VR.frzs {own : Nat → Prop} {β : Bl} {h hg : AH} {nx : Nat} {w : World} (hs : SimH own β h.H nx w) (hsub : ∀ i o, hg.H.get i = some o → h.H.get i = some o) {L2 : Nat → Prop} {β2 : Bl} {n : Bool} (h1 : ∀ b, live β hg.H b → ¬ L2 b) (h2 : n = false → ∀ b, ¬ LL own β h.H b → ¬ L2 b)
    {a a' : AV} (hf : Frz hg n a a') : ∀ {v : Value}, VR w.heap (LL own β h.H) β a v → VR w.heap L2 β2 a' v := by
  induction hf with
  | undef a => intro v hv; exact .undef v
  | bool b => intro v hv; cases hv; exact .bool b
  | int k m => intro v hv; cases hv; exact .int k m
  | str s => intro v hv; cases hv; exact .str s
  | nilptr => intro v hv; cases hv; exact .nilptr
  | nilfunc => intro v hv; cases hv; exact .nilfunc
  | nilif => intro v hv; cases hv; exact .nilif
  | nilmap => intro v hv; cases hv; exact .nilmap
  | nilsl0 => intro v hv; cases hv; exact .nilsl
  | nilsl => intro v hv; cases hv; exact .psl0 _ _
  | esl0 => intro v hv; cases hv; exact .esl _
  | esl => intro v hv; cases hv; exact .psl0 _ _
  | gptr g o => intro v hv; cases hv; exact .gptr g o
  | agg cs ds hl hc ih =>
    intro v hv
    cases hv with
    | agg _ vs hl2 hv =>
      refine .agg ds vs (hl ▸ hl2) fun i d v hd hv' => ?_
      obtain ⟨c, hc'⟩ := get_of_len hl hd
      exact ih i c d hc' hd (hv i c v hc' hv')
  | tup cs ds hl hc ih =>
    intro v hv
    cases hv with
    | tup _ vs hl2 hv =>
      refine .tup ds vs (hl ▸ hl2) fun i d v hd hv' => ?_
      obtain ⟨c, hc'⟩ := get_of_len hl hd
      exact ih i c d hc' hd (hv i c v hc' hv')
  | psl0 => intro v hv; cases hv <;> exact .psl0 _ _
  | psl hn xs ys hl hx hc ih =>
    intro v hv
    cases hv with
    | psl0 a cap => cases ys with
      | nil => exact .psl0 a cap
      | cons y ys => simp at hl
    | psl _ z b o cap cur e fz hb hL hs' hz hcap hv =>
      rw [hl]
      refine .psl ys z b o cap cur e fz hb (h2 hn b hL) (hl ▸ hs') (fun i y hy => ?_) (hl ▸ hcap) fun i y j d v hy hd hv' => ?_
      · obtain ⟨x, hx'⟩ := get_of_len hl hy
        rw [← hx i x y hx' hy]; exact hz i x hx'
      · obtain ⟨x, hx'⟩ := get_of_len hl hy
        obtain ⟨c, hc'⟩ := get_of_len (hx i x y hx' hy) hd
        exact ih i x y j c d hx' hy hc' hd (hv i x j c v hx' hc' hv')
  | pptr hn cs ds hl hc ih =>
    intro v hv
    cases hv with
    | pptr _ b o cur e fz hb hL hs' hv =>
      refine .pptr ds b o cur e fz hb (h2 hn b hL) (hl ▸ hs') fun i d v hd hv' => ?_
      obtain ⟨c, hc'⟩ := get_of_len hl hd
      exact ih i c d hc' hd (hv i c v hc' hv')
  | rsl id off z cs ys ho hs' hz hc ih =>
    intro v hv
    obtain ⟨b, base, hb, hnb, cur, e, hcur, hcs, hcell⟩ := hs.obj id _ (hsub _ _ (cellsAt_get ho))
    have hlive : live β hg.H b := ⟨id, _, base, cellsAt_get ho, hb⟩
    generalize hlen : ys.length = len at hv
    cases hv with
    | rsl _ _ _ _ b' base' cap cur' e' hb' hcur' hcap hm hs2 =>
      rw [hb] at hb'; cases hb'
      rw [hcur] at hcur'; cases hcur'
      subst hlen
      refine .psl ys z b (base + off) cap cur e (0, 0) hcur (h1 b hlive) (by omega) hz hcap fun i y j d v hy hd hv' => ?_
      have hi : i < ys.length := (List.getElem?_eq_some_iff.1 hy).1
      have hj : j < z := by rw [← hz i y hy]; exact (List.getElem?_eq_some_iff.1 hd).1
      have hb1 : i * z + z ≤ ys.length * z := by
        have := Nat.mul_le_mul_right z (show i + 1 ≤ ys.length by omega)
        rw [Nat.succ_mul] at this; exact this
      have hlt : off + i * z + j < cs.length := by omega
      exact ih i y j cs[off + i * z + j] d hy hd (by simp [hlt]) (hcell (off + i * z + j) _ v (by simp [hlt]) (by rw [← hv']; congr 1; omega))
    | rsl0 _ _ _ b' base' o hb' =>
      cases ys with
      | nil => exact .psl0 _ _
      | cons y ys => simp at hlen
  | ptr id off cs ds ho hs' hc ih =>
    intro v hv
    obtain ⟨b, base, hb, hnb, cur, e, hcur, hcs, hcell⟩ := hs.obj id _ (hsub _ _ (cellsAt_get ho))
    have hlive : live β hg.H b := ⟨id, _, base, cellsAt_get ho, hb⟩
    cases hv with
    | ptr _ _ b' base' hb' =>
      rw [hb] at hb'; cases hb'
      refine .pptr ds b (base + off) cur e (0, 0) hcur (h1 b hlive) (by omega) fun i d v hd hv' => ?_
      have hi : i < ds.length := (List.getElem?_eq_some_iff.1 hd).1
      have hlt : off + i < cs.length := by omega
      exact ih i cs[off + i] d (by simp [hlt]) hd (hcell (off + i) _ v (by simp [hlt]) (by rw [← hv']; congr 1; omega))
  | func fn f1 c1 f2 c2 hl1 hl2 g1 g2 ih1 ih2 =>
    intro v hv
    cases hv with
    | func _ _ _ u1 u2 k1 k2 q1 q2 =>
      refine .func fn f2 c2 u1 u2 (hl1 ▸ k1) (hl2 ▸ k2) (fun i d v hd hv' => ?_) (fun i d v hd hv' => ?_)
      · obtain ⟨c, hc'⟩ := get_of_len hl1 hd
        exact ih1 i c d hc' hd (q1 i c v hc' hv')
      · obtain ⟨c, hc'⟩ := get_of_len hl2 hd
        exact ih2 i c d hc' hd (q2 i c v hc' hv')
  | iface t a b hb ih =>
    intro v hv
    cases hv with
    | iface _ _ v hv => exact .iface t b v (ih hv)

/-- the objects from n on, without one of them -/
def newer (h : AH) (n id : Nat) : Nat → AH
  | 0 => h.kill id
  | k + 1 => (newer h n id k).kill k
theorem get_newer (h : AH) (n id : Nat) : ∀ (k i : Nat), (newer h n id k).H.get i = if i < k ∨ i = id then none else h.H.get i
  | 0, i => by
    show (h.kill id).H.get i = _
    rw [get_kill]; simp
  | k + 1, i => by
    show ((newer h n id k).kill k).H.get i = _
    rw [get_kill, get_newer h n id k i]
    by_cases h1 : i = k
    · subst h1; simp
    · rw [if_neg h1]
      by_cases h2 : i < k ∨ i = id
      · rw [if_pos h2, if_pos (by omega)]
      · rw [if_neg h2, if_neg (by omega)]
def rest (h : AH) (n id : Nat) : AH := newer h n id n
theorem get_rest (h : AH) (n id i : Nat) : (rest h n id).H.get i = if i < n ∨ i = id then none else h.H.get i := get_newer h n id n i
theorem cellsAt_rest {h : AH} {n id i : Nat} (h1 : n ≤ i) (h2 : i ≠ id) : (rest h n id).cellsAt i = h.cellsAt i := by
  refine cellsAt_congr ?_
  rw [get_rest, if_neg (by omega)]

/-- the heap that is left: the old objects, one new one -/
def settled (g : AH) (n : Nat) (cs : List AV) : AH := ⟨g.H.put n (.cells cs), n + 1⟩
theorem get_settled (g : AH) (n : Nat) (cs : List AV) (i : Nat) : (settled g n cs).H.get i = if i = n then some (.cells cs) else g.H.get i := PM.get_put _ _ _ _

theorem settle {P : Program} {f : Nat} {args : List AV} {h g : AH} {B : Nat} {R : AV → AH → Prop} {cs2 : List AV} {off len z : Nat} (hc : CallsA P f args h R)
    (hR : ∀ v' h', R v' h' → h'.nx ≤ h.nx + B ∧ (∀ i, i < h.nx → g.H.get i = h'.H.get i) ∧ (∀ i o, g.H.get i = some o → i < h.nx) ∧
      ∃ id cs, h.nx ≤ id ∧ h'.cellsAt id = some cs ∧ FrzL (rest h' h.nx id) false cs cs2 ∧ v' = .rsl id off len z) : CallD P f args h (.rsl (h.nx + B) off len z) (settled g (h.nx + B) cs2) := by
  refine ⟨hc.1, fun own β w cargs hs hRL => (hc.2 own β w cargs hs hRL).mono ?_⟩
  rintro e w' ⟨cv, v0, h0, β0, rfl, hq, hs0, hv0, ht⟩
  obtain ⟨hB, hold, hlow, id, cs, hid, hcs, hfc, rfl⟩ := hR v0 h0 hq
  obtain ⟨b, base, hb, hnown, cur, et, hcur, hcl, hcell⟩ := hs0.obj id _ (cellsAt_get hcs)
  have hlive : live β0 h0.H b := ⟨id, _, base, cellsAt_get hcs, hb⟩
  have hblt : b < w'.heap.size := hs0.lt id b base hb
  obtain ⟨N, hN⟩ : ∃ N, N = h.nx + B := ⟨_, rfl⟩
  rw [← hN] at hB ⊢
  have hnx : β0 N = none := hs0.fresh _ hB
  obtain ⟨β', hβ'⟩ : ∃ β', β' = upd β0 N b base := ⟨_, rfl⟩
  have hgood : ∀ {i x}, β0 i = some x → β' i = some x := fun {i x} hi => by
    have : i ≠ N := fun e => by rw [e, hnx] at hi; cases hi
    rw [hβ', upd_ne _ _ _ this]; exact hi
  have hself : β' N = some (b, base) := by rw [hβ']; exact upd_same _ _ _ _
  have hne : ∀ i, i ≠ N → β' i = β0 i := fun i hi => by rw [hβ', upd_ne _ _ _ hi]
  have hlv : ∀ b', live β' (settled g N cs2).H b' → (∃ i o ba, i < h.nx ∧ h0.H.get i = some o ∧ β0 i = some (b', ba)) ∨ b' = b := by
    rintro b' ⟨i, o, ba, h1, h2⟩
    rw [get_settled] at h1
    by_cases hi : i = N
    · subst hi; rw [hself] at h2; cases h2; exact .inr rfl
    · rw [if_neg hi] at h1; rw [hne i hi] at h2
      have hl := hlow i o h1
      rw [hold i hl] at h1
      exact .inl ⟨i, o, ba, hl, h1, h2⟩
  have hlv0 : ∀ b', live β' (settled g N cs2).H b' → live β0 h0.H b' := by
    intro b' hl
    rcases hlv b' hl with ⟨i, o, ba, _, h1, h2⟩ | rfl
    · exact ⟨i, o, ba, h1, h2⟩
    · exact hlive
  have hL : ∀ b', LL own β' (settled g N cs2).H b' → LL own β0 h0.H b' := fun b' hb' => hb'.imp_right (hlv0 b')
  have hLat : Later w'.heap (LL own β0 h0.H) β0 w'.heap (LL own β' (settled g N cs2).H) β' :=
    ⟨fun i x hx => hgood hx, fun b' _ hn => ⟨fun hl => hn (hL b' hl), rfl⟩, fun _ cur _ _ hcu => ⟨cur, hcu, rfl⟩⟩
  have hT : Trans own β h w β' (settled g N cs2) w' := by
    refine ⟨fun i x hx => hgood (ht.ext i x hx), fun i hi => ?_, by show h.nx ≤ N + 1; omega, ht.size, ht.keep, fun b' hl => ht.live b' (hlv0 b' hl), ht.shape, ht.os, ht.tape, ht.output⟩
    rw [hne i (by omega)]; exact ht.low i hi
  have hsub : ∀ i o, (rest h0 h.nx id).H.get i = some o → h0.H.get i = some o := fun i o hi => by
    rw [get_rest] at hi
    split at hi
    · cases hi
    · exact hi
  have hnotL : ∀ b', live β0 (rest h0 h.nx id).H b' → ¬ LL own β' (settled g N cs2).H b' := by
    rintro b' ⟨i, o, ba, h1, h2⟩ hl
    rw [get_rest] at h1
    split at h1
    · cases h1
    rename_i hi
    rcases hl with ho | hl
    · obtain ⟨b2, base2, k1, k2, _⟩ := hs0.obj i o h1
      rw [h2] at k1; cases k1; exact k2 ho
    · rcases hlv b' hl with ⟨j, o2, ba2, hj, h3, h4⟩ | rfl
      · have := hs0.inj i j o o2 b' ba ba2 h1 h3 h2 h4
        omega
      · have := hs0.inj i id o _ b' ba base h1 (cellsAt_get hcs) h2 hb
        omega
  have hfc' := (FrzL_iff _ _ _ _).1 hfc
  have hS : SimH own β' (settled g N cs2).H (settled g N cs2).nx w' := by
    refine ⟨fun i hi => ?_, fun i b' ba hi => ?_, hs0.ownlt, fun i o hg => ?_, fun i j o o' b' x y h1 h2 h3 h4 => ?_⟩
    · have hi' : N + 1 ≤ i := hi
      rw [hne i (by omega)]; exact hs0.fresh i (by omega)
    · by_cases h1 : i = N
      · subst h1; rw [hself] at hi; cases hi; exact hblt
      · rw [hne i h1] at hi; exact hs0.lt i b' ba hi
    · rw [get_settled] at hg
      by_cases h1 : i = N
      · rw [if_pos h1] at hg; cases hg; subst h1
        refine ⟨b, base, hself, hnown, cur, et, hcur, by rw [← hfc'.1]; exact hcl, fun i c u k1 k2 => ?_⟩
        obtain ⟨c0, hc0⟩ := get_of_len hfc'.1 k1
        exact VR.frzs hs0 hsub hnotL (fun _ b' hn hl => hn (hL b' hl)) (hfc'.2 i c0 c hc0 k1) (hcell i c0 u hc0 k2)
      · rw [if_neg h1] at hg
        have hl := hlow i o hg
        rw [hold i hl] at hg
        obtain ⟨b', ba, q1, q2, q3⟩ := hs0.obj i o hg
        exact ⟨b', ba, hgood q1, q2, OR.later hLat rfl q3⟩
    · rw [get_settled] at h1 h2
      have old : ∀ {i o b' x}, i ≠ N → g.H.get i = some o → β' i = some (b', x) → i < h.nx ∧ h0.H.get i = some o ∧ β0 i = some (b', x) := fun {i o b' x} hi h1 h3 => by
        have hl := hlow i o h1
        rw [hold i hl] at h1; rw [hne i hi] at h3
        exact ⟨hl, h1, h3⟩
      by_cases hi : i = N <;> by_cases hj : j = N
      · rw [hi, hj]
      · subst hi; rw [hself] at h3; cases h3
        rw [if_neg hj] at h2
        obtain ⟨k1, k2, k3⟩ := old hj h2 h4
        have := hs0.inj j id o' _ b y base k2 (cellsAt_get hcs) k3 hb
        omega
      · subst hj; rw [hself] at h4; cases h4
        rw [if_neg hi] at h1
        obtain ⟨k1, k2, k3⟩ := old hi h1 h3
        have := hs0.inj i id o _ b x base k2 (cellsAt_get hcs) k3 hb
        omega
      · rw [if_neg hi] at h1; rw [if_neg hj] at h2
        obtain ⟨_, k2, k3⟩ := old hi h1 h3
        obtain ⟨_, m2, m3⟩ := old hj h2 h4
        exact hs0.inj i j o o' b' x y k2 m2 k3 m3
  refine ⟨cv, _, _, β', rfl, ⟨rfl, rfl⟩, hS, ?_, hT⟩
  cases hv0 with
  | rsl _ _ _ _ b2 base2 cap cur2 e2 g1 g2 g3 g4 g5 => rw [hb] at g1; cases g1; exact .rsl _ _ _ _ b base cap cur2 e2 hself g2 g3 g4 g5
  | rsl0 _ _ _ b2 base2 o g1 => rw [hb] at g1; cases g1; exact .rsl0 _ _ _ b base o hself
/-- the same where the result is the empty slice -/
theorem settle0 {P : Program} {f : Nat} {args : List AV} {h g : AH} {B : Nat} {R : AV → AH → Prop} (hc : CallsA P f args h R)
    (hR : ∀ v' h', R v' h' → h'.nx ≤ h.nx + B ∧ (∀ i, i < h.nx → g.H.get i = h'.H.get i) ∧ (∀ i o, g.H.get i = some o → i < h.nx) ∧ v' = .nilsl) : CallD P f args h .nilsl ⟨g.H, h.nx + B⟩ := by
  refine ⟨hc.1, fun own β w cargs hs hRL => (hc.2 own β w cargs hs hRL).mono ?_⟩
  rintro e w' ⟨cv, v0, h0, β0, rfl, hq, hs0, hv0, ht⟩
  obtain ⟨hB, hold, hlow, rfl⟩ := hR v0 h0 hq
  have hlv0 : ∀ b', live β0 g.H b' → live β0 h0.H b' := by
    rintro b' ⟨i, o, ba, h1, h2⟩
    have hl := hlow i o h1
    rw [hold i hl] at h1
    exact ⟨i, o, ba, h1, h2⟩
  have hLat : Later w'.heap (LL own β0 h0.H) β0 w'.heap (LL own β0 g.H) β0 :=
    ⟨fun i x hx => hx, fun b' _ hn => ⟨fun hl => hn (hl.imp_right (hlv0 b')), rfl⟩, fun _ cur _ _ hcu => ⟨cur, hcu, rfl⟩⟩
  have hS : SimH own β0 g.H (h.nx + B) w' := by
    refine ⟨fun i hi => hs0.fresh i (by omega), hs0.lt, hs0.ownlt, fun i o hg => ?_, fun i j o o' b' x y h1 h2 h3 h4 => ?_⟩
    · have hl := hlow i o hg
      rw [hold i hl] at hg
      obtain ⟨b', ba, q1, q2, q3⟩ := hs0.obj i o hg
      exact ⟨b', ba, q1, q2, OR.later hLat rfl q3⟩
    · have l1 := hlow i o h1
      have l2 := hlow j o' h2
      rw [hold i l1] at h1; rw [hold j l2] at h2
      exact hs0.inj i j o o' b' x y h1 h2 h3 h4
  refine ⟨cv, _, ⟨g.H, h.nx + B⟩, β0, rfl, ⟨rfl, rfl⟩, hS, ?_, ⟨ht.ext, ht.low, by show h.nx ≤ h.nx + B; omega, ht.size, ht.keep, fun b' hl => ht.live b' (hlv0 b' hl), ht.shape, ht.os, ht.tape, ht.output⟩⟩
  cases hv0; exact .nilsl
/-- what is frozen stays so where further objects stand -/
theorem Frz.ext {h h' : AH} (he : ∀ i cs, h.cellsAt i = some cs → h'.cellsAt i = some cs) {n : Bool} {a b : AV} (hf : Frz h n a b) : Frz h' n a b := by
  induction hf with
  | undef a => exact .undef a
  | bool b => exact .bool b
  | int k m => exact .int k m
  | str s => exact .str s
  | nilptr => exact .nilptr
  | nilfunc => exact .nilfunc
  | nilif => exact .nilif
  | nilmap => exact .nilmap
  | nilsl0 => exact .nilsl0
  | nilsl => exact .nilsl
  | esl0 => exact .esl0
  | esl => exact .esl
  | gptr g o => exact .gptr g o
  | agg cs ds hl hc ih => exact .agg cs ds hl fun i c d h1 h2 => ih i c d h1 h2
  | tup cs ds hl hc ih => exact .tup cs ds hl fun i c d h1 h2 => ih i c d h1 h2
  | psl0 => exact .psl0
  | psl hn xs ys hl hx hc ih => exact .psl hn xs ys hl hx fun i x y j c d h1 h2 h3 h4 => ih i x y j c d h1 h2 h3 h4
  | pptr hn cs ds hl hc ih => exact .pptr hn cs ds hl fun i c d h1 h2 => ih i c d h1 h2
  | rsl id off z cs ys ho hs hz hc ih => exact .rsl id off z cs ys (he _ _ ho) hs hz fun i y j c d h1 h2 h3 => ih i y j c d h1 h2 h3
  | ptr id off cs ds ho hs hc ih => exact .ptr id off cs ds (he _ _ ho) hs fun i c d h1 h2 => ih i c d h1 h2
  | func fn f1 c1 f2 c2 hl1 hl2 h1 h2 ih1 ih2 => exact .func fn f1 c1 f2 c2 hl1 hl2 (fun i c d q1 q2 => ih1 i c d q1 q2) (fun i c d q1 q2 => ih2 i c d q1 q2)
  | iface t a b hb ih => exact .iface t a b (ih)
theorem FrzL.ext {h h' : AH} (he : ∀ i cs, h.cellsAt i = some cs → h'.cellsAt i = some cs) {n : Bool} {a b : List AV} (hf : FrzL h n a b) : FrzL h' n a b := by
  rw [FrzL_iff] at hf ⊢
  exact ⟨hf.1, fun i c d h1 h2 => (hf.2 i c d h1 h2).ext he⟩
theorem FrzL.app {h : AH} {n : Bool} {a b c d : List AV} (h1 : FrzL h n a b) (h2 : FrzL h n c d) : FrzL h n (a ++ c) (b ++ d) := by
  rw [FrzL_iff] at h1 h2 ⊢
  refine ⟨by simp [h1.1, h2.1], fun i x y hx hy => ?_⟩
  by_cases hi : i < a.length
  · rw [List.getElem?_append_left hi] at hx
    rw [List.getElem?_append_left (by have := h1.1; omega)] at hy
    exact h1.2 i x y hx hy
  · rw [List.getElem?_append_right (by omega)] at hx
    rw [List.getElem?_append_right (by have := h1.1; omega), ← h1.1] at hy
    exact h2.2 _ x y hx hy
/-- nothing stands beyond the next number -/
def WF (h : AH) : Prop := ∀ i, h.nx ≤ i → h.H.get i = none
theorem WF.add {h : AH} (hw : WF h) (o : AObj) : WF (h.add o) := fun i hi => by
  simp at hi
  rw [get_add, if_neg (by omega)]; exact hw i (by omega)
theorem WF.set {h : AH} (hw : WF h) (j : Nat) (hj : j < h.nx) (o : AObj) : WF (h.set j o) := fun i hi => by
  simp at hi
  rw [get_set, if_neg (by omega)]; exact hw i (by omega)
theorem WF.kill {h : AH} (hw : WF h) (j : Nat) : WF (h.kill j) := fun i hi => by
  simp at hi
  rw [get_kill]; split
  · rfl
  · exact hw i (by omega)
theorem WF.bump {h : AH} (hw : WF h) (n : Nat) (hn : h.nx ≤ n) : WF ⟨h.H, n⟩ := fun i hi => hw i (by have : n ≤ i := hi; omega)
end Go.Eng
end
noncomputable section
namespace Go.Proofs.Ytpnekpbehcbmkaa
open Go.Eng
/-! The reader of numbers of the laws: what it answers, and what it does to its object. -/
def ints (L : List Int) : AV := .psl (L.map fun x => [I x])
def srcC (L : List Int) (a : Nat) : List AV := [ints L, I a]
def nxA (L : List Int) (a : Nat) : Nat := if a < L.length then a + 1 else a
def nV (L : List Int) (a : Nat) (n : Int) : Int := if a < L.length then (if 0 ≤ (L.getD a 0).tmod n then (L.getD a 0).tmod n else (L.getD a 0).tmod n + n) else 0
def OkL (L : List Int) : Prop := L.length ≤ 4000
/-- the reader stands -/
structure Src (h : AH) (id : Nat) (L : List Int) (a : Nat) : Prop where
  c : h.cellsAt id = some (srcC L a)
  le : a ≤ L.length
  ok : OkL L
  lt : id < h.nx
end Go.Proofs.Ytpnekpbehcbmkaa
end
noncomputable section
namespace Go.Proofs.Ytpnekpbehcbmkaa
open Go.Eng
/-! The commands that the laws make: a plain function of the numbers. -/
def zTf : Tf := ⟨0, false, 0, 0, 0⟩
def zLn : Ln := ⟨0, 0, 0, 0, 0, 0, 0, 0, 0, []⟩
def filC (r : Rect) (col : Int) : Cmd := ⟨4, r, zTf, col, [], zLn⟩
def at4 (L : List Int) (a : Nat) : Nat := nxA L (nxA L (nxA L (nxA L a)))
def flatC (l : List Cmd) : List AV := (l.map Cmd.enc).flatten
/-- old objects stand, but for the reader's -/
structure Gr (h h1 : AH) (id c : Nat) : Prop where
  lo : h.nx ≤ h1.nx
  hi : h1.nx ≤ h.nx + c
  get : ∀ i, i ≠ id → i < h.nx → h1.H.get i = h.H.get i
  wf : WF h1
theorem Gr.refl {h : AH} {id : Nat} (hw : WF h) : Gr h h id 0 := ⟨by omega, by omega, fun _ _ _ => rfl, hw⟩
theorem Gr.add {h h1 : AH} {id c : Nat} (g : Gr h h1 id c) (o : AObj) : Gr h (h1.add o) id (c + 1) :=
  ⟨by have := g.lo; simp; omega, by have := g.hi; simp; omega, fun i hi hl => by rw [get_add, if_neg (by have := g.lo; omega), g.get i hi hl], g.wf.add o⟩
theorem Gr.set {h h1 : AH} {id c j : Nat} (g : Gr h h1 id c) (o : AObj) (hj : h.nx ≤ j) (hj1 : j < h1.nx) : Gr h (h1.set j o) id c :=
  ⟨by have := g.lo; simpa, by have := g.hi; simpa, fun i hi hl => by rw [get_set, if_neg (by omega), g.get i hi hl], g.wf.set j hj1 o⟩
theorem Gr.bump {h h1 : AH} {id c : Nat} (g : Gr h h1 id c) (n : Nat) (hn : h1.nx ≤ n) (d : Nat) (hd : n ≤ h1.nx + d) : Gr h ⟨h1.H, n⟩ id (c + d) :=
  ⟨by have := g.lo; show h.nx ≤ n; omega, by have := g.hi; show n ≤ _; omega, g.get, g.wf.bump n hn⟩
def LV (h0 h : AH) (lv : AV) (l : List Cmd) : Prop :=
  (lv = .nilsl ∧ l = []) ∨ ∃ id cs, lv = .rsl id 0 l.length 22 ∧ l ≠ [] ∧ h0.nx ≤ id ∧ id < h.nx ∧ h.cellsAt id = some cs ∧ FrzL (rest h h0.nx id) false cs (flatC l)
structure St (h0 h : AH) (sid : Nat) (L : List Int) (a : Nat) (lv : AV) (l : List Cmd) (c : Nat) : Prop where
  src : Src h sid L a
  slt : sid < h0.nx
  gr : Gr h0 h sid c
  list : LV h0 h lv l
end Go.Proofs.Ytpnekpbehcbmkaa
end
noncomputable section
namespace Go.Proofs.Ytpnekpbehcbmkaa
open Go.Eng
theorem St.mono {h0 h : AH} {sid : Nat} {L : List Int} {a : Nat} {lv : AV} {l : List Cmd} {c d : Nat} (hs : St h0 h sid L a lv l c) (hcd : c ≤ d) : St h0 h sid L a lv l d :=
  ⟨hs.src, hs.slt, ⟨hs.gr.lo, by have := hs.gr.hi; omega, hs.gr.get, hs.gr.wf⟩, hs.list⟩
theorem Src.gr {h h' : AH} {sid : Nat} {L : List Int} {a : Nat} (hs : Src h sid L a) (hc : h'.cellsAt sid = h.cellsAt sid) (hn : h.nx ≤ h'.nx) : Src h' sid L a :=
  ⟨by rw [hc]; exact hs.c, hs.le, hs.ok, Nat.lt_of_lt_of_le hs.lt hn⟩
end Go.Proofs.Ytpnekpbehcbmkaa
end
noncomputable section
namespace Go.Proofs.Ytpnekpbehcbmkaa
open Go.Eng
/-- a list of commands that stands in an object of its own, or none -/
def Lst (h : AH) (lo : Nat) (v : AV) (l : List Cmd) : Prop := (v = .nilsl ∧ l = []) ∨ ∃ id, v = .rsl id 0 l.length 22 ∧ l ≠ [] ∧ lo ≤ id ∧ id < h.nx ∧ h.cellsAt id = some (flatC l)
end Go.Proofs.Ytpnekpbehcbmkaa
end
noncomputable section
namespace Go.Proofs.Ytpnekpbehcbmkaa
open Go.Eng
def GlOk (l : List Cmd) : Prop := ∀ c ∈ l, c.line.gl.length ≤ 10
theorem GlOk.app {a b : List Cmd} (h1 : GlOk a) (h2 : GlOk b) : GlOk (a ++ b) := fun c hc => by
  rcases List.mem_append.1 hc with h | h
  · exact h1 c h
  · exact h2 c h
theorem Lst.frz {h : AH} {lo : Nat} {v : AV} {l : List Cmd} (hl : Lst h lo v l) : Frz h false v (cmds l) := by
  rcases hl with ⟨rfl, rfl⟩ | ⟨id, rfl, _, _, _, hc⟩
  · exact .nilsl
  · exact frz_rows Cmd.len (l := l) hc (fun a _ c hc => a.pls c hc h)
theorem frz_args1 {h : AH} {a c : AV} (h1 : Frz h false a c) : ∀ (i : Nat) (x y : AV), [a][i]? = some x → [c][i]? = some y → Frz h false x y := by
  intro i x y hx hy
  match i with
  | 0 => simp at hx hy; subst hx; subst hy; exact h1
  | i + 1 => simp at hx
def e13o : QE Try.prog := ⟨13, fun args h Q => ∃ v l, args = [v] ∧ Frz h false v (cmds l) ∧ SmL l ∧ Q (I (validate l)) h, fun args h Q ⟨v, l, h1, h2, h3, h4⟩ => by
  subst h1; exact ⟨_, _, Fresh.call (validate_f l h3) rfl (frz_args1 h2), h4⟩⟩
theorem e13o_h {tl : List (QE Try.prog)} {v : AV} {h : AH} {Q : AV → AH → Prop} (l : List Cmd) (h2 : Frz h false v (cmds l)) (h3 : SmL l) (h4 : Q (I (validate l)) h) : tb (e13o :: tl) 13 [v] h Q := by
  rw [tb_here e13o tl 13 _ _ _ rfl]; exact ⟨v, l, rfl, h2, h3, h4⟩
@[simp ↓] theorem e13o_t (tl : List (QE Try.prog)) (f : Nat) (args : List AV) (h : AH) (Q : AV → AH → Prop) (hf : 13 ≠ f) : tb (e13o :: tl) f args h Q = tb tl f args h Q := tb_there e13o tl f args h Q hf
theorem WF.emp : WF emp := fun i _ => by simp [Go.Eng.emp, PM.get]
theorem Lst.keep {h h' : AH} {lo : Nat} {v : AV} {l : List Cmd} (hl : Lst h lo v l) (hn : h.nx ≤ h'.nx) (hg : ∀ i, lo ≤ i → i < h.nx → h'.H.get i = h.H.get i) : Lst h' lo v l := by
  rcases hl with h1 | ⟨id, h1, h2, h3, h4, h5⟩
  · exact .inl h1
  · exact .inr ⟨id, h1, h2, h3, by omega, by rw [cellsAt_congr (hg id h3 h4)]; exact h5⟩
theorem Lst.klen {h h' : AH} {lo : Nat} {v : AV} {l : List Cmd} (hl : Lst h lo v l) : kLen h' v = some (I l.length, h') := by
  rcases hl with ⟨rfl, rfl⟩ | ⟨id, rfl, _⟩ <;> simp
end Go.Proofs.Ytpnekpbehcbmkaa
end
noncomputable section
namespace Go.Proofs.Ytpnekpbehcbmkaa
open Go.Eng
/-- a list of commands in an object of its own, whose empty runs of glyphs may be nil -/
def LsF (h : AH) (lo : Nat) (v : AV) (l : List Cmd) : Prop := (v = .nilsl ∧ l = []) ∨ ∃ id cs, v = .rsl id 0 l.length 22 ∧ lo ≤ id ∧ id < h.nx ∧ h.cellsAt id = some cs ∧ ∀ H, FrzL H false cs (flatC l)
theorem flatC_pl (l : List Cmd) (H : AH) : FrzL H false (flatC l) (flatC l) := by
  rw [FrzL_iff]
  refine ⟨rfl, fun i x y hx hy => ?_⟩
  rw [hx] at hy; cases hy
  unfold flatC at hx
  obtain ⟨e, he, hxe⟩ := List.mem_flatten.1 (List.mem_of_getElem? hx)
  obtain ⟨c, _, rfl⟩ := List.mem_map.1 he
  exact c.pls x hxe H
theorem LsF.keep {h h' : AH} {lo : Nat} {v : AV} {l : List Cmd} (hl : LsF h lo v l) (hn : h.nx ≤ h'.nx) (hg : ∀ i, lo ≤ i → i < h.nx → h'.H.get i = h.H.get i) : LsF h' lo v l := by
  rcases hl with h1 | ⟨id, cs, h1, h3, h4, h5, h6⟩
  · exact .inl h1
  · exact .inr ⟨id, cs, h1, h3, by omega, by rw [cellsAt_congr (hg id h3 h4)]; exact h5, h6⟩
theorem LsF.frz {h : AH} {lo : Nat} {v : AV} {l : List Cmd} (hl : LsF h lo v l) : Frz h false v (cmds l) := by
  rcases hl with ⟨rfl, rfl⟩ | ⟨id, cs, rfl, _, _, hc, hf⟩
  · exact .nilsl
  · have hf' := (FrzL_iff _ _ _ _).1 (hf h)
    have hlen : cs.length = l.length * 22 := by rw [hf'.1]; unfold flatC; exact flat_len Cmd.len l
    have := Frz.rsl (h := h) (n := false) id 0 22 cs (l.map Cmd.enc) hc (by simp; omega) (fun i y hy => by simp at hy; obtain ⟨a, _, rfl⟩ := hy; exact a.len) (fun i y j c d h1 h2 h3 => ?_)
    · rw [List.length_map] at this; exact this
    · simp only [List.getElem?_map, Option.map_eq_some_iff] at h1
      obtain ⟨a, ha, rfl⟩ := h1
      have hj : j < 22 := by rw [← Cmd.len a]; exact (List.getElem?_eq_some_iff.1 h2).1
      refine hf'.2 (0 + i * 22 + j) c d h3 ?_
      rw [Nat.zero_add]
      unfold flatC
      rw [flat_get Cmd.len l i j a ha hj]; exact h2
end Go.Proofs.Ytpnekpbehcbmkaa
end
