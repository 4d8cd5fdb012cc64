/- The table of these functions; the view of headings, its screen. What the comparison of findings and the audit of headings compute. What the law computes, given what the screen of its view is. -/
import Derived.Test.YtoibclpbkjbnbaaGreatZhO0
import Derived.Test.YtoibclpbkjbnbaaGreatZhO1
import Derived.Test.YtoibclpbkjbnbaaGreatZhO2
import Derived.Test.YtoibclpbkjbnbaaGreatZhO3
import Derived.Test.YtoibclpbkjbnbaaGreatEngIN
import Derived.Test.YtoibclpbkjbnbaaGreatEngOX
set_option linter.unusedSimpArgs false
set_option linter.unusedVariables false
set_option linter.unnecessarySimpa false
noncomputable section
namespace Go.Proofs.YtoibclpbkjbnbaaGreat
open Go.Eng
def otr (N : Nat) : OT := .node 48 (.node 26 (otr0 N) (otr1 N)) (.node 72 (otr2 N) (otr3 N))
theorem otr_ok (N : Nat) : (otr N).Ok Tryz.prog := ⟨⟨otr0_ok N, otr1_ok N⟩, otr2_ok N, otr3_ok N⟩
theorem runs_ok : FOk Tryz.prog (oall (otr 10000) 60) := oall_ok (otr_ok 10000) 60
abbrev I (n : Int) : AV := .int .i64 n
/-- the number of level i: a ghost -/
def lvS (i : Nat) : AV := .sint .i64 6 i 1 1 6
def attrS (x : AV) : List AV := [.str [108, 101, 118, 101, 108], I 1, x, .str [], .nilsl]
def kidS (x : AV) : List AV := [I 9, .str [], .psl [attrS x], .nilsl, .nilsl]
def opt (l : List (List AV)) : AV :=
  match l with
  | [] => .nilsl
  | a :: r => .psl (a :: r)
/-- the view of headings with these levels -/
def viewS (l : List AV) : AV := .agg [I 1, .str [], .nilsl, .nilsl, opt (l.map kidS)]
def num : Nat → List AV → (Nat → AV → List AV) → List (List AV)
  | _, [], _ => []
  | i, a :: r, f => f i a :: num (i + 1) r f
def accS (i : Nat) (x : AV) : List AV := [I i, I 1, I 10, .str [], .str [], .str [], I 64, I 0, x, I 0, I 0, I 0, I 0, I 0, I 0, I 0, I 0, I 0, I 0, .bool false, .nilsl, .nilsl]
def accR (ids : AV) : List AV := [I 1, I 0, I 1, .str [], .str [], .str [], I 64, I 0, I 0, I 0, I 0, I 0, I 0, I 0, I 0, I 0, I 0, I 0, I 0, .bool false, .nilsl, ids]
def styS (i : Nat) : List AV := [I i, I 0, I (-1), I 16, I 0, I 0, I 1, I 3, I 0, I 0, I 0, I 0, I 1, I (-1), I 0, I 1048576, I 0, I 1048576, I 0, I 0, I 0, I 0, I 0]
def idsS (l : List AV) : AV := opt (num 2 l fun i _ => [I i])
/-- the access nodes -/
def accN (l : List AV) : List (List AV) := accR (idsS l) :: num 2 l accS
/-- the screen of that view -/
def scrS (l : List AV) : AV := .agg [I 1, I (l.length + 2 : Nat), .psl ([I 1, I 0, I 1, .str [], .nilsl, .nilsl, idsS l] :: num 2 l fun i x => [I i, I 1, I 9, .str [], .psl [attrS x], .nilsl, .nilsl]), .nilsl,
  .psl (styS 1 :: num 2 l fun i _ => styS i), .nilsl, .nilsl, .nilsl, .nilsl, .psl (accN l), I 0]
def gho (L : Nat) : List AV := (List.range L).map lvS
end Go.Proofs.YtoibclpbkjbnbaaGreat
end
noncomputable section
namespace Go.Proofs.YtoibclpbkjbnbaaGreat
open Go.Eng
theorem cI (n : Int) : Closed (I n) := .int _ _
abbrev F3 := Int × Int × Int
def enc3 (t : F3) : List AV := [I t.1, I t.2.1, I t.2.2]
def fl (l : List F3) : AV := .psl (l.map enc3)
theorem fl_cl (l : List F3) : Closed (fl l) := .psl (by
  intro x hx c hc
  simp [enc3] at hx
  obtain ⟨a, b, d, _, rfl⟩ := hx
  simp at hc
  rcases hc with rfl | rfl | rfl <;> exact cI _)
def eqI (l : List F3) (m : Nat) (vs : List AV) (h : AH) : Prop := ∃ i : Nat, i ≤ l.length ∧ m = l.length - i ∧ vs = [fl l, fl l, I i]
theorem equal_c (l : List F3) (hl : l.length ≤ 1000) : Pure Tryz.prog 4 [fl l, fl l] (.bool true) := by
  refine .of (by simp [fl_cl]) (C4 (tb_ok []) ?_)
  simp (disch := first | (simp; done) | omega | (simp only [nx_add, nx_set, nx_kill, nx_mk, nx_emp]; omega) | fail) [g4, fl]
  refine ⟨eqI l, l.length, ⟨0, by simp [fl]⟩, ?_⟩
  rintro m vs h ⟨i, hi, rfl, rfl⟩
  by_cases hlt : i < l.length
  · have e : (l.map enc3)[i]? = some (enc3 l[i]) := by simp [hlt]
    have ei : ∀ h, kIdxA h 3 (.psl (l.map enc3)) (.int .i64 i) = some (.pptr (enc3 l[i]), h) := fun h => kIdxA_psl e rfl
    have eq : ∀ h, kEqf h true [.int .i64, .int .i64, .int .i64] (.agg (enc3 l[i])) (.agg (enc3 l[i])) = some (.bool false, h) := fun h => by simp [kEqf, eqCells, eqCell, enc3]
    have el : ∀ h, kLdn h 3 (.pptr (enc3 l[i])) = some (.agg (enc3 l[i]), h) := fun h => by simp [kLdn, aloadn, cut, enc3]
    simp (disch := first | (simp; done) | omega | (simp only [nx_add, nx_set, nx_kill, nx_mk, nx_emp]; omega) | fail) [g4_l1, fl, hlt, ei, el]
    simp (disch := first | (simp; done) | omega | (simp only [nx_add, nx_set, nx_kill, nx_mk, nx_emp]; omega) | fail) [g4_s1, fl, hlt, ei, el, eq]
    exact ⟨l.length - (i + 1), by omega, i + 1, by omega, rfl, by simp [fl]⟩
  · have : i = l.length := by omega
    subst this
    simp (disch := first | (simp; done) | omega | (simp only [nx_add, nx_set, nx_kill, nx_mk, nx_emp]; omega) | fail) [g4_l1, fl, lk, g4_j3, g4_c2]
def Out (o : AV) (h : AH) (fs : List F3) (pl : Nat) : Prop := (o = .nilsl ∧ fs = []) ∨ ∃ id, o = .rsl id 0 fs.length 3 ∧ h.cellsAt id = some (fs.flatMap enc3) ∧ id < h.nx ∧ id ≠ pl
theorem flat_len (fs : List F3) : (fs.flatMap enc3).length = fs.length * 3 := by
  induction fs with
  | nil => rfl
  | cons a r ih => simp [ih, enc3]; omega
def zero22 : List AV := [I 0, I 0, I 0, .str [], .str [], .str [], I 0, I 0, I 0, I 0, I 0, I 0, I 0, I 0, I 0, I 0, I 0, I 0, I 0, .bool false, .nilsl, .nilsl]
theorem num_get (f : Nat → AV → List AV) : ∀ (l : List AV) (i j : Nat), (num i l f)[j]? = (l[j]?).map fun a => f (i + j) a
  | [], i, j => by simp [num]
  | a :: r, i, 0 => by simp [num]
  | a :: r, i, j + 1 => by
    simp only [num, List.getElem?_cons_succ]
    rw [num_get f r (i + 1) j, show i + 1 + j = i + (j + 1) by omega]
theorem num_len (f : Nat → AV → List AV) : ∀ (l : List AV) (i : Nat), (num i l f).length = l.length
  | [], i => rfl
  | a :: r, i => by simp [num, num_len f r]
def lastC (lv : List Int) : Nat → List AV
  | 0 => zero22
  | 1 => zero22
  | i + 2 => match lv[i]? with
    | some n => accS (i + 2) (I n)
    | none => zero22
def lastN (lv : List Int) : Nat → Int × Int
  | 0 => (0, 0)
  | 1 => (0, 0)
  | i + 2 => match lv[i]? with
    | some n => (n, (i + 2 : Nat))
    | none => (0, 0)
def step (lv : List Int) (i : Nat) : List F3 :=
  match lv[i]? with
  | some n => if (lastN lv (i + 1)).1 + 1 < n then [(7, ((i + 2 : Nat) : Int), (lastN lv (i + 1)).2)] else []
  | none => []
/-- the findings among the first headings -/
def hdT (lv : List Int) : Nat → List F3
  | 0 => []
  | 1 => []
  | i + 2 => hdT lv (i + 1) ++ step lv i
theorem num_cl {f : Nat → AV → List AV} : ∀ {l : List AV} {i : Nat}, (∀ i a, a ∈ l → ∀ c ∈ f i a, Closed c) → ∀ x ∈ num i l f, ∀ c ∈ x, Closed c
  | [], i, h, x, hx => by simp [num] at hx
  | a :: r, i, h, x, hx => by
    simp only [num, List.mem_cons] at hx
    rcases hx with rfl | hx
    · exact h i a (by simp)
    · exact num_cl (fun i b hb => h i b (by simp [hb])) x hx
theorem opt_cl {l : List (List AV)} (h : ∀ x ∈ l, ∀ c ∈ x, Closed c) : Closed (opt l) := by
  cases l with
  | nil => exact .nilsl
  | cons a r => exact .psl h
theorem ids_cl (l : List AV) : Closed (idsS l) := opt_cl (num_cl fun i a _ c hc => by simp at hc; subst hc; exact cI _)
theorem I_of {lv : List Int} {a : AV} (h : a ∈ lv.map I) : Closed a := by
  simp at h
  obtain ⟨n, _, rfl⟩ := h
  exact cI n
theorem attr_cl {a : AV} (h : Closed a) : ∀ c ∈ attrS a, Closed c := by
  intro c hc
  simp [attrS] at hc
  rcases hc with rfl | rfl | rfl | rfl | rfl
  · exact .str _
  · exact cI _
  · exact h
  · exact .str _
  · exact .nilsl
theorem acc_cl (lv : List Int) : Closed (.psl (accN (lv.map I))) := .psl (by
  intro x hx
  simp only [accN, List.mem_cons] at hx
  rcases hx with rfl | hx
  · intro c hc
    simp [accR] at hc
    (repeat' (refine Or.elim hc (fun hc => ?_) (fun hc => ?_))) <;> subst hc <;> first | exact cI _ | exact .str _ | exact .bool _ | exact .nilsl | exact ids_cl _ | exact I_of ha | exact .psl fun y hy => by simp at hy; subst hy; exact attr_cl (I_of ha)
  · refine num_cl (fun i a ha c hc => ?_) x hx
    simp [accS] at hc
    (repeat' (refine Or.elim hc (fun hc => ?_) (fun hc => ?_))) <;> subst hc <;> first | exact cI _ | exact .str _ | exact .bool _ | exact .nilsl | exact ids_cl _ | exact I_of ha | exact .psl fun y hy => by simp at hy; subst hy; exact attr_cl (I_of ha))
theorem scr_cl (lv : List Int) : Closed (scrS (lv.map I)) := .agg (by
  intro c hc
  simp only [scrS, List.mem_cons, List.not_mem_nil, or_false] at hc
  rcases hc with rfl | rfl | rfl | rfl | rfl | rfl | rfl | rfl | rfl | rfl | rfl
  · exact cI _
  · exact cI _
  · refine .psl fun x hx => ?_
    simp only [List.mem_cons] at hx
    rcases hx with rfl | hx
    · intro c hc
      simp at hc
      (repeat' (refine Or.elim hc (fun hc => ?_) (fun hc => ?_))) <;> subst hc <;> first | exact cI _ | exact .str _ | exact .bool _ | exact .nilsl | exact ids_cl _ | exact I_of ha | exact .psl fun y hy => by simp at hy; subst hy; exact attr_cl (I_of ha)
    · refine num_cl (fun i a ha c hc => ?_) x hx
      simp at hc
      (repeat' (refine Or.elim hc (fun hc => ?_) (fun hc => ?_))) <;> subst hc <;> first | exact cI _ | exact .str _ | exact .bool _ | exact .nilsl | exact ids_cl _ | exact I_of ha | exact .psl fun y hy => by simp at hy; subst hy; exact attr_cl (I_of ha)
  · exact .nilsl
  · refine .psl fun x hx => ?_
    simp only [List.mem_cons] at hx
    rcases hx with rfl | hx
    · intro c hc
      simp [styS] at hc
      (repeat' (refine Or.elim hc (fun hc => ?_) (fun hc => ?_))) <;> subst hc <;> first | exact cI _ | exact .str _ | exact .bool _ | exact .nilsl | exact ids_cl _ | exact I_of ha | exact .psl fun y hy => by simp at hy; subst hy; exact attr_cl (I_of ha)
    · refine num_cl (fun i a ha c hc => ?_) x hx
      simp [styS] at hc
      (repeat' (refine Or.elim hc (fun hc => ?_) (fun hc => ?_))) <;> subst hc <;> first | exact cI _ | exact .str _ | exact .bool _ | exact .nilsl | exact ids_cl _ | exact I_of ha | exact .psl fun y hy => by simp at hy; subst hy; exact attr_cl (I_of ha)
  · exact .nilsl
  · exact .nilsl
  · exact .nilsl
  · exact .nilsl
  · exact acc_cl lv
  · exact cI _)
def scrI (lv : List Int) : AV := scrS (lv.map I)
def hI (lv : List Int) (m : Nat) (vs : List AV) (h : AH) : Prop := ∃ (i : Nat) (out : AV) (pl : Nat), i ≤ lv.length + 1 ∧ m = lv.length + 1 - i ∧ vs = [out, .ptr pl 0, .psl (accN (lv.map I)), I (lv.length + 1 : Nat), I i] ∧
  h.cellsAt pl = some (lastC lv i) ∧ pl < h.nx ∧ Out out h (hdT lv i) pl
theorem accN_len (lv : List Int) : (accN (lv.map I)).length = lv.length + 1 := by simp [accN, num_len]
theorem accN_0 (lv : List Int) : (accN (lv.map I))[0]? = some (accR (idsS (lv.map I))) := rfl
theorem accN_s (lv : List Int) (j : Nat) (hj : j < lv.length) : (accN (lv.map I))[j + 1]? = some (accS (j + 2) (I lv[j])) := by
  simp [accN, num_get, hj, Nat.add_comm]
theorem ids_one (l : List AV) : (idsS l).one = true := by
  unfold idsS opt
  split <;> rfl
theorem Out.mono {o : AV} {h h' : AH} {fs : List F3} {pl : Nat} (hO : Out o h fs pl) (hk : ∀ id, id < h.nx → h'.cellsAt id = h.cellsAt id) (hn : h.nx ≤ h'.nx) : Out o h' fs pl := by
  rcases hO with hO | ⟨id, h1, h2, h3, h4⟩
  · exact .inl hO
  · exact .inr ⟨id, h1, by rw [hk id h3]; exact h2, by omega, h4⟩
theorem Out.mono' {o : AV} {h h' : AH} {fs : List F3} {pl : Nat} (hO : Out o h fs pl) (hk : ∀ id, id < h.nx → id ≠ pl → h'.cellsAt id = h.cellsAt id) (hn : h.nx ≤ h'.nx) : Out o h' fs pl := by
  rcases hO with hO | ⟨id, h1, h2, h3, h4⟩
  · exact .inl hO
  · exact .inr ⟨id, h1, by rw [hk id h3 h4]; exact h2, by omega, h4⟩
/-- a finding more -/
theorem app_out {o : AV} {h : AH} {fs : List F3} {pl : Nat} (hO : Out o h fs pl) (hpl : pl < h.nx) (hn : fs.length ≤ 1000) (t : F3) (x : Nat) (hx : h.cellsAt x = some (enc3 t)) (hxo : ∀ id z n, o = .rsl id 0 n z → id ≠ x) :
    ∃ h' o', kApp h 3 24 o (.rsl x 0 1 3) = some (o', h') ∧ Out o' h' (fs ++ [t]) pl ∧ h.nx < h'.nx ∧ (∀ id, id < h.nx → (∀ z n, o ≠ .rsl id 0 n z) → h'.cellsAt id = h.cellsAt id) ∧ ∀ id z n, o' = .rsl id 0 n z → h.nx ≤ id := by
  have hc : acells h 3 (.rsl x 0 1 3) = some (enc3 t) := by simp [acells, hx, cut, enc3]
  have ho : ones (enc3 t) = true := by simp [ones, enc3, AV.one]
  rcases hO with ⟨rfl, rfl⟩ | ⟨id, rfl, h2, h3, h4⟩
  · refine ⟨h.add (.cells (enc3 t)), .rsl h.nx 0 1 3, by simp [kApp, aapp, hc, alen, ho, roomy], .inr ⟨h.nx, rfl, by simp, by simp, by omega⟩, by simp, fun id hid _ => by simp [Nat.ne_of_lt hid], fun id z n he => by cases he; exact Nat.le_refl _⟩
  · have hcut : cut (fs.flatMap enc3) 0 (fs.length * 3) = some (fs.flatMap enc3) := by
      unfold cut
      rw [if_pos (by rw [flat_len]; omega), List.drop_zero, List.take_of_length_le (by rw [flat_len]; omega)]
    refine ⟨(h.kill id).add (.cells (fs.flatMap enc3 ++ enc3 t)), .rsl h.nx 0 (fs.length + 1) 3, ?_, .inr ⟨h.nx, by simp, by simp, by simp, by omega⟩, by simp, fun id' hid hne => ?_, fun id z n he => by cases he; exact Nat.le_refl _⟩
    · have hr : roomy (fs.length + 1) 24 = true := by simp [roomy]; omega
      simp [kApp, aapp, hc, alen, ho, hr, h2, hcut]
    · have : id' ≠ id := fun e => hne 3 fs.length (by rw [e])
      simp [Nat.ne_of_lt hid, cellsAt_kill_ne _ _ _ this]
theorem flat_get : ∀ (l : List F3) (i j : Nat) (t : F3) (d c : AV), l[i]? = some t → (enc3 t)[j]? = some d → (l.flatMap enc3)[i * 3 + j]? = some c → c = d
  | [], i, j, t, d, c, h1, _, _ => by simp at h1
  | a :: l, 0, j, t, d, c, h1, h2, h3 => by
    simp at h1; subst h1
    have hj : j < 3 := by
      have := (List.getElem?_eq_some_iff.1 h2).1
      simpa [enc3] using this
    rw [Nat.zero_mul, Nat.zero_add, List.flatMap_cons, List.getElem?_append_left (by simpa [enc3] using hj), h2] at h3
    cases h3; rfl
  | a :: l, i + 1, j, t, d, c, h1, h2, h3 => by
    simp at h1
    refine flat_get l i j t d c h1 h2 ?_
    rw [List.flatMap_cons, List.getElem?_append_right (by simp [enc3]; omega)] at h3
    rw [← h3]
    congr 1
    simp [enc3]
    omega
theorem last8 (lv : List Int) (i : Nat) : (lastC lv i)[8]? = some (I (lastN lv i).1) := by
  unfold lastC lastN
  split
  · rfl
  · rfl
  · split <;> rfl
theorem last0 (lv : List Int) (i : Nat) : (lastC lv i)[0]? = some (I (lastN lv i).2) := by
  unfold lastC lastN
  split
  · rfl
  · rfl
  · split <;> rfl
theorem last_len (lv : List Int) (i : Nat) : (lastC lv i).length = 22 := by
  unfold lastC
  split
  · rfl
  · rfl
  · split <;> rfl
theorem lastN_bd (lv : List Int) (hb : ∀ n ∈ lv, 1 ≤ n ∧ n ≤ 6) (i : Nat) : 0 ≤ (lastN lv i).1 ∧ (lastN lv i).1 ≤ 6 := by
  unfold lastN
  split
  · simp
  · simp
  · split
    · rename_i n hn
      have := hb n (List.mem_of_getElem? hn)
      simp; omega
    · simp
theorem hdT_len (lv : List Int) : ∀ (i : Nat), i ≤ 1001 → (hdT lv i).length ≤ 1000
  | 0, _ => by simp [hdT]
  | 1, _ => by simp [hdT]
  | i + 2, h => by
    have : ∀ k, (hdT lv k).length ≤ k - 1 := by
      intro k
      induction k with
      | zero => simp [hdT]
      | succ k ih =>
        cases k with
        | zero => simp [hdT]
        | succ k =>
          have hs : (step lv k).length ≤ 1 := by
            unfold step
            split
            · split <;> simp
            · simp
          simp only [hdT, List.length_append]
          omega
    have := this (i + 2)
    omega
theorem headings_c (lv : List Int) (hl : lv.length ≤ 1000) (hb : ∀ n ∈ lv, 1 ≤ n ∧ n ≤ 6) : Pure Tryz.prog 5 [scrI lv] (fl (hdT lv (lv.length + 1))) := by
  refine .of (by simp [scrI, scr_cl]) (C5 (tb_ok []) ?_)
  simp (disch := first | (simp; done) | omega | (simp only [nx_add, nx_set, nx_kill, nx_mk, nx_emp]; omega) | fail) [g5, scrI, scrS]
  refine ⟨hI lv, lv.length + 1, ⟨0, .nilsl, 1, by omega, by omega, by simp [accN_len], by simp [lastC, zero22], by simp, .inl ⟨rfl, rfl⟩⟩, ?_⟩
  rintro m vs h ⟨i, out, pl, hi, rfl, rfl, hc, hpl, hO⟩
  by_cases hlt : i < lv.length + 1
  · have hlt' : (i : Int) < ((lv.length + 1 : Nat) : Int) := by omega
    simp (disch := first | (simp; done) | omega | (simp only [nx_add, nx_set, nx_kill, nx_mk, nx_emp]; omega) | fail) [g5_l5]
    refine ⟨fun _ => ?_, fun hge => absurd hge (by omega)⟩
    refine ⟨fun vs h' => ∃ out', vs = [out', .ptr pl 0, .psl (accN (lv.map I)), I (lv.length + 1 : Nat), I i] ∧ h'.cellsAt pl = some (lastC lv (i + 1)) ∧ pl < h'.nx ∧ Out out' h' (hdT lv (i + 1)) pl, ?_, ?_⟩
    · cases i with
      | zero =>
        have e0 : ∀ h, kIdxA h 22 (.psl (accN (lv.map I))) (.int .i64 ((0 : Nat) : Int)) = some (.pptr (accR (idsS (lv.map I))), h) := fun h => kIdxA_psl (accN_0 lv) rfl
        simp only [Int.natCast_zero] at e0
        have hne : pl ≠ h.nx := by omega
        have hne' : h.nx ≠ pl := by omega
        simp (disch := first | (simp; done) | omega | (simp only [nx_add, nx_set, nx_kill, nx_mk, nx_emp]; omega) | fail) [g5_a3, e0, accR, ids_one, hne, hne']
        refine ⟨?_, by omega, hO.mono (fun id hid => ?_) (by simp)⟩
        · exact hc
        · simp [Nat.ne_of_lt hid]
      | succ j =>
        have hj : j < lv.length := by omega
        have e1 : ∀ h, kIdxA h 22 (.psl (accN (lv.map I))) (.int .i64 ((j + 1 : Nat) : Int)) = some (.pptr (accS (j + 2) (I lv[j])), h) := fun h => kIdxA_psl (accN_s lv j hj) rfl
        have e1' : ∀ h, kIdxA h 22 (.psl (accN (lv.map I))) (.int .i64 ((j : Int) + 1)) = some (.pptr (accS (j + 2) (I lv[j])), h) := e1
        have hne : pl ≠ h.nx := by omega
        have hne' : h.nx ≠ pl := by omega
        have hn := hb lv[j] (List.getElem_mem hj)
        have hl8 := last8 lv (j + 1)
        have hb8 := lastN_bd lv hb (j + 1)
        simp (disch := first | (simp; done) | omega | (simp only [nx_add, nx_set, nx_kill, nx_mk, nx_emp]; omega) | fail) [g5_a3, e1', accS, hne, hne']
        simp (disch := first | (simp; done) | omega | (simp only [nx_add, nx_set, nx_kill, nx_mk, nx_emp]; omega) | fail) [g5_s1, hne, hne', hc, hl8]
        have hl0 := last0 lv (j + 1)
        have hst : step lv j = if (lastN lv (j + 1)).1 + 1 < lv[j] then [(7, ((j + 2 : Nat) : Int), (lastN lv (j + 1)).2)] else [] := by
          unfold step; rw [List.getElem?_eq_getElem hj]
        generalize hH : AH.set (AH.add h _) h.nx _ = H1
        have k1 : H1.cellsAt pl = some (lastC lv (j + 1)) := by rw [← hH]; simp [hne, hc]
        have k2 : H1.cellsAt h.nx = some (accS (j + 2) (I lv[j])) := by rw [← hH]; simp [accS]
        have k3 : H1.nx = h.nx + 1 := by rw [← hH]; simp
        have k4 : Out out H1 (hdT lv (j + 1)) pl := hO.mono (fun id hid => by rw [← hH]; simp [Nat.ne_of_lt hid]) (by omega)
        have k5 : ∀ id z n, out = .rsl id 0 n z → id ≠ h.nx := by
          rintro id z n rfl
          rcases hO with ⟨h1, _⟩ | ⟨id', h1, _, h2, _⟩
          · cases h1
          · cases h1; omega
        clear hH
        refine ⟨fun vs h' => ∃ out', vs = [out', .ptr pl 0, .ptr h.nx 0, .psl (accN (lv.map I)), I (lv.length + 1 : Nat), I (j + 1 : Nat)] ∧ h'.cellsAt pl = some (lastC lv (j + 1)) ∧ h'.cellsAt h.nx = some (accS (j + 2) (I lv[j])) ∧ h.nx < h'.nx ∧ Out out' h' (hdT lv (j + 2)) pl ∧ ∀ id z n, out' = .rsl id 0 n z → id ≠ h.nx, ?_, ?_⟩
        · simp (disch := first | (simp; done) | omega | (simp only [nx_add, nx_set, nx_kill, nx_mk, nx_emp]; omega) | fail) [g5_a1]
          refine ⟨fun hd => ?_, fun hd => ?_⟩
          · simp (disch := first | (simp; done) | omega | (simp only [nx_add, nx_set, nx_kill, nx_mk, nx_emp]; omega) | fail) [k1, k2, hl0, accS]
            have eb : kBuildSl H1 3 1 [AV.int IntKind.i64 0, AV.int IntKind.i64 0, AV.int IntKind.i64 0] [(0, 3, AV.agg [AV.int IntKind.i64 7, AV.int IntKind.i64 ((j : Int) + 2), AV.int IntKind.i64 (lastN lv (j + 1)).2])] =
                some (.rsl H1.nx 0 1 3, H1.add (.cells (enc3 (7, (j : Int) + 2, (lastN lv (j + 1)).2)))) := by
              simp [kBuildSl, afill, stow, AV.cells, splice, enc3]
            rw [eb]
            have k6 : Out out (H1.add (.cells (enc3 (7, (j : Int) + 2, (lastN lv (j + 1)).2)))) (hdT lv (j + 1)) pl := k4.mono (fun id hid => by simp [Nat.ne_of_lt hid]) (by simp)
            obtain ⟨h2, o2, a1, a2, a3, a4, a5⟩ := app_out (t := (7, (j : Int) + 2, (lastN lv (j + 1)).2)) (x := H1.nx) k6 (by simp; omega) (hdT_len lv (j + 1) (by omega)) (by simp) (fun id z n he => by
              rcases k4 with ⟨q1, _⟩ | ⟨id', q1, _, q2, _⟩
              · rw [q1] at he; cases he
              · rw [q1] at he; cases he; omega)
            simp only [wk_some, a1]
            have e2 : hdT lv (j + 2) = hdT lv (j + 1) ++ [(7, (j : Int) + 2, (lastN lv (j + 1)).2)] := by
              rw [hdT, hst, if_pos hd]; simp
            have a4' : ∀ id, id < H1.nx → (∀ z n, out ≠ .rsl id 0 n z) → h2.cellsAt id = H1.cellsAt id := fun id hid hne3 => by
              rw [a4 id (by simp; omega) hne3]; simp [Nat.ne_of_lt hid]
            refine ⟨?_, ?_, ?_, ?_, ?_⟩
            · rw [a4' pl (by omega) (fun z n he => ?_), k1]
              rcases k4 with ⟨q1, _⟩ | ⟨id', q1, _, _, q2⟩
              · rw [q1] at he; cases he
              · rw [q1] at he; cases he; exact q2 rfl
            · rw [a4' h.nx (by omega) (fun z n he => k5 _ _ _ he rfl), k2]
              rfl
            · simp at a3; omega
            · rw [e2]; exact a2
            · intro id z n he
              have := a5 id z n he
              simp at this; omega
          · refine ⟨k1, k2, by omega, ?_, k5⟩
            have : hdT lv (j + 2) = hdT lv (j + 1) := by rw [hdT, hst, if_neg (by omega), List.append_nil]
            rw [this]; exact k4
        · rintro vs h' ⟨out', rfl, m1, m2, m3, m4, m5⟩
          have hlc : lastC lv (j + 1 + 1) = accS (j + 2) (I lv[j]) := by simp [lastC, hj]
          have c1 : cut (accS (j + 2) (I lv[j])) 0 22 = some (accS (j + 2) (I lv[j])) := by simp [cut, accS]
          have c2 : splice (lastC lv (j + 1)) 0 (accS (j + 2) (I lv[j])) = some (accS (j + 2) (I lv[j])) := by
            unfold splice
            rw [if_pos (by rw [last_len]; simp [accS])]
            simp [accS, last_len]
          have c3 : kSt h' 22 (.ptr pl 0) (.agg (accS (j + 2) (I lv[j]))) = some (.undef, h'.set pl (.cells (accS (j + 2) (I lv[j])))) := by
            have o1 : ones (accS (j + 2) (I lv[j])) = true := by simp [ones, accS, AV.one]
            have o2 : (accS (j + 2) (I lv[j])).length = 22 := rfl
            simp [kSt, stow, AV.cells, o1, o2, m1, c2]
          simp (disch := first | (simp; done) | omega | (simp only [nx_add, nx_set, nx_kill, nx_mk, nx_emp]; omega) | fail) [g5_j2, m2, c1, c3]
          refine ⟨by rw [hlc], by omega, m4.mono' ?_ (by simp)⟩
          rintro id hid hne2
          simp [hne2]
    · rintro vs h' ⟨out', rfl, h1, h2, h3⟩
      simp (disch := first | (simp; done) | omega | (simp only [nx_add, nx_set, nx_kill, nx_mk, nx_emp]; omega) | fail) [g5_j4, lk]
      exact ⟨lv.length + 1 - (i + 1), by omega, i + 1, out', pl, by omega, rfl, by simp, h1, h2, h3⟩
  · have : i = lv.length + 1 := by omega
    subst this
    simp (disch := first | (simp; done) | omega | (simp only [nx_add, nx_set, nx_kill, nx_mk, nx_emp]; omega) | fail) [g5_l5, lk, g5_j7, g5_c6]
    rcases hO with ⟨rfl, h2⟩ | ⟨id, rfl, h2, _, _⟩
    · rw [h2]; exact .nilsl
    · have := Frz.rsl (h := h) (n := false) id 0 3 _ ((hdT lv (lv.length + 1)).map enc3) h2 (by rw [flat_len]; simp) (fun i y hy => ?_) (fun i y j c d hy hd hcc => ?_)
      · simpa [fl] using this
      · rw [List.getElem?_map, Option.map_eq_some_iff] at hy
        obtain ⟨t, _, rfl⟩ := hy
        rfl
      · rw [List.getElem?_map, Option.map_eq_some_iff] at hy
        obtain ⟨t, ht, rfl⟩ := hy
        rw [Nat.zero_add] at hcc
        have e := flat_get _ i j t d c ht hd hcc
        subst e
        have hj : j < 3 := by
          have := (List.getElem?_eq_some_iff.1 hd).1
          simpa [enc3] using this
        match j, hj with
        | 0, _ => simp [enc3] at hd; subst hd; exact .int _ _
        | 1, _ => simp [enc3] at hd; subst hd; exact .int _ _
        | 2, _ => simp [enc3] at hd; subst hd; exact .int _ _
end Go.Proofs.YtoibclpbkjbnbaaGreat
end
noncomputable section
namespace Go.Proofs.YtoibclpbkjbnbaaGreat
open Go.Eng
theorem wfrz_of {vs vs' : List AV} {h : AH} {k : List AV → AH → Prop} (hf : ∀ (i : Nat) (a b : AV), vs[i]? = some a → vs'[i]? = some b → Frz h false a b) (hk : k vs' ⟨.leaf, h.nx⟩) : wfrz vs h k := by
  have hnone : ∀ (i : Nat), PM.get (.leaf : PM AObj) i = none := fun i => by simp [PM.get]
  refine ⟨vs', fun own β w hs i a b v h1 h2 hv => VR.frz hs (n := false) (L2 := LL own β .leaf) (β2 := β) ?_ ?_ (hf i a b h1 h2) hv, hk⟩
  · rintro b ⟨id, o, base, hg, hβ⟩ hL
    obtain ⟨b', base', hβ', hn, _⟩ := hs.obj id o hg
    rw [hβ] at hβ'; cases hβ'
    rcases hL with hL | ⟨j, o2, b2, hg2, _⟩
    · exact hn hL
    · rw [hnone] at hg2; cases hg2
  · intro _ b hb hL
    rcases hL with hL | ⟨j, o2, b2, hg2, _⟩
    · exact hb (.inl hL)
    · rw [hnone] at hg2; cases hg2
/-- an owned list of cells -/
def Lst (z : Nat) (o : AV) (h : AH) (cs : List AV) (n : Nat) : Prop := (o = .nilsl ∧ cs = [] ∧ n = 0) ∨ ∃ id, o = .rsl id 0 n z ∧ h.cellsAt id = some cs ∧ cs.length = n * z ∧ id < h.nx ∧ 0 < n
theorem app_any {h : AH} {z bytes : Nat} {o : AV} {cs new : List AV} {n x : Nat} (hO : Lst z o h cs n) (hx : h.cellsAt x = some new) (hnl : new.length = z) (ho : ones new = true) (hr : roomy (n + 1) bytes = true) :
    ∃ h', kApp h z bytes o (.rsl x 0 1 z) = some (.rsl h.nx 0 (n + 1) z, h') ∧ h'.cellsAt h.nx = some (cs ++ new) ∧ h'.nx = h.nx + 1 ∧ ∀ id, id < h.nx → (∀ n z, o ≠ .rsl id 0 n z) → h'.cellsAt id = h.cellsAt id := by
  have hc : acells h z (.rsl x 0 1 z) = some new := by
    simp only [acells, if_true, hx, Nat.one_mul]
    unfold cut
    rw [if_pos (by omega), List.drop_zero, List.take_of_length_le (by omega)]
  rcases hO with ⟨rfl, rfl, rfl⟩ | ⟨id, rfl, h2, h3, h4⟩
  · refine ⟨h.add (.cells new), by simp [kApp, aapp, hc, alen, ho, hr], by simp, by simp, fun id hid _ => by simp [Nat.ne_of_lt hid]⟩
    all_goals first | (simpa using hr) | skip
  · have hcut : cut cs 0 (n * z) = some cs := by
      unfold cut
      rw [if_pos (by omega), List.drop_zero, List.take_of_length_le (by omega)]
    refine ⟨(h.kill id).add (.cells (cs ++ new)), by simp [kApp, aapp, hc, alen, ho, hr, h2, hcut], by simp, by simp, fun id' hid hne => ?_⟩
    have : id' ≠ id := fun e => hne n z (by rw [e])
    simp [Nat.ne_of_lt hid, cellsAt_kill_ne _ _ _ this]
theorem Lst.mono {z : Nat} {o : AV} {h h' : AH} {cs : List AV} {n : Nat} (hO : Lst z o h cs n) (hk : ∀ id, id < h.nx → o = .rsl id 0 n z → h'.cellsAt id = h.cellsAt id) (hn : h.nx ≤ h'.nx) : Lst z o h' cs n := by
  rcases hO with hO | ⟨id, h1, h2, h3, h4⟩
  · exact .inl hO
  · exact .inr ⟨id, h1, by rw [hk id h4.1 h1]; exact h2, h3, by omega, h4.2⟩
def kc (a : Nat) : List AV := [I 9, .str [], .rsl a 0 1 5, .nilsl, .nilsl]
theorem kc_len (l : List Nat) : (l.flatMap kc).length = l.length * 5 := by
  induction l with
  | nil => rfl
  | cons a r ih => simp [ih, kc]; omega
structure HB (lv : List Int) (i : Nat) (pv : Nat) (kids : AV) (ats : List Nat) (h : AH) : Prop where
  view : h.cellsAt pv = some [I 1, .str [], .nilsl, .nilsl, kids]
  pvn : pv < h.nx
  kid : Lst 5 kids h (ats.flatMap kc) i
  len : ats.length = i
  att : ∀ (j a : Nat) (n : Int), ats[j]? = some a → lv[j]? = some n → h.cellsAt a = some (attrS (I n))
  atn : ∀ a ∈ ats, a < h.nx ∧ a ≠ pv ∧ ∀ m z, kids ≠ .rsl a 0 m z
  kpv : ∀ m z, kids ≠ .rsl pv 0 m z
def Dis (pv : Nat) (out kids : AV) (ats : List Nat) : Prop := ∀ x m z, out = .rsl x 0 m z → x ≠ pv ∧ x ∉ ats ∧ ∀ m' z', kids ≠ .rsl x 0 m' z'
structure HV (lv : List Int) (i : Nat) (pv : Nat) (out kids : AV) (ats : List Nat) (h : AH) : Prop where
  b : HB lv i pv kids ats h
  fnd : Lst 3 out h ((hdT lv (i + 1)).flatMap enc3) (hdT lv (i + 1)).length
  dis : Dis pv out kids ats
theorem Lst.lt {z : Nat} {o : AV} {h : AH} {cs : List AV} {n : Nat} (hO : Lst z o h cs n) {x m z' : Nat} (he : o = .rsl x 0 m z') : x < h.nx := by
  rcases hO with ⟨h1, _⟩ | ⟨id, h1, _, _, h2⟩
  · rw [h1] at he; cases he
  · rw [h1] at he; cases he; exact h2.1
theorem HB.mono {lv : List Int} {i pv : Nat} {kids : AV} {ats : List Nat} {h h' : AH} (hB : HB lv i pv kids ats h) (hk : ∀ x, x < h.nx → (x = pv ∨ x ∈ ats ∨ ∃ m z, kids = .rsl x 0 m z) → h'.cellsAt x = h.cellsAt x) (hn : h.nx ≤ h'.nx) : HB lv i pv kids ats h' :=
  ⟨by rw [hk pv hB.pvn (.inl rfl)]; exact hB.view, Nat.lt_of_lt_of_le hB.pvn hn, hB.kid.mono (fun id hid he => hk id hid (.inr (.inr ⟨_, _, he⟩))) hn, hB.len,
    fun j a n hj hl => by
      have hm := List.mem_of_getElem? hj
      rw [hk a (hB.atn a hm).1 (.inr (.inl hm))]; exact hB.att j a n hj hl,
    fun a ha => ⟨Nat.lt_of_lt_of_le (hB.atn a ha).1 hn, (hB.atn a ha).2⟩, hB.kpv⟩
def lvs (us : List Int) : List Int := us.map fun u => 1 + u % 6
def usA (us : List Int) : AV := .psl (us.map fun u => [AV.int .u8 u])
def mI (us : List Int) (m : Nat) (vs : List AV) (h : AH) : Prop := ∃ (i pv : Nat) (out kids : AV) (ats : List Nat), i ≤ us.length ∧ m = us.length - i ∧
  vs = [usA us, .ptr pv 0, out, I (lastN (lvs us) (i + 1)).1, I (lastN (lvs us) (i + 1)).2, I i] ∧ HV (lvs us) i pv out kids ats h
/-- what the calls do -/
def clM (lv : List Int) : CL := fun f args h Q =>
  (f = 6 ∧ args = [viewS (lv.map I), .nilsl] ∧ Q (scrI lv) h) ∨ (f = 5 ∧ args = [scrI lv] ∧ Q (fl (hdT lv (lv.length + 1))) h) ∨ (f = 4 ∧ args = [fl (hdT lv (lv.length + 1)), fl (hdT lv (lv.length + 1))] ∧ Q (.bool true) h) ∨ (f = 7 ∧ args = [] ∧ Q (.bool true) h)
theorem clM_ok {lv : List Int} (hl : lv.length ≤ 12) (hb : ∀ n ∈ lv, 1 ≤ n ∧ n ≤ 6) (h6 : Pure Tryz.prog 6 [viewS (lv.map I), .nilsl] (scrI lv)) (h7 : Pure Tryz.prog 7 [] (.bool true)) : CLOk Tryz.prog (clM lv) := by
  rintro f args h Q (⟨rfl, rfl, hq⟩ | ⟨rfl, rfl, hq⟩ | ⟨rfl, rfl, hq⟩ | ⟨rfl, rfl, hq⟩)
  · exact ⟨_, _, h6 h, hq⟩
  · exact ⟨_, _, headings_c lv (by omega) hb h, hq⟩
  · exact ⟨_, _, equal_c _ (hdT_len lv _ (by omega)) h, hq⟩
  · exact ⟨_, _, h7 h, hq⟩
theorem flat_getG {α : Type} {f : α → List AV} {z : Nat} (hz : ∀ a, (f a).length = z) : ∀ (l : List α) (i j : Nat) (a : α), l[i]? = some a → j < z → (l.flatMap f)[i * z + j]? = (f a)[j]?
  | [], i, j, a, h, _ => by simp at h
  | b :: l, 0, j, a, h, hj => by
    simp at h; subst h
    rw [Nat.zero_mul, Nat.zero_add, List.flatMap_cons, List.getElem?_append_left (by rw [hz]; exact hj)]
  | b :: l, i + 1, j, a, h, hj => by
    simp at h
    rw [List.flatMap_cons, List.getElem?_append_right (by rw [hz, Nat.succ_mul]; omega), ← flat_getG hz l i j a h hj, hz]
    congr 1
    rw [Nat.succ_mul]; omega
theorem frz_fl {o : AV} {h : AH} {fs : List F3} (hO : Lst 3 o h (fs.flatMap enc3) fs.length) : Frz h false o (fl fs) := by
  rcases hO with ⟨rfl, h2, h3⟩ | ⟨id, rfl, h2, _, _⟩
  · have : fs = [] := List.length_eq_zero_iff.1 h3
    subst this; exact .nilsl
  · have := Frz.rsl (h := h) (n := false) id 0 3 _ (fs.map enc3) h2 (by rw [flat_len]; simp) (fun i y hy => ?_) (fun i y j c d hy hd hcc => ?_)
    · simpa [fl] using this
    · rw [List.getElem?_map, Option.map_eq_some_iff] at hy
      obtain ⟨t, _, rfl⟩ := hy
      rfl
    · rw [List.getElem?_map, Option.map_eq_some_iff] at hy
      obtain ⟨t, ht, rfl⟩ := hy
      rw [Nat.zero_add] at hcc
      have e := flat_get _ i j t d c ht hd hcc
      subst e
      have hj : j < 3 := by
        have := (List.getElem?_eq_some_iff.1 hd).1
        simpa [enc3] using this
      match j, hj with
      | 0, _ => simp [enc3] at hd; subst hd; exact .int _ _
      | 1, _ => simp [enc3] at hd; subst hd; exact .int _ _
      | 2, _ => simp [enc3] at hd; subst hd; exact .int _ _
theorem frz_kids {lv : List Int} {pv : Nat} {kids : AV} {ats : List Nat} {h : AH} (hB : HB lv lv.length pv kids ats h) : Frz h false kids (opt ((lv.map I).map kidS)) := by
  rcases hB.kid with ⟨h1, h2, h3⟩ | ⟨id, h1, h2, h3, _, h4⟩
  · have : lv = [] := List.length_eq_zero_iff.1 h3
    subst this; rw [h1]; exact .nilsl0
  · have hne : opt ((lv.map I).map kidS) = .psl ((lv.map I).map kidS) := by
      cases lv with
      | nil => simp at h4
      | cons a r => rfl
    rw [hne, h1]
    have := Frz.rsl (h := h) (n := false) id 0 5 _ ((lv.map I).map kidS) h2 (by rw [h3]; simp) (fun i y hy => ?_) (fun i y j c d hy hd hcc => ?_)
    · simpa using this
    · rw [List.getElem?_map, Option.map_eq_some_iff] at hy
      obtain ⟨t, _, rfl⟩ := hy
      rfl
    · rw [List.getElem?_map, Option.map_eq_some_iff] at hy
      obtain ⟨t, ht, rfl⟩ := hy
      rw [List.getElem?_map, Option.map_eq_some_iff] at ht
      obtain ⟨n, hn, rfl⟩ := ht
      have hj : j < 5 := by
        have := (List.getElem?_eq_some_iff.1 hd).1
        simpa [kidS] using this
      have hil : i < ats.length := by rw [hB.len]; exact (List.getElem?_eq_some_iff.1 hn).1
      have ha : ats[i]? = some ats[i] := List.getElem?_eq_getElem hil
      rw [Nat.zero_add, flat_getG (f := kc) (fun a => rfl) ats i j _ ha hj] at hcc
      have hat := hB.att i _ n ha hn
      match j, hj with
      | 0, _ => simp [kc, kidS] at hcc hd; subst hcc; subst hd; exact .int _ _
      | 1, _ => simp [kc, kidS] at hcc hd; subst hcc; subst hd; exact .str _
      | 2, _ =>
        simp [kc, kidS] at hcc hd; subst hcc; subst hd
        have := Frz.rsl (h := h) (n := false) ats[i] 0 5 _ [attrS (I n)] hat (by simp [attrS]) (fun i y hy => ?_) (fun i y j c d hy hd hcc => ?_)
        · simpa using this
        · have : i = 0 := by
            have := (List.getElem?_eq_some_iff.1 hy).1
            simp at this; exact this
          subst this
          simp at hy; subst hy; rfl
        · have : i = 0 := by
            have := (List.getElem?_eq_some_iff.1 hy).1
            simp at this; exact this
          subst this
          simp at hy; subst hy
          simp at hcc
          rw [hd] at hcc
          cases hcc
          have hj : j < 5 := by
            have := (List.getElem?_eq_some_iff.1 hd).1
            simpa [attrS] using this
          match j, hj with
          | 0, _ => simp [attrS] at hd; subst hd; exact .str _
          | 1, _ => simp [attrS] at hd; subst hd; exact .int _ _
          | 2, _ => simp [attrS] at hd; subst hd; exact .int _ _
          | 3, _ => simp [attrS] at hd; subst hd; exact .str _
          | 4, _ => simp [attrS] at hd; subst hd; exact .nilsl0
      | 3, _ => simp [kc, kidS] at hcc hd; subst hcc; subst hd; exact .nilsl0
      | 4, _ => simp [kc, kidS] at hcc hd; subst hcc; subst hd; exact .nilsl0
theorem law_f (us : List Int) (hl : us.length ≤ 12) (hu : ∀ u ∈ us, 0 ≤ u ∧ u ≤ 255) (h6 : Pure Tryz.prog 6 [viewS ((lvs us).map I), .nilsl] (scrI (lvs us))) (h7 : Pure Tryz.prog 7 [] (.bool true)) : Fresh Tryz.prog 3 [usA us] (.bool true) := by
  have hlen : (lvs us).length = us.length := by simp [lvs]
  have hb : ∀ n ∈ lvs us, 1 ≤ n ∧ n ≤ 6 := by
    intro n hn
    simp only [lvs, List.mem_map] at hn
    obtain ⟨u, hu', rfl⟩ := hn
    have := hu u hu'
    omega
  refine C3 (clM_ok (lv := lvs us) (by omega) hb h6 h7) ?_
  simp (disch := first | (simp; done) | omega | (simp only [nx_add, nx_set, nx_kill, nx_mk, nx_emp]; omega) | fail) [g3, usA]
  intro _
  refine ⟨mI us, us.length, ⟨0, 0, .nilsl, .nilsl, [], by omega, by omega, by simp [usA, lastN], ⟨⟨by simp, by simp, .inl ⟨rfl, rfl, rfl⟩, rfl, fun j a n hj => by simp at hj, fun a ha => by simp at ha, by simp⟩, .inl ⟨by simp [hdT], by simp [hdT], by simp [hdT]⟩, fun x m z he => by cases he⟩⟩, ?_⟩
  rintro m vs h ⟨i, pv, out, kids, ats, hi, rfl, rfl, hI⟩
  simp (disch := first | (simp; done) | omega | (simp only [nx_add, nx_set, nx_kill, nx_mk, nx_emp]; omega) | fail) [g3_l3, usA]
  refine ⟨fun hlt => ?_, fun hge => ?_⟩
  · have hi' : i < us.length := by omega
    have hui := hu us[i] (List.getElem_mem hi')
    have e1 : ∀ h, kIdxA h 1 (.psl (us.map fun u => [AV.int .u8 u])) (.int .i64 i) = some (.pptr [.int .u8 us[i]], h) := fun h => kIdxA_psl (by simp [hi']) rfl
    have ec : ∀ h, kConvI h .i64 (.int .u8 us[i]) = some (I us[i], h) := fun h => by simp [kConvI, wrap64_of hui.1 (by omega)]
    have er : ∀ h, kArith h .rem (I us[i]) (.int .i64 6) = some (I (us[i] % 6), h) := fun h => by
      rw [kArith_rem _ _ _ _ (by decide), Int.tmod_eq_emod_of_nonneg hui.1]
    have hn : (lvs us)[i]? = some (1 + us[i] % 6) := by simp [lvs, hi']
    generalize hN : 1 + us[i] % 6 = N at hn
    have hNb : 1 ≤ N ∧ N ≤ 6 := by omega
    have ea : ∀ h, kArith h .add (.int .i64 1) (I (us[i] % 6)) = some (I N, h) := fun h => by rw [kArith_add _ _ _ (by omega) (by omega), hN]
    simp (disch := first | (simp; done) | omega | (simp only [nx_add, nx_set, nx_kill, nx_mk, nx_emp]; omega) | fail) [e1, ec, er, ea]
    simp (disch := first | (simp; done) | omega | (simp only [nx_add, nx_set, nx_kill, nx_mk, nx_emp]; omega) | fail) [g3_s2, hI.b.view]
    have b1 : kBuildSl h 5 1 [AV.str [], AV.int IntKind.i64 0, AV.int IntKind.i64 0, AV.str [], AV.nilsl] [(0, 5, AV.agg [AV.str [108, 101, 118, 101, 108], AV.int IntKind.i64 1, AV.int IntKind.i64 N, AV.str [], AV.nilsl])] =
        some (.rsl h.nx 0 1 5, h.add (.cells (attrS (I N)))) := by simp [kBuildSl, afill, stow, AV.cells, splice, attrS]
    have b2 : afill [AV.int IntKind.i64 9, AV.str [], AV.nilsl, AV.nilsl, AV.nilsl] [(2, 1, AV.rsl h.nx 0 1 5)] = some (kc h.nx) := by simp [afill, stow, AV.one, AV.cells, splice, kc]
    have b3 : ∀ h2, kBuildSl h2 5 1 [AV.int IntKind.i64 0, AV.str [], AV.nilsl, AV.nilsl, AV.nilsl] [(0, 5, AV.agg (kc h.nx))] = some (.rsl h2.nx 0 1 5, h2.add (.cells (kc h.nx))) := fun h2 => by simp [kBuildSl, afill, stow, AV.cells, splice, kc]
    rw [b1]
    simp only [wk_some, b2, b3]
    generalize hH2 : (h.add (.cells (attrS (I N)))).add (.cells (kc h.nx)) = h2
    have n2 : h2.nx = h.nx + 2 := by rw [← hH2]; simp
    have o2 : ∀ id, id < h.nx → h2.cellsAt id = h.cellsAt id := fun id hid => by rw [← hH2]; simp [Nat.ne_of_lt hid, show id ≠ h.nx + 1 by omega]
    have a2 : h2.cellsAt h.nx = some (attrS (I N)) := by rw [← hH2]; simp
    have x2 : h2.cellsAt (h.nx + 1) = some (kc h.nx) := by rw [← hH2]; simp
    simp only [nx_add]
    obtain ⟨h3, r1, r2, r3, r4⟩ := app_any (bytes := 96) (x := h.nx + 1) (hI.b.kid.mono (h' := h2) (fun id hid _ => o2 id hid) (by omega)) x2 rfl (by simp [ones, kc, AV.one]) (by simp [roomy]; omega)
    rw [r1]
    simp only [wk_some]
    have hvp : h3.cellsAt pv = some [I 1, .str [], .nilsl, .nilsl, kids] := by
      rw [r4 pv (by have := hI.b.pvn; omega) hI.b.kpv, o2 pv hI.b.pvn]; exact hI.b.view
    have hst : kSt h3 1 (.ptr pv 4) (.rsl h2.nx 0 (i + 1) 5) = some (.undef, h3.set pv (.cells [I 1, .str [], .nilsl, .nilsl, .rsl h2.nx 0 (i + 1) 5])) := by
      simp [kSt, stow, AV.cells, ones, AV.one, hvp, splice]
    have hb8 := lastN_bd (lvs us) hb (i + 1)
    simp (disch := first | (simp; done) | omega | (simp only [nx_add, nx_set, nx_kill, nx_mk, nx_emp]; omega) | fail) [g3_s1, hst]
    generalize hH4 : h3.set pv (.cells [I 1, .str [], .nilsl, .nilsl, .rsl h2.nx 0 (i + 1) 5]) = h4
    have n4 : h4.nx = h.nx + 3 := by rw [← hH4]; simp; omega
    have o4 : ∀ id, id < h.nx → id ≠ pv → (∀ m z, kids ≠ .rsl id 0 m z) → h4.cellsAt id = h.cellsAt id := fun id hid hne hk => by
      rw [← hH4]; simp only [cellsAt_set, if_neg hne]
      rw [r4 id (by omega) hk, o2 id hid]
    have hB4 : HB (lvs us) (i + 1) pv (.rsl h2.nx 0 (i + 1) 5) (ats ++ [h.nx]) h4 := by
      refine ⟨by rw [← hH4]; simp, by have := hI.b.pvn; omega, .inr ⟨h2.nx, rfl, ?_, ?_, by omega, by omega⟩, by simp [hI.b.len], fun j a n hj hl => ?_, fun a ha => ?_, fun m z he => ?_⟩
      · rw [← hH4]
        have : h2.nx ≠ pv := by have := hI.b.pvn; omega
        simp only [cellsAt_set, if_neg this, r2]
        simp
      · rw [kc_len]; simp [hI.b.len]
      · rw [List.getElem?_append] at hj
        split at hj
        · have hm := List.mem_of_getElem? hj
          rw [o4 a (hI.b.atn a hm).1 (hI.b.atn a hm).2.1 (hI.b.atn a hm).2.2]
          exact hI.b.att j a n hj hl
        · have hji : j = i := by
            have := (List.getElem?_eq_some_iff.1 hj).1
            have h1 := hI.b.len
            simp at this; omega
          subst hji
          simp [hI.b.len] at hj
          subst hj
          rw [hn] at hl
          cases hl
          have hpv := hI.b.pvn
          rw [← hH4]
          simp only [cellsAt_set, if_neg (show h.nx ≠ pv by omega)]
          rw [r4 h.nx (by omega) (fun m z he => ?_), a2]
          have := hI.b.kid.lt he
          omega
      · simp at ha
        rcases ha with ha | rfl
        · exact ⟨by have := (hI.b.atn a ha).1; omega, (hI.b.atn a ha).2.1, fun m z he => by cases he; have := (hI.b.atn _ ha).1; omega⟩
        · exact ⟨by omega, by have := hI.b.pvn; omega, fun m z he => by simp at he; omega⟩
      · cases he; have := hI.b.pvn; omega
    have hfn4 : Lst 3 out h4 ((hdT (lvs us) (i + 1)).flatMap enc3) (hdT (lvs us) (i + 1)).length := hI.fnd.mono (fun id hid he => o4 id hid (hI.dis _ _ _ he).1 (hI.dis _ _ _ he).2.2) (by omega)
    have hdis4 : Dis pv out (.rsl h2.nx 0 (i + 1) 5) (ats ++ [h.nx]) := fun x m z he => by
      have hx := hI.fnd.lt he
      obtain ⟨q1, q2, q3⟩ := hI.dis x m z he
      exact ⟨q1, by simp; exact ⟨q2, by omega⟩, fun m' z' he' => by cases he'; omega⟩
    clear hH4 hst r4 r2
    refine ⟨fun vs h5 => ∃ out', vs = [usA us, .ptr pv 0, out', I i, I N] ∧ HV (lvs us) (i + 1) pv out' (.rsl h2.nx 0 (i + 1) 5) (ats ++ [h.nx]) h5, ?_, ?_⟩
    · have hsp : hdT (lvs us) (i + 1 + 1) = hdT (lvs us) (i + 1) ++ step (lvs us) i := rfl
      have hst : step (lvs us) i = if (lastN (lvs us) (i + 1)).1 + 1 < N then [(7, ((i + 2 : Nat) : Int), (lastN (lvs us) (i + 1)).2)] else [] := by
        unfold step; rw [hn]
      simp (disch := first | (simp; done) | omega | (simp only [nx_add, nx_set, nx_kill, nx_mk, nx_emp]; omega) | fail) [g3_a1]
      refine ⟨fun hd => ?_, fun hd => ⟨out, ⟨rfl, rfl⟩, hB4, ?_, hdis4⟩⟩
      · have c1 : kBuildSl h4 3 1 [AV.int IntKind.i64 0, AV.int IntKind.i64 0, AV.int IntKind.i64 0] [(0, 3, AV.agg [AV.int IntKind.i64 7, AV.int IntKind.i64 ((i : Int) + 2), AV.int IntKind.i64 (lastN (lvs us) (i + 1)).2])] =
            some (.rsl h4.nx 0 1 3, h4.add (.cells (enc3 (7, (i : Int) + 2, (lastN (lvs us) (i + 1)).2)))) := by
          simp [kBuildSl, afill, stow, AV.cells, splice, enc3]
        rw [c1]
        simp only [wk_some]
        have hlen5 := hdT_len (lvs us) (i + 1) (by omega)
        obtain ⟨h6', s1, s2, s3, s4⟩ := app_any (bytes := 24) (x := h4.nx) (new := enc3 (7, (i : Int) + 2, (lastN (lvs us) (i + 1)).2)) (h := h4.add (.cells (enc3 (7, (i : Int) + 2, (lastN (lvs us) (i + 1)).2)))) (hfn4.mono (fun id hid _ => by simp [Nat.ne_of_lt hid]) (by simp)) (by simp) rfl (by simp [ones, enc3, AV.one]) (by simp [roomy]; omega)
        rw [s1]
        simp only [wk_some]
        have hag : ∀ x, x < h4.nx → (∀ m z, out ≠ .rsl x 0 m z) → h6'.cellsAt x = h4.cellsAt x := fun x hx hne => by
          rw [s4 x (by simp; omega) hne]; simp [Nat.ne_of_lt hx]
        have hnx6 : h4.nx ≤ h6'.nx := by simp at s3; omega
        refine ⟨_, ⟨rfl, rfl⟩, hB4.mono (fun x hx hor => hag x hx fun m z he => ?_) hnx6, ?_, fun x m z he => ?_⟩
        · obtain ⟨q1, q2, q3⟩ := hdis4 x m z he
          rcases hor with rfl | hor | ⟨m', z', hor⟩
          · exact q1 rfl
          · exact q2 hor
          · exact q3 m' z' hor
        · rw [hsp, hst, if_pos hd]
          refine .inr ⟨h4.nx + 1, by simp, ?_, by rw [flat_len], by simp at s3; omega, by simp⟩
          simpa using s2
        · simp at he
          obtain ⟨rfl, _⟩ := he
          refine ⟨by have := hB4.pvn; omega, fun hm => ?_, fun m' z' he' => ?_⟩
          · have := (hB4.atn _ hm).1; omega
          · have := hB4.kid.lt he'; omega
      · rw [hsp, hst, if_neg (by omega), List.append_nil]
        exact hfn4
    · rintro vs h5 ⟨out', rfl, hV⟩
      simp (disch := first | (simp; done) | omega | (simp only [nx_add, nx_set, nx_kill, nx_mk, nx_emp]; omega) | fail) [g3_j2, lk]
      refine ⟨us.length - (i + 1), by omega, i + 1, pv, out', _, _, by omega, rfl, ?_, hV⟩
      simp [lastN, hn]
  · have hiL : i = us.length := by omega
    subst hiL
    simp (disch := first | (simp; done) | omega | (simp only [nx_add, nx_set, nx_kill, nx_mk, nx_emp]; omega) | fail) [g3_j6]
    unfold g3_c5
    refine wfrz_of (vs' := [.pptr [I 1, .str [], .nilsl, .nilsl, opt (((lvs us).map I).map kidS)], fl (hdT (lvs us) (us.length + 1))]) (fun i a b h1 h2 => ?_) ?_
    · match i, h1, h2 with
      | 0, h1, h2 =>
        simp at h1 h2
        subst h1; subst h2
        refine .ptr pv 0 _ _ hI.b.view (by simp) (fun i c d hc hd => ?_)
        match i, hc, hd with
        | 0, hc, hd => simp at hc hd; subst hc; subst hd; exact .int _ _
        | 1, hc, hd => simp at hc hd; subst hc; subst hd; exact .str _
        | 2, hc, hd => simp at hc hd; subst hc; subst hd; exact .nilsl0
        | 3, hc, hd => simp at hc hd; subst hc; subst hd; exact .nilsl0
        | 4, hc, hd => simp at hc hd; subst hc; subst hd; rw [← List.map_map]; exact frz_kids (hlen ▸ hI.b)
        | i + 5, hc, hd => simp at hc
      | 1, h1, h2 =>
        simp at h1 h2
        subst h1; subst h2
        exact frz_fl hI.fnd
      | i + 2, h1, h2 => simp at h1
    · simp (disch := first | (simp; done) | omega | (simp only [nx_add, nx_set, nx_kill, nx_mk, nx_emp]; omega) | fail) [g3_f4]
      refine .inl ⟨rfl, by simp [viewS], ?_⟩
      simp (disch := first | (simp; done) | omega | (simp only [nx_add, nx_set, nx_kill, nx_mk, nx_emp]; omega) | fail) [g3_s5]
      refine .inr (.inl ⟨rfl, rfl, ?_⟩)
      simp (disch := first | (simp; done) | omega | (simp only [nx_add, nx_set, nx_kill, nx_mk, nx_emp]; omega) | fail) [g3_s4]
      refine .inr (.inr (.inl ⟨rfl, by rw [hlen], ?_⟩))
      simp (disch := first | (simp; done) | omega | (simp only [nx_add, nx_set, nx_kill, nx_mk, nx_emp]; omega) | fail) [g3_s3]
      refine .inr (.inr (.inr ⟨rfl, rfl, ?_⟩))
      simp (disch := first | (simp; done) | omega | (simp only [nx_add, nx_set, nx_kill, nx_mk, nx_emp]; omega) | fail)
      try exact .bool _
end Go.Proofs.YtoibclpbkjbnbaaGreat
end
