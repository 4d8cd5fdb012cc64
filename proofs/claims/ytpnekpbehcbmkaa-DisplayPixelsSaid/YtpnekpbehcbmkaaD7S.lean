/- What the difference of two lists of commands is in the program. -/
import Derived.Test.YtpnekpbehcbmkaaD7R
set_option linter.unusedSimpArgs false
set_option linter.unusedVariables false
set_option linter.unnecessarySimpa false
noncomputable section
namespace Go.Proofs.Ytpnekpbehcbmkaa
open Go.Eng
def lcp : List Cmd → List Cmd → Nat
  | x :: xs, y :: ys => if eqD x y then lcp xs ys + 1 else 0
  | _, _ => 0
theorem lcp_unique : ∀ {a b : List Cmd} {i : Nat} (ha : i ≤ a.length) (hb : i ≤ b.length) (_ : ∀ j (h : j < i), a[j]'(by omega) = b[j]'(by omega)) (_ : ∀ (h1 : i < a.length) (h2 : i < b.length), a[i] ≠ b[i]), lcp a b = i
  | [], b, i, ha, _, _, _ => by simp at ha; subst ha; simp [lcp]
  | x :: xs, [], i, _, hb, _, _ => by simp at hb; subst hb; simp [lcp]
  | x :: xs, y :: ys, 0, _, _, _, hne => by
    have := hne (by simp) (by simp)
    simp at this
    simp [lcp, eqD, this]
  | x :: xs, y :: ys, i + 1, ha, hb, heq, hne => by
    have h0 := heq 0 (by omega)
    simp at h0
    have := lcp_unique (a := xs) (b := ys) (i := i) (by simpa using ha) (by simpa using hb) (fun j h => by simpa using heq (j + 1) (by omega)) (fun h1 h2 e => hne (by simpa using h1) (by simpa using h2) (by simpa using e))
    simp [lcp, eqD, h0, this]
theorem lcp_le : ∀ (a b : List Cmd), lcp a b ≤ a.length ∧ lcp a b ≤ b.length
  | [], b => by simp [lcp]
  | x :: xs, [] => by simp [lcp]
  | x :: xs, y :: ys => by
    have := lcp_le xs ys
    unfold lcp
    split <;> simp <;> omega
def dAt (a b : List Cmd) : Nat := lcp a b
def dTl (a b : List Cmd) : Nat := lcp (a.drop (dAt a b)).reverse (b.drop (dAt a b)).reverse
theorem d_le (a b : List Cmd) : dAt a b + dTl a b ≤ a.length ∧ dAt a b + dTl a b ≤ b.length := by
  have h1 := lcp_le a b
  have h2 := lcp_le (a.drop (dAt a b)).reverse (b.drop (dAt a b)).reverse
  simp at h2
  unfold dTl
  unfold dAt at *
  omega
def dL (a b : List Cmd) : List Cmd := (b.drop (dAt a b)).take (b.length - dTl a b - dAt a b)
def dRes (a b : List Cmd) : AV := if eqD a b then .nilsl else .psl [[I (dAt a b), I ((a.length - dTl a b - dAt a b : Nat) : Int), cmds (dL a b)]]
@[simp] theorem kMnmx_min (h : AH) (a b : Int) : kMnmx h false (.int .i64 a) (.int .i64 b) = some (.int .i64 (if b < a then b else a), h) := Eq.trans rfl rfl
theorem kSl_cmds (h : AH) (l : List Cmd) (i j : Nat) (h1 : i ≤ j) (h2 : j ≤ l.length) : kSl h 22 (cmds l) (some (I i)) (some (I j)) none = some (cmds ((l.drop i).take (j - i)), h) := by
  have hall : (l.map Cmd.enc).all (fun x => x.length == 22) = true := by simp
  have q1 : (i : Int) ≤ j := by omega
  have q2 : (j : Int) ≤ l.length := by omega
  simp [kSl, aslice, asl, alen, abd, aidx, cmds, q1, q2]
@[simp] theorem stow_cmds (l : List Cmd) : stow (cmds l) = true := by unfold cmds; exact stow_psl _
@[simp] theorem cells_cmds (l : List Cmd) : (cmds l).cells = [cmds l] := Eq.trans rfl rfl
@[simp] theorem one_cmds (l : List Cmd) : (cmds l).one = true := Eq.trans rfl rfl
@[simp] theorem ones_cmds (a b : Int) (l : List Cmd) : ones [I a, I b, cmds l] = true := Eq.trans rfl rfl
def d1I (a b : List Cmd) (m : Nat) (vs : List AV) (h : AH) : Prop := ∃ i : Nat, ∃ (ha : i ≤ a.length) (hb : i ≤ b.length), m = a.length - i ∧ vs = [cmds a, cmds b, I i] ∧ ∀ j (h : j < i), a[j]'(by omega) = b[j]'(by omega)
def both (a b : List Cmd) (i : Nat) : Bool := match a[i]?, b[i]? with | some x, some y => eqD x y | _, _ => false
theorem min_lt {i m n : Nat} : ((i : Int) < if n < m then (n : Int) else m) ↔ i < m ∧ i < n := by split <;> omega
def d2I (a b : List Cmd) (i m : Nat) (vs : List AV) (h : AH) : Prop := ∃ t : Nat, ∃ (ha : t ≤ a.length - i) (hb : t ≤ b.length - i), m = a.length - t ∧ vs = [cmds a, cmds b, I i, I t] ∧ ∀ j (h : j < t), a[a.length - 1 - j]'(by omega) = b[b.length - 1 - j]'(by omega)
theorem diff_c (a b : List Cmd) (hx : Lite a ∧ Lite b) : Pure Try.prog 27 [cmds a, cmds b] (dRes a b) := by
  refine .of (by simp [cmds_cl]) (C27 (tb_ok [e58, e11, e59]) ?_)
  obtain ⟨ha, hb⟩ := hx
  have ha1 := ha.1; have hb1 := hb.1
  have ha2 := ha.sm; have hb2 := hb.sm
  simp (disch := first | (simp; done) | omega | (simp only [nx_add, nx_set, nx_kill, nx_mk, nx_emp]; omega) | fail) [g27, ha2, hb2]
  refine ⟨fun he => by simp [dRes, he]; exact .nilsl0, fun hne => ?_⟩
  refine ⟨d1I a b, a.length, ⟨0, by omega, by omega, rfl, rfl, fun j h => by omega⟩, ?_⟩
  rintro m vs h ⟨i, hia, hib, rfl, rfl, hall⟩
  simp (disch := first | (simp; done) | omega | (simp only [nx_add, nx_set, nx_kill, nx_mk, nx_emp]; omega) | fail) [g27_l3]
  refine ⟨fun vs h => vs = [cmds a, cmds b, I i, .bool (both a b i)], ?_, ?_⟩
  · by_cases q : i < a.length ∧ i < b.length
    · obtain ⟨q1, q2⟩ := q
      have s1 : SmC a[i] := ha2.2 _ (List.getElem_mem q1)
      have s2 : SmC b[i] := hb2.2 _ (List.getElem_mem q2)
      have qm : ((i : Int) < if b.length < a.length then (b.length : Int) else a.length) := min_lt.2 ⟨q1, q2⟩
      simp (disch := first | (simp; done) | omega | (simp only [nx_add, nx_set, nx_kill, nx_mk, nx_emp]; omega) | fail) [g27_a1, q1, q2, qm, s1, s2, both]
      simp (disch := first | (simp; done) | omega | (simp only [nx_add, nx_set, nx_kill, nx_mk, nx_emp]; omega) | fail) [g27_s2, q1, q2, qm, s1, s2, both]
      simp (disch := first | (simp; done) | omega | (simp only [nx_add, nx_set, nx_kill, nx_mk, nx_emp]; omega) | fail) [g27_s1, q1, q2, qm, s1, s2, both]
    · have qm : ¬ ((i : Int) < if b.length < a.length then (b.length : Int) else a.length) := fun hh => q (min_lt.1 hh)
      have hbo : both a b i = false := by
        unfold both
        by_cases q1 : i < a.length
        · have q2 : ¬ i < b.length := fun hh => q ⟨q1, hh⟩
          simp [q1, q2]
        · simp [q1]
      simp (disch := first | (simp; done) | omega | (simp only [nx_add, nx_set, nx_kill, nx_mk, nx_emp]; omega) | fail) [g27_a1, qm, hbo]
      simp (disch := first | (simp; done) | omega | (simp only [nx_add, nx_set, nx_kill, nx_mk, nx_emp]; omega) | fail) [g27_s2, qm, hbo]
      simp (disch := first | (simp; done) | omega | (simp only [nx_add, nx_set, nx_kill, nx_mk, nx_emp]; omega) | fail) [g27_s1, qm, hbo]
  rintro vs h rfl
  simp (disch := first | (simp; done) | omega | (simp only [nx_add, nx_set, nx_kill, nx_mk, nx_emp]; omega) | fail) [g27_j2]
  have hbo : ∀ h1 : i < a.length, ∀ h2 : i < b.length, both a b i = eqD a[i] b[i] := fun h1 h2 => by simp [both, h1, h2]
  refine ⟨fun hbt => ?_, fun hbf => ?_⟩
  · have q : i < a.length ∧ i < b.length := by
      unfold both at hbt
      by_cases q1 : i < a.length
      · by_cases q2 : i < b.length
        · exact ⟨q1, q2⟩
        · simp [q1, q2] at hbt
      · simp [q1] at hbt
    obtain ⟨q1, q2⟩ := q
    rw [hbo q1 q2] at hbt
    refine ⟨a.length - (i + 1), by omega, i + 1, by omega, by omega, rfl, by simp, fun j hj => ?_⟩
    by_cases hji : j < i
    · exact hall j hji
    · obtain rfl : j = i := by omega
      exact eqD_iff.1 hbt
  · have hat : dAt a b = i := lcp_unique hia hib hall fun h1 h2 e => by rw [hbo h1 h2, eqD_iff.2 e] at hbf; cases hbf
    simp (disch := first | (simp; done) | omega | (simp only [nx_add, nx_set, nx_kill, nx_mk, nx_emp]; omega) | fail) [g27_j10, g27_c9]
    refine ⟨d2I a b i, a.length, ⟨0, by omega, by omega, rfl, rfl, fun j h => by omega⟩, ?_⟩
    rintro m vs h ⟨t, hta, htb, rfl, rfl, hall2⟩
    simp (disch := first | (simp; done) | omega | (simp only [nx_add, nx_set, nx_kill, nx_mk, nx_emp]; omega) | fail) [g27_l6]
    refine ⟨fun vs h => vs = [cmds a, cmds b, I i, I t, .bool (both (a.drop i).reverse (b.drop i).reverse t)], ?_, ?_⟩
    · by_cases q : t < a.length - i ∧ t < b.length - i
      · obtain ⟨q1, q2⟩ := q
        have e1 : ((a.length : Int) - 1 - t) = ((a.length - 1 - t : Nat) : Int) := by omega
        have e2 : ((b.length : Int) - 1 - t) = ((b.length - 1 - t : Nat) : Int) := by omega
        have s1 : SmC (a[a.length - 1 - t]'(by omega)) := ha2.2 _ (List.getElem_mem _)
        have s2 : SmC (b[b.length - 1 - t]'(by omega)) := hb2.2 _ (List.getElem_mem _)
        have qm : ((t : Int) < (if b.length < a.length then (b.length : Int) else a.length) - i) := by split <;> omega
        have w1 : a.length - 1 - t < a.length := by omega
        have w2 : b.length - 1 - t < b.length := by omega
        have hbb : both (a.drop i).reverse (b.drop i).reverse t = eqD (a[a.length - 1 - t]'(by omega)) (b[b.length - 1 - t]'(by omega)) := by
          unfold both
          have z1 : t < (a.drop i).reverse.length := by simp; omega
          have z2 : t < (b.drop i).reverse.length := by simp; omega
          rw [List.getElem?_eq_getElem z1, List.getElem?_eq_getElem z2]
          simp
          congr 2 <;> congr 1 <;> omega
        rw [hbb]
        simp (disch := first | (simp; done) | omega | (simp only [nx_add, nx_set, nx_kill, nx_mk, nx_emp]; omega) | fail) [g27_a4, qm, s1, s2, w1, w2, e1, e2]
        simp (disch := first | (simp; done) | omega | (simp only [nx_add, nx_set, nx_kill, nx_mk, nx_emp]; omega) | fail) [g27_s5, qm, s1, s2, w1, w2, e1, e2]
        simp (disch := first | (simp; done) | omega | (simp only [nx_add, nx_set, nx_kill, nx_mk, nx_emp]; omega) | fail) [g27_s4, qm, s1, s2, w1, w2, e1, e2]
        simp (disch := first | (simp; done) | omega | (simp only [nx_add, nx_set, nx_kill, nx_mk, nx_emp]; omega) | fail) [g27_s3, qm, s1, s2, w1, w2, e1, e2]
      · have qm : ¬ ((t : Int) < (if b.length < a.length then (b.length : Int) else a.length) - i) := by split <;> omega
        have hbb : both (a.drop i).reverse (b.drop i).reverse t = false := by
          unfold both
          by_cases z1 : t < (a.drop i).reverse.length
          · have z2 : ¬ t < (b.drop i).reverse.length := by simp at z1 ⊢; omega
            rw [List.getElem?_eq_getElem z1, List.getElem?_eq_none (by omega)]
          · rw [List.getElem?_eq_none (by omega)]
        simp (disch := first | (simp; done) | omega | (simp only [nx_add, nx_set, nx_kill, nx_mk, nx_emp]; omega) | fail) [g27_a4, qm, hbb]
        simp (disch := first | (simp; done) | omega | (simp only [nx_add, nx_set, nx_kill, nx_mk, nx_emp]; omega) | fail) [g27_s5, qm, hbb]
        simp (disch := first | (simp; done) | omega | (simp only [nx_add, nx_set, nx_kill, nx_mk, nx_emp]; omega) | fail) [g27_s4, qm, hbb]
        simp (disch := first | (simp; done) | omega | (simp only [nx_add, nx_set, nx_kill, nx_mk, nx_emp]; omega) | fail) [g27_s3, qm, hbb]
    · rintro vs h rfl
      simp (disch := first | (simp; done) | omega | (simp only [nx_add, nx_set, nx_kill, nx_mk, nx_emp]; omega) | fail) [g27_j5]
      have hgen : ∀ (h1 : t < a.length - i) (h2 : t < b.length - i), both (a.drop i).reverse (b.drop i).reverse t = eqD (a[a.length - 1 - t]'(by omega)) (b[b.length - 1 - t]'(by omega)) := fun h1 h2 => by
        unfold both
        have z1 : t < (a.drop i).reverse.length := by simp; omega
        have z2 : t < (b.drop i).reverse.length := by simp; omega
        rw [List.getElem?_eq_getElem z1, List.getElem?_eq_getElem z2]
        simp
        congr 2 <;> congr 1 <;> omega
      refine ⟨fun hbt => ?_, fun hbf2 => ?_⟩
      · have q : t < a.length - i ∧ t < b.length - i := by
          unfold both at hbt
          by_cases q1 : t < (a.drop i).reverse.length
          · by_cases q2 : t < (b.drop i).reverse.length
            · simp at q1 q2; omega
            · rw [List.getElem?_eq_getElem q1, List.getElem?_eq_none (by omega)] at hbt; cases hbt
          · rw [List.getElem?_eq_none (by omega)] at hbt; cases hbt
        rw [hgen q.1 q.2] at hbt
        refine ⟨a.length - (t + 1), by omega, t + 1, by omega, by omega, rfl, by simp, fun j hj => ?_⟩
        by_cases hji : j < t
        · exact hall2 j hji
        · obtain rfl : j = t := by omega
          exact eqD_iff.1 hbt
      · have htl : dTl a b = t := by
          unfold dTl
          rw [hat]
          refine lcp_unique (by simp; omega) (by simp; omega) (fun j hj => ?_) (fun h1 h2 e => ?_)
          · have := hall2 j hj
            simp
            have z1 : i + (a.length - i - 1 - j) = a.length - 1 - j := by omega
            have z2 : i + (b.length - i - 1 - j) = b.length - 1 - j := by omega
            simp only [z1, z2]; exact this
          · simp at h1 h2
            rw [hgen (by omega) (by omega)] at hbf2
            simp at e
            have z1 : i + (a.length - i - 1 - t) = a.length - 1 - t := by omega
            have z2 : i + (b.length - i - 1 - t) = b.length - 1 - t := by omega
            simp only [z1, z2] at e
            rw [eqD_iff.2 e] at hbf2; cases hbf2
        have hLL : Lite (dL a b) := ⟨by unfold dL; simp; omega, fun c hc => hb.2 c (List.mem_of_mem_drop (List.mem_of_mem_take hc))⟩
        have hsl : ∀ h, kSl h 22 (cmds b) (some (I i)) (some (I ((b.length : Int) - t))) none = some (cmds (dL a b), h) := fun h => by
          have := kSl_cmds h b i (b.length - t) (by omega) (by omega)
          rw [show ((b.length - t : Nat) : Int) = (b.length : Int) - t by omega] at this
          rw [this]; unfold dL; rw [htl, hat]
        simp (disch := first | (simp; done) | omega | (simp only [nx_add, nx_set, nx_kill, nx_mk, nx_emp]; omega) | fail) [g27_j8, hsl, hLL]
        simp (disch := first | (simp; done) | omega | (simp only [nx_add, nx_set, nx_kill, nx_mk, nx_emp]; omega) | fail) [g27_c7, hsl, hLL]
        simp (disch := first | (simp; done) | omega | (simp only [nx_add, nx_set, nx_kill, nx_mk, nx_emp]; omega) | fail) [g27_s6, hsl, hLL]
        have hres : dRes a b = .psl ([()].map fun _ => [I (i : Int), I ((a.length : Int) - t - i), cmds (dL a b)]) := by
          unfold dRes
          rw [if_neg (by simpa using hne), htl, hat, show ((a.length - t - i : Nat) : Int) = (a.length : Int) - t - i by omega]; rfl
        rw [hres]
        refine frz_rows (l := [()]) (z := 3) (fun _ => rfl) (by simp) (fun _ _ c hc => ?_)
        simp at hc
        rcases hc with rfl | rfl | rfl
        · exact .int _ _
        · exact .int _ _
        · exact cmds_pl _ _
def e27 : QE Try.prog := .pure 27 (fun (((a, b)) : List Cmd × List Cmd) => [cmds a, cmds b]) (fun (((a, b)) : List Cmd × List Cmd) => Lite a ∧ Lite b) (fun (((a, b)) : List Cmd × List Cmd) => dRes a b) (fun ⟨a, b⟩ hx => diff_c a b hx)
@[simp ↓] theorem e27_h (l : List (QE Try.prog)) (args : List AV) (h : AH) (Q : AV → AH → Prop) : tb (e27 :: l) 27 args h Q = e27.q args h Q := tb_here e27 l 27 args h Q rfl
@[simp ↓] theorem e27_t (l : List (QE Try.prog)) (f : Nat) (args : List AV) (h : AH) (Q : AV → AH → Prop) (hf : 27 ≠ f) : tb (e27 :: l) f args h Q = tb l f args h Q := tb_there e27 l f args h Q hf
@[simp ↓] theorem e27_q (a : List Cmd) (b : List Cmd) (h : AH) (Q : AV → AH → Prop) : e27.q [cmds a, cmds b] h Q = ((Lite a ∧ Lite b) ∧ Q (dRes a b) h) := (QE.pure_q (x := (a, b)) (by rintro ⟨_, _⟩ h; simp at h; simp [h]) h Q)
end Go.Proofs.Ytpnekpbehcbmkaa
