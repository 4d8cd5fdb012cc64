/- What the difference of two lists of commands is in the program. The iterator over a slice from behind keeps its contract. What the extents of a list of commands are in the program. -/
import Derived.Test.YtpnekpbehcbmkaaD7R
import Derived.RangeFuncBox
import Derived.RangeFuncLeaves
import Derived.Shelf.Abstract
import Derived.WalkKit
import Derived.OwnWalkIn
import Derived.TacticsInMore
import Derived.LoopNIn
import Derived.LoopIn
import Derived.Test.YtpnekpbehcbmkaaD7FnsA
import Derived.Test.YtpnekpbehcbmkaaD7FnsB
set_option linter.unusedSimpArgs false
set_option linter.unusedVariables false
set_option linter.unnecessarySimpa false
noncomputable section
namespace Go.Proofs.Ytpnekpbehcbmkaa
open Go.Eng
def lcp : List Cmd → List Cmd → Nat
  | x :: xs, y :: ys => if eqD x y then lcp xs ys + 1 else 0
  | _, _ => 0
theorem lcp_unique : ∀ {a b : List Cmd} {i : Nat} (ha : i ≤ a.length) (hb : i ≤ b.length) (_ : ∀ j (h : j < i), a[j]'(by omega) = b[j]'(by omega)) (_ : ∀ (h1 : i < a.length) (h2 : i < b.length), a[i] ≠ b[i]), lcp a b = i
  | [], b, i, ha, _, _, _ => by simp at ha; subst ha; simp [lcp]
  | x :: xs, [], i, _, hb, _, _ => by simp at hb; subst hb; simp [lcp]
  | x :: xs, y :: ys, 0, _, _, _, hne => by
    have := hne (by simp) (by simp)
    simp at this
    simp [lcp, eqD, this]
  | x :: xs, y :: ys, i + 1, ha, hb, heq, hne => by
    have h0 := heq 0 (by omega)
    simp at h0
    have := lcp_unique (a := xs) (b := ys) (i := i) (by simpa using ha) (by simpa using hb) (fun j h => by simpa using heq (j + 1) (by omega)) (fun h1 h2 e => hne (by simpa using h1) (by simpa using h2) (by simpa using e))
    simp [lcp, eqD, h0, this]
theorem lcp_le : ∀ (a b : List Cmd), lcp a b ≤ a.length ∧ lcp a b ≤ b.length
  | [], b => by simp [lcp]
  | x :: xs, [] => by simp [lcp]
  | x :: xs, y :: ys => by
    have := lcp_le xs ys
    unfold lcp
    split <;> simp <;> omega
def dAt (a b : List Cmd) : Nat := lcp a b
def dTl (a b : List Cmd) : Nat := lcp (a.drop (dAt a b)).reverse (b.drop (dAt a b)).reverse
theorem d_le (a b : List Cmd) : dAt a b + dTl a b ≤ a.length ∧ dAt a b + dTl a b ≤ b.length := by
  have h1 := lcp_le a b
  have h2 := lcp_le (a.drop (dAt a b)).reverse (b.drop (dAt a b)).reverse
  simp at h2
  unfold dTl
  unfold dAt at *
  omega
def dL (a b : List Cmd) : List Cmd := (b.drop (dAt a b)).take (b.length - dTl a b - dAt a b)
def dRes (a b : List Cmd) : AV := if eqD a b then .nilsl else .psl [[I (dAt a b), I ((a.length - dTl a b - dAt a b : Nat) : Int), cmds (dL a b)]]
@[simp] theorem kMnmx_min (h : AH) (a b : Int) : kMnmx h false (.int .i64 a) (.int .i64 b) = some (.int .i64 (if b < a then b else a), h) := Eq.trans rfl rfl
theorem kSl_cmds (h : AH) (l : List Cmd) (i j : Nat) (h1 : i ≤ j) (h2 : j ≤ l.length) : kSl h 22 (cmds l) (some (I i)) (some (I j)) none = some (cmds ((l.drop i).take (j - i)), h) := by
  have hall : (l.map Cmd.enc).all (fun x => x.length == 22) = true := by simp
  have q1 : (i : Int) ≤ j := by omega
  have q2 : (j : Int) ≤ l.length := by omega
  simp [kSl, aslice, asl, alen, abd, aidx, cmds, q1, q2]
@[simp] theorem stow_cmds (l : List Cmd) : stow (cmds l) = true := by unfold cmds; exact stow_psl _
@[simp] theorem cells_cmds (l : List Cmd) : (cmds l).cells = [cmds l] := Eq.trans rfl rfl
@[simp] theorem one_cmds (l : List Cmd) : (cmds l).one = true := Eq.trans rfl rfl
def d1I (a b : List Cmd) (m : Nat) (vs : List AV) (h : AH) : Prop := ∃ i : Nat, ∃ (ha : i ≤ a.length) (hb : i ≤ b.length), m = a.length - i ∧ vs = [cmds a, cmds b, I i] ∧ ∀ j (h : j < i), a[j]'(by omega) = b[j]'(by omega)
def both (a b : List Cmd) (i : Nat) : Bool := match a[i]?, b[i]? with | some x, some y => eqD x y | _, _ => false
theorem min_lt {i m n : Nat} : ((i : Int) < if n < m then (n : Int) else m) ↔ i < m ∧ i < n := by split <;> omega
def d2I (a b : List Cmd) (i m : Nat) (vs : List AV) (h : AH) : Prop := ∃ t : Nat, ∃ (ha : t ≤ a.length - i) (hb : t ≤ b.length - i), m = a.length - t ∧ vs = [cmds a, cmds b, I i, I t] ∧ ∀ j (h : j < t), a[a.length - 1 - j]'(by omega) = b[b.length - 1 - j]'(by omega)
theorem diff_c (a b : List Cmd) (hx : Lite a ∧ Lite b) : Pure Try.prog 27 [cmds a, cmds b] (dRes a b) := by
  refine .of (by simp [cmds_cl]) (C27 (tb_ok [e58, e11, e59]) ?_)
  obtain ⟨ha, hb⟩ := hx
  have ha1 := ha.1; have hb1 := hb.1
  have ha2 := ha.sm; have hb2 := hb.sm
  simp (disch := first | (simp; done) | omega | (simp only [nx_add, nx_set, nx_kill, nx_mk, nx_emp]; omega) | fail) [g27, ha2, hb2]
  refine ⟨fun he => by simp [dRes, he]; exact .nilsl0, fun hne => ?_⟩
  refine ⟨d1I a b, a.length, ⟨0, by omega, by omega, rfl, rfl, fun j h => by omega⟩, ?_⟩
  rintro m vs h ⟨i, hia, hib, rfl, rfl, hall⟩
  simp (disch := first | (simp; done) | omega | (simp only [nx_add, nx_set, nx_kill, nx_mk, nx_emp]; omega) | fail) [g27_l3]
  refine ⟨fun vs h => vs = [cmds a, cmds b, I i, .bool (both a b i)], ?_, ?_⟩
  · by_cases q : i < a.length ∧ i < b.length
    · obtain ⟨q1, q2⟩ := q
      have s1 : SmC a[i] := ha2.2 _ (List.getElem_mem q1)
      have s2 : SmC b[i] := hb2.2 _ (List.getElem_mem q2)
      have qm : ((i : Int) < if b.length < a.length then (b.length : Int) else a.length) := min_lt.2 ⟨q1, q2⟩
      simp (disch := first | (simp; done) | omega | (simp only [nx_add, nx_set, nx_kill, nx_mk, nx_emp]; omega) | fail) [g27_a1, q1, q2, qm, s1, s2, both]
      simp (disch := first | (simp; done) | omega | (simp only [nx_add, nx_set, nx_kill, nx_mk, nx_emp]; omega) | fail) [g27_s2, q1, q2, qm, s1, s2, both]
      simp (disch := first | (simp; done) | omega | (simp only [nx_add, nx_set, nx_kill, nx_mk, nx_emp]; omega) | fail) [g27_s1, q1, q2, qm, s1, s2, both]
    · have qm : ¬ ((i : Int) < if b.length < a.length then (b.length : Int) else a.length) := fun hh => q (min_lt.1 hh)
      have hbo : both a b i = false := by
        unfold both
        by_cases q1 : i < a.length
        · have q2 : ¬ i < b.length := fun hh => q ⟨q1, hh⟩
          simp [q1, q2]
        · simp [q1]
      simp (disch := first | (simp; done) | omega | (simp only [nx_add, nx_set, nx_kill, nx_mk, nx_emp]; omega) | fail) [g27_a1, qm, hbo]
      simp (disch := first | (simp; done) | omega | (simp only [nx_add, nx_set, nx_kill, nx_mk, nx_emp]; omega) | fail) [g27_s2, qm, hbo]
      simp (disch := first | (simp; done) | omega | (simp only [nx_add, nx_set, nx_kill, nx_mk, nx_emp]; omega) | fail) [g27_s1, qm, hbo]
  rintro vs h rfl
  simp (disch := first | (simp; done) | omega | (simp only [nx_add, nx_set, nx_kill, nx_mk, nx_emp]; omega) | fail) [g27_j2]
  have hbo : ∀ h1 : i < a.length, ∀ h2 : i < b.length, both a b i = eqD a[i] b[i] := fun h1 h2 => by simp [both, h1, h2]
  refine ⟨fun hbt => ?_, fun hbf => ?_⟩
  · have q : i < a.length ∧ i < b.length := by
      unfold both at hbt
      by_cases q1 : i < a.length
      · by_cases q2 : i < b.length
        · exact ⟨q1, q2⟩
        · simp [q1, q2] at hbt
      · simp [q1] at hbt
    obtain ⟨q1, q2⟩ := q
    rw [hbo q1 q2] at hbt
    refine ⟨a.length - (i + 1), by omega, i + 1, by omega, by omega, rfl, by simp, fun j hj => ?_⟩
    by_cases hji : j < i
    · exact hall j hji
    · obtain rfl : j = i := by omega
      exact eqD_iff.1 hbt
  · have hat : dAt a b = i := lcp_unique hia hib hall fun h1 h2 e => by rw [hbo h1 h2, eqD_iff.2 e] at hbf; cases hbf
    simp (disch := first | (simp; done) | omega | (simp only [nx_add, nx_set, nx_kill, nx_mk, nx_emp]; omega) | fail) [g27_j10, g27_c9]
    refine ⟨d2I a b i, a.length, ⟨0, by omega, by omega, rfl, rfl, fun j h => by omega⟩, ?_⟩
    rintro m vs h ⟨t, hta, htb, rfl, rfl, hall2⟩
    simp (disch := first | (simp; done) | omega | (simp only [nx_add, nx_set, nx_kill, nx_mk, nx_emp]; omega) | fail) [g27_l6]
    refine ⟨fun vs h => vs = [cmds a, cmds b, I i, I t, .bool (both (a.drop i).reverse (b.drop i).reverse t)], ?_, ?_⟩
    · by_cases q : t < a.length - i ∧ t < b.length - i
      · obtain ⟨q1, q2⟩ := q
        have e1 : ((a.length : Int) - 1 - t) = ((a.length - 1 - t : Nat) : Int) := by omega
        have e2 : ((b.length : Int) - 1 - t) = ((b.length - 1 - t : Nat) : Int) := by omega
        have s1 : SmC (a[a.length - 1 - t]'(by omega)) := ha2.2 _ (List.getElem_mem _)
        have s2 : SmC (b[b.length - 1 - t]'(by omega)) := hb2.2 _ (List.getElem_mem _)
        have qm : ((t : Int) < (if b.length < a.length then (b.length : Int) else a.length) - i) := by split <;> omega
        have w1 : a.length - 1 - t < a.length := by omega
        have w2 : b.length - 1 - t < b.length := by omega
        have hbb : both (a.drop i).reverse (b.drop i).reverse t = eqD (a[a.length - 1 - t]'(by omega)) (b[b.length - 1 - t]'(by omega)) := by
          unfold both
          have z1 : t < (a.drop i).reverse.length := by simp; omega
          have z2 : t < (b.drop i).reverse.length := by simp; omega
          rw [List.getElem?_eq_getElem z1, List.getElem?_eq_getElem z2]
          simp
          congr 2 <;> congr 1 <;> omega
        rw [hbb]
        simp (disch := first | (simp; done) | omega | (simp only [nx_add, nx_set, nx_kill, nx_mk, nx_emp]; omega) | fail) [g27_a4, qm, s1, s2, w1, w2, e1, e2]
        simp (disch := first | (simp; done) | omega | (simp only [nx_add, nx_set, nx_kill, nx_mk, nx_emp]; omega) | fail) [g27_s5, qm, s1, s2, w1, w2, e1, e2]
        simp (disch := first | (simp; done) | omega | (simp only [nx_add, nx_set, nx_kill, nx_mk, nx_emp]; omega) | fail) [g27_s4, qm, s1, s2, w1, w2, e1, e2]
        simp (disch := first | (simp; done) | omega | (simp only [nx_add, nx_set, nx_kill, nx_mk, nx_emp]; omega) | fail) [g27_s3, qm, s1, s2, w1, w2, e1, e2]
      · have qm : ¬ ((t : Int) < (if b.length < a.length then (b.length : Int) else a.length) - i) := by split <;> omega
        have hbb : both (a.drop i).reverse (b.drop i).reverse t = false := by
          unfold both
          by_cases z1 : t < (a.drop i).reverse.length
          · have z2 : ¬ t < (b.drop i).reverse.length := by simp at z1 ⊢; omega
            rw [List.getElem?_eq_getElem z1, List.getElem?_eq_none (by omega)]
          · rw [List.getElem?_eq_none (by omega)]
        simp (disch := first | (simp; done) | omega | (simp only [nx_add, nx_set, nx_kill, nx_mk, nx_emp]; omega) | fail) [g27_a4, qm, hbb]
        simp (disch := first | (simp; done) | omega | (simp only [nx_add, nx_set, nx_kill, nx_mk, nx_emp]; omega) | fail) [g27_s5, qm, hbb]
        simp (disch := first | (simp; done) | omega | (simp only [nx_add, nx_set, nx_kill, nx_mk, nx_emp]; omega) | fail) [g27_s4, qm, hbb]
        simp (disch := first | (simp; done) | omega | (simp only [nx_add, nx_set, nx_kill, nx_mk, nx_emp]; omega) | fail) [g27_s3, qm, hbb]
    · rintro vs h rfl
      simp (disch := first | (simp; done) | omega | (simp only [nx_add, nx_set, nx_kill, nx_mk, nx_emp]; omega) | fail) [g27_j5]
      have hgen : ∀ (h1 : t < a.length - i) (h2 : t < b.length - i), both (a.drop i).reverse (b.drop i).reverse t = eqD (a[a.length - 1 - t]'(by omega)) (b[b.length - 1 - t]'(by omega)) := fun h1 h2 => by
        unfold both
        have z1 : t < (a.drop i).reverse.length := by simp; omega
        have z2 : t < (b.drop i).reverse.length := by simp; omega
        rw [List.getElem?_eq_getElem z1, List.getElem?_eq_getElem z2]
        simp
        congr 2 <;> congr 1 <;> omega
      refine ⟨fun hbt => ?_, fun hbf2 => ?_⟩
      · have q : t < a.length - i ∧ t < b.length - i := by
          unfold both at hbt
          by_cases q1 : t < (a.drop i).reverse.length
          · by_cases q2 : t < (b.drop i).reverse.length
            · simp at q1 q2; omega
            · rw [List.getElem?_eq_getElem q1, List.getElem?_eq_none (by omega)] at hbt; cases hbt
          · rw [List.getElem?_eq_none (by omega)] at hbt; cases hbt
        rw [hgen q.1 q.2] at hbt
        refine ⟨a.length - (t + 1), by omega, t + 1, by omega, by omega, rfl, by simp, fun j hj => ?_⟩
        by_cases hji : j < t
        · exact hall2 j hji
        · obtain rfl : j = t := by omega
          exact eqD_iff.1 hbt
      · have htl : dTl a b = t := by
          unfold dTl
          rw [hat]
          refine lcp_unique (by simp; omega) (by simp; omega) (fun j hj => ?_) (fun h1 h2 e => ?_)
          · have := hall2 j hj
            simp
            have z1 : i + (a.length - i - 1 - j) = a.length - 1 - j := by omega
            have z2 : i + (b.length - i - 1 - j) = b.length - 1 - j := by omega
            simp only [z1, z2]; exact this
          · simp at h1 h2
            rw [hgen (by omega) (by omega)] at hbf2
            simp at e
            have z1 : i + (a.length - i - 1 - t) = a.length - 1 - t := by omega
            have z2 : i + (b.length - i - 1 - t) = b.length - 1 - t := by omega
            simp only [z1, z2] at e
            rw [eqD_iff.2 e] at hbf2; cases hbf2
        have hLL : Lite (dL a b) := ⟨by unfold dL; simp; omega, fun c hc => hb.2 c (List.mem_of_mem_drop (List.mem_of_mem_take hc))⟩
        have hsl : ∀ h, kSl h 22 (cmds b) (some (I i)) (some (I ((b.length : Int) - t))) none = some (cmds (dL a b), h) := fun h => by
          have := kSl_cmds h b i (b.length - t) (by omega) (by omega)
          rw [show ((b.length - t : Nat) : Int) = (b.length : Int) - t by omega] at this
          rw [this]; unfold dL; rw [htl, hat]
        simp (disch := first | (simp; done) | omega | (simp only [nx_add, nx_set, nx_kill, nx_mk, nx_emp]; omega) | fail) [g27_j8, hsl, hLL]
        simp (disch := first | (simp; done) | omega | (simp only [nx_add, nx_set, nx_kill, nx_mk, nx_emp]; omega) | fail) [g27_c7, hsl, hLL]
        simp (disch := first | (simp; done) | omega | (simp only [nx_add, nx_set, nx_kill, nx_mk, nx_emp]; omega) | fail) [g27_s6, hsl, hLL]
        have hres : dRes a b = .psl ([()].map fun _ => [I (i : Int), I ((a.length : Int) - t - i), cmds (dL a b)]) := by
          unfold dRes
          rw [if_neg (by simpa using hne), htl, hat, show ((a.length - t - i : Nat) : Int) = (a.length : Int) - t - i by omega]; rfl
        rw [hres]
        refine frz_rows (l := [()]) (z := 3) (fun _ => rfl) (by simp) (fun _ _ c hc => ?_)
        simp at hc
        rcases hc with rfl | rfl | rfl
        · exact .int _ _
        · exact .int _ _
        · exact cmds_pl _ _
def e27 : QE Try.prog := .pure 27 (fun (((a, b)) : List Cmd × List Cmd) => [cmds a, cmds b]) (fun (((a, b)) : List Cmd × List Cmd) => Lite a ∧ Lite b) (fun (((a, b)) : List Cmd × List Cmd) => dRes a b) (fun ⟨a, b⟩ hx => diff_c a b hx)
@[simp ↓] theorem e27_h (l : List (QE Try.prog)) (args : List AV) (h : AH) (Q : AV → AH → Prop) : tb (e27 :: l) 27 args h Q = e27.q args h Q := tb_here e27 l 27 args h Q rfl
@[simp ↓] theorem e27_t (l : List (QE Try.prog)) (f : Nat) (args : List AV) (h : AH) (Q : AV → AH → Prop) (hf : 27 ≠ f) : tb (e27 :: l) f args h Q = tb l f args h Q := tb_there e27 l f args h Q hf
@[simp ↓] theorem e27_q (a : List Cmd) (b : List Cmd) (h : AH) (Q : AV → AH → Prop) : e27.q [cmds a, cmds b] h Q = ((Lite a ∧ Lite b) ∧ Q (dRes a b) h) := (QE.pure_q (x := (a, b)) (by rintro ⟨_, _⟩ h; simp at h; simp [h]) h Q)
end Go.Proofs.Ytpnekpbehcbmkaa
end
noncomputable section
namespace Go.Proofs.Ytpnekpbehcbmkaa
open Go.RowKit Go.Shelf Go.Eng
attribute [local go_sem] Oper.semAt_some
set_option maxRecDepth 100000 in
set_option maxHeartbeats 2000000 in
theorem back85 : BackOk Try.prog 85 := by
  refine ⟨⟨_, Try.func85, rfl, by decide⟩, ?_⟩
  intro l bx len J Jx W hlen hmem hY h0
  refine callsIn_wide.1 (?_ : CallsIn Fence.wide 1 Try.prog 85 _ W _)
  refine callsIn_of_wp Try.func85 rfl trivial ?_ rfl
  simp only [Try.ntmps85, List.size_toArray, List.length_cons, List.length_nil, Nat.reduceAdd, Nat.reduceSub, Array.replicate_succ, Array.replicate_zero, List.push_toArray, List.append_toArray, List.nil_append, List.cons_append]
  have hlen' : len ≤ 9223372036854775807 := hlen
  rcases hmem 0 W h0 with ⟨hz, hc⟩ | ⟨b, o, cap, hc, hel⟩
  · subst hz
    gi_wp2
    gi_loopw [3] (fun i wr => i = .int .i64 (-1) ∧ J 0 wr) (fun _ _ => 0)
    case atStart => exact ⟨rfl, h0⟩
    case round =>
      obtain ⟨rfl, hJs⟩ := hrel
      gi_wp2
      go_end0
      exact ⟨⟨_, rfl⟩, .inl hJs⟩
  · gi_wp2
    gi_loopw [3] (fun i wr => ∃ k : Nat, k ≤ len ∧ i = .int .i64 ((len : Int) - 1 - k) ∧ J k wr) (fun i _ => ((intOf i) + 1).toNat)
    case atStart => exact ⟨0, Nat.zero_le _, by simp, h0⟩
    case round =>
      obtain ⟨k, hk, rfl, hJs⟩ := hrel
      by_cases hlt : k < len
      · rcases hmem k wr hJs with ⟨hz, hc2⟩ | ⟨b2, o2, cap2, hc2, hel2⟩
        · omega
        · obtain ⟨v, hv⟩ := hel2 (len - 1 - k) (by omega)
          obtain ⟨fn, tmps, assign, body, hy, hR⟩ := hY k wr b2 o2 cap2 v hlt hJs hc2 hv
          have e1 : ((len - 1 - k : Nat) : Int) = (len : Int) - 1 - k := by omega
          rw [e1] at hy
          gi_wp2
          refine hR.mono ?_
          rintro e W3 (⟨rfl, hJ3⟩ | ⟨rfl, hJx3⟩)
          · gi_wp2
            go_roundw
            case rel => exact ⟨k + 1, by omega, by simp; omega, hJ3⟩
            case measure => simp [intOf]; omega
          · gi_wp2
            refine bodyPost_ret (results_none rfl _ _ _) rfl ?_
            exact ⟨⟨_, rfl⟩, .inr hJx3⟩
      · obtain rfl : k = len := by omega
        gi_wp2
        go_end0
        exact ⟨⟨_, rfl⟩, .inl hJs⟩
end Go.Proofs.Ytpnekpbehcbmkaa
end
noncomputable section
namespace Go.Proofs.Ytpnekpbehcbmkaa
open Go.Eng
def ext1 : List (Option Tf) → Rect → Option Rect
  | [], r => some r
  | none :: st, r => if okR r then ext1 st r else none
  | some t :: st, r => if okR (apl t r) then ext1 st (apl t r) else none
def exts (f t : Nat) : List (Option Tf) → Nat → List Cmd → List Rect → Option (List Rect)
  | _, _, [], out => some out
  | st, i, c :: l, out => if c.kind = 1 then exts f t (none :: st) (i + 1) l out else if c.kind = 2 then exts f t (some c.t :: st) (i + 1) l out else if c.kind = 3 then exts f t st.tail (i + 1) l out
    else if f ≤ i ∧ i < t then (match ext1 st c.r with
      | none => none
      | some r => exts f t st (i + 1) l (if emptyR r then out else out ++ [r]))
    else exts f t st (i + 1) l out
def pe (p : AV) : List AV := [p]
theorem pe_len (p : AV) : (pe p).length = 1 := rfl
/-- all objects but one are as they were -/
def Kp (b : Nat) (h h' : AH) : Prop := h.nx ≤ h'.nx ∧ ∀ id, id < h.nx → id ≠ b → h'.cellsAt id = h.cellsAt id
def PtrOk (h : AH) (io iu : Nat) (p : AV) : Option Tf → Prop
  | none => p = .nilptr
  | some t => ∃ idc c, p = .ptr idc 5 ∧ 2 ≤ idc ∧ idc < h.nx ∧ idc ≠ io ∧ idc ≠ iu ∧ h.cellsAt idc = some (Cmd.enc c) ∧ c.t = t
structure EI (h : AH) (vo vu : AV) (st : List (Option Tf)) (out : List Rect) (io iu : Nat) (ps : List AV) : Prop where
  c0 : h.cellsAt 0 = some [.nilsl]
  c1 : h.cellsAt 1 = some [.bool false]
  nx : 2 ≤ h.nx
  ne : io ≠ iu
  op : (ps = [] ∧ vo = .nilsl ∧ io = 0) ∨ (vo = .rsl io 0 ps.length 1 ∧ 2 ≤ io ∧ Stk 1 pe io h ps)
  pl : ps.length = st.length
  pp : ∀ (k : Nat) (p : AV) (s : Option Tf), ps[k]? = some p → st[k]? = some s → PtrOk h io iu p s
  ou : (out = [] ∧ vu = .nilsl ∧ iu = 1) ∨ (out ≠ [] ∧ vu = .rsl iu 0 out.length 4 ∧ 2 ≤ iu ∧ iu < h.nx ∧ h.cellsAt iu = some ((out.map Rect.enc).flatten))
theorem PtrOk.keep {h h' : AH} {io iu io' iu' : Nat} {p : AV} {s : Option Tf} (hp : PtrOk h io iu p s) {b : Nat} (hk : Kp b h h') (hb : b = io ∨ b = iu ∨ h.nx ≤ b) (h1 : io' = io ∨ h.nx ≤ io') (h2 : iu' = iu ∨ h.nx ≤ iu') : PtrOk h' io' iu' p s := by
  cases s with
  | none => exact hp
  | some t =>
    obtain ⟨idc, c, q1, q2, q3, q4, q5, q6, q7⟩ := hp
    exact ⟨idc, c, q1, q2, Nat.lt_of_lt_of_le q3 hk.1, by omega, by omega, (hk.2 idc q3 (by omega)).trans q6, q7⟩
theorem EI.keep {h h' : AH} {vo vu : AV} {st : List (Option Tf)} {out : List Rect} {io iu : Nat} {ps : List AV} (he : EI h vo vu st out io iu ps) {b : Nat} (hk : Kp b h h') (hb : h.nx ≤ b) : EI h' vo vu st out io iu ps := by
  have hnx := he.nx
  refine ⟨(hk.2 0 (by omega) (by omega)).trans he.c0, (hk.2 1 (by omega) (by omega)).trans he.c1, Nat.le_trans he.nx hk.1, he.ne, ?_, he.pl, fun k p s h1 h2 => (he.pp k p s h1 h2).keep hk (.inr (.inr hb)) (.inl rfl) (.inl rfl), ?_⟩
  · rcases he.op with q | ⟨q1, q2, ⟨q3, cs, q4, q5⟩⟩
    · exact .inl q
    · exact .inr ⟨q1, q2, ⟨Nat.lt_of_lt_of_le q3 hk.1, cs, (hk.2 io q3 (by omega)).trans q4, q5⟩⟩
  · rcases he.ou with q | ⟨q0, q1, q2, q3, q4⟩
    · exact .inl q
    · exact .inr ⟨q0, q1, q2, Nat.lt_of_lt_of_le q3 hk.1, (hk.2 iu q3 (by omega)).trans q4⟩
theorem EI.push {h h' : AH} {vo vu : AV} {st : List (Option Tf)} {out : List Rect} {io iu : Nat} {ps : List AV} (he : EI h vo vu st out io iu ps) {p : AV} {s : Option Tf} {h1 : AH} {b : Nat} (hk : Kp b h h1) (hb : (b = io ∧ 2 ≤ io) ∨ h.nx ≤ b) {nid : Nat} (hn : nid = h1.nx) (hh : h' = h1.add (.cells (bot pe ps ++ [p]))) (hps : PtrOk h' nid iu p s) :
    EI h' (.rsl nid 0 (ps.length + 1) 1) vu (s :: st) out nid iu (p :: ps) := by
  have hnx := he.nx
  have h1nx := hk.1
  have hk2 : ∀ id, id < h.nx → id ≠ b → h'.cellsAt id = h.cellsAt id := fun id q1 q2 => by
    subst hh; rw [cellsAt_add, if_neg (by omega)]; exact hk.2 id q1 q2
  have hk3 : Kp b h h' := ⟨by subst hh; simp; omega, hk2⟩
  have hiu : iu < h.nx := by
    rcases he.ou with ⟨_, _, q⟩ | ⟨_, _, _, q, _⟩ <;> omega
  have hne := he.ne
  refine ⟨(hk2 0 (by omega) (by omega)).trans he.c0, (hk2 1 (by omega) (by omega)).trans he.c1, Nat.le_trans hnx hk3.1, by omega, .inr ⟨rfl, by omega, ?_⟩, by simp [he.pl], ?_, ?_⟩
  · subst hh; exact Stk.push' pe_len hn rfl
  · intro k q t q1 q2
    cases k with
    | zero => simp at q1 q2; subst q1; subst q2; exact hps
    | succ k =>
      simp at q1 q2
      exact (he.pp k q t q1 q2).keep hk3 (by omega) (.inr (by omega)) (.inl rfl)
  · rcases he.ou with q | ⟨q0, q1, q2, q3, q4⟩
    · exact .inl q
    · exact .inr ⟨q0, q1, q2, Nat.lt_of_lt_of_le q3 hk3.1, (hk2 iu q3 (by omega)).trans q4⟩
theorem EI.more {h h' : AH} {vo vu : AV} {st : List (Option Tf)} {out : List Rect} {io iu : Nat} {ps : List AV} (he : EI h vo vu st out io iu ps) {r : Rect} {h1 : AH} {b : Nat} (hk : Kp b h h1) (hb : (b = iu ∧ 2 ≤ iu) ∨ h.nx ≤ b) {nid : Nat} (hn : nid = h1.nx) (hh : h' = h1.add (.cells ((out.map Rect.enc).flatten ++ r.enc))) :
    EI h' vo (.rsl nid 0 (out.length + 1) 4) st (out ++ [r]) io nid ps := by
  have hnx := he.nx
  have h1nx := hk.1
  have hk2 : ∀ id, id < h.nx → id ≠ b → h'.cellsAt id = h.cellsAt id := fun id q1 q2 => by
    subst hh; rw [cellsAt_add, if_neg (by omega)]; exact hk.2 id q1 q2
  have hk3 : Kp b h h' := ⟨by subst hh; simp; omega, hk2⟩
  have hio : io < h.nx := by
    rcases he.op with ⟨_, _, q⟩ | ⟨_, _, q⟩
    · omega
    · exact q.lt
  have hne := he.ne
  refine ⟨(hk2 0 (by omega) (by omega)).trans he.c0, (hk2 1 (by omega) (by omega)).trans he.c1, Nat.le_trans hnx hk3.1, by omega, ?_, he.pl, fun k p s q1 q2 => (he.pp k p s q1 q2).keep hk3 (by omega) (.inl rfl) (.inr (by omega)), .inr ⟨by simp, by simp, by omega, ?_, ?_⟩⟩
  · rcases he.op with q | ⟨q1, q2, ⟨q3, cs, q4, q5⟩⟩
    · exact .inl q
    · exact .inr ⟨q1, q2, ⟨Nat.lt_of_lt_of_le q3 hk3.1, cs, (hk2 io q3 (by omega)).trans q4, q5⟩⟩
  · subst hh; simp; omega
  · subst hh; rw [hn, cellsAt_add, if_pos rfl]; simp
theorem EI.pop {h : AH} {vo vu : AV} {s : Option Tf} {st : List (Option Tf)} {out : List Rect} {io iu : Nat} {p : AV} {ps : List AV} (he : EI h vo vu (s :: st) out io iu (p :: ps)) : EI h (.rsl io 0 ps.length 1) vu st out io iu ps := by
  refine ⟨he.c0, he.c1, he.nx, he.ne, .inr ⟨rfl, ?_⟩, by have := he.pl; simpa using this, fun k q t q1 q2 => he.pp (k + 1) q t (by simpa using q1) (by simpa using q2), he.ou⟩
  rcases he.op with ⟨q, _⟩ | ⟨q1, q2, ⟨q3, cs, q4, q5⟩⟩
  · cases q
  · exact ⟨q2, q3, cs, q4, (stk_top pe_len q5).2⟩
@[simp] theorem cells_nilptr : AV.cells .nilptr = [.nilptr] := Eq.trans rfl rfl
@[simp] theorem cells_ptr (a b : Nat) : AV.cells (.ptr a b) = [.ptr a b] := Eq.trans rfl rfl
@[simp] theorem cells_nilsl : AV.cells .nilsl = [.nilsl] := Eq.trans rfl rfl
@[simp] theorem cells_rsl (a b c d : Nat) : AV.cells (.rsl a b c d) = [.rsl a b c d] := Eq.trans rfl rfl
@[simp] theorem one_rsl (a b c d : Nat) : AV.one (.rsl a b c d) = true := Eq.trans rfl rfl
@[simp] theorem one_nilsl : AV.one .nilsl = true := Eq.trans rfl rfl
def exI (l : List Cmd) (f t : Nat) (R : Option (List Rect)) (m : Nat) (vs : List AV) (h : AH) : Prop := ∃ (i : Nat) (vo vu : AV) (st : List (Option Tf)) (out : List Rect) (io iu : Nat) (ps : List AV) (g : Tf) (gr : List Tf), i ≤ l.length ∧ m = l.length - i ∧ vs = [I f, I t, .ptr 0 0, .ptr 1 0, vo, vu, cmds l, I l.length, I i] ∧
  EI h vo vu st out io iu ps ∧ vrun (g :: gr) (l.drop i) = 0 ∧ gr.length = st.length ∧ exts f t st i (l.drop i) out = R ∧ out.length ≤ i ∧ st.length ≤ i
def exM (l : List Cmd) (f t i : Nat) (R : Option (List Rect)) (c : Cmd) (st : List (Option Tf)) (x : AX) (vs : List AV) (h : AH) : Prop :=
  (x = .nrm ∧ ∃ vo vu st' out io iu ps, vs = [I f, I t, .ptr 0 0, .ptr 1 0, vo, vu, cmds l, I l.length, I i] ∧ EI h vo vu st' out io iu ps ∧ st' = (if c.kind = 1 then none :: st else if c.kind = 2 then some c.t :: st else if c.kind = 3 then st.tail else st) ∧ exts f t st' (i + 1) (l.drop (i + 1)) out = R ∧ out.length ≤ i + 1) ∨
  (x = .ret ∧ ∃ vo vu, vs = [I f, I t, .ptr 0 0, .ptr 1 0, vo, vu, cmds l, I l.length, I i] ∧ h.cellsAt 0 = some [.nilsl] ∧ h.cellsAt 1 = some [.bool false] ∧ R = none)
def exR (R : Option (List Rect)) (v : AV) (h : AH) : Prop :=
  match R with
  | none => v = .tup [.nilsl, .bool false]
  | some [] => v = .tup [.nilsl, .bool true]
  | some (r :: o) => ∃ id, v = .tup [.rsl id 0 (o.length + 1) 4, .bool true] ∧ h.cellsAt id = some (((r :: o).map Rect.enc).flatten)
def e75 : QE Try.prog := ⟨75, fun args h Q => ∃ v, args = [v] ∧ stow v = true ∧ v.cells = [v] ∧ Q (.func (.func 85) [] [.ptr h.nx 0]) (h.add (.cells [v])), fun args h Q ⟨v, h1, h2, h3, h4⟩ => by
  subst h1
  refine ⟨_, _, ?_, h4⟩
  refine C75 (tb_ok []) ?_
  have : kBox h v = some (.ptr h.nx 0, h.add (.cells v.cells)) := by simp [kBox, h2]
  simp [g75, this, h3]⟩
@[simp ↓] theorem e75_h (tl : List (QE Try.prog)) (v : AV) (h : AH) (Q : AV → AH → Prop) (hv : stow v = true) (hc : v.cells = [v]) : tb (e75 :: tl) 75 [v] h Q = Q (.func (.func 85) [] [.ptr h.nx 0]) (h.add (.cells [v])) := by
  rw [tb_here e75 tl 75 _ _ _ rfl]
  exact propext ⟨fun ⟨v', h1, _, _, h4⟩ => by simp at h1; subst h1; exact h4, fun h4 => ⟨v, rfl, hv, hc, h4⟩⟩
@[simp ↓] theorem e75_t (tl : List (QE Try.prog)) (f : Nat) (args : List AV) (h : AH) (Q : AV → AH → Prop) (hf : 75 ≠ f) : tb (e75 :: tl) f args h Q = tb tl f args h Q := tb_there e75 tl f args h Q hf
theorem bot_pe (ps : List AV) : bot pe ps = ps.reverse := by
  unfold bot
  induction ps.reverse with
  | nil => rfl
  | cons a l ih => simp [pe]; simpa [pe] using ih
def rgR (h1 : AH) (vo : AV) (st : List (Option Tf)) (r : Rect) (k : Nat) (h2 : AH) : Prop := ∃ q : Rect, Kp h1.nx h1 h2 ∧ h1.nx + 2 ≤ h2.nx ∧ h2.cellsAt h1.nx = some q.enc ∧ h2.cellsAt (h1.nx + 1) = some [vo] ∧ ext1 (st.drop k) q = ext1 st r
theorem extents_e (l : List Cmd) (f t : Nat) (hl : SmL l) (hv : validate l = 0) (hf : f ≤ 100000) (ht : t ≤ 100000) : CallsA Try.prog 54 [cmds l, I f, I t] emp (exR (exts f t [] 0 l [])) := by
  refine C54 (tb_ok [e36, e75, e76, e77]) back85 ?_
  have hlen : l.length ≤ 20000 := by
    unfold validate at hv
    split at hv
    · cases hv
    · omega
  have hv2 : vrun [tf1] l = 0 := by unfold validate at hv; rwa [if_neg (by omega)] at hv
  simp (disch := first | (simp; done) | omega | (simp only [nx_add, nx_set, nx_kill, nx_mk, nx_emp]; omega) | fail) [g54]
  refine ⟨exI l f t (exts f t [] 0 l []), l.length, ⟨0, .nilsl, .nilsl, [], [], 0, 1, [], tf1, [], by omega, rfl, rfl, ⟨by simp, by simp, by simp, by omega, .inl ⟨rfl, rfl, rfl⟩, rfl, fun k p s h1 => by simp at h1, .inl ⟨rfl, rfl, rfl⟩⟩, hv2, rfl, rfl, by simp, by simp⟩, ?_⟩
  generalize exts f t [] 0 l [] = R
  rintro m vs h ⟨i, vo, vu, st, out, io, iu, ps, g, gr, hi, rfl, rfl, he, hrun, hgl, hex, hol, hsl⟩
  by_cases hlt : i < l.length
  · have hd : l.drop i = l[i] :: l.drop (i + 1) := List.drop_eq_getElem_cons hlt
    rw [hd] at hrun hex
    obtain ⟨c, hc⟩ : ∃ c, c = l[i] := ⟨_, rfl⟩
    rw [← hc] at hrun hex
    obtain ⟨g', gr', hrun', hcase, hnear, hrect⟩ := step_ok hrun
    simp (disch := first | (simp; done) | omega | (simp only [nx_add, nx_set, nx_kill, nx_mk, nx_emp]; omega) | fail) [g54_l10, hlt, ← hc]
    refine ⟨exM l f t i R c st, ?_, ?_⟩
    · simp (disch := first | (simp; done) | omega | (simp only [nx_add, nx_set, nx_kill, nx_mk, nx_emp]; omega) | fail) [g54_a8, hlt, ← hc]
      have hnx := he.nx
      have n1 : ¬ h.nx + 1 = h.nx := by omega
      refine ⟨fun k1 => ?_, fun k1 => ?_⟩
      · have hgo : exts f t (none :: st) (i + 1) (l.drop (i + 1)) out = R := by rw [← hex]; simp [exts, k1]
        have hs : (none :: st) = (if c.kind = 1 then none :: st else if c.kind = 2 then some c.t :: st else if c.kind = 3 then st.tail else st) := by rw [if_pos k1]
        rcases he.op with ⟨rfl, rfl, rfl⟩ | ⟨rfl, hio2, ⟨hio, cs, hcs, hcut⟩⟩
        · simp (disch := first | (simp; done) | omega | (simp only [nx_add, nx_set, nx_kill, nx_mk, nx_emp]; omega) | fail) [g54_s1, n1]
          refine .inl ⟨rfl, _, _, _, _, _, _, _, rfl, EI.push he (s := none) (b := h.nx) (h1 := _) ⟨?_, ?_⟩ (.inr (Nat.le_refl _)) ?_ rfl rfl, hs, hgo, by omega⟩
          · simp; omega
          · intro id q1 q2
            simp only [cellsAt_add, cellsAt_set, cellsAt_kill, nx_add, nx_set, nx_kill]
            repeat rw [if_neg (by omega)]
          · simp
        · have n2 : ¬ io = h.nx := by omega
          have n3 : ¬ io = h.nx + 1 := by omega
          have hps : ps.length ≤ 20000 := by have := he.pl; omega
          rw [Nat.mul_one] at hcut
          simp (disch := first | (simp; done) | omega | (simp only [nx_add, nx_set, nx_kill, nx_mk, nx_emp]; omega) | fail) [g54_s1, n1, n2, n3, hcs, hcut]
          refine .inl ⟨rfl, _, _, _, _, _, _, _, rfl, EI.push he (s := none) (b := io) (h1 := _) ⟨?_, ?_⟩ (.inl ⟨rfl, hio2⟩) ?_ rfl rfl, hs, hgo, by omega⟩
          · simp; omega
          · intro id q1 q2
            simp only [cellsAt_add, cellsAt_set, cellsAt_kill, nx_add, nx_set, nx_kill]
            repeat rw [if_neg (by omega)]
          · simp
      simp (disch := first | (simp; done) | omega | (simp only [nx_add, nx_set, nx_kill, nx_mk, nx_emp]; omega) | fail) [g54_s3, n1]
      refine ⟨fun k2 => ?_, fun k2 => ⟨fun k3 => ?_, fun k3 => ?_⟩⟩
      · have hgo : exts f t (some c.t :: st) (i + 1) (l.drop (i + 1)) out = R := by rw [← hex]; simp [exts, k1, k2]
        have hs : (some c.t :: st) = (if c.kind = 1 then none :: st else if c.kind = 2 then some c.t :: st else if c.kind = 3 then st.tail else st) := by rw [if_neg k1, if_pos k2]
        rcases he.op with ⟨rfl, rfl, rfl⟩ | ⟨rfl, hio2, ⟨hio, cs, hcs, hcut⟩⟩
        · simp (disch := first | (simp; done) | omega | (simp only [nx_add, nx_set, nx_kill, nx_mk, nx_emp]; omega) | fail) [n1]
          refine .inl ⟨rfl, _, _, _, _, _, _, _, rfl, EI.push he (s := some c.t) (b := h.nx) (h1 := _) ⟨?_, ?_⟩ (.inr (Nat.le_refl _)) ?_ rfl ⟨h.nx, c, rfl, hnx, ?_, ?_, ?_, ?_, rfl⟩, hs, hgo, by omega⟩
          · simp; omega
          · intro id q1 q2
            simp only [cellsAt_add, cellsAt_set, cellsAt_kill, nx_add, nx_set, nx_kill]
            repeat rw [if_neg (by omega)]
          · simp
          · simp; omega
          · omega
          · rcases he.ou with ⟨_, _, q⟩ | ⟨_, _, _, q, _⟩ <;> omega
          · simp only [cellsAt_add, cellsAt_set, cellsAt_kill, nx_add, nx_set, nx_kill]
            rw [if_neg (by omega), if_neg (by omega)]; simp
        · have n2 : ¬ io = h.nx := by omega
          have n3 : ¬ io = h.nx + 1 := by omega
          have hps : ps.length ≤ 20000 := by have := he.pl; omega
          rw [Nat.mul_one] at hcut
          simp (disch := first | (simp; done) | omega | (simp only [nx_add, nx_set, nx_kill, nx_mk, nx_emp]; omega) | fail) [n1, n2, n3, hcs, hcut]
          refine .inl ⟨rfl, _, _, _, _, _, _, _, rfl, EI.push he (s := some c.t) (b := io) (h1 := _) ⟨?_, ?_⟩ (.inl ⟨rfl, hio2⟩) ?_ rfl ⟨h.nx, c, rfl, hnx, ?_, ?_, ?_, ?_, rfl⟩, hs, hgo, by omega⟩
          · simp; omega
          · intro id q1 q2
            simp only [cellsAt_add, cellsAt_set, cellsAt_kill, nx_add, nx_set, nx_kill]
            repeat rw [if_neg (by omega)]
          · simp
          · simp; omega
          · omega
          · rcases he.ou with ⟨_, _, q⟩ | ⟨_, _, _, q, _⟩ <;> omega
          · simp only [cellsAt_add, cellsAt_set, cellsAt_kill, nx_add, nx_set, nx_kill]
            rw [if_neg (by omega), if_neg (by omega), if_neg (by omega)]; simp
      · have hgo : exts f t st.tail (i + 1) (l.drop (i + 1)) out = R := by rw [← hex]; simp [exts, k1, k2, k3]
        have hs : st.tail = (if c.kind = 1 then none :: st else if c.kind = 2 then some c.t :: st else if c.kind = 3 then st.tail else st) := by rw [if_neg k1, if_neg k2, if_pos k3]
        have hst0 : st ≠ [] := by
          rintro rfl
          rcases hcase with ⟨_, e⟩ | ⟨k, _⟩ | ⟨k, _⟩
          · subst e; simp at hgl
          · omega
          · omega
        have hpl := he.pl
        cases st with
        | nil => exact absurd rfl hst0
        | cons s2 st2 =>
          cases ps with
          | nil => simp at hpl
          | cons p2 ps2 =>
            have hvo : vo = .rsl io 0 (ps2.length + 1) 1 := by
              rcases he.op with ⟨q, _⟩ | ⟨q, _⟩
              · cases q
              · exact q
            subst hvo
            have hps2 : ps2.length ≤ 20000 := by simp at hpl; simp at hsl; omega
            simp (disch := first | (simp; done) | omega | (simp only [nx_add, nx_set, nx_kill, nx_mk, nx_emp]; omega) | fail) [g54_s2, kSl_hi]
            refine .inl ⟨rfl, _, _, _, _, _, _, _, rfl, (he.pop).keep (b := h.nx) ⟨?_, ?_⟩ (Nat.le_refl _), hs, hgo, by omega⟩
            · simp
            · intro id q1 q2
              simp only [cellsAt_add, cellsAt_set, cellsAt_kill, nx_add, nx_set, nx_kill]
              repeat rw [if_neg (by omega)]
      · have hs : st = (if c.kind = 1 then none :: st else if c.kind = 2 then some c.t :: st else if c.kind = 3 then st.tail else st) := by rw [if_neg k1, if_neg k2, if_neg k3]
        obtain ⟨H, hH⟩ : ∃ H, H = (h.add (.cells [.int .i64 0, .int .i64 0, .int .i64 0, .int .i64 0, .int .i64 0, .int .i64 0, .bool false, .int .i64 0, .int .i64 0, .int .i64 0, .int .i64 0, .str [], .int .i64 0, .int .i64 0, .int .i64 0, .int .i64 0, .int .i64 0, .int .i64 0, .int .i64 0, .int .i64 0, .int .i64 0, .nilsl])).set h.nx (.cells c.enc) := ⟨_, rfl⟩
        rw [← hH]
        have heH : EI H vo vu st out io iu ps := by
          refine he.keep (b := h.nx) ⟨?_, ?_⟩ (Nat.le_refl _)
          · subst hH; simp
          · intro id q1 q2
            subst hH
            simp only [cellsAt_add, cellsAt_set, cellsAt_kill, nx_add, nx_set, nx_kill]
            repeat rw [if_neg (by omega)]
        have hcH : H.cellsAt h.nx = some c.enc := by subst hH; simp
        have hnH : h.nx < H.nx := by subst hH; simp
        refine ⟨fun vs h1 => vs = [I f, I t, .ptr 0 0, .ptr 1 0, vo, vu, .ptr h.nx 0, cmds l, I l.length, I i, .bool (decide (f ≤ i) && decide (i < t))] ∧ h1 = H, ?_, ?_⟩
        · by_cases q1 : f ≤ i <;> by_cases q2 : i < t <;> simp (disch := first | (simp; done) | omega | (simp only [nx_add, nx_set, nx_kill, nx_mk, nx_emp]; omega) | fail) [g54_a1, q1, q2]
        rintro vs h1 ⟨rfl, rfl⟩
        clear hH
        simp (disch := first | (simp; done) | omega | (simp only [nx_add, nx_set, nx_kill, nx_mk, nx_emp]; omega) | fail) [g54_j7]
        refine ⟨fun hin1 hin2 => ?_, fun hno => ?_⟩
        · have hgo : (match ext1 st c.r with | none => none | some r => exts f t st (i + 1) (l.drop (i + 1)) (if emptyR r then out else out ++ [r])) = R := by
            rw [← hex]; simp only [exts, if_neg k1, if_neg k2, if_neg k3]; rw [if_pos ⟨by omega, by omega⟩]
          have hso : stow vo = true ∧ vo.cells = [vo] := by
            rcases heH.op with ⟨_, rfl, _⟩ | ⟨rfl, _⟩ <;> simp
          simp (disch := first | (simp; done) | omega | (simp only [nx_add, nx_set, nx_kill, nx_mk, nx_emp]; omega) | fail) [g54_j7, hcH]
          rw [e75_h _ _ _ _ hso.1 hso.2]
          refine ⟨h1.nx + 1, vo, ps.reverse, rgR h1 vo st c.r, rfl, ?_, ?_, ?_, ?_⟩
          · refine ⟨c.r, ⟨by simp; omega, ?_⟩, by simp, ?_, by simp, by simp⟩
            · intro id q1 q2
              simp only [cellsAt_add, cellsAt_set, cellsAt_kill, nx_add, nx_set, nx_kill]
              repeat rw [if_neg (by omega)]
            · simp
          · rintro k h2 ⟨q, hk, hn2, z1, z2, _⟩
            refine ⟨z2, ?_⟩
            have he2 := heH.keep hk (Nat.le_refl _)
            rcases he2.op with ⟨rfl, rfl, _⟩ | ⟨rfl, _, ⟨_, cs, y1, y2⟩⟩
            · rfl
            · rw [bot_pe, Nat.mul_one] at y2
              simp [elemsAt, y1, y2]
          · rintro k h2 x ⟨q, hk, hn2, z1, z2, hext⟩ hklt hx
            have he2 := heH.keep hk (Nat.le_refl _)
            simp at hklt
            have hx2 : ps[k]? = some x := by
              rw [List.getElem?_reverse (by simp; omega)] at hx
              rw [← hx]; congr 1; simp; omega
            have hks : k < st.length := by have := he2.pl; omega
            have hpx := he2.pp k x st[k] hx2 (by simp [hks])
            have hdr : st.drop k = st[k] :: st.drop (k + 1) := List.drop_eq_getElem_cons hks
            have hnx1 := heH.nx
            obtain ⟨s, hs1⟩ : ∃ s, s = st[k] := ⟨_, rfl⟩
            rw [hdr, ← hs1] at hext
            rw [← hs1] at hpx
            have hnr0 : ¬ 0 = h1.nx := by omega
            have hnr1 : ¬ 1 = h1.nx := by omega
            have hnr2 : ¬ h1.nx + 1 = h1.nx := by omega
            have r0 := he2.c0
            have r1 := he2.c1
            refine (?_ : g54_b4 _ _ _ _ _ x h2 _)
            have main : ∀ (q2 : Rect) (h3 : AH), Kp h1.nx h1 h3 → h1.nx + 2 ≤ h3.nx → h3.cellsAt h1.nx = some q2.enc → h3.cellsAt (h1.nx + 1) = some [vo] → (if okR q2 then ext1 (st.drop (k + 1)) q2 else none) = ext1 st c.r →
                g54_j3 (tb [e36, e75, e76, e77]) (.ptr 0 0) (.ptr 1 0) (.ptr h1.nx 0) h3 fun y h3 => xs y (rgR h1 vo st c.r (k + 1) h3)
                  (fun j => (fun x h => g54_j6 (tb [e36, e75, e76, e77]) x (I f) (I t) (.ptr 0 0) (.ptr 1 0) vo vu (.ptr h1.nx 0) (cmds l) (I l.length) (I i) h (exM l f t i R c st)) (.exit j) h3)
                  ((fun x h => g54_j6 (tb [e36, e75, e76, e77]) x (I f) (I t) (.ptr 0 0) (.ptr 1 0) vo vu (.ptr h1.nx 0) (cmds l) (I l.length) (I i) h (exM l f t i R c st)) .ret h3) := by
              intro q2 h3 hk3 hn3 y1 y2 hext3
              have he3 := heH.keep hk3 (Nat.le_refl _)
              have s0 := he3.c0
              have s1 := he3.c1
              cases hq : okR q2
              · simp (disch := first | (simp; done) | omega | (simp only [nx_add, nx_set, nx_kill, nx_mk, nx_emp]; omega) | fail) [g54_j3, y1, hq, s0, s1]
                simp (disch := first | (simp; done) | omega | (simp only [nx_add, nx_set, nx_kill, nx_mk, nx_emp]; omega) | fail) [g54_j6, y1, hq, s0, s1]
                rw [hq] at hext3
                simp at hext3
                rw [← hext3] at hgo
                exact .inr ⟨rfl, _, _, rfl, by simp (disch := first | (simp; done) | omega | (simp only [nx_add, nx_set, nx_kill, nx_mk, nx_emp]; omega) | fail) [s0], by simp (disch := first | (simp; done) | omega | (simp only [nx_add, nx_set, nx_kill, nx_mk, nx_emp]; omega) | fail) [s1], by simpa using hgo.symm⟩
              · simp (disch := first | (simp; done) | omega | (simp only [nx_add, nx_set, nx_kill, nx_mk, nx_emp]; omega) | fail) [g54_j3, y1, hq]
                rw [hq] at hext3
                exact ⟨q2, hk3, hn3, y1, y2, by simpa using hext3⟩
            cases s with
            | none =>
              obtain rfl : x = .nilptr := hpx
              simp (disch := first | (simp; done) | omega | (simp only [nx_add, nx_set, nx_kill, nx_mk, nx_emp]; omega) | fail) [g54_b4]
              refine ⟨fun vs h3 => vs = [.ptr 0 0, .ptr 1 0, .ptr h1.nx 0] ∧ h3 = h2, ?_, ?_⟩
              · simp (disch := first | (simp; done) | omega | (simp only [nx_add, nx_set, nx_kill, nx_mk, nx_emp]; omega) | fail) [g54_a2]
              · rintro vs h3 ⟨rfl, rfl⟩
                exact main q h3 hk hn2 z1 z2 (by simpa [ext1] using hext)
            | some tt =>
              obtain ⟨idc, c2, rfl, w1, w2, w3, w4, w5, rfl⟩ := hpx
              simp (disch := first | (simp; done) | omega | (simp only [nx_add, nx_set, nx_kill, nx_mk, nx_emp]; omega) | fail) [g54_b4]
              have n0 : ¬ idc = h1.nx := by
                intro e; subst e
                rw [z1] at w5
                have := congrArg (Option.map List.length) w5
                simp at this
              refine ⟨fun vs h3 => vs = [.ptr 0 0, .ptr 1 0, .ptr h1.nx 0] ∧ Kp h1.nx h1 h3 ∧ h1.nx + 2 ≤ h3.nx ∧ h3.cellsAt h1.nx = some (apl c2.t q).enc ∧ h3.cellsAt (h1.nx + 1) = some [vo], ?_, ?_⟩
              · simp (disch := first | (simp; done) | omega | (simp only [nx_add, nx_set, nx_kill, nx_mk, nx_emp]; omega) | fail) [g54_a2, w5, z1, z2, n0, hnr2]
                refine ⟨⟨?_, fun id q1 q2 => ?_⟩, by omega⟩
                · simp; have := hk.1; omega
                · rw [cellsAt_set, if_neg q2]; exact hk.2 id q1 q2
              · rintro vs h3 ⟨rfl, k1, k2, k3, k4⟩
                exact main (apl c2.t q) h3 k1 k2 k3 k4 (by simpa [ext1] using hext)
          · rintro h2 ⟨q, hk, hn2, z1, z2, hext⟩
            have he2 := heH.keep hk (Nat.le_refl _)
            have hfull : st.drop ps.reverse.length = [] := List.drop_eq_nil_of_le (by have := he2.pl; simp; omega)
            rw [hfull] at hext
            simp [ext1] at hext
            rw [← hext] at hgo
            simp only at hgo
            simp (disch := first | (simp; done) | omega | (simp only [nx_add, nx_set, nx_kill, nx_mk, nx_emp]; omega) | fail) [g54_j6, z1]
            simp (disch := first | (simp; done) | omega | (simp only [nx_add, nx_set, nx_kill, nx_mk, nx_emp]; omega) | fail) [g54_c5, z1]
            refine ⟨fun hem => ?_, fun hem => .inl ⟨rfl, _, _, _, _, _, _, _, rfl, he2, hs, by simpa [hem] using hgo, by omega⟩⟩
            have hgo2 : exts f t st (i + 1) (l.drop (i + 1)) (out ++ [q]) = R := by simpa [hem] using hgo
            rcases he2.ou with ⟨rfl, rfl, rfl⟩ | ⟨hne, rfl, q2, q3, q4⟩
            · simp (disch := first | (simp; done) | omega | (simp only [nx_add, nx_set, nx_kill, nx_mk, nx_emp]; omega) | fail) []
              refine .inl ⟨rfl, _, _, _, _, _, _, _, rfl, EI.more he2 (r := q) (b := h2.nx) (h1 := _) ⟨?_, ?_⟩ (.inr (Nat.le_refl _)) ?_ rfl, hs, hgo2, by simp⟩
              · simp
              · intro id q1 q2
                simp only [cellsAt_add, cellsAt_set, cellsAt_kill, nx_add, nx_set, nx_kill]
                repeat rw [if_neg (by omega)]
              · simp
            · have w1 : ¬ iu = h2.nx := by omega
              have hcut : cut (((out.map Rect.enc).flatten)) 0 (out.length * 4) = some ((out.map Rect.enc).flatten) := by
                have := cut_zero_app (α := (out.map Rect.enc).flatten) (b := []) (n := out.length * 4) (by rw [flat_len Rect.len])
                rwa [List.append_nil] at this
              have hol2 : out.length ≤ 20000 := by omega
              obtain ⟨F, hF⟩ : ∃ F, F = (out.map Rect.enc).flatten := ⟨_, rfl⟩
              rw [← hF] at q4 hcut
              simp (disch := first | (simp; done) | omega | (simp only [nx_add, nx_set, nx_kill, nx_mk, nx_emp]; omega) | fail) [w1, q4, hcut]
              refine .inl ⟨rfl, _, _, _, _, _, _, _, rfl, EI.more he2 (r := q) (b := iu) (h1 := _) ⟨?_, ?_⟩ (.inl ⟨rfl, q2⟩) ?_ (by rw [hF]), hs, hgo2, by simp; omega⟩
              · simp
              · intro id q1 q2
                simp only [cellsAt_add, cellsAt_set, cellsAt_kill, nx_add, nx_set, nx_kill]
                repeat rw [if_neg (by omega)]
              · simp
        · refine .inl ⟨rfl, _, _, _, _, _, _, _, rfl, heH, hs, ?_, by omega⟩
          rw [← hex]; simp only [exts, if_neg k1, if_neg k2, if_neg k3]; rw [if_neg (by omega)]
    · rintro x vs h' (⟨rfl, vo', vu', st', out', io', iu', ps', rfl, he', hst, hex', hol'⟩ | ⟨rfl, vo', vu', rfl, z0, z1, rfl⟩)
      · simp (disch := first | (simp; done) | omega | (simp only [nx_add, nx_set, nx_kill, nx_mk, nx_emp]; omega) | fail) [g54_j9]
        refine ⟨l.length - (i + 1), by omega, i + 1, vo', vu', st', out', io', iu', ps', g', gr', by omega, rfl, by simp, he', hrun', ?_, hex', by omega, ?_⟩
        · have := congrArg List.length hst
          rcases hcase with ⟨k, e⟩ | ⟨k, e⟩ | ⟨k, e⟩ <;> have := congrArg List.length e <;> simp at this
          all_goals grind
        · have := congrArg List.length hst
          grind
      · simp (disch := first | (simp; done) | omega | (simp only [nx_add, nx_set, nx_kill, nx_mk, nx_emp]; omega) | fail) [g54_j9, g54_j12, z0, z1, exR]
  · have hil : i = l.length := by omega
    subst hil
    simp [exts] at hex
    subst hex
    simp (disch := first | (simp; done) | omega | (simp only [nx_add, nx_set, nx_kill, nx_mk, nx_emp]; omega) | fail) [g54_l10, hlt]
    simp (disch := first | (simp; done) | omega | (simp only [nx_add, nx_set, nx_kill, nx_mk, nx_emp]; omega) | fail) [g54_j12, hlt]
    have z0 := he.c0
    have z1 := he.c1
    rcases he.ou with ⟨rfl, rfl, rfl⟩ | ⟨hne, rfl, q2, q3, q4⟩
    · simp (disch := first | (simp; done) | omega | (simp only [nx_add, nx_set, nx_kill, nx_mk, nx_emp]; omega) | fail) [g54_c11, z0, z1, exR]
    · cases out with
      | nil => exact absurd rfl hne
      | cons r o =>
        have w1 : ¬ iu = 1 := by omega
        have w0 : ¬ iu = 0 := by omega
        simp (disch := first | (simp; done) | omega | (simp only [nx_add, nx_set, nx_kill, nx_mk, nx_emp]; omega) | fail) [g54_c11, z0, z1]
        refine ⟨iu, rfl, ?_⟩
        simp only [cellsAt_set]
        rw [if_neg w1, if_neg w0]; exact q4
end Go.Proofs.Ytpnekpbehcbmkaa
end
