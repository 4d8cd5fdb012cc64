/- What applying a transform to a rectangle answers. What comparing two lists of commands by a function answers, and what a clone of a list holds. What the difference of two lists of commands is in the program. The iterator over a slice from behind keeps its contract. -/
import Derived.Test.YtpnekpbehcbmkaaD7P
import Derived.RangeFuncBox
import Derived.RangeFuncLeaves
import Derived.Shelf.Abstract
import Derived.WalkKit
import Derived.OwnWalkIn
import Derived.TacticsInMore
import Derived.LoopNIn
import Derived.LoopIn
import Derived.Test.YtpnekpbehcbmkaaD7FnsA
import Derived.Test.YtpnekpbehcbmkaaD7FnsB
import Derived.Test.YtpnekpbehcbmkaaD7FnsC
set_option linter.unusedSimpArgs false
set_option linter.unusedVariables false
set_option linter.unnecessarySimpa false
noncomputable section
namespace Go.Proofs.Ytpnekpbehcbmkaa
open Go.Eng
def rotR : Nat → Rect → Rect
  | 0, r => r
  | n + 1, r => rotR n ⟨-r.y - r.h, r.x, r.h, r.w⟩
def mirR (t : Tf) (r : Rect) : Rect := ⟨if t.mirror then -r.x - r.w else r.x, r.y, r.w, r.h⟩
def scR (t : Tf) (q : Rect) : Rect := ⟨q.x * t.scale + t.dx, q.y * t.scale + t.dy, q.w * t.scale, q.h * t.scale⟩
def apl (t : Tf) (r : Rect) : Rect := if okT t && okR r then scR t (rotR t.turn.toNat (mirR t r)) else zR
def Box (r : Rect) : Prop := -2097152 ≤ r.x ∧ r.x + r.w ≤ 2097152 ∧ -2097152 ≤ r.y ∧ r.y + r.h ≤ 2097152 ∧ 0 ≤ r.w ∧ 0 ≤ r.h
theorem mirR_box {t : Tf} {r : Rect} (h : okR r = true) : Box (mirR t r) := by
  have := okR_bd h
  unfold Box mirR
  cases t.mirror <;> simp <;> omega
theorem mul_k {a b : Int} (h1 : -4194304 ≤ a) (h2 : a ≤ 4194304) (h3 : 0 ≤ b) (h4 : b ≤ 16) : -67108864 ≤ a * b ∧ a * b ≤ 67108864 := mul_bd (A := 4194304) (B := 16) h1 h2 h3 h4
theorem mul_e {a b : Int} (h1 : -4194304 ≤ a) (h2 : a ≤ 4194304) (h3 : 0 ≤ b) (h4 : b ≤ 16) (h : AH) : kArith h .mul (I a) (I b) = some (I (a * b), h) := by
  obtain ⟨m1, m2⟩ := mul_k h1 h2 h3 h4
  exact kArith_mul h _ _ (Int.le_trans (by decide) m1) (Int.le_trans m2 (by decide))
theorem mul_a {a b d : Int} (h1 : -4194304 ≤ a) (h2 : a ≤ 4194304) (h3 : 0 ≤ b) (h4 : b ≤ 16) (h5 : -1048576 ≤ d) (h6 : d ≤ 1048576) (h : AH) : kArith h .add (I (a * b)) (I d) = some (I (a * b + d), h) := by
  obtain ⟨m1, m2⟩ := mul_k h1 h2 h3 h4
  generalize a * b = p at m1 m2 ⊢
  exact kArith_add h _ _ (by omega) (by omega)
def apI (t : Tf) (r : Rect) (m : Nat) (vs : List AV) (h : AH) : Prop := ∃ (i : Nat) (q : Rect), (i : Int) ≤ t.turn ∧ m = t.turn.toNat - i ∧ vs = [.ptr 0 0, .ptr 1 0, .ptr 2 0, I i] ∧ h.cellsAt 0 = some t.enc ∧ h.cellsAt 1 = some q.enc ∧ h.cellsAt 2 = some [I 0, I 0, I 0, I 0] ∧ rotR (t.turn.toNat - i) q = rotR t.turn.toNat (mirR t r) ∧ Box q
set_option maxHeartbeats 1000000 in
theorem apply_c (t : Tf) (r : Rect) : Pure Try.prog 76 [.agg t.enc, .agg r.enc] (.agg (apl t r).enc) := by
  refine .of (by simp [Tf.cl, Rect.cl]) (C76 (tb_ok [e65, e36]) ?_)
  simp (disch := first | (simp; done) | omega | (simp only [nx_add, nx_set, nx_kill, nx_mk, nx_emp]; omega) | fail) [g76]
  refine ⟨fun vs h => vs = [.ptr 0 0, .ptr 1 0, .ptr 2 0, .bool (!(okT t && okR r))] ∧ h.cellsAt 0 = some t.enc ∧ h.cellsAt 1 = some r.enc ∧ h.cellsAt 2 = some [I 0, I 0, I 0, I 0] ∧ h.nx = 3, ?_, ?_⟩
  · cases q1 : okT t <;> cases q2 : okR r <;> simp (disch := first | (simp; done) | omega | (simp only [nx_add, nx_set, nx_kill, nx_mk, nx_emp]; omega) | fail) [g76_a1, q1, q2] <;> simp (disch := first | (simp; done) | omega | (simp only [nx_add, nx_set, nx_kill, nx_mk, nx_emp]; omega) | fail) [g76_s1, q1, q2]
  rintro vs h ⟨rfl, h0, h1, h2, hn⟩
  cases hab : (okT t && okR r)
  · simp (disch := first | (simp; done) | omega | (simp only [nx_add, nx_set, nx_kill, nx_mk, nx_emp]; omega) | fail) [g76_j7, h0, h1, h2, hn]
    simp [apl, hab, zR, Rect.enc]
  · have ht : okT t = true := by simp at hab; exact hab.1
    have hr : okR r = true := by simp at hab; exact hab.2
    have bt := okT_bd ht
    have br := okR_bd hr
    simp (disch := first | (simp; done) | omega | (simp only [nx_add, nx_set, nx_kill, nx_mk, nx_emp]; omega) | fail) [g76_j7, h0, h1, h2, hn]
    refine ⟨fun vs h => vs = [.ptr 0 0, .ptr 1 0, .ptr 2 0] ∧ h.cellsAt 0 = some t.enc ∧ h.cellsAt 1 = some (mirR t r).enc ∧ h.cellsAt 2 = some [I 0, I 0, I 0, I 0], ?_, ?_⟩
    · cases hm : t.mirror <;> simp (disch := first | (simp; done) | omega | (simp only [nx_add, nx_set, nx_kill, nx_mk, nx_emp]; omega) | fail) [g76_a2, h0, h1, h2, hn, hm, mirR, Rect.enc]
    rintro vs h ⟨rfl, h0, h1, h2⟩
    simp (disch := first | (simp; done) | omega | (simp only [nx_add, nx_set, nx_kill, nx_mk, nx_emp]; omega) | fail) [g76_j6]
    refine ⟨apI t r, t.turn.toNat, ⟨0, mirR t r, by omega, rfl, rfl, h0, h1, h2, rfl, mirR_box hr⟩, ?_⟩
    rintro m vs h ⟨i, q, hi, rfl, rfl, h0, h1, h2, hrq, hb⟩
    obtain ⟨b1, b2, b3, b4, b5, b6⟩ := hb
    by_cases hlt : (i : Int) < t.turn
    · simp (disch := first | (simp; done) | omega | (simp only [nx_add, nx_set, nx_kill, nx_mk, nx_emp]; omega) | fail) [g76_l3, h0, h1, h2, hlt]
      simp (disch := first | (simp; done) | omega | (simp only [nx_add, nx_set, nx_kill, nx_mk, nx_emp]; omega) | fail) [g76_s3, h0, h1, h2, hlt]
      simp (disch := first | (simp; done) | omega | (simp only [nx_add, nx_set, nx_kill, nx_mk, nx_emp]; omega) | fail) [g76_s2, h0, h1, h2, hlt]
      refine ⟨t.turn.toNat - (i + 1), by omega, i + 1, ⟨-q.y - q.h, q.x, q.h, q.w⟩, by omega, rfl, by simp, ?_⟩
      simp (disch := first | (simp; done) | omega | (simp only [nx_add, nx_set, nx_kill, nx_mk, nx_emp]; omega) | fail) [h0, h1, h2, Rect.enc]
      refine ⟨?_, ?_⟩
      · rw [← hrq, show t.turn.toNat - i = (t.turn.toNat - (i + 1)) + 1 by omega]; rfl
      · unfold Box; simp; omega
    · have hz : t.turn.toNat - i = 0 := by omega
      rw [hz] at hrq
      have hs0 : 0 ≤ t.scale := by omega
      have x1 : q.x ≤ 4194304 := by omega
      have x2 : q.y ≤ 4194304 := by omega
      have x3 : q.w ≤ 4194304 := by omega
      have x4 : q.h ≤ 4194304 := by omega
      have y1 : -4194304 ≤ q.x := by omega
      have y2 : -4194304 ≤ q.y := by omega
      have y3 : -4194304 ≤ q.w := by omega
      have y4 : -4194304 ≤ q.h := by omega
      obtain ⟨_, _, _, t4, t5, t6, t7, t8⟩ := bt
      have k1 := fun h => mul_e y1 x1 hs0 t4 h
      have k2 := fun h => mul_e y2 x2 hs0 t4 h
      have k3 := fun h => mul_e y3 x3 hs0 t4 h
      have k4 := fun h => mul_e y4 x4 hs0 t4 h
      have k5 := fun h => mul_a y1 x1 hs0 t4 t5 t6 h
      have k6 := fun h => mul_a y2 x2 hs0 t4 t7 t8 h
      simp (disch := first | (simp; done) | omega | (simp only [nx_add, nx_set, nx_kill, nx_mk, nx_emp]; omega) | fail) [g76_l3, h0, h1, h2, hlt]
      clear x1 x2 x3 x4 y1 y2 y3 y4
      simp (disch := first | (simp; done) | fail) only [g76_j5, g76_c4, xs]
      simp (disch := first | (simp; done) | fail) [g76_c4, h0, h1, h2, k1, k5, -kArith_mul, -kArith_add]
      simp (disch := first | (simp; done) | fail) [g76_s6, h0, h1, h2, k2, k6, -kArith_mul, -kArith_add]
      simp (disch := first | (simp; done) | fail) [g76_s5, h0, h1, h2, k3, -kArith_mul, -kArith_add]
      simp (disch := first | (simp; done) | fail) [g76_s4, h0, h1, h2, k4, -kArith_mul, -kArith_add]
      have : apl t r = scR t q := by
        rw [show q = rotR t.turn.toNat (mirR t r) from hrq]
        unfold apl; rw [if_pos hab]
      rw [this]
      simp [scR, Rect.enc]
def e76 : QE Try.prog := .pure 76 (fun (((t, r)) : Tf × Rect) => [.agg t.enc, .agg r.enc]) (fun (((t, r)) : Tf × Rect) => True) (fun (((t, r)) : Tf × Rect) => .agg (apl t r).enc) (fun ⟨t, r⟩ _ => apply_c t r)
@[simp ↓] theorem e76_h (l : List (QE Try.prog)) (args : List AV) (h : AH) (Q : AV → AH → Prop) : tb (e76 :: l) 76 args h Q = e76.q args h Q := tb_here e76 l 76 args h Q rfl
@[simp ↓] theorem e76_t (l : List (QE Try.prog)) (f : Nat) (args : List AV) (h : AH) (Q : AV → AH → Prop) (hf : 76 ≠ f) : tb (e76 :: l) f args h Q = tb l f args h Q := tb_there e76 l f args h Q hf
@[simp ↓] theorem e76_q (t : Tf) (r : Rect) (h : AH) (Q : AV → AH → Prop) : e76.q [.agg t.enc, .agg r.enc] h Q = Q (.agg (apl t r).enc) h := (QE.pure_q (x := (t, r)) (by rintro ⟨_, _⟩ h; simp at h; simp [h]) h Q).trans (by simp)
end Go.Proofs.Ytpnekpbehcbmkaa
end
noncomputable section
namespace Go.Proofs.Ytpnekpbehcbmkaa
open Go.Eng
def eqfI (a b : List Cmd) (m : Nat) (vs : List AV) (h : AH) : Prop := ∃ i : Nat, i ≤ a.length ∧ m = a.length - i ∧ vs = [cmds b, .func (.func 11) [] [], cmds a, I a.length, I i] ∧ ∀ j (h1 : j < i) (h2 : j < a.length) (h3 : j < b.length), a[j] = b[j]
theorem equalFunc_c (a b : List Cmd) (hx : SmL a ∧ SmL b) : Pure Try.prog 58 [cmds a, cmds b, .func (.func 11) [] []] (.bool (eqD a b)) := by
  refine .of (by simp [cmds_cl]; exact .func (by simp) (by simp)) (C58 (tb_ok [e11]) ?_)
  obtain ⟨ha, hb⟩ := hx
  have ha1 := ha.1; have hb1 := hb.1
  unfold Sm at ha1 hb1
  simp (disch := first | (simp; done) | omega | (simp only [nx_add, nx_set, nx_kill, nx_mk, nx_emp]; omega) | fail) [g58]
  refine ⟨fun hne => ?_, fun heq => ?_⟩
  · simp [eqD]; intro e; exact hne (by rw [e])
  have heq' : a.length = b.length := by omega
  refine ⟨eqfI a b, a.length, ⟨0, by simp⟩, ?_⟩
  rintro m vs h ⟨i, hi, rfl, rfl, hall⟩
  by_cases hlt : i < a.length
  · have hlt2 : i < b.length := by omega
    have s1 : SmC a[i] := ha.2 _ (List.getElem_mem hlt)
    have s2 : SmC b[i] := hb.2 _ (List.getElem_mem hlt2)
    have q1 : ¬ h.nx = h.nx + 1 := by omega
    simp (disch := first | (simp; done) | omega | (simp only [nx_add, nx_set, nx_kill, nx_mk, nx_emp]; omega) | fail) [g58_l1, hlt, hlt2, s1, s2, q1]
    simp (disch := first | (simp; done) | omega | (simp only [nx_add, nx_set, nx_kill, nx_mk, nx_emp]; omega) | fail) [g58_s1, hlt, hlt2, s1, s2, q1]
    refine ⟨fun hne => ?_, fun he => ?_⟩
    · simp [g58_j3, eqD]
      rintro rfl
      simp [eqD] at hne
    · refine ⟨a.length - (i + 1), by omega, i + 1, by omega, rfl, by simp, fun j h1 h2 h3 => ?_⟩
      by_cases hji : j < i
      · exact hall j hji h2 h3
      · obtain rfl : j = i := by omega
        exact eqD_iff.1 he
  · simp (disch := first | (simp; done) | omega | (simp only [nx_add, nx_set, nx_kill, nx_mk, nx_emp]; omega) | fail) [g58_l1, hlt]
    simp (disch := first | (simp; done) | omega | (simp only [nx_add, nx_set, nx_kill, nx_mk, nx_emp]; omega) | fail) [g58_j3, hlt]
    simp (disch := first | (simp; done) | omega | (simp only [nx_add, nx_set, nx_kill, nx_mk, nx_emp]; omega) | fail) [g58_c2, hlt]
    exact eqD_iff.2 (List.ext_getElem heq' fun j h1 h2 => hall j (by omega) h1 h2)
def e58 : QE Try.prog := .pure 58 (fun (((a, b)) : List Cmd × List Cmd) => [cmds a, cmds b, .func (.func 11) [] []]) (fun (((a, b)) : List Cmd × List Cmd) => SmL a ∧ SmL b) (fun (((a, b)) : List Cmd × List Cmd) => .bool (eqD a b)) (fun ⟨a, b⟩ hx => equalFunc_c a b hx)
@[simp ↓] theorem e58_h (l : List (QE Try.prog)) (args : List AV) (h : AH) (Q : AV → AH → Prop) : tb (e58 :: l) 58 args h Q = e58.q args h Q := tb_here e58 l 58 args h Q rfl
@[simp ↓] theorem e58_t (l : List (QE Try.prog)) (f : Nat) (args : List AV) (h : AH) (Q : AV → AH → Prop) (hf : 58 ≠ f) : tb (e58 :: l) f args h Q = tb l f args h Q := tb_there e58 l f args h Q hf
@[simp ↓] theorem e58_q (a : List Cmd) (b : List Cmd) (h : AH) (Q : AV → AH → Prop) : e58.q [cmds a, cmds b, .func (.func 11) [] []] h Q = ((SmL a ∧ SmL b) ∧ Q (.bool (eqD a b)) h) := (QE.pure_q (x := (a, b)) (by rintro ⟨_, _⟩ h; simp at h; simp [h]) h Q)
@[simp] theorem kApp_nr (h : AH) (z bytes id2 off2 m : Nat) (hm : m ≠ 0) : kApp h z bytes .nilsl (.rsl id2 off2 m z) =
    match h.cellsAt id2 with
    | some cs2 => match cut cs2 off2 (m * z) with
      | some new => if ones new = true ∧ roomy m bytes = true then some (.rsl h.nx 0 m z, h.add (.cells new)) else none
      | none => none
    | none => none := by
  simp only [kApp, aapp, acells, alen, if_true]
  cases h2 : h.cellsAt id2 with
  | none => simp
  | some cs2 =>
    simp
    cases h4 : cut cs2 off2 (m * z) with
    | none => simp
    | some new => cases ho : ones new <;> cases hr : roomy m bytes <;> simp [ho, hr, hm]
def grow (v : AV) (h : AH) (z : Nat) {α : Type} (e : α → List AV) (l : List α) : Prop := (l = [] ∧ v = .nilsl) ∨ ∃ id, v = .rsl id 0 l.length z ∧ id < h.nx ∧ h.cellsAt id = some ((l.map e).flatten)
@[simp] theorem Ln.spl12 (c : Cmd) : splice c.enc 12 c.line.enc = some c.enc := by cases c; exact Eq.trans rfl rfl
def clI (l : List Cmd) (m : Nat) (vs : List AV) (h : AH) : Prop := ∃ (i : Nat) (v : AV), i ≤ l.length ∧ m = l.length - i ∧ vs = [v, cmds l, I l.length, I i] ∧ grow v h 22 Cmd.enc (l.take i)
theorem take_snoc {α : Type} (l : List α) (i : Nat) (hi : i < l.length) : l.take (i + 1) = l.take i ++ [l[i]] := by rw [List.take_add_one]; simp [hi]
theorem cloned_c (l : List Cmd) (hl : Lite l) : Pure Try.prog 59 [cmds l] (cmds l) := by
  refine .of (by simp [cmds_cl]) (C59 (tb_ok [e79]) ?_)
  have hl1 := hl.1
  simp (disch := first | (simp; done) | omega | (simp only [nx_add, nx_set, nx_kill, nx_mk, nx_emp]; omega) | fail) [g59]
  refine ⟨clI l, l.length, ⟨0, .nilsl, by omega, rfl, rfl, .inl ⟨by simp, rfl⟩⟩, ?_⟩
  rintro m vs h ⟨i, v, hi, rfl, rfl, hv⟩
  by_cases hlt : i < l.length
  · have hg : l[i].line.gl.length ≤ 1000 := hl.2 _ (List.getElem_mem hlt)
    have hlen : (l.take i).length = i := by simp; omega
    rcases hv with ⟨he, rfl⟩ | ⟨id, rfl, hid, hc⟩
    · have hi0 : i = 0 := by rw [he] at hlen; simpa using hlen.symm
      simp (disch := first | (simp; done) | omega | (simp only [nx_add, nx_set, nx_kill, nx_mk, nx_emp]; omega) | fail) [g59_l1, hlt, hg]
      simp (disch := first | (simp; done) | omega | (simp only [nx_add, nx_set, nx_kill, nx_mk, nx_emp]; omega) | fail) [g59_s1, hlt, hg]
      refine ⟨l.length - (i + 1), by omega, i + 1, _, by omega, rfl, by simp; rfl, .inr ⟨h.nx + 1 + 1, by rw [take_snoc l i hlt, he]; simp, by simp, ?_⟩⟩
      rw [take_snoc l i hlt, he]; simp
    · have q1 : ¬ id = h.nx := by omega
      have q2 : ¬ id = h.nx + 1 := by omega
      rw [hlen]
      have hF2 : ((l.take (i + 1)).map Cmd.enc).flatten = ((l.take i).map Cmd.enc).flatten ++ l[i].enc := by rw [take_snoc l i hlt, List.map_append, List.flatten_append]; simp only [List.map_cons, List.map_nil, List.flatten_cons, List.flatten_nil, List.append_nil]
      have hcut : cut (((l.take i).map Cmd.enc).flatten) 0 (i * 22) = some (((l.take i).map Cmd.enc).flatten) := by
        have := cut_zero_app (α := ((l.take i).map Cmd.enc).flatten) (b := []) (n := i * 22) (by rw [flat_len Cmd.len, hlen])
        rwa [List.append_nil] at this
      have hones : ones (((l.take i).map Cmd.enc).flatten) = true := ones_flat Cmd.ones _
      generalize ((l.take i).map Cmd.enc).flatten = F at hc hF2 hcut hones
      simp (disch := first | (simp; done) | omega | (simp only [nx_add, nx_set, nx_kill, nx_mk, nx_emp]; omega) | fail) [g59_l1, hlt, hg, q1, q2, hc, hcut, hones]
      simp (disch := first | (simp; done) | omega | (simp only [nx_add, nx_set, nx_kill, nx_mk, nx_emp]; omega) | fail) [g59_s1, hlt, hg, q1, q2, hc, hcut, hones]
      refine ⟨l.length - (i + 1), by omega, i + 1, _, by omega, rfl, by simp; rfl, .inr ⟨h.nx + 1 + 1, by rw [show (l.take (i + 1)).length = i + 1 by simp; omega], by simp, ?_⟩⟩
      rw [hF2]; simp
  · have hil : i = l.length := by omega
    subst hil
    rw [List.take_length] at hv
    simp (disch := first | (simp; done) | omega | (simp only [nx_add, nx_set, nx_kill, nx_mk, nx_emp]; omega) | fail) [g59_l1, hlt]
    simp (disch := first | (simp; done) | omega | (simp only [nx_add, nx_set, nx_kill, nx_mk, nx_emp]; omega) | fail) [g59_j3, hlt]
    simp (disch := first | (simp; done) | omega | (simp only [nx_add, nx_set, nx_kill, nx_mk, nx_emp]; omega) | fail) [g59_c2, hlt]
    rcases hv with ⟨rfl, rfl⟩ | ⟨id, rfl, hid, hc⟩
    · exact .nilsl
    · exact frz_rows Cmd.len hc (fun a _ c hc => a.pls c hc h)
def e59 : QE Try.prog := .pure 59 (fun (l : List Cmd) => [cmds l]) (fun (l : List Cmd) => Lite l) (fun (l : List Cmd) => cmds l) (fun l hx => cloned_c l hx)
@[simp ↓] theorem e59_h (l : List (QE Try.prog)) (args : List AV) (h : AH) (Q : AV → AH → Prop) : tb (e59 :: l) 59 args h Q = e59.q args h Q := tb_here e59 l 59 args h Q rfl
@[simp ↓] theorem e59_q (l : List Cmd) (h : AH) (Q : AV → AH → Prop) : e59.q [cmds l] h Q = ((Lite l) ∧ Q (cmds l) h) := (QE.pure_q (x := l) (by rintro _ h; simp at h; simp [h]) h Q)
end Go.Proofs.Ytpnekpbehcbmkaa
end
noncomputable section
namespace Go.Proofs.Ytpnekpbehcbmkaa
open Go.Eng
def lcp : List Cmd → List Cmd → Nat
  | x :: xs, y :: ys => if eqD x y then lcp xs ys + 1 else 0
  | _, _ => 0
theorem lcp_unique : ∀ {a b : List Cmd} {i : Nat} (ha : i ≤ a.length) (hb : i ≤ b.length) (_ : ∀ j (h : j < i), a[j]'(by omega) = b[j]'(by omega)) (_ : ∀ (h1 : i < a.length) (h2 : i < b.length), a[i] ≠ b[i]), lcp a b = i
  | [], b, i, ha, _, _, _ => by simp at ha; subst ha; simp [lcp]
  | x :: xs, [], i, _, hb, _, _ => by simp at hb; subst hb; simp [lcp]
  | x :: xs, y :: ys, 0, _, _, _, hne => by
    have := hne (by simp) (by simp)
    simp at this
    simp [lcp, eqD, this]
  | x :: xs, y :: ys, i + 1, ha, hb, heq, hne => by
    have h0 := heq 0 (by omega)
    simp at h0
    have := lcp_unique (a := xs) (b := ys) (i := i) (by simpa using ha) (by simpa using hb) (fun j h => by simpa using heq (j + 1) (by omega)) (fun h1 h2 e => hne (by simpa using h1) (by simpa using h2) (by simpa using e))
    simp [lcp, eqD, h0, this]
theorem lcp_le : ∀ (a b : List Cmd), lcp a b ≤ a.length ∧ lcp a b ≤ b.length
  | [], b => by simp [lcp]
  | x :: xs, [] => by simp [lcp]
  | x :: xs, y :: ys => by
    have := lcp_le xs ys
    unfold lcp
    split <;> simp <;> omega
def dAt (a b : List Cmd) : Nat := lcp a b
def dTl (a b : List Cmd) : Nat := lcp (a.drop (dAt a b)).reverse (b.drop (dAt a b)).reverse
theorem d_le (a b : List Cmd) : dAt a b + dTl a b ≤ a.length ∧ dAt a b + dTl a b ≤ b.length := by
  have h1 := lcp_le a b
  have h2 := lcp_le (a.drop (dAt a b)).reverse (b.drop (dAt a b)).reverse
  simp at h2
  unfold dTl
  unfold dAt at *
  omega
def dL (a b : List Cmd) : List Cmd := (b.drop (dAt a b)).take (b.length - dTl a b - dAt a b)
def dRes (a b : List Cmd) : AV := if eqD a b then .nilsl else .psl [[I (dAt a b), I ((a.length - dTl a b - dAt a b : Nat) : Int), cmds (dL a b)]]
@[simp] theorem kMnmx_min (h : AH) (a b : Int) : kMnmx h false (.int .i64 a) (.int .i64 b) = some (.int .i64 (if b < a then b else a), h) := Eq.trans rfl rfl
theorem kSl_cmds (h : AH) (l : List Cmd) (i j : Nat) (h1 : i ≤ j) (h2 : j ≤ l.length) : kSl h 22 (cmds l) (some (I i)) (some (I j)) none = some (cmds ((l.drop i).take (j - i)), h) := by
  have hall : (l.map Cmd.enc).all (fun x => x.length == 22) = true := by simp
  have q1 : (i : Int) ≤ j := by omega
  have q2 : (j : Int) ≤ l.length := by omega
  simp [kSl, aslice, asl, alen, abd, aidx, cmds, q1, q2]
@[simp] theorem stow_cmds (l : List Cmd) : stow (cmds l) = true := by unfold cmds; exact stow_psl _
@[simp] theorem cells_cmds (l : List Cmd) : (cmds l).cells = [cmds l] := Eq.trans rfl rfl
@[simp] theorem one_cmds (l : List Cmd) : (cmds l).one = true := Eq.trans rfl rfl
def d1I (a b : List Cmd) (m : Nat) (vs : List AV) (h : AH) : Prop := ∃ i : Nat, ∃ (ha : i ≤ a.length) (hb : i ≤ b.length), m = a.length - i ∧ vs = [cmds a, cmds b, I i] ∧ ∀ j (h : j < i), a[j]'(by omega) = b[j]'(by omega)
def both (a b : List Cmd) (i : Nat) : Bool := match a[i]?, b[i]? with | some x, some y => eqD x y | _, _ => false
theorem min_lt {i m n : Nat} : ((i : Int) < if n < m then (n : Int) else m) ↔ i < m ∧ i < n := by split <;> omega
def d2I (a b : List Cmd) (i m : Nat) (vs : List AV) (h : AH) : Prop := ∃ t : Nat, ∃ (ha : t ≤ a.length - i) (hb : t ≤ b.length - i), m = a.length - t ∧ vs = [cmds a, cmds b, I i, I t] ∧ ∀ j (h : j < t), a[a.length - 1 - j]'(by omega) = b[b.length - 1 - j]'(by omega)
theorem diff_c (a b : List Cmd) (hx : Lite a ∧ Lite b) : Pure Try.prog 27 [cmds a, cmds b] (dRes a b) := by
  refine .of (by simp [cmds_cl]) (C27 (tb_ok [e58, e11, e59]) ?_)
  obtain ⟨ha, hb⟩ := hx
  have ha1 := ha.1; have hb1 := hb.1
  have ha2 := ha.sm; have hb2 := hb.sm
  simp (disch := first | (simp; done) | omega | (simp only [nx_add, nx_set, nx_kill, nx_mk, nx_emp]; omega) | fail) [g27, ha2, hb2]
  refine ⟨fun he => by simp [dRes, he]; exact .nilsl0, fun hne => ?_⟩
  refine ⟨d1I a b, a.length, ⟨0, by omega, by omega, rfl, rfl, fun j h => by omega⟩, ?_⟩
  rintro m vs h ⟨i, hia, hib, rfl, rfl, hall⟩
  simp (disch := first | (simp; done) | omega | (simp only [nx_add, nx_set, nx_kill, nx_mk, nx_emp]; omega) | fail) [g27_l3]
  refine ⟨fun vs h => vs = [cmds a, cmds b, I i, .bool (both a b i)], ?_, ?_⟩
  · by_cases q : i < a.length ∧ i < b.length
    · obtain ⟨q1, q2⟩ := q
      have s1 : SmC a[i] := ha2.2 _ (List.getElem_mem q1)
      have s2 : SmC b[i] := hb2.2 _ (List.getElem_mem q2)
      have qm : ((i : Int) < if b.length < a.length then (b.length : Int) else a.length) := min_lt.2 ⟨q1, q2⟩
      simp (disch := first | (simp; done) | omega | (simp only [nx_add, nx_set, nx_kill, nx_mk, nx_emp]; omega) | fail) [g27_a1, q1, q2, qm, s1, s2, both]
      simp (disch := first | (simp; done) | omega | (simp only [nx_add, nx_set, nx_kill, nx_mk, nx_emp]; omega) | fail) [g27_s2, q1, q2, qm, s1, s2, both]
      simp (disch := first | (simp; done) | omega | (simp only [nx_add, nx_set, nx_kill, nx_mk, nx_emp]; omega) | fail) [g27_s1, q1, q2, qm, s1, s2, both]
    · have qm : ¬ ((i : Int) < if b.length < a.length then (b.length : Int) else a.length) := fun hh => q (min_lt.1 hh)
      have hbo : both a b i = false := by
        unfold both
        by_cases q1 : i < a.length
        · have q2 : ¬ i < b.length := fun hh => q ⟨q1, hh⟩
          simp [q1, q2]
        · simp [q1]
      simp (disch := first | (simp; done) | omega | (simp only [nx_add, nx_set, nx_kill, nx_mk, nx_emp]; omega) | fail) [g27_a1, qm, hbo]
      simp (disch := first | (simp; done) | omega | (simp only [nx_add, nx_set, nx_kill, nx_mk, nx_emp]; omega) | fail) [g27_s2, qm, hbo]
      simp (disch := first | (simp; done) | omega | (simp only [nx_add, nx_set, nx_kill, nx_mk, nx_emp]; omega) | fail) [g27_s1, qm, hbo]
  rintro vs h rfl
  simp (disch := first | (simp; done) | omega | (simp only [nx_add, nx_set, nx_kill, nx_mk, nx_emp]; omega) | fail) [g27_j2]
  have hbo : ∀ h1 : i < a.length, ∀ h2 : i < b.length, both a b i = eqD a[i] b[i] := fun h1 h2 => by simp [both, h1, h2]
  refine ⟨fun hbt => ?_, fun hbf => ?_⟩
  · have q : i < a.length ∧ i < b.length := by
      unfold both at hbt
      by_cases q1 : i < a.length
      · by_cases q2 : i < b.length
        · exact ⟨q1, q2⟩
        · simp [q1, q2] at hbt
      · simp [q1] at hbt
    obtain ⟨q1, q2⟩ := q
    rw [hbo q1 q2] at hbt
    refine ⟨a.length - (i + 1), by omega, i + 1, by omega, by omega, rfl, by simp, fun j hj => ?_⟩
    by_cases hji : j < i
    · exact hall j hji
    · obtain rfl : j = i := by omega
      exact eqD_iff.1 hbt
  · have hat : dAt a b = i := lcp_unique hia hib hall fun h1 h2 e => by rw [hbo h1 h2, eqD_iff.2 e] at hbf; cases hbf
    simp (disch := first | (simp; done) | omega | (simp only [nx_add, nx_set, nx_kill, nx_mk, nx_emp]; omega) | fail) [g27_j10, g27_c9]
    refine ⟨d2I a b i, a.length, ⟨0, by omega, by omega, rfl, rfl, fun j h => by omega⟩, ?_⟩
    rintro m vs h ⟨t, hta, htb, rfl, rfl, hall2⟩
    simp (disch := first | (simp; done) | omega | (simp only [nx_add, nx_set, nx_kill, nx_mk, nx_emp]; omega) | fail) [g27_l6]
    refine ⟨fun vs h => vs = [cmds a, cmds b, I i, I t, .bool (both (a.drop i).reverse (b.drop i).reverse t)], ?_, ?_⟩
    · by_cases q : t < a.length - i ∧ t < b.length - i
      · obtain ⟨q1, q2⟩ := q
        have e1 : ((a.length : Int) - 1 - t) = ((a.length - 1 - t : Nat) : Int) := by omega
        have e2 : ((b.length : Int) - 1 - t) = ((b.length - 1 - t : Nat) : Int) := by omega
        have s1 : SmC (a[a.length - 1 - t]'(by omega)) := ha2.2 _ (List.getElem_mem _)
        have s2 : SmC (b[b.length - 1 - t]'(by omega)) := hb2.2 _ (List.getElem_mem _)
        have qm : ((t : Int) < (if b.length < a.length then (b.length : Int) else a.length) - i) := by split <;> omega
        have w1 : a.length - 1 - t < a.length := by omega
        have w2 : b.length - 1 - t < b.length := by omega
        have hbb : both (a.drop i).reverse (b.drop i).reverse t = eqD (a[a.length - 1 - t]'(by omega)) (b[b.length - 1 - t]'(by omega)) := by
          unfold both
          have z1 : t < (a.drop i).reverse.length := by simp; omega
          have z2 : t < (b.drop i).reverse.length := by simp; omega
          rw [List.getElem?_eq_getElem z1, List.getElem?_eq_getElem z2]
          simp
          congr 2 <;> congr 1 <;> omega
        rw [hbb]
        simp (disch := first | (simp; done) | omega | (simp only [nx_add, nx_set, nx_kill, nx_mk, nx_emp]; omega) | fail) [g27_a4, qm, s1, s2, w1, w2, e1, e2]
        simp (disch := first | (simp; done) | omega | (simp only [nx_add, nx_set, nx_kill, nx_mk, nx_emp]; omega) | fail) [g27_s5, qm, s1, s2, w1, w2, e1, e2]
        simp (disch := first | (simp; done) | omega | (simp only [nx_add, nx_set, nx_kill, nx_mk, nx_emp]; omega) | fail) [g27_s4, qm, s1, s2, w1, w2, e1, e2]
        simp (disch := first | (simp; done) | omega | (simp only [nx_add, nx_set, nx_kill, nx_mk, nx_emp]; omega) | fail) [g27_s3, qm, s1, s2, w1, w2, e1, e2]
      · have qm : ¬ ((t : Int) < (if b.length < a.length then (b.length : Int) else a.length) - i) := by split <;> omega
        have hbb : both (a.drop i).reverse (b.drop i).reverse t = false := by
          unfold both
          by_cases z1 : t < (a.drop i).reverse.length
          · have z2 : ¬ t < (b.drop i).reverse.length := by simp at z1 ⊢; omega
            rw [List.getElem?_eq_getElem z1, List.getElem?_eq_none (by omega)]
          · rw [List.getElem?_eq_none (by omega)]
        simp (disch := first | (simp; done) | omega | (simp only [nx_add, nx_set, nx_kill, nx_mk, nx_emp]; omega) | fail) [g27_a4, qm, hbb]
        simp (disch := first | (simp; done) | omega | (simp only [nx_add, nx_set, nx_kill, nx_mk, nx_emp]; omega) | fail) [g27_s5, qm, hbb]
        simp (disch := first | (simp; done) | omega | (simp only [nx_add, nx_set, nx_kill, nx_mk, nx_emp]; omega) | fail) [g27_s4, qm, hbb]
        simp (disch := first | (simp; done) | omega | (simp only [nx_add, nx_set, nx_kill, nx_mk, nx_emp]; omega) | fail) [g27_s3, qm, hbb]
    · rintro vs h rfl
      simp (disch := first | (simp; done) | omega | (simp only [nx_add, nx_set, nx_kill, nx_mk, nx_emp]; omega) | fail) [g27_j5]
      have hgen : ∀ (h1 : t < a.length - i) (h2 : t < b.length - i), both (a.drop i).reverse (b.drop i).reverse t = eqD (a[a.length - 1 - t]'(by omega)) (b[b.length - 1 - t]'(by omega)) := fun h1 h2 => by
        unfold both
        have z1 : t < (a.drop i).reverse.length := by simp; omega
        have z2 : t < (b.drop i).reverse.length := by simp; omega
        rw [List.getElem?_eq_getElem z1, List.getElem?_eq_getElem z2]
        simp
        congr 2 <;> congr 1 <;> omega
      refine ⟨fun hbt => ?_, fun hbf2 => ?_⟩
      · have q : t < a.length - i ∧ t < b.length - i := by
          unfold both at hbt
          by_cases q1 : t < (a.drop i).reverse.length
          · by_cases q2 : t < (b.drop i).reverse.length
            · simp at q1 q2; omega
            · rw [List.getElem?_eq_getElem q1, List.getElem?_eq_none (by omega)] at hbt; cases hbt
          · rw [List.getElem?_eq_none (by omega)] at hbt; cases hbt
        rw [hgen q.1 q.2] at hbt
        refine ⟨a.length - (t + 1), by omega, t + 1, by omega, by omega, rfl, by simp, fun j hj => ?_⟩
        by_cases hji : j < t
        · exact hall2 j hji
        · obtain rfl : j = t := by omega
          exact eqD_iff.1 hbt
      · have htl : dTl a b = t := by
          unfold dTl
          rw [hat]
          refine lcp_unique (by simp; omega) (by simp; omega) (fun j hj => ?_) (fun h1 h2 e => ?_)
          · have := hall2 j hj
            simp
            have z1 : i + (a.length - i - 1 - j) = a.length - 1 - j := by omega
            have z2 : i + (b.length - i - 1 - j) = b.length - 1 - j := by omega
            simp only [z1, z2]; exact this
          · simp at h1 h2
            rw [hgen (by omega) (by omega)] at hbf2
            simp at e
            have z1 : i + (a.length - i - 1 - t) = a.length - 1 - t := by omega
            have z2 : i + (b.length - i - 1 - t) = b.length - 1 - t := by omega
            simp only [z1, z2] at e
            rw [eqD_iff.2 e] at hbf2; cases hbf2
        have hLL : Lite (dL a b) := ⟨by unfold dL; simp; omega, fun c hc => hb.2 c (List.mem_of_mem_drop (List.mem_of_mem_take hc))⟩
        have hsl : ∀ h, kSl h 22 (cmds b) (some (I i)) (some (I ((b.length : Int) - t))) none = some (cmds (dL a b), h) := fun h => by
          have := kSl_cmds h b i (b.length - t) (by omega) (by omega)
          rw [show ((b.length - t : Nat) : Int) = (b.length : Int) - t by omega] at this
          rw [this]; unfold dL; rw [htl, hat]
        simp (disch := first | (simp; done) | omega | (simp only [nx_add, nx_set, nx_kill, nx_mk, nx_emp]; omega) | fail) [g27_j8, hsl, hLL]
        simp (disch := first | (simp; done) | omega | (simp only [nx_add, nx_set, nx_kill, nx_mk, nx_emp]; omega) | fail) [g27_c7, hsl, hLL]
        simp (disch := first | (simp; done) | omega | (simp only [nx_add, nx_set, nx_kill, nx_mk, nx_emp]; omega) | fail) [g27_s6, hsl, hLL]
        have hres : dRes a b = .psl ([()].map fun _ => [I (i : Int), I ((a.length : Int) - t - i), cmds (dL a b)]) := by
          unfold dRes
          rw [if_neg (by simpa using hne), htl, hat, show ((a.length - t - i : Nat) : Int) = (a.length : Int) - t - i by omega]; rfl
        rw [hres]
        refine frz_rows (l := [()]) (z := 3) (fun _ => rfl) (by simp) (fun _ _ c hc => ?_)
        simp at hc
        rcases hc with rfl | rfl | rfl
        · exact .int _ _
        · exact .int _ _
        · exact cmds_pl _ _
def e27 : QE Try.prog := .pure 27 (fun (((a, b)) : List Cmd × List Cmd) => [cmds a, cmds b]) (fun (((a, b)) : List Cmd × List Cmd) => Lite a ∧ Lite b) (fun (((a, b)) : List Cmd × List Cmd) => dRes a b) (fun ⟨a, b⟩ hx => diff_c a b hx)
@[simp ↓] theorem e27_h (l : List (QE Try.prog)) (args : List AV) (h : AH) (Q : AV → AH → Prop) : tb (e27 :: l) 27 args h Q = e27.q args h Q := tb_here e27 l 27 args h Q rfl
@[simp ↓] theorem e27_t (l : List (QE Try.prog)) (f : Nat) (args : List AV) (h : AH) (Q : AV → AH → Prop) (hf : 27 ≠ f) : tb (e27 :: l) f args h Q = tb l f args h Q := tb_there e27 l f args h Q hf
@[simp ↓] theorem e27_q (a : List Cmd) (b : List Cmd) (h : AH) (Q : AV → AH → Prop) : e27.q [cmds a, cmds b] h Q = ((Lite a ∧ Lite b) ∧ Q (dRes a b) h) := (QE.pure_q (x := (a, b)) (by rintro ⟨_, _⟩ h; simp at h; simp [h]) h Q)
end Go.Proofs.Ytpnekpbehcbmkaa
end
noncomputable section
namespace Go.Proofs.Ytpnekpbehcbmkaa
open Go.RowKit Go.Shelf Go.Eng
attribute [local go_sem] Oper.semAt_some
set_option maxRecDepth 100000 in
set_option maxHeartbeats 2000000 in
theorem back85 : BackOk Try.prog 85 := by
  refine ⟨⟨_, Try.func85, rfl, by decide⟩, ?_⟩
  intro l bx len J Jx W hlen hmem hY h0
  refine callsIn_wide.1 (?_ : CallsIn Fence.wide 1 Try.prog 85 _ W _)
  refine callsIn_of_wp Try.func85 rfl trivial ?_ rfl
  simp only [Try.ntmps85, List.size_toArray, List.length_cons, List.length_nil, Nat.reduceAdd, Nat.reduceSub, Array.replicate_succ, Array.replicate_zero, List.push_toArray, List.append_toArray, List.nil_append, List.cons_append]
  have hlen' : len ≤ 9223372036854775807 := hlen
  rcases hmem 0 W h0 with ⟨hz, hc⟩ | ⟨b, o, cap, hc, hel⟩
  · subst hz
    gi_wp2
    gi_loopw [3] (fun i wr => i = .int .i64 (-1) ∧ J 0 wr) (fun _ _ => 0)
    case atStart => exact ⟨rfl, h0⟩
    case round =>
      obtain ⟨rfl, hJs⟩ := hrel
      gi_wp2
      go_end0
      exact ⟨⟨_, rfl⟩, .inl hJs⟩
  · gi_wp2
    gi_loopw [3] (fun i wr => ∃ k : Nat, k ≤ len ∧ i = .int .i64 ((len : Int) - 1 - k) ∧ J k wr) (fun i _ => ((intOf i) + 1).toNat)
    case atStart => exact ⟨0, Nat.zero_le _, by simp, h0⟩
    case round =>
      obtain ⟨k, hk, rfl, hJs⟩ := hrel
      by_cases hlt : k < len
      · rcases hmem k wr hJs with ⟨hz, hc2⟩ | ⟨b2, o2, cap2, hc2, hel2⟩
        · omega
        · obtain ⟨v, hv⟩ := hel2 (len - 1 - k) (by omega)
          obtain ⟨fn, tmps, assign, body, hy, hR⟩ := hY k wr b2 o2 cap2 v hlt hJs hc2 hv
          have e1 : ((len - 1 - k : Nat) : Int) = (len : Int) - 1 - k := by omega
          rw [e1] at hy
          gi_wp2
          refine hR.mono ?_
          rintro e W3 (⟨rfl, hJ3⟩ | ⟨rfl, hJx3⟩)
          · gi_wp2
            go_roundw
            case rel => exact ⟨k + 1, by omega, by simp; omega, hJ3⟩
            case measure => simp [intOf]; omega
          · gi_wp2
            refine bodyPost_ret (results_none rfl _ _ _) rfl ?_
            exact ⟨⟨_, rfl⟩, .inr hJx3⟩
      · obtain rfl : k = len := by omega
        gi_wp2
        go_end0
        exact ⟨⟨_, rfl⟩, .inl hJs⟩
end Go.Proofs.Ytpnekpbehcbmkaa
end
