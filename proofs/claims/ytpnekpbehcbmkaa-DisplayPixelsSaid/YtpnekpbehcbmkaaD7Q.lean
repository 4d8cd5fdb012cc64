/- What applying a transform to a rectangle answers. -/
import Derived.Test.YtpnekpbehcbmkaaD7P
set_option linter.unusedSimpArgs false
set_option linter.unusedVariables false
set_option linter.unnecessarySimpa false
noncomputable section
namespace Go.Proofs.Ytpnekpbehcbmkaa
open Go.Eng
def rotR : Nat → Rect → Rect
  | 0, r => r
  | n + 1, r => rotR n ⟨-r.y - r.h, r.x, r.h, r.w⟩
def mirR (t : Tf) (r : Rect) : Rect := ⟨if t.mirror then -r.x - r.w else r.x, r.y, r.w, r.h⟩
def scR (t : Tf) (q : Rect) : Rect := ⟨q.x * t.scale + t.dx, q.y * t.scale + t.dy, q.w * t.scale, q.h * t.scale⟩
def apl (t : Tf) (r : Rect) : Rect := if okT t && okR r then scR t (rotR t.turn.toNat (mirR t r)) else zR
def Box (r : Rect) : Prop := -2097152 ≤ r.x ∧ r.x + r.w ≤ 2097152 ∧ -2097152 ≤ r.y ∧ r.y + r.h ≤ 2097152 ∧ 0 ≤ r.w ∧ 0 ≤ r.h
theorem mirR_box {t : Tf} {r : Rect} (h : okR r = true) : Box (mirR t r) := by
  have := okR_bd h
  unfold Box mirR
  cases t.mirror <;> simp <;> omega
theorem mul_k {a b : Int} (h1 : -4194304 ≤ a) (h2 : a ≤ 4194304) (h3 : 0 ≤ b) (h4 : b ≤ 16) : -67108864 ≤ a * b ∧ a * b ≤ 67108864 := mul_bd (A := 4194304) (B := 16) h1 h2 h3 h4
theorem mul_e {a b : Int} (h1 : -4194304 ≤ a) (h2 : a ≤ 4194304) (h3 : 0 ≤ b) (h4 : b ≤ 16) (h : AH) : kArith h .mul (I a) (I b) = some (I (a * b), h) := by
  obtain ⟨m1, m2⟩ := mul_k h1 h2 h3 h4
  exact kArith_mul h _ _ (Int.le_trans (by decide) m1) (Int.le_trans m2 (by decide))
theorem mul_a {a b d : Int} (h1 : -4194304 ≤ a) (h2 : a ≤ 4194304) (h3 : 0 ≤ b) (h4 : b ≤ 16) (h5 : -1048576 ≤ d) (h6 : d ≤ 1048576) (h : AH) : kArith h .add (I (a * b)) (I d) = some (I (a * b + d), h) := by
  obtain ⟨m1, m2⟩ := mul_k h1 h2 h3 h4
  generalize a * b = p at m1 m2 ⊢
  exact kArith_add h _ _ (by omega) (by omega)
def apI (t : Tf) (r : Rect) (m : Nat) (vs : List AV) (h : AH) : Prop := ∃ (i : Nat) (q : Rect), (i : Int) ≤ t.turn ∧ m = t.turn.toNat - i ∧ vs = [.ptr 0 0, .ptr 1 0, .ptr 2 0, I i] ∧ h.cellsAt 0 = some t.enc ∧ h.cellsAt 1 = some q.enc ∧ h.cellsAt 2 = some [I 0, I 0, I 0, I 0] ∧ rotR (t.turn.toNat - i) q = rotR t.turn.toNat (mirR t r) ∧ Box q
set_option maxHeartbeats 1000000 in
theorem apply_c (t : Tf) (r : Rect) : Pure Try.prog 76 [.agg t.enc, .agg r.enc] (.agg (apl t r).enc) := by
  refine .of (by simp [Tf.cl, Rect.cl]) (C76 (tb_ok [e65, e36]) ?_)
  simp (disch := first | (simp; done) | omega | (simp only [nx_add, nx_set, nx_kill, nx_mk, nx_emp]; omega) | fail) [g76]
  refine ⟨fun vs h => vs = [.ptr 0 0, .ptr 1 0, .ptr 2 0, .bool (!(okT t && okR r))] ∧ h.cellsAt 0 = some t.enc ∧ h.cellsAt 1 = some r.enc ∧ h.cellsAt 2 = some [I 0, I 0, I 0, I 0] ∧ h.nx = 3, ?_, ?_⟩
  · cases q1 : okT t <;> cases q2 : okR r <;> simp (disch := first | (simp; done) | omega | (simp only [nx_add, nx_set, nx_kill, nx_mk, nx_emp]; omega) | fail) [g76_a1, q1, q2] <;> simp (disch := first | (simp; done) | omega | (simp only [nx_add, nx_set, nx_kill, nx_mk, nx_emp]; omega) | fail) [g76_s1, q1, q2]
  rintro vs h ⟨rfl, h0, h1, h2, hn⟩
  cases hab : (okT t && okR r)
  · simp (disch := first | (simp; done) | omega | (simp only [nx_add, nx_set, nx_kill, nx_mk, nx_emp]; omega) | fail) [g76_j7, h0, h1, h2, hn]
    simp [apl, hab, zR, Rect.enc]
  · have ht : okT t = true := by simp at hab; exact hab.1
    have hr : okR r = true := by simp at hab; exact hab.2
    have bt := okT_bd ht
    have br := okR_bd hr
    simp (disch := first | (simp; done) | omega | (simp only [nx_add, nx_set, nx_kill, nx_mk, nx_emp]; omega) | fail) [g76_j7, h0, h1, h2, hn]
    refine ⟨fun vs h => vs = [.ptr 0 0, .ptr 1 0, .ptr 2 0] ∧ h.cellsAt 0 = some t.enc ∧ h.cellsAt 1 = some (mirR t r).enc ∧ h.cellsAt 2 = some [I 0, I 0, I 0, I 0], ?_, ?_⟩
    · cases hm : t.mirror <;> simp (disch := first | (simp; done) | omega | (simp only [nx_add, nx_set, nx_kill, nx_mk, nx_emp]; omega) | fail) [g76_a2, h0, h1, h2, hn, hm, mirR, Rect.enc]
    rintro vs h ⟨rfl, h0, h1, h2⟩
    simp (disch := first | (simp; done) | omega | (simp only [nx_add, nx_set, nx_kill, nx_mk, nx_emp]; omega) | fail) [g76_j6]
    refine ⟨apI t r, t.turn.toNat, ⟨0, mirR t r, by omega, rfl, rfl, h0, h1, h2, rfl, mirR_box hr⟩, ?_⟩
    rintro m vs h ⟨i, q, hi, rfl, rfl, h0, h1, h2, hrq, hb⟩
    obtain ⟨b1, b2, b3, b4, b5, b6⟩ := hb
    by_cases hlt : (i : Int) < t.turn
    · simp (disch := first | (simp; done) | omega | (simp only [nx_add, nx_set, nx_kill, nx_mk, nx_emp]; omega) | fail) [g76_l3, h0, h1, h2, hlt]
      simp (disch := first | (simp; done) | omega | (simp only [nx_add, nx_set, nx_kill, nx_mk, nx_emp]; omega) | fail) [g76_s3, h0, h1, h2, hlt]
      simp (disch := first | (simp; done) | omega | (simp only [nx_add, nx_set, nx_kill, nx_mk, nx_emp]; omega) | fail) [g76_s2, h0, h1, h2, hlt]
      refine ⟨t.turn.toNat - (i + 1), by omega, i + 1, ⟨-q.y - q.h, q.x, q.h, q.w⟩, by omega, rfl, by simp, ?_⟩
      simp (disch := first | (simp; done) | omega | (simp only [nx_add, nx_set, nx_kill, nx_mk, nx_emp]; omega) | fail) [h0, h1, h2, Rect.enc]
      refine ⟨?_, ?_⟩
      · rw [← hrq, show t.turn.toNat - i = (t.turn.toNat - (i + 1)) + 1 by omega]; rfl
      · unfold Box; simp; omega
    · have hz : t.turn.toNat - i = 0 := by omega
      rw [hz] at hrq
      have hs0 : 0 ≤ t.scale := by omega
      have x1 : q.x ≤ 4194304 := by omega
      have x2 : q.y ≤ 4194304 := by omega
      have x3 : q.w ≤ 4194304 := by omega
      have x4 : q.h ≤ 4194304 := by omega
      have y1 : -4194304 ≤ q.x := by omega
      have y2 : -4194304 ≤ q.y := by omega
      have y3 : -4194304 ≤ q.w := by omega
      have y4 : -4194304 ≤ q.h := by omega
      obtain ⟨_, _, _, t4, t5, t6, t7, t8⟩ := bt
      have k1 := fun h => mul_e y1 x1 hs0 t4 h
      have k2 := fun h => mul_e y2 x2 hs0 t4 h
      have k3 := fun h => mul_e y3 x3 hs0 t4 h
      have k4 := fun h => mul_e y4 x4 hs0 t4 h
      have k5 := fun h => mul_a y1 x1 hs0 t4 t5 t6 h
      have k6 := fun h => mul_a y2 x2 hs0 t4 t7 t8 h
      simp (disch := first | (simp; done) | omega | (simp only [nx_add, nx_set, nx_kill, nx_mk, nx_emp]; omega) | fail) [g76_l3, h0, h1, h2, hlt]
      clear x1 x2 x3 x4 y1 y2 y3 y4
      simp (disch := first | (simp; done) | fail) only [g76_j5, g76_c4, xs]
      simp (disch := first | (simp; done) | fail) [g76_c4, h0, h1, h2, k1, k5, -kArith_mul, -kArith_add]
      simp (disch := first | (simp; done) | fail) [g76_s6, h0, h1, h2, k2, k6, -kArith_mul, -kArith_add]
      simp (disch := first | (simp; done) | fail) [g76_s5, h0, h1, h2, k3, -kArith_mul, -kArith_add]
      simp (disch := first | (simp; done) | fail) [g76_s4, h0, h1, h2, k4, -kArith_mul, -kArith_add]
      have : apl t r = scR t q := by
        rw [show q = rotR t.turn.toNat (mirR t r) from hrq]
        unfold apl; rw [if_pos hab]
      rw [this]
      simp [scR, Rect.enc]
def e76 : QE Try.prog := .pure 76 (fun (((t, r)) : Tf × Rect) => [.agg t.enc, .agg r.enc]) (fun (((t, r)) : Tf × Rect) => True) (fun (((t, r)) : Tf × Rect) => .agg (apl t r).enc) (fun ⟨t, r⟩ _ => apply_c t r)
@[simp ↓] theorem e76_h (l : List (QE Try.prog)) (args : List AV) (h : AH) (Q : AV → AH → Prop) : tb (e76 :: l) 76 args h Q = e76.q args h Q := tb_here e76 l 76 args h Q rfl
@[simp ↓] theorem e76_t (l : List (QE Try.prog)) (f : Nat) (args : List AV) (h : AH) (Q : AV → AH → Prop) (hf : 76 ≠ f) : tb (e76 :: l) f args h Q = tb l f args h Q := tb_there e76 l f args h Q hf
@[simp ↓] theorem e76_q (t : Tf) (r : Rect) (h : AH) (Q : AV → AH → Prop) : e76.q [.agg t.enc, .agg r.enc] h Q = Q (.agg (apl t r).enc) h := (QE.pure_q (x := (t, r)) (by rintro ⟨_, _⟩ h; simp at h; simp [h]) h Q).trans (by simp)
@[simp ↓] theorem e76_q_t (t_t : Int) (t_m : Bool) (t_s : Int) (t_dx : Int) (t_dy : Int) (r : Rect) (h : AH) (Q : AV → AH → Prop) : e76.q [.agg [I t_t, .bool t_m, I t_s, I t_dx, I t_dy], .agg r.enc] h Q = Q (.agg (apl (Tf.mk t_t t_m t_s t_dx t_dy) r).enc) h := e76_q ⟨t_t, t_m, t_s, t_dx, t_dy⟩ r h Q
@[simp ↓] theorem e76_q_r (t : Tf) (r_x : Int) (r_y : Int) (r_w : Int) (r_h : Int) (h : AH) (Q : AV → AH → Prop) : e76.q [.agg t.enc, .agg [I r_x, I r_y, I r_w, I r_h]] h Q = Q (.agg (apl t (Rect.mk r_x r_y r_w r_h)).enc) h := e76_q t ⟨r_x, r_y, r_w, r_h⟩ h Q
@[simp ↓] theorem e76_q_t_r (t_t : Int) (t_m : Bool) (t_s : Int) (t_dx : Int) (t_dy : Int) (r_x : Int) (r_y : Int) (r_w : Int) (r_h : Int) (h : AH) (Q : AV → AH → Prop) : e76.q [.agg [I t_t, .bool t_m, I t_s, I t_dx, I t_dy], .agg [I r_x, I r_y, I r_w, I r_h]] h Q = Q (.agg (apl (Tf.mk t_t t_m t_s t_dx t_dy) (Rect.mk r_x r_y r_w r_h)).enc) h := e76_q ⟨t_t, t_m, t_s, t_dx, t_dy⟩ ⟨r_x, r_y, r_w, r_h⟩ h Q
end Go.Proofs.Ytpnekpbehcbmkaa
