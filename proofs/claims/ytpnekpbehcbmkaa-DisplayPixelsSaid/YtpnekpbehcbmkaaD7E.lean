/- What taking a point back through a transform computes: the program and the reference answer alike. -/
import Derived.Test.YtpnekpbehcbmkaaD7D
set_option linter.unusedSimpArgs false
set_option linter.unusedVariables false
set_option linter.unnecessarySimpa false
namespace Go.Proofs.Ytpnekpbehcbmkaa
open Go.Eng
def rot : Nat → Int → Int → Int × Int
  | 0, x, y => (x, y)
  | n + 1, x, y => rot n (-y) x
theorem rot_bd (B : Int) : ∀ (n : Nat) (x y : Int), -B ≤ x → x ≤ B → -B ≤ y → y ≤ B → -B ≤ (rot n x y).1 ∧ (rot n x y).1 ≤ B ∧ -B ≤ (rot n x y).2 ∧ (rot n x y).2 ≤ B
  | 0, x, y, h1, h2, h3, h4 => ⟨h1, h2, h3, h4⟩
  | n + 1, x, y, h1, h2, h3, h4 => rot_bd B n (-y) x (by omega) (by omega) h1 h2
def mx (t : Tf) (x : Int) : Int := if t.mirror then -x else x
def lin (t : Tf) (x y : Int) : Pt := ⟨(rot t.turn.toNat (mx t x) y).1 * t.scale, (rot t.turn.toNat (mx t x) y).2 * t.scale⟩
theorem okT_bd {t : Tf} (h : okT t = true) : 0 ≤ t.turn ∧ t.turn ≤ 3 ∧ 1 ≤ t.scale ∧ t.scale ≤ 16 ∧ -1048576 ≤ t.dx ∧ t.dx ≤ 1048576 ∧ -1048576 ≤ t.dy ∧ t.dy ≤ 1048576 := by grind [okT, within]
theorem mul_bd {a b A B : Int} (h1 : -A ≤ a) (h2 : a ≤ A) (h3 : 0 ≤ b) (h4 : b ≤ B) : -(A * B) ≤ a * b ∧ a * b ≤ A * B := by
  have hA : 0 ≤ A := by omega
  constructor
  · have h5 : -A * b ≤ a * b := Int.mul_le_mul_of_nonneg_right h1 h3
    have h6 : A * b ≤ A * B := Int.mul_le_mul_of_nonneg_left h4 hA
    have h7 : -A * b = -(A * b) := Int.neg_mul _ _
    omega
  · have h5 : a * b ≤ A * b := Int.mul_le_mul_of_nonneg_right h2 h3
    have h6 : A * b ≤ A * B := Int.mul_le_mul_of_nonneg_left h4 hA
    omega
abbrev Bd20 (x : Int) : Prop := -1048576 ≤ x ∧ x ≤ 1048576
theorem lin_bd {t : Tf} (ht : okT t = true) {x y : Int} (hx : Bd20 x) (hy : Bd20 y) : -16777216 ≤ (lin t x y).x ∧ (lin t x y).x ≤ 16777216 ∧ -16777216 ≤ (lin t x y).y ∧ (lin t x y).y ≤ 16777216 := by
  have hb := okT_bd ht
  have hm : Bd20 (mx t x) := by unfold mx; split <;> omega
  have hr := rot_bd 1048576 t.turn.toNat (mx t x) y hm.1 hm.2 hy.1 hy.2
  have h1 := mul_bd (A := 1048576) (B := 16) hr.1 hr.2.1 (by omega : 0 ≤ t.scale) (by omega)
  have h2 := mul_bd (A := 1048576) (B := 16) hr.2.2.1 hr.2.2.2 (by omega : 0 ≤ t.scale) (by omega)
  simp only [lin]; omega
def linI (t : Tf) (p : Pt) (m : Nat) (vs : List AV) (h : AH) : Prop := ∃ (i : Nat) (X Y : Int), (i : Int) ≤ t.turn ∧ m = t.turn.toNat - i ∧ vs = [.ptr 0 0, .ptr 1 0, .ptr 2 0, I i] ∧ h.cellsAt 0 = some t.enc ∧ h.cellsAt 1 = some (Pt.enc ⟨X, Y⟩) ∧ h.cellsAt 2 = some [I 0, I 0] ∧ rot (t.turn.toNat - i) X Y = rot t.turn.toNat (mx t p.x) p.y ∧ Bd20 X ∧ Bd20 Y
theorem linear_c (t : Tf) (p : Pt) (hx : okT t = true ∧ Bd20 p.x ∧ Bd20 p.y) : Pure Try.prog 66 [.agg t.enc, .agg p.enc] (.agg (lin t p.x p.y).enc) := by
  refine .of (by simp [Tf.cl, Pt.cl]) (C66 (tb_ok []) ?_)
  obtain ⟨ht, hx1, hy1⟩ := hx
  have hb := okT_bd ht
  have hm : Bd20 (mx t p.x) := by unfold mx; split <;> omega
  simp (disch := first | (simp; done) | omega | (simp only [nx_add, nx_set, nx_kill, nx_mk, nx_emp]; omega) | fail) [g66]
  refine ⟨fun vs h => vs = [.ptr 0 0, .ptr 1 0, .ptr 2 0] ∧ h.cellsAt 0 = some t.enc ∧ h.cellsAt 1 = some (Pt.enc ⟨mx t p.x, p.y⟩) ∧ h.cellsAt 2 = some [I 0, I 0], ?_, ?_⟩
  · cases hmi : t.mirror <;> simp (disch := first | (simp; done) | omega | (simp only [nx_add, nx_set, nx_kill, nx_mk, nx_emp]; omega) | fail) [g66_a1, mx, hmi, Pt.enc]
  · rintro vs h ⟨rfl, h0, h1, h2⟩
    refine ⟨linI t p, t.turn.toNat, ⟨0, mx t p.x, p.y, by omega, rfl, rfl, h0, h1, h2, rfl, hm, hy1⟩, ?_⟩
    rintro m vs h ⟨i, X, Y, hi, rfl, rfl, h0, h1, h2, hr, hX, hY⟩
    by_cases hlt : (i : Int) < t.turn
    · simp (disch := first | (simp; done) | omega | (simp only [nx_add, nx_set, nx_kill, nx_mk, nx_emp]; omega) | fail) [g66_l2, hlt, h0, h1, h2, g66_s1]
      refine ⟨t.turn.toNat - (i + 1), by omega, i + 1, -Y, X, by omega, rfl, by simp, ?_⟩
      simp (disch := first | (simp; done) | omega | (simp only [nx_add, nx_set, nx_kill, nx_mk, nx_emp]; omega) | fail) [h0, h1, h2, Pt.enc]
      refine ⟨?_, by omega⟩
      rw [← hr, show t.turn.toNat - i = (t.turn.toNat - (i + 1)) + 1 by omega]; rfl
    · have hz : t.turn.toNat - i = 0 := by omega
      rw [hz] at hr
      have h3 := mul_bd (A := 1048576) (B := 16) hX.1 hX.2 (by omega : 0 ≤ t.scale) (by omega)
      have h4 := mul_bd (A := 1048576) (B := 16) hY.1 hY.2 (by omega : 0 ≤ t.scale) (by omega)
      simp (disch := first | (simp; done) | omega | (simp only [nx_add, nx_set, nx_kill, nx_mk, nx_emp]; omega) | fail) [g66_l2, hlt, h0, h1, h2, g66_s1]
      simp (disch := first | (simp; done) | omega | (simp only [nx_add, nx_set, nx_kill, nx_mk, nx_emp]; omega) | fail) [h0, h1, h2, g66_j4, g66_c3, g66_s1, g66_s2]
      simp [lin, Pt.enc, ← hr, rot]
def e66 : QE Try.prog := .pure 66 (fun (((t, p)) : Tf × Pt) => [.agg t.enc, .agg p.enc]) (fun (((t, p)) : Tf × Pt) => okT t = true ∧ Bd20 p.x ∧ Bd20 p.y) (fun (((t, p)) : Tf × Pt) => .agg (lin t p.x p.y).enc) (fun ⟨t, p⟩ hx => linear_c t p hx)
@[simp ↓] theorem e66_h (l : List (QE Try.prog)) (args : List AV) (h : AH) (Q : AV → AH → Prop) : tb (e66 :: l) 66 args h Q = e66.q args h Q := tb_here e66 l 66 args h Q rfl
@[simp ↓] theorem e66_t (l : List (QE Try.prog)) (f : Nat) (args : List AV) (h : AH) (Q : AV → AH → Prop) (hf : 66 ≠ f) : tb (e66 :: l) f args h Q = tb l f args h Q := tb_there e66 l f args h Q hf
@[simp ↓] theorem e66_q (t : Tf) (p : Pt) (h : AH) (Q : AV → AH → Prop) : e66.q [.agg t.enc, .agg p.enc] h Q = ((okT t = true ∧ Bd20 p.x ∧ Bd20 p.y) ∧ Q (.agg (lin t p.x p.y).enc) h) := (QE.pure_q (x := (t, p)) (by rintro ⟨_, _⟩ h; simp at h; simp [h]) h Q)
@[simp ↓] theorem e66_q_t (t_t : Int) (t_m : Bool) (t_s : Int) (t_dx : Int) (t_dy : Int) (p : Pt) (h : AH) (Q : AV → AH → Prop) : e66.q [.agg [I t_t, .bool t_m, I t_s, I t_dx, I t_dy], .agg p.enc] h Q = ((okT (Tf.mk t_t t_m t_s t_dx t_dy) = true ∧ Bd20 p.x ∧ Bd20 p.y) ∧ Q (.agg (lin (Tf.mk t_t t_m t_s t_dx t_dy) p.x p.y).enc) h) := e66_q ⟨t_t, t_m, t_s, t_dx, t_dy⟩ p h Q
@[simp ↓] theorem e66_q_p (t : Tf) (p_x : Int) (p_y : Int) (h : AH) (Q : AV → AH → Prop) : e66.q [.agg t.enc, .agg [I p_x, I p_y]] h Q = ((okT t = true ∧ Bd20 (Pt.mk p_x p_y).x ∧ Bd20 (Pt.mk p_x p_y).y) ∧ Q (.agg (lin t (Pt.mk p_x p_y).x (Pt.mk p_x p_y).y).enc) h) := e66_q t ⟨p_x, p_y⟩ h Q
@[simp ↓] theorem e66_q_t_p (t_t : Int) (t_m : Bool) (t_s : Int) (t_dx : Int) (t_dy : Int) (p_x : Int) (p_y : Int) (h : AH) (Q : AV → AH → Prop) : e66.q [.agg [I t_t, .bool t_m, I t_s, I t_dx, I t_dy], .agg [I p_x, I p_y]] h Q = ((okT (Tf.mk t_t t_m t_s t_dx t_dy) = true ∧ Bd20 (Pt.mk p_x p_y).x ∧ Bd20 (Pt.mk p_x p_y).y) ∧ Q (.agg (lin (Tf.mk t_t t_m t_s t_dx t_dy) (Pt.mk p_x p_y).x (Pt.mk p_x p_y).y).enc) h) := e66_q ⟨t_t, t_m, t_s, t_dx, t_dy⟩ ⟨p_x, p_y⟩ h Q
def corI (t : Tf) (x y : Int) (m : Nat) (vs : List AV) (h : AH) : Prop := ∃ (i : Nat) (X Y : Int), (i : Int) ≤ t.turn ∧ m = t.turn.toNat - i ∧ vs = [I X, I Y, .ptr 0 0, I i] ∧ h.cellsAt 0 = some t.enc ∧ rot (t.turn.toNat - i) X Y = rot t.turn.toNat (mx t x) y ∧ Bd20 X ∧ Bd20 Y
theorem corner_c (t : Tf) (x y : Int) (hx : okT t = true ∧ Bd20 x ∧ Bd20 y) : Pure Try.prog 68 [.agg t.enc, I x, I y] (.tup [I ((lin t x y).x + t.dx), I ((lin t x y).y + t.dy)]) := by
  refine .of (by simp [Tf.cl, cI]) (C68 (tb_ok []) ?_)
  obtain ⟨ht, hx1, hy1⟩ := hx
  have hb := okT_bd ht
  have hm : Bd20 (mx t x) := by unfold mx; split <;> omega
  simp (disch := first | (simp; done) | omega | (simp only [nx_add, nx_set, nx_kill, nx_mk, nx_emp]; omega) | fail) [g68]
  refine ⟨fun vs h => vs = [I (mx t x), I y, .ptr 0 0] ∧ h.cellsAt 0 = some t.enc, ?_, ?_⟩
  · cases hmi : t.mirror <;> simp (disch := first | (simp; done) | omega | (simp only [nx_add, nx_set, nx_kill, nx_mk, nx_emp]; omega) | fail) [g68_a1, mx, hmi]
  · rintro vs h ⟨rfl, h0⟩
    refine ⟨corI t x y, t.turn.toNat, ⟨0, mx t x, y, by omega, rfl, rfl, h0, rfl, hm, hy1⟩, ?_⟩
    rintro m vs h ⟨i, X, Y, hi, rfl, rfl, h0, hr, hX, hY⟩
    by_cases hlt : (i : Int) < t.turn
    · simp (disch := first | (simp; done) | omega | (simp only [nx_add, nx_set, nx_kill, nx_mk, nx_emp]; omega) | fail) [g68_l2, hlt, h0]
      refine ⟨t.turn.toNat - (i + 1), by omega, i + 1, -Y, X, by omega, rfl, by simp, h0, ?_, by omega, by omega⟩
      rw [← hr, show t.turn.toNat - i = (t.turn.toNat - (i + 1)) + 1 by omega]; rfl
    · have hz : t.turn.toNat - i = 0 := by omega
      rw [hz] at hr
      have h3 := mul_bd (A := 1048576) (B := 16) hX.1 hX.2 (by omega : 0 ≤ t.scale) (by omega)
      have h4 := mul_bd (A := 1048576) (B := 16) hY.1 hY.2 (by omega : 0 ≤ t.scale) (by omega)
      simp (disch := first | (simp; done) | omega | (simp only [nx_add, nx_set, nx_kill, nx_mk, nx_emp]; omega) | fail) [g68_l2, hlt, h0]
      simp (disch := first | (simp; done) | omega | (simp only [nx_add, nx_set, nx_kill, nx_mk, nx_emp]; omega) | fail) [h0, g68_j4, g68_c3, g68_s1]
      simp [lin, ← hr, rot]
def e68 : QE Try.prog := .pure 68 (fun (((t, x, y)) : Tf × Int × Int) => [.agg t.enc, I x, I y]) (fun (((t, x, y)) : Tf × Int × Int) => okT t = true ∧ Bd20 x ∧ Bd20 y) (fun (((t, x, y)) : Tf × Int × Int) => .tup [I ((lin t x y).x + t.dx), I ((lin t x y).y + t.dy)]) (fun ⟨t, x, y⟩ hx => corner_c t x y hx)
@[simp ↓] theorem e68_h (l : List (QE Try.prog)) (args : List AV) (h : AH) (Q : AV → AH → Prop) : tb (e68 :: l) 68 args h Q = e68.q args h Q := tb_here e68 l 68 args h Q rfl
@[simp ↓] theorem e68_t (l : List (QE Try.prog)) (f : Nat) (args : List AV) (h : AH) (Q : AV → AH → Prop) (hf : 68 ≠ f) : tb (e68 :: l) f args h Q = tb l f args h Q := tb_there e68 l f args h Q hf
@[simp ↓] theorem e68_q (t : Tf) (x : Int) (y : Int) (h : AH) (Q : AV → AH → Prop) : e68.q [.agg t.enc, I x, I y] h Q = ((okT t = true ∧ Bd20 x ∧ Bd20 y) ∧ Q (.tup [I ((lin t x y).x + t.dx), I ((lin t x y).y + t.dy)]) h) := (QE.pure_q (x := (t, x, y)) (by rintro ⟨_, _, _⟩ h; simp at h; simp [h]) h Q)
@[simp ↓] theorem e68_q_t (t_t : Int) (t_m : Bool) (t_s : Int) (t_dx : Int) (t_dy : Int) (x : Int) (y : Int) (h : AH) (Q : AV → AH → Prop) : e68.q [.agg [I t_t, .bool t_m, I t_s, I t_dx, I t_dy], I x, I y] h Q = ((okT (Tf.mk t_t t_m t_s t_dx t_dy) = true ∧ Bd20 x ∧ Bd20 y) ∧ Q (.tup [I ((lin (Tf.mk t_t t_m t_s t_dx t_dy) x y).x + (Tf.mk t_t t_m t_s t_dx t_dy).dx), I ((lin (Tf.mk t_t t_m t_s t_dx t_dy) x y).y + (Tf.mk t_t t_m t_s t_dx t_dy).dy)]) h) := e68_q ⟨t_t, t_m, t_s, t_dx, t_dy⟩ x y h Q
def zT : Tf := ⟨0, false, 0, 0, 0⟩
def cmb (a b : Tf) : Tf := ⟨(if a.mirror then a.turn + 4 - b.turn else a.turn + b.turn) % 4, a.mirror != b.mirror, a.scale * b.scale, (lin a b.dx b.dy).x + a.dx, (lin a b.dx b.dy).y + a.dy⟩
def cmbOk (a b : Tf) : Bool := okT a && okT b && okT (cmb a b)
def cmbR (a b : Tf) : AV := if cmbOk a b then .tup [.agg (cmb a b).enc, I 0] else .tup [.agg zT.enc, I 1]
set_option maxHeartbeats 2000000 in
theorem combine_c (a b : Tf) : Pure Try.prog 39 [.agg a.enc, .agg b.enc] (cmbR a b) := by
  refine .of (by simp [Tf.cl]) (C39 (tb_ok [e65, e66]) ?_)
  simp (disch := first | (simp; done) | omega | (simp only [nx_add, nx_set, nx_kill, nx_mk, nx_emp]; omega) | fail) [g39]
  refine ⟨fun vs h => vs = [.ptr 0 0, .ptr 1 0, .ptr 2 0, .bool (!(okT a && okT b))] ∧ h.cellsAt 0 = some a.enc ∧ h.cellsAt 1 = some b.enc ∧ h.cellsAt 2 = some [I 0, .bool false, I 0, I 0, I 0] ∧ h.nx = 3, ?_, ?_⟩
  · cases ha : okT a <;> cases hb : okT b <;> simp (disch := first | (simp; done) | omega | (simp only [nx_add, nx_set, nx_kill, nx_mk, nx_emp]; omega) | fail) [g39_a1, g39_s1, ha, hb]
  · rintro vs h ⟨rfl, h0, h1, h2, hn⟩
    cases hab : (okT a && okT b)
    · have hc : cmbOk a b = false := by simp [cmbOk, hab]
      simp (disch := first | (simp; done) | omega | (simp only [nx_add, nx_set, nx_kill, nx_mk, nx_emp]; omega) | fail) [g39_j4, h0, h1, h2, cmbR, hc]
      simp [zT, Tf.enc]
    · simp at hab
      have ba := okT_bd hab.1
      have bb := okT_bd hab.2
      simp (disch := first | (simp; done) | omega | (simp only [nx_add, nx_set, nx_kill, nx_mk, nx_emp]; omega) | fail) [g39_j4, h0, h1, h2]
      refine ⟨fun vs h => vs = [.ptr 0 0, .ptr 1 0, .ptr 2 0, I (if a.mirror then a.turn + 4 - b.turn else a.turn + b.turn)] ∧ h.cellsAt 0 = some a.enc ∧ h.cellsAt 1 = some b.enc ∧ h.cellsAt 2 = some [I 0, .bool false, I 0, I 0, I 0] ∧ h.nx = 3, ?_, ?_⟩
      · cases hm : a.mirror <;> simp (disch := first | (simp; done) | omega | (simp only [nx_add, nx_set, nx_kill, nx_mk, nx_emp]; omega) | fail) [g39_a2, h0, h1, h2, hn]
      · rintro vs h ⟨rfl, h0, h1, h2, hn⟩
        have hl := lin_bd hab.1 (x := b.dx) (y := b.dy) (by omega) (by omega)
        have hs := mul_bd (a := a.scale) (b := b.scale) (A := 16) (B := 16) (by omega) (by omega) (by omega) (by omega)
        have hc : (cmb a b) = ⟨(if a.mirror then a.turn + 4 - b.turn else a.turn + b.turn) % 4, a.mirror != b.mirror, a.scale * b.scale, (lin a b.dx b.dy).x + a.dx, (lin a b.dx b.dy).y + a.dy⟩ := rfl
        have ht : 0 ≤ (if a.mirror then a.turn + 4 - b.turn else a.turn + b.turn) := by split <;> omega
        generalize (if a.mirror then a.turn + 4 - b.turn else a.turn + b.turn) = T at ht hc ⊢
        have ht2 := Int.tmod_eq_emod_of_nonneg (b := 4) ht
        simp (disch := first | (simp; done) | omega | (simp only [nx_add, nx_set, nx_kill, nx_mk, nx_emp]; omega) | fail) [g39_j3, h0, h1, h2, hn, hab.1, kArith_rem, ht2]
        simp (disch := first | (simp; done) | omega | (simp only [nx_add, nx_set, nx_kill, nx_mk, nx_emp]; omega) | fail) [g39_s5, h0, h1, h2, hn, hab.1, kArith_rem, ht2]
        simp (disch := first | (simp; done) | omega | (simp only [nx_add, nx_set, nx_kill, nx_mk, nx_emp]; omega) | fail) [g39_s4, h0, h1, h2, hn, hab.1, kArith_rem, ht2]
        simp (disch := first | (simp; done) | omega | (simp only [nx_add, nx_set, nx_kill, nx_mk, nx_emp]; omega) | fail) [g39_s3, h0, h1, h2, hn, hab.1, kArith_rem, ht2]
        simp (disch := first | (simp; done) | omega | (simp only [nx_add, nx_set, nx_kill, nx_mk, nx_emp]; omega) | fail) [g39_s2, h0, h1, h2, hn, hab.1, kArith_rem, ht2]
        have hc' : cmb a b = ⟨T % 4, !(a.mirror == b.mirror), a.scale * b.scale, (lin a b.dx b.dy).x + a.dx, (lin a b.dx b.dy).y + a.dy⟩ := hc
        rw [← hc']
        refine ⟨⟨by omega, by omega⟩, fun hk => ?_, fun hk => ?_⟩
        · simp [cmbR, cmbOk, hab.1, hab.2, hk, zT, Tf.enc]
        · simp [cmbR, cmbOk, hab.1, hab.2, hk]
          simp [hc', Tf.enc]
def e39 : QE Try.prog := .pure 39 (fun (((a, b)) : Tf × Tf) => [.agg a.enc, .agg b.enc]) (fun (((a, b)) : Tf × Tf) => True) (fun (((a, b)) : Tf × Tf) => cmbR a b) (fun ⟨a, b⟩ _ => combine_c a b)
@[simp ↓] theorem e39_h (l : List (QE Try.prog)) (args : List AV) (h : AH) (Q : AV → AH → Prop) : tb (e39 :: l) 39 args h Q = e39.q args h Q := tb_here e39 l 39 args h Q rfl
@[simp ↓] theorem e39_t (l : List (QE Try.prog)) (f : Nat) (args : List AV) (h : AH) (Q : AV → AH → Prop) (hf : 39 ≠ f) : tb (e39 :: l) f args h Q = tb l f args h Q := tb_there e39 l f args h Q hf
@[simp ↓] theorem e39_q (a : Tf) (b : Tf) (h : AH) (Q : AV → AH → Prop) : e39.q [.agg a.enc, .agg b.enc] h Q = Q (cmbR a b) h := (QE.pure_q (x := (a, b)) (by rintro ⟨_, _⟩ h; simp at h; simp [h]) h Q).trans (by simp)
@[simp ↓] theorem e39_q_a (a_t : Int) (a_m : Bool) (a_s : Int) (a_dx : Int) (a_dy : Int) (b : Tf) (h : AH) (Q : AV → AH → Prop) : e39.q [.agg [I a_t, .bool a_m, I a_s, I a_dx, I a_dy], .agg b.enc] h Q = Q (cmbR (Tf.mk a_t a_m a_s a_dx a_dy) b) h := e39_q ⟨a_t, a_m, a_s, a_dx, a_dy⟩ b h Q
@[simp ↓] theorem e39_q_b (a : Tf) (b_t : Int) (b_m : Bool) (b_s : Int) (b_dx : Int) (b_dy : Int) (h : AH) (Q : AV → AH → Prop) : e39.q [.agg a.enc, .agg [I b_t, .bool b_m, I b_s, I b_dx, I b_dy]] h Q = Q (cmbR a (Tf.mk b_t b_m b_s b_dx b_dy)) h := e39_q a ⟨b_t, b_m, b_s, b_dx, b_dy⟩ h Q
@[simp ↓] theorem e39_q_a_b (a_t : Int) (a_m : Bool) (a_s : Int) (a_dx : Int) (a_dy : Int) (b_t : Int) (b_m : Bool) (b_s : Int) (b_dx : Int) (b_dy : Int) (h : AH) (Q : AV → AH → Prop) : e39.q [.agg [I a_t, .bool a_m, I a_s, I a_dx, I a_dy], .agg [I b_t, .bool b_m, I b_s, I b_dx, I b_dy]] h Q = Q (cmbR (Tf.mk a_t a_m a_s a_dx a_dy) (Tf.mk b_t b_m b_s b_dx b_dy)) h := e39_q ⟨a_t, a_m, a_s, a_dx, a_dy⟩ ⟨b_t, b_m, b_s, b_dx, b_dy⟩ h Q
set_option maxHeartbeats 2000000 in
theorem rcombine_c (a b : Tf) : Pure Try.prog 40 [.agg a.enc, .agg b.enc] (cmbR a b) := by
  refine .of (by simp [Tf.cl]) (C40 (tb_ok [e67, e68]) ?_)
  simp (disch := first | (simp; done) | omega | (simp only [nx_add, nx_set, nx_kill, nx_mk, nx_emp]; omega) | fail) [g40]
  refine ⟨fun vs h => vs = [.ptr 0 0, .ptr 1 0, .ptr 2 0, .bool (!(okT a && okT b))] ∧ h.cellsAt 0 = some a.enc ∧ h.cellsAt 1 = some b.enc ∧ h.cellsAt 2 = some [I 0, .bool false, I 0, I 0, I 0] ∧ h.nx = 3, ?_, ?_⟩
  · cases ha : okT a <;> cases hb : okT b <;> simp (disch := first | (simp; done) | omega | (simp only [nx_add, nx_set, nx_kill, nx_mk, nx_emp]; omega) | fail) [g40_a1, g40_s1, ha, hb]
  · rintro vs h ⟨rfl, h0, h1, h2, hn⟩
    cases hab : (okT a && okT b)
    · have hc : cmbOk a b = false := by simp [cmbOk, hab]
      simp (disch := first | (simp; done) | omega | (simp only [nx_add, nx_set, nx_kill, nx_mk, nx_emp]; omega) | fail) [g40_j4, h0, h1, h2, cmbR, hc]
      simp [zT, Tf.enc]
    · simp at hab
      have ba := okT_bd hab.1
      have bb := okT_bd hab.2
      have hs := mul_bd (a := a.scale) (b := b.scale) (A := 16) (B := 16) (by omega) (by omega) (by omega) (by omega)
      simp (disch := first | (simp; done) | omega | (simp only [nx_add, nx_set, nx_kill, nx_mk, nx_emp]; omega) | fail) [g40_j4, h0, h1, h2, hn]
      simp (disch := first | (simp; done) | omega | (simp only [nx_add, nx_set, nx_kill, nx_mk, nx_emp]; omega) | fail) [g40_s5, h0, h1, h2, hn]
      refine ⟨fun vs h => vs = [.ptr 0 0, .ptr 1 0, .ptr 2 0, .ptr 3 0] ∧ h.cellsAt 0 = some a.enc ∧ h.cellsAt 1 = some b.enc ∧ h.cellsAt 2 = some [I 0, .bool false, I 0, I 0, I 0] ∧ h.cellsAt 3 = some [I ((if a.mirror then a.turn + 4 - b.turn else a.turn + b.turn) % 4), .bool (!(a.mirror == b.mirror)), I (a.scale * b.scale), I 0, I 0], ?_, ?_⟩
      · have t1 : (a.turn + 4 - b.turn).tmod 4 = (a.turn + 4 - b.turn) % 4 := Int.tmod_eq_emod_of_nonneg (by omega)
        have t2 : (a.turn + b.turn).tmod 4 = (a.turn + b.turn) % 4 := Int.tmod_eq_emod_of_nonneg (by omega)
        cases hm : a.mirror <;> simp (disch := first | (simp; done) | omega | (simp only [nx_add, nx_set, nx_kill, nx_mk, nx_emp]; omega) | fail) [g40_a2, g40_s2, h0, h1, h2, hn, hm, kArith_rem, t1, t2]
      · rintro vs h ⟨rfl, h0, h1, h2, h3⟩
        have hl := lin_bd hab.1 (x := b.dx) (y := b.dy) (by omega) (by omega)
        have hc' : cmb a b = ⟨(if a.mirror then a.turn + 4 - b.turn else a.turn + b.turn) % 4, !(a.mirror == b.mirror), a.scale * b.scale, (lin a b.dx b.dy).x + a.dx, (lin a b.dx b.dy).y + a.dy⟩ := rfl
        generalize (if a.mirror then a.turn + 4 - b.turn else a.turn + b.turn) % 4 = T at hc' h3 ⊢
        simp (disch := first | (simp; done) | omega | (simp only [nx_add, nx_set, nx_kill, nx_mk, nx_emp]; omega) | fail) [g40_j3, h0, h1, h2, h3, hab.1]
        simp (disch := first | (simp; done) | omega | (simp only [nx_add, nx_set, nx_kill, nx_mk, nx_emp]; omega) | fail) [g40_s4, h0, h1, h2, h3, hab.1]
        simp (disch := first | (simp; done) | omega | (simp only [nx_add, nx_set, nx_kill, nx_mk, nx_emp]; omega) | fail) [g40_s3, h0, h1, h2, h3, hab.1]
        rw [← hc']
        refine ⟨⟨by omega, by omega⟩, fun hk => ?_, fun hk => ?_⟩
        · simp [cmbR, cmbOk, hab.1, hab.2, hk, zT, Tf.enc]
        · simp [cmbR, cmbOk, hab.1, hab.2, hk]
          simp [hc', Tf.enc]
def e40 : QE Try.prog := .pure 40 (fun (((a, b)) : Tf × Tf) => [.agg a.enc, .agg b.enc]) (fun (((a, b)) : Tf × Tf) => True) (fun (((a, b)) : Tf × Tf) => cmbR a b) (fun ⟨a, b⟩ _ => rcombine_c a b)
@[simp ↓] theorem e40_h (l : List (QE Try.prog)) (args : List AV) (h : AH) (Q : AV → AH → Prop) : tb (e40 :: l) 40 args h Q = e40.q args h Q := tb_here e40 l 40 args h Q rfl
@[simp ↓] theorem e40_t (l : List (QE Try.prog)) (f : Nat) (args : List AV) (h : AH) (Q : AV → AH → Prop) (hf : 40 ≠ f) : tb (e40 :: l) f args h Q = tb l f args h Q := tb_there e40 l f args h Q hf
@[simp ↓] theorem e40_q (a : Tf) (b : Tf) (h : AH) (Q : AV → AH → Prop) : e40.q [.agg a.enc, .agg b.enc] h Q = Q (cmbR a b) h := (QE.pure_q (x := (a, b)) (by rintro ⟨_, _⟩ h; simp at h; simp [h]) h Q).trans (by simp)
@[simp ↓] theorem e40_q_a (a_t : Int) (a_m : Bool) (a_s : Int) (a_dx : Int) (a_dy : Int) (b : Tf) (h : AH) (Q : AV → AH → Prop) : e40.q [.agg [I a_t, .bool a_m, I a_s, I a_dx, I a_dy], .agg b.enc] h Q = Q (cmbR (Tf.mk a_t a_m a_s a_dx a_dy) b) h := e40_q ⟨a_t, a_m, a_s, a_dx, a_dy⟩ b h Q
@[simp ↓] theorem e40_q_b (a : Tf) (b_t : Int) (b_m : Bool) (b_s : Int) (b_dx : Int) (b_dy : Int) (h : AH) (Q : AV → AH → Prop) : e40.q [.agg a.enc, .agg [I b_t, .bool b_m, I b_s, I b_dx, I b_dy]] h Q = Q (cmbR a (Tf.mk b_t b_m b_s b_dx b_dy)) h := e40_q a ⟨b_t, b_m, b_s, b_dx, b_dy⟩ h Q
@[simp ↓] theorem e40_q_a_b (a_t : Int) (a_m : Bool) (a_s : Int) (a_dx : Int) (a_dy : Int) (b_t : Int) (b_m : Bool) (b_s : Int) (b_dx : Int) (b_dy : Int) (h : AH) (Q : AV → AH → Prop) : e40.q [.agg [I a_t, .bool a_m, I a_s, I a_dx, I a_dy], .agg [I b_t, .bool b_m, I b_s, I b_dx, I b_dy]] h Q = Q (cmbR (Tf.mk a_t a_m a_s a_dx a_dy) (Tf.mk b_t b_m b_s b_dx b_dy)) h := e40_q ⟨a_t, a_m, a_s, a_dx, a_dy⟩ ⟨b_t, b_m, b_s, b_dx, b_dy⟩ h Q
end Go.Proofs.Ytpnekpbehcbmkaa
