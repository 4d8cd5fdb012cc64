/- What the colours, the near tests and the rectangles of a command answer. -/
import Derived.Test.YtpnekpbehcbmkaaD7E
set_option linter.unusedSimpArgs false
set_option linter.unusedVariables false
set_option linter.unnecessarySimpa false
namespace Go.Proofs.Ytpnekpbehcbmkaa
open Go.Eng
def rotB : Nat → Int → Int → Int × Int
  | 0, x, y => (x, y)
  | n + 1, x, y => rotB n y (-x - 1)
def bk (t : Tf) (p : Pt) : Pt :=
  if okT t && okP p then
    ⟨if t.mirror then -(rotB t.turn.toNat ((p.x - t.dx) / t.scale) ((p.y - t.dy) / t.scale)).1 - 1 else (rotB t.turn.toNat ((p.x - t.dx) / t.scale) ((p.y - t.dy) / t.scale)).1, (rotB t.turn.toNat ((p.x - t.dx) / t.scale) ((p.y - t.dy) / t.scale)).2⟩
  else ⟨0, 0⟩
theorem okP_bd {p : Pt} (h : okP p = true) : -2097152 ≤ p.x ∧ p.x ≤ 2097152 ∧ -2097152 ≤ p.y ∧ p.y ≤ 2097152 := by grind [okP, within]
theorem div_bd {a b : Int} (hb : 1 ≤ b) (h1 : -3145728 ≤ a) (h2 : a ≤ 3145728) : -4194304 ≤ a / b ∧ a / b ≤ 4194304 := by
  constructor
  · exact Int.le_ediv_of_mul_le (by omega) (by omega)
  · have h3 : a / b ≤ 3145728 / b := Int.ediv_le_ediv (by omega) h2
    have h4 : (3145728 : Int) / b ≤ 3145728 := Int.ediv_le_self _ (by omega)
    omega
abbrev Bd23 (n : Nat) (x : Int) : Prop := -(4194304 + n) ≤ x ∧ x ≤ 4194304 + n
def bkI (t : Tf) (x y : Int) (m : Nat) (vs : List AV) (h : AH) : Prop := ∃ (i : Nat) (X Y : Int), (i : Int) ≤ t.turn ∧ m = t.turn.toNat - i ∧ vs = [.ptr 0 0, .ptr 2 0, .ptr 20 0, I i] ∧ h.cellsAt 0 = some t.enc ∧ h.cellsAt 2 = some [I 0, I 0] ∧ h.cellsAt 20 = some [I X, I Y] ∧ rotB (t.turn.toNat - i) X Y = rotB t.turn.toNat x y ∧ Bd23 i X ∧ Bd23 i Y
theorem back_c (t : Tf) (p : Pt) : Pure Try.prog 45 [.agg t.enc, .agg p.enc] (.agg (bk t p).enc) := by
  refine .of (by simp [Tf.cl, Pt.cl]) (C45 (tb_ok [e65, e61, e71]) ?_)
  simp (disch := first | (simp; done) | omega | (simp only [nx_add, nx_set, nx_kill, nx_mk, nx_emp]; omega) | fail) [g45]
  refine ⟨fun vs h => vs = [.ptr 0 0, .ptr 1 0, .ptr 2 0, .bool (!(okT t && okP p))] ∧ h.cellsAt 0 = some t.enc ∧ h.cellsAt 1 = some p.enc ∧ h.cellsAt 2 = some [I 0, I 0] ∧ h.nx = 3, ?_, ?_⟩
  · cases ha : okT t <;> cases h1 : within p.x 2097152 <;> cases h2 : within p.y 2097152 <;> simp (disch := first | (simp; done) | omega | (simp only [nx_add, nx_set, nx_kill, nx_mk, nx_emp]; omega) | fail) [g45_a1, g45_s1, g45_s2, ha, h1, h2, okP, M63]
  · rintro vs h ⟨rfl, h0, h1, h2, hn⟩
    cases hab : (okT t && okP p)
    · simp (disch := first | (simp; done) | omega | (simp only [nx_add, nx_set, nx_kill, nx_mk, nx_emp]; omega) | fail) [g45_j7, h0, h1, h2, hn]
      simp [bk, hab, Pt.enc]
    · simp at hab
      have bt := okT_bd hab.1
      have bp := okP_bd hab.2
      have d1 := div_bd (a := p.x - t.dx) (b := t.scale) (by omega) (by omega) (by omega)
      have d2 := div_bd (a := p.y - t.dy) (b := t.scale) (by omega) (by omega) (by omega)
      simp (disch := first | (simp; done) | omega | (simp only [nx_add, nx_set, nx_kill, nx_mk, nx_emp]; omega) | fail) [g45_j7, h0, h1, h2, hn, FP]
      simp (disch := first | (simp; done) | omega | (simp only [nx_add, nx_set, nx_kill, nx_mk, nx_emp]; omega) | fail) [g45_s5, h0, h1, h2, hn, FP]
      simp (disch := first | (simp; done) | omega | (simp only [nx_add, nx_set, nx_kill, nx_mk, nx_emp]; omega) | fail) [g45_s4, h0, h1, h2, hn, FP]
      refine ⟨by omega, by omega, ?_⟩
      refine ⟨bkI t ((p.x - t.dx) / t.scale) ((p.y - t.dy) / t.scale), t.turn.toNat, ⟨0, (p.x - t.dx) / t.scale, (p.y - t.dy) / t.scale, by omega, rfl, rfl, ?_⟩, ?_⟩
      · simp [h0, h2]; omega
      rintro m vs h ⟨i, X, Y, hi, rfl, rfl, h0, h2, h3, hr, hX, hY⟩
      by_cases hlt : (i : Int) < t.turn
      · simp (disch := first | (simp; done) | omega | (simp only [nx_add, nx_set, nx_kill, nx_mk, nx_emp]; omega) | fail) [g45_l2, g45_s3, hlt, h0, h2, h3]
        refine ⟨t.turn.toNat - (i + 1), by omega, i + 1, Y, -X - 1, by omega, rfl, by simp, ?_⟩
        simp [h0, h2]
        refine ⟨?_, by omega, by omega⟩
        rw [← hr, show t.turn.toNat - i = (t.turn.toNat - (i + 1)) + 1 by omega]; rfl
      · have hz : t.turn.toNat - i = 0 := by omega
        rw [hz] at hr
        simp (disch := first | (simp; done) | omega | (simp only [nx_add, nx_set, nx_kill, nx_mk, nx_emp]; omega) | fail) [g45_l2, h0, h2, h3, hlt]
        simp (disch := first | (simp; done) | omega | (simp only [nx_add, nx_set, nx_kill, nx_mk, nx_emp]; omega) | fail) [g45_j6, h0, h2, h3, hlt]
        simp (disch := first | (simp; done) | omega | (simp only [nx_add, nx_set, nx_kill, nx_mk, nx_emp]; omega) | fail) [g45_c5, h0, h2, h3, hlt]
        refine ⟨fun vs h => vs = [.ptr 2 0, .ptr 20 0] ∧ h.cellsAt 2 = some [I 0, I 0] ∧ h.cellsAt 20 = some (bk t p).enc, ?_, ?_⟩
        · cases hm : t.mirror <;> simp (disch := first | (simp; done) | omega | (simp only [nx_add, nx_set, nx_kill, nx_mk, nx_emp]; omega) | fail) [g45_a3, h0, h2, h3, hm, bk, hab.1, hab.2, ← hr, rotB, Pt.enc]
        · rintro vs h ⟨rfl, h2, h3⟩
          simp (disch := first | (simp; done) | omega | (simp only [nx_add, nx_set, nx_kill, nx_mk, nx_emp]; omega) | fail) [g45_j4, h2, h3]
def e45 : QE Try.prog := .pure 45 (fun (((t, p)) : Tf × Pt) => [.agg t.enc, .agg p.enc]) (fun (((t, p)) : Tf × Pt) => True) (fun (((t, p)) : Tf × Pt) => .agg (bk t p).enc) (fun ⟨t, p⟩ _ => back_c t p)
@[simp ↓] theorem e45_h (l : List (QE Try.prog)) (args : List AV) (h : AH) (Q : AV → AH → Prop) : tb (e45 :: l) 45 args h Q = e45.q args h Q := tb_here e45 l 45 args h Q rfl
@[simp ↓] theorem e45_t (l : List (QE Try.prog)) (f : Nat) (args : List AV) (h : AH) (Q : AV → AH → Prop) (hf : 45 ≠ f) : tb (e45 :: l) f args h Q = tb l f args h Q := tb_there e45 l f args h Q hf
@[simp ↓] theorem e45_q (t : Tf) (p : Pt) (h : AH) (Q : AV → AH → Prop) : e45.q [.agg t.enc, .agg p.enc] h Q = Q (.agg (bk t p).enc) h := (QE.pure_q (x := (t, p)) (by rintro ⟨_, _⟩ h; simp at h; simp [h]) h Q).trans (by simp)
@[simp ↓] theorem e45_q_t (t_t : Int) (t_m : Bool) (t_s : Int) (t_dx : Int) (t_dy : Int) (p : Pt) (h : AH) (Q : AV → AH → Prop) : e45.q [.agg [I t_t, .bool t_m, I t_s, I t_dx, I t_dy], .agg p.enc] h Q = Q (.agg (bk (Tf.mk t_t t_m t_s t_dx t_dy) p).enc) h := e45_q ⟨t_t, t_m, t_s, t_dx, t_dy⟩ p h Q
@[simp ↓] theorem e45_q_p (t : Tf) (p_x : Int) (p_y : Int) (h : AH) (Q : AV → AH → Prop) : e45.q [.agg t.enc, .agg [I p_x, I p_y]] h Q = Q (.agg (bk t (Pt.mk p_x p_y)).enc) h := e45_q t ⟨p_x, p_y⟩ h Q
@[simp ↓] theorem e45_q_t_p (t_t : Int) (t_m : Bool) (t_s : Int) (t_dx : Int) (t_dy : Int) (p_x : Int) (p_y : Int) (h : AH) (Q : AV → AH → Prop) : e45.q [.agg [I t_t, .bool t_m, I t_s, I t_dx, I t_dy], .agg [I p_x, I p_y]] h Q = Q (.agg (bk (Tf.mk t_t t_m t_s t_dx t_dy) (Pt.mk p_x p_y)).enc) h := e45_q ⟨t_t, t_m, t_s, t_dx, t_dy⟩ ⟨p_x, p_y⟩ h Q
end Go.Proofs.Ytpnekpbehcbmkaa
namespace Go.Proofs.Ytpnekpbehcbmkaa
open Go.Eng
def rbkI (t : Tf) (x y : Int) (m : Nat) (vs : List AV) (h : AH) : Prop := ∃ (i : Nat) (X Y : Int), (i : Int) ≤ t.turn ∧ m = t.turn.toNat - i ∧ vs = [.ptr 0 0, .ptr 2 0, I X, I Y, I i] ∧ h.cellsAt 0 = some t.enc ∧ h.cellsAt 2 = some [I 0, I 0] ∧ rotB (t.turn.toNat - i) X Y = rotB t.turn.toNat x y ∧ Bd23 i X ∧ Bd23 i Y
theorem rback_c (t : Tf) (p : Pt) : Pure Try.prog 48 [.agg t.enc, .agg p.enc] (.agg (bk t p).enc) := by
  refine .of (by simp [Tf.cl, Pt.cl]) (C48 (tb_ok [e67, e47, e73]) ?_)
  simp (disch := first | (simp; done) | omega | (simp only [nx_add, nx_set, nx_kill, nx_mk, nx_emp]; omega) | fail) [g48]
  refine ⟨fun vs h => vs = [.ptr 0 0, .ptr 1 0, .ptr 2 0, .bool (!(okT t && okP p))] ∧ h.cellsAt 0 = some t.enc ∧ h.cellsAt 1 = some p.enc ∧ h.cellsAt 2 = some [I 0, I 0] ∧ h.nx = 3, ?_, ?_⟩
  · cases ha : okT t <;> cases h1 : okP p <;> simp (disch := first | (simp; done) | omega | (simp only [nx_add, nx_set, nx_kill, nx_mk, nx_emp]; omega) | fail) [g48_a1, g48_s1, ha, h1]
  · rintro vs h ⟨rfl, h0, h1, h2, hn⟩
    cases hab : (okT t && okP p)
    · simp (disch := first | (simp; done) | omega | (simp only [nx_add, nx_set, nx_kill, nx_mk, nx_emp]; omega) | fail) [g48_j7, h0, h1, h2, hn]
      simp [bk, hab, Pt.enc]
    · simp at hab
      have bt := okT_bd hab.1
      have bp := okP_bd hab.2
      have d1 := div_bd (a := p.x - t.dx) (b := t.scale) (by omega) (by omega) (by omega)
      have d2 := div_bd (a := p.y - t.dy) (b := t.scale) (by omega) (by omega) (by omega)
      simp (disch := first | (simp; done) | omega | (simp only [nx_add, nx_set, nx_kill, nx_mk, nx_emp]; omega) | fail) [g48_j7, h0, h1, h2, hn, FP]
      simp (disch := first | (simp; done) | omega | (simp only [nx_add, nx_set, nx_kill, nx_mk, nx_emp]; omega) | fail) [g48_s3, h0, h1, h2, hn, FP]
      simp (disch := first | (simp; done) | omega | (simp only [nx_add, nx_set, nx_kill, nx_mk, nx_emp]; omega) | fail) [g48_s2, h0, h1, h2, hn, FP]
      refine ⟨by omega, by omega, ?_⟩
      refine ⟨rbkI t ((p.x - t.dx) / t.scale) ((p.y - t.dy) / t.scale), t.turn.toNat, ⟨0, (p.x - t.dx) / t.scale, (p.y - t.dy) / t.scale, by omega, rfl, rfl, ?_⟩, ?_⟩
      · simp [h0, h2]; omega
      rintro m vs h ⟨i, X, Y, hi, rfl, rfl, h0, h2, hr, hX, hY⟩
      by_cases hlt : (i : Int) < t.turn
      · simp (disch := first | (simp; done) | omega | (simp only [nx_add, nx_set, nx_kill, nx_mk, nx_emp]; omega) | fail) [g48_l2, hlt, h0, h2]
        refine ⟨t.turn.toNat - (i + 1), by omega, i + 1, Y, -X - 1, by omega, rfl, by simp, h0, h2, ?_, by omega, by omega⟩
        rw [← hr, show t.turn.toNat - i = (t.turn.toNat - (i + 1)) + 1 by omega]; rfl
      · have hz : t.turn.toNat - i = 0 := by omega
        rw [hz] at hr
        simp (disch := first | (simp; done) | omega | (simp only [nx_add, nx_set, nx_kill, nx_mk, nx_emp]; omega) | fail) [g48_l2, h0, h2, hlt]
        simp (disch := first | (simp; done) | omega | (simp only [nx_add, nx_set, nx_kill, nx_mk, nx_emp]; omega) | fail) [g48_j6, h0, h2, hlt]
        simp (disch := first | (simp; done) | omega | (simp only [nx_add, nx_set, nx_kill, nx_mk, nx_emp]; omega) | fail) [g48_c5, h0, h2, hlt]
        refine ⟨fun vs h => vs = [.ptr 2 0, I (bk t p).x, I (bk t p).y] ∧ h.cellsAt 2 = some [I 0, I 0], ?_, ?_⟩
        · cases hm : t.mirror <;> simp (disch := first | (simp; done) | omega | (simp only [nx_add, nx_set, nx_kill, nx_mk, nx_emp]; omega) | fail) [g48_a3, h0, h2, hm, bk, hab.1, hab.2, ← hr, rotB]
        · rintro vs h ⟨rfl, h2⟩
          simp (disch := first | (simp; done) | omega | (simp only [nx_add, nx_set, nx_kill, nx_mk, nx_emp]; omega) | fail) [g48_j4, h2]
          simp [Pt.enc]
def e48 : QE Try.prog := .pure 48 (fun (((t, p)) : Tf × Pt) => [.agg t.enc, .agg p.enc]) (fun (((t, p)) : Tf × Pt) => True) (fun (((t, p)) : Tf × Pt) => .agg (bk t p).enc) (fun ⟨t, p⟩ _ => rback_c t p)
@[simp ↓] theorem e48_h (l : List (QE Try.prog)) (args : List AV) (h : AH) (Q : AV → AH → Prop) : tb (e48 :: l) 48 args h Q = e48.q args h Q := tb_here e48 l 48 args h Q rfl
@[simp ↓] theorem e48_t (l : List (QE Try.prog)) (f : Nat) (args : List AV) (h : AH) (Q : AV → AH → Prop) (hf : 48 ≠ f) : tb (e48 :: l) f args h Q = tb l f args h Q := tb_there e48 l f args h Q hf
@[simp ↓] theorem e48_q (t : Tf) (p : Pt) (h : AH) (Q : AV → AH → Prop) : e48.q [.agg t.enc, .agg p.enc] h Q = Q (.agg (bk t p).enc) h := (QE.pure_q (x := (t, p)) (by rintro ⟨_, _⟩ h; simp at h; simp [h]) h Q).trans (by simp)
@[simp ↓] theorem e48_q_t (t_t : Int) (t_m : Bool) (t_s : Int) (t_dx : Int) (t_dy : Int) (p : Pt) (h : AH) (Q : AV → AH → Prop) : e48.q [.agg [I t_t, .bool t_m, I t_s, I t_dx, I t_dy], .agg p.enc] h Q = Q (.agg (bk (Tf.mk t_t t_m t_s t_dx t_dy) p).enc) h := e48_q ⟨t_t, t_m, t_s, t_dx, t_dy⟩ p h Q
@[simp ↓] theorem e48_q_p (t : Tf) (p_x : Int) (p_y : Int) (h : AH) (Q : AV → AH → Prop) : e48.q [.agg t.enc, .agg [I p_x, I p_y]] h Q = Q (.agg (bk t (Pt.mk p_x p_y)).enc) h := e48_q t ⟨p_x, p_y⟩ h Q
@[simp ↓] theorem e48_q_t_p (t_t : Int) (t_m : Bool) (t_s : Int) (t_dx : Int) (t_dy : Int) (p_x : Int) (p_y : Int) (h : AH) (Q : AV → AH → Prop) : e48.q [.agg [I t_t, .bool t_m, I t_s, I t_dx, I t_dy], .agg [I p_x, I p_y]] h Q = Q (.agg (bk (Tf.mk t_t t_m t_s t_dx t_dy) (Pt.mk p_x p_y)).enc) h := e48_q ⟨t_t, t_m, t_s, t_dx, t_dy⟩ ⟨p_x, p_y⟩ h Q
end Go.Proofs.Ytpnekpbehcbmkaa
