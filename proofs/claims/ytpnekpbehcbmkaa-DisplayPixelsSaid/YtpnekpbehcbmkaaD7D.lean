/- What composing two transforms computes: the program and the reference answer alike. -/
import Derived.Test.YtpnekpbehcbmkaaD7C
set_option linter.unusedSimpArgs false
set_option linter.unusedVariables false
set_option linter.unnecessarySimpa false
namespace Go.Proofs.Ytpnekpbehcbmkaa
open Go.Eng
def okP (p : Pt) : Bool := within p.x 2097152 && within p.y 2097152
theorem point_c (p : Pt) : Pure Try.prog 43 [.agg p.enc] (.bool (okP p)) := by
  refine .of (by simp [Pt.cl]) (C43 (tb_ok []) ?_)
  simp (disch := first | omega | (simp; done) | fail) [g43, -Int.not_le, -Int.not_lt, g43_s1, g43_s2]
  grind [okP, within]
def e43 : QE Try.prog := .pure 43 (fun (p : Pt) => [.agg p.enc]) (fun (p : Pt) => True) (fun (p : Pt) => .bool (okP p)) (fun p _ => point_c p)
@[simp ↓] theorem e43_h (l : List (QE Try.prog)) (args : List AV) (h : AH) (Q : AV → AH → Prop) : tb (e43 :: l) 43 args h Q = e43.q args h Q := tb_here e43 l 43 args h Q rfl
@[simp ↓] theorem e43_t (l : List (QE Try.prog)) (f : Nat) (args : List AV) (h : AH) (Q : AV → AH → Prop) (hf : 43 ≠ f) : tb (e43 :: l) f args h Q = tb l f args h Q := tb_there e43 l f args h Q hf
@[simp ↓] theorem e43_q (p : Pt) (h : AH) (Q : AV → AH → Prop) : e43.q [.agg p.enc] h Q = Q (.bool (okP p)) h := (QE.pure_q (x := p) (by rintro _ h; simp at h; simp [h]) h Q).trans (by simp)
@[simp ↓] theorem e43_q_p (p_x : Int) (p_y : Int) (h : AH) (Q : AV → AH → Prop) : e43.q [.agg [I p_x, I p_y]] h Q = Q (.bool (okP (Pt.mk p_x p_y))) h := e43_q ⟨p_x, p_y⟩ h Q
theorem validPoint_c (p : Pt) : Pure Try.prog 47 [.agg p.enc] (.bool (okP p)) := by
  refine .of (by simp [Pt.cl]) (C47 (tb_ok [e69]) ?_)
  simp (disch := first | omega | (simp; done) | fail) [g47, M63, -Int.not_le, -Int.not_lt, g47_s1]
  grind [okP]
def e47 : QE Try.prog := .pure 47 (fun (p : Pt) => [.agg p.enc]) (fun (p : Pt) => True) (fun (p : Pt) => .bool (okP p)) (fun p _ => validPoint_c p)
@[simp ↓] theorem e47_h (l : List (QE Try.prog)) (args : List AV) (h : AH) (Q : AV → AH → Prop) : tb (e47 :: l) 47 args h Q = e47.q args h Q := tb_here e47 l 47 args h Q rfl
@[simp ↓] theorem e47_t (l : List (QE Try.prog)) (f : Nat) (args : List AV) (h : AH) (Q : AV → AH → Prop) (hf : 47 ≠ f) : tb (e47 :: l) f args h Q = tb l f args h Q := tb_there e47 l f args h Q hf
@[simp ↓] theorem e47_q (p : Pt) (h : AH) (Q : AV → AH → Prop) : e47.q [.agg p.enc] h Q = Q (.bool (okP p)) h := (QE.pure_q (x := p) (by rintro _ h; simp at h; simp [h]) h Q).trans (by simp)
@[simp ↓] theorem e47_q_p (p_x : Int) (p_y : Int) (h : AH) (Q : AV → AH → Prop) : e47.q [.agg [I p_x, I p_y]] h Q = Q (.bool (okP (Pt.mk p_x p_y))) h := e47_q ⟨p_x, p_y⟩ h Q
def zR : Rect := ⟨0, 0, 0, 0⟩
def vld (r : Rect) : Rect := if okR r then r else zR
theorem okR_bd {r : Rect} (h : okR r = true) : -1048576 ≤ r.x ∧ r.x ≤ 1048576 ∧ -1048576 ≤ r.y ∧ r.y ≤ 1048576 ∧ 0 ≤ r.w ∧ r.w ≤ 1048576 ∧ 0 ≤ r.h ∧ r.h ≤ 1048576 := by grind [okR, within]
theorem vld_bd (r : Rect) : -1048576 ≤ (vld r).x ∧ (vld r).x ≤ 1048576 ∧ -1048576 ≤ (vld r).y ∧ (vld r).y ≤ 1048576 ∧ 0 ≤ (vld r).w ∧ (vld r).w ≤ 1048576 ∧ 0 ≤ (vld r).h ∧ (vld r).h ≤ 1048576 := by
  unfold vld
  cases h : okR r
  · simp [zR]
  · simpa using okR_bd h
theorem valid_c (r : Rect) : Pure Try.prog 70 [.agg r.enc] (.agg (vld r).enc) := by
  refine .of (by simp [Rect.cl]) (C70 (tb_ok [e36]) ?_)
  cases h : okR r <;> simp (disch := first | omega | (simp; done) | fail) [g70, h, vld]
  simp [zR, Rect.enc]
def e70 : QE Try.prog := .pure 70 (fun (r : Rect) => [.agg r.enc]) (fun (r : Rect) => True) (fun (r : Rect) => .agg (vld r).enc) (fun r _ => valid_c r)
@[simp ↓] theorem e70_h (l : List (QE Try.prog)) (args : List AV) (h : AH) (Q : AV → AH → Prop) : tb (e70 :: l) 70 args h Q = e70.q args h Q := tb_here e70 l 70 args h Q rfl
@[simp ↓] theorem e70_t (l : List (QE Try.prog)) (f : Nat) (args : List AV) (h : AH) (Q : AV → AH → Prop) (hf : 70 ≠ f) : tb (e70 :: l) f args h Q = tb l f args h Q := tb_there e70 l f args h Q hf
@[simp ↓] theorem e70_q (r : Rect) (h : AH) (Q : AV → AH → Prop) : e70.q [.agg r.enc] h Q = Q (.agg (vld r).enc) h := (QE.pure_q (x := r) (by rintro _ h; simp at h; simp [h]) h Q).trans (by simp)
@[simp ↓] theorem e70_q_r (r_x : Int) (r_y : Int) (r_w : Int) (r_h : Int) (h : AH) (Q : AV → AH → Prop) : e70.q [.agg [I r_x, I r_y, I r_w, I r_h]] h Q = Q (.agg (vld (Rect.mk r_x r_y r_w r_h)).enc) h := e70_q ⟨r_x, r_y, r_w, r_h⟩ h Q
def inR (r : Rect) (p : Pt) : Bool := okR r && decide (r.x ≤ p.x) && decide (p.x < r.x + r.w) && decide (r.y ≤ p.y) && decide (p.y < r.y + r.h)
theorem contains_c (r : Rect) (p : Pt) : Pure Try.prog 44 [.agg r.enc, .agg p.enc] (.bool (inR r p)) := by
  refine .of (by simp [Rect.cl, Pt.cl]) (C44 (tb_ok [e70]) ?_)
  have hb := vld_bd r
  simp (disch := first | omega | (simp; done) | fail) [g44, -Int.not_le, -Int.not_lt, g44_s3, g44_s2, g44_s1, g44_s4]
  cases h : okR r <;> grind [inR, vld, zR]
def e44 : QE Try.prog := .pure 44 (fun (((r, p)) : Rect × Pt) => [.agg r.enc, .agg p.enc]) (fun (((r, p)) : Rect × Pt) => True) (fun (((r, p)) : Rect × Pt) => .bool (inR r p)) (fun ⟨r, p⟩ _ => contains_c r p)
@[simp ↓] theorem e44_h (l : List (QE Try.prog)) (args : List AV) (h : AH) (Q : AV → AH → Prop) : tb (e44 :: l) 44 args h Q = e44.q args h Q := tb_here e44 l 44 args h Q rfl
@[simp ↓] theorem e44_t (l : List (QE Try.prog)) (f : Nat) (args : List AV) (h : AH) (Q : AV → AH → Prop) (hf : 44 ≠ f) : tb (e44 :: l) f args h Q = tb l f args h Q := tb_there e44 l f args h Q hf
@[simp ↓] theorem e44_q (r : Rect) (p : Pt) (h : AH) (Q : AV → AH → Prop) : e44.q [.agg r.enc, .agg p.enc] h Q = Q (.bool (inR r p)) h := (QE.pure_q (x := (r, p)) (by rintro ⟨_, _⟩ h; simp at h; simp [h]) h Q).trans (by simp)
@[simp ↓] theorem e44_q_r (r_x : Int) (r_y : Int) (r_w : Int) (r_h : Int) (p : Pt) (h : AH) (Q : AV → AH → Prop) : e44.q [.agg [I r_x, I r_y, I r_w, I r_h], .agg p.enc] h Q = Q (.bool (inR (Rect.mk r_x r_y r_w r_h) p)) h := e44_q ⟨r_x, r_y, r_w, r_h⟩ p h Q
@[simp ↓] theorem e44_q_p (r : Rect) (p_x : Int) (p_y : Int) (h : AH) (Q : AV → AH → Prop) : e44.q [.agg r.enc, .agg [I p_x, I p_y]] h Q = Q (.bool (inR r (Pt.mk p_x p_y))) h := e44_q r ⟨p_x, p_y⟩ h Q
@[simp ↓] theorem e44_q_r_p (r_x : Int) (r_y : Int) (r_w : Int) (r_h : Int) (p_x : Int) (p_y : Int) (h : AH) (Q : AV → AH → Prop) : e44.q [.agg [I r_x, I r_y, I r_w, I r_h], .agg [I p_x, I p_y]] h Q = Q (.bool (inR (Rect.mk r_x r_y r_w r_h) (Pt.mk p_x p_y))) h := e44_q ⟨r_x, r_y, r_w, r_h⟩ ⟨p_x, p_y⟩ h Q
theorem rcontains_c (r : Rect) (p : Pt) : Pure Try.prog 25 [.agg r.enc, .agg p.enc] (.bool (inR r p)) := by
  refine .of (by simp [Rect.cl, Pt.cl]) (C25 (tb_ok [e41]) ?_)
  cases h : okR r
  · simp (maxSteps := 4000000) (disch := first | omega | (simp; done) | fail) [g25, h, inR, g25_s4, g25_s3, g25_s2, g25_s1]
  · have hb := okR_bd h
    simp (maxSteps := 4000000) (disch := first | omega | (simp; done) | fail) [g25, h, -Int.not_le, -Int.not_lt, g25_s4, g25_s3, g25_s2, g25_s1]
    grind [inR]
def e25 : QE Try.prog := .pure 25 (fun (((r, p)) : Rect × Pt) => [.agg r.enc, .agg p.enc]) (fun (((r, p)) : Rect × Pt) => True) (fun (((r, p)) : Rect × Pt) => .bool (inR r p)) (fun ⟨r, p⟩ _ => rcontains_c r p)
@[simp ↓] theorem e25_h (l : List (QE Try.prog)) (args : List AV) (h : AH) (Q : AV → AH → Prop) : tb (e25 :: l) 25 args h Q = e25.q args h Q := tb_here e25 l 25 args h Q rfl
@[simp ↓] theorem e25_t (l : List (QE Try.prog)) (f : Nat) (args : List AV) (h : AH) (Q : AV → AH → Prop) (hf : 25 ≠ f) : tb (e25 :: l) f args h Q = tb l f args h Q := tb_there e25 l f args h Q hf
@[simp ↓] theorem e25_q (r : Rect) (p : Pt) (h : AH) (Q : AV → AH → Prop) : e25.q [.agg r.enc, .agg p.enc] h Q = Q (.bool (inR r p)) h := (QE.pure_q (x := (r, p)) (by rintro ⟨_, _⟩ h; simp at h; simp [h]) h Q).trans (by simp)
@[simp ↓] theorem e25_q_r (r_x : Int) (r_y : Int) (r_w : Int) (r_h : Int) (p : Pt) (h : AH) (Q : AV → AH → Prop) : e25.q [.agg [I r_x, I r_y, I r_w, I r_h], .agg p.enc] h Q = Q (.bool (inR (Rect.mk r_x r_y r_w r_h) p)) h := e25_q ⟨r_x, r_y, r_w, r_h⟩ p h Q
@[simp ↓] theorem e25_q_p (r : Rect) (p_x : Int) (p_y : Int) (h : AH) (Q : AV → AH → Prop) : e25.q [.agg r.enc, .agg [I p_x, I p_y]] h Q = Q (.bool (inR r (Pt.mk p_x p_y))) h := e25_q r ⟨p_x, p_y⟩ h Q
@[simp ↓] theorem e25_q_r_p (r_x : Int) (r_y : Int) (r_w : Int) (r_h : Int) (p_x : Int) (p_y : Int) (h : AH) (Q : AV → AH → Prop) : e25.q [.agg [I r_x, I r_y, I r_w, I r_h], .agg [I p_x, I p_y]] h Q = Q (.bool (inR (Rect.mk r_x r_y r_w r_h) (Pt.mk p_x p_y))) h := e25_q ⟨r_x, r_y, r_w, r_h⟩ ⟨p_x, p_y⟩ h Q
/-! division -/
theorem fl_aux (a b : Int) (hb : 0 < b) : (if a.tmod b < 0 then a.tdiv b - 1 else a.tdiv b) = a / b := by
  rw [Int.tmod_eq_emod, Int.tdiv_eq_ediv]
  have h1 := Int.emod_nonneg a (show b ≠ 0 by omega)
  have h2 := Int.emod_lt_of_pos a hb
  have h3 : b.sign = 1 := Int.sign_eq_one_of_pos hb
  have h4 : (b.natAbs : Int) = b := Int.natAbs_of_nonneg (by omega)
  have hd : b ∣ a ↔ a % b = 0 := Int.dvd_iff_emod_eq_zero
  by_cases ha : 0 ≤ a
  · simp [ha]; omega
  · by_cases hz : a % b = 0
    · have : b ∣ a := hd.2 hz
      simp [this, hz]
    · have : ¬ b ∣ a := fun h => hz (hd.1 h)
      simp [ha, this, h3]
      intro h; omega
theorem tdiv_bd (a b : Int) (hb : 0 < b) (B : Int) (h1 : -B ≤ a) (h2 : a ≤ B) (hB : B ≤ 4611686018427387904) : -B ≤ a.tdiv b ∧ a.tdiv b ≤ B := by
  have h := Int.natAbs_tdiv_le_natAbs a b
  omega
abbrev FP (a b : Int) : Prop := -1152921504606846976 ≤ a ∧ a ≤ 1152921504606846976 ∧ 0 < b ∧ b ≤ 1152921504606846976
theorem floor_c (a b : Int) (hx : FP a b) : Pure Try.prog 71 [I a, I b] (I (a / b)) := by
  refine .of (by simp [cI]) (C71 (tb_ok []) ?_)
  obtain ⟨h1, h2, h3, h4⟩ := hx
  have hq := tdiv_bd a b h3 1152921504606846976 h1 h2 (by omega)
  have hf := fl_aux a b h3
  simp (disch := first | omega | (simp; done) | fail) [g71, kArith_quo, kArith_rem]
  refine ⟨fun vs h => vs = [I (a / b)] ∧ h = emp, ?_, ?_⟩
  · simp (disch := first | omega | (simp; done) | fail) [g71_a1, -Int.not_lt]
    grind
  · rintro vs h ⟨rfl, rfl⟩
    simp [g71_j2]
def e71 : QE Try.prog := .pure 71 (fun (((a, b)) : Int × Int) => [I a, I b]) (fun (((a, b)) : Int × Int) => FP a b) (fun (((a, b)) : Int × Int) => I (a / b)) (fun ⟨a, b⟩ hx => floor_c a b hx)
@[simp ↓] theorem e71_h (l : List (QE Try.prog)) (args : List AV) (h : AH) (Q : AV → AH → Prop) : tb (e71 :: l) 71 args h Q = e71.q args h Q := tb_here e71 l 71 args h Q rfl
@[simp ↓] theorem e71_t (l : List (QE Try.prog)) (f : Nat) (args : List AV) (h : AH) (Q : AV → AH → Prop) (hf : 71 ≠ f) : tb (e71 :: l) f args h Q = tb l f args h Q := tb_there e71 l f args h Q hf
@[simp ↓] theorem e71_q (a : Int) (b : Int) (h : AH) (Q : AV → AH → Prop) : e71.q [I a, I b] h Q = ((FP a b) ∧ Q (I (a / b)) h) := (QE.pure_q (x := (a, b)) (by rintro ⟨_, _⟩ h; simp at h; simp [h]) h Q)
theorem rfloor_c (a b : Int) (hx : FP a b) : Pure Try.prog 73 [I a, I b] (I (a / b)) := by
  refine .of (by simp [cI]) (C73 (tb_ok []) ?_)
  obtain ⟨h1, h2, h3, h4⟩ := hx
  have hq := tdiv_bd a b h3 1152921504606846976 h1 h2 (by omega)
  have hf := fl_aux a b h3
  have hs : a.tmod b ≠ 0 ∧ a < 0 ↔ a.tmod b < 0 := by
    rw [Int.tmod_eq_emod]
    have h1 := Int.emod_nonneg a (show b ≠ 0 by omega)
    have h2 := Int.emod_lt_of_pos a h3
    have h4 : (b.natAbs : Int) = b := Int.natAbs_of_nonneg (by omega)
    have hd : b ∣ a ↔ a % b = 0 := Int.dvd_iff_emod_eq_zero
    by_cases ha : 0 ≤ a
    · simp [ha]; omega
    · by_cases hz : a % b = 0
      · have : b ∣ a := hd.2 hz
        simp [this, hz]
      · have : ¬ b ∣ a := fun h => hz (hd.1 h)
        simp [ha, this]; omega
  simp [g73]
  refine ⟨fun vs h => vs = [I a, I b, .bool false] ∧ h = emp, ?_, ?_⟩
  · simp (disch := first | omega | (simp; done) | fail) [g73_a1, -Int.not_lt, g73_s1]
    omega
  · rintro vs h ⟨rfl, rfl⟩
    simp (disch := first | omega | (simp; done) | fail) [g73_j6, kArith_quo]
    refine ⟨fun vs h => vs = [I (a.tdiv b), .bool (decide (a.tmod b < 0))] ∧ h = emp, ?_, ?_⟩
    · have hb : ¬ b < 0 := by omega
      simp (disch := first | omega | (simp; done) | fail) [g73_a2, kArith_rem, hb, -Int.not_lt]
      grind
    · rintro vs h ⟨rfl, rfl⟩
      simp [g73_j5]
      refine ⟨fun vs h => vs = [I (a / b)] ∧ h = emp, ?_, ?_⟩
      · simp (disch := first | omega | (simp; done) | fail) [g73_a3, -Int.not_lt]
        grind
      · rintro vs h ⟨rfl, rfl⟩
        simp [g73_j4]
def e73 : QE Try.prog := .pure 73 (fun (((a, b)) : Int × Int) => [I a, I b]) (fun (((a, b)) : Int × Int) => FP a b) (fun (((a, b)) : Int × Int) => I (a / b)) (fun ⟨a, b⟩ hx => rfloor_c a b hx)
@[simp ↓] theorem e73_h (l : List (QE Try.prog)) (args : List AV) (h : AH) (Q : AV → AH → Prop) : tb (e73 :: l) 73 args h Q = e73.q args h Q := tb_here e73 l 73 args h Q rfl
@[simp ↓] theorem e73_t (l : List (QE Try.prog)) (f : Nat) (args : List AV) (h : AH) (Q : AV → AH → Prop) (hf : 73 ≠ f) : tb (e73 :: l) f args h Q = tb l f args h Q := tb_there e73 l f args h Q hf
@[simp ↓] theorem e73_q (a : Int) (b : Int) (h : AH) (Q : AV → AH → Prop) : e73.q [I a, I b] h Q = ((FP a b) ∧ Q (I (a / b)) h) := (QE.pure_q (x := (a, b)) (by rintro ⟨_, _⟩ h; simp at h; simp [h]) h Q)
end Go.Proofs.Ytpnekpbehcbmkaa
