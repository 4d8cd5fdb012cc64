/- What the smallest functions of geometry and of the reference compute: bounds of numbers, valid rectangles and points. -/
import Derived.Test.YtpnekpbehcbmkaaD7A
import Derived.Test.YtpnekpbehcbmkaaD7FnsA
import Derived.Test.YtpnekpbehcbmkaaD7FnsB
set_option linter.unusedSimpArgs false
set_option linter.unusedVariables false
set_option linter.unnecessarySimpa false
namespace Go.Proofs.Ytpnekpbehcbmkaa
open Go.Eng
def M63 (m : Int) : Prop := -9223372036854775807 ≤ m ∧ m ≤ 9223372036854775807
def within (n m : Int) : Bool := decide (-m ≤ n) && decide (n ≤ m)
theorem within_c (n m : Int) (hm : M63 m) : Pure Try.prog 61 [I n, I m] (.bool (within n m)) := by
  unfold M63 at hm
  refine .of (by simp [cI]) (C61 (tb_ok []) ?_)
  simp (disch := first | omega | (simp; done) | fail) [g61, -Int.not_le, -Int.not_lt]
  grind [within]
def e61 : QE Try.prog := .pure 61 (fun (((n, m)) : Int × Int) => [I n, I m]) (fun (((n, m)) : Int × Int) => M63 m) (fun (((n, m)) : Int × Int) => .bool (within n m)) (fun ⟨n, m⟩ hx => within_c n m hx)
@[simp ↓] theorem e61_h (l : List (QE Try.prog)) (args : List AV) (h : AH) (Q : AV → AH → Prop) : tb (e61 :: l) 61 args h Q = e61.q args h Q := tb_here e61 l 61 args h Q rfl
@[simp ↓] theorem e61_t (l : List (QE Try.prog)) (f : Nat) (args : List AV) (h : AH) (Q : AV → AH → Prop) (hf : 61 ≠ f) : tb (e61 :: l) f args h Q = tb l f args h Q := tb_there e61 l f args h Q hf
@[simp ↓] theorem e61_q (n : Int) (m : Int) (h : AH) (Q : AV → AH → Prop) : e61.q [I n, I m] h Q = ((M63 m) ∧ Q (.bool (within n m)) h) := (QE.pure_q (x := (n, m)) (by rintro ⟨_, _⟩ h; simp at h; simp [h]) h Q)
theorem rwithin_c (n m : Int) (hm : M63 m) : Pure Try.prog 69 [I n, I m] (.bool (within n m)) := by
  unfold M63 at hm
  refine .of (by simp [cI]) (C69 (tb_ok []) ?_)
  simp (disch := first | omega | (simp; done) | fail) [g69, -Int.not_le, -Int.not_lt]
  grind [within]
def e69 : QE Try.prog := .pure 69 (fun (((n, m)) : Int × Int) => [I n, I m]) (fun (((n, m)) : Int × Int) => M63 m) (fun (((n, m)) : Int × Int) => .bool (within n m)) (fun ⟨n, m⟩ hx => rwithin_c n m hx)
@[simp ↓] theorem e69_h (l : List (QE Try.prog)) (args : List AV) (h : AH) (Q : AV → AH → Prop) : tb (e69 :: l) 69 args h Q = e69.q args h Q := tb_here e69 l 69 args h Q rfl
@[simp ↓] theorem e69_t (l : List (QE Try.prog)) (f : Nat) (args : List AV) (h : AH) (Q : AV → AH → Prop) (hf : 69 ≠ f) : tb (e69 :: l) f args h Q = tb l f args h Q := tb_there e69 l f args h Q hf
@[simp ↓] theorem e69_q (n : Int) (m : Int) (h : AH) (Q : AV → AH → Prop) : e69.q [I n, I m] h Q = ((M63 m) ∧ Q (.bool (within n m)) h) := (QE.pure_q (x := (n, m)) (by rintro ⟨_, _⟩ h; simp at h; simp [h]) h Q)
def isCol (n : Int) : Bool := decide (0 ≤ n) && decide (n ≤ 16777215)
theorem color_c (n : Int) : Pure Try.prog 37 [I n] (.bool (isCol n)) := by
  refine .of (by simp [cI]) (C37 (tb_ok []) ?_)
  simp (disch := first | omega | (simp; done) | fail) [g37, -Int.not_le, -Int.not_lt]
  grind [isCol]
def e37 : QE Try.prog := .pure 37 (fun (n : Int) => [I n]) (fun (n : Int) => True) (fun (n : Int) => .bool (isCol n)) (fun n _ => color_c n)
@[simp ↓] theorem e37_h (l : List (QE Try.prog)) (args : List AV) (h : AH) (Q : AV → AH → Prop) : tb (e37 :: l) 37 args h Q = e37.q args h Q := tb_here e37 l 37 args h Q rfl
@[simp ↓] theorem e37_t (l : List (QE Try.prog)) (f : Nat) (args : List AV) (h : AH) (Q : AV → AH → Prop) (hf : 37 ≠ f) : tb (e37 :: l) f args h Q = tb l f args h Q := tb_there e37 l f args h Q hf
@[simp ↓] theorem e37_q (n : Int) (h : AH) (Q : AV → AH → Prop) : e37.q [I n] h Q = Q (.bool (isCol n)) h := (QE.pure_q (x := n) (by rintro _ h; simp at h; simp [h]) h Q).trans (by simp)
def isRec (n : Int) : Bool := n == 1 || n == 4 || n == 5 || n == 6
theorem rectangular_c (n : Int) : Pure Try.prog 35 [I n] (.bool (isRec n)) := by
  refine .of (by simp [cI]) (C35 (tb_ok []) ?_)
  simp (disch := first | omega | (simp; done) | fail) [g35, -Int.not_le, -Int.not_lt, g35_s1]
  grind [isRec]
def e35 : QE Try.prog := .pure 35 (fun (n : Int) => [I n]) (fun (n : Int) => True) (fun (n : Int) => .bool (isRec n)) (fun n _ => rectangular_c n)
@[simp ↓] theorem e35_h (l : List (QE Try.prog)) (args : List AV) (h : AH) (Q : AV → AH → Prop) : tb (e35 :: l) 35 args h Q = e35.q args h Q := tb_here e35 l 35 args h Q rfl
@[simp ↓] theorem e35_t (l : List (QE Try.prog)) (f : Nat) (args : List AV) (h : AH) (Q : AV → AH → Prop) (hf : 35 ≠ f) : tb (e35 :: l) f args h Q = tb l f args h Q := tb_there e35 l f args h Q hf
@[simp ↓] theorem e35_q (n : Int) (h : AH) (Q : AV → AH → Prop) : e35.q [I n] h Q = Q (.bool (isRec n)) h := (QE.pure_q (x := n) (by rintro _ h; simp at h; simp [h]) h Q).trans (by simp)
def near40 (n : Int) : Bool := decide (-1099511627776 ≤ n) && decide (n ≤ 1099511627776)
theorem near1_c (n : Int) : Pure Try.prog 62 [I n] (.bool (near40 n)) := by
  refine .of (by simp [cI]) (C62 (tb_ok []) ?_)
  simp (disch := first | omega | (simp; done) | fail) [g62, -Int.not_le, -Int.not_lt]
  grind [near40]
def e62 : QE Try.prog := .pure 62 (fun (n : Int) => [I n]) (fun (n : Int) => True) (fun (n : Int) => .bool (near40 n)) (fun n _ => near1_c n)
@[simp ↓] theorem e62_h (l : List (QE Try.prog)) (args : List AV) (h : AH) (Q : AV → AH → Prop) : tb (e62 :: l) 62 args h Q = e62.q args h Q := tb_here e62 l 62 args h Q rfl
@[simp ↓] theorem e62_t (l : List (QE Try.prog)) (f : Nat) (args : List AV) (h : AH) (Q : AV → AH → Prop) (hf : 62 ≠ f) : tb (e62 :: l) f args h Q = tb l f args h Q := tb_there e62 l f args h Q hf
@[simp ↓] theorem e62_q (n : Int) (h : AH) (Q : AV → AH → Prop) : e62.q [I n] h Q = Q (.bool (near40 n)) h := (QE.pure_q (x := n) (by rintro _ h; simp at h; simp [h]) h Q).trans (by simp)
theorem far_c (n : Int) : Pure Try.prog 42 [I n] (.bool (!near40 n)) := by
  refine .of (by simp [cI]) (C42 (tb_ok []) ?_)
  simp (disch := first | omega | (simp; done) | fail) [g42, -Int.not_le, -Int.not_lt]
  grind [near40]
def e42 : QE Try.prog := .pure 42 (fun (n : Int) => [I n]) (fun (n : Int) => True) (fun (n : Int) => .bool (!near40 n)) (fun n _ => far_c n)
@[simp ↓] theorem e42_h (l : List (QE Try.prog)) (args : List AV) (h : AH) (Q : AV → AH → Prop) : tb (e42 :: l) 42 args h Q = e42.q args h Q := tb_here e42 l 42 args h Q rfl
@[simp ↓] theorem e42_t (l : List (QE Try.prog)) (f : Nat) (args : List AV) (h : AH) (Q : AV → AH → Prop) (hf : 42 ≠ f) : tb (e42 :: l) f args h Q = tb l f args h Q := tb_there e42 l f args h Q hf
@[simp ↓] theorem e42_q (n : Int) (h : AH) (Q : AV → AH → Prop) : e42.q [I n] h Q = Q (.bool (!near40 n)) h := (QE.pure_q (x := n) (by rintro _ h; simp at h; simp [h]) h Q).trans (by simp)
def okR (r : Rect) : Bool := within r.x 1048576 && within r.y 1048576 && decide (0 ≤ r.w) && decide (r.w ≤ 1048576) && decide (0 ≤ r.h) && decide (r.h ≤ 1048576)
theorem geoValidate_c (r : Rect) : Pure Try.prog 36 [.agg r.enc] (I (if okR r then 0 else 1)) := by
  refine .of (by simp [Rect.cl]) (C36 (tb_ok [e61]) ?_)
  simp [g36]
  refine ⟨fun vs h => vs = [.bool (!okR r)], ?_, ?_⟩
  · simp (disch := first | omega | (simp; done) | fail) [g36_a1, M63, -Int.not_le, -Int.not_lt, g36_s3, g36_s2, g36_s1]
    grind [okR]
  · rintro vs h rfl
    simp +contextual [g36_j2]
def e36 : QE Try.prog := .pure 36 (fun (r : Rect) => [.agg r.enc]) (fun (r : Rect) => True) (fun (r : Rect) => I (if okR r then 0 else 1)) (fun r _ => geoValidate_c r)
@[simp ↓] theorem e36_h (l : List (QE Try.prog)) (args : List AV) (h : AH) (Q : AV → AH → Prop) : tb (e36 :: l) 36 args h Q = e36.q args h Q := tb_here e36 l 36 args h Q rfl
@[simp ↓] theorem e36_t (l : List (QE Try.prog)) (f : Nat) (args : List AV) (h : AH) (Q : AV → AH → Prop) (hf : 36 ≠ f) : tb (e36 :: l) f args h Q = tb l f args h Q := tb_there e36 l f args h Q hf
@[simp ↓] theorem e36_q (r : Rect) (h : AH) (Q : AV → AH → Prop) : e36.q [.agg r.enc] h Q = Q (I (if okR r then 0 else 1)) h := (QE.pure_q (x := r) (by rintro _ h; simp at h; simp [h]) h Q).trans (by simp)
@[simp ↓] theorem e36_q_r (r_x : Int) (r_y : Int) (r_w : Int) (r_h : Int) (h : AH) (Q : AV → AH → Prop) : e36.q [.agg [I r_x, I r_y, I r_w, I r_h]] h Q = Q (I (if okR (Rect.mk r_x r_y r_w r_h) then 0 else 1)) h := e36_q ⟨r_x, r_y, r_w, r_h⟩ h Q
theorem validRect_c (r : Rect) : Pure Try.prog 41 [.agg r.enc] (.bool (okR r)) := by
  refine .of (by simp [Rect.cl]) (C41 (tb_ok [e69]) ?_)
  simp (disch := first | omega | (simp; done) | fail) [g41, M63, -Int.not_le, -Int.not_lt, g41_s3, g41_s2, g41_s1]
  grind [okR]
def e41 : QE Try.prog := .pure 41 (fun (r : Rect) => [.agg r.enc]) (fun (r : Rect) => True) (fun (r : Rect) => .bool (okR r)) (fun r _ => validRect_c r)
@[simp ↓] theorem e41_h (l : List (QE Try.prog)) (args : List AV) (h : AH) (Q : AV → AH → Prop) : tb (e41 :: l) 41 args h Q = e41.q args h Q := tb_here e41 l 41 args h Q rfl
@[simp ↓] theorem e41_t (l : List (QE Try.prog)) (f : Nat) (args : List AV) (h : AH) (Q : AV → AH → Prop) (hf : 41 ≠ f) : tb (e41 :: l) f args h Q = tb l f args h Q := tb_there e41 l f args h Q hf
@[simp ↓] theorem e41_q (r : Rect) (h : AH) (Q : AV → AH → Prop) : e41.q [.agg r.enc] h Q = Q (.bool (okR r)) h := (QE.pure_q (x := r) (by rintro _ h; simp at h; simp [h]) h Q).trans (by simp)
@[simp ↓] theorem e41_q_r (r_x : Int) (r_y : Int) (r_w : Int) (r_h : Int) (h : AH) (Q : AV → AH → Prop) : e41.q [.agg [I r_x, I r_y, I r_w, I r_h]] h Q = Q (.bool (okR (Rect.mk r_x r_y r_w r_h))) h := e41_q ⟨r_x, r_y, r_w, r_h⟩ h Q
end Go.Proofs.Ytpnekpbehcbmkaa
