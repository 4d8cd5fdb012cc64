/- What the smallest functions of geometry and of the reference compute: bounds of numbers, valid rectangles and points. What the functions that look at transforms compute: they answer alike in the program and in the reference. What composing two transforms computes: the program and the reference answer alike. What taking a point back through a transform computes: the program and the reference answer alike. What mapping a point back answers. What a glyph covers. What covering a point answers for a glyph run: the program and the reference answer alike. A call whose arguments are frozen for the call, and whose result is one new object that the caller owns. -/
import Derived.Test.YtpnekpbehcbmkaaD7A
import Derived.Test.YtpnekpbehcbmkaaD7FnsA
import Derived.Test.YtpnekpbehcbmkaaD7FnsB
set_option linter.unusedSimpArgs false
set_option linter.unusedVariables false
set_option linter.unnecessarySimpa false
noncomputable section
namespace Go.Proofs.Ytpnekpbehcbmkaa
open Go.Eng
def M63 (m : Int) : Prop := -9223372036854775807 ≤ m ∧ m ≤ 9223372036854775807
def within (n m : Int) : Bool := decide (-m ≤ n) && decide (n ≤ m)
theorem within_c (n m : Int) (hm : M63 m) : Pure Try.prog 61 [I n, I m] (.bool (within n m)) := by
  unfold M63 at hm
  refine .of (by simp [cI]) (C61 (tb_ok []) ?_)
  simp (disch := first | omega | (simp; done) | fail) [g61, -Int.not_le, -Int.not_lt]
  grind [within]
def e61 : QE Try.prog := .pure 61 (fun (((n, m)) : Int × Int) => [I n, I m]) (fun (((n, m)) : Int × Int) => M63 m) (fun (((n, m)) : Int × Int) => .bool (within n m)) (fun ⟨n, m⟩ hx => within_c n m hx)
@[simp ↓] theorem e61_h (l : List (QE Try.prog)) (args : List AV) (h : AH) (Q : AV → AH → Prop) : tb (e61 :: l) 61 args h Q = e61.q args h Q := tb_here e61 l 61 args h Q rfl
@[simp ↓] theorem e61_t (l : List (QE Try.prog)) (f : Nat) (args : List AV) (h : AH) (Q : AV → AH → Prop) (hf : 61 ≠ f) : tb (e61 :: l) f args h Q = tb l f args h Q := tb_there e61 l f args h Q hf
@[simp ↓] theorem e61_q (n : Int) (m : Int) (h : AH) (Q : AV → AH → Prop) : e61.q [I n, I m] h Q = ((M63 m) ∧ Q (.bool (within n m)) h) := (QE.pure_q (x := (n, m)) (by rintro ⟨_, _⟩ h; simp at h; simp [h]) h Q)
def isCol (n : Int) : Bool := decide (0 ≤ n) && decide (n ≤ 16777215)
theorem color_c (n : Int) : Pure Try.prog 37 [I n] (.bool (isCol n)) := by
  refine .of (by simp [cI]) (C37 (tb_ok []) ?_)
  simp (disch := first | omega | (simp; done) | fail) [g37, -Int.not_le, -Int.not_lt]
  grind [isCol]
def e37 : QE Try.prog := .pure 37 (fun (n : Int) => [I n]) (fun (n : Int) => True) (fun (n : Int) => .bool (isCol n)) (fun n _ => color_c n)
@[simp ↓] theorem e37_h (l : List (QE Try.prog)) (args : List AV) (h : AH) (Q : AV → AH → Prop) : tb (e37 :: l) 37 args h Q = e37.q args h Q := tb_here e37 l 37 args h Q rfl
@[simp ↓] theorem e37_t (l : List (QE Try.prog)) (f : Nat) (args : List AV) (h : AH) (Q : AV → AH → Prop) (hf : 37 ≠ f) : tb (e37 :: l) f args h Q = tb l f args h Q := tb_there e37 l f args h Q hf
@[simp ↓] theorem e37_q (n : Int) (h : AH) (Q : AV → AH → Prop) : e37.q [I n] h Q = Q (.bool (isCol n)) h := (QE.pure_q (x := n) (by rintro _ h; simp at h; simp [h]) h Q).trans (by simp)
def isRec (n : Int) : Bool := n == 1 || n == 4 || n == 5 || n == 6
theorem rectangular_c (n : Int) : Pure Try.prog 35 [I n] (.bool (isRec n)) := by
  refine .of (by simp [cI]) (C35 (tb_ok []) ?_)
  simp (disch := first | omega | (simp; done) | fail) [g35, -Int.not_le, -Int.not_lt, g35_s1]
  grind [isRec]
def e35 : QE Try.prog := .pure 35 (fun (n : Int) => [I n]) (fun (n : Int) => True) (fun (n : Int) => .bool (isRec n)) (fun n _ => rectangular_c n)
@[simp ↓] theorem e35_h (l : List (QE Try.prog)) (args : List AV) (h : AH) (Q : AV → AH → Prop) : tb (e35 :: l) 35 args h Q = e35.q args h Q := tb_here e35 l 35 args h Q rfl
@[simp ↓] theorem e35_t (l : List (QE Try.prog)) (f : Nat) (args : List AV) (h : AH) (Q : AV → AH → Prop) (hf : 35 ≠ f) : tb (e35 :: l) f args h Q = tb l f args h Q := tb_there e35 l f args h Q hf
@[simp ↓] theorem e35_q (n : Int) (h : AH) (Q : AV → AH → Prop) : e35.q [I n] h Q = Q (.bool (isRec n)) h := (QE.pure_q (x := n) (by rintro _ h; simp at h; simp [h]) h Q).trans (by simp)
def near40 (n : Int) : Bool := decide (-1099511627776 ≤ n) && decide (n ≤ 1099511627776)
theorem near1_c (n : Int) : Pure Try.prog 62 [I n] (.bool (near40 n)) := by
  refine .of (by simp [cI]) (C62 (tb_ok []) ?_)
  simp (disch := first | omega | (simp; done) | fail) [g62, -Int.not_le, -Int.not_lt]
  grind [near40]
def e62 : QE Try.prog := .pure 62 (fun (n : Int) => [I n]) (fun (n : Int) => True) (fun (n : Int) => .bool (near40 n)) (fun n _ => near1_c n)
@[simp ↓] theorem e62_h (l : List (QE Try.prog)) (args : List AV) (h : AH) (Q : AV → AH → Prop) : tb (e62 :: l) 62 args h Q = e62.q args h Q := tb_here e62 l 62 args h Q rfl
@[simp ↓] theorem e62_t (l : List (QE Try.prog)) (f : Nat) (args : List AV) (h : AH) (Q : AV → AH → Prop) (hf : 62 ≠ f) : tb (e62 :: l) f args h Q = tb l f args h Q := tb_there e62 l f args h Q hf
@[simp ↓] theorem e62_q (n : Int) (h : AH) (Q : AV → AH → Prop) : e62.q [I n] h Q = Q (.bool (near40 n)) h := (QE.pure_q (x := n) (by rintro _ h; simp at h; simp [h]) h Q).trans (by simp)
def okR (r : Rect) : Bool := within r.x 1048576 && within r.y 1048576 && decide (0 ≤ r.w) && decide (r.w ≤ 1048576) && decide (0 ≤ r.h) && decide (r.h ≤ 1048576)
theorem geoValidate_c (r : Rect) : Pure Try.prog 36 [.agg r.enc] (I (if okR r then 0 else 1)) := by
  refine .of (by simp [Rect.cl]) (C36 (tb_ok [e61]) ?_)
  simp [g36]
  refine ⟨fun vs h => vs = [.bool (!okR r)], ?_, ?_⟩
  · simp (disch := first | omega | (simp; done) | fail) [g36_a1, M63, -Int.not_le, -Int.not_lt, g36_s3, g36_s2, g36_s1]
    grind [okR]
  · rintro vs h rfl
    simp +contextual [g36_j2]
def e36 : QE Try.prog := .pure 36 (fun (r : Rect) => [.agg r.enc]) (fun (r : Rect) => True) (fun (r : Rect) => I (if okR r then 0 else 1)) (fun r _ => geoValidate_c r)
@[simp ↓] theorem e36_h (l : List (QE Try.prog)) (args : List AV) (h : AH) (Q : AV → AH → Prop) : tb (e36 :: l) 36 args h Q = e36.q args h Q := tb_here e36 l 36 args h Q rfl
@[simp ↓] theorem e36_t (l : List (QE Try.prog)) (f : Nat) (args : List AV) (h : AH) (Q : AV → AH → Prop) (hf : 36 ≠ f) : tb (e36 :: l) f args h Q = tb l f args h Q := tb_there e36 l f args h Q hf
@[simp ↓] theorem e36_q (r : Rect) (h : AH) (Q : AV → AH → Prop) : e36.q [.agg r.enc] h Q = Q (I (if okR r then 0 else 1)) h := (QE.pure_q (x := r) (by rintro _ h; simp at h; simp [h]) h Q).trans (by simp)
end Go.Proofs.Ytpnekpbehcbmkaa
end
noncomputable section
namespace Go.Proofs.Ytpnekpbehcbmkaa
open Go.Eng
/-- lists that fit into memory -/
def Sm {α : Type} (l : List α) : Prop := l.length ≤ 4611686018427387904
/-- a function that is called with one element -/
def eH (fn : Nat) {α : Type} (l : List α) (enc : α → List AV) (cap : List AV) (p : α → Bool) (hp : ∀ g ∈ l, Pure Try.prog fn (.agg (enc g) :: cap) (.bool (p g))) : QE Try.prog :=
  ⟨fn, fun args h Q => ∃ g ∈ l, args = .agg (enc g) :: cap ∧ Q (.bool (p g)) h, fun args h Q ⟨g, h1, h2, h3⟩ => ⟨_, h, h2 ▸ hp g h1 h, h3⟩⟩
theorem eH_h {fn : Nat} {α : Type} {l : List α} {enc : α → List AV} {cap : List AV} {p : α → Bool} {hp : ∀ g ∈ l, Pure Try.prog fn (.agg (enc g) :: cap) (.bool (p g))} {t : List (QE Try.prog)} {i : Nat} (hi : i < l.length) {h : AH} {Q : AV → AH → Prop} (hq : Q (.bool (p l[i])) h) :
    tb (eH fn l enc cap p hp :: t) fn (.agg (enc l[i]) :: cap) h Q := by
  rw [tb_here (eH fn l enc cap p hp) t fn _ _ _ rfl]
  exact ⟨l[i], List.getElem_mem hi, rfl, hq⟩
def idx {α : Type} (p : α → Bool) (l : List α) : Int := match l.findIdx? p with | some i => i | none => -1
theorem idx_some {α : Type} {p : α → Bool} {l : List α} {i : Nat} (hi : i < l.length) (hp : p l[i] = true) (hn : ∀ j (hj : j < i), p (l[j]'(by omega)) = false) : idx p l = i := by
  have : l.findIdx? p = some i := List.findIdx?_eq_some_iff_getElem.2 ⟨hi, hp, fun j hj => by simp [hn j hj]⟩
  simp [idx, this]
theorem idx_none {α : Type} {p : α → Bool} {l : List α} (hn : ∀ j (hj : j < l.length), p l[j] = false) : idx p l = -1 := by
  have : l.findIdx? p = none := List.findIdx?_eq_none_iff.2 fun x hx => by obtain ⟨j, hj, rfl⟩ := List.getElem_of_mem hx; exact hn j hj
  simp [idx, this]
theorem idx_nonneg {α : Type} (p : α → Bool) (l : List α) : decide (0 ≤ idx p l) = l.any p := by
  unfold idx
  cases h : l.findIdx? p with
  | none => rw [List.findIdx?_eq_none_iff] at h; simp; exact h
  | some i =>
    obtain ⟨h1, h2, _⟩ := List.findIdx?_eq_some_iff_getElem.1 h
    have : l.any p = true := List.any_eq_true.2 ⟨l[i], List.getElem_mem h1, h2⟩
    simp [this]
theorem indexFuncG_c (l : List Gl) (fn : Nat) (cap : List AV) (p : Gl → Bool) (hcap : ∀ c ∈ cap, Closed c) (hp : ∀ g ∈ l, Pure Try.prog fn (.agg g.enc :: cap) (.bool (p g))) (hl : Sm l) : Pure Try.prog 84 [gls l, .func (.func fn) [] cap] (I (idx p l)) := by
  refine .of (by simp [gls_cl]; exact .func (by simp) hcap) (C84 (tb_ok [eH fn l Gl.enc cap p hp]) ?_)
  unfold Sm at hl
  simp [g84]
  refine ⟨fun m vs h => ∃ i : Nat, i ≤ l.length ∧ m = l.length - i ∧ vs = [gls l, .func (.func fn) [] cap, I l.length, I i] ∧ (∀ j (hj : j < i) (hj2 : j < l.length), p l[j] = false) ∧ h = emp, l.length, ⟨0, by simp⟩, ?_⟩
  rintro m vs h ⟨i, hi, rfl, rfl, hn, rfl⟩
  by_cases hlt : i < l.length
  · simp (disch := first | omega | (simp; done) | fail) [g84_l1, hlt]
    refine eH_h hlt ?_
    simp (disch := first | omega | (simp; done) | fail) [g84_j3]
    refine ⟨fun h1 => (idx_some hlt h1 (fun j hj => hn j hj (by omega))).symm, fun h1 => ⟨l.length - (i + 1), by omega, i + 1, by omega, rfl, by simp, fun j hj hj2 => ?_⟩⟩
    by_cases hj3 : j < i
    · exact hn j hj3 hj2
    · obtain rfl : j = i := by omega
      exact h1
  · have : i = l.length := by omega
    subst this
    simp [g84_l1, g84_j3, g84_c2]
    exact (idx_none fun j hj => hn j hj hj).symm
theorem containsFuncG_c (l : List Gl) (fn : Nat) (cap : List AV) (p : Gl → Bool) (hcap : ∀ c ∈ cap, Closed c) (hp : ∀ g ∈ l, Pure Try.prog fn (.agg g.enc :: cap) (.bool (p g))) (hl : Sm l) : Pure Try.prog 63 [gls l, .func (.func fn) [] cap] (.bool (l.any p)) := by
  refine .of (by simp [gls_cl]; exact .func (by simp) hcap) (C63 (tb_ok [.pure 84 (fun _ : Unit => [gls l, .func (.func fn) [] cap]) (fun _ => True) (fun _ => I (idx p l)) (fun _ _ => indexFuncG_c l fn cap p hcap hp hl)]) ?_)
  simp [g63]
  rw [tb_here (QE.pure 84 _ _ _ _) [] 84 _ _ _ rfl]
  refine ⟨(), rfl, trivial, ?_⟩
  simp [idx_nonneg]
abbrev F62 : AV := .func (.func 62) [] []
def farG (g : Gl) : Bool := !near40 g.x || !near40 g.adv
theorem near2_c (g : Gl) : Pure Try.prog 64 [.agg g.enc, .pptr [F62]] (.bool (farG g)) := by
  refine .of (by simp [Gl.cl]; exact .pptr (by simp; exact .func (by simp) (by simp))) (C64 (tb_ok [e62]) ?_)
  simp (disch := first | omega | (simp; done) | fail) [g64, -Int.not_le, -Int.not_lt, g64_s1]
  grind [farG]
def nearL (l : Ln) : Bool := near40 l.x && !l.gl.any farG
def e63n : QE Try.prog := ⟨63, fun args h Q => ∃ l id, args = [gls l, .func (.func 64) [] [.ptr id 0]] ∧ Sm l ∧ h.cellsAt id = some [F62] ∧ Q (.bool (l.any farG)) h, fun args h Q ⟨l, id, h1, h2, h3, h4⟩ => by
  subst h1
  have hp := containsFuncG_c l 64 [.pptr [F62]] farG (by simp; exact .pptr (by simp; exact .func (by simp) (by simp))) (fun g _ => near2_c g) h2
  refine ⟨_, h, Fresh.call (pargs := [gls l, .func (.func 64) [] [.pptr [F62]]]) ((hp emp).mono fun v h' hq => ?_) rfl (frz_args2 (gls_pl l h) ?_), h4⟩
  · rw [hq.1]; exact .bool _
  · refine .func _ _ _ _ _ rfl rfl (by simp) fun i c d h5 h6 => ?_
    match i with
    | 0 =>
      simp at h5 h6; subst h5; subst h6
      exact .ptr id 0 [F62] [F62] h3 (by simp) fun i c d h7 h8 => by
        match i with
        | 0 => simp at h7 h8; subst h7; subst h8; exact Plain.func (by simp) (by simp) h
        | i + 1 => simp at h8
    | i + 1 => simp at h5⟩
@[simp ↓] theorem e63n_h (t : List (QE Try.prog)) (l : List Gl) (id : Nat) (h : AH) (Q : AV → AH → Prop) : tb (e63n :: t) 63 [gls l, .func (.func 64) [] [.ptr id 0]] h Q = (Sm l ∧ h.cellsAt id = some [F62] ∧ Q (.bool (l.any farG)) h) := by
  rw [tb_here e63n t 63 _ _ _ rfl]
  apply propext
  constructor
  · rintro ⟨l', id', h1, h2, h3, h4⟩
    simp at h1
    obtain ⟨rfl, rfl⟩ := h1
    exact ⟨h2, h3, h4⟩
  · rintro ⟨h2, h3, h4⟩; exact ⟨l, id, rfl, h2, h3, h4⟩
theorem near_c (l : Ln) (hl : Sm l.gl) : Pure Try.prog 38 [.agg l.enc] (.bool (nearL l)) := by
  refine .of (by simp [Ln.cl]) (C38 (tb_ok [e62, e63n]) ?_)
  simp (disch := first | omega | (simp; done) | fail) [g38, -Int.not_le, -Int.not_lt, g38_s1]
  grind [nearL]
def e38 : QE Try.prog := .pure 38 (fun (l : Ln) => [.agg l.enc]) (fun (l : Ln) => Sm l.gl) (fun (l : Ln) => .bool (nearL l)) (fun l hx => near_c l hx)
@[simp ↓] theorem e38_h (l : List (QE Try.prog)) (args : List AV) (h : AH) (Q : AV → AH → Prop) : tb (e38 :: l) 38 args h Q = e38.q args h Q := tb_here e38 l 38 args h Q rfl
@[simp ↓] theorem e38_t (l : List (QE Try.prog)) (f : Nat) (args : List AV) (h : AH) (Q : AV → AH → Prop) (hf : 38 ≠ f) : tb (e38 :: l) f args h Q = tb l f args h Q := tb_there e38 l f args h Q hf
@[simp ↓] theorem e38_q (l : Ln) (h : AH) (Q : AV → AH → Prop) : e38.q [.agg l.enc] h Q = ((Sm l.gl) ∧ Q (.bool (nearL l)) h) := (QE.pure_q (x := l) (by rintro _ h; simp at h; simp [h]) h Q)
def okT (t : Tf) : Bool := decide (0 ≤ t.turn) && decide (t.turn ≤ 3) && decide (1 ≤ t.scale) && decide (t.scale ≤ 16) && within t.dx 1048576 && within t.dy 1048576
theorem check_c (t : Tf) : Pure Try.prog 65 [.agg t.enc] (I (if okT t then 0 else 1)) := by
  refine .of (by simp [Tf.cl]) (C65 (tb_ok [e61]) ?_)
  simp [g65]
  refine ⟨fun vs h => vs = [.bool (!okT t)], ?_, ?_⟩
  · simp (disch := first | omega | (simp; done) | fail) [g65_a1, M63, -Int.not_le, -Int.not_lt, g65_s2, g65_s1, g65_s3]
    grind [okT]
  · rintro vs h rfl
    simp +contextual [g65_j2]
def e65 : QE Try.prog := .pure 65 (fun (t : Tf) => [.agg t.enc]) (fun (t : Tf) => True) (fun (t : Tf) => I (if okT t then 0 else 1)) (fun t _ => check_c t)
@[simp ↓] theorem e65_h (l : List (QE Try.prog)) (args : List AV) (h : AH) (Q : AV → AH → Prop) : tb (e65 :: l) 65 args h Q = e65.q args h Q := tb_here e65 l 65 args h Q rfl
@[simp ↓] theorem e65_t (l : List (QE Try.prog)) (f : Nat) (args : List AV) (h : AH) (Q : AV → AH → Prop) (hf : 65 ≠ f) : tb (e65 :: l) f args h Q = tb l f args h Q := tb_there e65 l f args h Q hf
@[simp ↓] theorem e65_q (t : Tf) (h : AH) (Q : AV → AH → Prop) : e65.q [.agg t.enc] h Q = Q (I (if okT t then 0 else 1)) h := (QE.pure_q (x := t) (by rintro _ h; simp at h; simp [h]) h Q).trans (by simp)
@[simp ↓] theorem e65_q_t (t_t : Int) (t_m : Bool) (t_s : Int) (t_dx : Int) (t_dy : Int) (h : AH) (Q : AV → AH → Prop) : e65.q [.agg [I t_t, .bool t_m, I t_s, I t_dx, I t_dy]] h Q = Q (I (if okT (Tf.mk t_t t_m t_s t_dx t_dy) then 0 else 1)) h := e65_q ⟨t_t, t_m, t_s, t_dx, t_dy⟩ h Q
end Go.Proofs.Ytpnekpbehcbmkaa
end
noncomputable section
namespace Go.Proofs.Ytpnekpbehcbmkaa
open Go.Eng
def okP (p : Pt) : Bool := within p.x 2097152 && within p.y 2097152
theorem point_c (p : Pt) : Pure Try.prog 43 [.agg p.enc] (.bool (okP p)) := by
  refine .of (by simp [Pt.cl]) (C43 (tb_ok []) ?_)
  simp (disch := first | omega | (simp; done) | fail) [g43, -Int.not_le, -Int.not_lt, g43_s1, g43_s2]
  grind [okP, within]
def e43 : QE Try.prog := .pure 43 (fun (p : Pt) => [.agg p.enc]) (fun (p : Pt) => True) (fun (p : Pt) => .bool (okP p)) (fun p _ => point_c p)
@[simp ↓] theorem e43_h (l : List (QE Try.prog)) (args : List AV) (h : AH) (Q : AV → AH → Prop) : tb (e43 :: l) 43 args h Q = e43.q args h Q := tb_here e43 l 43 args h Q rfl
@[simp ↓] theorem e43_t (l : List (QE Try.prog)) (f : Nat) (args : List AV) (h : AH) (Q : AV → AH → Prop) (hf : 43 ≠ f) : tb (e43 :: l) f args h Q = tb l f args h Q := tb_there e43 l f args h Q hf
@[simp ↓] theorem e43_q (p : Pt) (h : AH) (Q : AV → AH → Prop) : e43.q [.agg p.enc] h Q = Q (.bool (okP p)) h := (QE.pure_q (x := p) (by rintro _ h; simp at h; simp [h]) h Q).trans (by simp)
def zR : Rect := ⟨0, 0, 0, 0⟩
def vld (r : Rect) : Rect := if okR r then r else zR
theorem okR_bd {r : Rect} (h : okR r = true) : -1048576 ≤ r.x ∧ r.x ≤ 1048576 ∧ -1048576 ≤ r.y ∧ r.y ≤ 1048576 ∧ 0 ≤ r.w ∧ r.w ≤ 1048576 ∧ 0 ≤ r.h ∧ r.h ≤ 1048576 := by grind [okR, within]
theorem vld_bd (r : Rect) : -1048576 ≤ (vld r).x ∧ (vld r).x ≤ 1048576 ∧ -1048576 ≤ (vld r).y ∧ (vld r).y ≤ 1048576 ∧ 0 ≤ (vld r).w ∧ (vld r).w ≤ 1048576 ∧ 0 ≤ (vld r).h ∧ (vld r).h ≤ 1048576 := by
  unfold vld
  cases h : okR r
  · simp [zR]
  · simpa using okR_bd h
theorem valid_c (r : Rect) : Pure Try.prog 70 [.agg r.enc] (.agg (vld r).enc) := by
  refine .of (by simp [Rect.cl]) (C70 (tb_ok [e36]) ?_)
  cases h : okR r <;> simp (disch := first | omega | (simp; done) | fail) [g70, h, vld]
  simp [zR, Rect.enc]
def e70 : QE Try.prog := .pure 70 (fun (r : Rect) => [.agg r.enc]) (fun (r : Rect) => True) (fun (r : Rect) => .agg (vld r).enc) (fun r _ => valid_c r)
@[simp ↓] theorem e70_h (l : List (QE Try.prog)) (args : List AV) (h : AH) (Q : AV → AH → Prop) : tb (e70 :: l) 70 args h Q = e70.q args h Q := tb_here e70 l 70 args h Q rfl
@[simp ↓] theorem e70_q (r : Rect) (h : AH) (Q : AV → AH → Prop) : e70.q [.agg r.enc] h Q = Q (.agg (vld r).enc) h := (QE.pure_q (x := r) (by rintro _ h; simp at h; simp [h]) h Q).trans (by simp)
def inR (r : Rect) (p : Pt) : Bool := okR r && decide (r.x ≤ p.x) && decide (p.x < r.x + r.w) && decide (r.y ≤ p.y) && decide (p.y < r.y + r.h)
theorem contains_c (r : Rect) (p : Pt) : Pure Try.prog 44 [.agg r.enc, .agg p.enc] (.bool (inR r p)) := by
  refine .of (by simp [Rect.cl, Pt.cl]) (C44 (tb_ok [e70]) ?_)
  have hb := vld_bd r
  simp (disch := first | omega | (simp; done) | fail) [g44, -Int.not_le, -Int.not_lt, g44_s3, g44_s2, g44_s1, g44_s4]
  cases h : okR r <;> grind [inR, vld, zR]
def e44 : QE Try.prog := .pure 44 (fun (((r, p)) : Rect × Pt) => [.agg r.enc, .agg p.enc]) (fun (((r, p)) : Rect × Pt) => True) (fun (((r, p)) : Rect × Pt) => .bool (inR r p)) (fun ⟨r, p⟩ _ => contains_c r p)
@[simp ↓] theorem e44_h (l : List (QE Try.prog)) (args : List AV) (h : AH) (Q : AV → AH → Prop) : tb (e44 :: l) 44 args h Q = e44.q args h Q := tb_here e44 l 44 args h Q rfl
@[simp ↓] theorem e44_t (l : List (QE Try.prog)) (f : Nat) (args : List AV) (h : AH) (Q : AV → AH → Prop) (hf : 44 ≠ f) : tb (e44 :: l) f args h Q = tb l f args h Q := tb_there e44 l f args h Q hf
@[simp ↓] theorem e44_q (r : Rect) (p : Pt) (h : AH) (Q : AV → AH → Prop) : e44.q [.agg r.enc, .agg p.enc] h Q = Q (.bool (inR r p)) h := (QE.pure_q (x := (r, p)) (by rintro ⟨_, _⟩ h; simp at h; simp [h]) h Q).trans (by simp)
/-! division -/
theorem fl_aux (a b : Int) (hb : 0 < b) : (if a.tmod b < 0 then a.tdiv b - 1 else a.tdiv b) = a / b := by
  rw [Int.tmod_eq_emod, Int.tdiv_eq_ediv]
  have h1 := Int.emod_nonneg a (show b ≠ 0 by omega)
  have h2 := Int.emod_lt_of_pos a hb
  have h3 : b.sign = 1 := Int.sign_eq_one_of_pos hb
  have h4 : (b.natAbs : Int) = b := Int.natAbs_of_nonneg (by omega)
  have hd : b ∣ a ↔ a % b = 0 := Int.dvd_iff_emod_eq_zero
  by_cases ha : 0 ≤ a
  · simp [ha]; omega
  · by_cases hz : a % b = 0
    · have : b ∣ a := hd.2 hz
      simp [this, hz]
    · have : ¬ b ∣ a := fun h => hz (hd.1 h)
      simp [ha, this, h3]
      intro h; omega
theorem tdiv_bd (a b : Int) (hb : 0 < b) (B : Int) (h1 : -B ≤ a) (h2 : a ≤ B) (hB : B ≤ 4611686018427387904) : -B ≤ a.tdiv b ∧ a.tdiv b ≤ B := by
  have h := Int.natAbs_tdiv_le_natAbs a b
  omega
abbrev FP (a b : Int) : Prop := -1152921504606846976 ≤ a ∧ a ≤ 1152921504606846976 ∧ 0 < b ∧ b ≤ 1152921504606846976
theorem floor_c (a b : Int) (hx : FP a b) : Pure Try.prog 71 [I a, I b] (I (a / b)) := by
  refine .of (by simp [cI]) (C71 (tb_ok []) ?_)
  obtain ⟨h1, h2, h3, h4⟩ := hx
  have hq := tdiv_bd a b h3 1152921504606846976 h1 h2 (by omega)
  have hf := fl_aux a b h3
  simp (disch := first | omega | (simp; done) | fail) [g71, kArith_quo, kArith_rem]
  refine ⟨fun vs h => vs = [I (a / b)] ∧ h = emp, ?_, ?_⟩
  · simp (disch := first | omega | (simp; done) | fail) [g71_a1, -Int.not_lt]
    grind
  · rintro vs h ⟨rfl, rfl⟩
    simp [g71_j2]
def e71 : QE Try.prog := .pure 71 (fun (((a, b)) : Int × Int) => [I a, I b]) (fun (((a, b)) : Int × Int) => FP a b) (fun (((a, b)) : Int × Int) => I (a / b)) (fun ⟨a, b⟩ hx => floor_c a b hx)
@[simp ↓] theorem e71_h (l : List (QE Try.prog)) (args : List AV) (h : AH) (Q : AV → AH → Prop) : tb (e71 :: l) 71 args h Q = e71.q args h Q := tb_here e71 l 71 args h Q rfl
@[simp ↓] theorem e71_q (a : Int) (b : Int) (h : AH) (Q : AV → AH → Prop) : e71.q [I a, I b] h Q = ((FP a b) ∧ Q (I (a / b)) h) := (QE.pure_q (x := (a, b)) (by rintro ⟨_, _⟩ h; simp at h; simp [h]) h Q)
end Go.Proofs.Ytpnekpbehcbmkaa
end
noncomputable section
namespace Go.Proofs.Ytpnekpbehcbmkaa
open Go.Eng
def rot : Nat → Int → Int → Int × Int
  | 0, x, y => (x, y)
  | n + 1, x, y => rot n (-y) x
theorem rot_bd (B : Int) : ∀ (n : Nat) (x y : Int), -B ≤ x → x ≤ B → -B ≤ y → y ≤ B → -B ≤ (rot n x y).1 ∧ (rot n x y).1 ≤ B ∧ -B ≤ (rot n x y).2 ∧ (rot n x y).2 ≤ B
  | 0, x, y, h1, h2, h3, h4 => ⟨h1, h2, h3, h4⟩
  | n + 1, x, y, h1, h2, h3, h4 => rot_bd B n (-y) x (by omega) (by omega) h1 h2
def mx (t : Tf) (x : Int) : Int := if t.mirror then -x else x
def lin (t : Tf) (x y : Int) : Pt := ⟨(rot t.turn.toNat (mx t x) y).1 * t.scale, (rot t.turn.toNat (mx t x) y).2 * t.scale⟩
theorem okT_bd {t : Tf} (h : okT t = true) : 0 ≤ t.turn ∧ t.turn ≤ 3 ∧ 1 ≤ t.scale ∧ t.scale ≤ 16 ∧ -1048576 ≤ t.dx ∧ t.dx ≤ 1048576 ∧ -1048576 ≤ t.dy ∧ t.dy ≤ 1048576 := by grind [okT, within]
theorem mul_bd {a b A B : Int} (h1 : -A ≤ a) (h2 : a ≤ A) (h3 : 0 ≤ b) (h4 : b ≤ B) : -(A * B) ≤ a * b ∧ a * b ≤ A * B := by
  have hA : 0 ≤ A := by omega
  constructor
  · have h5 : -A * b ≤ a * b := Int.mul_le_mul_of_nonneg_right h1 h3
    have h6 : A * b ≤ A * B := Int.mul_le_mul_of_nonneg_left h4 hA
    have h7 : -A * b = -(A * b) := Int.neg_mul _ _
    omega
  · have h5 : a * b ≤ A * b := Int.mul_le_mul_of_nonneg_right h2 h3
    have h6 : A * b ≤ A * B := Int.mul_le_mul_of_nonneg_left h4 hA
    omega
abbrev Bd20 (x : Int) : Prop := -2097152 ≤ x ∧ x ≤ 2097152
theorem lin_bd {t : Tf} (ht : okT t = true) {x y : Int} (hx : Bd20 x) (hy : Bd20 y) : -33554432 ≤ (lin t x y).x ∧ (lin t x y).x ≤ 33554432 ∧ -33554432 ≤ (lin t x y).y ∧ (lin t x y).y ≤ 33554432 := by
  have hb := okT_bd ht
  have hm : Bd20 (mx t x) := by unfold mx; split <;> omega
  have hr := rot_bd 2097152 t.turn.toNat (mx t x) y hm.1 hm.2 hy.1 hy.2
  have h1 := mul_bd (A := 2097152) (B := 16) hr.1 hr.2.1 (by omega : 0 ≤ t.scale) (by omega)
  have h2 := mul_bd (A := 2097152) (B := 16) hr.2.2.1 hr.2.2.2 (by omega : 0 ≤ t.scale) (by omega)
  simp only [lin]; omega
def linI (t : Tf) (p : Pt) (m : Nat) (vs : List AV) (h : AH) : Prop := ∃ (i : Nat) (X Y : Int), (i : Int) ≤ t.turn ∧ m = t.turn.toNat - i ∧ vs = [.ptr 0 0, .ptr 1 0, .ptr 2 0, I i] ∧ h.cellsAt 0 = some t.enc ∧ h.cellsAt 1 = some (Pt.enc ⟨X, Y⟩) ∧ h.cellsAt 2 = some [I 0, I 0] ∧ rot (t.turn.toNat - i) X Y = rot t.turn.toNat (mx t p.x) p.y ∧ Bd20 X ∧ Bd20 Y
theorem linear_c (t : Tf) (p : Pt) (hx : okT t = true ∧ Bd20 p.x ∧ Bd20 p.y) : Pure Try.prog 66 [.agg t.enc, .agg p.enc] (.agg (lin t p.x p.y).enc) := by
  refine .of (by simp [Tf.cl, Pt.cl]) (C66 (tb_ok []) ?_)
  obtain ⟨ht, hx1, hy1⟩ := hx
  have hb := okT_bd ht
  have hm : Bd20 (mx t p.x) := by unfold mx; split <;> omega
  simp (disch := first | (simp; done) | omega | (simp only [nx_add, nx_set, nx_kill, nx_mk, nx_emp]; omega) | fail) [g66]
  refine ⟨fun vs h => vs = [.ptr 0 0, .ptr 1 0, .ptr 2 0] ∧ h.cellsAt 0 = some t.enc ∧ h.cellsAt 1 = some (Pt.enc ⟨mx t p.x, p.y⟩) ∧ h.cellsAt 2 = some [I 0, I 0], ?_, ?_⟩
  · cases hmi : t.mirror <;> simp (disch := first | (simp; done) | omega | (simp only [nx_add, nx_set, nx_kill, nx_mk, nx_emp]; omega) | fail) [g66_a1, mx, hmi, Pt.enc]
  · rintro vs h ⟨rfl, h0, h1, h2⟩
    refine ⟨linI t p, t.turn.toNat, ⟨0, mx t p.x, p.y, by omega, rfl, rfl, h0, h1, h2, rfl, hm, hy1⟩, ?_⟩
    rintro m vs h ⟨i, X, Y, hi, rfl, rfl, h0, h1, h2, hr, hX, hY⟩
    by_cases hlt : (i : Int) < t.turn
    · simp (disch := first | (simp; done) | omega | (simp only [nx_add, nx_set, nx_kill, nx_mk, nx_emp]; omega) | fail) [g66_l2, hlt, h0, h1, h2, g66_s1]
      refine ⟨t.turn.toNat - (i + 1), by omega, i + 1, -Y, X, by omega, rfl, by simp, ?_⟩
      simp (disch := first | (simp; done) | omega | (simp only [nx_add, nx_set, nx_kill, nx_mk, nx_emp]; omega) | fail) [h0, h1, h2, Pt.enc]
      refine ⟨?_, by omega⟩
      rw [← hr, show t.turn.toNat - i = (t.turn.toNat - (i + 1)) + 1 by omega]; rfl
    · have hz : t.turn.toNat - i = 0 := by omega
      rw [hz] at hr
      have h3 := mul_bd (A := 2097152) (B := 16) hX.1 hX.2 (by omega : 0 ≤ t.scale) (by omega)
      have h4 := mul_bd (A := 2097152) (B := 16) hY.1 hY.2 (by omega : 0 ≤ t.scale) (by omega)
      simp (disch := first | (simp; done) | omega | (simp only [nx_add, nx_set, nx_kill, nx_mk, nx_emp]; omega) | fail) [g66_l2, hlt, h0, h1, h2, g66_s1]
      simp (disch := first | (simp; done) | omega | (simp only [nx_add, nx_set, nx_kill, nx_mk, nx_emp]; omega) | fail) [h0, h1, h2, g66_j4, g66_c3, g66_s1, g66_s2]
      simp [lin, Pt.enc, ← hr, rot]
def e66 : QE Try.prog := .pure 66 (fun (((t, p)) : Tf × Pt) => [.agg t.enc, .agg p.enc]) (fun (((t, p)) : Tf × Pt) => okT t = true ∧ Bd20 p.x ∧ Bd20 p.y) (fun (((t, p)) : Tf × Pt) => .agg (lin t p.x p.y).enc) (fun ⟨t, p⟩ hx => linear_c t p hx)
@[simp ↓] theorem e66_h (l : List (QE Try.prog)) (args : List AV) (h : AH) (Q : AV → AH → Prop) : tb (e66 :: l) 66 args h Q = e66.q args h Q := tb_here e66 l 66 args h Q rfl
@[simp ↓] theorem e66_q (t : Tf) (p : Pt) (h : AH) (Q : AV → AH → Prop) : e66.q [.agg t.enc, .agg p.enc] h Q = ((okT t = true ∧ Bd20 p.x ∧ Bd20 p.y) ∧ Q (.agg (lin t p.x p.y).enc) h) := (QE.pure_q (x := (t, p)) (by rintro ⟨_, _⟩ h; simp at h; simp [h]) h Q)
@[simp ↓] theorem e66_q_p (t : Tf) (p_x : Int) (p_y : Int) (h : AH) (Q : AV → AH → Prop) : e66.q [.agg t.enc, .agg [I p_x, I p_y]] h Q = ((okT t = true ∧ Bd20 (Pt.mk p_x p_y).x ∧ Bd20 (Pt.mk p_x p_y).y) ∧ Q (.agg (lin t (Pt.mk p_x p_y).x (Pt.mk p_x p_y).y).enc) h) := e66_q t ⟨p_x, p_y⟩ h Q
def zT : Tf := ⟨0, false, 0, 0, 0⟩
def cmb (a b : Tf) : Tf := ⟨(if a.mirror then a.turn + 4 - b.turn else a.turn + b.turn) % 4, a.mirror != b.mirror, a.scale * b.scale, (lin a b.dx b.dy).x + a.dx, (lin a b.dx b.dy).y + a.dy⟩
def cmbOk (a b : Tf) : Bool := okT a && okT b && okT (cmb a b)
def cmbR (a b : Tf) : AV := if cmbOk a b then .tup [.agg (cmb a b).enc, I 0] else .tup [.agg zT.enc, I 1]
set_option maxHeartbeats 2000000 in
theorem combine_c (a b : Tf) : Pure Try.prog 39 [.agg a.enc, .agg b.enc] (cmbR a b) := by
  refine .of (by simp [Tf.cl]) (C39 (tb_ok [e65, e66]) ?_)
  simp (disch := first | (simp; done) | omega | (simp only [nx_add, nx_set, nx_kill, nx_mk, nx_emp]; omega) | fail) [g39]
  refine ⟨fun vs h => vs = [.ptr 0 0, .ptr 1 0, .ptr 2 0, .bool (!(okT a && okT b))] ∧ h.cellsAt 0 = some a.enc ∧ h.cellsAt 1 = some b.enc ∧ h.cellsAt 2 = some [I 0, .bool false, I 0, I 0, I 0] ∧ h.nx = 3, ?_, ?_⟩
  · cases ha : okT a <;> cases hb : okT b <;> simp (disch := first | (simp; done) | omega | (simp only [nx_add, nx_set, nx_kill, nx_mk, nx_emp]; omega) | fail) [g39_a1, g39_s1, ha, hb]
  · rintro vs h ⟨rfl, h0, h1, h2, hn⟩
    cases hab : (okT a && okT b)
    · have hc : cmbOk a b = false := by simp [cmbOk, hab]
      simp (disch := first | (simp; done) | omega | (simp only [nx_add, nx_set, nx_kill, nx_mk, nx_emp]; omega) | fail) [g39_j4, h0, h1, h2, cmbR, hc]
      simp [zT, Tf.enc]
    · simp at hab
      have ba := okT_bd hab.1
      have bb := okT_bd hab.2
      simp (disch := first | (simp; done) | omega | (simp only [nx_add, nx_set, nx_kill, nx_mk, nx_emp]; omega) | fail) [g39_j4, h0, h1, h2]
      refine ⟨fun vs h => vs = [.ptr 0 0, .ptr 1 0, .ptr 2 0, I (if a.mirror then a.turn + 4 - b.turn else a.turn + b.turn)] ∧ h.cellsAt 0 = some a.enc ∧ h.cellsAt 1 = some b.enc ∧ h.cellsAt 2 = some [I 0, .bool false, I 0, I 0, I 0] ∧ h.nx = 3, ?_, ?_⟩
      · cases hm : a.mirror <;> simp (disch := first | (simp; done) | omega | (simp only [nx_add, nx_set, nx_kill, nx_mk, nx_emp]; omega) | fail) [g39_a2, h0, h1, h2, hn]
      · rintro vs h ⟨rfl, h0, h1, h2, hn⟩
        have hl := lin_bd hab.1 (x := b.dx) (y := b.dy) (by omega) (by omega)
        have hs := mul_bd (a := a.scale) (b := b.scale) (A := 16) (B := 16) (by omega) (by omega) (by omega) (by omega)
        have hc : (cmb a b) = ⟨(if a.mirror then a.turn + 4 - b.turn else a.turn + b.turn) % 4, a.mirror != b.mirror, a.scale * b.scale, (lin a b.dx b.dy).x + a.dx, (lin a b.dx b.dy).y + a.dy⟩ := rfl
        have ht : 0 ≤ (if a.mirror then a.turn + 4 - b.turn else a.turn + b.turn) := by split <;> omega
        generalize (if a.mirror then a.turn + 4 - b.turn else a.turn + b.turn) = T at ht hc ⊢
        have ht2 := Int.tmod_eq_emod_of_nonneg (b := 4) ht
        simp (disch := first | (simp; done) | omega | (simp only [nx_add, nx_set, nx_kill, nx_mk, nx_emp]; omega) | fail) [g39_j3, h0, h1, h2, hn, hab.1, kArith_rem, ht2]
        simp (disch := first | (simp; done) | omega | (simp only [nx_add, nx_set, nx_kill, nx_mk, nx_emp]; omega) | fail) [g39_s5, h0, h1, h2, hn, hab.1, kArith_rem, ht2]
        simp (disch := first | (simp; done) | omega | (simp only [nx_add, nx_set, nx_kill, nx_mk, nx_emp]; omega) | fail) [g39_s4, h0, h1, h2, hn, hab.1, kArith_rem, ht2]
        simp (disch := first | (simp; done) | omega | (simp only [nx_add, nx_set, nx_kill, nx_mk, nx_emp]; omega) | fail) [g39_s3, h0, h1, h2, hn, hab.1, kArith_rem, ht2]
        simp (disch := first | (simp; done) | omega | (simp only [nx_add, nx_set, nx_kill, nx_mk, nx_emp]; omega) | fail) [g39_s2, h0, h1, h2, hn, hab.1, kArith_rem, ht2]
        have hc' : cmb a b = ⟨T % 4, !(a.mirror == b.mirror), a.scale * b.scale, (lin a b.dx b.dy).x + a.dx, (lin a b.dx b.dy).y + a.dy⟩ := hc
        rw [← hc']
        refine ⟨⟨by omega, by omega⟩, fun hk => ?_, fun hk => ?_⟩
        · simp [cmbR, cmbOk, hab.1, hab.2, hk, zT, Tf.enc]
        · simp [cmbR, cmbOk, hab.1, hab.2, hk]
          simp [hc', Tf.enc]
def e39 : QE Try.prog := .pure 39 (fun (((a, b)) : Tf × Tf) => [.agg a.enc, .agg b.enc]) (fun (((a, b)) : Tf × Tf) => True) (fun (((a, b)) : Tf × Tf) => cmbR a b) (fun ⟨a, b⟩ _ => combine_c a b)
@[simp ↓] theorem e39_h (l : List (QE Try.prog)) (args : List AV) (h : AH) (Q : AV → AH → Prop) : tb (e39 :: l) 39 args h Q = e39.q args h Q := tb_here e39 l 39 args h Q rfl
@[simp ↓] theorem e39_q (a : Tf) (b : Tf) (h : AH) (Q : AV → AH → Prop) : e39.q [.agg a.enc, .agg b.enc] h Q = Q (cmbR a b) h := (QE.pure_q (x := (a, b)) (by rintro ⟨_, _⟩ h; simp at h; simp [h]) h Q).trans (by simp)
end Go.Proofs.Ytpnekpbehcbmkaa
end
noncomputable section
namespace Go.Proofs.Ytpnekpbehcbmkaa
open Go.Eng
def rotB : Nat → Int → Int → Int × Int
  | 0, x, y => (x, y)
  | n + 1, x, y => rotB n y (-x - 1)
def bk (t : Tf) (p : Pt) : Pt :=
  if okT t && okP p then
    ⟨if t.mirror then -(rotB t.turn.toNat ((p.x - t.dx) / t.scale) ((p.y - t.dy) / t.scale)).1 - 1 else (rotB t.turn.toNat ((p.x - t.dx) / t.scale) ((p.y - t.dy) / t.scale)).1, (rotB t.turn.toNat ((p.x - t.dx) / t.scale) ((p.y - t.dy) / t.scale)).2⟩
  else ⟨0, 0⟩
theorem okP_bd {p : Pt} (h : okP p = true) : -2097152 ≤ p.x ∧ p.x ≤ 2097152 ∧ -2097152 ≤ p.y ∧ p.y ≤ 2097152 := by grind [okP, within]
theorem div_bd {a b : Int} (hb : 1 ≤ b) (h1 : -3145728 ≤ a) (h2 : a ≤ 3145728) : -4194304 ≤ a / b ∧ a / b ≤ 4194304 := by
  constructor
  · exact Int.le_ediv_of_mul_le (by omega) (by omega)
  · have h3 : a / b ≤ 3145728 / b := Int.ediv_le_ediv (by omega) h2
    have h4 : (3145728 : Int) / b ≤ 3145728 := Int.ediv_le_self _ (by omega)
    omega
abbrev Bd23 (n : Nat) (x : Int) : Prop := -(4194304 + n) ≤ x ∧ x ≤ 4194304 + n
def bkI (t : Tf) (x y : Int) (m : Nat) (vs : List AV) (h : AH) : Prop := ∃ (i : Nat) (X Y : Int), (i : Int) ≤ t.turn ∧ m = t.turn.toNat - i ∧ vs = [.ptr 0 0, .ptr 2 0, .ptr 20 0, I i] ∧ h.cellsAt 0 = some t.enc ∧ h.cellsAt 2 = some [I 0, I 0] ∧ h.cellsAt 20 = some [I X, I Y] ∧ rotB (t.turn.toNat - i) X Y = rotB t.turn.toNat x y ∧ Bd23 i X ∧ Bd23 i Y
theorem back_c (t : Tf) (p : Pt) : Pure Try.prog 45 [.agg t.enc, .agg p.enc] (.agg (bk t p).enc) := by
  refine .of (by simp [Tf.cl, Pt.cl]) (C45 (tb_ok [e65, e61, e71]) ?_)
  simp (disch := first | (simp; done) | omega | (simp only [nx_add, nx_set, nx_kill, nx_mk, nx_emp]; omega) | fail) [g45]
  refine ⟨fun vs h => vs = [.ptr 0 0, .ptr 1 0, .ptr 2 0, .bool (!(okT t && okP p))] ∧ h.cellsAt 0 = some t.enc ∧ h.cellsAt 1 = some p.enc ∧ h.cellsAt 2 = some [I 0, I 0] ∧ h.nx = 3, ?_, ?_⟩
  · cases ha : okT t <;> cases h1 : within p.x 2097152 <;> cases h2 : within p.y 2097152 <;> simp (disch := first | (simp; done) | omega | (simp only [nx_add, nx_set, nx_kill, nx_mk, nx_emp]; omega) | fail) [g45_a1, g45_s1, g45_s2, ha, h1, h2, okP, M63]
  · rintro vs h ⟨rfl, h0, h1, h2, hn⟩
    cases hab : (okT t && okP p)
    · simp (disch := first | (simp; done) | omega | (simp only [nx_add, nx_set, nx_kill, nx_mk, nx_emp]; omega) | fail) [g45_j7, h0, h1, h2, hn]
      simp [bk, hab, Pt.enc]
    · simp at hab
      have bt := okT_bd hab.1
      have bp := okP_bd hab.2
      have d1 := div_bd (a := p.x - t.dx) (b := t.scale) (by omega) (by omega) (by omega)
      have d2 := div_bd (a := p.y - t.dy) (b := t.scale) (by omega) (by omega) (by omega)
      simp (disch := first | (simp; done) | omega | (simp only [nx_add, nx_set, nx_kill, nx_mk, nx_emp]; omega) | fail) [g45_j7, h0, h1, h2, hn, FP]
      simp (disch := first | (simp; done) | omega | (simp only [nx_add, nx_set, nx_kill, nx_mk, nx_emp]; omega) | fail) [g45_s5, h0, h1, h2, hn, FP]
      simp (disch := first | (simp; done) | omega | (simp only [nx_add, nx_set, nx_kill, nx_mk, nx_emp]; omega) | fail) [g45_s4, h0, h1, h2, hn, FP]
      refine ⟨by omega, by omega, ?_⟩
      refine ⟨bkI t ((p.x - t.dx) / t.scale) ((p.y - t.dy) / t.scale), t.turn.toNat, ⟨0, (p.x - t.dx) / t.scale, (p.y - t.dy) / t.scale, by omega, rfl, rfl, ?_⟩, ?_⟩
      · simp [h0, h2]; omega
      rintro m vs h ⟨i, X, Y, hi, rfl, rfl, h0, h2, h3, hr, hX, hY⟩
      by_cases hlt : (i : Int) < t.turn
      · simp (disch := first | (simp; done) | omega | (simp only [nx_add, nx_set, nx_kill, nx_mk, nx_emp]; omega) | fail) [g45_l2, g45_s3, hlt, h0, h2, h3]
        refine ⟨t.turn.toNat - (i + 1), by omega, i + 1, Y, -X - 1, by omega, rfl, by simp, ?_⟩
        simp [h0, h2]
        refine ⟨?_, by omega, by omega⟩
        rw [← hr, show t.turn.toNat - i = (t.turn.toNat - (i + 1)) + 1 by omega]; rfl
      · have hz : t.turn.toNat - i = 0 := by omega
        rw [hz] at hr
        simp (disch := first | (simp; done) | omega | (simp only [nx_add, nx_set, nx_kill, nx_mk, nx_emp]; omega) | fail) [g45_l2, h0, h2, h3, hlt]
        simp (disch := first | (simp; done) | omega | (simp only [nx_add, nx_set, nx_kill, nx_mk, nx_emp]; omega) | fail) [g45_j6, h0, h2, h3, hlt]
        simp (disch := first | (simp; done) | omega | (simp only [nx_add, nx_set, nx_kill, nx_mk, nx_emp]; omega) | fail) [g45_c5, h0, h2, h3, hlt]
        refine ⟨fun vs h => vs = [.ptr 2 0, .ptr 20 0] ∧ h.cellsAt 2 = some [I 0, I 0] ∧ h.cellsAt 20 = some (bk t p).enc, ?_, ?_⟩
        · cases hm : t.mirror <;> simp (disch := first | (simp; done) | omega | (simp only [nx_add, nx_set, nx_kill, nx_mk, nx_emp]; omega) | fail) [g45_a3, h0, h2, h3, hm, bk, hab.1, hab.2, ← hr, rotB, Pt.enc]
        · rintro vs h ⟨rfl, h2, h3⟩
          simp (disch := first | (simp; done) | omega | (simp only [nx_add, nx_set, nx_kill, nx_mk, nx_emp]; omega) | fail) [g45_j4, h2, h3]
def e45 : QE Try.prog := .pure 45 (fun (((t, p)) : Tf × Pt) => [.agg t.enc, .agg p.enc]) (fun (((t, p)) : Tf × Pt) => True) (fun (((t, p)) : Tf × Pt) => .agg (bk t p).enc) (fun ⟨t, p⟩ _ => back_c t p)
@[simp ↓] theorem e45_h (l : List (QE Try.prog)) (args : List AV) (h : AH) (Q : AV → AH → Prop) : tb (e45 :: l) 45 args h Q = e45.q args h Q := tb_here e45 l 45 args h Q rfl
@[simp ↓] theorem e45_t (l : List (QE Try.prog)) (f : Nat) (args : List AV) (h : AH) (Q : AV → AH → Prop) (hf : 45 ≠ f) : tb (e45 :: l) f args h Q = tb l f args h Q := tb_there e45 l f args h Q hf
@[simp ↓] theorem e45_q (t : Tf) (p : Pt) (h : AH) (Q : AV → AH → Prop) : e45.q [.agg t.enc, .agg p.enc] h Q = Q (.agg (bk t p).enc) h := (QE.pure_q (x := (t, p)) (by rintro ⟨_, _⟩ h; simp at h; simp [h]) h Q).trans (by simp)
end Go.Proofs.Ytpnekpbehcbmkaa
end
noncomputable section
namespace Go.Proofs.Ytpnekpbehcbmkaa
open Go.Eng
def covG (x : Int) (g : Gl) : Bool := decide (g.x ≤ x) && decide (x < g.x + g.adv)
theorem covers1_c (g : Gl) (x : Int) (hg : farG g = false) : Pure Try.prog 72 [.agg g.enc, .pptr [I x]] (.bool (covG x g)) := by
  refine .of (by simp [Gl.cl]; exact .pptr (by simp [cI])) (C72 (tb_ok []) ?_)
  have hb : -1099511627776 ≤ g.x ∧ g.x ≤ 1099511627776 ∧ -1099511627776 ≤ g.adv ∧ g.adv ≤ 1099511627776 := by grind [farG, near40]
  simp (disch := first | (simp; done) | omega | (simp only [nx_add, nx_set, nx_kill, nx_mk, nx_emp]; omega) | fail) [g72, g72_s1, -Int.not_le, -Int.not_lt]
  grind [covG]
end Go.Proofs.Ytpnekpbehcbmkaa
end
noncomputable section
namespace Go.Proofs.Ytpnekpbehcbmkaa
open Go.Eng
def e63c : QE Try.prog := ⟨63, fun args h Q => ∃ l id x, args = [gls l, .func (.func 72) [] [.ptr id 0]] ∧ (Sm l ∧ ∀ g ∈ l, farG g = false) ∧ h.cellsAt id = some [I x] ∧ Q (.bool (l.any (covG x))) h, fun args h Q ⟨l, id, x, h1, h2, h3, h4⟩ => by
  subst h1
  have hp := containsFuncG_c l 72 [.pptr [I x]] (covG x) (by simp; exact .pptr (by simp [cI])) (fun g hg => covers1_c g x (h2.2 g hg)) h2.1
  refine ⟨_, h, Fresh.call (pargs := [gls l, .func (.func 72) [] [.pptr [I x]]]) ((hp emp).mono fun v h' hq => ?_) rfl (frz_args2 (gls_pl l h) ?_), h4⟩
  · rw [hq.1]; exact .bool _
  · refine .func _ _ _ _ _ rfl rfl (by simp) fun i c d h5 h6 => ?_
    match i with
    | 0 =>
      simp at h5 h6; subst h5; subst h6
      exact .ptr id 0 [I x] [I x] h3 (by simp) fun i c d h7 h8 => by
        match i with
        | 0 => simp at h7 h8; subst h7; subst h8; exact .int _ _
        | i + 1 => simp at h8
    | i + 1 => simp at h5⟩
theorem e63c_i {t : List (QE Try.prog)} {l : List Gl} {id : Nat} {h : AH} {Q : AV → AH → Prop} (x : Int) (hx : h.cellsAt id = some [I x]) (hl : Sm l ∧ ∀ g ∈ l, farG g = false) (hq : Q (.bool (l.any (covG x))) h) : tb (e63c :: t) 63 [gls l, .func (.func 72) [] [.ptr id 0]] h Q := by
  rw [tb_here e63c t 63 _ _ _ rfl]
  exact ⟨l, id, x, rfl, hl, hx, hq⟩
def covX (c : Cmd) (p : Pt) : Int := p.x - c.r.x + c.line.x
def cov (c : Cmd) (p : Pt) : Bool := inR c.r p && (c.kind == 4 || c.kind == 6 || (c.kind == 5 && c.line.gl.any (covG (covX c p))))
def CP (c : Cmd) (p : Pt) : Prop := okP p = true ∧ Sm c.line.gl ∧ (c.kind = 5 → nearL c.line = true) ∧ (c.kind = 4 ∨ c.kind = 5 ∨ c.kind = 6)
theorem nearL_bd {l : Ln} (h : nearL l = true) : -1099511627776 ≤ l.x ∧ l.x ≤ 1099511627776 ∧ ∀ g ∈ l.gl, farG g = false := by
  simp [nearL, near40] at h
  exact ⟨h.1.1, h.1.2, h.2⟩
theorem inR_ok {r : Rect} {p : Pt} (h : inR r p = true) : okR r = true := by simp [inR] at h; exact h.1.1.1.1
theorem covers_c (c : Cmd) (p : Pt) (hx : CP c p) : Pure Try.prog 46 [.agg c.enc, .agg p.enc] (.bool (cov c p)) := by
  refine .of (by simp [Cmd.cl, Pt.cl]) (C46 (tb_ok [e44, e63c]) ?_)
  obtain ⟨hp, hs, hk5, hk⟩ := hx
  have bp := okP_bd hp
  cases hr : inR c.r p
  · simp (disch := first | (simp; done) | omega | (simp only [nx_add, nx_set, nx_kill, nx_mk, nx_emp]; omega) | fail) [g46, hr, cov]
  · have br := okR_bd (inR_ok hr)
    by_cases h5 : c.kind = 5
    · obtain ⟨n1, n2, n3⟩ := nearL_bd (hk5 h5)
      simp (disch := first | (simp; done) | omega | (simp only [nx_add, nx_set, nx_kill, nx_mk, nx_emp]; omega) | fail) [g46, h5, hr]
      simp (disch := first | (simp; done) | omega | (simp only [nx_add, nx_set, nx_kill, nx_mk, nx_emp]; omega) | fail) [g46_s3, h5, hr]
      simp (disch := first | (simp; done) | omega | (simp only [nx_add, nx_set, nx_kill, nx_mk, nx_emp]; omega) | fail) [g46_s2, h5, hr]
      simp (disch := first | (simp; done) | omega | (simp only [nx_add, nx_set, nx_kill, nx_mk, nx_emp]; omega) | fail) [g46_s1, h5, hr]
      refine e63c_i (covX c p) ?_ ⟨hs, n3⟩ ?_
      · simp [covX]
      · simp [cov, hr, h5]
    · simp (disch := first | (simp; done) | omega | (simp only [nx_add, nx_set, nx_kill, nx_mk, nx_emp]; omega) | fail) [g46, h5, hr]
      simp (disch := first | (simp; done) | omega | (simp only [nx_add, nx_set, nx_kill, nx_mk, nx_emp]; omega) | fail) [g46_s3, h5, hr]
      refine ⟨fun vs h => vs = [.bool true], ?_, ?_⟩
      · rcases hk with hk | hk | hk
        · simp (disch := first | (simp; done) | omega | (simp only [nx_add, nx_set, nx_kill, nx_mk, nx_emp]; omega) | fail) [g46_a1, hk]
        · exact absurd hk h5
        · simp (disch := first | (simp; done) | omega | (simp only [nx_add, nx_set, nx_kill, nx_mk, nx_emp]; omega) | fail) [g46_a1, hk]
      · rintro vs h rfl
        simp [g46_j2, cov, hr]
        omega
def e46 : QE Try.prog := .pure 46 (fun (((c, p)) : Cmd × Pt) => [.agg c.enc, .agg p.enc]) (fun (((c, p)) : Cmd × Pt) => CP c p) (fun (((c, p)) : Cmd × Pt) => .bool (cov c p)) (fun ⟨c, p⟩ hx => covers_c c p hx)
@[simp ↓] theorem e46_h (l : List (QE Try.prog)) (args : List AV) (h : AH) (Q : AV → AH → Prop) : tb (e46 :: l) 46 args h Q = e46.q args h Q := tb_here e46 l 46 args h Q rfl
@[simp ↓] theorem e46_q (c : Cmd) (p : Pt) (h : AH) (Q : AV → AH → Prop) : e46.q [.agg c.enc, .agg p.enc] h Q = ((CP c p) ∧ Q (.bool (cov c p)) h) := (QE.pure_q (x := (c, p)) (by rintro ⟨_, _⟩ h; simp at h; simp [h]) h Q)
end Go.Proofs.Ytpnekpbehcbmkaa
end
noncomputable section
namespace Go.Eng
open Go.RowKit
theorem Frz.mono {h : AH} {a b : AV} (hf : Frz h true a b) : Frz h false a b := by
  generalize hn : true = n at hf
  induction hf with
  | undef a => exact .undef a
  | bool b => exact .bool b
  | int k m => exact .int k m
  | str s => exact .str s
  | nilptr => exact .nilptr
  | nilfunc => exact .nilfunc
  | nilif => exact .nilif
  | nilmap => exact .nilmap
  | nilsl0 => exact .nilsl0
  | nilsl => exact .nilsl
  | esl0 => exact .esl0
  | esl => exact .esl
  | gptr g o => exact .gptr g o
  | agg cs ds hl hc ih => exact .agg cs ds hl fun i c d h1 h2 => ih i c d h1 h2
  | tup cs ds hl hc ih => exact .tup cs ds hl fun i c d h1 h2 => ih i c d h1 h2
  | psl0 => exact .psl0
  | psl hn' => subst hn; cases hn'
  | pptr hn' => subst hn; cases hn'
  | rsl id off z cs ys ho hs hz hc ih => exact .rsl id off z cs ys ho hs hz fun i y j c d h1 h2 h3 => ih i y j c d h1 h2 h3
  | ptr id off cs ds ho hs hc ih => exact .ptr id off cs ds ho hs fun i c d h1 h2 => ih i c d h1 h2
  | func fn f1 c1 f2 c2 hl1 hl2 h1 h2 ih1 ih2 => exact .func fn f1 c1 f2 c2 hl1 hl2 (fun i c d q1 q2 => ih1 i c d q1 q2) (fun i c d q1 q2 => ih2 i c d q1 q2)
  | iface t a b hb ih => exact .iface t a b (ih)
theorem Fresh.pure {P : Program} {f : Nat} {args : List AV} {v : AV} (hf : Fresh P f args v) (hcl : ∀ a ∈ args, Closed a) : Pure P f args v :=
  Pure.of hcl (hf.mono fun _ _ h => h.mono)

theorem VR.sub {hp : Array Obj} {L L' : Nat → Prop} {β : Bl} (h : ∀ b, L' b → L b) {a : AV} {v : Value} (hv : VR hp L β a v) : VR hp L' β a v :=
  hv.later ⟨fun _ _ h => h, fun b _ hn => ⟨fun hl => hn (h b hl), rfl⟩, fun _ cur _ _ h => ⟨cur, h, rfl⟩⟩

theorem SimH.kill {own : Nat → Prop} {β : Bl} {h : AH} {w : World} (hs : SimH own β h.H h.nx w) (id : Nat) : SimH own β (h.kill id).H h.nx w := by
  have hsub : ∀ b, live β (h.kill id).H b → live β h.H b := by
    rintro b ⟨i, o, base, h1, h2⟩
    rw [get_kill] at h1
    split at h1
    · cases h1
    · exact ⟨i, o, base, h1, h2⟩
  refine ⟨hs.fresh, hs.lt, hs.ownlt, fun i o hi => ?_, fun i j o o' b x y h1 h2 h3 h4 => ?_⟩
  · rw [get_kill] at hi
    split at hi
    · cases hi
    · obtain ⟨b, base, q1, q2, q3⟩ := hs.obj i o hi
      have hw : ∀ b, (own b ∨ live β (h.kill id).H b) → (own b ∨ live β h.H b) := fun b hb => hb.imp_right (hsub b)
      refine ⟨b, base, q1, q2, ?_⟩
      cases o with
      | cells cs => obtain ⟨cur, e, r1, r2, r3⟩ := q3; exact ⟨cur, e, r1, r2, fun i c v k1 k2 => (r3 i c v k1 k2).sub hw⟩
      | map kvs => obtain ⟨r0, es, clock, r1, r2, r3⟩ := q3; exact ⟨r0, es, clock, r1, r2, fun i kv e k1 k2 => ⟨(r3 i kv e k1 k2).1.sub hw, (r3 i kv e k1 k2).2.1.sub hw, (r3 i kv e k1 k2).2.2⟩⟩
      | siter s pos => exact q3
      | glob g cs => obtain ⟨r0, r00, cur, e, fz, r1, r2, r3⟩ := q3; exact ⟨r0, r00, cur, e, fz, r1, r2, fun i c v k1 k2 => (r3 i c v k1 k2).sub hw⟩
  · rw [get_kill] at h1 h2
    split at h1
    · cases h1
    split at h2
    · cases h2
    exact hs.inj i j o o' b x y h1 h2 h3 h4

/-- the result: one slice into the new object, alone or with a further value -/
inductive Hole (h' : AH) (id nid : Nat) : AV → AV → Prop where
  | one (off len z : Nat) : Hole h' id nid (.rsl id off len z) (.rsl nid off len z)
  | two (off len z : Nat) (y' y : AV) (hy : Frz h' true y' y) : Hole h' id nid (.tup [.rsl id off len z, y']) (.tup [.rsl nid off len z, y])

theorem frameO {P : Program} {f : Nat} {args pargs : List AV} {h : AH} {R : AV → AH → Prop} {v : AV} {cs2 : List AV} (hc : CallsA P f pargs emp R)
    (hR : ∀ v' h', R v' h' → ∃ id cs, h'.cellsAt id = some cs ∧ FrzL (h'.kill id) true cs cs2 ∧ Hole (h'.kill id) id h.nx v' v)
    (hlen : args.length = pargs.length) (hfz : ∀ (i : Nat) (a b : AV), args[i]? = some a → pargs[i]? = some b → Frz h false a b) : CallD P f args h v (h.add (.cells cs2)) := by
  refine ⟨hc.1, fun own β w cargs hs hRL => ?_⟩
  have hp : RL w.heap (LL (fun _ => False) noB emp.H) noB pargs cargs.toList := by
    refine ⟨hlen ▸ hRL.1, fun i d v h1 h2 => ?_⟩
    obtain ⟨a, ha⟩ := get_of_len hlen h1
    exact VR.frz hs (fun b _ hl => hl.elim (fun h => h) (live_emp _ b)) (fun _ b _ hl => hl.elim (fun h => h) (live_emp _ b)) (hfz i a d ha h1) (hRL.2 i a v ha h2)
  refine (hc.2 (fun _ => False) noB w cargs (simH_emp fun b hb => hb.elim) hp).mono ?_
  rintro e w' ⟨cv, v0, h0, β0, rfl, hq, hs0, hv0, ht⟩
  obtain ⟨id, cs, hcs, hfc, hhole⟩ := hR v0 h0 hq
  obtain ⟨b, base, hb, _, cur, et, hcur, hcl, hcell⟩ := hs0.obj id _ (cellsAt_get hcs)
  have hlive : live β0 h0.H b := ⟨id, _, base, cellsAt_get hcs, hb⟩
  have hnew : w.heap.size ≤ b := (ht.live b hlive).resolve_left (live_emp _ b)
  have hblt : b < w'.heap.size := hs0.lt id b base hb
  have hkeep : ∀ b, b < w.heap.size → w'.heap[b]? = w.heap[b]? := fun b hb => ht.keep b hb (live_emp _ b)
  have hnx : β h.nx = none := hs.fresh _ (Nat.le_refl _)
  obtain ⟨β', hβ'⟩ : ∃ β', β' = upd β h.nx b base := ⟨_, rfl⟩
  have hgood : ∀ {i x}, β i = some x → β' i = some x := fun {i x} hi => by
    have : i ≠ h.nx := fun e => by rw [e, hnx] at hi; cases hi
    rw [hβ', upd_ne _ _ _ this]; exact hi
  have hself : β' h.nx = some (b, base) := by rw [hβ']; exact upd_same _ _ _ _
  have hlv : ∀ b', live β' (h.add (.cells cs2)).H b' → live β h.H b' ∨ b' = b := by
    rintro b' ⟨i, o, ba, h1, h2⟩
    rw [get_add] at h1
    by_cases hi : i = h.nx
    · subst hi; rw [hself] at h2; cases h2; exact .inr rfl
    · rw [if_neg hi] at h1; rw [hβ', upd_ne _ _ _ hi] at h2; exact .inl ⟨i, o, ba, h1, h2⟩
  have hT : Trans own β h w β' (h.add (.cells cs2)) w' := by
    refine ⟨fun i x hx => hgood hx, fun i hi => by rw [hβ', upd_ne _ _ _ (by omega)], by simp, ht.size, fun b' hb' _ => hkeep b' hb', fun b' hl => ?_, fun b' cur e fz hc => ⟨cur, by rw [hkeep b' (lt_of_get hc)]; exact hc, rfl⟩, ht.os, ht.tape, ht.output⟩
    rcases hlv b' hl with h1 | rfl
    · exact .inl h1
    · exact .inr hnew
  have hk0 : SimH (fun _ => False) β0 (h0.kill id).H h0.nx w' := hs0.kill id
  have hksub : ∀ b', live β0 (h0.kill id).H b' → b' ≠ b ∧ live β0 h0.H b' := by
    rintro b' ⟨i, o, ba, h1, h2⟩
    rw [get_kill] at h1
    split at h1
    · cases h1
    · rename_i hi
      refine ⟨fun e => ?_, i, o, ba, h1, h2⟩
      subst e
      exact hi (hs0.inj i id _ _ _ ba base h1 (cellsAt_get hcs) h2 hb)
  have hnotL : ∀ b', live β0 (h0.kill id).H b' → ¬ LL own β' (h.add (.cells cs2)).H b' := by
    intro b' hl hL
    obtain ⟨hne, hl0⟩ := hksub b' hl
    have hge : w.heap.size ≤ b' := (ht.live b' hl0).resolve_left (live_emp _ b')
    rcases hL with h1 | h1
    · have := hs.ownlt b' h1; omega
    · rcases hlv b' h1 with h2 | h2
      · obtain ⟨i, o, ba, _, h3⟩ := h2
        have := hs.lt i b' ba h3; omega
      · exact hne h2
  have frz2 : ∀ {a a' : AV} {u : Value}, Frz (h0.kill id) true a a' → VR w'.heap (LL (fun _ => False) β0 h0.H) β0 a u → VR w'.heap (LL own β' (h.add (.cells cs2)).H) β' a' u := fun {a a' u} hf hu =>
    VR.frz hk0 hnotL (fun hh => by cases hh) hf (hu.sub fun b' hb' => hb'.imp_right fun hl => (hksub b' hl).2)
  have hfc' := (FrzL_iff _ _ _ _).1 hfc
  have hS : SimH own β' (h.add (.cells cs2)).H (h.add (.cells cs2)).nx w' := by
    refine ⟨fun i hi => ?_, fun i b' ba hi => ?_, fun b' hb' => Nat.lt_of_lt_of_le (hs.ownlt b' hb') ht.size, fun i o hg => ?_, fun i j o o' b' x y h1 h2 h3 h4 => ?_⟩
    · simp at hi
      rw [hβ', upd_ne _ _ _ (by omega)]; exact hs.fresh i (by omega)
    · by_cases h1 : i = h.nx
      · subst h1; rw [hself] at hi; cases hi; exact hblt
      · rw [hβ', upd_ne _ _ _ h1] at hi; exact Nat.lt_of_lt_of_le (hs.lt i b' ba hi) ht.size
    · rw [get_add] at hg
      by_cases h1 : i = h.nx
      · rw [if_pos h1] at hg; cases hg; subst h1
        refine ⟨b, base, hself, fun ho => ?_, cur, et, hcur, by rw [← hfc'.1]; exact hcl, fun i c u k1 k2 => ?_⟩
        · have := hs.ownlt b ho; omega
        · obtain ⟨c0, hc0⟩ := get_of_len hfc'.1 k1
          exact frz2 (hfc'.2 i c0 c hc0 k1) (hcell i c0 u hc0 k2)
      · rw [if_neg h1] at hg
        obtain ⟨b', ba, q1, q2, q3⟩ := hs.obj i o hg
        exact ⟨b', ba, hgood q1, q2, OR.later hT.later (hkeep b' (hs.lt i b' ba q1)) q3⟩
    · rw [get_add] at h1 h2
      by_cases hi : i = h.nx <;> by_cases hj : j = h.nx
      · rw [hi, hj]
      · subst hi; rw [hself] at h3; cases h3
        rw [hβ', upd_ne _ _ _ hj] at h4
        have := hs.lt j b y h4; omega
      · subst hj; rw [hself] at h4; cases h4
        rw [hβ', upd_ne _ _ _ hi] at h3
        have := hs.lt i b x h3; omega
      · rw [if_neg hi] at h1; rw [if_neg hj] at h2
        rw [hβ', upd_ne _ _ _ hi] at h3; rw [hβ', upd_ne _ _ _ hj] at h4
        exact hs.inj i j o o' b' x y h1 h2 h3 h4
  have hslot : ∀ {off len z : Nat} {u : Value}, VR w'.heap (LL (fun _ => False) β0 h0.H) β0 (.rsl id off len z) u → VR w'.heap (LL own β' (h.add (.cells cs2)).H) β' (.rsl h.nx off len z) u := by
    intro off len z u hu
    cases hu with
    | rsl _ _ _ _ b2 base2 cap cur2 e2 g1 g2 g3 g4 g5 => rw [hb] at g1; cases g1; exact .rsl _ _ _ _ b base cap cur2 e2 hself g2 g3 g4 g5
    | rsl0 _ _ _ b2 base2 o g1 => rw [hb] at g1; cases g1; exact .rsl0 _ _ _ b base o hself
  refine ⟨cv, v, _, β', rfl, ⟨rfl, rfl⟩, hS, ?_, hT⟩
  cases hhole with
  | one off len z => exact hslot hv0
  | two off len z y' y hy =>
    cases hv0 with
    | tup _ vs hl hvs =>
      refine .tup _ vs (by simpa using hl) fun i c u k1 k2 => ?_
      match i with
      | 0 => simp at k1; subst k1; exact hslot (hvs 0 _ u (by simp) k2)
      | 1 => simp at k1; subst k1; exact frz2 hy (hvs 1 _ u (by simp) k2)
      | i + 2 => simp at k1
theorem recOk_rd {V C : AH} {x : Nat} (h : V.H.get x = C.H.get x) : recOk (.read x) (.eff V C) = true := by
  show obEq _ _ = true
  rw [h]; exact obEq_refl _
@[simp] theorem recOk_read_set (h : AH) (x j : Nat) (o : AObj) (hx : x ≠ j) : recOk (.read x) (.eff h (h.set j o)) = true := recOk_rd (by rw [get_set, if_neg hx])
end Go.Eng
end
