/- What the functions that look at transforms compute: they answer alike in the program and in the reference. -/
import Derived.Test.YtpnekpbehcbmkaaD7B
set_option linter.unusedSimpArgs false
set_option linter.unusedVariables false
set_option linter.unnecessarySimpa false
namespace Go.Proofs.Ytpnekpbehcbmkaa
open Go.Eng
/-- lists that fit into memory -/
def Sm {α : Type} (l : List α) : Prop := l.length ≤ 4611686018427387904
/-- a function that is called with one element -/
def eH (fn : Nat) {α : Type} (l : List α) (enc : α → List AV) (cap : List AV) (p : α → Bool) (hp : ∀ g ∈ l, Pure Try.prog fn (.agg (enc g) :: cap) (.bool (p g))) : QE Try.prog :=
  ⟨fn, fun args h Q => ∃ g ∈ l, args = .agg (enc g) :: cap ∧ Q (.bool (p g)) h, fun args h Q ⟨g, h1, h2, h3⟩ => ⟨_, h, h2 ▸ hp g h1 h, h3⟩⟩
theorem eH_h {fn : Nat} {α : Type} {l : List α} {enc : α → List AV} {cap : List AV} {p : α → Bool} {hp : ∀ g ∈ l, Pure Try.prog fn (.agg (enc g) :: cap) (.bool (p g))} {t : List (QE Try.prog)} {i : Nat} (hi : i < l.length) {h : AH} {Q : AV → AH → Prop} (hq : Q (.bool (p l[i])) h) :
    tb (eH fn l enc cap p hp :: t) fn (.agg (enc l[i]) :: cap) h Q := by
  rw [tb_here (eH fn l enc cap p hp) t fn _ _ _ rfl]
  exact ⟨l[i], List.getElem_mem hi, rfl, hq⟩
def idx {α : Type} (p : α → Bool) (l : List α) : Int := match l.findIdx? p with | some i => i | none => -1
theorem idx_some {α : Type} {p : α → Bool} {l : List α} {i : Nat} (hi : i < l.length) (hp : p l[i] = true) (hn : ∀ j (hj : j < i), p (l[j]'(by omega)) = false) : idx p l = i := by
  have : l.findIdx? p = some i := List.findIdx?_eq_some_iff_getElem.2 ⟨hi, hp, fun j hj => by simp [hn j hj]⟩
  simp [idx, this]
theorem idx_none {α : Type} {p : α → Bool} {l : List α} (hn : ∀ j (hj : j < l.length), p l[j] = false) : idx p l = -1 := by
  have : l.findIdx? p = none := List.findIdx?_eq_none_iff.2 fun x hx => by obtain ⟨j, hj, rfl⟩ := List.getElem_of_mem hx; exact hn j hj
  simp [idx, this]
theorem idx_nonneg {α : Type} (p : α → Bool) (l : List α) : decide (0 ≤ idx p l) = l.any p := by
  unfold idx
  cases h : l.findIdx? p with
  | none => rw [List.findIdx?_eq_none_iff] at h; simp; exact h
  | some i =>
    obtain ⟨h1, h2, _⟩ := List.findIdx?_eq_some_iff_getElem.1 h
    have : l.any p = true := List.any_eq_true.2 ⟨l[i], List.getElem_mem h1, h2⟩
    simp [this]
theorem indexFuncG_c (l : List Gl) (fn : Nat) (cap : List AV) (p : Gl → Bool) (hcap : ∀ c ∈ cap, Closed c) (hp : ∀ g ∈ l, Pure Try.prog fn (.agg g.enc :: cap) (.bool (p g))) (hl : Sm l) : Pure Try.prog 84 [gls l, .func (.func fn) [] cap] (I (idx p l)) := by
  refine .of (by simp [gls_cl]; exact .func (by simp) hcap) (C84 (tb_ok [eH fn l Gl.enc cap p hp]) ?_)
  unfold Sm at hl
  simp [g84]
  refine ⟨fun m vs h => ∃ i : Nat, i ≤ l.length ∧ m = l.length - i ∧ vs = [gls l, .func (.func fn) [] cap, I l.length, I i] ∧ (∀ j (hj : j < i) (hj2 : j < l.length), p l[j] = false) ∧ h = emp, l.length, ⟨0, by simp⟩, ?_⟩
  rintro m vs h ⟨i, hi, rfl, rfl, hn, rfl⟩
  by_cases hlt : i < l.length
  · simp (disch := first | omega | (simp; done) | fail) [g84_l1, hlt]
    refine eH_h hlt ?_
    simp (disch := first | omega | (simp; done) | fail) [g84_j3]
    refine ⟨fun h1 => (idx_some hlt h1 (fun j hj => hn j hj (by omega))).symm, fun h1 => ⟨l.length - (i + 1), by omega, i + 1, by omega, rfl, by simp, fun j hj hj2 => ?_⟩⟩
    by_cases hj3 : j < i
    · exact hn j hj3 hj2
    · obtain rfl : j = i := by omega
      exact h1
  · have : i = l.length := by omega
    subst this
    simp [g84_l1, g84_j3, g84_c2]
    exact (idx_none fun j hj => hn j hj hj).symm
theorem containsFuncG_c (l : List Gl) (fn : Nat) (cap : List AV) (p : Gl → Bool) (hcap : ∀ c ∈ cap, Closed c) (hp : ∀ g ∈ l, Pure Try.prog fn (.agg g.enc :: cap) (.bool (p g))) (hl : Sm l) : Pure Try.prog 63 [gls l, .func (.func fn) [] cap] (.bool (l.any p)) := by
  refine .of (by simp [gls_cl]; exact .func (by simp) hcap) (C63 (tb_ok [.pure 84 (fun _ : Unit => [gls l, .func (.func fn) [] cap]) (fun _ => True) (fun _ => I (idx p l)) (fun _ _ => indexFuncG_c l fn cap p hcap hp hl)]) ?_)
  simp [g63]
  rw [tb_here (QE.pure 84 _ _ _ _) [] 84 _ _ _ rfl]
  refine ⟨(), rfl, trivial, ?_⟩
  simp [idx_nonneg]
abbrev F62 : AV := .func (.func 62) [] []
def farG (g : Gl) : Bool := !near40 g.x || !near40 g.adv
theorem near2_c (g : Gl) : Pure Try.prog 64 [.agg g.enc, .pptr [F62]] (.bool (farG g)) := by
  refine .of (by simp [Gl.cl]; exact .pptr (by simp; exact .func (by simp) (by simp))) (C64 (tb_ok [e62]) ?_)
  simp (disch := first | omega | (simp; done) | fail) [g64, -Int.not_le, -Int.not_lt, g64_s1]
  grind [farG]
def nearL (l : Ln) : Bool := near40 l.x && !l.gl.any farG
def e63n : QE Try.prog := ⟨63, fun args h Q => ∃ l id, args = [gls l, .func (.func 64) [] [.ptr id 0]] ∧ Sm l ∧ h.cellsAt id = some [F62] ∧ Q (.bool (l.any farG)) h, fun args h Q ⟨l, id, h1, h2, h3, h4⟩ => by
  subst h1
  have hp := containsFuncG_c l 64 [.pptr [F62]] farG (by simp; exact .pptr (by simp; exact .func (by simp) (by simp))) (fun g _ => near2_c g) h2
  refine ⟨_, h, Fresh.call (pargs := [gls l, .func (.func 64) [] [.pptr [F62]]]) ((hp emp).mono fun v h' hq => ?_) rfl (frz_args2 (gls_pl l h) ?_), h4⟩
  · rw [hq.1]; exact .bool _
  · refine .func _ _ _ _ _ rfl rfl (by simp) fun i c d h5 h6 => ?_
    match i with
    | 0 =>
      simp at h5 h6; subst h5; subst h6
      exact .ptr id 0 [F62] [F62] h3 (by simp) fun i c d h7 h8 => by
        match i with
        | 0 => simp at h7 h8; subst h7; subst h8; exact Plain.func (by simp) (by simp) h
        | i + 1 => simp at h8
    | i + 1 => simp at h5⟩
@[simp ↓] theorem e63n_h (t : List (QE Try.prog)) (l : List Gl) (id : Nat) (h : AH) (Q : AV → AH → Prop) : tb (e63n :: t) 63 [gls l, .func (.func 64) [] [.ptr id 0]] h Q = (Sm l ∧ h.cellsAt id = some [F62] ∧ Q (.bool (l.any farG)) h) := by
  rw [tb_here e63n t 63 _ _ _ rfl]
  apply propext
  constructor
  · rintro ⟨l', id', h1, h2, h3, h4⟩
    simp at h1
    obtain ⟨rfl, rfl⟩ := h1
    exact ⟨h2, h3, h4⟩
  · rintro ⟨h2, h3, h4⟩; exact ⟨l, id, rfl, h2, h3, h4⟩
theorem near_c (l : Ln) (hl : Sm l.gl) : Pure Try.prog 38 [.agg l.enc] (.bool (nearL l)) := by
  refine .of (by simp [Ln.cl]) (C38 (tb_ok [e62, e63n]) ?_)
  simp (disch := first | omega | (simp; done) | fail) [g38, -Int.not_le, -Int.not_lt, g38_s1]
  grind [nearL]
def e38 : QE Try.prog := .pure 38 (fun (l : Ln) => [.agg l.enc]) (fun (l : Ln) => Sm l.gl) (fun (l : Ln) => .bool (nearL l)) (fun l hx => near_c l hx)
@[simp ↓] theorem e38_h (l : List (QE Try.prog)) (args : List AV) (h : AH) (Q : AV → AH → Prop) : tb (e38 :: l) 38 args h Q = e38.q args h Q := tb_here e38 l 38 args h Q rfl
@[simp ↓] theorem e38_t (l : List (QE Try.prog)) (f : Nat) (args : List AV) (h : AH) (Q : AV → AH → Prop) (hf : 38 ≠ f) : tb (e38 :: l) f args h Q = tb l f args h Q := tb_there e38 l f args h Q hf
@[simp ↓] theorem e38_q (l : Ln) (h : AH) (Q : AV → AH → Prop) : e38.q [.agg l.enc] h Q = ((Sm l.gl) ∧ Q (.bool (nearL l)) h) := (QE.pure_q (x := l) (by rintro _ h; simp at h; simp [h]) h Q)
def okT (t : Tf) : Bool := decide (0 ≤ t.turn) && decide (t.turn ≤ 3) && decide (1 ≤ t.scale) && decide (t.scale ≤ 16) && within t.dx 1048576 && within t.dy 1048576
theorem check_c (t : Tf) : Pure Try.prog 65 [.agg t.enc] (I (if okT t then 0 else 1)) := by
  refine .of (by simp [Tf.cl]) (C65 (tb_ok [e61]) ?_)
  simp [g65]
  refine ⟨fun vs h => vs = [.bool (!okT t)], ?_, ?_⟩
  · simp (disch := first | omega | (simp; done) | fail) [g65_a1, M63, -Int.not_le, -Int.not_lt, g65_s2, g65_s1, g65_s3]
    grind [okT]
  · rintro vs h rfl
    simp +contextual [g65_j2]
def e65 : QE Try.prog := .pure 65 (fun (t : Tf) => [.agg t.enc]) (fun (t : Tf) => True) (fun (t : Tf) => I (if okT t then 0 else 1)) (fun t _ => check_c t)
@[simp ↓] theorem e65_h (l : List (QE Try.prog)) (args : List AV) (h : AH) (Q : AV → AH → Prop) : tb (e65 :: l) 65 args h Q = e65.q args h Q := tb_here e65 l 65 args h Q rfl
@[simp ↓] theorem e65_t (l : List (QE Try.prog)) (f : Nat) (args : List AV) (h : AH) (Q : AV → AH → Prop) (hf : 65 ≠ f) : tb (e65 :: l) f args h Q = tb l f args h Q := tb_there e65 l f args h Q hf
@[simp ↓] theorem e65_q (t : Tf) (h : AH) (Q : AV → AH → Prop) : e65.q [.agg t.enc] h Q = Q (I (if okT t then 0 else 1)) h := (QE.pure_q (x := t) (by rintro _ h; simp at h; simp [h]) h Q).trans (by simp)
@[simp ↓] theorem e65_q_t (t_t : Int) (t_m : Bool) (t_s : Int) (t_dx : Int) (t_dy : Int) (h : AH) (Q : AV → AH → Prop) : e65.q [.agg [I t_t, .bool t_m, I t_s, I t_dx, I t_dy]] h Q = Q (I (if okT (Tf.mk t_t t_m t_s t_dx t_dy) then 0 else 1)) h := e65_q ⟨t_t, t_m, t_s, t_dx, t_dy⟩ h Q
theorem validTf_c (t : Tf) : Pure Try.prog 67 [.agg t.enc] (.bool (okT t)) := by
  refine .of (by simp [Tf.cl]) (C67 (tb_ok [e69]) ?_)
  simp (disch := first | omega | (simp; done) | fail) [g67, M63, -Int.not_le, -Int.not_lt, g67_s2, g67_s1, g67_s3]
  grind [okT]
def e67 : QE Try.prog := .pure 67 (fun (t : Tf) => [.agg t.enc]) (fun (t : Tf) => True) (fun (t : Tf) => .bool (okT t)) (fun t _ => validTf_c t)
@[simp ↓] theorem e67_h (l : List (QE Try.prog)) (args : List AV) (h : AH) (Q : AV → AH → Prop) : tb (e67 :: l) 67 args h Q = e67.q args h Q := tb_here e67 l 67 args h Q rfl
@[simp ↓] theorem e67_t (l : List (QE Try.prog)) (f : Nat) (args : List AV) (h : AH) (Q : AV → AH → Prop) (hf : 67 ≠ f) : tb (e67 :: l) f args h Q = tb l f args h Q := tb_there e67 l f args h Q hf
@[simp ↓] theorem e67_q (t : Tf) (h : AH) (Q : AV → AH → Prop) : e67.q [.agg t.enc] h Q = Q (.bool (okT t)) h := (QE.pure_q (x := t) (by rintro _ h; simp at h; simp [h]) h Q).trans (by simp)
@[simp ↓] theorem e67_q_t (t_t : Int) (t_m : Bool) (t_s : Int) (t_dx : Int) (t_dy : Int) (h : AH) (Q : AV → AH → Prop) : e67.q [.agg [I t_t, .bool t_m, I t_s, I t_dx, I t_dy]] h Q = Q (.bool (okT (Tf.mk t_t t_m t_s t_dx t_dy))) h := e67_q ⟨t_t, t_m, t_s, t_dx, t_dy⟩ h Q
end Go.Proofs.Ytpnekpbehcbmkaa
