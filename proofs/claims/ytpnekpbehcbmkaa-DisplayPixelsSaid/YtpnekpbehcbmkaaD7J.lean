/- What comparing two lists of commands answers, in the program and in the reference. -/
import Derived.Test.YtpnekpbehcbmkaaD7I
import Derived.Test.YtpnekpbehcbmkaaEngBB
set_option linter.unusedSimpArgs false
set_option linter.unusedVariables false
set_option linter.unnecessarySimpa false
noncomputable section
namespace Go.Proofs.Ytpnekpbehcbmkaa
open Go.Eng
theorem gl_ext {a b : Gl} : a = b ↔ a.id = b.id ∧ a.form = b.form ∧ a.from' = b.from' ∧ a.to = b.to ∧ a.x = b.x ∧ a.adv = b.adv ∧ a.font = b.font ∧ a.size = b.size := by
  cases a; cases b; simp
open Classical in
theorem Gl.eqc (a b : Gl) : eqCells [.int .i64, .int .i64, .int .i64, .int .i64, .int .i64, .int .i64, .int .i64, .int .i64] a.enc b.enc = some (decide (a = b)) := by
  cases a; cases b
  simp [Gl.enc, eqCells, eqCell]
  rw [Bool.eq_iff_iff]; simp
open Classical in
theorem Rect.eqc (a b : Rect) : eqCells [.int .i64, .int .i64, .int .i64, .int .i64] a.enc b.enc = some (decide (a = b)) := by
  cases a; cases b
  simp [Rect.enc, eqCells, eqCell]
  rw [Bool.eq_iff_iff]; simp
open Classical in
theorem Tf.eqc (a b : Tf) : eqCells [.int .i64, .bool, .int .i64, .int .i64, .int .i64] a.enc b.enc = some (decide (a = b)) := by
  cases a; cases b
  simp [Tf.enc, eqCells, eqCell]
  rw [Bool.eq_iff_iff]; simp
open Classical in
def eqD {α : Type} (a b : α) : Bool := decide (a = b)
theorem eqD_iff {α : Type} {a b : α} : eqD a b = true ↔ a = b := by simp [eqD]
def seqI (l m : List Gl) (k : Nat) (vs : List AV) (h : AH) : Prop := ∃ i : Nat, i ≤ l.length ∧ k = l.length - i ∧ vs = [gls l, gls m, I l.length, I i] ∧ ∀ j (h1 : j < i) (h2 : j < l.length) (h3 : j < m.length), l[j] = m[j]
open Classical in
theorem slicesEqual_f (l m : List Gl) (hl : Sm l ∧ Sm m) : Fresh Try.prog 33 [gls l, gls m] (.bool (eqD l m)) := by
  refine C33 (tb_ok []) ?_
  have hl1 := hl.1; have hl2 := hl.2
  unfold Sm at hl1 hl2
  simp (disch := first | (simp; done) | omega | (simp only [nx_add, nx_set, nx_kill, nx_mk, nx_emp]; omega) | fail) [g33]
  refine ⟨fun hne => ?_, fun heq => ?_⟩
  · simp [eqD]; intro e; exact hne (by rw [e])
  · have heq' : l.length = m.length := by omega
    refine ⟨seqI l m, l.length, ⟨0, by simp [heq']⟩, ?_⟩
    rintro k vs h ⟨i, hi, rfl, rfl, hall⟩
    by_cases hlt : i < l.length
    · have hlt2 : i < m.length := by omega
      simp (disch := first | (simp; done) | omega | (simp only [nx_add, nx_set, nx_kill, nx_mk, nx_emp]; omega) | fail) [g33_l1, g33_s1, hlt, hlt2, Gl.eqc]
      refine ⟨fun hne => ?_, fun he => ?_⟩
      · simp [g33_j3, eqD]; intro e; subst e; exact hne rfl
      · refine ⟨l.length - (i + 1), by omega, i + 1, by omega, rfl, by simp, fun j h1 h2 h3 => ?_⟩
        by_cases hji : j < i
        · exact hall j hji h2 h3
        · obtain rfl : j = i := by omega
          exact he
    · simp (disch := first | (simp; done) | omega | (simp only [nx_add, nx_set, nx_kill, nx_mk, nx_emp]; omega) | fail) [g33_l1, hlt, g33_j3, g33_c2]
      exact eqD_iff.2 (List.ext_getElem heq' fun j h1 h2 => hall j (by omega) h1 h2)
theorem slicesEqual_c (l m : List Gl) (hl : Sm l ∧ Sm m) : Pure Try.prog 33 [gls l, gls m] (.bool (eqD l m)) := (slicesEqual_f l m hl).pure (by simp [gls_cl])
def e33 : QE Try.prog := .pure 33 (fun (((l, m)) : List Gl × List Gl) => [gls l, gls m]) (fun (((l, m)) : List Gl × List Gl) => Sm l ∧ Sm m) (fun (((l, m)) : List Gl × List Gl) => .bool (eqD l m)) (fun ⟨l, m⟩ hx => slicesEqual_c l m hx)
@[simp ↓] theorem e33_h (l : List (QE Try.prog)) (args : List AV) (h : AH) (Q : AV → AH → Prop) : tb (e33 :: l) 33 args h Q = e33.q args h Q := tb_here e33 l 33 args h Q rfl
@[simp ↓] theorem e33_t (l : List (QE Try.prog)) (f : Nat) (args : List AV) (h : AH) (Q : AV → AH → Prop) (hf : 33 ≠ f) : tb (e33 :: l) f args h Q = tb l f args h Q := tb_there e33 l f args h Q hf
@[simp ↓] theorem e33_q (l : List Gl) (m : List Gl) (h : AH) (Q : AV → AH → Prop) : e33.q [gls l, gls m] h Q = ((Sm l ∧ Sm m) ∧ Q (.bool (eqD l m)) h) := (QE.pure_q (x := (l, m)) (by rintro ⟨_, _⟩ h; simp at h; simp [h]) h Q)
theorem cmd_ext {a b : Cmd} : a = b ↔ a.kind = b.kind ∧ a.r = b.r ∧ a.t = b.t ∧ a.color = b.color ∧ a.image = b.image ∧ a.line = b.line := by
  cases a; cases b; simp
theorem ln_ext {a b : Ln} : a = b ↔ a.from' = b.from' ∧ a.to = b.to ∧ a.level = b.level ∧ a.x = b.x ∧ a.y = b.y ∧ a.width = b.width ∧ a.asc = b.asc ∧ a.desc = b.desc ∧ a.height = b.height ∧ a.gl = b.gl := by
  cases a; cases b; simp
def SmC (c : Cmd) : Prop := Sm c.line.gl
theorem g11_s1_f (cl : CL) (v109 v110 : AV) (h : AH) (Q : AV → AH → Prop) : g11_s1 cl (.bool false) v109 v110 h Q = Q (.bool false) h := by
  simp [g11_s1]
theorem g11_s2_f (cl : CL) (v5 v6 v101 : AV) (h : AH) (Q : AV → AH → Prop) : g11_s2 cl v5 v6 (.bool false) v101 h Q = Q (.bool false) h := by
  simp [g11_s2, g11_s1_f]
theorem g11_s3_f (cl : CL) (v5 v6 v91 : AV) (h : AH) (Q : AV → AH → Prop) : g11_s3 cl v5 v6 (.bool false) v91 h Q = Q (.bool false) h := by
  simp [g11_s3, g11_s1_f, g11_s2_f]
theorem g11_s4_f (cl : CL) (v5 v6 v81 v82 : AV) (h : AH) (Q : AV → AH → Prop) : g11_s4 cl v5 v6 (.bool false) v81 v82 h Q = Q (.bool false) h := by
  simp [g11_s4, g11_s1_f, g11_s2_f, g11_s3_f]
theorem g11_s5_f (cl : CL) (v5 v6 v73 : AV) (h : AH) (Q : AV → AH → Prop) : g11_s5 cl v5 v6 (.bool false) v73 h Q = Q (.bool false) h := by
  simp [g11_s5, g11_s1_f, g11_s2_f, g11_s3_f, g11_s4_f]
theorem g11_s6_f (cl : CL) (v5 v6 v63 : AV) (h : AH) (Q : AV → AH → Prop) : g11_s6 cl v5 v6 (.bool false) v63 h Q = Q (.bool false) h := by
  simp [g11_s6, g11_s1_f, g11_s2_f, g11_s3_f, g11_s4_f, g11_s5_f]
theorem g11_s7_f (cl : CL) (v5 v6 v53 v54 : AV) (h : AH) (Q : AV → AH → Prop) : g11_s7 cl v5 v6 (.bool false) v53 v54 h Q = Q (.bool false) h := by
  simp [g11_s7, g11_s1_f, g11_s2_f, g11_s3_f, g11_s4_f, g11_s5_f, g11_s6_f]
theorem g11_s8_f (cl : CL) (v5 v6 v45 : AV) (h : AH) (Q : AV → AH → Prop) : g11_s8 cl v5 v6 (.bool false) v45 h Q = Q (.bool false) h := by
  simp [g11_s8, g11_s1_f, g11_s2_f, g11_s3_f, g11_s4_f, g11_s5_f, g11_s6_f, g11_s7_f]
theorem g11_s9_f (cl : CL) (v2 v3 v5 v6 v35 : AV) (h : AH) (Q : AV → AH → Prop) : g11_s9 cl v2 v3 v5 v6 (.bool false) v35 h Q = Q (.bool false) h := by
  simp [g11_s9, g11_s1_f, g11_s2_f, g11_s3_f, g11_s4_f, g11_s5_f, g11_s6_f, g11_s7_f, g11_s8_f]
theorem g11_s10_f (cl : CL) (v2 v3 v5 v6 v25 v26 : AV) (h : AH) (Q : AV → AH → Prop) : g11_s10 cl v2 v3 v5 v6 (.bool false) v25 v26 h Q = Q (.bool false) h := by
  simp [g11_s10, g11_s1_f, g11_s2_f, g11_s3_f, g11_s4_f, g11_s5_f, g11_s6_f, g11_s7_f, g11_s8_f, g11_s9_f]
theorem g11_s11_f (cl : CL) (v2 v3 v5 v6 v17 : AV) (h : AH) (Q : AV → AH → Prop) : g11_s11 cl v2 v3 v5 v6 (.bool false) v17 h Q = Q (.bool false) h := by
  simp [g11_s11, g11_s1_f, g11_s2_f, g11_s3_f, g11_s4_f, g11_s5_f, g11_s6_f, g11_s7_f, g11_s8_f, g11_s9_f, g11_s10_f]
-- g11_s1_f, g11_s2_f, g11_s3_f, g11_s4_f, g11_s5_f, g11_s6_f, g11_s7_f, g11_s8_f, g11_s9_f, g11_s10_f, g11_s11_f
set_option maxHeartbeats 1000000 in
theorem equal_f (a b : Cmd) (hx : SmC a ∧ SmC b) : Fresh Try.prog 11 [.agg a.enc, .agg b.enc] (.bool (eqD a b)) := by
  refine C11 (tb_ok [e33]) ?_
  have h1 : Sm a.line.gl ∧ Sm b.line.gl := hx
  simp (disch := first | (simp; done) | omega | (simp only [nx_add, nx_set, nx_kill, nx_mk, nx_emp]; omega) | fail) [g11, Rect.eqc, Tf.eqc, g11_s1_f, g11_s2_f, g11_s3_f, g11_s4_f, g11_s5_f, g11_s6_f, g11_s7_f, g11_s8_f, g11_s9_f, g11_s10_f, g11_s11_f]
  simp (disch := first | (simp; done) | omega | (simp only [nx_add, nx_set, nx_kill, nx_mk, nx_emp]; omega) | fail) [g11_s12, Rect.eqc, Tf.eqc, g11_s1_f, g11_s2_f, g11_s3_f, g11_s4_f, g11_s5_f, g11_s6_f, g11_s7_f, g11_s8_f, g11_s9_f, g11_s10_f, g11_s11_f]
  simp (disch := first | (simp; done) | omega | (simp only [nx_add, nx_set, nx_kill, nx_mk, nx_emp]; omega) | fail) [g11_s11, Rect.eqc, Tf.eqc, g11_s1_f, g11_s2_f, g11_s3_f, g11_s4_f, g11_s5_f, g11_s6_f, g11_s7_f, g11_s8_f, g11_s9_f, g11_s10_f, g11_s11_f]
  simp (disch := first | (simp; done) | omega | (simp only [nx_add, nx_set, nx_kill, nx_mk, nx_emp]; omega) | fail) [g11_s10, Rect.eqc, Tf.eqc, g11_s1_f, g11_s2_f, g11_s3_f, g11_s4_f, g11_s5_f, g11_s6_f, g11_s7_f, g11_s8_f, g11_s9_f, g11_s10_f, g11_s11_f]
  simp (disch := first | (simp; done) | omega | (simp only [nx_add, nx_set, nx_kill, nx_mk, nx_emp]; omega) | fail) [g11_s9, Rect.eqc, Tf.eqc, g11_s1_f, g11_s2_f, g11_s3_f, g11_s4_f, g11_s5_f, g11_s6_f, g11_s7_f, g11_s8_f, g11_s9_f, g11_s10_f, g11_s11_f]
  simp (disch := first | (simp; done) | omega | (simp only [nx_add, nx_set, nx_kill, nx_mk, nx_emp]; omega) | fail) [g11_s8, Rect.eqc, Tf.eqc, g11_s1_f, g11_s2_f, g11_s3_f, g11_s4_f, g11_s5_f, g11_s6_f, g11_s7_f, g11_s8_f, g11_s9_f, g11_s10_f, g11_s11_f]
  simp (disch := first | (simp; done) | omega | (simp only [nx_add, nx_set, nx_kill, nx_mk, nx_emp]; omega) | fail) [g11_s7, Rect.eqc, Tf.eqc, g11_s1_f, g11_s2_f, g11_s3_f, g11_s4_f, g11_s5_f, g11_s6_f, g11_s7_f, g11_s8_f, g11_s9_f, g11_s10_f, g11_s11_f]
  simp (disch := first | (simp; done) | omega | (simp only [nx_add, nx_set, nx_kill, nx_mk, nx_emp]; omega) | fail) [g11_s6, Rect.eqc, Tf.eqc, g11_s1_f, g11_s2_f, g11_s3_f, g11_s4_f, g11_s5_f, g11_s6_f, g11_s7_f, g11_s8_f, g11_s9_f, g11_s10_f, g11_s11_f]
  simp (disch := first | (simp; done) | omega | (simp only [nx_add, nx_set, nx_kill, nx_mk, nx_emp]; omega) | fail) [g11_s5, Rect.eqc, Tf.eqc, g11_s1_f, g11_s2_f, g11_s3_f, g11_s4_f, g11_s5_f, g11_s6_f, g11_s7_f, g11_s8_f, g11_s9_f, g11_s10_f, g11_s11_f]
  simp (disch := first | (simp; done) | omega | (simp only [nx_add, nx_set, nx_kill, nx_mk, nx_emp]; omega) | fail) [g11_s4, Rect.eqc, Tf.eqc, g11_s1_f, g11_s2_f, g11_s3_f, g11_s4_f, g11_s5_f, g11_s6_f, g11_s7_f, g11_s8_f, g11_s9_f, g11_s10_f, g11_s11_f]
  simp (disch := first | (simp; done) | omega | (simp only [nx_add, nx_set, nx_kill, nx_mk, nx_emp]; omega) | fail) [g11_s3, Rect.eqc, Tf.eqc, g11_s1_f, g11_s2_f, g11_s3_f, g11_s4_f, g11_s5_f, g11_s6_f, g11_s7_f, g11_s8_f, g11_s9_f, g11_s10_f, g11_s11_f]
  simp (disch := first | (simp; done) | omega | (simp only [nx_add, nx_set, nx_kill, nx_mk, nx_emp]; omega) | fail) [g11_s2, Rect.eqc, Tf.eqc, g11_s1_f, g11_s2_f, g11_s3_f, g11_s4_f, g11_s5_f, g11_s6_f, g11_s7_f, g11_s8_f, g11_s9_f, g11_s10_f, g11_s11_f]
  simp (disch := first | (simp; done) | omega | (simp only [nx_add, nx_set, nx_kill, nx_mk, nx_emp]; omega) | fail) [g11_s1, h1]
  cases hq : eqD a b
  · have hne : ¬ a = b := fun e => by rw [eqD_iff.2 e] at hq; cases hq
    rw [cmd_ext, ln_ext] at hne
    simp
    grind [eqD]
  · have he := eqD_iff.1 hq
    subst he
    simp [eqD]
theorem equal_c (a b : Cmd) (hx : SmC a ∧ SmC b) : Pure Try.prog 11 [.agg a.enc, .agg b.enc] (.bool (eqD a b)) := (equal_f a b hx).pure (by simp [Cmd.cl])
def e11 : QE Try.prog := .pure 11 (fun (((a, b)) : Cmd × Cmd) => [.agg a.enc, .agg b.enc]) (fun (((a, b)) : Cmd × Cmd) => SmC a ∧ SmC b) (fun (((a, b)) : Cmd × Cmd) => .bool (eqD a b)) (fun ⟨a, b⟩ hx => equal_c a b hx)
@[simp ↓] theorem e11_h (l : List (QE Try.prog)) (args : List AV) (h : AH) (Q : AV → AH → Prop) : tb (e11 :: l) 11 args h Q = e11.q args h Q := tb_here e11 l 11 args h Q rfl
@[simp ↓] theorem e11_t (l : List (QE Try.prog)) (f : Nat) (args : List AV) (h : AH) (Q : AV → AH → Prop) (hf : 11 ≠ f) : tb (e11 :: l) f args h Q = tb l f args h Q := tb_there e11 l f args h Q hf
@[simp ↓] theorem e11_q (a : Cmd) (b : Cmd) (h : AH) (Q : AV → AH → Prop) : e11.q [.agg a.enc, .agg b.enc] h Q = ((SmC a ∧ SmC b) ∧ Q (.bool (eqD a b)) h) := (QE.pure_q (x := (a, b)) (by rintro ⟨_, _⟩ h; simp at h; simp [h]) h Q)
theorem g34_s1_f (cl : CL) (v2 v3 v70 : AV) (h : AH) (k : List AV → AH → Prop) : g34_s1 cl v2 v3 (.bool true) v70 h k = k [v2, v3, (.bool true)] h := by
  simp [g34_s1]
theorem g34_s2_f (cl : CL) (v2 v3 v61 : AV) (h : AH) (k : List AV → AH → Prop) : g34_s2 cl v2 v3 (.bool true) v61 h k = k [v2, v3, (.bool true)] h := by
  simp [g34_s2, g34_s1_f]
theorem g34_s3_f (cl : CL) (v2 v3 v51 : AV) (h : AH) (k : List AV → AH → Prop) : g34_s3 cl v2 v3 (.bool true) v51 h k = k [v2, v3, (.bool true)] h := by
  simp [g34_s3, g34_s1_f, g34_s2_f]
theorem g34_s4_f (cl : CL) (v2 v3 v41 v42 : AV) (h : AH) (k : List AV → AH → Prop) : g34_s4 cl v2 v3 (.bool true) v41 v42 h k = k [v2, v3, (.bool true)] h := by
  simp [g34_s4, g34_s1_f, g34_s2_f, g34_s3_f]
theorem g34_s5_f (cl : CL) (v2 v3 v33 : AV) (h : AH) (k : List AV → AH → Prop) : g34_s5 cl v2 v3 (.bool true) v33 h k = k [v2, v3, (.bool true)] h := by
  simp [g34_s5, g34_s1_f, g34_s2_f, g34_s3_f, g34_s4_f]
theorem g34_s6_f (cl : CL) (v2 v3 v23 : AV) (h : AH) (k : List AV → AH → Prop) : g34_s6 cl v2 v3 (.bool true) v23 h k = k [v2, v3, (.bool true)] h := by
  simp [g34_s6, g34_s1_f, g34_s2_f, g34_s3_f, g34_s4_f, g34_s5_f]
theorem g34_s7_f (cl : CL) (v2 v3 v13 v14 : AV) (h : AH) (k : List AV → AH → Prop) : g34_s7 cl v2 v3 (.bool true) v13 v14 h k = k [v2, v3, (.bool true)] h := by
  simp [g34_s7, g34_s1_f, g34_s2_f, g34_s3_f, g34_s4_f, g34_s5_f, g34_s6_f]
-- g34_s1_f, g34_s2_f, g34_s3_f, g34_s4_f, g34_s5_f, g34_s6_f, g34_s7_f
def eqlI (a b : Ln) (k : Nat) (vs : List AV) (h : AH) : Prop := ∃ i : Nat, i ≤ a.gl.length ∧ k = a.gl.length - i ∧ vs = [.ptr 0 0, .ptr 1 0, I i] ∧ h.cellsAt 0 = some a.enc ∧ h.cellsAt 1 = some b.enc ∧ ∀ j (h1 : j < i) (h2 : j < a.gl.length) (h3 : j < b.gl.length), a.gl[j] = b.gl[j]
def headEq (a b : Ln) : Prop := a.from' = b.from' ∧ a.to = b.to ∧ a.level = b.level ∧ a.x = b.x ∧ a.y = b.y ∧ a.width = b.width ∧ a.asc = b.asc ∧ a.desc = b.desc ∧ a.height = b.height ∧ a.gl.length = b.gl.length
open Classical in
def headNe (a b : Ln) : Bool := !decide (headEq a b)
set_option maxHeartbeats 1000000 in
theorem equalLine_f (a b : Ln) (hx : Sm a.gl ∧ Sm b.gl) : Fresh Try.prog 34 [.agg a.enc, .agg b.enc] (.bool (eqD a b)) := by
  refine C34 (tb_ok []) ?_
  have hl1 := hx.1; have hl2 := hx.2
  unfold Sm at hl1 hl2
  simp (disch := first | (simp; done) | omega | (simp only [nx_add, nx_set, nx_kill, nx_mk, nx_emp]; omega) | fail) [g34]
  refine ⟨fun vs h => vs = [.ptr 0 0, .ptr 1 0, .bool (headNe a b)] ∧ h.cellsAt 0 = some a.enc ∧ h.cellsAt 1 = some b.enc, ?_, ?_⟩
  · simp (disch := first | (simp; done) | omega | (simp only [nx_add, nx_set, nx_kill, nx_mk, nx_emp]; omega) | fail) [g34_a1, g34_s1_f, g34_s2_f, g34_s3_f, g34_s4_f, g34_s5_f, g34_s6_f, g34_s7_f]
    simp (disch := first | (simp; done) | omega | (simp only [nx_add, nx_set, nx_kill, nx_mk, nx_emp]; omega) | fail) [g34_s7, g34_s1_f, g34_s2_f, g34_s3_f, g34_s4_f, g34_s5_f, g34_s6_f, g34_s7_f]
    simp (disch := first | (simp; done) | omega | (simp only [nx_add, nx_set, nx_kill, nx_mk, nx_emp]; omega) | fail) [g34_s6, g34_s1_f, g34_s2_f, g34_s3_f, g34_s4_f, g34_s5_f, g34_s6_f, g34_s7_f]
    simp (disch := first | (simp; done) | omega | (simp only [nx_add, nx_set, nx_kill, nx_mk, nx_emp]; omega) | fail) [g34_s5, g34_s1_f, g34_s2_f, g34_s3_f, g34_s4_f, g34_s5_f, g34_s6_f, g34_s7_f]
    simp (disch := first | (simp; done) | omega | (simp only [nx_add, nx_set, nx_kill, nx_mk, nx_emp]; omega) | fail) [g34_s4, g34_s1_f, g34_s2_f, g34_s3_f, g34_s4_f, g34_s5_f, g34_s6_f, g34_s7_f]
    simp (disch := first | (simp; done) | omega | (simp only [nx_add, nx_set, nx_kill, nx_mk, nx_emp]; omega) | fail) [g34_s3, g34_s1_f, g34_s2_f, g34_s3_f, g34_s4_f, g34_s5_f, g34_s6_f, g34_s7_f]
    simp (disch := first | (simp; done) | omega | (simp only [nx_add, nx_set, nx_kill, nx_mk, nx_emp]; omega) | fail) [g34_s2, g34_s1_f, g34_s2_f, g34_s3_f, g34_s4_f, g34_s5_f, g34_s6_f, g34_s7_f]
    simp (disch := first | (simp; done) | omega | (simp only [nx_add, nx_set, nx_kill, nx_mk, nx_emp]; omega) | fail) [g34_s1, g34_s1_f, g34_s2_f, g34_s3_f, g34_s4_f, g34_s5_f, g34_s6_f, g34_s7_f]
    cases hq : headNe a b
    · have : headEq a b := by simpa [headNe] using hq
      simp [headEq] at this
      simp [this]
    · have : ¬ headEq a b := by simpa [headNe] using hq
      simp [headEq] at this
      simp
      omega
  · rintro vs h ⟨rfl, h0, h1⟩
    simp (disch := first | (simp; done) | omega | (simp only [nx_add, nx_set, nx_kill, nx_mk, nx_emp]; omega) | fail) [g34_j5]
    refine ⟨fun hh => ?_, fun hh => ?_⟩
    · simp [eqD]; rintro rfl; simp [headNe, headEq] at hh
    · have he : headEq a b := by simpa [headNe] using hh
      have heq : a.gl.length = b.gl.length := he.2.2.2.2.2.2.2.2.2
      refine ⟨eqlI a b, a.gl.length, ⟨0, by simp [h0, h1]⟩, ?_⟩
      rintro k vs h ⟨i, hi, rfl, rfl, h0, h1, hall⟩
      by_cases hlt : i < a.gl.length
      · have hlt2 : i < b.gl.length := by omega
        simp (disch := first | (simp; done) | omega | (simp only [nx_add, nx_set, nx_kill, nx_mk, nx_emp]; omega) | fail) [g34_l2, h0, h1, hlt, hlt2, Gl.eqc]
        simp (disch := first | (simp; done) | omega | (simp only [nx_add, nx_set, nx_kill, nx_mk, nx_emp]; omega) | fail) [g34_s9, h0, h1, hlt, hlt2, Gl.eqc]
        simp (disch := first | (simp; done) | omega | (simp only [nx_add, nx_set, nx_kill, nx_mk, nx_emp]; omega) | fail) [g34_s8, h0, h1, hlt, hlt2, Gl.eqc]
        refine ⟨fun hne => ?_, fun hee => ?_⟩
        · simp [g34_j4, eqD]; intro e; subst e; exact hne rfl
        · refine ⟨a.gl.length - (i + 1), by omega, i + 1, by omega, rfl, by simp, h0, h1, fun j q1 q2 q3 => ?_⟩
          by_cases hji : j < i
          · exact hall j hji q2 q3
          · obtain rfl : j = i := by omega
            exact hee
      · simp (disch := first | (simp; done) | omega | (simp only [nx_add, nx_set, nx_kill, nx_mk, nx_emp]; omega) | fail) [g34_l2, h0, hlt]
        simp (disch := first | (simp; done) | omega | (simp only [nx_add, nx_set, nx_kill, nx_mk, nx_emp]; omega) | fail) [g34_j4, h0, hlt]
        simp (disch := first | (simp; done) | omega | (simp only [nx_add, nx_set, nx_kill, nx_mk, nx_emp]; omega) | fail) [g34_c3, h0, hlt]
        refine eqD_iff.2 (ln_ext.2 ?_)
        obtain ⟨q1, q2, q3, q4, q5, q6, q7, q8, q9, q10⟩ := he
        exact ⟨q1, q2, q3, q4, q5, q6, q7, q8, q9, List.ext_getElem heq fun j z1 z2 => hall j (by omega) z1 z2⟩
theorem equalLine_c (a b : Ln) (hx : Sm a.gl ∧ Sm b.gl) : Pure Try.prog 34 [.agg a.enc, .agg b.enc] (.bool (eqD a b)) := (equalLine_f a b hx).pure (by simp [Ln.cl])
def e34 : QE Try.prog := .pure 34 (fun (((a, b)) : Ln × Ln) => [.agg a.enc, .agg b.enc]) (fun (((a, b)) : Ln × Ln) => Sm a.gl ∧ Sm b.gl) (fun (((a, b)) : Ln × Ln) => .bool (eqD a b)) (fun ⟨a, b⟩ hx => equalLine_c a b hx)
@[simp ↓] theorem e34_h (l : List (QE Try.prog)) (args : List AV) (h : AH) (Q : AV → AH → Prop) : tb (e34 :: l) 34 args h Q = e34.q args h Q := tb_here e34 l 34 args h Q rfl
@[simp ↓] theorem e34_t (l : List (QE Try.prog)) (f : Nat) (args : List AV) (h : AH) (Q : AV → AH → Prop) (hf : 34 ≠ f) : tb (e34 :: l) f args h Q = tb l f args h Q := tb_there e34 l f args h Q hf
@[simp ↓] theorem e34_q (a : Ln) (b : Ln) (h : AH) (Q : AV → AH → Prop) : e34.q [.agg a.enc, .agg b.enc] h Q = ((Sm a.gl ∧ Sm b.gl) ∧ Q (.bool (eqD a b)) h) := (QE.pure_q (x := (a, b)) (by rintro ⟨_, _⟩ h; simp at h; simp [h]) h Q)
theorem g12_s1_f (cl : CL) (v3 v39 : AV) (h : AH) (Q : AV → AH → Prop) : g12_s1 cl v3 (.bool false) v39 h Q = Q (.bool false) h := by
  simp [g12_s1]
theorem g12_s2_f (cl : CL) (v2 v3 v29 : AV) (h : AH) (Q : AV → AH → Prop) : g12_s2 cl v2 v3 (.bool false) v29 h Q = Q (.bool false) h := by
  simp [g12_s2, g12_s1_f]
theorem g12_s3_f (cl : CL) (v2 v3 v19 v20 : AV) (h : AH) (Q : AV → AH → Prop) : g12_s3 cl v2 v3 (.bool false) v19 v20 h Q = Q (.bool false) h := by
  simp [g12_s3, g12_s1_f, g12_s2_f]
theorem g12_s4_f (cl : CL) (v2 v3 v11 : AV) (h : AH) (Q : AV → AH → Prop) : g12_s4 cl v2 v3 (.bool false) v11 h Q = Q (.bool false) h := by
  simp [g12_s4, g12_s1_f, g12_s2_f, g12_s3_f]
-- g12_s1_f, g12_s2_f, g12_s3_f, g12_s4_f
set_option maxHeartbeats 1000000 in
theorem requal_f (a b : Cmd) (hx : SmC a ∧ SmC b) : Fresh Try.prog 12 [.agg a.enc, .agg b.enc] (.bool (eqD a b)) := by
  refine C12 (tb_ok [e34]) ?_
  have h1 : Sm a.line.gl ∧ Sm b.line.gl := hx
  simp (disch := first | (simp; done) | omega | (simp only [nx_add, nx_set, nx_kill, nx_mk, nx_emp]; omega) | fail) [g12, Rect.eqc, Tf.eqc, g12_s1_f, g12_s2_f, g12_s3_f, g12_s4_f]
  simp (disch := first | (simp; done) | omega | (simp only [nx_add, nx_set, nx_kill, nx_mk, nx_emp]; omega) | fail) [g12_s4, Rect.eqc, Tf.eqc, g12_s1_f, g12_s2_f, g12_s3_f, g12_s4_f]
  simp (disch := first | (simp; done) | omega | (simp only [nx_add, nx_set, nx_kill, nx_mk, nx_emp]; omega) | fail) [g12_s3, Rect.eqc, Tf.eqc, g12_s1_f, g12_s2_f, g12_s3_f, g12_s4_f]
  simp (disch := first | (simp; done) | omega | (simp only [nx_add, nx_set, nx_kill, nx_mk, nx_emp]; omega) | fail) [g12_s2, Rect.eqc, Tf.eqc, g12_s1_f, g12_s2_f, g12_s3_f, g12_s4_f]
  simp (disch := first | (simp; done) | omega | (simp only [nx_add, nx_set, nx_kill, nx_mk, nx_emp]; omega) | fail) [g12_s1, h1]
  cases hq : eqD a b
  · have hne : ¬ a = b := fun e => by rw [eqD_iff.2 e] at hq; cases hq
    rw [cmd_ext] at hne
    simp
    grind [eqD]
  · have he := eqD_iff.1 hq
    subst he
    simp [eqD]
theorem requal_c (a b : Cmd) (hx : SmC a ∧ SmC b) : Pure Try.prog 12 [.agg a.enc, .agg b.enc] (.bool (eqD a b)) := (requal_f a b hx).pure (by simp [Cmd.cl])
def e12 : QE Try.prog := .pure 12 (fun (((a, b)) : Cmd × Cmd) => [.agg a.enc, .agg b.enc]) (fun (((a, b)) : Cmd × Cmd) => SmC a ∧ SmC b) (fun (((a, b)) : Cmd × Cmd) => .bool (eqD a b)) (fun ⟨a, b⟩ hx => requal_c a b hx)
@[simp ↓] theorem e12_h (l : List (QE Try.prog)) (args : List AV) (h : AH) (Q : AV → AH → Prop) : tb (e12 :: l) 12 args h Q = e12.q args h Q := tb_here e12 l 12 args h Q rfl
@[simp ↓] theorem e12_t (l : List (QE Try.prog)) (f : Nat) (args : List AV) (h : AH) (Q : AV → AH → Prop) (hf : 12 ≠ f) : tb (e12 :: l) f args h Q = tb l f args h Q := tb_there e12 l f args h Q hf
@[simp ↓] theorem e12_q (a : Cmd) (b : Cmd) (h : AH) (Q : AV → AH → Prop) : e12.q [.agg a.enc, .agg b.enc] h Q = ((SmC a ∧ SmC b) ∧ Q (.bool (eqD a b)) h) := (QE.pure_q (x := (a, b)) (by rintro ⟨_, _⟩ h; simp at h; simp [h]) h Q)
end Go.Proofs.Ytpnekpbehcbmkaa
