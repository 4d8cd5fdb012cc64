/- What comparing two lists of commands answers, in the program and in the reference. What validating a list of commands answers in the program, with its stack of transforms and clips. What validating a list of commands answers in the reference. What the colour of a pixel is in the program. What the colour of a pixel is in the reference: the same. What the law's own weighing of a list answers. What cloning an empty slice of glyphs answers. -/
import Derived.Test.YtpnekpbehcbmkaaEngBB
import Derived.WalkKit
import Derived.ProofKit
set_option linter.unusedSimpArgs false
set_option linter.unusedVariables false
set_option linter.unnecessarySimpa false
noncomputable section
namespace Go.Proofs.Ytpnekpbehcbmkaa
open Go.Eng
open Classical in
theorem Gl.eqc (a b : Gl) : eqCells [.int .i64, .int .i64, .int .i64, .int .i64, .int .i64, .int .i64, .int .i64, .int .i64] a.enc b.enc = some (decide (a = b)) := by
  cases a; cases b
  simp [Gl.enc, eqCells, eqCell]
  rw [Bool.eq_iff_iff]; simp
open Classical in
theorem Rect.eqc (a b : Rect) : eqCells [.int .i64, .int .i64, .int .i64, .int .i64] a.enc b.enc = some (decide (a = b)) := by
  cases a; cases b
  simp [Rect.enc, eqCells, eqCell]
  rw [Bool.eq_iff_iff]; simp
open Classical in
theorem Tf.eqc (a b : Tf) : eqCells [.int .i64, .bool, .int .i64, .int .i64, .int .i64] a.enc b.enc = some (decide (a = b)) := by
  cases a; cases b
  simp [Tf.enc, eqCells, eqCell]
  rw [Bool.eq_iff_iff]; simp
open Classical in
def eqD {α : Type} (a b : α) : Bool := decide (a = b)
theorem eqD_iff {α : Type} {a b : α} : eqD a b = true ↔ a = b := by simp [eqD]
def seqI (l m : List Gl) (k : Nat) (vs : List AV) (h : AH) : Prop := ∃ i : Nat, i ≤ l.length ∧ k = l.length - i ∧ vs = [gls l, gls m, I l.length, I i] ∧ ∀ j (h1 : j < i) (h2 : j < l.length) (h3 : j < m.length), l[j] = m[j]
open Classical in
theorem slicesEqual_f (l m : List Gl) (hl : Sm l ∧ Sm m) : Fresh Try.prog 33 [gls l, gls m] (.bool (eqD l m)) := by
  refine C33 (tb_ok []) ?_
  have hl1 := hl.1; have hl2 := hl.2
  unfold Sm at hl1 hl2
  simp (disch := first | (simp; done) | omega | (simp only [nx_add, nx_set, nx_kill, nx_mk, nx_emp]; omega) | fail) [g33]
  refine ⟨fun hne => ?_, fun heq => ?_⟩
  · simp [eqD]; intro e; exact hne (by rw [e])
  · have heq' : l.length = m.length := by omega
    refine ⟨seqI l m, l.length, ⟨0, by simp [heq']⟩, ?_⟩
    rintro k vs h ⟨i, hi, rfl, rfl, hall⟩
    by_cases hlt : i < l.length
    · have hlt2 : i < m.length := by omega
      simp (disch := first | (simp; done) | omega | (simp only [nx_add, nx_set, nx_kill, nx_mk, nx_emp]; omega) | fail) [g33_l1, g33_s1, hlt, hlt2, Gl.eqc]
      refine ⟨fun hne => ?_, fun he => ?_⟩
      · simp [g33_j3, eqD]; intro e; subst e; exact hne rfl
      · refine ⟨l.length - (i + 1), by omega, i + 1, by omega, rfl, by simp, fun j h1 h2 h3 => ?_⟩
        by_cases hji : j < i
        · exact hall j hji h2 h3
        · obtain rfl : j = i := by omega
          exact he
    · simp (disch := first | (simp; done) | omega | (simp only [nx_add, nx_set, nx_kill, nx_mk, nx_emp]; omega) | fail) [g33_l1, hlt, g33_j3, g33_c2]
      exact eqD_iff.2 (List.ext_getElem heq' fun j h1 h2 => hall j (by omega) h1 h2)
theorem slicesEqual_c (l m : List Gl) (hl : Sm l ∧ Sm m) : Pure Try.prog 33 [gls l, gls m] (.bool (eqD l m)) := (slicesEqual_f l m hl).pure (by simp [gls_cl])
def e33 : QE Try.prog := .pure 33 (fun (((l, m)) : List Gl × List Gl) => [gls l, gls m]) (fun (((l, m)) : List Gl × List Gl) => Sm l ∧ Sm m) (fun (((l, m)) : List Gl × List Gl) => .bool (eqD l m)) (fun ⟨l, m⟩ hx => slicesEqual_c l m hx)
@[simp ↓] theorem e33_h (l : List (QE Try.prog)) (args : List AV) (h : AH) (Q : AV → AH → Prop) : tb (e33 :: l) 33 args h Q = e33.q args h Q := tb_here e33 l 33 args h Q rfl
@[simp ↓] theorem e33_q (l : List Gl) (m : List Gl) (h : AH) (Q : AV → AH → Prop) : e33.q [gls l, gls m] h Q = ((Sm l ∧ Sm m) ∧ Q (.bool (eqD l m)) h) := (QE.pure_q (x := (l, m)) (by rintro ⟨_, _⟩ h; simp at h; simp [h]) h Q)
theorem cmd_ext {a b : Cmd} : a = b ↔ a.kind = b.kind ∧ a.r = b.r ∧ a.t = b.t ∧ a.color = b.color ∧ a.image = b.image ∧ a.line = b.line := by
  cases a; cases b; simp
theorem ln_ext {a b : Ln} : a = b ↔ a.from' = b.from' ∧ a.to = b.to ∧ a.level = b.level ∧ a.x = b.x ∧ a.y = b.y ∧ a.width = b.width ∧ a.asc = b.asc ∧ a.desc = b.desc ∧ a.height = b.height ∧ a.gl = b.gl := by
  cases a; cases b; simp
def SmC (c : Cmd) : Prop := Sm c.line.gl
theorem g11_s1_f (cl : CL) (v109 v110 : AV) (h : AH) (Q : AV → AH → Prop) : g11_s1 cl (.bool false) v109 v110 h Q = Q (.bool false) h := by
  simp [g11_s1]
theorem g11_s2_f (cl : CL) (v5 v6 v101 : AV) (h : AH) (Q : AV → AH → Prop) : g11_s2 cl v5 v6 (.bool false) v101 h Q = Q (.bool false) h := by
  simp [g11_s2, g11_s1_f]
theorem g11_s3_f (cl : CL) (v5 v6 v91 : AV) (h : AH) (Q : AV → AH → Prop) : g11_s3 cl v5 v6 (.bool false) v91 h Q = Q (.bool false) h := by
  simp [g11_s3, g11_s1_f, g11_s2_f]
theorem g11_s4_f (cl : CL) (v5 v6 v81 v82 : AV) (h : AH) (Q : AV → AH → Prop) : g11_s4 cl v5 v6 (.bool false) v81 v82 h Q = Q (.bool false) h := by
  simp [g11_s4, g11_s1_f, g11_s2_f, g11_s3_f]
theorem g11_s5_f (cl : CL) (v5 v6 v73 : AV) (h : AH) (Q : AV → AH → Prop) : g11_s5 cl v5 v6 (.bool false) v73 h Q = Q (.bool false) h := by
  simp [g11_s5, g11_s1_f, g11_s2_f, g11_s3_f, g11_s4_f]
theorem g11_s6_f (cl : CL) (v5 v6 v63 : AV) (h : AH) (Q : AV → AH → Prop) : g11_s6 cl v5 v6 (.bool false) v63 h Q = Q (.bool false) h := by
  simp [g11_s6, g11_s1_f, g11_s2_f, g11_s3_f, g11_s4_f, g11_s5_f]
theorem g11_s7_f (cl : CL) (v5 v6 v53 v54 : AV) (h : AH) (Q : AV → AH → Prop) : g11_s7 cl v5 v6 (.bool false) v53 v54 h Q = Q (.bool false) h := by
  simp [g11_s7, g11_s1_f, g11_s2_f, g11_s3_f, g11_s4_f, g11_s5_f, g11_s6_f]
theorem g11_s8_f (cl : CL) (v5 v6 v45 : AV) (h : AH) (Q : AV → AH → Prop) : g11_s8 cl v5 v6 (.bool false) v45 h Q = Q (.bool false) h := by
  simp [g11_s8, g11_s1_f, g11_s2_f, g11_s3_f, g11_s4_f, g11_s5_f, g11_s6_f, g11_s7_f]
theorem g11_s9_f (cl : CL) (v2 v3 v5 v6 v35 : AV) (h : AH) (Q : AV → AH → Prop) : g11_s9 cl v2 v3 v5 v6 (.bool false) v35 h Q = Q (.bool false) h := by
  simp [g11_s9, g11_s1_f, g11_s2_f, g11_s3_f, g11_s4_f, g11_s5_f, g11_s6_f, g11_s7_f, g11_s8_f]
theorem g11_s10_f (cl : CL) (v2 v3 v5 v6 v25 v26 : AV) (h : AH) (Q : AV → AH → Prop) : g11_s10 cl v2 v3 v5 v6 (.bool false) v25 v26 h Q = Q (.bool false) h := by
  simp [g11_s10, g11_s1_f, g11_s2_f, g11_s3_f, g11_s4_f, g11_s5_f, g11_s6_f, g11_s7_f, g11_s8_f, g11_s9_f]
theorem g11_s11_f (cl : CL) (v2 v3 v5 v6 v17 : AV) (h : AH) (Q : AV → AH → Prop) : g11_s11 cl v2 v3 v5 v6 (.bool false) v17 h Q = Q (.bool false) h := by
  simp [g11_s11, g11_s1_f, g11_s2_f, g11_s3_f, g11_s4_f, g11_s5_f, g11_s6_f, g11_s7_f, g11_s8_f, g11_s9_f, g11_s10_f]
-- g11_s1_f, g11_s2_f, g11_s3_f, g11_s4_f, g11_s5_f, g11_s6_f, g11_s7_f, g11_s8_f, g11_s9_f, g11_s10_f, g11_s11_f
set_option maxHeartbeats 1000000 in
theorem equal_f (a b : Cmd) (hx : SmC a ∧ SmC b) : Fresh Try.prog 11 [.agg a.enc, .agg b.enc] (.bool (eqD a b)) := by
  refine C11 (tb_ok [e33]) ?_
  have h1 : Sm a.line.gl ∧ Sm b.line.gl := hx
  simp (disch := first | (simp; done) | omega | (simp only [nx_add, nx_set, nx_kill, nx_mk, nx_emp]; omega) | fail) [g11, Rect.eqc, Tf.eqc, g11_s1_f, g11_s2_f, g11_s3_f, g11_s4_f, g11_s5_f, g11_s6_f, g11_s7_f, g11_s8_f, g11_s9_f, g11_s10_f, g11_s11_f]
  simp (disch := first | (simp; done) | omega | (simp only [nx_add, nx_set, nx_kill, nx_mk, nx_emp]; omega) | fail) [g11_s12, Rect.eqc, Tf.eqc, g11_s1_f, g11_s2_f, g11_s3_f, g11_s4_f, g11_s5_f, g11_s6_f, g11_s7_f, g11_s8_f, g11_s9_f, g11_s10_f, g11_s11_f]
  simp (disch := first | (simp; done) | omega | (simp only [nx_add, nx_set, nx_kill, nx_mk, nx_emp]; omega) | fail) [g11_s11, Rect.eqc, Tf.eqc, g11_s1_f, g11_s2_f, g11_s3_f, g11_s4_f, g11_s5_f, g11_s6_f, g11_s7_f, g11_s8_f, g11_s9_f, g11_s10_f, g11_s11_f]
  simp (disch := first | (simp; done) | omega | (simp only [nx_add, nx_set, nx_kill, nx_mk, nx_emp]; omega) | fail) [g11_s10, Rect.eqc, Tf.eqc, g11_s1_f, g11_s2_f, g11_s3_f, g11_s4_f, g11_s5_f, g11_s6_f, g11_s7_f, g11_s8_f, g11_s9_f, g11_s10_f, g11_s11_f]
  simp (disch := first | (simp; done) | omega | (simp only [nx_add, nx_set, nx_kill, nx_mk, nx_emp]; omega) | fail) [g11_s9, Rect.eqc, Tf.eqc, g11_s1_f, g11_s2_f, g11_s3_f, g11_s4_f, g11_s5_f, g11_s6_f, g11_s7_f, g11_s8_f, g11_s9_f, g11_s10_f, g11_s11_f]
  simp (disch := first | (simp; done) | omega | (simp only [nx_add, nx_set, nx_kill, nx_mk, nx_emp]; omega) | fail) [g11_s8, Rect.eqc, Tf.eqc, g11_s1_f, g11_s2_f, g11_s3_f, g11_s4_f, g11_s5_f, g11_s6_f, g11_s7_f, g11_s8_f, g11_s9_f, g11_s10_f, g11_s11_f]
  simp (disch := first | (simp; done) | omega | (simp only [nx_add, nx_set, nx_kill, nx_mk, nx_emp]; omega) | fail) [g11_s7, Rect.eqc, Tf.eqc, g11_s1_f, g11_s2_f, g11_s3_f, g11_s4_f, g11_s5_f, g11_s6_f, g11_s7_f, g11_s8_f, g11_s9_f, g11_s10_f, g11_s11_f]
  simp (disch := first | (simp; done) | omega | (simp only [nx_add, nx_set, nx_kill, nx_mk, nx_emp]; omega) | fail) [g11_s6, Rect.eqc, Tf.eqc, g11_s1_f, g11_s2_f, g11_s3_f, g11_s4_f, g11_s5_f, g11_s6_f, g11_s7_f, g11_s8_f, g11_s9_f, g11_s10_f, g11_s11_f]
  simp (disch := first | (simp; done) | omega | (simp only [nx_add, nx_set, nx_kill, nx_mk, nx_emp]; omega) | fail) [g11_s5, Rect.eqc, Tf.eqc, g11_s1_f, g11_s2_f, g11_s3_f, g11_s4_f, g11_s5_f, g11_s6_f, g11_s7_f, g11_s8_f, g11_s9_f, g11_s10_f, g11_s11_f]
  simp (disch := first | (simp; done) | omega | (simp only [nx_add, nx_set, nx_kill, nx_mk, nx_emp]; omega) | fail) [g11_s4, Rect.eqc, Tf.eqc, g11_s1_f, g11_s2_f, g11_s3_f, g11_s4_f, g11_s5_f, g11_s6_f, g11_s7_f, g11_s8_f, g11_s9_f, g11_s10_f, g11_s11_f]
  simp (disch := first | (simp; done) | omega | (simp only [nx_add, nx_set, nx_kill, nx_mk, nx_emp]; omega) | fail) [g11_s3, Rect.eqc, Tf.eqc, g11_s1_f, g11_s2_f, g11_s3_f, g11_s4_f, g11_s5_f, g11_s6_f, g11_s7_f, g11_s8_f, g11_s9_f, g11_s10_f, g11_s11_f]
  simp (disch := first | (simp; done) | omega | (simp only [nx_add, nx_set, nx_kill, nx_mk, nx_emp]; omega) | fail) [g11_s2, Rect.eqc, Tf.eqc, g11_s1_f, g11_s2_f, g11_s3_f, g11_s4_f, g11_s5_f, g11_s6_f, g11_s7_f, g11_s8_f, g11_s9_f, g11_s10_f, g11_s11_f]
  simp (disch := first | (simp; done) | omega | (simp only [nx_add, nx_set, nx_kill, nx_mk, nx_emp]; omega) | fail) [g11_s1, h1]
  cases hq : eqD a b
  · have hne : ¬ a = b := fun e => by rw [eqD_iff.2 e] at hq; cases hq
    rw [cmd_ext, ln_ext] at hne
    simp
    grind [eqD]
  · have he := eqD_iff.1 hq
    subst he
    simp [eqD]
theorem equal_c (a b : Cmd) (hx : SmC a ∧ SmC b) : Pure Try.prog 11 [.agg a.enc, .agg b.enc] (.bool (eqD a b)) := (equal_f a b hx).pure (by simp [Cmd.cl])
def e11 : QE Try.prog := .pure 11 (fun (((a, b)) : Cmd × Cmd) => [.agg a.enc, .agg b.enc]) (fun (((a, b)) : Cmd × Cmd) => SmC a ∧ SmC b) (fun (((a, b)) : Cmd × Cmd) => .bool (eqD a b)) (fun ⟨a, b⟩ hx => equal_c a b hx)
@[simp ↓] theorem e11_h (l : List (QE Try.prog)) (args : List AV) (h : AH) (Q : AV → AH → Prop) : tb (e11 :: l) 11 args h Q = e11.q args h Q := tb_here e11 l 11 args h Q rfl
@[simp ↓] theorem e11_t (l : List (QE Try.prog)) (f : Nat) (args : List AV) (h : AH) (Q : AV → AH → Prop) (hf : 11 ≠ f) : tb (e11 :: l) f args h Q = tb l f args h Q := tb_there e11 l f args h Q hf
@[simp ↓] theorem e11_q (a : Cmd) (b : Cmd) (h : AH) (Q : AV → AH → Prop) : e11.q [.agg a.enc, .agg b.enc] h Q = ((SmC a ∧ SmC b) ∧ Q (.bool (eqD a b)) h) := (QE.pure_q (x := (a, b)) (by rintro ⟨_, _⟩ h; simp at h; simp [h]) h Q)
end Go.Proofs.Ytpnekpbehcbmkaa
end
noncomputable section
namespace Go.Proofs.Ytpnekpbehcbmkaa
open Go.Eng
/-! stacks -/
theorem cut_zero_app {α : List AV} {b : List AV} {n : Nat} (h : α.length = n) : cut (α ++ b) 0 n = some α := by
  unfold cut
  rw [if_pos (by simp; omega)]
  simp [← h]
theorem cut_eq {cs x : List AV} {o n : Nat} (h : cut cs o n = some x) : o + n ≤ cs.length ∧ x = (cs.drop o).take n := by
  unfold cut at h
  split at h
  · rename_i h1; cases h; exact ⟨h1, rfl⟩
  · cases h
theorem flat_len {α : Type} {e : α → List AV} {z : Nat} (he : ∀ a, (e a).length = z) : ∀ (st : List α), ((st.map e).flatten).length = st.length * z
  | [] => by simp
  | a :: st => by simp [he, flat_len he st, Nat.succ_mul]; omega
def bot {α : Type} (e : α → List AV) (st : List α) : List AV := (st.reverse.map e).flatten
theorem bot_len {α : Type} {e : α → List AV} {z : Nat} (he : ∀ a, (e a).length = z) (st : List α) : (bot e st).length = st.length * z := by
  unfold bot; rw [flat_len he]; simp
theorem bot_cons {α : Type} (e : α → List AV) (a : α) (st : List α) : bot e (a :: st) = bot e st ++ e a := by simp [bot]
theorem stk_top {α : Type} {e : α → List AV} {z : Nat} (he : ∀ a, (e a).length = z) {cs : List AV} {a : α} {st : List α} (h : cut cs 0 ((st.length + 1) * z) = some (bot e (a :: st))) : cut cs (st.length * z) z = some (e a) ∧ cut cs 0 (st.length * z) = some (bot e st) := by
  obtain ⟨h1, h2⟩ := cut_eq h
  rw [Nat.succ_mul] at h1 h2
  rw [bot_cons] at h2
  have hb := bot_len he st
  have ha := he a
  have h3 : cs.take (st.length * z + z) = bot e st ++ e a := by simpa using h2.symm
  have h4 : cs = (bot e st ++ e a) ++ cs.drop (st.length * z + z) := by rw [← h3]; simp
  generalize cs.drop (st.length * z + z) = d at h4
  subst h4
  constructor
  · unfold cut
    rw [if_pos (by simp; omega)]
    rw [List.append_assoc, List.drop_append, ← hb]
    simp [← ha]
  · rw [List.append_assoc]; exact cut_zero_app hb
theorem stk_push {α : Type} {e : α → List AV} {z : Nat} (he : ∀ a, (e a).length = z) (a : α) (st : List α) : cut (bot e st ++ e a) 0 ((st.length + 1) * z) = some (bot e (a :: st)) := by
  have h := cut_zero_app (α := bot e (a :: st)) (b := []) (n := (st.length + 1) * z) (by rw [bot_len he]; simp)
  rw [List.append_nil, bot_cons] at h
  rw [bot_cons]; exact h
structure Stk {α : Type} (z : Nat) (e : α → List AV) (id : Nat) (h : AH) (st : List α) : Prop where
  lt : id < h.nx
  ex : ∃ cs, h.cellsAt id = some cs ∧ cut cs 0 (st.length * z) = some (bot e st)
theorem Stk.push {α : Type} {z : Nat} {e : α → List AV} (he : ∀ a, (e a).length = z) {h : AH} {st : List α} {a : α} {nid : Nat} (hn : nid = h.nx) : Stk z e nid (h.add (.cells (bot e st ++ e a))) (a :: st) :=
  ⟨by simp [hn], _, by simp [hn], stk_push he a st⟩
@[simp] theorem kApp_rr (h : AH) (z bytes id off len id2 off2 m : Nat) : kApp h z bytes (.rsl id off len z) (.rsl id2 off2 m z) =
    match h.cellsAt id, h.cellsAt id2 with
    | some cs, some cs2 => match cut cs off (len * z), cut cs2 off2 (m * z) with
      | some old, some new => if ones new = true ∧ roomy (len + m) bytes = true then some (.rsl h.nx 0 (len + m) z, (h.kill id).add (.cells (old ++ new))) else none
      | _, _ => none
    | _, _ => none := by
  simp only [kApp, aapp, acells, alen, if_true]
  cases h1 : h.cellsAt id with
  | none =>
    cases h2 : h.cellsAt id2 with
    | none => simp
    | some cs2 =>
      simp
      cases h4 : cut cs2 off2 (m * z) with
      | none => simp
      | some new => simp
  | some cs =>
    cases h2 : h.cellsAt id2 with
    | none => simp
    | some cs2 =>
      simp
      cases h4 : cut cs2 off2 (m * z) with
      | none => cases h3 : cut cs off (len * z) <;> simp
      | some new =>
        cases h3 : cut cs off (len * z) with
        | none => simp
        | some old => cases ho : ones new <;> cases hr : roomy (len + m) bytes <;> simp [ho, hr]
@[simp] theorem kBuildSl_eq (h : AH) (z len : Nat) (zero : List AV) (ps : List (Nat × Nat × AV)) : kBuildSl h z len zero ps = match afill zero ps with | some cs => some (.rsl h.nx 0 len z, h.add (.cells cs)) | none => none := Eq.trans rfl rfl
@[simp] theorem roomy_ok (n b : Nat) (h : n * b ≤ 140737488355328) (h2 : n ≤ 9223372036854775807) : roomy n b = true := by simp [roomy, h, h2]
theorem kSl_hi (h : AH) (z id off len : Nat) (j : Int) (h0 : 0 ≤ j) (hj : j ≤ len) : kSl h z (.rsl id off len z) none (some (.int .i64 j)) none = some (.rsl id off j.toNat z, h) := by
  have h1 : j.toNat ≤ len := by omega
  simp [kSl, aslice, asl, alen, abd, aidx, h0, hj]
/-! the commands, examined -/
def cmdErr (st : List Tf) (c : Cmd) : Int ⊕ List Tf :=
  if c.kind = 3 then (if st.length = 1 then .inl 12 else .inr st.tail)
  else if c.kind = 2 then (if cmbOk (st.headD zT) c.t then .inr (cmb (st.headD zT) c.t :: st) else .inl 1)
  else if c.kind = 1 ∨ c.kind = 4 ∨ c.kind = 5 ∨ c.kind = 6 then
    if okR c.r = false then .inl 1 else if (c.kind = 4 ∨ c.kind = 5) ∧ isCol c.color = false then .inl 1 else if c.kind = 5 ∧ nearL c.line = false then .inl 1
    else if c.kind = 1 then .inr (st.headD zT :: st) else .inr st
  else .inl 9
def vrun : List Tf → List Cmd → Int
  | st, [] => if st.length > 1 then 12 else 0
  | st, c :: l => match cmdErr st c with
    | .inl e => e
    | .inr st' => vrun st' l
def tf1 : Tf := ⟨0, false, 1, 0, 0⟩
def validate (l : List Cmd) : Int := if l.length > 20000 then 2 else vrun [tf1] l
def SmL (l : List Cmd) : Prop := Sm l ∧ ∀ c ∈ l, SmC c
def valI (l : List Cmd) (m : Nat) (vs : List AV) (h : AH) : Prop := ∃ (i : Nat) (id : Nat) (top : Tf) (rest : List Tf), i ≤ l.length ∧ m = l.length - i ∧ vs = [.rsl id 0 (rest.length + 1) 5, cmds l, I l.length, I i] ∧ Stk 5 Tf.enc id h (top :: rest) ∧ vrun (top :: rest) (l.drop i) = validate l ∧ rest.length ≤ i
def vM (l : List Cmd) (i : Nat) (st : List Tf) (c : Cmd) (x : AX) (vs : List AV) (h' : AH) : Prop := (x = .nrm ∧ ∃ id' top' rest', cmdErr st c = .inr (top' :: rest') ∧ vs = [.undef, .rsl id' 0 (rest'.length + 1) 5, cmds l, I l.length, I i] ∧ Stk 5 Tf.enc id' h' (top' :: rest') ∧ rest'.length ≤ i + 1) ∨ (x = .ret ∧ ∃ e u, cmdErr st c = .inl e ∧ vs = [I e, u, cmds l, I l.length, I i])
theorem vM.mk {l : List Cmd} {i : Nat} {st : List Tf} {c : Cmd} {h' : AH} {id' : Nat} {top' : Tf} {rest' : List Tf} (h1 : cmdErr st c = .inr (top' :: rest')) (h2 : Stk 5 Tf.enc id' h' (top' :: rest')) (h3 : rest'.length ≤ i + 1) : vM l i st c .nrm [.undef, .rsl id' 0 (rest'.length + 1) 5, cmds l, I l.length, I i] h' := .inl ⟨rfl, _, _, _, h1, rfl, h2, h3⟩
theorem vM.err {l : List Cmd} {i : Nat} {st : List Tf} {c : Cmd} {h' : AH} {e : Int} {u : AV} (h1 : cmdErr st c = .inl e) : vM l i st c .ret [I e, u, cmds l, I l.length, I i] h' := .inr ⟨rfl, _, _, h1, rfl⟩
theorem validate_f (l : List Cmd) (hl : SmL l) : Fresh Try.prog 13 [cmds l] (I (validate l)) := by
  refine C13 (tb_ok [e35, e36, e37, e38, e39]) ?_
  have hl1 := hl.1
  unfold Sm at hl1
  simp (disch := first | (simp; done) | omega | (simp only [nx_add, nx_set, nx_kill, nx_mk, nx_emp]; omega) | fail) [g13]
  refine ⟨fun hh => by unfold validate; rw [if_pos (by omega)], fun hh => ?_⟩
  refine ⟨valI l, l.length, ⟨0, 0, tf1, [], by omega, rfl, rfl, ⟨by simp, _, by simp; rfl, by simp [bot, tf1, Tf.enc, cut]⟩, ?_, by simp⟩, ?_⟩
  · simp [validate]; omega
  rintro m vs h ⟨i, id, top, rest, hi, rfl, rfl, ⟨hid, cs, hcs, hcut⟩, hrun, hri⟩
  obtain ⟨htop, hpop⟩ := stk_top Tf.len hcut
  have hrl : rest.length ≤ 20000 := by omega
  by_cases hlt : i < l.length
  · have hd : l.drop i = l[i] :: l.drop (i + 1) := List.drop_eq_getElem_cons hlt
    rw [hd] at hrun
    obtain ⟨c, hc⟩ : ∃ c, c = l[i] := ⟨_, rfl⟩
    have hsm : SmC c := by rw [hc]; exact hl.2 _ (List.getElem_mem hlt)
    rw [← hc] at hrun
    simp (disch := first | (simp; done) | omega | (simp only [nx_add, nx_set, nx_kill, nx_mk, nx_emp]; omega) | fail) [g13_l11, hlt, ← hc]
    refine ⟨vM l i (top :: rest) c, ?_, ?_⟩
    · have hne : ¬ id = h.nx := by omega
      have hne2 : ¬ id = h.nx + 1 := by omega
      simp (disch := first | (simp; done) | omega | (simp only [nx_add, nx_set, nx_kill, nx_mk, nx_emp]; omega) | fail) [g13_a9, hlt, ← hc, hcs, htop, hne, hne2, kIdxA_rsl]
      simp (disch := first | (simp; done) | omega | (simp only [nx_add, nx_set, nx_kill, nx_mk, nx_emp]; omega) | fail) [g13_s8, hlt, ← hc, hcs, htop, hne, hne2, kIdxA_rsl]
      obtain ⟨F, hF⟩ : ∃ F : AH → Prop, F = fun h1 => h1.cellsAt h.nx = some c.enc ∧ h1.cellsAt (h.nx + 1) = some top.enc ∧ h1.cellsAt id = some cs ∧ h1.nx = h.nx + 2 := ⟨_, rfl⟩
      obtain ⟨pre, hpre⟩ : ∃ pre : AV → List AV, pre = fun b => [.rsl id 0 (rest.length + 1) 5, .ptr h.nx 0, .ptr (h.nx + 1) 0, cmds l, I l.length, I i, b] := ⟨_, rfl⟩
      refine ⟨fun vs h1 => vs = pre (.bool (decide (c.kind < 1) || decide (6 < c.kind))) ∧ F h1, ?_, ?_⟩
      · subst hF; subst hpre
        by_cases q1 : c.kind < 1 <;> by_cases q2 : 6 < c.kind <;> simp (disch := first | (simp; done) | omega | (simp only [nx_add, nx_set, nx_kill, nx_mk, nx_emp]; omega) | fail) [g13_a1, q1, q2, hcs, hne, hne2]
      rintro vs h1 ⟨rfl, hf⟩
      simp (disch := first | (simp; done) | omega | (simp only [nx_add, nx_set, nx_kill, nx_mk, nx_emp]; omega) | fail) [hpre, g13_j8]
      refine ⟨fun hk => ?_, fun hk1 hk6 => ?_⟩
      · refine vM.err ?_
        unfold cmdErr
        rw [if_neg (by omega), if_neg (by omega), if_neg (by omega)]
      have hk : c.kind = 1 ∨ c.kind = 2 ∨ c.kind = 3 ∨ c.kind = 4 ∨ c.kind = 5 ∨ c.kind = 6 := by omega
      refine ⟨fun vs h2 => vs = pre (.bool (isRec c.kind && !okR c.r)) ∧ F h2, ?_, ?_⟩
      · subst hF; subst hpre
        cases q1 : isRec c.kind <;> cases q2 : okR c.r <;> simp (disch := first | (simp; done) | omega | (simp only [nx_add, nx_set, nx_kill, nx_mk, nx_emp]; omega) | fail) [g13_a2, g13_s1, q1, q2, hf]
      rintro vs h2 ⟨rfl, hf2⟩
      simp (disch := first | (simp; done) | omega | (simp only [nx_add, nx_set, nx_kill, nx_mk, nx_emp]; omega) | fail) [hpre, g13_j7]
      refine ⟨fun vs h2 => vs = pre (.bool ((isRec c.kind && !okR c.r) || ((c.kind == 4 || c.kind == 5) && !isCol c.color))) ∧ F h2, ?_, ?_⟩
      · subst hF; subst hpre
        cases q1 : (isRec c.kind && !okR c.r)
        · by_cases q2 : c.kind = 4
          · cases q4 : isCol c.color <;> simp (disch := first | (simp; done) | omega | (simp only [nx_add, nx_set, nx_kill, nx_mk, nx_emp]; omega) | fail) [g13_a3, g13_s2, q1, q2, q4, hf2]
          · by_cases q3 : c.kind = 5 <;> cases q4 : isCol c.color <;> simp (disch := first | (simp; done) | omega | (simp only [nx_add, nx_set, nx_kill, nx_mk, nx_emp]; omega) | fail) [g13_a3, g13_s2, q1, q2, q3, q4, hf2]
        · simp at q1
          simp (disch := first | (simp; done) | omega | (simp only [nx_add, nx_set, nx_kill, nx_mk, nx_emp]; omega) | fail) [g13_a3, q1, hf2]
      rintro vs h3 ⟨rfl, hf3⟩
      simp (disch := first | (simp; done) | omega | (simp only [nx_add, nx_set, nx_kill, nx_mk, nx_emp]; omega) | fail) [hpre, g13_j6]
      refine ⟨fun hbad => ?_, fun hgood hcol => ?_⟩
      · refine vM.err ?_
        unfold cmdErr
        rcases hk with hk | hk | hk | hk | hk | hk <;> simp [hk, isRec] at hbad ⊢ <;> grind
      refine ⟨fun vs h2 => vs = pre (.bool (c.kind == 5 && !nearL c.line)) ∧ F h2, ?_, ?_⟩
      · subst hF; subst hpre
        have hsm' : Sm c.line.gl := hsm
        by_cases q3 : c.kind = 5 <;> cases q4 : nearL c.line <;> simp (disch := first | (simp; done) | omega | (simp only [nx_add, nx_set, nx_kill, nx_mk, nx_emp]; omega) | fail) [g13_a4, g13_s3, q3, q4, hf3, hsm']
      rintro vs h4 ⟨rfl, hf4⟩
      have hf4' := hf4
      rw [hF] at hf4'
      obtain ⟨e1, e2, e3, e4⟩ := hf4'
      have hne4 : ¬ id = h4.nx := by omega
      have hne5 : ¬ id = h4.nx + 1 := by omega
      have hcut' : cut cs 0 ((rest.length + 1) * 5) = some (bot Tf.enc (top :: rest)) := by simpa using hcut
      have hcE : cmdErr (top :: rest) c = if c.kind = 3 then (if rest.length = 0 then .inl 12 else .inr rest) else if c.kind = 2 then (if cmbOk top c.t then .inr (cmb top c.t :: top :: rest) else .inl 1) else if c.kind = 5 ∧ nearL c.line = false then .inl 1 else if c.kind = 1 then .inr (top :: top :: rest) else .inr (top :: rest) := by
        unfold cmdErr
        rcases hk with hk | hk | hk | hk | hk | hk <;> simp [hk, isRec] at hgood hcol ⊢ <;> simp [hgood, hcol]
      simp (disch := first | (simp; done) | omega | (simp only [nx_add, nx_set, nx_kill, nx_mk, nx_emp]; omega) | fail) [hpre, g13_j5, e1, e2, e3, hne4, hcut']
      refine ⟨fun k5 hn => vM.err ?_, fun hgl => ⟨fun k1 => ?_, fun k1 => ⟨fun k2 => ?_, fun k2 => ?_⟩⟩⟩
      · rw [hcE]; simp [k5, hn]
      · exact vM.mk (top' := top) (rest' := top :: rest) (by rw [hcE]; simp [k1]) (Stk.push Tf.len (by simp)) (by simp; omega)
      · cases q : cmbOk top c.t
        · simp (disch := first | (simp; done) | omega | (simp only [nx_add, nx_set, nx_kill, nx_mk, nx_emp]; omega) | fail) [g13_s6, e1, cmbR, q]
          simp (disch := first | (simp; done) | omega | (simp only [nx_add, nx_set, nx_kill, nx_mk, nx_emp]; omega) | fail) [g13_s5, e1, cmbR, q]
          exact vM.err (by rw [hcE]; simp [k2, q])
        · simp (disch := first | (simp; done) | omega | (simp only [nx_add, nx_set, nx_kill, nx_mk, nx_emp]; omega) | fail) [g13_s6, e1, e2, e3, hne4, hne5, hcut', cmbR, q]
          simp (disch := first | (simp; done) | omega | (simp only [nx_add, nx_set, nx_kill, nx_mk, nx_emp]; omega) | fail) [g13_s5, e1, e2, e3, hne4, hne5, hcut', cmbR, q]
          simp (disch := first | (simp; done) | omega | (simp only [nx_add, nx_set, nx_kill, nx_mk, nx_emp]; omega) | fail) [g13_s4, e1, e2, e3, hne4, hne5, hcut', cmbR, q]
          refine vM.mk (top' := cmb top c.t) (rest' := top :: rest) (by rw [hcE]; simp [k2, q]) (Stk.push Tf.len ?_) ?_
          · simp
          · simp; omega
      · simp (disch := first | (simp; done) | omega | (simp only [nx_add, nx_set, nx_kill, nx_mk, nx_emp]; omega) | fail) [g13_s7]
        refine ⟨fun k3 => ?_, fun k3 => ?_⟩
        · refine ⟨fun hz => vM.err ?_, fun hz => ?_⟩
          · rw [hcE]; simp [k3]; exact List.length_eq_zero_iff.1 (by omega)
          · cases rest with
            | nil => simp at hz
            | cons t2 r2 =>
              simp (disch := first | (simp; done) | omega | (simp only [nx_add, nx_set, nx_kill, nx_mk, nx_emp]; omega) | fail) [kSl_hi]
              refine vM.mk (top' := t2) (rest' := r2) (by rw [hcE]; simp [k3]) ⟨by omega, cs, e3, hpop⟩ (by simp at hri; omega)
        · refine vM.mk (top' := top) (rest' := rest) ?_ ⟨by omega, cs, e3, hcut⟩ (by omega)
          rw [hcE]; simp [k1, k2, k3]; intro q5; simp [hgl q5]
    · rintro x vs h' hM
      rcases hM with ⟨rfl, id', top', rest', hE, rfl, hS, hr2⟩ | ⟨rfl, e, u, hE, rfl⟩
      · simp (disch := first | (simp; done) | omega | (simp only [nx_add, nx_set, nx_kill, nx_mk, nx_emp]; omega) | fail) [g13_j10]
        refine ⟨l.length - (i + 1), by omega, i + 1, id', top', rest', by omega, rfl, by simp, hS, ?_, hr2⟩
        rw [← hrun]; simp [vrun, hE]
      · simp (disch := first | (simp; done) | omega | (simp only [nx_add, nx_set, nx_kill, nx_mk, nx_emp]; omega) | fail) [g13_j10, g13_j13]
        rw [← hrun]; simp [vrun, hE]
  · have hil : i = l.length := by omega
    subst hil
    simp [vrun] at hrun
    simp (disch := first | (simp; done) | omega | (simp only [nx_add, nx_set, nx_kill, nx_mk, nx_emp]; omega) | fail) [g13_l11, hlt]
    simp (disch := first | (simp; done) | omega | (simp only [nx_add, nx_set, nx_kill, nx_mk, nx_emp]; omega) | fail) [g13_j13, hlt]
    simp (disch := first | (simp; done) | omega | (simp only [nx_add, nx_set, nx_kill, nx_mk, nx_emp]; omega) | fail) [g13_c12, hlt]
    rw [← hrun]
    refine ⟨fun q => ?_, fun q => ?_⟩
    · rw [if_pos (by omega)]
    · rw [if_neg (by omega)]
theorem validate_c (l : List Cmd) (hl : SmL l) : Pure Try.prog 13 [cmds l] (I (validate l)) := (validate_f l hl).pure (by simp [cmds_cl])
def e13 : QE Try.prog := .pure 13 (fun (l : List Cmd) => [cmds l]) (fun (l : List Cmd) => SmL l) (fun (l : List Cmd) => I (validate l)) (fun l hx => validate_c l hx)
@[simp ↓] theorem e13_h (l : List (QE Try.prog)) (args : List AV) (h : AH) (Q : AV → AH → Prop) : tb (e13 :: l) 13 args h Q = e13.q args h Q := tb_here e13 l 13 args h Q rfl
@[simp ↓] theorem e13_t (l : List (QE Try.prog)) (f : Nat) (args : List AV) (h : AH) (Q : AV → AH → Prop) (hf : 13 ≠ f) : tb (e13 :: l) f args h Q = tb l f args h Q := tb_there e13 l f args h Q hf
@[simp ↓] theorem e13_q (l : List Cmd) (h : AH) (Q : AV → AH → Prop) : e13.q [cmds l] h Q = ((SmL l) ∧ Q (I (validate l)) h) := (QE.pure_q (x := l) (by rintro _ h; simp at h; simp [h]) h Q)
end Go.Proofs.Ytpnekpbehcbmkaa
end
noncomputable section
namespace Go.Proofs.Ytpnekpbehcbmkaa
open Go.Eng
def rvM (l : List Cmd) (i : Nat) (st : List Tf) (c : Cmd) (x : AX) (vs : List AV) (h' : AH) : Prop := (x = .nrm ∧ ∃ id' top' rest', cmdErr st c = .inr (top' :: rest') ∧ vs = [cmds l, .undef, .rsl id' 0 (rest'.length + 1) 5, I i] ∧ Stk 5 Tf.enc id' h' (top' :: rest') ∧ rest'.length ≤ i + 1) ∨ (x = .ret ∧ ∃ e u, cmdErr st c = .inl e ∧ vs = [cmds l, I e, u, I i])
theorem rvM.mk {l : List Cmd} {i : Nat} {st : List Tf} {c : Cmd} {h' : AH} {id' : Nat} {top' : Tf} {rest' : List Tf} (h1 : cmdErr st c = .inr (top' :: rest')) (h2 : Stk 5 Tf.enc id' h' (top' :: rest')) (h3 : rest'.length ≤ i + 1) : rvM l i st c .nrm [cmds l, .undef, .rsl id' 0 (rest'.length + 1) 5, I i] h' := .inl ⟨rfl, _, _, _, h1, rfl, h2, h3⟩
def rvN (l : List Cmd) (i n : Nat) (st : List Tf) (c : Cmd) (x : AX) (vs : List AV) (h' : AH) : Prop :=
  (x = .exit 1 ∧ ∃ id' top' rest', cmdErr st c = .inr (top' :: rest') ∧ vs = [cmds l, .undef, .rsl id' 0 (rest'.length + 1) 5, I i, .ptr n 0] ∧ Stk 5 Tf.enc id' h' (top' :: rest') ∧ rest'.length ≤ i + 1) ∨
  (x = .ret ∧ ∃ e u, cmdErr st c = .inl e ∧ vs = [cmds l, I e, u, I i, .ptr n 0]) ∨
  (x = .nrm ∧ ∃ id' top' rest', isRec c.kind = true ∧ (if c.kind = 1 then st.headD zT :: st else st) = top' :: rest' ∧ vs = [cmds l, .undef, .rsl id' 0 (rest'.length + 1) 5, I i, .ptr n 0] ∧ Stk 5 Tf.enc id' h' (top' :: rest') ∧ rest'.length ≤ i + 1 ∧ h'.cellsAt n = some c.enc)
theorem rvN.mk {l : List Cmd} {i n : Nat} {st : List Tf} {c : Cmd} {h' : AH} {id' : Nat} {top' : Tf} {rest' : List Tf} (h1 : cmdErr st c = .inr (top' :: rest')) (h2 : Stk 5 Tf.enc id' h' (top' :: rest')) (h3 : rest'.length ≤ i + 1) : rvN l i n st c (.exit 1) [cmds l, .undef, .rsl id' 0 (rest'.length + 1) 5, I i, .ptr n 0] h' := .inl ⟨rfl, _, _, _, h1, rfl, h2, h3⟩
end Go.Proofs.Ytpnekpbehcbmkaa
end
noncomputable section
namespace Go.Proofs.Ytpnekpbehcbmkaa
open Go.Eng
structure Sn where
  p : Pt
  inn : Bool
def Sn.enc (s : Sn) : List AV := [I s.p.x, I s.p.y, .bool s.inn]
@[simp] theorem Sn.len (s : Sn) : s.enc.length = 3 := by cases s; rfl
@[simp] theorem Sn.ones (s : Sn) : ones s.enc = true := Eq.trans rfl rfl
@[simp high] theorem Sn.g1 (s : Sn) : s.enc[1]? = some (I s.p.y) := Eq.trans rfl rfl
@[simp high] theorem Sn.g2 (s : Sn) : s.enc[2]? = some (.bool s.inn) := Eq.trans rfl rfl
@[simp] theorem Sn.all (s : Sn) : cut s.enc 0 3 = some s.enc := Eq.trans rfl rfl
@[simp] theorem Sn.c0 (s : Sn) : cut s.enc 0 2 = some s.p.enc := Eq.trans rfl rfl
@[simp] theorem splice_pt (a b c : AV) (p : Pt) : splice [a, b, c] 0 p.enc = some [I p.x, I p.y, c] := Eq.trans rfl rfl
theorem Stk.push' {α : Type} {z : Nat} {e : α → List AV} (he : ∀ a, (e a).length = z) {h : AH} {st : List α} {a : α} {nid : Nat} {x : List AV} (hn : nid = h.nx) (hx : x = e a) : Stk z e nid (h.add (.cells (bot e st ++ x))) (a :: st) := by
  subst hx; exact Stk.push he hn
theorem step_ok {g : Tf} {gr : List Tf} {c : Cmd} {l : List Cmd} (h : vrun (g :: gr) (c :: l) = 0) : ∃ g' gr', vrun (g' :: gr') l = 0 ∧ ((c.kind = 3 ∧ gr = g' :: gr') ∨ ((c.kind = 1 ∨ c.kind = 2) ∧ gr' = g :: gr) ∨ ((c.kind = 4 ∨ c.kind = 5 ∨ c.kind = 6) ∧ g' :: gr' = g :: gr)) ∧ (c.kind = 5 → nearL c.line = true) ∧ (isRec c.kind = true → okR c.r = true) := by
  unfold vrun at h
  cases hE : cmdErr (g :: gr) c with
  | inl e =>
    rw [hE] at h
    simp at h; subst h
    unfold cmdErr at hE
    (repeat' (split at hE)) <;> simp at hE
  | inr st' =>
    rw [hE] at h
    simp at h
    unfold cmdErr at hE
    split at hE
    · rename_i k3
      split at hE
      · cases hE
      · rename_i hlen
        cases gr with
        | nil => simp at hlen
        | cons t2 r2 =>
          simp at hE; subst hE
          exact ⟨t2, r2, h, .inl ⟨k3, rfl⟩, by omega, by simp [isRec, k3]⟩
    split at hE
    · rename_i k3 k2
      split at hE
      · cases hE
        exact ⟨_, _, h, .inr (.inl ⟨.inr k2, rfl⟩), by omega, by simp [isRec, k2]⟩
      · cases hE
    split at hE
    · rename_i k3 k2 hk
      split at hE
      · cases hE
      rename_i hr
      split at hE
      · cases hE
      split at hE
      · cases hE
      rename_i hn
      have hr' : okR c.r = true := by simpa using hr
      have hn' : c.kind = 5 → nearL c.line = true := fun k5 => by simpa [k5] using hn
      split at hE
      · rename_i k1
        cases hE
        exact ⟨_, _, h, .inr (.inl ⟨.inl k1, rfl⟩), hn', fun _ => hr'⟩
      · rename_i k1
        cases hE
        exact ⟨_, _, h, .inr (.inr ⟨by omega, rfl⟩), hn', fun _ => hr'⟩
    · cases hE
def pst (st : List Sn) (c : Cmd) : List Sn :=
  match st with
  | [] => []
  | s :: rest => if c.kind = 1 then ⟨s.p, s.inn && inR c.r s.p⟩ :: s :: rest else if c.kind = 2 then ⟨bk c.t s.p, s.inn && okP (bk c.t s.p)⟩ :: s :: rest else if c.kind = 3 then rest else s :: rest
def pout (st : List Sn) (c : Cmd) (out : Int) : Int :=
  match st with
  | [] => out
  | s :: _ => if c.kind = 1 ∨ c.kind = 2 ∨ c.kind = 3 then out else if s.inn && cov c s.p then (if c.kind = 6 then 8421504 else c.color) else out
def prun : List Sn → Int → List Cmd → Int
  | _, out, [] => out
  | st, out, c :: l => prun (pst st c) (pout st c out) l
def pixel (l : List Cmd) (p : Pt) : Int := if validate l = 0 ∧ okP p = true then prun [⟨p, true⟩] (-1) l else -1
def okS (st : List Sn) : Prop := ∀ s ∈ st, s.inn = true → okP s.p = true
theorem okS_step {s : Sn} {rest : List Sn} (h : okS (s :: rest)) (c : Cmd) : okS (pst (s :: rest) c) := by
  unfold pst
  have h1 := h s (by simp)
  simp only
  split
  · intro x hx hi
    simp at hx
    rcases hx with rfl | rfl | hx
    · simp at hi; exact h1 hi.1
    · exact h1 hi
    · exact h x (by simp [hx]) hi
  split
  · intro x hx hi
    simp at hx
    rcases hx with rfl | rfl | hx
    · simp at hi; exact hi.2
    · exact h1 hi
    · exact h x (by simp [hx]) hi
  split
  · intro x hx hi; exact h x (by simp [hx]) hi
  · exact h
def pxI (l : List Cmd) (R : Int) (m : Nat) (vs : List AV) (h : AH) : Prop := ∃ (i id : Nat) (s : Sn) (rest : List Sn) (out : Int) (g : Tf) (gr : List Tf), i ≤ l.length ∧ m = l.length - i ∧ vs = [.rsl id 0 (rest.length + 1) 3, I out, cmds l, I l.length, I i] ∧ Stk 3 Sn.enc id h (s :: rest) ∧ vrun (g :: gr) (l.drop i) = 0 ∧ gr.length = rest.length ∧ okS (s :: rest) ∧ prun (s :: rest) out (l.drop i) = R ∧ rest.length ≤ i
def pM (l : List Cmd) (i : Nat) (st : List Sn) (c : Cmd) (out : Int) (vs : List AV) (h' : AH) : Prop := ∃ id' s' rest', pst st c = s' :: rest' ∧ vs = [.rsl id' 0 (rest'.length + 1) 3, I (pout st c out), cmds l, I l.length, I i] ∧ Stk 3 Sn.enc id' h' (s' :: rest')
theorem pM.mk {l : List Cmd} {i : Nat} {st : List Sn} {c : Cmd} {out out' : Int} {h' : AH} {id' : Nat} {s' : Sn} {rest' : List Sn} (h1 : pst st c = s' :: rest') (h2 : pout st c out = out') (h3 : Stk 3 Sn.enc id' h' (s' :: rest')) : pM l i st c out [.rsl id' 0 (rest'.length + 1) 3, I out', cmds l, I l.length, I i] h' := ⟨_, _, _, h1, by rw [h2], h3⟩
theorem pixel_f (l : List Cmd) (p : Pt) (hl : SmL l) : Fresh Try.prog 15 [cmds l, .agg p.enc] (I (pixel l p)) := by
  refine C15 (tb_ok [e13, e43, e44, e45, e46]) ?_
  have hl1 := hl.1
  unfold Sm at hl1
  simp (disch := first | (simp; done) | omega | (simp only [nx_add, nx_set, nx_kill, nx_mk, nx_emp]; omega) | fail) [g15]
  refine ⟨fun vs h => vs = [cmds l, .ptr 0 0, .bool (!(decide (validate l = 0) && okP p))] ∧ h.cellsAt 0 = some p.enc, ?_, ?_⟩
  · by_cases q1 : validate l = 0 <;> cases q2 : okP p <;> simp (disch := first | (simp; done) | omega | (simp only [nx_add, nx_set, nx_kill, nx_mk, nx_emp]; omega) | fail) [g15_a1, g15_s1, q1, q2, hl]
  rintro vs h ⟨rfl, h0⟩
  simp (disch := first | (simp; done) | omega | (simp only [nx_add, nx_set, nx_kill, nx_mk, nx_emp]; omega) | fail) [g15_j9, h0]
  refine ⟨fun hh => by unfold pixel; rw [if_neg (by rintro ⟨z1, z2⟩; simp [z1, z2] at hh)], fun hv hp => ?_⟩
  have hlen : l.length ≤ 20000 := by
    unfold validate at hv
    split at hv
    · cases hv
    · omega
  refine ⟨pxI l (pixel l p), l.length, ⟨0, h.nx, ⟨p, true⟩, [], -1, tf1, [], by omega, rfl, rfl, ⟨by simp, _, by simp; rfl, by simp [bot, Sn.enc, Pt.enc, cut]⟩, ?_, rfl, ?_, ?_, by simp⟩, ?_⟩
  · unfold validate at hv; rw [if_neg (by omega)] at hv; simpa using hv
  · intro x hx; simp at hx; subst hx; exact fun _ => hp
  · simp [pixel, hv, hp]
  rintro m vs h ⟨i, id, s, rest, out, g, gr, hi, rfl, rfl, ⟨hid, cs, hcs, hcut⟩, hrun, hgl, hok, hpr, hri⟩
  obtain ⟨htop, hpop⟩ := stk_top Sn.len hcut
  have hrl : rest.length ≤ 20000 := by omega
  by_cases hlt : i < l.length
  · have hd : l.drop i = l[i] :: l.drop (i + 1) := List.drop_eq_getElem_cons hlt
    rw [hd] at hrun hpr
    obtain ⟨c, hc⟩ : ∃ c, c = l[i] := ⟨_, rfl⟩
    have hsm : SmC c := by rw [hc]; exact hl.2 _ (List.getElem_mem hlt)
    have hsm' : Sm c.line.gl := hsm
    rw [← hc] at hrun hpr
    obtain ⟨g', gr', hrun', hcase, hnear, hrect⟩ := step_ok hrun
    simp (disch := first | (simp; done) | omega | (simp only [nx_add, nx_set, nx_kill, nx_mk, nx_emp]; omega) | fail) [g15_l6, hlt, ← hc]
    refine ⟨pM l i (s :: rest) c out, ?_, ?_⟩
    · have hne : ¬ id = h.nx := by omega
      have hne2 : ¬ id = h.nx + 1 := by omega
      have hne3 : ¬ id = h.nx + 1 + 1 := by omega
      have hcut' : cut cs 0 ((rest.length + 1) * 3) = some (bot Sn.enc (s :: rest)) := by simpa using hcut
      simp (disch := first | (simp; done) | omega | (simp only [nx_add, nx_set, nx_kill, nx_mk, nx_emp]; omega) | fail) [g15_a4, hlt, ← hc, hcs, htop, hne, hne2, kIdxA_rsl]
      simp (disch := first | (simp; done) | omega | (simp only [nx_add, nx_set, nx_kill, nx_mk, nx_emp]; omega) | fail) [g15_s7, hlt, ← hc, hcs, htop, hne, hne2, kIdxA_rsl]
      have hne16 : ¬ id = h.nx + 1 + 1 + 13 := by omega
      have hne12 : ¬ id = h.nx + 1 + 1 + 1 + 9 := by omega
      refine ⟨fun k1 => ?_, fun k1 => ?_⟩
      · have hst : pst (s :: rest) c = ⟨s.p, s.inn && inR c.r s.p⟩ :: s :: rest := by simp [pst, k1]
        have ho : pout (s :: rest) c out = out := by simp [pout, k1]
        cases hin : s.inn
        · simp (disch := first | (simp; done) | omega | (simp only [nx_add, nx_set, nx_kill, nx_mk, nx_emp]; omega) | fail) [g15_s3, hcs, hne, hne2, hne16, hcut', hin]
          simp (disch := first | (simp; done) | omega | (simp only [nx_add, nx_set, nx_kill, nx_mk, nx_emp]; omega) | fail) [g15_s2, hcs, hne, hne2, hne16, hcut', hin]
          rw [hin] at hst
          refine pM.mk hst ho (Stk.push' Sn.len ?_ rfl)
          simp
        · simp (disch := first | (simp; done) | omega | (simp only [nx_add, nx_set, nx_kill, nx_mk, nx_emp]; omega) | fail) [g15_s3, hcs, hne, hne2, hne16, hcut', hin]
          simp (disch := first | (simp; done) | omega | (simp only [nx_add, nx_set, nx_kill, nx_mk, nx_emp]; omega) | fail) [g15_s2, hcs, hne, hne2, hne16, hcut', hin]
          rw [hin] at hst
          refine pM.mk hst ho (Stk.push' Sn.len ?_ rfl)
          simp
      · simp (disch := first | (simp; done) | omega | (simp only [nx_add, nx_set, nx_kill, nx_mk, nx_emp]; omega) | fail) [g15_s6]
        refine ⟨fun k2 => ?_, fun k2 => ⟨fun k3 => ?_, fun k3 => ?_⟩⟩
        · have hst : pst (s :: rest) c = ⟨bk c.t s.p, s.inn && okP (bk c.t s.p)⟩ :: s :: rest := by simp [pst, k2]
          have ho : pout (s :: rest) c out = out := by simp [pout, k2]
          cases hin : s.inn
          · simp (disch := first | (simp; done) | omega | (simp only [nx_add, nx_set, nx_kill, nx_mk, nx_emp]; omega) | fail) [g15_s5, hcs, hne, hne2, hne3, hne12, hcut', hin]
            simp (disch := first | (simp; done) | omega | (simp only [nx_add, nx_set, nx_kill, nx_mk, nx_emp]; omega) | fail) [g15_s4, hcs, hne, hne2, hne3, hne12, hcut', hin]
            rw [hin] at hst
            refine pM.mk hst ho (Stk.push' Sn.len ?_ rfl)
            simp
          · simp (disch := first | (simp; done) | omega | (simp only [nx_add, nx_set, nx_kill, nx_mk, nx_emp]; omega) | fail) [g15_s5, hcs, hne, hne2, hne3, hne12, hcut', hin]
            simp (disch := first | (simp; done) | omega | (simp only [nx_add, nx_set, nx_kill, nx_mk, nx_emp]; omega) | fail) [g15_s4, hcs, hne, hne2, hne3, hne12, hcut', hin]
            rw [hin] at hst
            refine pM.mk hst ho (Stk.push' Sn.len ?_ rfl)
            simp
        · have hst : pst (s :: rest) c = rest := by simp [pst, k3]
          have ho : pout (s :: rest) c out = out := by simp [pout, k3]
          have hr0 : rest ≠ [] := by
            rintro rfl
            rcases hcase with ⟨_, e⟩ | ⟨k, _⟩ | ⟨k, _⟩
            · subst e; simp at hgl
            · omega
            · omega
          cases rest with
          | nil => exact absurd rfl hr0
          | cons s2 r2 =>
            simp (disch := first | (simp; done) | omega | (simp only [nx_add, nx_set, nx_kill, nx_mk, nx_emp]; omega) | fail) [kSl_hi]
            exact pM.mk hst ho ⟨by simp; omega, cs, by simp [hcs, hne, hne2], hpop⟩
        · have hst : pst (s :: rest) c = s :: rest := by simp [pst, k1, k2, k3]
          have ho : pout (s :: rest) c out = if s.inn && cov c s.p then (if c.kind = 6 then 8421504 else c.color) else out := by simp [pout, k1, k2, k3]
          have hk : c.kind = 4 ∨ c.kind = 5 ∨ c.kind = 6 := by
            rcases hcase with ⟨k, _⟩ | ⟨k, _⟩ | ⟨k, _⟩
            · exact absurd k k3
            · omega
            · exact k
          refine ⟨fun vs h1 => vs = [.rsl id 0 (rest.length + 1) 3, I out, .ptr h.nx 0, cmds l, I l.length, I i, .bool (s.inn && cov c s.p)] ∧ h1.cellsAt h.nx = some c.enc ∧ h1.cellsAt id = some cs ∧ h1.nx = h.nx + 2, ?_, ?_⟩
          · cases hin : s.inn
            · simp (disch := first | (simp; done) | omega | (simp only [nx_add, nx_set, nx_kill, nx_mk, nx_emp]; omega) | fail) [g15_a2, hin, hcs, hne, hne2]
            · have hcp : CP c s.p := ⟨hok s (by simp) hin, hsm', hnear, hk⟩
              simp (disch := first | (simp; done) | omega | (simp only [nx_add, nx_set, nx_kill, nx_mk, nx_emp]; omega) | fail) [g15_a2, hin, hcs, hne, hne2, hcp]
          · rintro vs h1 ⟨rfl, e1, e2, e3⟩
            simp (disch := first | (simp; done) | omega | (simp only [nx_add, nx_set, nx_kill, nx_mk, nx_emp]; omega) | fail) [g15_j3, e1]
            have hS : Stk 3 Sn.enc id h1 (s :: rest) := ⟨by omega, cs, e2, hcut⟩
            cases q : (s.inn && cov c s.p)
            · rw [q] at ho
              simp at q ⊢
              refine ⟨fun z1 z2 => by simp [q z1] at z2, fun _ => pM.mk hst (by simpa using ho) hS⟩
            · rw [q] at ho
              simp at q ⊢
              refine ⟨fun _ _ => ⟨fun k6 => pM.mk hst (by simpa [k6] using ho) hS, fun k6 => pM.mk hst (by simpa [k6] using ho) hS⟩, fun z => by simp [z q.1] at q⟩
    · rintro vs h' ⟨id', s', rest', hst, rfl, hS⟩
      simp (disch := first | (simp; done) | omega | (simp only [nx_add, nx_set, nx_kill, nx_mk, nx_emp]; omega) | fail) [g15_j5]
      refine ⟨l.length - (i + 1), by omega, i + 1, id', s', rest', pout (s :: rest) c out, g', gr', by omega, rfl, by simp, hS, hrun', ?_, ?_, ?_, ?_⟩
      · have := congrArg List.length hst
        unfold pst at this
        rcases hcase with ⟨k, e⟩ | ⟨k, e⟩ | ⟨k, e⟩ <;> have := congrArg List.length e <;> simp at this
        all_goals grind
      · rw [← hst]; exact okS_step hok c
      · rw [← hst]; rw [← hpr]; simp [prun]
      · have := congrArg List.length hst
        unfold pst at this
        grind
  · have hil : i = l.length := by omega
    subst hil
    simp [prun] at hpr
    simp (disch := first | (simp; done) | omega | (simp only [nx_add, nx_set, nx_kill, nx_mk, nx_emp]; omega) | fail) [g15_l6, hlt]
    simp (disch := first | (simp; done) | omega | (simp only [nx_add, nx_set, nx_kill, nx_mk, nx_emp]; omega) | fail) [g15_j8, hlt]
    simp (disch := first | (simp; done) | omega | (simp only [nx_add, nx_set, nx_kill, nx_mk, nx_emp]; omega) | fail) [g15_c7, hlt]
    exact hpr
end Go.Proofs.Ytpnekpbehcbmkaa
end
noncomputable section
namespace Go.Proofs.Ytpnekpbehcbmkaa
open Go.Eng
def rpM (l : List Cmd) (i : Nat) (st : List Sn) (c : Cmd) (out : Int) (vs : List AV) (h' : AH) : Prop := ∃ id' s' rest', pst st c = s' :: rest' ∧ vs = [cmds l, I (pout st c out), .rsl id' 0 (rest'.length + 1) 3, I i] ∧ Stk 3 Sn.enc id' h' (s' :: rest')
theorem rpM.mk {l : List Cmd} {i : Nat} {st : List Sn} {c : Cmd} {out out' : Int} {h' : AH} {id' : Nat} {s' : Sn} {rest' : List Sn} (h1 : pst st c = s' :: rest') (h2 : pout st c out = out') (h3 : Stk 3 Sn.enc id' h' (s' :: rest')) : rpM l i st c out [cmds l, I out', .rsl id' 0 (rest'.length + 1) 3, I i] h' := ⟨_, _, _, h1, by rw [h2], h3⟩
end Go.Proofs.Ytpnekpbehcbmkaa
end
noncomputable section
namespace Go.Proofs.Ytpnekpbehcbmkaa
open Go.Eng
def SmX {α : Type} (l : List α) : Prop := l.length ≤ 9223372036854775807
end Go.Proofs.Ytpnekpbehcbmkaa
end
noncomputable section
namespace Go.Proofs.Ytpnekpbehcbmkaa
open Go.Eng Go.RowKit
theorem nil31 (a : Option Addr) (cap : Nat) (w : World) : (binOp .eql 31 (.slice a 0 cap) (.slice none 0 0)).run Try.prog w = .ok (.bool a.isNone) w := by
  have h : ∀ n, (Op.equalIn (n + 1) 31 (.slice a 0 cap) (.slice none 0 0)).run Try.prog w = .ok a.isNone w := fun n => by
    cases a <;> simp [Op.equalIn, run_underlying Try.underlying31]
  have h : (Op.equal 31 (.slice a 0 cap) (.slice none 0 0)).run Try.prog w = .ok a.isNone w := h 9999
  simp only [binOp]
  simp [h]
set_option maxRecDepth 100000 in
theorem clone0 (a : Option Addr) (cap : Nat) (w : World) : Calls Try.prog 86 #[.slice a 0 cap] w fun e w' => (∃ a', e = .returned (.slice a' 0 0)) ∧ Quiet w.heap.size w w' := by
  cases a with
  | none =>
    go_enter Try.func86, Try.ntmps86
    go_wp2
    rename_i hK
    rw [nil31]
    refine hK _ _ ?_
    go_wp2
    go_ret
    exact ⟨⟨_, rfl⟩, .refl _ _⟩
  | some a =>
    go_enter Try.func86, Try.ntmps86
    go_wp2
    rename_i hK
    rw [nil31]
    refine hK _ _ ?_
    go_wp2
    go_ret
    exact ⟨⟨_, rfl⟩, .alloc _ (Nat.le_refl _)⟩
theorem clone0_d (h : AH) : CallD Try.prog 86 [.psl []] h (.psl []) h := by
  refine ⟨⟨_, Try.func86, rfl, by decide⟩, fun own β w cargs hs hR => ?_⟩
  obtain ⟨v, hc⟩ : ∃ v, cargs = #[v] := by
    have : cargs.toList.length = 1 := by simpa using hR.1.symm
    obtain ⟨v, hv⟩ := List.length_eq_one_iff.1 this
    exact ⟨v, by apply Array.ext'; simpa using hv⟩
  subst hc
  have hv := hR.2 0 (.psl []) v (by simp) (by simp)
  have key : ∀ a cap, Calls Try.prog 86 #[.slice a 0 cap] w fun e w' => ∃ cv v h' β', e = .returned cv ∧ (v = .psl [] ∧ h' = h) ∧ SimH own β' h'.H h'.nx w' ∧ VR w'.heap (LL own β' h'.H) β' v cv ∧ Trans own β h w β' h' w' := fun a cap => by
    refine (clone0 a cap w).mono ?_
    rintro e w' ⟨⟨a', rfl⟩, hq⟩
    exact ⟨_, _, h, β, rfl, ⟨rfl, rfl⟩, hs.quiet hq, .psl0 _ _, (Trans.refl own β h w).quiet hq⟩
  generalize hx : AV.psl [] = x at hv
  cases hv <;> cases hx
  · exact key _ _
  · exact key _ _
end Go.Proofs.Ytpnekpbehcbmkaa
end
