/- What the copies of commands and the tests on them answer. -/
import Derived.Test.YtpnekpbehcbmkaaD7O
import Derived.WalkKit
import Derived.ProofKit
set_option linter.unusedSimpArgs false
set_option linter.unusedVariables false
set_option linter.unnecessarySimpa false
namespace Go.Proofs.Ytpnekpbehcbmkaa
open Go.Eng Go.RowKit
theorem nil31 (a : Option Addr) (cap : Nat) (w : World) : (binOp .eql 31 (.slice a 0 cap) (.slice none 0 0)).run Try.prog w = .ok (.bool a.isNone) w := by
  have h : ∀ n, (Op.equalIn (n + 1) 31 (.slice a 0 cap) (.slice none 0 0)).run Try.prog w = .ok a.isNone w := fun n => by
    cases a <;> simp [Op.equalIn, run_underlying Try.underlying31]
  have h : (Op.equal 31 (.slice a 0 cap) (.slice none 0 0)).run Try.prog w = .ok a.isNone w := h 9999
  simp only [binOp]
  simp [h]
set_option maxRecDepth 100000 in
theorem clone0 (a : Option Addr) (cap : Nat) (w : World) : Calls Try.prog 86 #[.slice a 0 cap] w fun e w' => (∃ a', e = .returned (.slice a' 0 0)) ∧ Quiet w.heap.size w w' := by
  cases a with
  | none =>
    go_enter Try.func86, Try.ntmps86
    go_wp2
    rename_i hK
    rw [nil31]
    refine hK _ _ ?_
    go_wp2
    go_ret
    exact ⟨⟨_, rfl⟩, .refl _ _⟩
  | some a =>
    go_enter Try.func86, Try.ntmps86
    go_wp2
    rename_i hK
    rw [nil31]
    refine hK _ _ ?_
    go_wp2
    go_ret
    exact ⟨⟨_, rfl⟩, .alloc _ (Nat.le_refl _)⟩
theorem clone0_d (h : AH) : CallD Try.prog 86 [.psl []] h (.psl []) h := by
  refine ⟨⟨_, Try.func86, rfl, by decide⟩, fun own β w cargs hs hR => ?_⟩
  obtain ⟨v, hc⟩ : ∃ v, cargs = #[v] := by
    have : cargs.toList.length = 1 := by simpa using hR.1.symm
    obtain ⟨v, hv⟩ := List.length_eq_one_iff.1 this
    exact ⟨v, by apply Array.ext'; simpa using hv⟩
  subst hc
  have hv := hR.2 0 (.psl []) v (by simp) (by simp)
  have key : ∀ a cap, Calls Try.prog 86 #[.slice a 0 cap] w fun e w' => ∃ cv v h' β', e = .returned cv ∧ (v = .psl [] ∧ h' = h) ∧ SimH own β' h'.H h'.nx w' ∧ VR w'.heap (LL own β' h'.H) β' v cv ∧ Trans own β h w β' h' w' := fun a cap => by
    refine (clone0 a cap w).mono ?_
    rintro e w' ⟨⟨a', rfl⟩, hq⟩
    exact ⟨_, _, h, β, rfl, ⟨rfl, rfl⟩, hs.quiet hq, .psl0 _ _, (Trans.refl own β h w).quiet hq⟩
  generalize hx : AV.psl [] = x at hv
  cases hv <;> cases hx
  · exact key _ _
  · exact key _ _
end Go.Proofs.Ytpnekpbehcbmkaa
noncomputable section
namespace Go.Proofs.Ytpnekpbehcbmkaa
open Go.Eng
@[simp] theorem kEqn_p1 (h : AH) (neg : Bool) (a b : Nat) : kEqn h .ptr neg (.ptr a b) .nilptr = some (.bool (if neg then true else false), h) := by cases neg <;> rfl
@[simp] theorem kEqn_p2 (h : AH) (neg : Bool) : kEqn h .ptr neg .nilptr .nilptr = some (.bool (if neg then false else true), h) := by cases neg <;> rfl
@[simp] theorem kEqn_s1 (h : AH) (x : List AV) (xs : List (List AV)) : kEqn h .sl false (.psl (x :: xs)) .nilsl = some (.bool false, h) := Eq.trans rfl rfl
theorem flat_get {α : Type} {e : α → List AV} {z : Nat} (he : ∀ a, (e a).length = z) : ∀ (l : List α) (i j : Nat) (a : α), l[i]? = some a → j < z → ((l.map e).flatten)[i * z + j]? = (e a)[j]?
  | [], i, j, a, h, _ => by simp at h
  | x :: l, 0, j, a, h, hj => by
    simp at h; subst h
    simp only [List.map_cons, List.flatten_cons, Nat.zero_mul, Nat.zero_add]
    rw [List.getElem?_append_left (by rw [he]; exact hj)]
  | x :: l, i + 1, j, a, h, hj => by
    simp at h
    simp only [List.map_cons, List.flatten_cons]
    rw [List.getElem?_append_right (by rw [he, Nat.succ_mul]; omega), he]
    rw [show (i + 1) * z + j - z = i * z + j by rw [Nat.succ_mul]; omega]
    exact flat_get he l i j a h hj
theorem frz_rows {α : Type} {e : α → List AV} {z : Nat} (he : ∀ a, (e a).length = z) {h : AH} {n : Bool} {l : List α} {id : Nat} (hc : h.cellsAt id = some ((l.map e).flatten)) (hp : ∀ a ∈ l, ∀ c ∈ e a, Frz h n c c) : Frz h n (.rsl id 0 l.length z) (.psl (l.map e)) := by
  have := Frz.rsl (h := h) (n := n) id 0 z _ (l.map e) hc (by rw [flat_len he]; simp) (fun i y hy => by simp at hy; obtain ⟨a, _, rfl⟩ := hy; exact he a) (fun i y j c d h1 h2 h3 => ?_)
  · simpa using this
  · simp only [List.getElem?_map, Option.map_eq_some_iff] at h1
    obtain ⟨a, ha, rfl⟩ := h1
    have hj : j < z := by rw [← he a]; exact (List.getElem?_eq_some_iff.1 h2).1
    rw [Nat.zero_add, flat_get he l i j a ha hj] at h3
    rw [h3] at h2; cases h2
    exact hp a (List.mem_of_getElem? ha) c (List.mem_of_getElem? h3)
theorem ones_flat {α : Type} {e : α → List AV} (ho : ∀ a, ones (e a) = true) : ∀ (l : List α), ones ((l.map e).flatten) = true
  | [] => rfl
  | a :: l => by
    have h1 := ho a
    have h2 := ones_flat ho l
    unfold ones at h1 h2 ⊢
    rw [List.map_cons, List.flatten_cons, List.all_append, h1, h2]; rfl
def Lite (l : List Cmd) : Prop := l.length ≤ 100000 ∧ ∀ c ∈ l, c.line.gl.length ≤ 1000
theorem Lite.sm {l : List Cmd} (h : Lite l) : SmL l := ⟨by unfold Sm; have := h.1; omega, fun c hc => by have := h.2 c hc; unfold SmC Sm; omega⟩
theorem gls_plain (h : AH) (n : Bool) (g : Gl) : ∀ c ∈ g.enc, Frz h n c c := by
  intro c hc
  simp [Gl.enc] at hc
  rcases hc with rfl | rfl | rfl | rfl | rfl | rfl | rfl | rfl <;> exact .int _ _
theorem kApp_gls (h : AH) (id : Nat) (l : List Gl) (hid : h.cellsAt id = some []) (hl : l.length ≤ 1000) : kApp h 8 64 (.rsl id 0 0 8) (gls l) = some (.rsl h.nx 0 l.length 8, (h.kill id).add (.cells (l.map Gl.enc).flatten)) := by
  have h1 : (l.map Gl.enc).all (fun x => x.length == 8) = true := by simp
  have h2 := ones_flat Gl.ones l
  have h3 : roomy (0 + l.length) 64 = true := roomy_ok _ _ (by omega) (by omega)
  simp only [kApp, aapp, acells, alen, gls, h1, if_true, h2, Bool.not_true, Bool.false_eq_true, if_false, hid, List.length_map, h3, Bool.and_true, decide_true]
  simp [cut]
theorem clone_c (l : List Gl) (hl : l.length ≤ 1000) : Pure Try.prog 86 [gls l] (gls l) := by
  cases l with
  | nil => exact fun h => clone0_d h
  | cons g t =>
    refine .of (by simp [gls_cl]) (C86 (tb_ok []) ?_)
    have hk : kEqn emp .sl false (gls (g :: t)) .nilsl = some (.bool false, emp) := kEqn_s1 _ _ _
    have ha := kApp_gls (emp.add (.cells [])) 0 (g :: t) (by simp) hl
    simp (disch := first | (simp; done) | omega | (simp only [nx_add, nx_set, nx_kill, nx_mk, nx_emp]; omega) | fail) [g86, hk, ha]
    simp only [gls]
    exact frz_rows Gl.len (l := g :: t) (by simp) (fun a _ => gls_plain _ _ a)
def e86 : QE Try.prog := .pure 86 (fun (l : List Gl) => [gls l]) (fun (l : List Gl) => l.length ≤ 1000) (fun (l : List Gl) => gls l) (fun l hx => clone_c l hx)
@[simp ↓] theorem e86_h (l : List (QE Try.prog)) (args : List AV) (h : AH) (Q : AV → AH → Prop) : tb (e86 :: l) 86 args h Q = e86.q args h Q := tb_here e86 l 86 args h Q rfl
@[simp ↓] theorem e86_t (l : List (QE Try.prog)) (f : Nat) (args : List AV) (h : AH) (Q : AV → AH → Prop) (hf : 86 ≠ f) : tb (e86 :: l) f args h Q = tb l f args h Q := tb_there e86 l f args h Q hf
@[simp ↓] theorem e86_q (l : List Gl) (h : AH) (Q : AV → AH → Prop) : e86.q [gls l] h Q = ((l.length ≤ 1000) ∧ Q (gls l) h) := (QE.pure_q (x := l) (by rintro _ h; simp at h; simp [h]) h Q)
@[simp] theorem stow_gls (l : List Gl) : stow (gls l) = true := by unfold gls; exact stow_psl _
@[simp] theorem cells_gls (l : List Gl) : (gls l).cells = [gls l] := Eq.trans rfl rfl
@[simp] theorem one_gls (l : List Gl) : (gls l).one = true := Eq.trans rfl rfl
@[simp] theorem ones_gls (l : List Gl) : ones [gls l] = true := Eq.trans rfl rfl
@[simp] theorem Ln.spl (l : Ln) : splice l.enc 9 [gls l.gl] = some l.enc := by cases l; exact Eq.trans rfl rfl
theorem lpl (l : Ln) : ∀ x ∈ l.enc, Plain x := by simp [Ln.enc, Plain.int, gls_pl]
theorem copied_c (l : Ln) (hl : l.gl.length ≤ 1000) : Pure Try.prog 79 [.agg l.enc] (.agg l.enc) := by
  refine .of (by simp [Ln.cl]) (C79 (tb_ok [e86]) ?_)
  simp (disch := first | (simp; done) | omega | (simp only [nx_add, nx_set, nx_kill, nx_mk, nx_emp]; omega) | fail) [g79, hl]
  simp (disch := first | (simp; done) | omega | (simp only [nx_add, nx_set, nx_kill, nx_mk, nx_emp]; omega) | fail) [g79_s1]
  rw [FrzL_iff]
  exact ⟨rfl, fun i c d h1 h2 => by rw [h1] at h2; cases h2; exact lpl l c (List.mem_of_getElem? h1) _⟩
def e79 : QE Try.prog := .pure 79 (fun (l : Ln) => [.agg l.enc]) (fun (l : Ln) => l.gl.length ≤ 1000) (fun (l : Ln) => .agg l.enc) (fun l hx => copied_c l hx)
@[simp ↓] theorem e79_h (l : List (QE Try.prog)) (args : List AV) (h : AH) (Q : AV → AH → Prop) : tb (e79 :: l) 79 args h Q = e79.q args h Q := tb_here e79 l 79 args h Q rfl
@[simp ↓] theorem e79_t (l : List (QE Try.prog)) (f : Nat) (args : List AV) (h : AH) (Q : AV → AH → Prop) (hf : 79 ≠ f) : tb (e79 :: l) f args h Q = tb l f args h Q := tb_there e79 l f args h Q hf
@[simp ↓] theorem e79_q (l : Ln) (h : AH) (Q : AV → AH → Prop) : e79.q [.agg l.enc] h Q = ((l.gl.length ≤ 1000) ∧ Q (.agg l.enc) h) := (QE.pure_q (x := l) (by rintro _ h; simp at h; simp [h]) h Q)
def strct (c : Cmd) : Bool := c.kind == 1 || c.kind == 2 || c.kind == 3
theorem structural_c (c : Cmd) : Pure Try.prog 52 [.agg c.enc] (.bool (strct c)) := by
  refine .of (by simp [Cmd.cl]) (C52 (tb_ok []) ?_)
  by_cases q1 : c.kind = 1 <;> by_cases q2 : c.kind = 2 <;> by_cases q3 : c.kind = 3 <;> simp (disch := first | (simp; done) | omega | (simp only [nx_add, nx_set, nx_kill, nx_mk, nx_emp]; omega) | fail) [g52, q1, q2, q3] <;> simp (disch := first | (simp; done) | omega | (simp only [nx_add, nx_set, nx_kill, nx_mk, nx_emp]; omega) | fail) [g52_s1, strct, q1, q2, q3] <;> omega
theorem indexFuncC_c (l : List Cmd) (fn : Nat) (cap : List AV) (p : Cmd → Bool) (hcap : ∀ c ∈ cap, Closed c) (hp : ∀ g ∈ l, Pure Try.prog fn (.agg g.enc :: cap) (.bool (p g))) (hl : Sm l) : Pure Try.prog 74 [cmds l, .func (.func fn) [] cap] (I (idx p l)) := by
  refine .of (by simp [cmds_cl]; exact .func (by simp) hcap) (C74 (tb_ok [eH fn l Cmd.enc cap p hp]) ?_)
  unfold Sm at hl
  simp [g74]
  refine ⟨fun m vs h => ∃ i : Nat, i ≤ l.length ∧ m = l.length - i ∧ vs = [cmds l, .func (.func fn) [] cap, I l.length, I i] ∧ (∀ j (hj : j < i) (hj2 : j < l.length), p l[j] = false) ∧ h = emp, l.length, ⟨0, by simp⟩, ?_⟩
  rintro m vs h ⟨i, hi, rfl, rfl, hn, rfl⟩
  by_cases hlt : i < l.length
  · simp (disch := first | omega | (simp; done) | fail) [g74_l1, hlt]
    refine eH_h hlt ?_
    simp (disch := first | omega | (simp; done) | fail) [g74_j3]
    refine ⟨fun h1 => (idx_some hlt h1 (fun j hj => hn j hj (by omega))).symm, fun h1 => ⟨l.length - (i + 1), by omega, i + 1, by omega, rfl, by simp, fun j hj hj2 => ?_⟩⟩
    by_cases hj3 : j < i
    · exact hn j hj3 hj2
    · obtain rfl : j = i := by omega
      exact h1
  · have : i = l.length := by omega
    subst this
    simp [g74_l1, g74_j3, g74_c2]
    exact (idx_none fun j hj => hn j hj hj).symm
theorem anyStruct_c (l : List Cmd) (hl : Sm l) : Pure Try.prog 53 [cmds l, .func (.func 52) [] []] (.bool (l.any strct)) := by
  refine .of (by simp [cmds_cl]; exact .func (by simp) (by simp)) (C53 (tb_ok [.pure 74 (fun _ : Unit => [cmds l, .func (.func 52) [] []]) (fun _ => True) (fun _ => I (idx strct l)) (fun _ _ => indexFuncC_c l 52 [] strct (by simp) (fun g _ => structural_c g) hl)]) ?_)
  simp [g53]
  rw [tb_here (QE.pure 74 _ _ _ _) [] 74 _ _ _ rfl]
  refine ⟨(), rfl, trivial, ?_⟩
  simp [idx_nonneg]
def e53 : QE Try.prog := .pure 53 (fun (l : List Cmd) => [cmds l, .func (.func 52) [] []]) (fun (l : List Cmd) => Sm l) (fun (l : List Cmd) => .bool (l.any strct)) (fun l hx => anyStruct_c l hx)
@[simp ↓] theorem e53_h (l : List (QE Try.prog)) (args : List AV) (h : AH) (Q : AV → AH → Prop) : tb (e53 :: l) 53 args h Q = e53.q args h Q := tb_here e53 l 53 args h Q rfl
@[simp ↓] theorem e53_t (l : List (QE Try.prog)) (f : Nat) (args : List AV) (h : AH) (Q : AV → AH → Prop) (hf : 53 ≠ f) : tb (e53 :: l) f args h Q = tb l f args h Q := tb_there e53 l f args h Q hf
@[simp ↓] theorem e53_q (l : List Cmd) (h : AH) (Q : AV → AH → Prop) : e53.q [cmds l, .func (.func 52) [] []] h Q = ((Sm l) ∧ Q (.bool (l.any strct)) h) := (QE.pure_q (x := l) (by rintro _ h; simp at h; simp [h]) h Q)
def rects (l : List Rect) : AV := .psl (l.map Rect.enc)
def evr : List Rect := [⟨-1048576, -1048576, 1048576, 1048576⟩, ⟨0, -1048576, 1048576, 1048576⟩, ⟨-1048576, 0, 1048576, 1048576⟩, ⟨0, 0, 1048576, 1048576⟩]
theorem everything_f : Fresh Try.prog 51 [] (rects evr) := by
  refine C51 (tb_ok []) ?_
  simp (disch := first | (simp; done) | omega | (simp only [nx_add, nx_set, nx_kill, nx_mk, nx_emp]; omega) | fail) [g51]
  simp [splice]
  exact frz_rows Rect.len (l := evr) (by simp; rfl) (fun a _ c hc => by simp [Rect.enc] at hc; rcases hc with rfl | rfl | rfl | rfl <;> exact .int _ _)
theorem everything_c : Pure Try.prog 51 [] (rects evr) := everything_f.pure (by simp)
def fillC (x y w h c : Int) : Cmd := ⟨4, ⟨x, y, w, h⟩, ⟨0, false, 0, 0, 0⟩, c, [], ⟨0, 0, 0, 0, 0, 0, 0, 0, 0, []⟩⟩
theorem fill_c (x y w h c : Int) : Pure Try.prog 26 [I x, I y, I w, I h, I c] (.agg (fillC x y w h c).enc) := by
  refine .of (by simp [cI]) (C26 (tb_ok []) ?_)
  simp (disch := first | (simp; done) | omega | (simp only [nx_add, nx_set, nx_kill, nx_mk, nx_emp]; omega) | fail) [g26]
  simp [splice, fillC, Cmd.enc, gls]
  exact .nilsl
def e26 : QE Try.prog := .pure 26 (fun (((x, y, w, e, c)) : Int × Int × Int × Int × Int) => [I x, I y, I w, I e, I c]) (fun (((x, y, w, e, c)) : Int × Int × Int × Int × Int) => True) (fun (((x, y, w, e, c)) : Int × Int × Int × Int × Int) => .agg (fillC x y w e c).enc) (fun ⟨x, y, w, e, c⟩ _ => fill_c x y w e c)
@[simp ↓] theorem e26_h (l : List (QE Try.prog)) (args : List AV) (h : AH) (Q : AV → AH → Prop) : tb (e26 :: l) 26 args h Q = e26.q args h Q := tb_here e26 l 26 args h Q rfl
@[simp ↓] theorem e26_t (l : List (QE Try.prog)) (f : Nat) (args : List AV) (h : AH) (Q : AV → AH → Prop) (hf : 26 ≠ f) : tb (e26 :: l) f args h Q = tb l f args h Q := tb_there e26 l f args h Q hf
@[simp ↓] theorem e26_q (x : Int) (y : Int) (w : Int) (e : Int) (c : Int) (h : AH) (Q : AV → AH → Prop) : e26.q [I x, I y, I w, I e, I c] h Q = Q (.agg (fillC x y w e c).enc) h := (QE.pure_q (x := (x, y, w, e, c)) (by rintro ⟨_, _, _, _, _⟩ h; simp at h; simp [h]) h Q).trans (by simp)
def emptyR (r : Rect) : Bool := decide ((vld r).w = 0) || decide ((vld r).h = 0)
theorem empty_c (r : Rect) : Pure Try.prog 77 [.agg r.enc] (.bool (emptyR r)) := by
  refine .of (by simp [Rect.cl]) (C77 (tb_ok [e70]) ?_)
  by_cases q1 : (vld r).w = 0 <;> by_cases q2 : (vld r).h = 0 <;> simp (disch := first | (simp; done) | omega | (simp only [nx_add, nx_set, nx_kill, nx_mk, nx_emp]; omega) | fail) [g77, q1, q2] <;> simp (disch := first | (simp; done) | omega | (simp only [nx_add, nx_set, nx_kill, nx_mk, nx_emp]; omega) | fail) [g77_s1, q1, q2, emptyR]
def e77 : QE Try.prog := .pure 77 (fun (r : Rect) => [.agg r.enc]) (fun (r : Rect) => True) (fun (r : Rect) => .bool (emptyR r)) (fun r _ => empty_c r)
@[simp ↓] theorem e77_h (l : List (QE Try.prog)) (args : List AV) (h : AH) (Q : AV → AH → Prop) : tb (e77 :: l) 77 args h Q = e77.q args h Q := tb_here e77 l 77 args h Q rfl
@[simp ↓] theorem e77_t (l : List (QE Try.prog)) (f : Nat) (args : List AV) (h : AH) (Q : AV → AH → Prop) (hf : 77 ≠ f) : tb (e77 :: l) f args h Q = tb l f args h Q := tb_there e77 l f args h Q hf
@[simp ↓] theorem e77_q (r : Rect) (h : AH) (Q : AV → AH → Prop) : e77.q [.agg r.enc] h Q = Q (.bool (emptyR r)) h := (QE.pure_q (x := r) (by rintro _ h; simp at h; simp [h]) h Q).trans (by simp)
@[simp ↓] theorem e77_q_r (r_x : Int) (r_y : Int) (r_w : Int) (r_h : Int) (h : AH) (Q : AV → AH → Prop) : e77.q [.agg [I r_x, I r_y, I r_w, I r_h]] h Q = Q (.bool (emptyR (Rect.mk r_x r_y r_w r_h))) h := e77_q ⟨r_x, r_y, r_w, r_h⟩ h Q
end Go.Proofs.Ytpnekpbehcbmkaa
