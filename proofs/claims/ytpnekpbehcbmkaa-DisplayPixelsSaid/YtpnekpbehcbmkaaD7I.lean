/- What covering a point answers for a glyph run: the program and the reference answer alike. -/
import Derived.Test.YtpnekpbehcbmkaaD7G
set_option linter.unusedSimpArgs false
set_option linter.unusedVariables false
set_option linter.unnecessarySimpa false
namespace Go.Proofs.Ytpnekpbehcbmkaa
open Go.Eng
def covG (x : Int) (g : Gl) : Bool := decide (g.x ≤ x) && decide (x < g.x + g.adv)
theorem covers1_c (g : Gl) (x : Int) (hg : farG g = false) : Pure Try.prog 72 [.agg g.enc, .pptr [I x]] (.bool (covG x g)) := by
  refine .of (by simp [Gl.cl]; exact .pptr (by simp [cI])) (C72 (tb_ok []) ?_)
  have hb : -1099511627776 ≤ g.x ∧ g.x ≤ 1099511627776 ∧ -1099511627776 ≤ g.adv ∧ g.adv ≤ 1099511627776 := by grind [farG, near40]
  simp (disch := first | (simp; done) | omega | (simp only [nx_add, nx_set, nx_kill, nx_mk, nx_emp]; omega) | fail) [g72, g72_s1, -Int.not_le, -Int.not_lt]
  grind [covG]
end Go.Proofs.Ytpnekpbehcbmkaa
namespace Go.Proofs.Ytpnekpbehcbmkaa
open Go.Eng
def e63c : QE Try.prog := ⟨63, fun args h Q => ∃ l id x, args = [gls l, .func (.func 72) [] [.ptr id 0]] ∧ (Sm l ∧ ∀ g ∈ l, farG g = false) ∧ h.cellsAt id = some [I x] ∧ Q (.bool (l.any (covG x))) h, fun args h Q ⟨l, id, x, h1, h2, h3, h4⟩ => by
  subst h1
  have hp := containsFuncG_c l 72 [.pptr [I x]] (covG x) (by simp; exact .pptr (by simp [cI])) (fun g hg => covers1_c g x (h2.2 g hg)) h2.1
  refine ⟨_, h, Fresh.call (pargs := [gls l, .func (.func 72) [] [.pptr [I x]]]) ((hp emp).mono fun v h' hq => ?_) rfl (frz_args2 (gls_pl l h) ?_), h4⟩
  · rw [hq.1]; exact .bool _
  · refine .func _ _ _ _ _ rfl rfl (by simp) fun i c d h5 h6 => ?_
    match i with
    | 0 =>
      simp at h5 h6; subst h5; subst h6
      exact .ptr id 0 [I x] [I x] h3 (by simp) fun i c d h7 h8 => by
        match i with
        | 0 => simp at h7 h8; subst h7; subst h8; exact .int _ _
        | i + 1 => simp at h8
    | i + 1 => simp at h5⟩
theorem e63c_i {t : List (QE Try.prog)} {l : List Gl} {id : Nat} {h : AH} {Q : AV → AH → Prop} (x : Int) (hx : h.cellsAt id = some [I x]) (hl : Sm l ∧ ∀ g ∈ l, farG g = false) (hq : Q (.bool (l.any (covG x))) h) : tb (e63c :: t) 63 [gls l, .func (.func 72) [] [.ptr id 0]] h Q := by
  rw [tb_here e63c t 63 _ _ _ rfl]
  exact ⟨l, id, x, rfl, hl, hx, hq⟩
def covX (c : Cmd) (p : Pt) : Int := p.x - c.r.x + c.line.x
def cov (c : Cmd) (p : Pt) : Bool := inR c.r p && (c.kind == 4 || c.kind == 6 || (c.kind == 5 && c.line.gl.any (covG (covX c p))))
def CP (c : Cmd) (p : Pt) : Prop := okP p = true ∧ Sm c.line.gl ∧ (c.kind = 5 → nearL c.line = true) ∧ (c.kind = 4 ∨ c.kind = 5 ∨ c.kind = 6)
theorem nearL_bd {l : Ln} (h : nearL l = true) : -1099511627776 ≤ l.x ∧ l.x ≤ 1099511627776 ∧ ∀ g ∈ l.gl, farG g = false := by
  simp [nearL, near40] at h
  exact ⟨h.1.1, h.1.2, h.2⟩
theorem inR_ok {r : Rect} {p : Pt} (h : inR r p = true) : okR r = true := by simp [inR] at h; exact h.1.1.1.1
theorem covers_c (c : Cmd) (p : Pt) (hx : CP c p) : Pure Try.prog 46 [.agg c.enc, .agg p.enc] (.bool (cov c p)) := by
  refine .of (by simp [Cmd.cl, Pt.cl]) (C46 (tb_ok [e44, e63c]) ?_)
  obtain ⟨hp, hs, hk5, hk⟩ := hx
  have bp := okP_bd hp
  cases hr : inR c.r p
  · simp (disch := first | (simp; done) | omega | (simp only [nx_add, nx_set, nx_kill, nx_mk, nx_emp]; omega) | fail) [g46, hr, cov]
  · have br := okR_bd (inR_ok hr)
    by_cases h5 : c.kind = 5
    · obtain ⟨n1, n2, n3⟩ := nearL_bd (hk5 h5)
      simp (disch := first | (simp; done) | omega | (simp only [nx_add, nx_set, nx_kill, nx_mk, nx_emp]; omega) | fail) [g46, h5, hr]
      simp (disch := first | (simp; done) | omega | (simp only [nx_add, nx_set, nx_kill, nx_mk, nx_emp]; omega) | fail) [g46_s3, h5, hr]
      simp (disch := first | (simp; done) | omega | (simp only [nx_add, nx_set, nx_kill, nx_mk, nx_emp]; omega) | fail) [g46_s2, h5, hr]
      simp (disch := first | (simp; done) | omega | (simp only [nx_add, nx_set, nx_kill, nx_mk, nx_emp]; omega) | fail) [g46_s1, h5, hr]
      refine e63c_i (covX c p) ?_ ⟨hs, n3⟩ ?_
      · simp [covX]
      · simp [cov, hr, h5]
    · simp (disch := first | (simp; done) | omega | (simp only [nx_add, nx_set, nx_kill, nx_mk, nx_emp]; omega) | fail) [g46, h5, hr]
      simp (disch := first | (simp; done) | omega | (simp only [nx_add, nx_set, nx_kill, nx_mk, nx_emp]; omega) | fail) [g46_s3, h5, hr]
      refine ⟨fun vs h => vs = [.bool true], ?_, ?_⟩
      · rcases hk with hk | hk | hk
        · simp (disch := first | (simp; done) | omega | (simp only [nx_add, nx_set, nx_kill, nx_mk, nx_emp]; omega) | fail) [g46_a1, hk]
        · exact absurd hk h5
        · simp (disch := first | (simp; done) | omega | (simp only [nx_add, nx_set, nx_kill, nx_mk, nx_emp]; omega) | fail) [g46_a1, hk]
      · rintro vs h rfl
        simp [g46_j2, cov, hr]
        omega
def e46 : QE Try.prog := .pure 46 (fun (((c, p)) : Cmd × Pt) => [.agg c.enc, .agg p.enc]) (fun (((c, p)) : Cmd × Pt) => CP c p) (fun (((c, p)) : Cmd × Pt) => .bool (cov c p)) (fun ⟨c, p⟩ hx => covers_c c p hx)
@[simp ↓] theorem e46_h (l : List (QE Try.prog)) (args : List AV) (h : AH) (Q : AV → AH → Prop) : tb (e46 :: l) 46 args h Q = e46.q args h Q := tb_here e46 l 46 args h Q rfl
@[simp ↓] theorem e46_t (l : List (QE Try.prog)) (f : Nat) (args : List AV) (h : AH) (Q : AV → AH → Prop) (hf : 46 ≠ f) : tb (e46 :: l) f args h Q = tb l f args h Q := tb_there e46 l f args h Q hf
@[simp ↓] theorem e46_q (c : Cmd) (p : Pt) (h : AH) (Q : AV → AH → Prop) : e46.q [.agg c.enc, .agg p.enc] h Q = ((CP c p) ∧ Q (.bool (cov c p)) h) := (QE.pure_q (x := (c, p)) (by rintro ⟨_, _⟩ h; simp at h; simp [h]) h Q)
@[simp ↓] theorem e46_q_p (c : Cmd) (p_x : Int) (p_y : Int) (h : AH) (Q : AV → AH → Prop) : e46.q [.agg c.enc, .agg [I p_x, I p_y]] h Q = ((CP c (Pt.mk p_x p_y)) ∧ Q (.bool (cov c (Pt.mk p_x p_y))) h) := e46_q c ⟨p_x, p_y⟩ h Q
def glyI (c : Cmd) (p : Pt) (m : Nat) (vs : List AV) (h : AH) : Prop := ∃ i : Nat, i ≤ c.line.gl.length ∧ m = c.line.gl.length - i ∧ vs = [.ptr 0 0, I (p.x - c.r.x), I i] ∧ h.cellsAt 0 = some c.enc ∧ 0 < h.nx ∧ (∀ j (hj : j < i) (hj2 : j < c.line.gl.length), covG (covX c p) c.line.gl[j] = false)
def GP (c : Cmd) (p : Pt) : Prop := okP p = true ∧ Sm c.line.gl ∧ nearL c.line = true ∧ okR c.r = true
theorem glyphs_c (c : Cmd) (p : Pt) (hx : GP c p) : Pure Try.prog 49 [.agg c.enc, .agg p.enc] (.bool (c.line.gl.any (covG (covX c p)))) := by
  refine .of (by simp [Cmd.cl, Pt.cl]) (C49 (tb_ok []) ?_)
  obtain ⟨hp, hs, hn, hr⟩ := hx
  have bp := okP_bd hp
  have br := okR_bd hr
  obtain ⟨n1, n2, n3⟩ := nearL_bd hn
  unfold Sm at hs
  simp (disch := first | (simp; done) | omega | (simp only [nx_add, nx_set, nx_kill, nx_mk, nx_emp]; omega) | fail) [g49]
  simp (disch := first | (simp; done) | omega | (simp only [nx_add, nx_set, nx_kill, nx_mk, nx_emp]; omega) | fail) [g49_s4]
  refine ⟨glyI c p, c.line.gl.length, ⟨0, by simp⟩, ?_⟩
  rintro m vs h ⟨i, hi, rfl, rfl, h0, hnx, hall⟩
  by_cases hlt : i < c.line.gl.length
  · have hg := n3 _ (List.getElem_mem hlt)
    have hb : -1099511627776 ≤ c.line.gl[i].x ∧ c.line.gl[i].x ≤ 1099511627776 ∧ -1099511627776 ≤ c.line.gl[i].adv ∧ c.line.gl[i].adv ≤ 1099511627776 := by grind [farG, near40]
    simp (disch := first | (simp; done) | omega | (simp only [nx_add, nx_set, nx_kill, nx_mk, nx_emp]; omega) | fail) [g49_l3, h0, hlt]
    simp (disch := first | (simp; done) | omega | (simp only [nx_add, nx_set, nx_kill, nx_mk, nx_emp]; omega) | fail) [g49_s3, h0, hlt]
    refine ⟨fun vs h' => vs = [.ptr 0 0, I (p.x - c.r.x), I i, .bool (covG (covX c p) c.line.gl[i])] ∧ h'.cellsAt 0 = some c.enc ∧ 0 < h'.nx, ?_, ?_⟩
    · have hne : h.nx ≠ 0 := by omega
      have hne2 : (0 : Nat) ≠ h.nx := by omega
      by_cases hc : c.line.gl[i].x - c.line.x ≤ p.x - c.r.x
      · simp (disch := first | (simp; done) | omega | (simp only [nx_add, nx_set, nx_kill, nx_mk, nx_emp]; omega) | fail) [g49_a1, h0, hne, hne2, hc, -Int.not_le, -Int.not_lt]
        simp (disch := first | (simp; done) | omega | (simp only [nx_add, nx_set, nx_kill, nx_mk, nx_emp]; omega) | fail) [g49_s2, h0, hne, hne2, hc, -Int.not_le, -Int.not_lt]
        simp (disch := first | (simp; done) | omega | (simp only [nx_add, nx_set, nx_kill, nx_mk, nx_emp]; omega) | fail) [g49_s1, h0, hne, hne2, hc, -Int.not_le, -Int.not_lt]
        grind [covG, covX]
      · simp (disch := first | (simp; done) | omega | (simp only [nx_add, nx_set, nx_kill, nx_mk, nx_emp]; omega) | fail) [g49_a1, h0, hne, hne2, hc, -Int.not_le, -Int.not_lt]
        simp (disch := first | (simp; done) | omega | (simp only [nx_add, nx_set, nx_kill, nx_mk, nx_emp]; omega) | fail) [g49_s2, h0, hne, hne2, hc, -Int.not_le, -Int.not_lt]
        simp (disch := first | (simp; done) | omega | (simp only [nx_add, nx_set, nx_kill, nx_mk, nx_emp]; omega) | fail) [g49_s1, h0, hne, hne2, hc, -Int.not_le, -Int.not_lt]
        grind [covG, covX]
    · rintro vs h' ⟨rfl, h0', hnx'⟩
      simp (disch := first | (simp; done) | omega | (simp only [nx_add, nx_set, nx_kill, nx_mk, nx_emp]; omega) | fail) [g49_j2]
      refine ⟨fun hc => ?_, fun hc => ?_⟩
      · simp [g49_j5]
        exact ⟨_, List.getElem_mem hlt, hc⟩
      · refine ⟨c.line.gl.length - (i + 1), by omega, i + 1, by omega, rfl, by simp, h0', hnx', fun j hj hj2 => ?_⟩
        by_cases hji : j < i
        · exact hall j hji hj2
        · obtain rfl : j = i := by omega
          exact hc
  · have : i = c.line.gl.length := by omega
    subst this
    simp (disch := first | (simp; done) | omega | (simp only [nx_add, nx_set, nx_kill, nx_mk, nx_emp]; omega) | fail) [g49_l3, h0]
    simp (disch := first | (simp; done) | omega | (simp only [nx_add, nx_set, nx_kill, nx_mk, nx_emp]; omega) | fail) [g49_j5, h0]
    simp (disch := first | (simp; done) | omega | (simp only [nx_add, nx_set, nx_kill, nx_mk, nx_emp]; omega) | fail) [g49_c4, h0]
    intro g hg
    obtain ⟨j, hj, rfl⟩ := List.getElem_of_mem hg
    exact hall j hj hj
def e49 : QE Try.prog := .pure 49 (fun (((c, p)) : Cmd × Pt) => [.agg c.enc, .agg p.enc]) (fun (((c, p)) : Cmd × Pt) => GP c p) (fun (((c, p)) : Cmd × Pt) => .bool (c.line.gl.any (covG (covX c p)))) (fun ⟨c, p⟩ hx => glyphs_c c p hx)
@[simp ↓] theorem e49_h (l : List (QE Try.prog)) (args : List AV) (h : AH) (Q : AV → AH → Prop) : tb (e49 :: l) 49 args h Q = e49.q args h Q := tb_here e49 l 49 args h Q rfl
@[simp ↓] theorem e49_t (l : List (QE Try.prog)) (f : Nat) (args : List AV) (h : AH) (Q : AV → AH → Prop) (hf : 49 ≠ f) : tb (e49 :: l) f args h Q = tb l f args h Q := tb_there e49 l f args h Q hf
@[simp ↓] theorem e49_q (c : Cmd) (p : Pt) (h : AH) (Q : AV → AH → Prop) : e49.q [.agg c.enc, .agg p.enc] h Q = ((GP c p) ∧ Q (.bool (c.line.gl.any (covG (covX c p)))) h) := (QE.pure_q (x := (c, p)) (by rintro ⟨_, _⟩ h; simp at h; simp [h]) h Q)
@[simp ↓] theorem e49_q_p (c : Cmd) (p_x : Int) (p_y : Int) (h : AH) (Q : AV → AH → Prop) : e49.q [.agg c.enc, .agg [I p_x, I p_y]] h Q = ((GP c (Pt.mk p_x p_y)) ∧ Q (.bool (c.line.gl.any (covG (covX c (Pt.mk p_x p_y))))) h) := e49_q c ⟨p_x, p_y⟩ h Q
end Go.Proofs.Ytpnekpbehcbmkaa
