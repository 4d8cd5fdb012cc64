/- Outside the damage of two lists of commands every pixel is the same. What the reference's extents of a list of commands are: those of the program. What the law's call of every public function on raw lists answers. What the law on raw lists computes, as a plain function of its data. A call that ends with one new object and changed old ones: what else it has made is forgotten, what the new object holds is frozen. What the reader of numbers of the laws answers, and what it does to its object. What the reader of numbers of the laws answers, and what it does to its object. -/
import Derived.Test.YtpnekpbehcbmkaaD7U
import Derived.Test.YtpnekpbehcbmkaaEngBB
set_option linter.unusedSimpArgs false
set_option linter.unusedVariables false
set_option linter.unnecessarySimpa false
noncomputable section
namespace Go.Proofs.Ytpnekpbehcbmkaa
open Go.Eng
/-! Outside the damage nothing changes. -/
def InB (r : Rect) (x y : Int) : Prop := r.x ≤ x ∧ x < r.x + r.w ∧ r.y ≤ y ∧ y < r.y + r.h
theorem inR_iff {r : Rect} {p : Pt} : inR r p = true ↔ okR r = true ∧ InB r p.x p.y := by
  unfold inR InB; simp [and_assoc]
theorem rot_in (r : Rect) (x y : Int) : ∀ n : Nat, n ≤ 3 → InB r (rotB n x y).1 (rotB n x y).2 → InB (rotR n r) x y
  | 0, _, h => h
  | 1, _, h => by simp only [InB, rotB, rotR] at *; omega
  | 2, _, h => by simp only [InB, rotB, rotR] at *; omega
  | 3, _, h => by simp only [InB, rotB, rotR] at *; omega
  | n + 4, h, _ => by omega
theorem sc_in {t : Tf} {q : Rect} {x y : Int} (hs : 1 ≤ t.scale) (h : InB q ((x - t.dx) / t.scale) ((y - t.dy) / t.scale)) : InB (scR t q) x y := by
  obtain ⟨h1, h2, h3, h4⟩ := h
  have hs0 : 0 < t.scale := by omega
  rw [Int.le_ediv_iff_mul_le hs0] at h1 h3
  rw [Int.ediv_lt_iff_lt_mul hs0, Int.add_mul] at h2 h4
  simp only [InB, scR]
  omega
theorem apl_in {t : Tf} {r : Rect} {p : Pt} (ht : okT t = true) (hp : okP p = true) (hq : inR r (bk t p) = true) (ha : okR (apl t r) = true) : inR (apl t r) p = true := by
  obtain ⟨hr, hb⟩ := inR_iff.1 hq
  refine inR_iff.2 ⟨ha, ?_⟩
  have bt := okT_bd ht
  have e1 : apl t r = scR t (rotR t.turn.toNat (mirR t r)) := by unfold apl; rw [if_pos (by simp [ht, hr])]
  rw [e1]
  refine sc_in (by omega) (rot_in _ _ _ _ (by omega) ?_)
  unfold bk at hb
  rw [if_pos (by simp [ht, hp])] at hb
  generalize (rotB t.turn.toNat ((p.x - t.dx) / t.scale) ((p.y - t.dy) / t.scale)) = z at hb ⊢
  unfold mirR InB at *
  cases hm : t.mirror <;> simp [hm] at hb ⊢ <;> omega
/-- the open transforms, and the images of a point -/
inductive Rel (p : Pt) : List (Option Tf) → List Sn → Prop
  | base : okP p = true → Rel p [] [⟨p, true⟩]
  | clip {st : List (Option Tf)} {s : Sn} {ss : List Sn} (b : Bool) : Rel p st (s :: ss) → Rel p (none :: st) (⟨s.p, s.inn && b⟩ :: s :: ss)
  | tr {st : List (Option Tf)} {s : Sn} {ss : List Sn} {t : Tf} : Rel p st (s :: ss) → okT t = true → Rel p (some t :: st) (⟨bk t s.p, s.inn && okP (bk t s.p)⟩ :: s :: ss)
theorem Rel.top {p : Pt} {st : List (Option Tf)} {ss : List Sn} (h : Rel p st ss) : ∃ s tl, ss = s :: tl := by
  cases h <;> exact ⟨_, _, rfl⟩
theorem Rel.ok {p : Pt} {st : List (Option Tf)} {s : Sn} {ss : List Sn} (h : Rel p st (s :: ss)) (hi : s.inn = true) : okP s.p = true := by
  generalize hx : s :: ss = x at h
  induction h generalizing s ss with
  | base h => cases hx; exact h
  | clip b h ih => cases hx; simp at hi; have h2 := ih hi.1 rfl; exact h2
  | tr h ht ih => cases hx; simp at hi; exact hi.2
theorem Rel.ext {p : Pt} {st : List (Option Tf)} {s : Sn} {ss : List Sn} (h : Rel p st (s :: ss)) {r R : Rect} (hi : s.inn = true) (hr : inR r s.p = true) (he : ext1 st r = some R) : inR R p = true := by
  generalize hx : s :: ss = x at h
  induction h generalizing s ss r with
  | base h => cases hx; simp [ext1] at he; subst he; exact hr
  | clip b h ih =>
    cases hx
    simp at hi
    unfold ext1 at he
    split at he
    · exact ih hi.1 hr he rfl
    · cases he
  | tr h ht ih =>
    cases hx
    simp at hi
    unfold ext1 at he
    split at he
    · rename_i ha
      exact ih hi.1 (apl_in ht (h.ok hi.1) hr ha) he rfl
    · cases he
theorem vrun_t {g : Tf} {gr : List Tf} {c : Cmd} {l : List Cmd} (h : vrun (g :: gr) (c :: l) = 0) (hk : c.kind = 2) : okT c.t = true := by
  unfold vrun cmdErr at h
  by_cases hc : cmbOk g c.t = true
  · unfold cmbOk at hc; simp at hc; exact hc.1.2
  · simp [hk, hc] at h
theorem exts_mono (f t : Nat) : ∀ (l : List Cmd) (st : List (Option Tf)) (i : Nat) (out o : List Rect), exts f t st i l out = some o → ∀ r ∈ out, r ∈ o
  | [], st, i, out, o, h, r, hr => by simp [exts] at h; subst h; exact hr
  | c :: l, st, i, out, o, h, r, hr => by
    unfold exts at h
    (repeat' (split at h))
    all_goals (try (cases h; done))
    all_goals (refine exts_mono f t l _ _ _ _ h r ?_; first | exact hr | (simp; exact .inl hr) | (split <;> simp [hr]))
/-- the commands from one place to another one do not show at the point -/
def Qt (f t : Nat) : Nat → List Sn → List Cmd → Prop
  | _, _, [] => True
  | i, ss, c :: l => (f ≤ i → i < t → ∀ o, pout ss c o = o) ∧ Qt f t (i + 1) (pst ss c) l
theorem inR_ne {r : Rect} {p : Pt} (h : inR r p = true) : emptyR r = false := by
  obtain ⟨h1, h2⟩ := inR_iff.1 h
  unfold InB at h2
  unfold emptyR vld
  rw [if_pos h1]
  simp; omega
theorem ext_quiet (f t : Nat) (p : Pt) (R : List Rect) (hR : ∀ r ∈ R, inR r p = false) : ∀ (l : List Cmd) (g : Tf) (gr : List Tf) (st : List (Option Tf)) (ss : List Sn) (i : Nat) (out : List Rect), vrun (g :: gr) l = 0 → gr.length = st.length → Rel p st ss → exts f t st i l out = some R → Qt f t i ss l
  | [], _, _, _, _, _, _, _, _, _, _ => trivial
  | c :: l, g, gr, st, ss, i, out, hv, hg, hrel, he => by
    obtain ⟨g', gr', hv', hcase, hnear, hrect⟩ := step_ok hv
    obtain ⟨s, tl, rfl⟩ := hrel.top
    unfold exts at he
    unfold Qt
    by_cases k1 : c.kind = 1
    · rw [if_pos k1] at he
      refine ⟨fun _ _ o => by simp [pout, k1], ?_⟩
      refine ext_quiet f t p R hR l g' gr' (none :: st) _ (i + 1) out hv' ?_ ?_ he
      · rcases hcase with ⟨q, _⟩ | ⟨_, q⟩ | ⟨q, _⟩
        · omega
        · rw [q]; simp [hg]
        · omega
      · simp only [pst, k1, if_true]; exact hrel.clip _
    rw [if_neg k1] at he
    by_cases k2 : c.kind = 2
    · rw [if_pos k2] at he
      refine ⟨fun _ _ o => by simp [pout, k2], ?_⟩
      refine ext_quiet f t p R hR l g' gr' (some c.t :: st) _ (i + 1) out hv' ?_ ?_ he
      · rcases hcase with ⟨q, _⟩ | ⟨_, q⟩ | ⟨q, _⟩
        · omega
        · rw [q]; simp [hg]
        · omega
      · simp only [pst]; rw [if_neg k1, if_pos k2]; exact hrel.tr (vrun_t hv k2)
    rw [if_neg k2] at he
    by_cases k3 : c.kind = 3
    · rw [if_pos k3] at he
      refine ⟨fun _ _ o => by simp [pout, k3], ?_⟩
      have hgr : gr = g' :: gr' := by
        rcases hcase with ⟨_, q⟩ | ⟨q, _⟩ | ⟨q, _⟩
        · exact q
        · omega
        · omega
      rw [hgr] at hg
      have hps : pst (s :: tl) c = tl := by simp only [pst]; rw [if_neg k1, if_neg k2, if_pos k3]
      rw [hps]
      cases hrel with
      | base h => simp at hg
      | clip b h => exact ext_quiet f t p R hR l g' gr' _ _ (i + 1) out hv' (by simpa using hg) h he
      | tr h ht => exact ext_quiet f t p R hR l g' gr' _ _ (i + 1) out hv' (by simpa using hg) h he
    rw [if_neg k3] at he
    have hgr : g' :: gr' = g :: gr := by
      rcases hcase with ⟨q, _⟩ | ⟨q, _⟩ | ⟨_, q⟩
      · omega
      · omega
      · exact q
    cases hgr
    have hps : pst (s :: tl) c = s :: tl := by simp only [pst]; rw [if_neg k1, if_neg k2, if_neg k3]
    rw [hps]
    by_cases hft : f ≤ i ∧ i < t
    · rw [if_pos hft] at he
      cases hx : ext1 st c.r with
      | none => rw [hx] at he; cases he
      | some r =>
        rw [hx] at he
        refine ⟨fun _ _ o => ?_, ext_quiet f t p R hR l g gr st _ (i + 1) _ hv' hg hrel he⟩
        simp only [pout]
        rw [if_neg (by omega)]
        by_cases hcov : (s.inn && cov c s.p) = true
        · exfalso
          simp at hcov
          obtain ⟨hi, hcv⟩ := hcov
          have hin : inR c.r s.p = true := by unfold cov at hcv; simp at hcv; exact hcv.1
          have hpR := hrel.ext hi hin hx
          have hne := inR_ne hpR
          have hmem : r ∈ R := exts_mono f t l _ _ _ _ he r (by simp [hne])
          rw [hR r hmem] at hpR; cases hpR
        · rw [if_neg hcov]
    · rw [if_neg hft] at he
      refine ⟨fun h1 h2 => absurd ⟨h1, h2⟩ hft, ext_quiet f t p R hR l g gr st _ (i + 1) _ hv' hg hrel he⟩
theorem Qt.all {f t : Nat} : ∀ (l : List Cmd) (i : Nat) (ss : List Sn) (o : Int), Qt f t i ss l → f ≤ i → i + l.length ≤ t → prun ss o l = o
  | [], _, _, _, _, _, _ => rfl
  | c :: l, i, ss, o, h, h1, h2 => by
    obtain ⟨q1, q2⟩ := h
    simp at h2
    unfold prun
    rw [q1 h1 (by omega)]
    exact Qt.all l _ _ _ q2 (by omega) (by omega)
def psts : List Sn → List Cmd → List Sn
  | ss, [] => ss
  | ss, c :: l => psts (pst ss c) l
theorem prun_app : ∀ (x y : List Cmd) (ss : List Sn) (o : Int), prun ss o (x ++ y) = prun (psts ss x) (prun ss o x) y
  | [], y, ss, o => rfl
  | c :: x, y, ss, o => prun_app x y (pst ss c) (pout ss c o)
theorem Qt.app {f t : Nat} : ∀ (x y : List Cmd) (i : Nat) (ss : List Sn), Qt f t i ss (x ++ y) → Qt f t (i + x.length) (psts ss x) y
  | [], y, i, ss, h => h
  | c :: x, y, i, ss, h => by
    have := Qt.app x y (i + 1) (pst ss c) h.2
    rw [show i + (c :: x).length = i + 1 + x.length by simp; omega]
    exact this
theorem Qt.skip {f t : Nat} : ∀ (x y : List Cmd) (i : Nat) (ss : List Sn) (o : Int), Qt f t i ss (x ++ y) → f ≤ i → i + x.length ≤ t → x.any strct = false → prun ss o (x ++ y) = prun ss o y
  | [], y, _, _, _, _, _, _, _ => rfl
  | c :: x, y, i, ss, o, h, h1, h2, hs => by
    obtain ⟨q1, q2⟩ := h
    simp at h2
    simp only [List.any_cons, Bool.or_eq_false_iff] at hs
    have hk : ¬ c.kind = 1 ∧ ¬ c.kind = 2 ∧ ¬ c.kind = 3 := by
      have := hs.1; unfold strct at this; simp at this; omega
    have hps : pst ss c = ss := by
      unfold pst
      cases ss with
      | nil => rfl
      | cons s tl => simp only; rw [if_neg hk.1, if_neg hk.2.1, if_neg hk.2.2]
    show prun (pst ss c) (pout ss c o) (x ++ y) = _
    rw [hps] at q2 ⊢
    rw [q1 h1 (by omega)]
    exact Qt.skip x y _ _ _ q2 (by omega) (by omega) hs.2
theorem lcp_take : ∀ (a b : List Cmd), a.take (lcp a b) = b.take (lcp a b)
  | [], b => by simp [lcp]
  | x :: xs, [] => by simp [lcp]
  | x :: xs, y :: ys => by
    unfold lcp
    by_cases h : eqD x y = true
    · rw [if_pos h]; simp [eqD_iff.1 h, lcp_take xs ys]
    · rw [if_neg h]; simp
theorem d_tail (a b : List Cmd) : a.drop (a.length - dTl a b) = b.drop (b.length - dTl a b) := by
  have h := lcp_take (a.drop (dAt a b)).reverse (b.drop (dAt a b)).reverse
  have hle := d_le a b
  change (a.drop (dAt a b)).reverse.take (dTl a b) = (b.drop (dAt a b)).reverse.take (dTl a b) at h
  rw [List.take_reverse, List.take_reverse] at h
  have h2 := congrArg List.reverse h
  simp only [List.reverse_reverse, List.drop_drop, List.length_drop] at h2
  rwa [show dAt a b + (a.length - dAt a b - dTl a b) = a.length - dTl a b by omega, show dAt a b + (b.length - dAt a b - dTl a b) = b.length - dTl a b by omega] at h2
theorem split3 (a : List Cmd) {n m : Nat} (h1 : n ≤ m) (h2 : m ≤ a.length) : a = a.take n ++ ((a.drop n).take (m - n) ++ a.drop m) := by
  have e : a.drop m = (a.drop n).drop (m - n) := by rw [List.drop_drop]; congr 1; omega
  rw [e, List.take_append_drop, List.take_append_drop]
theorem quiet_law (a b : List Cmd) (p : Pt) (hp : okP p = true) (hev : ∃ r ∈ evr, inR r p = true) (hq : ∀ r ∈ dmg a b, inR r p = false) : pixel a p = pixel b p := by
  obtain ⟨re, hre, hrp⟩ := hev
  have nev : dmg a b ≠ evr := fun h => by rw [h] at hq; rw [hq re hre] at hrp; cases hrp
  by_cases heq : eqD a b = true
  · rw [eqD_iff.1 heq]
  unfold dmg at hq nev
  rw [if_neg heq] at hq nev
  by_cases hv : validate a = 0 ∧ validate b = 0
  rotate_left
  · rw [if_neg hv] at nev; exact absurd rfl nev
  rw [if_pos hv] at hq nev
  obtain ⟨va, vb⟩ := hv
  have la := valid_len va
  have lb := valid_len vb
  have ra : vrun [tf1] a = 0 := by unfold validate at va; rwa [if_neg (by omega)] at va
  have rb : vrun [tf1] b = 0 := by unfold validate at vb; rwa [if_neg (by omega)] at vb
  cases hx : exts (dF a b) (dTa a b) [] 0 a [] with
  | none => rw [hx] at nev; exact absurd rfl nev
  | some x =>
    cases hy : exts (dF a b) (dTb a b) [] 0 b [] with
    | none => rw [hx, hy] at nev; exact absurd rfl nev
    | some y =>
      rw [hx, hy] at hq
      have hqx : ∀ r ∈ x, inR r p = false := fun r hr => hq r (by simp [hr])
      have hqy : ∀ r ∈ y, inR r p = false := fun r hr => hq r (by simp [hr])
      have qa := ext_quiet _ _ p x hqx a tf1 [] [] [⟨p, true⟩] 0 [] ra rfl (.base hp) hx
      have qb := ext_quiet _ _ p y hqy b tf1 [] [] [⟨p, true⟩] 0 [] rb rfl (.base hp) hy
      unfold pixel
      rw [if_pos ⟨va, hp⟩, if_pos ⟨vb, hp⟩]
      cases hs : dSt a b with
      | true =>
        rw [qa.all _ _ _ _ (by simp [dF, hs]) (by simp [dTa, hs]), qb.all _ _ _ _ (by simp [dF, hs]) (by simp [dTb, hs])]
      | false =>
        have hle := d_le a b
        have sa := split3 a (n := dAt a b) (m := a.length - dTl a b) (by omega) (by omega)
        have sb := split3 b (n := dAt a b) (m := b.length - dTl a b) (by omega) (by omega)
        have hst := hs
        unfold dSt at hst
        simp only [Bool.or_eq_false_iff] at hst
        obtain ⟨s1, s2⟩ := hst
        have hT : b.take (dAt a b) = a.take (dAt a b) := (lcp_take a b).symm
        have hD : b.drop (b.length - dTl a b) = a.drop (a.length - dTl a b) := (d_tail a b).symm
        rw [hT, hD] at sb
        have eF : dF a b = dAt a b := by simp [dF, hs]
        have eA : dTa a b = a.length - dTl a b := by simp [dTa, hs]
        have eB : dTb a b = b.length - dTl a b := by simp [dTb, hs]
        rw [eF, eA] at qa
        rw [eF, eB] at qb
        have hn : (a.take (dAt a b)).length = dAt a b := by simp; omega
        generalize hA : a.length - dTl a b = mA at *
        generalize hB : b.length - dTl a b = mB at *
        generalize hN : dAt a b = n at *
        rw [sa] at qa
        rw [sb] at qb
        have qa2 := qa.app
        have qb2 := qb.app
        rw [hn] at qa2 qb2
        unfold dL at s2
        rw [hN, hB] at s2
        have ea : prun [⟨p, true⟩] (-1) a = prun (psts [⟨p, true⟩] (a.take n)) (prun [⟨p, true⟩] (-1) (a.take n)) (a.drop mA) := by
          conv => lhs; rw [sa]
          rw [prun_app, qa2.skip _ _ _ _ _ (by omega) (by simp; omega) s1]
        have eb : prun [⟨p, true⟩] (-1) b = prun (psts [⟨p, true⟩] (a.take n)) (prun [⟨p, true⟩] (-1) (a.take n)) (a.drop mA) := by
          conv => lhs; rw [sb]
          rw [prun_app, qb2.skip _ _ _ _ _ (by omega) (by simp; omega) s2]
        rw [ea, eb]
end Go.Proofs.Ytpnekpbehcbmkaa
end
noncomputable section
namespace Go.Proofs.Ytpnekpbehcbmkaa
open Go.Eng
/-! The reference's extents. -/
def tfe (o : Option Tf) : List AV := (o.getD zT).enc
theorem tfe_len (o : Option Tf) : (tfe o).length = 5 := Tf.len _
structure EJ (h : AH) (vo vu : AV) (st : List (Option Tf)) (out : List Rect) (io iu : Nat) : Prop where
  op : (st = [] ∧ vo = .nilsl) ∨ (vo = .rsl io 0 st.length 5 ∧ Stk 5 tfe io h st)
  ou : (out = [] ∧ vu = .nilsl) ∨ (out ≠ [] ∧ vu = .rsl iu 0 out.length 4 ∧ iu < h.nx ∧ h.cellsAt iu = some (flatR out))
  ne : vo ≠ .nilsl → vu ≠ .nilsl → io ≠ iu
theorem EJ.keep {h h' : AH} {vo vu : AV} {st : List (Option Tf)} {out : List Rect} {io iu : Nat} (he : EJ h vo vu st out io iu) {b : Nat} (hk : Kp b h h') (hb : h.nx ≤ b) : EJ h' vo vu st out io iu := by
  refine ⟨?_, ?_, he.ne⟩
  · rcases he.op with q | ⟨q1, ⟨q3, cs, q4, q5⟩⟩
    · exact .inl q
    · exact .inr ⟨q1, ⟨Nat.lt_of_lt_of_le q3 hk.1, cs, (hk.2 io q3 (by omega)).trans q4, q5⟩⟩
  · rcases he.ou with q | ⟨q0, q1, q3, q4⟩
    · exact .inl q
    · exact .inr ⟨q0, q1, Nat.lt_of_lt_of_le q3 hk.1, (hk.2 iu q3 (by omega)).trans q4⟩
theorem EJ.push {h h' : AH} {vo vu : AV} {st : List (Option Tf)} {out : List Rect} {io iu : Nat} (he : EJ h vo vu st out io iu) (s : Option Tf) {h1 : AH} {b nid : Nat} {x : List AV} (hk : Kp b h h1) (hb : h.nx ≤ b ∨ (vo ≠ .nilsl ∧ b = io)) (hn : nid = h1.nx) (hx : x = tfe s) (hh : h' = h1.add (.cells (bot tfe st ++ x))) :
    EJ h' (.rsl nid 0 (st.length + 1) 5) vu (s :: st) out nid iu := by
  have h1nx := hk.1
  subst hh
  refine ⟨.inr ⟨rfl, Stk.push' tfe_len hn hx⟩, ?_, fun _ hu => ?_⟩
  · rcases he.ou with q | ⟨q0, q1, q3, q4⟩
    · exact .inl q
    · have hbu : iu ≠ b := by
        rcases hb with hb | ⟨hb1, hb2⟩
        · omega
        · have := he.ne hb1 (by rw [q1]; simp); omega
      refine .inr ⟨q0, q1, by simp; omega, ?_⟩
      rw [cellsAt_add, if_neg (by omega)]; exact (hk.2 iu q3 hbu).trans q4
  · rcases he.ou with q | ⟨q0, q1, q3, q4⟩
    · exact absurd q.2 hu
    · omega
theorem EJ.pop {h : AH} {vo vu : AV} {s : Option Tf} {st : List (Option Tf)} {out : List Rect} {io iu : Nat} (he : EJ h vo vu (s :: st) out io iu) : EJ h (.rsl io 0 st.length 5) vu st out io iu := by
  rcases he.op with ⟨q, _⟩ | ⟨q1, ⟨q3, cs, q4, q5⟩⟩
  · cases q
  · exact ⟨.inr ⟨rfl, q3, cs, q4, (stk_top tfe_len q5).2⟩, he.ou, fun _ h2 => he.ne (by rw [q1]; simp) h2⟩
end Go.Proofs.Ytpnekpbehcbmkaa
end
noncomputable section
namespace Go.Proofs.Ytpnekpbehcbmkaa
open Go.Eng
def e15o : QE Try.prog := ⟨15, fun args h Q => ∃ v l p, args = [v, .agg (Pt.enc p)] ∧ Frz h false v (cmds l) ∧ SmL l ∧ Q (I (pixel l p)) h, fun args h Q ⟨v, l, p, h1, h2, h3, h4⟩ => by
  subst h1
  exact ⟨_, _, Fresh.call (pixel_f l p h3) rfl (frz_args2 h2 (.agg _ _ rfl fun i c d k1 k2 => by
    rw [k1] at k2; cases k2
    have := List.mem_of_getElem? k1
    simp [Pt.enc] at this
    rcases this with rfl | rfl <;> exact .int _ _)), h4⟩⟩
theorem e15o_h {tl : List (QE Try.prog)} {v : AV} {a : List AV} {h : AH} {Q : AV → AH → Prop} (l : List Cmd) (p : Pt) (ha : a = p.enc) (h2 : Frz h false v (cmds l)) (h3 : SmL l) (h4 : Q (I (pixel l p)) h) : tb (e15o :: tl) 15 [v, .agg a] h Q := by
  subst ha
  rw [tb_here e15o tl 15 _ _ _ rfl]
  exact ⟨v, l, p, rfl, h2, h3, h4⟩
@[simp ↓] theorem e15o_t (tl : List (QE Try.prog)) (f : Nat) (args : List AV) (h : AH) (Q : AV → AH → Prop) (hf : 15 ≠ f) : tb (e15o :: tl) f args h Q = tb tl f args h Q := tb_there e15o tl f args h Q hf
def e23o : QE Try.prog := ⟨23, fun args h Q => ∃ v1 v2 a b, args = [v1, v2] ∧ Frz h false v1 (cmds a) ∧ Frz h false v2 (cmds b) ∧ (Lite a ∧ Lite b) ∧ Q (rects (dmg a b)) h, fun args h Q ⟨v1, v2, a, b, h1, h2, h3, h4, h5⟩ => by
  subst h1
  exact ⟨_, _, Fresh.call (damage_f a b h4) rfl (frz_args2 h2 h3), h5⟩⟩
theorem e23o_h {tl : List (QE Try.prog)} {v1 v2 : AV} {h : AH} {Q : AV → AH → Prop} (a b : List Cmd) (h2 : Frz h false v1 (cmds a)) (h3 : Frz h false v2 (cmds b)) (h4 : Lite a ∧ Lite b) (h5 : Q (rects (dmg a b)) h) : tb (e23o :: tl) 23 [v1, v2] h Q := by
  rw [tb_here e23o tl 23 _ _ _ rfl]
  exact ⟨v1, v2, a, b, rfl, h2, h3, h4, h5⟩
@[simp ↓] theorem e23o_t (tl : List (QE Try.prog)) (f : Nat) (args : List AV) (h : AH) (Q : AV → AH → Prop) (hf : 23 ≠ f) : tb (e23o :: tl) f args h Q = tb tl f args h Q := tb_there e23o tl f args h Q hf
def fA : Cmd := fillC 0 0 10 10 1
def fB : Cmd := fillC 5 5 10 10 2
theorem px1 : pixel [fA, fB] ⟨7, 7⟩ = 2 := by decide
theorem px2 : pixel [fA, fB] ⟨1, 7⟩ = 1 := by decide
theorem px3 : pixel [fA, fB] ⟨1, 17⟩ = -1 := by decide
theorem dm1 : (dmg [fA, fB] [fA]).length = 1 := by
  have h1 : dAt [fA, fB] [fA] = 1 := by simp [dAt, lcp, eqD]
  have h2 : dTl [fA, fB] [fA] = 0 := by simp [dTl, h1, lcp]
  have h3 : eqD [fA, fB] [fA] = false := by simp [eqD]
  have h4 : dL [fA, fB] [fA] = [] := by simp [dL, h1, h2]
  have h5 : dSt [fA, fB] [fA] = false := by simp [dSt, h1, h2, h4]; decide
  have h6 : validate [fA, fB] = 0 := by decide
  have h7 : validate [fA] = 0 := by decide
  have h8 : exts 1 2 [] 0 [fA, fB] [] = some [⟨5, 5, 10, 10⟩] := rfl
  have h9 : exts 1 1 [] 0 [fA] [] = some [] := rfl
  unfold dmg
  rw [if_neg (by simp [h3]), if_pos ⟨h6, h7⟩]
  simp [dF, dTa, dTb, h5, h1, h2, h8, h9]
theorem awake_c : Pure Try.prog 17 [] (.bool true) := by
  refine .of (by simp) (C17 (tb_ok [e15o, e23o, e26]) ?_)
  have hsm : SmL [fA, fB] := ⟨by simp [Sm], by simp [SmC, Sm, fA, fB, fillC]⟩
  have hli : Lite [fA, fB] ∧ Lite [fA] := ⟨⟨by simp, by simp [fA, fB, fillC]⟩, ⟨by simp, by simp [fA, fillC]⟩⟩
  simp (disch := first | (simp; done) | omega | (simp only [nx_add, nx_set, nx_kill, nx_mk, nx_emp]; omega) | fail) [g17]
  simp (disch := first | (simp; done) | omega | (simp only [nx_add, nx_set, nx_kill, nx_mk, nx_emp]; omega) | fail) [g17_s4]
  refine wk_of (v := .rsl 0 0 2 22) (h := emp.add (.cells (fA.enc ++ fB.enc))) rfl ?_
  obtain ⟨h, hh⟩ : ∃ h, h = emp.add (.cells (fA.enc ++ fB.enc)) := ⟨_, rfl⟩
  have hc : h.cellsAt 0 = some (fA.enc ++ fB.enc) := by subst hh; simp
  rw [← hh]
  have hF : Frz h false (.rsl 0 0 2 22) (cmds [fA, fB]) := frz_rows Cmd.len (l := [fA, fB]) (by simpa using hc) (fun a _ c hc => a.pls c hc h)
  have hF1 : Frz h false (.rsl 0 0 1 22) (cmds [fA]) := by
    refine .rsl 0 0 22 _ [fA.enc] hc (by simp) (fun i y hy => ?_) (fun i y j c d k1 k2 k3 => ?_)
    · match i with
      | 0 => simp at hy; subst hy; simp
      | i + 1 => simp at hy
    · match i with
      | 0 =>
        simp at k1; subst k1
        have hj : j < 22 := by rw [← Cmd.len fA]; exact (List.getElem?_eq_some_iff.1 k2).1
        rw [show 0 + 0 * 22 + j = j by omega, List.getElem?_append_left (by simpa using hj), k2] at k3
        cases k3
        exact fA.pls _ (List.mem_of_getElem? k2) h
      | i + 1 => simp at k1
  refine e15o_h [fA, fB] ⟨7, 7⟩ rfl hF hsm ?_
  rw [px1]
  simp (disch := first | (simp; done) | omega | (simp only [nx_add, nx_set, nx_kill, nx_mk, nx_emp]; omega) | fail) [g17_s3]
  refine e15o_h [fA, fB] ⟨1, 7⟩ rfl hF hsm ?_
  rw [px2]
  simp (disch := first | (simp; done) | omega | (simp only [nx_add, nx_set, nx_kill, nx_mk, nx_emp]; omega) | fail) [g17_s2]
  refine e15o_h [fA, fB] ⟨1, 17⟩ rfl hF hsm ?_
  rw [px3]
  simp (disch := first | (simp; done) | omega | (simp only [nx_add, nx_set, nx_kill, nx_mk, nx_emp]; omega) | fail) [kSl_hi]
  refine e23o_h [fA, fB] [fA] hF hF1 hli ?_
  simp (disch := first | (simp; done) | omega | (simp only [nx_add, nx_set, nx_kill, nx_mk, nx_emp]; omega) | fail) [rects, dm1, g17_s1]
end Go.Proofs.Ytpnekpbehcbmkaa
end
noncomputable section
namespace Go.Proofs.Ytpnekpbehcbmkaa
open Go.Eng
def e17 : QE Try.prog := .pure 17 (fun (_u : Unit) => []) (fun (_u : Unit) => True) (fun (_u : Unit) => .bool true) (fun _ _ => awake_c )
@[simp ↓] theorem e17_h (l : List (QE Try.prog)) (args : List AV) (h : AH) (Q : AV → AH → Prop) : tb (e17 :: l) 17 args h Q = e17.q args h Q := tb_here e17 l 17 args h Q rfl
@[simp ↓] theorem e17_q  (h : AH) (Q : AV → AH → Prop) : e17.q [] h Q = Q (.bool true) h := (QE.pure_q (x := ()) (by intro _ _; rfl) h Q).trans (by simp)
end Go.Proofs.Ytpnekpbehcbmkaa
end
noncomputable section
namespace Go.Eng
open Go.RowKit
/-- VR.frz, where the objects that are frozen are some of those that are owned -/
theorem VR.frzs {own : Nat → Prop} {β : Bl} {h hg : AH} {nx : Nat} {w : World} (hs : SimH own β h.H nx w) (hsub : ∀ i o, hg.H.get i = some o → h.H.get i = some o) {L2 : Nat → Prop} {β2 : Bl} {n : Bool} (h1 : ∀ b, live β hg.H b → ¬ L2 b) (h2 : n = false → ∀ b, ¬ LL own β h.H b → ¬ L2 b)
    {a a' : AV} (hf : Frz hg n a a') : ∀ {v : Value}, VR w.heap (LL own β h.H) β a v → VR w.heap L2 β2 a' v := by
  induction hf with
  | undef a => intro v hv; exact .undef v
  | bool b => intro v hv; cases hv; exact .bool b
  | int k m => intro v hv; cases hv; exact .int k m
  | str s => intro v hv; cases hv; exact .str s
  | nilptr => intro v hv; cases hv; exact .nilptr
  | nilfunc => intro v hv; cases hv; exact .nilfunc
  | nilif => intro v hv; cases hv; exact .nilif
  | nilmap => intro v hv; cases hv; exact .nilmap
  | nilsl0 => intro v hv; cases hv; exact .nilsl
  | nilsl => intro v hv; cases hv; exact .psl0 _ _
  | esl0 => intro v hv; cases hv; exact .esl _
  | esl => intro v hv; cases hv; exact .psl0 _ _
  | gptr g o => intro v hv; cases hv; exact .gptr g o
  | agg cs ds hl hc ih =>
    intro v hv
    cases hv with
    | agg _ vs hl2 hv =>
      refine .agg ds vs (hl ▸ hl2) fun i d v hd hv' => ?_
      obtain ⟨c, hc'⟩ := get_of_len hl hd
      exact ih i c d hc' hd (hv i c v hc' hv')
  | tup cs ds hl hc ih =>
    intro v hv
    cases hv with
    | tup _ vs hl2 hv =>
      refine .tup ds vs (hl ▸ hl2) fun i d v hd hv' => ?_
      obtain ⟨c, hc'⟩ := get_of_len hl hd
      exact ih i c d hc' hd (hv i c v hc' hv')
  | psl0 => intro v hv; cases hv <;> exact .psl0 _ _
  | psl hn xs ys hl hx hc ih =>
    intro v hv
    cases hv with
    | psl0 a cap => cases ys with
      | nil => exact .psl0 a cap
      | cons y ys => simp at hl
    | psl _ z b o cap cur e fz hb hL hs' hz hcap hv =>
      rw [hl]
      refine .psl ys z b o cap cur e fz hb (h2 hn b hL) (hl ▸ hs') (fun i y hy => ?_) (hl ▸ hcap) fun i y j d v hy hd hv' => ?_
      · obtain ⟨x, hx'⟩ := get_of_len hl hy
        rw [← hx i x y hx' hy]; exact hz i x hx'
      · obtain ⟨x, hx'⟩ := get_of_len hl hy
        obtain ⟨c, hc'⟩ := get_of_len (hx i x y hx' hy) hd
        exact ih i x y j c d hx' hy hc' hd (hv i x j c v hx' hc' hv')
  | pptr hn cs ds hl hc ih =>
    intro v hv
    cases hv with
    | pptr _ b o cur e fz hb hL hs' hv =>
      refine .pptr ds b o cur e fz hb (h2 hn b hL) (hl ▸ hs') fun i d v hd hv' => ?_
      obtain ⟨c, hc'⟩ := get_of_len hl hd
      exact ih i c d hc' hd (hv i c v hc' hv')
  | rsl id off z cs ys ho hs' hz hc ih =>
    intro v hv
    obtain ⟨b, base, hb, hnb, cur, e, hcur, hcs, hcell⟩ := hs.obj id _ (hsub _ _ (cellsAt_get ho))
    have hlive : live β hg.H b := ⟨id, _, base, cellsAt_get ho, hb⟩
    generalize hlen : ys.length = len at hv
    cases hv with
    | rsl _ _ _ _ b' base' cap cur' e' hb' hcur' hcap hm hs2 =>
      rw [hb] at hb'; cases hb'
      rw [hcur] at hcur'; cases hcur'
      subst hlen
      refine .psl ys z b (base + off) cap cur e (0, 0) hcur (h1 b hlive) (by omega) hz hcap fun i y j d v hy hd hv' => ?_
      have hi : i < ys.length := (List.getElem?_eq_some_iff.1 hy).1
      have hj : j < z := by rw [← hz i y hy]; exact (List.getElem?_eq_some_iff.1 hd).1
      have hb1 : i * z + z ≤ ys.length * z := by
        have := Nat.mul_le_mul_right z (show i + 1 ≤ ys.length by omega)
        rw [Nat.succ_mul] at this; exact this
      have hlt : off + i * z + j < cs.length := by omega
      exact ih i y j cs[off + i * z + j] d hy hd (by simp [hlt]) (hcell (off + i * z + j) _ v (by simp [hlt]) (by rw [← hv']; congr 1; omega))
    | rsl0 _ _ _ b' base' o hb' =>
      cases ys with
      | nil => exact .psl0 _ _
      | cons y ys => simp at hlen
  | ptr id off cs ds ho hs' hc ih =>
    intro v hv
    obtain ⟨b, base, hb, hnb, cur, e, hcur, hcs, hcell⟩ := hs.obj id _ (hsub _ _ (cellsAt_get ho))
    have hlive : live β hg.H b := ⟨id, _, base, cellsAt_get ho, hb⟩
    cases hv with
    | ptr _ _ b' base' hb' =>
      rw [hb] at hb'; cases hb'
      refine .pptr ds b (base + off) cur e (0, 0) hcur (h1 b hlive) (by omega) fun i d v hd hv' => ?_
      have hi : i < ds.length := (List.getElem?_eq_some_iff.1 hd).1
      have hlt : off + i < cs.length := by omega
      exact ih i cs[off + i] d (by simp [hlt]) hd (hcell (off + i) _ v (by simp [hlt]) (by rw [← hv']; congr 1; omega))
  | func fn f1 c1 f2 c2 hl1 hl2 g1 g2 ih1 ih2 =>
    intro v hv
    cases hv with
    | func _ _ _ u1 u2 k1 k2 q1 q2 =>
      refine .func fn f2 c2 u1 u2 (hl1 ▸ k1) (hl2 ▸ k2) (fun i d v hd hv' => ?_) (fun i d v hd hv' => ?_)
      · obtain ⟨c, hc'⟩ := get_of_len hl1 hd
        exact ih1 i c d hc' hd (q1 i c v hc' hv')
      · obtain ⟨c, hc'⟩ := get_of_len hl2 hd
        exact ih2 i c d hc' hd (q2 i c v hc' hv')
  | iface t a b hb ih =>
    intro v hv
    cases hv with
    | iface _ _ v hv => exact .iface t b v (ih hv)

/-- the objects from n on, without one of them -/
def newer (h : AH) (n id : Nat) : Nat → AH
  | 0 => h.kill id
  | k + 1 => (newer h n id k).kill k
theorem get_newer (h : AH) (n id : Nat) : ∀ (k i : Nat), (newer h n id k).H.get i = if i < k ∨ i = id then none else h.H.get i
  | 0, i => by
    show (h.kill id).H.get i = _
    rw [get_kill]; simp
  | k + 1, i => by
    show ((newer h n id k).kill k).H.get i = _
    rw [get_kill, get_newer h n id k i]
    by_cases h1 : i = k
    · subst h1; simp
    · rw [if_neg h1]
      by_cases h2 : i < k ∨ i = id
      · rw [if_pos h2, if_pos (by omega)]
      · rw [if_neg h2, if_neg (by omega)]
def rest (h : AH) (n id : Nat) : AH := newer h n id n
theorem get_rest (h : AH) (n id i : Nat) : (rest h n id).H.get i = if i < n ∨ i = id then none else h.H.get i := get_newer h n id n i
theorem cellsAt_rest {h : AH} {n id i : Nat} (h1 : n ≤ i) (h2 : i ≠ id) : (rest h n id).cellsAt i = h.cellsAt i := by
  refine cellsAt_congr ?_
  rw [get_rest, if_neg (by omega)]

/-- the heap that is left: the old objects, one new one -/
def settled (g : AH) (n : Nat) (cs : List AV) : AH := ⟨g.H.put n (.cells cs), n + 1⟩
theorem get_settled (g : AH) (n : Nat) (cs : List AV) (i : Nat) : (settled g n cs).H.get i = if i = n then some (.cells cs) else g.H.get i := PM.get_put _ _ _ _

theorem settle {P : Program} {f : Nat} {args : List AV} {h g : AH} {B : Nat} {R : AV → AH → Prop} {cs2 : List AV} {off len z : Nat} (hc : CallsA P f args h R)
    (hR : ∀ v' h', R v' h' → h'.nx ≤ h.nx + B ∧ (∀ i, i < h.nx → g.H.get i = h'.H.get i) ∧ (∀ i o, g.H.get i = some o → i < h.nx) ∧
      ∃ id cs, h.nx ≤ id ∧ h'.cellsAt id = some cs ∧ FrzL (rest h' h.nx id) false cs cs2 ∧ v' = .rsl id off len z) : CallD P f args h (.rsl (h.nx + B) off len z) (settled g (h.nx + B) cs2) := by
  refine ⟨hc.1, fun own β w cargs hs hRL => (hc.2 own β w cargs hs hRL).mono ?_⟩
  rintro e w' ⟨cv, v0, h0, β0, rfl, hq, hs0, hv0, ht⟩
  obtain ⟨hB, hold, hlow, id, cs, hid, hcs, hfc, rfl⟩ := hR v0 h0 hq
  obtain ⟨b, base, hb, hnown, cur, et, hcur, hcl, hcell⟩ := hs0.obj id _ (cellsAt_get hcs)
  have hlive : live β0 h0.H b := ⟨id, _, base, cellsAt_get hcs, hb⟩
  have hblt : b < w'.heap.size := hs0.lt id b base hb
  obtain ⟨N, hN⟩ : ∃ N, N = h.nx + B := ⟨_, rfl⟩
  rw [← hN] at hB ⊢
  have hnx : β0 N = none := hs0.fresh _ hB
  obtain ⟨β', hβ'⟩ : ∃ β', β' = upd β0 N b base := ⟨_, rfl⟩
  have hgood : ∀ {i x}, β0 i = some x → β' i = some x := fun {i x} hi => by
    have : i ≠ N := fun e => by rw [e, hnx] at hi; cases hi
    rw [hβ', upd_ne _ _ _ this]; exact hi
  have hself : β' N = some (b, base) := by rw [hβ']; exact upd_same _ _ _ _
  have hne : ∀ i, i ≠ N → β' i = β0 i := fun i hi => by rw [hβ', upd_ne _ _ _ hi]
  have hlv : ∀ b', live β' (settled g N cs2).H b' → (∃ i o ba, i < h.nx ∧ h0.H.get i = some o ∧ β0 i = some (b', ba)) ∨ b' = b := by
    rintro b' ⟨i, o, ba, h1, h2⟩
    rw [get_settled] at h1
    by_cases hi : i = N
    · subst hi; rw [hself] at h2; cases h2; exact .inr rfl
    · rw [if_neg hi] at h1; rw [hne i hi] at h2
      have hl := hlow i o h1
      rw [hold i hl] at h1
      exact .inl ⟨i, o, ba, hl, h1, h2⟩
  have hlv0 : ∀ b', live β' (settled g N cs2).H b' → live β0 h0.H b' := by
    intro b' hl
    rcases hlv b' hl with ⟨i, o, ba, _, h1, h2⟩ | rfl
    · exact ⟨i, o, ba, h1, h2⟩
    · exact hlive
  have hL : ∀ b', LL own β' (settled g N cs2).H b' → LL own β0 h0.H b' := fun b' hb' => hb'.imp_right (hlv0 b')
  have hLat : Later w'.heap (LL own β0 h0.H) β0 w'.heap (LL own β' (settled g N cs2).H) β' :=
    ⟨fun i x hx => hgood hx, fun b' _ hn => ⟨fun hl => hn (hL b' hl), rfl⟩, fun _ cur _ _ hcu => ⟨cur, hcu, rfl⟩⟩
  have hT : Trans own β h w β' (settled g N cs2) w' := by
    refine ⟨fun i x hx => hgood (ht.ext i x hx), fun i hi => ?_, by show h.nx ≤ N + 1; omega, ht.size, ht.keep, fun b' hl => ht.live b' (hlv0 b' hl), ht.shape, ht.os, ht.tape, ht.output⟩
    rw [hne i (by omega)]; exact ht.low i hi
  have hsub : ∀ i o, (rest h0 h.nx id).H.get i = some o → h0.H.get i = some o := fun i o hi => by
    rw [get_rest] at hi
    split at hi
    · cases hi
    · exact hi
  have hnotL : ∀ b', live β0 (rest h0 h.nx id).H b' → ¬ LL own β' (settled g N cs2).H b' := by
    rintro b' ⟨i, o, ba, h1, h2⟩ hl
    rw [get_rest] at h1
    split at h1
    · cases h1
    rename_i hi
    rcases hl with ho | hl
    · obtain ⟨b2, base2, k1, k2, _⟩ := hs0.obj i o h1
      rw [h2] at k1; cases k1; exact k2 ho
    · rcases hlv b' hl with ⟨j, o2, ba2, hj, h3, h4⟩ | rfl
      · have := hs0.inj i j o o2 b' ba ba2 h1 h3 h2 h4
        omega
      · have := hs0.inj i id o _ b' ba base h1 (cellsAt_get hcs) h2 hb
        omega
  have hfc' := (FrzL_iff _ _ _ _).1 hfc
  have hS : SimH own β' (settled g N cs2).H (settled g N cs2).nx w' := by
    refine ⟨fun i hi => ?_, fun i b' ba hi => ?_, hs0.ownlt, fun i o hg => ?_, fun i j o o' b' x y h1 h2 h3 h4 => ?_⟩
    · have hi' : N + 1 ≤ i := hi
      rw [hne i (by omega)]; exact hs0.fresh i (by omega)
    · by_cases h1 : i = N
      · subst h1; rw [hself] at hi; cases hi; exact hblt
      · rw [hne i h1] at hi; exact hs0.lt i b' ba hi
    · rw [get_settled] at hg
      by_cases h1 : i = N
      · rw [if_pos h1] at hg; cases hg; subst h1
        refine ⟨b, base, hself, hnown, cur, et, hcur, by rw [← hfc'.1]; exact hcl, fun i c u k1 k2 => ?_⟩
        obtain ⟨c0, hc0⟩ := get_of_len hfc'.1 k1
        exact VR.frzs hs0 hsub hnotL (fun _ b' hn hl => hn (hL b' hl)) (hfc'.2 i c0 c hc0 k1) (hcell i c0 u hc0 k2)
      · rw [if_neg h1] at hg
        have hl := hlow i o hg
        rw [hold i hl] at hg
        obtain ⟨b', ba, q1, q2, q3⟩ := hs0.obj i o hg
        exact ⟨b', ba, hgood q1, q2, OR.later hLat rfl q3⟩
    · rw [get_settled] at h1 h2
      have old : ∀ {i o b' x}, i ≠ N → g.H.get i = some o → β' i = some (b', x) → i < h.nx ∧ h0.H.get i = some o ∧ β0 i = some (b', x) := fun {i o b' x} hi h1 h3 => by
        have hl := hlow i o h1
        rw [hold i hl] at h1; rw [hne i hi] at h3
        exact ⟨hl, h1, h3⟩
      by_cases hi : i = N <;> by_cases hj : j = N
      · rw [hi, hj]
      · subst hi; rw [hself] at h3; cases h3
        rw [if_neg hj] at h2
        obtain ⟨k1, k2, k3⟩ := old hj h2 h4
        have := hs0.inj j id o' _ b y base k2 (cellsAt_get hcs) k3 hb
        omega
      · subst hj; rw [hself] at h4; cases h4
        rw [if_neg hi] at h1
        obtain ⟨k1, k2, k3⟩ := old hi h1 h3
        have := hs0.inj i id o _ b x base k2 (cellsAt_get hcs) k3 hb
        omega
      · rw [if_neg hi] at h1; rw [if_neg hj] at h2
        obtain ⟨_, k2, k3⟩ := old hi h1 h3
        obtain ⟨_, m2, m3⟩ := old hj h2 h4
        exact hs0.inj i j o o' b' x y k2 m2 k3 m3
  refine ⟨cv, _, _, β', rfl, ⟨rfl, rfl⟩, hS, ?_, hT⟩
  cases hv0 with
  | rsl _ _ _ _ b2 base2 cap cur2 e2 g1 g2 g3 g4 g5 => rw [hb] at g1; cases g1; exact .rsl _ _ _ _ b base cap cur2 e2 hself g2 g3 g4 g5
  | rsl0 _ _ _ b2 base2 o g1 => rw [hb] at g1; cases g1; exact .rsl0 _ _ _ b base o hself
/-- the same where the result is the empty slice -/
theorem settle0 {P : Program} {f : Nat} {args : List AV} {h g : AH} {B : Nat} {R : AV → AH → Prop} (hc : CallsA P f args h R)
    (hR : ∀ v' h', R v' h' → h'.nx ≤ h.nx + B ∧ (∀ i, i < h.nx → g.H.get i = h'.H.get i) ∧ (∀ i o, g.H.get i = some o → i < h.nx) ∧ v' = .nilsl) : CallD P f args h .nilsl ⟨g.H, h.nx + B⟩ := by
  refine ⟨hc.1, fun own β w cargs hs hRL => (hc.2 own β w cargs hs hRL).mono ?_⟩
  rintro e w' ⟨cv, v0, h0, β0, rfl, hq, hs0, hv0, ht⟩
  obtain ⟨hB, hold, hlow, rfl⟩ := hR v0 h0 hq
  have hlv0 : ∀ b', live β0 g.H b' → live β0 h0.H b' := by
    rintro b' ⟨i, o, ba, h1, h2⟩
    have hl := hlow i o h1
    rw [hold i hl] at h1
    exact ⟨i, o, ba, h1, h2⟩
  have hLat : Later w'.heap (LL own β0 h0.H) β0 w'.heap (LL own β0 g.H) β0 :=
    ⟨fun i x hx => hx, fun b' _ hn => ⟨fun hl => hn (hl.imp_right (hlv0 b')), rfl⟩, fun _ cur _ _ hcu => ⟨cur, hcu, rfl⟩⟩
  have hS : SimH own β0 g.H (h.nx + B) w' := by
    refine ⟨fun i hi => hs0.fresh i (by omega), hs0.lt, hs0.ownlt, fun i o hg => ?_, fun i j o o' b' x y h1 h2 h3 h4 => ?_⟩
    · have hl := hlow i o hg
      rw [hold i hl] at hg
      obtain ⟨b', ba, q1, q2, q3⟩ := hs0.obj i o hg
      exact ⟨b', ba, q1, q2, OR.later hLat rfl q3⟩
    · have l1 := hlow i o h1
      have l2 := hlow j o' h2
      rw [hold i l1] at h1; rw [hold j l2] at h2
      exact hs0.inj i j o o' b' x y h1 h2 h3 h4
  refine ⟨cv, _, ⟨g.H, h.nx + B⟩, β0, rfl, ⟨rfl, rfl⟩, hS, ?_, ⟨ht.ext, ht.low, by show h.nx ≤ h.nx + B; omega, ht.size, ht.keep, fun b' hl => ht.live b' (hlv0 b' hl), ht.shape, ht.os, ht.tape, ht.output⟩⟩
  cases hv0; exact .nilsl
/-- what is frozen stays so where further objects stand -/
theorem Frz.ext {h h' : AH} (he : ∀ i cs, h.cellsAt i = some cs → h'.cellsAt i = some cs) {n : Bool} {a b : AV} (hf : Frz h n a b) : Frz h' n a b := by
  induction hf with
  | undef a => exact .undef a
  | bool b => exact .bool b
  | int k m => exact .int k m
  | str s => exact .str s
  | nilptr => exact .nilptr
  | nilfunc => exact .nilfunc
  | nilif => exact .nilif
  | nilmap => exact .nilmap
  | nilsl0 => exact .nilsl0
  | nilsl => exact .nilsl
  | esl0 => exact .esl0
  | esl => exact .esl
  | gptr g o => exact .gptr g o
  | agg cs ds hl hc ih => exact .agg cs ds hl fun i c d h1 h2 => ih i c d h1 h2
  | tup cs ds hl hc ih => exact .tup cs ds hl fun i c d h1 h2 => ih i c d h1 h2
  | psl0 => exact .psl0
  | psl hn xs ys hl hx hc ih => exact .psl hn xs ys hl hx fun i x y j c d h1 h2 h3 h4 => ih i x y j c d h1 h2 h3 h4
  | pptr hn cs ds hl hc ih => exact .pptr hn cs ds hl fun i c d h1 h2 => ih i c d h1 h2
  | rsl id off z cs ys ho hs hz hc ih => exact .rsl id off z cs ys (he _ _ ho) hs hz fun i y j c d h1 h2 h3 => ih i y j c d h1 h2 h3
  | ptr id off cs ds ho hs hc ih => exact .ptr id off cs ds (he _ _ ho) hs fun i c d h1 h2 => ih i c d h1 h2
  | func fn f1 c1 f2 c2 hl1 hl2 h1 h2 ih1 ih2 => exact .func fn f1 c1 f2 c2 hl1 hl2 (fun i c d q1 q2 => ih1 i c d q1 q2) (fun i c d q1 q2 => ih2 i c d q1 q2)
  | iface t a b hb ih => exact .iface t a b (ih)
theorem FrzL.ext {h h' : AH} (he : ∀ i cs, h.cellsAt i = some cs → h'.cellsAt i = some cs) {n : Bool} {a b : List AV} (hf : FrzL h n a b) : FrzL h' n a b := by
  rw [FrzL_iff] at hf ⊢
  exact ⟨hf.1, fun i c d h1 h2 => (hf.2 i c d h1 h2).ext he⟩
theorem FrzL.app {h : AH} {n : Bool} {a b c d : List AV} (h1 : FrzL h n a b) (h2 : FrzL h n c d) : FrzL h n (a ++ c) (b ++ d) := by
  rw [FrzL_iff] at h1 h2 ⊢
  refine ⟨by simp [h1.1, h2.1], fun i x y hx hy => ?_⟩
  by_cases hi : i < a.length
  · rw [List.getElem?_append_left hi] at hx
    rw [List.getElem?_append_left (by have := h1.1; omega)] at hy
    exact h1.2 i x y hx hy
  · rw [List.getElem?_append_right (by omega)] at hx
    rw [List.getElem?_append_right (by have := h1.1; omega), ← h1.1] at hy
    exact h2.2 _ x y hx hy
/-- nothing stands beyond the next number -/
def WF (h : AH) : Prop := ∀ i, h.nx ≤ i → h.H.get i = none
theorem WF.add {h : AH} (hw : WF h) (o : AObj) : WF (h.add o) := fun i hi => by
  simp at hi
  rw [get_add, if_neg (by omega)]; exact hw i (by omega)
theorem WF.set {h : AH} (hw : WF h) (j : Nat) (hj : j < h.nx) (o : AObj) : WF (h.set j o) := fun i hi => by
  simp at hi
  rw [get_set, if_neg (by omega)]; exact hw i (by omega)
theorem WF.kill {h : AH} (hw : WF h) (j : Nat) : WF (h.kill j) := fun i hi => by
  simp at hi
  rw [get_kill]; split
  · rfl
  · exact hw i (by omega)
theorem WF.bump {h : AH} (hw : WF h) (n : Nat) (hn : h.nx ≤ n) : WF ⟨h.H, n⟩ := fun i hi => hw i (by have : n ≤ i := hi; omega)
end Go.Eng
end
noncomputable section
namespace Go.Proofs.Ytpnekpbehcbmkaa
open Go.Eng
/-! The reader of numbers of the laws: what it answers, and what it does to its object. -/
def ints (L : List Int) : AV := .psl (L.map fun x => [I x])
def srcC (L : List Int) (a : Nat) : List AV := [ints L, I a]
def nxA (L : List Int) (a : Nat) : Nat := if a < L.length then a + 1 else a
def nV (L : List Int) (a : Nat) (n : Int) : Int := if a < L.length then (if 0 ≤ (L.getD a 0).tmod n then (L.getD a 0).tmod n else (L.getD a 0).tmod n + n) else 0
def nH (h : AH) (id : Nat) (L : List Int) (a : Nat) : AH := if a < L.length then ⟨(h.set id (.cells (srcC L (a + 1)))).H, h.nx + 27⟩ else ⟨h.H, h.nx + 14⟩
def OkL (L : List Int) : Prop := L.length ≤ 4000
theorem tmod_lt {x n : Int} (hn : 1 ≤ n) : x.tmod n < n := Int.tmod_lt_of_pos x (by omega)
theorem tmod_gt {x n : Int} (hn : 1 ≤ n) : -n < x.tmod n := by
  have h1 := Int.tmod_lt_of_pos (-x) (show 0 < n by omega)
  have h2 : (-x).tmod n = -(x.tmod n) := Int.neg_tmod x n
  omega
theorem nV_ge (L : List Int) (a : Nat) {n : Int} (hn : 1 ≤ n) : 0 ≤ nV L a n := by
  unfold nV
  have := tmod_gt (x := L.getD a 0) hn
  split <;> (try split) <;> omega
theorem nV_lt (L : List Int) (a : Nat) {n : Int} (hn : 1 ≤ n) : nV L a n < n := by
  unfold nV
  have := tmod_lt (x := L.getD a 0) hn
  split <;> (try split) <;> omega
theorem nxA_le (L : List Int) {a : Nat} (h : a ≤ L.length) : nxA L a ≤ L.length := by unfold nxA; split <;> omega
theorem nx_nH (h : AH) (id : Nat) (L : List Int) (a : Nat) : h.nx ≤ (nH h id L a).nx ∧ (nH h id L a).nx ≤ h.nx + 27 := by unfold nH; split <;> simp
theorem get_nH (h : AH) (id : Nat) (L : List Int) (a : Nat) {i : Nat} (hi : i ≠ id) : (nH h id L a).H.get i = h.H.get i := by
  unfold nH; split
  · show (h.set _ _).H.get i = _
    rw [get_set, if_neg hi]
  · rfl
theorem cells_nH {h : AH} {id : Nat} {L : List Int} {a : Nat} (hc : h.cellsAt id = some (srcC L a)) : (nH h id L a).cellsAt id = some (srcC L (nxA L a)) := by
  unfold nH nxA; split
  · exact cellsAt_set_self _ _ _ _ rfl
  · exact hc
theorem kLen_ints (h : AH) (L : List Int) : kLen h (ints L) = some (I L.length, h) := by simp [ints]
theorem kIdx_ints (h : AH) (L : List Int) (a : Nat) (ha : a < L.length) : kIdxA h 1 (ints L) (I a) = some (.pptr [I (L.getD a 0)], h) := kIdxA_psl (by simp [ha]) rfl
theorem n_d {h : AH} {id : Nat} {L : List Int} {a : Nat} {n : Int} (hc : h.cellsAt id = some (srcC L a)) (ha : a ≤ L.length) (hL : OkL L) (h1 : 1 ≤ n) (h2 : n ≤ 100000) : CallD Try.prog 20 [.ptr id 0, I n] h (I (nV L a n)) (nH h id L a) := by
  refine C20 (tb_ok []) ?_
  have hb1 := nV_ge L a h1
  have hb2 := nV_lt L a h1
  have t1 := tmod_gt (x := L.getD a 0) h1
  have t2 := tmod_lt (x := L.getD a 0) h1
  unfold OkL at hL
  have hc' : h.cellsAt id = some [ints L, I a] := hc
  by_cases hlt : a < L.length
  · simp (disch := first | (simp; done) | omega | (simp only [nx_add, nx_set, nx_kill, nx_mk, nx_emp]; omega) | fail) [g20]
    refine ⟨fun vs h' => vs = [.ptr id 0, I n, .bool false] ∧ h' = ⟨h.H, h.nx + 14⟩, ?_, ?_⟩
    · simp (disch := first | (simp; done) | omega | (simp only [nx_add, nx_set, nx_kill, nx_mk, nx_emp]; omega) | fail) [g20_a1, hc', kLen_ints]
      simp (disch := first | (simp; done) | omega | (simp only [nx_add, nx_set, nx_kill, nx_mk, nx_emp]; omega) | fail) [g20_s1, hc', kLen_ints]
      omega
    · rintro vs h' ⟨rfl, rfl⟩
      simp (disch := first | (simp; done) | omega | (simp only [nx_add, nx_set, nx_kill, nx_mk, nx_emp]; omega) | fail) [g20_j4, hc', kLen_ints]
      simp (disch := first | (simp; done) | omega | (simp only [nx_add, nx_set, nx_kill, nx_mk, nx_emp]; omega) | fail) [g20_s3, hc', kIdx_ints _ _ _ hlt]
      have hxe : L[a] = L.getD a 0 := by simp [List.getD, hlt]
      have hv : nV L a n = if 0 ≤ (L.getD a 0).tmod n then (L.getD a 0).tmod n else (L.getD a 0).tmod n + n := by unfold nV; rw [if_pos hlt]
      have hh : nH h id L a = ⟨(h.set id (.cells (srcC L (a + 1)))).H, h.nx + 27⟩ := by unfold nH; rw [if_pos hlt]
      have hn0 : n ≠ 0 := by omega
      rw [hxe, hv, hh]
      generalize L.getD a 0 = x at *
      simp (disch := first | (simp; done) | omega | (simp only [nx_add, nx_set, nx_kill, nx_mk, nx_emp]; omega) | fail) [kArith_rem, hn0, hc']
      simp (disch := first | (simp; done) | omega | (simp only [nx_add, nx_set, nx_kill, nx_mk, nx_emp]; omega) | fail) [g20_s2, hc']
      refine ⟨fun vs h' => vs = [I (if 0 ≤ x.tmod n then x.tmod n else x.tmod n + n)] ∧ h' = ⟨(h.set id (.cells (srcC L (a + 1)))).H, h.nx + 27⟩, ?_, ?_⟩
      · by_cases h0 : 0 ≤ x.tmod n
        · have h0' : ¬ x.tmod n < 0 := by omega
          simp (disch := first | (simp; done) | omega | (simp only [nx_add, nx_set, nx_kill, nx_mk, nx_emp]; omega) | fail) [g20_a2, h0, h0']
          rfl
        · have h0' : x.tmod n < 0 := by omega
          simp (disch := first | (simp; done) | omega | (simp only [nx_add, nx_set, nx_kill, nx_mk, nx_emp]; omega) | fail) [g20_a2, h0, h0']
          rfl
      · rintro vs h' ⟨rfl, rfl⟩
        simp (disch := first | (simp; done) | omega | (simp only [nx_add, nx_set, nx_kill, nx_mk, nx_emp]; omega) | fail) [g20_j3]
  · simp (disch := first | (simp; done) | omega | (simp only [nx_add, nx_set, nx_kill, nx_mk, nx_emp]; omega) | fail) [g20]
    refine ⟨fun vs h' => vs = [.ptr id 0, I n, .bool true] ∧ h' = ⟨h.H, h.nx + 14⟩, ?_, ?_⟩
    · simp (disch := first | (simp; done) | omega | (simp only [nx_add, nx_set, nx_kill, nx_mk, nx_emp]; omega) | fail) [g20_a1, hc', kLen_ints]
      simp (disch := first | (simp; done) | omega | (simp only [nx_add, nx_set, nx_kill, nx_mk, nx_emp]; omega) | fail) [g20_s1, hc', kLen_ints]
      omega
    · rintro vs h' ⟨rfl, rfl⟩
      simp (disch := first | (simp; done) | omega | (simp only [nx_add, nx_set, nx_kill, nx_mk, nx_emp]; omega) | fail) [g20_j4, hc', kLen_ints, nV, nH, hlt]
/-- what a call that reads numbers does to the heap: only the reader's object turns -/
structure Upd (h h1 : AH) (id : Nat) : Prop where
  lo : h.nx ≤ h1.nx
  hi : h1.nx ≤ h.nx + 60
  get : ∀ i, i ≠ id → i < h.nx → h1.H.get i = h.H.get i
  wf : (∀ i, h.nx ≤ i → h.H.get i = none) → ∀ i, h1.nx ≤ i → h1.H.get i = none
theorem upd_nH {h : AH} {id : Nat} {L : List Int} {a : Nat} (hid : id < h.nx) : Upd h (nH h id L a) id := by
  have := nx_nH h id L a
  refine ⟨this.1, by omega, fun i hi _ => get_nH h id L a hi, fun hw i hi => ?_⟩
  rw [get_nH h id L a (by omega)]
  exact hw i (by omega)
def e20 : QE Try.prog := ⟨20, fun args h Q => ∃ id L a n, args = [.ptr id 0, I n] ∧ (h.cellsAt id = some (srcC L a) ∧ a ≤ L.length ∧ OkL L ∧ 1 ≤ n ∧ n ≤ 100000) ∧ Q (I (nV L a n)) (nH h id L a), fun args h Q ⟨id, L, a, n, h1, ⟨h2, h3, h4, h5, h6⟩, h7⟩ => by
  subst h1; exact ⟨_, _, n_d h2 h3 h4 h5 h6, h7⟩⟩
theorem e20_h {tl : List (QE Try.prog)} {id : Nat} {L : List Int} {a : Nat} {n : Int} {h : AH} {Q : AV → AH → Prop} (hx : h.cellsAt id = some (srcC L a) ∧ a ≤ L.length ∧ OkL L ∧ 1 ≤ n ∧ n ≤ 100000) (hq : Q (I (nV L a n)) (nH h id L a)) : tb (e20 :: tl) 20 [.ptr id 0, I n] h Q := by
  rw [tb_here e20 tl 20 _ _ _ rfl]
  exact ⟨id, L, a, n, rfl, hx, hq⟩
@[simp ↓] theorem e20_t (tl : List (QE Try.prog)) (f : Nat) (args : List AV) (h : AH) (Q : AV → AH → Prop) (hf : 20 ≠ f) : tb (e20 :: tl) f args h Q = tb tl f args h Q := tb_there e20 tl f args h Q hf
/-- the reader stands -/
structure Src (h : AH) (id : Nat) (L : List Int) (a : Nat) : Prop where
  c : h.cellsAt id = some (srcC L a)
  le : a ≤ L.length
  ok : OkL L
  lt : id < h.nx
theorem Src.nH {h : AH} {id : Nat} {L : List Int} {a : Nat} (hs : Src h id L a) : Src (nH h id L a) id L (nxA L a) :=
  ⟨cells_nH hs.c, nxA_le L hs.le, hs.ok, Nat.lt_of_lt_of_le hs.lt (nx_nH h id L a).1⟩
theorem N_step {tl : List (QE Try.prog)} {id : Nat} {L : List Int} {a : Nat} {n : Int} {h : AH} {Q : AV → AH → Prop} (hs : Src h id L a) (h1 : 1 ≤ n) (h2 : n ≤ 100000)
    (hq : ∀ h1, Src h1 id L (nxA L a) → Upd h h1 id → Q (I (nV L a n)) h1) : tb (e20 :: tl) 20 [.ptr id 0, I n] h Q :=
  e20_h ⟨hs.c, hs.le, hs.ok, h1, h2⟩ (hq _ hs.nH (upd_nH hs.lt))
theorem r_d {h : AH} {id : Nat} {L : List Int} {a : Nat} {lo hi : Int} (hc : h.cellsAt id = some (srcC L a)) (ha : a ≤ L.length) (hL : OkL L) (h0 : -10000 ≤ lo) (h1 : lo ≤ hi) (h2 : hi ≤ 10000) : CallD Try.prog 21 [.ptr id 0, I lo, I hi] h (I (lo + nV L a (hi - lo + 1))) (nH h id L a) := by
  refine C21 (tb_ok [e20]) ?_
  have hb1 := nV_ge L a (show 1 ≤ hi - lo + 1 by omega)
  have hb2 := nV_lt L a (show 1 ≤ hi - lo + 1 by omega)
  simp (disch := first | (simp; done) | omega | (simp only [nx_add, nx_set, nx_kill, nx_mk, nx_emp]; omega) | fail) [g21]
  refine e20_h ⟨hc, ha, hL, by omega, by omega⟩ ?_
  simp (disch := first | (simp; done) | omega | (simp only [nx_add, nx_set, nx_kill, nx_mk, nx_emp]; omega) | fail)
def e21 : QE Try.prog := ⟨21, fun args h Q => ∃ id L a lo hi, args = [.ptr id 0, I lo, I hi] ∧ (h.cellsAt id = some (srcC L a) ∧ a ≤ L.length ∧ OkL L ∧ -10000 ≤ lo ∧ lo ≤ hi ∧ hi ≤ 10000) ∧ Q (I (lo + nV L a (hi - lo + 1))) (nH h id L a), fun args h Q ⟨id, L, a, lo, hi, h1, ⟨h2, h3, h4, h5, h6, h7⟩, h8⟩ => by
  subst h1; exact ⟨_, _, r_d h2 h3 h4 h5 h6 h7, h8⟩⟩
@[simp ↓] theorem e21_t (tl : List (QE Try.prog)) (f : Nat) (args : List AV) (h : AH) (Q : AV → AH → Prop) (hf : 21 ≠ f) : tb (e21 :: tl) f args h Q = tb tl f args h Q := tb_there e21 tl f args h Q hf
theorem R_step {tl : List (QE Try.prog)} {id : Nat} {L : List Int} {a : Nat} {lo hi m : Int} {h : AH} {Q : AV → AH → Prop} (hs : Src h id L a) (h0 : -10000 ≤ lo) (h1 : lo ≤ hi) (h2 : hi ≤ 10000) (hm : m = hi - lo + 1)
    (hq : ∀ h1, Src h1 id L (nxA L a) → Upd h h1 id → Q (I (lo + nV L a m)) h1) : tb (e21 :: tl) 21 [.ptr id 0, I lo, I hi] h Q := by
  rw [tb_here e21 tl 21 _ _ _ rfl]
  subst hm
  exact ⟨id, L, a, lo, hi, rfl, ⟨hs.c, hs.le, hs.ok, h0, h1, h2⟩, hq _ hs.nH (upd_nH hs.lt)⟩
/-! A new reader. -/
def newL (l : List Int) : List Int := l.take 4000
theorem newL_ok (l : List Int) : OkL (newL l) := by unfold OkL newL; simp; omega
theorem kSl_ints (l : List Int) (hl : 4000 ≤ l.length) (h : AH) : kSl h 1 (ints l) none (some (I 4000)) none = some (ints (newL l), h) := by
  have hall : (l.map fun x => [I x]).all (fun x => x.length == 1) = true := by simp
  have q2 : (4000 : Int) ≤ l.length := by omega
  simp [kSl, aslice, asl, alen, abd, aidx, ints, q2, newL]
theorem new_d {h : AH} {l : List Int} (hl : SmX l) : CallD Try.prog 18 [ints l] h (.ptr h.nx 0) (h.add (.cells (srcC (newL l) 0))) := by
  refine C18 (tb_ok []) ?_
  unfold SmX at hl
  simp (disch := first | (simp; done) | omega | (simp only [nx_add, nx_set, nx_kill, nx_mk, nx_emp]; omega) | fail) [g18, kLen_ints]
  refine ⟨fun vs h' => vs = [ints (newL l)] ∧ h' = h, ?_, ?_⟩
  · by_cases h1 : 4000 < l.length
    · have h1' : ¬ (l.length : Int) ≤ 4000 := by omega
      simp (disch := first | (simp; done) | omega | (simp only [nx_add, nx_set, nx_kill, nx_mk, nx_emp]; omega) | fail) [g18_a1, h1', kSl_ints l (by omega)]
    · have : newL l = l := by unfold newL; rw [List.take_of_length_le (by omega)]
      have h1' : ¬ (4000 : Int) < l.length := by omega
      simp (disch := first | (simp; done) | omega | (simp only [nx_add, nx_set, nx_kill, nx_mk, nx_emp]; omega) | fail) [g18_a1, h1', this]
  · rintro vs h' ⟨rfl, rfl⟩
    simp (disch := first | (simp; done) | omega | (simp only [nx_add, nx_set, nx_kill, nx_mk, nx_emp]; omega) | fail) [g18_j2, ints]
    rfl
end Go.Proofs.Ytpnekpbehcbmkaa
end
noncomputable section
namespace Go.Proofs.Ytpnekpbehcbmkaa
open Go.Eng
def wV (L : List Int) (a : Nat) : List UInt8 := if nV L a 2 = 0 then [] else [UInt8.ofNat (97 + nV L (nxA L a) 4).toNat]
def wA (L : List Int) (a : Nat) : Nat := if nV L a 2 = 0 then nxA L a else nxA L (nxA L a)
def wH (h : AH) (id : Nat) (L : List Int) (a : Nat) : AH := if nV L a 2 = 0 then (nH h id L a).add (.cells []) else (nH ((nH h id L a).add (.cells [.int .u8 0])) id L (nxA L a)).set (nH h id L a).nx (.cells [.int .u8 (97 + nV L (nxA L a) 4)])
theorem w_d {h : AH} {id : Nat} {L : List Int} {a : Nat} (hs : Src h id L a) : CallD Try.prog 50 [.ptr id 0, I 1] h (.str (wV L a)) (wH h id L a) := by
  refine C50 (tb_ok [e20]) ?_
  have hb1 := nV_ge L a (show (1 : Int) ≤ 2 by omega)
  have hb2 := nV_lt L a (show (1 : Int) ≤ 2 by omega)
  simp (disch := first | (simp; done) | omega | (simp only [nx_add, nx_set, nx_kill, nx_mk, nx_emp]; omega) | fail) [g50]
  refine e20_h ⟨hs.c, hs.le, hs.ok, by omega, by omega⟩ ?_
  have hs1 := hs.nH
  have hn1 := nx_nH h id L a
  have hlt := hs.lt
  by_cases h0 : nV L a 2 = 0
  · have hw : wH h id L a = (nH h id L a).add (.cells []) := by unfold wH; rw [if_pos h0]
    have hv : wV L a = [] := by unfold wV; rw [if_pos h0]
    rw [hw, hv, h0]
    generalize nH h id L a = h1 at *
    refine wk_of (v := .rsl h1.nx 0 0 1) (h := h1.add (.cells [])) rfl ?_
    refine ⟨fun m vs h' => m = 0 ∧ vs = [.ptr id 0, I 0, .rsl h1.nx 0 0 1, I 0] ∧ h' = h1.add (.cells []), 0, ?_, ?_⟩
    · simp
    · rintro m vs h' ⟨rfl, rfl, rfl⟩
      simp (disch := first | (simp; done) | omega | (simp only [nx_add, nx_set, nx_kill, nx_mk, nx_emp]; omega) | fail) [g50_l1]
      simp (disch := first | (simp; done) | omega | (simp only [nx_add, nx_set, nx_kill, nx_mk, nx_emp]; omega) | fail) [g50_j3, g50_c2]
      simp [kX, acells, alen, bytesI, cut]
  · have h0' : nV L a 2 = 1 := by omega
    have hw : wH h id L a = (nH ((nH h id L a).add (.cells [.int .u8 0])) id L (nxA L a)).set (nH h id L a).nx (.cells [.int .u8 (97 + nV L (nxA L a) 4)]) := by unfold wH; rw [if_neg h0]
    have hv : wV L a = [UInt8.ofNat (97 + nV L (nxA L a) 4).toNat] := by unfold wV; rw [if_neg h0]
    have hx1 := nV_ge L (nxA L a) (show (1 : Int) ≤ 4 by omega)
    have hx2 := nV_lt L (nxA L a) (show (1 : Int) ≤ 4 by omega)
    rw [hw, hv, h0']
    generalize nH h id L a = h1 at *
    have hltx : id < h1.nx := by omega
    have hsA : Src (h1.add (.cells [.int .u8 0])) id L (nxA L a) := ⟨by rw [cellsAt_add_ne _ _ _ (by omega)]; exact hs1.c, hs1.le, hs1.ok, by simp; omega⟩
    have hcA : (h1.add (.cells [.int .u8 0])).cellsAt h1.nx = some [.int .u8 0] := cellsAt_add_self _ _ _ rfl
    refine wk_of (v := .rsl h1.nx 0 1 1) (h := h1.add (.cells [.int .u8 0])) rfl ?_
    generalize h1.add (.cells [.int .u8 0]) = hA at *
    have hcB : (nH hA id L (nxA L a)).cellsAt h1.nx = some [.int .u8 0] := by rw [cellsAt_congr (get_nH hA id L _ (by omega))]; exact hcA
    refine ⟨fun m vs h' => (m = 1 ∧ vs = [.ptr id 0, I 1, .rsl h1.nx 0 1 1, I 0] ∧ h' = hA) ∨ (m = 0 ∧ vs = [.ptr id 0, I 1, .rsl h1.nx 0 1 1, I 1] ∧ h' = (nH hA id L (nxA L a)).set h1.nx (.cells [.int .u8 (97 + nV L (nxA L a) 4)])), 1, ?_, ?_⟩
    · simp
    · rintro m vs h' (⟨rfl, rfl, rfl⟩ | ⟨rfl, rfl, rfl⟩)
      · simp (disch := first | (simp; done) | omega | (simp only [nx_add, nx_set, nx_kill, nx_mk, nx_emp]; omega) | fail) [g50_l1]
        refine e20_h ⟨hsA.c, hsA.le, hsA.ok, by omega, by omega⟩ ?_
        generalize nH h' id L (nxA L a) = hB at *
        generalize nV L (nxA L a) 4 = x at *
        simp (disch := first | (simp; done) | omega | (simp only [nx_add, nx_set, nx_kill, nx_mk, nx_emp]; omega) | fail) [g50_s1]
        have hwr : IntKind.u8.wrap (97 + x) = 97 + x := by
          obtain rfl | rfl | rfl | rfl : x = 0 ∨ x = 1 ∨ x = 2 ∨ x = 3 := by omega
          all_goals rfl
        rw [hwr, kIdxA_rsl (i := 0) (by omega) (by simp)]
        simp (disch := first | (simp; done) | omega | (simp only [nx_add, nx_set, nx_kill, nx_mk, nx_emp]; omega) | fail) [hcB]
      · simp (disch := first | (simp; done) | omega | (simp only [nx_add, nx_set, nx_kill, nx_mk, nx_emp]; omega) | fail) [g50_l1]
        simp (disch := first | (simp; done) | omega | (simp only [nx_add, nx_set, nx_kill, nx_mk, nx_emp]; omega) | fail) [g50_j3, g50_c2]
        simp [kX, acells, alen, bytesI, cut]
/-- a word is read, too -/
theorem upd_wH {h : AH} {id : Nat} {L : List Int} {a : Nat} (hs : Src h id L a) : Upd h (wH h id L a) id := by
  have u1 := upd_nH (h := h) (L := L) (a := a) hs.lt
  have hn1 := nx_nH h id L a
  have hlt := hs.lt
  unfold wH
  split
  · refine ⟨by simp; omega, by simp; omega, fun i hi hl => ?_, fun hw i hi => ?_⟩
    · rw [get_add, if_neg (by omega)]; exact u1.get i hi hl
    · simp at hi
      rw [get_add, if_neg (by omega)]; exact u1.wf hw i (by omega)
  · generalize nH h id L a = h1 at *
    have u2 := upd_nH (h := h1.add (.cells [.int .u8 0])) (L := L) (a := nxA L a) (id := id) (by simp; omega)
    have hn2 := nx_nH (h1.add (.cells [.int .u8 0])) id L (nxA L a)
    simp at hn2
    refine ⟨by simp; omega, by simp; omega, fun i hi hl => ?_, fun hw i hi => ?_⟩
    · rw [get_set, if_neg (by omega), u2.get i hi (by simp; omega), get_add, if_neg (by omega)]; exact u1.get i hi hl
    · simp at hi
      rw [get_set, if_neg (by omega)]
      refine u2.wf (fun j hj => ?_) i hi
      simp at hj
      rw [get_add, if_neg (by omega)]
      exact u1.wf hw j (by omega)
theorem Src.wH {h : AH} {id : Nat} {L : List Int} {a : Nat} (hs : Src h id L a) : Src (wH h id L a) id L (wA L a) := by
  have hs1 := hs.nH
  have hn1 := nx_nH h id L a
  have hlt := hs.lt
  have hu := upd_wH hs
  refine ⟨?_, ?_, hs.ok, by have := hu.lo; omega⟩
  · unfold Go.Proofs.Ytpnekpbehcbmkaa.wH wA
    split
    · rw [cellsAt_add_ne _ _ _ (by omega)]; exact hs1.c
    · rw [cellsAt_set_ne _ _ _ _ (by omega)]
      exact cells_nH (by rw [cellsAt_add_ne _ _ _ (by omega)]; exact hs1.c)
  · unfold wA; split
    · exact hs1.le
    · exact nxA_le _ hs1.le
def e50 : QE Try.prog := ⟨50, fun args h Q => ∃ id L a, args = [.ptr id 0, I 1] ∧ Src h id L a ∧ Q (.str (wV L a)) (wH h id L a), fun args h Q ⟨id, L, a, h1, h2, h3⟩ => by
  subst h1; exact ⟨_, _, w_d h2, h3⟩⟩
theorem W_step {tl : List (QE Try.prog)} {id : Nat} {L : List Int} {a : Nat} {h : AH} {Q : AV → AH → Prop} (hs : Src h id L a)
    (hq : ∀ h1, Src h1 id L (wA L a) → Upd h h1 id → Q (.str (wV L a)) h1) : tb (e50 :: tl) 50 [.ptr id 0, I 1] h Q := by
  rw [tb_here e50 tl 50 _ _ _ rfl]
  exact ⟨id, L, a, rfl, hs, hq _ hs.wH (upd_wH hs)⟩
end Go.Proofs.Ytpnekpbehcbmkaa
end
