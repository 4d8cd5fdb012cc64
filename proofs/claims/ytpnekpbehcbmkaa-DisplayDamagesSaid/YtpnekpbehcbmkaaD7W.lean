/- What the reference's extents of a list of commands are: those of the program. What the reference's damage between two lists is: that of the program. What the law's call of every public function on raw lists answers. What the law on raw lists computes, as a plain function of its data. -/
import Derived.Test.YtpnekpbehcbmkaaD9B
set_option linter.unusedSimpArgs false
set_option linter.unusedVariables false
set_option linter.unnecessarySimpa false
noncomputable section
namespace Go.Proofs.Ytpnekpbehcbmkaa
open Go.Eng
/-! The reference's extents. -/
def tfe (o : Option Tf) : List AV := (o.getD zT).enc
theorem tfe_len (o : Option Tf) : (tfe o).length = 5 := Tf.len _
theorem stk_at {α : Type} {e : α → List AV} {z : Nat} (he : ∀ a, (e a).length = z) {cs : List AV} : ∀ {st : List α} (_ : cut cs 0 (st.length * z) = some (bot e st)) (j : Nat) (hj : j < st.length), cut cs ((st.length - 1 - j) * z) z = some (e st[j])
  | a :: st, h, 0, _ => by have := (stk_top he h).1; simpa using this
  | a :: st, h, j + 1, hj => by
    have := stk_at he (stk_top he h).2 j (by simpa using hj)
    rw [show (a :: st).length - 1 - (j + 1) = st.length - 1 - j by simp; omega]
    simpa using this
theorem cut_at {cs x : List AV} {o n i : Nat} {c : AV} (h : cut cs o n = some x) (hi : x[i]? = some c) : cs[o + i]? = some c := by
  obtain ⟨_, rfl⟩ := cut_eq h
  rw [List.getElem?_take] at hi
  split at hi
  · rw [List.getElem?_drop] at hi; exact hi
  · cases hi
theorem exts_past (f t : Nat) : ∀ (l : List Cmd) (st : List (Option Tf)) (i : Nat) (out : List Rect), t ≤ i → exts f t st i l out = some out
  | [], _, _, _, _ => rfl
  | c :: l, st, i, out, h => by
    have hn : ¬ (f ≤ i ∧ i < t) := by omega
    have ih := fun st => exts_past f t l st (i + 1) out (by omega)
    unfold exts
    rw [if_neg hn]
    (repeat' split) <;> exact ih _
structure EJ (h : AH) (vo vu : AV) (st : List (Option Tf)) (out : List Rect) (io iu : Nat) : Prop where
  op : (st = [] ∧ vo = .nilsl) ∨ (vo = .rsl io 0 st.length 5 ∧ Stk 5 tfe io h st)
  ou : (out = [] ∧ vu = .nilsl) ∨ (out ≠ [] ∧ vu = .rsl iu 0 out.length 4 ∧ iu < h.nx ∧ h.cellsAt iu = some (flatR out))
  ne : vo ≠ .nilsl → vu ≠ .nilsl → io ≠ iu
theorem EJ.keep {h h' : AH} {vo vu : AV} {st : List (Option Tf)} {out : List Rect} {io iu : Nat} (he : EJ h vo vu st out io iu) {b : Nat} (hk : Kp b h h') (hb : h.nx ≤ b) : EJ h' vo vu st out io iu := by
  refine ⟨?_, ?_, he.ne⟩
  · rcases he.op with q | ⟨q1, ⟨q3, cs, q4, q5⟩⟩
    · exact .inl q
    · exact .inr ⟨q1, ⟨Nat.lt_of_lt_of_le q3 hk.1, cs, (hk.2 io q3 (by omega)).trans q4, q5⟩⟩
  · rcases he.ou with q | ⟨q0, q1, q3, q4⟩
    · exact .inl q
    · exact .inr ⟨q0, q1, Nat.lt_of_lt_of_le q3 hk.1, (hk.2 iu q3 (by omega)).trans q4⟩
theorem EJ.push {h h' : AH} {vo vu : AV} {st : List (Option Tf)} {out : List Rect} {io iu : Nat} (he : EJ h vo vu st out io iu) (s : Option Tf) {h1 : AH} {b nid : Nat} {x : List AV} (hk : Kp b h h1) (hb : h.nx ≤ b ∨ (vo ≠ .nilsl ∧ b = io)) (hn : nid = h1.nx) (hx : x = tfe s) (hh : h' = h1.add (.cells (bot tfe st ++ x))) :
    EJ h' (.rsl nid 0 (st.length + 1) 5) vu (s :: st) out nid iu := by
  have h1nx := hk.1
  subst hh
  refine ⟨.inr ⟨rfl, Stk.push' tfe_len hn hx⟩, ?_, fun _ hu => ?_⟩
  · rcases he.ou with q | ⟨q0, q1, q3, q4⟩
    · exact .inl q
    · have hbu : iu ≠ b := by
        rcases hb with hb | ⟨hb1, hb2⟩
        · omega
        · have := he.ne hb1 (by rw [q1]; simp); omega
      refine .inr ⟨q0, q1, by simp; omega, ?_⟩
      rw [cellsAt_add, if_neg (by omega)]; exact (hk.2 iu q3 hbu).trans q4
  · rcases he.ou with q | ⟨q0, q1, q3, q4⟩
    · exact absurd q.2 hu
    · omega
theorem EJ.more {h h' : AH} {vo vu : AV} {st : List (Option Tf)} {out : List Rect} {io iu : Nat} (he : EJ h vo vu st out io iu) (r : Rect) {h1 : AH} {b nid : Nat} {x : List AV} (hk : Kp b h h1) (hb : h.nx ≤ b ∨ (vu ≠ .nilsl ∧ b = iu)) (hn : nid = h1.nx) (hx : x = r.enc) (hh : h' = h1.add (.cells (flatR out ++ x))) :
    EJ h' vo (.rsl nid 0 (out.length + 1) 4) st (out ++ [r]) io nid := by
  have h1nx := hk.1
  subst hh
  refine ⟨?_, .inr ⟨by simp, by simp, by simp [hn], ?_⟩, fun ho _ => ?_⟩
  · rcases he.op with q | ⟨q1, ⟨q3, cs, q4, q5⟩⟩
    · exact .inl q
    · have hbo : io ≠ b := by
        rcases hb with hb | ⟨hb1, hb2⟩
        · omega
        · have := he.ne (by rw [q1]; simp) hb1; omega
      refine .inr ⟨q1, ⟨by simp; omega, cs, ?_, q5⟩⟩
      rw [cellsAt_add, if_neg (by omega)]; exact (hk.2 io q3 hbo).trans q4
  · rw [hn, cellsAt_add, if_pos rfl, hx, flat_app]; simp [flatR]
  · rcases he.op with q | ⟨q1, ⟨q3, _⟩⟩
    · exact absurd q.2 ho
    · omega
theorem EJ.pop {h : AH} {vo vu : AV} {s : Option Tf} {st : List (Option Tf)} {out : List Rect} {io iu : Nat} (he : EJ h vo vu (s :: st) out io iu) : EJ h (.rsl io 0 st.length 5) vu st out io iu := by
  rcases he.op with ⟨q, _⟩ | ⟨q1, ⟨q3, cs, q4, q5⟩⟩
  · cases q
  · exact ⟨.inr ⟨rfl, q3, cs, q4, (stk_top tfe_len q5).2⟩, he.ou, fun _ h2 => he.ne (by rw [q1]; simp) h2⟩
def rxI (l : List Cmd) (f t : Nat) (R : Option (List Rect)) (m : Nat) (vs : List AV) (h : AH) : Prop := ∃ (i : Nat) (vo vu : AV) (st : List (Option Tf)) (out : List Rect) (io iu : Nat) (g : Tf) (gr : List Tf), i ≤ t ∧ m = t - i ∧ vs = [cmds l, I f, I t, vu, vo, I i] ∧
  EJ h vo vu st out io iu ∧ vrun (g :: gr) (l.drop i) = 0 ∧ gr.length = st.length ∧ (∀ tt, some tt ∈ st → okT tt = true) ∧ exts f t st i (l.drop i) out = R ∧ out.length ≤ i ∧ st.length ≤ i
def rxM (l : List Cmd) (f t i : Nat) (R : Option (List Rect)) (c : Cmd) (st : List (Option Tf)) (x : AX) (vs : List AV) (h : AH) : Prop :=
  (x = .nrm ∧ ∃ vo vu st' out io iu, vs = [cmds l, I f, I t, .undef, .undef, vu, vo, I i] ∧ EJ h vo vu st' out io iu ∧ st' = (if c.kind = 1 then none :: st else if c.kind = 2 then some c.t :: st else if c.kind = 3 then st.tail else st) ∧ exts f t st' (i + 1) (l.drop (i + 1)) out = R ∧ out.length ≤ i + 1) ∨
  (x = .ret ∧ ∃ vo vu, vs = [cmds l, I f, I t, .nilsl, .bool false, vu, vo, I i] ∧ R = none)
def rjI (l : List Cmd) (f t i idr : Nat) (vu vo : AV) (st : List (Option Tf)) (E : Option Rect) (h : AH) (m : Nat) (vs : List AV) (hh : AH) : Prop := ∃ (j : Nat) (q : Rect), j ≤ st.length ∧ m = st.length - j ∧ vs = [cmds l, I f, I t, vu, vo, I i, .ptr idr 0, I ((st.length : Int) - 1 - j)] ∧
  hh.cellsAt idr = some q.enc ∧ Kp idr h hh ∧ idr < hh.nx ∧ okR q = true ∧ ext1 (st.drop j) q = E
def rjM (l : List Cmd) (f t i idr j : Nat) (vu vo : AV) (st : List (Option Tf)) (E : Option Rect) (h : AH) (x : AX) (vs : List AV) (hh : AH) : Prop :=
  (x = .nrm ∧ ∃ q : Rect, vs = [cmds l, I f, I t, .undef, .undef, vu, vo, I i, .ptr idr 0, I ((st.length : Int) - 1 - j)] ∧ hh.cellsAt idr = some q.enc ∧ Kp idr h hh ∧ idr < hh.nx ∧ okR q = true ∧ ext1 (st.drop (j + 1)) q = E) ∨
  (x = .ret ∧ vs = [cmds l, I f, I t, .nilsl, .bool false, vu, vo, I i, .ptr idr 0, I ((st.length : Int) - 1 - j)] ∧ E = none)
theorem rextents_e (l : List Cmd) (f t : Nat) (hl : SmL l) (hv : validate l = 0) (ht : t ≤ l.length) : CallsA Try.prog 57 [cmds l, I f, I t] emp (exR (exts f t [] 0 l [])) := by
  refine C57 (tb_ok [e41, e78]) ?_
  have hlen := valid_len hv
  have hv2 : vrun [tf1] l = 0 := by unfold validate at hv; rwa [if_neg (by omega)] at hv
  simp (disch := first | (simp; done) | omega | (simp only [nx_add, nx_set, nx_kill, nx_mk, nx_emp]; omega) | fail) [g57]
  refine ⟨rxI l f t (exts f t [] 0 l []), t, ⟨0, .nilsl, .nilsl, [], [], 0, 0, tf1, [], by omega, rfl, rfl, ⟨.inl ⟨rfl, rfl⟩, .inl ⟨rfl, rfl⟩, fun h => absurd rfl h⟩, hv2, rfl, fun tt h => (by simp at h), rfl, by simp, by simp⟩, ?_⟩
  generalize exts f t [] 0 l [] = R
  rintro m vs h ⟨i, vo, vu, st, out, io, iu, g, gr, hi, rfl, rfl, he, hrun, hgl, hok, hex, hol, hsl⟩
  by_cases hlt : i < t
  · have hlt' : (i : Int) < t := by omega
    have hil : i < l.length := by omega
    have hd : l.drop i = l[i] :: l.drop (i + 1) := List.drop_eq_getElem_cons hil
    rw [hd] at hrun hex
    obtain ⟨c, hc⟩ : ∃ c, c = l[i] := ⟨_, rfl⟩
    rw [← hc] at hrun hex
    obtain ⟨g', gr', hrun', hcase, hnear, hrect⟩ := step_ok hrun
    have htf := fun k => vrun_t hrun k
    simp (disch := first | (simp; done) | omega | (simp only [nx_add, nx_set, nx_kill, nx_mk, nx_emp]; omega) | fail) [g57_l10, hlt', hil, ← hc]
    refine ⟨rxM l f t i R c st, ?_, ?_⟩
    · simp (disch := first | (simp; done) | omega | (simp only [nx_add, nx_set, nx_kill, nx_mk, nx_emp]; omega) | fail) [g57_a8, hlt', hil, ← hc]
      obtain ⟨H, hH⟩ : ∃ H, H = (h.add (.cells [.int .i64 0, .int .i64 0, .int .i64 0, .int .i64 0, .int .i64 0, .int .i64 0, .bool false, .int .i64 0, .int .i64 0, .int .i64 0, .int .i64 0, .str [], .int .i64 0, .int .i64 0, .int .i64 0, .int .i64 0, .int .i64 0, .int .i64 0, .int .i64 0, .int .i64 0, .int .i64 0, .nilsl])).set h.nx (.cells c.enc) := ⟨_, rfl⟩
      rw [← hH]
      have hkH : Kp h.nx h H := by
        refine ⟨by subst hH; simp, fun id q1 q2 => ?_⟩
        subst hH
        simp only [cellsAt_add, cellsAt_set, nx_add, nx_set]
        repeat rw [if_neg (by omega)]
      have heH : EJ H vo vu st out io iu := he.keep hkH (Nat.le_refl _)
      have hcH : H.cellsAt h.nx = some c.enc := by subst hH; simp
      have hnH : H.nx = h.nx + 1 := by subst hH; simp
      have hios : ∀ cs, vo = .rsl io 0 st.length 5 → H.cellsAt io = some cs → io < h.nx := fun cs q1 q2 => by
        rcases he.op with ⟨_, q⟩ | ⟨_, q⟩
        · rw [q] at q1; cases q1
        · exact q.lt
      clear hH
      have hst2 : st.length ≤ 20000 := by omega
      have hzc : cut [AV.int .i64 0, .bool false, .int .i64 0, .int .i64 0, .int .i64 0] 0 5 = some [.int .i64 0, .bool false, .int .i64 0, .int .i64 0, .int .i64 0] := rfl
      refine ⟨fun k3 => ?_, fun k3 => ?_⟩
      · have hgo : exts f t st.tail (i + 1) (l.drop (i + 1)) out = R := by rw [← hex]; simp [exts, k3]
        have hs : st.tail = (if c.kind = 1 then none :: st else if c.kind = 2 then some c.t :: st else if c.kind = 3 then st.tail else st) := by rw [if_neg (by omega), if_neg (by omega), if_pos k3]
        cases st with
        | nil =>
          exfalso
          rcases hcase with ⟨_, e⟩ | ⟨k, _⟩ | ⟨k, _⟩
          · subst e; simp at hgl
          · omega
          · omega
        | cons s2 st2 =>
          have hvo : vo = .rsl io 0 (st2.length + 1) 5 := by
            rcases heH.op with ⟨q, _⟩ | ⟨q, _⟩
            · cases q
            · exact q
          subst hvo
          simp at hst2
          simp (disch := first | (simp; done) | omega | (simp only [nx_add, nx_set, nx_kill, nx_mk, nx_emp]; omega) | fail) [g57_s1, kSl_hi]
          exact .inl ⟨rfl, _, _, _, _, _, _, rfl, heH.pop, hs, hgo, by omega⟩
      by_cases k1 : c.kind = 1
      · have hgo : exts f t (none :: st) (i + 1) (l.drop (i + 1)) out = R := by rw [← hex]; simp [exts, k1]
        have hs : (none :: st) = (if c.kind = 1 then none :: st else if c.kind = 2 then some c.t :: st else if c.kind = 3 then st.tail else st) := by rw [if_pos k1]
        rcases heH.op with ⟨rfl, rfl⟩ | ⟨rfl, ⟨hio, cs, hcs, hcut⟩⟩
        · simp (disch := first | (simp; done) | omega | (simp only [nx_add, nx_set, nx_kill, nx_mk, nx_emp]; omega) | fail) [g57_s4, k1, hzc]
          refine .inl ⟨rfl, _, _, _, _, _, _, rfl, EJ.push heH none (b := H.nx) ⟨?_, ?_⟩ (.inl (Nat.le_refl _)) ?_ rfl rfl, hs, hgo, by omega⟩
          · simp
          · intro id q1 q2
            simp only [cellsAt_add, cellsAt_set, cellsAt_kill, nx_add, nx_set, nx_kill]
            repeat rw [if_neg (by omega)]
          · simp
        · have n3 : ¬ io = H.nx := by omega
          simp (disch := first | (simp; done) | omega | (simp only [nx_add, nx_set, nx_kill, nx_mk, nx_emp]; omega) | fail) [g57_s4, k1, hzc, n3, hcs, hcut]
          refine .inl ⟨rfl, _, _, _, _, _, _, rfl, EJ.push heH none (b := io) ⟨?_, ?_⟩ (.inr ⟨by simp, rfl⟩) ?_ rfl rfl, hs, hgo, by omega⟩
          · simp
          · intro id q1 q2
            simp only [cellsAt_add, cellsAt_set, cellsAt_kill, nx_add, nx_set, nx_kill]
            repeat rw [if_neg (by omega)]
          · simp
      by_cases k2 : c.kind = 2
      · have hgo : exts f t (some c.t :: st) (i + 1) (l.drop (i + 1)) out = R := by rw [← hex]; simp [exts, k2]
        have hs : (some c.t :: st) = (if c.kind = 1 then none :: st else if c.kind = 2 then some c.t :: st else if c.kind = 3 then st.tail else st) := by rw [if_neg k1, if_pos k2]
        rcases heH.op with ⟨rfl, rfl⟩ | ⟨rfl, ⟨hio, cs, hcs, hcut⟩⟩
        · simp (disch := first | (simp; done) | omega | (simp only [nx_add, nx_set, nx_kill, nx_mk, nx_emp]; omega) | fail) [g57_s4, k2, hcH]
          refine .inl ⟨rfl, _, _, _, _, _, _, rfl, EJ.push heH (some c.t) (b := H.nx) ⟨?_, ?_⟩ (.inl (Nat.le_refl _)) ?_ rfl rfl, hs, hgo, by omega⟩
          · simp
          · intro id q1 q2
            simp only [cellsAt_add, cellsAt_set, cellsAt_kill, nx_add, nx_set, nx_kill]
            repeat rw [if_neg (by omega)]
          · simp
        · have n3 : ¬ io = H.nx := by omega
          simp (disch := first | (simp; done) | omega | (simp only [nx_add, nx_set, nx_kill, nx_mk, nx_emp]; omega) | fail) [g57_s4, k2, hcH, n3, hcs, hcut]
          refine .inl ⟨rfl, _, _, _, _, _, _, rfl, EJ.push heH (some c.t) (b := io) ⟨?_, ?_⟩ (.inr ⟨by simp, rfl⟩) ?_ rfl rfl, hs, hgo, by omega⟩
          · simp
          · intro id q1 q2
            simp only [cellsAt_add, cellsAt_set, cellsAt_kill, nx_add, nx_set, nx_kill]
            repeat rw [if_neg (by omega)]
          · simp
      have hs : st = (if c.kind = 1 then none :: st else if c.kind = 2 then some c.t :: st else if c.kind = 3 then st.tail else st) := by rw [if_neg k1, if_neg k2, if_neg k3]
      by_cases hif : i < f
      · have hif' : (i : Int) < f := by omega
        have hgo : exts f t st (i + 1) (l.drop (i + 1)) out = R := by
          rw [← hex]; simp only [exts]; rw [if_neg k1, if_neg k2, if_neg k3, if_neg (by omega)]
        simp (disch := first | (simp; done) | omega | (simp only [nx_add, nx_set, nx_kill, nx_mk, nx_emp]; omega) | fail) [g57_s4, k1, k2, hif']
        exact .inl ⟨rfl, _, _, _, _, _, _, rfl, heH, hs, hgo, by omega⟩
      have hif' : ¬ (i : Int) < f := by omega
      have hgo : (match ext1 st c.r with | none => none | some r => exts f t st (i + 1) (l.drop (i + 1)) (if emptyR r then out else out ++ [r])) = R := by
        rw [← hex]; simp only [exts, if_neg k1, if_neg k2, if_neg k3]; rw [if_pos ⟨by omega, by omega⟩]; cases ext1 st c.r <;> rfl
      have hrec : okR c.r = true := hrect (by
        rcases hcase with ⟨k, _⟩ | ⟨k, _⟩ | ⟨k, _⟩
        · omega
        · omega
        · rcases k with k | k | k <;> simp [isRec, k])
      have kl : ∀ h, kLen h vo = some (I st.length, h) := fun h => by
        rcases heH.op with ⟨q1, q2⟩ | ⟨q1, _⟩
        · rw [q1, q2]; simp
        · rw [q1]; simp
      simp (disch := first | (simp; done) | omega | (simp only [nx_add, nx_set, nx_kill, nx_mk, nx_emp]; omega) | fail) [g57_s4, k1, k2, hif', hcH, kl]
      obtain ⟨G, hG⟩ : ∃ G, G = (H.add (.cells [.int .i64 0, .int .i64 0, .int .i64 0, .int .i64 0])).set H.nx (.cells c.r.enc) := ⟨_, rfl⟩
      rw [← hG]
      have hkG : Kp H.nx H G := by
        refine ⟨by subst hG; simp, fun id q1 q2 => ?_⟩
        subst hG
        simp only [cellsAt_add, cellsAt_set, nx_add, nx_set]
        repeat rw [if_neg (by omega)]
      have hcG : G.cellsAt H.nx = some c.r.enc := by subst hG; simp
      have hnG : G.nx = H.nx + 1 := by subst hG; simp
      clear hG
      simp (disch := first | (simp; done) | omega | (simp only [nx_add, nx_set, nx_kill, nx_mk, nx_emp]; omega) | fail) [g57_s3]
      refine ⟨rjI l f t i H.nx vu vo st (ext1 st c.r) H, st.length, ⟨0, c.r, by omega, rfl, by simp, hcG, hkG, by omega, hrec, rfl⟩, ?_⟩
      generalize ext1 st c.r = E at hgo ⊢
      rintro m vs hh ⟨j, q, hj, rfl, rfl, hcq, hkq, hnq, hokq, hext⟩
      have heq := heH.keep hkq (Nat.le_refl _)
      by_cases hjn : j < st.length
      · have hjn' : (j : Int) ≤ (st.length : Int) - 1 := by omega
        simp (disch := first | (simp; done) | omega | (simp only [nx_add, nx_set, nx_kill, nx_mk, nx_emp]; omega) | fail) [g57_l3, hjn']
        refine ⟨rjM l f t i H.nx j vu vo st E H, ?_, ?_⟩
        · obtain ⟨k, hk⟩ : ∃ k : Nat, k = st.length - 1 - j := ⟨_, rfl⟩
          have hki : (st.length : Int) - 1 - j = (k : Int) := by omega
          unfold rjM
          rw [hki]
          rcases heq.op with ⟨q1, _⟩ | ⟨rfl, ⟨hio, cs, hcs, hcut⟩⟩
          · rw [q1] at hjn; simp at hjn
          have hix : ∀ h, kIdxA h 5 (.rsl io 0 st.length 5) (I k) = some (.ptr io (k * 5), h) := fun h => by
            rw [kIdxA_rsl (i := (k : Int)) (by omega) (by omega)]; simp
          have hct := stk_at tfe_len hcut j hjn
          rw [← hk] at hct
          have hdr : st.drop j = st[j] :: st.drop (j + 1) := List.drop_eq_getElem_cons hjn
          have hmem : st[j] ∈ st := List.getElem_mem hjn
          obtain ⟨s, hs1⟩ : ∃ s, s = st[j] := ⟨_, rfl⟩
          rw [hdr, ← hs1] at hext
          rw [← hs1] at hct hmem
          have hsc : cs[k * 5 + 2]? = some (I (s.getD zT).scale) := cut_at hct (by rfl)
          cases s with
          | none =>
            have hsc0 : cs[k * 5 + 2]? = some (I 0) := hsc
            have hex2 : ext1 (st.drop (j + 1)) q = E := by simpa [ext1, hokq] using hext
            simp (disch := first | (simp; done) | omega | (simp only [nx_add, nx_set, nx_kill, nx_mk, nx_emp]; omega) | fail) [g57_a1, hix, hcs, hsc0]
            exact ⟨q, hcq, hkq, hnq, hokq, hex2⟩
          | some tt =>
            have htt := hok tt hmem
            have bt := okT_bd htt
            have hsc0 : cs[k * 5 + 2]? = some (I tt.scale) := hsc
            have hct0 : cut cs (k * 5) 5 = some tt.enc := hct
            have hs0 : ¬ tt.scale = 0 := by omega
            have hex2 : (if okR (apl tt q) then ext1 (st.drop (j + 1)) (apl tt q) else none) = E := by simpa [ext1] using hext
            simp (disch := first | (simp; done) | omega | (simp only [nx_add, nx_set, nx_kill, nx_mk, nx_emp]; omega) | fail) [g57_a1, hix, hcs, hsc0, hs0, hct0]
            simp (disch := first | (simp; done) | omega | (simp only [nx_add, nx_set, nx_kill, nx_mk, nx_emp]; omega) | fail) [g57_s2, hcq]
            refine ⟨fun z => by rw [z] at hex2; simpa using hex2.symm, fun z => ⟨⟨?_, fun id q1 q2 => ?_⟩, by omega, z, by rw [z] at hex2; simpa using hex2⟩⟩
            · have := hkq.1
              simp; omega
            · rw [cellsAt_set, if_neg q2]; exact hkq.2 id q1 q2
        · rintro x vs h2 (⟨rfl, q2, rfl, y1, y2, y3, y4, y5⟩ | ⟨rfl, rfl, rfl⟩)
          · simp (disch := first | (simp; done) | omega | (simp only [nx_add, nx_set, nx_kill, nx_mk, nx_emp]; omega) | fail) [g57_j2]
            exact ⟨st.length - (j + 1), by omega, j + 1, q2, by omega, rfl, by simp; omega, y1, y2, y3, y4, y5⟩
          · simp (disch := first | (simp; done) | omega | (simp only [nx_add, nx_set, nx_kill, nx_mk, nx_emp]; omega) | fail) [g57_j2, g57_j7]
            exact .inr ⟨rfl, _, _, rfl, hgo.symm⟩
      · have hj2 : j = st.length := by omega
        have hjn' : ¬ (j : Int) ≤ (st.length : Int) - 1 := by omega
        rw [hj2, List.drop_length] at hext
        simp [ext1] at hext
        subst hext
        simp only at hgo
        simp (disch := first | (simp; done) | omega | (simp only [nx_add, nx_set, nx_kill, nx_mk, nx_emp]; omega) | fail) [g57_l3, hjn']
        simp (disch := first | (simp; done) | omega | (simp only [nx_add, nx_set, nx_kill, nx_mk, nx_emp]; omega) | fail) [g57_j7, g57_c6]
        refine ⟨fun vs h' => vs = [cmds l, I f, I t, vu, vo, I i, .ptr H.nx 0, .bool (!emptyR q)] ∧ h' = hh, ?_, ?_⟩
        · have hvq : vld q = q := by unfold vld; rw [if_pos hokq]
          have bq := okR_bd hokq
          by_cases z1 : 0 < q.w
          · by_cases z2 : 0 < q.h
            · have hem : emptyR q = false := by unfold emptyR; rw [hvq]; simp; omega
              simp (disch := first | (simp; done) | omega | (simp only [nx_add, nx_set, nx_kill, nx_mk, nx_emp]; omega) | fail) [g57_a4, hcq, z1, z2, hem]
            · have hem : emptyR q = true := by unfold emptyR; rw [hvq]; simp; omega
              simp (disch := first | (simp; done) | omega | (simp only [nx_add, nx_set, nx_kill, nx_mk, nx_emp]; omega) | fail) [g57_a4, hcq, z1, z2, hem]
          · have hem : emptyR q = true := by unfold emptyR; rw [hvq]; simp; omega
            simp (disch := first | (simp; done) | omega | (simp only [nx_add, nx_set, nx_kill, nx_mk, nx_emp]; omega) | fail) [g57_a4, hcq, z1, hem]
        rintro vs h' ⟨rfl, rfl⟩
        simp (disch := first | (simp; done) | omega | (simp only [nx_add, nx_set, nx_kill, nx_mk, nx_emp]; omega) | fail) [g57_j5]
        refine ⟨fun hem => ?_, fun hem => ?_⟩
        · have hem' : emptyR q = false := by simpa using hem
          rw [hem'] at hgo
          simp at hgo
          have hnn : ¬ H.nx = h'.nx := by omega
          rcases heq.ou with ⟨rfl, rfl⟩ | ⟨hne, rfl, q3, q4⟩
          · simp (disch := first | (simp; done) | omega | (simp only [nx_add, nx_set, nx_kill, nx_mk, nx_emp]; omega) | fail) [hcq]
            refine .inl ⟨rfl, _, _, _, _, _, _, rfl, EJ.more heq q (b := h'.nx) ⟨?_, ?_⟩ (.inl (Nat.le_refl _)) ?_ rfl rfl, hs, hgo, by simp⟩
            · simp
            · intro id q1 q2
              simp only [cellsAt_add, cellsAt_set, cellsAt_kill, nx_add, nx_set, nx_kill]
              repeat rw [if_neg (by omega)]
            · simp
          · have n3 : ¬ iu = h'.nx := by omega
            have hcutu := flat_cut out
            have hol2 : out.length ≤ 20000 := by omega
            simp (disch := first | (simp; done) | omega | (simp only [nx_add, nx_set, nx_kill, nx_mk, nx_emp]; omega) | fail) [hcq, n3, q4, hcutu]
            refine .inl ⟨rfl, _, _, _, _, _, _, rfl, EJ.more heq q (b := iu) ⟨?_, ?_⟩ (.inr ⟨by simp, rfl⟩) ?_ rfl rfl, hs, hgo, by simp; omega⟩
            · simp
            · intro id q1 q2
              simp only [cellsAt_add, cellsAt_set, cellsAt_kill, nx_add, nx_set, nx_kill]
              repeat rw [if_neg (by omega)]
            · simp
        · have hem' : emptyR q = true := by simpa using hem
          rw [hem'] at hgo
          simp at hgo
          exact .inl ⟨rfl, _, _, _, _, _, _, rfl, heq, hs, hgo, by omega⟩
    · rintro x vs h' (⟨rfl, vo', vu', st', out', io', iu', rfl, he', hst, hex', hol'⟩ | ⟨rfl, vo', vu', rfl, rfl⟩)
      · simp (disch := first | (simp; done) | omega | (simp only [nx_add, nx_set, nx_kill, nx_mk, nx_emp]; omega) | fail) [g57_j9]
        refine ⟨t - (i + 1), by omega, i + 1, vo', vu', st', out', io', iu', g', gr', by omega, rfl, by simp, he', hrun', ?_, ?_, hex', by omega, ?_⟩
        · have := congrArg List.length hst
          rcases hcase with ⟨k, e⟩ | ⟨k, e⟩ | ⟨k, e⟩ <;> have := congrArg List.length e <;> simp at this
          all_goals grind
        · intro tt htt
          rw [hst] at htt
          split at htt
          · simp at htt; exact hok tt htt
          split at htt
          · rename_i k2
            simp at htt
            rcases htt with rfl | htt
            · exact htf k2
            · exact hok tt htt
          split at htt
          · exact hok tt (List.mem_of_mem_tail htt)
          · exact hok tt htt
        · have := congrArg List.length hst
          grind
      · simp (disch := first | (simp; done) | omega | (simp only [nx_add, nx_set, nx_kill, nx_mk, nx_emp]; omega) | fail) [g57_j9, g57_j12, exR]
  · have hit : i = t := by omega
    subst hit
    rw [exts_past _ _ _ _ _ _ (Nat.le_refl _)] at hex
    subst hex
    simp (disch := first | (simp; done) | omega | (simp only [nx_add, nx_set, nx_kill, nx_mk, nx_emp]; omega) | fail) [g57_l10, hlt]
    simp (disch := first | (simp; done) | omega | (simp only [nx_add, nx_set, nx_kill, nx_mk, nx_emp]; omega) | fail) [g57_j12, hlt]
    rcases he.ou with ⟨rfl, rfl⟩ | ⟨hne, rfl, q3, q4⟩
    · simp (disch := first | (simp; done) | omega | (simp only [nx_add, nx_set, nx_kill, nx_mk, nx_emp]; omega) | fail) [g57_c11, exR]
    · cases out with
      | nil => exact absurd rfl hne
      | cons r o =>
        simp (disch := first | (simp; done) | omega | (simp only [nx_add, nx_set, nx_kill, nx_mk, nx_emp]; omega) | fail) [g57_c11]
        exact ⟨iu, rfl, q4⟩
end Go.Proofs.Ytpnekpbehcbmkaa
end
noncomputable section
namespace Go.Proofs.Ytpnekpbehcbmkaa
open Go.Eng
/-! The reference's damage. -/
theorem rextents_d (l : List Cmd) (f t : Nat) (hl : SmL l) (hv : validate l = 0) (ht : t ≤ l.length) (h : AH) : CallD Try.prog 57 [cmds l, I f, I t] h (exV (exts f t [] 0 l []) h) (exH (exts f t [] 0 l []) h) := by
  have hc := rextents_e l f t hl hv ht
  generalize exts f t [] 0 l [] = R at hc ⊢
  match R with
  | none => exact frame (n := true) hc (fun v' h' (hr : v' = _) => by subst hr; exact .tup _ _ rfl (fun i c d k1 k2 => by
      match i with
      | 0 => simp at k1 k2; subst k1; subst k2; exact .nilsl0
      | 1 => simp at k1 k2; subst k1; subst k2; exact .bool _
      | i + 2 => simp at k1)) (.inr ⟨rfl, rfl, frz_args3 (cmds_pl l h)⟩)
  | some [] => exact frame (n := true) hc (fun v' h' (hr : v' = _) => by subst hr; exact .tup _ _ rfl (fun i c d k1 k2 => by
      match i with
      | 0 => simp at k1 k2; subst k1; subst k2; exact .nilsl0
      | 1 => simp at k1 k2; subst k1; subst k2; exact .bool _
      | i + 2 => simp at k1)) (.inr ⟨rfl, rfl, frz_args3 (cmds_pl l h)⟩)
  | some (r :: o) => exact frameO hc (fun v' h' ⟨id, hv', hc'⟩ => ⟨id, _, hc', flatR_frz _ _ _, by subst hv'; exact .two _ _ _ _ _ (.bool _)⟩) rfl (frz_args3 (cmds_pl l h))
def e57 : QE Try.prog := ⟨57, fun args h Q => ∃ l f t, args = [cmds l, I (f : Nat), I (t : Nat)] ∧ (SmL l ∧ validate l = 0 ∧ t ≤ l.length) ∧ Q (exV (exts f t [] 0 l []) h) (exH (exts f t [] 0 l []) h), fun args h Q ⟨l, f, t, h1, ⟨h2, h3, h5⟩, h6⟩ => by
  subst h1; exact ⟨_, _, rextents_d l f t h2 h3 h5 h, h6⟩⟩
theorem e57_h {tl : List (QE Try.prog)} {l : List Cmd} {f t : Nat} {h : AH} {Q : AV → AH → Prop} (hx : SmL l ∧ validate l = 0 ∧ t ≤ l.length) (hq : Q (exV (exts f t [] 0 l []) h) (exH (exts f t [] 0 l []) h)) : tb (e57 :: tl) 57 [cmds l, I f, I t] h Q := by
  rw [tb_here e57 tl 57 _ _ _ rfl]
  exact ⟨l, f, t, rfl, hx, hq⟩
@[simp ↓] theorem e57_t (tl : List (QE Try.prog)) (f : Nat) (args : List AV) (h : AH) (Q : AV → AH → Prop) (hf : 57 ≠ f) : tb (e57 :: tl) f args h Q = tb tl f args h Q := tb_there e57 tl f args h Q hf
abbrev rdT : List (QE Try.prog) := [e57, e55, e30, e14, e56]
theorem rdj {vx vy : AV} {bx bY : Bool} {h : AH} {Q : AV → AH → Prop} (h1 : bx = true → bY = true → wk (kApp h 4 32 .nilsl vx) fun v h => wk (kApp h 4 32 v vy) Q) (h2 : bx = false ∨ bY = false → Q (.rsl h.nx 0 4 4) (h.add (.cells (flatR evr)))) : g24_s2 (tb rdT) vx (.bool bx) (.tup [vy, .bool bY]) h Q := by
  simp (disch := first | (simp; done) | omega | (simp only [nx_add, nx_set, nx_kill, nx_mk, nx_emp]; omega) | fail) [g24_s2]
  refine ⟨fun vs h' => vs = [vx, vy, .bool (!(bx && bY))] ∧ h' = h, ?_, ?_⟩
  · cases bx <;> cases bY <;> simp (disch := first | (simp; done) | omega | (simp only [nx_add, nx_set, nx_kill, nx_mk, nx_emp]; omega) | fail) [g24_a9]
  · rintro vs h' ⟨rfl, rfl⟩
    cases bx <;> cases bY <;> simp (disch := first | (simp; done) | omega | (simp only [nx_add, nx_set, nx_kill, nx_mk, nx_emp]; omega) | fail) [g24_j10]
    · exact h2 (.inl rfl)
    · exact h2 (.inl rfl)
    · exact h2 (.inr rfl)
    · exact h1 rfl rfl
def rsI (a b : List Cmd) (F A B : Nat) (l : List Cmd) (N : Nat) (X : Bool) (m : Nat) (vs : List AV) (_ : AH) : Prop := ∃ (i : Nat) (s : Bool), i ≤ N ∧ m = N - i ∧ vs = [cmds a, cmds b, I F, I A, I B, .bool s, I i] ∧ (s || ((l.drop i).take (N - i)).any strct) = X
theorem any_step {l : List Cmd} {i N : Nat} (h : i < N) (hN : N ≤ l.length) {s X : Bool} (hx : (s || ((l.drop i).take (N - i)).any strct) = X) : ((s || strct (l[i]'(by omega))) || ((l.drop (i + 1)).take (N - (i + 1))).any strct) = X := by
  have hd : l.drop i = l[i]'(by omega) :: l.drop (i + 1) := List.drop_eq_getElem_cons (by omega)
  rw [hd, show N - i = (N - (i + 1)) + 1 by omega, List.take_succ_cons, List.any_cons] at hx
  rw [← hx, Bool.or_assoc]
theorem rdamage_f (a b : List Cmd) (hx : Lite a ∧ Lite b) : Fresh Try.prog 24 [cmds a, cmds b] (rects (dmg a b)) := by
  refine C24 (tb_ok rdT) ?_
  obtain ⟨ha, hb⟩ := hx
  have sa := ha.sm; have sb := hb.sm
  cases heq : eqD a b
  · have hres : dRes a b = .psl [[I (dAt a b), I ((a.length - dTl a b - dAt a b : Nat) : Int), cmds (dL a b)]] := by unfold dRes; rw [if_neg (by simp [heq])]
    have hlen : ∀ h, kLen h (dRes a b) = some (I 1, h) := fun h => by rw [hres]; simp
    simp (disch := first | (simp; done) | omega | (simp only [nx_add, nx_set, nx_kill, nx_mk, nx_emp]; omega) | fail) [g24, ha, hb, hlen]
    refine ⟨fun vs h => vs = [cmds a, cmds b, dRes a b, .bool (!(decide (validate a = 0) && decide (validate b = 0)))] ∧ h = emp, ?_, ?_⟩
    · by_cases q1 : validate a = 0 <;> by_cases q2 : validate b = 0 <;> simp (disch := first | (simp; done) | omega | (simp only [nx_add, nx_set, nx_kill, nx_mk, nx_emp]; omega) | fail) [g24_a1, q1, q2, sa, sb] <;> simp (disch := first | (simp; done) | omega | (simp only [nx_add, nx_set, nx_kill, nx_mk, nx_emp]; omega) | fail) [g24_s1, q1, q2, sa, sb]
    rintro vs h ⟨rfl, rfl⟩
    have hix : ∀ h, kIdxA h 3 (dRes a b) (I 0) = some (.pptr [I (dAt a b), I ((a.length - dTl a b - dAt a b : Nat) : Int), cmds (dL a b)], h) := fun h => by rw [hres]; exact kIdxA_psl (i := 0) rfl rfl
    by_cases hvv : validate a = 0 ∧ validate b = 0
    rotate_left
    · have hbad : (!(decide (validate a = 0) && decide (validate b = 0))) = true := by simp; omega
      rw [hbad]
      simp (disch := first | (simp; done) | omega | (simp only [nx_add, nx_set, nx_kill, nx_mk, nx_emp]; omega) | fail) [g24_j16]
      have hd : dmg a b = evr := by
        unfold dmg; rw [if_neg (by simp [heq]), if_neg hvv]
      rw [hd]
      exact frz_ev _
    · have hgood : (!(decide (validate a = 0) && decide (validate b = 0))) = false := by simp [hvv]
      rw [hgood]
      obtain ⟨hva, hvb⟩ := hvv
      have hle := d_le a b
      have hlL : (dL a b).length = b.length - dTl a b - dAt a b := by unfold dL; simp; omega
      have la1 := ha.1
      have lb1 := hb.1
      have e1 : ((dAt a b : Nat) : Int) + ((a.length - dTl a b - dAt a b : Nat) : Int) = ((a.length - dTl a b : Nat) : Int) := by omega
      have e2 : ((dAt a b : Nat) : Int) + ((b.length - dTl a b - dAt a b : Nat) : Int) = ((b.length - dTl a b : Nat) : Int) := by omega
      simp (disch := first | (simp; done) | omega | (simp only [nx_add, nx_set, nx_kill, nx_mk, nx_emp]; omega) | fail) [g24_j16, hix, e1, e2, hlL]
      simp (disch := first | (simp; done) | omega | (simp only [nx_add, nx_set, nx_kill, nx_mk, nx_emp]; omega) | fail) [g24_s6, hix, e1, e2, hlL]
      simp (disch := first | (simp; done) | omega | (simp only [nx_add, nx_set, nx_kill, nx_mk, nx_emp]; omega) | fail) [g24_s5, hix, e1, e2, hlL]
      simp (disch := first | (simp; done) | omega | (simp only [nx_add, nx_set, nx_kill, nx_mk, nx_emp]; omega) | fail) [g24_s4, hix, e1, e2, hlL]
      have hT : dSt a b = (((a.drop (dAt a b)).take (a.length - dTl a b - dAt a b)).any strct || ((b.drop (dAt a b)).take (b.length - dTl a b - dAt a b)).any strct) := rfl
      obtain ⟨X, hX⟩ : ∃ X, X = ((a.drop (dAt a b)).take (a.length - dTl a b - dAt a b)).any strct := ⟨_, rfl⟩
      rw [← hX] at hT
      refine ⟨rsI a b (dAt a b) (a.length - dTl a b) (b.length - dTl a b) a (a.length - dTl a b) X, a.length - dTl a b - dAt a b, ⟨dAt a b, false, by omega, rfl, rfl, by rw [hX]; rfl⟩, ?_⟩
      rintro m vs h ⟨i, s, hiN, rfl, rfl, hsX⟩
      by_cases hlt : i < a.length - dTl a b
      · have hlt' : (i : Int) < ((a.length - dTl a b : Nat) : Int) := by omega
        have hil : i < a.length := by omega
        simp (disch := first | (simp; done) | omega | (simp only [nx_add, nx_set, nx_kill, nx_mk, nx_emp]; omega) | fail) [g24_l4, hlt, hlt']
        refine ⟨fun vs h => vs = [cmds a, cmds b, I (dAt a b), I ((a.length - dTl a b : Nat) : Int), I ((b.length - dTl a b : Nat) : Int), .bool (s || strct a[i]), I i], ?_, ?_⟩
        · cases s <;> simp (disch := first | (simp; done) | omega | (simp only [nx_add, nx_set, nx_kill, nx_mk, nx_emp]; omega) | fail) [g24_a2, hil, strct]
        rintro vs h rfl
        simp (disch := first | (simp; done) | omega | (simp only [nx_add, nx_set, nx_kill, nx_mk, nx_emp]; omega) | fail) [g24_j3]
        exact ⟨a.length - dTl a b - (i + 1), by omega, i + 1, _, by omega, rfl, rfl, any_step hlt (by omega) hsX⟩
      have hi : i = a.length - dTl a b := by omega
      have hs : s = X := by rw [← hsX, hi]; simp
      have hlt' : ¬ (i : Int) < ((a.length - dTl a b : Nat) : Int) := by omega
      rw [hs]
      clear hsX hs hiN
      simp (disch := first | (simp; done) | omega | (simp only [nx_add, nx_set, nx_kill, nx_mk, nx_emp]; omega) | fail) [g24_l4, hlt, hlt']
      simp (disch := first | (simp; done) | omega | (simp only [nx_add, nx_set, nx_kill, nx_mk, nx_emp]; omega) | fail) [g24_j15, g24_c14]
      refine ⟨rsI a b (dAt a b) (a.length - dTl a b) (b.length - dTl a b) b (b.length - dTl a b) (dSt a b), b.length - dTl a b - dAt a b, ⟨dAt a b, X, by omega, rfl, rfl, hT.symm⟩, ?_⟩
      rintro m vs h ⟨i, s, hiN, rfl, rfl, hsX⟩
      by_cases hlt : i < b.length - dTl a b
      · have hlt' : (i : Int) < ((b.length - dTl a b : Nat) : Int) := by omega
        have hil : i < b.length := by omega
        simp (disch := first | (simp; done) | omega | (simp only [nx_add, nx_set, nx_kill, nx_mk, nx_emp]; omega) | fail) [g24_l7, hlt, hlt']
        refine ⟨fun vs h => vs = [cmds a, cmds b, I (dAt a b), I ((a.length - dTl a b : Nat) : Int), I ((b.length - dTl a b : Nat) : Int), .bool (s || strct b[i]), I i], ?_, ?_⟩
        · cases s <;> simp (disch := first | (simp; done) | omega | (simp only [nx_add, nx_set, nx_kill, nx_mk, nx_emp]; omega) | fail) [g24_a5, hil, strct]
        rintro vs h rfl
        simp (disch := first | (simp; done) | omega | (simp only [nx_add, nx_set, nx_kill, nx_mk, nx_emp]; omega) | fail) [g24_j6]
        exact ⟨b.length - dTl a b - (i + 1), by omega, i + 1, _, by omega, rfl, rfl, any_step hlt (by omega) hsX⟩
      have hi : i = b.length - dTl a b := by omega
      have hs : s = dSt a b := by rw [← hsX, hi]; simp
      have hlt' : ¬ (i : Int) < ((b.length - dTl a b : Nat) : Int) := by omega
      rw [hs]
      clear hsX hs hiN
      simp (disch := first | (simp; done) | omega | (simp only [nx_add, nx_set, nx_kill, nx_mk, nx_emp]; omega) | fail) [g24_l7, hlt, hlt']
      simp (disch := first | (simp; done) | omega | (simp only [nx_add, nx_set, nx_kill, nx_mk, nx_emp]; omega) | fail) [g24_j13, g24_c12]
      refine ⟨fun vs h => vs = [cmds a, cmds b, I (dF a b : Nat), I (dTa a b : Nat), I (dTb a b : Nat)], ?_, ?_⟩
      · cases q : dSt a b <;> simp (disch := first | (simp; done) | omega | (simp only [nx_add, nx_set, nx_kill, nx_mk, nx_emp]; omega) | fail) [g24_a8, q, dF, dTa, dTb]
      rintro vs h rfl
      simp (disch := first | (simp; done) | omega | (simp only [nx_add, nx_set, nx_kill, nx_mk, nx_emp]; omega) | fail) [g24_j11]
      have hTa : dTa a b ≤ a.length := by unfold dTa; split <;> omega
      have hTb : dTb a b ≤ b.length := by unfold dTb; split <;> omega
      refine e57_h ⟨sa, hva, hTa⟩ ?_
      have hdm : dmg a b = (match exts (dF a b) (dTa a b) [] 0 a [], exts (dF a b) (dTb a b) [] 0 b [] with
          | some x, some y => x ++ y
          | _, _ => evr) := by
        unfold dmg; rw [if_neg (by simp [heq]), if_pos ⟨hva, hvb⟩]
        cases exts (dF a b) (dTa a b) [] 0 a [] <;> cases exts (dF a b) (dTb a b) [] 0 b [] <;> rfl
      rw [hdm]
      have va := valid_len hva
      have vb := valid_len hvb
      have lX := fun o => exts_len (dF a b) (dTa a b) a [] 0 [] o
      have lY := fun o => exts_len (dF a b) (dTb a b) b [] 0 [] o
      clear hX hT hi hlt' hlt hix
      generalize exts (dF a b) (dTa a b) [] 0 a [] = X at lX ⊢
      match X with
      | none =>
        simp (disch := first | (simp; done) | omega | (simp only [nx_add, nx_set, nx_kill, nx_mk, nx_emp]; omega) | fail) [g24_s3, exV, exH]
        refine e57_h ⟨sb, hvb, hTb⟩ ?_
        generalize exts (dF a b) (dTb a b) [] 0 b [] = Y at lY ⊢
        match Y with
        | none => exact rdj (fun z => by cases z) fun _ => frz_ev _
        | some [] => exact rdj (fun z => by cases z) fun _ => frz_ev _
        | some (r :: o) => exact rdj (fun z => by cases z) fun _ => frz_ev _
      | some [] =>
        simp (disch := first | (simp; done) | omega | (simp only [nx_add, nx_set, nx_kill, nx_mk, nx_emp]; omega) | fail) [g24_s3, exV, exH]
        refine e57_h ⟨sb, hvb, hTb⟩ ?_
        generalize exts (dF a b) (dTb a b) [] 0 b [] = Y at lY ⊢
        match Y with
        | none => exact rdj (fun _ z => by cases z) fun _ => frz_ev _
        | some [] =>
          refine rdj (fun _ _ => ?_) (fun z => by simp at z)
          refine wk_of (kApp_nn _ _ _) ?_
          rw [kApp_nn]
          exact .nilsl
        | some (r :: o) =>
          have := lY _ rfl
          refine rdj (fun _ _ => ?_) (fun z => by simp at z)
          refine wk_of (kApp_nn _ _ _) ?_
          exact wk_of (kApp_nr' (h.add (.cells (flatR (r :: o)))) h.nx (r :: o) (by simp) (by simp at this; simp; omega) (by simp)) (frz_flat (l := r :: o) (by simp))
      | some (r1 :: o1) =>
        have l1 := lX _ rfl
        simp at l1
        simp (disch := first | (simp; done) | omega | (simp only [nx_add, nx_set, nx_kill, nx_mk, nx_emp]; omega) | fail) [g24_s3, exV, exH]
        refine e57_h ⟨sb, hvb, hTb⟩ ?_
        generalize exts (dF a b) (dTb a b) [] 0 b [] = Y at lY ⊢
        match Y with
        | none => exact rdj (fun _ z => by cases z) fun _ => frz_ev _
        | some [] =>
          refine rdj (fun _ _ => ?_) (fun z => by simp at z)
          refine wk_of (kApp_nr' (h.add (.cells (flatR (r1 :: o1)))) h.nx (r1 :: o1) (by simp) (by simp; omega) (by simp)) ?_
          exact wk_of (kApp_rn _ _ (r1 :: o1) (by simp) (by simp; omega)) (by
            show Frz _ true _ (rects ((r1 :: o1) ++ []))
            rw [List.append_nil]
            exact frz_flat (l := r1 :: o1) (by simp))
        | some (r :: o) =>
          have l2 := lY _ rfl
          simp at l2
          refine rdj (fun _ _ => ?_) (fun z => by simp at z)
          refine wk_of (kApp_nr' ((h.add (.cells (flatR (r1 :: o1)))).add (.cells (flatR (r :: o)))) h.nx (r1 :: o1) (by simp) (by simp; omega) (by simp)) ?_
          refine wk_of (kApp_rr' _ _ (h.nx + 1) (r1 :: o1) (r :: o) (by simp) (by simp) (by simp; omega)) ?_
          have := frz_flat (h := (((((h.add (.cells (flatR (r1 :: o1)))).add (.cells (flatR (r :: o)))).add (.cells (flatR (r1 :: o1)))).kill (h.nx + 1 + 1)).add (.cells (flatR (r1 :: o1) ++ flatR (r :: o))))) (id := h.nx + 1 + 1 + 1) (l := (r1 :: o1) ++ (r :: o)) (by rw [flat_app]; simp)
          rw [List.length_append] at this
          simpa using this
  · have hres : dRes a b = .nilsl := by unfold dRes; rw [if_pos heq]
    simp (disch := first | (simp; done) | omega | (simp only [nx_add, nx_set, nx_kill, nx_mk, nx_emp]; omega) | fail) [g24, ha, hb, hres]
    simp [dmg, heq, rects]
    exact .nilsl
def e24o : QE Try.prog := ⟨24, fun args h Q => ∃ v1 v2 a b, args = [v1, v2] ∧ Frz h false v1 (cmds a) ∧ Frz h false v2 (cmds b) ∧ (Lite a ∧ Lite b) ∧ Q (rects (dmg a b)) h, fun args h Q ⟨v1, v2, a, b, h1, h2, h3, h4, h5⟩ => by
  subst h1
  exact ⟨_, _, Fresh.call (rdamage_f a b h4) rfl (frz_args2 h2 h3), h5⟩⟩
theorem e24o_h {tl : List (QE Try.prog)} {v1 v2 : AV} {h : AH} {Q : AV → AH → Prop} (a b : List Cmd) (h2 : Frz h false v1 (cmds a)) (h3 : Frz h false v2 (cmds b)) (h4 : Lite a ∧ Lite b) (h5 : Q (rects (dmg a b)) h) : tb (e24o :: tl) 24 [v1, v2] h Q := by
  rw [tb_here e24o tl 24 _ _ _ rfl]
  exact ⟨v1, v2, a, b, rfl, h2, h3, h4, h5⟩
@[simp ↓] theorem e24o_t (tl : List (QE Try.prog)) (f : Nat) (args : List AV) (h : AH) (Q : AV → AH → Prop) (hf : 24 ≠ f) : tb (e24o :: tl) f args h Q = tb tl f args h Q := tb_there e24o tl f args h Q hf
end Go.Proofs.Ytpnekpbehcbmkaa
end
noncomputable section
namespace Go.Proofs.Ytpnekpbehcbmkaa
open Go.Eng
def e15o : QE Try.prog := ⟨15, fun args h Q => ∃ v l p, args = [v, .agg (Pt.enc p)] ∧ Frz h false v (cmds l) ∧ SmL l ∧ Q (I (pixel l p)) h, fun args h Q ⟨v, l, p, h1, h2, h3, h4⟩ => by
  subst h1
  exact ⟨_, _, Fresh.call (pixel_f l p h3) rfl (frz_args2 h2 (.agg _ _ rfl fun i c d k1 k2 => by
    rw [k1] at k2; cases k2
    have := List.mem_of_getElem? k1
    simp [Pt.enc] at this
    rcases this with rfl | rfl <;> exact .int _ _)), h4⟩⟩
theorem e15o_h {tl : List (QE Try.prog)} {v : AV} {a : List AV} {h : AH} {Q : AV → AH → Prop} (l : List Cmd) (p : Pt) (ha : a = p.enc) (h2 : Frz h false v (cmds l)) (h3 : SmL l) (h4 : Q (I (pixel l p)) h) : tb (e15o :: tl) 15 [v, .agg a] h Q := by
  subst ha
  rw [tb_here e15o tl 15 _ _ _ rfl]
  exact ⟨v, l, p, rfl, h2, h3, h4⟩
@[simp ↓] theorem e15o_t (tl : List (QE Try.prog)) (f : Nat) (args : List AV) (h : AH) (Q : AV → AH → Prop) (hf : 15 ≠ f) : tb (e15o :: tl) f args h Q = tb tl f args h Q := tb_there e15o tl f args h Q hf
def e23o : QE Try.prog := ⟨23, fun args h Q => ∃ v1 v2 a b, args = [v1, v2] ∧ Frz h false v1 (cmds a) ∧ Frz h false v2 (cmds b) ∧ (Lite a ∧ Lite b) ∧ Q (rects (dmg a b)) h, fun args h Q ⟨v1, v2, a, b, h1, h2, h3, h4, h5⟩ => by
  subst h1
  exact ⟨_, _, Fresh.call (damage_f a b h4) rfl (frz_args2 h2 h3), h5⟩⟩
theorem e23o_h {tl : List (QE Try.prog)} {v1 v2 : AV} {h : AH} {Q : AV → AH → Prop} (a b : List Cmd) (h2 : Frz h false v1 (cmds a)) (h3 : Frz h false v2 (cmds b)) (h4 : Lite a ∧ Lite b) (h5 : Q (rects (dmg a b)) h) : tb (e23o :: tl) 23 [v1, v2] h Q := by
  rw [tb_here e23o tl 23 _ _ _ rfl]
  exact ⟨v1, v2, a, b, rfl, h2, h3, h4, h5⟩
@[simp ↓] theorem e23o_t (tl : List (QE Try.prog)) (f : Nat) (args : List AV) (h : AH) (Q : AV → AH → Prop) (hf : 23 ≠ f) : tb (e23o :: tl) f args h Q = tb tl f args h Q := tb_there e23o tl f args h Q hf
def fA : Cmd := fillC 0 0 10 10 1
def fB : Cmd := fillC 5 5 10 10 2
theorem px1 : pixel [fA, fB] ⟨7, 7⟩ = 2 := by decide
theorem px2 : pixel [fA, fB] ⟨1, 7⟩ = 1 := by decide
theorem px3 : pixel [fA, fB] ⟨1, 17⟩ = -1 := by decide
theorem dm1 : (dmg [fA, fB] [fA]).length = 1 := by
  have h1 : dAt [fA, fB] [fA] = 1 := by simp [dAt, lcp, eqD]
  have h2 : dTl [fA, fB] [fA] = 0 := by simp [dTl, h1, lcp]
  have h3 : eqD [fA, fB] [fA] = false := by simp [eqD]
  have h4 : dL [fA, fB] [fA] = [] := by simp [dL, h1, h2]
  have h5 : dSt [fA, fB] [fA] = false := by simp [dSt, h1, h2, h4]; decide
  have h6 : validate [fA, fB] = 0 := by decide
  have h7 : validate [fA] = 0 := by decide
  have h8 : exts 1 2 [] 0 [fA, fB] [] = some [⟨5, 5, 10, 10⟩] := rfl
  have h9 : exts 1 1 [] 0 [fA] [] = some [] := rfl
  unfold dmg
  rw [if_neg (by simp [h3]), if_pos ⟨h6, h7⟩]
  simp [dF, dTa, dTb, h5, h1, h2, h8, h9]
theorem awake_c : Pure Try.prog 17 [] (.bool true) := by
  refine .of (by simp) (C17 (tb_ok [e15o, e23o, e26]) ?_)
  have hsm : SmL [fA, fB] := ⟨by simp [Sm], by simp [SmC, Sm, fA, fB, fillC]⟩
  have hli : Lite [fA, fB] ∧ Lite [fA] := ⟨⟨by simp, by simp [fA, fB, fillC]⟩, ⟨by simp, by simp [fA, fillC]⟩⟩
  simp (disch := first | (simp; done) | omega | (simp only [nx_add, nx_set, nx_kill, nx_mk, nx_emp]; omega) | fail) [g17]
  simp (disch := first | (simp; done) | omega | (simp only [nx_add, nx_set, nx_kill, nx_mk, nx_emp]; omega) | fail) [g17_s4]
  refine wk_of (v := .rsl 0 0 2 22) (h := emp.add (.cells (fA.enc ++ fB.enc))) rfl ?_
  obtain ⟨h, hh⟩ : ∃ h, h = emp.add (.cells (fA.enc ++ fB.enc)) := ⟨_, rfl⟩
  have hc : h.cellsAt 0 = some (fA.enc ++ fB.enc) := by subst hh; simp
  rw [← hh]
  have hF : Frz h false (.rsl 0 0 2 22) (cmds [fA, fB]) := frz_rows Cmd.len (l := [fA, fB]) (by simpa using hc) (fun a _ c hc => a.pls c hc h)
  have hF1 : Frz h false (.rsl 0 0 1 22) (cmds [fA]) := by
    refine .rsl 0 0 22 _ [fA.enc] hc (by simp) (fun i y hy => ?_) (fun i y j c d k1 k2 k3 => ?_)
    · match i with
      | 0 => simp at hy; subst hy; simp
      | i + 1 => simp at hy
    · match i with
      | 0 =>
        simp at k1; subst k1
        have hj : j < 22 := by rw [← Cmd.len fA]; exact (List.getElem?_eq_some_iff.1 k2).1
        rw [show 0 + 0 * 22 + j = j by omega, List.getElem?_append_left (by simpa using hj), k2] at k3
        cases k3
        exact fA.pls _ (List.mem_of_getElem? k2) h
      | i + 1 => simp at k1
  refine e15o_h [fA, fB] ⟨7, 7⟩ rfl hF hsm ?_
  rw [px1]
  simp (disch := first | (simp; done) | omega | (simp only [nx_add, nx_set, nx_kill, nx_mk, nx_emp]; omega) | fail) [g17_s3]
  refine e15o_h [fA, fB] ⟨1, 7⟩ rfl hF hsm ?_
  rw [px2]
  simp (disch := first | (simp; done) | omega | (simp only [nx_add, nx_set, nx_kill, nx_mk, nx_emp]; omega) | fail) [g17_s2]
  refine e15o_h [fA, fB] ⟨1, 17⟩ rfl hF hsm ?_
  rw [px3]
  simp (disch := first | (simp; done) | omega | (simp only [nx_add, nx_set, nx_kill, nx_mk, nx_emp]; omega) | fail) [kSl_hi]
  refine e23o_h [fA, fB] [fA] hF hF1 hli ?_
  simp (disch := first | (simp; done) | omega | (simp only [nx_add, nx_set, nx_kill, nx_mk, nx_emp]; omega) | fail) [rects, dm1, g17_s1]
end Go.Proofs.Ytpnekpbehcbmkaa
end
noncomputable section
namespace Go.Proofs.Ytpnekpbehcbmkaa
open Go.Eng
def e17 : QE Try.prog := .pure 17 (fun (_u : Unit) => []) (fun (_u : Unit) => True) (fun (_u : Unit) => .bool true) (fun _ _ => awake_c )
@[simp ↓] theorem e17_h (l : List (QE Try.prog)) (args : List AV) (h : AH) (Q : AV → AH → Prop) : tb (e17 :: l) 17 args h Q = e17.q args h Q := tb_here e17 l 17 args h Q rfl
@[simp ↓] theorem e17_q  (h : AH) (Q : AV → AH → Prop) : e17.q [] h Q = Q (.bool true) h := (QE.pure_q (x := ()) (by intro _ _; rfl) h Q).trans (by simp)
end Go.Proofs.Ytpnekpbehcbmkaa
end
