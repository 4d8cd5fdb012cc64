/- What the extents of a list of commands are in the program. What the damage between two lists of commands is in the program. -/
import Derived.Test.YtpnekpbehcbmkaaD7It
set_option linter.unusedSimpArgs false
set_option linter.unusedVariables false
set_option linter.unnecessarySimpa false
noncomputable section
namespace Go.Proofs.Ytpnekpbehcbmkaa
open Go.Eng
def ext1 : List (Option Tf) → Rect → Option Rect
  | [], r => some r
  | none :: st, r => if okR r then ext1 st r else none
  | some t :: st, r => if okR (apl t r) then ext1 st (apl t r) else none
def exts (f t : Nat) : List (Option Tf) → Nat → List Cmd → List Rect → Option (List Rect)
  | _, _, [], out => some out
  | st, i, c :: l, out => if c.kind = 1 then exts f t (none :: st) (i + 1) l out else if c.kind = 2 then exts f t (some c.t :: st) (i + 1) l out else if c.kind = 3 then exts f t st.tail (i + 1) l out
    else if f ≤ i ∧ i < t then (match ext1 st c.r with
      | none => none
      | some r => exts f t st (i + 1) l (if emptyR r then out else out ++ [r]))
    else exts f t st (i + 1) l out
def pe (p : AV) : List AV := [p]
theorem pe_len (p : AV) : (pe p).length = 1 := rfl
/-- all objects but one are as they were -/
def Kp (b : Nat) (h h' : AH) : Prop := h.nx ≤ h'.nx ∧ ∀ id, id < h.nx → id ≠ b → h'.cellsAt id = h.cellsAt id
def PtrOk (h : AH) (io iu : Nat) (p : AV) : Option Tf → Prop
  | none => p = .nilptr
  | some t => ∃ idc c, p = .ptr idc 5 ∧ 2 ≤ idc ∧ idc < h.nx ∧ idc ≠ io ∧ idc ≠ iu ∧ h.cellsAt idc = some (Cmd.enc c) ∧ c.t = t
structure EI (h : AH) (vo vu : AV) (st : List (Option Tf)) (out : List Rect) (io iu : Nat) (ps : List AV) : Prop where
  c0 : h.cellsAt 0 = some [.nilsl]
  c1 : h.cellsAt 1 = some [.bool false]
  nx : 2 ≤ h.nx
  ne : io ≠ iu
  op : (ps = [] ∧ vo = .nilsl ∧ io = 0) ∨ (vo = .rsl io 0 ps.length 1 ∧ 2 ≤ io ∧ Stk 1 pe io h ps)
  pl : ps.length = st.length
  pp : ∀ (k : Nat) (p : AV) (s : Option Tf), ps[k]? = some p → st[k]? = some s → PtrOk h io iu p s
  ou : (out = [] ∧ vu = .nilsl ∧ iu = 1) ∨ (out ≠ [] ∧ vu = .rsl iu 0 out.length 4 ∧ 2 ≤ iu ∧ iu < h.nx ∧ h.cellsAt iu = some ((out.map Rect.enc).flatten))
theorem PtrOk.keep {h h' : AH} {io iu io' iu' : Nat} {p : AV} {s : Option Tf} (hp : PtrOk h io iu p s) {b : Nat} (hk : Kp b h h') (hb : b = io ∨ b = iu ∨ h.nx ≤ b) (h1 : io' = io ∨ h.nx ≤ io') (h2 : iu' = iu ∨ h.nx ≤ iu') : PtrOk h' io' iu' p s := by
  cases s with
  | none => exact hp
  | some t =>
    obtain ⟨idc, c, q1, q2, q3, q4, q5, q6, q7⟩ := hp
    exact ⟨idc, c, q1, q2, Nat.lt_of_lt_of_le q3 hk.1, by omega, by omega, (hk.2 idc q3 (by omega)).trans q6, q7⟩
theorem EI.keep {h h' : AH} {vo vu : AV} {st : List (Option Tf)} {out : List Rect} {io iu : Nat} {ps : List AV} (he : EI h vo vu st out io iu ps) {b : Nat} (hk : Kp b h h') (hb : h.nx ≤ b) : EI h' vo vu st out io iu ps := by
  have hnx := he.nx
  refine ⟨(hk.2 0 (by omega) (by omega)).trans he.c0, (hk.2 1 (by omega) (by omega)).trans he.c1, Nat.le_trans he.nx hk.1, he.ne, ?_, he.pl, fun k p s h1 h2 => (he.pp k p s h1 h2).keep hk (.inr (.inr hb)) (.inl rfl) (.inl rfl), ?_⟩
  · rcases he.op with q | ⟨q1, q2, ⟨q3, cs, q4, q5⟩⟩
    · exact .inl q
    · exact .inr ⟨q1, q2, ⟨Nat.lt_of_lt_of_le q3 hk.1, cs, (hk.2 io q3 (by omega)).trans q4, q5⟩⟩
  · rcases he.ou with q | ⟨q0, q1, q2, q3, q4⟩
    · exact .inl q
    · exact .inr ⟨q0, q1, q2, Nat.lt_of_lt_of_le q3 hk.1, (hk.2 iu q3 (by omega)).trans q4⟩
theorem EI.push {h h' : AH} {vo vu : AV} {st : List (Option Tf)} {out : List Rect} {io iu : Nat} {ps : List AV} (he : EI h vo vu st out io iu ps) {p : AV} {s : Option Tf} {h1 : AH} {b : Nat} (hk : Kp b h h1) (hb : (b = io ∧ 2 ≤ io) ∨ h.nx ≤ b) {nid : Nat} (hn : nid = h1.nx) (hh : h' = h1.add (.cells (bot pe ps ++ [p]))) (hps : PtrOk h' nid iu p s) :
    EI h' (.rsl nid 0 (ps.length + 1) 1) vu (s :: st) out nid iu (p :: ps) := by
  have hnx := he.nx
  have h1nx := hk.1
  have hk2 : ∀ id, id < h.nx → id ≠ b → h'.cellsAt id = h.cellsAt id := fun id q1 q2 => by
    subst hh; rw [cellsAt_add, if_neg (by omega)]; exact hk.2 id q1 q2
  have hk3 : Kp b h h' := ⟨by subst hh; simp; omega, hk2⟩
  have hiu : iu < h.nx := by
    rcases he.ou with ⟨_, _, q⟩ | ⟨_, _, _, q, _⟩ <;> omega
  have hne := he.ne
  refine ⟨(hk2 0 (by omega) (by omega)).trans he.c0, (hk2 1 (by omega) (by omega)).trans he.c1, Nat.le_trans hnx hk3.1, by omega, .inr ⟨rfl, by omega, ?_⟩, by simp [he.pl], ?_, ?_⟩
  · subst hh; exact Stk.push' pe_len hn rfl
  · intro k q t q1 q2
    cases k with
    | zero => simp at q1 q2; subst q1; subst q2; exact hps
    | succ k =>
      simp at q1 q2
      exact (he.pp k q t q1 q2).keep hk3 (by omega) (.inr (by omega)) (.inl rfl)
  · rcases he.ou with q | ⟨q0, q1, q2, q3, q4⟩
    · exact .inl q
    · exact .inr ⟨q0, q1, q2, Nat.lt_of_lt_of_le q3 hk3.1, (hk2 iu q3 (by omega)).trans q4⟩
theorem EI.more {h h' : AH} {vo vu : AV} {st : List (Option Tf)} {out : List Rect} {io iu : Nat} {ps : List AV} (he : EI h vo vu st out io iu ps) {r : Rect} {h1 : AH} {b : Nat} (hk : Kp b h h1) (hb : (b = iu ∧ 2 ≤ iu) ∨ h.nx ≤ b) {nid : Nat} (hn : nid = h1.nx) (hh : h' = h1.add (.cells ((out.map Rect.enc).flatten ++ r.enc))) :
    EI h' vo (.rsl nid 0 (out.length + 1) 4) st (out ++ [r]) io nid ps := by
  have hnx := he.nx
  have h1nx := hk.1
  have hk2 : ∀ id, id < h.nx → id ≠ b → h'.cellsAt id = h.cellsAt id := fun id q1 q2 => by
    subst hh; rw [cellsAt_add, if_neg (by omega)]; exact hk.2 id q1 q2
  have hk3 : Kp b h h' := ⟨by subst hh; simp; omega, hk2⟩
  have hio : io < h.nx := by
    rcases he.op with ⟨_, _, q⟩ | ⟨_, _, q⟩
    · omega
    · exact q.lt
  have hne := he.ne
  refine ⟨(hk2 0 (by omega) (by omega)).trans he.c0, (hk2 1 (by omega) (by omega)).trans he.c1, Nat.le_trans hnx hk3.1, by omega, ?_, he.pl, fun k p s q1 q2 => (he.pp k p s q1 q2).keep hk3 (by omega) (.inl rfl) (.inr (by omega)), .inr ⟨by simp, by simp, by omega, ?_, ?_⟩⟩
  · rcases he.op with q | ⟨q1, q2, ⟨q3, cs, q4, q5⟩⟩
    · exact .inl q
    · exact .inr ⟨q1, q2, ⟨Nat.lt_of_lt_of_le q3 hk3.1, cs, (hk2 io q3 (by omega)).trans q4, q5⟩⟩
  · subst hh; simp; omega
  · subst hh; rw [hn, cellsAt_add, if_pos rfl]; simp
theorem EI.pop {h : AH} {vo vu : AV} {s : Option Tf} {st : List (Option Tf)} {out : List Rect} {io iu : Nat} {p : AV} {ps : List AV} (he : EI h vo vu (s :: st) out io iu (p :: ps)) : EI h (.rsl io 0 ps.length 1) vu st out io iu ps := by
  refine ⟨he.c0, he.c1, he.nx, he.ne, .inr ⟨rfl, ?_⟩, by have := he.pl; simpa using this, fun k q t q1 q2 => he.pp (k + 1) q t (by simpa using q1) (by simpa using q2), he.ou⟩
  rcases he.op with ⟨q, _⟩ | ⟨q1, q2, ⟨q3, cs, q4, q5⟩⟩
  · cases q
  · exact ⟨q2, q3, cs, q4, (stk_top pe_len q5).2⟩
@[simp] theorem cells_nilptr : AV.cells .nilptr = [.nilptr] := Eq.trans rfl rfl
@[simp] theorem cells_ptr (a b : Nat) : AV.cells (.ptr a b) = [.ptr a b] := Eq.trans rfl rfl
@[simp] theorem cells_nilsl : AV.cells .nilsl = [.nilsl] := Eq.trans rfl rfl
@[simp] theorem cells_rsl (a b c d : Nat) : AV.cells (.rsl a b c d) = [.rsl a b c d] := Eq.trans rfl rfl
@[simp] theorem one_rsl (a b c d : Nat) : AV.one (.rsl a b c d) = true := Eq.trans rfl rfl
@[simp] theorem one_nilsl : AV.one .nilsl = true := Eq.trans rfl rfl
def exI (l : List Cmd) (f t : Nat) (R : Option (List Rect)) (m : Nat) (vs : List AV) (h : AH) : Prop := ∃ (i : Nat) (vo vu : AV) (st : List (Option Tf)) (out : List Rect) (io iu : Nat) (ps : List AV) (g : Tf) (gr : List Tf), i ≤ l.length ∧ m = l.length - i ∧ vs = [I f, I t, .ptr 0 0, .ptr 1 0, vo, vu, cmds l, I l.length, I i] ∧
  EI h vo vu st out io iu ps ∧ vrun (g :: gr) (l.drop i) = 0 ∧ gr.length = st.length ∧ exts f t st i (l.drop i) out = R ∧ out.length ≤ i ∧ st.length ≤ i
def exM (l : List Cmd) (f t i : Nat) (R : Option (List Rect)) (c : Cmd) (st : List (Option Tf)) (x : AX) (vs : List AV) (h : AH) : Prop :=
  (x = .nrm ∧ ∃ vo vu st' out io iu ps, vs = [I f, I t, .ptr 0 0, .ptr 1 0, vo, vu, cmds l, I l.length, I i] ∧ EI h vo vu st' out io iu ps ∧ st' = (if c.kind = 1 then none :: st else if c.kind = 2 then some c.t :: st else if c.kind = 3 then st.tail else st) ∧ exts f t st' (i + 1) (l.drop (i + 1)) out = R ∧ out.length ≤ i + 1) ∨
  (x = .ret ∧ ∃ vo vu, vs = [I f, I t, .ptr 0 0, .ptr 1 0, vo, vu, cmds l, I l.length, I i] ∧ h.cellsAt 0 = some [.nilsl] ∧ h.cellsAt 1 = some [.bool false] ∧ R = none)
def exR (R : Option (List Rect)) (v : AV) (h : AH) : Prop :=
  match R with
  | none => v = .tup [.nilsl, .bool false]
  | some [] => v = .tup [.nilsl, .bool true]
  | some (r :: o) => ∃ id, v = .tup [.rsl id 0 (o.length + 1) 4, .bool true] ∧ h.cellsAt id = some (((r :: o).map Rect.enc).flatten)
def e75 : QE Try.prog := ⟨75, fun args h Q => ∃ v, args = [v] ∧ stow v = true ∧ v.cells = [v] ∧ Q (.func (.func 85) [] [.ptr h.nx 0]) (h.add (.cells [v])), fun args h Q ⟨v, h1, h2, h3, h4⟩ => by
  subst h1
  refine ⟨_, _, ?_, h4⟩
  refine C75 (tb_ok []) ?_
  have : kBox h v = some (.ptr h.nx 0, h.add (.cells v.cells)) := by simp [kBox, h2]
  simp [g75, this, h3]⟩
@[simp ↓] theorem e75_h (tl : List (QE Try.prog)) (v : AV) (h : AH) (Q : AV → AH → Prop) (hv : stow v = true) (hc : v.cells = [v]) : tb (e75 :: tl) 75 [v] h Q = Q (.func (.func 85) [] [.ptr h.nx 0]) (h.add (.cells [v])) := by
  rw [tb_here e75 tl 75 _ _ _ rfl]
  exact propext ⟨fun ⟨v', h1, _, _, h4⟩ => by simp at h1; subst h1; exact h4, fun h4 => ⟨v, rfl, hv, hc, h4⟩⟩
@[simp ↓] theorem e75_t (tl : List (QE Try.prog)) (f : Nat) (args : List AV) (h : AH) (Q : AV → AH → Prop) (hf : 75 ≠ f) : tb (e75 :: tl) f args h Q = tb tl f args h Q := tb_there e75 tl f args h Q hf
theorem bot_pe (ps : List AV) : bot pe ps = ps.reverse := by
  unfold bot
  induction ps.reverse with
  | nil => rfl
  | cons a l ih => simp [pe]; simpa [pe] using ih
def rgR (h1 : AH) (vo : AV) (st : List (Option Tf)) (r : Rect) (k : Nat) (h2 : AH) : Prop := ∃ q : Rect, Kp h1.nx h1 h2 ∧ h1.nx + 2 ≤ h2.nx ∧ h2.cellsAt h1.nx = some q.enc ∧ h2.cellsAt (h1.nx + 1) = some [vo] ∧ ext1 (st.drop k) q = ext1 st r
theorem extents_e (l : List Cmd) (f t : Nat) (hl : SmL l) (hv : validate l = 0) (hf : f ≤ 100000) (ht : t ≤ 100000) : CallsA Try.prog 54 [cmds l, I f, I t] emp (exR (exts f t [] 0 l [])) := by
  refine C54 (tb_ok [e36, e75, e76, e77]) back85 ?_
  have hlen : l.length ≤ 20000 := by
    unfold validate at hv
    split at hv
    · cases hv
    · omega
  have hv2 : vrun [tf1] l = 0 := by unfold validate at hv; rwa [if_neg (by omega)] at hv
  simp (disch := first | (simp; done) | omega | (simp only [nx_add, nx_set, nx_kill, nx_mk, nx_emp]; omega) | fail) [g54]
  refine ⟨exI l f t (exts f t [] 0 l []), l.length, ⟨0, .nilsl, .nilsl, [], [], 0, 1, [], tf1, [], by omega, rfl, rfl, ⟨by simp, by simp, by simp, by omega, .inl ⟨rfl, rfl, rfl⟩, rfl, fun k p s h1 => by simp at h1, .inl ⟨rfl, rfl, rfl⟩⟩, hv2, rfl, rfl, by simp, by simp⟩, ?_⟩
  generalize exts f t [] 0 l [] = R
  rintro m vs h ⟨i, vo, vu, st, out, io, iu, ps, g, gr, hi, rfl, rfl, he, hrun, hgl, hex, hol, hsl⟩
  by_cases hlt : i < l.length
  · have hd : l.drop i = l[i] :: l.drop (i + 1) := List.drop_eq_getElem_cons hlt
    rw [hd] at hrun hex
    obtain ⟨c, hc⟩ : ∃ c, c = l[i] := ⟨_, rfl⟩
    rw [← hc] at hrun hex
    obtain ⟨g', gr', hrun', hcase, hnear, hrect⟩ := step_ok hrun
    simp (disch := first | (simp; done) | omega | (simp only [nx_add, nx_set, nx_kill, nx_mk, nx_emp]; omega) | fail) [g54_l10, hlt, ← hc]
    refine ⟨exM l f t i R c st, ?_, ?_⟩
    · simp (disch := first | (simp; done) | omega | (simp only [nx_add, nx_set, nx_kill, nx_mk, nx_emp]; omega) | fail) [g54_a8, hlt, ← hc]
      have hnx := he.nx
      have n1 : ¬ h.nx + 1 = h.nx := by omega
      refine ⟨fun k1 => ?_, fun k1 => ?_⟩
      · have hgo : exts f t (none :: st) (i + 1) (l.drop (i + 1)) out = R := by rw [← hex]; simp [exts, k1]
        have hs : (none :: st) = (if c.kind = 1 then none :: st else if c.kind = 2 then some c.t :: st else if c.kind = 3 then st.tail else st) := by rw [if_pos k1]
        rcases he.op with ⟨rfl, rfl, rfl⟩ | ⟨rfl, hio2, ⟨hio, cs, hcs, hcut⟩⟩
        · simp (disch := first | (simp; done) | omega | (simp only [nx_add, nx_set, nx_kill, nx_mk, nx_emp]; omega) | fail) [g54_s1, n1]
          refine .inl ⟨rfl, _, _, _, _, _, _, _, rfl, EI.push he (s := none) (b := h.nx) (h1 := _) ⟨?_, ?_⟩ (.inr (Nat.le_refl _)) ?_ rfl rfl, hs, hgo, by omega⟩
          · simp; omega
          · intro id q1 q2
            simp only [cellsAt_add, cellsAt_set, cellsAt_kill, nx_add, nx_set, nx_kill]
            repeat rw [if_neg (by omega)]
          · simp
        · have n2 : ¬ io = h.nx := by omega
          have n3 : ¬ io = h.nx + 1 := by omega
          have hps : ps.length ≤ 20000 := by have := he.pl; omega
          rw [Nat.mul_one] at hcut
          simp (disch := first | (simp; done) | omega | (simp only [nx_add, nx_set, nx_kill, nx_mk, nx_emp]; omega) | fail) [g54_s1, n1, n2, n3, hcs, hcut]
          refine .inl ⟨rfl, _, _, _, _, _, _, _, rfl, EI.push he (s := none) (b := io) (h1 := _) ⟨?_, ?_⟩ (.inl ⟨rfl, hio2⟩) ?_ rfl rfl, hs, hgo, by omega⟩
          · simp; omega
          · intro id q1 q2
            simp only [cellsAt_add, cellsAt_set, cellsAt_kill, nx_add, nx_set, nx_kill]
            repeat rw [if_neg (by omega)]
          · simp
      simp (disch := first | (simp; done) | omega | (simp only [nx_add, nx_set, nx_kill, nx_mk, nx_emp]; omega) | fail) [g54_s3, n1]
      refine ⟨fun k2 => ?_, fun k2 => ⟨fun k3 => ?_, fun k3 => ?_⟩⟩
      · have hgo : exts f t (some c.t :: st) (i + 1) (l.drop (i + 1)) out = R := by rw [← hex]; simp [exts, k1, k2]
        have hs : (some c.t :: st) = (if c.kind = 1 then none :: st else if c.kind = 2 then some c.t :: st else if c.kind = 3 then st.tail else st) := by rw [if_neg k1, if_pos k2]
        rcases he.op with ⟨rfl, rfl, rfl⟩ | ⟨rfl, hio2, ⟨hio, cs, hcs, hcut⟩⟩
        · simp (disch := first | (simp; done) | omega | (simp only [nx_add, nx_set, nx_kill, nx_mk, nx_emp]; omega) | fail) [n1]
          refine .inl ⟨rfl, _, _, _, _, _, _, _, rfl, EI.push he (s := some c.t) (b := h.nx) (h1 := _) ⟨?_, ?_⟩ (.inr (Nat.le_refl _)) ?_ rfl ⟨h.nx, c, rfl, hnx, ?_, ?_, ?_, ?_, rfl⟩, hs, hgo, by omega⟩
          · simp; omega
          · intro id q1 q2
            simp only [cellsAt_add, cellsAt_set, cellsAt_kill, nx_add, nx_set, nx_kill]
            repeat rw [if_neg (by omega)]
          · simp
          · simp; omega
          · omega
          · rcases he.ou with ⟨_, _, q⟩ | ⟨_, _, _, q, _⟩ <;> omega
          · simp only [cellsAt_add, cellsAt_set, cellsAt_kill, nx_add, nx_set, nx_kill]
            rw [if_neg (by omega), if_neg (by omega)]; simp
        · have n2 : ¬ io = h.nx := by omega
          have n3 : ¬ io = h.nx + 1 := by omega
          have hps : ps.length ≤ 20000 := by have := he.pl; omega
          rw [Nat.mul_one] at hcut
          simp (disch := first | (simp; done) | omega | (simp only [nx_add, nx_set, nx_kill, nx_mk, nx_emp]; omega) | fail) [n1, n2, n3, hcs, hcut]
          refine .inl ⟨rfl, _, _, _, _, _, _, _, rfl, EI.push he (s := some c.t) (b := io) (h1 := _) ⟨?_, ?_⟩ (.inl ⟨rfl, hio2⟩) ?_ rfl ⟨h.nx, c, rfl, hnx, ?_, ?_, ?_, ?_, rfl⟩, hs, hgo, by omega⟩
          · simp; omega
          · intro id q1 q2
            simp only [cellsAt_add, cellsAt_set, cellsAt_kill, nx_add, nx_set, nx_kill]
            repeat rw [if_neg (by omega)]
          · simp
          · simp; omega
          · omega
          · rcases he.ou with ⟨_, _, q⟩ | ⟨_, _, _, q, _⟩ <;> omega
          · simp only [cellsAt_add, cellsAt_set, cellsAt_kill, nx_add, nx_set, nx_kill]
            rw [if_neg (by omega), if_neg (by omega), if_neg (by omega)]; simp
      · have hgo : exts f t st.tail (i + 1) (l.drop (i + 1)) out = R := by rw [← hex]; simp [exts, k1, k2, k3]
        have hs : st.tail = (if c.kind = 1 then none :: st else if c.kind = 2 then some c.t :: st else if c.kind = 3 then st.tail else st) := by rw [if_neg k1, if_neg k2, if_pos k3]
        have hst0 : st ≠ [] := by
          rintro rfl
          rcases hcase with ⟨_, e⟩ | ⟨k, _⟩ | ⟨k, _⟩
          · subst e; simp at hgl
          · omega
          · omega
        have hpl := he.pl
        cases st with
        | nil => exact absurd rfl hst0
        | cons s2 st2 =>
          cases ps with
          | nil => simp at hpl
          | cons p2 ps2 =>
            have hvo : vo = .rsl io 0 (ps2.length + 1) 1 := by
              rcases he.op with ⟨q, _⟩ | ⟨q, _⟩
              · cases q
              · exact q
            subst hvo
            have hps2 : ps2.length ≤ 20000 := by simp at hpl; simp at hsl; omega
            simp (disch := first | (simp; done) | omega | (simp only [nx_add, nx_set, nx_kill, nx_mk, nx_emp]; omega) | fail) [g54_s2, kSl_hi]
            refine .inl ⟨rfl, _, _, _, _, _, _, _, rfl, (he.pop).keep (b := h.nx) ⟨?_, ?_⟩ (Nat.le_refl _), hs, hgo, by omega⟩
            · simp
            · intro id q1 q2
              simp only [cellsAt_add, cellsAt_set, cellsAt_kill, nx_add, nx_set, nx_kill]
              repeat rw [if_neg (by omega)]
      · have hs : st = (if c.kind = 1 then none :: st else if c.kind = 2 then some c.t :: st else if c.kind = 3 then st.tail else st) := by rw [if_neg k1, if_neg k2, if_neg k3]
        obtain ⟨H, hH⟩ : ∃ H, H = (h.add (.cells [.int .i64 0, .int .i64 0, .int .i64 0, .int .i64 0, .int .i64 0, .int .i64 0, .bool false, .int .i64 0, .int .i64 0, .int .i64 0, .int .i64 0, .str [], .int .i64 0, .int .i64 0, .int .i64 0, .int .i64 0, .int .i64 0, .int .i64 0, .int .i64 0, .int .i64 0, .int .i64 0, .nilsl])).set h.nx (.cells c.enc) := ⟨_, rfl⟩
        rw [← hH]
        have heH : EI H vo vu st out io iu ps := by
          refine he.keep (b := h.nx) ⟨?_, ?_⟩ (Nat.le_refl _)
          · subst hH; simp
          · intro id q1 q2
            subst hH
            simp only [cellsAt_add, cellsAt_set, cellsAt_kill, nx_add, nx_set, nx_kill]
            repeat rw [if_neg (by omega)]
        have hcH : H.cellsAt h.nx = some c.enc := by subst hH; simp
        have hnH : h.nx < H.nx := by subst hH; simp
        refine ⟨fun vs h1 => vs = [I f, I t, .ptr 0 0, .ptr 1 0, vo, vu, .ptr h.nx 0, cmds l, I l.length, I i, .bool (decide (f ≤ i) && decide (i < t))] ∧ h1 = H, ?_, ?_⟩
        · by_cases q1 : f ≤ i <;> by_cases q2 : i < t <;> simp (disch := first | (simp; done) | omega | (simp only [nx_add, nx_set, nx_kill, nx_mk, nx_emp]; omega) | fail) [g54_a1, q1, q2]
        rintro vs h1 ⟨rfl, rfl⟩
        clear hH
        simp (disch := first | (simp; done) | omega | (simp only [nx_add, nx_set, nx_kill, nx_mk, nx_emp]; omega) | fail) [g54_j7]
        refine ⟨fun hin1 hin2 => ?_, fun hno => ?_⟩
        · have hgo : (match ext1 st c.r with | none => none | some r => exts f t st (i + 1) (l.drop (i + 1)) (if emptyR r then out else out ++ [r])) = R := by
            rw [← hex]; simp only [exts, if_neg k1, if_neg k2, if_neg k3]; rw [if_pos ⟨by omega, by omega⟩]
          have hso : stow vo = true ∧ vo.cells = [vo] := by
            rcases heH.op with ⟨_, rfl, _⟩ | ⟨rfl, _⟩ <;> simp
          simp (disch := first | (simp; done) | omega | (simp only [nx_add, nx_set, nx_kill, nx_mk, nx_emp]; omega) | fail) [g54_j7, hcH]
          rw [e75_h _ _ _ _ hso.1 hso.2]
          refine ⟨h1.nx + 1, vo, ps.reverse, rgR h1 vo st c.r, rfl, ?_, ?_, ?_, ?_⟩
          · refine ⟨c.r, ⟨by simp; omega, ?_⟩, by simp, ?_, by simp, by simp⟩
            · intro id q1 q2
              simp only [cellsAt_add, cellsAt_set, cellsAt_kill, nx_add, nx_set, nx_kill]
              repeat rw [if_neg (by omega)]
            · simp
          · rintro k h2 ⟨q, hk, hn2, z1, z2, _⟩
            refine ⟨z2, ?_⟩
            have he2 := heH.keep hk (Nat.le_refl _)
            rcases he2.op with ⟨rfl, rfl, _⟩ | ⟨rfl, _, ⟨_, cs, y1, y2⟩⟩
            · rfl
            · rw [bot_pe, Nat.mul_one] at y2
              simp [elemsAt, y1, y2]
          · rintro k h2 x ⟨q, hk, hn2, z1, z2, hext⟩ hklt hx
            have he2 := heH.keep hk (Nat.le_refl _)
            simp at hklt
            have hx2 : ps[k]? = some x := by
              rw [List.getElem?_reverse (by simp; omega)] at hx
              rw [← hx]; congr 1; simp; omega
            have hks : k < st.length := by have := he2.pl; omega
            have hpx := he2.pp k x st[k] hx2 (by simp [hks])
            have hdr : st.drop k = st[k] :: st.drop (k + 1) := List.drop_eq_getElem_cons hks
            have hnx1 := heH.nx
            obtain ⟨s, hs1⟩ : ∃ s, s = st[k] := ⟨_, rfl⟩
            rw [hdr, ← hs1] at hext
            rw [← hs1] at hpx
            have hnr0 : ¬ 0 = h1.nx := by omega
            have hnr1 : ¬ 1 = h1.nx := by omega
            have hnr2 : ¬ h1.nx + 1 = h1.nx := by omega
            have r0 := he2.c0
            have r1 := he2.c1
            refine (?_ : g54_b4 _ _ _ _ _ x h2 _)
            have main : ∀ (q2 : Rect) (h3 : AH), Kp h1.nx h1 h3 → h1.nx + 2 ≤ h3.nx → h3.cellsAt h1.nx = some q2.enc → h3.cellsAt (h1.nx + 1) = some [vo] → (if okR q2 then ext1 (st.drop (k + 1)) q2 else none) = ext1 st c.r →
                g54_j3 (tb [e36, e75, e76, e77]) (.ptr 0 0) (.ptr 1 0) (.ptr h1.nx 0) h3 fun y h3 => xs y (rgR h1 vo st c.r (k + 1) h3)
                  (fun j => (fun x h => g54_j6 (tb [e36, e75, e76, e77]) x (I f) (I t) (.ptr 0 0) (.ptr 1 0) vo vu (.ptr h1.nx 0) (cmds l) (I l.length) (I i) h (exM l f t i R c st)) (.exit j) h3)
                  ((fun x h => g54_j6 (tb [e36, e75, e76, e77]) x (I f) (I t) (.ptr 0 0) (.ptr 1 0) vo vu (.ptr h1.nx 0) (cmds l) (I l.length) (I i) h (exM l f t i R c st)) .ret h3) := by
              intro q2 h3 hk3 hn3 y1 y2 hext3
              have he3 := heH.keep hk3 (Nat.le_refl _)
              have s0 := he3.c0
              have s1 := he3.c1
              cases hq : okR q2
              · simp (disch := first | (simp; done) | omega | (simp only [nx_add, nx_set, nx_kill, nx_mk, nx_emp]; omega) | fail) [g54_j3, y1, hq, s0, s1]
                simp (disch := first | (simp; done) | omega | (simp only [nx_add, nx_set, nx_kill, nx_mk, nx_emp]; omega) | fail) [g54_j6, y1, hq, s0, s1]
                rw [hq] at hext3
                simp at hext3
                rw [← hext3] at hgo
                exact .inr ⟨rfl, _, _, rfl, by simp (disch := first | (simp; done) | omega | (simp only [nx_add, nx_set, nx_kill, nx_mk, nx_emp]; omega) | fail) [s0], by simp (disch := first | (simp; done) | omega | (simp only [nx_add, nx_set, nx_kill, nx_mk, nx_emp]; omega) | fail) [s1], by simpa using hgo.symm⟩
              · simp (disch := first | (simp; done) | omega | (simp only [nx_add, nx_set, nx_kill, nx_mk, nx_emp]; omega) | fail) [g54_j3, y1, hq]
                rw [hq] at hext3
                exact ⟨q2, hk3, hn3, y1, y2, by simpa using hext3⟩
            cases s with
            | none =>
              obtain rfl : x = .nilptr := hpx
              simp (disch := first | (simp; done) | omega | (simp only [nx_add, nx_set, nx_kill, nx_mk, nx_emp]; omega) | fail) [g54_b4]
              refine ⟨fun vs h3 => vs = [.ptr 0 0, .ptr 1 0, .ptr h1.nx 0] ∧ h3 = h2, ?_, ?_⟩
              · simp (disch := first | (simp; done) | omega | (simp only [nx_add, nx_set, nx_kill, nx_mk, nx_emp]; omega) | fail) [g54_a2]
              · rintro vs h3 ⟨rfl, rfl⟩
                exact main q h3 hk hn2 z1 z2 (by simpa [ext1] using hext)
            | some tt =>
              obtain ⟨idc, c2, rfl, w1, w2, w3, w4, w5, rfl⟩ := hpx
              simp (disch := first | (simp; done) | omega | (simp only [nx_add, nx_set, nx_kill, nx_mk, nx_emp]; omega) | fail) [g54_b4]
              have n0 : ¬ idc = h1.nx := by
                intro e; subst e
                rw [z1] at w5
                have := congrArg (Option.map List.length) w5
                simp at this
              refine ⟨fun vs h3 => vs = [.ptr 0 0, .ptr 1 0, .ptr h1.nx 0] ∧ Kp h1.nx h1 h3 ∧ h1.nx + 2 ≤ h3.nx ∧ h3.cellsAt h1.nx = some (apl c2.t q).enc ∧ h3.cellsAt (h1.nx + 1) = some [vo], ?_, ?_⟩
              · simp (disch := first | (simp; done) | omega | (simp only [nx_add, nx_set, nx_kill, nx_mk, nx_emp]; omega) | fail) [g54_a2, w5, z1, z2, n0, hnr2]
                refine ⟨⟨?_, fun id q1 q2 => ?_⟩, by omega⟩
                · simp; have := hk.1; omega
                · rw [cellsAt_set, if_neg q2]; exact hk.2 id q1 q2
              · rintro vs h3 ⟨rfl, k1, k2, k3, k4⟩
                exact main (apl c2.t q) h3 k1 k2 k3 k4 (by simpa [ext1] using hext)
          · rintro h2 ⟨q, hk, hn2, z1, z2, hext⟩
            have he2 := heH.keep hk (Nat.le_refl _)
            have hfull : st.drop ps.reverse.length = [] := List.drop_eq_nil_of_le (by have := he2.pl; simp; omega)
            rw [hfull] at hext
            simp [ext1] at hext
            rw [← hext] at hgo
            simp only at hgo
            simp (disch := first | (simp; done) | omega | (simp only [nx_add, nx_set, nx_kill, nx_mk, nx_emp]; omega) | fail) [g54_j6, z1]
            simp (disch := first | (simp; done) | omega | (simp only [nx_add, nx_set, nx_kill, nx_mk, nx_emp]; omega) | fail) [g54_c5, z1]
            refine ⟨fun hem => ?_, fun hem => .inl ⟨rfl, _, _, _, _, _, _, _, rfl, he2, hs, by simpa [hem] using hgo, by omega⟩⟩
            have hgo2 : exts f t st (i + 1) (l.drop (i + 1)) (out ++ [q]) = R := by simpa [hem] using hgo
            rcases he2.ou with ⟨rfl, rfl, rfl⟩ | ⟨hne, rfl, q2, q3, q4⟩
            · simp (disch := first | (simp; done) | omega | (simp only [nx_add, nx_set, nx_kill, nx_mk, nx_emp]; omega) | fail) []
              refine .inl ⟨rfl, _, _, _, _, _, _, _, rfl, EI.more he2 (r := q) (b := h2.nx) (h1 := _) ⟨?_, ?_⟩ (.inr (Nat.le_refl _)) ?_ rfl, hs, hgo2, by simp⟩
              · simp
              · intro id q1 q2
                simp only [cellsAt_add, cellsAt_set, cellsAt_kill, nx_add, nx_set, nx_kill]
                repeat rw [if_neg (by omega)]
              · simp
            · have w1 : ¬ iu = h2.nx := by omega
              have hcut : cut (((out.map Rect.enc).flatten)) 0 (out.length * 4) = some ((out.map Rect.enc).flatten) := by
                have := cut_zero_app (α := (out.map Rect.enc).flatten) (b := []) (n := out.length * 4) (by rw [flat_len Rect.len])
                rwa [List.append_nil] at this
              have hol2 : out.length ≤ 20000 := by omega
              obtain ⟨F, hF⟩ : ∃ F, F = (out.map Rect.enc).flatten := ⟨_, rfl⟩
              rw [← hF] at q4 hcut
              simp (disch := first | (simp; done) | omega | (simp only [nx_add, nx_set, nx_kill, nx_mk, nx_emp]; omega) | fail) [w1, q4, hcut]
              refine .inl ⟨rfl, _, _, _, _, _, _, _, rfl, EI.more he2 (r := q) (b := iu) (h1 := _) ⟨?_, ?_⟩ (.inl ⟨rfl, q2⟩) ?_ (by rw [hF]), hs, hgo2, by simp; omega⟩
              · simp
              · intro id q1 q2
                simp only [cellsAt_add, cellsAt_set, cellsAt_kill, nx_add, nx_set, nx_kill]
                repeat rw [if_neg (by omega)]
              · simp
        · refine .inl ⟨rfl, _, _, _, _, _, _, _, rfl, heH, hs, ?_, by omega⟩
          rw [← hex]; simp only [exts, if_neg k1, if_neg k2, if_neg k3]; rw [if_neg (by omega)]
    · rintro x vs h' (⟨rfl, vo', vu', st', out', io', iu', ps', rfl, he', hst, hex', hol'⟩ | ⟨rfl, vo', vu', rfl, z0, z1, rfl⟩)
      · simp (disch := first | (simp; done) | omega | (simp only [nx_add, nx_set, nx_kill, nx_mk, nx_emp]; omega) | fail) [g54_j9]
        refine ⟨l.length - (i + 1), by omega, i + 1, vo', vu', st', out', io', iu', ps', g', gr', by omega, rfl, by simp, he', hrun', ?_, hex', by omega, ?_⟩
        · have := congrArg List.length hst
          rcases hcase with ⟨k, e⟩ | ⟨k, e⟩ | ⟨k, e⟩ <;> have := congrArg List.length e <;> simp at this
          all_goals grind
        · have := congrArg List.length hst
          grind
      · simp (disch := first | (simp; done) | omega | (simp only [nx_add, nx_set, nx_kill, nx_mk, nx_emp]; omega) | fail) [g54_j9, g54_j12, z0, z1, exR]
  · have hil : i = l.length := by omega
    subst hil
    simp [exts] at hex
    subst hex
    simp (disch := first | (simp; done) | omega | (simp only [nx_add, nx_set, nx_kill, nx_mk, nx_emp]; omega) | fail) [g54_l10, hlt]
    simp (disch := first | (simp; done) | omega | (simp only [nx_add, nx_set, nx_kill, nx_mk, nx_emp]; omega) | fail) [g54_j12, hlt]
    have z0 := he.c0
    have z1 := he.c1
    rcases he.ou with ⟨rfl, rfl, rfl⟩ | ⟨hne, rfl, q2, q3, q4⟩
    · simp (disch := first | (simp; done) | omega | (simp only [nx_add, nx_set, nx_kill, nx_mk, nx_emp]; omega) | fail) [g54_c11, z0, z1, exR]
    · cases out with
      | nil => exact absurd rfl hne
      | cons r o =>
        have w1 : ¬ iu = 1 := by omega
        have w0 : ¬ iu = 0 := by omega
        simp (disch := first | (simp; done) | omega | (simp only [nx_add, nx_set, nx_kill, nx_mk, nx_emp]; omega) | fail) [g54_c11, z0, z1]
        refine ⟨iu, rfl, ?_⟩
        simp only [cellsAt_set]
        rw [if_neg w1, if_neg w0]; exact q4
end Go.Proofs.Ytpnekpbehcbmkaa
end
noncomputable section
namespace Go.Proofs.Ytpnekpbehcbmkaa
open Go.Eng
def flatR (l : List Rect) : List AV := (l.map Rect.enc).flatten
theorem flatR_frz (h : AH) (n : Bool) (l : List Rect) : FrzL h n (flatR l) (flatR l) := by
  rw [FrzL_iff]
  refine ⟨rfl, fun i c d h1 h2 => ?_⟩
  rw [h1] at h2; cases h2
  have hm := List.mem_of_getElem? h1
  obtain ⟨x, hx, hr⟩ := List.mem_flatten.1 hm
  obtain ⟨r, _, rfl⟩ := List.mem_map.1 hx
  simp [Rect.enc] at hr
  rcases hr with rfl | rfl | rfl | rfl <;> exact .int _ _
theorem everything_d (h : AH) : CallD Try.prog 51 [] h (.rsl h.nx 0 4 4) (h.add (.cells (flatR evr))) := by
  refine C51 (tb_ok []) ?_
  simp (disch := first | (simp; done) | omega | (simp only [nx_add, nx_set, nx_kill, nx_mk, nx_emp]; omega) | fail) [g51]
  simp [splice]
  rfl
def e51 : QE Try.prog := ⟨51, fun args h Q => args = [] ∧ Q (.rsl h.nx 0 4 4) (h.add (.cells (flatR evr))), fun args h Q ⟨h1, h2⟩ => by subst h1; exact ⟨_, _, everything_d h, h2⟩⟩
@[simp ↓] theorem e51_h (tl : List (QE Try.prog)) (h : AH) (Q : AV → AH → Prop) : tb (e51 :: tl) 51 [] h Q = Q (.rsl h.nx 0 4 4) (h.add (.cells (flatR evr))) := by
  rw [tb_here e51 tl 51 _ _ _ rfl]
  exact propext ⟨fun h => h.2, fun h => ⟨rfl, h⟩⟩
@[simp ↓] theorem e51_t (tl : List (QE Try.prog)) (f : Nat) (args : List AV) (h : AH) (Q : AV → AH → Prop) (hf : 51 ≠ f) : tb (e51 :: tl) f args h Q = tb tl f args h Q := tb_there e51 tl f args h Q hf
def exV (R : Option (List Rect)) (h : AH) : AV := match R with
  | none => .tup [.nilsl, .bool false]
  | some [] => .tup [.nilsl, .bool true]
  | some (r :: o) => .tup [.rsl h.nx 0 (o.length + 1) 4, .bool true]
def exH (R : Option (List Rect)) (h : AH) : AH := match R with
  | none => h
  | some [] => h
  | some (r :: o) => h.add (.cells (flatR (r :: o)))
theorem frz_args3 {h : AH} {a b : AV} {n m : Int} (h1 : Frz h false a b) : ∀ (i : Nat) (x y : AV), [a, I n, I m][i]? = some x → [b, I n, I m][i]? = some y → Frz h false x y := by
  intro i x y hx hy
  match i with
  | 0 => simp at hx hy; subst hx; subst hy; exact h1
  | 1 => simp at hx hy; subst hx; subst hy; exact .int _ _
  | 2 => simp at hx hy; subst hx; subst hy; exact .int _ _
  | i + 3 => simp at hx
theorem extents_d (l : List Cmd) (f t : Nat) (hl : SmL l) (hv : validate l = 0) (hf : f ≤ 100000) (ht : t ≤ 100000) (h : AH) : CallD Try.prog 54 [cmds l, I f, I t] h (exV (exts f t [] 0 l []) h) (exH (exts f t [] 0 l []) h) := by
  have hc := extents_e l f t hl hv hf ht
  generalize exts f t [] 0 l [] = R at hc ⊢
  match R with
  | none => exact frame (n := true) hc (fun v' h' (hr : v' = _) => by subst hr; exact .tup _ _ rfl (fun i c d k1 k2 => by
      match i with
      | 0 => simp at k1 k2; subst k1; subst k2; exact .nilsl0
      | 1 => simp at k1 k2; subst k1; subst k2; exact .bool _
      | i + 2 => simp at k1)) (.inr ⟨rfl, rfl, frz_args3 (cmds_pl l h)⟩)
  | some [] => exact frame (n := true) hc (fun v' h' (hr : v' = _) => by subst hr; exact .tup _ _ rfl (fun i c d k1 k2 => by
      match i with
      | 0 => simp at k1 k2; subst k1; subst k2; exact .nilsl0
      | 1 => simp at k1 k2; subst k1; subst k2; exact .bool _
      | i + 2 => simp at k1)) (.inr ⟨rfl, rfl, frz_args3 (cmds_pl l h)⟩)
  | some (r :: o) => exact frameO hc (fun v' h' ⟨id, hv', hc'⟩ => ⟨id, _, hc', flatR_frz _ _ _, by subst hv'; exact .two _ _ _ _ _ (.bool _)⟩) rfl (frz_args3 (cmds_pl l h))
def e54 : QE Try.prog := ⟨54, fun args h Q => ∃ l f t, args = [cmds l, I (f : Nat), I (t : Nat)] ∧ (SmL l ∧ validate l = 0 ∧ f ≤ 100000 ∧ t ≤ 100000) ∧ Q (exV (exts f t [] 0 l []) h) (exH (exts f t [] 0 l []) h), fun args h Q ⟨l, f, t, h1, ⟨h2, h3, h4, h5⟩, h6⟩ => by
  subst h1; exact ⟨_, _, extents_d l f t h2 h3 h4 h5 h, h6⟩⟩
theorem e54_h {tl : List (QE Try.prog)} {l : List Cmd} {f t : Nat} {h : AH} {Q : AV → AH → Prop} (hx : SmL l ∧ validate l = 0 ∧ f ≤ 100000 ∧ t ≤ 100000) (hq : Q (exV (exts f t [] 0 l []) h) (exH (exts f t [] 0 l []) h)) : tb (e54 :: tl) 54 [cmds l, I f, I t] h Q := by
  rw [tb_here e54 tl 54 _ _ _ rfl]
  exact ⟨l, f, t, rfl, hx, hq⟩
@[simp ↓] theorem e54_t (tl : List (QE Try.prog)) (f : Nat) (args : List AV) (h : AH) (Q : AV → AH → Prop) (hf : 54 ≠ f) : tb (e54 :: tl) f args h Q = tb tl f args h Q := tb_there e54 tl f args h Q hf
def dSt (a b : List Cmd) : Bool := ((a.drop (dAt a b)).take (a.length - dTl a b - dAt a b)).any strct || (dL a b).any strct
def dF (a b : List Cmd) : Nat := if dSt a b then 0 else dAt a b
def dTa (a b : List Cmd) : Nat := if dSt a b then a.length else a.length - dTl a b
def dTb (a b : List Cmd) : Nat := if dSt a b then b.length else b.length - dTl a b
def dmg (a b : List Cmd) : List Rect := if eqD a b then [] else if validate a = 0 ∧ validate b = 0 then
    (match exts (dF a b) (dTa a b) [] 0 a [], exts (dF a b) (dTb a b) [] 0 b [] with
    | some x, some y => x ++ y
    | _, _ => evr)
  else evr
theorem valid_len {l : List Cmd} (h : validate l = 0) : l.length ≤ 20000 := by
  unfold validate at h
  split at h
  · cases h
  · omega
theorem dj {vx vy : AV} {bx bY : Bool} {h : AH} {Q : AV → AH → Prop} (h1 : bx = true → bY = true → wk (kApp h 4 32 vx vy) Q) (h2 : bx = false ∨ bY = false → Q (.rsl h.nx 0 4 4) (h.add (.cells (flatR evr)))) : g23_s3 (tb [e51, e54, e27, e13, e53]) vx (.bool bx) (.tup [vy, .bool bY]) h Q := by
  simp (disch := first | (simp; done) | omega | (simp only [nx_add, nx_set, nx_kill, nx_mk, nx_emp]; omega) | fail) [g23_s3]
  refine ⟨fun vs h' => vs = [vx, vy, .bool (!(bx && bY))] ∧ h' = h, ?_, ?_⟩
  · cases bx <;> cases bY <;> simp (disch := first | (simp; done) | omega | (simp only [nx_add, nx_set, nx_kill, nx_mk, nx_emp]; omega) | fail) [g23_a4]
  · rintro vs h' ⟨rfl, rfl⟩
    cases bx <;> cases bY <;> simp (disch := first | (simp; done) | omega | (simp only [nx_add, nx_set, nx_kill, nx_mk, nx_emp]; omega) | fail) [g23_j5]
    · exact h2 (.inl rfl)
    · exact h2 (.inl rfl)
    · exact h2 (.inr rfl)
    · exact h1 rfl rfl
theorem frz_flat {h : AH} {id : Nat} {l : List Rect} (hc : h.cellsAt id = some (flatR l)) : Frz h true (.rsl id 0 l.length 4) (rects l) :=
  frz_rows Rect.len hc (fun r _ c hc => by simp [Rect.enc] at hc; rcases hc with rfl | rfl | rfl | rfl <;> exact .int _ _)
theorem frz_ev (h : AH) : Frz (h.add (.cells (flatR evr))) true (.rsl h.nx 0 4 4) (rects evr) := frz_flat (l := evr) (by simp)
theorem flat_cut (l : List Rect) : cut (flatR l) 0 (l.length * 4) = some (flatR l) := by
  have := cut_zero_app (α := flatR l) (b := []) (n := l.length * 4) (by unfold flatR; rw [flat_len Rect.len])
  rwa [List.append_nil] at this
theorem flat_ones (l : List Rect) : ones (flatR l) = true := ones_flat Rect.ones l
theorem kApp_nn (h : AH) (z b : Nat) : kApp h z b .nilsl .nilsl = some (.nilsl, h) := Eq.trans rfl rfl
theorem kApp_rn (h : AH) (id : Nat) (l : List Rect) (hc : h.cellsAt id = some (flatR l)) (hl : l.length ≤ 100000) : kApp h 4 32 (.rsl id 0 l.length 4) .nilsl = some (.rsl h.nx 0 l.length 4, (h.kill id).add (.cells (flatR l))) := by
  have h3 : roomy (l.length + 0) 32 = true := roomy_ok _ _ (by omega) (by omega)
  have h3' : roomy l.length 32 = true := h3
  simp [kApp, aapp, acells, alen, hc, flat_cut l, ones, h3']
theorem kApp_nr' (h : AH) (id : Nat) (l : List Rect) (hc : h.cellsAt id = some (flatR l)) (hl : l.length ≤ 100000) (h0 : l.length ≠ 0) : kApp h 4 32 .nilsl (.rsl id 0 l.length 4) = some (.rsl h.nx 0 l.length 4, h.add (.cells (flatR l))) := by
  have h3 : roomy l.length 32 = true := roomy_ok _ _ (by omega) (by omega)
  rw [kApp_nr _ _ _ _ _ _ h0]
  simp [hc, flat_cut l, flat_ones l, h3]
theorem kApp_rr' (h : AH) (id id2 : Nat) (l l2 : List Rect) (hc : h.cellsAt id = some (flatR l)) (hc2 : h.cellsAt id2 = some (flatR l2)) (hl : l.length + l2.length ≤ 100000) : kApp h 4 32 (.rsl id 0 l.length 4) (.rsl id2 0 l2.length 4) = some (.rsl h.nx 0 (l.length + l2.length) 4, (h.kill id).add (.cells (flatR l ++ flatR l2))) := by
  have h3 : roomy (l.length + l2.length) 32 = true := roomy_ok _ _ (by omega) (by omega)
  rw [kApp_rr]
  simp [hc, hc2, flat_cut l, flat_cut l2, flat_ones l2, h3]
theorem wk_of {r : Option (AV × AH)} {v : AV} {h : AH} {k : AV → AH → Prop} (hr : r = some (v, h)) (hk : k v h) : wk r k := by subst hr; exact hk
theorem flat_app (a b : List Rect) : flatR (a ++ b) = flatR a ++ flatR b := by simp [flatR]
theorem exts_len (f t : Nat) : ∀ (l : List Cmd) (st : List (Option Tf)) (i : Nat) (out o : List Rect), exts f t st i l out = some o → o.length ≤ out.length + l.length
  | [], st, i, out, o, h => by simp [exts] at h; subst h; simp
  | c :: l, st, i, out, o, h => by
    unfold exts at h
    (repeat' (split at h))
    all_goals (try (cases h; done))
    all_goals (have := exts_len f t l _ _ _ _ h; (try simp only [List.length_append, List.length_cons, List.length_nil] at this ⊢); first | omega | (split at this <;> simp at this ⊢ <;> omega))
theorem damage_f (a b : List Cmd) (hx : Lite a ∧ Lite b) : Fresh Try.prog 23 [cmds a, cmds b] (rects (dmg a b)) := by
  refine C23 (tb_ok [e51, e54, e27, e13, e53]) ?_
  obtain ⟨ha, hb⟩ := hx
  have sa := ha.sm; have sb := hb.sm
  cases heq : eqD a b
  · have hres : dRes a b = .psl [[I (dAt a b), I ((a.length - dTl a b - dAt a b : Nat) : Int), cmds (dL a b)]] := by unfold dRes; rw [if_neg (by simp [heq])]
    simp (disch := first | (simp; done) | omega | (simp only [nx_add, nx_set, nx_kill, nx_mk, nx_emp]; omega) | fail) [g23, ha, hb, hres]
    refine ⟨fun vs h => vs = [cmds a, cmds b, dRes a b, .bool (!(decide (validate a = 0) && decide (validate b = 0)))] ∧ h = emp, ?_, ?_⟩
    · by_cases q1 : validate a = 0 <;> by_cases q2 : validate b = 0 <;> simp (disch := first | (simp; done) | omega | (simp only [nx_add, nx_set, nx_kill, nx_mk, nx_emp]; omega) | fail) [g23_a1, q1, q2, sa, sb, hres] <;> simp (disch := first | (simp; done) | omega | (simp only [nx_add, nx_set, nx_kill, nx_mk, nx_emp]; omega) | fail) [g23_s1, q1, q2, sa, sb, hres]
    rintro vs h ⟨rfl, rfl⟩
    have hix : kIdxA emp 3 (dRes a b) (I 0) = some (.pptr [I (dAt a b), I ((a.length - dTl a b - dAt a b : Nat) : Int), cmds (dL a b)], emp) := by rw [hres]; exact kIdxA_psl (i := 0) rfl rfl
    simp (disch := first | (simp; done) | omega | (simp only [nx_add, nx_set, nx_kill, nx_mk, nx_emp]; omega) | fail) [g23_j8, hix]
    refine ⟨fun hbad => ?_, fun hva hvb => ?_⟩
    · have hd : dmg a b = evr := by
        unfold dmg; rw [if_neg (by simp [heq]), if_neg (by rintro ⟨z1, z2⟩; simp [z1, z2] at hbad)]
      rw [hd]
      exact frz_rows Rect.len (l := evr) (by simp [flatR]) (fun r _ c hc => by simp [Rect.enc] at hc; rcases hc with rfl | rfl | rfl | rfl <;> exact .int _ _)
    · have hle := d_le a b
      have hlL : (dL a b).length = b.length - dTl a b - dAt a b := by unfold dL; simp; omega
      have la1 := ha.1
      have lb1 := hb.1
      have e1 : ((dAt a b : Nat) : Int) + ((a.length - dTl a b - dAt a b : Nat) : Int) = ((a.length - dTl a b : Nat) : Int) := by omega
      have e2 : ((dAt a b : Nat) : Int) + ((b.length - dTl a b - dAt a b : Nat) : Int) = ((b.length - dTl a b : Nat) : Int) := by omega
      have g1 : (Cmd.enc = Cmd.enc) := rfl
      simp (disch := first | (simp; done) | omega | (simp only [nx_add, nx_set, nx_kill, nx_mk, nx_emp]; omega) | fail) [g23_s6, e1, e2, hlL]
      simp (disch := first | (simp; done) | omega | (simp only [nx_add, nx_set, nx_kill, nx_mk, nx_emp]; omega) | fail) [g23_s5, e1, e2, hlL]
      have hsl : ∀ h, kSl h 22 (cmds a) (some (I (dAt a b))) (some (I ((a.length - dTl a b : Nat) : Int))) none = some (cmds ((a.drop (dAt a b)).take (a.length - dTl a b - dAt a b)), h) := fun h => kSl_cmds h a _ _ (by omega) (by omega)
      have sm1 : Sm ((a.drop (dAt a b)).take (a.length - dTl a b - dAt a b)) := by unfold Sm; simp; omega
      have sm2 : Sm (dL a b) := by unfold Sm; omega
      refine ⟨fun vs h => vs = [cmds a, cmds b, I (dAt a b), I ((a.length - dTl a b : Nat) : Int), I ((b.length - dTl a b : Nat) : Int), .bool (dSt a b)], ?_, ?_⟩
      · cases q1 : ((a.drop (dAt a b)).take (a.length - dTl a b - dAt a b)).any strct
        · have hd : dSt a b = (dL a b).any strct := by unfold dSt; rw [q1]; rfl
          simp (disch := first | (simp; done) | omega | (simp only [nx_add, nx_set, nx_kill, nx_mk, nx_emp]; omega) | fail) [g23_a2, hsl, sm1, sm2, q1, hd]
          simp (disch := first | (simp; done) | omega | (simp only [nx_add, nx_set, nx_kill, nx_mk, nx_emp]; omega) | fail) [g23_s2, hsl, sm1, sm2, q1, hd]
        · have hd : dSt a b = true := by unfold dSt; rw [q1]; rfl
          simp (disch := first | (simp; done) | omega | (simp only [nx_add, nx_set, nx_kill, nx_mk, nx_emp]; omega) | fail) [g23_a2, hsl, sm1, sm2, q1, hd]
          simp (disch := first | (simp; done) | omega | (simp only [nx_add, nx_set, nx_kill, nx_mk, nx_emp]; omega) | fail) [g23_s2, hsl, sm1, sm2, q1, hd]
      rintro vs h rfl
      simp (disch := first | (simp; done) | omega | (simp only [nx_add, nx_set, nx_kill, nx_mk, nx_emp]; omega) | fail) [g23_j7]
      refine ⟨fun vs h => vs = [cmds a, cmds b, I (dF a b : Nat), I (dTa a b : Nat), I (dTb a b : Nat)], ?_, ?_⟩
      · cases q : dSt a b <;> simp (disch := first | (simp; done) | omega | (simp only [nx_add, nx_set, nx_kill, nx_mk, nx_emp]; omega) | fail) [g23_a3, q, dF, dTa, dTb]
      rintro vs h rfl
      simp (disch := first | (simp; done) | omega | (simp only [nx_add, nx_set, nx_kill, nx_mk, nx_emp]; omega) | fail) [g23_j6]
      have hF : dF a b ≤ 100000 := by unfold dF; split <;> omega
      have hTa : dTa a b ≤ 100000 := by unfold dTa; split <;> omega
      have hTb : dTb a b ≤ 100000 := by unfold dTb; split <;> omega
      refine e54_h ⟨sa, hva, hF, hTa⟩ ?_
      have hdm : dmg a b = (match exts (dF a b) (dTa a b) [] 0 a [], exts (dF a b) (dTb a b) [] 0 b [] with
          | some x, some y => x ++ y
          | _, _ => evr) := by
        unfold dmg; rw [if_neg (by simp [heq]), if_pos ⟨hva, hvb⟩]
      rw [hdm]
      have va := valid_len hva
      have vb := valid_len hvb
      have lX := fun o => exts_len (dF a b) (dTa a b) a [] 0 [] o
      have lY := fun o => exts_len (dF a b) (dTb a b) b [] 0 [] o
      generalize exts (dF a b) (dTa a b) [] 0 a [] = X at lX ⊢
      match X with
      | none =>
        simp (disch := first | (simp; done) | omega | (simp only [nx_add, nx_set, nx_kill, nx_mk, nx_emp]; omega) | fail) [g23_s4, exV, exH]
        refine e54_h ⟨sb, hvb, hF, hTb⟩ ?_
        generalize exts (dF a b) (dTb a b) [] 0 b [] = Y at lY ⊢
        match Y with
        | none => exact dj (fun z => by cases z) fun _ => frz_ev _
        | some [] => exact dj (fun z => by cases z) fun _ => frz_ev _
        | some (r :: o) => exact dj (fun z => by cases z) fun _ => frz_ev _
      | some [] =>
        simp (disch := first | (simp; done) | omega | (simp only [nx_add, nx_set, nx_kill, nx_mk, nx_emp]; omega) | fail) [g23_s4, exV, exH]
        refine e54_h ⟨sb, hvb, hF, hTb⟩ ?_
        generalize exts (dF a b) (dTb a b) [] 0 b [] = Y at lY ⊢
        match Y with
        | none => exact dj (fun _ z => by cases z) fun _ => frz_ev _
        | some [] =>
          refine dj (fun _ _ => ?_) (fun z => by simp at z)
          rw [kApp_nn]
          exact .nilsl
        | some (r :: o) =>
          have := lY _ rfl
          refine dj (fun _ _ => ?_) (fun z => by simp at z)
          exact wk_of (kApp_nr' (h.add (.cells (flatR (r :: o)))) h.nx (r :: o) (by simp) (by simp at this; simp; omega) (by simp)) (frz_flat (l := r :: o) (by simp))
      | some (r1 :: o1) =>
        have l1 := lX _ rfl
        simp at l1
        simp (disch := first | (simp; done) | omega | (simp only [nx_add, nx_set, nx_kill, nx_mk, nx_emp]; omega) | fail) [g23_s4, exV, exH]
        refine e54_h ⟨sb, hvb, hF, hTb⟩ ?_
        generalize exts (dF a b) (dTb a b) [] 0 b [] = Y at lY ⊢
        match Y with
        | none => exact dj (fun _ z => by cases z) fun _ => frz_ev _
        | some [] =>
          refine dj (fun _ _ => ?_) (fun z => by simp at z)
          exact wk_of (kApp_rn (h.add (.cells (flatR (r1 :: o1)))) h.nx (r1 :: o1) (by simp) (by simp; omega)) (by
            show Frz _ true _ (rects ((r1 :: o1) ++ []))
            rw [List.append_nil]
            exact frz_flat (l := r1 :: o1) (by simp))
        | some (r :: o) =>
          have l2 := lY _ rfl
          simp at l2
          refine dj (fun _ _ => ?_) (fun z => by simp at z)
          exact wk_of (kApp_rr' ((h.add (.cells (flatR (r1 :: o1)))).add (.cells (flatR (r :: o)))) h.nx (h.nx + 1) (r1 :: o1) (r :: o) (by simp) (by simp) (by simp; omega)) (by
            have := frz_flat (h := ((((h.add (.cells (flatR (r1 :: o1)))).add (.cells (flatR (r :: o)))).kill h.nx).add (.cells (flatR (r1 :: o1) ++ flatR (r :: o))))) (id := h.nx + 1 + 1) (l := (r1 :: o1) ++ (r :: o)) (by rw [flat_app]; simp)
            rw [List.length_append] at this
            simpa using this)
  · have hres : dRes a b = .nilsl := by unfold dRes; rw [if_pos heq]
    simp (disch := first | (simp; done) | omega | (simp only [nx_add, nx_set, nx_kill, nx_mk, nx_emp]; omega) | fail) [g23, ha, hb, hres]
    simp [dmg, heq, rects]
    exact .nilsl
end Go.Proofs.Ytpnekpbehcbmkaa
end
