/- Reading and writing one command of a list that the law owns. What the laws' maker of a changed list answers. A list of commands that a call owns: cloned, replaced in part. What performing splices answers. What the reference's performing of splices answers: that of the program. What the law DisplayApplies computes. What the law DisplayLimits computes. -/
import Derived.Test.YtpnekpbehcbmkaaD8G
import Derived.Test.YtpnekpbehcbmkaaD7R
set_option linter.unusedSimpArgs false
set_option linter.unusedVariables false
set_option linter.unnecessarySimpa false
noncomputable section
namespace Go.Proofs.Ytpnekpbehcbmkaa
open Go.Eng
theorem flat_at (l : List Cmd) (k j : Nat) (hk : k < l.length) (hj : j < 22) : (flatC l)[k * 22 + j]? = (l[k].enc)[j]? := by
  unfold flatC
  exact flat_get Cmd.len l k j l[k] (by simp [hk]) hj
/-- what a cell of a command holds, where it is known to be a number -/
theorem frz_int {h : AH} {n : Bool} {y : AV} {m : Int} (hf : Frz h n y (I m)) : y = I m := by
  generalize hb : AV.int IntKind.i64 m = b at hf
  cases hf <;> cases hb
  rfl
theorem LV.cell {h0 h : AH} {lv : AV} {l : List Cmd} (hl : LV h0 h lv l) (k : Nat) (hk : k < l.length) : ∃ id cs, lv = .rsl id 0 l.length 22 ∧ h0.nx ≤ id ∧ id < h.nx ∧ h.cellsAt id = some cs ∧ cs.length = l.length * 22 ∧ FrzL (rest h h0.nx id) false cs (flatC l) ∧ cs[k * 22]? = some (I l[k].kind) ∧ cs[k * 22 + 1]? = some (I l[k].r.x) := by
  rcases hl with ⟨_, rfl⟩ | ⟨id, cs, h1, _, h3, h4, h5, h6⟩
  · simp at hk
  have hf := (FrzL_iff _ _ _ _).1 h6
  have hlen : cs.length = l.length * 22 := by rw [hf.1]; unfold flatC; exact flat_len Cmd.len l
  have hlt : k * 22 + 1 < cs.length := by omega
  refine ⟨id, cs, h1, h3, h4, h5, hlen, h6, ?_, ?_⟩
  · have e1 : (flatC l)[k * 22]? = some (I l[k].kind) := flat_at l k 0 hk (by omega)
    have := frz_int (hf.2 (k * 22) cs[k * 22] _ (by simp) e1)
    rw [← this]; simp
  · have e1 : (flatC l)[k * 22 + 1]? = some (I l[k].r.x) := flat_at l k 1 hk (by omega)
    have := frz_int (hf.2 (k * 22 + 1) cs[k * 22 + 1] _ (by simp) e1)
    rw [← this]; simp
theorem flat_set : ∀ (l : List Cmd) (k : Nat) (x : Cmd), k < l.length → flatC (l.set k x) = (flatC l).take (k * 22) ++ x.enc ++ (flatC l).drop (k * 22 + 22)
  | [], k, x, h => by simp at h
  | c :: l, 0, x, h => by
    have h1 : flatC (c :: l) = c.enc ++ flatC l := by simp [flatC]
    have h2 : flatC (x :: l) = x.enc ++ flatC l := by simp [flatC]
    rw [List.set_cons_zero, h1, h2]
    simp [List.drop_append]
  | c :: l, k + 1, x, h => by
    have h1 : flatC (c :: l) = c.enc ++ flatC l := by simp [flatC]
    have h2 : flatC (c :: l.set k x) = c.enc ++ flatC (l.set k x) := by simp [flatC]
    have ih := flat_set l k x (by simpa using h)
    rw [List.set_cons_succ, h1, h2, ih, List.take_append, List.drop_append]
    have e1 : (k + 1) * 22 - c.enc.length = k * 22 := by rw [Cmd.len]; omega
    have e2 : (k + 1) * 22 + 22 - c.enc.length = k * 22 + 22 := by rw [Cmd.len]; omega
    have t1 : c.enc.take ((k + 1) * 22) = c.enc := List.take_of_length_le (by rw [Cmd.len]; omega)
    have t2 : c.enc.drop ((k + 1) * 22 + 22) = [] := List.drop_of_length_le (by rw [Cmd.len]; omega)
    rw [e1, e2, t1, t2]
    simp
theorem frzL_take {h : AH} {n : Bool} {a b : List AV} (hf : FrzL h n a b) (k : Nat) : FrzL h n (a.take k) (b.take k) := by
  rw [FrzL_iff] at hf ⊢
  refine ⟨by simp [hf.1], fun i x y hx hy => ?_⟩
  rw [List.getElem?_take] at hx hy
  split at hx
  · rename_i hi
    rw [if_pos hi] at hy
    exact hf.2 i x y hx hy
  · cases hx
theorem frzL_drop {h : AH} {n : Bool} {a b : List AV} (hf : FrzL h n a b) (k : Nat) : FrzL h n (a.drop k) (b.drop k) := by
  rw [FrzL_iff] at hf ⊢
  refine ⟨by simp [hf.1], fun i x y hx hy => ?_⟩
  rw [List.getElem?_drop] at hx hy
  exact hf.2 (k + i) x y hx hy
/-- one command is written -/
theorem LV.put {h0 h : AH} {id k : Nat} {l : List Cmd} {cs tc : List AV} {x : Cmd} (h3 : h0.nx ≤ id) (h4 : id < h.nx) (hlen : cs.length = l.length * 22) (h6 : FrzL (rest h h0.nx id) false cs (flatC l)) (hk : k < l.length) (ht : tc.length = 22) (hx : ∀ H, FrzL H false tc x.enc) :
    ∃ cs', splice cs (k * 22) tc = some cs' ∧ LV h0 (h.set id (.cells cs')) (.rsl id 0 l.length 22) (l.set k x) := by
  refine ⟨cs.take (k * 22) ++ tc ++ cs.drop (k * 22 + tc.length), by unfold splice; rw [if_pos (by omega)], .inr ⟨id, _, by simp, fun he => ?_, h3, by simp; omega, cellsAt_set_self _ _ _ _ rfl, ?_⟩⟩
  · have := congrArg List.length he
    simp at this; subst this; simp at hk
  · rw [flat_set l k x hk, ht]
    have he : ∀ (o : AObj) i cs, (rest h h0.nx id).cellsAt i = some cs → (rest (h.set id o) h0.nx id).cellsAt i = some cs := fun o i cs hi => by
      have hgi := cellsAt_get hi
      rw [get_rest] at hgi
      split at hgi
      · cases hgi
      · rw [cellsAt_rest (by omega) (by omega), cellsAt_set_ne _ _ _ _ (by omega), ← hi, cellsAt_rest (by omega) (by omega)]
    exact ((frzL_take (h6.ext (he _)) _).app (hx _)).app (frzL_drop (h6.ext (he _)) _)
end Go.Proofs.Ytpnekpbehcbmkaa
end
noncomputable section
namespace Go.Proofs.Ytpnekpbehcbmkaa
open Go.Eng
/-! A list that differs from another one in some commands. -/
def chR (L : List Int) (a : Nat) : Rect := ⟨-20 + nV L a 61, -20 + nV L (nxA L a) 61, nV L (nxA L (nxA L a)) 30, nV L (nxA L (nxA L (nxA L a))) 30⟩
/-- one round: the list, where the reader stands -/
def ch1 (L : List Int) (l : List Cmd) (a : Nat) : List Cmd × Nat :=
  match l[(nV L a l.length).toNat]? with
  | none => (l, a)
  | some c => if c.kind = 4 then (l.set (nV L a l.length).toNat (filC (chR L (nxA L a)) (nV L (at4 L (nxA L a)) 4)), nxA L (at4 L (nxA L a)))
    else if nV L (nxA L a) 3 = 0 then (l.set (nV L a l.length).toNat { c with r := { c.r with x := c.r.x + 1 } }, nxA L (nxA L a))
    else (l, nxA L (nxA L a))
def chM (L : List Int) : Nat → List Cmd → Nat → List Cmd × Nat
  | 0, l, a => (l, a)
  | k + 1, l, a => if l = [] then (l, a) else chM L k (ch1 L l a).1 (ch1 L l a).2
def Rb (n : Int) (l : List Cmd) : Prop := ∀ c ∈ l, -1000 ≤ c.r.x ∧ c.r.x ≤ n
def hI (h0 : AH) (sid : Nat) (L : List Int) (F : List Cmd × Nat) (m : Nat) (vs : List AV) (hh : AH) : Prop :=
  ∃ (l : List Cmd) (a' : Nat) (lv : AV) (c : Nat), vs = [.ptr sid 0, lv, I ((m : Int) - 1)] ∧ St h0 hh sid L a' lv l c ∧ c + 1000 * m ≤ 5000 ∧ m ≤ 3 ∧ l.length ≤ 100 ∧ Rb (1000 - m) l ∧ chM L m l a' = F
theorem LV.klen {h0 h h' : AH} {lv : AV} {l : List Cmd} (hl : LV h0 h lv l) : kLen h' lv = some (I l.length, h') := by
  rcases hl with ⟨rfl, rfl⟩ | ⟨id, cs, rfl, _⟩ <;> simp
theorem Rb.app {n : Int} {a b : List Cmd} (h1 : Rb n a) (h2 : Rb n b) : Rb n (a ++ b) := fun c hc => by
  rcases List.mem_append.1 hc with h | h
  · exact h1 c h
  · exact h2 c h
end Go.Proofs.Ytpnekpbehcbmkaa
end
noncomputable section
namespace Go.Proofs.Ytpnekpbehcbmkaa
open Go.Eng Go.RowKit
def OLo (h : AH) (v : AV) (l : List Cmd) : Prop := (v = .nilsl ∧ l = []) ∨ ∃ id, v = .rsl id 0 l.length 22 ∧ id < h.nx ∧ h.cellsAt id = some (flatC l)
theorem OLo.frz {h : AH} {v : AV} {l : List Cmd} (hl : OLo h v l) : Frz h false v (cmds l) := by
  rcases hl with ⟨rfl, rfl⟩ | ⟨id, rfl, _, hc⟩
  · exact .nilsl
  · exact frz_rows Cmd.len (l := l) hc (fun a _ c hc => a.pls c hc h)
theorem OLo.klen {h h' : AH} {v : AV} {l : List Cmd} (hl : OLo h v l) : kLen h' v = some (I l.length, h') := by
  rcases hl with ⟨rfl, rfl⟩ | ⟨id, rfl, _⟩ <;> simp
theorem OLo.keep {h h' : AH} {v : AV} {l : List Cmd} (hl : OLo h v l) (hn : h.nx ≤ h'.nx) (hg : ∀ i, i < h.nx → h'.H.get i = h.H.get i) : OLo h' v l := by
  rcases hl with h1 | ⟨id, h1, h2, h3⟩
  · exact .inl h1
  · exact .inr ⟨id, h1, by omega, by rw [cellsAt_congr (hg id h2)]; exact h3⟩
def clI2 (h0 : AH) (l : List Cmd) (m : Nat) (vs : List AV) (h : AH) : Prop := ∃ (i : Nat) (v : AV), i ≤ l.length ∧ m = l.length - i ∧ vs = [v, cmds l, I l.length, I i] ∧ ((l.take i = [] ∧ v = .nilsl) ∨ ∃ id, v = .rsl id 0 (l.take i).length 22 ∧ h0.nx ≤ id ∧ id < h.nx ∧ h.cellsAt id = some (flatC (l.take i))) ∧ h0.nx ≤ h.nx ∧ h.nx ≤ h0.nx + 4 * i ∧ ∀ j, j < h0.nx → h.H.get j = h0.H.get j
theorem cloned_g (h0 : AH) (l : List Cmd) (hl : Lite l) : CallsA Try.prog 59 [cmds l] h0 fun v h => ((l = [] ∧ v = .nilsl) ∨ ∃ id, v = .rsl id 0 l.length 22 ∧ h0.nx ≤ id ∧ id < h.nx ∧ h.cellsAt id = some (flatC l)) ∧ h0.nx ≤ h.nx ∧ h.nx ≤ h0.nx + 4 * l.length ∧ ∀ j, j < h0.nx → h.H.get j = h0.H.get j := by
  refine C59 (tb_ok [e79]) ?_
  have hl1 := hl.1
  simp (disch := first | (simp; done) | omega | (simp only [nx_add, nx_set, nx_kill, nx_mk, nx_emp]; omega) | fail) [g59]
  refine ⟨clI2 h0 l, l.length, ⟨0, .nilsl, by omega, rfl, rfl, .inl ⟨by simp, rfl⟩, Nat.le_refl _, by omega, fun _ _ => rfl⟩, ?_⟩
  rintro m vs h ⟨i, v, hi, rfl, rfl, hv, hn1, hn2, hold⟩
  by_cases hlt : i < l.length
  · have hg : l[i].line.gl.length ≤ 1000 := hl.2 _ (List.getElem_mem hlt)
    have hlen : (l.take i).length = i := by simp; omega
    have hlen2 : (l.take (i + 1)).length = i + 1 := by simp; omega
    have hF2 : flatC (l.take (i + 1)) = flatC (l.take i) ++ l[i].enc := by unfold flatC; rw [take_snoc l i hlt, List.map_append, List.flatten_append]; simp only [List.map_cons, List.map_nil, List.flatten_cons, List.flatten_nil, List.append_nil]
    rcases hv with ⟨he, rfl⟩ | ⟨id, rfl, hid0, hid, hc⟩
    · have hi0 : i = 0 := by rw [he] at hlen; simpa using hlen.symm
      have hF0 : flatC (l.take i) = [] := by rw [he]; rfl
      rw [hF0, List.nil_append] at hF2
      simp (disch := first | (simp; done) | omega | (simp only [nx_add, nx_set, nx_kill, nx_mk, nx_emp]; omega) | fail) [g59_l1, hlt, hg]
      simp (disch := first | (simp; done) | omega | (simp only [nx_add, nx_set, nx_kill, nx_mk, nx_emp]; omega) | fail) [g59_s1, hlt, hg]
      refine ⟨l.length - (i + 1), by omega, i + 1, _, by omega, rfl, by simp; rfl, .inr ⟨h.nx + 1 + 1, by rw [hlen2, hi0], by omega, by simp, ?_⟩, by simp; omega, by simp; omega, fun j hj => ?_⟩
      · rw [hF2]; simp
      · simp only [get_add, get_set, get_kill, nx_add, nx_set, nx_kill]
        repeat rw [if_neg (by omega)]
        exact hold j hj
    · have q1 : ¬ id = h.nx := by omega
      have q2 : ¬ id = h.nx + 1 := by omega
      rw [hlen]
      have hcut : cut (flatC (l.take i)) 0 (i * 22) = some (flatC (l.take i)) := by
        have := cut_zero_app (α := flatC (l.take i)) (b := []) (n := i * 22) (by unfold flatC; rw [flat_len Cmd.len, hlen])
        rwa [List.append_nil] at this
      have hones : ones (flatC (l.take i)) = true := ones_flat Cmd.ones _
      generalize flatC (l.take i) = F at hc hF2 hcut hones
      simp (disch := first | (simp; done) | omega | (simp only [nx_add, nx_set, nx_kill, nx_mk, nx_emp]; omega) | fail) [g59_l1, hlt, hg, q1, q2, hc, hcut, hones]
      simp (disch := first | (simp; done) | omega | (simp only [nx_add, nx_set, nx_kill, nx_mk, nx_emp]; omega) | fail) [g59_s1, hlt, hg, q1, q2, hc, hcut, hones]
      refine ⟨l.length - (i + 1), by omega, i + 1, _, by omega, rfl, by simp; rfl, .inr ⟨h.nx + 1 + 1, by rw [hlen2], by omega, by simp, ?_⟩, by simp; omega, by simp; omega, fun j hj => ?_⟩
      · rw [hF2]; simp
      · simp only [get_add, get_set, get_kill, nx_add, nx_set, nx_kill]
        repeat rw [if_neg (by omega)]
        exact hold j hj
  · have hil : i = l.length := by omega
    subst hil
    rw [List.take_length] at hv
    simp (disch := first | (simp; done) | omega | (simp only [nx_add, nx_set, nx_kill, nx_mk, nx_emp]; omega) | fail) [g59_l1, hlt]
    simp (disch := first | (simp; done) | omega | (simp only [nx_add, nx_set, nx_kill, nx_mk, nx_emp]; omega) | fail) [g59_j3, hlt]
    simp (disch := first | (simp; done) | omega | (simp only [nx_add, nx_set, nx_kill, nx_mk, nx_emp]; omega) | fail) [g59_c2, hlt]
    exact ⟨hv, hn1, hn2, hold⟩
def clV (h : AH) (l : List Cmd) : AV := if l = [] then .nilsl else .rsl (h.nx + 4 * l.length) 0 l.length 22
def clH (h : AH) (l : List Cmd) : AH := if l = [] then ⟨h.H, h.nx + 4 * l.length⟩ else settled h (h.nx + 4 * l.length) (flatC l)
theorem cloned_d {h : AH} {l : List Cmd} (hw : WF h) (hl : Lite l) : CallD Try.prog 59 [cmds l] h (clV h l) (clH h l) := by
  unfold clV clH
  have hlow : ∀ i o, h.H.get i = some o → i < h.nx := fun i o hi => Nat.lt_of_not_le fun hle => by rw [hw i hle] at hi; cases hi
  by_cases h0 : l = []
  · rw [if_pos h0, if_pos h0]
    refine Go.Eng.settle0 (cloned_g h l hl) fun v' h' ⟨hv, hn1, hn2, hold⟩ => ⟨hn2, fun i hi => (hold i hi).symm, hlow, ?_⟩
    rcases hv with ⟨_, h1⟩ | ⟨id, rfl, _, hlt, hc⟩
    · exact h1
    · exfalso
      subst h0
      simp at hn2
      have := hn1
      omega
  · rw [if_neg h0, if_neg h0]
    refine Go.Eng.settle (cloned_g h l hl) fun v' h' ⟨hv, hn1, hn2, hold⟩ => ⟨hn2, fun i hi => (hold i hi).symm, hlow, ?_⟩
    rcases hv with ⟨h1, _⟩ | ⟨id, rfl, hid, hlt, hc⟩
    · exact absurd h1 h0
    · exact ⟨id, _, hid, hc, flatC_pl l _, rfl⟩
def e59c : QE Try.prog := ⟨59, fun args h Q => ∃ l, args = [cmds l] ∧ (Lite l ∧ WF h) ∧ Q (clV h l) (clH h l), fun args h Q ⟨l, h1, ⟨h2, h3⟩, h4⟩ => by
  subst h1; exact ⟨_, _, cloned_d h3 h2, h4⟩⟩
@[simp ↓] theorem e59c_t (tl : List (QE Try.prog)) (f : Nat) (args : List AV) (h : AH) (Q : AV → AH → Prop) (hf : 59 ≠ f) : tb (e59c :: tl) f args h Q = tb tl f args h Q := tb_there e59c tl f args h Q hf
theorem L_step {tl : List (QE Try.prog)} {l : List Cmd} {h : AH} {Q : AV → AH → Prop} (hl : Lite l) (hw : WF h)
    (hq : ∀ v h1, OLo h1 v l → (∀ id n, v = .rsl id 0 n 22 → h.nx ≤ id) → WF h1 → h.nx ≤ h1.nx → (∀ i, i < h.nx → h1.H.get i = h.H.get i) → Q v h1) : tb (e59c :: tl) 59 [cmds l] h Q := by
  rw [tb_here e59c tl 59 _ _ _ rfl]
  refine ⟨l, rfl, ⟨hl, hw⟩, ?_⟩
  unfold clV clH
  by_cases h0 : l = []
  · rw [if_pos h0, if_pos h0]
    exact hq _ _ (.inl ⟨rfl, h0⟩) (fun id n he => by cases he) (hw.bump _ (by show h.nx ≤ h.nx + 4 * l.length; omega)) (by show h.nx ≤ h.nx + 4 * l.length; omega) (fun _ _ => rfl)
  · rw [if_neg h0, if_neg h0]
    have hg : ∀ i, i ≠ h.nx + 4 * l.length → (settled h (h.nx + 4 * l.length) (flatC l)).H.get i = h.H.get i := fun i hi => by rw [get_settled, if_neg hi]
    refine hq _ _ (.inr ⟨_, rfl, by show h.nx + 4 * l.length < h.nx + 4 * l.length + 1; omega, ?_⟩) (fun id n he => by cases he; omega) (fun i hi => ?_) (by show h.nx ≤ h.nx + 4 * l.length + 1; omega) (fun i hi => hg i (by omega))
    · unfold AH.cellsAt; rw [get_settled, if_pos rfl]
    · have hi' : h.nx + 4 * l.length + 1 ≤ i := hi
      rw [hg i (by omega)]; exact hw i (by omega)
/-- slices.Replace -/
def rpV (h : AH) (v0 : AV) (n m i j : Nat) : AV := if i = j ∧ m = 0 then v0 else .rsl h.nx 0 (i + m + (n - j)) 22
def rpH (h : AH) (v0 : AV) (out L : List Cmd) (i j : Nat) : AH := if i = j ∧ L.length = 0 then h else match v0 with
  | .rsl id _ _ _ => (h.kill id).add (.cells (rX (flatC out) (flatC L) i j))
  | _ => h.add (.cells (flatC L))
structure RpP (h : AH) (v0 v3 : AV) (out L : List Cmd) (i j : Nat) : Prop where
  h0 : OLo h v0 out
  h3 : OLo h v3 L
  ne : ∀ a n b m, v0 = .rsl a 0 n 22 → v3 = .rsl b 0 m 22 → b ≠ a
  ij : i ≤ j
  jn : j ≤ out.length
  b1 : out.length ≤ 1000000
  b2 : L.length ≤ 1000000
theorem replace_d {h : AH} {v0 v3 : AV} {out L : List Cmd} {i j : Nat} (p : RpP h v0 v3 out L i j) : CallD Try.prog 60 [v0, I i, I j, v3] h (rpV h v0 out.length L.length i j) (rpH h v0 out L i j) := by
  refine ⟨⟨_, Try.func60, rfl, by decide⟩, fun own β w cargs hs hR => ?_⟩
  obtain ⟨c0, c1, c2, c3, hc⟩ : ∃ c0 c1 c2 c3, cargs = #[c0, c1, c2, c3] := by
    have h4 : cargs.toList.length = 4 := by simpa using hR.1.symm
    match hl : cargs.toList, h4 with
    | [a, b, c, d], _ => exact ⟨a, b, c, d, by apply Array.ext'; simpa using hl⟩
  subst hc
  have hv0 := hR.2 0 v0 c0 (by simp) (by simp)
  have hv1 := hR.2 1 (I i) c1 (by simp) (by simp)
  have hv2 := hR.2 2 (I j) c2 (by simp) (by simp)
  have hv3 := hR.2 3 v3 c3 (by simp) (by simp)
  cases hv1; cases hv2
  have lL : (flatC L).length = L.length * 22 := by unfold flatC; exact flat_len Cmd.len L
  have hs3 : (v3 = .nilsl ∧ L.length = 0 ∧ flatC L = []) ∨ ∃ id2, v3 = .rsl id2 0 L.length 22 ∧ h.cellsAt id2 = some (flatC L) := by
    rcases p.h3 with ⟨h1, rfl⟩ | ⟨id2, h1, _, h2⟩
    · exact .inl ⟨h1, rfl, rfl⟩
    · exact .inr ⟨id2, h1, h2⟩
  rcases p.h0 with ⟨rfl, rfl⟩ | ⟨id, rfl, _, hc0⟩
  · have hj := p.jn; have hij := p.ij
    simp at hj
    obtain rfl : j = 0 := hj
    obtain rfl : i = 0 := by omega
    cases hv0
    have key : ∀ va vc, c3 = .slice va L.length vc → Calls Try.prog 60 #[.slice none 0 0, .int .i64 0, .int .i64 0, c3] w fun e w' => ∃ cv v h' β', e = .returned cv ∧ (v = rpV h .nilsl 0 L.length 0 0 ∧ h' = rpH h .nilsl [] L 0 0) ∧ SimH own β' h'.H h'.nx w' ∧ VR w'.heap (LL own β' h'.H) β' v cv ∧ Trans own β h w β' h' w' := fun va vc hce => by
      subst hce
      refine rep_A0 ?_
      rcases Nat.eq_zero_or_pos L.length with hm | hm
      · rw [hm]
        refine (ins_A0).mono ?_
        rintro e w' ⟨rfl, rfl⟩
        have e1 : rpV h .nilsl 0 0 0 0 = .nilsl := rfl
        have e2 : rpH h .nilsl [] L 0 0 = h := by unfold rpH; rw [if_pos ⟨rfl, hm⟩]
        rw [e1, e2]
        exact ⟨⟨_, rfl⟩, _, _, _, β, rfl, ⟨rfl, rfl⟩, hs, .nilsl, .refl _ _ _ _⟩
      · have b2 := p.b2
        rcases hs3 with ⟨_, h1, _⟩ | ⟨id2, rfl, hc2⟩
        · omega
        have hcut : cut (flatC L) 0 (L.length * 22) = some (flatC L) := by
          have := cut_zero_app (α := flatC L) (b := []) (n := L.length * 22) lL
          rwa [List.append_nil] at this
        have hro : roomy L.length 200 = true := roomy_ok _ _ (by omega) (by omega)
        have hon : ones (flatC L) = true := ones_flat Cmd.ones _
        have hm0 : L.length ≠ 0 := by omega
        have happ : aapp h 22 200 .nilsl (.rsl id2 0 L.length 22) = some (.rsl h.nx 0 L.length 22, h.add (.cells (flatC L))) := by
          simp [aapp, acells, alen, hc2, hcut, hon, hro, hm0]
        have hq : zeroOf Try.prog 35 = some [.int .i64 0, .int .i64 0, .int .i64 0, .int .i64 0, .int .i64 0, .int .i64 0, .bool false, .int .i64 0, .int .i64 0, .int .i64 0, .int .i64 0, .str [], .int .i64 0, .int .i64 0, .int .i64 0, .int .i64 0, .int .i64 0, .int .i64 0, .int .i64 0, .int .i64 0, .int .i64 0, .nilsl] := by kernel_rfl
        obtain ⟨cv, w1, β1, q1, q2, q3, q4⟩ := app_run (append_ok hs Try.underlying22 hq szO35 rfl (by omega) byO35 .nilsl hv3 happ)
        refine (ins_B0 hm b2 q1).mono ?_
        rintro e w' ⟨rfl, rfl⟩
        have e1 : rpV h .nilsl 0 L.length 0 0 = .rsl h.nx 0 L.length 22 := by unfold rpV; rw [if_neg (by omega)]; simp
        have e2 : rpH h .nilsl [] L 0 0 = h.add (.cells (flatC L)) := by unfold rpH; rw [if_neg (by omega)]
        rw [e1, e2]
        exact ⟨⟨_, rfl⟩, _, _, _, _, rfl, ⟨rfl, rfl⟩, q2, q3, q4⟩
    have hc3 : ∃ va vc, c3 = .slice va L.length vc := by
      rcases hs3 with ⟨h1, h2, _⟩ | ⟨id2, h1, _⟩
      · rw [h1] at hv3; cases hv3; exact ⟨_, _, by rw [h2]⟩
      · rw [h1] at hv3
        generalize L.length = N at hv3
        cases hv3 with
        | rsl => exact ⟨_, _, rfl⟩
        | rsl0 => exact ⟨_, _, rfl⟩
    obtain ⟨va, vc, hc3⟩ := hc3
    exact key va vc hc3
  · have t : Two h (.rsl id 0 out.length 22) v3 out.length L.length (flatC out) (flatC L) id := ⟨rfl, hc0, by unfold flatC; exact flat_len Cmd.len out, ones_flat Cmd.ones _, by
      rcases hs3 with h1 | ⟨id2, h1, h2⟩
      · exact .inl h1
      · exact .inr ⟨id2, h1, p.ne _ _ _ _ rfl h1, h2, lL, ones_flat Cmd.ones _⟩, p.b1, p.b2⟩
    refine (rep_all hs t p.ij p.jn hv0 hv3).mono ?_
    rintro e w' ⟨cv, β', h1, h2, h3, h4⟩
    exact ⟨cv, _, _, β', h1, ⟨rfl, rfl⟩, h2, h3, h4⟩
def e60c : QE Try.prog := ⟨60, fun args h Q => ∃ v0 v3 out L i j, args = [v0, I (i : Nat), I (j : Nat), v3] ∧ RpP h v0 v3 out L i j ∧ Q (rpV h v0 out.length L.length i j) (rpH h v0 out L i j), fun args h Q ⟨v0, v3, out, L, i, j, h1, h2, h3⟩ => by
  subst h1; exact ⟨_, _, replace_d h2, h3⟩⟩
theorem rX_flat (out L : List Cmd) (i j : Nat) : rX (flatC out) (flatC L) i j = flatC (out.take i ++ L ++ out.drop j) := by
  have ht : ∀ (l : List Cmd) (k : Nat), (flatC l).take (k * 22) = flatC (l.take k) := fun l k => by
    induction l generalizing k with
    | nil => simp [flatC]
    | cons c l ih =>
      cases k with
      | zero => simp [flatC]
      | succ k =>
        have h1 : flatC (c :: l) = c.enc ++ flatC l := by simp [flatC]
        have h2 : flatC ((c :: l).take (k + 1)) = c.enc ++ flatC (l.take k) := by simp [flatC]
        rw [h1, h2, List.take_append, List.take_of_length_le (by rw [Cmd.len]; omega), Cmd.len, show (k + 1) * 22 - 22 = k * 22 by omega, ih]
  have hd : ∀ (l : List Cmd) (k : Nat), (flatC l).drop (k * 22) = flatC (l.drop k) := fun l k => by
    induction l generalizing k with
    | nil => simp [flatC]
    | cons c l ih =>
      cases k with
      | zero => simp [flatC]
      | succ k =>
        have h1 : flatC (c :: l) = c.enc ++ flatC l := by simp [flatC]
        rw [h1, List.drop_append, List.drop_of_length_le (by rw [Cmd.len]; omega), Cmd.len, show (k + 1) * 22 - 22 = k * 22 by omega, ih, List.nil_append]; rfl
  unfold rX
  rw [ht, hd]
  simp [flatC]
theorem P_step {tl : List (QE Try.prog)} {v0 v3 : AV} {out L : List Cmd} {i j : Nat} {h : AH} {Q : AV → AH → Prop} (p : RpP h v0 v3 out L i j) (hw : WF h)
    (hq : ∀ v h1, OLo h1 v (out.take i ++ L ++ out.drop j) → WF h1 → h.nx ≤ h1.nx → Q v h1) : tb (e60c :: tl) 60 [v0, I i, I j, v3] h Q := by
  rw [tb_here e60c tl 60 _ _ _ rfl]
  refine ⟨v0, v3, out, L, i, j, rfl, p, ?_⟩
  have hij := p.ij; have hjn := p.jn
  unfold rpV rpH
  by_cases h0 : i = j ∧ L.length = 0
  · rw [if_pos h0, if_pos h0]
    obtain ⟨rfl, hL⟩ := h0
    have hL0 : L = [] := List.length_eq_zero_iff.1 hL
    subst hL0
    refine hq _ _ ?_ hw (Nat.le_refl _)
    rw [List.append_nil, List.take_append_drop]; exact p.h0
  · rw [if_neg h0, if_neg h0]
    have hlen : (out.take i ++ L ++ out.drop j).length = i + L.length + (out.length - j) := by simp; omega
    rcases p.h0 with ⟨rfl, rfl⟩ | ⟨id, rfl, hid, hc0⟩
    · simp at hjn
      obtain rfl : j = 0 := hjn
      obtain rfl : i = 0 := by omega
      refine hq _ _ (.inr ⟨h.nx, by rw [hlen], by simp, ?_⟩) (hw.add _) (by simp)
      simp
    · refine hq _ _ (.inr ⟨h.nx, by rw [hlen], by simp, ?_⟩) ((hw.kill id).add _) (by simp)
      rw [rX_flat]
      simp
end Go.Proofs.Ytpnekpbehcbmkaa
end
noncomputable section
namespace Go.Proofs.Ytpnekpbehcbmkaa
open Go.Eng
/-! Performing splices. -/
structure Spl where
  at' : Int
  cnt : Int
  L : List Cmd
def Spl.enc (s : Spl) : List AV := [I s.at', I s.cnt, cmds s.L]
def spls (d : List Spl) : AV := .psl (d.map Spl.enc)
@[simp] theorem Spl.len (s : Spl) : s.enc.length = 3 := Eq.trans rfl rfl
@[simp] theorem Spl.ones (s : Spl) : ones s.enc = true := Eq.trans rfl rfl
@[simp high] theorem Spl.g0 (s : Spl) : s.enc[0]? = some (I s.at') := Eq.trans rfl rfl
@[simp high] theorem Spl.g1 (s : Spl) : s.enc[1]? = some (I s.cnt) := Eq.trans rfl rfl
@[simp high] theorem Spl.g2 (s : Spl) : s.enc[2]? = some (cmds s.L) := Eq.trans rfl rfl
@[simp] theorem Spl.all (s : Spl) : cut s.enc 0 3 = some s.enc := Eq.trans rfl rfl
theorem spls_cl (d : List Spl) : Closed (spls d) := .psl (by
  intro x hx c hc
  simp at hx
  obtain ⟨s, _, rfl⟩ := hx
  simp [Spl.enc] at hc
  rcases hc with rfl | rfl | rfl
  · exact .int _ _
  · exact .int _ _
  · exact cmds_cl _)
def badS (s : Spl) (out : List Cmd) : Bool := decide (s.at' < 0) || decide (s.cnt < 0) || decide ((out.length : Int) < s.at') || decide ((out.length : Int) - s.at' < s.cnt)
/-- the splices, one after the other: the error, and the list -/
def apS : List Cmd → List Spl → Int × List Cmd
  | out, [] => (0, out)
  | out, s :: r => if badS s out = true then (1, []) else if 20000 < out.length - s.cnt.toNat + s.L.length then (2, []) else apS (out.take s.at'.toNat ++ s.L ++ out.drop (s.at'.toNat + s.cnt.toNat)) r
def apR (a : List Cmd) (d : List Spl) : AV := .tup [cmds (apS a d).2, I (apS a d).1]
def sV (d : List Spl) (v : AV) : Prop := (v = .nilsl ∧ d = []) ∨ v = spls d
theorem sV.klen {d : List Spl} {v : AV} (hv : sV d v) (h : AH) : kLen h v = some (I d.length, h) := by
  rcases hv with ⟨rfl, rfl⟩ | rfl
  · simp
  · simp [spls]
theorem sV.cl {d : List Spl} {v : AV} (hv : sV d v) : Closed v := by
  rcases hv with ⟨rfl, _⟩ | rfl
  · exact .nilsl
  · exact spls_cl d
theorem sV.ix {d : List Spl} {v : AV} (hv : sV d v) {i : Nat} (hi : i < d.length) (h : AH) : kIdxA h 3 v (I i) = some (.pptr d[i].enc, h) := by
  rcases hv with ⟨_, rfl⟩ | rfl
  · simp at hi
  · exact kIdxA_psl (by simp [hi]) (Spl.len _)
def apsI (d : List Spl) (v : AV) (R : Int × List Cmd) (m : Nat) (vs : List AV) (h : AH) : Prop := ∃ (i : Nat) (out : List Cmd) (vo : AV), i ≤ d.length ∧ m = d.length - i ∧ vs = [vo, v, I d.length, I i] ∧ OLo h vo out ∧ WF h ∧ out.length ≤ 100000 ∧ apS out (d.drop i) = R
theorem OLo.frzn {h : AH} {v : AV} {l : List Cmd} (n : Bool) (hn : n = true → ∀ c ∈ l, c.line.gl = []) (hl : OLo h v l) : Frz h n v (cmds l) := by
  cases n
  · exact hl.frz
  · rcases hl with ⟨rfl, rfl⟩ | ⟨id, rfl, _, hc⟩
    · exact .nilsl
    · refine frz_rows Cmd.len (l := l) hc (fun a ha c hc => ?_)
      have hg := hn rfl a ha
      simp [Cmd.enc, hg, gls] at hc
      rcases hc with rfl | rfl | rfl | rfl | rfl | rfl | rfl | rfl | rfl | rfl | rfl | rfl | rfl | rfl | rfl | rfl | rfl | rfl | rfl | rfl | rfl | rfl <;> first | exact .int _ _ | exact .bool _ | exact .str _ | exact .psl0
theorem apply_g (n : Bool) (a : List Cmd) (d : List Spl) (v : AV) (hv : sV d v) (ha : Lite a) (hd : ∀ s ∈ d, Lite s.L) (hdl : SmX d) (hn : n = true → ∀ c ∈ (apS a d).2, c.line.gl = []) : CallsA Try.prog 28 [cmds a, v] emp fun v' h' => Frz h' n v' (apR a d) := by
  refine C28 (tb_ok [e59c, e60c]) ?_
  simp (disch := first | (simp; done) | omega | (simp only [nx_add, nx_set, nx_kill, nx_mk, nx_emp]; omega) | fail) [g28]
  refine L_step ha WF.emp fun v1 h1 o1 f1 w1 n1 g1 => ?_
  have kl := fun h => hv.klen h
  unfold SmX at hdl
  simp (disch := first | (simp; done) | omega | (simp only [nx_add, nx_set, nx_kill, nx_mk, nx_emp]; omega) | fail) [kl]
  refine ⟨apsI d v (apS a d), d.length, ⟨0, a, v1, by omega, rfl, rfl, o1, w1, ha.1, rfl⟩, ?_⟩
  have hR : apR a d = .tup [cmds (apS a d).2, I (apS a d).1] := rfl
  rw [hR]
  generalize apS a d = R at *
  rintro m vs h ⟨i, out, vo, hi, rfl, rfl, ho, hw, hol, hap⟩
  by_cases hlt : i < d.length
  · have hlt' : (i : Int) < d.length := by omega
    have hix := fun h => hv.ix hlt h
    have hdr : d.drop i = d[i] :: d.drop (i + 1) := List.drop_eq_getElem_cons hlt
    have hsm := hd d[i] (List.getElem_mem hlt)
    obtain ⟨s, hs⟩ : ∃ s, s = d[i] := ⟨_, rfl⟩
    rw [hdr, ← hs] at hap
    rw [← hs] at hix hsm
    have ho' : ∀ h, kLen h vo = some (I out.length, h) := fun h => ho.klen
    simp (disch := first | (simp; done) | omega | (simp only [nx_add, nx_set, nx_kill, nx_mk, nx_emp]; omega) | fail) [g28_l3, hlt', hix]
    obtain ⟨H, hH⟩ : ∃ H, H = (h.add (.cells [AV.int .i64 0, AV.int .i64 0, AV.nilsl])).set h.nx (.cells s.enc) := ⟨_, rfl⟩
    rw [← hH]
    have hnH : H.nx = h.nx + 1 := by subst hH; simp
    have hgH : ∀ j, j < h.nx → H.H.get j = h.H.get j := fun j hj => by subst hH; rw [get_set, if_neg (by omega), get_add, if_neg (by omega)]
    have hcH : ∀ n, AH.cellsAt ⟨H.H, n⟩ h.nx = some s.enc := fun n => by
      show H.cellsAt h.nx = _
      subst hH; exact cellsAt_set_self _ _ _ _ rfl
    have hcH0 : H.cellsAt h.nx = some s.enc := hcH H.nx
    have hwH : WF H := by subst hH; exact (hw.add _).set _ (by simp) _
    have hoH : OLo H vo out := ho.keep (by omega) hgH
    clear hH
    refine ⟨fun vs h' => vs = [vo, .ptr h.nx 0, v, I d.length, I i, .bool (badS s out)] ∧ h' = H, ?_, ?_⟩
    · by_cases q1 : s.at' < 0
      · have hb : badS s out = true := by simp [badS, q1]
        simp (disch := first | (simp; done) | omega | (simp only [nx_add, nx_set, nx_kill, nx_mk, nx_emp]; omega) | fail) [g28_a1, hcH0, q1, hb]
        simp (disch := first | (simp; done) | omega | (simp only [nx_add, nx_set, nx_kill, nx_mk, nx_emp]; omega) | fail) [g28_s2, hb]
        simp (disch := first | (simp; done) | omega | (simp only [nx_add, nx_set, nx_kill, nx_mk, nx_emp]; omega) | fail) [g28_s1, hb]
      · by_cases q2 : s.cnt < 0
        · have hb : badS s out = true := by simp [badS, q2]
          simp (disch := first | (simp; done) | omega | (simp only [nx_add, nx_set, nx_kill, nx_mk, nx_emp]; omega) | fail) [g28_a1, hcH0, q1, q2, hb]
          simp (disch := first | (simp; done) | omega | (simp only [nx_add, nx_set, nx_kill, nx_mk, nx_emp]; omega) | fail) [g28_s2, hb]
          simp (disch := first | (simp; done) | omega | (simp only [nx_add, nx_set, nx_kill, nx_mk, nx_emp]; omega) | fail) [g28_s1, hb]
        · by_cases q3 : (out.length : Int) < s.at'
          · have hb : badS s out = true := by simp [badS, q3]
            simp (disch := first | (simp; done) | omega | (simp only [nx_add, nx_set, nx_kill, nx_mk, nx_emp]; omega) | fail) [g28_a1, hcH0, q1, q2, hb]
            simp (disch := first | (simp; done) | omega | (simp only [nx_add, nx_set, nx_kill, nx_mk, nx_emp]; omega) | fail) [g28_s2, hcH0, ho', q3, hb]
            simp (disch := first | (simp; done) | omega | (simp only [nx_add, nx_set, nx_kill, nx_mk, nx_emp]; omega) | fail) [g28_s1, hb]
          · by_cases q4 : (out.length : Int) - s.at' < s.cnt
            · have hb : badS s out = true := by simp [badS, q4]
              simp (disch := first | (simp; done) | omega | (simp only [nx_add, nx_set, nx_kill, nx_mk, nx_emp]; omega) | fail) [g28_a1, hcH0, q1, q2, hb]
              simp (disch := first | (simp; done) | omega | (simp only [nx_add, nx_set, nx_kill, nx_mk, nx_emp]; omega) | fail) [g28_s2, hcH0, ho', q3, hb]
              simp (disch := first | (simp; done) | omega | (simp only [nx_add, nx_set, nx_kill, nx_mk, nx_emp]; omega) | fail) [g28_s1, hcH0, ho', q4, hb]
            · have hb : badS s out = false := by simp [badS]; omega
              simp (disch := first | (simp; done) | omega | (simp only [nx_add, nx_set, nx_kill, nx_mk, nx_emp]; omega) | fail) [g28_a1, hcH0, q1, q2, hb]
              simp (disch := first | (simp; done) | omega | (simp only [nx_add, nx_set, nx_kill, nx_mk, nx_emp]; omega) | fail) [g28_s2, hcH0, ho', q3, hb]
              simp (disch := first | (simp; done) | omega | (simp only [nx_add, nx_set, nx_kill, nx_mk, nx_emp]; omega) | fail) [g28_s1, hcH0, ho', q4, hb]
    rintro vs h' ⟨rfl, rfl⟩
    unfold apS at hap
    cases hb : badS s out
    · have hbb : ¬ s.at' < 0 ∧ ¬ s.cnt < 0 ∧ ¬ (out.length : Int) < s.at' ∧ ¬ (out.length : Int) - s.at' < s.cnt := by
        simp [badS] at hb; omega
      obtain ⟨b1, b2, b3, b4⟩ := hbb
      obtain ⟨x, hx⟩ : ∃ x : Nat, s.at' = (x : Int) := ⟨s.at'.toNat, by omega⟩
      obtain ⟨y, hy⟩ : ∃ y : Nat, s.cnt = (y : Int) := ⟨s.cnt.toNat, by omega⟩
      have hkl2 : ∀ h, kLen h (cmds s.L) = some (I s.L.length, h) := fun h => by simp [cmds]
      have hsl := hsm.1
      rw [hb] at hap
      simp only [Bool.false_eq_true, if_false] at hap
      rw [hx, hy] at hap
      simp only [Int.toNat_natCast] at hap
      simp (disch := first | (simp; done) | omega | (simp only [nx_add, nx_set, nx_kill, nx_mk, nx_emp]; omega) | fail) [g28_j2, ho', hcH0, hkl2]
      have hcg0 : h'.cellsAt h.nx = some [I (x : Int), I (y : Int), cmds s.L] := by rw [hcH0, Spl.enc, hx, hy]
      have hcg : ∀ n, AH.cellsAt ⟨h'.H, n⟩ h.nx = some [I (x : Int), I (y : Int), cmds s.L] := fun n => by rw [hcH n, Spl.enc, hx, hy]
      rw [hy]
      by_cases hbig : 20000 < out.length - y + s.L.length
      · have hbig' : (20000 : Int) < (out.length : Int) - (y : Int) + s.L.length := by omega
        rw [if_pos hbig] at hap
        simp (disch := first | (simp; done) | omega | (simp only [nx_add, nx_set, nx_kill, nx_mk, nx_emp]; omega) | fail) [g28_s4, hbig']
        simp (disch := first | (simp; done) | omega | (simp only [nx_add, nx_set, nx_kill, nx_mk, nx_emp]; omega) | fail) [g28_j5, ← hap]
        exact .nilsl
      · have hbig' : ¬ (20000 : Int) < (out.length : Int) - (y : Int) + s.L.length := by omega
        rw [if_neg hbig] at hap
        simp (disch := first | (simp; done) | omega | (simp only [nx_add, nx_set, nx_kill, nx_mk, nx_emp]; omega) | fail) [g28_s4, hbig', hcg]
        simp (disch := first | (simp; done) | omega | (simp only [nx_add, nx_set, nx_kill, nx_mk, nx_emp]; omega) | fail) [g28_s3, hcg]
        refine L_step hsm (hwH.bump _ (by omega)) fun v2 h2 o2 f2 w2 n2 g2 => ⟨n2, ?_⟩
        have n2' : h'.nx + 13 ≤ h2.nx := n2
        rw [show ((x : Int) + (y : Int)) = ((x + y : Nat) : Int) by omega]
        have oo : OLo h2 vo out := hoH.keep (by omega) (fun j hj => g2 j (by show j < h'.nx + 13; omega))
        refine P_step ⟨oo, o2, fun p n q m e1 e2 => ?_, by omega, by omega, by omega, by omega⟩ w2 fun v3 h3 o3 w3 n3 => ⟨n3, recOk_rd (g2 h.nx (by show h.nx < h'.nx + 13; omega)).symm, d.length - (i + 1), by omega, i + 1, _, v3, by omega, rfl, by simp, o3, w3, by simp; omega, hap⟩
        have h5 : h'.nx + 13 ≤ q := f2 q m e2
        rcases hoH with ⟨e3, _⟩ | ⟨id, e3, hid, _⟩
        · rw [e3] at e1; cases e1
        · rw [e3] at e1; cases e1; omega
    · rw [hb] at hap
      simp only [if_true] at hap
      simp (disch := first | (simp; done) | omega | (simp only [nx_add, nx_set, nx_kill, nx_mk, nx_emp]; omega) | fail) [g28_j2]
      simp (disch := first | (simp; done) | omega | (simp only [nx_add, nx_set, nx_kill, nx_mk, nx_emp]; omega) | fail) [g28_j5, ← hap]
      exact .nilsl
  · have hil : i = d.length := by omega
    subst hil
    rw [List.drop_length] at hap
    unfold apS at hap
    have hlt' : ¬ (d.length : Int) < d.length := by omega
    simp (disch := first | (simp; done) | omega | (simp only [nx_add, nx_set, nx_kill, nx_mk, nx_emp]; omega) | fail) [g28_l3]
    simp (disch := first | (simp; done) | omega | (simp only [nx_add, nx_set, nx_kill, nx_mk, nx_emp]; omega) | fail) [g28_j5, g28_c4, ← hap]
    exact ho.frzn n (by rw [← hap] at hn; exact hn)
end Go.Proofs.Ytpnekpbehcbmkaa
end
noncomputable section
namespace Go.Proofs.Ytpnekpbehcbmkaa
open Go.Eng
/-- a list, frozen or owned -/
def VL (h : AH) (v : AV) (l : List Cmd) : Prop := v = cmds l ∨ OLo h v l
theorem VL.klen {h h' : AH} {v : AV} {l : List Cmd} (hl : VL h v l) : kLen h' v = some (I l.length, h') := by
  rcases hl with rfl | hl
  · simp [cmds]
  · exact hl.klen
theorem VL.frz {h : AH} {v : AV} {l : List Cmd} (hl : VL h v l) : Frz h false v (cmds l) := by
  rcases hl with rfl | hl
  · exact cmds_pl l h
  · exact hl.frz
theorem VL.keep {h h' : AH} {v : AV} {l : List Cmd} (hl : VL h v l) (hn : h.nx ≤ h'.nx) (hg : ∀ i, i < h.nx → h'.H.get i = h.H.get i) : VL h' v l := by
  rcases hl with h1 | hl
  · exact .inl h1
  · exact .inr (hl.keep hn hg)
end Go.Proofs.Ytpnekpbehcbmkaa
end
noncomputable section
namespace Go.Proofs.Ytpnekpbehcbmkaa
open Go.Eng
/-! The law: splices are performed as the reference performs them. -/
theorem apS_mem {P : Cmd → Prop} : ∀ (d : List Spl) (out : List Cmd), (∀ c ∈ out, P c) → (∀ s ∈ d, ∀ c ∈ s.L, P c) → ∀ c ∈ (apS out d).2, P c
  | [], out, h1, _ => by simpa [apS] using h1
  | s :: r, out, h1, h2 => by
    unfold apS
    split
    · simp
    split
    · simp
    · refine apS_mem r _ (fun c hc => ?_) fun t ht => h2 t (List.mem_cons_of_mem _ ht)
      rcases List.mem_append.1 hc with hc | hc
      · rcases List.mem_append.1 hc with hc | hc
        · exact h1 c (List.mem_of_mem_take hc)
        · exact h2 s (List.mem_cons_self ..) c hc
      · exact h1 c (List.mem_of_mem_drop hc)
structure Sp2 where
  s : Spl
  v : AV
def Sp2.enc (p : Sp2) : List AV := [I p.s.at', I p.s.cnt, p.v]
theorem Sp2.len (p : Sp2) : p.enc.length = 3 := rfl
/-- a list of splices that is owned, whose lists are owned, too -/
structure DO (h : AH) (lo : Nat) (vd : AV) (D : List Sp2) : Prop where
  o : (vd = .nilsl ∧ D = []) ∨ ∃ id, vd = .rsl id 0 D.length 3 ∧ lo ≤ id ∧ id < h.nx ∧ h.cellsAt id = some ((D.map Sp2.enc).flatten)
  l : ∀ p ∈ D, Lst h lo p.v p.s.L ∧ Lite p.s.L ∧ ∀ id k, vd = .rsl id 0 k 3 → ∀ j n, p.v = .rsl j 0 n 22 → j ≠ id
theorem DO.keep {h h' : AH} {lo : Nat} {vd : AV} {D : List Sp2} (hd : DO h lo vd D) (hn : h.nx ≤ h'.nx) (hg : ∀ i, lo ≤ i → i < h.nx → h'.H.get i = h.H.get i) : DO h' lo vd D := by
  refine ⟨?_, fun p hp => ⟨(hd.l p hp).1.keep hn hg, (hd.l p hp).2⟩⟩
  rcases hd.o with h1 | ⟨id, h1, h2, h3, h4⟩
  · exact .inl h1
  · exact .inr ⟨id, h1, h2, by omega, by rw [cellsAt_congr (hg id h2 h3)]; exact h4⟩
theorem DO.frz {h : AH} {lo : Nat} {vd : AV} {D : List Sp2} (hd : DO h lo vd D) : Frz h false vd (spls (D.map Sp2.s)) := by
  rcases hd.o with ⟨rfl, rfl⟩ | ⟨id, rfl, _, _, hc⟩
  · exact .nilsl
  · have hl : ((D.map Sp2.s).map Spl.enc).length = D.length := by simp
    have hfl := flat_len (e := Sp2.enc) Sp2.len D
    have := Frz.rsl (h := h) (n := false) id 0 3 _ ((D.map Sp2.s).map Spl.enc) hc (by rw [hl, hfl]; omega) (fun i y hy => by
      simp at hy; obtain ⟨p, _, rfl⟩ := hy; rfl) (fun i y j c e h1 h2 h3 => ?_)
    · rw [hl] at this; exact this
    · simp only [List.getElem?_map, Option.map_eq_some_iff] at h1
      obtain ⟨t, ⟨p, hp, rfl⟩, rfl⟩ := h1
      have hj : j < 3 := by rw [← Spl.len p.s]; exact (List.getElem?_eq_some_iff.1 h2).1
      rw [Nat.zero_add, flat_get Sp2.len D i j p hp hj] at h3
      have hpm := List.mem_of_getElem? hp
      match j, hj with
      | 0, _ => simp [Sp2.enc, Spl.enc] at h2 h3; subst h2; subst h3; exact .int _ _
      | 1, _ => simp [Sp2.enc, Spl.enc] at h2 h3; subst h2; subst h3; exact .int _ _
      | 2, _ => simp [Sp2.enc, Spl.enc] at h2 h3; subst h2; subst h3; exact (hd.l p hpm).1.frz
theorem Lst.lt {h : AH} {lo : Nat} {v : AV} {l : List Cmd} (hl : Lst h lo v l) : ∀ id n, v = .rsl id 0 n 22 → lo ≤ id ∧ id < h.nx := fun id n he => by
  rcases hl with ⟨h0, _⟩ | ⟨id', h0, _, k3, k4, _⟩
  · rw [h0] at he; cases he
  · rw [h0] at he; cases he; exact ⟨k3, k4⟩
theorem Lst.form {h : AH} {lo : Nat} {v : AV} {l : List Cmd} (hl : Lst h lo v l) : v = .nilsl ∨ ∃ id k, v = .rsl id 0 k 22 := by
  rcases hl with ⟨h0, _⟩ | ⟨id', h0, _⟩
  · exact .inl h0
  · exact .inr ⟨_, _, h0⟩
end Go.Proofs.Ytpnekpbehcbmkaa
end
noncomputable section
namespace Go.Proofs.Ytpnekpbehcbmkaa
open Go.Eng
/-! The law: a list has at most 20000 commands. -/
theorem apply_f (a : List Cmd) (d : List Spl) (ha : Lite a) (hd : ∀ s ∈ d, Lite s.L) (hdl : SmX d) (hn : ∀ c ∈ (apS a d).2, c.line.gl = []) : Fresh Try.prog 28 [cmds a, spls d] (apR a d) :=
  apply_g true a d (spls d) (.inr rfl) ha hd hdl (fun _ => hn)
def e28f : QE Try.prog := ⟨28, fun args h Q => ∃ v1 v2 a d, args = [v1, v2] ∧ Frz h false v1 (cmds a) ∧ Frz h false v2 (spls d) ∧ (Lite a ∧ (∀ s ∈ d, Lite s.L) ∧ SmX d ∧ ∀ c ∈ (apS a d).2, c.line.gl = []) ∧ Q (apR a d) h, fun args h Q ⟨v1, v2, a, d, h1, h2, h3, h4, h5⟩ => by
  subst h1
  exact ⟨_, _, Fresh.call (apply_f a d h4.1 h4.2.1 h4.2.2.1 h4.2.2.2) rfl (frz_args2 h2 h3), h5⟩⟩
theorem e28f_h {tl : List (QE Try.prog)} {v1 v2 : AV} {h : AH} {Q : AV → AH → Prop} (a : List Cmd) (d : List Spl) (h2 : Frz h false v1 (cmds a)) (h3 : Frz h false v2 (spls d)) (h4 : Lite a ∧ (∀ s ∈ d, Lite s.L) ∧ SmX d ∧ ∀ c ∈ (apS a d).2, c.line.gl = []) (h5 : Q (apR a d) h) : tb (e28f :: tl) 28 [v1, v2] h Q := by
  rw [tb_here e28f tl 28 _ _ _ rfl]
  exact ⟨v1, v2, a, d, rfl, h2, h3, h4, h5⟩
@[simp ↓] theorem e28f_t (tl : List (QE Try.prog)) (f : Nat) (args : List AV) (h : AH) (Q : AV → AH → Prop) (hf : 28 ≠ f) : tb (e28f :: tl) f args h Q = tb tl f args h Q := tb_there e28f tl f args h Q hf
def zc : List AV := [I 0, I 0, I 0, I 0, I 0, I 0, .bool false, I 0, I 0, I 0, I 0, .str [], I 0, I 0, I 0, I 0, I 0, I 0, I 0, I 0, I 0, .nilsl]
def fil : Nat → List Cmd
  | 0 => []
  | i + 1 => fil i ++ [fillC 0 0 1 1 i]
theorem fil_len : ∀ i, (fil i).length = i
  | 0 => rfl
  | i + 1 => by simp [fil, fil_len i]
theorem fil_mem : ∀ i, ∀ c ∈ fil i, ∃ j : Nat, j < i ∧ c = fillC 0 0 1 1 j
  | 0, c, h => by simp [fil] at h
  | i + 1, c, h => by
    rcases List.mem_append.1 h with h | h
    · obtain ⟨j, h1, h2⟩ := fil_mem i c h; exact ⟨j, by omega, h2⟩
    · exact ⟨i, by omega, by simpa using h⟩
def cells9 (k i : Nat) : List AV := flatC (fil i) ++ repl (k - i) zc
theorem cells9_put {k i : Nat} (hi : i < k) : splice (cells9 k i) (i * 22) (fillC 0 0 1 1 i).enc = some (cells9 k (i + 1)) := by
  have h1 : (flatC (fil i)).length = i * 22 := by unfold flatC; rw [flat_len Cmd.len, fil_len]
  have h2 : repl (k - i) zc = zc ++ repl (k - (i + 1)) zc := by
    rw [show k - i = (k - (i + 1)) + 1 by omega]; simp [repl, List.replicate_succ]
  have h3 : flatC (fil (i + 1)) = flatC (fil i) ++ (fillC 0 0 1 1 i).enc := by simp [flatC, fil]
  have hz : zc.length = 22 := rfl
  have he : (fillC 0 0 1 1 (i : Int)).enc.length = 22 := Cmd.len _
  unfold splice cells9
  rw [h2, h3, if_pos (by rw [List.length_append, List.length_append, he, h1, hz]; omega), he]
  generalize flatC (fil i) = A at *
  generalize (fillC 0 0 1 1 (i : Int)).enc = B at *
  generalize repl (k - (i + 1)) zc = C at *
  generalize zc = Z at *
  rw [List.take_left' h1, ← List.append_assoc A Z C, List.drop_left' (by rw [List.length_append, h1, hz])]
theorem vrun_fil : ∀ l : List Cmd, (∀ c ∈ l, cmdErr [tf1] c = .inr [tf1]) → vrun [tf1] l = 0
  | [], _ => rfl
  | c :: l, h => by
    unfold vrun
    rw [h c (by simp)]
    exact vrun_fil l fun c hc => h c (by simp [hc])
theorem fil_ok {j : Nat} (hj : j ≤ 30000) : cmdErr [tf1] (fillC 0 0 1 1 j) = .inr [tf1] := by
  have h1 : okR ⟨0, 0, 1, 1⟩ = true := by decide
  have h2 : isCol (j : Int) = true := by simp [isCol]; omega
  simp [cmdErr, fillC, h1, h2]
theorem val_fil {k : Nat} (hk : k ≤ 30000) : validate (fil k) = if k > 20000 then 2 else 0 := by
  unfold validate
  rw [fil_len, vrun_fil]
  intro c hc
  obtain ⟨j, h1, rfl⟩ := fil_mem k c hc
  exact fil_ok (by omega)
def sp9 : Spl := ⟨0, 1, [fillC 1 1 1 1 0, fillC 2 2 1 1 0]⟩
theorem ap_fil {k : Nat} (hk : 1 ≤ k) : apS (fil k) [sp9] = if k ≥ 20000 then (2, []) else (0, sp9.L ++ (fil k).drop 1) := by
  have hl := fil_len k
  have hb : badS sp9 (fil k) = false := by simp [badS, sp9, hl]; omega
  unfold apS
  rw [hb, hl]
  simp only [Bool.false_eq_true, if_false]
  by_cases h : k ≥ 20000
  · rw [if_pos h, if_pos (by simp [sp9]; omega)]
  · rw [if_neg h, if_neg (by simp [sp9]; omega)]
    simp [apS, sp9]
theorem and3 (n : Int) : ∃ j : Nat, j ≤ 3 ∧ ∀ h, kArith h .and (I n) (I 3) = some (I j, h) := by
  have hle : (BitVec.ofInt 64 n &&& BitVec.ofInt 64 3).toNat ≤ 3 := by
    rw [BitVec.toNat_and]; exact Nat.and_le_right
  refine ⟨_, hle, fun h => ?_⟩
  show some (AV.int .i64 (IntKind.i64.wrap ((BitVec.ofInt 64 n &&& BitVec.ofInt 64 3).toNat : Int)), h) = _
  generalize (BitVec.ofInt 64 n &&& BitVec.ofInt 64 3).toNat = j at *
  rw [show IntKind.i64.wrap (j : Int) = j from wrap64 (by omega) (by omega)]
def l9I (k m : Nat) (vs : List AV) (h : AH) : Prop := ∃ i id : Nat, i ≤ k ∧ m = k - i ∧ vs = [.rsl id 0 k 22, I i] ∧ id < h.nx ∧ h.cellsAt id = some (cells9 k i)
theorem limits_f (n : Int) : Fresh Try.prog 9 [I n] (.bool true) := by
  refine C9 (tb_ok [e13o, e26, e28f, e17]) ?_
  obtain ⟨j, hj, ha⟩ := and3 n
  unfold g9
  refine wk_of (ha _) ?_
  obtain ⟨k, hk⟩ : ∃ k, k = 19999 + j := ⟨_, rfl⟩
  refine wk_of (v := I k) (h := emp) (by simp (disch := first | (simp; done) | omega | (simp only [nx_add, nx_set, nx_kill, nx_mk, nx_emp]; omega) | fail) []; omega) ?_
  refine wk_of (v := .rsl 0 0 k 22) (h := emp.add (.cells (repl k zc))) ?_ ?_
  · show (if 0 ≤ (k : Int) ∧ (k : Int) ≤ k ∧ (k : Int) ≤ 9223372036854775807 then (if (k : Int).toNat * 200 ≤ 140737488355328 then some (AV.rsl emp.nx 0 (k : Int).toNat 22, emp.add (.cells (repl (k : Int).toNat zc))) else none) else none) = _
    rw [if_pos (by omega), if_pos (by omega)]
    rfl
  refine ⟨l9I k, k, ⟨0, 0, by omega, rfl, rfl, by simp, by simp [cells9, fil, flatC]⟩, ?_⟩
  rintro m vs h ⟨i, id, hi, rfl, rfl, hid, hc⟩
  by_cases hlt : i < k
  · have hlt' : (i : Int) < k := by omega
    have hput := cells9_put hlt
    simp (disch := first | (simp; done) | omega | (simp only [nx_add, nx_set, nx_kill, nx_mk, nx_emp]; omega) | fail) [g9_l1, hlt, hlt', kIdxA_rsl, hc, hput]
    refine ⟨k - (i + 1), by omega, i + 1, id, by omega, rfl, by simp, by simpa using hid, by simp⟩
  have hik : i = k := by omega
  subst hik
  have hlt' : ¬ (i : Int) < i := by omega
  have hc' : h.cellsAt id = some (flatC (fil i)) := by rw [hc]; simp [cells9, repl]
  have hfl := fil_len i
  have hF : Frz h false (.rsl id 0 i 22) (cmds (fil i)) := by
    have := frz_rows (h := h) (n := false) Cmd.len (l := fil i) hc' (fun a _ c hc => a.pls c hc h)
    rwa [hfl] at this
  have hli : Lite (fil i) := ⟨by omega, fun c hc => by obtain ⟨j, _, rfl⟩ := fil_mem i c hc; simp [fillC]⟩
  simp (disch := first | (simp; done) | omega | (simp only [nx_add, nx_set, nx_kill, nx_mk, nx_emp]; omega) | fail) [g9_l1]
  simp (disch := first | (simp; done) | omega | (simp only [nx_add, nx_set, nx_kill, nx_mk, nx_emp]; omega) | fail) [g9_j7, g9_c6]
  refine e13o_h (fil i) hF hli.sm ?_
  rw [val_fil (by omega)]
  simp (disch := first | (simp; done) | omega | (simp only [nx_add, nx_set, nx_kill, nx_mk, nx_emp]; omega) | fail) []
  simp (disch := first | (simp; done) | omega | (simp only [nx_add, nx_set, nx_kill, nx_mk, nx_emp]; omega) | fail) [g9_s5]
  simp only [g9_s4]
  refine wk_of (v := .rsl h.nx 0 2 22) (h := h.add (.cells (flatC sp9.L))) rfl ?_
  refine wk_of (v := .agg [I 0, I 1, .rsl h.nx 0 2 22]) (h := h.add (.cells (flatC sp9.L))) rfl ?_
  refine wk_of (v := .rsl (h.nx + 1) 0 1 3) (h := (h.add (.cells (flatC sp9.L))).add (.cells [I 0, I 1, .rsl h.nx 0 2 22])) rfl ?_
  obtain ⟨H, hH⟩ : ∃ H, H = (h.add (.cells (flatC sp9.L))).add (.cells [I 0, I 1, .rsl h.nx 0 2 22]) := ⟨_, rfl⟩
  rw [← hH]
  have c1 : H.cellsAt id = some (flatC (fil i)) := by
    rw [hH, cellsAt_add_ne _ _ _ (by simp; omega), cellsAt_add_ne _ _ _ (by omega)]; exact hc'
  have hF2 : Frz H false (.rsl id 0 i 22) (cmds (fil i)) := by
    have := frz_rows (h := H) (n := false) Cmd.len (l := fil i) c1 (fun a _ c hc => a.pls c hc H)
    rwa [hfl] at this
  have hl2 : Lite sp9.L := ⟨by simp [sp9], fun c hc => by simp [sp9] at hc; rcases hc with rfl | rfl <;> simp [fillC]⟩
  have hD : DO H h.nx (.rsl (h.nx + 1) 0 1 3) [⟨sp9, .rsl h.nx 0 2 22⟩] := by
    refine ⟨.inr ⟨h.nx + 1, rfl, by omega, by subst hH; simp, ?_⟩, fun p hp => ?_⟩
    · subst hH
      exact cellsAt_add_self _ _ _ (by simp)
    · simp at hp
      subst hp
      refine ⟨.inr ⟨h.nx, rfl, by simp [sp9], Nat.le_refl _, by subst hH; simp; omega, ?_⟩, hl2, fun id k he j n e2 => by cases he; cases e2; omega⟩
      subst hH
      rw [cellsAt_add_ne _ _ _ (by simp)]
      exact cellsAt_add_self _ _ _ rfl
  have hF3 := hD.frz
  simp (disch := first | (simp; done) | omega | (simp only [nx_add, nx_set, nx_kill, nx_mk, nx_emp]; omega) | fail) []
  refine e28f_h (fil i) [sp9] hF2 hF3 ⟨hli, fun s hs => by simp at hs; subst hs; exact hl2, by unfold SmX; simp, ?_⟩ ?_
  · refine apS_mem (P := fun c => c.line.gl = []) _ _ (fun c hc => ?_) fun s hs c hc => ?_
    · obtain ⟨j, _, rfl⟩ := fil_mem i c hc; rfl
    · simp at hs; subst hs
      simp [sp9] at hc
      rcases hc with rfl | rfl <;> rfl
  have hap := ap_fil (k := i) (by omega)
  have hlen : (sp9.L ++ (fil i).drop 1).length = i + 1 := by simp [sp9, hfl]; omega
  unfold apR
  rw [hap]
  generalize sp9.L ++ (fil i).drop 1 = R at *
  have kl : ∀ (l : List Cmd) h, kLen h (cmds l) = some (I l.length, h) := fun l h => by simp [cmds]
  have kr : ∀ (n : Nat) h, kLen h (.rsl id 0 n 22) = some (I n, h) := fun n h => by simp
  by_cases q1 : 20000 < i
  · have q2 : i ≥ 20000 := by omega
    have r2 : (20000 : Int) ≤ i := by omega
    have r3 : ¬ (i : Int) ≤ 20000 := by omega
    simp only [if_pos q1, if_pos q2]
    simp (disch := first | (simp; done) | omega | (simp only [nx_add, nx_set, nx_kill, nx_mk, nx_emp]; omega) | fail) [g9_s3]
    refine ⟨fun vs h' => vs = [.rsl id 0 i 22, cmds [], I 2, .bool false] ∧ h' = H, ?_, ?_⟩
    · simp (disch := first | (simp; done) | omega | (simp only [nx_add, nx_set, nx_kill, nx_mk, nx_emp]; omega) | fail) [g9_a2, r3]
      simp (disch := first | (simp; done) | omega | (simp only [nx_add, nx_set, nx_kill, nx_mk, nx_emp]; omega) | fail) [g9_s1]
    rintro vs h' ⟨rfl, rfl⟩
    simp (disch := first | (simp; done) | omega | (simp only [nx_add, nx_set, nx_kill, nx_mk, nx_emp]; omega) | fail) [g9_j5, r2]
    refine ⟨fun vs h2 => vs = [.bool true] ∧ h2 = h', ?_, ?_⟩
    · simp (disch := first | (simp; done) | omega | (simp only [nx_add, nx_set, nx_kill, nx_mk, nx_emp]; omega) | fail) [g9_a3, kl]
    rintro vs h2 ⟨rfl, rfl⟩
    simp (disch := first | (simp; done) | omega | (simp only [nx_add, nx_set, nx_kill, nx_mk, nx_emp]; omega) | fail) [g9_j4]
  · by_cases q2 : i ≥ 20000
    · have r2 : (20000 : Int) ≤ i := by omega
      have r3 : (i : Int) ≤ 20000 := by omega
      simp only [if_neg q1, if_pos q2]
      simp (disch := first | (simp; done) | omega | (simp only [nx_add, nx_set, nx_kill, nx_mk, nx_emp]; omega) | fail) [g9_s3]
      refine ⟨fun vs h' => vs = [.rsl id 0 i 22, cmds [], I 2, .bool false] ∧ h' = H, ?_, ?_⟩
      · simp (disch := first | (simp; done) | omega | (simp only [nx_add, nx_set, nx_kill, nx_mk, nx_emp]; omega) | fail) [g9_a2, r3]
        simp (disch := first | (simp; done) | omega | (simp only [nx_add, nx_set, nx_kill, nx_mk, nx_emp]; omega) | fail) [g9_s1]
      rintro vs h' ⟨rfl, rfl⟩
      simp (disch := first | (simp; done) | omega | (simp only [nx_add, nx_set, nx_kill, nx_mk, nx_emp]; omega) | fail) [g9_j5, r2]
      refine ⟨fun vs h2 => vs = [.bool true] ∧ h2 = h', ?_, ?_⟩
      · simp (disch := first | (simp; done) | omega | (simp only [nx_add, nx_set, nx_kill, nx_mk, nx_emp]; omega) | fail) [g9_a3, kl]
      rintro vs h2 ⟨rfl, rfl⟩
      simp (disch := first | (simp; done) | omega | (simp only [nx_add, nx_set, nx_kill, nx_mk, nx_emp]; omega) | fail) [g9_j4]
    · have r2 : ¬ (20000 : Int) ≤ i := by omega
      have r3 : (i : Int) ≤ 20000 := by omega
      simp only [if_neg q1, if_neg q2]
      simp (disch := first | (simp; done) | omega | (simp only [nx_add, nx_set, nx_kill, nx_mk, nx_emp]; omega) | fail) [g9_s3]
      refine ⟨fun vs h' => vs = [.rsl id 0 i 22, cmds R, I 0, .bool false] ∧ h' = H, ?_, ?_⟩
      · simp (disch := first | (simp; done) | omega | (simp only [nx_add, nx_set, nx_kill, nx_mk, nx_emp]; omega) | fail) [g9_a2, r3]
        simp (disch := first | (simp; done) | omega | (simp only [nx_add, nx_set, nx_kill, nx_mk, nx_emp]; omega) | fail) [g9_s1]
      rintro vs h' ⟨rfl, rfl⟩
      simp (disch := first | (simp; done) | omega | (simp only [nx_add, nx_set, nx_kill, nx_mk, nx_emp]; omega) | fail) [g9_j5, r2, kl, hlen]
      simp (disch := first | (simp; done) | omega | (simp only [nx_add, nx_set, nx_kill, nx_mk, nx_emp]; omega) | fail) [g9_s2]
end Go.Proofs.Ytpnekpbehcbmkaa
end
