/- A list of commands that a call owns: cloned, replaced in part. What performing splices answers. Lists and splices compared; the splice from one list to another, performed. What the law DisplayDiffs computes. -/
import Derived.Test.YtpnekpbehcbmkaaD7R
import Derived.Test.YtpnekpbehcbmkaaD9E
set_option linter.unusedSimpArgs false
set_option linter.unusedVariables false
set_option linter.unnecessarySimpa false
noncomputable section
namespace Go.Proofs.Ytpnekpbehcbmkaa
open Go.Eng Go.RowKit
/-! A list of commands that a call owns: cloned, replaced in part. -/
theorem wfrz_of {vs vs' : List AV} {h : AH} {k : List AV → AH → Prop} (hf : ∀ (i : Nat) (a b : AV), vs[i]? = some a → vs'[i]? = some b → Frz h false a b) (hk : k vs' ⟨.leaf, h.nx⟩) : wfrz vs h k := by
  have hnone : ∀ (i : Nat), PM.get (.leaf : PM AObj) i = none := fun i => by simp [PM.get]
  refine ⟨vs', fun own β w hs i a b v h1 h2 hv => VR.frz hs (n := false) (L2 := LL own β .leaf) (β2 := β) ?_ ?_ (hf i a b h1 h2) hv, hk⟩
  · rintro b ⟨id, o, base, hg, hβ⟩ hL
    obtain ⟨b', base', hβ', hn, _⟩ := hs.obj id o hg
    rw [hβ] at hβ'; cases hβ'
    rcases hL with hL | ⟨j, o2, b2, hg2, _⟩
    · exact hn hL
    · rw [hnone] at hg2; cases hg2
  · intro _ b hb hL
    rcases hL with hL | ⟨j, o2, b2, hg2, _⟩
    · exact hb (.inl hL)
    · rw [hnone] at hg2; cases hg2
def OLo (h : AH) (v : AV) (l : List Cmd) : Prop := (v = .nilsl ∧ l = []) ∨ ∃ id, v = .rsl id 0 l.length 22 ∧ id < h.nx ∧ h.cellsAt id = some (flatC l)
theorem OLo.frz {h : AH} {v : AV} {l : List Cmd} (hl : OLo h v l) : Frz h false v (cmds l) := by
  rcases hl with ⟨rfl, rfl⟩ | ⟨id, rfl, _, hc⟩
  · exact .nilsl
  · exact frz_rows Cmd.len (l := l) hc (fun a _ c hc => a.pls c hc h)
theorem OLo.klen {h h' : AH} {v : AV} {l : List Cmd} (hl : OLo h v l) : kLen h' v = some (I l.length, h') := by
  rcases hl with ⟨rfl, rfl⟩ | ⟨id, rfl, _⟩ <;> simp
theorem OLo.keep {h h' : AH} {v : AV} {l : List Cmd} (hl : OLo h v l) (hn : h.nx ≤ h'.nx) (hg : ∀ i, i < h.nx → h'.H.get i = h.H.get i) : OLo h' v l := by
  rcases hl with h1 | ⟨id, h1, h2, h3⟩
  · exact .inl h1
  · exact .inr ⟨id, h1, by omega, by rw [cellsAt_congr (hg id h2)]; exact h3⟩
def clI2 (h0 : AH) (l : List Cmd) (m : Nat) (vs : List AV) (h : AH) : Prop := ∃ (i : Nat) (v : AV), i ≤ l.length ∧ m = l.length - i ∧ vs = [v, cmds l, I l.length, I i] ∧ ((l.take i = [] ∧ v = .nilsl) ∨ ∃ id, v = .rsl id 0 (l.take i).length 22 ∧ h0.nx ≤ id ∧ id < h.nx ∧ h.cellsAt id = some (flatC (l.take i))) ∧ h0.nx ≤ h.nx ∧ h.nx ≤ h0.nx + 4 * i ∧ ∀ j, j < h0.nx → h.H.get j = h0.H.get j
theorem cloned_g (h0 : AH) (l : List Cmd) (hl : Lite l) : CallsA Try.prog 59 [cmds l] h0 fun v h => ((l = [] ∧ v = .nilsl) ∨ ∃ id, v = .rsl id 0 l.length 22 ∧ h0.nx ≤ id ∧ id < h.nx ∧ h.cellsAt id = some (flatC l)) ∧ h0.nx ≤ h.nx ∧ h.nx ≤ h0.nx + 4 * l.length ∧ ∀ j, j < h0.nx → h.H.get j = h0.H.get j := by
  refine C59 (tb_ok [e79]) ?_
  have hl1 := hl.1
  simp (disch := first | (simp; done) | omega | (simp only [nx_add, nx_set, nx_kill, nx_mk, nx_emp]; omega) | fail) [g59]
  refine ⟨clI2 h0 l, l.length, ⟨0, .nilsl, by omega, rfl, rfl, .inl ⟨by simp, rfl⟩, Nat.le_refl _, by omega, fun _ _ => rfl⟩, ?_⟩
  rintro m vs h ⟨i, v, hi, rfl, rfl, hv, hn1, hn2, hold⟩
  by_cases hlt : i < l.length
  · have hg : l[i].line.gl.length ≤ 1000 := hl.2 _ (List.getElem_mem hlt)
    have hlen : (l.take i).length = i := by simp; omega
    have hlen2 : (l.take (i + 1)).length = i + 1 := by simp; omega
    have hF2 : flatC (l.take (i + 1)) = flatC (l.take i) ++ l[i].enc := by unfold flatC; rw [take_snoc l i hlt, List.map_append, List.flatten_append]; simp only [List.map_cons, List.map_nil, List.flatten_cons, List.flatten_nil, List.append_nil]
    rcases hv with ⟨he, rfl⟩ | ⟨id, rfl, hid0, hid, hc⟩
    · have hi0 : i = 0 := by rw [he] at hlen; simpa using hlen.symm
      have hF0 : flatC (l.take i) = [] := by rw [he]; rfl
      rw [hF0, List.nil_append] at hF2
      simp (disch := first | (simp; done) | omega | (simp only [nx_add, nx_set, nx_kill, nx_mk, nx_emp]; omega) | fail) [g59_l1, hlt, hg]
      simp (disch := first | (simp; done) | omega | (simp only [nx_add, nx_set, nx_kill, nx_mk, nx_emp]; omega) | fail) [g59_s1, hlt, hg]
      refine ⟨l.length - (i + 1), by omega, i + 1, _, by omega, rfl, by simp; rfl, .inr ⟨h.nx + 1 + 1, by rw [hlen2, hi0], by omega, by simp, ?_⟩, by simp; omega, by simp; omega, fun j hj => ?_⟩
      · rw [hF2]; simp
      · simp only [get_add, get_set, get_kill, nx_add, nx_set, nx_kill]
        repeat rw [if_neg (by omega)]
        exact hold j hj
    · have q1 : ¬ id = h.nx := by omega
      have q2 : ¬ id = h.nx + 1 := by omega
      rw [hlen]
      have hcut : cut (flatC (l.take i)) 0 (i * 22) = some (flatC (l.take i)) := by
        have := cut_zero_app (α := flatC (l.take i)) (b := []) (n := i * 22) (by unfold flatC; rw [flat_len Cmd.len, hlen])
        rwa [List.append_nil] at this
      have hones : ones (flatC (l.take i)) = true := ones_flat Cmd.ones _
      generalize flatC (l.take i) = F at hc hF2 hcut hones
      simp (disch := first | (simp; done) | omega | (simp only [nx_add, nx_set, nx_kill, nx_mk, nx_emp]; omega) | fail) [g59_l1, hlt, hg, q1, q2, hc, hcut, hones]
      simp (disch := first | (simp; done) | omega | (simp only [nx_add, nx_set, nx_kill, nx_mk, nx_emp]; omega) | fail) [g59_s1, hlt, hg, q1, q2, hc, hcut, hones]
      refine ⟨l.length - (i + 1), by omega, i + 1, _, by omega, rfl, by simp; rfl, .inr ⟨h.nx + 1 + 1, by rw [hlen2], by omega, by simp, ?_⟩, by simp; omega, by simp; omega, fun j hj => ?_⟩
      · rw [hF2]; simp
      · simp only [get_add, get_set, get_kill, nx_add, nx_set, nx_kill]
        repeat rw [if_neg (by omega)]
        exact hold j hj
  · have hil : i = l.length := by omega
    subst hil
    rw [List.take_length] at hv
    simp (disch := first | (simp; done) | omega | (simp only [nx_add, nx_set, nx_kill, nx_mk, nx_emp]; omega) | fail) [g59_l1, hlt]
    simp (disch := first | (simp; done) | omega | (simp only [nx_add, nx_set, nx_kill, nx_mk, nx_emp]; omega) | fail) [g59_j3, hlt]
    simp (disch := first | (simp; done) | omega | (simp only [nx_add, nx_set, nx_kill, nx_mk, nx_emp]; omega) | fail) [g59_c2, hlt]
    exact ⟨hv, hn1, hn2, hold⟩
def clV (h : AH) (l : List Cmd) : AV := if l = [] then .nilsl else .rsl (h.nx + 4 * l.length) 0 l.length 22
def clH (h : AH) (l : List Cmd) : AH := if l = [] then ⟨h.H, h.nx + 4 * l.length⟩ else settled h (h.nx + 4 * l.length) (flatC l)
theorem cloned_d {h : AH} {l : List Cmd} (hw : WF h) (hl : Lite l) : CallD Try.prog 59 [cmds l] h (clV h l) (clH h l) := by
  unfold clV clH
  have hlow : ∀ i o, h.H.get i = some o → i < h.nx := fun i o hi => Nat.lt_of_not_le fun hle => by rw [hw i hle] at hi; cases hi
  by_cases h0 : l = []
  · rw [if_pos h0, if_pos h0]
    refine Go.Eng.settle0 (cloned_g h l hl) fun v' h' ⟨hv, hn1, hn2, hold⟩ => ⟨hn2, fun i hi => (hold i hi).symm, hlow, ?_⟩
    rcases hv with ⟨_, h1⟩ | ⟨id, rfl, _, hlt, hc⟩
    · exact h1
    · exfalso
      subst h0
      simp at hn2
      have := hn1
      omega
  · rw [if_neg h0, if_neg h0]
    refine Go.Eng.settle (cloned_g h l hl) fun v' h' ⟨hv, hn1, hn2, hold⟩ => ⟨hn2, fun i hi => (hold i hi).symm, hlow, ?_⟩
    rcases hv with ⟨h1, _⟩ | ⟨id, rfl, hid, hlt, hc⟩
    · exact absurd h1 h0
    · exact ⟨id, _, hid, hc, flatC_pl l _, rfl⟩
def e59c : QE Try.prog := ⟨59, fun args h Q => ∃ l, args = [cmds l] ∧ (Lite l ∧ WF h) ∧ Q (clV h l) (clH h l), fun args h Q ⟨l, h1, ⟨h2, h3⟩, h4⟩ => by
  subst h1; exact ⟨_, _, cloned_d h3 h2, h4⟩⟩
@[simp ↓] theorem e59c_t (tl : List (QE Try.prog)) (f : Nat) (args : List AV) (h : AH) (Q : AV → AH → Prop) (hf : 59 ≠ f) : tb (e59c :: tl) f args h Q = tb tl f args h Q := tb_there e59c tl f args h Q hf
theorem L_step {tl : List (QE Try.prog)} {l : List Cmd} {h : AH} {Q : AV → AH → Prop} (hl : Lite l) (hw : WF h)
    (hq : ∀ v h1, OLo h1 v l → (∀ id n, v = .rsl id 0 n 22 → h.nx ≤ id) → WF h1 → h.nx ≤ h1.nx → (∀ i, i < h.nx → h1.H.get i = h.H.get i) → Q v h1) : tb (e59c :: tl) 59 [cmds l] h Q := by
  rw [tb_here e59c tl 59 _ _ _ rfl]
  refine ⟨l, rfl, ⟨hl, hw⟩, ?_⟩
  unfold clV clH
  by_cases h0 : l = []
  · rw [if_pos h0, if_pos h0]
    exact hq _ _ (.inl ⟨rfl, h0⟩) (fun id n he => by cases he) (hw.bump _ (by show h.nx ≤ h.nx + 4 * l.length; omega)) (by show h.nx ≤ h.nx + 4 * l.length; omega) (fun _ _ => rfl)
  · rw [if_neg h0, if_neg h0]
    have hg : ∀ i, i ≠ h.nx + 4 * l.length → (settled h (h.nx + 4 * l.length) (flatC l)).H.get i = h.H.get i := fun i hi => by rw [get_settled, if_neg hi]
    refine hq _ _ (.inr ⟨_, rfl, by show h.nx + 4 * l.length < h.nx + 4 * l.length + 1; omega, ?_⟩) (fun id n he => by cases he; omega) (fun i hi => ?_) (by show h.nx ≤ h.nx + 4 * l.length + 1; omega) (fun i hi => hg i (by omega))
    · unfold AH.cellsAt; rw [get_settled, if_pos rfl]
    · have hi' : h.nx + 4 * l.length + 1 ≤ i := hi
      rw [hg i (by omega)]; exact hw i (by omega)
/-- slices.Replace -/
def rpV (h : AH) (v0 : AV) (n m i j : Nat) : AV := if i = j ∧ m = 0 then v0 else .rsl h.nx 0 (i + m + (n - j)) 22
def rpH (h : AH) (v0 : AV) (out L : List Cmd) (i j : Nat) : AH := if i = j ∧ L.length = 0 then h else match v0 with
  | .rsl id _ _ _ => (h.kill id).add (.cells (rX (flatC out) (flatC L) i j))
  | _ => h.add (.cells (flatC L))
structure RpP (h : AH) (v0 v3 : AV) (out L : List Cmd) (i j : Nat) : Prop where
  h0 : OLo h v0 out
  h3 : OLo h v3 L
  ne : ∀ a n b m, v0 = .rsl a 0 n 22 → v3 = .rsl b 0 m 22 → b ≠ a
  ij : i ≤ j
  jn : j ≤ out.length
  b1 : out.length ≤ 1000000
  b2 : L.length ≤ 1000000
theorem replace_d {h : AH} {v0 v3 : AV} {out L : List Cmd} {i j : Nat} (p : RpP h v0 v3 out L i j) : CallD Try.prog 60 [v0, I i, I j, v3] h (rpV h v0 out.length L.length i j) (rpH h v0 out L i j) := by
  refine ⟨⟨_, Try.func60, rfl, by decide⟩, fun own β w cargs hs hR => ?_⟩
  obtain ⟨c0, c1, c2, c3, hc⟩ : ∃ c0 c1 c2 c3, cargs = #[c0, c1, c2, c3] := by
    have h4 : cargs.toList.length = 4 := by simpa using hR.1.symm
    match hl : cargs.toList, h4 with
    | [a, b, c, d], _ => exact ⟨a, b, c, d, by apply Array.ext'; simpa using hl⟩
  subst hc
  have hv0 := hR.2 0 v0 c0 (by simp) (by simp)
  have hv1 := hR.2 1 (I i) c1 (by simp) (by simp)
  have hv2 := hR.2 2 (I j) c2 (by simp) (by simp)
  have hv3 := hR.2 3 v3 c3 (by simp) (by simp)
  cases hv1; cases hv2
  have lL : (flatC L).length = L.length * 22 := by unfold flatC; exact flat_len Cmd.len L
  have hs3 : (v3 = .nilsl ∧ L.length = 0 ∧ flatC L = []) ∨ ∃ id2, v3 = .rsl id2 0 L.length 22 ∧ h.cellsAt id2 = some (flatC L) := by
    rcases p.h3 with ⟨h1, rfl⟩ | ⟨id2, h1, _, h2⟩
    · exact .inl ⟨h1, rfl, rfl⟩
    · exact .inr ⟨id2, h1, h2⟩
  rcases p.h0 with ⟨rfl, rfl⟩ | ⟨id, rfl, _, hc0⟩
  · have hj := p.jn; have hij := p.ij
    simp at hj
    obtain rfl : j = 0 := hj
    obtain rfl : i = 0 := by omega
    cases hv0
    have key : ∀ va vc, c3 = .slice va L.length vc → Calls Try.prog 60 #[.slice none 0 0, .int .i64 0, .int .i64 0, c3] w fun e w' => ∃ cv v h' β', e = .returned cv ∧ (v = rpV h .nilsl 0 L.length 0 0 ∧ h' = rpH h .nilsl [] L 0 0) ∧ SimH own β' h'.H h'.nx w' ∧ VR w'.heap (LL own β' h'.H) β' v cv ∧ Trans own β h w β' h' w' := fun va vc hce => by
      subst hce
      refine rep_A0 ?_
      rcases Nat.eq_zero_or_pos L.length with hm | hm
      · rw [hm]
        refine (ins_A0).mono ?_
        rintro e w' ⟨rfl, rfl⟩
        have e1 : rpV h .nilsl 0 0 0 0 = .nilsl := rfl
        have e2 : rpH h .nilsl [] L 0 0 = h := by unfold rpH; rw [if_pos ⟨rfl, hm⟩]
        rw [e1, e2]
        exact ⟨⟨_, rfl⟩, _, _, _, β, rfl, ⟨rfl, rfl⟩, hs, .nilsl, .refl _ _ _ _⟩
      · have b2 := p.b2
        rcases hs3 with ⟨_, h1, _⟩ | ⟨id2, rfl, hc2⟩
        · omega
        have hcut : cut (flatC L) 0 (L.length * 22) = some (flatC L) := by
          have := cut_zero_app (α := flatC L) (b := []) (n := L.length * 22) lL
          rwa [List.append_nil] at this
        have hro : roomy L.length 200 = true := roomy_ok _ _ (by omega) (by omega)
        have hon : ones (flatC L) = true := ones_flat Cmd.ones _
        have hm0 : L.length ≠ 0 := by omega
        have happ : aapp h 22 200 .nilsl (.rsl id2 0 L.length 22) = some (.rsl h.nx 0 L.length 22, h.add (.cells (flatC L))) := by
          simp [aapp, acells, alen, hc2, hcut, hon, hro, hm0]
        have hq : zeroOf Try.prog 35 = some [.int .i64 0, .int .i64 0, .int .i64 0, .int .i64 0, .int .i64 0, .int .i64 0, .bool false, .int .i64 0, .int .i64 0, .int .i64 0, .int .i64 0, .str [], .int .i64 0, .int .i64 0, .int .i64 0, .int .i64 0, .int .i64 0, .int .i64 0, .int .i64 0, .int .i64 0, .int .i64 0, .nilsl] := by kernel_rfl
        obtain ⟨cv, w1, β1, q1, q2, q3, q4⟩ := app_run (append_ok hs Try.underlying22 hq szO35 rfl (by omega) byO35 .nilsl hv3 happ)
        refine (ins_B0 hm b2 q1).mono ?_
        rintro e w' ⟨rfl, rfl⟩
        have e1 : rpV h .nilsl 0 L.length 0 0 = .rsl h.nx 0 L.length 22 := by unfold rpV; rw [if_neg (by omega)]; simp
        have e2 : rpH h .nilsl [] L 0 0 = h.add (.cells (flatC L)) := by unfold rpH; rw [if_neg (by omega)]
        rw [e1, e2]
        exact ⟨⟨_, rfl⟩, _, _, _, _, rfl, ⟨rfl, rfl⟩, q2, q3, q4⟩
    have hc3 : ∃ va vc, c3 = .slice va L.length vc := by
      rcases hs3 with ⟨h1, h2, _⟩ | ⟨id2, h1, _⟩
      · rw [h1] at hv3; cases hv3; exact ⟨_, _, by rw [h2]⟩
      · rw [h1] at hv3
        generalize L.length = N at hv3
        cases hv3 with
        | rsl => exact ⟨_, _, rfl⟩
        | rsl0 => exact ⟨_, _, rfl⟩
    obtain ⟨va, vc, hc3⟩ := hc3
    exact key va vc hc3
  · have t : Two h (.rsl id 0 out.length 22) v3 out.length L.length (flatC out) (flatC L) id := ⟨rfl, hc0, by unfold flatC; exact flat_len Cmd.len out, ones_flat Cmd.ones _, by
      rcases hs3 with h1 | ⟨id2, h1, h2⟩
      · exact .inl h1
      · exact .inr ⟨id2, h1, p.ne _ _ _ _ rfl h1, h2, lL, ones_flat Cmd.ones _⟩, p.b1, p.b2⟩
    refine (rep_all hs t p.ij p.jn hv0 hv3).mono ?_
    rintro e w' ⟨cv, β', h1, h2, h3, h4⟩
    exact ⟨cv, _, _, β', h1, ⟨rfl, rfl⟩, h2, h3, h4⟩
def e60c : QE Try.prog := ⟨60, fun args h Q => ∃ v0 v3 out L i j, args = [v0, I (i : Nat), I (j : Nat), v3] ∧ RpP h v0 v3 out L i j ∧ Q (rpV h v0 out.length L.length i j) (rpH h v0 out L i j), fun args h Q ⟨v0, v3, out, L, i, j, h1, h2, h3⟩ => by
  subst h1; exact ⟨_, _, replace_d h2, h3⟩⟩
theorem rX_flat (out L : List Cmd) (i j : Nat) : rX (flatC out) (flatC L) i j = flatC (out.take i ++ L ++ out.drop j) := by
  have ht : ∀ (l : List Cmd) (k : Nat), (flatC l).take (k * 22) = flatC (l.take k) := fun l k => by
    induction l generalizing k with
    | nil => simp [flatC]
    | cons c l ih =>
      cases k with
      | zero => simp [flatC]
      | succ k =>
        have h1 : flatC (c :: l) = c.enc ++ flatC l := by simp [flatC]
        have h2 : flatC ((c :: l).take (k + 1)) = c.enc ++ flatC (l.take k) := by simp [flatC]
        rw [h1, h2, List.take_append, List.take_of_length_le (by rw [Cmd.len]; omega), Cmd.len, show (k + 1) * 22 - 22 = k * 22 by omega, ih]
  have hd : ∀ (l : List Cmd) (k : Nat), (flatC l).drop (k * 22) = flatC (l.drop k) := fun l k => by
    induction l generalizing k with
    | nil => simp [flatC]
    | cons c l ih =>
      cases k with
      | zero => simp [flatC]
      | succ k =>
        have h1 : flatC (c :: l) = c.enc ++ flatC l := by simp [flatC]
        rw [h1, List.drop_append, List.drop_of_length_le (by rw [Cmd.len]; omega), Cmd.len, show (k + 1) * 22 - 22 = k * 22 by omega, ih, List.nil_append]; rfl
  unfold rX
  rw [ht, hd]
  simp [flatC]
theorem P_step {tl : List (QE Try.prog)} {v0 v3 : AV} {out L : List Cmd} {i j : Nat} {h : AH} {Q : AV → AH → Prop} (p : RpP h v0 v3 out L i j) (hw : WF h)
    (hq : ∀ v h1, OLo h1 v (out.take i ++ L ++ out.drop j) → WF h1 → h.nx ≤ h1.nx → Q v h1) : tb (e60c :: tl) 60 [v0, I i, I j, v3] h Q := by
  rw [tb_here e60c tl 60 _ _ _ rfl]
  refine ⟨v0, v3, out, L, i, j, rfl, p, ?_⟩
  have hij := p.ij; have hjn := p.jn
  unfold rpV rpH
  by_cases h0 : i = j ∧ L.length = 0
  · rw [if_pos h0, if_pos h0]
    obtain ⟨rfl, hL⟩ := h0
    have hL0 : L = [] := List.length_eq_zero_iff.1 hL
    subst hL0
    refine hq _ _ ?_ hw (Nat.le_refl _)
    rw [List.append_nil, List.take_append_drop]; exact p.h0
  · rw [if_neg h0, if_neg h0]
    have hlen : (out.take i ++ L ++ out.drop j).length = i + L.length + (out.length - j) := by simp; omega
    rcases p.h0 with ⟨rfl, rfl⟩ | ⟨id, rfl, hid, hc0⟩
    · simp at hjn
      obtain rfl : j = 0 := hjn
      obtain rfl : i = 0 := by omega
      refine hq _ _ (.inr ⟨h.nx, by rw [hlen], by simp, ?_⟩) (hw.add _) (by simp)
      simp
    · refine hq _ _ (.inr ⟨h.nx, by rw [hlen], by simp, ?_⟩) ((hw.kill id).add _) (by simp)
      rw [rX_flat]
      simp
end Go.Proofs.Ytpnekpbehcbmkaa
end
noncomputable section
namespace Go.Proofs.Ytpnekpbehcbmkaa
open Go.Eng
/-! Performing splices. -/
structure Spl where
  at' : Int
  cnt : Int
  L : List Cmd
def Spl.enc (s : Spl) : List AV := [I s.at', I s.cnt, cmds s.L]
def spls (d : List Spl) : AV := .psl (d.map Spl.enc)
@[simp] theorem Spl.len (s : Spl) : s.enc.length = 3 := Eq.trans rfl rfl
@[simp] theorem Spl.ones (s : Spl) : ones s.enc = true := Eq.trans rfl rfl
@[simp high] theorem Spl.g0 (s : Spl) : s.enc[0]? = some (I s.at') := Eq.trans rfl rfl
@[simp high] theorem Spl.g1 (s : Spl) : s.enc[1]? = some (I s.cnt) := Eq.trans rfl rfl
@[simp high] theorem Spl.g2 (s : Spl) : s.enc[2]? = some (cmds s.L) := Eq.trans rfl rfl
@[simp] theorem Spl.all (s : Spl) : cut s.enc 0 3 = some s.enc := Eq.trans rfl rfl
theorem spls_cl (d : List Spl) : Closed (spls d) := .psl (by
  intro x hx c hc
  simp at hx
  obtain ⟨s, _, rfl⟩ := hx
  simp [Spl.enc] at hc
  rcases hc with rfl | rfl | rfl
  · exact .int _ _
  · exact .int _ _
  · exact cmds_cl _)
def badS (s : Spl) (out : List Cmd) : Bool := decide (s.at' < 0) || decide (s.cnt < 0) || decide ((out.length : Int) < s.at') || decide ((out.length : Int) - s.at' < s.cnt)
/-- the splices, one after the other: the error, and the list -/
def apS : List Cmd → List Spl → Int × List Cmd
  | out, [] => (0, out)
  | out, s :: r => if badS s out = true then (1, []) else if 20000 < out.length - s.cnt.toNat + s.L.length then (2, []) else apS (out.take s.at'.toNat ++ s.L ++ out.drop (s.at'.toNat + s.cnt.toNat)) r
def apR (a : List Cmd) (d : List Spl) : AV := .tup [cmds (apS a d).2, I (apS a d).1]
def sV (d : List Spl) (v : AV) : Prop := (v = .nilsl ∧ d = []) ∨ v = spls d
theorem sV.klen {d : List Spl} {v : AV} (hv : sV d v) (h : AH) : kLen h v = some (I d.length, h) := by
  rcases hv with ⟨rfl, rfl⟩ | rfl
  · simp
  · simp [spls]
theorem sV.cl {d : List Spl} {v : AV} (hv : sV d v) : Closed v := by
  rcases hv with ⟨rfl, _⟩ | rfl
  · exact .nilsl
  · exact spls_cl d
theorem sV.ix {d : List Spl} {v : AV} (hv : sV d v) {i : Nat} (hi : i < d.length) (h : AH) : kIdxA h 3 v (I i) = some (.pptr d[i].enc, h) := by
  rcases hv with ⟨_, rfl⟩ | rfl
  · simp at hi
  · exact kIdxA_psl (by simp [hi]) (Spl.len _)
def apsI (d : List Spl) (v : AV) (R : Int × List Cmd) (m : Nat) (vs : List AV) (h : AH) : Prop := ∃ (i : Nat) (out : List Cmd) (vo : AV), i ≤ d.length ∧ m = d.length - i ∧ vs = [vo, v, I d.length, I i] ∧ OLo h vo out ∧ WF h ∧ out.length ≤ 100000 ∧ apS out (d.drop i) = R
theorem apply_s (a : List Cmd) (d : List Spl) (v : AV) (hv : sV d v) (ha : Lite a) (hd : ∀ s ∈ d, Lite s.L) (hdl : SmX d) : Pure Try.prog 28 [cmds a, v] (apR a d) := by
  refine .of (by simp [cmds_cl, hv.cl]) (C28 (tb_ok [e59c, e60c]) ?_)
  simp (disch := first | (simp; done) | omega | (simp only [nx_add, nx_set, nx_kill, nx_mk, nx_emp]; omega) | fail) [g28]
  refine L_step ha WF.emp fun v1 h1 o1 f1 w1 n1 g1 => ?_
  have kl := fun h => hv.klen h
  unfold SmX at hdl
  simp (disch := first | (simp; done) | omega | (simp only [nx_add, nx_set, nx_kill, nx_mk, nx_emp]; omega) | fail) [kl]
  refine ⟨apsI d v (apS a d), d.length, ⟨0, a, v1, by omega, rfl, rfl, o1, w1, ha.1, rfl⟩, ?_⟩
  have hR : apR a d = .tup [cmds (apS a d).2, I (apS a d).1] := rfl
  rw [hR]
  generalize apS a d = R
  rintro m vs h ⟨i, out, vo, hi, rfl, rfl, ho, hw, hol, hap⟩
  by_cases hlt : i < d.length
  · have hlt' : (i : Int) < d.length := by omega
    have hix := fun h => hv.ix hlt h
    have hdr : d.drop i = d[i] :: d.drop (i + 1) := List.drop_eq_getElem_cons hlt
    have hsm := hd d[i] (List.getElem_mem hlt)
    obtain ⟨s, hs⟩ : ∃ s, s = d[i] := ⟨_, rfl⟩
    rw [hdr, ← hs] at hap
    rw [← hs] at hix hsm
    have ho' : ∀ h, kLen h vo = some (I out.length, h) := fun h => ho.klen
    simp (disch := first | (simp; done) | omega | (simp only [nx_add, nx_set, nx_kill, nx_mk, nx_emp]; omega) | fail) [g28_l3, hlt', hix]
    obtain ⟨H, hH⟩ : ∃ H, H = (h.add (.cells [AV.int .i64 0, AV.int .i64 0, AV.nilsl])).set h.nx (.cells s.enc) := ⟨_, rfl⟩
    rw [← hH]
    have hnH : H.nx = h.nx + 1 := by subst hH; simp
    have hgH : ∀ j, j < h.nx → H.H.get j = h.H.get j := fun j hj => by subst hH; rw [get_set, if_neg (by omega), get_add, if_neg (by omega)]
    have hcH : ∀ n, AH.cellsAt ⟨H.H, n⟩ h.nx = some s.enc := fun n => by
      show H.cellsAt h.nx = _
      subst hH; exact cellsAt_set_self _ _ _ _ rfl
    have hcH0 : H.cellsAt h.nx = some s.enc := hcH H.nx
    have hwH : WF H := by subst hH; exact (hw.add _).set _ (by simp) _
    have hoH : OLo H vo out := ho.keep (by omega) hgH
    clear hH
    refine ⟨fun vs h' => vs = [vo, .ptr h.nx 0, v, I d.length, I i, .bool (badS s out)] ∧ h' = H, ?_, ?_⟩
    · by_cases q1 : s.at' < 0
      · have hb : badS s out = true := by simp [badS, q1]
        simp (disch := first | (simp; done) | omega | (simp only [nx_add, nx_set, nx_kill, nx_mk, nx_emp]; omega) | fail) [g28_a1, hcH0, q1, hb]
        simp (disch := first | (simp; done) | omega | (simp only [nx_add, nx_set, nx_kill, nx_mk, nx_emp]; omega) | fail) [g28_s2, hb]
        simp (disch := first | (simp; done) | omega | (simp only [nx_add, nx_set, nx_kill, nx_mk, nx_emp]; omega) | fail) [g28_s1, hb]
      · by_cases q2 : s.cnt < 0
        · have hb : badS s out = true := by simp [badS, q2]
          simp (disch := first | (simp; done) | omega | (simp only [nx_add, nx_set, nx_kill, nx_mk, nx_emp]; omega) | fail) [g28_a1, hcH0, q1, q2, hb]
          simp (disch := first | (simp; done) | omega | (simp only [nx_add, nx_set, nx_kill, nx_mk, nx_emp]; omega) | fail) [g28_s2, hb]
          simp (disch := first | (simp; done) | omega | (simp only [nx_add, nx_set, nx_kill, nx_mk, nx_emp]; omega) | fail) [g28_s1, hb]
        · by_cases q3 : (out.length : Int) < s.at'
          · have hb : badS s out = true := by simp [badS, q3]
            simp (disch := first | (simp; done) | omega | (simp only [nx_add, nx_set, nx_kill, nx_mk, nx_emp]; omega) | fail) [g28_a1, hcH0, q1, q2, hb]
            simp (disch := first | (simp; done) | omega | (simp only [nx_add, nx_set, nx_kill, nx_mk, nx_emp]; omega) | fail) [g28_s2, hcH0, ho', q3, hb]
            simp (disch := first | (simp; done) | omega | (simp only [nx_add, nx_set, nx_kill, nx_mk, nx_emp]; omega) | fail) [g28_s1, hb]
          · by_cases q4 : (out.length : Int) - s.at' < s.cnt
            · have hb : badS s out = true := by simp [badS, q4]
              simp (disch := first | (simp; done) | omega | (simp only [nx_add, nx_set, nx_kill, nx_mk, nx_emp]; omega) | fail) [g28_a1, hcH0, q1, q2, hb]
              simp (disch := first | (simp; done) | omega | (simp only [nx_add, nx_set, nx_kill, nx_mk, nx_emp]; omega) | fail) [g28_s2, hcH0, ho', q3, hb]
              simp (disch := first | (simp; done) | omega | (simp only [nx_add, nx_set, nx_kill, nx_mk, nx_emp]; omega) | fail) [g28_s1, hcH0, ho', q4, hb]
            · have hb : badS s out = false := by simp [badS]; omega
              simp (disch := first | (simp; done) | omega | (simp only [nx_add, nx_set, nx_kill, nx_mk, nx_emp]; omega) | fail) [g28_a1, hcH0, q1, q2, hb]
              simp (disch := first | (simp; done) | omega | (simp only [nx_add, nx_set, nx_kill, nx_mk, nx_emp]; omega) | fail) [g28_s2, hcH0, ho', q3, hb]
              simp (disch := first | (simp; done) | omega | (simp only [nx_add, nx_set, nx_kill, nx_mk, nx_emp]; omega) | fail) [g28_s1, hcH0, ho', q4, hb]
    rintro vs h' ⟨rfl, rfl⟩
    unfold apS at hap
    cases hb : badS s out
    · have hbb : ¬ s.at' < 0 ∧ ¬ s.cnt < 0 ∧ ¬ (out.length : Int) < s.at' ∧ ¬ (out.length : Int) - s.at' < s.cnt := by
        simp [badS] at hb; omega
      obtain ⟨b1, b2, b3, b4⟩ := hbb
      obtain ⟨x, hx⟩ : ∃ x : Nat, s.at' = (x : Int) := ⟨s.at'.toNat, by omega⟩
      obtain ⟨y, hy⟩ : ∃ y : Nat, s.cnt = (y : Int) := ⟨s.cnt.toNat, by omega⟩
      have hkl2 : ∀ h, kLen h (cmds s.L) = some (I s.L.length, h) := fun h => by simp [cmds]
      have hsl := hsm.1
      rw [hb] at hap
      simp only [Bool.false_eq_true, if_false] at hap
      rw [hx, hy] at hap
      simp only [Int.toNat_natCast] at hap
      simp (disch := first | (simp; done) | omega | (simp only [nx_add, nx_set, nx_kill, nx_mk, nx_emp]; omega) | fail) [g28_j2, ho', hcH0, hkl2]
      have hcg0 : h'.cellsAt h.nx = some [I (x : Int), I (y : Int), cmds s.L] := by rw [hcH0, Spl.enc, hx, hy]
      have hcg : ∀ n, AH.cellsAt ⟨h'.H, n⟩ h.nx = some [I (x : Int), I (y : Int), cmds s.L] := fun n => by rw [hcH n, Spl.enc, hx, hy]
      rw [hy]
      by_cases hbig : 20000 < out.length - y + s.L.length
      · have hbig' : (20000 : Int) < (out.length : Int) - (y : Int) + s.L.length := by omega
        rw [if_pos hbig] at hap
        simp (disch := first | (simp; done) | omega | (simp only [nx_add, nx_set, nx_kill, nx_mk, nx_emp]; omega) | fail) [g28_s4, hbig']
        simp (disch := first | (simp; done) | omega | (simp only [nx_add, nx_set, nx_kill, nx_mk, nx_emp]; omega) | fail) [g28_j5, ← hap]
        exact .nilsl
      · have hbig' : ¬ (20000 : Int) < (out.length : Int) - (y : Int) + s.L.length := by omega
        rw [if_neg hbig] at hap
        simp (disch := first | (simp; done) | omega | (simp only [nx_add, nx_set, nx_kill, nx_mk, nx_emp]; omega) | fail) [g28_s4, hbig', hcg]
        simp (disch := first | (simp; done) | omega | (simp only [nx_add, nx_set, nx_kill, nx_mk, nx_emp]; omega) | fail) [g28_s3, hcg]
        refine L_step hsm (hwH.bump _ (by omega)) fun v2 h2 o2 f2 w2 n2 g2 => ⟨n2, ?_⟩
        have n2' : h'.nx + 13 ≤ h2.nx := n2
        rw [show ((x : Int) + (y : Int)) = ((x + y : Nat) : Int) by omega]
        have oo : OLo h2 vo out := hoH.keep (by omega) (fun j hj => g2 j (by show j < h'.nx + 13; omega))
        refine P_step ⟨oo, o2, fun p n q m e1 e2 => ?_, by omega, by omega, by omega, by omega⟩ w2 fun v3 h3 o3 w3 n3 => ⟨n3, recOk_rd (g2 h.nx (by show h.nx < h'.nx + 13; omega)).symm, d.length - (i + 1), by omega, i + 1, _, v3, by omega, rfl, by simp, o3, w3, by simp; omega, hap⟩
        have h5 : h'.nx + 13 ≤ q := f2 q m e2
        rcases hoH with ⟨e3, _⟩ | ⟨id, e3, hid, _⟩
        · rw [e3] at e1; cases e1
        · rw [e3] at e1; cases e1; omega
    · rw [hb] at hap
      simp only [if_true] at hap
      simp (disch := first | (simp; done) | omega | (simp only [nx_add, nx_set, nx_kill, nx_mk, nx_emp]; omega) | fail) [g28_j2]
      simp (disch := first | (simp; done) | omega | (simp only [nx_add, nx_set, nx_kill, nx_mk, nx_emp]; omega) | fail) [g28_j5, ← hap]
      exact .nilsl
  · have hil : i = d.length := by omega
    subst hil
    rw [List.drop_length] at hap
    unfold apS at hap
    have hlt' : ¬ (d.length : Int) < d.length := by omega
    simp (disch := first | (simp; done) | omega | (simp only [nx_add, nx_set, nx_kill, nx_mk, nx_emp]; omega) | fail) [g28_l3]
    simp (disch := first | (simp; done) | omega | (simp only [nx_add, nx_set, nx_kill, nx_mk, nx_emp]; omega) | fail) [g28_j5, g28_c4, ← hap]
    exact ho.frz
end Go.Proofs.Ytpnekpbehcbmkaa
end
noncomputable section
namespace Go.Proofs.Ytpnekpbehcbmkaa
open Go.Eng
/-! Lists and splices compared; the splice from one list to another, performed. -/
def saI (a b : List Cmd) (m : Nat) (vs : List AV) (h : AH) : Prop := ∃ i : Nat, ∃ (_ : a.length = b.length) (ha : i ≤ a.length), m = a.length - i ∧ vs = [cmds a, cmds b, I i] ∧ ∀ j (h : j < i), a[j]'(by omega) = b[j]'(by omega)
theorem same_c (a b : List Cmd) (hx : SmL a ∧ SmL b) : Pure Try.prog 31 [cmds a, cmds b] (.bool (eqD a b)) := by
  refine .of (by simp [cmds_cl]) (C31 (tb_ok [e12]) ?_)
  obtain ⟨ha, hb⟩ := hx
  have ha1 := ha.1; have hb1 := hb.1
  unfold Sm at ha1 hb1
  have kl : ∀ (l : List Cmd) h, kLen h (cmds l) = some (I l.length, h) := fun l h => by simp [cmds]
  by_cases hlen : a.length = b.length
  · have hlen' : (a.length : Int) = b.length := by omega
    simp (disch := first | (simp; done) | omega | (simp only [nx_add, nx_set, nx_kill, nx_mk, nx_emp]; omega) | fail) [g31, kl, hlen']
    refine ⟨saI a b, a.length, ⟨0, hlen, by omega, rfl, rfl, fun j h => by omega⟩, ?_⟩
    rintro m vs h ⟨i, _, hia, rfl, rfl, hall⟩
    by_cases hlt : i < a.length
    · have hlt' : (i : Int) < a.length := by omega
      have hltb : i < b.length := by omega
      have s1 : SmC a[i] := ha.2 _ (List.getElem_mem hlt)
      have s2 : SmC b[i] := hb.2 _ (List.getElem_mem hltb)
      have i1 : ∀ h, kIdxA h 22 (cmds a) (I i) = some (.pptr a[i].enc, h) := fun h => kIdxA_psl (by simp [hlt]) (Cmd.len _)
      have i2 : ∀ h, kIdxA h 22 (cmds b) (I i) = some (.pptr b[i].enc, h) := fun h => kIdxA_psl (by simp [hltb]) (Cmd.len _)
      simp (disch := first | (simp; done) | omega | (simp only [nx_add, nx_set, nx_kill, nx_mk, nx_emp]; omega) | fail) [g31_l1, kl, hlt', i1]
      simp (disch := first | (simp; done) | omega | (simp only [nx_add, nx_set, nx_kill, nx_mk, nx_emp]; omega) | fail) [g31_s1, i2, s1, s2]
      refine ⟨fun hne => ?_, fun he => ⟨a.length - (i + 1), by omega, i + 1, hlen, by omega, rfl, by simp, fun j hj => ?_⟩⟩
      · simp (disch := first | (simp; done) | omega | (simp only [nx_add, nx_set, nx_kill, nx_mk, nx_emp]; omega) | fail) [g31_j3]
        have hne2 : eqD a b = false := by
          rw [Bool.eq_false_iff]
          intro he
          have := eqD_iff.1 he
          subst this
          rw [eqD_iff.2 rfl] at hne; cases hne
        exact hne2
      · by_cases hji : j < i
        · exact hall j hji
        · obtain rfl : j = i := by omega
          exact eqD_iff.1 he
    · have hlt' : ¬ (i : Int) < a.length := by omega
      have hab : a = b := List.ext_getElem hlen fun j h1 h2 => hall j (by omega)
      simp (disch := first | (simp; done) | omega | (simp only [nx_add, nx_set, nx_kill, nx_mk, nx_emp]; omega) | fail) [g31_l1, kl, hlt']
      simp (disch := first | (simp; done) | omega | (simp only [nx_add, nx_set, nx_kill, nx_mk, nx_emp]; omega) | fail) [g31_j3, g31_c2]
      exact eqD_iff.2 hab
  · have hlen' : ¬ (a.length : Int) = b.length := by omega
    have hne : eqD a b = false := by
      rw [Bool.eq_false_iff]
      intro he
      exact hlen (congrArg List.length (eqD_iff.1 he))
    simp (disch := first | (simp; done) | omega | (simp only [nx_add, nx_set, nx_kill, nx_mk, nx_emp]; omega) | fail) [g31, kl, hlen']
    exact hne
def e31 : QE Try.prog := .pure 31 (fun (((a, b)) : List Cmd × List Cmd) => [cmds a, cmds b]) (fun (((a, b)) : List Cmd × List Cmd) => SmL a ∧ SmL b) (fun (((a, b)) : List Cmd × List Cmd) => .bool (eqD a b)) (fun ⟨a, b⟩ hx => same_c a b hx)
@[simp ↓] theorem e31_h (l : List (QE Try.prog)) (args : List AV) (h : AH) (Q : AV → AH → Prop) : tb (e31 :: l) 31 args h Q = e31.q args h Q := tb_here e31 l 31 args h Q rfl
@[simp ↓] theorem e31_t (l : List (QE Try.prog)) (f : Nat) (args : List AV) (h : AH) (Q : AV → AH → Prop) (hf : 31 ≠ f) : tb (e31 :: l) f args h Q = tb l f args h Q := tb_there e31 l f args h Q hf
@[simp ↓] theorem e31_q (a : List Cmd) (b : List Cmd) (h : AH) (Q : AV → AH → Prop) : e31.q [cmds a, cmds b] h Q = ((SmL a ∧ SmL b) ∧ Q (.bool (eqD a b)) h) := (QE.pure_q (x := (a, b)) (by rintro ⟨_, _⟩ h; simp at h; simp [h]) h Q)
theorem splices_c (a b : List Cmd) (hx : Lite a ∧ Lite b) : Pure Try.prog 29 [dRes a b, dRes a b] (.bool true) := by
  obtain ⟨ha, hb⟩ := hx
  have hLL : Lite (dL a b) := ⟨by have := hb.1; unfold dL; simp; omega, fun c hc => hb.2 c (List.mem_of_mem_drop (List.mem_of_mem_take hc))⟩
  have hsm := hLL.sm
  have heq : eqD (dL a b) (dL a b) = true := eqD_iff.2 rfl
  by_cases he : eqD a b = true
  · have hres : dRes a b = .nilsl := by unfold dRes; rw [if_pos he]
    rw [hres]
    refine .of (by simp; exact .nilsl) (C29 (tb_ok [e31]) ?_)
    simp (disch := first | (simp; done) | omega | (simp only [nx_add, nx_set, nx_kill, nx_mk, nx_emp]; omega) | fail) [g29]
    refine ⟨fun m vs h => vs = [.nilsl, .nilsl, I 0], 0, rfl, ?_⟩
    rintro m vs h rfl
    simp (disch := first | (simp; done) | omega | (simp only [nx_add, nx_set, nx_kill, nx_mk, nx_emp]; omega) | fail) [g29_l3]
    simp (disch := first | (simp; done) | omega | (simp only [nx_add, nx_set, nx_kill, nx_mk, nx_emp]; omega) | fail) [g29_j5, g29_c4]
  · have hres : dRes a b = .psl [[I (dAt a b), I ((a.length - dTl a b - dAt a b : Nat) : Int), cmds (dL a b)]] := by unfold dRes; rw [if_neg he]
    have hcl : Closed (dRes a b) := by
      rw [hres]
      exact .psl (by
        intro x hx c hc
        simp at hx; subst hx
        simp at hc
        rcases hc with rfl | rfl | rfl
        · exact .int _ _
        · exact .int _ _
        · exact cmds_cl _)
    have kl : ∀ h, kLen h (dRes a b) = some (I 1, h) := fun h => by rw [hres]; simp
    have hix : ∀ h, kIdxA h 3 (dRes a b) (I 0) = some (.pptr [I (dAt a b), I ((a.length - dTl a b - dAt a b : Nat) : Int), cmds (dL a b)], h) := fun h => by rw [hres]; exact kIdxA_psl (i := 0) rfl rfl
    refine .of (by simp [hcl]) (C29 (tb_ok [e31]) ?_)
    simp (disch := first | (simp; done) | omega | (simp only [nx_add, nx_set, nx_kill, nx_mk, nx_emp]; omega) | fail) [g29, kl]
    refine ⟨fun m vs h => (m = 1 ∧ vs = [dRes a b, dRes a b, I 0]) ∨ (m = 0 ∧ vs = [dRes a b, dRes a b, I 1]), 1, .inl ⟨rfl, rfl⟩, ?_⟩
    rintro m vs h (⟨rfl, rfl⟩ | ⟨rfl, rfl⟩)
    · simp (disch := first | (simp; done) | omega | (simp only [nx_add, nx_set, nx_kill, nx_mk, nx_emp]; omega) | fail) [g29_l3, kl]
      refine ⟨fun vs h => vs = [dRes a b, dRes a b, I 0, .bool false], ?_, ?_⟩
      · simp (disch := first | (simp; done) | omega | (simp only [nx_add, nx_set, nx_kill, nx_mk, nx_emp]; omega) | fail) [g29_a1, hix]
        simp (disch := first | (simp; done) | omega | (simp only [nx_add, nx_set, nx_kill, nx_mk, nx_emp]; omega) | fail) [g29_s4, hix]
        simp (disch := first | (simp; done) | omega | (simp only [nx_add, nx_set, nx_kill, nx_mk, nx_emp]; omega) | fail) [g29_s3, hix]
        simp (disch := first | (simp; done) | omega | (simp only [nx_add, nx_set, nx_kill, nx_mk, nx_emp]; omega) | fail) [g29_s2, hix]
        simp (disch := first | (simp; done) | omega | (simp only [nx_add, nx_set, nx_kill, nx_mk, nx_emp]; omega) | fail) [g29_s1, hix, hsm, heq]
      rintro vs h rfl
      simp (disch := first | (simp; done) | omega | (simp only [nx_add, nx_set, nx_kill, nx_mk, nx_emp]; omega) | fail) [g29_j2]
    · simp (disch := first | (simp; done) | omega | (simp only [nx_add, nx_set, nx_kill, nx_mk, nx_emp]; omega) | fail) [g29_l3, kl]
      simp (disch := first | (simp; done) | omega | (simp only [nx_add, nx_set, nx_kill, nx_mk, nx_emp]; omega) | fail) [g29_j5, g29_c4]
def e29d : QE Try.prog := ⟨29, fun args h Q => ∃ a b, args = [dRes a b, dRes a b] ∧ (Lite a ∧ Lite b) ∧ Q (.bool true) h, fun args h Q ⟨a, b, h1, h2, h3⟩ => by
  subst h1; exact ⟨_, _, splices_c a b h2 h, h3⟩⟩
theorem e29d_h {tl : List (QE Try.prog)} {a b : List Cmd} {h : AH} {Q : AV → AH → Prop} (h2 : Lite a ∧ Lite b) (h3 : Q (.bool true) h) : tb (e29d :: tl) 29 [dRes a b, dRes a b] h Q := by
  rw [tb_here e29d tl 29 _ _ _ rfl]; exact ⟨a, b, rfl, h2, h3⟩
@[simp ↓] theorem e29d_t (tl : List (QE Try.prog)) (f : Nat) (args : List AV) (h : AH) (Q : AV → AH → Prop) (hf : 29 ≠ f) : tb (e29d :: tl) f args h Q = tb tl f args h Q := tb_there e29d tl f args h Q hf
theorem d_join (a b : List Cmd) : a.take (dAt a b) ++ dL a b ++ a.drop (a.length - dTl a b) = b := by
  have hle := d_le a b
  have h1 : a.take (dAt a b) = b.take (dAt a b) := lcp_take a b
  have h2 := d_tail a b
  rw [h1, h2]
  have sb := split3 b (n := dAt a b) (m := b.length - dTl a b) (by omega) (by omega)
  unfold dL
  rw [List.append_assoc]; exact sb.symm
theorem apply_d (a b : List Cmd) (ha : Lite a) (hb : Lite b) (hbl : b.length ≤ 20000) : Pure Try.prog 28 [cmds a, dRes a b] (.tup [cmds b, I 0]) := by
  have hLL : Lite (dL a b) := ⟨by have := hb.1; unfold dL; simp; omega, fun c hc => hb.2 c (List.mem_of_mem_drop (List.mem_of_mem_take hc))⟩
  have hle := d_le a b
  by_cases he : eqD a b = true
  · have hab := eqD_iff.1 he
    subst hab
    have hres : dRes a a = .nilsl := by unfold dRes; rw [if_pos he]
    rw [hres]
    exact apply_s a [] .nilsl (.inl ⟨rfl, rfl⟩) ha (fun s hs => by simp at hs) (by unfold SmX; simp)
  · have hres : dRes a b = spls [⟨(dAt a b : Nat), ((a.length - dTl a b - dAt a b : Nat) : Int), dL a b⟩] := by unfold dRes; rw [if_neg he]; rfl
    have h := apply_s a [⟨(dAt a b : Nat), ((a.length - dTl a b - dAt a b : Nat) : Int), dL a b⟩] _ (.inr rfl) ha (fun s hs => by simp at hs; subst hs; exact hLL) (by unfold SmX; simp)
    rw [← hres] at h
    have hlL : (dL a b).length = b.length - dTl a b - dAt a b := by unfold dL; simp; omega
    have hap : apS a [⟨(dAt a b : Nat), ((a.length - dTl a b - dAt a b : Nat) : Int), dL a b⟩] = (0, b) := by
      have hbad : badS ⟨(dAt a b : Nat), ((a.length - dTl a b - dAt a b : Nat) : Int), dL a b⟩ a = false := by simp [badS]; omega
      unfold apS
      rw [hbad]
      simp only [Bool.false_eq_true, if_false, Int.toNat_natCast]
      rw [if_neg (by omega), show dAt a b + (a.length - dTl a b - dAt a b) = a.length - dTl a b by omega, d_join]
      rfl
    have hR : apR a [⟨(dAt a b : Nat), ((a.length - dTl a b - dAt a b : Nat) : Int), dL a b⟩] = .tup [cmds b, I 0] := by unfold apR; rw [hap]
    rw [hR] at h
    exact h
def e28d : QE Try.prog := ⟨28, fun args h Q => ∃ a b, args = [cmds a, dRes a b] ∧ (Lite a ∧ Lite b ∧ b.length ≤ 20000) ∧ Q (.tup [cmds b, I 0]) h, fun args h Q ⟨a, b, h1, h2, h3⟩ => by
  subst h1; exact ⟨_, _, apply_d a b h2.1 h2.2.1 h2.2.2 h, h3⟩⟩
theorem e28d_h {tl : List (QE Try.prog)} {a b : List Cmd} {h : AH} {Q : AV → AH → Prop} (h2 : Lite a ∧ Lite b ∧ b.length ≤ 20000) (h3 : Q (.tup [cmds b, I 0]) h) : tb (e28d :: tl) 28 [cmds a, dRes a b] h Q := by
  rw [tb_here e28d tl 28 _ _ _ rfl]; exact ⟨a, b, rfl, h2, h3⟩
@[simp ↓] theorem e28d_t (tl : List (QE Try.prog)) (f : Nat) (args : List AV) (h : AH) (Q : AV → AH → Prop) (hf : 28 ≠ f) : tb (e28d :: tl) f args h Q = tb tl f args h Q := tb_there e28d tl f args h Q hf
end Go.Proofs.Ytpnekpbehcbmkaa
end
noncomputable section
namespace Go.Proofs.Ytpnekpbehcbmkaa
open Go.Eng
/-! The law: the splice between two lists, and what performing it gives. -/
def df0 : List (QE Try.prog) := [e10, e18, e19, e20, e26, e27, e28d, e30, e29d, e31, e17]
def lsts (xs : List (List Cmd)) : AV := .psl (xs.map fun x => [cmds x])
def dfI (a : List Cmd) (xs : List (List Cmd)) (m : Nat) (vs : List AV) (_ : AH) : Prop := ∃ i : Nat, i ≤ xs.length ∧ m = xs.length - i ∧ vs = [cmds a, lsts xs, I i]
theorem df_tail {a : List Cmd} {xs : List (List Cmd)} {h : AH} (ha : Lite a) (hl : ∀ x ∈ xs, Lite x ∧ x.length ≤ 20000) (hxl : xs.length ≤ 10) : g7_f7 (tb df0) (cmds a) (lsts xs) (I 0) h fun v' h' => Frz h' true v' (.bool true) := by
  have kl : ∀ h, kLen h (lsts xs) = some (I xs.length, h) := fun h => by simp [lsts]
  simp (disch := first | (simp; done) | omega | (simp only [nx_add, nx_set, nx_kill, nx_mk, nx_emp]; omega) | fail) [g7_f7, df0]
  refine ⟨dfI a xs, xs.length, ⟨0, by omega, rfl, rfl⟩, ?_⟩
  rintro m vs hh ⟨i, hi, rfl, rfl⟩
  by_cases hlt : i < xs.length
  · have hlt' : (i : Int) < xs.length := by omega
    obtain ⟨hx, hx2⟩ := hl xs[i] (List.getElem_mem hlt)
    have hix : ∀ h, kIdxA h 1 (lsts xs) (I i) = some (.pptr [cmds xs[i]], h) := fun h => kIdxA_psl (by simp [hlt]) rfl
    generalize xs[i] = x at *
    have sa := ha.sm; have sx := hx.sm
    have hex : eqD x x = true := eqD_iff.2 rfl
    simp (disch := first | (simp; done) | omega | (simp only [nx_add, nx_set, nx_kill, nx_mk, nx_emp]; omega) | fail) [g7_l4, kl, hlt', hix, ha, hx]
    refine e28d_h ⟨ha, hx, hx2⟩ ?_
    simp (disch := first | (simp; done) | omega | (simp only [nx_add, nx_set, nx_kill, nx_mk, nx_emp]; omega) | fail) [g7_s6]
    refine ⟨fun vs h' => vs = [cmds a, lsts xs, I i, .bool false], ?_, ?_⟩
    · simp (disch := first | (simp; done) | omega | (simp only [nx_add, nx_set, nx_kill, nx_mk, nx_emp]; omega) | fail) [g7_a2, hix, ha, hx]
      simp (disch := first | (simp; done) | omega | (simp only [nx_add, nx_set, nx_kill, nx_mk, nx_emp]; omega) | fail) [g7_s5]
      refine e29d_h ⟨ha, hx⟩ ?_
      simp (disch := first | (simp; done) | omega | (simp only [nx_add, nx_set, nx_kill, nx_mk, nx_emp]; omega) | fail) [g7_s4, hix]
      simp (disch := first | (simp; done) | omega | (simp only [nx_add, nx_set, nx_kill, nx_mk, nx_emp]; omega) | fail) [g7_s3, sx, hex]
    rintro vs h' rfl
    simp (disch := first | (simp; done) | omega | (simp only [nx_add, nx_set, nx_kill, nx_mk, nx_emp]; omega) | fail) [g7_j3]
    exact ⟨xs.length - (i + 1), by omega, i + 1, by omega, rfl, by simp⟩
  · have hlt' : ¬ (i : Int) < xs.length := by omega
    simp (disch := first | (simp; done) | omega | (simp only [nx_add, nx_set, nx_kill, nx_mk, nx_emp]; omega) | fail) [g7_l4, kl, hlt']
    simp (disch := first | (simp; done) | omega | (simp only [nx_add, nx_set, nx_kill, nx_mk, nx_emp]; omega) | fail) [g7_j6, g7_c5]
def dfM (raw : List Cmd) (sid : Nat) (L : List Int) (lo : Nat) (v : AV) (a : List Cmd) (vs : List AV) (hh : AH) : Prop := ∃ vd c x, vs = [cmds raw, .ptr sid 0, v, vd] ∧ Src hh sid L x ∧ WF hh ∧ lo ≤ hh.nx ∧ Lst hh lo v a ∧ Lst hh lo vd c ∧ c.length ≤ 100 ∧ GlOk c
theorem Lst.set_ne {h : AH} {lo j : Nat} {v : AV} {l : List Cmd} (hl : Lst h lo v l) (o : AObj) (hj : ∀ id n, v = .rsl id 0 n 22 → id ≠ j) : Lst (h.set j o) lo v l := by
  rcases hl with h1 | ⟨id, h1, h2, h3, h4, h5⟩
  · exact .inl h1
  · exact .inr ⟨id, h1, h2, h3, by simpa using h4, by rw [cellsAt_set_ne _ _ _ _ (hj _ _ h1)]; exact h5⟩
theorem diffs_f (l : List Int) (raw : List Cmd) (hl : SmX l) (hr : SmX raw) : Fresh Try.prog 7 [ints l, cmds raw] (.bool true) := by
  refine C7 (tb_ok df0) ?_
  cases hv : heavy raw
  rotate_left
  · simp (disch := first | (simp; done) | omega | (simp only [nx_add, nx_set, nx_kill, nx_mk, nx_emp]; omega) | fail) [g7, df0, hr, hv]
  have hrl := heavy_lite hv
  have hr60 : raw.length ≤ 60 := by simp [heavy] at hv; omega
  simp (disch := first | (simp; done) | omega | (simp only [nx_add, nx_set, nx_kill, nx_mk, nx_emp]; omega) | fail) [g7, df0, hr, hv]
  refine e18_h hl ?_
  have w1 : WF (emp.add (.cells (srcC (newL l) 0))) := WF.emp.add _
  have s1 : Src (emp.add (.cells (srcC (newL l) 0))) emp.nx (newL l) 0 := ⟨cellsAt_add_self _ _ _ rfl, by omega, newL_ok l, by simp⟩
  generalize emp.add (.cells (srcC (newL l) 0)) = h1 at *
  generalize emp.nx = sid at *
  generalize newL l = L at *
  try simp (disch := first | (simp; done) | omega | (simp only [nx_add, nx_set, nx_kill, nx_mk, nx_emp]; omega) | fail)
  refine C_step s1 w1 (by omega) (by omega) fun v h2 s2 w2 n2 n2' g2 l2 => ?_
  have alen := cM_len L 0 10 (by omega) (by omega)
  have agl := cM_gl L 0 10
  generalize (cM L 0 10).1 = a at *
  generalize (cM L 0 10).2 = a0 at *
  have hslt := s1.lt
  have hcp : ∃ vc h3, kApp h2 22 200 .nilsl v = some (vc, h3) ∧ Lst h3 h1.nx vc a ∧ h2.nx ≤ h3.nx ∧ WF h3 ∧ (∀ i, i < h2.nx → h3.H.get i = h2.H.get i) ∧ (∀ id n, vc = .rsl id 0 n 22 → h2.nx ≤ id) := by
    rcases l2 with ⟨rfl, rfl⟩ | ⟨id, rfl, hne, _, hidl, hc⟩
    · exact ⟨_, _, kApp_nn _ _ _, .inl ⟨rfl, rfl⟩, Nat.le_refl _, w2, fun _ _ => rfl, fun id n he => by cases he⟩
    · have hpos : a.length ≠ 0 := fun h => hne (List.length_eq_zero_iff.1 h)
      have hcut : cut (flatC a) 0 (a.length * 22) = some (flatC a) := by
        have := flat_take a a.length (Nat.le_refl _)
        rwa [List.take_length] at this
      have hro : roomy a.length 200 = true := roomy_ok _ _ (by omega) (by omega)
      have hon : ones (flatC a) = true := ones_flat Cmd.ones a
      refine ⟨.rsl h2.nx 0 a.length 22, h2.add (.cells (flatC a)), ?_, .inr ⟨h2.nx, rfl, hne, by omega, by simp, by simp⟩, by simp, w2.add _, fun i hi => by rw [get_add, if_neg (by omega)], fun id n he => by cases he; omega⟩
      rw [kApp_nr _ _ _ _ _ _ hpos]
      simp [hc, hcut, hro, hon]
  obtain ⟨vc, h3, q1, lc3, n3, w3, g3, f3⟩ := hcp
  refine wk_of q1 ?_
  have la3 : Lst h3 h1.nx v a := l2.keep n3 fun i _ hil => g3 i hil
  have s3 : Src h3 sid L a0 := s2.gr (cellsAt_congr (g3 sid s2.lt)) n3
  have klc : ∀ h, kLen h vc = some (I a.length, h) := fun h => lc3.klen
  simp (disch := first | (simp; done) | omega | (simp only [nx_add, nx_set, nx_kill, nx_mk, nx_emp]; omega) | fail) [klc]
  have fv : ∀ id n, v = .rsl id 0 n 22 → id < h2.nx := fun id n he => by
    rcases l2 with ⟨h0, _⟩ | ⟨id', h0, _, _, k4, _⟩
    · rw [h0] at he; cases he
    · rw [h0] at he; cases he; exact k4
  refine ⟨dfM raw sid L h1.nx v a, ?_, ?_⟩
  · by_cases hpos : 0 < a.length
    · have hpos' : (0 : Int) < a.length := by omega
      simp (disch := first | (simp; done) | omega | (simp only [nx_add, nx_set, nx_kill, nx_mk, nx_emp]; omega) | fail) [g7_a1, hpos, hpos', klc]
      refine N_step s3 (by omega) (by omega) fun h4 s4 u4 => ?_
      simp (disch := first | (simp; done) | omega | (simp only [nx_add, nx_set, nx_kill, nx_mk, nx_emp]; omega) | fail) [g7_s2]
      refine N_step s4 (by omega) (by omega) fun h5 s5 u5 => ?_
      have c1 := nV_ge L a0 (show (1 : Int) ≤ (a.length : Int) by omega)
      have c2 := nV_lt L a0 (show (1 : Int) ≤ (a.length : Int) by omega)
      obtain ⟨k, hk⟩ : ∃ k : Nat, nV L a0 (a.length : Int) = (k : Int) := ⟨(nV L a0 (a.length : Int)).toNat, by omega⟩
      rw [hk]
      have u4lo := u4.lo; have u5lo := u5.lo
      have same : ∀ i, i ≠ sid → i < h3.nx → h5.H.get i = h3.H.get i := fun i hi hil => by rw [u5.get i hi (by omega), u4.get i hi hil]
      have la5 : Lst h5 h1.nx v a := la3.keep (by omega) fun i hi hil => same i (by omega) hil
      rcases lc3 with ⟨rfl, h0⟩ | ⟨idc, rfl, hne, hidc, hidl, hc⟩
      · subst h0; simp at hpos
      have hcid := f3 _ _ rfl
      have hc5 : h5.cellsAt idc = some (flatC a) := by rw [cellsAt_congr (same idc (by omega) hidl)]; exact hc
      have hix : ∀ h : AH, kIdxA h 22 (.rsl idc 0 a.length 22) (I k) = some (.ptr idc (k * 22), h) := fun h => by
        rw [kIdxA_rsl (i := (k : Int)) (by omega) (by omega)]; simp
      have hfl : (flatC a).length = a.length * 22 := by unfold flatC; exact flat_len Cmd.len a
      have hkl : k < a.length := by omega
      have hsp : ∀ x : Cmd, splice (flatC a) (k * 22) x.enc = some (flatC (a.set k x)) := fun x => by
        unfold splice
        rw [if_pos (by rw [Cmd.len]; omega), Cmd.len, flat_set a k x hkl]
      simp (disch := first | (simp; done) | omega | (simp only [nx_add, nx_set, nx_kill, nx_mk, nx_emp]; omega) | fail) [g7_s1, hix, hc5, hsp]
      refine ⟨_, a.set k (fillC (nV L (nxA L a0) 3) 0 5 5 1), _, rfl, s5.gr (cellsAt_set_ne _ _ _ _ (by omega)) (by simp), WF.set (u5.wf (u4.wf w3)) _ (by omega) _, by simp; omega, la5.set_ne _ (fun id n he => by have := fv id n he; omega), .inr ⟨idc, by simp, fun he => ?_, by omega, by simp; omega, cellsAt_set_self _ _ _ _ rfl⟩, by simp; omega, ?_⟩
      · have := congrArg List.length he
        simp at this; subst this; simp at hpos
      · intro c hcm
        rcases List.mem_or_eq_of_mem_set hcm with h | rfl
        · exact agl c h
        · show (0 : Nat) ≤ 10; omega
    · have hpos' : ¬ (0 : Int) < a.length := by omega
      simp (disch := first | (simp; done) | omega | (simp only [nx_add, nx_set, nx_kill, nx_mk, nx_emp]; omega) | fail) [g7_a1, hpos, hpos']
      exact ⟨_, a, _, rfl, s3, w3, by omega, la3, lc3, by omega, agl⟩
  rintro vs h6 ⟨vd, c, x, rfl, s6, w6, n6, la6, lc6, clen, cgl⟩
  simp (disch := first | (simp; done) | omega | (simp only [nx_add, nx_set, nx_kill, nx_mk, nx_emp]; omega) | fail) [g7_j8]
  refine C_step s6 w6 (by omega) (by omega) fun v4 h7 s7 w7 n7 n7' g7' l7 => ?_
  have dlen := cM_len L x 4 (by omega) (by omega)
  have dgl := cM_gl L x 4
  generalize (cM L x 4).1 = d at *
  have la7 : Lst h7 h1.nx v a := la6.keep n7 fun i hi hil => g7' i (by omega) hil
  have lc7 : Lst h7 h1.nx vd c := lc6.keep n7 fun i hi hil => g7' i (by omega) hil
  have qv : ∀ {lo : Nat} {h : AH} {u : AV} {l : List Cmd}, Lst h lo u l → u = .nilsl ∨ ∃ id k, u = .rsl id 0 k 22 := fun hl => by
    rcases hl with ⟨h0, _⟩ | ⟨id', h0, _⟩
    · exact .inl h0
    · exact .inr ⟨_, _, h0⟩
  refine wk_of (v := .rsl h7.nx 0 5 1) (h := h7.add (.cells [v, cmds raw, vd, v4, .nilsl])) ?_ ?_
  · rcases qv la7 with rfl | ⟨_, _, rfl⟩ <;> rcases qv lc7 with rfl | ⟨_, _, rfl⟩ <;> rcases qv l7 with rfl | ⟨_, _, rfl⟩ <;> rfl
  have m7 : ∀ i, i < h7.nx → (h7.add (.cells [v, cmds raw, vd, v4, .nilsl])).H.get i = h7.H.get i := fun i hi => by rw [get_add, if_neg (by omega)]
  have la : Lst (h7.add (.cells [v, cmds raw, vd, v4, .nilsl])) h1.nx v a := la7.keep (by simp) fun i hi hil => m7 i hil
  have lc : Lst (h7.add (.cells [v, cmds raw, vd, v4, .nilsl])) h1.nx vd c := lc7.keep (by simp) fun i hi hil => m7 i hil
  have ld : Lst (h7.add (.cells [v, cmds raw, vd, v4, .nilsl])) h6.nx v4 d := l7.keep (by simp) fun i hi hil => m7 i hil
  have hcell : (h7.add (.cells [v, cmds raw, vd, v4, .nilsl])).cellsAt h7.nx = some [v, cmds raw, vd, v4, .nilsl] := cellsAt_add_self _ _ _ rfl
  generalize h7.add (.cells [v, cmds raw, vd, v4, .nilsl]) = H at *
  refine wfrz_of (vs' := [cmds a, lsts [a, raw, c, d, []], I 0]) (fun i p q h1 h2 => ?_) ?_
  · match i with
    | 0 => simp at h1 h2; subst h1; subst h2; exact la.frz
    | 1 =>
      simp at h1 h2; subst h1; subst h2
      refine Frz.rsl h7.nx 0 1 _ ([a, raw, c, d, []].map fun x => [cmds x]) hcell (by simp) (fun i y hy => ?_) (fun i y j p q h1 h2 h3 => ?_)
      · match i with
        | 0 => simp at hy; subst hy; rfl
        | 1 => simp at hy; subst hy; rfl
        | 2 => simp at hy; subst hy; rfl
        | 3 => simp at hy; subst hy; rfl
        | 4 => simp at hy; subst hy; rfl
        | i + 5 => simp at hy
      · have hj : j = 0 ∨ 0 < j := by omega
        match i with
        | 0 => simp at h1; subst h1; rcases hj with rfl | hj; (simp at h2 h3; subst h2; subst h3; exact la.frz); (exact absurd (List.getElem?_eq_some_iff.1 h2).1 (by simp; omega))
        | 1 => simp at h1; subst h1; rcases hj with rfl | hj; (simp at h2 h3; subst h2; subst h3; exact cmds_pl raw H); (exact absurd (List.getElem?_eq_some_iff.1 h2).1 (by simp; omega))
        | 2 => simp at h1; subst h1; rcases hj with rfl | hj; (simp at h2 h3; subst h2; subst h3; exact lc.frz); (exact absurd (List.getElem?_eq_some_iff.1 h2).1 (by simp; omega))
        | 3 => simp at h1; subst h1; rcases hj with rfl | hj; (simp at h2 h3; subst h2; subst h3; exact ld.frz); (exact absurd (List.getElem?_eq_some_iff.1 h2).1 (by simp; omega))
        | 4 => simp at h1; subst h1; rcases hj with rfl | hj; (simp at h2 h3; subst h2; subst h3; exact .nilsl); (exact absurd (List.getElem?_eq_some_iff.1 h2).1 (by simp; omega))
        | i + 5 => simp at h1
    | 2 => simp at h1 h2; subst h1; subst h2; exact .int _ _
    | i + 3 => simp at h1
  · refine df_tail (lite_of (by omega) agl) (fun x hx => ?_) (by simp)
    simp at hx
    rcases hx with rfl | rfl | rfl | rfl | rfl
    · exact ⟨lite_of (by omega) agl, by omega⟩
    · exact ⟨hrl, by omega⟩
    · exact ⟨lite_of (by omega) cgl, by omega⟩
    · exact ⟨lite_of (by omega) dgl, by omega⟩
    · exact ⟨⟨by simp, by simp⟩, by simp⟩
end Go.Proofs.Ytpnekpbehcbmkaa
end
