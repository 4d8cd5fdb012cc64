/- What validating a list of commands answers in the program, with its stack of transforms and clips. -/
import Derived.Test.YtpnekpbehcbmkaaD7J
set_option linter.unusedSimpArgs false
set_option linter.unusedVariables false
set_option linter.unnecessarySimpa false
noncomputable section
namespace Go.Proofs.Ytpnekpbehcbmkaa
open Go.Eng
/-! stacks -/
theorem cut_zero_app {α : List AV} {b : List AV} {n : Nat} (h : α.length = n) : cut (α ++ b) 0 n = some α := by
  unfold cut
  rw [if_pos (by simp; omega)]
  simp [← h]
theorem cut_eq {cs x : List AV} {o n : Nat} (h : cut cs o n = some x) : o + n ≤ cs.length ∧ x = (cs.drop o).take n := by
  unfold cut at h
  split at h
  · rename_i h1; cases h; exact ⟨h1, rfl⟩
  · cases h
theorem flat_len {α : Type} {e : α → List AV} {z : Nat} (he : ∀ a, (e a).length = z) : ∀ (st : List α), ((st.map e).flatten).length = st.length * z
  | [] => by simp
  | a :: st => by simp [he, flat_len he st, Nat.succ_mul]; omega
def bot {α : Type} (e : α → List AV) (st : List α) : List AV := (st.reverse.map e).flatten
theorem bot_len {α : Type} {e : α → List AV} {z : Nat} (he : ∀ a, (e a).length = z) (st : List α) : (bot e st).length = st.length * z := by
  unfold bot; rw [flat_len he]; simp
theorem bot_cons {α : Type} (e : α → List AV) (a : α) (st : List α) : bot e (a :: st) = bot e st ++ e a := by simp [bot]
theorem stk_top {α : Type} {e : α → List AV} {z : Nat} (he : ∀ a, (e a).length = z) {cs : List AV} {a : α} {st : List α} (h : cut cs 0 ((st.length + 1) * z) = some (bot e (a :: st))) : cut cs (st.length * z) z = some (e a) ∧ cut cs 0 (st.length * z) = some (bot e st) := by
  obtain ⟨h1, h2⟩ := cut_eq h
  rw [Nat.succ_mul] at h1 h2
  rw [bot_cons] at h2
  have hb := bot_len he st
  have ha := he a
  have h3 : cs.take (st.length * z + z) = bot e st ++ e a := by simpa using h2.symm
  have h4 : cs = (bot e st ++ e a) ++ cs.drop (st.length * z + z) := by rw [← h3]; simp
  generalize cs.drop (st.length * z + z) = d at h4
  subst h4
  constructor
  · unfold cut
    rw [if_pos (by simp; omega)]
    rw [List.append_assoc, List.drop_append, ← hb]
    simp [← ha]
  · rw [List.append_assoc]; exact cut_zero_app hb
theorem stk_push {α : Type} {e : α → List AV} {z : Nat} (he : ∀ a, (e a).length = z) (a : α) (st : List α) : cut (bot e st ++ e a) 0 ((st.length + 1) * z) = some (bot e (a :: st)) := by
  have h := cut_zero_app (α := bot e (a :: st)) (b := []) (n := (st.length + 1) * z) (by rw [bot_len he]; simp)
  rw [List.append_nil, bot_cons] at h
  rw [bot_cons]; exact h
structure Stk {α : Type} (z : Nat) (e : α → List AV) (id : Nat) (h : AH) (st : List α) : Prop where
  lt : id < h.nx
  ex : ∃ cs, h.cellsAt id = some cs ∧ cut cs 0 (st.length * z) = some (bot e st)
theorem Stk.push {α : Type} {z : Nat} {e : α → List AV} (he : ∀ a, (e a).length = z) {h : AH} {st : List α} {a : α} {nid : Nat} (hn : nid = h.nx) : Stk z e nid (h.add (.cells (bot e st ++ e a))) (a :: st) :=
  ⟨by simp [hn], _, by simp [hn], stk_push he a st⟩
@[simp] theorem kApp_rr (h : AH) (z bytes id off len id2 off2 m : Nat) : kApp h z bytes (.rsl id off len z) (.rsl id2 off2 m z) =
    match h.cellsAt id, h.cellsAt id2 with
    | some cs, some cs2 => match cut cs off (len * z), cut cs2 off2 (m * z) with
      | some old, some new => if ones new = true ∧ roomy (len + m) bytes = true then some (.rsl h.nx 0 (len + m) z, (h.kill id).add (.cells (old ++ new))) else none
      | _, _ => none
    | _, _ => none := by
  simp only [kApp, aapp, acells, alen, if_true]
  cases h1 : h.cellsAt id with
  | none =>
    cases h2 : h.cellsAt id2 with
    | none => simp
    | some cs2 =>
      simp
      cases h4 : cut cs2 off2 (m * z) with
      | none => simp
      | some new => simp
  | some cs =>
    cases h2 : h.cellsAt id2 with
    | none => simp
    | some cs2 =>
      simp
      cases h4 : cut cs2 off2 (m * z) with
      | none => cases h3 : cut cs off (len * z) <;> simp
      | some new =>
        cases h3 : cut cs off (len * z) with
        | none => simp
        | some old => cases ho : ones new <;> cases hr : roomy (len + m) bytes <;> simp [ho, hr]
@[simp] theorem kBuildSl_eq (h : AH) (z len : Nat) (zero : List AV) (ps : List (Nat × Nat × AV)) : kBuildSl h z len zero ps = match afill zero ps with | some cs => some (.rsl h.nx 0 len z, h.add (.cells cs)) | none => none := Eq.trans rfl rfl
@[simp] theorem roomy_ok (n b : Nat) (h : n * b ≤ 140737488355328) (h2 : n ≤ 9223372036854775807) : roomy n b = true := by simp [roomy, h, h2]
theorem kSl_hi (h : AH) (z id off len : Nat) (j : Int) (h0 : 0 ≤ j) (hj : j ≤ len) : kSl h z (.rsl id off len z) none (some (.int .i64 j)) none = some (.rsl id off j.toNat z, h) := by
  have h1 : j.toNat ≤ len := by omega
  simp [kSl, aslice, asl, alen, abd, aidx, h0, hj]
/-! the commands, examined -/
def cmdErr (st : List Tf) (c : Cmd) : Int ⊕ List Tf :=
  if c.kind = 3 then (if st.length = 1 then .inl 12 else .inr st.tail)
  else if c.kind = 2 then (if cmbOk (st.headD zT) c.t then .inr (cmb (st.headD zT) c.t :: st) else .inl 1)
  else if c.kind = 1 ∨ c.kind = 4 ∨ c.kind = 5 ∨ c.kind = 6 then
    if okR c.r = false then .inl 1 else if (c.kind = 4 ∨ c.kind = 5) ∧ isCol c.color = false then .inl 1 else if c.kind = 5 ∧ nearL c.line = false then .inl 1
    else if c.kind = 1 then .inr (st.headD zT :: st) else .inr st
  else .inl 9
def vrun : List Tf → List Cmd → Int
  | st, [] => if st.length > 1 then 12 else 0
  | st, c :: l => match cmdErr st c with
    | .inl e => e
    | .inr st' => vrun st' l
def tf1 : Tf := ⟨0, false, 1, 0, 0⟩
def validate (l : List Cmd) : Int := if l.length > 20000 then 2 else vrun [tf1] l
def SmL (l : List Cmd) : Prop := Sm l ∧ ∀ c ∈ l, SmC c
def valI (l : List Cmd) (m : Nat) (vs : List AV) (h : AH) : Prop := ∃ (i : Nat) (id : Nat) (top : Tf) (rest : List Tf), i ≤ l.length ∧ m = l.length - i ∧ vs = [.rsl id 0 (rest.length + 1) 5, cmds l, I l.length, I i] ∧ Stk 5 Tf.enc id h (top :: rest) ∧ vrun (top :: rest) (l.drop i) = validate l ∧ rest.length ≤ i
def vM (l : List Cmd) (i : Nat) (st : List Tf) (c : Cmd) (x : AX) (vs : List AV) (h' : AH) : Prop := (x = .nrm ∧ ∃ id' top' rest', cmdErr st c = .inr (top' :: rest') ∧ vs = [.undef, .rsl id' 0 (rest'.length + 1) 5, cmds l, I l.length, I i] ∧ Stk 5 Tf.enc id' h' (top' :: rest') ∧ rest'.length ≤ i + 1) ∨ (x = .ret ∧ ∃ e u, cmdErr st c = .inl e ∧ vs = [I e, u, cmds l, I l.length, I i])
theorem vM.mk {l : List Cmd} {i : Nat} {st : List Tf} {c : Cmd} {h' : AH} {id' : Nat} {top' : Tf} {rest' : List Tf} (h1 : cmdErr st c = .inr (top' :: rest')) (h2 : Stk 5 Tf.enc id' h' (top' :: rest')) (h3 : rest'.length ≤ i + 1) : vM l i st c .nrm [.undef, .rsl id' 0 (rest'.length + 1) 5, cmds l, I l.length, I i] h' := .inl ⟨rfl, _, _, _, h1, rfl, h2, h3⟩
theorem vM.err {l : List Cmd} {i : Nat} {st : List Tf} {c : Cmd} {h' : AH} {e : Int} {u : AV} (h1 : cmdErr st c = .inl e) : vM l i st c .ret [I e, u, cmds l, I l.length, I i] h' := .inr ⟨rfl, _, _, h1, rfl⟩
theorem validate_f (l : List Cmd) (hl : SmL l) : Fresh Try.prog 13 [cmds l] (I (validate l)) := by
  refine C13 (tb_ok [e35, e36, e37, e38, e39]) ?_
  have hl1 := hl.1
  unfold Sm at hl1
  simp (disch := first | (simp; done) | omega | (simp only [nx_add, nx_set, nx_kill, nx_mk, nx_emp]; omega) | fail) [g13]
  refine ⟨fun hh => by unfold validate; rw [if_pos (by omega)], fun hh => ?_⟩
  refine ⟨valI l, l.length, ⟨0, 0, tf1, [], by omega, rfl, rfl, ⟨by simp, _, by simp; rfl, by simp [bot, tf1, Tf.enc, cut]⟩, ?_, by simp⟩, ?_⟩
  · simp [validate]; omega
  rintro m vs h ⟨i, id, top, rest, hi, rfl, rfl, ⟨hid, cs, hcs, hcut⟩, hrun, hri⟩
  obtain ⟨htop, hpop⟩ := stk_top Tf.len hcut
  have hrl : rest.length ≤ 20000 := by omega
  by_cases hlt : i < l.length
  · have hd : l.drop i = l[i] :: l.drop (i + 1) := List.drop_eq_getElem_cons hlt
    rw [hd] at hrun
    obtain ⟨c, hc⟩ : ∃ c, c = l[i] := ⟨_, rfl⟩
    have hsm : SmC c := by rw [hc]; exact hl.2 _ (List.getElem_mem hlt)
    rw [← hc] at hrun
    simp (disch := first | (simp; done) | omega | (simp only [nx_add, nx_set, nx_kill, nx_mk, nx_emp]; omega) | fail) [g13_l11, hlt, ← hc]
    refine ⟨vM l i (top :: rest) c, ?_, ?_⟩
    · have hne : ¬ id = h.nx := by omega
      have hne2 : ¬ id = h.nx + 1 := by omega
      simp (disch := first | (simp; done) | omega | (simp only [nx_add, nx_set, nx_kill, nx_mk, nx_emp]; omega) | fail) [g13_a9, hlt, ← hc, hcs, htop, hne, hne2, kIdxA_rsl]
      simp (disch := first | (simp; done) | omega | (simp only [nx_add, nx_set, nx_kill, nx_mk, nx_emp]; omega) | fail) [g13_s8, hlt, ← hc, hcs, htop, hne, hne2, kIdxA_rsl]
      obtain ⟨F, hF⟩ : ∃ F : AH → Prop, F = fun h1 => h1.cellsAt h.nx = some c.enc ∧ h1.cellsAt (h.nx + 1) = some top.enc ∧ h1.cellsAt id = some cs ∧ h1.nx = h.nx + 2 := ⟨_, rfl⟩
      obtain ⟨pre, hpre⟩ : ∃ pre : AV → List AV, pre = fun b => [.rsl id 0 (rest.length + 1) 5, .ptr h.nx 0, .ptr (h.nx + 1) 0, cmds l, I l.length, I i, b] := ⟨_, rfl⟩
      refine ⟨fun vs h1 => vs = pre (.bool (decide (c.kind < 1) || decide (6 < c.kind))) ∧ F h1, ?_, ?_⟩
      · subst hF; subst hpre
        by_cases q1 : c.kind < 1 <;> by_cases q2 : 6 < c.kind <;> simp (disch := first | (simp; done) | omega | (simp only [nx_add, nx_set, nx_kill, nx_mk, nx_emp]; omega) | fail) [g13_a1, q1, q2, hcs, hne, hne2]
      rintro vs h1 ⟨rfl, hf⟩
      simp (disch := first | (simp; done) | omega | (simp only [nx_add, nx_set, nx_kill, nx_mk, nx_emp]; omega) | fail) [hpre, g13_j8]
      refine ⟨fun hk => ?_, fun hk1 hk6 => ?_⟩
      · refine vM.err ?_
        unfold cmdErr
        rw [if_neg (by omega), if_neg (by omega), if_neg (by omega)]
      have hk : c.kind = 1 ∨ c.kind = 2 ∨ c.kind = 3 ∨ c.kind = 4 ∨ c.kind = 5 ∨ c.kind = 6 := by omega
      refine ⟨fun vs h2 => vs = pre (.bool (isRec c.kind && !okR c.r)) ∧ F h2, ?_, ?_⟩
      · subst hF; subst hpre
        cases q1 : isRec c.kind <;> cases q2 : okR c.r <;> simp (disch := first | (simp; done) | omega | (simp only [nx_add, nx_set, nx_kill, nx_mk, nx_emp]; omega) | fail) [g13_a2, g13_s1, q1, q2, hf]
      rintro vs h2 ⟨rfl, hf2⟩
      simp (disch := first | (simp; done) | omega | (simp only [nx_add, nx_set, nx_kill, nx_mk, nx_emp]; omega) | fail) [hpre, g13_j7]
      refine ⟨fun vs h2 => vs = pre (.bool ((isRec c.kind && !okR c.r) || ((c.kind == 4 || c.kind == 5) && !isCol c.color))) ∧ F h2, ?_, ?_⟩
      · subst hF; subst hpre
        cases q1 : (isRec c.kind && !okR c.r)
        · by_cases q2 : c.kind = 4
          · cases q4 : isCol c.color <;> simp (disch := first | (simp; done) | omega | (simp only [nx_add, nx_set, nx_kill, nx_mk, nx_emp]; omega) | fail) [g13_a3, g13_s2, q1, q2, q4, hf2]
          · by_cases q3 : c.kind = 5 <;> cases q4 : isCol c.color <;> simp (disch := first | (simp; done) | omega | (simp only [nx_add, nx_set, nx_kill, nx_mk, nx_emp]; omega) | fail) [g13_a3, g13_s2, q1, q2, q3, q4, hf2]
        · simp at q1
          simp (disch := first | (simp; done) | omega | (simp only [nx_add, nx_set, nx_kill, nx_mk, nx_emp]; omega) | fail) [g13_a3, q1, hf2]
      rintro vs h3 ⟨rfl, hf3⟩
      simp (disch := first | (simp; done) | omega | (simp only [nx_add, nx_set, nx_kill, nx_mk, nx_emp]; omega) | fail) [hpre, g13_j6]
      refine ⟨fun hbad => ?_, fun hgood hcol => ?_⟩
      · refine vM.err ?_
        unfold cmdErr
        rcases hk with hk | hk | hk | hk | hk | hk <;> simp [hk, isRec] at hbad ⊢ <;> grind
      refine ⟨fun vs h2 => vs = pre (.bool (c.kind == 5 && !nearL c.line)) ∧ F h2, ?_, ?_⟩
      · subst hF; subst hpre
        have hsm' : Sm c.line.gl := hsm
        by_cases q3 : c.kind = 5 <;> cases q4 : nearL c.line <;> simp (disch := first | (simp; done) | omega | (simp only [nx_add, nx_set, nx_kill, nx_mk, nx_emp]; omega) | fail) [g13_a4, g13_s3, q3, q4, hf3, hsm']
      rintro vs h4 ⟨rfl, hf4⟩
      have hf4' := hf4
      rw [hF] at hf4'
      obtain ⟨e1, e2, e3, e4⟩ := hf4'
      have hne4 : ¬ id = h4.nx := by omega
      have hne5 : ¬ id = h4.nx + 1 := by omega
      have hcut' : cut cs 0 ((rest.length + 1) * 5) = some (bot Tf.enc (top :: rest)) := by simpa using hcut
      have hcE : cmdErr (top :: rest) c = if c.kind = 3 then (if rest.length = 0 then .inl 12 else .inr rest) else if c.kind = 2 then (if cmbOk top c.t then .inr (cmb top c.t :: top :: rest) else .inl 1) else if c.kind = 5 ∧ nearL c.line = false then .inl 1 else if c.kind = 1 then .inr (top :: top :: rest) else .inr (top :: rest) := by
        unfold cmdErr
        rcases hk with hk | hk | hk | hk | hk | hk <;> simp [hk, isRec] at hgood hcol ⊢ <;> simp [hgood, hcol]
      simp (disch := first | (simp; done) | omega | (simp only [nx_add, nx_set, nx_kill, nx_mk, nx_emp]; omega) | fail) [hpre, g13_j5, e1, e2, e3, hne4, hcut']
      refine ⟨fun k5 hn => vM.err ?_, fun hgl => ⟨fun k1 => ?_, fun k1 => ⟨fun k2 => ?_, fun k2 => ?_⟩⟩⟩
      · rw [hcE]; simp [k5, hn]
      · exact vM.mk (top' := top) (rest' := top :: rest) (by rw [hcE]; simp [k1]) (Stk.push Tf.len (by simp)) (by simp; omega)
      · cases q : cmbOk top c.t
        · simp (disch := first | (simp; done) | omega | (simp only [nx_add, nx_set, nx_kill, nx_mk, nx_emp]; omega) | fail) [g13_s6, e1, cmbR, q]
          simp (disch := first | (simp; done) | omega | (simp only [nx_add, nx_set, nx_kill, nx_mk, nx_emp]; omega) | fail) [g13_s5, e1, cmbR, q]
          exact vM.err (by rw [hcE]; simp [k2, q])
        · simp (disch := first | (simp; done) | omega | (simp only [nx_add, nx_set, nx_kill, nx_mk, nx_emp]; omega) | fail) [g13_s6, e1, e2, e3, hne4, hne5, hcut', cmbR, q]
          simp (disch := first | (simp; done) | omega | (simp only [nx_add, nx_set, nx_kill, nx_mk, nx_emp]; omega) | fail) [g13_s5, e1, e2, e3, hne4, hne5, hcut', cmbR, q]
          simp (disch := first | (simp; done) | omega | (simp only [nx_add, nx_set, nx_kill, nx_mk, nx_emp]; omega) | fail) [g13_s4, e1, e2, e3, hne4, hne5, hcut', cmbR, q]
          refine vM.mk (top' := cmb top c.t) (rest' := top :: rest) (by rw [hcE]; simp [k2, q]) (Stk.push Tf.len ?_) ?_
          · simp
          · simp; omega
      · simp (disch := first | (simp; done) | omega | (simp only [nx_add, nx_set, nx_kill, nx_mk, nx_emp]; omega) | fail) [g13_s7]
        refine ⟨fun k3 => ?_, fun k3 => ?_⟩
        · refine ⟨fun hz => vM.err ?_, fun hz => ?_⟩
          · rw [hcE]; simp [k3]; exact List.length_eq_zero_iff.1 (by omega)
          · cases rest with
            | nil => simp at hz
            | cons t2 r2 =>
              simp (disch := first | (simp; done) | omega | (simp only [nx_add, nx_set, nx_kill, nx_mk, nx_emp]; omega) | fail) [kSl_hi]
              refine vM.mk (top' := t2) (rest' := r2) (by rw [hcE]; simp [k3]) ⟨by omega, cs, e3, hpop⟩ (by simp at hri; omega)
        · refine vM.mk (top' := top) (rest' := rest) ?_ ⟨by omega, cs, e3, hcut⟩ (by omega)
          rw [hcE]; simp [k1, k2, k3]; intro q5; simp [hgl q5]
    · rintro x vs h' hM
      rcases hM with ⟨rfl, id', top', rest', hE, rfl, hS, hr2⟩ | ⟨rfl, e, u, hE, rfl⟩
      · simp (disch := first | (simp; done) | omega | (simp only [nx_add, nx_set, nx_kill, nx_mk, nx_emp]; omega) | fail) [g13_j10]
        refine ⟨l.length - (i + 1), by omega, i + 1, id', top', rest', by omega, rfl, by simp, hS, ?_, hr2⟩
        rw [← hrun]; simp [vrun, hE]
      · simp (disch := first | (simp; done) | omega | (simp only [nx_add, nx_set, nx_kill, nx_mk, nx_emp]; omega) | fail) [g13_j10, g13_j13]
        rw [← hrun]; simp [vrun, hE]
  · have hil : i = l.length := by omega
    subst hil
    simp [vrun] at hrun
    simp (disch := first | (simp; done) | omega | (simp only [nx_add, nx_set, nx_kill, nx_mk, nx_emp]; omega) | fail) [g13_l11, hlt]
    simp (disch := first | (simp; done) | omega | (simp only [nx_add, nx_set, nx_kill, nx_mk, nx_emp]; omega) | fail) [g13_j13, hlt]
    simp (disch := first | (simp; done) | omega | (simp only [nx_add, nx_set, nx_kill, nx_mk, nx_emp]; omega) | fail) [g13_c12, hlt]
    rw [← hrun]
    refine ⟨fun q => ?_, fun q => ?_⟩
    · rw [if_pos (by omega)]
    · rw [if_neg (by omega)]
theorem validate_c (l : List Cmd) (hl : SmL l) : Pure Try.prog 13 [cmds l] (I (validate l)) := (validate_f l hl).pure (by simp [cmds_cl])
def e13 : QE Try.prog := .pure 13 (fun (l : List Cmd) => [cmds l]) (fun (l : List Cmd) => SmL l) (fun (l : List Cmd) => I (validate l)) (fun l hx => validate_c l hx)
@[simp ↓] theorem e13_h (l : List (QE Try.prog)) (args : List AV) (h : AH) (Q : AV → AH → Prop) : tb (e13 :: l) 13 args h Q = e13.q args h Q := tb_here e13 l 13 args h Q rfl
@[simp ↓] theorem e13_t (l : List (QE Try.prog)) (f : Nat) (args : List AV) (h : AH) (Q : AV → AH → Prop) (hf : 13 ≠ f) : tb (e13 :: l) f args h Q = tb l f args h Q := tb_there e13 l f args h Q hf
@[simp ↓] theorem e13_q (l : List Cmd) (h : AH) (Q : AV → AH → Prop) : e13.q [cmds l] h Q = ((SmL l) ∧ Q (I (validate l)) h) := (QE.pure_q (x := l) (by rintro _ h; simp at h; simp [h]) h Q)
end Go.Proofs.Ytpnekpbehcbmkaa
