/- Commands, rectangles and points as cells. The smallest functions of the display. Rectangles, texts, whether a command is valid. Stacks; commands that nest well. Validate finds no fault in commands that nest well. Pixel: what a point shows. -/
import Derived.Test.YtfegfialedlfcaaGreatDoorDsC
set_option linter.unusedSimpArgs false
set_option linter.unusedVariables false
set_option linter.unnecessarySimpa false
namespace Go.Eng
/-! old objects stand -/
structure Fr (h h' : AH) : Prop where
  nx : h.nx ≤ h'.nx
  get : ∀ i, i < h.nx → h'.H.get i = h.H.get i
theorem Fr.refl (h : AH) : Fr h h := ⟨Nat.le_refl _, fun _ _ => rfl⟩
theorem Fr.add {h h' : AH} (f : Fr h h') (o : AObj) : Fr h (h'.add o) := ⟨by have := f.nx; simp; omega, fun i hi => by have := f.nx; rw [get_add, if_neg (by omega)]; exact f.get i hi⟩
theorem Fr.set {h h' : AH} (f : Fr h h') {k : Nat} (hk : h.nx ≤ k) (o : AObj) : Fr h (h'.set k o) := ⟨f.nx, fun i hi => by rw [get_set, if_neg (by omega)]; exact f.get i hi⟩
theorem restF {P : Program} {f : Nat} {args : List AV} {h : AH} {v : AV} (hf : ∀ H, Frz H false v v) (hc : CallsA P f args h fun v' h' => v' = v ∧ Fr h h') : CallD P f args h v h :=
  restore0 hc fun v' h' ⟨h1, h2⟩ => ⟨by rw [h1]; exact hf _, h2.get⟩
theorem restI {P : Program} {f : Nat} {args : List AV} {h : AH} {n : Int} (hc : CallsA P f args h fun v' h' => v' = .int .i64 n ∧ Fr h h') : CallD P f args h (.int .i64 n) h := restF (fun _ => .int _ _) hc
theorem restB {P : Program} {f : Nat} {args : List AV} {h : AH} {b : Bool} (hc : CallsA P f args h fun v' h' => v' = .bool b ∧ Fr h h') : CallD P f args h (.bool b) h := restF (fun _ => .bool _) hc
end Go.Eng
namespace Go.Proofs.YtfegfialedlfcaaGreatDoor
open Go.Eng
structure Rc where
  x : Int
  y : Int
  w : Int
  h : Int
def Rc.enc (r : Rc) : List AV := [I r.x, I r.y, I r.w, I r.h]
structure Pt where
  x : Int
  y : Int
def Pt.enc (p : Pt) : List AV := [I p.x, I p.y]
def okR (r : Rc) : Bool := decide (-1048576 ≤ r.x) && decide (r.x ≤ 1048576) && decide (-1048576 ≤ r.y) && decide (r.y ≤ 1048576) && decide (0 ≤ r.w) && decide (r.w ≤ 1048576) && decide (0 ≤ r.h) && decide (r.h ≤ 1048576)
def okP (p : Pt) : Bool := decide (-2097152 ≤ p.x) && decide (p.x ≤ 2097152) && decide (-2097152 ≤ p.y) && decide (p.y ≤ 2097152)
def isCol (n : Int) : Bool := decide (0 ≤ n) && decide (n ≤ 16777215)
def inR (r : Rc) (p : Pt) : Bool := decide (r.x ≤ p.x) && decide (p.x < r.x + r.w) && decide (r.y ≤ p.y) && decide (p.y < r.y + r.h)
end Go.Proofs.YtfegfialedlfcaaGreatDoor
noncomputable section
namespace Go.Proofs.YtfegfialedlfcaaGreatDoor
open Go.Eng
/-! small functions -/
theorem within_d (h : AH) (n : Int) : CallD Tryz.prog 53 [I n, I 1048576] h (.bool (decide (-1048576 ≤ n) && decide (n ≤ 1048576))) h := by
  refine restB (C53 (tU_ok _) ?_)
  simp [g53]
  by_cases h1 : -1048576 ≤ n <;> by_cases h2 : n ≤ 1048576 <;> simp [h1, h2, Fr.refl] <;> omega
theorem color_d (h : AH) (n : Int) : CallD Tryz.prog 63 [I n] h (.bool (isCol n)) h := by
  refine restB (C63 (tU_ok _) ?_)
  simp [g63, isCol]
  by_cases h1 : 0 ≤ n <;> by_cases h2 : n ≤ 16777215 <;> simp [h1, h2, Fr.refl] <;> omega
theorem point_d (h : AH) (p : Pt) : CallD Tryz.prog 26 [.agg p.enc] h (.bool (okP p)) h := by
  refine restB (C26 (tU_ok _) ?_)
  simp [g26, okP, Pt.enc]
  by_cases h1 : -2097152 ≤ p.x <;> by_cases h2 : p.x ≤ 2097152 <;> by_cases h3 : -2097152 ≤ p.y <;> by_cases h4 : p.y ≤ 2097152 <;> simp [g26_s2, g26_s1, h1, h2, h3, h4, (Fr.refl h).add] <;> omega
theorem okR_d (h : AH) (r : Rc) : CallD Tryz.prog 22 [.agg r.enc] h (I (if okR r then 0 else 1)) h := by
  refine restI (C22 (tU_ok _) ?_)
  simp [g22, Rc.enc]
  refine ⟨fun vs h' => vs = [.bool (!okR r)] ∧ Fr h h', ?_, ?_⟩
  · simp [g22_a1]
    refine sD (within_d _ _) ?_
    by_cases h1 : -1048576 ≤ r.x ∧ r.x ≤ 1048576
    · simp [g22_s3, h1]
      refine sD (within_d _ _) ?_
      by_cases h2 : -1048576 ≤ r.y ∧ r.y ≤ 1048576
      · by_cases h3 : 0 ≤ r.w <;> by_cases h4 : r.w ≤ 1048576 <;> by_cases h5 : 0 ≤ r.h <;> by_cases h6 : r.h ≤ 1048576 <;> simp [g22_s2, g22_s1, okR, h1, h2, h3, h4, h5, h6, (Fr.refl h).add] <;> omega
      · simp [g22_s2, g22_s1, okR, h1, h2, (Fr.refl h).add]
        omega
    · simp [g22_s3, g22_s2, g22_s1, okR, h1, (Fr.refl h).add]
      omega
  · rintro vs h' ⟨rfl, hf⟩
    cases hr : okR r <;> simp [g22_j2, hr, hf]
end Go.Proofs.YtfegfialedlfcaaGreatDoor
end
noncomputable section
namespace Go.Proofs.YtfegfialedlfcaaGreatDoor
open Go.Eng
theorem rect1_d (h : AH) : CallD Tryz.prog 62 [I 1] h (.bool true) h := by
  refine restB (C62 (tU_ok _) ?_)
  simp [g62, g62_s1, Fr.refl]
theorem rect3_d (h : AH) : CallD Tryz.prog 62 [I 3] h (.bool false) h := by
  refine restB (C62 (tU_ok _) ?_)
  simp [g62, g62_s1, Fr.refl]
theorem rect4_d (h : AH) : CallD Tryz.prog 62 [I 4] h (.bool true) h := by
  refine restB (C62 (tU_ok _) ?_)
  simp [g62, g62_s1, Fr.refl]
theorem text_d (h : AH) (k : Int) (hk : k = 1 ∨ k = 8) : CallD Tryz.prog 117 [I k] h (.bool false) h := by
  refine restB (C117 (tU_ok _) ?_)
  rcases hk with rfl | rfl <;> simp [g117, g117_s1, Fr.refl]
theorem okR_spec {r : Rc} (h : okR r = true) : -1048576 ≤ r.x ∧ r.x ≤ 1048576 ∧ -1048576 ≤ r.y ∧ r.y ≤ 1048576 ∧ 0 ≤ r.w ∧ r.w ≤ 1048576 ∧ 0 ≤ r.h ∧ r.h ≤ 1048576 := by
  simp [okR] at h; omega
theorem valid_d (h : AH) (r : Rc) (hr : okR r = true) : CallD Tryz.prog 66 [.agg r.enc] h (.agg r.enc) h := by
  refine restF (fun H => .agg _ _ rfl fun i c d h1 h2 => by
    rw [h1] at h2; cases h2
    have := List.mem_of_getElem? h1
    simp [Rc.enc] at this
    rcases this with rfl | rfl | rfl | rfl <;> exact .int _ _) (C66 (tU_ok _) ?_)
  simp [g66, Rc.enc]
  refine sD (okR_d _ r) ?_
  simp [hr]
  exact ((Fr.refl h).add _).add _ |>.set (by simp) _
theorem inR_d (h : AH) (r : Rc) (p : Pt) (hr : okR r = true) : CallD Tryz.prog 27 [.agg r.enc, .agg p.enc] h (.bool (inR r p)) h := by
  obtain ⟨b1, b2, b3, b4, b5, b6, b7, b8⟩ := okR_spec hr
  refine restB (C27 (tU_ok _) ?_)
  simp [g27, Rc.enc, Pt.enc]
  refine sD (valid_d _ r hr) ?_
  have f : ∀ x y z, Fr h (((h.add x).add y).set h.nx z) := fun x y z => (((Fr.refl h).add _).add _).set (Nat.le_refl _) _
  by_cases h1 : r.x ≤ p.x <;> by_cases h2 : p.x < r.x + r.w <;> by_cases h3 : r.y ≤ p.y <;> by_cases h4 : p.y < r.y + r.h <;> simp (disch := first | (simp; done) | omega | (simp only [nx_add, nx_set, nx_kill, nx_mk, nx_emp]; omega) | fail) [g27_s4, g27_s3, g27_s2, g27_s1, Rc.enc, inR, h1, h2, h3, h4, f]
end Go.Proofs.YtfegfialedlfcaaGreatDoor
end
noncomputable section
namespace Go.Proofs.YtfegfialedlfcaaGreatDoor
open Go.Eng
/-! stacks -/
theorem cut_zero_app {α : List AV} {b : List AV} {n : Nat} (h : α.length = n) : cut (α ++ b) 0 n = some α := by
  unfold cut
  rw [if_pos (by simp; omega)]
  simp [← h]
theorem cut_eq {cs x : List AV} {o n : Nat} (h : cut cs o n = some x) : o + n ≤ cs.length ∧ x = (cs.drop o).take n := by
  unfold cut at h
  split at h
  · rename_i h1; cases h; exact ⟨h1, rfl⟩
  · cases h
theorem flat_len {α : Type} {e : α → List AV} {z : Nat} (he : ∀ a, (e a).length = z) : ∀ (st : List α), ((st.map e).flatten).length = st.length * z
  | [] => by simp
  | a :: st => by simp [he, flat_len he st, Nat.succ_mul]; omega
def bot {α : Type} (e : α → List AV) (st : List α) : List AV := (st.reverse.map e).flatten
theorem bot_len {α : Type} {e : α → List AV} {z : Nat} (he : ∀ a, (e a).length = z) (st : List α) : (bot e st).length = st.length * z := by
  unfold bot; rw [flat_len he]; simp
theorem bot_cons {α : Type} (e : α → List AV) (a : α) (st : List α) : bot e (a :: st) = bot e st ++ e a := by simp [bot]
theorem stk_top {α : Type} {e : α → List AV} {z : Nat} (he : ∀ a, (e a).length = z) {cs : List AV} {a : α} {st : List α} (h : cut cs 0 ((st.length + 1) * z) = some (bot e (a :: st))) : cut cs (st.length * z) z = some (e a) ∧ cut cs 0 (st.length * z) = some (bot e st) := by
  obtain ⟨h1, h2⟩ := cut_eq h
  rw [Nat.succ_mul] at h1 h2
  rw [bot_cons] at h2
  have hb := bot_len he st
  have ha := he a
  have h3 : cs.take (st.length * z + z) = bot e st ++ e a := by simpa using h2.symm
  have h4 : cs = (bot e st ++ e a) ++ cs.drop (st.length * z + z) := by rw [← h3]; simp
  generalize cs.drop (st.length * z + z) = d at h4
  subst h4
  constructor
  · unfold cut
    rw [if_pos (by simp; omega)]
    rw [List.append_assoc, List.drop_append, ← hb]
    simp [← ha]
  · rw [List.append_assoc]; exact cut_zero_app hb
theorem stk_push {α : Type} {e : α → List AV} {z : Nat} (he : ∀ a, (e a).length = z) (a : α) (st : List α) : cut (bot e st ++ e a) 0 ((st.length + 1) * z) = some (bot e (a :: st)) := by
  have h := cut_zero_app (α := bot e (a :: st)) (b := []) (n := (st.length + 1) * z) (by rw [bot_len he]; simp)
  rw [List.append_nil, bot_cons] at h
  rw [bot_cons]; exact h
structure Stk {α : Type} (z : Nat) (e : α → List AV) (id : Nat) (h : AH) (st : List α) : Prop where
  lt : id < h.nx
  ex : ∃ cs, h.cellsAt id = some cs ∧ cut cs 0 (st.length * z) = some (bot e st)
theorem Stk.push {α : Type} {z : Nat} {e : α → List AV} (he : ∀ a, (e a).length = z) {h : AH} {st : List α} {a : α} {nid : Nat} {x : List AV} (hn : nid = h.nx) (hx : x = e a) : Stk z e nid (h.add (.cells (bot e st ++ x))) (a :: st) :=
  ⟨by simp [hn], bot e st ++ x, by simp [hn], by subst hx; exact stk_push he a st⟩
@[simp] theorem kApp_rr (h : AH) (z bytes id off len id2 off2 m : Nat) : kApp h z bytes (.rsl id off len z) (.rsl id2 off2 m z) =
    match h.cellsAt id, h.cellsAt id2 with
    | some cs, some cs2 => match cut cs off (len * z), cut cs2 off2 (m * z) with
      | some old, some new => if ones new = true ∧ roomy (len + m) bytes = true then some (.rsl h.nx 0 (len + m) z, (h.kill id).add (.cells (old ++ new))) else none
      | _, _ => none
    | _, _ => none := by
  simp only [kApp, aapp, acells, alen, if_true]
  cases h1 : h.cellsAt id with
  | none =>
    cases h2 : h.cellsAt id2 with
    | none => simp
    | some cs2 =>
      simp
      cases h4 : cut cs2 off2 (m * z) with
      | none => simp
      | some new => simp
  | some cs =>
    cases h2 : h.cellsAt id2 with
    | none => simp
    | some cs2 =>
      simp
      cases h4 : cut cs2 off2 (m * z) with
      | none => cases h3 : cut cs off (len * z) <;> simp
      | some new =>
        cases h3 : cut cs off (len * z) with
        | none => simp
        | some old => cases ho : ones new <;> cases hr : roomy (len + m) bytes <;> simp [ho, hr]
@[simp] theorem kBuildSl_eq (h : AH) (z len : Nat) (zero : List AV) (ps : List (Nat × Nat × AV)) : kBuildSl h z len zero ps = match afill zero ps with | some cs => some (.rsl h.nx 0 len z, h.add (.cells cs)) | none => none := Eq.trans rfl rfl
@[simp] theorem roomy_ok (n b : Nat) (h : n * b ≤ 140737488355328) (h2 : n ≤ 9223372036854775807) : roomy n b = true := by simp [roomy, h, h2]
theorem kSl_hi (h : AH) (z id off len : Nat) (j : Int) (h0 : 0 ≤ j) (hj : j ≤ len) : kSl h z (.rsl id off len z) none (some (.int .i64 j)) none = some (.rsl id off j.toNat z, h) := by
  have h1 : j.toNat ≤ len := by omega
  simp [kSl, aslice, asl, alen, abd, aidx, h0, hj]
/-! commands: clip (1), pop (3), fill (4) -/
structure Cm where
  k : Int
  r : Rc
  c : Int
def Cm.enc (c : Cm) : List AV := [I c.k, I c.r.x, I c.r.y, I c.r.w, I c.r.h, I 0, .bool false, I 0, I 0, I 0, I c.c, .str [], I 0, I 0, I 0, I 0, I 0, I 0, I 0, I 0, I 0, .nilsl]
def cmds (l : List Cm) : AV := .psl (l.map Cm.enc)
@[simp] theorem Cm.len (c : Cm) : c.enc.length = 22 := by cases c; rfl
@[simp] theorem Cm.ones (c : Cm) : ones c.enc = true := Eq.trans rfl rfl
@[simp high] theorem Cm.g0 (c : Cm) : c.enc[0]? = some (I c.k) := Eq.trans rfl rfl
@[simp high] theorem Cm.g10 (c : Cm) : c.enc[10]? = some (I c.c) := Eq.trans rfl rfl
@[simp] theorem Cm.cr (c : Cm) : cut c.enc 1 4 = some c.r.enc := Eq.trans rfl rfl
@[simp] theorem Rc.len (r : Rc) : r.enc.length = 4 := by cases r; rfl
@[simp] theorem Pt.len (p : Pt) : p.enc.length = 2 := by cases p; rfl
@[simp high] theorem Rc.g0 (r : Rc) : r.enc[0]? = some (I r.x) := Eq.trans rfl rfl
@[simp high] theorem Rc.g1 (r : Rc) : r.enc[1]? = some (I r.y) := Eq.trans rfl rfl
@[simp high] theorem Rc.g3 (r : Rc) : r.enc[3]? = some (I r.h) := Eq.trans rfl rfl
@[simp high] theorem Pt.g0 (p : Pt) : p.enc[0]? = some (I p.x) := Eq.trans rfl rfl
@[simp high] theorem Pt.g1 (p : Pt) : p.enc[1]? = some (I p.y) := Eq.trans rfl rfl
theorem splice_all {z x : List AV} (h : z.length = x.length) : splice z 0 x = some x := by
  unfold splice
  rw [if_pos (by omega)]
  simp [h]
theorem cI (n : Int) : Closed (I n) := .int _ _
theorem Pt.cl (p : Pt) : Closed (.agg p.enc) := .agg (by intro c hc; simp [Pt.enc] at hc; rcases hc with rfl | rfl <;> exact cI _)
theorem Cm.cl (c : Cm) : ∀ a ∈ c.enc, Closed a := by
  intro a ha
  simp only [Cm.enc, List.mem_cons, List.not_mem_nil, or_false] at ha
  rcases ha with rfl | rfl | rfl | rfl | rfl | rfl | rfl | rfl | rfl | rfl | rfl | rfl | rfl | rfl | rfl | rfl | rfl | rfl | rfl | rfl | rfl | rfl <;> first | exact cI _ | exact .bool _ | exact .str _ | exact .nilsl
theorem cmds_cl (l : List Cm) : Closed (cmds l) := .psl (by
  intro x hx c hc
  simp at hx
  obtain ⟨a, _, rfl⟩ := hx
  exact Cm.cl a c hc)
theorem cmds_at {h : AH} {l : List Cm} {i : Nat} {c : Cm} (hc : l[i]? = some c) : kIdxA h 22 (cmds l) (I i) = some (.pptr c.enc, h) := kIdxA_psl (by rw [List.getElem?_map, hc]; rfl) (Cm.len c)
@[simp] theorem cmds_len (h : AH) (l : List Cm) : kLen h (cmds l) = some (I l.length, h) := by simp [cmds]
theorem ldn_cm (h : AH) (c : Cm) : kLdn h 22 (.pptr c.enc) = some (.agg c.enc, h) := by simp [kLdn, aloadn]
/-- well nested, in range -/
def Vr : Nat → List Cm → Prop
  | d, [] => d = 0
  | d, c :: l => (c.k = 1 ∧ okR c.r = true ∧ Vr (d + 1) l) ∨ (c.k = 4 ∧ okR c.r = true ∧ isCol c.c = true ∧ Vr d l) ∨ (c.k = 3 ∧ ∃ e, d = e + 1 ∧ Vr e l)
end Go.Proofs.YtfegfialedlfcaaGreatDoor
end
noncomputable section
namespace Go.Proofs.YtfegfialedlfcaaGreatDoor
open Go.Eng
/-! display.Validate -/
def tfC (_ : Unit) : List AV := [I 0, .bool false, I 1, I 0, I 0]
theorem tfC_len (a : Unit) : (tfC a).length = 5 := rfl
def un (d : Nat) : List Unit := List.replicate d ()
theorem un_len (d : Nat) : (un d).length = d := by simp [un]
inductive VI (l : List Cm) : Nat → List AV → AH → Prop
  | mk {m : Nat} {h : AH} (i id d : Nat) : i + m = l.length → Vr d (l.drop i) → d ≤ i → Stk 5 tfC id h (un (d + 1)) → VI l m [.rsl id 0 (d + 1) 5, cmds l, I l.length, I i] h
inductive VM (l : List Cm) (i : Nat) : AX → List AV → AH → Prop
  | mk {h : AH} (id d : Nat) : Vr d (l.drop (i + 1)) → d ≤ i + 1 → Stk 5 tfC id h (un (d + 1)) → VM l i .nrm [.undef, .rsl id 0 (d + 1) 5, cmds l, I l.length, I i] h
theorem validate_f (l : List Cm) (hl : l.length ≤ 20000) (hv : Vr 0 l) : Fresh Tryz.prog 25 [cmds l] (I 0) := by
  refine C25 (tU_ok _) ?_
  have hl' : ¬ ((20000 : Int) < l.length) := by omega
  simp (disch := first | (simp; done) | omega | (simp only [nx_add, nx_set, nx_kill, nx_mk, nx_emp]; omega) | fail) [g25, hl']
  refine ⟨VI l, l.length, .mk (h := ⟨_, _⟩) 0 0 0 (by omega) (by simpa using hv) (by omega) ⟨by simp [emp], tfC (), rfl, rfl⟩, ?_⟩
  rintro m vs h ⟨i, id, d, him, hvr, hd, hid, cs, hcs, hcut⟩
  rw [un_len] at hcut
  have hs := stk_top tfC_len (by rw [un_len]; exact hcut)
  rw [un_len] at hs
  obtain ⟨htop, hpop⟩ := hs
  cases m with
  | zero =>
    obtain rfl : i = l.length := by omega
    simp [Vr] at hvr
    subst hvr
    simp (disch := first | (simp; done) | omega | (simp only [nx_add, nx_set, nx_kill, nx_mk, nx_emp]; omega) | fail) [g25_l11, g25_j13, g25_c12]
  | succ m =>
    have hi : i < l.length := by omega
    have hli : (i : Int) < l.length := by omega
    rw [List.drop_eq_getElem_cons hi] at hvr
    have hat := fun h => cmds_at (h := h) (l := l) (i := i) (c := l[i]) (by simp [hi])
    generalize l[i] = c at *
    simp (disch := first | (simp; done) | omega | (simp only [nx_add, nx_set, nx_kill, nx_mk, nx_emp]; omega) | fail) [g25_l11, hli, hat]
    refine ⟨VM l i, ?_, ?_⟩
    · have n1 : ¬ id = h.nx := by omega
      have n2 : ¬ id = h.nx + 1 := by omega
      have e1 : ∀ h : AH, kIdxA h 5 (.rsl id 0 (d + 1) 5) (I d) = some (.ptr id (d * 5), h) := fun h => by
        rw [kIdxA_rsl (by omega) (by omega)]; simp
      simp (disch := first | (simp; done) | omega | (simp only [nx_add, nx_set, nx_kill, nx_mk, nx_emp]; omega) | fail) [g25_a9, hat, ldn_cm, splice_all, e1]
      simp (disch := first | (simp; done) | omega | (simp only [nx_add, nx_set, nx_kill, nx_mk, nx_emp]; omega) | fail) [g25_s8, hcs, htop, n1, n2, tfC]
      generalize hH : AH.set (AH.add _ _) (h.nx + 1) _ = H
      have k1 : H.cellsAt h.nx = some c.enc := by rw [← hH]; simp
      have k2 : H.cellsAt (h.nx + 1) = some (tfC ()) := by rw [← hH]; simp [tfC]
      have k3 : H.cellsAt id = some cs := by rw [← hH]; simp [n1, n2, hcs]
      have k4 : H.nx = h.nx + 2 := by rw [← hH]; simp
      clear hH
      have hk : c.k = 1 ∨ c.k = 4 ∨ c.k = 3 := by rcases hvr with h | h | h <;> simp [h.1]
      have hr : c.k ≠ 3 → okR c.r = true := fun h3 => by rcases hvr with h | h | h; exact h.2.1; exact h.2.1; exact absurd h.1 h3
      have hc : c.k = 4 → isCol c.c = true := fun h3 => by rcases hvr with h | h | h; omega; exact h.2.2.1; omega
      refine ⟨fun vs h' => vs = [.rsl id 0 (d + 1) 5, .ptr h.nx 0, .ptr (h.nx + 1) 0, cmds l, I l.length, I i, .bool false] ∧ h' = H, ?_, ?_⟩
      · rcases hk with hk | hk | hk <;> simp (disch := first | (simp; done) | omega | (simp only [nx_add, nx_set, nx_kill, nx_mk, nx_emp]; omega) | fail) [g25_a1, k1, hk]
      rintro vs h1 ⟨rfl, rfl⟩
      simp (disch := first | (simp; done) | omega | (simp only [nx_add, nx_set, nx_kill, nx_mk, nx_emp]; omega) | fail) [g25_j8]
      refine ⟨fun vs h' => vs = [.rsl id 0 (d + 1) 5, .ptr h.nx 0, .ptr (h.nx + 1) 0, cmds l, I l.length, I i, .bool false] ∧ h' = h1, ?_, ?_⟩
      · rcases hk with hk | hk | hk
        · simp (disch := first | (simp; done) | omega | (simp only [nx_add, nx_set, nx_kill, nx_mk, nx_emp]; omega) | fail) [g25_a2, k1, hk]
          refine sD (rect1_d _) ?_
          simp (disch := first | (simp; done) | omega | (simp only [nx_add, nx_set, nx_kill, nx_mk, nx_emp]; omega) | fail) [g25_s1, k1]
          refine sD (okR_d _ _) ?_
          simp [hr (by omega)]
        · simp (disch := first | (simp; done) | omega | (simp only [nx_add, nx_set, nx_kill, nx_mk, nx_emp]; omega) | fail) [g25_a2, k1, hk]
          refine sD (rect4_d _) ?_
          simp (disch := first | (simp; done) | omega | (simp only [nx_add, nx_set, nx_kill, nx_mk, nx_emp]; omega) | fail) [g25_s1, k1]
          refine sD (okR_d _ _) ?_
          simp [hr (by omega)]
        · simp (disch := first | (simp; done) | omega | (simp only [nx_add, nx_set, nx_kill, nx_mk, nx_emp]; omega) | fail) [g25_a2, k1, hk]
          refine sD (rect3_d _) ?_
          simp (disch := first | (simp; done) | omega | (simp only [nx_add, nx_set, nx_kill, nx_mk, nx_emp]; omega) | fail) [g25_s1, k1]
      rintro vs h2 ⟨rfl, rfl⟩
      simp (disch := first | (simp; done) | omega | (simp only [nx_add, nx_set, nx_kill, nx_mk, nx_emp]; omega) | fail) [g25_j7]
      refine ⟨fun vs h' => vs = [.rsl id 0 (d + 1) 5, .ptr h.nx 0, .ptr (h.nx + 1) 0, cmds l, I l.length, I i, .bool false] ∧ h' = h2, ?_, ?_⟩
      · rcases hk with hk | hk | hk
        · simp (disch := first | (simp; done) | omega | (simp only [nx_add, nx_set, nx_kill, nx_mk, nx_emp]; omega) | fail) [g25_a3, g25_s2, k1, hk]
        · simp (disch := first | (simp; done) | omega | (simp only [nx_add, nx_set, nx_kill, nx_mk, nx_emp]; omega) | fail) [g25_a3, g25_s2, k1, hk]
          refine sD (color_d _ _) ?_
          simp [hc hk]
        · simp (disch := first | (simp; done) | omega | (simp only [nx_add, nx_set, nx_kill, nx_mk, nx_emp]; omega) | fail) [g25_a3, g25_s2, k1, hk]
      rintro vs h3 ⟨rfl, rfl⟩
      simp (disch := first | (simp; done) | omega | (simp only [nx_add, nx_set, nx_kill, nx_mk, nx_emp]; omega) | fail) [g25_j6]
      refine ⟨fun vs h' => vs = [.rsl id 0 (d + 1) 5, .ptr h.nx 0, .ptr (h.nx + 1) 0, cmds l, I l.length, I i, .bool false] ∧ h' = h3, ?_, ?_⟩
      · rcases hk with hk | hk | hk <;> simp (disch := first | (simp; done) | omega | (simp only [nx_add, nx_set, nx_kill, nx_mk, nx_emp]; omega) | fail) [g25_a4, g25_s3, k1, hk]
      rintro vs h4 ⟨rfl, rfl⟩
      have n3 : ¬ h.nx + 1 = h4.nx := by omega
      have n4 : ¬ id = h4.nx := by omega
      rcases hvr with ⟨q1, q2, q3⟩ | ⟨q1, q2, q3, q4⟩ | ⟨q1, e, rfl, q3⟩
      · simp (disch := first | (simp; done) | omega | (simp only [nx_add, nx_set, nx_kill, nx_mk, nx_emp]; omega) | fail) [g25_j5, k1, k2, q1, tfC, n4, k3, hcut, ones, AV.one]
        exact .mk _ (d + 1) q3 (by omega) (Stk.push tfC_len (by simp) rfl)
      · simp (disch := first | (simp; done) | omega | (simp only [nx_add, nx_set, nx_kill, nx_mk, nx_emp]; omega) | fail) [g25_j5, g25_s7, k1, q1]
        exact .mk id d q4 (by omega) ⟨by omega, cs, k3, by rw [un_len]; exact hcut⟩
      · have e2 : ∀ h : AH, kSl h 5 (.rsl id 0 (e + 1 + 1) 5) none (some (I ((e : Int) + 1))) none = some (.rsl id 0 (e + 1) 5, h) := fun h => by
          rw [kSl_hi h 5 id 0 (e + 1 + 1) ((e : Int) + 1) (by omega) (by omega)]
          congr 3
        simp (disch := first | (simp; done) | omega | (simp only [nx_add, nx_set, nx_kill, nx_mk, nx_emp]; omega) | fail) [g25_j5, g25_s7, k1, q1, e2]
        exact ⟨fun h => by omega, fun _ => .mk id e q3 (by omega) ⟨by omega, cs, k3, by rw [un_len]; exact hpop⟩⟩
    · rintro x vs h' ⟨id', d', hvr', hd', hs'⟩
      simp (disch := first | (simp; done) | omega | (simp only [nx_add, nx_set, nx_kill, nx_mk, nx_emp]; omega) | fail) [g25_j10]
      exact ⟨m, by omega, .mk (i + 1) id' d' (by omega) hvr' hd' hs'⟩
theorem validate_p (l : List Cm) (hl : l.length ≤ 20000) (hv : Vr 0 l) : Pure Tryz.prog 25 [cmds l] (I 0) := (validate_f l hl hv).pure (by simp [cmds_cl])
end Go.Proofs.YtfegfialedlfcaaGreatDoor
end
noncomputable section
namespace Go.Proofs.YtfegfialedlfcaaGreatDoor
open Go.Eng
/-! display.Pixel -/
theorem cov_d (h : AH) (c : Cm) (p : Pt) (hk : c.k = 4) (hr : okR c.r = true) : CallD Tryz.prog 29 [.agg c.enc, .agg p.enc] h (.bool (inR c.r p)) h := by
  refine restB (C29 (tU_ok _) ?_)
  simp (disch := first | (simp; done) | omega | (simp only [nx_add, nx_set, nx_kill, nx_mk, nx_emp]; omega) | fail) [g29]
  refine sD (inR_d _ _ _ hr) ?_
  have f : ∀ x y, Fr h ((h.add x).add y) := fun x y => ((Fr.refl h).add _).add _
  cases hi : inR c.r p
  · simp (disch := first | (simp; done) | omega | (simp only [nx_add, nx_set, nx_kill, nx_mk, nx_emp]; omega) | fail) [f]
  · simp (disch := first | (simp; done) | omega | (simp only [nx_add, nx_set, nx_kill, nx_mk, nx_emp]; omega) | fail) [g29_s3, hk]
    refine ⟨fun vs h' => vs = [.bool true] ∧ Fr h h', ?_, ?_⟩
    · simp (disch := first | (simp; done) | omega | (simp only [nx_add, nx_set, nx_kill, nx_mk, nx_emp]; omega) | fail) [g29_a1, hk, f]
    · rintro vs h' ⟨rfl, hf⟩
      simp (disch := first | (simp; done) | omega | (simp only [nx_add, nx_set, nx_kill, nx_mk, nx_emp]; omega) | fail) [g29_j2, hf]
structure Sn where
  p : Pt
  b : Bool
def Sn.enc (s : Sn) : List AV := [I s.p.x, I s.p.y, .bool s.b]
@[simp] theorem Sn.len (s : Sn) : s.enc.length = 3 := by cases s; rfl
@[simp] theorem Sn.ones (s : Sn) : ones s.enc = true := Eq.trans rfl rfl
@[simp high] theorem Sn.g2 (s : Sn) : s.enc[2]? = some (.bool s.b) := Eq.trans rfl rfl
@[simp] theorem Sn.c0 (s : Sn) : cut s.enc 0 2 = some s.p.enc := Eq.trans rfl rfl
@[simp] theorem splice_pt (a b c : AV) (p : Pt) : splice [a, b, c] 0 p.enc = some [I p.x, I p.y, c] := Eq.trans rfl rfl
/-- what a point shows: the clips that are open, the color so far -/
def pr (p : Pt) : List Bool → Int → List Cm → Int
  | _, out, [] => out
  | st, out, c :: l => if c.k = 1 then pr p ((st.headD false && inR c.r p) :: st) out l else if c.k = 3 then pr p st.tail out l else pr p st (cond (st.headD false && inR c.r p) c.c out) l
inductive PI (l : List Cm) (p : Pt) (R : Int) : Nat → List AV → AH → Prop
  | mk {m : Nat} {h : AH} (i id : Nat) (b : Bool) (st : List Bool) (out : Int) : i + m = l.length → Vr st.length (l.drop i) → st.length ≤ i → pr p (b :: st) out (l.drop i) = R → Stk 3 (fun b => Sn.enc ⟨p, b⟩) id h (b :: st) → PI l p R m [.rsl id 0 (st.length + 1) 3, I out, cmds l, I l.length, I i] h
inductive PM (l : List Cm) (p : Pt) (R : Int) (i : Nat) : List AV → AH → Prop
  | mk {h : AH} (id : Nat) (b : Bool) (st : List Bool) (out : Int) : Vr st.length (l.drop (i + 1)) → st.length ≤ i + 1 → pr p (b :: st) out (l.drop (i + 1)) = R → Stk 3 (fun b => Sn.enc ⟨p, b⟩) id h (b :: st) → PM l p R i [.rsl id 0 (st.length + 1) 3, I out, cmds l, I l.length, I i] h
theorem pixel_f (l : List Cm) (p : Pt) (hl : l.length ≤ 20000) (hv : Vr 0 l) (hp : okP p = true) : Fresh Tryz.prog 8 [cmds l, .agg p.enc] (I (pr p [true] (-1) l)) := by
  refine C8 (tU_ok _) ?_
  simp (disch := first | (simp; done) | omega | (simp only [nx_add, nx_set, nx_kill, nx_mk, nx_emp]; omega) | fail) [g8]
  refine ⟨fun vs h => vs = [cmds l, .ptr 0 0, .bool false] ∧ h.cellsAt 0 = some p.enc, ?_, ?_⟩
  · simp (disch := first | (simp; done) | omega | (simp only [nx_add, nx_set, nx_kill, nx_mk, nx_emp]; omega) | fail) [g8_a1]
    refine sD (validate_p l hl hv _) ?_
    simp (disch := first | (simp; done) | omega | (simp only [nx_add, nx_set, nx_kill, nx_mk, nx_emp]; omega) | fail) [g8_s1]
    refine sD (point_d _ p) ?_
    simp (disch := first | (simp; done) | omega | (simp only [nx_add, nx_set, nx_kill, nx_mk, nx_emp]; omega) | fail) [hp]
  rintro vs h ⟨rfl, h0⟩
  simp (disch := first | (simp; done) | omega | (simp only [nx_add, nx_set, nx_kill, nx_mk, nx_emp]; omega) | fail) [g8_j9, h0]
  generalize hR : pr p [true] (-1) l = R
  refine ⟨PI l p R, l.length, .mk 0 h.nx true [] (-1) (by simp) (by simpa using hv) (by simp) (by simpa using hR) ⟨by simp, _, by simp; rfl, by simp [bot, Sn.enc, Pt.enc, cut]⟩, ?_⟩
  clear hR
  rintro m vs h ⟨i, id, b, st, out, him, hvr, hd, hpr, hid, cs, hcs, hcut⟩
  obtain ⟨htop, hpop⟩ := stk_top (e := fun b => Sn.enc ⟨p, b⟩) (fun _ => Sn.len _) hcut
  have hst : st.length ≤ 20000 := by omega
  have hcut' : cut cs 0 ((st.length + 1) * 3) = some (bot (fun b => Sn.enc ⟨p, b⟩) (b :: st)) := hcut
  cases m with
  | zero =>
    obtain rfl : i = l.length := by omega
    simp [Vr] at hvr
    simp [pr] at hpr
    simp (disch := first | (simp; done) | omega | (simp only [nx_add, nx_set, nx_kill, nx_mk, nx_emp]; omega) | fail) [g8_l6, g8_j8, g8_c7, hpr]
  | succ m =>
    have hi : i < l.length := by omega
    have hli : (i : Int) < l.length := by omega
    rw [List.drop_eq_getElem_cons hi] at hvr hpr
    have hat := fun h => cmds_at (h := h) (l := l) (i := i) (c := l[i]) (by simp [hi])
    generalize l[i] = c at *
    simp (disch := first | (simp; done) | omega | (simp only [nx_add, nx_set, nx_kill, nx_mk, nx_emp]; omega) | fail) [g8_l6, hli, hat]
    refine ⟨PM l p R i, ?_, ?_⟩
    · have n1 : ¬ id = h.nx := by omega
      have n2 : ¬ id = h.nx + 1 := by omega
      have n3 : ¬ id = h.nx + 1 + 1 + 13 := by omega
      have e1 : ∀ h : AH, kIdxA h 3 (.rsl id 0 (st.length + 1) 3) (I st.length) = some (.ptr id (st.length * 3), h) := fun h => by
        rw [kIdxA_rsl (by omega) (by omega)]; simp
      simp (disch := first | (simp; done) | omega | (simp only [nx_add, nx_set, nx_kill, nx_mk, nx_emp]; omega) | fail) [g8_a4, hat, ldn_cm, splice_all, e1, hcs, htop, n1, n2]
      rcases hvr with ⟨q1, q2, q3⟩ | ⟨q1, q2, q3, q4⟩ | ⟨q1, e, q2, q3⟩
      · simp (disch := first | (simp; done) | omega | (simp only [nx_add, nx_set, nx_kill, nx_mk, nx_emp]; omega) | fail) [g8_s7, hcs, n1, n2, q1]
        generalize hH : AH.set (AH.add _ _) (h.nx + 1) _ = H
        have k1 : H.cellsAt h.nx = some c.enc := by rw [← hH]; simp
        have k2 : H.cellsAt (h.nx + 1) = some (Sn.enc ⟨p, b⟩) := by rw [← hH]; simp
        have k3 : H.cellsAt id = some cs := by rw [← hH]; simp [n1, n2, hcs]
        have k4 : H.nx = h.nx + 2 := by rw [← hH]; simp
        clear hH
        simp only [pr, q1, if_true, List.headD_cons] at hpr
        cases b
        · simp (disch := first | (simp; done) | omega | (simp only [nx_add, nx_set, nx_kill, nx_mk, nx_emp]; omega) | fail) [g8_s3, g8_s2, k1, k2, k3, hcut', n3, ones, AV.one]
          exact .mk _ false (false :: st) out q3 (by simp; omega) (by simpa using hpr) (Stk.push (fun _ => Sn.len _) (by simp) rfl)
        · simp (disch := first | (simp; done) | omega | (simp only [nx_add, nx_set, nx_kill, nx_mk, nx_emp]; omega) | fail) [g8_s3, k1, k2, k3]
          refine sD (inR_d _ _ _ q2) ?_
          simp (disch := first | (simp; done) | omega | (simp only [nx_add, nx_set, nx_kill, nx_mk, nx_emp]; omega) | fail) [g8_s2, k3, hcut', n3, ones, AV.one]
          exact .mk _ (inR c.r p) (true :: st) out q3 (by simp; omega) (by simpa using hpr) (Stk.push (fun _ => Sn.len _) (by simp) rfl)
      · simp (disch := first | (simp; done) | omega | (simp only [nx_add, nx_set, nx_kill, nx_mk, nx_emp]; omega) | fail) [g8_s7, g8_s6, hcs, n1, n2, q1]
        generalize hH : AH.set (AH.add _ _) (h.nx + 1) _ = H
        have k1 : H.cellsAt h.nx = some c.enc := by rw [← hH]; simp
        have k2 : H.cellsAt (h.nx + 1) = some (Sn.enc ⟨p, b⟩) := by rw [← hH]; simp
        have k3 : H.cellsAt id = some cs := by rw [← hH]; simp [n1, n2, hcs]
        have k4 : H.nx = h.nx + 2 := by rw [← hH]; simp
        clear hH
        have hne : ¬ c.k = 3 := by omega
        have hne1 : ¬ c.k = 1 := by omega
        simp only [pr, hne, hne1, if_false, List.headD_cons] at hpr
        refine ⟨fun vs h' => vs = [.rsl id 0 (st.length + 1) 3, I out, .ptr h.nx 0, cmds l, I l.length, I i, .bool (b && inR c.r p)] ∧ h' = H, ?_, ?_⟩
        · cases b
          · simp (disch := first | (simp; done) | omega | (simp only [nx_add, nx_set, nx_kill, nx_mk, nx_emp]; omega) | fail) [g8_a2, k1, k2]
          · simp (disch := first | (simp; done) | omega | (simp only [nx_add, nx_set, nx_kill, nx_mk, nx_emp]; omega) | fail) [g8_a2, k1, k2]
            refine sD (cov_d _ _ _ q1 q2) ?_
            simp
        rintro vs h' ⟨rfl, rfl⟩
        have hS : Stk 3 (fun b => Sn.enc ⟨p, b⟩) id h' (b :: st) := ⟨by omega, cs, k3, hcut⟩
        cases hb : (b && inR c.r p)
        · rw [hb] at hpr
          simp (disch := first | (simp; done) | omega | (simp only [nx_add, nx_set, nx_kill, nx_mk, nx_emp]; omega) | fail) [g8_j3]
          exact .mk id b st out q4 (by omega) (by simpa using hpr) hS
        · rw [hb] at hpr
          simp (disch := first | (simp; done) | omega | (simp only [nx_add, nx_set, nx_kill, nx_mk, nx_emp]; omega) | fail) [g8_j3, k1, q1]
          exact .mk id b st c.c q4 (by omega) (by simpa using hpr) hS
      · have e2 : ∀ h : AH, kSl h 3 (.rsl id 0 (st.length + 1) 3) none (some (I st.length)) none = some (.rsl id 0 st.length 3, h) := fun h => by
          rw [kSl_hi h 3 id 0 (st.length + 1) st.length (by omega) (by omega)]
          congr 3
        simp (disch := first | (simp; done) | omega | (simp only [nx_add, nx_set, nx_kill, nx_mk, nx_emp]; omega) | fail) [g8_s7, g8_s6, hcs, n1, n2, q1, e2]
        cases st with
        | nil => simp at q2
        | cons b2 st2 =>
        simp at q2
        subst q2
        simp only [pr, q1, List.tail_cons] at hpr
        simp at hpr
        exact .mk id b2 st2 out q3 (by simp at hd; omega) hpr ⟨by simp; omega, cs, by simp [n1, n2, hcs], hpop⟩
    · rintro vs h' ⟨id', b', st', out', hvr', hd', hpr', hs'⟩
      simp (disch := first | (simp; done) | omega | (simp only [nx_add, nx_set, nx_kill, nx_mk, nx_emp]; omega) | fail) [g8_j5]
      exact ⟨m, by omega, .mk (i + 1) id' b' st' out' (by omega) hvr' hd' hpr' hs'⟩
theorem pixel_p (l : List Cm) (p : Pt) (hl : l.length ≤ 20000) (hv : Vr 0 l) (hp : okP p = true) : Pure Tryz.prog 8 [cmds l, .agg p.enc] (I (pr p [true] (-1) l)) := (pixel_f l p hl hv hp).pure (by simp [cmds_cl, Pt.cl])
end Go.Proofs.YtfegfialedlfcaaGreatDoor
end
