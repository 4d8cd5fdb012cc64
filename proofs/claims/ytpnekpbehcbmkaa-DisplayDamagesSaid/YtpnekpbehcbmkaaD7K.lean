/- A call whose arguments are frozen for the call, and whose result is one new object that the caller owns. What comparing two lists of commands answers, in the program and in the reference. What validating a list of commands answers in the program, with its stack of transforms and clips. -/
import Derived.Test.YtpnekpbehcbmkaaD7A
import Derived.Test.YtpnekpbehcbmkaaD7I
set_option linter.unusedSimpArgs false
set_option linter.unusedVariables false
set_option linter.unnecessarySimpa false
noncomputable section
namespace Go.Eng
open Go.RowKit
theorem Frz.mono {h : AH} {a b : AV} (hf : Frz h true a b) : Frz h false a b := by
  generalize hn : true = n at hf
  induction hf with
  | undef a => exact .undef a
  | bool b => exact .bool b
  | int k m => exact .int k m
  | str s => exact .str s
  | nilptr => exact .nilptr
  | nilfunc => exact .nilfunc
  | nilif => exact .nilif
  | nilmap => exact .nilmap
  | nilsl0 => exact .nilsl0
  | nilsl => exact .nilsl
  | esl0 => exact .esl0
  | esl => exact .esl
  | gptr g o => exact .gptr g o
  | agg cs ds hl hc ih => exact .agg cs ds hl fun i c d h1 h2 => ih i c d h1 h2
  | tup cs ds hl hc ih => exact .tup cs ds hl fun i c d h1 h2 => ih i c d h1 h2
  | psl0 => exact .psl0
  | psl hn' => subst hn; cases hn'
  | pptr hn' => subst hn; cases hn'
  | rsl id off z cs ys ho hs hz hc ih => exact .rsl id off z cs ys ho hs hz fun i y j c d h1 h2 h3 => ih i y j c d h1 h2 h3
  | ptr id off cs ds ho hs hc ih => exact .ptr id off cs ds ho hs fun i c d h1 h2 => ih i c d h1 h2
  | func fn f1 c1 f2 c2 hl1 hl2 h1 h2 ih1 ih2 => exact .func fn f1 c1 f2 c2 hl1 hl2 (fun i c d q1 q2 => ih1 i c d q1 q2) (fun i c d q1 q2 => ih2 i c d q1 q2)
  | iface t a b hb ih => exact .iface t a b (ih)
theorem Fresh.pure {P : Program} {f : Nat} {args : List AV} {v : AV} (hf : Fresh P f args v) (hcl : ∀ a ∈ args, Closed a) : Pure P f args v :=
  Pure.of hcl (hf.mono fun _ _ h => h.mono)

theorem VR.sub {hp : Array Obj} {L L' : Nat → Prop} {β : Bl} (h : ∀ b, L' b → L b) {a : AV} {v : Value} (hv : VR hp L β a v) : VR hp L' β a v :=
  hv.later ⟨fun _ _ h => h, fun b _ hn => ⟨fun hl => hn (h b hl), rfl⟩, fun _ cur _ _ h => ⟨cur, h, rfl⟩⟩

theorem SimH.kill {own : Nat → Prop} {β : Bl} {h : AH} {w : World} (hs : SimH own β h.H h.nx w) (id : Nat) : SimH own β (h.kill id).H h.nx w := by
  have hsub : ∀ b, live β (h.kill id).H b → live β h.H b := by
    rintro b ⟨i, o, base, h1, h2⟩
    rw [get_kill] at h1
    split at h1
    · cases h1
    · exact ⟨i, o, base, h1, h2⟩
  refine ⟨hs.fresh, hs.lt, hs.ownlt, fun i o hi => ?_, fun i j o o' b x y h1 h2 h3 h4 => ?_⟩
  · rw [get_kill] at hi
    split at hi
    · cases hi
    · obtain ⟨b, base, q1, q2, q3⟩ := hs.obj i o hi
      have hw : ∀ b, (own b ∨ live β (h.kill id).H b) → (own b ∨ live β h.H b) := fun b hb => hb.imp_right (hsub b)
      refine ⟨b, base, q1, q2, ?_⟩
      cases o with
      | cells cs => obtain ⟨cur, e, r1, r2, r3⟩ := q3; exact ⟨cur, e, r1, r2, fun i c v k1 k2 => (r3 i c v k1 k2).sub hw⟩
      | map kvs => obtain ⟨r0, es, clock, r1, r2, r3⟩ := q3; exact ⟨r0, es, clock, r1, r2, fun i kv e k1 k2 => ⟨(r3 i kv e k1 k2).1.sub hw, (r3 i kv e k1 k2).2.1.sub hw, (r3 i kv e k1 k2).2.2⟩⟩
      | siter s pos => exact q3
      | glob g cs => obtain ⟨r0, r00, cur, e, fz, r1, r2, r3⟩ := q3; exact ⟨r0, r00, cur, e, fz, r1, r2, fun i c v k1 k2 => (r3 i c v k1 k2).sub hw⟩
  · rw [get_kill] at h1 h2
    split at h1
    · cases h1
    split at h2
    · cases h2
    exact hs.inj i j o o' b x y h1 h2 h3 h4

/-- the result: one slice into the new object, alone or with a further value -/
inductive Hole (h' : AH) (id nid : Nat) : AV → AV → Prop where
  | one (off len z : Nat) : Hole h' id nid (.rsl id off len z) (.rsl nid off len z)
  | two (off len z : Nat) (y' y : AV) (hy : Frz h' true y' y) : Hole h' id nid (.tup [.rsl id off len z, y']) (.tup [.rsl nid off len z, y])

theorem frameO {P : Program} {f : Nat} {args pargs : List AV} {h : AH} {R : AV → AH → Prop} {v : AV} {cs2 : List AV} (hc : CallsA P f pargs emp R)
    (hR : ∀ v' h', R v' h' → ∃ id cs, h'.cellsAt id = some cs ∧ FrzL (h'.kill id) true cs cs2 ∧ Hole (h'.kill id) id h.nx v' v)
    (hlen : args.length = pargs.length) (hfz : ∀ (i : Nat) (a b : AV), args[i]? = some a → pargs[i]? = some b → Frz h false a b) : CallD P f args h v (h.add (.cells cs2)) := by
  refine ⟨hc.1, fun own β w cargs hs hRL => ?_⟩
  have hp : RL w.heap (LL (fun _ => False) noB emp.H) noB pargs cargs.toList := by
    refine ⟨hlen ▸ hRL.1, fun i d v h1 h2 => ?_⟩
    obtain ⟨a, ha⟩ := get_of_len hlen h1
    exact VR.frz hs (fun b _ hl => hl.elim (fun h => h) (live_emp _ b)) (fun _ b _ hl => hl.elim (fun h => h) (live_emp _ b)) (hfz i a d ha h1) (hRL.2 i a v ha h2)
  refine (hc.2 (fun _ => False) noB w cargs (simH_emp fun b hb => hb.elim) hp).mono ?_
  rintro e w' ⟨cv, v0, h0, β0, rfl, hq, hs0, hv0, ht⟩
  obtain ⟨id, cs, hcs, hfc, hhole⟩ := hR v0 h0 hq
  obtain ⟨b, base, hb, _, cur, et, hcur, hcl, hcell⟩ := hs0.obj id _ (cellsAt_get hcs)
  have hlive : live β0 h0.H b := ⟨id, _, base, cellsAt_get hcs, hb⟩
  have hnew : w.heap.size ≤ b := (ht.live b hlive).resolve_left (live_emp _ b)
  have hblt : b < w'.heap.size := hs0.lt id b base hb
  have hkeep : ∀ b, b < w.heap.size → w'.heap[b]? = w.heap[b]? := fun b hb => ht.keep b hb (live_emp _ b)
  have hnx : β h.nx = none := hs.fresh _ (Nat.le_refl _)
  obtain ⟨β', hβ'⟩ : ∃ β', β' = upd β h.nx b base := ⟨_, rfl⟩
  have hgood : ∀ {i x}, β i = some x → β' i = some x := fun {i x} hi => by
    have : i ≠ h.nx := fun e => by rw [e, hnx] at hi; cases hi
    rw [hβ', upd_ne _ _ _ this]; exact hi
  have hself : β' h.nx = some (b, base) := by rw [hβ']; exact upd_same _ _ _ _
  have hlv : ∀ b', live β' (h.add (.cells cs2)).H b' → live β h.H b' ∨ b' = b := by
    rintro b' ⟨i, o, ba, h1, h2⟩
    rw [get_add] at h1
    by_cases hi : i = h.nx
    · subst hi; rw [hself] at h2; cases h2; exact .inr rfl
    · rw [if_neg hi] at h1; rw [hβ', upd_ne _ _ _ hi] at h2; exact .inl ⟨i, o, ba, h1, h2⟩
  have hT : Trans own β h w β' (h.add (.cells cs2)) w' := by
    refine ⟨fun i x hx => hgood hx, fun i hi => by rw [hβ', upd_ne _ _ _ (by omega)], by simp, ht.size, fun b' hb' _ => hkeep b' hb', fun b' hl => ?_, fun b' cur e fz hc => ⟨cur, by rw [hkeep b' (lt_of_get hc)]; exact hc, rfl⟩, ht.os, ht.tape, ht.output⟩
    rcases hlv b' hl with h1 | rfl
    · exact .inl h1
    · exact .inr hnew
  have hk0 : SimH (fun _ => False) β0 (h0.kill id).H h0.nx w' := hs0.kill id
  have hksub : ∀ b', live β0 (h0.kill id).H b' → b' ≠ b ∧ live β0 h0.H b' := by
    rintro b' ⟨i, o, ba, h1, h2⟩
    rw [get_kill] at h1
    split at h1
    · cases h1
    · rename_i hi
      refine ⟨fun e => ?_, i, o, ba, h1, h2⟩
      subst e
      exact hi (hs0.inj i id _ _ _ ba base h1 (cellsAt_get hcs) h2 hb)
  have hnotL : ∀ b', live β0 (h0.kill id).H b' → ¬ LL own β' (h.add (.cells cs2)).H b' := by
    intro b' hl hL
    obtain ⟨hne, hl0⟩ := hksub b' hl
    have hge : w.heap.size ≤ b' := (ht.live b' hl0).resolve_left (live_emp _ b')
    rcases hL with h1 | h1
    · have := hs.ownlt b' h1; omega
    · rcases hlv b' h1 with h2 | h2
      · obtain ⟨i, o, ba, _, h3⟩ := h2
        have := hs.lt i b' ba h3; omega
      · exact hne h2
  have frz2 : ∀ {a a' : AV} {u : Value}, Frz (h0.kill id) true a a' → VR w'.heap (LL (fun _ => False) β0 h0.H) β0 a u → VR w'.heap (LL own β' (h.add (.cells cs2)).H) β' a' u := fun {a a' u} hf hu =>
    VR.frz hk0 hnotL (fun hh => by cases hh) hf (hu.sub fun b' hb' => hb'.imp_right fun hl => (hksub b' hl).2)
  have hfc' := (FrzL_iff _ _ _ _).1 hfc
  have hS : SimH own β' (h.add (.cells cs2)).H (h.add (.cells cs2)).nx w' := by
    refine ⟨fun i hi => ?_, fun i b' ba hi => ?_, fun b' hb' => Nat.lt_of_lt_of_le (hs.ownlt b' hb') ht.size, fun i o hg => ?_, fun i j o o' b' x y h1 h2 h3 h4 => ?_⟩
    · simp at hi
      rw [hβ', upd_ne _ _ _ (by omega)]; exact hs.fresh i (by omega)
    · by_cases h1 : i = h.nx
      · subst h1; rw [hself] at hi; cases hi; exact hblt
      · rw [hβ', upd_ne _ _ _ h1] at hi; exact Nat.lt_of_lt_of_le (hs.lt i b' ba hi) ht.size
    · rw [get_add] at hg
      by_cases h1 : i = h.nx
      · rw [if_pos h1] at hg; cases hg; subst h1
        refine ⟨b, base, hself, fun ho => ?_, cur, et, hcur, by rw [← hfc'.1]; exact hcl, fun i c u k1 k2 => ?_⟩
        · have := hs.ownlt b ho; omega
        · obtain ⟨c0, hc0⟩ := get_of_len hfc'.1 k1
          exact frz2 (hfc'.2 i c0 c hc0 k1) (hcell i c0 u hc0 k2)
      · rw [if_neg h1] at hg
        obtain ⟨b', ba, q1, q2, q3⟩ := hs.obj i o hg
        exact ⟨b', ba, hgood q1, q2, OR.later hT.later (hkeep b' (hs.lt i b' ba q1)) q3⟩
    · rw [get_add] at h1 h2
      by_cases hi : i = h.nx <;> by_cases hj : j = h.nx
      · rw [hi, hj]
      · subst hi; rw [hself] at h3; cases h3
        rw [hβ', upd_ne _ _ _ hj] at h4
        have := hs.lt j b y h4; omega
      · subst hj; rw [hself] at h4; cases h4
        rw [hβ', upd_ne _ _ _ hi] at h3
        have := hs.lt i b x h3; omega
      · rw [if_neg hi] at h1; rw [if_neg hj] at h2
        rw [hβ', upd_ne _ _ _ hi] at h3; rw [hβ', upd_ne _ _ _ hj] at h4
        exact hs.inj i j o o' b' x y h1 h2 h3 h4
  have hslot : ∀ {off len z : Nat} {u : Value}, VR w'.heap (LL (fun _ => False) β0 h0.H) β0 (.rsl id off len z) u → VR w'.heap (LL own β' (h.add (.cells cs2)).H) β' (.rsl h.nx off len z) u := by
    intro off len z u hu
    cases hu with
    | rsl _ _ _ _ b2 base2 cap cur2 e2 g1 g2 g3 g4 g5 => rw [hb] at g1; cases g1; exact .rsl _ _ _ _ b base cap cur2 e2 hself g2 g3 g4 g5
    | rsl0 _ _ _ b2 base2 o g1 => rw [hb] at g1; cases g1; exact .rsl0 _ _ _ b base o hself
  refine ⟨cv, v, _, β', rfl, ⟨rfl, rfl⟩, hS, ?_, hT⟩
  cases hhole with
  | one off len z => exact hslot hv0
  | two off len z y' y hy =>
    cases hv0 with
    | tup _ vs hl hvs =>
      refine .tup _ vs (by simpa using hl) fun i c u k1 k2 => ?_
      match i with
      | 0 => simp at k1; subst k1; exact hslot (hvs 0 _ u (by simp) k2)
      | 1 => simp at k1; subst k1; exact frz2 hy (hvs 1 _ u (by simp) k2)
      | i + 2 => simp at k1
theorem recOk_rd {V C : AH} {x : Nat} (h : V.H.get x = C.H.get x) : recOk (.read x) (.eff V C) = true := by
  show obEq _ _ = true
  rw [h]; exact obEq_refl _
theorem recOk_rd' {V C : AH} {x : Nat} (h : V.H.get x = C.H.get x) : recOk (.eff V C) (.read x) = true := by
  show obEq _ _ = true
  rw [h]; exact obEq_refl _
@[simp] theorem recOk_read_set (h : AH) (x j : Nat) (o : AObj) (hx : x ≠ j) : recOk (.read x) (.eff h (h.set j o)) = true := recOk_rd (by rw [get_set, if_neg hx])
end Go.Eng
end
noncomputable section
namespace Go.Proofs.Ytpnekpbehcbmkaa
open Go.Eng
open Classical in
theorem Gl.eqc (a b : Gl) : eqCells [.int .i64, .int .i64, .int .i64, .int .i64, .int .i64, .int .i64, .int .i64, .int .i64] a.enc b.enc = some (decide (a = b)) := by
  cases a; cases b
  simp [Gl.enc, eqCells, eqCell]
  rw [Bool.eq_iff_iff]; simp
open Classical in
theorem Rect.eqc (a b : Rect) : eqCells [.int .i64, .int .i64, .int .i64, .int .i64] a.enc b.enc = some (decide (a = b)) := by
  cases a; cases b
  simp [Rect.enc, eqCells, eqCell]
  rw [Bool.eq_iff_iff]; simp
open Classical in
theorem Tf.eqc (a b : Tf) : eqCells [.int .i64, .bool, .int .i64, .int .i64, .int .i64] a.enc b.enc = some (decide (a = b)) := by
  cases a; cases b
  simp [Tf.enc, eqCells, eqCell]
  rw [Bool.eq_iff_iff]; simp
open Classical in
def eqD {α : Type} (a b : α) : Bool := decide (a = b)
theorem eqD_iff {α : Type} {a b : α} : eqD a b = true ↔ a = b := by simp [eqD]
def seqI (l m : List Gl) (k : Nat) (vs : List AV) (h : AH) : Prop := ∃ i : Nat, i ≤ l.length ∧ k = l.length - i ∧ vs = [gls l, gls m, I l.length, I i] ∧ ∀ j (h1 : j < i) (h2 : j < l.length) (h3 : j < m.length), l[j] = m[j]
open Classical in
theorem slicesEqual_f (l m : List Gl) (hl : Sm l ∧ Sm m) : Fresh Try.prog 33 [gls l, gls m] (.bool (eqD l m)) := by
  refine C33 (tb_ok []) ?_
  have hl1 := hl.1; have hl2 := hl.2
  unfold Sm at hl1 hl2
  simp (disch := first | (simp; done) | omega | (simp only [nx_add, nx_set, nx_kill, nx_mk, nx_emp]; omega) | fail) [g33]
  refine ⟨fun hne => ?_, fun heq => ?_⟩
  · simp [eqD]; intro e; exact hne (by rw [e])
  · have heq' : l.length = m.length := by omega
    refine ⟨seqI l m, l.length, ⟨0, by simp [heq']⟩, ?_⟩
    rintro k vs h ⟨i, hi, rfl, rfl, hall⟩
    by_cases hlt : i < l.length
    · have hlt2 : i < m.length := by omega
      simp (disch := first | (simp; done) | omega | (simp only [nx_add, nx_set, nx_kill, nx_mk, nx_emp]; omega) | fail) [g33_l1, g33_s1, hlt, hlt2, Gl.eqc]
      refine ⟨fun hne => ?_, fun he => ?_⟩
      · simp [g33_j3, eqD]; intro e; subst e; exact hne rfl
      · refine ⟨l.length - (i + 1), by omega, i + 1, by omega, rfl, by simp, fun j h1 h2 h3 => ?_⟩
        by_cases hji : j < i
        · exact hall j hji h2 h3
        · obtain rfl : j = i := by omega
          exact he
    · simp (disch := first | (simp; done) | omega | (simp only [nx_add, nx_set, nx_kill, nx_mk, nx_emp]; omega) | fail) [g33_l1, hlt, g33_j3, g33_c2]
      exact eqD_iff.2 (List.ext_getElem heq' fun j h1 h2 => hall j (by omega) h1 h2)
theorem slicesEqual_c (l m : List Gl) (hl : Sm l ∧ Sm m) : Pure Try.prog 33 [gls l, gls m] (.bool (eqD l m)) := (slicesEqual_f l m hl).pure (by simp [gls_cl])
def e33 : QE Try.prog := .pure 33 (fun (((l, m)) : List Gl × List Gl) => [gls l, gls m]) (fun (((l, m)) : List Gl × List Gl) => Sm l ∧ Sm m) (fun (((l, m)) : List Gl × List Gl) => .bool (eqD l m)) (fun ⟨l, m⟩ hx => slicesEqual_c l m hx)
@[simp ↓] theorem e33_h (l : List (QE Try.prog)) (args : List AV) (h : AH) (Q : AV → AH → Prop) : tb (e33 :: l) 33 args h Q = e33.q args h Q := tb_here e33 l 33 args h Q rfl
@[simp ↓] theorem e33_q (l : List Gl) (m : List Gl) (h : AH) (Q : AV → AH → Prop) : e33.q [gls l, gls m] h Q = ((Sm l ∧ Sm m) ∧ Q (.bool (eqD l m)) h) := (QE.pure_q (x := (l, m)) (by rintro ⟨_, _⟩ h; simp at h; simp [h]) h Q)
theorem cmd_ext {a b : Cmd} : a = b ↔ a.kind = b.kind ∧ a.r = b.r ∧ a.t = b.t ∧ a.color = b.color ∧ a.image = b.image ∧ a.line = b.line := by
  cases a; cases b; simp
theorem ln_ext {a b : Ln} : a = b ↔ a.from' = b.from' ∧ a.to = b.to ∧ a.level = b.level ∧ a.x = b.x ∧ a.y = b.y ∧ a.width = b.width ∧ a.asc = b.asc ∧ a.desc = b.desc ∧ a.height = b.height ∧ a.gl = b.gl := by
  cases a; cases b; simp
def SmC (c : Cmd) : Prop := Sm c.line.gl
theorem g11_s1_f (cl : CL) (v109 v110 : AV) (h : AH) (Q : AV → AH → Prop) : g11_s1 cl (.bool false) v109 v110 h Q = Q (.bool false) h := by
  simp [g11_s1]
theorem g11_s2_f (cl : CL) (v5 v6 v101 : AV) (h : AH) (Q : AV → AH → Prop) : g11_s2 cl v5 v6 (.bool false) v101 h Q = Q (.bool false) h := by
  simp [g11_s2, g11_s1_f]
theorem g11_s3_f (cl : CL) (v5 v6 v91 : AV) (h : AH) (Q : AV → AH → Prop) : g11_s3 cl v5 v6 (.bool false) v91 h Q = Q (.bool false) h := by
  simp [g11_s3, g11_s1_f, g11_s2_f]
theorem g11_s4_f (cl : CL) (v5 v6 v81 v82 : AV) (h : AH) (Q : AV → AH → Prop) : g11_s4 cl v5 v6 (.bool false) v81 v82 h Q = Q (.bool false) h := by
  simp [g11_s4, g11_s1_f, g11_s2_f, g11_s3_f]
theorem g11_s5_f (cl : CL) (v5 v6 v73 : AV) (h : AH) (Q : AV → AH → Prop) : g11_s5 cl v5 v6 (.bool false) v73 h Q = Q (.bool false) h := by
  simp [g11_s5, g11_s1_f, g11_s2_f, g11_s3_f, g11_s4_f]
theorem g11_s6_f (cl : CL) (v5 v6 v63 : AV) (h : AH) (Q : AV → AH → Prop) : g11_s6 cl v5 v6 (.bool false) v63 h Q = Q (.bool false) h := by
  simp [g11_s6, g11_s1_f, g11_s2_f, g11_s3_f, g11_s4_f, g11_s5_f]
theorem g11_s7_f (cl : CL) (v5 v6 v53 v54 : AV) (h : AH) (Q : AV → AH → Prop) : g11_s7 cl v5 v6 (.bool false) v53 v54 h Q = Q (.bool false) h := by
  simp [g11_s7, g11_s1_f, g11_s2_f, g11_s3_f, g11_s4_f, g11_s5_f, g11_s6_f]
theorem g11_s8_f (cl : CL) (v5 v6 v45 : AV) (h : AH) (Q : AV → AH → Prop) : g11_s8 cl v5 v6 (.bool false) v45 h Q = Q (.bool false) h := by
  simp [g11_s8, g11_s1_f, g11_s2_f, g11_s3_f, g11_s4_f, g11_s5_f, g11_s6_f, g11_s7_f]
theorem g11_s9_f (cl : CL) (v2 v3 v5 v6 v35 : AV) (h : AH) (Q : AV → AH → Prop) : g11_s9 cl v2 v3 v5 v6 (.bool false) v35 h Q = Q (.bool false) h := by
  simp [g11_s9, g11_s1_f, g11_s2_f, g11_s3_f, g11_s4_f, g11_s5_f, g11_s6_f, g11_s7_f, g11_s8_f]
theorem g11_s10_f (cl : CL) (v2 v3 v5 v6 v25 v26 : AV) (h : AH) (Q : AV → AH → Prop) : g11_s10 cl v2 v3 v5 v6 (.bool false) v25 v26 h Q = Q (.bool false) h := by
  simp [g11_s10, g11_s1_f, g11_s2_f, g11_s3_f, g11_s4_f, g11_s5_f, g11_s6_f, g11_s7_f, g11_s8_f, g11_s9_f]
theorem g11_s11_f (cl : CL) (v2 v3 v5 v6 v17 : AV) (h : AH) (Q : AV → AH → Prop) : g11_s11 cl v2 v3 v5 v6 (.bool false) v17 h Q = Q (.bool false) h := by
  simp [g11_s11, g11_s1_f, g11_s2_f, g11_s3_f, g11_s4_f, g11_s5_f, g11_s6_f, g11_s7_f, g11_s8_f, g11_s9_f, g11_s10_f]
-- g11_s1_f, g11_s2_f, g11_s3_f, g11_s4_f, g11_s5_f, g11_s6_f, g11_s7_f, g11_s8_f, g11_s9_f, g11_s10_f, g11_s11_f
set_option maxHeartbeats 1000000 in
theorem equal_f (a b : Cmd) (hx : SmC a ∧ SmC b) : Fresh Try.prog 11 [.agg a.enc, .agg b.enc] (.bool (eqD a b)) := by
  refine C11 (tb_ok [e33]) ?_
  have h1 : Sm a.line.gl ∧ Sm b.line.gl := hx
  simp (disch := first | (simp; done) | omega | (simp only [nx_add, nx_set, nx_kill, nx_mk, nx_emp]; omega) | fail) [g11, Rect.eqc, Tf.eqc, g11_s1_f, g11_s2_f, g11_s3_f, g11_s4_f, g11_s5_f, g11_s6_f, g11_s7_f, g11_s8_f, g11_s9_f, g11_s10_f, g11_s11_f]
  simp (disch := first | (simp; done) | omega | (simp only [nx_add, nx_set, nx_kill, nx_mk, nx_emp]; omega) | fail) [g11_s12, Rect.eqc, Tf.eqc, g11_s1_f, g11_s2_f, g11_s3_f, g11_s4_f, g11_s5_f, g11_s6_f, g11_s7_f, g11_s8_f, g11_s9_f, g11_s10_f, g11_s11_f]
  simp (disch := first | (simp; done) | omega | (simp only [nx_add, nx_set, nx_kill, nx_mk, nx_emp]; omega) | fail) [g11_s11, Rect.eqc, Tf.eqc, g11_s1_f, g11_s2_f, g11_s3_f, g11_s4_f, g11_s5_f, g11_s6_f, g11_s7_f, g11_s8_f, g11_s9_f, g11_s10_f, g11_s11_f]
  simp (disch := first | (simp; done) | omega | (simp only [nx_add, nx_set, nx_kill, nx_mk, nx_emp]; omega) | fail) [g11_s10, Rect.eqc, Tf.eqc, g11_s1_f, g11_s2_f, g11_s3_f, g11_s4_f, g11_s5_f, g11_s6_f, g11_s7_f, g11_s8_f, g11_s9_f, g11_s10_f, g11_s11_f]
  simp (disch := first | (simp; done) | omega | (simp only [nx_add, nx_set, nx_kill, nx_mk, nx_emp]; omega) | fail) [g11_s9, Rect.eqc, Tf.eqc, g11_s1_f, g11_s2_f, g11_s3_f, g11_s4_f, g11_s5_f, g11_s6_f, g11_s7_f, g11_s8_f, g11_s9_f, g11_s10_f, g11_s11_f]
  simp (disch := first | (simp; done) | omega | (simp only [nx_add, nx_set, nx_kill, nx_mk, nx_emp]; omega) | fail) [g11_s8, Rect.eqc, Tf.eqc, g11_s1_f, g11_s2_f, g11_s3_f, g11_s4_f, g11_s5_f, g11_s6_f, g11_s7_f, g11_s8_f, g11_s9_f, g11_s10_f, g11_s11_f]
  simp (disch := first | (simp; done) | omega | (simp only [nx_add, nx_set, nx_kill, nx_mk, nx_emp]; omega) | fail) [g11_s7, Rect.eqc, Tf.eqc, g11_s1_f, g11_s2_f, g11_s3_f, g11_s4_f, g11_s5_f, g11_s6_f, g11_s7_f, g11_s8_f, g11_s9_f, g11_s10_f, g11_s11_f]
  simp (disch := first | (simp; done) | omega | (simp only [nx_add, nx_set, nx_kill, nx_mk, nx_emp]; omega) | fail) [g11_s6, Rect.eqc, Tf.eqc, g11_s1_f, g11_s2_f, g11_s3_f, g11_s4_f, g11_s5_f, g11_s6_f, g11_s7_f, g11_s8_f, g11_s9_f, g11_s10_f, g11_s11_f]
  simp (disch := first | (simp; done) | omega | (simp only [nx_add, nx_set, nx_kill, nx_mk, nx_emp]; omega) | fail) [g11_s5, Rect.eqc, Tf.eqc, g11_s1_f, g11_s2_f, g11_s3_f, g11_s4_f, g11_s5_f, g11_s6_f, g11_s7_f, g11_s8_f, g11_s9_f, g11_s10_f, g11_s11_f]
  simp (disch := first | (simp; done) | omega | (simp only [nx_add, nx_set, nx_kill, nx_mk, nx_emp]; omega) | fail) [g11_s4, Rect.eqc, Tf.eqc, g11_s1_f, g11_s2_f, g11_s3_f, g11_s4_f, g11_s5_f, g11_s6_f, g11_s7_f, g11_s8_f, g11_s9_f, g11_s10_f, g11_s11_f]
  simp (disch := first | (simp; done) | omega | (simp only [nx_add, nx_set, nx_kill, nx_mk, nx_emp]; omega) | fail) [g11_s3, Rect.eqc, Tf.eqc, g11_s1_f, g11_s2_f, g11_s3_f, g11_s4_f, g11_s5_f, g11_s6_f, g11_s7_f, g11_s8_f, g11_s9_f, g11_s10_f, g11_s11_f]
  simp (disch := first | (simp; done) | omega | (simp only [nx_add, nx_set, nx_kill, nx_mk, nx_emp]; omega) | fail) [g11_s2, Rect.eqc, Tf.eqc, g11_s1_f, g11_s2_f, g11_s3_f, g11_s4_f, g11_s5_f, g11_s6_f, g11_s7_f, g11_s8_f, g11_s9_f, g11_s10_f, g11_s11_f]
  simp (disch := first | (simp; done) | omega | (simp only [nx_add, nx_set, nx_kill, nx_mk, nx_emp]; omega) | fail) [g11_s1, h1]
  cases hq : eqD a b
  · have hne : ¬ a = b := fun e => by rw [eqD_iff.2 e] at hq; cases hq
    rw [cmd_ext, ln_ext] at hne
    simp
    grind [eqD]
  · have he := eqD_iff.1 hq
    subst he
    simp [eqD]
theorem equal_c (a b : Cmd) (hx : SmC a ∧ SmC b) : Pure Try.prog 11 [.agg a.enc, .agg b.enc] (.bool (eqD a b)) := (equal_f a b hx).pure (by simp [Cmd.cl])
def e11 : QE Try.prog := .pure 11 (fun (((a, b)) : Cmd × Cmd) => [.agg a.enc, .agg b.enc]) (fun (((a, b)) : Cmd × Cmd) => SmC a ∧ SmC b) (fun (((a, b)) : Cmd × Cmd) => .bool (eqD a b)) (fun ⟨a, b⟩ hx => equal_c a b hx)
@[simp ↓] theorem e11_h (l : List (QE Try.prog)) (args : List AV) (h : AH) (Q : AV → AH → Prop) : tb (e11 :: l) 11 args h Q = e11.q args h Q := tb_here e11 l 11 args h Q rfl
@[simp ↓] theorem e11_t (l : List (QE Try.prog)) (f : Nat) (args : List AV) (h : AH) (Q : AV → AH → Prop) (hf : 11 ≠ f) : tb (e11 :: l) f args h Q = tb l f args h Q := tb_there e11 l f args h Q hf
@[simp ↓] theorem e11_q (a : Cmd) (b : Cmd) (h : AH) (Q : AV → AH → Prop) : e11.q [.agg a.enc, .agg b.enc] h Q = ((SmC a ∧ SmC b) ∧ Q (.bool (eqD a b)) h) := (QE.pure_q (x := (a, b)) (by rintro ⟨_, _⟩ h; simp at h; simp [h]) h Q)
theorem g34_s1_f (cl : CL) (v2 v3 v70 : AV) (h : AH) (k : List AV → AH → Prop) : g34_s1 cl v2 v3 (.bool true) v70 h k = k [v2, v3, (.bool true)] h := by
  simp [g34_s1]
theorem g34_s2_f (cl : CL) (v2 v3 v61 : AV) (h : AH) (k : List AV → AH → Prop) : g34_s2 cl v2 v3 (.bool true) v61 h k = k [v2, v3, (.bool true)] h := by
  simp [g34_s2, g34_s1_f]
theorem g34_s3_f (cl : CL) (v2 v3 v51 : AV) (h : AH) (k : List AV → AH → Prop) : g34_s3 cl v2 v3 (.bool true) v51 h k = k [v2, v3, (.bool true)] h := by
  simp [g34_s3, g34_s1_f, g34_s2_f]
theorem g34_s4_f (cl : CL) (v2 v3 v41 v42 : AV) (h : AH) (k : List AV → AH → Prop) : g34_s4 cl v2 v3 (.bool true) v41 v42 h k = k [v2, v3, (.bool true)] h := by
  simp [g34_s4, g34_s1_f, g34_s2_f, g34_s3_f]
theorem g34_s5_f (cl : CL) (v2 v3 v33 : AV) (h : AH) (k : List AV → AH → Prop) : g34_s5 cl v2 v3 (.bool true) v33 h k = k [v2, v3, (.bool true)] h := by
  simp [g34_s5, g34_s1_f, g34_s2_f, g34_s3_f, g34_s4_f]
theorem g34_s6_f (cl : CL) (v2 v3 v23 : AV) (h : AH) (k : List AV → AH → Prop) : g34_s6 cl v2 v3 (.bool true) v23 h k = k [v2, v3, (.bool true)] h := by
  simp [g34_s6, g34_s1_f, g34_s2_f, g34_s3_f, g34_s4_f, g34_s5_f]
theorem g34_s7_f (cl : CL) (v2 v3 v13 v14 : AV) (h : AH) (k : List AV → AH → Prop) : g34_s7 cl v2 v3 (.bool true) v13 v14 h k = k [v2, v3, (.bool true)] h := by
  simp [g34_s7, g34_s1_f, g34_s2_f, g34_s3_f, g34_s4_f, g34_s5_f, g34_s6_f]
-- g34_s1_f, g34_s2_f, g34_s3_f, g34_s4_f, g34_s5_f, g34_s6_f, g34_s7_f
def eqlI (a b : Ln) (k : Nat) (vs : List AV) (h : AH) : Prop := ∃ i : Nat, i ≤ a.gl.length ∧ k = a.gl.length - i ∧ vs = [.ptr 0 0, .ptr 1 0, I i] ∧ h.cellsAt 0 = some a.enc ∧ h.cellsAt 1 = some b.enc ∧ ∀ j (h1 : j < i) (h2 : j < a.gl.length) (h3 : j < b.gl.length), a.gl[j] = b.gl[j]
def headEq (a b : Ln) : Prop := a.from' = b.from' ∧ a.to = b.to ∧ a.level = b.level ∧ a.x = b.x ∧ a.y = b.y ∧ a.width = b.width ∧ a.asc = b.asc ∧ a.desc = b.desc ∧ a.height = b.height ∧ a.gl.length = b.gl.length
open Classical in
def headNe (a b : Ln) : Bool := !decide (headEq a b)
set_option maxHeartbeats 1000000 in
theorem equalLine_f (a b : Ln) (hx : Sm a.gl ∧ Sm b.gl) : Fresh Try.prog 34 [.agg a.enc, .agg b.enc] (.bool (eqD a b)) := by
  refine C34 (tb_ok []) ?_
  have hl1 := hx.1; have hl2 := hx.2
  unfold Sm at hl1 hl2
  simp (disch := first | (simp; done) | omega | (simp only [nx_add, nx_set, nx_kill, nx_mk, nx_emp]; omega) | fail) [g34]
  refine ⟨fun vs h => vs = [.ptr 0 0, .ptr 1 0, .bool (headNe a b)] ∧ h.cellsAt 0 = some a.enc ∧ h.cellsAt 1 = some b.enc, ?_, ?_⟩
  · simp (disch := first | (simp; done) | omega | (simp only [nx_add, nx_set, nx_kill, nx_mk, nx_emp]; omega) | fail) [g34_a1, g34_s1_f, g34_s2_f, g34_s3_f, g34_s4_f, g34_s5_f, g34_s6_f, g34_s7_f]
    simp (disch := first | (simp; done) | omega | (simp only [nx_add, nx_set, nx_kill, nx_mk, nx_emp]; omega) | fail) [g34_s7, g34_s1_f, g34_s2_f, g34_s3_f, g34_s4_f, g34_s5_f, g34_s6_f, g34_s7_f]
    simp (disch := first | (simp; done) | omega | (simp only [nx_add, nx_set, nx_kill, nx_mk, nx_emp]; omega) | fail) [g34_s6, g34_s1_f, g34_s2_f, g34_s3_f, g34_s4_f, g34_s5_f, g34_s6_f, g34_s7_f]
    simp (disch := first | (simp; done) | omega | (simp only [nx_add, nx_set, nx_kill, nx_mk, nx_emp]; omega) | fail) [g34_s5, g34_s1_f, g34_s2_f, g34_s3_f, g34_s4_f, g34_s5_f, g34_s6_f, g34_s7_f]
    simp (disch := first | (simp; done) | omega | (simp only [nx_add, nx_set, nx_kill, nx_mk, nx_emp]; omega) | fail) [g34_s4, g34_s1_f, g34_s2_f, g34_s3_f, g34_s4_f, g34_s5_f, g34_s6_f, g34_s7_f]
    simp (disch := first | (simp; done) | omega | (simp only [nx_add, nx_set, nx_kill, nx_mk, nx_emp]; omega) | fail) [g34_s3, g34_s1_f, g34_s2_f, g34_s3_f, g34_s4_f, g34_s5_f, g34_s6_f, g34_s7_f]
    simp (disch := first | (simp; done) | omega | (simp only [nx_add, nx_set, nx_kill, nx_mk, nx_emp]; omega) | fail) [g34_s2, g34_s1_f, g34_s2_f, g34_s3_f, g34_s4_f, g34_s5_f, g34_s6_f, g34_s7_f]
    simp (disch := first | (simp; done) | omega | (simp only [nx_add, nx_set, nx_kill, nx_mk, nx_emp]; omega) | fail) [g34_s1, g34_s1_f, g34_s2_f, g34_s3_f, g34_s4_f, g34_s5_f, g34_s6_f, g34_s7_f]
    cases hq : headNe a b
    · have : headEq a b := by simpa [headNe] using hq
      simp [headEq] at this
      simp [this]
    · have : ¬ headEq a b := by simpa [headNe] using hq
      simp [headEq] at this
      simp
      omega
  · rintro vs h ⟨rfl, h0, h1⟩
    simp (disch := first | (simp; done) | omega | (simp only [nx_add, nx_set, nx_kill, nx_mk, nx_emp]; omega) | fail) [g34_j5]
    refine ⟨fun hh => ?_, fun hh => ?_⟩
    · simp [eqD]; rintro rfl; simp [headNe, headEq] at hh
    · have he : headEq a b := by simpa [headNe] using hh
      have heq : a.gl.length = b.gl.length := he.2.2.2.2.2.2.2.2.2
      refine ⟨eqlI a b, a.gl.length, ⟨0, by simp [h0, h1]⟩, ?_⟩
      rintro k vs h ⟨i, hi, rfl, rfl, h0, h1, hall⟩
      by_cases hlt : i < a.gl.length
      · have hlt2 : i < b.gl.length := by omega
        simp (disch := first | (simp; done) | omega | (simp only [nx_add, nx_set, nx_kill, nx_mk, nx_emp]; omega) | fail) [g34_l2, h0, h1, hlt, hlt2, Gl.eqc]
        simp (disch := first | (simp; done) | omega | (simp only [nx_add, nx_set, nx_kill, nx_mk, nx_emp]; omega) | fail) [g34_s9, h0, h1, hlt, hlt2, Gl.eqc]
        simp (disch := first | (simp; done) | omega | (simp only [nx_add, nx_set, nx_kill, nx_mk, nx_emp]; omega) | fail) [g34_s8, h0, h1, hlt, hlt2, Gl.eqc]
        refine ⟨fun hne => ?_, fun hee => ?_⟩
        · simp [g34_j4, eqD]; intro e; subst e; exact hne rfl
        · refine ⟨a.gl.length - (i + 1), by omega, i + 1, by omega, rfl, by simp, h0, h1, fun j q1 q2 q3 => ?_⟩
          by_cases hji : j < i
          · exact hall j hji q2 q3
          · obtain rfl : j = i := by omega
            exact hee
      · simp (disch := first | (simp; done) | omega | (simp only [nx_add, nx_set, nx_kill, nx_mk, nx_emp]; omega) | fail) [g34_l2, h0, hlt]
        simp (disch := first | (simp; done) | omega | (simp only [nx_add, nx_set, nx_kill, nx_mk, nx_emp]; omega) | fail) [g34_j4, h0, hlt]
        simp (disch := first | (simp; done) | omega | (simp only [nx_add, nx_set, nx_kill, nx_mk, nx_emp]; omega) | fail) [g34_c3, h0, hlt]
        refine eqD_iff.2 (ln_ext.2 ?_)
        obtain ⟨q1, q2, q3, q4, q5, q6, q7, q8, q9, q10⟩ := he
        exact ⟨q1, q2, q3, q4, q5, q6, q7, q8, q9, List.ext_getElem heq fun j z1 z2 => hall j (by omega) z1 z2⟩
theorem equalLine_c (a b : Ln) (hx : Sm a.gl ∧ Sm b.gl) : Pure Try.prog 34 [.agg a.enc, .agg b.enc] (.bool (eqD a b)) := (equalLine_f a b hx).pure (by simp [Ln.cl])
def e34 : QE Try.prog := .pure 34 (fun (((a, b)) : Ln × Ln) => [.agg a.enc, .agg b.enc]) (fun (((a, b)) : Ln × Ln) => Sm a.gl ∧ Sm b.gl) (fun (((a, b)) : Ln × Ln) => .bool (eqD a b)) (fun ⟨a, b⟩ hx => equalLine_c a b hx)
@[simp ↓] theorem e34_h (l : List (QE Try.prog)) (args : List AV) (h : AH) (Q : AV → AH → Prop) : tb (e34 :: l) 34 args h Q = e34.q args h Q := tb_here e34 l 34 args h Q rfl
@[simp ↓] theorem e34_q (a : Ln) (b : Ln) (h : AH) (Q : AV → AH → Prop) : e34.q [.agg a.enc, .agg b.enc] h Q = ((Sm a.gl ∧ Sm b.gl) ∧ Q (.bool (eqD a b)) h) := (QE.pure_q (x := (a, b)) (by rintro ⟨_, _⟩ h; simp at h; simp [h]) h Q)
theorem g12_s1_f (cl : CL) (v3 v39 : AV) (h : AH) (Q : AV → AH → Prop) : g12_s1 cl v3 (.bool false) v39 h Q = Q (.bool false) h := by
  simp [g12_s1]
theorem g12_s2_f (cl : CL) (v2 v3 v29 : AV) (h : AH) (Q : AV → AH → Prop) : g12_s2 cl v2 v3 (.bool false) v29 h Q = Q (.bool false) h := by
  simp [g12_s2, g12_s1_f]
theorem g12_s3_f (cl : CL) (v2 v3 v19 v20 : AV) (h : AH) (Q : AV → AH → Prop) : g12_s3 cl v2 v3 (.bool false) v19 v20 h Q = Q (.bool false) h := by
  simp [g12_s3, g12_s1_f, g12_s2_f]
theorem g12_s4_f (cl : CL) (v2 v3 v11 : AV) (h : AH) (Q : AV → AH → Prop) : g12_s4 cl v2 v3 (.bool false) v11 h Q = Q (.bool false) h := by
  simp [g12_s4, g12_s1_f, g12_s2_f, g12_s3_f]
-- g12_s1_f, g12_s2_f, g12_s3_f, g12_s4_f
set_option maxHeartbeats 1000000 in
theorem requal_f (a b : Cmd) (hx : SmC a ∧ SmC b) : Fresh Try.prog 12 [.agg a.enc, .agg b.enc] (.bool (eqD a b)) := by
  refine C12 (tb_ok [e34]) ?_
  have h1 : Sm a.line.gl ∧ Sm b.line.gl := hx
  simp (disch := first | (simp; done) | omega | (simp only [nx_add, nx_set, nx_kill, nx_mk, nx_emp]; omega) | fail) [g12, Rect.eqc, Tf.eqc, g12_s1_f, g12_s2_f, g12_s3_f, g12_s4_f]
  simp (disch := first | (simp; done) | omega | (simp only [nx_add, nx_set, nx_kill, nx_mk, nx_emp]; omega) | fail) [g12_s4, Rect.eqc, Tf.eqc, g12_s1_f, g12_s2_f, g12_s3_f, g12_s4_f]
  simp (disch := first | (simp; done) | omega | (simp only [nx_add, nx_set, nx_kill, nx_mk, nx_emp]; omega) | fail) [g12_s3, Rect.eqc, Tf.eqc, g12_s1_f, g12_s2_f, g12_s3_f, g12_s4_f]
  simp (disch := first | (simp; done) | omega | (simp only [nx_add, nx_set, nx_kill, nx_mk, nx_emp]; omega) | fail) [g12_s2, Rect.eqc, Tf.eqc, g12_s1_f, g12_s2_f, g12_s3_f, g12_s4_f]
  simp (disch := first | (simp; done) | omega | (simp only [nx_add, nx_set, nx_kill, nx_mk, nx_emp]; omega) | fail) [g12_s1, h1]
  cases hq : eqD a b
  · have hne : ¬ a = b := fun e => by rw [eqD_iff.2 e] at hq; cases hq
    rw [cmd_ext] at hne
    simp
    grind [eqD]
  · have he := eqD_iff.1 hq
    subst he
    simp [eqD]
theorem requal_c (a b : Cmd) (hx : SmC a ∧ SmC b) : Pure Try.prog 12 [.agg a.enc, .agg b.enc] (.bool (eqD a b)) := (requal_f a b hx).pure (by simp [Cmd.cl])
def e12 : QE Try.prog := .pure 12 (fun (((a, b)) : Cmd × Cmd) => [.agg a.enc, .agg b.enc]) (fun (((a, b)) : Cmd × Cmd) => SmC a ∧ SmC b) (fun (((a, b)) : Cmd × Cmd) => .bool (eqD a b)) (fun ⟨a, b⟩ hx => requal_c a b hx)
@[simp ↓] theorem e12_h (l : List (QE Try.prog)) (args : List AV) (h : AH) (Q : AV → AH → Prop) : tb (e12 :: l) 12 args h Q = e12.q args h Q := tb_here e12 l 12 args h Q rfl
@[simp ↓] theorem e12_q (a : Cmd) (b : Cmd) (h : AH) (Q : AV → AH → Prop) : e12.q [.agg a.enc, .agg b.enc] h Q = ((SmC a ∧ SmC b) ∧ Q (.bool (eqD a b)) h) := (QE.pure_q (x := (a, b)) (by rintro ⟨_, _⟩ h; simp at h; simp [h]) h Q)
end Go.Proofs.Ytpnekpbehcbmkaa
end
noncomputable section
namespace Go.Proofs.Ytpnekpbehcbmkaa
open Go.Eng
/-! stacks -/
theorem cut_zero_app {α : List AV} {b : List AV} {n : Nat} (h : α.length = n) : cut (α ++ b) 0 n = some α := by
  unfold cut
  rw [if_pos (by simp; omega)]
  simp [← h]
theorem cut_eq {cs x : List AV} {o n : Nat} (h : cut cs o n = some x) : o + n ≤ cs.length ∧ x = (cs.drop o).take n := by
  unfold cut at h
  split at h
  · rename_i h1; cases h; exact ⟨h1, rfl⟩
  · cases h
theorem flat_len {α : Type} {e : α → List AV} {z : Nat} (he : ∀ a, (e a).length = z) : ∀ (st : List α), ((st.map e).flatten).length = st.length * z
  | [] => by simp
  | a :: st => by simp [he, flat_len he st, Nat.succ_mul]; omega
def bot {α : Type} (e : α → List AV) (st : List α) : List AV := (st.reverse.map e).flatten
theorem bot_len {α : Type} {e : α → List AV} {z : Nat} (he : ∀ a, (e a).length = z) (st : List α) : (bot e st).length = st.length * z := by
  unfold bot; rw [flat_len he]; simp
theorem bot_cons {α : Type} (e : α → List AV) (a : α) (st : List α) : bot e (a :: st) = bot e st ++ e a := by simp [bot]
theorem stk_top {α : Type} {e : α → List AV} {z : Nat} (he : ∀ a, (e a).length = z) {cs : List AV} {a : α} {st : List α} (h : cut cs 0 ((st.length + 1) * z) = some (bot e (a :: st))) : cut cs (st.length * z) z = some (e a) ∧ cut cs 0 (st.length * z) = some (bot e st) := by
  obtain ⟨h1, h2⟩ := cut_eq h
  rw [Nat.succ_mul] at h1 h2
  rw [bot_cons] at h2
  have hb := bot_len he st
  have ha := he a
  have h3 : cs.take (st.length * z + z) = bot e st ++ e a := by simpa using h2.symm
  have h4 : cs = (bot e st ++ e a) ++ cs.drop (st.length * z + z) := by rw [← h3]; simp
  generalize cs.drop (st.length * z + z) = d at h4
  subst h4
  constructor
  · unfold cut
    rw [if_pos (by simp; omega)]
    rw [List.append_assoc, List.drop_append, ← hb]
    simp [← ha]
  · rw [List.append_assoc]; exact cut_zero_app hb
theorem stk_push {α : Type} {e : α → List AV} {z : Nat} (he : ∀ a, (e a).length = z) (a : α) (st : List α) : cut (bot e st ++ e a) 0 ((st.length + 1) * z) = some (bot e (a :: st)) := by
  have h := cut_zero_app (α := bot e (a :: st)) (b := []) (n := (st.length + 1) * z) (by rw [bot_len he]; simp)
  rw [List.append_nil, bot_cons] at h
  rw [bot_cons]; exact h
structure Stk {α : Type} (z : Nat) (e : α → List AV) (id : Nat) (h : AH) (st : List α) : Prop where
  lt : id < h.nx
  ex : ∃ cs, h.cellsAt id = some cs ∧ cut cs 0 (st.length * z) = some (bot e st)
theorem Stk.push {α : Type} {z : Nat} {e : α → List AV} (he : ∀ a, (e a).length = z) {h : AH} {st : List α} {a : α} {nid : Nat} (hn : nid = h.nx) : Stk z e nid (h.add (.cells (bot e st ++ e a))) (a :: st) :=
  ⟨by simp [hn], _, by simp [hn], stk_push he a st⟩
@[simp] theorem kApp_rr (h : AH) (z bytes id off len id2 off2 m : Nat) : kApp h z bytes (.rsl id off len z) (.rsl id2 off2 m z) =
    match h.cellsAt id, h.cellsAt id2 with
    | some cs, some cs2 => match cut cs off (len * z), cut cs2 off2 (m * z) with
      | some old, some new => if ones new = true ∧ roomy (len + m) bytes = true then some (.rsl h.nx 0 (len + m) z, (h.kill id).add (.cells (old ++ new))) else none
      | _, _ => none
    | _, _ => none := by
  simp only [kApp, aapp, acells, alen, if_true]
  cases h1 : h.cellsAt id with
  | none =>
    cases h2 : h.cellsAt id2 with
    | none => simp
    | some cs2 =>
      simp
      cases h4 : cut cs2 off2 (m * z) with
      | none => simp
      | some new => simp
  | some cs =>
    cases h2 : h.cellsAt id2 with
    | none => simp
    | some cs2 =>
      simp
      cases h4 : cut cs2 off2 (m * z) with
      | none => cases h3 : cut cs off (len * z) <;> simp
      | some new =>
        cases h3 : cut cs off (len * z) with
        | none => simp
        | some old => cases ho : ones new <;> cases hr : roomy (len + m) bytes <;> simp [ho, hr]
@[simp] theorem kBuildSl_eq (h : AH) (z len : Nat) (zero : List AV) (ps : List (Nat × Nat × AV)) : kBuildSl h z len zero ps = match afill zero ps with | some cs => some (.rsl h.nx 0 len z, h.add (.cells cs)) | none => none := Eq.trans rfl rfl
@[simp] theorem roomy_ok (n b : Nat) (h : n * b ≤ 140737488355328) (h2 : n ≤ 9223372036854775807) : roomy n b = true := by simp [roomy, h, h2]
theorem kSl_hi (h : AH) (z id off len : Nat) (j : Int) (h0 : 0 ≤ j) (hj : j ≤ len) : kSl h z (.rsl id off len z) none (some (.int .i64 j)) none = some (.rsl id off j.toNat z, h) := by
  have h1 : j.toNat ≤ len := by omega
  simp [kSl, aslice, asl, alen, abd, aidx, h0, hj]
/-! the commands, examined -/
def cmdErr (st : List Tf) (c : Cmd) : Int ⊕ List Tf :=
  if c.kind = 3 then (if st.length = 1 then .inl 12 else .inr st.tail)
  else if c.kind = 2 then (if cmbOk (st.headD zT) c.t then .inr (cmb (st.headD zT) c.t :: st) else .inl 1)
  else if c.kind = 1 ∨ c.kind = 4 ∨ c.kind = 5 ∨ c.kind = 6 then
    if okR c.r = false then .inl 1 else if (c.kind = 4 ∨ c.kind = 5) ∧ isCol c.color = false then .inl 1 else if c.kind = 5 ∧ nearL c.line = false then .inl 1
    else if c.kind = 1 then .inr (st.headD zT :: st) else .inr st
  else .inl 9
def vrun : List Tf → List Cmd → Int
  | st, [] => if st.length > 1 then 12 else 0
  | st, c :: l => match cmdErr st c with
    | .inl e => e
    | .inr st' => vrun st' l
def tf1 : Tf := ⟨0, false, 1, 0, 0⟩
def validate (l : List Cmd) : Int := if l.length > 20000 then 2 else vrun [tf1] l
def SmL (l : List Cmd) : Prop := Sm l ∧ ∀ c ∈ l, SmC c
def valI (l : List Cmd) (m : Nat) (vs : List AV) (h : AH) : Prop := ∃ (i : Nat) (id : Nat) (top : Tf) (rest : List Tf), i ≤ l.length ∧ m = l.length - i ∧ vs = [.rsl id 0 (rest.length + 1) 5, cmds l, I l.length, I i] ∧ Stk 5 Tf.enc id h (top :: rest) ∧ vrun (top :: rest) (l.drop i) = validate l ∧ rest.length ≤ i
def vM (l : List Cmd) (i : Nat) (st : List Tf) (c : Cmd) (x : AX) (vs : List AV) (h' : AH) : Prop := (x = .nrm ∧ ∃ id' top' rest', cmdErr st c = .inr (top' :: rest') ∧ vs = [.undef, .rsl id' 0 (rest'.length + 1) 5, cmds l, I l.length, I i] ∧ Stk 5 Tf.enc id' h' (top' :: rest') ∧ rest'.length ≤ i + 1) ∨ (x = .ret ∧ ∃ e u, cmdErr st c = .inl e ∧ vs = [I e, u, cmds l, I l.length, I i])
theorem vM.mk {l : List Cmd} {i : Nat} {st : List Tf} {c : Cmd} {h' : AH} {id' : Nat} {top' : Tf} {rest' : List Tf} (h1 : cmdErr st c = .inr (top' :: rest')) (h2 : Stk 5 Tf.enc id' h' (top' :: rest')) (h3 : rest'.length ≤ i + 1) : vM l i st c .nrm [.undef, .rsl id' 0 (rest'.length + 1) 5, cmds l, I l.length, I i] h' := .inl ⟨rfl, _, _, _, h1, rfl, h2, h3⟩
theorem vM.err {l : List Cmd} {i : Nat} {st : List Tf} {c : Cmd} {h' : AH} {e : Int} {u : AV} (h1 : cmdErr st c = .inl e) : vM l i st c .ret [I e, u, cmds l, I l.length, I i] h' := .inr ⟨rfl, _, _, h1, rfl⟩
theorem validate_f (l : List Cmd) (hl : SmL l) : Fresh Try.prog 13 [cmds l] (I (validate l)) := by
  refine C13 (tb_ok [e35, e36, e37, e38, e39]) ?_
  have hl1 := hl.1
  unfold Sm at hl1
  simp (disch := first | (simp; done) | omega | (simp only [nx_add, nx_set, nx_kill, nx_mk, nx_emp]; omega) | fail) [g13]
  refine ⟨fun hh => by unfold validate; rw [if_pos (by omega)], fun hh => ?_⟩
  refine ⟨valI l, l.length, ⟨0, 0, tf1, [], by omega, rfl, rfl, ⟨by simp, _, by simp; rfl, by simp [bot, tf1, Tf.enc, cut]⟩, ?_, by simp⟩, ?_⟩
  · simp [validate]; omega
  rintro m vs h ⟨i, id, top, rest, hi, rfl, rfl, ⟨hid, cs, hcs, hcut⟩, hrun, hri⟩
  obtain ⟨htop, hpop⟩ := stk_top Tf.len hcut
  have hrl : rest.length ≤ 20000 := by omega
  by_cases hlt : i < l.length
  · have hd : l.drop i = l[i] :: l.drop (i + 1) := List.drop_eq_getElem_cons hlt
    rw [hd] at hrun
    obtain ⟨c, hc⟩ : ∃ c, c = l[i] := ⟨_, rfl⟩
    have hsm : SmC c := by rw [hc]; exact hl.2 _ (List.getElem_mem hlt)
    rw [← hc] at hrun
    simp (disch := first | (simp; done) | omega | (simp only [nx_add, nx_set, nx_kill, nx_mk, nx_emp]; omega) | fail) [g13_l11, hlt, ← hc]
    refine ⟨vM l i (top :: rest) c, ?_, ?_⟩
    · have hne : ¬ id = h.nx := by omega
      have hne2 : ¬ id = h.nx + 1 := by omega
      simp (disch := first | (simp; done) | omega | (simp only [nx_add, nx_set, nx_kill, nx_mk, nx_emp]; omega) | fail) [g13_a9, hlt, ← hc, hcs, htop, hne, hne2, kIdxA_rsl]
      simp (disch := first | (simp; done) | omega | (simp only [nx_add, nx_set, nx_kill, nx_mk, nx_emp]; omega) | fail) [g13_s8, hlt, ← hc, hcs, htop, hne, hne2, kIdxA_rsl]
      obtain ⟨F, hF⟩ : ∃ F : AH → Prop, F = fun h1 => h1.cellsAt h.nx = some c.enc ∧ h1.cellsAt (h.nx + 1) = some top.enc ∧ h1.cellsAt id = some cs ∧ h1.nx = h.nx + 2 := ⟨_, rfl⟩
      obtain ⟨pre, hpre⟩ : ∃ pre : AV → List AV, pre = fun b => [.rsl id 0 (rest.length + 1) 5, .ptr h.nx 0, .ptr (h.nx + 1) 0, cmds l, I l.length, I i, b] := ⟨_, rfl⟩
      refine ⟨fun vs h1 => vs = pre (.bool (decide (c.kind < 1) || decide (6 < c.kind))) ∧ F h1, ?_, ?_⟩
      · subst hF; subst hpre
        by_cases q1 : c.kind < 1 <;> by_cases q2 : 6 < c.kind <;> simp (disch := first | (simp; done) | omega | (simp only [nx_add, nx_set, nx_kill, nx_mk, nx_emp]; omega) | fail) [g13_a1, q1, q2, hcs, hne, hne2]
      rintro vs h1 ⟨rfl, hf⟩
      simp (disch := first | (simp; done) | omega | (simp only [nx_add, nx_set, nx_kill, nx_mk, nx_emp]; omega) | fail) [hpre, g13_j8]
      refine ⟨fun hk => ?_, fun hk1 hk6 => ?_⟩
      · refine vM.err ?_
        unfold cmdErr
        rw [if_neg (by omega), if_neg (by omega), if_neg (by omega)]
      have hk : c.kind = 1 ∨ c.kind = 2 ∨ c.kind = 3 ∨ c.kind = 4 ∨ c.kind = 5 ∨ c.kind = 6 := by omega
      refine ⟨fun vs h2 => vs = pre (.bool (isRec c.kind && !okR c.r)) ∧ F h2, ?_, ?_⟩
      · subst hF; subst hpre
        cases q1 : isRec c.kind <;> cases q2 : okR c.r <;> simp (disch := first | (simp; done) | omega | (simp only [nx_add, nx_set, nx_kill, nx_mk, nx_emp]; omega) | fail) [g13_a2, g13_s1, q1, q2, hf]
      rintro vs h2 ⟨rfl, hf2⟩
      simp (disch := first | (simp; done) | omega | (simp only [nx_add, nx_set, nx_kill, nx_mk, nx_emp]; omega) | fail) [hpre, g13_j7]
      refine ⟨fun vs h2 => vs = pre (.bool ((isRec c.kind && !okR c.r) || ((c.kind == 4 || c.kind == 5) && !isCol c.color))) ∧ F h2, ?_, ?_⟩
      · subst hF; subst hpre
        cases q1 : (isRec c.kind && !okR c.r)
        · by_cases q2 : c.kind = 4
          · cases q4 : isCol c.color <;> simp (disch := first | (simp; done) | omega | (simp only [nx_add, nx_set, nx_kill, nx_mk, nx_emp]; omega) | fail) [g13_a3, g13_s2, q1, q2, q4, hf2]
          · by_cases q3 : c.kind = 5 <;> cases q4 : isCol c.color <;> simp (disch := first | (simp; done) | omega | (simp only [nx_add, nx_set, nx_kill, nx_mk, nx_emp]; omega) | fail) [g13_a3, g13_s2, q1, q2, q3, q4, hf2]
        · simp at q1
          simp (disch := first | (simp; done) | omega | (simp only [nx_add, nx_set, nx_kill, nx_mk, nx_emp]; omega) | fail) [g13_a3, q1, hf2]
      rintro vs h3 ⟨rfl, hf3⟩
      simp (disch := first | (simp; done) | omega | (simp only [nx_add, nx_set, nx_kill, nx_mk, nx_emp]; omega) | fail) [hpre, g13_j6]
      refine ⟨fun hbad => ?_, fun hgood hcol => ?_⟩
      · refine vM.err ?_
        unfold cmdErr
        rcases hk with hk | hk | hk | hk | hk | hk <;> simp [hk, isRec] at hbad ⊢ <;> grind
      refine ⟨fun vs h2 => vs = pre (.bool (c.kind == 5 && !nearL c.line)) ∧ F h2, ?_, ?_⟩
      · subst hF; subst hpre
        have hsm' : Sm c.line.gl := hsm
        by_cases q3 : c.kind = 5 <;> cases q4 : nearL c.line <;> simp (disch := first | (simp; done) | omega | (simp only [nx_add, nx_set, nx_kill, nx_mk, nx_emp]; omega) | fail) [g13_a4, g13_s3, q3, q4, hf3, hsm']
      rintro vs h4 ⟨rfl, hf4⟩
      have hf4' := hf4
      rw [hF] at hf4'
      obtain ⟨e1, e2, e3, e4⟩ := hf4'
      have hne4 : ¬ id = h4.nx := by omega
      have hne5 : ¬ id = h4.nx + 1 := by omega
      have hcut' : cut cs 0 ((rest.length + 1) * 5) = some (bot Tf.enc (top :: rest)) := by simpa using hcut
      have hcE : cmdErr (top :: rest) c = if c.kind = 3 then (if rest.length = 0 then .inl 12 else .inr rest) else if c.kind = 2 then (if cmbOk top c.t then .inr (cmb top c.t :: top :: rest) else .inl 1) else if c.kind = 5 ∧ nearL c.line = false then .inl 1 else if c.kind = 1 then .inr (top :: top :: rest) else .inr (top :: rest) := by
        unfold cmdErr
        rcases hk with hk | hk | hk | hk | hk | hk <;> simp [hk, isRec] at hgood hcol ⊢ <;> simp [hgood, hcol]
      simp (disch := first | (simp; done) | omega | (simp only [nx_add, nx_set, nx_kill, nx_mk, nx_emp]; omega) | fail) [hpre, g13_j5, e1, e2, e3, hne4, hcut']
      refine ⟨fun k5 hn => vM.err ?_, fun hgl => ⟨fun k1 => ?_, fun k1 => ⟨fun k2 => ?_, fun k2 => ?_⟩⟩⟩
      · rw [hcE]; simp [k5, hn]
      · exact vM.mk (top' := top) (rest' := top :: rest) (by rw [hcE]; simp [k1]) (Stk.push Tf.len (by simp)) (by simp; omega)
      · cases q : cmbOk top c.t
        · simp (disch := first | (simp; done) | omega | (simp only [nx_add, nx_set, nx_kill, nx_mk, nx_emp]; omega) | fail) [g13_s6, e1, cmbR, q]
          simp (disch := first | (simp; done) | omega | (simp only [nx_add, nx_set, nx_kill, nx_mk, nx_emp]; omega) | fail) [g13_s5, e1, cmbR, q]
          exact vM.err (by rw [hcE]; simp [k2, q])
        · simp (disch := first | (simp; done) | omega | (simp only [nx_add, nx_set, nx_kill, nx_mk, nx_emp]; omega) | fail) [g13_s6, e1, e2, e3, hne4, hne5, hcut', cmbR, q]
          simp (disch := first | (simp; done) | omega | (simp only [nx_add, nx_set, nx_kill, nx_mk, nx_emp]; omega) | fail) [g13_s5, e1, e2, e3, hne4, hne5, hcut', cmbR, q]
          simp (disch := first | (simp; done) | omega | (simp only [nx_add, nx_set, nx_kill, nx_mk, nx_emp]; omega) | fail) [g13_s4, e1, e2, e3, hne4, hne5, hcut', cmbR, q]
          refine vM.mk (top' := cmb top c.t) (rest' := top :: rest) (by rw [hcE]; simp [k2, q]) (Stk.push Tf.len ?_) ?_
          · simp
          · simp; omega
      · simp (disch := first | (simp; done) | omega | (simp only [nx_add, nx_set, nx_kill, nx_mk, nx_emp]; omega) | fail) [g13_s7]
        refine ⟨fun k3 => ?_, fun k3 => ?_⟩
        · refine ⟨fun hz => vM.err ?_, fun hz => ?_⟩
          · rw [hcE]; simp [k3]; exact List.length_eq_zero_iff.1 (by omega)
          · cases rest with
            | nil => simp at hz
            | cons t2 r2 =>
              simp (disch := first | (simp; done) | omega | (simp only [nx_add, nx_set, nx_kill, nx_mk, nx_emp]; omega) | fail) [kSl_hi]
              refine vM.mk (top' := t2) (rest' := r2) (by rw [hcE]; simp [k3]) ⟨by omega, cs, e3, hpop⟩ (by simp at hri; omega)
        · refine vM.mk (top' := top) (rest' := rest) ?_ ⟨by omega, cs, e3, hcut⟩ (by omega)
          rw [hcE]; simp [k1, k2, k3]; intro q5; simp [hgl q5]
    · rintro x vs h' hM
      rcases hM with ⟨rfl, id', top', rest', hE, rfl, hS, hr2⟩ | ⟨rfl, e, u, hE, rfl⟩
      · simp (disch := first | (simp; done) | omega | (simp only [nx_add, nx_set, nx_kill, nx_mk, nx_emp]; omega) | fail) [g13_j10]
        refine ⟨l.length - (i + 1), by omega, i + 1, id', top', rest', by omega, rfl, by simp, hS, ?_, hr2⟩
        rw [← hrun]; simp [vrun, hE]
      · simp (disch := first | (simp; done) | omega | (simp only [nx_add, nx_set, nx_kill, nx_mk, nx_emp]; omega) | fail) [g13_j10, g13_j13]
        rw [← hrun]; simp [vrun, hE]
  · have hil : i = l.length := by omega
    subst hil
    simp [vrun] at hrun
    simp (disch := first | (simp; done) | omega | (simp only [nx_add, nx_set, nx_kill, nx_mk, nx_emp]; omega) | fail) [g13_l11, hlt]
    simp (disch := first | (simp; done) | omega | (simp only [nx_add, nx_set, nx_kill, nx_mk, nx_emp]; omega) | fail) [g13_j13, hlt]
    simp (disch := first | (simp; done) | omega | (simp only [nx_add, nx_set, nx_kill, nx_mk, nx_emp]; omega) | fail) [g13_c12, hlt]
    rw [← hrun]
    refine ⟨fun q => ?_, fun q => ?_⟩
    · rw [if_pos (by omega)]
    · rw [if_neg (by omega)]
theorem validate_c (l : List Cmd) (hl : SmL l) : Pure Try.prog 13 [cmds l] (I (validate l)) := (validate_f l hl).pure (by simp [cmds_cl])
def e13 : QE Try.prog := .pure 13 (fun (l : List Cmd) => [cmds l]) (fun (l : List Cmd) => SmL l) (fun (l : List Cmd) => I (validate l)) (fun l hx => validate_c l hx)
@[simp ↓] theorem e13_h (l : List (QE Try.prog)) (args : List AV) (h : AH) (Q : AV → AH → Prop) : tb (e13 :: l) 13 args h Q = e13.q args h Q := tb_here e13 l 13 args h Q rfl
@[simp ↓] theorem e13_t (l : List (QE Try.prog)) (f : Nat) (args : List AV) (h : AH) (Q : AV → AH → Prop) (hf : 13 ≠ f) : tb (e13 :: l) f args h Q = tb l f args h Q := tb_there e13 l f args h Q hf
@[simp ↓] theorem e13_q (l : List Cmd) (h : AH) (Q : AV → AH → Prop) : e13.q [cmds l] h Q = ((SmL l) ∧ Q (I (validate l)) h) := (QE.pure_q (x := l) (by rintro _ h; simp at h; simp [h]) h Q)
end Go.Proofs.Ytpnekpbehcbmkaa
end
